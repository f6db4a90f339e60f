/-
  Texts of one proof, one behind the other: LzSymbol, LzDec, LzTake, D15e, D15f, LfPithlaw15, Puts, Law15, Keep, D15g, D15h, D15i, D15j, D15k, D15l, DecPlays.
-/
import Derived.Test.YtbgnnjfpiblkmaaGreatDoorRows
import Derived.Laws.StructEq
import Derived.Test.YtbgnnjfpiblkmaaGreatDoorMg7
set_option linter.unusedSimpArgs false
set_option linter.unnecessarySimpa false
set_option linter.unusedSectionVars false
set_option linter.unusedVariables false

namespace Go.Proofs.YtbgnnjfpiblkmaaGreatDoor
open Go
attribute [local irreducible] oMv oV oU oCall oCallV oBi oBin oUn oLoad oStore oNil oFld oField oIdx oIndex oPick oAlloc oBox oBuild oBs oConv oMk oSl oExt oFn oIface oMap oLook oMapUp oRange oNext oEntry oInv oAssert oPanic oRes pN pA pL pDr pIf gA pGd

section
variable {E w W : World} {M N : List HA} {Q : Value → World → Prop} {p : Z.Pr} {s : Z.St} {x : Z.W} {B : List UInt8} {r dec dd t wd : Nat} {q : Nat → Nat} {z : Option Z.RS} {f : Bool}

set_option maxHeartbeats 4000000 in
theorem rsymbol_ok (hp : p.Ok) (hs : s.Right) (hB : B.length ≤ 225000000000000) (hx : x.all.length ≤ 4611686018427387904)
    (hS : Sat E w (cel r ⟨233, rdCells dec dd z.isNone⟩ :: Rsd p B dd q z :: cel dec ⟨171, dcCells t wd f⟩ :: cel t ⟨141, tbCells p s q⟩ :: Win wd x :: M))
    (hQ : ∀ y v w, Z.Got (Z.symRd p s x) z y v → Sat E w (cel r ⟨233, rdCells dec dd y.isNone⟩ :: Rsd p B dd q y :: cel dec ⟨171, dcCells t wd f⟩ :: cel t ⟨141, tbCells p s q⟩ :: Win wd x :: M) → Q (.agg #[.int .i64 v.Kind, bv v.Byte, .int .i64 v.Len, .int .i64 v.Dist]) w) :
    Calls Tryz.prog 134 #[pz r] w (retP Q) := by
  refine lzdec_reader_symbol.calls ?_
  unfold lzdec_reader_symbol.F
  have hpl := place_bd hp x.all.length
  have hn := hs.num
  have t0 : Z.tabLen p 0 = 192 := rfl
  have t1 : Z.tabLen p 1 = 192 := rfl
  have t2 : Z.tabLen p 2 = 12 := rfl
  have t3 : Z.tabLen p 3 = 12 := rfl
  have t4 : Z.tabLen p 4 = 12 := rfl
  have t5 : Z.tabLen p 5 = 12 := rfl
  repeat' (first | (refine pc_window_Window_Pos (Pos_ok (hS.fd (Win wd)) ?_); clear hS; intro w hS) | (refine pc_model_Tables_At (MAt_ok (hS.fd (cel t)) hp hs _ (by omega) (by omega) ?_); clear hS; intro w hS) | refine ⟨⟨run_l hS (by rfl), run_l hS (by rfl), run_l hS (by rfl), run_l hS (by rfl), run_l hS (by rfl), trivial⟩, ?_⟩ | refine pN_l hS (by first | rfl | assumption) ?_ | refine pL_l hS (by first | rfl | assumption) ?_ | (refine pDr_go hS ?_; clear hS; intro w hS) | (refine pN_nz hS ?_; clear hS; intro a w hS) | refine ⟨⟨(by first | exact run_l hS (by first | rfl | assumption) | exact run_st hS (by first | rfl | omega) | exact run_ld1 ha hS | exact fun _ => run_l hS (by rfl) | exact fun _ => run_st hS (by first | rfl | omega) | exact fun _ => run_ld1 ha hS | exact fun h => Bool.noConfusion h), (by first | exact run_l hS (by first | rfl | assumption) | exact run_st hS (by first | rfl | omega) | exact run_ld1 ha hS | exact fun _ => run_l hS (by rfl) | exact fun _ => run_st hS (by first | rfl | omega) | exact fun _ => run_ld1 ha hS | exact fun h => Bool.noConfusion h), (by first | exact run_l hS (by first | rfl | assumption) | exact run_st hS (by first | rfl | omega) | exact run_ld1 ha hS | exact fun _ => run_l hS (by rfl) | exact fun _ => run_st hS (by first | rfl | omega) | exact fun _ => run_ld1 ha hS | exact fun h => Bool.noConfusion h), trivial⟩, ?_⟩ | refine pN_v (hk := ?_) | refine pA_v (hk := ?_) | fail)
  refine pc_lzdec_reader_bit (rbit_ok (hS.fd2 (cel r) (Rsd p B dd q)) hB 0 (by decide) _ (by omega) (by omega) fun z1 b1 w g1 hb1 hS => ?_)
  rcases hb1 with rfl | rfl
  · repeat' (first | (refine pN_eql_s ?_ ?_ <;> intro hc <;> try (exfalso; first | omega | exact hc rfl | exact hc (by assumption) | exact absurd hc (by assumption))) | refine pIf_t ?_ | fail)
    refine pc_lzdec_reader_literal (rliteral_ok hp hs hB hx (hS.fd5 (cel r) (Rsd p B dd q) (cel dec) (cel t) (Win wd)) fun z2 v w g2 v0 v1 hS => ?_)
    repeat' (first | refine pN_tob ?_ | refine pL_ra hS (by rfl) ?_ | (refine pN_sa hS (by rfl) (by rfl) (by rfl) ?_; clear hS; intro w hS; try dsimp only at hS) | refine pN_v (hk := ?_) | fail)
    exact hQ z2 ⟨1, byteOf v, 0, 0⟩ _ (Z.Got.bit g1 (by rw [if_pos rfl]; exact g2.map)) hS.to
  repeat' (first | (refine pN_eql_s ?_ ?_ <;> intro hc <;> try (exfalso; first | omega | exact hc rfl | exact hc (by assumption) | exact absurd hc (by assumption))) | refine pIf_f ?_ | refine pN_l hS (by first | rfl | assumption) ?_ | refine pN_v (hk := ?_) | fail)
  refine pc_lzdec_reader_bit (rbit_ok (hS.fd2 (cel r) (Rsd p B dd q)) hB 2 (by decide) _ (by omega) (by omega) fun z2 b2 w g2 hb2 hS => ?_)
  rcases hb2 with rfl | rfl
  · repeat' (first | refine pN_la_at (n := 4) hS [pz (q 7), pz (q 8), pz (q 9), pz (q 10)] rfl rfl ?_ | (refine pN_eql_s ?_ ?_ <;> intro hc <;> try (exfalso; first | omega | exact hc rfl | exact hc (by assumption) | exact absurd hc (by assumption))) | refine pIf_t ?_ | refine pN_l hS (by first | rfl | assumption) ?_ | refine pN_v (hk := ?_) | fail)
    refine pc_lzdec_reader_length (rlength_ok 7 (.inl rfl) hp hB hx (hS.fd5 (cel r) (Rsd p B dd q) (cel dec) (cel t) (Win wd)) fun z3 n w g3 hn3 hS => ?_)
    skip
    refine pc_lzdec_reader_distance (rdistance_ok hn3 hp hB (hS.fd5 (cel r) (Rsd p B dd q) (cel dec) (cel t) (Win wd)) fun z4 d w g4 d0 d1 hS => ?_)
    repeat' (first | refine pL_ra hS (by rfl) ?_ | (refine pN_sa hS (by rfl) (by rfl) (by rfl) ?_; clear hS; intro w hS; try dsimp only at hS) | refine pN_v (hk := ?_) | fail)
    refine hQ z4 ⟨2, 0, n, d⟩ _ (Z.Got.bit g1 ?_) hS.to
    rw [if_neg (by decide)]
    refine Z.Got.bit g2 ?_
    rw [if_pos rfl]
    exact Z.Got.bind g3 g4.map
  repeat' (first | (refine pN_eql_s ?_ ?_ <;> intro hc <;> try (exfalso; first | omega | exact hc rfl | exact hc (by assumption) | exact absurd hc (by assumption))) | refine pIf_f ?_ | refine pN_l hS (by first | rfl | assumption) ?_ | refine pN_v (hk := ?_) | fail)
  refine pc_lzdec_reader_bit (rbit_ok (hS.fd2 (cel r) (Rsd p B dd q)) hB 3 (by decide) _ (by omega) (by omega) fun z3 b3 w g3 hb3 hS => ?_)
  rcases hb3 with rfl | rfl
  · repeat' (first | (refine pN_eql_s ?_ ?_ <;> intro hc <;> try (exfalso; first | omega | exact hc rfl | exact hc (by assumption) | exact absurd hc (by assumption))) | refine pIf_t ?_ | refine pN_l hS (by first | rfl | assumption) ?_ | refine pN_v (hk := ?_) | fail)
    refine pc_lzdec_reader_bit (rbit_ok (hS.fd2 (cel r) (Rsd p B dd q)) hB 1 (by decide) _ (by omega) (by omega) fun z4 b4 w g4 hb4 hS => ?_)
    rcases hb4 with rfl | rfl
    · repeat' (first | (refine pN_eql_s ?_ ?_ <;> intro hc <;> try (exfalso; first | omega | exact hc rfl | exact hc (by assumption) | exact absurd hc (by assumption))) | refine pIf_t ?_ | refine pL_ra hS (by rfl) ?_ | (refine pN_sa hS (by rfl) (by rfl) (by rfl) ?_; clear hS; intro w hS; try dsimp only at hS) | refine pN_v (hk := ?_) | fail)
      refine hQ z4 ⟨4, 0, 0, 0⟩ _ (Z.Got.bit g1 ?_) hS.to
      rw [if_neg (by decide)]
      refine Z.Got.bit g2 ?_
      rw [if_neg (by decide)]
      refine Z.Got.bit g3 ?_
      rw [if_pos rfl]
      refine Z.Got.bit g4 ?_
      rw [if_pos rfl]
      exact Z.Got.ret _ _
    · repeat' (first | refine pN_la_at (n := 4) hS [pz (q 11), pz (q 12), pz (q 13), pz (q 14)] rfl rfl ?_ | (refine pN_eql_s ?_ ?_ <;> intro hc <;> try (exfalso; first | omega | exact hc rfl | exact hc (by assumption) | exact absurd hc (by assumption))) | refine pIf_f ?_ | refine pN_l hS (by first | rfl | assumption) ?_ | refine pN_v (hk := ?_) | fail)
      refine pc_lzdec_reader_length (rlength_ok 11 (.inr rfl) hp hB hx (hS.fd5 (cel r) (Rsd p B dd q) (cel dec) (cel t) (Win wd)) fun z5 n w g5 hn5 hS => ?_)
      repeat' (first | refine pL_ra hS (by rfl) ?_ | (refine pN_sa hS (by rfl) (by rfl) (by rfl) ?_; clear hS; intro w hS; try dsimp only at hS) | refine pN_v (hk := ?_) | fail)
      refine hQ z5 ⟨3, 0, n, 0⟩ _ (Z.Got.bit g1 ?_) hS.to
      rw [if_neg (by decide)]
      refine Z.Got.bit g2 ?_
      rw [if_neg (by decide)]
      refine Z.Got.bit g3 ?_
      rw [if_pos rfl]
      refine Z.Got.bit g4 ?_
      rw [if_neg (by decide)]
      exact g5.map
  repeat' (first | (refine pN_eql_s ?_ ?_ <;> intro hc <;> try (exfalso; first | omega | exact hc rfl | exact hc (by assumption) | exact absurd hc (by assumption))) | refine pIf_f ?_ | fail)
  refine ⟨fun i w => ∃ (d : Int) (z4 : Option Z.RS), i = .int .i64 d ∧ (∀ y v, Z.Got (Z.repRd p x.all.length d) z4 y v → Z.Got (Z.symRd p s x) z y v) ∧ Sat E w (cel a ⟨48, [.int .i64 0, bv 0, .int .i64 0, .int .i64 0]⟩ :: cel r ⟨233, rdCells dec dd z4.isNone⟩ :: Rsd p B dd q z4 :: cel dec ⟨171, dcCells t wd f⟩ :: cel t ⟨141, tbCells p s q⟩ :: Win wd x :: M), ?_, ?_⟩
  · repeat' (first | refine pN_l hS (by first | rfl | assumption) ?_ | refine pN_v (hk := ?_) | fail)
    refine pc_lzdec_reader_bit (rbit_ok (hS.fd2 (cel r) (Rsd p B dd q)) hB 4 (by decide) _ (by omega) (by omega) fun z4 b4 w g4 hb4 hS => ?_)
    rcases hb4 with rfl | rfl
    · repeat' (first | (refine pN_eql_s ?_ ?_ <;> intro hc <;> try (exfalso; first | omega | exact hc rfl | exact hc (by assumption) | exact absurd hc (by assumption))) | refine pIf_f ?_ | fail)
      refine ⟨1, z4, rfl, fun y v h => Z.Got.bit g1 ?_, hS.to⟩
      rw [if_neg (by decide)]
      refine Z.Got.bit g2 ?_
      rw [if_neg (by decide)]
      refine Z.Got.bit g3 ?_
      rw [if_neg (by decide)]
      refine Z.Got.bit g4 ?_
      rw [if_pos rfl]
      exact h
    · repeat' (first | (refine pN_eql_s ?_ ?_ <;> intro hc <;> try (exfalso; first | omega | exact hc rfl | exact hc (by assumption) | exact absurd hc (by assumption))) | refine pIf_t ?_ | refine pN_l hS (by first | rfl | assumption) ?_ | refine pN_v (hk := ?_) | fail)
      refine pc_lzdec_reader_bit (rbit_ok (hS.fd2 (cel r) (Rsd p B dd q)) hB 5 (by decide) _ (by omega) (by omega) fun z5 b5 w g5 hb5 hS => ?_)
      repeat' (first | refine pN_v (hk := ?_) | fail)
      refine ⟨2 + b5, z5, rfl, fun y v h => Z.Got.bit g1 ?_, hS.to⟩
      rw [if_neg (by decide)]
      refine Z.Got.bit g2 ?_
      rw [if_neg (by decide)]
      refine Z.Got.bit g3 ?_
      rw [if_neg (by decide)]
      refine Z.Got.bit g4 ?_
      rw [if_neg (by decide)]
      exact Z.Got.bit g5 h
  · clear hS
    rintro _ _ w ⟨d, z4, rfl, hgo, hS⟩
    repeat' (first | refine pN_la_at (n := 4) hS [pz (q 11), pz (q 12), pz (q 13), pz (q 14)] rfl rfl ?_ | refine pN_l hS (by first | rfl | assumption) ?_ | refine pN_v (hk := ?_) | fail)
    refine pc_lzdec_reader_length (rlength_ok 11 (.inr rfl) hp hB hx (hS.fd5 (cel r) (Rsd p B dd q) (cel dec) (cel t) (Win wd)) fun z5 n w g5 hn5 hS => ?_)
    repeat' (first | refine pL_ra hS (by rfl) ?_ | (refine pN_sa hS (by rfl) (by rfl) (by rfl) ?_; clear hS; intro w hS; try dsimp only at hS) | refine pN_v (hk := ?_) | fail)
    exact hQ z5 ⟨3, 0, n, d⟩ _ (hgo _ _ g5.map) hS.to
end

end Go.Proofs.YtbgnnjfpiblkmaaGreatDoor

namespace Go.Proofs.YtbgnnjfpiblkmaaGreatDoor
open Go
namespace Z
inductive DS
  | ok (e : DZ)
  | sp (p : Pr) (size : Int) (n : Nat)
def DS.bad : DS → Bool
  | .ok _ => false
  | .sp _ _ _ => true
def DS.fits : DS → DZ → Prop
  | .ok e, y => y = e
  | .sp p z n, y => y.p = p ∧ y.x.size = z ∧ y.x.all.length ≤ n
def DS.p : DS → Pr
  | .ok e => e.p
  | .sp p _ _ => p
def DS.len : DS → Nat
  | .ok e => e.x.all.length
  | .sp _ _ n => n
def DS.raw (b : List UInt8) : DS → DS
  | .ok e => .ok (e.raw b)
  | .sp p z n => .sp p z (n + b.length)
def DS.reset (p' : Pr) : DS → DS
  | .ok e => .ok (e.reset p')
  | .sp p z n => .sp (if p'.Ok then p' else p) z n
def DS.clear : DS → DS
  | .ok e => .ok e.clear
  | .sp p z _ => .ok (DZ.new p z)
structure TR where
  d : DS
  e : Int
  l : List Y
  out : List UInt8
def DS.take (d : DS) (b : List UInt8) (n : Int) : TR :=
  if 1 ≤ n ∧ n ≤ 2097152 then match d with
    | .sp p z m => ⟨.sp p z m, 2, [], []⟩
    | .ok e => match e.take b n with
      | none => ⟨.sp e.p e.x.size (e.x.all.length + n.toNat), 2, [], []⟩
      | some r => ⟨.ok r.1, 0, r.2.1, r.2.2⟩
  else ⟨d, 7, [], []⟩
theorem stepD_none1 {p : Pr} {n : Int} {s : LS} (h : (symRd p s.st s.x).run s.z = none) : stepD p n s = none := by
  unfold stepD; rw [h]
theorem stepD_none2 {p : Pr} {n : Int} {s : LS} {z : RS} {y : Y} (h : (symRd p s.st s.x).run s.z = some (z, y)) (hc : ¬ (may s.x s.st y = 0 ∧ size y ≤ n - s.out.length)) : stepD p n s = none := by
  unfold stepD; rw [h]; simp only [if_neg hc]
theorem stepD_go {p : Pr} {n : Int} {s : LS} {z : RS} {y : Y} (h : (symRd p s.st s.x).run s.z = some (z, y)) (h1 : may s.x s.st y = 0) (h2 : size y ≤ n - s.out.length) : stepD p n s = some (s.step z y) := by
  unfold stepD; rw [h]; simp only [if_pos (show may s.x s.st y = 0 ∧ size y ≤ n - s.out.length from ⟨h1, h2⟩)]
theorem loopD_go {p : Pr} {n : Int} {f : Nat} {s : LS} (h : (s.out.length : Int) < n) : loopD p n (f + 1) s = match stepD p n s with
    | none => none
    | some t => loopD p n f t := by
  rw [loopD, if_pos h]
  cases stepD p n s <;> rfl
theorem loopD_end {p : Pr} {n : Int} {f : Nat} {s : LS} (h : ¬ (s.out.length : Int) < n) : loopD p n f s = some s := by
  cases f with
  | zero => rw [loopD, if_neg h]
  | succ f => rw [loopD, if_neg h]
end Z

def LDec (b : Nat) (d : Z.DS) : HA := fun h => ∃ k : (Nat × Nat × (Nat → Nat)) × Z.DZ, (k.2.Ok ∧ d.fits k.2) ∧ Sats [cel b ⟨171, dcCells k.1.1 k.1.2.1 d.bad⟩, cel k.1.1 ⟨141, tbCells k.2.p k.2.st k.1.2.2⟩, Win k.1.2.1 k.2.x, tabs k.1.2.2 k.2.T] h
section
variable {E w : World} {M : List HA} {b t wd : Nat} {q : Nat → Nat} {d : Z.DS} {e : Z.DZ}
theorem LDec.opn (hS : Sat E w (LDec b d :: M)) : ∃ t wd q e, e.Ok ∧ d.fits e ∧ Sat E w (cel b ⟨171, dcCells t wd d.bad⟩ :: cel t ⟨141, tbCells e.p e.st q⟩ :: Win wd e.x :: tabs q e.T :: M) := by
  obtain ⟨k, hS⟩ := hS.ex
  obtain ⟨h1, ⟨hA, _⟩, _⟩ := hS.head
  exact ⟨k.1.1, k.1.2.1, k.1.2.2, k.2, hA.1, hA.2, hS.open_ (M := [_, _, _, _]) fun _ h => h.2⟩
theorem LDec.shut (hS : Sat E w (cel b ⟨171, dcCells t wd d.bad⟩ :: cel t ⟨141, tbCells e.p e.st q⟩ :: Win wd e.x :: tabs q e.T :: M)) (he : e.Ok) (hf : d.fits e) : Sat E w (LDec b d :: M) :=
  Sat.shut (M := [_, _, _, _]) hS fun _ h => ⟨((t, wd, q), e), ⟨he, hf⟩, h⟩
end
attribute [local irreducible] oMv oV oU oCall oCallV oBi oBin oUn oLoad oStore oNil oFld oField oIdx oIndex oPick oAlloc oBox oBuild oBs oConv oMk oSl oExt oFn oIface oMap oLook oMapUp oRange oNext oEntry oInv oAssert oPanic oRes pN pA pL pDr pIf gA pGd

section
variable {E w W : World} {M N : List HA} {Q : Value → World → Prop} {b : Nat} {d : Z.DS}

theorem DcNew_in {p : Z.Pr} (hS : Sat E w M) (hp : p.Ok) (n : Int) (h0 : 1 ≤ n) (h1 : n ≤ 4294967295) (hQ : ∀ b w, Sat E w (LDec b (.ok (Z.DZ.new p n)) :: M) → Q (.tuple #[pz b, .int .i64 0]) w) :
    Calls Tryz.prog 41 #[.agg #[.int .i64 p.lc, .int .i64 p.lp, .int .i64 p.pb], .int .i64 n] w (retP Q) := by
  refine lzdec_New.calls ?_
  unfold lzdec_New.F
  repeat' (first | (refine pc_state_PropsByte (PropsByte_in p hp hS ?_); clear hS; intro w hS) | (refine pc_window_New (WNew_in hS n h0 h1 ?_); clear hS; intro wd w hS) | (refine pc_model_New (MNew_ok hp hS ?_); clear hS; intro t q w hS) | (refine pN_neq_s ?_ ?_ <;> intro hc <;> try (exfalso; first | omega | exact hc rfl | exact hc (by assumption) | exact absurd hc (by assumption))) | refine pIf_f ?_ | refine pN_la hS (by rfl) ?_ | (refine pN_bx hS (by rfl) ?_; clear hS; intro a w hS) | refine pN_v (hk := ?_) | fail)
  have hS4 : Sat E w (cel a ⟨171, [pz t, pz wd, .bool false]⟩ :: cel t ⟨141, tbCells p Z.St.new q⟩ :: Win wd ⟨n, []⟩ :: tabs q (Z.T0 p) :: M) := hS.to
  exact hQ _ _ (LDec.shut (d := .ok (Z.DZ.new p n)) (e := Z.DZ.new p n) (t := t) (wd := wd) (q := q) hS4 (Z.DZ.Ok.new hp n) rfl)
theorem DcNew_no {p : Z.Pr} (hS : Sat E w M) (n : Int) (hpb : -9223372036854775808 ≤ p.lc ∧ p.lc < 9223372036854775808) (h : ¬ (p.Ok ∧ 1 ≤ n ∧ n ≤ 4294967295)) (hQ : ∀ w, Sat E w M → Q (.tuple #[.pointer none, .int .i64 (if p.Ok then 7 else 6)]) w) :
    Calls Tryz.prog 41 #[.agg #[.int .i64 p.lc, .int .i64 p.lp, .int .i64 p.pb], .int .i64 n] w (retP Q) := by
  refine lzdec_New.calls ?_
  unfold lzdec_New.F
  by_cases hp : p.Ok
  · rw [if_pos hp] at hQ
    repeat' (first | (refine pc_state_PropsByte (PropsByte_in p hp hS ?_); clear hS; intro w hS) | (refine pc_window_New (WNew_no n (fun hd => h ⟨hp, hd⟩) ?_)) | (refine pN_neq_s ?_ ?_ <;> intro hc <;> try (exfalso; first | omega | exact hc rfl | exact hc (by assumption) | exact absurd hc (by assumption))) | refine pIf_t ?_ | refine pIf_f ?_ | refine pN_la hS (by rfl) ?_ | (refine pN_bx hS (by rfl) ?_; clear hS; intro a w hS) | refine pN_v (hk := ?_) | fail)
    exact hQ _ hS.to
  · rw [if_neg hp] at hQ
    repeat' (first | (refine pc_state_PropsByte (PropsByte_no p hp hpb hS ?_); clear hS; intro w hS) | (refine pN_neq_s ?_ ?_ <;> intro hc <;> try (exfalso; first | omega | exact hc rfl | exact hc (by assumption) | exact absurd hc (by assumption))) | refine pIf_t ?_ | refine pN_la hS (by rfl) ?_ | (refine pN_bx hS (by rfl) ?_; clear hS; intro a w hS) | refine pN_v (hk := ?_) | fail)
    exact hQ _ hS.to

theorem DcRaw_ok {s0 : Sl} {l : List UInt8} (hS : Sat E w (LDec b d :: M)) [hl : Rds cd_uint8 M s0 l] (hn : d.len + l.length ≤ 4611686018427387904) (hQ : ∀ w, Sat E w (LDec b (d.raw l) :: M) → Q (.tuple #[]) w) :
    Calls Tryz.prog 51 #[pz b, .slice s0.a l.length s0.c] w (retP Q) := by
  refine lzdec_Decoder_Raw.calls ?_
  unfold lzdec_Decoder_Raw.F
  obtain ⟨t, wd, q, e, he, hf, hS⟩ := LDec.opn hS
  have hx : e.x.all.length ≤ d.len := by
    cases d with
    | ok e' => cases hf; exact Nat.le_refl _
    | sp p z n => exact hf.2.2
  repeat' (first | (refine pc_window_Window_Put (WPut_ok (hS.fd (Win wd)) (by omega) ?_); clear hS; intro w hS) | refine pN_l hS (by first | rfl | assumption) ?_ | refine pN_v (hk := ?_) | fail)
  have hS4 := hS.fd4 (cel b) (cel t) (Win wd) (tabs q)
  clear hS
  refine hQ _ (LDec.shut (d := d.raw l) (e := e.raw l) (t := t) (wd := wd) (q := q) ?_ (he.raw l) ?_)
  · cases d with
    | ok e' => exact hS4
    | sp p z n => exact hS4
  · cases d with
    | ok e' => cases hf; rfl
    | sp p z n => exact ⟨hf.1, hf.2.1, by simp only [Z.DZ.raw, Z.W.put, List.length_append]; have := hf.2.2; omega⟩

theorem DcReset_in {p : Z.Pr} (hp : p.Ok) (hS : Sat E w (LDec b d :: M)) (hQ : ∀ w, Sat E w (LDec b (d.reset p) :: M) → Q (.int .i64 0) w) :
    Calls Tryz.prog 52 #[pz b, .agg #[.int .i64 p.lc, .int .i64 p.lp, .int .i64 p.pb]] w (retP Q) := by
  refine lzdec_Decoder_Reset.calls ?_
  unfold lzdec_Decoder_Reset.F
  obtain ⟨t, wd, q, e, he, hf, hS⟩ := LDec.opn hS
  have er : e.reset p = ⟨p, Z.St.new, Z.T0 p, e.x⟩ := by rw [Z.DZ.reset, if_pos hp]
  have he2 := he.reset p
  rw [er] at he2
  repeat' (first | (refine pc_state_PropsByte (PropsByte_in p hp hS ?_); clear hS; intro w hS) | refine pN_la hS (by rfl) ?_ | (refine pN_bx hS (by rfl) ?_; clear hS; intro a w hS) | refine pN_v (hk := ?_) | fail)
  refine ⟨fun w => ∃ t q, Sat E w (cel b ⟨171, dcCells t wd d.bad⟩ :: cel t ⟨141, tbCells p Z.St.new q⟩ :: Win wd e.x :: tabs q (Z.T0 p) :: M), ?_, ?_⟩
  · repeat' (first | (refine pc_model_New (MNew_ok hp hS ?_); clear hS; intro t2 q2 w hS) | (refine pN_eql_s ?_ ?_ <;> intro hc <;> try (exfalso; first | omega | exact hc rfl | exact hc (by assumption) | exact absurd hc (by assumption))) | refine pIf_t ?_ | refine pN_la hS (by rfl) ?_ | (refine pN_s hS (by first | exact Nat.le_of_ble_eq_true rfl | assumption) (by rfl) ?_; clear hS; intro w hS; try simp only [List.set_cons_zero, List.set_cons_succ] at hS) | refine pN_v (hk := ?_) | fail)
    have hS4 : Sat E w (cel b ⟨171, [pz t2, pz wd, .bool d.bad]⟩ :: cel t2 ⟨141, tbCells p Z.St.new q2⟩ :: Win wd e.x :: tabs q2 (Z.T0 p) :: M) := hS.to
    exact ⟨t2, q2, hS4⟩
  clear hS
  rintro _ w ⟨t, q, hS⟩
  skip
  refine hQ _ (LDec.shut (d := d.reset p) (e := ⟨p, Z.St.new, Z.T0 p, e.x⟩) (t := t) (wd := wd) (q := q) ?_ he2 ?_)
  · cases d with
    | ok e' => exact hS
    | sp p z n => exact hS
  · cases d with
    | ok e' => cases hf; exact er.symm
    | sp p' z n => exact ⟨(if_pos hp).symm, hf.2.1, hf.2.2⟩
theorem DcReset_no {p : Z.Pr} (hp : ¬ p.Ok) (hpb : -9223372036854775808 ≤ p.lc ∧ p.lc < 9223372036854775808) (hS : Sat E w (LDec b d :: M)) (hQ : ∀ w, Sat E w (LDec b d :: M) → Q (.int .i64 6) w) :
    Calls Tryz.prog 52 #[pz b, .agg #[.int .i64 p.lc, .int .i64 p.lp, .int .i64 p.pb]] w (retP Q) := by
  refine lzdec_Decoder_Reset.calls ?_
  unfold lzdec_Decoder_Reset.F
  repeat' (first | (refine pc_state_PropsByte (PropsByte_no p hp hpb hS ?_); clear hS; intro w hS) | refine pN_la hS (by rfl) ?_ | (refine pN_bx hS (by rfl) ?_; clear hS; intro a w hS) | refine pN_v (hk := ?_) | fail)
  refine ⟨fun w => Sat E w (LDec b d :: M), ?_, ?_⟩
  · repeat' (first | (refine pN_eql_s ?_ ?_ <;> intro hc <;> try (exfalso; first | omega | exact hc rfl | exact hc (by assumption) | exact absurd hc (by assumption))) | refine pIf_f ?_ | fail)
    exact hS.to
  clear hS
  rintro _ w hS
  skip
  exact hQ _ hS.to

theorem DcClear_ok (hS : Sat E w (LDec b d :: M)) (hQ : ∀ w, Sat E w (LDec b d.clear :: M) → Q (.tuple #[]) w) :
    Calls Tryz.prog 53 #[pz b] w (retP Q) := by
  refine lzdec_Decoder_Clear.calls ?_
  unfold lzdec_Decoder_Clear.F
  obtain ⟨t, wd, q, e, he, hf, hS⟩ := LDec.opn hS
  repeat' (first | refine pN_la_at (n := 3) hS e.p.cells rfl rfl ?_ | (refine pc_model_New (MNew_ok he.p hS ?_); clear hS; intro t2 q2 w hS) | (refine pc_window_Window_Clear (WClear_ok (hS.fd (Win wd)) ?_); clear hS; intro w hS) | refine pN_l hS (by first | rfl | assumption) ?_ | (refine pN_s hS (by first | exact Nat.le_of_ble_eq_true rfl | assumption) (by rfl) ?_; clear hS; intro w hS; try simp only [List.set_cons_zero, List.set_cons_succ] at hS) | refine pN_v (hk := ?_) | fail)
  have hS4 : Sat E w (cel b ⟨171, [pz t2, pz wd, .bool false]⟩ :: cel t2 ⟨141, tbCells e.p Z.St.new q2⟩ :: Win wd ⟨e.x.size, []⟩ :: tabs q2 (Z.T0 e.p) :: M) := hS.to
  clear hS
  refine hQ _ (LDec.shut (d := d.clear) (e := e.clear) (t := t2) (wd := wd) (q := q2) ?_ he.clear ?_)
  · cases d with
    | ok e' => exact hS4
    | sp p z n => exact hS4
  · cases d with
    | ok e' => cases hf; rfl
    | sp p z n =>
      obtain ⟨rfl, rfl, _⟩ := hf
      rfl

theorem SySize_ok (hG : Glo W) (hS : Sat E w M) [h : Has (old W) M N] (y : Z.Y) (hQ : ∀ w, Sat E w M → Q (.int .i64 (Z.size y)) w) :
    Calls Tryz.prog 94 #[.agg #[.int .i64 y.Kind, bv y.Byte, .int .i64 y.Len, .int .i64 y.Dist]] w (retP Q) := by
  refine symbol_Size.calls ?_
  unfold symbol_Size.F
  unfold Z.size at hQ
  by_cases hy : Z.errY y = 0
  · rw [if_neg (by omega)] at hQ
    by_cases hk : y.Kind = 2 ∨ y.Kind = 3
    · rw [if_pos hk] at hQ
      by_cases h2 : y.Kind = 2
      · repeat' (first | refine pL_la hS (by rfl) ?_ | (refine pDr_go hS ?_; clear hS; intro w hS) | (refine pN_bx hS (by rfl) ?_; clear hS; intro a w hS) | fail)
        refine ⟨?_, ?_⟩
        · repeat' (first | (refine pc_state_New (SNew_ok hS ?_); clear hS; intro w hS) | refine ⟨⟨run_la_at (n := 4) hS [.int .i64 y.Kind, bv y.Byte, .int .i64 y.Len, .int .i64 y.Dist] rfl rfl, trivial⟩, ?_⟩ | fail)
          refine ⟨?_, ?_⟩
          all_goals
            repeat' (first | (refine pc_state_State_Next (Next_in (s := Z.St.new) hG hS Z.St.Right.new hy ?_); clear hS; intro w hS) | refine ⟨⟨run_la_at (n := 4) hS [.int .i64 y.Kind, bv y.Byte, .int .i64 y.Len, .int .i64 y.Dist] rfl rfl, trivial⟩, ?_⟩ | ((first | refine pN_eql_s ?_ ?_ | refine pN_neq_s ?_ ?_) <;> intro hc <;> try (exfalso; first | omega | exact hc rfl | exact hc (by assumption) | exact absurd hc (by assumption))) | refine pIf_t ?_ | refine pIf_f ?_ | refine pGd_no (by rfl) ?_ | refine pN_l hS (by first | rfl | assumption) ?_ | (refine pN_sa hS (by rfl) (by rfl) (by rfl) ?_; clear hS; intro w hS; try dsimp only at hS) | (refine pN_nz hS ?_; clear hS; intro a w hS) | refine ⟨trivial, ?_⟩ | refine pN_v (hk := ?_) | refine pA_v (hk := ?_) | fail)
            exact hQ _ hS.to
        · repeat' (first | (refine pc_state_New (SNew_ok hS ?_); clear hS; intro w hS) | (refine pc_state_State_Next (Next_in (s := Z.St.new) hG hS Z.St.Right.new hy ?_); clear hS; intro w hS) | refine ⟨⟨run_la_at (n := 4) hS [.int .i64 y.Kind, bv y.Byte, .int .i64 y.Len, .int .i64 y.Dist] rfl rfl, trivial⟩, ?_⟩ | ((first | refine pN_eql_s ?_ ?_ | refine pN_neq_s ?_ ?_) <;> intro hc <;> try (exfalso; first | omega | exact hc rfl | exact hc (by assumption) | exact absurd hc (by assumption))) | refine pIf_t ?_ | refine pIf_f ?_ | refine pGd_no (by rfl) ?_ | refine pN_l hS (by first | rfl | assumption) ?_ | (refine pN_sa hS (by rfl) (by rfl) (by rfl) ?_; clear hS; intro w hS; try dsimp only at hS) | (refine pN_nz hS ?_; clear hS; intro a w hS) | refine ⟨trivial, ?_⟩ | refine pN_v (hk := ?_) | refine pA_v (hk := ?_) | fail)
          exact hQ _ hS.to
      · repeat' (first | refine pL_la hS (by rfl) ?_ | (refine pDr_go hS ?_; clear hS; intro w hS) | (refine pN_bx hS (by rfl) ?_; clear hS; intro a w hS) | fail)
        refine ⟨?_, ?_⟩
        · repeat' (first | (refine pc_state_New (SNew_ok hS ?_); clear hS; intro w hS) | refine ⟨⟨run_la_at (n := 4) hS [.int .i64 y.Kind, bv y.Byte, .int .i64 y.Len, .int .i64 y.Dist] rfl rfl, trivial⟩, ?_⟩ | fail)
          refine ⟨?_, ?_⟩
          all_goals
            repeat' (first | (refine pc_state_State_Next (Next_in (s := Z.St.new) hG hS Z.St.Right.new hy ?_); clear hS; intro w hS) | refine ⟨⟨run_la_at (n := 4) hS [.int .i64 y.Kind, bv y.Byte, .int .i64 y.Len, .int .i64 y.Dist] rfl rfl, trivial⟩, ?_⟩ | ((first | refine pN_eql_s ?_ ?_ | refine pN_neq_s ?_ ?_) <;> intro hc <;> try (exfalso; first | omega | exact hc rfl | exact hc (by assumption) | exact absurd hc (by assumption))) | refine pIf_t ?_ | refine pIf_f ?_ | refine pGd_go (by rfl) ?_ | refine pN_l hS (by first | rfl | assumption) ?_ | (refine pN_sa hS (by rfl) (by rfl) (by rfl) ?_; clear hS; intro w hS; try dsimp only at hS) | (refine pN_nz hS ?_; clear hS; intro a w hS) | refine ⟨trivial, ?_⟩ | refine pN_v (hk := ?_) | refine pA_v (hk := ?_) | fail)
            exact hQ _ hS.to
        · repeat' (first | (refine pc_state_New (SNew_ok hS ?_); clear hS; intro w hS) | (refine pc_state_State_Next (Next_in (s := Z.St.new) hG hS Z.St.Right.new hy ?_); clear hS; intro w hS) | refine ⟨⟨run_la_at (n := 4) hS [.int .i64 y.Kind, bv y.Byte, .int .i64 y.Len, .int .i64 y.Dist] rfl rfl, trivial⟩, ?_⟩ | ((first | refine pN_eql_s ?_ ?_ | refine pN_neq_s ?_ ?_) <;> intro hc <;> try (exfalso; first | omega | exact hc rfl | exact hc (by assumption) | exact absurd hc (by assumption))) | refine pIf_t ?_ | refine pIf_f ?_ | refine pGd_go (by rfl) ?_ | refine pN_l hS (by first | rfl | assumption) ?_ | (refine pN_sa hS (by rfl) (by rfl) (by rfl) ?_; clear hS; intro w hS; try dsimp only at hS) | (refine pN_nz hS ?_; clear hS; intro a w hS) | refine ⟨trivial, ?_⟩ | refine pN_v (hk := ?_) | refine pA_v (hk := ?_) | fail)
          exact hQ _ hS.to
    · rw [if_neg hk] at hQ
      repeat' (first | refine pL_la hS (by rfl) ?_ | (refine pDr_go hS ?_; clear hS; intro w hS) | (refine pN_bx hS (by rfl) ?_; clear hS; intro a w hS) | fail)
      refine ⟨?_, ?_⟩
      · repeat' (first | (refine pc_state_New (SNew_ok hS ?_); clear hS; intro w hS) | refine ⟨⟨run_la_at (n := 4) hS [.int .i64 y.Kind, bv y.Byte, .int .i64 y.Len, .int .i64 y.Dist] rfl rfl, trivial⟩, ?_⟩ | fail)
        refine ⟨?_, ?_⟩
        all_goals
          repeat' (first | (refine pc_state_State_Next (Next_in (s := Z.St.new) hG hS Z.St.Right.new hy ?_); clear hS; intro w hS) | refine ⟨⟨run_la_at (n := 4) hS [.int .i64 y.Kind, bv y.Byte, .int .i64 y.Len, .int .i64 y.Dist] rfl rfl, trivial⟩, ?_⟩ | ((first | refine pN_eql_s ?_ ?_ | refine pN_neq_s ?_ ?_) <;> intro hc <;> try (exfalso; first | omega | exact hc rfl | exact hc (by assumption) | exact absurd hc (by assumption))) | refine pIf_f ?_ | refine pGd_go (by rfl) ?_ | refine pN_l hS (by first | rfl | assumption) ?_ | (refine pN_sa hS (by rfl) (by rfl) (by rfl) ?_; clear hS; intro w hS; try dsimp only at hS) | (refine pN_nz hS ?_; clear hS; intro a w hS) | refine ⟨trivial, ?_⟩ | refine pN_v (hk := ?_) | refine pA_v (hk := ?_) | fail)
          exact hQ _ hS.to
      · repeat' (first | (refine pc_state_New (SNew_ok hS ?_); clear hS; intro w hS) | (refine pc_state_State_Next (Next_in (s := Z.St.new) hG hS Z.St.Right.new hy ?_); clear hS; intro w hS) | refine ⟨⟨run_la_at (n := 4) hS [.int .i64 y.Kind, bv y.Byte, .int .i64 y.Len, .int .i64 y.Dist] rfl rfl, trivial⟩, ?_⟩ | ((first | refine pN_eql_s ?_ ?_ | refine pN_neq_s ?_ ?_) <;> intro hc <;> try (exfalso; first | omega | exact hc rfl | exact hc (by assumption) | exact absurd hc (by assumption))) | refine pIf_f ?_ | refine pGd_go (by rfl) ?_ | refine pN_l hS (by first | rfl | assumption) ?_ | (refine pN_sa hS (by rfl) (by rfl) (by rfl) ?_; clear hS; intro w hS; try dsimp only at hS) | (refine pN_nz hS ?_; clear hS; intro a w hS) | refine ⟨trivial, ?_⟩ | refine pN_v (hk := ?_) | refine pA_v (hk := ?_) | fail)
        exact hQ _ hS.to
  · rw [if_pos (by omega)] at hQ
    repeat' (first | refine pL_la hS (by rfl) ?_ | (refine pDr_go hS ?_; clear hS; intro w hS) | (refine pN_bx hS (by rfl) ?_; clear hS; intro a w hS) | fail)
    refine ⟨?_, ?_⟩
    · repeat' (first | (refine pc_state_New (SNew_ok hS ?_); clear hS; intro w hS) | refine ⟨⟨run_la_at (n := 4) hS [.int .i64 y.Kind, bv y.Byte, .int .i64 y.Len, .int .i64 y.Dist] rfl rfl, trivial⟩, ?_⟩ | fail)
      refine ⟨?_, ?_⟩
      all_goals
        repeat' (first | (refine pc_state_State_Next (Next_no (s := Z.St.new) hS Z.St.Right.new hy ?_); clear hS; intro w hS) | refine ⟨⟨run_la_at (n := 4) hS [.int .i64 y.Kind, bv y.Byte, .int .i64 y.Len, .int .i64 y.Dist] rfl rfl, trivial⟩, ?_⟩ | (refine pN_neq_s ?_ ?_ <;> intro hc <;> try (exfalso; first | omega | exact hc rfl | exact hc (by assumption) | exact absurd hc (by assumption))) | refine pIf_t ?_ | (refine pN_sa hS (by rfl) (by rfl) (by rfl) ?_; clear hS; intro w hS; try dsimp only at hS) | (refine pN_nz hS ?_; clear hS; intro a w hS) | refine ⟨trivial, ?_⟩ | refine pA_v (hk := ?_) | fail)
        exact hQ _ hS.to
    · repeat' (first | (refine pc_state_New (SNew_ok hS ?_); clear hS; intro w hS) | (refine pc_state_State_Next (Next_no (s := Z.St.new) hS Z.St.Right.new hy ?_); clear hS; intro w hS) | refine ⟨⟨run_la_at (n := 4) hS [.int .i64 y.Kind, bv y.Byte, .int .i64 y.Len, .int .i64 y.Dist] rfl rfl, trivial⟩, ?_⟩ | (refine pN_neq_s ?_ ?_ <;> intro hc <;> try (exfalso; first | omega | exact hc rfl | exact hc (by assumption) | exact absurd hc (by assumption))) | refine pIf_t ?_ | (refine pN_sa hS (by rfl) (by rfl) (by rfl) ?_; clear hS; intro w hS; try dsimp only at hS) | (refine pN_nz hS ?_; clear hS; intro a w hS) | refine ⟨trivial, ?_⟩ | refine pA_v (hk := ?_) | fail)
      exact hQ _ hS.to
end

end Go.Proofs.YtbgnnjfpiblkmaaGreatDoor

namespace Go.Proofs.YtbgnnjfpiblkmaaGreatDoor
open Go
namespace Z
theorem loop_fin {p : Pr} {n : Int} : ∀ (k : Nat) {s t : LS}, loopD p n k s = some t → t.x.size = s.x.size ∧ t.x.all.length + s.out.length = s.x.all.length + t.out.length ∧ ((s.out.length : Int) ≤ n → (t.out.length : Int) ≤ n)
  | 0, s, t, h => by
    rw [loopD] at h
    split at h
    · cases h
    · cases h; exact ⟨rfl, rfl, fun h => h⟩
  | k + 1, s, t, h => by
    rw [loopD] at h
    split at h
    · split at h
      · cases h
      · rename_i u hu
        have hl := LS.step_len hu
        obtain ⟨h1, h2, h3⟩ := loop_fin k h
        exact ⟨h1.trans hl.2.2.2.2.1, by omega, fun _ => h3 hl.2.1⟩
    · cases h; exact ⟨rfl, rfl, fun h => h⟩
end Z
attribute [local irreducible] oMv oV oU oCall oCallV oBi oBin oUn oLoad oStore oNil oFld oField oIdx oIndex oPick oAlloc oBox oBuild oBs oConv oMk oSl oExt oFn oIface oMap oLook oMapUp oRange oNext oEntry oInv oAssert oPanic oRes pN pA pL pDr pIf gA pGd

section
variable {E w W : World} {M N : List HA} {Q : Value → World → Prop} {b : Nat}

theorem newReader_ok {s0 : Sl} {l : List UInt8} (hS : Sat E w M) [hr : Rds cd_uint8 M s0 l] (hb : l.length ≤ 225000000000000) (dec : Nat)
    (hok : ∀ d r dd w, D.start l = .ok d () → Sat E w (cel r ⟨233, rdCells dec dd false⟩ :: Dec dd d :: M) → Q (pz r) w)
    (hno : ∀ e w, D.start l = .no e → Sat E w M → Q (.pointer none) w) :
    Calls Tryz.prog 133 #[pz dec, .slice s0.a l.length s0.c] w (retP Q) := by
  refine lzdec_newReader.calls ?_
  unfold lzdec_newReader.F
  cases hst : D.start l with
  | no e =>
    have hne : e ≠ 0 := by
      unfold D.start at hst
      split at hst
      · cases hst; decide
      · split at hst
        · cases hst; decide
        · cases hst
    repeat' (first | (refine pc_rcdec_New (DNew_no hS hb hst ?_); clear hS; intro w hS) | (refine pN_neq_s ?_ ?_ <;> intro hc <;> try (exfalso; first | omega | exact hc rfl | exact hc (by assumption) | exact absurd hc (by assumption))) | refine pIf_t ?_ | refine pN_v (hk := ?_) | fail)
    exact hno e _ hst hS.to
  | ok d u =>
    repeat' (first | (refine pc_rcdec_New (DNew_in hS hb hst ?_); clear hS; intro dd w hS) | (refine pN_neq_s ?_ ?_ <;> intro hc <;> try (exfalso; first | omega | exact hc rfl | exact hc (by assumption) | exact absurd hc (by assumption))) | refine pIf_f ?_ | (refine pN_bx hS (by rfl) ?_; clear hS; intro a w hS) | refine pN_v (hk := ?_) | fail)
    exact hok d _ dd _ hst hS.to

set_option maxHeartbeats 4000000 in
theorem all_ok {s0 : Sl} {l : List UInt8} {e : Z.DZ} {t wd : Nat} {q : Nat → Nat} {n : Int} (hG : Glo W) (he : e.Ok)
    (hS : Sat E w (cel b ⟨171, dcCells t wd false⟩ :: cel t ⟨141, tbCells e.p e.st q⟩ :: Win wd e.x :: tabs q e.T :: M)) [h : Has (old W) M N] [hr : Rds cd_uint8 M s0 l] (hb : l.length ≤ 225000000000000)
    (n0 : 1 ≤ n) (n1 : n ≤ 2097152) (hx : e.x.all.length + n.toNat + 273 ≤ 4611686018427387904)
    (hok : ∀ d gs sl so w, D.start l = .ok d () → Z.loopD e.p n n.toNat (e.ls d) = some gs → gs.Ok e.p → Sat E w (rows cd_api_Symbol sl gs.l :: rows cd_uint8 so gs.out :: cel b ⟨171, dcCells t wd false⟩ :: cel t ⟨141, tbCells e.p gs.st q⟩ :: Win wd gs.x :: tabs q gs.z.T :: M) →
      Q (.tuple #[.slice sl.a gs.l.length sl.c, .slice so.a gs.out.length so.c, .bool (decide (gs.z.d.k = gs.z.d.b.length ∧ gs.z.d.C = 0))]) w)
    (hno : ∀ (f : Z.DZ) w, e.take l n = none → f.Ok → f.p = e.p → f.x.size = e.x.size → f.x.all.length ≤ e.x.all.length + n.toNat → Sat E w (cel b ⟨171, dcCells t wd false⟩ :: cel t ⟨141, tbCells f.p f.st q⟩ :: Win wd f.x :: tabs q f.T :: M) →
      Q (.tuple #[.slice none 0 0, .slice none 0 0, .bool false]) w) :
    Calls Tryz.prog 91 #[pz b, .slice s0.a l.length s0.c, .int .i64 n] w (retP Q) := by
  refine lzdec_Decoder_all.calls ?_
  unfold lzdec_Decoder_all.F
  refine pc_lzdec_newReader (newReader_ok hS hb b (fun d r dd w hst hS => ?_) fun e' w hst hS => ?_)
  rotate_left 1
  · repeat' (first | refine pIf_t ?_ | refine pN_v (hk := ?_) | fail)
    exact hno e _ (by unfold Z.DZ.take; rw [hst]) he rfl rfl (Nat.le_add_right _ _) hS
  have hso := D.start_ok hst
  have hS : Sat E w (Dec dd d :: tabs q e.T :: cel r ⟨233, rdCells b dd false⟩ :: cel b ⟨171, dcCells t wd false⟩ :: cel t ⟨141, tbCells e.p e.st q⟩ :: Win wd e.x :: M) := hS.to
  have hS := Rsd.shut (p := e.p) (B := l) (y := ⟨d, e.T⟩) (z := some ⟨d, e.T⟩) hS ⟨hso.1, he.T⟩ hso.2.1 (fun _ h => by cases h; rfl)
  have hS : Sat E w (rows cd_api_Symbol ⟨none, 0⟩ [] :: _) := hS.nil 48 4
  have hS : Sat E w (rows cd_uint8 ⟨none, 0⟩ [] :: _) := hS.nil 5 1
  have hr1 : Rds cd_uint8 M s0 l := hr
  repeat' (first | refine pIf_f ?_ | refine pN_v (hk := ?_) | fail)
  have hS0 : Sat E _ (cel r ⟨233, rdCells b dd false⟩ :: Rsd e.p l dd q (some ⟨d, e.T⟩) :: cel b ⟨171, dcCells t wd false⟩ :: cel t ⟨141, tbCells e.p e.st q⟩ :: Win wd e.x :: rows cd_api_Symbol ⟨none, 0⟩ [] :: rows cd_uint8 ⟨none, 0⟩ [] :: M) := hS.to
  refine ⟨fun v1 v2 w => ∃ (f : Nat) (gs : Z.LS) (sl so : Sl), v1 = .slice sl.a gs.l.length sl.c ∧ v2 = .slice so.a gs.out.length so.c ∧ gs.Ok e.p ∧ gs.z.d.b = l ∧ gs.x.size = e.x.size ∧ gs.x.all.length = e.x.all.length + gs.out.length ∧ (gs.out.length : Int) ≤ n ∧ gs.l.length ≤ gs.out.length ∧ n - gs.out.length ≤ f ∧ Z.loopD e.p n f gs = Z.loopD e.p n n.toNat (e.ls d) ∧
    Sat E w (cel r ⟨233, rdCells b dd false⟩ :: Rsd e.p l dd q (some gs.z) :: cel b ⟨171, dcCells t wd false⟩ :: cel t ⟨141, tbCells e.p gs.st q⟩ :: Win wd gs.x :: rows cd_api_Symbol sl gs.l :: rows cd_uint8 so gs.out :: M),
    fun _ v _ => match v with | .slice _ k _ => n.toNat - k | _ => 0, ⟨n.toNat, e.ls d, ⟨none, 0⟩, ⟨none, 0⟩, rfl, rfl, ⟨he.st, ⟨hso.1, he.T⟩⟩, hso.2.1, rfl, rfl, by show ((0 : Nat) : Int) ≤ n; omega, Nat.le_refl _, by show n - ((0 : Nat) : Int) ≤ _; omega, rfl, hS0⟩, ?_⟩
  clear hS hS0
  rintro _ _ _ w ⟨f, gs, sl, so, rfl, rfl, hs, hsb, hsz, hsx, hsn, hsl, hf, hlp, hS⟩
  have hx2 : gs.x.all.length + 273 ≤ 4611686018427387904 := by omega
  by_cases hlt : (gs.out.length : Int) < n
  · obtain ⟨f, rfl⟩ : ∃ k, f = k + 1 := ⟨f - 1, by omega⟩
    rw [Z.loopD_go hlt] at hlp
    repeat' (first | (refine pN_lss_s ?_ ?_ <;> intro hc <;> try (exfalso; omega)) | refine pIf_t ?_ | refine pN_v (hk := ?_) | fail)
    refine pc_lzdec_reader_symbol (rsymbol_ok (z := some gs.z) he.p hs.st hb (by omega) (hS.fd5 (cel r) (Rsd e.p l dd q) (cel b) (cel t) (Win wd)) fun y v w hgot hS => ?_)
    have fin : ∀ (w : World), e.take l n = none → (∃ z : Option Z.RS, Sat E w (Rsd e.p l dd q z :: cel b ⟨171, dcCells t wd false⟩ :: cel t ⟨141, tbCells e.p gs.st q⟩ :: Win wd gs.x :: M)) → Q (.tuple #[.slice none 0 0, .slice none 0 0, .bool false]) w := by
      rintro w ht ⟨z, hS⟩
      obtain ⟨y, hy, _, _, hS⟩ := Rsd.opn hS
      exact hno ⟨e.p, gs.st, y.T, gs.x⟩ w ht ⟨he.p, hs.st, hy.T⟩ rfl hsz (by simp only; omega) hS.to
    have tkn : Z.loopD e.p n n.toNat (e.ls d) = none → e.take l n = none := fun h => by unfold Z.DZ.take; rw [hst]; simp only [h]
    cases y with
    | none =>
      rw [Z.stepD_none1 hgot] at hlp
      simp only [Option.isNone_none] at hS
      repeat' (first | refine pIf_t ?_ | refine pGd_no (by rfl) ?_ | refine pN_l hS (by first | rfl | assumption) ?_ | (refine pN_sa hS (by rfl) (by rfl) (by rfl) ?_; clear hS; intro w hS; try dsimp only at hS) | (refine pN_nz hS ?_; clear hS; intro a w hS) | refine pN_v (hk := ?_) | fail)
      exact fin _ (tkn hlp.symm) ⟨none, hS.to⟩
    | some z1 =>
      have hgot : (Z.symRd e.p gs.st gs.x).run gs.z = some (z1, v) := hgot
      have hz1 := Z.Rd.run_ok (Z.symRd_ok he.p hs.st gs.x) hs.z hgot
      simp only [Option.isNone_some] at hS
      by_cases c1 : Z.size v < 1
      · have hey : Z.errY v ≠ 0 := fun h => by have := Z.size_bd h; omega
        rw [Z.stepD_none2 hgot (fun h => hey (Z.may_err h.1))] at hlp
        repeat' (first | (refine pc_symbol_Size (SySize_ok hG hS v ?_); clear hS; intro w hS) | (refine pN_lss_s ?_ ?_ <;> intro hc <;> try (exfalso; omega)) | refine pIf_t ?_ | refine pGd_go (by rfl) ?_ | refine pGd_no (by rfl) ?_ | refine pN_l hS (by first | rfl | assumption) ?_ | refine pN_la hS (by rfl) ?_ | (refine pN_sa hS (by rfl) (by rfl) (by rfl) ?_; clear hS; intro w hS; try dsimp only at hS) | (refine pN_nz hS ?_; clear hS; intro a w hS) | refine pN_v (hk := ?_) | fail)
        exact fin _ (tkn hlp.symm) ⟨some z1, hS.to⟩
      by_cases c2 : n - gs.out.length < Z.size v
      · rw [Z.stepD_none2 hgot (fun h => by omega)] at hlp
        repeat' (first | (refine pc_symbol_Size (SySize_ok hG hS v ?_); clear hS; intro w hS) | ((first | refine pN_lss_s ?_ ?_ | refine pN_gtr_s ?_ ?_) <;> intro hc <;> try (exfalso; omega)) | refine pIf_t ?_ | refine pGd_go (by rfl) ?_ | refine pN_l hS (by first | rfl | assumption) ?_ | refine pN_la hS (by rfl) ?_ | (refine pN_sa hS (by rfl) (by rfl) (by rfl) ?_; clear hS; intro w hS; try dsimp only at hS) | (refine pN_nz hS ?_; clear hS; intro a w hS) | refine pN_v (hk := ?_) | fail)
        exact fin _ (tkn hlp.symm) ⟨some z1, hS.to⟩
      by_cases c3 : Z.may gs.x gs.st v = 0
      rotate_left 1
      · rw [Z.stepD_none2 hgot (fun h => c3 h.1)] at hlp
        repeat' (first | (refine pc_symbol_Size (SySize_ok hG hS v ?_); clear hS; intro w hS) | refine pL_la_at (n := 5) hS gs.st.cells rfl rfl ?_ | ((first | refine pN_lss_s ?_ ?_ | refine pN_gtr_s ?_ ?_) <;> intro hc <;> try (exfalso; omega)) | refine pIf_f ?_ | refine pGd_go (by rfl) ?_ | refine pN_l hS (by first | rfl | assumption) ?_ | refine pL_l hS (by first | rfl | assumption) ?_ | refine pN_la hS (by rfl) ?_ | refine pL_la hS (by rfl) ?_ | (refine pN_sa hS (by rfl) (by rfl) (by rfl) ?_; clear hS; intro w hS; try dsimp only at hS) | (refine pDr_go hS ?_; clear hS; intro w hS) | (refine pN_nz hS ?_; clear hS; intro a w hS) | refine pN_v (hk := ?_) | refine pA_v (hk := ?_) | fail)
        refine ⟨?_, ?_⟩
        all_goals
          repeat' (first | refine ⟨⟨run_la_at hS _ (by rfl) (by rfl), run_la_at (n := 5) hS gs.st.cells rfl rfl, run_l hS (by rfl), run_l hS (by rfl), trivial⟩, ?_⟩ | (refine pc_symbol_Apply (Apply_no (y := v) hG (hS.fd (Win wd)) hs.st c3 ?_); clear hS; intro w hS) | (refine pN_neq_s ?_ ?_ <;> intro hc <;> try (exfalso; first | omega | exact hc rfl | exact hc (by assumption) | exact absurd hc (by assumption))) | refine pIf_t ?_ | (refine pN_sa hS (by rfl) (by rfl) (by rfl) ?_; clear hS; intro w hS; try dsimp only at hS) | (refine pN_nz hS ?_; clear hS; intro a w hS) | refine ⟨trivial, ?_⟩ | refine pA_v (hk := ?_) | fail)
          exact fin _ (tkn hlp.symm) ⟨some z1, hS.to⟩
      rw [Z.stepD_go hgot c3 (by omega)] at hlp
      have hey := Z.may_err c3
      have hsb2 := Z.size_bd hey
      have hml := Z.made_len (x := gs.x) (s := gs.st) hey
      have hss := hs.st.next hey
      have fwd : ∀ (sl so : Sl) (w : World), Sat E w (cel r ⟨233, rdCells b dd false⟩ :: Rsd e.p l dd q (some z1) :: cel b ⟨171, dcCells t wd false⟩ :: cel t ⟨141, tbCells e.p (gs.st.next v) q⟩ :: Win wd (gs.x.put (Z.made gs.x gs.st v)) :: rows cd_api_Symbol sl (gs.l ++ [v]) :: rows cd_uint8 so (gs.out ++ Z.made gs.x gs.st v) :: M) →
          (∃ (f : Nat) (s' : Z.LS) (sl' so' : Sl), Value.slice sl.a (gs.l ++ [v]).length sl.c = .slice sl'.a s'.l.length sl'.c ∧ Value.slice so.a (gs.out ++ Z.made gs.x gs.st v).length so.c = .slice so'.a s'.out.length so'.c ∧ s'.Ok e.p ∧ s'.z.d.b = l ∧ s'.x.size = e.x.size ∧ s'.x.all.length = e.x.all.length + s'.out.length ∧ (s'.out.length : Int) ≤ n ∧ s'.l.length ≤ s'.out.length ∧ n - s'.out.length ≤ f ∧ Z.loopD e.p n f s' = Z.loopD e.p n n.toNat (e.ls d) ∧
            Sat E w (cel r ⟨233, rdCells b dd false⟩ :: Rsd e.p l dd q (some s'.z) :: cel b ⟨171, dcCells t wd false⟩ :: cel t ⟨141, tbCells e.p s'.st q⟩ :: Win wd s'.x :: rows cd_api_Symbol sl' s'.l :: rows cd_uint8 so' s'.out :: M)) := fun sl so w hS =>
        ⟨f, gs.step z1 v, sl, so, rfl, rfl, ⟨hss, hz1.1⟩, hz1.2.trans hsb, hsz, by simp only [Z.LS.step, Z.W.put, List.length_append]; omega, by simp only [Z.LS.step, List.length_append]; omega, by simp only [Z.LS.step, List.length_append, List.length_cons, List.length_nil]; omega, by simp only [Z.LS.step, List.length_append]; omega, hlp, hS⟩
      clear fin tkn hlp
      repeat' (first | (refine pc_symbol_Size (SySize_ok hG hS v ?_); clear hS; intro w hS) | refine pL_la_at (n := 5) hS gs.st.cells rfl rfl ?_ | ((first | refine pN_lss_s ?_ ?_ | refine pN_gtr_s ?_ ?_) <;> intro hc <;> try (exfalso; omega)) | refine pIf_f ?_ | refine pGd_go (by rfl) ?_ | refine pN_l hS (by first | rfl | assumption) ?_ | refine pL_l hS (by first | rfl | assumption) ?_ | refine pN_la hS (by rfl) ?_ | refine pL_la hS (by rfl) ?_ | (refine pN_sa hS (by rfl) (by rfl) (by rfl) ?_; clear hS; intro w hS; try dsimp only at hS) | (refine pDr_go hS ?_; clear hS; intro w hS) | (refine pN_nz hS ?_; clear hS; intro a w hS) | refine pN_v (hk := ?_) | refine pA_v (hk := ?_) | fail)
      refine ⟨?_, ?_⟩
      all_goals
        repeat' (first | refine ⟨⟨run_la_at hS _ (by rfl) (by rfl), run_la_at (n := 5) hS gs.st.cells rfl rfl, run_l hS (by rfl), run_l hS (by rfl), trivial⟩, ?_⟩ | (refine pc_symbol_Apply (Apply_in (y := v) hG (hS.fd (Win wd)) hs.st c3 hx2 ?_); clear hS; intro s' w hS) | refine pL_la_at (n := 5) hS (gs.st.next v).cells rfl rfl ?_ | (refine pN_sa_at (us := (gs.st.next v).cells) hS rfl (Nat.le_of_ble_eq_true rfl) rfl ?_; clear hS; intro w hS) | (refine pN_neq_s ?_ ?_ <;> intro hc <;> try (exfalso; first | omega | exact hc rfl | exact hc (by assumption) | exact absurd hc (by assumption))) | refine pIf_f ?_ | refine pL_l hS (by first | rfl | assumption) ?_ | refine pN_la hS (by rfl) ?_ | (refine pDr_go hS ?_; clear hS; intro w hS) | (refine pN_nz hS ?_; clear hS; intro a w hS) | refine ⟨trivial, ?_⟩ | (refine pN_b1 hS (by rfl) (by decide) ?_; clear hS; intro s w hS) | (refine pN_app hS (by first | rfl | omega | simpa only [go_sem] using True.intro | (simp only [go_sem]; omega)) (by first | rfl | omega | simpa only [go_sem] using True.intro | (simp only [go_sem]; omega)) (by first | omega | (simp only [go_sem]; omega)) ?_; clear hS; intro s w hS) | refine pA_v (hk := ?_) | fail)
        have hS := cel_conv (o' := ⟨141, tbCells e.p (gs.st.next v) q⟩) rfl (hS.fd (cel t))
        skip
        exact ⟨fwd _ _ _ hS.to, by simp only [List.length_append]; omega⟩
  · have hend := Z.loopD_end (p := e.p) (f := f) hlt
    obtain ⟨y, hy, hyb, hys, hS⟩ := Rsd.opn (hS.fd (Rsd e.p l dd q))
    obtain rfl := hys _ rfl
    repeat' (first | (refine pc_rcdec_Decoder_Done (Done_ok (hS.fd (Dec dd)) ?_); clear hS; intro w hS) | (refine pN_lss_s ?_ ?_ <;> intro hc <;> try (exfalso; omega)) | refine pIf_f ?_ | refine pN_l hS (by first | rfl | assumption) ?_ | refine pN_v (hk := ?_) | fail)
    exact hok d gs sl so _ hst (hlp.symm.trans hend) hs hS.to

theorem nil_rows {L : List HA} (hS : Sat E w L) : Sat E w (rows cd_api_Symbol ⟨none, 0⟩ [] :: rows cd_uint8 ⟨none, 0⟩ [] :: L) := by
  have hS : Sat E w (rows cd_uint8 ⟨none, 0⟩ [] :: _) := hS.nil 5 1
  exact hS.nil 48 4

set_option maxHeartbeats 1000000 in
theorem DcTake_ok {s0 : Sl} {l : List UInt8} {d : Z.DS} (hG : Glo W) (hS : Sat E w (LDec b d :: M)) [h : Has (old W) M N] [hr : Rds cd_uint8 M s0 l] (hb : l.length ≤ 225000000000000) (n : Int) (hx : d.len + 2097152 + 273 ≤ 4611686018427387904)
    (hQ : ∀ sl so w, Sat E w (rows cd_api_Symbol sl (d.take l n).l :: rows cd_uint8 so (d.take l n).out :: LDec b (d.take l n).d :: M) → Q (.tuple #[.slice sl.a (d.take l n).l.length sl.c, .slice so.a (d.take l n).out.length so.c, .int .i64 (d.take l n).e]) w) :
    Calls Tryz.prog 39 #[pz b, .slice s0.a l.length s0.c, .int .i64 n] w (retP Q) := by
  refine lzdec_Decoder_Take.calls ?_
  unfold lzdec_Decoder_Take.F
  by_cases hn : 1 ≤ n ∧ n ≤ 2097152
  rotate_left 1
  · have e : d.take l n = ⟨d, 7, [], []⟩ := by unfold Z.DS.take; rw [if_neg hn]
    rw [e] at hQ
    by_cases h1 : n < 1
    · repeat' (first | (refine pN_lss_s ?_ ?_ <;> intro hc <;> try (exfalso; omega)) | refine pIf_t ?_ | refine pGd_no (by rfl) ?_ | refine pN_v (hk := ?_) | fail)
      exact hQ ⟨none, 0⟩ ⟨none, 0⟩ _ (nil_rows hS)
    · repeat' (first | ((first | refine pN_lss_s ?_ ?_ | refine pN_gtr_s ?_ ?_) <;> intro hc <;> try (exfalso; omega)) | refine pIf_t ?_ | refine pGd_go (by rfl) ?_ | refine pN_v (hk := ?_) | fail)
      exact hQ ⟨none, 0⟩ ⟨none, 0⟩ _ (nil_rows hS)
  obtain ⟨n0, n1⟩ := hn
  obtain ⟨t, wd, q, e, he, hf, hS⟩ := LDec.opn hS
  cases d with
  | sp p z m =>
    have e2 : (Z.DS.sp p z m).take l n = ⟨.sp p z m, 2, [], []⟩ := by unfold Z.DS.take; rw [if_pos ⟨n0, n1⟩]
    rw [e2] at hQ
    have hS : Sat E w (cel b ⟨171, dcCells t wd true⟩ :: cel t ⟨141, tbCells e.p e.st q⟩ :: Win wd e.x :: tabs q e.T :: M) := hS
    repeat' (first | ((first | refine pN_lss_s ?_ ?_ | refine pN_gtr_s ?_ ?_) <;> intro hc <;> try (exfalso; omega)) | refine pIf_t ?_ | refine pIf_f ?_ | refine pGd_go (by rfl) ?_ | refine pN_l hS (by first | rfl | assumption) ?_ | refine pN_v (hk := ?_) | fail)
    exact hQ ⟨none, 0⟩ ⟨none, 0⟩ _ (nil_rows (LDec.shut (d := .sp p z m) hS he hf))
  | ok e' =>
    cases hf
    have hS : Sat E w (cel b ⟨171, dcCells t wd false⟩ :: cel t ⟨141, tbCells e.p e.st q⟩ :: Win wd e.x :: tabs q e.T :: M) := hS
    have hx : e.x.all.length + 2097152 + 273 ≤ 4611686018427387904 := hx
    repeat' (first | ((first | refine pN_lss_s ?_ ?_ | refine pN_gtr_s ?_ ?_) <;> intro hc <;> try (exfalso; omega)) | refine pIf_f ?_ | refine pGd_go (by rfl) ?_ | refine pN_l hS (by first | rfl | assumption) ?_ | refine pN_v (hk := ?_) | fail)
    refine pc_lzdec_Decoder_all (all_ok hG he hS hb n0 n1 (by omega) (fun dd gs sl so w hst hlp hgs hS => ?_) fun f w htk hf1 hf2 hf3 hf4 hS => ?_)
    · by_cases hc : gs.z.d.k = gs.z.d.b.length ∧ gs.z.d.C = 0
      · have htk : e.take l n = some (⟨e.p, gs.st, gs.z.T, gs.x⟩, gs.l, gs.out) := by
          unfold Z.DZ.take
          rw [hst]
          simp only [hlp]
          rw [if_pos hc]
        have e2 : (Z.DS.ok e).take l n = ⟨.ok ⟨e.p, gs.st, gs.z.T, gs.x⟩, 0, gs.l, gs.out⟩ := by
          unfold Z.DS.take
          rw [if_pos ⟨n0, n1⟩]
          simp only [htk]
        rw [e2] at hQ
        rw [decide_eq_true hc]
        repeat' (first | refine pIf_f ?_ | refine pN_v (hk := ?_) | fail)
        refine hQ sl so _ ?_
        have hS := LDec.shut (b := b) (d := .ok ⟨e.p, gs.st, gs.z.T, gs.x⟩) (e := ⟨e.p, gs.st, gs.z.T, gs.x⟩) (t := t) (wd := wd) (q := q) (M := rows cd_api_Symbol sl gs.l :: rows cd_uint8 so gs.out :: M) (by exact hS.fd4 (cel b) (cel t) (Win wd) (tabs q)) ⟨he.p, hgs.st, hgs.z.T⟩ rfl
        exact hS.to
      · have htk : e.take l n = none := by
          unfold Z.DZ.take
          rw [hst]
          simp only [hlp]
          rw [if_neg hc]
        have e2 : (Z.DS.ok e).take l n = ⟨.sp e.p e.x.size (e.x.all.length + n.toNat), 2, [], []⟩ := by
          unfold Z.DS.take
          rw [if_pos ⟨n0, n1⟩]
          simp only [htk]
        rw [e2] at hQ
        rw [decide_eq_false hc]
        have hfin := Z.loop_fin (s := e.ls dd) n.toNat hlp
        repeat' (first | refine pIf_t ?_ | (refine pN_s hS (by first | exact Nat.le_of_ble_eq_true rfl | assumption) (by rfl) ?_; clear hS; intro w hS; try simp only [List.set_cons_zero, List.set_cons_succ] at hS) | refine pN_v (hk := ?_) | fail)
        refine hQ ⟨none, 0⟩ ⟨none, 0⟩ _ (nil_rows ?_)
        refine LDec.shut (b := b) (d := .sp e.p e.x.size (e.x.all.length + n.toNat)) (e := ⟨e.p, gs.st, gs.z.T, gs.x⟩) (t := t) (wd := wd) (q := q) ?_ ⟨he.p, hgs.st, hgs.z.T⟩ ⟨rfl, hfin.1, ?_⟩
        · have hS4 : Sat E _ (cel b ⟨171, dcCells t wd true⟩ :: cel t ⟨141, tbCells e.p gs.st q⟩ :: Win wd gs.x :: tabs q gs.z.T :: M) := hS.to
          exact hS4
        · have h1 := hfin.2.1
          have h2 := hfin.2.2 (by show ((0 : Nat) : Int) ≤ n; omega)
          have h3 : gs.x.all.length + 0 = e.x.all.length + gs.out.length := h1
          show gs.x.all.length ≤ _
          omega
    · have e2 : (Z.DS.ok e).take l n = ⟨.sp e.p e.x.size (e.x.all.length + n.toNat), 2, [], []⟩ := by
        unfold Z.DS.take
        rw [if_pos ⟨n0, n1⟩]
        simp only [htk]
      rw [e2] at hQ
      repeat' (first | refine pIf_t ?_ | (refine pN_s hS (by first | exact Nat.le_of_ble_eq_true rfl | assumption) (by rfl) ?_; clear hS; intro w hS; try simp only [List.set_cons_zero, List.set_cons_succ] at hS) | refine pN_v (hk := ?_) | fail)
      refine hQ ⟨none, 0⟩ ⟨none, 0⟩ _ (nil_rows ?_)
      refine LDec.shut (b := b) (d := .sp e.p e.x.size (e.x.all.length + n.toNat)) (e := f) (t := t) (wd := wd) (q := q) ?_ hf1 ⟨hf2, hf3, hf4⟩
      have hS4 : Sat E _ (cel b ⟨171, dcCells t wd true⟩ :: cel t ⟨141, tbCells f.p f.st q⟩ :: Win wd f.x :: tabs q f.T :: M) := hS.to
      exact hS4
end

end Go.Proofs.YtbgnnjfpiblkmaaGreatDoor

namespace Go.Proofs.YtbgnnjfpiblkmaaGreatDoor
open Go
def RDoc (r : Nat) (d : Z.DS) : HA := fun h => ∃ k : Nat × Value × Bool × Z.EZ, d.fits k.2.2.2.dz ∧ Sats [cel r ⟨182, [pz k.1, k.2.1, .bool k.2.2.1, .bool d.bad]⟩, RCod k.1 k.2.2.2] h
section
variable {E w : World} {M : List HA} {r c : Nat} {d : Z.DS} {e : Z.EZ} {v : Value} {bad : Bool}
theorem RDoc.opn (hS : Sat E w (RDoc r d :: M)) : ∃ c v bad e, d.fits (Z.EZ.dz e) ∧ Sat E w (cel r ⟨182, [pz c, v, .bool bad, .bool d.bad]⟩ :: RCod c e :: M) := by
  obtain ⟨k, hS⟩ := hS.ex
  obtain ⟨h1, ⟨hA, _⟩, _⟩ := hS.head
  exact ⟨k.1, k.2.1, k.2.2.1, k.2.2.2, hA, hS.open_ (M := [_, _]) fun _ h => h.2⟩
theorem RDoc.shut (hS : Sat E w (cel r ⟨182, [pz c, v, .bool bad, .bool d.bad]⟩ :: RCod c e :: M)) (hf : d.fits e.dz) : Sat E w (RDoc r d :: M) :=
  Sat.shut (M := [_, _]) hS fun _ h => ⟨(c, v, bad, e), hf, h⟩
end
attribute [local irreducible] oMv oV oU oCall oCallV oBi oBin oUn oLoad oStore oNil oFld oField oIdx oIndex oPick oAlloc oBox oBuild oBs oConv oMk oSl oExt oFn oIface oMap oLook oMapUp oRange oNext oEntry oInv oAssert oPanic oRes pN pA pL pDr pIf gA pGd Calls

section
variable {E w W : World} {M N : List HA} {Q : Value → World → Prop} {r c bw bm be : Nat} {v : Value} {bad : Bool}
set_option maxHeartbeats 4000000 in
theorem d15symbols_ok {s0 : Sl} {l : List UInt8} {e : Z.DZ} {n : Int} {nn : Key → List Int} (he : e.Ok) (h1 : 1 ≤ e.x.size) (hrel : Z.Rel Z.pre14 768 e.p nn e.T)
    (hS : Sat E w (cel r ⟨182, [pz c, v, .bool bad, .bool false]⟩ :: Cod c e.p bw e.st bm be :: RWin bw e.x :: RSets bm nn :: M)) [hr : Rds cd_uint8 M s0 l] (hb : l.length ≤ 140737488355328)
    (n0 : 1 ≤ n) (n1 : n ≤ 2097152) (hx : e.x.all.length + n.toNat + 273 ≤ 140737488355328)
    (hok : ∀ d gs sl so dd nn w, D.start l = .ok d () → Z.loopD e.p n n.toNat (e.ls d) = some gs → gs.Ok e.p → Z.Rel Z.pre14 768 e.p nn gs.z.T → Sat E w (rows cd_api_Symbol sl gs.l :: rows cd_uint8 so gs.out :: cel r (d15C c dd false false) :: Cod c e.p bw gs.st bm be :: RWin bw gs.x :: RSets bm nn :: M) →
      Q (.tuple #[.slice sl.a gs.l.length sl.c, .slice so.a gs.out.length so.c, .bool (decide (gs.z.d.k = gs.z.d.b.length ∧ gs.z.d.C = 0))]) w)
    (hno : ∀ (f : Z.DZ) v bad nn w, e.take l n = none → f.Ok → f.p = e.p → f.x.size = e.x.size → f.x.all.length ≤ e.x.all.length + n.toNat → Z.Rel Z.pre14 768 e.p nn f.T → Sat E w (cel r ⟨182, [pz c, v, .bool bad, .bool false]⟩ :: Cod c f.p bw f.st bm be :: RWin bw f.x :: RSets bm nn :: M) →
      Q (.tuple #[.slice none 0 0, .slice none 0 0, .bool false]) w) :
    Calls Tryz.prog 140 #[pz r, .slice s0.a l.length s0.c, .int .i64 n] w (retP Q) := by
  refine pithref15_Decoder_symbols.calls ?_
  unfold pithref15_Decoder_symbols.F
  refine pc_pithref08_New (R8New_ok hS hb (fun d dd w hst hS => ?_) fun e' w hst hS => ?_)
  rotate_left 1
  · have hne : e' ≠ 0 := by
      unfold D.start at hst
      split at hst
      · cases hst; decide
      · split at hst
        · cases hst; decide
        · cases hst
    repeat' (first | (refine pN_neq_s ?_ ?_ <;> intro hc <;> try (exfalso; first | omega | exact hc rfl | exact hc (by assumption) | exact absurd hc (by assumption))) | refine pIf_t ?_ | refine pN_v (hk := ?_) | fail)
    exact hno e _ _ _ _ (by unfold Z.DZ.take; rw [hst]) he rfl rfl (Nat.le_add_right _ _) hrel hS
  have hso := D.start_ok hst
  have hS : Sat E w (rows cd_api_Symbol ⟨none, 0⟩ [] :: _) := hS.nil 48 4
  have hS : Sat E w (rows cd_uint8 ⟨none, 0⟩ [] :: _) := hS.nil 5 1
  repeat' (first | (refine pN_neq_s ?_ ?_ <;> intro hc <;> try (exfalso; first | omega | exact hc rfl | exact hc (by assumption) | exact absurd hc (by assumption))) | refine pIf_f ?_ | (refine pN_s hS (by first | exact Nat.le_of_ble_eq_true rfl | assumption) (by rfl) ?_; clear hS; intro w hS; try simp only [List.set_cons_zero, List.set_cons_succ] at hS) | refine pN_v (hk := ?_) | fail)
  have hS := D15.shut (p := e.p) (B := l) (y := ⟨d, e.T⟩) (z := some ⟨d, e.T⟩) (hS.fd2 (RDec dd) (NSets RSet Z.fresh bm)) ⟨hso.1, he.T⟩ hso.2.1 (fun _ h => by cases h; rfl) hrel
  have hS0 : Sat E _ (cel r (d15C c dd false false) :: Cod c e.p bw e.st bm be :: D15 e.p l dd bm (some ⟨d, e.T⟩) :: RWin bw e.x :: rows cd_api_Symbol ⟨none, 0⟩ [] :: rows cd_uint8 ⟨none, 0⟩ [] :: M) := hS.to
  refine ⟨fun v1 v2 w => ∃ (f : Nat) (gs : Z.LS) (sl so : Sl), v1 = .slice sl.a gs.l.length sl.c ∧ v2 = .slice so.a gs.out.length so.c ∧ gs.Ok e.p ∧ gs.z.d.b = l ∧ gs.x.size = e.x.size ∧ gs.x.all.length = e.x.all.length + gs.out.length ∧ (gs.out.length : Int) ≤ n ∧ gs.l.length ≤ gs.out.length ∧ n - gs.out.length ≤ f ∧ Z.loopD e.p n f gs = Z.loopD e.p n n.toNat (e.ls d) ∧
    Sat E w (cel r (d15C c dd false false) :: Cod c e.p bw gs.st bm be :: D15 e.p l dd bm (some gs.z) :: RWin bw gs.x :: rows cd_api_Symbol sl gs.l :: rows cd_uint8 so gs.out :: M),
    fun _ v _ => match v with | .slice _ k _ => n.toNat - k | _ => 0, ⟨n.toNat, e.ls d, ⟨none, 0⟩, ⟨none, 0⟩, rfl, rfl, ⟨he.st, ⟨hso.1, he.T⟩⟩, hso.2.1, rfl, rfl, by show ((0 : Nat) : Int) ≤ n; omega, Nat.le_refl _, by show n - ((0 : Nat) : Int) ≤ _; omega, rfl, hS0⟩, ?_⟩
  clear hS hS0
  rintro _ _ _ w ⟨f, gs, sl, so, rfl, rfl, hs, hsb, hsz, hsx, hsn, hsl, hf, hlp, hS⟩
  have hx2 : gs.x.all.length + 273 ≤ 140737488355328 := by omega
  have h1g : 1 ≤ gs.x.size := by omega
  by_cases hlt : (gs.out.length : Int) < n
  · obtain ⟨f, rfl⟩ : ∃ k, f = k + 1 := ⟨f - 1, by omega⟩
    rw [Z.loopD_go hlt] at hlp
    repeat' (first | (refine pN_lss_s ?_ ?_ <;> intro hc <;> try (exfalso; omega)) | refine pIf_t ?_ | refine pN_v (hk := ?_) | fail)
    refine pc_pithref15_Decoder_symbol (d15symbol_ok (z := some gs.z) he.p hs.st hb (by omega) h1g hS fun y v w hgot hS => ?_)
    have fin : ∀ (w : World) (b : Bool), e.take l n = none → (∃ z : Option Z.RS, Sat E w (cel r (d15C c dd b false) :: Cod c e.p bw gs.st bm be :: D15 e.p l dd bm z :: RWin bw gs.x :: M)) → Q (.tuple #[.slice none 0 0, .slice none 0 0, .bool false]) w := by
      rintro w b ht ⟨z, hS⟩
      obtain ⟨y, nn, hy, _, _, hrel, hS⟩ := D15.opn (hS.fd (D15 e.p l dd bm))
      exact hno ⟨e.p, gs.st, y.T, gs.x⟩ (pz dd) b nn w ht ⟨he.p, hs.st, hy.T⟩ rfl hsz (by simp only; omega) hrel hS.to
    have tkn : Z.loopD e.p n n.toNat (e.ls d) = none → e.take l n = none := fun h => by unfold Z.DZ.take; rw [hst]; simp only [h]
    cases y with
    | none =>
      rw [Z.stepD_none1 hgot] at hlp
      simp only [Option.isNone_none] at hS
      repeat' (first | refine pIf_t ?_ | refine pGd_no (by rfl) ?_ | refine pN_l hS (by first | rfl | assumption) ?_ | (refine pN_sa hS (by rfl) (by rfl) (by rfl) ?_; clear hS; intro w hS; try dsimp only at hS) | (refine pN_nz hS ?_; clear hS; intro a w hS) | refine pN_v (hk := ?_) | fail)
      exact fin _ true (tkn hlp.symm) ⟨none, hS.to⟩
    | some z1 =>
      have hgot : (Z.symRd e.p gs.st gs.x).run gs.z = some (z1, v) := hgot
      have hz1 := Z.Rd.run_ok (Z.symRd_ok he.p hs.st gs.x) hs.z hgot
      simp only [Option.isNone_some] at hS
      have hszb : 0 ≤ Z.size v ∧ Z.size v ≤ 273 := by
        by_cases hey : Z.errY v = 0
        · have := Z.size_bd hey; omega
        · have : Z.size v = 0 := by unfold Z.size; rw [if_pos hey]
          omega
      by_cases c2 : n - gs.out.length < Z.size v
      · rw [Z.stepD_none2 hgot (fun h => by omega)] at hlp
        repeat' (first | (refine pc_pithref13_Size (R13Size_ok (y := v) hS ?_); clear hS; intro w hS) | (refine pN_gtr_s ?_ ?_ <;> intro hc <;> try (exfalso; omega)) | refine pIf_t ?_ | refine pGd_go (by rfl) ?_ | refine pN_l hS (by first | rfl | assumption) ?_ | refine pN_la hS (by rfl) ?_ | (refine pN_sa hS (by rfl) (by rfl) (by rfl) ?_; clear hS; intro w hS; try dsimp only at hS) | (refine pN_nz hS ?_; clear hS; intro a w hS) | refine pN_v (hk := ?_) | fail)
        exact fin _ false (tkn hlp.symm) ⟨some z1, hS.to⟩
      by_cases c3 : Z.may gs.x gs.st v = 0
      rotate_left 1
      · rw [Z.stepD_none2 hgot (fun h => c3 h.1)] at hlp
        repeat' (first | (refine pc_pithref13_Size (R13Size_ok (y := v) hS ?_); clear hS; intro w hS) | refine pL_la_at (n := 5) hS gs.st.cells rfl rfl ?_ | (refine pN_gtr_s ?_ ?_ <;> intro hc <;> try (exfalso; omega)) | refine pIf_f ?_ | refine pGd_go (by rfl) ?_ | refine pN_l hS (by first | rfl | assumption) ?_ | refine pL_l hS (by first | rfl | assumption) ?_ | refine pN_la hS (by rfl) ?_ | refine pL_la hS (by rfl) ?_ | (refine pN_sa hS (by rfl) (by rfl) (by rfl) ?_; clear hS; intro w hS; try dsimp only at hS) | (refine pDr_go hS ?_; clear hS; intro w hS) | (refine pN_nz hS ?_; clear hS; intro a w hS) | refine pN_v (hk := ?_) | refine pA_v (hk := ?_) | fail)
        refine ⟨?_, ?_⟩
        all_goals
          repeat' (first | refine And.intro True.intro ?_ | refine ⟨⟨run_la_at hS _ (by rfl) (by rfl), run_la_at (n := 5) hS gs.st.cells rfl rfl, run_l hS (by rfl), run_l hS (by rfl), run_l hS (by rfl), trivial⟩, ?_⟩ | (refine pc_pithref13_Apply (R13Apply_no (y := v) (hS.fd (RWin bw)) (by omega) hs.st c3 ?_); clear hS; intro w hS) | (refine pN_neq_s ?_ ?_ <;> intro hc <;> try (exfalso; first | omega | exact hc rfl | exact hc (by assumption) | exact absurd hc (by assumption))) | refine pIf_t ?_ | (refine pN_sa hS (by rfl) (by rfl) (by rfl) ?_; clear hS; intro w hS; try dsimp only at hS) | (refine pN_nz hS ?_; clear hS; intro a w hS) | refine pA_v (hk := ?_) | fail)
          exact fin _ false (tkn hlp.symm) ⟨some z1, hS.to⟩
      rw [Z.stepD_go hgot c3 (by omega)] at hlp
      have hey := Z.may_err c3
      have hsb2 := Z.size_bd hey
      have hml := Z.made_len (x := gs.x) (s := gs.st) hey
      have hss := hs.st.next hey
      have fwd : ∀ (sl so : Sl) (w : World), Sat E w (cel r (d15C c dd false false) :: Cod c e.p bw (gs.st.next v) bm be :: D15 e.p l dd bm (some z1) :: RWin bw (gs.x.put (Z.made gs.x gs.st v)) :: rows cd_api_Symbol sl (gs.l ++ [v]) :: rows cd_uint8 so (gs.out ++ Z.made gs.x gs.st v) :: M) →
          (∃ (f : Nat) (s' : Z.LS) (sl' so' : Sl), Value.slice sl.a (gs.l ++ [v]).length sl.c = .slice sl'.a s'.l.length sl'.c ∧ Value.slice so.a (gs.out ++ Z.made gs.x gs.st v).length so.c = .slice so'.a s'.out.length so'.c ∧ s'.Ok e.p ∧ s'.z.d.b = l ∧ s'.x.size = e.x.size ∧ s'.x.all.length = e.x.all.length + s'.out.length ∧ (s'.out.length : Int) ≤ n ∧ s'.l.length ≤ s'.out.length ∧ n - s'.out.length ≤ f ∧ Z.loopD e.p n f s' = Z.loopD e.p n n.toNat (e.ls d) ∧
            Sat E w (cel r (d15C c dd false false) :: Cod c e.p bw s'.st bm be :: D15 e.p l dd bm (some s'.z) :: RWin bw s'.x :: rows cd_api_Symbol sl' s'.l :: rows cd_uint8 so' s'.out :: M)) := fun sl so w hS =>
        ⟨f, gs.step z1 v, sl, so, rfl, rfl, ⟨hss, hz1.1⟩, hz1.2.trans hsb, hsz, by simp only [Z.LS.step, Z.W.put, List.length_append]; omega, by simp only [Z.LS.step, List.length_append]; omega, by simp only [Z.LS.step, List.length_append, List.length_cons, List.length_nil]; omega, by simp only [Z.LS.step, List.length_append]; omega, hlp, hS⟩
      clear fin tkn hlp
      repeat' (first | (refine pc_pithref13_Size (R13Size_ok (y := v) hS ?_); clear hS; intro w hS) | refine pL_la_at (n := 5) hS gs.st.cells rfl rfl ?_ | (refine pN_gtr_s ?_ ?_ <;> intro hc <;> try (exfalso; omega)) | refine pIf_f ?_ | refine pGd_go (by rfl) ?_ | refine pN_l hS (by first | rfl | assumption) ?_ | refine pL_l hS (by first | rfl | assumption) ?_ | refine pN_la hS (by rfl) ?_ | refine pL_la hS (by rfl) ?_ | (refine pN_sa hS (by rfl) (by rfl) (by rfl) ?_; clear hS; intro w hS; try dsimp only at hS) | (refine pDr_go hS ?_; clear hS; intro w hS) | (refine pN_nz hS ?_; clear hS; intro a w hS) | refine pN_v (hk := ?_) | refine pA_v (hk := ?_) | fail)
      refine ⟨?_, ?_⟩
      all_goals
        repeat' (first | refine And.intro True.intro ?_ | refine ⟨⟨run_la_at hS _ (by rfl) (by rfl), run_la_at (n := 5) hS gs.st.cells rfl rfl, run_l hS (by rfl), run_l hS (by rfl), run_l hS (by rfl), trivial⟩, ?_⟩ | (refine pc_pithref13_Apply (R13Apply_in (y := v) (hS.fd (RWin bw)) (by omega) hs.st c3 hx2 ?_); clear hS; intro s' w hS) | refine pL_la_at (n := 5) hS (gs.st.next v).cells rfl rfl ?_ | (refine pN_sa_at (us := (gs.st.next v).cells) hS rfl (Nat.le_of_ble_eq_true rfl) rfl ?_; clear hS; intro w hS) | (refine pN_neq_s ?_ ?_ <;> intro hc <;> try (exfalso; first | omega | exact hc rfl | exact hc (by assumption) | exact absurd hc (by assumption))) | refine pIf_f ?_ | refine pL_l hS (by first | rfl | assumption) ?_ | refine pN_la hS (by rfl) ?_ | (refine pDr_go hS ?_; clear hS; intro w hS) | (refine pN_nz hS ?_; clear hS; intro a w hS) | (refine pN_b1 hS (by rfl) (by decide) ?_; clear hS; intro s w hS) | (refine pN_app hS (by first | rfl | omega | simpa only [go_sem] using True.intro | (simp only [go_sem]; omega)) (by first | rfl | omega | simpa only [go_sem] using True.intro | (simp only [go_sem]; omega)) (by first | omega | (simp only [go_sem]; omega)) ?_; clear hS; intro s w hS) | refine pA_v (hk := ?_) | fail)
        have hS := cel_cnv (t := c) (o' := ⟨73, coderC e.p bw (gs.st.next v) bm be⟩) rfl (hS.fd (cel c))
        skip
        exact ⟨fwd _ _ _ hS.to, by simp only [List.length_append]; omega⟩
  · have hend := Z.loopD_end (p := e.p) (f := f) hlt
    obtain ⟨y, nn, hy, hyb, hys, hrel, hS⟩ := D15.opn (hS.fd (D15 e.p l dd bm))
    obtain rfl := hys _ rfl
    repeat' (first | (refine pc_pithref08_Decoder_Done (R8Done_ok (hS.fd (RDec dd)) ?_); clear hS; intro w hS) | (refine pN_lss_s ?_ ?_ <;> intro hc <;> try (exfalso; omega)) | refine pIf_f ?_ | refine pN_l hS (by first | rfl | assumption) ?_ | refine pN_v (hk := ?_) | fail)
    exact hok d gs sl so dd nn _ hst (hlp.symm.trans hend) hs hrel hS.to
end
end Go.Proofs.YtbgnnjfpiblkmaaGreatDoor

namespace Go.Proofs.YtbgnnjfpiblkmaaGreatDoor
open Go
attribute [local irreducible] oMv oV oU oCall oCallV oBi oBin oUn oLoad oStore oNil oFld oField oIdx oIndex oPick oAlloc oBox oBuild oBs oConv oMk oSl oExt oFn oIface oMap oLook oMapUp oRange oNext oEntry oInv oAssert oPanic oRes pN pA pL pDr pIf gA pGd Calls

section
variable {E w W : World} {M N : List HA} {Q : Value → World → Prop} {r c bw bm be : Nat} {d : Z.DS} {p : Z.Pr}
theorem D15New_in (hS : Sat E w M) (hp : p.Ok) (n : Int) (h0 : 1 ≤ n) (h1 : n ≤ 4294967295) (hQ : ∀ b w, Sat E w (RDoc b (.ok (Z.DZ.new p n)) :: M) → Q (.tuple #[pz b, .int .i64 0]) w) :
    Calls Tryz.prog 54 #[.agg #[.int .i64 p.lc, .int .i64 p.lp, .int .i64 p.pb], .int .i64 n] w (retP Q) := by
  refine pithref15_New.calls ?_
  unfold pithref15_New.F
  repeat' (first | (refine pc_pithref14_New (R14New_in hS hp n h0 h1 ?_); clear hS; intro c w hS) | (refine pN_neq_s ?_ ?_ <;> intro hc <;> try (exfalso; first | omega | exact hc rfl | exact hc (by assumption) | exact absurd hc (by assumption))) | refine pIf_f ?_ | refine pN_la hS (by rfl) ?_ | (refine pN_bx hS (by rfl) ?_; clear hS; intro a w hS) | refine pN_v (hk := ?_) | fail)
  have hS : Sat E _ (cel a ⟨182, [pz c, .pointer none, .bool false, .bool false]⟩ :: RCod c (Z.EZ.new p n) :: M) := hS.to
  exact hQ _ _ (RDoc.shut (d := .ok (Z.DZ.new p n)) (e := Z.EZ.new p n) hS rfl)
theorem D15New_no (hS : Sat E w M) (n : Int) (hpb : -9223372036854775808 ≤ p.lc ∧ p.lc < 9223372036854775808) (h : ¬ (p.Ok ∧ 1 ≤ n ∧ n ≤ 4294967295)) (hQ : ∀ w, Sat E w M → Q (.tuple #[.pointer none, .int .i64 (if p.Ok then 7 else 6)]) w) :
    Calls Tryz.prog 54 #[.agg #[.int .i64 p.lc, .int .i64 p.lp, .int .i64 p.pb], .int .i64 n] w (retP Q) := by
  refine pithref15_New.calls ?_
  unfold pithref15_New.F
  have he : (if p.Ok then (7 : Int) else 6) ≠ 0 := by split <;> decide
  have hb : 0 ≤ (if p.Ok then (7 : Int) else 6) ∧ (if p.Ok then (7 : Int) else 6) ≤ 7 := by split <;> decide
  generalize hev : (if p.Ok then (7 : Int) else 6) = ev at *
  repeat' (first | (refine pc_pithref14_New (R14New_no hS n hpb h ?_); rw [hev]; clear hS; intro w hS) | (refine pN_neq_s ?_ ?_ <;> intro hc <;> try (exfalso; first | omega | exact hc rfl | exact hc (by assumption) | exact absurd hc (by assumption))) | refine pIf_t ?_ | refine pN_la hS (by rfl) ?_ | (refine pN_bx hS (by rfl) ?_; clear hS; intro a w hS) | refine pN_v (hk := ?_) | fail)
  exact hQ _ hS.to
theorem D15Raw_ok {s0 : Sl} {l : List UInt8} (hS : Sat E w (RDoc r d :: M)) [hl : Rds cd_uint8 M s0 l] (hn : d.len + l.length ≤ 140737488355328) (hQ : ∀ w, Sat E w (RDoc r (d.raw l) :: M) → Q (.tuple #[]) w) :
    Calls Tryz.prog 57 #[pz r, .slice s0.a l.length s0.c] w (retP Q) := by
  refine pithref15_Decoder_Raw.calls ?_
  unfold pithref15_Decoder_Raw.F
  obtain ⟨c, v, bad, e, hf, hS⟩ := RDoc.opn hS
  obtain ⟨he, h1, bw, bm, be, hS⟩ := RCod.opn (hS.fd (RCod c))
  have hx : e.x.all.length ≤ d.len := by
    cases d with
    | ok e' => cases hf; exact Nat.le_refl _
    | sp p z n => exact hf.2.2
  repeat' (first | (refine pc_pithref10_Window_Put (R10Put_ok (l := l) (hS.fd (RWin bw)) (by omega) ?_); clear hS; intro w hS) | refine pN_l hS (by first | rfl | assumption) ?_ | refine pN_v (hk := ?_) | fail)
  have hS4 := RCod.shut (e := e.raw l) (bw := bw) (bm := bm) (be := be) (hS.fd3 (cel c) (RWin bw) (RT be bm e.p)) (he.raw l) h1
  clear hS
  have hS := hS4.fd (cel r)
  refine hQ _ (RDoc.shut (d := d.raw l) (e := e.raw l) (c := c) (v := v) (bad := bad) ?_ ?_)
  · cases d with
    | ok e' => exact hS
    | sp p z n => exact hS
  · cases d with
    | ok e' => cases hf; rfl
    | sp p z n => exact ⟨hf.1, hf.2.1, by simp only [Z.EZ.dz, Z.EZ.raw, Z.W.put, List.length_append]; have := hf.2.2; simp only [Z.EZ.dz] at this; omega⟩
theorem D15Reset_in (hp : p.Ok) (hS : Sat E w (RDoc r d :: M)) (hQ : ∀ w, Sat E w (RDoc r (d.reset p) :: M) → Q (.int .i64 0) w) :
    Calls Tryz.prog 59 #[pz r, .agg #[.int .i64 p.lc, .int .i64 p.lp, .int .i64 p.pb]] w (retP Q) := by
  refine pithref15_Decoder_Reset.calls ?_
  unfold pithref15_Decoder_Reset.F
  obtain ⟨c, v, bad, e, hf, hS⟩ := RDoc.opn hS
  have er : e.reset p = ⟨p, Z.St.new, Z.T0 p, e.x, e.s⟩ := by rw [Z.EZ.reset, if_pos hp]
  repeat' (first | refine And.intro True.intro ?_ | (refine pc_pithref14_Coder_Reset (R14Reset_in (p := p) hp (hS.fd (RCod c)) ?_); clear hS; intro w hS) | refine pL_l hS (by first | rfl | assumption) ?_ | refine pL_la hS (by rfl) ?_ | (refine pDr_go hS ?_; clear hS; intro w hS) | (refine pN_bx hS (by rfl) ?_; clear hS; intro a w hS) | refine pA_v (hk := ?_) | fail)
  rw [er] at hS
  have hS4 : Sat E _ (cel r ⟨182, [pz c, v, .bool bad, .bool d.bad]⟩ :: RCod c ⟨p, Z.St.new, Z.T0 p, e.x, e.s⟩ :: M) := hS.to
  clear hS
  refine hQ _ (RDoc.shut (d := d.reset p) (e := ⟨p, Z.St.new, Z.T0 p, e.x, e.s⟩) (c := c) (v := v) (bad := bad) ?_ ?_)
  · cases d with
    | ok e' => exact hS4
    | sp p z n => exact hS4
  · cases d with
    | ok e' =>
      cases hf
      show _ = Z.DZ.reset _ _
      rw [Z.DZ.reset, if_pos hp]
      rfl
    | sp p' z n => exact ⟨(if_pos hp).symm, hf.2.1, hf.2.2⟩
theorem D15Reset_no (hp : ¬ p.Ok) (hpb : -9223372036854775808 ≤ p.lc ∧ p.lc < 9223372036854775808) (hS : Sat E w (RDoc r d :: M)) (hQ : ∀ w, Sat E w (RDoc r d :: M) → Q (.int .i64 6) w) :
    Calls Tryz.prog 59 #[pz r, .agg #[.int .i64 p.lc, .int .i64 p.lp, .int .i64 p.pb]] w (retP Q) := by
  refine pithref15_Decoder_Reset.calls ?_
  unfold pithref15_Decoder_Reset.F
  obtain ⟨c, v, bad, e, hf, hS⟩ := RDoc.opn hS
  repeat' (first | refine And.intro True.intro ?_ | (refine pc_pithref14_Coder_Reset (R14Reset_no (p := p) hp hpb (hS.fd (RCod c)) ?_); clear hS; intro w hS) | refine pL_l hS (by first | rfl | assumption) ?_ | refine pL_la hS (by rfl) ?_ | (refine pDr_go hS ?_; clear hS; intro w hS) | (refine pN_bx hS (by rfl) ?_; clear hS; intro a w hS) | refine pA_v (hk := ?_) | fail)
  have hS : Sat E _ (RDoc r d :: _) := RDoc.shut (d := d) (e := e) (c := c) (v := v) (bad := bad) (hS.fd2 (cel r) (RCod c)) hf
  exact hQ _ hS.to
theorem D15Clear_ok (hS : Sat E w (RDoc r d :: M)) (hQ : ∀ w, Sat E w (RDoc r d.clear :: M) → Q (.tuple #[]) w) :
    Calls Tryz.prog 60 #[pz r] w (retP Q) := by
  refine pithref15_Decoder_Clear.calls ?_
  unfold pithref15_Decoder_Clear.F
  obtain ⟨c, v, bad, e, hf, hS⟩ := RDoc.opn hS
  repeat' (first | (refine pc_pithref14_Coder_Clear (R14Clear_ok (hS.fd (RCod c)) ?_); clear hS; intro w hS) | refine pN_l hS (by first | rfl | assumption) ?_ | (refine pN_s hS (by first | exact Nat.le_of_ble_eq_true rfl | assumption) (by rfl) ?_; clear hS; intro w hS; try simp only [List.set_cons_zero, List.set_cons_succ] at hS) | refine pN_v (hk := ?_) | fail)
  have hS4 : Sat E _ (cel r ⟨182, [pz c, v, .bool bad, .bool false]⟩ :: RCod c e.clear :: M) := hS.to
  clear hS
  refine hQ _ (RDoc.shut (d := d.clear) (e := e.clear) (c := c) (v := v) (bad := bad) ?_ ?_)
  · cases d with
    | ok e' => exact hS4
    | sp p z n => exact hS4
  · cases d with
    | ok e' => cases hf; rfl
    | sp p z n =>
      obtain ⟨rfl, rfl, _⟩ := hf
      rfl

theorem RCod.fin {e : Z.EZ} {f : Z.DZ} {nn : Key → List Int} {L : List HA} (hS : Sat E w (Cod c f.p bw f.st bm be :: RWin bw f.x :: REnc be e.s :: RSets bm nn :: L)) (he : e.Ok) (hf : f.Ok) (h1 : 1 ≤ f.x.size) (hrel : Z.Rel Z.pre14 768 f.p nn f.T) : Sat E w (RCod c ⟨f.p, f.st, f.T, f.x, e.s⟩ :: L) := by
  have hS := RT.shut (p := f.p) (z := ⟨e.s, f.T⟩) (hS.fd2 (REnc be) (NSets RSet Z.fresh bm)) ⟨he.s, hf.T⟩ hrel
  exact RCod.shut (e := ⟨f.p, f.st, f.T, f.x, e.s⟩) (bw := bw) (bm := bm) (be := be) (hS.fd3 (cel c) (RWin bw) (RT be bm f.p)) ⟨hf.p, hf.st, hf.T, he.s⟩ h1

set_option maxHeartbeats 1000000 in
theorem D15Take_ok {s0 : Sl} {l : List UInt8} (hS : Sat E w (RDoc r d :: M)) [hr : Rds cd_uint8 M s0 l] (hb : l.length ≤ 140737488355328) (n : Int) (hx : d.len + 2097152 + 273 ≤ 140737488355328)
    (hQ : ∀ sl so w, Sat E w (rows cd_api_Symbol sl (d.take l n).l :: rows cd_uint8 so (d.take l n).out :: RDoc r (d.take l n).d :: M) → Q (.tuple #[.slice sl.a (d.take l n).l.length sl.c, .slice so.a (d.take l n).out.length so.c, .int .i64 (d.take l n).e]) w) :
    Calls Tryz.prog 95 #[pz r, .slice s0.a l.length s0.c, .int .i64 n] w (retP Q) := by
  refine pithref15_Decoder_Take.calls ?_
  unfold pithref15_Decoder_Take.F
  by_cases hn : 1 ≤ n ∧ n ≤ 2097152
  rotate_left 1
  · have e : d.take l n = ⟨d, 7, [], []⟩ := by unfold Z.DS.take; rw [if_neg hn]
    rw [e] at hQ
    by_cases h1 : n < 1
    · repeat' (first | (refine pN_lss_s ?_ ?_ <;> intro hc <;> try (exfalso; omega)) | refine pIf_t ?_ | refine pGd_no (by rfl) ?_ | refine pN_v (hk := ?_) | fail)
      exact hQ ⟨none, 0⟩ ⟨none, 0⟩ _ (nil_rows hS)
    · repeat' (first | ((first | refine pN_lss_s ?_ ?_ | refine pN_gtr_s ?_ ?_) <;> intro hc <;> try (exfalso; omega)) | refine pIf_t ?_ | refine pGd_go (by rfl) ?_ | refine pN_v (hk := ?_) | fail)
      exact hQ ⟨none, 0⟩ ⟨none, 0⟩ _ (nil_rows hS)
  obtain ⟨n0, n1⟩ := hn
  obtain ⟨c, v, bad, e, hf, hS⟩ := RDoc.opn hS
  cases d with
  | sp p z m =>
    have e2 : (Z.DS.sp p z m).take l n = ⟨.sp p z m, 2, [], []⟩ := by unfold Z.DS.take; rw [if_pos ⟨n0, n1⟩]
    rw [e2] at hQ
    have hS : Sat E w (cel r ⟨182, [pz c, v, .bool bad, .bool true]⟩ :: RCod c e :: M) := hS
    repeat' (first | ((first | refine pN_lss_s ?_ ?_ | refine pN_gtr_s ?_ ?_) <;> intro hc <;> try (exfalso; omega)) | refine pIf_t ?_ | refine pIf_f ?_ | refine pGd_go (by rfl) ?_ | refine pN_l hS (by first | rfl | assumption) ?_ | refine pN_v (hk := ?_) | fail)
    exact hQ ⟨none, 0⟩ ⟨none, 0⟩ _ (nil_rows (RDoc.shut (d := .sp p z m) hS hf))
  | ok e' =>
    cases hf
    have hS : Sat E w (cel r ⟨182, [pz c, v, .bool bad, .bool false]⟩ :: RCod c e :: M) := hS
    have hx : e.dz.x.all.length + 2097152 + 273 ≤ 140737488355328 := hx
    obtain ⟨he, h1, bw, bm, be, hS⟩ := RCod.opn (hS.fd (RCod c))
    obtain ⟨nn, ho, hrel, hS⟩ := RT.opn (hS.fd (RT be bm e.p))
    have hS : Sat E w (cel r ⟨182, [pz c, v, .bool bad, .bool false]⟩ :: Cod c e.p bw e.st bm be :: RWin bw e.x :: RSets bm nn :: REnc be e.s :: M) := hS.to
    have hS : Sat E w (cel r ⟨182, [pz c, v, .bool bad, .bool false]⟩ :: Cod c e.dz.p bw e.dz.st bm be :: RWin bw e.dz.x :: RSets bm nn :: REnc be e.s :: M) := hS
    have h1 : 1 ≤ e.dz.x.size := h1
    have hrel : Z.Rel Z.pre14 768 e.dz.p nn e.dz.T := hrel
    have hdo : e.dz.Ok := ⟨he.p, he.st, he.T⟩
    generalize e.dz = f at *
    repeat' (first | ((first | refine pN_lss_s ?_ ?_ | refine pN_gtr_s ?_ ?_) <;> intro hc <;> try (exfalso; omega)) | refine pIf_f ?_ | refine pGd_go (by rfl) ?_ | refine pN_l hS (by first | rfl | assumption) ?_ | refine pN_v (hk := ?_) | fail)
    refine pc_pithref15_Decoder_symbols (d15symbols_ok hdo h1 hrel hS hb n0 n1 (by omega) (fun dd gs sl so db nn w hst hlp hgs hrel hS => ?_) fun g v bad nn w htk hf1 hf2 hf3 hf4 hrel hS => ?_)
    · by_cases hc : gs.z.d.k = gs.z.d.b.length ∧ gs.z.d.C = 0
      · have htk : f.take l n = some (⟨f.p, gs.st, gs.z.T, gs.x⟩, gs.l, gs.out) := by
          unfold Z.DZ.take
          rw [hst]
          simp only [hlp]
          rw [if_pos hc]
        have e2 : (Z.DS.ok f).take l n = ⟨.ok ⟨f.p, gs.st, gs.z.T, gs.x⟩, 0, gs.l, gs.out⟩ := by
          unfold Z.DS.take
          rw [if_pos ⟨n0, n1⟩]
          simp only [htk]
        rw [e2] at hQ
        have hfin := Z.loop_fin (s := f.ls dd) n.toNat hlp
        rw [decide_eq_true hc]
        repeat' (first | refine pIf_f ?_ | refine pN_v (hk := ?_) | fail)
        refine hQ sl so _ ?_
        have hS := RCod.fin (f := ⟨f.p, gs.st, gs.z.T, gs.x⟩) (hS.fd4 (cel c) (RWin bw) (REnc be) (NSets RSet Z.fresh bm)) he ⟨hdo.p, hgs.st, hgs.z.T⟩ (by rw [hfin.1]; exact h1) hrel
        have hS := RDoc.shut (d := .ok ⟨f.p, gs.st, gs.z.T, gs.x⟩) (v := pz db) (bad := false) (hS.fd2 (cel r) (RCod c)) rfl
        exact hS.to
      · have htk : f.take l n = none := by
          unfold Z.DZ.take
          rw [hst]
          simp only [hlp]
          rw [if_neg hc]
        have e2 : (Z.DS.ok f).take l n = ⟨.sp f.p f.x.size (f.x.all.length + n.toNat), 2, [], []⟩ := by
          unfold Z.DS.take
          rw [if_pos ⟨n0, n1⟩]
          simp only [htk]
        rw [e2] at hQ
        rw [decide_eq_false hc]
        have hfin := Z.loop_fin (s := f.ls dd) n.toNat hlp
        repeat' (first | refine pIf_t ?_ | (refine pN_s hS (by first | exact Nat.le_of_ble_eq_true rfl | assumption) (by rfl) ?_; clear hS; intro w hS; try simp only [List.set_cons_zero, List.set_cons_succ] at hS) | refine pN_v (hk := ?_) | fail)
        refine hQ ⟨none, 0⟩ ⟨none, 0⟩ _ (nil_rows ?_)
        have hS := RCod.fin (f := ⟨f.p, gs.st, gs.z.T, gs.x⟩) (hS.fd4 (cel c) (RWin bw) (REnc be) (NSets RSet Z.fresh bm)) he ⟨hdo.p, hgs.st, hgs.z.T⟩ (by rw [hfin.1]; exact h1) hrel
        have hS := RDoc.shut (d := .sp f.p f.x.size (f.x.all.length + n.toNat)) (v := pz db) (bad := false) (hS.fd2 (cel r) (RCod c)) ⟨rfl, hfin.1, by
          have h2 := hfin.2.1
          have h3 := hfin.2.2 (by show ((0 : Nat) : Int) ≤ n; omega)
          have h4 : gs.x.all.length + 0 = f.x.all.length + gs.out.length := h2
          show gs.x.all.length ≤ _
          omega⟩
        exact hS.to
    · have e2 : (Z.DS.ok f).take l n = ⟨.sp f.p f.x.size (f.x.all.length + n.toNat), 2, [], []⟩ := by
        unfold Z.DS.take
        rw [if_pos ⟨n0, n1⟩]
        simp only [htk]
      rw [e2] at hQ
      repeat' (first | refine pIf_t ?_ | (refine pN_s hS (by first | exact Nat.le_of_ble_eq_true rfl | assumption) (by rfl) ?_; clear hS; intro w hS; try simp only [List.set_cons_zero, List.set_cons_succ] at hS) | refine pN_v (hk := ?_) | fail)
      refine hQ ⟨none, 0⟩ ⟨none, 0⟩ _ (nil_rows ?_)
      have hS := RCod.fin (f := g) (hS.fd4 (cel c) (RWin bw) (REnc be) (NSets RSet Z.fresh bm)) he hf1 (by rw [hf3]; exact h1) (by rw [hf2]; exact hrel)
      have hS := RDoc.shut (d := .sp f.p f.x.size (f.x.all.length + n.toNat)) (v := v) (bad := bad) (hS.fd2 (cel r) (RCod c)) ⟨hf2, hf3, hf4⟩
      exact hS.to
end
end Go.Proofs.YtbgnnjfpiblkmaaGreatDoor

namespace Go.Proofs.YtbgnnjfpiblkmaaGreatDoor
open Go
set_option maxRecDepth 100000

def pithlaw15_DecPlays.H : Hints := { cut := fun | 9 => some ([], 73786905926094032960) | 13 => some ([12], 18442240474082185216) | _ => none, loop := fun | 8 => ([11], 73786975195326584896) | _ => ([], 0), order := fun  | _ => [] }
def pithlaw15_DecPlays.F [Pan] (x0 x1 x2 : Value) (w : World) (Q : Value → World → Prop) : Prop :=
 pN Tryz.prog (oBox 23 x0) w fun x3 w1 =>
 pN Tryz.prog (oLoad 23 x3) w1 fun x14 w2 =>
 pN Tryz.prog (oCall 9 [x14, x1]) w2 fun x16 w3 =>
 pN Tryz.prog (oExt x16 0) w3 fun x17 w4 =>
 pN Tryz.prog (oExt x16 1) w4 fun x18 w5 =>
 pN Tryz.prog (oBuild 23 [(0, (.int .i64 0)), (1, (.int .i64 2)), (2, (.int .i64 1))]) w5 fun x20 w6 =>
 pN Tryz.prog (oCall 9 [x20, (.int .i64 5000)]) w6 fun x21 w7 =>
 pN Tryz.prog (oExt x21 0) w7 fun x22 w8 =>
 pN Tryz.prog (oExt x21 1) w8 fun x23 w9 =>
 pN Tryz.prog (oUn .not x18) w9 fun x25 w10 =>
 pGd (gB x25 false) (pN Tryz.prog (oMv x23) w10) w10 fun x27 w11 =>
 pGd (gB x25 false) (pN Tryz.prog (oUn .not x27) w11) w11 fun x28 w12 =>
 pN Tryz.prog (oPick x25 (.bool true) x28) w12 fun x29 w13 =>
 pGd (gB x29 false) (pN Tryz.prog (oMv x22) w13) w13 fun x31 w14 =>
 pGd (gB x29 false) (pN Tryz.prog (oBin .eql 25 (.tmp 31) (.const (.pointer none)) x31 (.pointer none)) w14) w14 fun x32 w15 =>
 pN Tryz.prog (oPick x29 (.bool true) x32) w15 fun x33 w16 =>
 pGd (gB x33 false) (pN Tryz.prog (oCall 10 []) w16) w16 fun x35 w17 =>
 pGd (gB x33 false) (pN Tryz.prog (oUn .not x35) w17) w17 fun x36 w18 =>
 pN Tryz.prog (oPick x33 (.bool true) x36) w18 fun x37 w19 =>
 pIf x37
 (Q (.bool false) w19)
 (pN Tryz.prog (oBin .eql 25 (.tmp 38) (.const (.pointer none)) x17 (.pointer none)) w19 fun x39 w20 =>
 pIf x39
 (Q (.bool true) w20)
 (∃ (L8 : Value → World → Prop) (m8 : Value → World → Nat),
 L8 (.int .i64 0) w20 ∧
 ∀ (_k8 : Env) (i11l8 : Value) (w21 : World), L8 i11l8 w21 →
 pN Tryz.prog (oBi .len #[24] 3 [false] [x2]) w21 fun x42 w22 =>
 pN Tryz.prog (oBin .lss 3 (.tmp 40) (.tmp 42) i11l8 x42) w22 fun x43 w23 =>
 pIf x43
 (∃ I9 : World → Prop,
 (pN Tryz.prog (oIdx 24 x2 i11l8) w23 fun x49 w24 =>
 pN Tryz.prog (oLoad 32 x49) w24 fun x50 w25 =>
 pN Tryz.prog (oCall 11 [x17, x50]) w25 fun x51 w26 =>
 ∃ I13 : Value → World → Prop,
 (pGd (gB x51 true) (pN Tryz.prog (oMv i11l8) w26) w26 fun x54 w27 =>
 pGd (gB x51 true) (pN Tryz.prog (oBin .rem 3 (.tmp 54) (.const (.int .i64 3)) x54 (.int .i64 3)) w27) w27 fun x55 w28 =>
 pGd (gB x51 true) (pN Tryz.prog (oBin .eql 3 (.tmp 55) (.const (.int .i64 2)) x55 (.int .i64 2)) w28) w28 fun x56 w29 =>
 pN Tryz.prog (oPick x51 x56 (.bool false)) w29 fun x57 w30 =>
 pIf x57
 (pN Tryz.prog (oIdx 24 x2 i11l8) w30 fun x61 w31 =>
 pN Tryz.prog (oLoad 32 x61) w31 fun x62 w32 =>
 pN Tryz.prog (oCall 11 [x22, x62]) w32 fun x63 w33 =>
 I13 x63 w33)
 (I13 x51 w30)) ∧
 ∀ (_j13 : Env) (good12c13 : Value) (w34 : World), I13 good12c13 w34 →
 pN Tryz.prog (oUn .not good12c13) w34 fun x65 w35 =>
 pIf x65
 (Q (.bool false) w35)
 (I9 w35)) ∧
 ∀ (_j9 : Env) (w36 : World), I9 w36 →
 pN Tryz.prog (oBin .add 3 (.tmp 44) (.const (.int .i64 1)) i11l8 (.int .i64 1)) w36 fun x45 w37 =>
 (L8 x45 w37 ∧ m8 x45 w37 < m8 i11l8 w21))
 (pN Tryz.prog (oCall 12 [x17]) w23 fun x67 w38 =>
 pGd (gB x67 true) (pN Tryz.prog (oMv x22) w38) w38 fun x69 w39 =>
 pGd (gB x67 true) (pN Tryz.prog (oCall 12 [x69]) w39) w39 fun x70 w40 =>
 pN Tryz.prog (oPick x67 x70 (.bool false)) w40 fun x71 w41 =>
 Q x71 w41)))
theorem pithlaw15_DecPlays.calls [Pan] {x0 x1 x2 : Value} {w : World} {Q : Value → World → Prop} (h : pithlaw15_DecPlays.F x0 x1 x2 w Q) : Calls Tryz.prog 3 #[x0, x1, x2] w (retP Q) := calls_lift mixed pithlaw15_DecPlays.H [x0, x1, x2] Tryz.func3 (by kernel_rfl) (by kernel_rfl) h

def pithlaw15_begun.F [Pan] (x0 x1 : Value) (w : World) (Q : Value → World → Prop) : Prop :=
 pN Tryz.prog (oBox 23 x0) w fun x2 w1 =>
 pN Tryz.prog (oLoad 23 x2) w1 fun x11 w2 =>
 pN Tryz.prog (oCall 41 [x11, x1]) w2 fun x13 w3 =>
 pN Tryz.prog (oExt x13 0) w3 fun x14 w4 =>
 pN Tryz.prog (oExt x13 1) w4 fun x15 w5 =>
 pN Tryz.prog (oLoad 23 x2) w5 fun x17 w6 =>
 pN Tryz.prog (oCall 54 [x17, x1]) w6 fun x19 w7 =>
 pN Tryz.prog (oExt x19 0) w7 fun x20 w8 =>
 pN Tryz.prog (oExt x19 1) w8 fun x21 w9 =>
 pN Tryz.prog (oBin .neq 3 (.tmp 22) (.tmp 23) x15 x21) w9 fun x24 w10 =>
 pGd (gB x24 false) (pN Tryz.prog (oMv x14) w10) w10 fun x26 w11 =>
 pGd (gB x24 false) (pN Tryz.prog (oBin .eql 85 (.tmp 26) (.const (.pointer none)) x26 (.pointer none)) w11) w11 fun x27 w12 =>
 pGd (gB x24 false) (pN Tryz.prog (oMv x20) w12) w12 fun x28 w13 =>
 pGd (gB x24 false) (pN Tryz.prog (oBin .eql 114 (.tmp 28) (.const (.pointer none)) x28 (.pointer none)) w13) w13 fun x29 w14 =>
 pGd (gB x24 false) (pN Tryz.prog (oBin .neq 4 (.tmp 27) (.tmp 29) x27 x29) w14) w14 fun x30 w15 =>
 pN Tryz.prog (oPick x24 (.bool true) x30) w15 fun x31 w16 =>
 pIf x31
 (Q (.tuple #[(.pointer none), (.bool false)]) w16)
 (pN Tryz.prog (oBin .eql 114 (.tmp 32) (.const (.pointer none)) x20 (.pointer none)) w16 fun x33 w17 =>
 pIf x33
 (Q (.tuple #[(.pointer none), (.bool true)]) w17)
 (pN Tryz.prog (oBuild 119 [(0, x14), (1, x20)]) w17 fun x36 w18 =>
 pN Tryz.prog (oBox 119 x36) w18 fun x37 w19 =>
 Q (.tuple #[x37, (.bool true)]) w19))
theorem pithlaw15_begun.calls [Pan] {x0 x1 : Value} {w : World} {Q : Value → World → Prop} (h : pithlaw15_begun.F x0 x1 w Q) : Calls Tryz.prog 9 #[x0, x1] w (retP Q) := calls_lift mixed .z [x0, x1] Tryz.func9 (by kernel_rfl) (by kernel_rfl) h

def pithlaw15_fixed.F [Pan]  (w : World) (Q : Value → World → Prop) : Prop :=
 pN Tryz.prog (oBuild 23 [(0, (.int .i64 3)), (2, (.int .i64 2))]) w fun x7 w1 =>
 pN Tryz.prog (oCall 41 [x7, (.int .i64 4096)]) w1 fun x8 w2 =>
 pN Tryz.prog (oExt x8 0) w2 fun x9 w3 =>
 pN Tryz.prog (oExt x8 1) w3 fun x10 w4 =>
 pN Tryz.prog (oBin .neq 38 (.tmp 11) (.const (.int .i64 0)) x10 (.int .i64 0)) w4 fun x12 w5 =>
 pGd (gB x12 false) (pN Tryz.prog (oMv x9) w5) w5 fun x14 w6 =>
 pGd (gB x12 false) (pN Tryz.prog (oBin .eql 85 (.tmp 14) (.const (.pointer none)) x14 (.pointer none)) w6) w6 fun x15 w7 =>
 pN Tryz.prog (oPick x12 (.bool true) x15) w7 fun x16 w8 =>
 pIf x16
 (Q (.bool false) w8)
 (pN Tryz.prog (oMk 30 (.int .i64 6) (.int .i64 6)) w8 fun x19 w9 =>
 pN Tryz.prog (oCall 39 [x9, x19, (.int .i64 1)]) w9 fun x20 w10 =>
 pN Tryz.prog (oExt x20 0) w10 fun x21 w11 =>
 pN Tryz.prog (oExt x20 1) w11 fun x22 w12 =>
 pN Tryz.prog (oExt x20 2) w12 fun x23 w13 =>
 pN Tryz.prog (oBin .eql 38 (.tmp 24) (.const (.int .i64 0)) x23 (.int .i64 0)) w13 fun x25 w14 =>
 pGd (gB x25 true) (pN Tryz.prog (oMv x21) w14) w14 fun x27 w15 =>
 pGd (gB x25 true) (pN Tryz.prog (oBi .len #[80] 3 [false] [x27]) w15) w15 fun x28 w16 =>
 pGd (gB x25 true) (pN Tryz.prog (oBin .eql 3 (.tmp 28) (.const (.int .i64 1)) x28 (.int .i64 1)) w16) w16 fun x29 w17 =>
 pN Tryz.prog (oPick x25 x29 (.bool false)) w17 fun x30 w18 =>
 pGd (gB x30 true) (pN Tryz.prog (oMv x21) w18) w18 fun x32 w19 =>
 pGd (gB x30 true) (pN Tryz.prog (oIdx 80 x32 (.int .i64 0)) w19) w19 fun x33 w20 =>
 pGd (gB x30 true) (pN Tryz.prog (oLoad 48 x33) w20) w20 fun x34 w21 =>
 pGd (gB x30 true) (pN Tryz.prog (oBuild 48 [(0, (.int .i64 1))]) w21) w21 fun x35 w22 =>
 pGd (gB x30 true) (pN Tryz.prog (oBin .eql 48 (.tmp 34) (.tmp 35) x34 x35) w22) w22 fun x36 w23 =>
 pN Tryz.prog (oPick x30 x36 (.bool false)) w23 fun x37 w24 =>
 pGd (gB x37 true) (pN Tryz.prog (oMv x22) w24) w24 fun x39 w25 =>
 pGd (gB x37 true) (pN Tryz.prog (oConv 30 9 x39) w25) w25 fun x40 w26 =>
 pGd (gB x37 true) (pN Tryz.prog (oBin .eql 9 (.tmp 40) (.const (.string ⟨#[0]⟩)) x40 (.string ⟨#[0]⟩)) w26) w26 fun x41 w27 =>
 pN Tryz.prog (oPick x37 x41 (.bool false)) w27 fun x42 w28 =>
 Q x42 w28)
theorem pithlaw15_fixed.calls [Pan]  {w : World} {Q : Value → World → Prop} (h : pithlaw15_fixed.F  w Q) : Calls Tryz.prog 10 #[] w (retP Q) := calls_lift mixed .z [] Tryz.func10 (by kernel_rfl) (by kernel_rfl) h

def pithlaw15_pair_step.H : Hints := { cut := fun | 19 => some ([], 75557863725914323419120) | _ => none, loop := fun | 10 => ([7], 70231305224320) | _ => ([], 0), order := fun | 7 => [(0, 0), (1, 1), (2, 3), (3, 7), (4, 15), (5, 31), (6, 63)] | 15 => [(0, 0), (1, 1), (2, 3), (3, 7), (4, 15), (5, 31), (7, 63), (8, 191), (9, 447), (10, 959), (11, 1983), (12, 4031), (6, 8127), (13, 8191), (14, 16383), (15, 32767)] | _ => [] }
def pithlaw15_pair_step.F [Pan] (x0 x1 : Value) (w : World) (Q : Value → World → Prop) : Prop :=
 pN Tryz.prog (oBox 32 x1) w fun x3 w1 =>
 ∃ I19 : World → Prop,
 (pN Tryz.prog (oFld 32 x3 0) w1 fun x8 w2 =>
 pN Tryz.prog (oLoad 3 x8) w2 fun x9 w3 =>
 pN Tryz.prog (oBin .eql 3 (.tmp 9) (.const (.int .i64 0)) x9 (.int .i64 0)) w3 fun x11 w4 =>
 pIf x11
 (pN Tryz.prog (oLoad 32 x3) w4 fun x13 w5 =>
 pN Tryz.prog (oCall 55 [x0, x13]) w5 fun x14 w6 =>
 Q x14 w6)
 (pN Tryz.prog (oBin .eql 3 (.tmp 9) (.const (.int .i64 1)) x9 (.int .i64 1)) w4 fun x16 w7 =>
 pIf x16
 (pN Tryz.prog (oFld 32 x3 1) w7 fun x17 w8 =>
 pN Tryz.prog (oLoad 30 x17) w8 fun x18 w9 =>
 pN Tryz.prog (oCall 56 [x18]) w9 fun x19 w10 =>
 pN Tryz.prog (oNil x0) w10 fun x21 w11 =>
 pN Tryz.prog (oFld 119 x21 0) w11 fun x22 w12 =>
 pN Tryz.prog (oLoad 85 x22) w12 fun x23 w13 =>
 pN Tryz.prog (oCall 51 [x23, x19]) w13 fun _ w14 =>
 pDr w14 fun w15 =>
 pA Tryz.prog (oNil x0) fun x27 =>
 pA Tryz.prog (oFld 119 x27 1) fun x28 =>
 pL Tryz.prog (oLoad 114 x28) w15 fun x29 =>
 pA Tryz.prog (oFld 32 x3 1) fun x30 =>
 pL Tryz.prog (oLoad 30 x30) w15 fun x31 =>
 pN Tryz.prog (oCall 57 [x29, x31]) w15 fun _ w16 =>
 (True) ∧ (pN Tryz.prog (oFld 32 x3 1) w16 fun x34 w17 =>
 pN Tryz.prog (oLoad 30 x34) w17 fun x35 w18 =>
 pN Tryz.prog (oCall 58 [x19, x35]) w18 fun x36 w19 =>
 ∃ (L10 : Value → World → Prop) (m10 : Value → World → Nat),
 L10 (.int .i64 0) w19 ∧
 ∀ (_k10 : Env) (i7l10 : Value) (w20 : World), L10 i7l10 w20 →
 pN Tryz.prog (oBi .len #[30] 3 [false] [x19]) w20 fun x39 w21 =>
 pN Tryz.prog (oBin .lss 3 (.tmp 37) (.tmp 39) i7l10 x39) w21 fun x40 w22 =>
 pIf x40
 (pN Tryz.prog (oIdx 30 x19 i7l10) w22 fun x45 w23 =>
 pN Tryz.prog (oStore 5 x45 (bv 1)) w23 fun _ w24 =>
 pN Tryz.prog (oBin .add 3 (.tmp 41) (.const (.int .i64 1)) i7l10 (.int .i64 1)) w24 fun x42 w25 =>
 (L10 x42 w25 ∧ m10 x42 w25 < m10 i7l10 w20))
 (Q x36 w22)))
 (pN Tryz.prog (oBin .eql 3 (.tmp 9) (.const (.int .i64 2)) x9 (.int .i64 2)) w7 fun x48 w26 =>
 pIf x48
 (pDr w26 fun w27 =>
 pA Tryz.prog (oNil x0) fun x50 =>
 pA Tryz.prog (oFld 119 x50 0) fun x51 =>
 pL Tryz.prog (oLoad 85 x51) w27 fun x52 =>
 pA Tryz.prog (oFld 32 x3 3) fun x53 =>
 pL Tryz.prog (oLoad 23 x53) w27 fun x54 =>
 pA Tryz.prog (oNil x0) fun x57 =>
 pA Tryz.prog (oFld 119 x57 1) fun x58 =>
 pL Tryz.prog (oLoad 114 x58) w27 fun x59 =>
 pA Tryz.prog (oFld 32 x3 3) fun x60 =>
 pL Tryz.prog (oLoad 23 x60) w27 fun x61 =>
 pN Tryz.prog (oCall 52 [x52, x54]) w27 fun x55 w28 =>
 ((Sem.run Tryz.prog (oLoad 23 x60) w28 = .ok (.value x61) w28) ∧ (Sem.run Tryz.prog (oLoad 114 x58) w28 = .ok (.value x59) w28) ∧ True) ∧ (pN Tryz.prog (oCall 59 [x59, x61]) w28 fun x62 w29 =>
 (True) ∧ (pA Tryz.prog (oBin .eql 3 (.tmp 55) (.tmp 62) x55 x62) fun x63 =>
 Q x63 w29)))
 (pN Tryz.prog (oBin .eql 3 (.tmp 9) (.const (.int .i64 3)) x9 (.int .i64 3)) w26 fun x65 w30 =>
 pIf x65
 (pN Tryz.prog (oNil x0) w30 fun x67 w31 =>
 pN Tryz.prog (oFld 119 x67 0) w31 fun x68 w32 =>
 pN Tryz.prog (oLoad 85 x68) w32 fun x69 w33 =>
 pN Tryz.prog (oCall 53 [x69]) w33 fun _ w34 =>
 pN Tryz.prog (oNil x0) w34 fun x72 w35 =>
 pN Tryz.prog (oFld 119 x72 1) w35 fun x73 w36 =>
 pN Tryz.prog (oLoad 114 x73) w36 fun x74 w37 =>
 pN Tryz.prog (oCall 60 [x74]) w37 fun _ w38 =>
 I19 w38)
 (I19 w30))))) ∧
 ∀ (_j19 : Env) (w39 : World), I19 w39 →
 Q (.bool true) w39
theorem pithlaw15_pair_step.calls [Pan] {x0 x1 : Value} {w : World} {Q : Value → World → Prop} (h : pithlaw15_pair_step.F x0 x1 w Q) : Calls Tryz.prog 11 #[x0, x1] w (retP Q) := calls_lift mixed pithlaw15_pair_step.H [x0, x1] Tryz.func11 (by kernel_rfl) (by kernel_rfl) h

def pithlaw15_pair_kept.H : Hints := { cut := fun  | _ => none, loop := fun | 2 => ([3], 2535301200456458802993406410748) | 6 => ([5], 4503599618981924) | 11 => ([6], 151115722948229019467844) | _ => ([], 0), order := fun | 8 => [(0, 0), (1, 1), (2, 3), (3, 7), (4, 15), (5, 31), (6, 63), (7, 127), (8, 255), (9, 511), (10, 1023), (11, 2047), (12, 4095), (13, 8191), (14, 16383), (15, 32767), (16, 65535), (17, 131071), (18, 262143), (19, 524287), (20, 1048575), (21, 2097151)] | 13 => [(0, 0), (1, 1), (2, 3), (3, 7), (4, 15), (5, 31), (6, 63), (7, 127), (8, 255), (9, 511), (10, 1023), (11, 2047), (12, 4095), (13, 8191), (14, 16383), (15, 32767), (16, 65535), (17, 131071)] | 15 => [(0, 0), (1, 1), (2, 3), (3, 7), (4, 15), (5, 31), (6, 63), (7, 127), (8, 255), (9, 511), (10, 1023), (11, 2047), (12, 4095), (13, 8191), (14, 16383), (15, 32767), (16, 65535), (17, 131071), (18, 262143), (19, 524287), (20, 1048575), (21, 2097151), (22, 4194303), (23, 8388607)] | _ => [] }
def pithlaw15_pair_kept.F [Pan] (x0 : Value) (w : World) (Q : Value → World → Prop) : Prop :=
 ∃ (L2 : Value → World → Prop) (m2 : Value → World → Nat),
 L2 (.int .i64 0) w ∧
 ∀ (_k2 : Env) (k3l2 : Value) (w1 : World), L2 k3l2 w1 →
 pN Tryz.prog (oNil x0) w1 fun x9 w2 =>
 pN Tryz.prog (oFld 119 x9 2) w2 fun x10 w3 =>
 pN Tryz.prog (oLoad 117 x10) w3 fun x11 w4 =>
 pN Tryz.prog (oBi .len #[117] 3 [false] [x11]) w4 fun x12 w5 =>
 pN Tryz.prog (oBin .lss 3 (.tmp 7) (.tmp 12) k3l2 x12) w5 fun x13 w6 =>
 pIf x13
 (pN Tryz.prog (oNil x0) w6 fun x17 w7 =>
 pN Tryz.prog (oFld 119 x17 2) w7 fun x18 w8 =>
 pN Tryz.prog (oLoad 117 x18) w8 fun x19 w9 =>
 pN Tryz.prog (oIdx 117 x19 k3l2) w9 fun x21 w10 =>
 pN Tryz.prog (oLoad 122 x21) w10 fun x22 w11 =>
 pN Tryz.prog (oAlloc 122) w11 fun x4 w12 =>
 pN Tryz.prog (oStore 122 x4 x22) w12 fun _ w13 =>
 ∃ (L6 : Value → World → Prop) (m6 : Value → World → Nat),
 L6 (.int .i64 0) w13 ∧
 ∀ (_k6 : Env) (i5l6 : Value) (w14 : World), L6 i5l6 w14 →
 pN Tryz.prog (oFld 122 x4 0) w14 fun x24 w15 =>
 pN Tryz.prog (oLoad 80 x24) w15 fun x25 w16 =>
 pN Tryz.prog (oBi .len #[80] 3 [false] [x25]) w16 fun x26 w17 =>
 pN Tryz.prog (oBin .lss 3 (.tmp 23) (.tmp 26) i5l6 x26) w17 fun x27 w18 =>
 pIf x27
 (pDr w18 fun w19 =>
 pA Tryz.prog (oFld 122 x4 0) fun x30 =>
 pL Tryz.prog (oLoad 80 x30) w19 fun x31 =>
 pA Tryz.prog (oIdx 80 x31 i5l6) fun x33 =>
 pL Tryz.prog (oLoad 48 x33) w19 fun x34 =>
 pA Tryz.prog (oFld 122 x4 4) fun x35 =>
 pL Tryz.prog (oLoad 5 x35) w19 fun x36 =>
 pN Tryz.prog (oBuild 48 [(0, (.int .i64 9)), (1, x36)]) w19 fun x37 w20 =>
 ((Sem.run Tryz.prog (oLoad 48 x33) w20 = .ok (.value x34) w20) ∧ (Sem.run Tryz.prog (oLoad 80 x30) w20 = .ok (.value x31) w20) ∧ True) ∧ (pA Tryz.prog (oBin .neq 48 (.tmp 34) (.tmp 37) x34 x37) fun x38 =>
 gA (gB x38 false) (pA Tryz.prog (oFld 122 x4 1)) fun x40 =>
 gA (gB x38 false) (pL Tryz.prog (oLoad 80 x40) w20) fun x41 =>
 gA (gB x38 false) (pA Tryz.prog (oMv i5l6)) fun x42 =>
 gA (gB x38 false) (pA Tryz.prog (oIdx 80 x41 x42)) fun x43 =>
 gA (gB x38 false) (pL Tryz.prog (oLoad 48 x43) w20) fun x44 =>
 gA (gB x38 false) (pA Tryz.prog (oFld 122 x4 0)) fun x45 =>
 gA (gB x38 false) (pL Tryz.prog (oLoad 80 x45) w20) fun x46 =>
 gA (gB x38 false) (pA Tryz.prog (oMv i5l6)) fun x47 =>
 gA (gB x38 false) (pA Tryz.prog (oIdx 80 x46 x47)) fun x48 =>
 gA (gB x38 false) (pL Tryz.prog (oLoad 48 x48) w20) fun x49 =>
 gA (gB x38 false) (pA Tryz.prog (oBin .neq 48 (.tmp 44) (.tmp 49) x44 x49)) fun x50 =>
 pA Tryz.prog (oPick x38 (.bool true) x50) fun x51 =>
 pIf x51
 (Q (.bool false) w20)
 (pN Tryz.prog (oBin .add 3 (.tmp 28) (.const (.int .i64 1)) i5l6 (.int .i64 1)) w20 fun x29 w21 =>
 (L6 x29 w21 ∧ m6 x29 w21 < m6 i5l6 w14))))
 (∃ (L11 : Value → World → Prop) (m11 : Value → World → Nat),
 L11 (.int .i64 0) w18 ∧
 ∀ (_k11 : Env) (i6l11 : Value) (w22 : World), L11 i6l11 w22 →
 pN Tryz.prog (oFld 122 x4 2) w22 fun x53 w23 =>
 pN Tryz.prog (oLoad 30 x53) w23 fun x54 w24 =>
 pN Tryz.prog (oBi .len #[30] 3 [false] [x54]) w24 fun x55 w25 =>
 pN Tryz.prog (oBin .lss 3 (.tmp 52) (.tmp 55) i6l11 x55) w25 fun x56 w26 =>
 pIf x56
 (pDr w26 fun w27 =>
 pA Tryz.prog (oFld 122 x4 2) fun x59 =>
 pL Tryz.prog (oLoad 30 x59) w27 fun x60 =>
 pA Tryz.prog (oIdx 30 x60 i6l11) fun x62 =>
 pL Tryz.prog (oLoad 5 x62) w27 fun x63 =>
 pA Tryz.prog (oFld 122 x4 4) fun x64 =>
 pL Tryz.prog (oLoad 5 x64) w27 fun x65 =>
 pA Tryz.prog (oBin .neq 5 (.tmp 63) (.tmp 65) x63 x65) fun x66 =>
 gA (gB x66 false) (pA Tryz.prog (oFld 122 x4 3)) fun x68 =>
 gA (gB x66 false) (pL Tryz.prog (oLoad 30 x68) w27) fun x69 =>
 gA (gB x66 false) (pA Tryz.prog (oMv i6l11)) fun x70 =>
 gA (gB x66 false) (pA Tryz.prog (oIdx 30 x69 x70)) fun x71 =>
 gA (gB x66 false) (pL Tryz.prog (oLoad 5 x71) w27) fun x72 =>
 gA (gB x66 false) (pA Tryz.prog (oFld 122 x4 4)) fun x73 =>
 gA (gB x66 false) (pL Tryz.prog (oLoad 5 x73) w27) fun x74 =>
 gA (gB x66 false) (pA Tryz.prog (oBin .neq 5 (.tmp 72) (.tmp 74) x72 x74)) fun x75 =>
 pA Tryz.prog (oPick x66 (.bool true) x75) fun x76 =>
 pIf x76
 (Q (.bool false) w27)
 (pN Tryz.prog (oBin .add 3 (.tmp 57) (.const (.int .i64 1)) i6l11 (.int .i64 1)) w27 fun x58 w28 =>
 (L11 x58 w28 ∧ m11 x58 w28 < m11 i6l11 w22)))
 (pDr w26 fun w29 =>
 pA Tryz.prog (oFld 122 x4 1) fun x77 =>
 pL Tryz.prog (oLoad 80 x77) w29 fun x78 =>
 pA Tryz.prog (oFld 122 x4 0) fun x79 =>
 pL Tryz.prog (oLoad 80 x79) w29 fun x80 =>
 pA Tryz.prog (oBi .len #[80] 3 [false] [x80]) fun x81 =>
 pA Tryz.prog (oIdx 80 x78 x81) fun x82 =>
 pL Tryz.prog (oLoad 48 x82) w29 fun x83 =>
 pA Tryz.prog (oFld 122 x4 4) fun x84 =>
 pL Tryz.prog (oLoad 5 x84) w29 fun x85 =>
 pN Tryz.prog (oBuild 48 [(0, (.int .i64 10)), (1, x85)]) w29 fun x86 w30 =>
 ((Sem.run Tryz.prog (oLoad 48 x82) w30 = .ok (.value x83) w30) ∧ (Sem.run Tryz.prog (oLoad 80 x79) w30 = .ok (.value x80) w30) ∧ (Sem.run Tryz.prog (oLoad 80 x77) w30 = .ok (.value x78) w30) ∧ True) ∧ (pA Tryz.prog (oBin .neq 48 (.tmp 83) (.tmp 86) x83 x86) fun x87 =>
 gA (gB x87 false) (pA Tryz.prog (oFld 122 x4 3)) fun x89 =>
 gA (gB x87 false) (pL Tryz.prog (oLoad 30 x89) w30) fun x90 =>
 gA (gB x87 false) (pA Tryz.prog (oFld 122 x4 2)) fun x91 =>
 gA (gB x87 false) (pL Tryz.prog (oLoad 30 x91) w30) fun x92 =>
 gA (gB x87 false) (pA Tryz.prog (oBi .len #[30] 3 [false] [x92])) fun x93 =>
 gA (gB x87 false) (pA Tryz.prog (oIdx 30 x90 x93)) fun x94 =>
 gA (gB x87 false) (pL Tryz.prog (oLoad 5 x94) w30) fun x95 =>
 gA (gB x87 false) (pA Tryz.prog (oFld 122 x4 4)) fun x96 =>
 gA (gB x87 false) (pL Tryz.prog (oLoad 5 x96) w30) fun x97 =>
 gA (gB x87 false) (pA Tryz.prog (oBin .add 5 (.tmp 97) (.const (.int .u8 1)) x97 (bv 1))) fun x98 =>
 gA (gB x87 false) (pA Tryz.prog (oBin .neq 5 (.tmp 95) (.tmp 98) x95 x98)) fun x99 =>
 pA Tryz.prog (oPick x87 (.bool true) x99) fun x100 =>
 pIf x100
 (Q (.bool false) w30)
 (pN Tryz.prog (oBin .add 3 (.tmp 14) (.const (.int .i64 1)) k3l2 (.int .i64 1)) w30 fun x15 w31 =>
 (L2 x15 w31 ∧ m2 x15 w31 < m2 k3l2 w1))))))
 (Q (.bool true) w6)
theorem pithlaw15_pair_kept.calls [Pan] {x0 : Value} {w : World} {Q : Value → World → Prop} (h : pithlaw15_pair_kept.F x0 w Q) : Calls Tryz.prog 12 #[x0] w (retP Q) := calls_lift mixed pithlaw15_pair_kept.H [x0] Tryz.func12 (by kernel_rfl) (by kernel_rfl) h

def pithlaw15_pair_takes.H : Hints := { cut := fun  | _ => none, loop := fun | 7 => ([12], 9426286221665580879872) | _ => ([], 0), order := fun | 2 => [(0, 0), (1, 1), (2, 3), (3, 7), (4, 15), (5, 31), (6, 63), (7, 127), (8, 255), (9, 511), (10, 1023), (11, 2047), (12, 4095), (13, 8191), (14, 16383)] | 3 => [(0, 0), (1, 1), (2, 3), (3, 7), (4, 15), (5, 31), (6, 63), (7, 127), (8, 255), (9, 511), (10, 1023), (11, 2047), (12, 4095), (13, 8191), (14, 16383), (15, 32767)] | _ => [] }
def pithlaw15_pair_takes.F [Pan] (x0 x1 : Value) (w : World) (Q : Value → World → Prop) : Prop :=
 pN Tryz.prog (oBox 32 x1) w fun x3 w1 =>
 pN Tryz.prog (oFld 32 x3 1) w1 fun x13 w2 =>
 pN Tryz.prog (oLoad 30 x13) w2 fun x14 w3 =>
 pN Tryz.prog (oCall 56 [x14]) w3 fun x15 w4 =>
 pDr w4 fun w5 =>
 pA Tryz.prog (oNil x0) fun x18 =>
 pA Tryz.prog (oFld 119 x18 0) fun x19 =>
 pL Tryz.prog (oLoad 85 x19) w5 fun x20 =>
 pA Tryz.prog (oFld 32 x3 2) fun x22 =>
 pL Tryz.prog (oLoad 3 x22) w5 fun x23 =>
 pN Tryz.prog (oCall 39 [x20, x15, x23]) w5 fun x24 w6 =>
 (True) ∧ (pA Tryz.prog (oExt x24 0) fun x25 =>
 pA Tryz.prog (oExt x24 1) fun x26 =>
 pA Tryz.prog (oExt x24 2) fun x27 =>
 pDr w6 fun w7 =>
 pA Tryz.prog (oNil x0) fun x30 =>
 pA Tryz.prog (oFld 119 x30 1) fun x31 =>
 pL Tryz.prog (oLoad 114 x31) w7 fun x32 =>
 pA Tryz.prog (oFld 32 x3 1) fun x33 =>
 pL Tryz.prog (oLoad 30 x33) w7 fun x34 =>
 pA Tryz.prog (oFld 32 x3 2) fun x35 =>
 pL Tryz.prog (oLoad 3 x35) w7 fun x36 =>
 pN Tryz.prog (oCall 95 [x32, x34, x36]) w7 fun x37 w8 =>
 (True) ∧ (pA Tryz.prog (oExt x37 0) fun x38 =>
 pA Tryz.prog (oExt x37 1) fun x39 =>
 pA Tryz.prog (oExt x37 2) fun x40 =>
 pN Tryz.prog (oBin .neq 3 (.tmp 41) (.tmp 42) x27 x40) w8 fun x43 w9 =>
 pGd (gB x43 false) (pN Tryz.prog (oMv x25) w9) w9 fun x45 w10 =>
 pGd (gB x43 false) (pN Tryz.prog (oMv x38) w10) w10 fun x46 w11 =>
 pGd (gB x43 false) (pN Tryz.prog (oCall 96 [x45, x46]) w11) w11 fun x47 w12 =>
 pGd (gB x43 false) (pN Tryz.prog (oUn .not x47) w12) w12 fun x48 w13 =>
 pN Tryz.prog (oPick x43 (.bool true) x48) w13 fun x49 w14 =>
 pGd (gB x49 false) (pN Tryz.prog (oMv x26) w14) w14 fun x51 w15 =>
 pGd (gB x49 false) (pN Tryz.prog (oConv 30 9 x51) w15) w15 fun x52 w16 =>
 pGd (gB x49 false) (pN Tryz.prog (oMv x39) w16) w16 fun x53 w17 =>
 pGd (gB x49 false) (pN Tryz.prog (oConv 30 9 x53) w17) w17 fun x54 w18 =>
 pGd (gB x49 false) (pN Tryz.prog (oBin .neq 9 (.tmp 52) (.tmp 54) x52 x54) w18) w18 fun x55 w19 =>
 pN Tryz.prog (oPick x49 (.bool true) x55) w19 fun x56 w20 =>
 pGd (gB x56 false) (pN Tryz.prog (oMv x15) w20) w20 fun x58 w21 =>
 pGd (gB x56 false) (pN Tryz.prog (oFld 32 x3 1) w21) w21 fun x59 w22 =>
 pGd (gB x56 false) (pN Tryz.prog (oLoad 30 x59) w22) w22 fun x60 w23 =>
 pGd (gB x56 false) (pN Tryz.prog (oCall 58 [x58, x60]) w23) w23 fun x61 w24 =>
 pGd (gB x56 false) (pN Tryz.prog (oUn .not x61) w24) w24 fun x62 w25 =>
 pN Tryz.prog (oPick x56 (.bool true) x62) w25 fun x63 w26 =>
 pIf x63
 (Q (.bool false) w26)
 (∃ (L7 : Value → World → Prop) (m7 : Value → World → Nat),
 L7 (.int .i64 0) w26 ∧
 ∀ (_k7 : Env) (i12l7 : Value) (w27 : World), L7 i12l7 w27 →
 pN Tryz.prog (oBi .len #[30] 3 [false] [x15]) w27 fun x66 w28 =>
 pN Tryz.prog (oBin .lss 3 (.tmp 64) (.tmp 66) i12l7 x66) w28 fun x67 w29 =>
 pIf x67
 (pN Tryz.prog (oIdx 30 x15 i12l7) w29 fun x72 w30 =>
 pN Tryz.prog (oStore 5 x72 (bv 1)) w30 fun _ w31 =>
 pN Tryz.prog (oBin .add 3 (.tmp 68) (.const (.int .i64 1)) i12l7 (.int .i64 1)) w31 fun x69 w32 =>
 (L7 x69 w32 ∧ m7 x69 w32 < m7 i12l7 w27))
 (pN Tryz.prog (oCall 97 [x0, x25, x26]) w29 fun _ w33 =>
 Q (.bool true) w33))))
theorem pithlaw15_pair_takes.calls [Pan] {x0 x1 : Value} {w : World} {Q : Value → World → Prop} (h : pithlaw15_pair_takes.F x0 x1 w Q) : Calls Tryz.prog 55 #[x0, x1] w (retP Q) := calls_lift mixed pithlaw15_pair_takes.H [x0, x1] Tryz.func55 (by kernel_rfl) (by kernel_rfl) h

def pithlaw15_room.F [Pan] (x0 : Value) (w : World) (Q : Value → World → Prop) : Prop :=
 pN Tryz.prog (oBs 30 0 []) w fun x4 w1 =>
 pN Tryz.prog (oBi .append #[30, 30] 30 [false, false] [x4, x0]) w1 fun x6 w2 =>
 pN Tryz.prog (oBs 30 1 [(0, (bv 77))]) w2 fun x8 w3 =>
 pN Tryz.prog (oBi .append #[30, 30] 30 [false, false] [x6, x8]) w3 fun x9 w4 =>
 pN Tryz.prog (oBi .len #[30] 3 [false] [x0]) w4 fun x12 w5 =>
 pN Tryz.prog (oSl 30 x9 none (some x12) none) w5 fun x13 w6 =>
 Q x13 w6
theorem pithlaw15_room.calls [Pan] {x0 : Value} {w : World} {Q : Value → World → Prop} (h : pithlaw15_room.F x0 w Q) : Calls Tryz.prog 56 #[x0] w (retP Q) := calls_lift mixed .z [x0] Tryz.func56 (by kernel_rfl) (by kernel_rfl) h

def pithlaw15_held.H : Hints := { cut := fun  | _ => none, loop := fun  | _ => ([], 0), order := fun | 2 => [(0, 0), (1, 1), (2, 3), (3, 7), (4, 15), (5, 31), (6, 63), (7, 127), (8, 255), (9, 511), (10, 1023), (11, 2047), (12, 4095), (13, 8191), (14, 16383), (15, 32767), (16, 65535)] | _ => [] }
def pithlaw15_held.F [Pan] (x0 x1 : Value) (w : World) (Q : Value → World → Prop) : Prop :=
 pN Tryz.prog (oBi .len #[30] 3 [false] [x1]) w fun x8 w1 =>
 pN Tryz.prog (oBin .add 3 (.tmp 8) (.const (.int .i64 1)) x8 (.int .i64 1)) w1 fun x9 w2 =>
 pN Tryz.prog (oSl 30 x0 none (some x9) none) w2 fun x10 w3 =>
 pDr w3 fun w4 =>
 pA Tryz.prog (oBi .len #[30] 3 [false] [x1]) fun x13 =>
 pA Tryz.prog (oSl 30 x10 none (some x13) none) fun x14 =>
 pL Tryz.prog (oConv 30 9 x14) w4 fun x15 =>
 pL Tryz.prog (oConv 30 9 x1) w4 fun x17 =>
 pA Tryz.prog (oBin .eql 9 (.tmp 15) (.tmp 17) x15 x17) fun x18 =>
 gA (gB x18 true) (pA Tryz.prog (oMv x10)) fun x20 =>
 gA (gB x18 true) (pA Tryz.prog (oMv x1)) fun x21 =>
 gA (gB x18 true) (pA Tryz.prog (oBi .len #[30] 3 [false] [x21])) fun x22 =>
 gA (gB x18 true) (pA Tryz.prog (oIdx 30 x20 x22)) fun x23 =>
 gA (gB x18 true) (pL Tryz.prog (oLoad 5 x23) w4) fun x24 =>
 gA (gB x18 true) (pA Tryz.prog (oBin .eql 5 (.tmp 24) (.const (.int .u8 77)) x24 (bv 77))) fun x25 =>
 pA Tryz.prog (oPick x18 x25 (.bool false)) fun x26 =>
 Q x26 w4
theorem pithlaw15_held.calls [Pan] {x0 x1 : Value} {w : World} {Q : Value → World → Prop} (h : pithlaw15_held.F x0 x1 w Q) : Calls Tryz.prog 58 #[x0, x1] w (retP Q) := calls_lift mixed pithlaw15_held.H [x0, x1] Tryz.func58 (by kernel_rfl) (by kernel_rfl) h

def pithlaw15_sames.H : Hints := { cut := fun  | _ => none, loop := fun | 4 => ([5], 67106864) | _ => ([], 0), order := fun | 6 => [(0, 0), (1, 1), (2, 3), (3, 7), (4, 15), (5, 31), (6, 63), (7, 127), (8, 255)] | _ => [] }
def pithlaw15_sames.F [Pan] (x0 x1 : Value) (w : World) (Q : Value → World → Prop) : Prop :=
 pN Tryz.prog (oBi .len #[80] 3 [false] [x0]) w fun x7 w1 =>
 pN Tryz.prog (oBi .len #[80] 3 [false] [x1]) w1 fun x9 w2 =>
 pN Tryz.prog (oBin .neq 3 (.tmp 7) (.tmp 9) x7 x9) w2 fun x10 w3 =>
 pIf x10
 (Q (.bool false) w3)
 (∃ (L4 : Value → World → Prop) (m4 : Value → World → Nat),
 L4 (.int .i64 0) w3 ∧
 ∀ (_k4 : Env) (i5l4 : Value) (w4 : World), L4 i5l4 w4 →
 pN Tryz.prog (oBi .len #[80] 3 [false] [x0]) w4 fun x13 w5 =>
 pN Tryz.prog (oBin .lss 3 (.tmp 11) (.tmp 13) i5l4 x13) w5 fun x14 w6 =>
 pIf x14
 (pDr w6 fun w7 =>
 pA Tryz.prog (oIdx 80 x0 i5l4) fun x19 =>
 pL Tryz.prog (oLoad 48 x19) w7 fun x20 =>
 pA Tryz.prog (oIdx 80 x1 i5l4) fun x23 =>
 pL Tryz.prog (oLoad 48 x23) w7 fun x24 =>
 pA Tryz.prog (oBin .neq 48 (.tmp 20) (.tmp 24) x20 x24) fun x25 =>
 pIf x25
 (Q (.bool false) w7)
 (pN Tryz.prog (oBin .add 3 (.tmp 15) (.const (.int .i64 1)) i5l4 (.int .i64 1)) w7 fun x16 w8 =>
 (L4 x16 w8 ∧ m4 x16 w8 < m4 i5l4 w4)))
 (Q (.bool true) w6))
theorem pithlaw15_sames.calls [Pan] {x0 x1 : Value} {w : World} {Q : Value → World → Prop} (h : pithlaw15_sames.F x0 x1 w Q) : Calls Tryz.prog 96 #[x0, x1] w (retP Q) := calls_lift mixed pithlaw15_sames.H [x0, x1] Tryz.func96 (by kernel_rfl) (by kernel_rfl) h

def pithlaw15_pair_keep.H : Hints := { cut := fun  | _ => none, loop := fun | 2 => ([7], 268304512) | 6 => ([8], 274609471744) | _ => ([], 0), order := fun | 12 => [(0, 0), (1, 1), (2, 3), (3, 7), (4, 15), (5, 31), (6, 63), (7, 127), (8, 255), (9, 511), (10, 1023)] | _ => [] }
def pithlaw15_pair_keep.F [Pan] (x0 x1 x2 : Value) (w : World) (Q : Value → World → Prop) : Prop :=
 pN Tryz.prog (oNil x0) w fun x11 w1 =>
 pN Tryz.prog (oFld 119 x11 2) w1 fun x12 w2 =>
 pN Tryz.prog (oLoad 117 x12) w2 fun x13 w3 =>
 pN Tryz.prog (oBi .len #[117] 3 [false] [x13]) w3 fun x14 w4 =>
 pN Tryz.prog (oBin .mul 3 (.const (.int .i64 2)) (.tmp 14) (.int .i64 2) x14) w4 fun x15 w5 =>
 pN Tryz.prog (oConv 3 5 x15) w5 fun x16 w6 =>
 ∃ (L2 : Value → World → Prop) (m2 : Value → World → Nat),
 L2 (.int .i64 0) w6 ∧
 ∀ (_k2 : Env) (i7l2 : Value) (w7 : World), L2 i7l2 w7 →
 pN Tryz.prog (oBi .len #[80] 3 [false] [x1]) w7 fun x19 w8 =>
 pN Tryz.prog (oBin .lss 3 (.tmp 17) (.tmp 19) i7l2 x19) w8 fun x20 w9 =>
 pIf x20
 (pN Tryz.prog (oBuild 48 [(0, (.int .i64 9)), (1, x16)]) w9 fun x26 w10 =>
 pN Tryz.prog (oIdx 80 x1 i7l2) w10 fun x27 w11 =>
 pN Tryz.prog (oStore 48 x27 x26) w11 fun _ w12 =>
 pN Tryz.prog (oBin .add 3 (.tmp 21) (.const (.int .i64 1)) i7l2 (.int .i64 1)) w12 fun x22 w13 =>
 (L2 x22 w13 ∧ m2 x22 w13 < m2 i7l2 w7))
 (∃ (L6 : Value → World → Prop) (m6 : Value → World → Nat),
 L6 (.int .i64 0) w9 ∧
 ∀ (_k6 : Env) (i8l6 : Value) (w14 : World), L6 i8l6 w14 →
 pN Tryz.prog (oBi .len #[30] 3 [false] [x2]) w14 fun x30 w15 =>
 pN Tryz.prog (oBin .lss 3 (.tmp 28) (.tmp 30) i8l6 x30) w15 fun x31 w16 =>
 pIf x31
 (pN Tryz.prog (oIdx 30 x2 i8l6) w16 fun x37 w17 =>
 pN Tryz.prog (oStore 5 x37 x16) w17 fun _ w18 =>
 pN Tryz.prog (oBin .add 3 (.tmp 32) (.const (.int .i64 1)) i8l6 (.int .i64 1)) w18 fun x33 w19 =>
 (L6 x33 w19 ∧ m6 x33 w19 < m6 i8l6 w14))
 (pN Tryz.prog (oBuild 122 [(0, x1), (2, x2), (4, x16)]) w16 fun x41 w20 =>
 pN Tryz.prog (oAlloc 122) w20 fun x9 w21 =>
 pN Tryz.prog (oStore 122 x9 x41) w21 fun _ w22 =>
 pN Tryz.prog (oBuild 48 [(0, (.int .i64 10)), (1, x16)]) w22 fun x44 w23 =>
 pN Tryz.prog (oBs 80 1 [(0, x44)]) w23 fun x45 w24 =>
 pN Tryz.prog (oBi .append #[80, 80] 80 [false, false] [x1, x45]) w24 fun x46 w25 =>
 pN Tryz.prog (oFld 122 x9 1) w25 fun x47 w26 =>
 pN Tryz.prog (oStore 80 x47 x46) w26 fun _ w27 =>
 pN Tryz.prog (oBin .add 5 (.tmp 49) (.const (.int .u8 1)) x16 (bv 1)) w27 fun x50 w28 =>
 pN Tryz.prog (oBs 30 1 [(0, x50)]) w28 fun x51 w29 =>
 pN Tryz.prog (oBi .append #[30, 30] 30 [false, false] [x2, x51]) w29 fun x52 w30 =>
 pN Tryz.prog (oFld 122 x9 3) w30 fun x53 w31 =>
 pN Tryz.prog (oStore 30 x53 x52) w31 fun _ w32 =>
 pDr w32 fun w33 =>
 pA Tryz.prog (oNil x0) fun x56 =>
 pA Tryz.prog (oFld 119 x56 2) fun x57 =>
 pL Tryz.prog (oLoad 117 x57) w33 fun x58 =>
 pL Tryz.prog (oLoad 122 x9) w33 fun x59 =>
 pN Tryz.prog (oBs 117 1 [(0, x59)]) w33 fun x60 w34 =>
 ((Sem.run Tryz.prog (oLoad 117 x57) w34 = .ok (.value x58) w34) ∧ True) ∧ (pN Tryz.prog (oBi .append #[117, 117] 117 [false, false] [x58, x60]) w34 fun x61 w35 =>
 (True) ∧ (pA Tryz.prog (oNil x0) fun x62 =>
 pA Tryz.prog (oFld 119 x62 2) fun x63 =>
 pN Tryz.prog (oStore 117 x63 x61) w35 fun _ w36 =>
 (True) ∧ (Q (.tuple #[]) w36)))))
theorem pithlaw15_pair_keep.calls [Pan] {x0 x1 x2 : Value} {w : World} {Q : Value → World → Prop} (h : pithlaw15_pair_keep.F x0 x1 x2 w Q) : Calls Tryz.prog 97 #[x0, x1, x2] w (retP Q) := calls_lift mixed pithlaw15_pair_keep.H [x0, x1, x2] Tryz.func97 (by kernel_rfl) (by kernel_rfl) h

end Go.Proofs.YtbgnnjfpiblkmaaGreatDoor

namespace Go.Proofs.YtbgnnjfpiblkmaaGreatDoor
open Go
namespace Z
end Z

end Go.Proofs.YtbgnnjfpiblkmaaGreatDoor

namespace Go.Proofs.YtbgnnjfpiblkmaaGreatDoor
open Go

instance : DecidableEq Z.Y := fun a b => decidable_of_iff (a.Kind = b.Kind ∧ a.Byte = b.Byte ∧ a.Len = b.Len ∧ a.Dist = b.Dist) ⟨fun h => by
  obtain ⟨a1, a2, a3, a4⟩ := a
  obtain ⟨b1, b2, b3, b4⟩ := b
  obtain ⟨h1, h2, h3, h4⟩ := h
  simp only at h1 h2 h3 h4
  rw [h1, h2, h3, h4], fun h => by rw [h]; exact ⟨rfl, rfl, rfl, rfl⟩⟩
abbrev symV (y : Z.Y) : Value := .agg #[.int .i64 y.Kind, bv y.Byte, .int .i64 y.Len, .int .i64 y.Dist]
theorem eqs_sym (y z : Z.Y) (w : World) : (Op.equalIn 10000 48 (symV y) (symV z)).run Tryz.prog w = .ok (decide (y = z)) w := by
  have u3 := Tryz.underlying3
  have a3 := Tryz.isAgg3
  have z3 := Tryz.sizeOf3
  have u5 := Tryz.underlying5
  have a5 := Tryz.isAgg5
  have z5 := Tryz.sizeOf5
  have hS : Tryz.prog.underlying 48 = some (.struct (Tryz.prog.fieldsOf 48)) := by kernel_rfl
  rw [show (10000 : Nat) = 9999 + 1 from rfl, run_equalIn_agg w 9999 48 _ _ hS (by kernel_rfl)]
  simp only [Program.fieldsOf, Tryz.underlying48]
  obtain ⟨a, b, c, d⟩ := y
  obtain ⟨a', b', c', d'⟩ := z
  unfold bv
  go_simp
  by_cases h2 : b = b'
  · subst h2
    by_cases h1 : a = a' <;> by_cases h3 : c = c' <;> by_cases h4 : d = d' <;> simp [h1, h3, h4]
  · have h5 : ¬ (b.toNat : Int) = b'.toNat := fun h => h2 (UInt8.toNat_inj.1 (by omega))
    by_cases h1 : a = a' <;> by_cases h3 : c = c' <;> by_cases h4 : d = d' <;> simp [h1, h2, h3, h4, h5]
section
variable {K : Value → World → Prop} {xo yo : Operand} {w : World} {y z : Z.Y}
theorem run_eql_sym : (oBin .eql 48 xo yo (symV y) (symV z)).run Tryz.prog w = .ok (.value (.bool (decide (y = z)))) w :=
  run_bin_of 48 xo yo (run_eqGuard_agg w _ _ _ _ _ _ (by kernel_rfl)) (by rw [run_eql_struct, eqs_sym]; rfl)
theorem run_neq_sym : (oBin .neq 48 xo yo (symV y) (symV z)).run Tryz.prog w = .ok (.value (.bool (!decide (y = z)))) w :=
  run_bin_of 48 xo yo (run_eqGuard_agg w _ _ _ _ _ _ (by kernel_rfl)) (by rw [run_neq_struct, eqs_sym]; rfl)
theorem pN_eqs (ht : y = z → K (.bool true) w) (hf : ¬ y = z → K (.bool false) w) : pN Tryz.prog (oBin .eql 48 xo yo (symV y) (symV z)) w K := by
  rw [pN_def, run_eql_sym, rN_value]
  by_cases h : y = z
  · rw [decide_eq_true h]; exact ht h
  · rw [decide_eq_false h]; exact hf h
end

namespace Z
theorem known15_p : (⟨3, 0, 2⟩ : Pr).Ok := by decide
theorem known15 : ((DZ.new ⟨3, 0, 2⟩ 4096).take (List.replicate 6 0) 1).map (fun r => (r.2.1, r.2.2)) = some ([⟨1, 0, 0, 0⟩], [0]) := by kernel_rfl
theorem fixed_take : ∃ d, (DS.ok (DZ.new ⟨3, 0, 2⟩ 4096)).take (List.replicate 6 0) 1 = ⟨d, 0, [⟨1, 0, 0, 0⟩], [0]⟩ := by
  have h := known15
  unfold DS.take
  rw [if_pos ⟨by decide, by decide⟩]
  simp only
  cases e : (DZ.new ⟨3, 0, 2⟩ 4096).take (List.replicate 6 0) 1 with
  | none => rw [e] at h; cases h
  | some r =>
    rw [e] at h
    obtain ⟨r0, r1, r2⟩ := r
    cases h
    exact ⟨.ok r0, rfl⟩
end Z
attribute [local irreducible] oMv oV oU oCall oCallV oBi oBin oUn oLoad oStore oNil oFld oField oIdx oIndex oPick oAlloc oBox oBuild oBs oConv oMk oSl oExt oFn oIface oMap oLook oMapUp oRange oNext oEntry oInv oAssert oPanic oRes pN pA pL pDr pIf gA pGd

section
variable {E w W : World} {M N : List HA} {Q : Value → World → Prop}

set_option maxRecDepth 8000 in
theorem fixed15_ok (hG : Glo W) (hS : Sat E w M) [h : Has (old W) M N] (hQ : ∀ w, Sat E w M → Q (.bool true) w) : Calls Tryz.prog 10 #[] w (retP Q) := by
  refine pithlaw15_fixed.calls ?_
  unfold pithlaw15_fixed.F
  obtain ⟨d', hd⟩ := Z.fixed_take
  repeat' (first | refine pN_v (hk := ?_) | fail)
  refine pc_lzdec_New (DcNew_in (p := ⟨3, 0, 2⟩) hS Z.known15_p 4096 (by decide) (by decide) fun d w hS => ?_)
  have hlen : (Z.DS.ok (Z.DZ.new ⟨3, 0, 2⟩ 4096)).len = 0 := rfl
  generalize Z.DZ.new ⟨3, 0, 2⟩ 4096 = e at *
  have hx : (Z.DS.ok e).len + 2097152 + 273 ≤ 4611686018427387904 := by rw [hlen]; decide
  repeat' (first | (refine pN_neq_s ?_ ?_ <;> intro hc <;> try (exfalso; first | omega | exact hc rfl | exact hc (by assumption) | exact absurd hc (by assumption))) | refine pIf_f ?_ | refine pGd_go (by rfl) ?_ | (refine pN_mk hS _ (by first | rfl | (exact (Int.toNat_of_nonneg (by omega)).symm)) (by first | omega | (simp only [go_sem]; omega)) ?_; clear hS; intro s w hS) | refine pN_v (hk := ?_) | fail)
  have hS : Sat E _ (rows cd_uint8 s (List.replicate 6 0) :: LDec d (.ok e) :: M) := hS
  refine pc_lzdec_Decoder_Take (DcTake_ok (l := List.replicate 6 0) (s0 := s) hG (hS.fd (LDec d)) (by decide) 1 hx fun sl so w hS => ?_)
  rw [hd] at hS ⊢
  have hy0 : ([⟨1, 0, 0, 0⟩] : List Z.Y)[0]? = some ⟨1, 0, 0, 0⟩ := rfl
  repeat' (first | refine pN_eqs (y := ⟨1, 0, 0, 0⟩) (z := ⟨1, 0, 0, 0⟩) ?_ ?_ <;> intro hc <;> try (exfalso; exact hc rfl) | ((first | refine pN_eql_s ?_ ?_ | refine pN_eql_ss ?_ ?_) <;> intro hc <;> try (exfalso; first | omega | exact hc rfl | exact hc (by assumption) | exact absurd hc (by assumption))) | refine pGd_go (by rfl) ?_ | refine pN_ld_at ha hS (by rfl) ?_ | refine pN_ixk hS _ (by first | rfl | (exact (Int.toNat_of_nonneg (by omega)).symm)) (by first | rfl | omega | simpa only [go_sem] using True.intro | (simp only [go_sem]; omega)) (by assumption) fun a ha hel => ?_ | refine pN_st hS (by first | rfl | omega | simpa only [go_sem] using True.intro | (simp only [go_sem]; omega)) ?_ | refine pN_v (hk := ?_) | fail)
  exact hQ _ hS.to
end

end Go.Proofs.YtbgnnjfpiblkmaaGreatDoor

namespace Go.Proofs.YtbgnnjfpiblkmaaGreatDoor
open Go
section
variable [Pan] {P : Program} {t e : TypeId} {z : Value} {size bytes : Nat} {v : Value} {E w : World} {L M : List HA} {K : Value → World → Prop}

theorem RdA.bag {N : List HA} {A : HA} {n : Nat} {xs : List Value} (h : A ∈ N) (hr : RdA A size v n xs) : RdA (bag N) size v n xs := fun w ⟨h1, hN, hh⟩ => by
  obtain ⟨h2, hA, hs⟩ := Sats.mem h hN
  exact hr w ⟨h2, hA, fun b o e => hh b o (hs b o e)⟩

theorem pN_append_keep (ht : SlT P t e z size bytes) {ty : TypeId} {cs : List Bool} {n m : Nat} {xs news : List Value} {src : Value} (hS : Sat E w (own e size v n xs :: L)) (hr : Rd w size src m news) (h1 : ∀ u ∈ news, u.oneCell' = true)
    (hb : ((n + m) + (n + m) / 4 + 192) * bytes ≤ 281474976710656) (h63 : n + m ≤ 9223372036854775807)
    (h : ∀ (G : HA) v' w', (∃ s : Sl, v' = .slice s.a (n + m) s.c) → RdA G size v n xs → RdA G size v' (n + m) (xs ++ news) → Sat E w' (G :: L) → K v' w') : pN P (oBi .append #[t, t] ty cs [v, src]) w K := by
  obtain ⟨i, hi, hz, hs, hby⟩ := ht.info
  have hown := hS.own_at 0 rfl
  obtain ⟨hl, ao, cap, rfl, hmc, hnil, hc⟩ := id hr
  rcases hown.2 with ⟨rfl, rfl⟩ | ⟨g, c, cur, rfl, _, hg, hnc, hmx, hcs, hct⟩
  · have hx : xs = [] := List.eq_nil_of_length_eq_zero (by simpa using hown.1)
    subst hx
    refine pN_append_wide ht hS hr h1 hb h63 fun v' w' hS => ?_
    have hv : ∃ s : Sl, v' = .slice s.a (0 + m) s.c := by
      rcases (hS.own_at 0 rfl).2 with ⟨rfl, h0⟩ | ⟨g, c, _, rfl, _⟩
      · exact ⟨⟨none, 0⟩, by rw [h0]⟩
      · exact ⟨⟨some ⟨g, 0, none⟩, c⟩, rfl⟩
    exact h _ v' w' hv (fun w _ => Rd.nil) RdA.own hS
  rw [pN_def]
  cases ao with
  | none =>
    obtain ⟨rfl, rfl⟩ := hnil rfl
    have hrun := run_append_owned_none (P := P) w 0 t ty e i size ht.under hi _ n xs hown
    have : news = [] := List.length_eq_zero_iff.1 (by simpa using hl)
    subst this
    have e1 : (oBi .append #[t, t] ty cs [.slice (some ⟨g, 0, none⟩) n c, .slice none 0 0]).run P w = .ok (.value (.slice (some ⟨g, 0, none⟩) n c)) w := run_oV_ok hrun
    rw [e1]
    exact h (own e size (.slice (some ⟨g, 0, none⟩) n c) n xs) _ _ ⟨⟨some ⟨g, 0, none⟩, c⟩, rfl⟩ RdA.own (by rw [List.append_nil]; exact RdA.own) hS
  | some a =>
    obtain ⟨v', w', hrun, hown', hgr, hni⟩ := run_append_own_wide (P := P) w 0 t ty e i z size bytes ht.under hi hz hs hby ht.zsize ht.pos _ n xs hown a m cap news hl (hc a rfl) h1 (by unfold maxLen; omega) hb (Nat.zero_le _)
    subst hs hby
    have e1 : (oBi .append #[t, t] ty cs [.slice (some ⟨g, 0, none⟩) n c, .slice (some a) m cap]).run P w = .ok (.value v') w' := run_oV_ok hrun
    rw [e1]
    by_cases hroom : n + m ≤ c
    · have hfit : n * i.size + news.length ≤ cur.size := by rw [hl, hcs, ← Nat.add_mul]; exact Nat.mul_le_mul_right _ hroom
      have hr2 := run_append_room (P := P) w t ty e i ht.under hi g n c cur hg a m cap news hl (hc a rfl) h1 hroom hfit
      have := hr2.symm.trans hrun
      injection this with h2 h3
      subst h2
      refine h _ _ _ ⟨⟨some ⟨g, 0, none⟩, c⟩, rfl⟩ (fun w2 hw => ?_) RdA.own (hS.grown hgr hown' (.inl rfl))
      obtain ⟨_, ao, cap2, e2, g1, g2, g3⟩ := RdA.own w2 hw
      injection e2 with e3 e4 e5
      subst e3 e5
      refine ⟨hown.1, _, c, rfl, hnc, fun h => (by cases h), fun a ha j u hu => g3 a ha j u ?_⟩
      rw [List.getElem?_append_left (List.getElem?_eq_some_iff.1 hu).1]
      exact hu
    · have holds : ∀ j u, xs[j]? = some u → w.cell? ((⟨g, 0, none⟩ : Addr).add j) = some u := hown.cells (g := g) rfl
      have hr2 := run_append_grow (P := P) w t ty e i z ht.under hi hz ⟨g, 0, none⟩ n c xs hown.1 holds a m cap news hl (hc a rfl) (by omega) (by omega) (growslice_fits_wide (by omega) hb)
      have := hr2.symm.trans hrun
      injection this with h2 h3
      have hS2 : Sat E w.drew (own e i.size (.slice (some ⟨g, 0, none⟩) n c) n xs :: L) := ⟨hS.os, hS.tape, hS.output, hS.sats⟩
      have hS3 := hS2.alloc (.cells (xs.toArray ++ news.toArray ++ Builtin.zeroCells z.cells (grownCap w (n + m) c e - (n + m))) e)
      rw [h3] at hS3
      have hS4 : Sat E w' (own e i.size v' (n + m) (xs ++ news) :: own e i.size (.slice (some ⟨g, 0, none⟩) n c) n xs :: L) := by
        refine hS3.weaken fun h1 hA => ?_
        rcases hown'.2 with ⟨h5, h0⟩ | ⟨g', c', cur', e5, _, hg', q1, q2, q3, q4⟩
        · rw [← h2] at h5
          cases h5
        · have hb : w.heap.size = g' := by
            rw [← h2] at e5
            injection e5 with e6
            injection e6 with e6
            injection e6 with e6
          subst hb
          have hA : h1 w.heap.size = some (.cells (xs.toArray ++ news.toArray ++ Builtin.zeroCells z.cells (grownCap w (n + m) c e - (n + m))) e) := hA
          have hg2 : w'.heap[w.heap.size]? = some (.cells (xs.toArray ++ news.toArray ++ Builtin.zeroCells z.cells (grownCap w (n + m) c e - (n + m))) e) := by
            rw [← h3]
            show (w.heap.push _)[w.heap.size]? = _
            exact Array.getElem?_push_size
          rw [← hg2, hg'] at hA
          exact ⟨hown'.1, .inr ⟨_, c', cur', e5, hA, q1, q2, q3, q4⟩⟩
      exact h (bag [_, _]) _ _ ⟨⟨some ⟨w.heap.size, 0, none⟩, _⟩, h2.symm⟩ (RdA.bag (List.mem_cons_of_mem _ (List.mem_cons_self ..)) RdA.own) (RdA.bag (List.mem_cons_self ..) RdA.own) (Sat.shutBag (M := [_, _]) hS4)
end

section
variable [Pan] {P : Program} {t ty : TypeId} {α : Type} {C : Cd α} {E w : World} {L M : List HA} {s s2 : Sl} {l m : List α} {n n2 : Nat} {K : Value → World → Prop}
theorem pN_appk {cs : List Bool} (hS : Sat E w L) [hw : Row P t α C] [hf : Fnd (rows C s) L l M] [hr : Rds C L s2 m] {z : Nat} [hz : Bt C z] (hn : n = l.length) (hn2 : n2 = m.length) (hb : ((l.length + m.length) + (l.length + m.length) / 4 + 192) * z ≤ 281474976710656)
    (hk : ∀ (G : HA) s' w', RdP C G s l → RdP C G s' (l ++ m) → Sat E w' (G :: M) → K (.slice s'.a (l ++ m).length s'.c) w') : pN P (oBi .append #[t, t] ty cs [.slice s.a n s.c, .slice s2.a n2 s2.c]) w K := by
  subst hn hn2
  rw [← hz.eq] at hb
  have h0 := hS.fd (rows C s)
  have hrd := hS.rds (C := C) (s := s2)
  have hp := hw.bpos
  have h63 : l.length + m.length ≤ 9223372036854775807 := by
    have : (l.length + m.length + (l.length + m.length) / 4 + 192) * 1 ≤ (l.length + m.length + (l.length + m.length) / 4 + 192) * C.bytes := Nat.mul_le_mul_left _ hp
    omega
  refine pN_append_keep Row.slt h0 hrd (C.flat_one m) hb h63 fun G v' w' hv r1 r2 hS => ?_
  obtain ⟨s', rfl⟩ := hv
  rw [← C.flat_append, ← List.length_append] at r2
  rw [← List.length_append]
  exact hk G s' w' ⟨r1⟩ ⟨r2⟩ hS
end
end Go.Proofs.YtbgnnjfpiblkmaaGreatDoor

namespace Go.Proofs.YtbgnnjfpiblkmaaGreatDoor
open Go
theorem Sl.sub_zero (s : Sl) (z : Nat) : s.sub 0 z = s := by
  unfold Sl.sub
  rw [Nat.sub_zero, Nat.zero_mul]
  obtain ⟨a, c⟩ := s
  split
  · rfl
  · cases a <;> rfl
theorem pN_slx [Pan] {P : Program} {t : TypeId} {α : Type} {C : Cd α} {E w : World} {L : List HA} {K : Value → World → Prop} {s : Sl} {l : List α} {n : Nat} {k2 : IntKind} {i2 : Int} (hS : Sat E w L) [hw : Row P t α C] [h : Rds C L s l] (hi : Nat) (h2 : i2 = (hi : Int)) (hhi : hi ≤ l.length) (hk : K (.slice s.a hi s.c) w) : pN P (oSl t (.slice s.a n s.c) none (some (.int k2 i2)) none) w K := by
  subst h2
  obtain ⟨hx, ao, cap, e, hc, hnil, hcell⟩ := hS.rds (C := C) (s := s)
  injection e with e1 e2 e3
  have ht := Row.slt (P := P) (t := t) (C := C)
  have hrun : (oSl t (.slice s.a n s.c) none (some (.int k2 (hi : Int))) none).run P w = .ok (.value (subV (.slice s.a n s.c) 0 hi C.size)) w := by
    refine run_oV_ok ?_
    rw [run_sliceAt_slice w t _ _ _ _ ht.under', run_slice_h w t s.a n s.c ht.under' k2 hi (by omega) (by omega), ht.elem, ht.sizeOf]
    rfl
  have hk' : K (subV (.slice s.a n s.c) 0 hi C.size) w := by
    rw [subV_sl, Sl.sub_zero, Nat.sub_zero]; exact hk
  rw [pN_def, hrun]
  exact hk'
theorem pA_nes_same {xo yo : Operand} {y z : Z.Y} {J : Value → Prop} (h : y = z) (hk : J (.bool false)) : pA Tryz.prog (oBin .neq 48 xo yo (symV y) (symV z)) J :=
  ⟨_, fun w => by rw [run_neq_sym, decide_eq_true h]; rfl, hk⟩
attribute [local irreducible] oMv oV oU oCall oCallV oBi oBin oUn oLoad oStore oNil oFld oField oIdx oIndex oPick oAlloc oBox oBuild oBs oConv oMk oSl oExt oFn oIface oMap oLook oMapUp oRange oNext oEntry oInv oAssert oPanic oRes pN pA pL pDr pIf gA pGd Calls

section
variable {E w W : World} {M N : List HA} {Q : Value → World → Prop} {d : Z.DS} {p : Z.Pr}
theorem room15_ok {s0 : Sl} {l : List UInt8} (hS : Sat E w M) [hl : Rds cd_uint8 M s0 l] (hn : l.length ≤ 1048576) (hQ : ∀ s w, Sat E w (rows cd_uint8 s (l ++ [77]) :: M) → Q (.slice s.a l.length s.c) w) :
    Calls Tryz.prog 56 #[.slice s0.a l.length s0.c] w (retP Q) := by
  refine pithlaw15_room.calls ?_
  unfold pithlaw15_room.F
  have hS : Sat E _ (rows cd_uint8 ⟨none, 0⟩ [] :: _) := hS.nil 5 1
  have hll : (l ++ [77]).length = l.length + 1 := by simp
  repeat' (first | (rw [List.nil_append] at hS; refine pN_slx (l := l ++ [77]) hS l.length rfl (by omega) ?_) | (refine pN_b1 hS (by rfl) (by decide) ?_; clear hS; intro s w hS) | (refine pN_b0 hS ?_; clear hS; intro s w hS) | (refine pN_app hS (by first | rfl | omega | simpa only [go_sem] using True.intro | (simp only [go_sem]; omega)) (by first | rfl | omega | simpa only [go_sem] using True.intro | (simp only [go_sem]; omega)) (by first | omega | (simp only [go_sem]; omega)) ?_; clear hS; intro s w hS) | refine pN_v (hk := ?_) | fail)
  exact hQ _ _ hS.to
theorem held15_ok {s s1 : Sl} {l : List UInt8} (hS : Sat E w (rows cd_uint8 s (l ++ [77]) :: M)) [h1 : Rds cd_uint8 M s1 l] (hn : l.length ≤ 1048576) (hQ : ∀ w, Sat E w (rows cd_uint8 s (l ++ [77]) :: M) → Q (.bool true) w) :
    Calls Tryz.prog 58 #[.slice s.a l.length s.c, .slice s1.a l.length s1.c] w (retP Q) := by
  refine pithlaw15_held.calls ?_
  unfold pithlaw15_held.F
  have hll : (l ++ [77]).length = l.length + 1 := by simp
  have hat : (l ++ [77])[l.length]? = some 77 := by simp
  have htk : (l ++ [77]).take l.length = l := by simp
  repeat' (first | refine pN_slx (l := l ++ [77]) hS (l ++ [77]).length (by omega) (Nat.le_refl _) ?_ | (refine pA_slhw (C := cd_uint8) (l := l ++ [77]) hS l.length rfl rfl (by omega) ?_; rw [htk]; generalize s.sub 0 cd_uint8.size = s2; intro hp) | ((first | refine pA_eql_s ?_ ?_ | refine pA_eql_ss ?_ ?_) <;> intro hc <;> try (exfalso; first | omega | exact hc rfl | exact hc (by assumption) | exact absurd hc (by assumption))) | refine gA_go (by rfl) ?_ | refine pL_ld1 ha hS ?_ | (refine pDr_go hS ?_; clear hS; intro w hS) | refine pA_ixk hS _ (by first | rfl | (exact (Int.toNat_of_nonneg (by omega)).symm)) (by first | rfl | omega | simpa only [go_sem] using True.intro | (simp only [go_sem]; omega)) (by assumption) fun a ha hel => ?_ | refine pL_st hS (by first | rfl | omega | simpa only [go_sem] using True.intro | (simp only [go_sem]; omega)) ?_ | refine pN_v (hk := ?_) | refine pA_v (hk := ?_) | fail)
  exact hQ _ hS
theorem sames15_ok {s0 s1 : Sl} {l : List Z.Y} (hS : Sat E w M) [h0 : Rds cd_api_Symbol M s0 l] [h1 : Rds cd_api_Symbol M s1 l] (hn : l.length ≤ 2097152) (hQ : ∀ w, Sat E w M → Q (.bool true) w) :
    Calls Tryz.prog 96 #[.slice s0.a l.length s0.c, .slice s1.a l.length s1.c] w (retP Q) := by
  refine pithlaw15_sames.calls ?_
  unfold pithlaw15_sames.F
  repeat' (first | (refine pN_neq_s ?_ ?_ <;> intro hc <;> try (exfalso; first | omega | exact hc rfl | exact hc (by assumption) | exact absurd hc (by assumption))) | refine pIf_f ?_ | refine pN_v (hk := ?_) | fail)
  refine ⟨fun v w => ∃ i : Nat, v = .int .i64 i ∧ i ≤ l.length ∧ Sat E w M, fun v _ => l.length - (RowKit.intOf v).toNat, ⟨0, rfl, Nat.zero_le _, hS⟩, ?_⟩
  clear hS
  rintro _ _ w ⟨i, rfl, hi, hS⟩
  by_cases hlt : i < l.length
  · obtain ⟨y, hy⟩ : ∃ y, l[i]? = some y := ⟨l[i]'hlt, by simp⟩
    repeat' (first | refine pA_nes_same rfl ?_ | (refine pN_lss_s ?_ ?_ <;> intro hc <;> try (exfalso; omega)) | refine pIf_t ?_ | refine pIf_f ?_ | refine pL_ld_at ha hS (by rfl) ?_ | (refine pDr_go hS ?_; clear hS; intro w hS) | refine pA_ixk hS _ (by first | rfl | (exact (Int.toNat_of_nonneg (by omega)).symm)) (by first | rfl | omega | simpa only [go_sem] using True.intro | (simp only [go_sem]; omega)) (by assumption) fun a ha hel => ?_ | refine pN_v (hk := ?_) | fail)
    exact ⟨⟨i + 1, rfl, by omega, hS.to⟩, by simp [RowKit.intOf]; omega⟩
  · obtain rfl : i = l.length := by omega
    repeat' (first | (refine pN_lss_s ?_ ?_ <;> intro hc <;> try (exfalso; omega)) | refine pIf_f ?_ | refine pN_v (hk := ?_) | fail)
    exact hQ _ hS
end
end Go.Proofs.YtbgnnjfpiblkmaaGreatDoor

namespace Go.Proofs.YtbgnnjfpiblkmaaGreatDoor
open Go
structure Pg where
  S : Sl
  More : Sl
  B : Sl
  On : Sl
  ys : List Z.Y
  bs : List UInt8
  m : UInt8
  G : HA
  H : HA
structure Pg.Ok (g : Pg) : Prop where
  s : RdP cd_api_Symbol g.G g.S g.ys
  more : RdP cd_api_Symbol g.G g.More (g.ys ++ [⟨10, g.m, 0, 0⟩])
  b : RdP cd_uint8 g.H g.B g.bs
  on : RdP cd_uint8 g.H g.On (g.bs ++ [g.m + 1])
  hy : ∀ (i : Nat) (y : Z.Y), g.ys[i]? = some y → y = ⟨9, g.m, 0, 0⟩
  hb : ∀ (i : Nat) (y : UInt8), g.bs[i]? = some y → y = g.m
  ly : g.ys.length ≤ 2097152
  lb : g.bs.length ≤ 2097152
def Pg.part (g : Pg) : HA := bag [g.G, g.H]
def Pg.t (g : Pg) : T_pithlaw15_Page := ⟨(g.S, g.ys), (g.More, g.ys ++ [⟨10, g.m, 0, 0⟩]), (g.B, g.bs), (g.On, g.bs ++ [g.m + 1]), g.m⟩
theorem set_fill' {α : Type} (k : Nat) (x : α) (l : List α) (h : k < l.length) : (List.replicate k x ++ l.drop k).set k x = List.replicate (k + 1) x ++ l.drop (k + 1) := by
  rw [List.set_append_right _ _ (by simp)]
  simp only [List.length_replicate, Nat.sub_self]
  rw [List.drop_eq_getElem_cons h, List.set_cons_zero, List.replicate_succ']
  simp
abbrev parC (b r : Nat) (sb : Sl) (n : Nat) : Ob := ⟨119, [pz b, pz r, .slice sb.a n sb.c]⟩
theorem byte_succ (m : UInt8) : byteOf ((m.toNat : Int) + 1) = m + 1 := by
  apply UInt8.toNat_inj.1
  rw [UInt8.toNat_add]
  have h := m.toNat_lt
  unfold byteOf
  simp only [UInt8.toNat_ofNat']
  have e : (1 : UInt8).toNat = 1 := rfl
  rw [e]
  omega
attribute [local irreducible] oMv oV oU oCall oCallV oBi oBin oUn oLoad oStore oNil oFld oField oIdx oIndex oPick oAlloc oBox oBuild oBs oConv oMk oSl oExt oFn oIface oMap oLook oMapUp oRange oNext oEntry oInv oAssert oPanic oRes pN pA pL pDr pIf gA pGd Calls

section
variable {E w W : World} {M N : List HA} {Q : Value → World → Prop} {b r x : Nat} {sb sl so : Sl} {l : List Z.Y} {out : List UInt8} {pgs : List Pg}
set_option maxHeartbeats 2000000 in
theorem keep15_ok (hS : Sat E w (cel x (parC b r sb pgs.length) :: rows cd_pithlaw15_Page sb (pgs.map Pg.t) :: rows cd_api_Symbol sl l :: rows cd_uint8 so out :: M)) (hn : pgs.length ≤ 2097152) (h1 : l.length ≤ 2097152) (h2 : out.length ≤ 2097152)
    (hQ : ∀ (g : Pg) (sb' : Sl) w, g.Ok → Sat E w (cel x (parC b r sb' (pgs.length + 1)) :: rows cd_pithlaw15_Page sb' ((pgs ++ [g]).map Pg.t) :: g.G :: g.H :: M) → Q (.tuple #[]) w) :
    Calls Tryz.prog 97 #[pz x, .slice sl.a l.length sl.c, .slice so.a out.length so.c] w (retP Q) := by
  refine pithlaw15_pair_keep.calls ?_
  unfold pithlaw15_pair_keep.F
  have hml : (pgs.map Pg.t).length = pgs.length := List.length_map _
  repeat' (first | refine pN_tob ?_ | refine pN_l hS (by first | rfl | assumption) ?_ | refine pN_v (hk := ?_) | fail)
  generalize byteOf (2 * (pgs.length : Int)) = m at *
  refine ⟨fun v w => ∃ i : Nat, v = .int .i64 i ∧ i ≤ l.length ∧ Sat E w (cel x (parC b r sb pgs.length) :: rows cd_pithlaw15_Page sb (pgs.map Pg.t) :: rows cd_api_Symbol sl (List.replicate i ⟨9, m, 0, 0⟩ ++ l.drop i) :: rows cd_uint8 so out :: M), fun v _ => l.length - (RowKit.intOf v).toNat, ⟨0, rfl, Nat.zero_le _, by rw [List.replicate_zero, List.nil_append, List.drop_zero]; exact hS.to⟩, ?_⟩
  clear hS
  rintro _ _ w ⟨i, rfl, hi, hS⟩
  by_cases hlt : i < l.length
  · have hm : (List.replicate i (⟨9, m, 0, 0⟩ : Z.Y) ++ l.drop i).length = l.length := by simp; omega
    have he := set_fill' i (⟨9, m, 0, 0⟩ : Z.Y) l hlt
    generalize List.replicate i (⟨9, m, 0, 0⟩ : Z.Y) ++ l.drop i = q at hm hS he
    repeat' (first | (refine pN_srn (x := (⟨9, m, 0, 0⟩ : Z.Y)) hel hS (by rfl) (by rfl) (by omega) ?_; clear hS; intro w hS) | (refine pN_lss_s ?_ ?_ <;> intro hc <;> try (exfalso; omega)) | refine pIf_t ?_ | refine pN_ix hS _ (by first | rfl | (exact (Int.toNat_of_nonneg (by omega)).symm)) (by first | rfl | omega | simpa only [go_sem] using True.intro | (simp only [go_sem]; omega)) (by first | omega | (simp only [go_sem]; omega)) fun a x hx ha hel => ?_ | refine pN_v (hk := ?_) | fail)
    rw [he] at hS
    exact ⟨⟨i + 1, rfl, by omega, hS.to⟩, by simp [RowKit.intOf] <;> omega⟩
  obtain rfl : i = l.length := by omega
  rw [List.drop_length, List.append_nil] at hS
  obtain ⟨ys, hys⟩ : ∃ ys, ys = List.replicate l.length (⟨9, m, 0, 0⟩ : Z.Y) := ⟨_, rfl⟩
  have hly : l.length = ys.length := by rw [hys, List.length_replicate]
  have hyg : ∀ (i : Nat) (y : Z.Y), ys[i]? = some y → y = ⟨9, m, 0, 0⟩ := fun i y h => by rw [hys] at h; exact List.eq_of_mem_replicate (List.mem_of_getElem? h)
  rw [← hys] at hS
  rw [hly] at h1 ⊢
  clear hly hys hlt hi
  repeat' (first | (refine pN_lss_s ?_ ?_ <;> intro hc <;> try (exfalso; omega)) | refine pIf_f ?_ | refine pN_v (hk := ?_) | fail)
  refine ⟨fun v w => ∃ i : Nat, v = .int .i64 i ∧ i ≤ out.length ∧ Sat E w (cel x (parC b r sb pgs.length) :: rows cd_pithlaw15_Page sb (pgs.map Pg.t) :: rows cd_api_Symbol sl ys :: rows cd_uint8 so (List.replicate i m ++ out.drop i) :: M), fun v _ => out.length - (RowKit.intOf v).toNat, ⟨0, rfl, Nat.zero_le _, by rw [List.replicate_zero, List.nil_append, List.drop_zero]; exact hS.to⟩, ?_⟩
  clear hS
  rintro _ _ w ⟨i, rfl, hi, hS⟩
  by_cases hlt : i < out.length
  · have hm : (List.replicate i m ++ out.drop i).length = out.length := by simp; omega
    have he := set_fill' i m out hlt
    generalize List.replicate i m ++ out.drop i = q at hm hS he
    repeat' (first | (refine pN_lss_s ?_ ?_ <;> intro hc <;> try (exfalso; omega)) | refine pIf_t ?_ | refine pN_ix hS _ (by first | rfl | (exact (Int.toNat_of_nonneg (by omega)).symm)) (by first | rfl | omega | simpa only [go_sem] using True.intro | (simp only [go_sem]; omega)) (by first | omega | (simp only [go_sem]; omega)) fun a x hx ha hel => ?_ | (refine pN_sr hel hS (by rfl) (by rfl) (by first | omega | (simp only [go_sem]; omega)) ?_; clear hS; intro w hS) | refine pN_v (hk := ?_) | fail)
    rw [he] at hS
    exact ⟨⟨i + 1, rfl, by omega, hS.to⟩, by simp [RowKit.intOf] <;> omega⟩
  obtain rfl : i = out.length := by omega
  rw [List.drop_length, List.append_nil] at hS
  obtain ⟨bs, hbs⟩ : ∃ bs, bs = List.replicate out.length m := ⟨_, rfl⟩
  have hlb : out.length = bs.length := by rw [hbs, List.length_replicate]
  have hbg : ∀ (i : Nat) (y : UInt8), bs[i]? = some y → y = m := fun i y h => by rw [hbs] at h; exact List.eq_of_mem_replicate (List.mem_of_getElem? h)
  rw [← hbs] at hS
  rw [hlb] at h2 ⊢
  clear hlb hbs hlt hi
  have hm1 := byte_succ m
  repeat' (first | (refine pN_b1 (x := (⟨10, m, 0, 0⟩ : Z.Y)) hS (by rfl) (by decide) ?_; clear hS; intro s1 w hS) | (refine pN_appk (C := cd_api_Symbol) (s := sl) (l := ys) (m := [⟨10, m, 0, 0⟩]) hS rfl rfl (by simp only [List.length_cons, List.length_nil]; omega) ?_; clear hS; intro G sm w rg1 rg2 hS) | (refine pN_appk (C := cd_uint8) (s := so) (l := bs) (m := [m + 1]) hS rfl rfl (by simp only [List.length_cons, List.length_nil]; omega) ?_; clear hS; intro H sn w rh1 rh2 hS) | (refine pN_b1 (x := (m + 1 : UInt8)) hS (by first | rfl | (rw [← hm1]; rfl)) (by decide) ?_; clear hS; intro s2 w hS) | (refine pN_lss_s ?_ ?_ <;> intro hc <;> try (exfalso; omega)) | refine pIf_f ?_ | refine pL_l hS (by first | rfl | assumption) ?_ | refine pL_la hS (by rfl) ?_ | (refine pN_s hS (by first | exact Nat.le_of_ble_eq_true rfl | assumption) (by rfl) ?_; clear hS; intro w hS; try simp only [List.set_cons_zero, List.set_cons_succ] at hS) | (refine pN_sa hS (by rfl) (by rfl) (by rfl) ?_; clear hS; intro w hS; try dsimp only at hS) | (refine pDr_go hS ?_; clear hS; intro w hS) | (refine pN_nz hS ?_; clear hS; intro a w hS) | refine pN_v (hk := ?_) | refine pA_v (hk := ?_) | fail)
  have hg : Pg.Ok ⟨sl, sm, so, sn, ys, bs, m, G, H⟩ := ⟨rg1, rg2, rh1, rh2, hyg, hbg, h1, h2⟩
  have hmap : (pgs ++ [(⟨sl, sm, so, sn, ys, bs, m, G, H⟩ : Pg)]).map Pg.t = pgs.map Pg.t ++ [Pg.t ⟨sl, sm, so, sn, ys, bs, m, G, H⟩] := by simp
  have hml2 : (pgs.map Pg.t ++ [Pg.t ⟨sl, sm, so, sn, ys, bs, m, G, H⟩]).length = pgs.length + 1 := by simp
  repeat' (first | (refine pN_b1 (x := Pg.t ⟨sl, sm, so, sn, ys, bs, m, G, H⟩) hS (by rfl) (by decide) ?_; clear hS; intro s3 w hS) | refine And.intro True.intro ?_ | refine ⟨⟨run_l hS rfl, trivial⟩, ?_⟩ | (refine pN_app (C := cd_pithlaw15_Page) (s := sb) (l := pgs.map Pg.t) hS hml.symm rfl (by simp only [List.length_cons, List.length_nil]; omega) ?_; rw [hml2]; clear hS; intro s4 w hS) | (refine pN_s hS (by first | exact Nat.le_of_ble_eq_true rfl | assumption) (by rfl) ?_; clear hS; intro w hS; try simp only [List.set_cons_zero, List.set_cons_succ] at hS) | refine pA_v (hk := ?_) | fail)
  rw [← hmap] at hS
  have hS : Sat E _ (cel x (parC b r s4 (pgs.length + 1)) :: rows cd_pithlaw15_Page s4 ((pgs ++ [(⟨sl, sm, so, sn, ys, bs, m, G, H⟩ : Pg)]).map Pg.t) :: G :: H :: M) := hS.to
  exact hQ _ _ _ hg hS
end
end Go.Proofs.YtbgnnjfpiblkmaaGreatDoor

namespace Go.Proofs.YtbgnnjfpiblkmaaGreatDoor
open Go
theorem run_ldn {α : Type} {C : Cd α} {l : List α} {s : Sl} {E w : World} {L : List HA} {P : Program} {t : TypeId} {z : Nat} {a : Addr} {cs : List Value} (ha : EA C s l a cs) (hS : Sat E w L) [hr : Rds C L s l] [Ag P t z] (hn : z = cs.length) : (oLoad t (.pointer (some a))).run P w = .ok (.value (.agg cs.toArray)) w := by
  subst hn
  exact run_load_agg Ag.ag Ag.sz (ha.at_ E w L hr hS)
def book (_ : Unit) (pgs : List Pg) : HA := bag (pgs.map Pg.part)
def bookBut (_ : Unit) (q : List Pg × Nat) : HA := bag ((q.1.map Pg.part).eraseIdx q.2)
section
variable {E w : World} {M : List HA} {pgs : List Pg} {k : Nat} {g : Pg}
theorem book.out (hS : Sat E w (book () pgs :: M)) (h : pgs[k]? = some g) : Sat E w (g.G :: g.H :: bookBut () (pgs, k) :: M) := by
  have h1 := Sat.out (A := g.part) hS k (by rw [List.getElem?_map, h]; rfl)
  exact h1.open_ (M := [_, _]) fun _ h => h
theorem book.into (hS : Sat E w (g.G :: g.H :: bookBut () (pgs, k) :: M)) (h : pgs[k]? = some g) : Sat E w (book () pgs :: M) := by
  have h1 : Sat E w (g.part :: bookBut () (pgs, k) :: M) := Sat.shut (M := [_, _]) hS fun _ h => h
  have hx : (pgs.map Pg.part)[k]? = some g.part := by rw [List.getElem?_map, h]; rfl
  have h2 := Sat.into (A := g.part) h1 hx
  rw [set_same hx] at h2
  exact h2
theorem book.snoc (hS : Sat E w (g.G :: g.H :: book () pgs :: M)) : Sat E w (book () (pgs ++ [g]) :: M) := by
  have h1 : Sat E w (g.part :: book () pgs :: M) := Sat.shut (M := [_, _]) hS fun _ h => h
  have h2 := Sat.bag_snoc h1
  have e : pgs.map Pg.part ++ [g.part] = (pgs ++ [g]).map Pg.part := by simp
  rw [e] at h2
  exact h2
end
attribute [local irreducible] oMv oV oU oCall oCallV oBi oBin oUn oLoad oStore oNil oFld oField oIdx oIndex oPick oAlloc oBox oBuild oBs oConv oMk oSl oExt oFn oIface oMap oLook oMapUp oRange oNext oEntry oInv oAssert oPanic oRes pN pA pL pDr pIf gA pGd Calls

section
variable {E w W : World} {M N : List HA} {Q : Value → World → Prop} {b r x : Nat} {sb : Sl} {pgs : List Pg}
set_option maxHeartbeats 4000000 in
theorem kept15_ok (hS : Sat E w (cel x (parC b r sb pgs.length) :: rows cd_pithlaw15_Page sb (pgs.map Pg.t) :: book () pgs :: M)) (hn : pgs.length ≤ 2097152) (hp : ∀ g ∈ pgs, g.Ok)
    (hQ : ∀ w, Sat E w (cel x (parC b r sb pgs.length) :: rows cd_pithlaw15_Page sb (pgs.map Pg.t) :: book () pgs :: M) → Q (.bool true) w) :
    Calls Tryz.prog 12 #[pz x] w (retP Q) := by
  refine pithlaw15_pair_kept.calls ?_
  unfold pithlaw15_pair_kept.F
  have hml : (pgs.map Pg.t).length = pgs.length := List.length_map _
  refine ⟨fun v w => ∃ k : Nat, v = .int .i64 k ∧ k ≤ pgs.length ∧ Sat E w (cel x (parC b r sb pgs.length) :: rows cd_pithlaw15_Page sb (pgs.map Pg.t) :: book () pgs :: M), fun v _ => pgs.length - (RowKit.intOf v).toNat, ⟨0, rfl, Nat.zero_le _, hS⟩, ?_⟩
  clear hS
  rintro _ _ w ⟨k, rfl, hk, hS⟩
  by_cases hlt : k < pgs.length
  rotate_left 1
  · obtain rfl : k = pgs.length := by omega
    repeat' (first | (refine pN_lss_s ?_ ?_ <;> intro hc <;> try (exfalso; omega)) | refine pIf_f ?_ | refine pN_l hS (by first | rfl | assumption) ?_ | refine pN_v (hk := ?_) | fail)
    exact hQ _ hS
  obtain ⟨g, hg⟩ : ∃ g, pgs[k]? = some g := ⟨pgs[k]'hlt, by simp⟩
  have hgt : (pgs.map Pg.t)[k]? = some g.t := by rw [List.getElem?_map, hg]; rfl
  obtain ⟨r1, r2, r3, r4, hy, hb, ly, lb⟩ := hp g (List.mem_of_getElem? hg)
  have hS := book.out (hS.fd (book ())) hg
  have hin := fun (w : World) (M : List HA) (h : Sat E w (g.G :: g.H :: bookBut () (pgs, k) :: M)) => book.into h hg
  clear hg
  obtain ⟨sy, sm, so, sn, ys, bs, m, G, H⟩ := g
  dsimp only at r1 r2 r3 r4 hy hb ly lb hin hS
  have hgt : (pgs.map Pg.t)[k]? = some ⟨(sy, ys), (sm, ys ++ [⟨10, m, 0, 0⟩]), (so, bs), (sn, bs ++ [m + 1]), m⟩ := hgt
  repeat' (first | (refine pN_lss_s ?_ ?_ <;> intro hc <;> try (exfalso; omega)) | refine pIf_t ?_ | refine pN_l hS (by first | rfl | assumption) ?_ | refine pN_ld_at ha hS (by rfl) ?_ | (refine pN_sa hS (by rfl) (by rfl) (by rfl) ?_; clear hS; intro w hS; try dsimp only at hS) | (refine pN_nz hS ?_; clear hS; intro a w hS) | refine pN_ixk hS _ (by first | rfl | (exact (Int.toNat_of_nonneg (by omega)).symm)) (by first | rfl | omega | simpa only [go_sem] using True.intro | (simp only [go_sem]; omega)) (by assumption) fun a ha hel => ?_ | refine pN_v (hk := ?_) | fail)
  have hS : Sat E _ (cel a ⟨122, [.slice sy.a ys.length sy.c, .slice sm.a (ys ++ [(⟨10, m, 0, 0⟩ : Z.Y)]).length sm.c, .slice so.a bs.length so.c, .slice sn.a (bs ++ [m + 1]).length sn.c, bv m]⟩ :: G :: H :: bookBut () (pgs, k) :: cel x (parC b r sb pgs.length) :: rows cd_pithlaw15_Page sb (pgs.map Pg.t) :: M) := hS
  have hym : (ys ++ [(⟨10, m, 0, 0⟩ : Z.Y)])[ys.length]? = some ⟨10, m, 0, 0⟩ := by simp
  have hbm : (bs ++ [m + 1])[bs.length]? = some (m + 1) := by simp
  have hlm : (ys ++ [(⟨10, m, 0, 0⟩ : Z.Y)]).length = ys.length + 1 := by simp
  have hln : (bs ++ [m + 1]).length = bs.length + 1 := by simp
  refine ⟨fun v w => ∃ i : Nat, v = .int .i64 i ∧ i ≤ ys.length ∧ Sat E w (cel a ⟨122, [.slice sy.a ys.length sy.c, .slice sm.a (ys ++ [(⟨10, m, 0, 0⟩ : Z.Y)]).length sm.c, .slice so.a bs.length so.c, .slice sn.a (bs ++ [m + 1]).length sn.c, bv m]⟩ :: G :: H :: bookBut () (pgs, k) :: cel x (parC b r sb pgs.length) :: rows cd_pithlaw15_Page sb (pgs.map Pg.t) :: M), fun v _ => ys.length - (RowKit.intOf v).toNat, ⟨0, rfl, Nat.zero_le _, hS⟩, ?_⟩
  clear hS
  rintro _ _ w ⟨i, rfl, hi, hS⟩
  by_cases hlt2 : i < ys.length
  · obtain ⟨y, hy1⟩ : ∃ y, ys[i]? = some y := ⟨ys[i]'hlt2, by simp⟩
    obtain rfl := hy i y hy1
    have hy2 : (ys ++ [(⟨10, m, 0, 0⟩ : Z.Y)])[i]? = some ⟨9, m, 0, 0⟩ := by rw [List.getElem?_append_left hlt2]; exact hy1
    repeat' (first | refine pA_nes_same rfl ?_ | refine ⟨⟨run_ldn (by assumption) hS rfl, run_l hS rfl, trivial⟩, ?_⟩ | (refine pN_lss_s ?_ ?_ <;> intro hc <;> try (exfalso; omega)) | refine pIf_t ?_ | refine pIf_f ?_ | refine gA_go (by rfl) ?_ | refine pN_l hS (by first | rfl | assumption) ?_ | refine pL_l hS (by first | rfl | assumption) ?_ | refine pL_ld_at ha hS (by rfl) ?_ | (refine pDr_go hS ?_; clear hS; intro w hS) | refine pA_ixk hS _ (by first | rfl | (exact (Int.toNat_of_nonneg (by omega)).symm)) (by first | rfl | omega | simpa only [go_sem] using True.intro | (simp only [go_sem]; omega)) (by assumption) fun a ha hel => ?_ | refine pN_v (hk := ?_) | refine pA_v (hk := ?_) | fail)
    exact ⟨⟨i + 1, rfl, by omega, hS⟩, by simp [RowKit.intOf]; omega⟩
  obtain rfl : i = ys.length := by omega
  repeat' (first | (refine pN_lss_s ?_ ?_ <;> intro hc <;> try (exfalso; omega)) | refine pIf_f ?_ | refine pN_l hS (by first | rfl | assumption) ?_ | refine pN_v (hk := ?_) | fail)
  refine ⟨fun v w => ∃ i : Nat, v = .int .i64 i ∧ i ≤ bs.length ∧ Sat E w (cel a ⟨122, [.slice sy.a ys.length sy.c, .slice sm.a (ys ++ [(⟨10, m, 0, 0⟩ : Z.Y)]).length sm.c, .slice so.a bs.length so.c, .slice sn.a (bs ++ [m + 1]).length sn.c, bv m]⟩ :: G :: H :: bookBut () (pgs, k) :: cel x (parC b r sb pgs.length) :: rows cd_pithlaw15_Page sb (pgs.map Pg.t) :: M), fun v _ => bs.length - (RowKit.intOf v).toNat, ⟨0, rfl, Nat.zero_le _, hS⟩, ?_⟩
  clear hS
  rintro _ _ w ⟨i, rfl, hi, hS⟩
  by_cases hlt2 : i < bs.length
  · obtain ⟨y, hy1⟩ : ∃ y, bs[i]? = some y := ⟨bs[i]'hlt2, by simp⟩
    obtain rfl := hb i y hy1
    have hy2 : (bs ++ [y + 1])[i]? = some y := by rw [List.getElem?_append_left hlt2]; exact hy1
    repeat' (first | (refine pN_lss_s ?_ ?_ <;> intro hc <;> try (exfalso; omega)) | (refine pA_neq_s ?_ ?_ <;> intro hc <;> try (exfalso; first | omega | exact hc rfl | exact hc (by assumption) | exact absurd hc (by assumption))) | refine pIf_t ?_ | refine pIf_f ?_ | refine gA_go (by rfl) ?_ | refine pN_l hS (by first | rfl | assumption) ?_ | refine pL_l hS (by first | rfl | assumption) ?_ | refine pL_ld1 ha hS ?_ | (refine pDr_go hS ?_; clear hS; intro w hS) | refine pA_ixk hS _ (by first | rfl | (exact (Int.toNat_of_nonneg (by omega)).symm)) (by first | rfl | omega | simpa only [go_sem] using True.intro | (simp only [go_sem]; omega)) (by assumption) fun a ha hel => ?_ | refine pN_v (hk := ?_) | refine pA_v (hk := ?_) | fail)
    exact ⟨⟨i + 1, rfl, by omega, hS⟩, by simp [RowKit.intOf]; omega⟩
  obtain rfl : i = bs.length := by omega
  repeat' (first | refine pA_nes_same rfl ?_ | refine ⟨⟨run_ldn (by assumption) hS rfl, run_l hS rfl, run_l hS rfl, trivial⟩, ?_⟩ | (refine pN_lss_s ?_ ?_ <;> intro hc <;> try (exfalso; omega)) | (refine pA_neq_s ?_ ?_ <;> intro hc <;> try (exfalso; first | omega | exact hc rfl | exact hc (by assumption) | exact absurd hc (by assumption))) | refine pIf_f ?_ | refine gA_go (by rfl) ?_ | refine pN_l hS (by first | rfl | assumption) ?_ | refine pL_l hS (by first | rfl | assumption) ?_ | refine pL_ld1 ha hS ?_ | refine pL_ld_at ha hS (by rfl) ?_ | (refine pDr_go hS ?_; clear hS; intro w hS) | refine pA_ixk hS _ (by first | rfl | (exact (Int.toNat_of_nonneg (by omega)).symm)) (by first | rfl | omega | simpa only [go_sem] using True.intro | (simp only [go_sem]; omega)) (by assumption) fun a ha hel => ?_ | refine pN_v (hk := ?_) | refine pA_v (hk := ?_) | fail)
  have hS2 := hin _ _ (show Sat E _ (G :: H :: bookBut () (pgs, k) :: cel x (parC b r sb pgs.length) :: rows cd_pithlaw15_Page sb (pgs.map Pg.t) :: M) from hS.to)
  exact ⟨⟨k + 1, rfl, by omega, hS2.to⟩, by simp [RowKit.intOf]; omega⟩
end
end Go.Proofs.YtbgnnjfpiblkmaaGreatDoor

namespace Go.Proofs.YtbgnnjfpiblkmaaGreatDoor
open Go
namespace Z
theorem loop_l {p : Pr} {n : Int} : ∀ (k : Nat) {s t : LS}, loopD p n k s = some t → s.l.length ≤ s.out.length → t.l.length ≤ t.out.length
  | 0, s, t, h, h0 => by
    rw [loopD] at h
    split at h
    · cases h
    · cases h; exact h0
  | k + 1, s, t, h, h0 => by
    rw [loopD] at h
    split at h
    · split at h
      · cases h
      · rename_i u hu
        have hl := LS.step_len hu
        exact loop_l k h (by omega)
    · cases h; exact h0
theorem DZ.take_len {e : DZ} {b : List UInt8} {n : Int} {f : DZ} {l : List Y} {out : List UInt8} (h0 : 0 ≤ n) (h : e.take b n = some (f, l, out)) : l.length ≤ out.length ∧ (out.length : Int) ≤ n ∧ f.x.all.length = e.x.all.length + out.length := by
  unfold DZ.take at h
  split at h
  · cases h
  · split at h
    · cases h
    · rename_i d u t hl
      split at h
      · cases h
        have h1 := loop_fin _ hl
        have h2 := loop_l _ hl (Nat.le_refl _)
        have h3 := h1.2.2 (by show ((0 : Nat) : Int) ≤ n; omega)
        have h4 : t.x.all.length + 0 = e.x.all.length + t.out.length := h1.2.1
        exact ⟨h2, h3, by simpa using h4⟩
      · cases h
theorem DS.take_len (d : DS) (b : List UInt8) (n : Int) : (d.take b n).l.length ≤ 2097152 ∧ (d.take b n).out.length ≤ 2097152 ∧ (d.take b n).d.len ≤ d.len + 2097152 ∧ 0 ≤ (d.take b n).e ∧ (d.take b n).e ≤ 7 := by
  unfold DS.take
  split
  · rename_i hn
    cases d with
    | sp p z m => simp [DS.len]
    | ok e =>
      simp only
      cases h : e.take b n with
      | none => simp only [DS.len, List.length_nil]; omega
      | some r =>
        obtain ⟨f, l, out⟩ := r
        have := DZ.take_len (by omega) h
        simp only [DS.len]; omega
  · simp only [List.length_nil]; omega
end Z
def Par (x : Nat) (d : Z.DS) (n : Nat) : HA := fun h => ∃ k : Nat × Nat × Sl × List Pg, (k.2.2.2.length ≤ n ∧ ∀ g ∈ k.2.2.2, g.Ok) ∧ Sats [cel x (parC k.1 k.2.1 k.2.2.1 k.2.2.2.length), rows cd_pithlaw15_Page k.2.2.1 (k.2.2.2.map Pg.t), book () k.2.2.2, LDec k.1 d, RDoc k.2.1 d] h
section
variable {E w : World} {M : List HA} {x b r n : Nat} {d : Z.DS} {sb : Sl} {pgs : List Pg}
theorem Par.opn (hS : Sat E w (Par x d n :: M)) : ∃ b r sb pgs, List.length pgs ≤ n ∧ (∀ g ∈ pgs, Pg.Ok g) ∧ Sat E w (cel x (parC b r sb pgs.length) :: rows cd_pithlaw15_Page sb (pgs.map Pg.t) :: book () pgs :: LDec b d :: RDoc r d :: M) := by
  obtain ⟨k, hS⟩ := hS.ex
  obtain ⟨h1, ⟨hA, _⟩, _⟩ := hS.head
  exact ⟨k.1, k.2.1, k.2.2.1, k.2.2.2, hA.1, hA.2, hS.open_ (M := [_, _, _, _, _]) fun _ h => h.2⟩
theorem Par.shut (hS : Sat E w (cel x (parC b r sb pgs.length) :: rows cd_pithlaw15_Page sb (pgs.map Pg.t) :: book () pgs :: LDec b d :: RDoc r d :: M)) (h1 : pgs.length ≤ n) (h2 : ∀ g ∈ pgs, g.Ok) : Sat E w (Par x d n :: M) :=
  Sat.shut (M := [_, _, _, _, _]) hS fun _ h => ⟨(b, r, sb, pgs), ⟨h1, h2⟩, h⟩
end
attribute [local irreducible] oMv oV oU oCall oCallV oBi oBin oUn oLoad oStore oNil oFld oField oIdx oIndex oPick oAlloc oBox oBuild oBs oConv oMk oSl oExt oFn oIface oMap oLook oMapUp oRange oNext oEntry oInv oAssert oPanic oRes pN pA pL pDr pIf gA pGd Calls

section
variable {E w W : World} {M N : List HA} {Q : Value → World → Prop} {x n : Nat} {d : Z.DS} {p : Z.Pr}
theorem begun15_in (hS : Sat E w M) (hp : p.Ok) (k : Int) (h0 : 1 ≤ k) (h1 : k ≤ 4294967295) (hQ : ∀ x w, Sat E w (Par x (.ok (Z.DZ.new p k)) 0 :: M) → Q (.tuple #[pz x, .bool true]) w) :
    Calls Tryz.prog 9 #[.agg #[.int .i64 p.lc, .int .i64 p.lp, .int .i64 p.pb], .int .i64 k] w (retP Q) := by
  refine pithlaw15_begun.calls ?_
  unfold pithlaw15_begun.F
  repeat' (first | refine pN_la_at (n := 3) hS p.cells rfl rfl ?_ | (refine pc_lzdec_New (DcNew_in (p := p) hS hp k h0 h1 ?_); clear hS; intro b w hS) | (refine pc_pithref15_New (D15New_in (p := p) hS hp k h0 h1 ?_); clear hS; intro r w hS) | (refine pN_neq_s ?_ ?_ <;> intro hc <;> try (exfalso; first | omega | exact hc rfl | exact hc (by assumption) | exact absurd hc (by assumption))) | refine pIf_f ?_ | refine pGd_go (by rfl) ?_ | (refine pN_bx hS (by rfl) ?_; clear hS; intro a w hS) | refine pN_v (hk := ?_) | fail)
  have hS : Sat E _ (rows cd_pithlaw15_Page ⟨none, 0⟩ [] :: _) := hS.nil 122 5
  have hS : Sat E _ (book () [] :: _) := Sat.bag_nil hS
  have hS : Sat E _ (cel a (parC b r ⟨none, 0⟩ 0) :: rows cd_pithlaw15_Page ⟨none, 0⟩ [] :: book () [] :: LDec b (.ok (Z.DZ.new p k)) :: RDoc r (.ok (Z.DZ.new p k)) :: M) := hS.to
  exact hQ _ _ (Par.shut (pgs := []) hS (Nat.le_refl _) (fun _ h => by cases h))
theorem begun15_no (hS : Sat E w M) (k : Int) (hpb : -9223372036854775808 ≤ p.lc ∧ p.lc < 9223372036854775808) (h : ¬ (p.Ok ∧ 1 ≤ k ∧ k ≤ 4294967295)) (hQ : ∀ w, Sat E w M → Q (.tuple #[.pointer none, .bool true]) w) :
    Calls Tryz.prog 9 #[.agg #[.int .i64 p.lc, .int .i64 p.lp, .int .i64 p.pb], .int .i64 k] w (retP Q) := by
  refine pithlaw15_begun.calls ?_
  unfold pithlaw15_begun.F
  have hb : 0 ≤ (if p.Ok then (7 : Int) else 6) ∧ (if p.Ok then (7 : Int) else 6) ≤ 7 := by split <;> decide
  generalize hev : (if p.Ok then (7 : Int) else 6) = ev at *
  repeat' (first | refine pN_la_at (n := 3) hS p.cells rfl rfl ?_ | (refine pc_lzdec_New (DcNew_no (p := p) hS k hpb h ?_); rw [hev]; clear hS; intro w hS) | (refine pc_pithref15_New (D15New_no (p := p) hS k hpb h ?_); rw [hev]; clear hS; intro w hS) | (refine pN_neq_s ?_ ?_ <;> intro hc <;> try (exfalso; first | omega | exact hc rfl | exact hc (by assumption) | exact absurd hc (by assumption))) | refine pIf_t ?_ | refine pIf_f ?_ | refine pGd_go (by rfl) ?_ | (refine pN_bx hS (by rfl) ?_; clear hS; intro a w hS) | refine pN_v (hk := ?_) | fail)
  exact hQ _ hS.to
end
end Go.Proofs.YtbgnnjfpiblkmaaGreatDoor

namespace Go.Proofs.YtbgnnjfpiblkmaaGreatDoor
open Go
theorem Rds.pre {α : Type} {C : Cd α} {L : List HA} {s : Sl} {l : List α} (m : List α) [h : Rds C L s (l ++ m)] : Rds C L s l := by
  have := Rds.sub (C := C) (L := L) (s := s) (l := l ++ m) 0 l.length (Nat.zero_le _) (by simp)
  rw [Sl.sub_zero, List.drop_zero, Nat.sub_zero, List.take_left] at this
  exact this
attribute [local irreducible] oMv oV oU oCall oCallV oBi oBin oUn oLoad oStore oNil oFld oField oIdx oIndex oPick oAlloc oBox oBuild oBs oConv oMk oSl oExt oFn oIface oMap oLook oMapUp oRange oNext oEntry oInv oAssert oPanic oRes pN pA pL pDr pIf gA pGd Calls

section
variable {E w W : World} {M N : List HA} {Q : Value → World → Prop} {x n : Nat} {d : Z.DS} {p : Z.Pr}
set_option maxHeartbeats 4000000 in
theorem takes15_ok {o : T_pithlaw15_Op} (hG : Glo W) (hS : Sat E w (Par x d n :: M)) [h : Has (old W) M N] [hr : Rds cd_uint8 M o.B.1 o.B.2] (hl : o.B.2.length ≤ 1048576) (hd : d.len + 2097152 + 273 ≤ 140737488355328) (hn : n ≤ 2097152)
    (hQ : ∀ w, Sat E w (Par x (d.take o.B.2 o.N).d (n + 1) :: M) → Q (.bool true) w) :
    Calls Tryz.prog 55 #[pz x, .agg o.enc.toArray] w (retP Q) := by
  refine pithlaw15_pair_takes.calls ?_
  unfold pithlaw15_pair_takes.F
  obtain ⟨kind, ⟨sr, raw⟩, nn, ⟨lc, lp, pb⟩⟩ := o
  dsimp only at hr hl hQ
  obtain ⟨b, r, sb, pgs, hpn, hpo, hS⟩ := Par.opn hS
  have hT := Z.DS.take_len d raw nn
  refine pN_bx (z := [.int .i64 kind, .slice sr.a raw.length sr.c, .int .i64 nn, .int .i64 lc, .int .i64 lp, .int .i64 pb]) hS (by rfl) fun x3 w hS => ?_
  repeat' (first | (refine pc_pithlaw15_room (room15_ok (l := raw) hS hl ?_); clear hS; intro sm w hS) | refine And.intro True.intro ?_ | (refine pc_lzdec_Decoder_Take (DcTake_ok (l := raw) (s0 := sm) (hr := Rds.pre [77]) hG (hS.fd (LDec b)) (by omega) nn (by omega) ?_); clear hS; intro sl so w hS) | (refine pc_pithref15_Decoder_Take (D15Take_ok (l := raw) (hS.fd (RDoc r)) (by omega) nn hd ?_); clear hS; intro sl2 so2 w hS) | (refine pN_neq_s ?_ ?_ <;> intro hc <;> try (exfalso; first | omega | exact hc rfl | exact hc (by assumption) | exact absurd hc (by assumption))) | refine pGd_go (by rfl) ?_ | refine pN_l hS (by first | rfl | assumption) ?_ | refine pL_l hS (by first | rfl | assumption) ?_ | (refine pDr_go hS ?_; clear hS; intro w hS) | refine pN_v (hk := ?_) | refine pA_v (hk := ?_) | fail)
  generalize d.take raw nn = T at *
  obtain ⟨t1, t2, t3, t4, t5⟩ := hT
  repeat' (first | (refine pc_pithlaw15_sames (sames15_ok (l := T.l) hS (by omega) ?_); clear hS; intro w hS) | (refine pc_pithlaw15_held (held15_ok (s := sm) (l := raw) (hS.fd (rows cd_uint8 sm)) hl ?_); clear hS; intro w hS) | (refine pN_neq_ss ?_ ?_ <;> intro hc <;> try (exfalso; first | omega | exact hc rfl | exact hc (by assumption) | exact absurd hc (by assumption))) | refine pIf_f ?_ | refine pGd_go (by rfl) ?_ | refine pN_l hS (by first | rfl | assumption) ?_ | refine pN_st hS (by first | rfl | omega | simpa only [go_sem] using True.intro | (simp only [go_sem]; omega)) ?_ | refine pN_v (hk := ?_) | fail)
  refine ⟨fun v w => ∃ (i : Nat) (pre : List UInt8) (tl : UInt8), v = .int .i64 i ∧ i ≤ raw.length ∧ pre.length = raw.length ∧ Sat E w (rows cd_uint8 sm (pre ++ [tl]) :: rows cd_api_Symbol sl T.l :: rows cd_uint8 so T.out :: LDec b T.d :: RDoc r T.d :: cel x (parC b r sb pgs.length) :: rows cd_pithlaw15_Page sb (pgs.map Pg.t) :: book () pgs :: M), fun v _ => raw.length - (RowKit.intOf v).toNat, ⟨0, raw, 77, rfl, Nat.zero_le _, rfl, hS.to⟩, ?_⟩
  clear hS
  rintro _ _ w ⟨i, pre, tl, rfl, hi, hpl, hS⟩
  by_cases hlt : i < raw.length
  · have hse : (pre ++ [tl]).set i 1 = pre.set i 1 ++ [tl] := List.set_append_left _ _ (by omega)
    have hqq : (pre ++ [tl]).length = raw.length + 1 := by simp; omega
    repeat' (first | (refine pN_ix (C := cd_uint8) (s := sm) (l := pre) (hr := Rds.pre [tl]) hS i rfl hpl.symm (by omega) fun a y hy ha hel => ?_) | (refine pN_lss_s ?_ ?_ <;> intro hc <;> try (exfalso; omega)) | refine pIf_t ?_ | (refine pN_sr hel hS (by rfl) (by rfl) (by first | omega | (simp only [go_sem]; omega)) ?_; clear hS; intro w hS) | refine pN_v (hk := ?_) | fail)
    rw [hse] at hS
    exact ⟨⟨i + 1, pre.set i 1, tl, rfl, by omega, by rw [List.length_set]; exact hpl, hS.to⟩, by simp [RowKit.intOf]; omega⟩
  obtain rfl : i = raw.length := by omega
  have hS : Sat E w (cel x (parC b r sb pgs.length) :: rows cd_pithlaw15_Page sb (pgs.map Pg.t) :: rows cd_api_Symbol sl T.l :: rows cd_uint8 so T.out :: book () pgs :: LDec b T.d :: RDoc r T.d :: M) := hS.to
  repeat' (first | (refine pN_lss_s ?_ ?_ <;> intro hc <;> try (exfalso; omega)) | refine pIf_f ?_ | refine pN_v (hk := ?_) | fail)
  refine pc_pithlaw15_pair_keep (keep15_ok hS (by omega) t1 t2 fun g sb' w hgo hS => ?_)
  skip
  have hS := book.snoc (show Sat E _ (g.G :: g.H :: book () pgs :: cel x (parC b r sb' (pgs.length + 1)) :: rows cd_pithlaw15_Page sb' ((pgs ++ [g]).map Pg.t) :: LDec b T.d :: RDoc r T.d :: M) from hS.to)
  have hle : (pgs ++ [g]).length = pgs.length + 1 := by simp
  rw [← hle] at hS
  refine hQ _ (Par.shut (b := b) (r := r) (sb := sb') (pgs := pgs ++ [g]) hS.to (by omega) fun h hh => ?_)
  rcases List.mem_append.1 hh with hh | hh
  · exact hpo h hh
  · rw [List.mem_singleton] at hh; subst hh; exact hgo
end
end Go.Proofs.YtbgnnjfpiblkmaaGreatDoor

namespace Go.Proofs.YtbgnnjfpiblkmaaGreatDoor
open Go
theorem Par.mono {E w : World} {M : List HA} {x n m : Nat} {d : Z.DS} (hS : Sat E w (Par x d n :: M)) (h : n ≤ m) : Sat E w (Par x d m :: M) := by
  obtain ⟨b, r, sb, pgs, h1, h2, hS⟩ := Par.opn hS
  exact Par.shut hS (by omega) h2
def Z.DS.step (d : Z.DS) (o : T_pithlaw15_Op) : Z.DS := if o.Kind = 0 then (d.take o.B.2 o.N).d else if o.Kind = 1 then d.raw o.B.2 else if o.Kind = 2 then d.reset ⟨o.Props.LC, o.Props.LP, o.Props.PB⟩ else if o.Kind = 3 then d.clear else d
theorem Z.DS.step_len (d : Z.DS) (o : T_pithlaw15_Op) (h : o.B.2.length ≤ 1048576) : (d.step o).len ≤ d.len + 2097152 := by
  unfold Z.DS.step
  split
  · exact (Z.DS.take_len d _ _).2.2.1
  split
  · cases d with
    | ok e => show (e.x.all ++ o.B.2).length ≤ _ + _; rw [List.length_append]; show _ ≤ e.x.all.length + _; omega
    | sp p z k => show k + o.B.2.length ≤ k + _; omega
  split
  · cases d with
    | ok e => show (Z.DZ.reset e _).x.all.length ≤ _; unfold Z.DZ.reset; split <;> exact Nat.le_add_right _ _
    | sp p z k => exact Nat.le_add_right _ _
  split
  · cases d <;> exact Nat.zero_le _
  · exact Nat.le_add_right _ _
attribute [local irreducible] oMv oV oU oCall oCallV oBi oBin oUn oLoad oStore oNil oFld oField oIdx oIndex oPick oAlloc oBox oBuild oBs oConv oMk oSl oExt oFn oIface oMap oLook oMapUp oRange oNext oEntry oInv oAssert oPanic oRes pN pA pL pDr pIf gA pGd Calls

section
variable {E w W : World} {M N : List HA} {Q : Value → World → Prop} {x n : Nat} {d : Z.DS} {p : Z.Pr}
set_option maxHeartbeats 4000000 in
theorem step15_ok {o : T_pithlaw15_Op} (hG : Glo W) (hS : Sat E w (Par x d n :: M)) [h : Has (old W) M N] [hr : Rds cd_uint8 M o.B.1 o.B.2] (hl : o.B.2.length ≤ 1048576) (hb : -9223372036854775808 ≤ o.Props.LC ∧ o.Props.LC < 9223372036854775808) (hd : d.len + 2097152 + 273 ≤ 140737488355328) (hn : n ≤ 2097152)
    (hQ : ∀ w, Sat E w (Par x (d.step o) (n + 1) :: M) → Q (.bool true) w) :
    Calls Tryz.prog 11 #[pz x, .agg o.enc.toArray] w (retP Q) := by
  refine pithlaw15_pair_step.calls ?_
  unfold pithlaw15_pair_step.F
  unfold Z.DS.step at hQ
  obtain ⟨kind, ⟨sr, raw⟩, nn, ⟨lc, lp, pb⟩⟩ := o
  dsimp only at hr hl hQ hb
  refine pN_bx (z := [.int .i64 kind, .slice sr.a raw.length sr.c, .int .i64 nn, .int .i64 lc, .int .i64 lp, .int .i64 pb]) hS (by rfl) fun x3 w hS => ?_
  refine ⟨fun w => Sat E w (Par x d n :: M) ∧ kind ≠ 0 ∧ kind ≠ 1 ∧ kind ≠ 2 ∧ kind ≠ 3 ∨ (kind = 3 ∧ Sat E w (Par x d.clear n :: M)), ?_, ?_⟩
  rotate_left 1
  · clear hS
    rintro _ w (⟨hS, h0, h1, h2, h3⟩ | ⟨rfl, hS⟩)
    · rw [if_neg h0, if_neg h1, if_neg h2, if_neg h3] at hQ
      exact hQ _ (Par.mono hS (by omega))
    · rw [if_neg (by decide), if_neg (by decide), if_neg (by decide), if_pos rfl] at hQ
      exact hQ _ (Par.mono hS (by omega))
  by_cases k0 : kind = 0
  · subst k0
    rw [if_pos rfl] at hQ
    repeat' (first | refine pN_la hS (by rfl) ?_ | (refine pN_eql_s ?_ ?_ <;> intro hc <;> try (exfalso; first | omega | exact hc rfl | exact hc (by assumption) | exact absurd hc (by assumption))) | refine pIf_t ?_ | refine pN_l hS (by first | rfl | assumption) ?_ | refine pN_la hS (by rfl) ?_ | refine pN_v (hk := ?_) | fail)
    exact pc_pithlaw15_pair_takes (takes15_ok (o := ⟨0, (sr, raw), nn, ⟨lc, lp, pb⟩⟩) hG (hS.perm (List.Perm.swap _ _ _)) hl hd hn fun w hS => hQ _ hS.to)
  obtain ⟨b, r, sb, pgs, hpn, hpo, hS⟩ := Par.opn (hS.perm (List.Perm.swap _ _ _))
  by_cases k1 : kind = 1
  · subst k1
    rw [if_neg (by decide), if_pos rfl] at hQ
    repeat' (first | (refine pc_pithlaw15_room (room15_ok (l := raw) hS hl ?_); clear hS; intro sm w hS) | refine And.intro True.intro ?_ | (refine pc_lzdec_Decoder_Raw (DcRaw_ok (l := raw) (s0 := sm) (hl := Rds.pre [77]) (hS.fd (LDec b)) (by omega) ?_); clear hS; intro w hS) | (refine pc_pithref15_Decoder_Raw (D15Raw_ok (l := raw) (hS.fd (RDoc r)) (by omega) ?_); clear hS; intro w hS) | (refine pc_pithlaw15_held (held15_ok (s := sm) (l := raw) (hS.fd (rows cd_uint8 sm)) hl ?_); clear hS; intro w hS) | (refine pN_eql_s ?_ ?_ <;> intro hc <;> try (exfalso; first | omega | exact hc rfl | exact hc (by assumption) | exact absurd hc (by assumption))) | refine pIf_t ?_ | refine pIf_f ?_ | refine pN_l hS (by first | rfl | assumption) ?_ | refine pL_l hS (by first | rfl | assumption) ?_ | (refine pDr_go hS ?_; clear hS; intro w hS) | refine pN_v (hk := ?_) | refine pA_v (hk := ?_) | fail)
    generalize d.raw raw = T at *
    refine ⟨fun v w => ∃ (i : Nat) (pre : List UInt8) (tl : UInt8), v = .int .i64 i ∧ i ≤ raw.length ∧ pre.length = raw.length ∧ Sat E w (rows cd_uint8 sm (pre ++ [tl]) :: LDec b T :: RDoc r T :: cel x (parC b r sb pgs.length) :: rows cd_pithlaw15_Page sb (pgs.map Pg.t) :: book () pgs :: M), fun v _ => raw.length - (RowKit.intOf v).toNat, ⟨0, raw, 77, rfl, Nat.zero_le _, rfl, hS.to⟩, ?_⟩
    clear hS
    rintro _ _ w ⟨i, pre, tl, rfl, hi, hpl, hS⟩
    by_cases hlt : i < raw.length
    · have hse : (pre ++ [tl]).set i 1 = pre.set i 1 ++ [tl] := List.set_append_left _ _ (by omega)
      have hqq : (pre ++ [tl]).length = raw.length + 1 := by simp; omega
      repeat' (first | (refine pN_ix (C := cd_uint8) (s := sm) (l := pre) (hr := Rds.pre [tl]) hS i rfl hpl.symm (by omega) fun a y hy ha hel => ?_) | (refine pN_lss_s ?_ ?_ <;> intro hc <;> try (exfalso; omega)) | refine pIf_t ?_ | (refine pN_sr hel hS (by rfl) (by rfl) (by first | omega | (simp only [go_sem]; omega)) ?_; clear hS; intro w hS) | refine pN_v (hk := ?_) | fail)
      rw [hse] at hS
      exact ⟨⟨i + 1, pre.set i 1, tl, rfl, by omega, by rw [List.length_set]; exact hpl, hS.to⟩, by simp [RowKit.intOf]; omega⟩
    repeat' (first | (refine pN_lss_s ?_ ?_ <;> intro hc <;> try (exfalso; omega)) | refine pIf_f ?_ | refine pN_v (hk := ?_) | fail)
    exact hQ _ (Par.shut (b := b) (r := r) (sb := sb) (pgs := pgs) hS.to (by omega) hpo)
  by_cases k2 : kind = 2
  · subst k2
    rw [if_neg (by decide), if_neg (by decide), if_pos rfl] at hQ
    by_cases hp : (⟨lc, lp, pb⟩ : Z.Pr).Ok
    · repeat' (first | refine pL_la_at (n := 3) hS [.int .i64 lc, .int .i64 lp, .int .i64 pb] rfl rfl ?_ | refine And.intro True.intro ?_ | refine ⟨⟨run_la_at (n := 3) hS [.int .i64 lc, .int .i64 lp, .int .i64 pb] rfl rfl, run_l hS rfl, trivial⟩, ?_⟩ | (refine pc_lzdec_Decoder_Reset (DcReset_in (p := ⟨lc, lp, pb⟩) hp (hS.fd (LDec b)) ?_); clear hS; intro w hS) | (refine pc_pithref15_Decoder_Reset (D15Reset_in (p := ⟨lc, lp, pb⟩) hp (hS.fd (RDoc r)) ?_); clear hS; intro w hS) | ((first | refine pN_eql_s ?_ ?_ | refine pA_eql_s ?_ ?_) <;> intro hc <;> try (exfalso; first | omega | exact hc rfl | exact hc (by assumption) | exact absurd hc (by assumption))) | refine pIf_t ?_ | refine pIf_f ?_ | refine pN_l hS (by first | rfl | assumption) ?_ | refine pL_l hS (by first | rfl | assumption) ?_ | (refine pDr_go hS ?_; clear hS; intro w hS) | refine pN_v (hk := ?_) | refine pA_v (hk := ?_) | fail)
      exact hQ _ (Par.shut (b := b) (r := r) (sb := sb) (pgs := pgs) hS.to (by omega) hpo)
    · have er : d.reset ⟨lc, lp, pb⟩ = d := by
        cases d with
        | ok e => show Z.DS.ok _ = _; rw [Z.DZ.reset, if_neg hp]
        | sp p z k => show Z.DS.sp _ _ _ = _; rw [if_neg hp]
      rw [er] at hQ
      repeat' (first | refine pL_la_at (n := 3) hS [.int .i64 lc, .int .i64 lp, .int .i64 pb] rfl rfl ?_ | refine And.intro True.intro ?_ | refine ⟨⟨run_la_at (n := 3) hS [.int .i64 lc, .int .i64 lp, .int .i64 pb] rfl rfl, run_l hS rfl, trivial⟩, ?_⟩ | (refine pc_lzdec_Decoder_Reset (DcReset_no (p := ⟨lc, lp, pb⟩) hp hb (hS.fd (LDec b)) ?_); clear hS; intro w hS) | (refine pc_pithref15_Decoder_Reset (D15Reset_no (p := ⟨lc, lp, pb⟩) hp hb (hS.fd (RDoc r)) ?_); clear hS; intro w hS) | ((first | refine pN_eql_s ?_ ?_ | refine pA_eql_s ?_ ?_) <;> intro hc <;> try (exfalso; first | omega | exact hc rfl | exact hc (by assumption) | exact absurd hc (by assumption))) | refine pIf_t ?_ | refine pIf_f ?_ | refine pN_l hS (by first | rfl | assumption) ?_ | refine pL_l hS (by first | rfl | assumption) ?_ | (refine pDr_go hS ?_; clear hS; intro w hS) | refine pN_v (hk := ?_) | refine pA_v (hk := ?_) | fail)
      exact hQ _ (Par.shut (b := b) (r := r) (sb := sb) (pgs := pgs) hS.to (by omega) hpo)
  by_cases k3 : kind = 3
  · subst k3
    repeat' (first | (refine pc_lzdec_Decoder_Clear (DcClear_ok (hS.fd (LDec b)) ?_); clear hS; intro w hS) | (refine pc_pithref15_Decoder_Clear (D15Clear_ok (hS.fd (RDoc r)) ?_); clear hS; intro w hS) | (refine pN_eql_s ?_ ?_ <;> intro hc <;> try (exfalso; first | omega | exact hc rfl | exact hc (by assumption) | exact absurd hc (by assumption))) | refine pIf_t ?_ | refine pIf_f ?_ | refine pN_l hS (by first | rfl | assumption) ?_ | refine pN_v (hk := ?_) | fail)
    exact .inr ⟨rfl, Par.shut (b := b) (r := r) (sb := sb) (pgs := pgs) hS.to hpn hpo⟩
  · repeat' (first | (refine pN_eql_s ?_ ?_ <;> intro hc <;> try (exfalso; first | omega | exact hc rfl | exact hc (by assumption) | exact absurd hc (by assumption))) | refine pIf_f ?_ | refine pN_l hS (by first | rfl | assumption) ?_ | refine pN_v (hk := ?_) | fail)
    exact .inl ⟨Par.shut (b := b) (r := r) (sb := sb) (pgs := pgs) hS.to hpn hpo, k0, k1, k2, k3⟩
end
end Go.Proofs.YtbgnnjfpiblkmaaGreatDoor

namespace Go.Proofs.YtbgnnjfpiblkmaaGreatDoor
open Go
attribute [local irreducible] oMv oV oU oCall oCallV oBi oBin oUn oLoad oStore oNil oFld oField oIdx oIndex oPick oAlloc oBox oBuild oBs oConv oMk oSl oExt oFn oIface oMap oLook oMapUp oRange oNext oEntry oInv oAssert oPanic oRes pN pA pL pDr pIf gA pGd Calls

theorem keptPar_ok {E w : World} {M : List HA} {Q : Value → World → Prop} {x n : Nat} {d : Z.DS} (hS : Sat E w (Par x d n :: M)) (hn : n ≤ 2097152) (hQ : ∀ w, Sat E w (Par x d n :: M) → Q (.bool true) w) :
    Calls Tryz.prog 12 #[pz x] w (retP Q) := by
  obtain ⟨b, r, sb, pgs, h1, h2, hS⟩ := Par.opn hS
  exact kept15_ok hS (by omega) h2 fun w hS => hQ _ (Par.shut hS h1 h2)

set_option maxHeartbeats 4000000 in
theorem walk_DecPlays (W : World) (hG : Glo W) (x0 : T_api_Props) (x1 : Int) (x2 : Sl × List T_pithlaw15_Op) (k0 k1 k2 : Nat)
    (h0 : x0.ok W k0) (h1 : -9223372036854775808 ≤ x1 ∧ x1 < 9223372036854775808)
    (h2 : RdP cd_pithlaw15_Op (old W) x2.1 x2.2 ∧ x2.2.length * 64 ≤ reachBytes ∧ x2.2.length + 1 ≤ k2 ∧ ∀ c ∈ x2.2, ∃ k, k ≤ k2 ∧ c.ok W k)
    (q0 : k0 ≤ 1048576) (q1 : k1 ≤ 1048576) (q2 : k2 ≤ 1048576) :
    Calls Tryz.prog 3 #[.agg x0.enc.toArray, .int .i64 x1, .slice x2.1.a x2.2.length x2.1.c] W fun e W' => e = .returned (.bool true) ∧ RowKit.Below W.heap.size W W' := by
  refine walk_end (pithlaw15_DecPlays.calls ?_)
  unfold pithlaw15_DecPlays.F
  obtain ⟨r2, _, s2, g2⟩ := h2
  have hS := Sat.start W
  obtain ⟨lc, lp, pb⟩ := x0
  have hlc := h0.1
  dsimp only at hlc
  refine pN_bx (z := [.int .i64 lc, .int .i64 lp, .int .i64 pb]) hS (by rfl) fun x3 w hS => ?_
  by_cases hok : (⟨lc, lp, pb⟩ : Z.Pr).Ok ∧ 1 ≤ x1 ∧ x1 ≤ 4294967295
  rotate_left 1
  · repeat' (first | (refine pc_pithlaw15_begun (begun15_no (p := ⟨lc, lp, pb⟩) hS x1 hlc hok ?_); clear hS; intro w hS) | (refine pc_pithlaw15_begun (begun15_in (p := ⟨0, 2, 1⟩) hS (by decide) 5000 (by decide) (by decide) ?_); clear hS; intro xb w hS) | (refine pc_pithlaw15_fixed (fixed15_ok hG hS ?_); clear hS; intro w hS) | refine pIf_t ?_ | refine pIf_f ?_ | refine pGd_go (by rfl) ?_ | refine pN_la hS (by rfl) ?_ | refine pN_v (hk := ?_) | fail)
    all_goals exact ⟨rfl, hS.to⟩
  have hp := hok.1
  repeat' (first | (refine pc_pithlaw15_begun (begun15_in (p := ⟨lc, lp, pb⟩) hS hp x1 hok.2.1 hok.2.2 ?_); clear hS; intro xa w hS) | (refine pc_pithlaw15_begun (begun15_in (p := ⟨0, 2, 1⟩) hS (by decide) 5000 (by decide) (by decide) ?_); clear hS; intro xb w hS) | (refine pc_pithlaw15_fixed (fixed15_ok hG hS ?_); clear hS; intro w hS) | refine pIf_f ?_ | refine pGd_go (by rfl) ?_ | refine pN_la hS (by rfl) ?_ | refine pN_v (hk := ?_) | fail)
  have hl1 : (Z.DS.ok (Z.DZ.new ⟨lc, lp, pb⟩ x1)).len = 0 := rfl
  have hl2 : (Z.DS.ok (Z.DZ.new ⟨0, 2, 1⟩ 5000)).len = 0 := rfl
  generalize Z.DS.ok (Z.DZ.new ⟨lc, lp, pb⟩ x1) = D1 at *
  generalize Z.DS.ok (Z.DZ.new ⟨0, 2, 1⟩ 5000) = D2 at *
  refine ⟨fun v w => ∃ (i : Nat) (d e : Z.DS), v = .int .i64 i ∧ i ≤ x2.2.length ∧ d.len ≤ 2097152 * i ∧ e.len ≤ 2097152 * i ∧ Sat W w [Par xa d i, Par xb e i, old W], fun v _ => x2.2.length - (RowKit.intOf v).toNat, ⟨0, D1, D2, rfl, Nat.zero_le _, by omega, by omega, hS.to⟩, ?_⟩
  clear hS
  rintro _ _ w ⟨i, d, e, rfl, hi, hd, he, hS⟩
  by_cases hlt : i < x2.2.length
  · obtain ⟨o, hx⟩ : ∃ o, x2.2[i]? = some o := ⟨x2.2[i]'hlt, by simp⟩
    obtain ⟨kk, hkk, hoo⟩ := g2 o (List.mem_of_getElem? hx)
    obtain ⟨_, ⟨k', hk', ro, _, so', _⟩, _, ⟨k'', _, hpo⟩⟩ := hoo
    have hlo : o.B.2.length ≤ 1048576 := by omega
    have hst1 := Z.DS.step_len d o hlo
    have hst2 := Z.DS.step_len e o hlo
    repeat' (first | (refine pN_lss_s ?_ ?_ <;> intro hc <;> try (exfalso; omega)) | refine pIf_t ?_ | refine pN_v (hk := ?_) | fail)
    refine ⟨fun w => ∃ d e : Z.DS, d.len ≤ 2097152 * (i + 1) ∧ e.len ≤ 2097152 * (i + 1) ∧ Sat W w [Par xa d (i + 1), Par xb e (i + 1), old W], ?_, ?_⟩
    · repeat' (first | refine pN_ld_at ha hS (by rfl) ?_ | refine pN_ixk hS _ (by first | rfl | (exact (Int.toNat_of_nonneg (by omega)).symm)) (by first | rfl | omega | simpa only [go_sem] using True.intro | (simp only [go_sem]; omega)) (by assumption) fun a ha hel => ?_ | fail)
      refine pc_pithlaw15_pair_step (step15_ok (o := o) hG hS hlo hpo.1 (by omega) (by omega) fun w hS => ?_)
      generalize d.step o = d2 at *
      skip
      refine ⟨fun v w => v = .bool true ∧ ∃ e' : Z.DS, e'.len ≤ 2097152 * (i + 1) ∧ Sat W w [Par xa d2 (i + 1), Par xb e' (i + 1), old W], ?_, ?_⟩
      · repeat' (first | (refine pc_pithlaw15_pair_step (step15_ok (o := o) (M := [Par xa d2 (i + 1), old W]) hG (hS.perm (List.Perm.swap _ _ _)) hlo hpo.1 (by omega) (by omega) ?_); clear hS; intro w hS) | (refine pN_eql_s ?_ ?_ <;> intro hc <;> try (exfalso; first | omega | exact hc rfl | exact hc (by assumption) | exact absurd hc (by assumption))) | refine pIf_t ?_ | refine pIf_f ?_ | refine pGd_go (by rfl) ?_ | refine pN_ld_at ha hS (by rfl) ?_ | refine pN_ixk hS _ (by first | rfl | (exact (Int.toNat_of_nonneg (by omega)).symm)) (by first | rfl | omega | simpa only [go_sem] using True.intro | (simp only [go_sem]; omega)) (by assumption) fun a ha hel => ?_ | refine pN_v (hk := ?_) | fail)
        · exact ⟨rfl, e.step o, by omega, hS.to⟩
        · exact ⟨rfl, e, by omega, (Par.mono (hS.perm (List.Perm.swap _ _ _)) (Nat.le_succ i)).to⟩
      clear hS
      rintro _ _ w ⟨rfl, e', he', hS⟩
      repeat' (first | refine pIf_f ?_ | refine pN_v (hk := ?_) | fail)
      exact ⟨d2, e', by omega, he', hS⟩
    clear hS
    rintro _ w ⟨d2, e2, hd2, he2, hS⟩
    repeat' (first | refine pN_v (hk := ?_) | fail)
    exact ⟨⟨i + 1, d2, e2, rfl, by omega, hd2, he2, hS⟩, by simp [RowKit.intOf]; omega⟩
  obtain rfl : i = x2.2.length := by omega
  repeat' (first | (refine pc_pithlaw15_pair_kept (keptPar_ok (x := xa) (d := d) (n := x2.2.length) (M := [Par xb e x2.2.length, old W]) hS (by omega) ?_); clear hS; intro w hS) | (refine pc_pithlaw15_pair_kept (keptPar_ok (x := xb) (d := e) (n := x2.2.length) (M := [Par xa d x2.2.length, old W]) (hS.perm (List.Perm.swap _ _ _)) (by omega) ?_); clear hS; intro w hS) | (refine pN_lss_s ?_ ?_ <;> intro hc <;> try (exfalso; omega)) | refine pIf_f ?_ | refine pGd_go (by rfl) ?_ | refine pN_v (hk := ?_) | fail)
  exact ⟨rfl, hS.to⟩
end Go.Proofs.YtbgnnjfpiblkmaaGreatDoor
