/-
  Package lzenc: the encoder.
-/
import Derived.Test.YtbgnnjfpiblkmaaDoorLzSym2
import Derived.Test.YtbgnnjfpiblkmaaDoorLzSink
namespace Go.Proofs.YtbgnnjfpiblkmaaDoor
open Go
set_option linter.unusedSimpArgs false
set_option linter.unnecessarySimpa false
set_option linter.unusedSectionVars false
set_option linter.unusedVariables false
namespace Z
/-- An encoder. -/
structure EZ where
  p : Pr
  st : St
  T : Nat → List Int
  x : W
  s : R.S
structure EZ.Ok (e : EZ) : Prop where
  p : e.p.Ok
  st : e.st.Right
  T : TabOk e.p e.T
  s : R.Ok e.s
def EZ.may (e : EZ) (y : Y) : Int := Z.may e.x e.st y
def EZ.ops (e : EZ) (y : Y) : List Op := symOps e.p e.st e.x y
def EZ.es (e : EZ) (y : Y) : ES := runO ⟨e.s, e.T⟩ (e.ops y)
def EZ.put1 (e : EZ) (y : Y) : EZ := ⟨e.p, e.st.next y, (e.es y).T, e.x.put (made e.x e.st y), (e.es y).s⟩
def EZ.put (e : EZ) (y : Y) : EZ := if e.may y = 0 then e.put1 y else e
def EZ.cost (e : EZ) (y : Y) : Int := if e.may y = 0 then costO e.T (e.ops y) else 0
def EZ.new (p : Pr) (dict : Int) : EZ := ⟨p, St.new, T0 p, ⟨dict, []⟩, R.S.new⟩
def EZ.cut (e : EZ) : EZ := ⟨e.p, e.st, e.T, e.x, R.S.new⟩
def EZ.clear (e : EZ) : EZ := ⟨e.p, St.new, T0 e.p, ⟨e.x.size, []⟩, e.s⟩
def EZ.reset (e : EZ) (p : Pr) : EZ := if p.Ok then ⟨p, St.new, T0 p, e.x, e.s⟩ else e
def EZ.raw (e : EZ) (b : List UInt8) : EZ := ⟨e.p, e.st, e.T, e.x.put b, e.s⟩
theorem EZ.Ok.new {p : Pr} (h : p.Ok) (d : Int) : (EZ.new p d).Ok := ⟨h, St.Right.new, TabOk.new p, R.Ok.new⟩
theorem EZ.Ok.put1 {e : EZ} (h : e.Ok) {y : Y} (hm : e.may y = 0) : (e.put1 y).Ok ∧ (e.put1 y).s.k ≤ e.s.k + 26 := by
  have hy := may_err hm
  have ho := symOps_ok h.p h.st e.x hy
  have h1 := ops_ok (z := ⟨e.s, e.T⟩) ⟨h.s, h.T⟩ ho.ok
  have hw := ho.wt
  exact ⟨⟨h.p, h.st.next hy, h1.1.T, h1.1.s⟩, Nat.le_trans h1.2 (Nat.add_le_add_left hw _)⟩
theorem EZ.Ok.put {e : EZ} (h : e.Ok) (y : Y) : (e.put y).Ok ∧ (e.put y).s.k ≤ e.s.k + 26 := by
  unfold EZ.put
  split
  · exact h.put1 (by assumption)
  · exact ⟨h, by omega⟩
theorem EZ.put_len {e : EZ} (y : Y) : (e.put y).x.all.length ≤ e.x.all.length + 273 := by
  unfold EZ.put
  split
  · rename_i hm
    have hy := may_err hm
    have := made_len (x := e.x) (s := e.st) hy
    have := size_bd hy
    simp only [EZ.put1, List.length_append]
    omega
  · omega
theorem EZ.Ok.cut {e : EZ} (h : e.Ok) : e.cut.Ok := ⟨h.p, h.st, h.T, R.Ok.new⟩
theorem EZ.Ok.clear {e : EZ} (h : e.Ok) : e.clear.Ok := ⟨h.p, St.Right.new, TabOk.new _, h.s⟩
theorem EZ.Ok.reset {e : EZ} (h : e.Ok) (p : Pr) : (e.reset p).Ok := by
  unfold EZ.reset
  split
  · exact ⟨by assumption, St.Right.new, TabOk.new _, h.s⟩
  · exact h
theorem EZ.Ok.raw {e : EZ} (h : e.Ok) (b : List UInt8) : (e.raw b).Ok := ⟨h.p, h.st, h.T, h.s⟩
theorem tab_small {p : Pr} (hp : p.Ok) {T : Nat → List Int} (h : TabOk p T) : ∀ i, i < 18 → (T i).length ≤ 1048576 := fun i hi => by rw [h.len i hi]; exact Nat.le_trans (tabLen_bd hp i) (by decide)
end Z
attribute [local irreducible] oMv oV oU oCall oCallV oBi oBin oUn oLoad oStore oNil oFld oField oIdx oIndex oPick oAlloc oBox oBuild oBs oConv oMk oSl oExt oFn oIface oMap oLook oMapUp oRange oNext oEntry oInv oAssert oPanic oRes pN pA pL pDr pIf gA pGd

section
variable {E w W : World} {M N : List HA} {Q : Value → World → Prop} {p : Z.Pr} {s : Z.St} {x : Z.W} {b t wd en : Nat} {q : Nat → Nat} {y : Z.Y}

theorem Last_e (hS : Sat E w (Win b x :: M)) (d : Int) (hQ : ∀ c w, Sat E w (Win b x :: M) → Q (.tuple #[bv c, .int .i64 (if x.has d then 0 else 7)]) w) :
    Calls Tryd.prog 32 #[.pointer (some ⟨b, 0, none⟩), .int .i64 d] w (retP Q) := by
  by_cases h : x.has d
  · rw [if_pos h] at hQ; exact Last_in hS d h fun w hS => hQ _ w hS
  · rw [if_neg h] at hQ; exact Last_no hS d h fun w hS => hQ _ w hS

set_option maxHeartbeats 4000000 in
theorem may_ok (hG : Glo W) (hs : s.Right) (hS : Sat E w (cel b ⟨54, encCells t wd en⟩ :: cel t ⟨67, tbCells p s q⟩ :: Win wd x :: M)) [h : Has (old W) M N]
    (hQ : ∀ w, Sat E w (cel b ⟨54, encCells t wd en⟩ :: cel t ⟨67, tbCells p s q⟩ :: Win wd x :: M) → Q (.int .i64 (Z.may x s y)) w) :
    Calls Tryd.prog 20 #[pz b, .agg #[.int .i64 y.Kind, bv y.Byte, .int .i64 y.Len, .int .i64 y.Dist]] w (retP Q) := by
  refine lzenc_Encoder_may.calls ?_
  unfold lzenc_Encoder_may.F
  by_cases hy : Z.errY y = 0
  · repeat' (first | refine pL_la_at (n := 5) hS s.cells rfl rfl ?_ | refine pL_l hS (by first | rfl | assumption) ?_ | refine pL_la hS (by rfl) ?_ | (refine pDr_go hS ?_; clear hS; intro w hS) | (refine pN_bx hS (by rfl) ?_; clear hS; intro a w hS) | refine pA_via (by (intro K; simp (disch := omega) only [go_sem, pN_min, pN_max, w_u32, w_u64, Option.isNone_some, Option.isNone_none]; (try simp only [wrap_u32, wrap_u64]); rfl)) ?_ | fail)
    refine ⟨?_, ?_⟩
    · repeat' (first | (refine pc_state_State_Next (Next_in hG hS hs hy ?_); clear hS; intro w hS) | (refine pN_neq_s ?_ ?_ <;> intro hc <;> try (exfalso; first | omega | exact hc rfl | exact hc (by assumption) | exact absurd hc (by assumption))) | refine pIf_f ?_ | (refine pN_sa hS (by rfl) (by rfl) (by rfl) ?_; clear hS; intro w hS; try dsimp only at hS) | (refine pN_nz hS ?_; clear hS; intro a w hS) | refine ⟨trivial, ?_⟩ | refine pA_via (by (intro K; simp (disch := omega) only [go_sem, pN_min, pN_max, w_u32, w_u64, Option.isNone_some, Option.isNone_none]; (try simp only [wrap_u32, wrap_u64]); rfl)) ?_ | fail)
      refine ⟨fun v w => v = .int .i64 (Z.dist s y) ∧ y.Kind ≠ 1 ∧ Sat E w (cel b ⟨54, encCells t wd en⟩ :: cel t ⟨67, tbCells p s q⟩ :: Win wd x :: M), ?_, ?_⟩
      · rcases Z.kinds hy with hk | hk | hk | hk
        · repeat' (first | (refine pN_eql_s ?_ ?_ <;> intro hc <;> try (exfalso; first | omega | exact hc rfl | exact hc (by assumption) | exact absurd hc (by assumption))) | refine pIf_t ?_ | refine pN_l hS (by first | rfl | assumption) ?_ | refine pN_via (by (intro K; simp (disch := omega) only [go_sem, pN_min, pN_max, w_u32, w_u64, Option.isNone_some, Option.isNone_none]; (try simp only [wrap_u32, wrap_u64]); rfl)) ?_ | fail)
          rw [Z.may, if_neg (by omega), if_pos hk] at hQ
          exact hQ _ hS.to
        · repeat' (first | (refine pN_eql_s ?_ ?_ <;> intro hc <;> try (exfalso; first | omega | exact hc rfl | exact hc (by assumption) | exact absurd hc (by assumption))) | refine pIf_t ?_ | refine pIf_f ?_ | refine pN_l hS (by first | rfl | assumption) ?_ | refine pN_via (by (intro K; simp (disch := omega) only [go_sem, pN_min, pN_max, w_u32, w_u64, Option.isNone_some, Option.isNone_none]; (try simp only [wrap_u32, wrap_u64]); rfl)) ?_ | fail)
          exact ⟨by rw [Z.dist, if_neg (by omega), if_neg (by omega)], by omega, hS.to⟩
        · repeat' (first | (refine pN_eql_s ?_ ?_ <;> intro hc <;> try (exfalso; first | omega | exact hc rfl | exact hc (by assumption) | exact absurd hc (by assumption))) | refine pIf_t ?_ | refine pIf_f ?_ | refine pN_l hS (by first | rfl | assumption) ?_ | refine pN_via (by (intro K; simp (disch := omega) only [go_sem, pN_min, pN_max, w_u32, w_u64, Option.isNone_some, Option.isNone_none]; (try simp only [wrap_u32, wrap_u64]); rfl)) ?_ | fail)
          exact ⟨by rw [Z.dist, if_pos (by omega)], by omega, hS.to⟩
        · have hd := Z.err_rep hy hk
          have h4 : y.Dist = 0 ∨ y.Dist = 1 ∨ y.Dist = 2 ∨ y.Dist = 3 := by omega
          rw [Z.dist, if_neg (by omega), if_pos hk]
          rcases h4 with h4 | h4 | h4 | h4
          all_goals
            rw [h4] at hS
            try rw [h4]
            simp only [Z.rep0, Z.rep1, Z.rep2, Z.rep3]
            repeat' (first | (refine pN_eql_s ?_ ?_ <;> intro hc <;> try (exfalso; first | omega | exact hc rfl | exact hc (by assumption) | exact absurd hc (by assumption))) | refine pIf_t ?_ | refine pIf_f ?_ | refine pN_l hS (by first | rfl | assumption) ?_ | refine pL_l hS (by first | rfl | assumption) ?_ | (refine pDr_go hS ?_; clear hS; intro w hS) | refine pN_via (by (intro K; simp (disch := omega) only [go_sem, pN_min, pN_max, w_u32, w_u64, Option.isNone_some, Option.isNone_none]; (try simp only [wrap_u32, wrap_u64]); rfl)) ?_ | refine pA_via (by (intro K; simp (disch := omega) only [go_sem, pN_min, pN_max, w_u32, w_u64, Option.isNone_some, Option.isNone_none]; (try simp only [wrap_u32, wrap_u64]); rfl)) ?_ | fail)
            exact ⟨rfl, by omega, hS.to⟩
      · clear hS
        rintro _ _ w ⟨rfl, hk, hS⟩
        rw [Z.may, if_neg (by omega), if_neg hk] at hQ
        repeat' (first | (refine pc_window_Window_Last (Last_e (hS.fd (Win wd)) _ ?_); clear hS; intro c w hS) | refine pN_l hS (by first | rfl | assumption) ?_ | refine pN_via (by (intro K; simp (disch := omega) only [go_sem, pN_min, pN_max, w_u32, w_u64, Option.isNone_some, Option.isNone_none]; (try simp only [wrap_u32, wrap_u64]); rfl)) ?_ | fail)
        exact hQ _ hS.to
    · repeat' (first | refine ⟨⟨run_la_at hS _ (by rfl) (by rfl), run_la_at (n := 5) hS s.cells rfl rfl, run_l hS (by rfl), trivial⟩, ?_⟩ | (refine pc_state_State_Next (Next_in hG hS hs hy ?_); clear hS; intro w hS) | (refine pN_neq_s ?_ ?_ <;> intro hc <;> try (exfalso; first | omega | exact hc rfl | exact hc (by assumption) | exact absurd hc (by assumption))) | refine pIf_f ?_ | (refine pN_sa hS (by rfl) (by rfl) (by rfl) ?_; clear hS; intro w hS; try dsimp only at hS) | (refine pN_nz hS ?_; clear hS; intro a w hS) | refine ⟨trivial, ?_⟩ | refine pA_via (by (intro K; simp (disch := omega) only [go_sem, pN_min, pN_max, w_u32, w_u64, Option.isNone_some, Option.isNone_none]; (try simp only [wrap_u32, wrap_u64]); rfl)) ?_ | fail)
      refine ⟨fun v w => v = .int .i64 (Z.dist s y) ∧ y.Kind ≠ 1 ∧ Sat E w (cel b ⟨54, encCells t wd en⟩ :: cel t ⟨67, tbCells p s q⟩ :: Win wd x :: M), ?_, ?_⟩
      · rcases Z.kinds hy with hk | hk | hk | hk
        · repeat' (first | (refine pN_eql_s ?_ ?_ <;> intro hc <;> try (exfalso; first | omega | exact hc rfl | exact hc (by assumption) | exact absurd hc (by assumption))) | refine pIf_t ?_ | refine pN_l hS (by first | rfl | assumption) ?_ | refine pN_via (by (intro K; simp (disch := omega) only [go_sem, pN_min, pN_max, w_u32, w_u64, Option.isNone_some, Option.isNone_none]; (try simp only [wrap_u32, wrap_u64]); rfl)) ?_ | fail)
          rw [Z.may, if_neg (by omega), if_pos hk] at hQ
          exact hQ _ hS.to
        · repeat' (first | (refine pN_eql_s ?_ ?_ <;> intro hc <;> try (exfalso; first | omega | exact hc rfl | exact hc (by assumption) | exact absurd hc (by assumption))) | refine pIf_t ?_ | refine pIf_f ?_ | refine pN_l hS (by first | rfl | assumption) ?_ | refine pN_via (by (intro K; simp (disch := omega) only [go_sem, pN_min, pN_max, w_u32, w_u64, Option.isNone_some, Option.isNone_none]; (try simp only [wrap_u32, wrap_u64]); rfl)) ?_ | fail)
          exact ⟨by rw [Z.dist, if_neg (by omega), if_neg (by omega)], by omega, hS.to⟩
        · repeat' (first | (refine pN_eql_s ?_ ?_ <;> intro hc <;> try (exfalso; first | omega | exact hc rfl | exact hc (by assumption) | exact absurd hc (by assumption))) | refine pIf_t ?_ | refine pIf_f ?_ | refine pN_l hS (by first | rfl | assumption) ?_ | refine pN_via (by (intro K; simp (disch := omega) only [go_sem, pN_min, pN_max, w_u32, w_u64, Option.isNone_some, Option.isNone_none]; (try simp only [wrap_u32, wrap_u64]); rfl)) ?_ | fail)
          exact ⟨by rw [Z.dist, if_pos (by omega)], by omega, hS.to⟩
        · have hd := Z.err_rep hy hk
          have h4 : y.Dist = 0 ∨ y.Dist = 1 ∨ y.Dist = 2 ∨ y.Dist = 3 := by omega
          rw [Z.dist, if_neg (by omega), if_pos hk]
          rcases h4 with h4 | h4 | h4 | h4
          all_goals
            rw [h4] at hS
            try rw [h4]
            simp only [Z.rep0, Z.rep1, Z.rep2, Z.rep3]
            repeat' (first | (refine pN_eql_s ?_ ?_ <;> intro hc <;> try (exfalso; first | omega | exact hc rfl | exact hc (by assumption) | exact absurd hc (by assumption))) | refine pIf_t ?_ | refine pIf_f ?_ | refine pN_l hS (by first | rfl | assumption) ?_ | refine pL_l hS (by first | rfl | assumption) ?_ | (refine pDr_go hS ?_; clear hS; intro w hS) | refine pN_via (by (intro K; simp (disch := omega) only [go_sem, pN_min, pN_max, w_u32, w_u64, Option.isNone_some, Option.isNone_none]; (try simp only [wrap_u32, wrap_u64]); rfl)) ?_ | refine pA_via (by (intro K; simp (disch := omega) only [go_sem, pN_min, pN_max, w_u32, w_u64, Option.isNone_some, Option.isNone_none]; (try simp only [wrap_u32, wrap_u64]); rfl)) ?_ | fail)
            exact ⟨rfl, by omega, hS.to⟩
      · clear hS
        rintro _ _ w ⟨rfl, hk, hS⟩
        rw [Z.may, if_neg (by omega), if_neg hk] at hQ
        repeat' (first | (refine pc_window_Window_Last (Last_e (hS.fd (Win wd)) _ ?_); clear hS; intro c w hS) | refine pN_l hS (by first | rfl | assumption) ?_ | refine pN_via (by (intro K; simp (disch := omega) only [go_sem, pN_min, pN_max, w_u32, w_u64, Option.isNone_some, Option.isNone_none]; (try simp only [wrap_u32, wrap_u64]); rfl)) ?_ | fail)
        exact hQ _ hS.to
  · have e7 : Z.may x s y = Z.errY y := by rw [Z.may, if_pos (by omega)]
    rw [e7] at hQ
    repeat' (first | refine pL_la_at (n := 5) hS s.cells rfl rfl ?_ | refine pL_l hS (by first | rfl | assumption) ?_ | refine pL_la hS (by rfl) ?_ | (refine pDr_go hS ?_; clear hS; intro w hS) | (refine pN_bx hS (by rfl) ?_; clear hS; intro a w hS) | refine pA_via (by (intro K; simp (disch := omega) only [go_sem, pN_min, pN_max, w_u32, w_u64, Option.isNone_some, Option.isNone_none]; (try simp only [wrap_u32, wrap_u64]); rfl)) ?_ | fail)
    refine ⟨?_, ?_⟩
    · repeat' (first | (refine pc_state_State_Next (Next_no hS hs hy ?_); clear hS; intro w hS) | (refine pN_neq_s ?_ ?_ <;> intro hc <;> try (exfalso; first | omega | exact hc rfl | exact hc (by assumption) | exact absurd hc (by assumption))) | refine pIf_t ?_ | (refine pN_sa hS (by rfl) (by rfl) (by rfl) ?_; clear hS; intro w hS; try dsimp only at hS) | (refine pN_nz hS ?_; clear hS; intro a w hS) | refine ⟨trivial, ?_⟩ | refine pA_via (by (intro K; simp (disch := omega) only [go_sem, pN_min, pN_max, w_u32, w_u64, Option.isNone_some, Option.isNone_none]; (try simp only [wrap_u32, wrap_u64]); rfl)) ?_ | fail)
      exact hQ _ hS.to
    · repeat' (first | refine ⟨⟨run_la_at hS _ (by rfl) (by rfl), run_la_at (n := 5) hS s.cells rfl rfl, run_l hS (by rfl), trivial⟩, ?_⟩ | (refine pc_state_State_Next (Next_no hS hs hy ?_); clear hS; intro w hS) | (refine pN_neq_s ?_ ?_ <;> intro hc <;> try (exfalso; first | omega | exact hc rfl | exact hc (by assumption) | exact absurd hc (by assumption))) | refine pIf_t ?_ | (refine pN_sa hS (by rfl) (by rfl) (by rfl) ?_; clear hS; intro w hS; try dsimp only at hS) | (refine pN_nz hS ?_; clear hS; intro a w hS) | refine ⟨trivial, ?_⟩ | refine pA_via (by (intro K; simp (disch := omega) only [go_sem, pN_min, pN_max, w_u32, w_u64, Option.isNone_some, Option.isNone_none]; (try simp only [wrap_u32, wrap_u64]); rfl)) ?_ | fail)
      exact hQ _ hS.to
end

end Go.Proofs.YtbgnnjfpiblkmaaDoor
