/-
  Layer 14's statements: their helpers.
-/
import Derived.Test.YtbgnnjfpiblkmaaDoorLfPithlaw14
import Derived.Test.YtbgnnjfpiblkmaaDoorLzE
import Derived.SevenTiedAt
namespace Go.Proofs.YtbgnnjfpiblkmaaDoor
open Go
set_option linter.unusedSimpArgs false
set_option linter.unnecessarySimpa false
set_option linter.unusedSectionVars false
set_option linter.unusedVariables false

theorem laid_get12 {W : World} {l : List (String × DataW Unit)} {ps : List MemPlace} (hl : DataW.LaidVars Tryd.prog W l ps) {n : String} {g : Nat} (k : Int) (hm : (n, DataW.agg (((List.range 12).map fun i : Nat => Z.moved (i : Int) k).map fun z => .lit (.int .i64 z))) ∈ l)
    (hg : Tryd.prog.globalNamed n = some g) (ht : (Tryd.prog.globals[g]?).map (·.type) = some 100) (i : Nat) (hi : i < 12) : W.cell? ⟨g, i, none⟩ = some (.int .i64 (Z.moved i k)) :=
  laid_ints hl ((List.range 12).map fun i : Nat => Z.moved (i : Int) k) hm hg ht Tryd.underlying100 (by kernel_rfl) Tryd.underlying3 i (Z.moved i k) hi (by rw [List.getElem?_map, List.getElem?_range hi]; rfl)

theorem glo_of_laid {W : World} {l : List (String × DataW Unit)} (h : laidMetH Tryd.prog l W) (hp : (l.filter fun x => x.2.handleName?.isSome) = []) (m1 : ("pith/state.afterLit", Rows.laid_pith_state_afterLit) ∈ l) (m2 : ("pith/state.afterMatch", Rows.laid_pith_state_afterMatch) ∈ l)
    (m3 : ("pith/state.afterRep", Rows.laid_pith_state_afterRep) ∈ l) (m4 : ("pith/state.afterShort", Rows.laid_pith_state_afterShort) ∈ l) : Glo W := by
  unfold laidMetH at h
  rw [hp] at h
  obtain ⟨ps, hv, _⟩ := h
  exact ⟨laid_get12 hv 1 m1 (by kernel_rfl) (by kernel_rfl), laid_get12 hv 2 m2 (by kernel_rfl) (by kernel_rfl), laid_get12 hv 3 m3 (by kernel_rfl) (by kernel_rfl), laid_get12 hv 4 m4 (by kernel_rfl) (by kernel_rfl)⟩

namespace Z
theorem known_p : (⟨3, 0, 2⟩ : Pr).Ok := by decide
theorem known_c : (EZ.new ⟨3, 0, 2⟩ 4096).cost ⟨1, 255, 0, 0⟩ = 152 ∧ (EZ.new ⟨3, 0, 2⟩ 4096).may ⟨1, 255, 0, 0⟩ = 0 := by decide +kernel
theorem known_d : (EZ.new ⟨3, 0, 2⟩ 4096).cost ⟨2, 0, 2, 1⟩ = 0 ∧ (EZ.new ⟨3, 0, 2⟩ 4096).may ⟨2, 0, 2, 1⟩ = 7 := by decide +kernel
theorem known_b : (EZ.new ⟨3, 0, 2⟩ 4096).s.bytes = [0, 0, 0, 0, 0] := by decide +kernel
end Z
attribute [local irreducible] oMv oV oU oCall oCallV oBi oBin oUn oLoad oStore oNil oFld oField oIdx oIndex oPick oAlloc oBox oBuild oBs oConv oMk oSl oExt oFn oIface oMap oLook oMapUp oRange oNext oEntry oInv oAssert oPanic oRes pN pA pL pDr pIf gA pGd

section
variable {E w W : World} {M N : List HA} {Q : Value → World → Prop}

theorem num14_ok (n : Int) (h : -9223372036854775808 ≤ n ∧ n < 9223372036854775808) (hQ : Q (.int .i64 n) w) : Calls Tryd.prog 6 #[.int .i64 n] w (retP Q) := by
  refine pithlaw14_num.calls ?_
  unfold pithlaw14_num.F
  skip
  exact hQ

set_option maxRecDepth 8000 in
set_option maxHeartbeats 1000000 in
theorem known14_ok (hG : Glo W) (hS : Sat E w M) [h : Has (old W) M N] (hQ : ∀ w, Sat E w M → Q (.bool true) w) : Calls Tryd.prog 7 #[] w (retP Q) := by
  refine pithlaw14_known.calls ?_
  unfold pithlaw14_known.F
  obtain ⟨c1, c2⟩ := Z.known_c
  obtain ⟨d1, d2⟩ := Z.known_d
  have hbk := Z.known_b
  have hk0 : (Z.EZ.new ⟨3, 0, 2⟩ 4096).s.k = 0 := rfl
  have hx0 : (Z.EZ.new ⟨3, 0, 2⟩ 4096).x.all.length = 0 := rfl
  repeat' (first | refine pN_via (by (intro K; simp (disch := omega) only [go_sem, pN_min, pN_max, w_u32, w_u64, Option.isNone_some, Option.isNone_none]; (try simp only [wrap_u32, wrap_u64]); rfl)) ?_ | fail)
  refine pc_lzenc_New (LNew_in (p := ⟨3, 0, 2⟩) hS Z.known_p 4096 (by decide) (by decide) fun b w hS => ?_)
  generalize Z.EZ.new ⟨3, 0, 2⟩ 4096 = e at *
  repeat' (first | refine pc_pithlaw14_num (num14_ok _ (by omega) ?_) | (refine pN_neq_s ?_ ?_ <;> intro hc <;> try (exfalso; first | omega | exact hc rfl | exact hc (by assumption) | exact absurd hc (by assumption))) | refine pGd_go (by rfl) ?_ | refine pN_via (by (intro K; simp (disch := omega) only [go_sem, pN_min, pN_max, w_u32, w_u64, Option.isNone_some, Option.isNone_none]; (try simp only [wrap_u32, wrap_u64]); rfl)) ?_ | fail)
  refine pc_lzenc_Encoder_Size (LSize_ok hS (by omega) fun w hS => ?_)
  rw [hk0]
  repeat' (first | (refine pN_neq_s ?_ ?_ <;> intro hc <;> try (exfalso; first | omega | exact hc rfl | exact hc (by assumption) | exact absurd hc (by assumption))) | refine pIf_f ?_ | refine pGd_go (by rfl) ?_ | refine pN_via (by (intro K; simp (disch := omega) only [go_sem, pN_min, pN_max, w_u32, w_u64, Option.isNone_some, Option.isNone_none]; (try simp only [wrap_u32, wrap_u64]); rfl)) ?_ | fail)
  refine pc_lzenc_Encoder_Cost (LCost_ok (y := ⟨1, 255, 0, 0⟩) hG hS (by omega) fun w hS => ?_)
  rw [c1, c2]
  repeat' (first | refine pN_via (by (intro K; simp (disch := omega) only [go_sem, pN_min, pN_max, w_u32, w_u64, Option.isNone_some, Option.isNone_none]; (try simp only [wrap_u32, wrap_u64]); rfl)) ?_ | fail)
  refine pc_lzenc_Encoder_Cost (LCost_ok (y := ⟨2, 0, 2, 1⟩) hG hS (by omega) fun w hS => ?_)
  rw [d1, d2]
  repeat' (first | refine pc_pithlaw14_num (num14_ok _ (by omega) ?_) | (refine pN_eql_s ?_ ?_ <;> intro hc <;> try (exfalso; first | omega | exact hc rfl | exact hc (by assumption) | exact absurd hc (by assumption))) | refine pGd_go (by rfl) ?_ | refine pN_via (by (intro K; simp (disch := omega) only [go_sem, pN_min, pN_max, w_u32, w_u64, Option.isNone_some, Option.isNone_none]; (try simp only [wrap_u32, wrap_u64]); rfl)) ?_ | fail)
  refine pc_lzenc_Encoder_Cut (LCut_ok hS (by omega) fun sc w hS => ?_)
  rw [hbk] at hS ⊢
  repeat' (first | (refine pN_eql_ss ?_ ?_ <;> intro hc <;> try (exfalso; first | omega | exact hc rfl | exact hc (by assumption) | exact absurd hc (by assumption))) | refine pGd_go (by rfl) ?_ | refine pN_st hS (by first | rfl | omega | simpa only [go_sem] using True.intro | (simp only [go_sem]; omega)) ?_ | refine pN_via (by (intro K; simp (disch := omega) only [go_sem, pN_min, pN_max, w_u32, w_u64, Option.isNone_some, Option.isNone_none]; (try simp only [wrap_u32, wrap_u64]); rfl)) ?_ | fail)
  exact hQ _ hS.to
end

end Go.Proofs.YtbgnnjfpiblkmaaDoor
