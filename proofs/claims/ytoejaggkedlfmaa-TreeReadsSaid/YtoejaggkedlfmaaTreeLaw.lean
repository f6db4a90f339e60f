/-
  Layer 9's statements: their helpers.
-/
import Derived.Test.YtoejaggkedlfmaaLfPithlaw09
import Derived.Test.YtoejaggkedlfmaaTree
namespace Go.Proofs.Ytoejaggkedlfmaa
open Go
set_option linter.unusedSimpArgs false
set_option linter.unnecessarySimpa false
set_option linter.unusedSectionVars false
set_option linter.unusedVariables false
attribute [local irreducible] oMv oV oU oCall oCallV oBi oBin oUn oLoad oStore oNil oFld oField oIdx oIndex oPick oAlloc oBox oBuild oBs oConv oMk oSl oExt oFn oIface oMap oLook oMapUp oRange oNext oAssert oPanic oRes pN pA pL pDr pIf gA pGd

theorem fixed_there : R.There (List.replicate 8 (1024 : Int)).length 0 3 := by decide
theorem fixed_holds : R.Holds 5 3 := by decide
theorem fixed_cost : R.costs (List.replicate 8 1024) 0 (R.bitAt false (3 : Int).toNat 5) (3 : Int).toNat = 50 := by decide +kernel
theorem fixed_put : (R.TS.put ⟨R.S.new, List.replicate 8 1024⟩ 0 (R.bitAt false (3 : Int).toNat 5) (3 : Int).toNat).l[(6 : Int).toNat]? = some 992 := by decide +kernel
theorem fixed_k : R.S.new.k + 100 ≤ 140737488355328 := by decide
theorem fixed_len : (List.replicate 8 (1024 : Int)).length ≤ 1048576 := by decide

section
variable {E w : World} {M : List HA} {Q : Value → World → Prop} {b p : Nat} {s : R.S} {l : List Int}

theorem fixed_ok (hS : Sat E w M) (hQ : ∀ w, Sat E w M → Q (.bool true) w) : Calls Try.prog 57 #[] w (retP Q) := by
  refine pithlaw09_fixed.calls ?_
  unfold pithlaw09_fixed.F
  refine pc_prob_New (New_ok hS 8 (by decide) (by decide) fun p w hS => ?_)
  have el : List.replicate (8 : Int).toNat (1024 : Int) = List.replicate 8 1024 := rfl
  rw [el] at hS
  repeat' (first | refine pN_via (by (intro K; simp (disch := omega) only [go_sem, pN_min, pN_max, w_u32, w_u64, Option.isNone_some, Option.isNone_none]; (try simp only [wrap_u32, wrap_u64]); rfl)) ?_ | fail)
  refine pc_rcenc_New (NewE_ok hS fun b w hS => ?_)
  repeat' (first | (refine pN_neq_s ?_ ?_ <;> intro hc <;> try (exfalso; first | omega | exact hc rfl | exact hc (by assumption) | exact absurd hc (by assumption))) | refine pIf_f ?_ | refine pGd_go (by rfl) ?_ | refine pN_via (by (intro K; simp (disch := omega) only [go_sem, pN_min, pN_max, w_u32, w_u64, Option.isNone_some, Option.isNone_none]; (try simp only [wrap_u32, wrap_u64]); rfl)) ?_ | fail)
  refine pc_tree_Cost (TCost_in (hS.fd (PSet p)) 0 3 5 fixed_len fixed_there fixed_holds fun w hS => ?_)
  rw [fixed_cost]
  repeat' (first | refine pN_via (by (intro K; simp (disch := omega) only [go_sem, pN_min, pN_max, w_u32, w_u64, Option.isNone_some, Option.isNone_none]; (try simp only [wrap_u32, wrap_u64]); rfl)) ?_ | fail)
  refine pc_tree_Put (Put_in (hS.fd2 (Enc b) (PSet p)) R.Ok.new (B.Fine.new _) fixed_k 0 3 5 fixed_len fixed_there fixed_holds fun w hS => ?_)
  have hx := fixed_put
  generalize R.TS.put ⟨R.S.new, List.replicate 8 1024⟩ 0 (R.bitAt false (3 : Int).toNat 5) (3 : Int).toNat = q at hS hx
  refine pc_prob_Set_At (At_in (hS.fd (PSet p)) 6 (by decide) hx fun w hS => ?_)
  clear hx
  repeat' (first | (refine pN_eql_s ?_ ?_ <;> intro hc <;> try (exfalso; first | omega | exact hc rfl | exact hc (by assumption) | exact absurd hc (by assumption))) | refine pGd_go (by rfl) ?_ | refine pN_via (by (intro K; simp (disch := omega) only [go_sem, pN_min, pN_max, w_u32, w_u64, Option.isNone_some, Option.isNone_none]; (try simp only [wrap_u32, wrap_u64]); rfl)) ?_ | fail)
  exact hQ _ hS.to
end

end Go.Proofs.Ytoejaggkedlfmaa
