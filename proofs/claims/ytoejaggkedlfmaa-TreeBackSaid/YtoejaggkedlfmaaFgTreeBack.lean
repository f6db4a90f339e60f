/-
  The statement TreeBack, proved: for every input that the row speaks of the call returns true, and what was there stays. The row's frame is after the kit's own shell for a law; the walk stands in YtoejaggkedlfmaaTreeBackW.
-/
import Derived.JoinedCond
import Derived.Test.YtoejaggkedlfmaaMg7
namespace Go.Proofs.Ytoejaggkedlfmaa.treeBack
open Go.ChangeShapes Go.WideShapes Go.ChangeAt Go.RowKit
set_option linter.unusedSimpArgs false
set_option linter.unnecessarySimpa false
set_option linter.unusedSectionVars false
set_option linter.unusedVariables false
open Go.ChangeMaps (open_string shut_string)

theorem own : ownKnob Try.prog.godebug = none := by kernel_rfl
theorem laidOut : laidOutB Try.prog = true := by kernel_rfl

set_option maxRecDepth 100000 in
theorem lifted (os : Os) (started : os.Started) (H : Type) (enc : TypeId × Value → H) :
    ReturnsInHanded {} Try.checked os 17 .any (Rows.treeBackSpec.pre6 enc Try.prog Try.f17 Rows.treeBackRow.domain false) (Rows.treeBackSpec.post enc Try.prog Try.f17 false true false false) := by
  refine returnsInHanded_of_change_sized (C := Try.checked) own started (by kernel_rfl) Try.func17
    (ChangeSpec.witness6 (enc := enc) (C := Try.checked) false ⟨#[], #[(.slice none 0 0), (.slice none 0 0)], []⟩ 8 (by kernel_rfl) (by kernel_rfl) (by kernel_rfl) (by kernel_rfl)) ?_
  intro W base args ds gs before hval0 hW hcnd hsz0 _
  have hval : ∀ (j : Nat) t v, Try.f17.params[j]? = some t → args[j]? = some v → Value.okWide Try.prog W .any base t v := hval0
  have hW' := hW
  obtain ⟨p, q, hA0, hV, rfl, hfz, hnd⟩ := hW
  have hA : DataW.TrodAll enc Try.prog W 0 (fun _ => true) true Try.f17.params.toList args.toList ds p := hA0
  rw [Try.params17] at hA hval
  obtain ⟨v0, vs0, d0, ds0, p0, pq0, hargs, rfl, rfl, h0, r0⟩ := trodAll_cons hA
  obtain ⟨v1, vs1, d1, ds1, p1, pq1, rfl, rfl, rfl, h1, r1⟩ := trodAll_cons r0
  obtain ⟨rfl, rfl, rfl⟩ := trodAll_nil r1
  obtain rfl : args = #[v0, v1] := by cases args; simp_all
  obtain ⟨rfl, rfl⟩ := trodVars_none hV
  have hsz := List.all_eq_true.1 hsz0
  have y0 := h0
  have lt0 : ∀ x ∈ p0, x.block < W.heap.size := by obtain ⟨i, hi⟩ := y0; exact DataW.trod_lt i _ _ _ hi
  obtain ⟨x0, e0, o0⟩ := opn_arg (opn_slice (C := cd_int) Try.underlying23 cells_3 bytes_3 (opn_i64 Try.underlying3)) h0 fun i hi => of_decide_eq_true (hsz i (DataW.weights_mem_each (j := 0) (t := 23) rfl rfl i hi))
  have one0 : v0.oneCell' = true := by obtain ⟨_, _, _, rfl⟩ := okWide_slice Try.underlying23 (hval 0 23 v0 rfl rfl); rfl
  obtain rfl : v0 = .slice x0.1.a x0.2.length x0.1.c := cells_one e0 one0
  have y1 := h1
  have lt1 : ∀ x ∈ p1, x.block < W.heap.size := by obtain ⟨i, hi⟩ := y1; exact DataW.trod_lt i _ _ _ hi
  obtain ⟨x1, e1, o1⟩ := opn_arg (opn_slice (C := cd_pithlaw09_Op) Try.underlying110 cells_116 bytes_116 (opn_pithlaw09_Op W)) h1 fun i hi => of_decide_eq_true (hsz i (DataW.weights_mem_each (j := 1) (t := 110) rfl rfl i hi))
  have one1 : v1.oneCell' = true := by obtain ⟨_, _, _, rfl⟩ := okWide_slice Try.underlying110 (hval 1 110 v1 rfl rfl); rfl
  obtain rfl : v1 = .slice x1.1.a x1.2.length x1.1.c := cells_one e1 one1
  clear hA0 hval0
  refine (walk_TreeBack W x0 x1 (Rows.uptoBulk d0) (Rows.uptoBulk d1) o0 o1).mono fun e W' he => ?_
  match e, he with
  | .returned _, ⟨rfl, bel⟩ => exact ⟨_, rfl, _, _, _, [], _, [], hW', trodAll_mk1 (shut_bool Try.underlying4 _), (trodAll_cons_mk (Below.trod laidOut (by kernel_rfl) (of_decide_eq_true (by kernel_rfl)) y0 bel lt0) (trodAll_cons_mk (Below.trod laidOut (by kernel_rfl) (of_decide_eq_true (by kernel_rfl)) y1 bel lt1) trodAll_mk0)), rfl, bel.frame _, fun h => by cases h⟩

theorem over : Rows.treeBackRow.holds Try.pinned (OpenSpec.ofChange Rows.treeBackSpec) :=
  OpenClaim.holds_of_wide 17 Try.f17 rfl rfl rfl rfl rfl rfl rfl ⟨rfl, rfl, rfl, rfl, rfl⟩ rfl rfl rfl rfl rfl (by kernel_rfl) Try.func17 (by kernel_rfl)
    (of_decide_eq_true (by kernel_rfl)) (by unfold Func.isWrapper; first | (rw [if_pos (by decide +kernel)]; kernel_rfl) | (rw [if_neg (by decide +kernel)]; exact ⟨rfl, rfl⟩))
    (fun os started H enc _ => lifted os started H enc)

theorem proved : Rows.TreeBackSaid := over
#print axioms proved
end Go.Proofs.Ytoejaggkedlfmaa.treeBack
