/-
  The statement TarListsUpto, proved: for every input that the row speaks of the call returns true, and what was there stays. The row's frame is after the kit's own shell for a law; the walk stands in YteeepkimnpabiaaDoorTarLists.
-/
import Derived.JoinedCond
import Derived.Test.YteeepkimnpabiaaDoorTie
import Derived.Test.YteeepkimnpabiaaDoorCards
import Derived.LaidMore
import Derived.Lay
import Derived.SevenTiedAt
import Derived.Stop.Joined
import Derived.Deep.DeepHandedRow
import Derived.Test.YteeepkimnpabiaaDoorMg7
namespace Go.Proofs.YteeepkimnpabiaaDoor.tarListsUpto
open Go.ChangeShapes Go.WideShapes Go.ChangeAt Go.RowKit
set_option linter.unusedSimpArgs false
set_option linter.unnecessarySimpa false
set_option linter.unusedSectionVars false
set_option linter.unusedVariables false
open Go.ChangeMaps (open_string shut_string)

theorem own : ownKnob Tryd.prog.godebug = none := by kernel_rfl
theorem laidOut : laidOutB Tryd.prog = true := by kernel_rfl

set_option maxRecDepth 100000 in
theorem lifted (os : Os) (started : os.Started) (H : Type) (enc : TypeId × Value → H) (F : Stop.Interp) :
    ReturnsInHanded {} Tryd.checked os 7 .any ((Rows.OpenSpec.upto Rows.tarListsSpec).preRow enc Tryd.prog Tryd.f7 Rows.tarListsUptoRow.domain false Rows.tarListsUptoRow.laid) (((Rows.OpenSpec.upto Rows.tarListsSpec).at F).post enc Tryd.prog Tryd.f7 false true false false) := by
  have hx : DataW.whole enc Tryd.prog ((World.laidAll Tryd.prog os Rows.tarListsUptoRow.laid).forCall (fun _ _ => 0) ⟨#[], #[(.slice none 0 0)], []⟩).memory Tryd.f7.params.toList Rows.tarListsSpec.vars false #[(.slice none 0 0)].toList 8 = some ([.nil], [], []) := by kernel_rfl
  refine returnsInHanded_of_row (C := Tryd.checked) (s := Rows.OpenSpec.upto Rows.tarListsSpec) own started (by kernel_rfl) Tryd.func7
    (witness_row_at (enc := enc) (C := Tryd.checked) false (World.laidAll Tryd.prog os Rows.tarListsUptoRow.laid) #[(.slice none 0 0)] (World.laidAll_os _ _ _) (by kernel_rfl) (by kernel_rfl) (by kernel_rfl)
      (OpenSpec.preRow_of_cond 8 hx (by kernel_rfl) (fun k hk => by cases hk; kernel_rfl) (by kernel_rfl) (by rw [MakeChecks.laidMetH_plain _ _ _ (by kernel_rfl)]; exact laidMet_laidAll _ (by kernel_rfl) (by kernel_rfl)))) ?_
  intro W base args ds gs before hval0 hW hcnd hcond hsz0 hLaid _ _
  have hk := hcond _ rfl
  have hval : ∀ (j : Nat) t v, Tryd.f7.params[j]? = some t → args[j]? = some v → Value.okWide Tryd.prog W .any base t v := hval0
  have hW' := hW
  obtain ⟨p, q, hA0, hV, rfl, hfz, hnd⟩ := hW
  have hA : DataW.TrodAll enc Tryd.prog W 0 (fun _ => true) true Tryd.f7.params.toList args.toList ds p := hA0
  rw [Tryd.params7] at hA hval
  obtain ⟨v0, vs0, d0, ds0, p0, pq0, hargs, rfl, rfl, h0, r0⟩ := trodAll_cons hA
  obtain ⟨rfl, rfl, rfl⟩ := trodAll_nil r0
  obtain rfl : args = #[v0] := by cases args; simp_all
  obtain ⟨rfl, rfl⟩ := trodVars_none hV
  have hsz := List.all_eq_true.1 hsz0
  have y0 := h0
  have lt0 : ∀ x ∈ p0, x.block < W.heap.size := by obtain ⟨i, hi⟩ := y0; exact DataW.trod_lt i _ _ _ hi
  obtain ⟨x0, e0, o0⟩ := opn_arg (opn_slice (C := cd_api_Item) Tryd.underlying34 cells_24 bytes_24 (opn_api_Item W)) h0 fun i hi => of_decide_eq_true (hsz i (DataW.weights_mem_each (j := 0) (t := 34) rfl rfl i hi))
  have one0 : v0.oneCell' = true := by obtain ⟨_, _, _, rfl⟩ := okWide_slice Tryd.underlying34 (hval 0 34 v0 rfl rfl); rfl
  obtain rfl : v0 = .slice x0.1.a x0.2.length x0.1.c := cells_one e0 one0
  clear hA0 hval0
  refine (walk_TarLists W x0 (Rows.uptoBulk d0) o0 (bulk_small hk d0 (by simp))).mono fun e W' he => ?_
  match e, he with
  | .returned _, ⟨rfl, bel⟩ => exact ⟨_, rfl, _, _, _, [], _, [], hW', trodAll_mk1 (shut_bool Tryd.underlying4 _), (trodAll_cons_mk (Below.trod laidOut (by kernel_rfl) (of_decide_eq_true (by kernel_rfl)) y0 bel lt0) trodAll_mk0), rfl, bel.frame _, fun h => by cases h⟩

theorem over : Rows.TarListsUptoSaid :=
  OpenClaim.holds_of_cond 7 Tryd.f7 rfl rfl rfl rfl rfl rfl rfl ⟨rfl, rfl, rfl, rfl, rfl⟩ rfl rfl rfl rfl rfl (by kernel_rfl) Tryd.func7 (by kernel_rfl)
    (of_decide_eq_true (by kernel_rfl)) (by unfold Func.isWrapper; first | (rw [if_pos (by decide +kernel)]; kernel_rfl) | (rw [if_neg (by decide +kernel)]; exact ⟨rfl, rfl⟩))
    (fun os started H enc _ F => by rw [OpenClaim.pre_eq_preRow]; exact lifted os started H enc F)

theorem proved : Rows.TarListsUptoCardSaid :=
  Claim7.holds_tied_plain_at .later [] [.data, .pinned] true (true, "3048ac235cf71099c956f4771f40ab937f1bb25b550500c66f3a9f58b68b095a") false over (fun _ h => by cases h) (by kernel_rfl) (fun _ h => by cases h) tarListsUpto_row_tie rfl ⟨rfl, rfl⟩ (by kernel_rfl) rfl
    (fun f fn hf hfn => by
      obtain rfl : f = 7 := Option.some.inj ((show Tryd.prog.funcNamed "pith/pithlaw33.TarLists" = some 7 by kernel_rfl).symm.trans hf) |>.symm
      obtain rfl : fn = Tryd.f7 := (Option.some.inj (Tryd.func7.symm.trans hfn)).symm
      exact ⟨by kernel_rfl, fun j t ht => by
        rw [Tryd.params7] at ht
        have hm : t ∈ [34] := by simpa using Array.mem_of_getElem? ht
        have hall : ([34].all fun u => !Tryd.prog.wantsStandIn u) = true := by kernel_rfl
        exact (show Tryd.prog.wantsStandIn t = false by simpa using List.all_eq_true.1 hall t hm)⟩)
    (by kernel_rfl)
#print axioms proved
end Go.Proofs.YteeepkimnpabiaaDoor.tarListsUpto
