/-
  What is wrong with an item.
-/
import Derived.Test.YteeepkimnpabiaaDoorTarO
namespace Go.Proofs.YteeepkimnpabiaaDoor
open Go
set_option linter.unusedSimpArgs false
set_option linter.unnecessarySimpa false
set_option linter.unusedSectionVars false
set_option linter.unusedVariables false
attribute [local irreducible] oMv oV oU oCall oCallV oBi oBin oUn oLoad oStore oNil oFld oField oIdx oIndex oPick oAlloc oBox oBuild oBs oConv oMk oSl oExt oFn oIface oMap oLook oMapUp oRange oNext oAssert oPanic oRes pN pA pL pDr pIf gA pGd Calls

section
variable [Pan] {E w : World} {K Q : Value → World → Prop} {L M : List HA} {l r : List UInt8} {s s2 : Sl}

set_option maxHeartbeats 2000000 in
theorem wrong_ok (x : T_api_Item) (hn : x.Name.length ≤ 140737488355328) (hk : x.Link.length ≤ 140737488355328) (hS : Sat E w L) (hQ : ∀ w, Sat E w L → Q (.int .i64 (A.wrong x)) w) :
    Calls Tryd.prog 26 #[.agg x.enc.toArray] w (retP Q) := by
  refine tar_wrong.calls ?_
  unfold tar_wrong.F
  obtain ⟨name, link, kind, mode, time, data⟩ := x
  obtain ⟨w6, w8, w7, w0⟩ : (kind < 0 ∨ 3 ≤ kind ∨ (kind ≠ 2 ∧ link.length ≠ 0) ∨ (kind ≠ 0 ∧ 0 < data.2.length) → A.wrong ⟨name, link, kind, mode, time, data⟩ = 6) ∧
      (¬ (kind < 0 ∨ 3 ≤ kind ∨ (kind ≠ 2 ∧ link.length ≠ 0) ∨ (kind ≠ 0 ∧ 0 < data.2.length)) → ((A.parted name).2.2 = false ∨ (kind = 2 ∧ (link.length = 0 ∨ 100 < link.length ∨ 0 ∈ link))) → A.wrong ⟨name, link, kind, mode, time, data⟩ = 8) ∧
      (¬ (kind < 0 ∨ 3 ≤ kind ∨ (kind ≠ 2 ∧ link.length ≠ 0) ∨ (kind ≠ 0 ∧ 0 < data.2.length)) → ¬ ((A.parted name).2.2 = false ∨ (kind = 2 ∧ (link.length = 0 ∨ 100 < link.length ∨ 0 ∈ link))) → (mode < 0 ∨ 4096 ≤ mode ∨ time < 0 ∨ 8589934592 ≤ time ∨ 8589934592 ≤ data.2.length) → A.wrong ⟨name, link, kind, mode, time, data⟩ = 7) ∧
      (¬ (kind < 0 ∨ 3 ≤ kind ∨ (kind ≠ 2 ∧ link.length ≠ 0) ∨ (kind ≠ 0 ∧ 0 < data.2.length)) → ¬ ((A.parted name).2.2 = false ∨ (kind = 2 ∧ (link.length = 0 ∨ 100 < link.length ∨ 0 ∈ link))) → ¬ (mode < 0 ∨ 4096 ≤ mode ∨ time < 0 ∨ 8589934592 ≤ time ∨ 8589934592 ≤ data.2.length) → A.wrong ⟨name, link, kind, mode, time, data⟩ = 0) :=
    ⟨fun h => by rw [A.wrong, if_pos h], fun h h2 => by rw [A.wrong, if_neg h, if_pos h2], fun h h2 h3 => by rw [A.wrong, if_neg h, if_neg h2, if_pos h3], fun h h2 h3 => by rw [A.wrong, if_neg h, if_neg h2, if_neg h3]⟩
  dsimp only [T_api_Item.enc] at hn hk ⊢
  generalize A.wrong ⟨name, link, kind, mode, time, data⟩ = res at *
  have e0 : (.string ⟨#[]⟩ : Value) = .string ⟨List.toArray []⟩ := rfl
  rw [e0]
  have hlk : (link = [] ∧ link.length = 0) ∨ (¬ link = [] ∧ 0 < link.length) := by
    rcases link with _ | ⟨b, t⟩ <;> simp
  have hm : (0 ∈ link ∧ 0 ≤ A.ixb link 0) ∨ (¬ 0 ∈ link ∧ ¬ 0 ≤ A.ixb link 0) := by
    by_cases h : 0 ∈ link
    · exact .inl ⟨h, A.ixb_mem.2 h⟩
    · exact .inr ⟨h, fun e => h (A.ixb_mem.1 e)⟩
  have hnb : (A.parted name).2.2 = true ∨ (A.parted name).2.2 = false := by cases (A.parted name).2.2 <;> simp
  refine pN_bx hS (by rfl) ?_
  clear hS
  intro a w hS
  repeat' (first | (refine pc_tar_parted (parted_ok (L := _ :: L) hn ?_ hS); clear hS; intro w hS) | (refine pN_eql_s ?_ ?_ <;> intro hc <;> try (exfalso; first | omega | exact hc rfl | exact hc (by assumption) | exact absurd hc (by assumption))) | refine pN_l hS (by first | rfl | assumption) ?_ | refine pN_via (by (intro K; simp (disch := omega) only [go_sem, pN_min, pN_max, w_u32, w_u64, Option.isNone_some, Option.isNone_none]; (try simp only [wrap_u32, wrap_u64]); rfl)) ?_ | fail)
  all_goals
    have hS : Sat E w (cel a ⟨24, [.string ⟨name.toArray⟩, .string ⟨link.toArray⟩, .int .i64 kind, .int .i64 mode, .int .i64 time, .slice data.1.a data.2.length data.1.c]⟩ :: L) := hS
    refine ⟨fun w' => res = 0 ∧ Sat E w' L, ?_, ?_⟩
    rotate_left 1
    · clear hS
      rintro _ w ⟨rfl, hS⟩
      exact hQ _ hS
    refine ⟨fun v w' => v = .bool (decide (kind < 0 ∨ 3 ≤ kind ∨ (kind ≠ 2 ∧ link.length ≠ 0) ∨ (kind ≠ 0 ∧ 0 < data.2.length))) ∧ Sat E w' (cel a ⟨24, [.string ⟨name.toArray⟩, .string ⟨link.toArray⟩, .int .i64 kind, .int .i64 mode, .int .i64 time, .slice data.1.a data.2.length data.1.c]⟩ :: L), ?_, ?_⟩
    · rcases hlk with ⟨hl0, hll⟩ | ⟨hl0, hll⟩
      all_goals
        repeat' (first | ((first | refine pN_lss_s ?_ ?_ | refine pN_gtr_s ?_ ?_ | refine pN_geq_s ?_ ?_) <;> intro hc <;> try (exfalso; omega)) | ((first | refine pN_neq_s ?_ ?_ | refine pN_neq_ss ?_ ?_) <;> intro hc <;> try (exfalso; first | omega | exact hc rfl | exact hc (by assumption) | exact absurd hc (by assumption))) | refine pIf_t ?_ | refine pIf_f ?_ | refine pGd_go (by rfl) ?_ | refine pGd_no (by rfl) ?_ | refine pN_l hS (by first | rfl | assumption) ?_ | refine pN_via (by (intro K; simp (disch := omega) only [go_sem, pN_min, pN_max, w_u32, w_u64, Option.isNone_some, Option.isNone_none]; (try simp only [wrap_u32, wrap_u64]); rfl)) ?_ | fail)
        all_goals first
          | exact ⟨congrArg Value.bool (decide_eq_true (by omega)).symm, hS⟩
          | exact ⟨congrArg Value.bool (decide_eq_false (by omega)).symm, hS⟩
    clear hS
    rintro _ _ w ⟨rfl, hS⟩
    by_cases C1 : kind < 0 ∨ 3 ≤ kind ∨ (kind ≠ 2 ∧ link.length ≠ 0) ∨ (kind ≠ 0 ∧ 0 < data.2.length)
    · rw [decide_eq_true C1]
      refine pIf_t ?_
      have := w6 C1
      subst this
      exact hQ _ hS.to
    rw [decide_eq_false C1]
    refine pIf_f ?_
    refine ⟨fun v w' => v = .bool (decide ((A.parted name).2.2 = false ∨ (kind = 2 ∧ (link.length = 0 ∨ 100 < link.length ∨ 0 ∈ link)))) ∧ Sat E w' (cel a ⟨24, [.string ⟨name.toArray⟩, .string ⟨link.toArray⟩, .int .i64 kind, .int .i64 mode, .int .i64 time, .slice data.1.a data.2.length data.1.c]⟩ :: L), ?_, ?_⟩
    · rcases hnb with hb | hb
      · rw [hb]
        rcases hlk with ⟨hl0, hll⟩ | ⟨hl0, hll⟩
        all_goals rcases hm with ⟨hm0, hmi⟩ | ⟨hm0, hmi⟩
        all_goals simp only [hm0, or_true, or_false, and_true, Bool.true_eq_false, false_or]
        all_goals
          repeat' (first | (refine pc_strings_IndexByte (sIndexByte_ok 0 ?_)) | refine pN_slen ?_ | ((first | refine pN_gtr_s ?_ ?_ | refine pN_geq_s ?_ ?_) <;> intro hc <;> try (exfalso; omega)) | (refine pN_eql_ss ?_ ?_ <;> intro hc <;> try (exfalso; first | omega | exact hc rfl | exact hc (by assumption) | exact absurd hc (by assumption))) | refine pIf_f ?_ | refine pGd_go (by rfl) ?_ | refine pGd_no (by rfl) ?_ | refine pN_l hS (by first | rfl | assumption) ?_ | refine pN_via (by (intro K; simp (disch := omega) only [go_sem, pN_min, pN_max, w_u32, w_u64, Option.isNone_some, Option.isNone_none]; (try simp only [wrap_u32, wrap_u64]); rfl)) ?_ | fail)
          all_goals first
            | exact ⟨congrArg Value.bool (decide_eq_true (by omega)).symm, hS⟩
            | exact ⟨congrArg Value.bool (decide_eq_false (by omega)).symm, hS⟩
      · rw [hb]
        repeat' (first | refine pIf_t ?_ | refine pN_via (by (intro K; simp (disch := omega) only [go_sem, pN_min, pN_max, w_u32, w_u64, Option.isNone_some, Option.isNone_none]; (try simp only [wrap_u32, wrap_u64]); rfl)) ?_ | fail)
        exact ⟨congrArg Value.bool (decide_eq_true (.inl rfl)).symm, hS⟩
    clear hS
    rintro _ _ w ⟨rfl, hS⟩
    by_cases C2 : (A.parted name).2.2 = false ∨ (kind = 2 ∧ (link.length = 0 ∨ 100 < link.length ∨ 0 ∈ link))
    · rw [decide_eq_true C2]
      refine pIf_t ?_
      have := w8 C1 C2
      subst this
      exact hQ _ hS.to
    rw [decide_eq_false C2]
    refine pIf_f ?_
    refine ⟨fun v w' => v = .bool (decide (mode < 0 ∨ 4096 ≤ mode ∨ time < 0 ∨ 8589934592 ≤ time ∨ 8589934592 ≤ data.2.length)) ∧ Sat E w' (cel a ⟨24, [.string ⟨name.toArray⟩, .string ⟨link.toArray⟩, .int .i64 kind, .int .i64 mode, .int .i64 time, .slice data.1.a data.2.length data.1.c]⟩ :: L), ?_, ?_⟩
    · repeat' (first | ((first | refine pN_lss_s ?_ ?_ | refine pN_geq_s ?_ ?_) <;> intro hc <;> try (exfalso; omega)) | refine pIf_t ?_ | refine pIf_f ?_ | refine pGd_go (by rfl) ?_ | refine pGd_no (by rfl) ?_ | refine pN_l hS (by first | rfl | assumption) ?_ | refine pN_via (by (intro K; simp (disch := omega) only [go_sem, pN_min, pN_max, w_u32, w_u64, Option.isNone_some, Option.isNone_none]; (try simp only [wrap_u32, wrap_u64]); rfl)) ?_ | fail)
      all_goals first
        | exact ⟨congrArg Value.bool (decide_eq_true (by omega)).symm, hS⟩
        | exact ⟨congrArg Value.bool (decide_eq_false (by omega)).symm, hS⟩
    clear hS
    rintro _ _ w ⟨rfl, hS⟩
    by_cases C3 : mode < 0 ∨ 4096 ≤ mode ∨ time < 0 ∨ 8589934592 ≤ time ∨ 8589934592 ≤ data.2.length
    · rw [decide_eq_true C3]
      refine pIf_t ?_
      have := w7 C1 C2 C3
      subst this
      exact hQ _ hS.to
    · rw [decide_eq_false C3]
      refine pIf_f ?_
      exact ⟨w0 C1 C2 C3, hS.to⟩
end

end Go.Proofs.YteeepkimnpabiaaDoor
