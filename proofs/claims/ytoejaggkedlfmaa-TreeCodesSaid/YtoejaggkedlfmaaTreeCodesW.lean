/-
  The statement TreeCodes, walked: the whole.
-/
import Derived.Test.YtoejaggkedlfmaaTreeCodes
namespace Go.Proofs.Ytoejaggkedlfmaa
open Go
set_option linter.unusedSimpArgs false
set_option linter.unnecessarySimpa false
set_option linter.unusedVariables false
attribute [local irreducible] oMv oV oU oCall oCallV oBi oBin oUn oLoad oStore oNil oFld oField oIdx oIndex oPick oAlloc oBox oBuild oBs oConv oMk oSl oExt oFn oIface oMap oLook oMapUp oRange oNext oAssert oPanic oRes pN pA pL pDr pIf gA pGd

set_option maxHeartbeats 4000000 in
theorem walk_TreeCodes (W : World) (x0 : Sl × List Int) (x1 : Sl × List T_pithlaw09_Op) (k0 k1 : Nat)
    (h0 : RdP cd_int (old W) x0.1 x0.2 ∧ x0.2.length * 8 ≤ reachBytes ∧ x0.2.length + 1 ≤ k0 ∧ ∀ c ∈ x0.2, ∃ k, k ≤ k0 ∧ (-9223372036854775808 ≤ c ∧ c < 9223372036854775808))
    (h1 : RdP cd_pithlaw09_Op (old W) x1.1 x1.2 ∧ x1.2.length * 40 ≤ reachBytes ∧ x1.2.length + 1 ≤ k1 ∧ ∀ c ∈ x1.2, ∃ k, k ≤ k1 ∧ c.ok W k) :
    Calls Try.prog 13 #[.slice x0.1.a x0.2.length x0.1.c, .slice x1.1.a x1.2.length x1.1.c] W fun e W' => e = .returned (.bool true) ∧ RowKit.Below W.heap.size W W' := by
  refine walk_end (pithlaw09_TreeCodes.calls ?_)
  unfold pithlaw09_TreeCodes.F
  obtain ⟨r0, s0, _, _⟩ := h0
  obtain ⟨r1, s1, _, o1⟩ := h1
  have hrb : reachBytes = 140737488351232 := rfl
  have hS := Sat.start W
  refine pc_pithlaw09_made (made_ok (M := []) r0 (by omega) hS fun b ps ls w hr hp hpl0 hS => ?_)
  repeat' (first | (refine pc_rcenc_New (NewE_ok hS ?_); clear hS; intro e w hS) | (refine pc_pithref07_New (RNewE_ok hS ?_); clear hS; intro x w hS) | (refine pc_pithlaw09_fixed (fixed_ok hS ?_); clear hS; intro w hS) | refine pIf_f ?_ | refine pGd_go (by rfl) ?_ | refine pN_via (by (intro K; simp (disch := omega) only [go_sem, pN_min, pN_max, w_u32, w_u64, Option.isNone_some, Option.isNone_none]; (try simp only [wrap_u32, wrap_u64]); rfl)) ?_ | fail)
  refine ⟨fun v w => ∃ (i : Nat) (ls : List (List Int)) (st : R.S), v = .int .i64 i ∧ i ≤ x1.2.length ∧ RowsOk ps ls ∧ R.Ok st ∧ st.k ≤ 32 * i ∧ Sat W w (Hdr b ps :: bagL ps ls :: Enc e st :: REnc x st :: [old W]), fun v _ => x1.2.length - (RowKit.intOf v).toNat,
    ⟨0, ls, R.S.new, rfl, Nat.zero_le _, hr, R.Ok.new, Nat.le_refl _, hS.to⟩, ?_⟩
  clear hS hr
  rintro _ _ w ⟨i, ls, st, rfl, hi, hr, ho, hk, hS⟩
  by_cases hlt : i < x1.2.length
  · obtain ⟨y, hy⟩ : ∃ y, x1.2[i]? = some y := ⟨x1.2[i]'hlt, by simp⟩
    obtain ⟨_, _, ok⟩ := o1 y (List.mem_of_getElem? hy)
    obtain ⟨kind, row, at_, n, v⟩ := y
    have hv : v < 9223372036854775808 := by
      simp only [T_pithlaw09_Op.ok] at ok
      omega
    repeat' (first | (refine pc_pithlaw09_rows_codes (codes_ok hS hp hr ho (by omega) _ _ _ _ _ hv ?_); clear hS; intro st2 ls2 w hr2 ho2 hk2 hS) | (refine pN_lss_s ?_ ?_ <;> intro hc <;> try (exfalso; omega)) | refine pIf_t ?_ | refine pIf_f ?_ | refine pN_ld_at ha hS (by rfl) ?_ | refine pN_ixk hS _ (by first | rfl | (exact (Int.toNat_of_nonneg (by omega)).symm)) (by first | rfl | omega | simpa only [go_sem] using True.intro | (simp only [go_sem]; omega)) (by assumption) fun a ha hel => ?_ | refine pN_via (by (intro K; simp (disch := omega) only [go_sem, pN_min, pN_max, w_u32, w_u64, Option.isNone_some, Option.isNone_none]; (try simp only [wrap_u32, wrap_u64]); rfl)) ?_ | fail)
    exact ⟨⟨i + 1, ls2, st2, rfl, by omega, hr2, ho2, by omega, hS⟩, by simp [RowKit.intOf] <;> omega⟩
  · have hpl : ps.length ≤ 140737488355328 := by omega
    repeat' (first | (refine pc_pithref07_Encoder_Bytes (RBytes_ok (hS.fd (REnc _)) (by omega) ?_); clear hS; intro s2 w hS) | (refine pc_rcenc_Encoder_Bytes (Bytes_ok (hS.fd (Enc _)) (by first | omega | decide) ?_); clear hS; intro s w hS) | (refine pc_pithlaw09_rows_same (same_ok (hS.fd2 (Hdr b) (bagL ps)) hr hpl ?_); clear hS; intro w hS) | (refine pN_lss_s ?_ ?_ <;> intro hc <;> try (exfalso; omega)) | (refine pA_eql_ss ?_ ?_ <;> intro hc <;> try (exfalso; first | omega | exact hc rfl | exact hc (by assumption) | exact absurd hc (by assumption))) | refine pIf_f ?_ | refine gA_go (by rfl) ?_ | refine pGd_go (by rfl) ?_ | (refine pDr_go hS ?_; clear hS; intro w hS) | refine ⟨trivial, ?_⟩ | refine ⟨⟨(by first | exact run_l hS (by first | rfl | assumption) | exact run_st hS (by first | rfl | omega) | exact run_ld1 ha hS | exact fun _ => run_l hS (by rfl) | exact fun _ => run_st hS (by first | rfl | omega) | exact fun _ => run_ld1 ha hS | exact fun h => Bool.noConfusion h), trivial⟩, ?_⟩ | refine pL_st hS (by first | rfl | omega | simpa only [go_sem] using True.intro | (simp only [go_sem]; omega)) ?_ | refine pN_via (by (intro K; simp (disch := omega) only [go_sem, pN_min, pN_max, w_u32, w_u64, Option.isNone_some, Option.isNone_none]; (try simp only [wrap_u32, wrap_u64]); rfl)) ?_ | refine pA_via (by (intro K; simp (disch := omega) only [go_sem, pN_min, pN_max, w_u32, w_u64, Option.isNone_some, Option.isNone_none]; (try simp only [wrap_u32, wrap_u64]); rfl)) ?_ | fail)
    exact ⟨rfl, hS.to⟩

end Go.Proofs.Ytoejaggkedlfmaa
