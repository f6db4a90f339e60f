/-
  The statement TreeReads, walked: the whole.
-/
import Derived.Test.YtoejaggkedlfmaaTreeReads
namespace Go.Proofs.Ytoejaggkedlfmaa
open Go
set_option linter.unusedSimpArgs false
set_option linter.unnecessarySimpa false
set_option linter.unusedSectionVars false
set_option linter.unusedVariables false
attribute [local irreducible] oMv oV oU oCall oCallV oBi oBin oUn oLoad oStore oNil oFld oField oIdx oIndex oPick oAlloc oBox oBuild oBs oConv oMk oSl oExt oFn oIface oMap oLook oMapUp oRange oNext oAssert oPanic oRes pN pA pL pDr pIf gA pGd

set_option maxHeartbeats 4000000 in
theorem walk_TreeReads (W : World) (x0 : Sl × List Int) (x1 : Sl × List UInt8) (x2 : Sl × List T_pithlaw09_Op) (k0 k1 k2 : Nat)
    (h0 : RdP cd_int (old W) x0.1 x0.2 ∧ x0.2.length * 8 ≤ reachBytes ∧ x0.2.length + 1 ≤ k0 ∧ ∀ c ∈ x0.2, ∃ k, k ≤ k0 ∧ (-9223372036854775808 ≤ c ∧ c < 9223372036854775808))
    (h1 : RdP cd_uint8 (old W) x1.1 x1.2 ∧ x1.2.length * 1 ≤ reachBytes ∧ x1.2.length + 1 ≤ k1 ∧ ∀ c ∈ x1.2, ∃ k, k ≤ k1 ∧ True)
    (h2 : RdP cd_pithlaw09_Op (old W) x2.1 x2.2 ∧ x2.2.length * 40 ≤ reachBytes ∧ x2.2.length + 1 ≤ k2 ∧ ∀ c ∈ x2.2, ∃ k, k ≤ k2 ∧ c.ok W k) :
    Calls Try.prog 16 #[.slice x0.1.a x0.2.length x0.1.c, .slice x1.1.a x1.2.length x1.1.c, .slice x2.1.a x2.2.length x2.1.c] W fun e W' => e = .returned (.bool true) ∧ RowKit.Below W.heap.size W W' := by
  refine walk_end (pithlaw09_TreeReads.calls ?_)
  unfold pithlaw09_TreeReads.F
  obtain ⟨r0, s0, _, _⟩ := h0
  obtain ⟨r1, s1, _, _⟩ := h1
  obtain ⟨r2, s2, _, _⟩ := h2
  have hrb : reachBytes = 140737488351232 := rfl
  obtain ⟨bl, l⟩ := x1
  dsimp only at r1 s1 ⊢
  have hS := Sat.start W
  refine pc_pithlaw09_made (made_ok (M := []) r0 (by omega) hS fun b ps ls w hr hp hpl0 hS => ?_)
  repeat' (first | (refine pc_pithlaw09_fixed (fixed_ok hS ?_); clear hS; intro w hS) | refine pIf_f ?_ | refine pGd_go (by rfl) ?_ | (refine pN_b0 hS ?_; clear hS; intro s w hS) | (refine pN_app hS (by first | rfl | omega | simpa only [go_sem] using True.intro | (simp only [go_sem]; omega)) (by first | rfl | omega | simpa only [go_sem] using True.intro | (simp only [go_sem]; omega)) (by first | omega | (simp only [go_sem]; omega)) ?_; clear hS; intro s w hS) | refine pN_via (by (intro K; simp (disch := omega) only [go_sem, pN_min, pN_max, w_u32, w_u64, Option.isNone_some, Option.isNone_none]; (try simp only [wrap_u32, wrap_u64]); rfl)) ?_ | fail)
  rw [List.nil_append] at *
  rcases hst : D.start l with ⟨t, u⟩ | e
  rotate_left 1
  · have he := D.start_e hst
    repeat' (first | (refine pc_rcdec_New (DNew_no hS (by omega) hst ?_); clear hS; intro w hS) | (refine pc_pithref08_New (R8New_no hS (by omega) hst ?_); clear hS; intro w hS) | (refine pN_neq_s ?_ ?_ <;> intro hc <;> try (exfalso; first | omega | exact hc rfl | exact hc (by assumption) | exact absurd hc (by assumption))) | refine pIf_t ?_ | refine pIf_f ?_ | refine pGd_go (by rfl) ?_ | refine pN_via (by (intro K; simp (disch := omega) only [go_sem, pN_min, pN_max, w_u32, w_u64, Option.isNone_some, Option.isNone_none]; (try simp only [wrap_u32, wrap_u64]); rfl)) ?_ | fail)
    exact ⟨rfl, hS.to⟩
  obtain ⟨ho, htb, _⟩ := D.start_ok hst
  repeat' (first | (refine pc_rcdec_New (DNew_in hS (by omega) hst ?_); clear hS; intro d w hS) | (refine pc_pithref08_New (R8New_in hS (by omega) hst ?_); clear hS; intro x w hS) | (refine pN_neq_s ?_ ?_ <;> intro hc <;> try (exfalso; first | omega | exact hc rfl | exact hc (by assumption) | exact absurd hc (by assumption))) | refine pIf_f ?_ | refine pGd_go (by rfl) ?_ | refine pN_via (by (intro K; simp (disch := omega) only [go_sem, pN_min, pN_max, w_u32, w_u64, Option.isNone_some, Option.isNone_none]; (try simp only [wrap_u32, wrap_u64]); rfl)) ?_ | fail)
  refine ⟨fun v w => ∃ (i : Nat) (ls : List (List Int)) (st : D.S), v = .int .i64 i ∧ i ≤ x2.2.length ∧ RowsOk ps ls ∧ D.Ok st ∧ st.b = l ∧ Sat W w (Hdr b ps :: bagL ps ls :: Dec d st :: RDec x st :: [old W]), fun v _ => x2.2.length - (RowKit.intOf v).toNat,
    ⟨0, ls, t, rfl, Nat.zero_le _, hr, ho, htb, hS.to⟩, ?_⟩
  clear hS hr
  rintro _ _ w ⟨i, ls, st, rfl, hi, hr, ho, hsb, hS⟩
  have hbl : st.b.length ≤ 140737488355328 := by rw [hsb]; omega
  by_cases hlt : i < x2.2.length
  · obtain ⟨y, hy⟩ : ∃ y, x2.2[i]? = some y := ⟨x2.2[i]'hlt, by simp⟩
    obtain ⟨kind, row, at_, n, v⟩ := y
    repeat' (first | (refine pc_pithlaw09_rows_reads (reads_ok hS hp hr ho hbl _ _ _ _ _ ?_); clear hS; intro st2 ls2 w hr2 ho2 hk2 hS) | (refine pN_lss_s ?_ ?_ <;> intro hc <;> try (exfalso; omega)) | refine pIf_t ?_ | refine pGd_go (by rfl) ?_ | refine pN_ld_at ha hS (by rfl) ?_ | refine pN_ixk hS _ (by first | rfl | (exact (Int.toNat_of_nonneg (by omega)).symm)) (by first | rfl | omega | simpa only [go_sem] using True.intro | (simp only [go_sem]; omega)) (by assumption) fun a ha hel => ?_ | refine pN_via (by (intro K; simp (disch := omega) only [go_sem, pN_min, pN_max, w_u32, w_u64, Option.isNone_some, Option.isNone_none]; (try simp only [wrap_u32, wrap_u64]); rfl)) ?_ | fail)
    repeat' (first | (refine pc_rcdec_Decoder_Used (Used_ok (hS.fd (Dec d)) ?_); clear hS; intro w hS) | (refine pc_rcdec_Decoder_Done (Done_ok (hS.fd (Dec d)) ?_); clear hS; intro w hS) | (refine pc_pithref08_Decoder_Used (R8Used_ok (hS.fd (RDec x)) ?_); clear hS; intro w hS) | (refine pc_pithref08_Decoder_Done (R8Done_ok (hS.fd (RDec x)) ?_); clear hS; intro w hS) | (refine pN_neq_s ?_ ?_ <;> intro hc <;> try (exfalso; first | omega | exact hc rfl | exact hc (by assumption) | exact absurd hc (by assumption))) | refine pGd_go (by rfl) ?_ | refine pN_via (by (intro K; simp (disch := omega) only [go_sem, pN_min, pN_max, w_u32, w_u64, Option.isNone_some, Option.isNone_none]; (try simp only [wrap_u32, wrap_u64]); rfl)) ?_ | fail)
    rw [bne_self_eq_false]
    repeat' (first | refine pIf_f ?_ | refine pN_via (by (intro K; simp (disch := omega) only [go_sem, pN_min, pN_max, w_u32, w_u64, Option.isNone_some, Option.isNone_none]; (try simp only [wrap_u32, wrap_u64]); rfl)) ?_ | fail)
    exact ⟨⟨i + 1, ls2, st2, rfl, by omega, hr2, ho2, hk2.trans hsb, hS.to⟩, by simp [RowKit.intOf] <;> omega⟩
  · have hpl : ps.length ≤ 140737488355328 := by omega
    repeat' (first | (refine pc_pithlaw09_rows_same (same_ok (hS.fd2 (Hdr b) (bagL ps)) hr hpl ?_); clear hS; intro w hS) | (refine pN_lss_s ?_ ?_ <;> intro hc <;> try (exfalso; omega)) | refine pIf_f ?_ | refine pN_via (by (intro K; simp (disch := omega) only [go_sem, pN_min, pN_max, w_u32, w_u64, Option.isNone_some, Option.isNone_none]; (try simp only [wrap_u32, wrap_u64]); rfl)) ?_ | fail)
    exact ⟨rfl, hS.to⟩

end Go.Proofs.Ytoejaggkedlfmaa
