/-
  The statement TreeReads, walked.
-/
import Derived.Test.YtoejaggkedlfmaaTreeCodes
import Derived.Test.YtoejaggkedlfmaaTreeGet
import Derived.Test.YtoejaggkedlfmaaRef9G
namespace Go.Proofs.Ytoejaggkedlfmaa
open Go
set_option linter.unusedSimpArgs false
set_option linter.unnecessarySimpa false
set_option linter.unusedSectionVars false
set_option linter.unusedVariables false
attribute [local irreducible] oMv oV oU oCall oCallV oBi oBin oUn oLoad oStore oNil oFld oField oIdx oIndex oPick oAlloc oBox oBuild oBs oConv oMk oSl oExt oFn oIface oMap oLook oMapUp oRange oNext oAssert oPanic oRes pN pA pL pDr pIf gA pGd

section
variable {E w : World} {M : List HA} {Q : Value → World → Prop} {b : Nat} {ps : List (Nat × Nat)} {ls : List (List Int)} {l : List Int}

theorem reads_end {d x i : Nat} {st : D.S} {s t : Sl} {p r : Nat} {m : List Int} (hS : Sat E w (cel b ⟨130, [.slice s.a ps.length s.c, .slice t.a ps.length t.c]⟩ :: rows cd_p_prob_Set s (ps.map ptrP) :: rows cd_p_pithref06_Set t (ps.map ptrR) ::
    PSet p m :: RSet r m :: bag (((ps.zip ls).map pairH).eraseIdx i) :: Dec d st :: RDec x st :: M)) (hp : ps[i]? = some (p, r)) (hl : ls[i]? = some l) : Sat E w (Hdr b ps :: bagL ps (ls.set i m) :: Dec d st :: RDec x st :: M) := by
  have h1 := Hdr.shut hS
  have h2 : Sat E w (PSet (p, r).1 m :: RSet (p, r).2 m :: bag (((ps.zip ls).map pairH).eraseIdx i) :: Hdr b ps :: Dec d st :: RDec x st :: M) := h1.to
  have h3 := bagL.into h2 hp hl
  exact h3.to

set_option maxHeartbeats 4000000 in
theorem reads_ok {d x : Nat} {st : D.S} (hS : Sat E w (Hdr b ps :: bagL ps ls :: Dec d st :: RDec x st :: M)) (hp : 0 < ps.length) (hr : RowsOk ps ls) (ho : D.Ok st) (hb : st.b.length ≤ 140737488355328) (kind row at_ n v : Int)
    (hQ : ∀ st' ls' w, RowsOk ps ls' → D.Ok st' → st'.b = st.b → Sat E w (Hdr b ps :: bagL ps ls' :: Dec d st' :: RDec x st' :: M) → Q (.bool true) w) :
    Calls Try.prog 71 #[.pointer (some ⟨b, 0, none⟩), .pointer (some ⟨d, 0, none⟩), .pointer (some ⟨x, 0, none⟩), .agg #[.int .i64 kind, .int .i64 row, .int .i64 at_, .int .i64 n, .int .i64 v]] w (retP Q) := by
  refine pithlaw09_rows_reads.calls ?_
  unfold pithlaw09_rows_reads.F
  obtain ⟨⟨s, t⟩, hS⟩ := Hdr.opn hS
  have hi := rowOf_lt row hp
  have hls := hr.len
  obtain ⟨⟨p, r⟩, hpr⟩ : ∃ y, ps[rowOf row ps.length]? = some y := ⟨ps[rowOf row ps.length]'hi, by simp⟩
  obtain ⟨l, hl⟩ : ∃ y, ls[rowOf row ps.length]? = some y := ⟨ls[rowOf row ps.length]'(by omega), by simp [hls, hi]⟩
  have hx1 : (ps.map ptrP)[rowOf row ps.length]? = some (some ⟨p, 0, none⟩) := by rw [List.getElem?_map, hpr]; rfl
  have hx2 : (ps.map ptrR)[rowOf row ps.length]? = some (some ⟨r, 0, none⟩) := by rw [List.getElem?_map, hpr]; rfl
  have hlen1 : (ps.map ptrP).length = ps.length := List.length_map _
  have hlen2 : (ps.map ptrR).length = ps.length := List.length_map _
  have hS := bagL.out (hS.fd (bagL ps)) hpr hl
  dsimp only at hS
  have hf := hr.fine l (List.mem_of_getElem? hl)
  have hsm := hr.small l (List.mem_of_getElem? hl)
  obtain ⟨z, hz1, hz2⟩ : ∃ z : D.A, z.1 = st ∧ z.2 = l := ⟨(st, l), rfl, rfl⟩
  have hz : D.AOk z := ⟨by rw [hz1]; exact ho, by rw [hz2]; exact hf⟩
  repeat' (first | (refine pc_pithlaw09_rows_of (of_ok (hS.fd (cel b)) _ _ _ _ _ ?_); clear hS; intro w hS) | refine pL_l hS (by first | rfl | assumption) ?_ | refine pL_ld1 ha hS ?_ | refine pL_la hS (by rfl) ?_ | (refine pDr_go hS ?_; clear hS; intro w hS) | (refine pN_bx hS (by rfl) ?_; clear hS; intro a w hS) | refine ⟨⟨(by first | exact run_l hS (by first | rfl | assumption) | exact run_st hS (by first | rfl | omega) | exact run_ld1 ha hS | exact fun _ => run_l hS (by rfl) | exact fun _ => run_st hS (by first | rfl | omega) | exact fun _ => run_ld1 ha hS | exact fun h => Bool.noConfusion h), trivial⟩, ?_⟩ | refine pA_ixk hS _ (by first | rfl | (exact (Int.toNat_of_nonneg (by omega)).symm)) (by first | rfl | omega | simpa only [go_sem] using True.intro | (simp only [go_sem]; omega)) (by assumption) fun a ha hel => ?_ | refine pA_via (by (intro K; simp (disch := omega) only [go_sem, pN_min, pN_max, w_u32, w_u64, Option.isNone_some, Option.isNone_none]; (try simp only [wrap_u32, wrap_u64]); rfl)) ?_ | fail)
  refine ⟨fun v u e f w => ∃ (x0 e0 : Int) (y : D.A), v = .int .i64 x0 ∧ u = .int .i64 x0 ∧ e = .int .i64 e0 ∧ f = .int .i64 e0 ∧ D.AOk y ∧ D.Same y z ∧ Sat E w (cel b ⟨130, [.slice s.a ps.length s.c, .slice t.a ps.length t.c]⟩ :: rows cd_p_prob_Set s (ps.map ptrP) :: rows cd_p_pithref06_Set t (ps.map ptrR) ::
    PSet p y.2 :: RSet r y.2 :: bag (((ps.zip ls).map pairH).eraseIdx (rowOf row ps.length)) :: Dec d y.1 :: RDec x y.1 :: M), ?_, ?_⟩
  rotate_left 1
  · clear hS
    rintro _ _ _ _ _ w ⟨x0, e0, y, rfl, rfl, rfl, rfl, hy, hyz, hS⟩
    repeat' (first | (refine pN_eql_s ?_ ?_ <;> intro hc <;> try (exfalso; first | omega | exact hc rfl | exact hc (by assumption) | exact absurd hc (by assumption))) | refine pGd_go (by rfl) ?_ | refine pN_via (by (intro K; simp (disch := omega) only [go_sem, pN_min, pN_max, w_u32, w_u64, Option.isNone_some, Option.isNone_none]; (try simp only [wrap_u32, wrap_u64]); rfl)) ?_ | fail)
    refine hQ y.1 (ls.set _ y.2) _ (hr.set _ hy.f (by rw [hyz.n, hz2]; exact hsm)) hy.s (by rw [hyz.b, hz1]) (reads_end (s := s) (t := t) hS.to hpr hl)
  subst hz1 hz2
  repeat' (first | (refine pN_eql_s ?_ ?_ <;> intro hc <;> try (exfalso; first | omega | exact hc rfl | exact hc (by assumption) | exact absurd hc (by assumption))) | refine pIf_t ?_ | refine pIf_f ?_ | refine pN_l hS (by first | rfl | assumption) ?_ | refine pN_via (by (intro K; simp (disch := omega) only [go_sem, pN_min, pN_max, w_u32, w_u64, Option.isNone_some, Option.isNone_none]; (try simp only [wrap_u32, wrap_u64]); rfl)) ?_ | fail)
  · refine pc_tree_Get (Get_ok (z := z) (hS.fd2 (Dec d) (PSet p)) hz (by omega) (by omega) at_ n ?_)
    clear hS
    intro w hS
    have hu := D.gets_ok hz at_ n false
    repeat' (first | (refine pc_pithref09_Get (RGet_ok (z := z) (hS.fd2 (RDec x) (RSet r)) hz hb (by omega) at_ n false ?_); clear hS; intro w hS) | refine pN_l hS (by first | rfl | assumption) ?_ | refine pN_via (by (intro K; simp (disch := omega) only [go_sem, pN_min, pN_max, w_u32, w_u64, Option.isNone_some, Option.isNone_none]; (try simp only [wrap_u32, wrap_u64]); rfl)) ?_ | fail)
    generalize D.gets z at_ n false = u at *
    exact ⟨_, _, u.1, rfl, rfl, rfl, rfl, hu.1, hu.2, hS.to⟩
  · refine pc_tree_GetBack (GetBack_ok (z := z) (hS.fd2 (Dec d) (PSet p)) hz (by omega) (by omega) at_ n ?_)
    clear hS
    intro w hS
    have hu := D.gets_ok hz at_ n true
    repeat' (first | (refine pc_pithref09_Get (RGet_ok (z := z) (hS.fd2 (RDec x) (RSet r)) hz hb (by omega) at_ n true ?_); clear hS; intro w hS) | refine pN_l hS (by first | rfl | assumption) ?_ | refine pN_via (by (intro K; simp (disch := omega) only [go_sem, pN_min, pN_max, w_u32, w_u64, Option.isNone_some, Option.isNone_none]; (try simp only [wrap_u32, wrap_u64]); rfl)) ?_ | fail)
    generalize D.gets z at_ n true = u at *
    exact ⟨_, _, u.1, rfl, rfl, rfl, rfl, hu.1, hu.2, hS.to⟩
  · have hu := D.bitQ_ok hz.s hz.f at_
    refine pc_rcdec_Decoder_Bit (DBit_q (hS.fd2 (Dec d) (PSet p)) hz.s hz.f (by omega) at_ ?_)
    clear hS
    intro w hS
    repeat' (first | (refine pc_pithref08_Decoder_Bit (R8Bit_q (hS.fd2 (RDec x) (RSet r)) hz.s hz.f hb at_ ?_); clear hS; intro w hS) | refine pN_l hS (by first | rfl | assumption) ?_ | refine pN_via (by (intro K; simp (disch := omega) only [go_sem, pN_min, pN_max, w_u32, w_u64, Option.isNone_some, Option.isNone_none]; (try simp only [wrap_u32, wrap_u64]); rfl)) ?_ | fail)
    generalize z.1.bitQ z.2 at_ = u at *
    exact ⟨_, _, (u.1, u.2.1), rfl, rfl, rfl, rfl, ⟨hu.1, hu.2.2.1⟩, ⟨hu.2.1, hu.2.2.2⟩, hS.to⟩
  · have hu := D.dirQ_ok hz.s n
    have hu2 := D.dirQ_e z.1 n
    refine pc_rcdec_Decoder_Direct (DDirect_q (hS.fd (Dec d)) hz.s (by omega) n ?_)
    clear hS
    intro w hS
    repeat' (first | (refine pc_pithref08_Decoder_Direct (R8Direct_q (hS.fd (RDec x)) hz.s hb n ?_); clear hS; intro w hS) | (refine pN_eql_s ?_ ?_ <;> intro hc <;> try (exfalso; first | omega | exact hc rfl | exact hc (by assumption) | exact absurd hc (by assumption))) | refine pGd_go (by rfl) ?_ | refine pN_l hS (by first | rfl | assumption) ?_ | refine pN_via (by (intro K; simp (disch := omega) only [go_sem, pN_min, pN_max, w_u32, w_u64, Option.isNone_some, Option.isNone_none]; (try simp only [wrap_u32, wrap_u64]); rfl)) ?_ | fail)
    exact hQ _ (ls.set _ z.2) _ (hr.set _ hz.f hsm) hu.1 hu.2 (reads_end (s := s) (t := t) hS.to hpr hl)
  · exact ⟨0, 0, z, rfl, rfl, rfl, rfl, hz, ⟨rfl, rfl⟩, hS.to⟩
end

end Go.Proofs.Ytoejaggkedlfmaa
