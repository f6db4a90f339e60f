/-
  Package pithlaw08: answered.
-/
import Derived.Test.YtoejaggkedlfmaaDecRun
namespace Go.Proofs.Ytoejaggkedlfmaa
open Go
set_option linter.unusedSimpArgs false
set_option linter.unnecessarySimpa false
set_option linter.unusedSectionVars false
set_option linter.unusedVariables false
attribute [local irreducible] oMv oV oU oCall oCallV oBi oBin oUn oLoad oStore oNil oFld oField oIdx oIndex oPick oAlloc oBox oBuild oBs oConv oMk oSl oExt oFn oIface oMap oLook oMapUp oRange oNext oAssert oPanic oRes pN pA pL pDr pIf gA pGd

theorem uint32_conv {v : Int} (h : v = 0 ∨ v = 1) : v % 4294967296 = v := by omega

section
variable {E w : World} {M : List HA} {Q : Value → World → Prop} {d p : Nat} {a : D.A} {qs : List T_pithlaw08_Ask}

theorem run_next {k : Nat} {z : D.A} {q : T_pithlaw08_Ask} (hq : qs[k]? = some q) : D.run z (qs.drop k) = match D.ask z q with
    | none => ([], z)
    | some (z', v) => (v :: (D.run z' (qs.drop (k + 1))).1, (D.run z' (qs.drop (k + 1))).2) := by
  have hlt := (List.getElem?_eq_some_iff.1 hq).1
  have hq' := (List.getElem?_eq_some_iff.1 hq).2
  rw [List.drop_eq_getElem_cons hlt, hq', D.run]
  cases D.ask z q with
  | none => rfl
  | some zv => obtain ⟨z', v⟩ := zv; rfl

set_option maxHeartbeats 2000000 in
theorem answered_ok {sq : Sl} (hS : Sat E w (Dec d a.1 :: PSet p a.2 :: M)) [hr : Rds cd_pithlaw08_Ask M sq qs] (ha : D.AOk a) (hb : a.1.b.length ≤ 225000000000000) (hn : qs.length ≤ 4398046511104)
    (hQ : ∀ s w, Sat E w (rows cd_uint32 s (D.run a qs).1 :: Dec d (D.run a qs).2.1 :: PSet p (D.run a qs).2.2 :: M) → Q (.tuple #[.slice s.a (D.run a qs).1.length s.c, .int .i64 (D.run a qs).2.1.k]) w) :
    Calls Try.prog 56 #[.pointer (some ⟨d, 0, none⟩), .pointer (some ⟨p, 0, none⟩), .slice sq.a qs.length sq.c] w (retP Q) := by
  refine pithlaw08_answered.calls ?_
  unfold pithlaw08_answered.F
  repeat' (first | refine pN_via (by (intro K; simp (disch := omega) only [go_sem, pN_min, pN_max, w_u32, w_u64, Option.isNone_some, Option.isNone_none]; (try simp only [wrap_u32, wrap_u64]); rfl)) ?_ | fail)
  have hS : Sat E w (rows cd_uint32 ⟨none, 0⟩ [] :: Dec d a.1 :: PSet p a.2 :: M) := hS.nil 26 1
  refine ⟨fun y v w => ∃ (k : Nat) (z : D.A) (vs : List Int) (s2 : Sl), y = .slice s2.a k s2.c ∧ v = .int .i64 k ∧ k ≤ qs.length ∧ vs.length = k ∧ D.AOk z ∧ D.Same z a ∧ D.run a qs = (vs ++ (D.run z (qs.drop k)).1, (D.run z (qs.drop k)).2) ∧ Sat E w (rows cd_uint32 s2 vs :: Dec d z.1 :: PSet p z.2 :: M),
    fun _ v _ => qs.length - (RowKit.intOf v).toNat, ⟨0, a, [], ⟨none, 0⟩, rfl, rfl, Nat.zero_le _, rfl, ha, ⟨rfl, rfl⟩, rfl, hS⟩, ?_⟩
  clear hS
  rintro _ _ _ w ⟨k, z, vs, s2, rfl, rfl, hk, hvs, hz, hza, hrun, hS⟩
  have hzb : z.1.b.length ≤ 225000000000000 := by rw [hza.b]; exact hb
  by_cases hlt : k < qs.length
  rotate_left 1
  · obtain rfl : k = qs.length := by omega
    rw [List.drop_length, D.run, List.append_nil] at hrun
    rw [hrun] at hQ
    dsimp only at hQ
    rw [hvs] at hQ
    repeat' (first | (refine pc_rcdec_Decoder_Used (Used_ok (hS.fd (Dec d)) ?_); clear hS; intro w hS) | (refine pN_lss_s ?_ ?_ <;> intro hc <;> try (exfalso; omega)) | refine pIf_f ?_ | fail)
    exact hQ _ _ hS.to
  obtain ⟨q, hq⟩ : ∃ q, qs[k]? = some q := ⟨qs[k]'hlt, by simp [hlt]⟩
  have hnx := run_next (z := z) hq
  obtain ⟨dir, ai, an, av⟩ := q
  repeat' (first | (refine pN_lss_s ?_ ?_ <;> intro hc <;> try (exfalso; omega)) | refine pIf_t ?_ | fail)
  refine ⟨fun y w => ∃ (z' : D.A) (v : Int) (s2 : Sl), y = .slice s2.a (k + 1) s2.c ∧ D.ask z ⟨dir, ai, an, av⟩ = some (z', v) ∧ Sat E w (rows cd_uint32 s2 (vs ++ [v]) :: Dec d z'.1 :: PSet p z'.2 :: M), ?_, ?_⟩
  rotate_left 1
  · clear hS
    rintro _ _ w ⟨z', v, s3, rfl, he, hS⟩
    rw [he] at hnx
    obtain ⟨h1, h2⟩ := hz.ask he
    repeat' (first | refine pN_via (by (intro K; simp (disch := omega) only [go_sem, pN_min, pN_max, w_u32, w_u64, Option.isNone_some, Option.isNone_none]; (try simp only [wrap_u32, wrap_u64]); rfl)) ?_ | fail)
    refine ⟨⟨k + 1, z', vs ++ [v], s3, rfl, rfl, by omega, by simp [hvs], h1, ⟨h2.b.trans hza.b, h2.n.trans hza.n⟩, ?_, hS⟩, by simp [RowKit.intOf] <;> omega⟩
    rw [hrun, hnx]
    simp
  rcases dir with _ | _
  · have he := D.bitQ_e z.1 z.2 ai
    have hv := D.bitQ_v (st := z.1) (l := z.2) (i := ai)
    have hno := D.bitQ_no (st := z.1) (l := z.2) (i := ai)
    have hu : D.ask z ⟨false, ai, an, av⟩ = if (z.1.bitQ z.2 ai).2.2.2 = 0 then some (((z.1.bitQ z.2 ai).1, (z.1.bitQ z.2 ai).2.1), (z.1.bitQ z.2 ai).2.2.1) else none := rfl
    have hk2 : (vs ++ [(z.1.bitQ z.2 ai).2.2.1]).length = k + 1 := by simp [hvs]
    repeat' (first | refine pc_pithlaw08_num (num_ok _ he ?_) | (refine pc_rcdec_Decoder_Bit (DBit_q (hS.fd2 (Dec d) (PSet p)) hz.s hz.f hzb ai ?_); clear hS; intro w hS) | (refine pN_neq_s ?_ ?_ <;> intro hc <;> try (exfalso; first | omega | exact hc rfl | exact hc (by assumption) | exact absurd hc (by assumption))) | refine pIf_t ?_ | refine pIf_f ?_ | refine pN_l hS (by first | rfl | assumption) ?_ | refine pN_ld_at ha hS (by rfl) ?_ | (refine pN_sa hS (by rfl) (by rfl) (by rfl) ?_; clear hS; intro w hS; try dsimp only at hS) | (refine pN_nz hS ?_; clear hS; intro a w hS) | refine pN_ixk hS _ (by first | rfl | (exact (Int.toNat_of_nonneg (by omega)).symm)) (by first | rfl | omega | simpa only [go_sem] using True.intro | (simp only [go_sem]; omega)) (by assumption) fun a ha hel => ?_ | (refine pN_b1 hS (by rfl) (by decide) ?_; clear hS; intro s w hS) | (refine pN_app hS (by first | rfl | omega | simpa only [go_sem] using True.intro | (simp only [go_sem]; omega)) (by first | rfl | omega | simpa only [go_sem] using True.intro | (simp only [go_sem]; omega)) (by first | omega | (simp only [go_sem]; omega)) ?_; clear hS; intro s w hS) | refine pN_via (by (intro K; simp (disch := omega) only [go_sem, pN_min, pN_max, w_u32, w_u64, Option.isNone_some, Option.isNone_none]; (try simp only [wrap_u32, wrap_u64]); rfl)) ?_ | fail)
    · exact ⟨((z.1.bitQ z.2 ai).1, (z.1.bitQ z.2 ai).2.1), (z.1.bitQ z.2 ai).2.2.1, s, by rw [hk2], by rw [hu, if_pos hc], hS.to⟩
    · simp only [hu, if_neg hc] at hnx
      rw [hnx, List.append_nil] at hrun
      rw [hrun] at hQ
      dsimp only at hQ
      rw [hvs] at hQ
      rw [(hno hc).1, (hno hc).2] at hS
      repeat' (first | (refine pc_rcdec_Decoder_Used (Used_ok (hS.fd (Dec d)) ?_); clear hS; intro w hS) | fail)
      exact hQ _ _ hS.to
  · have he := D.dirQ_e z.1 an
    have hno := D.dirQ_no (st := z.1) (n := an)
    have hu : D.ask z ⟨true, ai, an, av⟩ = if (z.1.dirQ an).2.2 = 0 then some (((z.1.dirQ an).1, z.2), (z.1.dirQ an).2.1) else none := rfl
    have hk2 : (vs ++ [(z.1.dirQ an).2.1]).length = k + 1 := by simp [hvs]
    repeat' (first | refine pc_pithlaw08_num (num_ok _ he ?_) | (refine pc_rcdec_Decoder_Direct (DDirect_q (hS.fd (Dec d)) hz.s hzb an ?_); clear hS; intro w hS) | (refine pN_neq_s ?_ ?_ <;> intro hc <;> try (exfalso; first | omega | exact hc rfl | exact hc (by assumption) | exact absurd hc (by assumption))) | refine pIf_t ?_ | refine pIf_f ?_ | refine pN_l hS (by first | rfl | assumption) ?_ | refine pN_ld_at ha hS (by rfl) ?_ | (refine pN_sa hS (by rfl) (by rfl) (by rfl) ?_; clear hS; intro w hS; try dsimp only at hS) | (refine pN_nz hS ?_; clear hS; intro a w hS) | refine pN_ixk hS _ (by first | rfl | (exact (Int.toNat_of_nonneg (by omega)).symm)) (by first | rfl | omega | simpa only [go_sem] using True.intro | (simp only [go_sem]; omega)) (by assumption) fun a ha hel => ?_ | (refine pN_b1 hS (by rfl) (by decide) ?_; clear hS; intro s w hS) | (refine pN_app hS (by first | rfl | omega | simpa only [go_sem] using True.intro | (simp only [go_sem]; omega)) (by first | rfl | omega | simpa only [go_sem] using True.intro | (simp only [go_sem]; omega)) (by first | omega | (simp only [go_sem]; omega)) ?_; clear hS; intro s w hS) | refine pN_via (by (intro K; simp (disch := omega) only [go_sem, pN_min, pN_max, w_u32, w_u64, Option.isNone_some, Option.isNone_none]; (try simp only [wrap_u32, wrap_u64]); rfl)) ?_ | fail)
    · exact ⟨((z.1.dirQ an).1, z.2), (z.1.dirQ an).2.1, s, by rw [hk2], by rw [hu, if_pos hc], hS.to⟩
    · simp only [hu, if_neg hc] at hnx
      rw [hnx, List.append_nil] at hrun
      rw [hrun] at hQ
      dsimp only at hQ
      rw [hvs] at hQ
      rw [hno hc] at hS
      repeat' (first | (refine pc_rcdec_Decoder_Used (Used_ok (hS.fd (Dec d)) ?_); clear hS; intro w hS) | fail)
      exact hQ _ _ hS.to
end

end Go.Proofs.Ytoejaggkedlfmaa
