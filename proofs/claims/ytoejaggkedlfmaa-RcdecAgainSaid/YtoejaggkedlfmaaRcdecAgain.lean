/-
  The statement RcdecAgain, walked.
-/
import Derived.Test.YtoejaggkedlfmaaDecEnc
namespace Go.Proofs.Ytoejaggkedlfmaa
open Go
set_option linter.unusedSimpArgs false
set_option linter.unnecessarySimpa false
set_option linter.unusedSectionVars false
set_option linter.unusedVariables false
attribute [local irreducible] oMv oV oU oCall oCallV oBi oBin oUn oLoad oStore oNil oFld oField oIdx oIndex oPick oAlloc oBox oBuild oBs oConv oMk oSl oExt oFn oIface oMap oLook oMapUp oRange oNext oAssert oPanic oRes pN pA pL pDr pIf gA pGd

namespace D
theorem front_all {b : List UInt8} (hl : 5 ≤ b.length) (h : front b 4 = 4294967295) : (b.drop 1).take 4 = [255, 255, 255, 255] := by
  refine R.num_inj (by rw [List.length_take, List.length_drop, List.length_cons, List.length_cons, List.length_cons, List.length_cons, List.length_nil]; omega) ?_
  have : R.num [255, 255, 255, 255] = 4294967295 := by decide
  rw [this]
  exact h
theorem direct_v : ∀ (n : Nat) {st t : S} {u v : Int}, st.direct u n = .ok t v → u * 2 ^ n ≤ v ∧ v < (u + 1) * 2 ^ n
  | 0, st, t, u, v, e => by cases e; simp; omega
  | n + 1, st, t, u, v, e => by
    simp only [S.direct] at e
    split at e
    · cases e
    · split at e
      · cases e
      · obtain ⟨h1, h2⟩ := direct_v n e
        have p : (0 : Int) < 2 ^ n := Int.pow_pos (by omega)
        have hb := bitAt_01 st (st.R / 2)
        rw [Int.pow_succ]
        generalize st.bitAt (st.R / 2) = x at h1 h2 hb
        generalize (2 : Int) ^ n = q at h1 h2 p ⊢
        have e1 : u * (q * 2) = 2 * u * q := by grind
        have e2 : (u + 1) * (q * 2) = (2 * u + 2) * q := by grind
        have m1 : 2 * u * q ≤ (2 * u + x) * q := Int.mul_le_mul_of_nonneg_right (by omega) (by omega)
        have m2 : (2 * u + x + 1) * q ≤ (2 * u + 2) * q := Int.mul_le_mul_of_nonneg_right (by omega) (by omega)
        rw [e1, e2]
        omega
def tagged (q : T_pithlaw08_Ask) (v : Int) : T_pithlaw08_Ask := ⟨q.Direct, q.I, q.N, v⟩
theorem ask_tag {a z : A} {q : T_pithlaw08_Ask} {v : Int} (h : ask a q = some (z, v)) : R.may a.2.length (tagged q v) = true ∧ R.told (tagged q v) = v ∧ 0 ≤ v ∧ v < 4294967296 := by
  obtain ⟨dir, i, n, x⟩ := q
  unfold ask at h
  cases dir with
  | true =>
    simp only [if_true] at h
    split at h
    · rename_i h0
      cases h
      unfold S.dirQ at h0 ⊢
      split at h0
      · rename_i hn
        simp only [if_pos hn]
        cases e1 : a.1.direct 0 n.toNat with
        | ok t u =>
          obtain ⟨h1, h2⟩ := direct_v _ e1
          simp only
          have p : (2 : Int) ^ n.toNat ≤ 2 ^ 32 := R.two_le (by omega)
          have e32 : (2 : Int) ^ 32 = 4294967296 := by decide
          refine ⟨?_, ?_, by omega, by omega⟩
          · simp only [R.may, tagged, if_true]; exact decide_eq_true hn
          · simp only [R.told, tagged, if_true]; exact Int.emod_eq_of_lt (by omega) (by omega)
        | no e' =>
          simp only [e1] at h0
          rcases direct_e _ _ _ _ e1 with rfl | rfl <;> cases h0
      · cases h0
    · cases h
  | false =>
    simp only [Bool.false_eq_true, if_false] at h
    split at h
    · rename_i h0
      cases h
      have hv := bitQ_v (st := a.1) (l := a.2) (i := i)
      have hm : 0 ≤ i ∧ i < a.2.length := by
        unfold S.bitQ at h0
        split at h0
        · rename_i hn; exact hn
        · cases h0
      refine ⟨?_, ?_, by omega, by omega⟩
      · simp only [R.may, tagged, Bool.false_eq_true, if_false]; exact decide_eq_true hm
      · simp only [R.told, tagged, Bool.false_eq_true, if_false]; omega
    · cases h
theorem run_tag : ∀ (qs : List T_pithlaw08_Ask) {a : A}, AOk a → ∀ ls, ls = List.zipWith tagged qs (run a qs).1 → (∀ q ∈ ls, R.may a.2.length q = true) ∧ ls.map R.told = (run a qs).1 ∧ (∀ q ∈ ls, 0 ≤ q.V ∧ q.V < 4294967296)
  | [], a, _, ls, h => by subst h; simp [run]
  | q :: qs, a, ha, ls, h => by
    subst h
    simp only [run]
    cases e : ask a q with
    | none => simp
    | some zv =>
      obtain ⟨z, v⟩ := zv
      obtain ⟨h1, h2, h3⟩ := ask_tag e
      obtain ⟨g1, g2⟩ := ha.ask e
      obtain ⟨i1, i2, i3⟩ := run_tag qs g1 _ rfl
      rw [g2.n] at i1
      simp only [List.zipWith_cons_cons, List.mem_cons, List.map_cons, h2, i2]
      refine ⟨?_, trivial, ?_⟩
      · rintro q' (rfl | hq)
        · exact h1
        · exact i1 _ hq
      · rintro q' (rfl | hq)
        · exact h3
        · exact i3 _ hq
end D

set_option maxHeartbeats 8000000 in
theorem walk_RcdecAgain (W : World) (x0 : Sl × List UInt8) (x1 : Int) (x2 : Sl × List T_pithlaw08_Ask) (k0 k1 k2 : Nat)
    (h0 : RdP cd_uint8 (old W) x0.1 x0.2 ∧ x0.2.length * 1 ≤ reachBytes ∧ x0.2.length + 1 ≤ k0 ∧ ∀ c ∈ x0.2, ∃ k, k ≤ k0 ∧ True) (h1 : -9223372036854775808 ≤ x1 ∧ x1 < 9223372036854775808)
    (h2 : RdP cd_pithlaw08_Ask (old W) x2.1 x2.2 ∧ x2.2.length * 32 ≤ reachBytes ∧ x2.2.length + 1 ≤ k2 ∧ ∀ c ∈ x2.2, ∃ k, k ≤ k2 ∧ c.ok W k) :
    Calls Try.prog 15 #[.slice x0.1.a x0.2.length x0.1.c, .int .i64 x1, .slice x2.1.a x2.2.length x2.1.c] W fun e W' => e = .returned (.bool true) ∧ RowKit.Below W.heap.size W W' := by
  refine walk_end (pithlaw08_RcdecAgain.calls ?_)
  unfold pithlaw08_RcdecAgain.F
  obtain ⟨r0, s0, _, _⟩ := h0
  obtain ⟨r2, s2, _, _⟩ := h2
  have hrb : reachBytes = 140737488351232 := rfl
  obtain ⟨b, l⟩ := x0
  obtain ⟨sq, qs⟩ := x2
  dsimp only at r0 s0 r2 s2 ⊢
  have hS := Sat.start W
  by_cases hn : 0 ≤ x1 ∧ x1 ≤ 64
  rotate_left 1
  · repeat' (first | (refine pc_pithlaw08_known (known_ok hS ?_); clear hS; intro w hS) | ((first | refine pN_lss_s ?_ ?_ | refine pN_gtr_s ?_ ?_) <;> intro hc <;> try (exfalso; omega)) | refine pIf_t ?_ | refine pGd_go (by rfl) ?_ | refine pGd_no (by rfl) ?_ | refine pN_via (by (intro K; simp (disch := omega) only [go_sem, pN_min, pN_max, w_u32, w_u64, Option.isNone_some, Option.isNone_none]; (try simp only [wrap_u32, wrap_u64]); rfl)) ?_ | fail)
    all_goals exact ⟨rfl, hS⟩
  obtain ⟨n, rfl⟩ : ∃ n : Nat, x1 = n := ⟨x1.toNat, by omega⟩
  by_cases h5 : l.length < 5
  · have hst : D.start l = .no 1 := by rw [D.start, if_pos h5]
    repeat' (first | refine pc_pithlaw08_num (num_ok _ (by omega) ?_) | (refine pc_rcdec_New (DNew_no hS (by omega) hst ?_); clear hS; intro w hS) | (refine pc_prob_New (New_ok hS n (by omega) (by omega) ?_); clear hS; intro p w hS) | ((first | refine pN_lss_s ?_ ?_ | refine pN_gtr_s ?_ ?_) <;> intro hc <;> try (exfalso; omega)) | (refine pN_neq_s ?_ ?_ <;> intro hc <;> try (exfalso; first | omega | exact hc rfl | exact hc (by assumption) | exact absurd hc (by assumption))) | refine pIf_t ?_ | refine pIf_f ?_ | refine pGd_go (by rfl) ?_ | refine pGd_no (by rfl) ?_ | refine pN_via (by (intro K; simp (disch := omega) only [go_sem, pN_min, pN_max, w_u32, w_u64, Option.isNone_some, Option.isNone_none]; (try simp only [wrap_u32, wrap_u64]); rfl)) ?_ | fail)
    exact ⟨rfl, hS.to⟩
  obtain ⟨b0, hb0⟩ : ∃ x, l[0]? = some x := ⟨l[0]'(by omega), by simp⟩
  have hbe : b0 = 0 ↔ (b0.toNat : Int) = ((0 : UInt8).toNat : Int) := ⟨fun e => by rw [e], fun e => UInt8.toNat_inj.1 (by omega)⟩
  by_cases hb : b0 = 0
  rotate_left 1
  · have hst : D.start l = .no 2 := by rw [D.start, if_neg h5, hb0, if_pos (.inl fun e => hb (Option.some.inj e))]
    repeat' (first | refine pc_pithlaw08_num (num_ok _ (by omega) ?_) | (refine pc_rcdec_New (DNew_no hS (by omega) hst ?_); clear hS; intro w hS) | (refine pc_prob_New (New_ok hS n (by omega) (by omega) ?_); clear hS; intro p w hS) | ((first | refine pN_lss_s ?_ ?_ | refine pN_gtr_s ?_ ?_) <;> intro hc <;> try (exfalso; omega)) | (refine pN_neq_s ?_ ?_ <;> intro hc <;> try (exfalso; first | omega | exact hc rfl | exact hc (by assumption) | exact absurd hc (by assumption))) | refine pIf_t ?_ | refine pIf_f ?_ | refine pGd_go (by rfl) ?_ | refine pGd_no (by rfl) ?_ | refine pN_ld1 ha hS ?_ | refine pN_ixk hS _ (by first | rfl | (exact (Int.toNat_of_nonneg (by omega)).symm)) (by first | rfl | omega | simpa only [go_sem] using True.intro | (simp only [go_sem]; omega)) (by assumption) fun a ha hel => ?_ | refine pN_via (by (intro K; simp (disch := omega) only [go_sem, pN_min, pN_max, w_u32, w_u64, Option.isNone_some, Option.isNone_none]; (try simp only [wrap_u32, wrap_u64]); rfl)) ?_ | fail)
    · exact absurd (hbe.2 hc) hb
    · exact ⟨rfl, hS.to⟩
  by_cases hf : D.front l 4 = 4294967295
  · have hst : D.start l = .no 2 := by rw [D.start, if_neg h5, if_pos (.inr hf)]
    have hfa := D.front_all (by omega) hf
    repeat' (first | refine pc_pithlaw08_num (num_ok _ (by omega) ?_) | (refine pc_rcdec_New (DNew_no hS (by omega) hst ?_); clear hS; intro w hS) | (refine pc_prob_New (New_ok hS n (by omega) (by omega) ?_); clear hS; intro p w hS) | ((first | refine pN_lss_s ?_ ?_ | refine pN_gtr_s ?_ ?_) <;> intro hc <;> try (exfalso; omega)) | (refine pN_neq_s ?_ ?_ <;> intro hc <;> try (exfalso; first | omega | exact hc rfl | exact hc (by assumption) | exact absurd hc (by assumption))) | refine pIf_t ?_ | refine pIf_f ?_ | refine pGd_go (by rfl) ?_ | refine pGd_no (by rfl) ?_ | refine pN_ld1 ha hS ?_ | refine pN_ixk hS _ (by first | rfl | (exact (Int.toNat_of_nonneg (by omega)).symm)) (by first | rfl | omega | simpa only [go_sem] using True.intro | (simp only [go_sem]; omega)) (by assumption) fun a ha hel => ?_ | refine pN_via (by (intro K; simp (disch := omega) only [go_sem, pN_min, pN_max, w_u32, w_u64, Option.isNone_some, Option.isNone_none]; (try simp only [wrap_u32, wrap_u64]); rfl)) ?_ | fail)
    · refine pN_sl2 hS 1 5 rfl rfl rfl (by omega) (by omega) fun s4 hp => ?_
      have hr4 : ∀ (L : List HA) [Rds cd_uint8 L b l], Rds cd_uint8 L s4 [255, 255, 255, 255] := fun L h => by
        have := hp.rd L h
        rwa [show 5 - 1 = 4 from rfl, hfa] at this
      repeat' (first | (refine pN_eql_ss ?_ ?_ <;> intro hc <;> try (exfalso; first | omega | exact hc rfl | exact hc (by assumption) | exact absurd hc (by assumption))) | refine pGd_go (by rfl) ?_ | refine pN_st hS (by first | rfl | omega | simpa only [go_sem] using True.intro | (simp only [go_sem]; omega)) ?_ | refine pN_via (by (intro K; simp (disch := omega) only [go_sem, pN_min, pN_max, w_u32, w_u64, Option.isNone_some, Option.isNone_none]; (try simp only [wrap_u32, wrap_u64]); rfl)) ?_ | fail)
      exact ⟨rfl, hS.to⟩
    · exact ⟨rfl, hS.to⟩
  obtain ⟨t, hst⟩ : ∃ t, D.start l = .ok t () := ⟨⟨l, 5, 4294967295, D.front l 4⟩, by
    rw [D.start, if_neg h5, hb0, hb, if_neg]
    rintro (h | h)
    · exact h rfl
    · exact hf h⟩
  obtain ⟨ho, htb, _⟩ := D.start_ok hst
  repeat' (first | refine pc_pithlaw08_num (num_ok _ (by omega) ?_) | (refine pc_rcdec_New (DNew_in hS (by omega) hst ?_); clear hS; intro d w hS) | (refine pc_prob_New (New_ok hS n (by omega) (by omega) ?_); clear hS; intro p w hS) | ((first | refine pN_lss_s ?_ ?_ | refine pN_gtr_s ?_ ?_) <;> intro hc <;> try (exfalso; omega)) | (refine pN_neq_s ?_ ?_ <;> intro hc <;> try (exfalso; first | omega | exact hc rfl | exact hc (by assumption) | exact absurd hc (by assumption))) | refine pIf_f ?_ | refine pGd_go (by rfl) ?_ | refine pN_via (by (intro K; simp (disch := omega) only [go_sem, pN_min, pN_max, w_u32, w_u64, Option.isNone_some, Option.isNone_none]; (try simp only [wrap_u32, wrap_u64]); rfl)) ?_ | fail)
  rw [Int.toNat_natCast] at hS
  obtain ⟨a, e1, e2⟩ : ∃ a : D.A, t = a.1 ∧ List.replicate n 1024 = a.2 := ⟨(t, List.replicate n 1024), rfl, rfl⟩
  have ha : D.AOk a := ⟨by rw [← e1]; exact ho, by rw [← e2]; exact B.Fine.new n⟩
  have hab : a.1.b = l := by rw [← e1]; exact htb
  have han : a.2.length = n := by rw [← e2]; exact List.length_replicate
  rw [e1, e2] at hS
  have hlen := D.run_len qs a
  refine pc_pithlaw08_answered (answered_ok (a := a) (hS.fd2 (Dec d) (PSet p)) ha (by rw [hab]; omega) (by omega) fun sx w hS => ?_)
  obtain ⟨hmay, htold, hval⟩ := D.run_tag qs ha _ rfl
  rw [han] at hmay
  have hll : (List.zipWith D.tagged qs (D.run a qs).1).length = (D.run a qs).1.length := by rw [List.length_zipWith]; omega
  have hat : ∀ {i : Nat} {q : T_pithlaw08_Ask} {v : Int}, qs[i]? = some q → (D.run a qs).1[i]? = some v → (List.zipWith D.tagged qs (D.run a qs).1)[i]? = some ⟨q.Direct, q.I, q.N, v⟩ := fun h1 h2 => by
    rw [List.getElem?_zipWith, h1, h2]; rfl
  have hfil : (List.zipWith D.tagged qs (D.run a qs).1).filter (R.may n) = List.zipWith D.tagged qs (D.run a qs).1 := List.filter_eq_self.2 hmay
  have hS : Sat W w [rows cd_uint32 sx (D.run a qs).1, old W] := hS.to
  generalize List.zipWith D.tagged qs (D.run a qs).1 = ls at hmay htold hval hll hat hfil
  generalize (D.run a qs).1 = xs at hS htold hll hat hlen ⊢
  repeat' (first | refine pN_via (by (intro K; simp (disch := omega) only [go_sem, pN_min, pN_max, w_u32, w_u64, Option.isNone_some, Option.isNone_none]; (try simp only [wrap_u32, wrap_u64]); rfl)) ?_ | fail)
  have hS : Sat W w [rows cd_pithlaw08_Ask ⟨none, 0⟩ [], rows cd_uint32 sx xs, old W] := hS.nil 87 4
  refine ⟨fun x v w => ∃ (i : Nat) (sl : Sl) (ms : List T_pithlaw08_Ask), v = .int .i64 i ∧ x = .slice sl.a i sl.c ∧ i ≤ xs.length ∧ ms = ls.take i ∧ Sat W w [rows cd_pithlaw08_Ask sl ms, rows cd_uint32 sx xs, old W], fun _ v _ => xs.length - (RowKit.intOf v).toNat, ⟨0, _, [], rfl, rfl, Nat.zero_le _, rfl, hS⟩, ?_⟩
  clear hS
  rintro _ _ _ w ⟨i, sl, ms, rfl, rfl, hi, hms, hS⟩
  have hml : ms.length = i := by rw [hms, List.length_take]; omega
  by_cases hlt : i < xs.length
  · obtain ⟨q, hq⟩ : ∃ q, qs[i]? = some q := ⟨qs[i]'(by omega), by simp⟩
    obtain ⟨v, hv⟩ : ∃ v, xs[i]? = some v := ⟨xs[i]'hlt, by simp⟩
    have hlv := hat hq hv
    obtain ⟨dir, ai, an, av⟩ := q
    repeat' (first | (refine pN_b1 (x := (⟨dir, ai, an, v⟩ : T_pithlaw08_Ask)) hS (by rfl) (by decide) ?_; clear hS; intro s1 w hS) | (refine pN_lss_s ?_ ?_ <;> intro hc <;> try (exfalso; omega)) | refine pIf_t ?_ | refine pN_ld1 ha hS ?_ | refine pN_ld_at ha hS (by rfl) ?_ | refine pN_la hS (by rfl) ?_ | (refine pN_s hS (by first | exact Nat.le_of_ble_eq_true rfl | assumption) (by rfl) ?_; clear hS; intro w hS; try simp only [List.set_cons_zero, List.set_cons_succ] at hS) | (refine pN_sa hS (by rfl) (by rfl) (by rfl) ?_; clear hS; intro w hS; try dsimp only at hS) | (refine pN_nz hS ?_; clear hS; intro a w hS) | refine pN_ixk hS _ (by first | rfl | (exact (Int.toNat_of_nonneg (by omega)).symm)) (by first | rfl | omega | simpa only [go_sem] using True.intro | (simp only [go_sem]; omega)) (by assumption) fun a ha hel => ?_ | (refine pN_app hS (by first | rfl | omega | simpa only [go_sem] using True.intro | (simp only [go_sem]; omega)) (by first | rfl | omega | simpa only [go_sem] using True.intro | (simp only [go_sem]; omega)) (by first | omega | (simp only [go_sem]; omega)) ?_; clear hS; intro s w hS) | refine pN_via (by (intro K; simp (disch := omega) only [go_sem, pN_min, pN_max, w_u32, w_u64, Option.isNone_some, Option.isNone_none]; (try simp only [wrap_u32, wrap_u64]); rfl)) ?_ | fail)
    have hml2 : (ms ++ [(⟨dir, ai, an, v⟩ : T_pithlaw08_Ask)]).length = i + 1 := by rw [List.length_append, hml]; rfl
    rw [hml2]
    exact ⟨⟨i + 1, s, ms ++ [⟨dir, ai, an, v⟩], rfl, rfl, by omega, by rw [List.take_add_one, hlv, hms]; rfl, hS.to⟩, by simp [RowKit.intOf] <;> omega⟩
  obtain rfl : i = ls.length := by omega
  rw [List.take_length] at hms
  subst hms
  obtain ⟨t0, t1, b1, b2, b3, b4, b5⟩ : ∃ d t, D.start ((R.TS.new n).run ms).s.bytes = .ok d () ∧ D.run (d, List.replicate n 1024) ms = (xs, (t, ((R.TS.new n).run ms).l)) ∧ t.k = ((R.TS.new n).run ms).s.bytes.length ∧ t.C = 0 ∧ t.b = ((R.TS.new n).run ms).s.bytes := by
    have := D.back (n := n) hmay []
    rw [List.append_nil, htold] at this
    exact this
  obtain ⟨ho1, htb1, _⟩ := D.start_ok b1
  obtain ⟨_, hk2, _⟩ := R.TS.run_new (n := n) hmay
  have hbl : ((R.TS.new n).run ms).s.bytes.length = ((R.TS.new n).run ms).s.k + 5 := R.digits_length _ _
  have hd : D.AOk (t0, List.replicate n 1024) := ⟨ho1, B.Fine.new n⟩
  repeat' (first | (refine pc_pithlaw08_encoded (encoded_ok n (by omega) hS (by omega) hval ?_); clear hS; intro sb sa p2 w hS; rw [hfil] at hS ⊢) | refine pc_pithlaw08_num (num_ok _ (by omega) ?_) | (refine pc_rcdec_New (DNew_in hS (by omega) b1 ?_); clear hS; intro g w hS) | (refine pc_prob_New (New_ok hS n (by omega) (by omega) ?_); clear hS; intro p3 w hS) | (refine pN_lss_s ?_ ?_ <;> intro hc <;> try (exfalso; omega)) | (refine pN_neq_s ?_ ?_ <;> intro hc <;> try (exfalso; first | omega | exact hc rfl | exact hc (by assumption) | exact absurd hc (by assumption))) | refine pIf_f ?_ | refine pGd_go (by rfl) ?_ | refine pN_via (by (intro K; simp (disch := omega) only [go_sem, pN_min, pN_max, w_u32, w_u64, Option.isNone_some, Option.isNone_none]; (try simp only [wrap_u32, wrap_u64]); rfl)) ?_ | fail)
  rw [Int.toNat_natCast] at hS
  refine pc_pithlaw08_answered (answered_ok (a := (t0, List.replicate n 1024)) (hS.fd2 (Dec g) (PSet p3)) hd (by show t0.b.length ≤ _; rw [htb1]; omega) (by omega) fun sy w hS => ?_)
  rw [b2] at hS ⊢
  dsimp only at hS ⊢
  rw [b3]
  have hdone : decide (t1.k = t1.b.length ∧ t1.C = 0) = true := decide_eq_true ⟨by rw [b3, b5], b4⟩
  repeat' (first | (refine pc_rcdec_Decoder_Done (Done_ok (hS.fd (Dec g)) ?_); clear hS; intro w hS; rw [hdone]) | (refine pN_neq_s ?_ ?_ <;> intro hc <;> try (exfalso; first | omega | exact hc rfl | exact hc (by assumption) | exact absurd hc (by assumption))) | refine pIf_f ?_ | refine pGd_go (by rfl) ?_ | refine pN_via (by (intro K; simp (disch := omega) only [go_sem, pN_min, pN_max, w_u32, w_u64, Option.isNone_some, Option.isNone_none]; (try simp only [wrap_u32, wrap_u64]); rfl)) ?_ | fail)
  have hS : Sat W w [rows cd_uint32 sx xs, rows cd_uint32 sy xs, old W] := hS.to
  refine ⟨fun v w => ∃ k : Nat, v = .int .i64 k ∧ k ≤ xs.length ∧ Sat W w [rows cd_uint32 sx xs, rows cd_uint32 sy xs, old W], fun v _ => xs.length - (RowKit.intOf v).toNat, ⟨0, rfl, Nat.zero_le _, hS⟩, ?_⟩
  clear hS
  rintro _ _ w ⟨k, rfl, hk, hS⟩
  by_cases hlt : k < xs.length
  · obtain ⟨y, hy⟩ : ∃ y, xs[k]? = some y := ⟨xs[k]'hlt, by simp⟩
    repeat' (first | (refine pN_lss_s ?_ ?_ <;> intro hc <;> try (exfalso; omega)) | (refine pA_neq_s ?_ ?_ <;> intro hc <;> try (exfalso; first | omega | exact hc rfl | exact hc (by assumption) | exact absurd hc (by assumption))) | refine pIf_t ?_ | refine pIf_f ?_ | refine pL_ld1 ha hS ?_ | (refine pDr_go hS ?_; clear hS; intro w hS) | refine pA_ixk hS _ (by first | rfl | (exact (Int.toNat_of_nonneg (by omega)).symm)) (by first | rfl | omega | simpa only [go_sem] using True.intro | (simp only [go_sem]; omega)) (by assumption) fun a ha hel => ?_ | refine pN_via (by (intro K; simp (disch := omega) only [go_sem, pN_min, pN_max, w_u32, w_u64, Option.isNone_some, Option.isNone_none]; (try simp only [wrap_u32, wrap_u64]); rfl)) ?_ | fail)
    exact ⟨⟨k + 1, rfl, by omega, hS.to⟩, by simp [RowKit.intOf] <;> omega⟩
  repeat' (first | (refine pN_lss_s ?_ ?_ <;> intro hc <;> try (exfalso; omega)) | refine pIf_f ?_ | fail)
  exact ⟨rfl, hS.to⟩

end Go.Proofs.Ytoejaggkedlfmaa
