/-
  The statement RcdecBegins, walked.
-/
import Derived.Test.YtoejaggkedlfmaaDecAns
namespace Go.Proofs.Ytoejaggkedlfmaa
open Go
set_option linter.unusedSimpArgs false
set_option linter.unnecessarySimpa false
set_option linter.unusedSectionVars false
set_option linter.unusedVariables false
attribute [local irreducible] oMv oV oU oCall oCallV oBi oBin oUn oLoad oStore oNil oFld oField oIdx oIndex oPick oAlloc oBox oBuild oBs oConv oMk oSl oExt oFn oIface oMap oLook oMapUp oRange oNext oAssert oPanic oRes pN pA pL pDr pIf gA pGd

theorem D.front_255 {b : List UInt8} {b1 : UInt8} (h1 : b[1]? = some b1) (hl : 5 ≤ b.length) (h : D.front b 4 = 4294967295) : b1 = 255 := by
  obtain ⟨b2, h2⟩ : ∃ x, b[2]? = some x := ⟨b[2]'(by omega), by simp⟩
  obtain ⟨b3, h3⟩ : ∃ x, b[3]? = some x := ⟨b[3]'(by omega), by simp⟩
  obtain ⟨b4, h4⟩ : ∃ x, b[4]? = some x := ⟨b[4]'(by omega), by simp⟩
  have e1 : D.front b 1 = D.front b 0 * 256 + (b1.toNat : Int) := D.front_succ b 0 h1
  have e2 : D.front b 2 = D.front b 1 * 256 + (b2.toNat : Int) := D.front_succ b 1 h2
  have e3 : D.front b 3 = D.front b 2 * 256 + (b3.toNat : Int) := D.front_succ b 2 h3
  have e4 : D.front b 4 = D.front b 3 * 256 + (b4.toNat : Int) := D.front_succ b 3 h4
  rw [D.front_0] at e1
  have l1 := b1.toNat_lt
  have l2 := b2.toNat_lt
  have l3 := b3.toNat_lt
  have l4 := b4.toNat_lt
  apply UInt8.toNat_inj.1
  have : ((255 : UInt8).toNat) = 255 := rfl
  omega
theorem D.start_2 {b : List UInt8} {b0 b1 : UInt8} (h0 : b[0]? = some b0) (h1 : b[1]? = some b1) (hl : 5 ≤ b.length) (h : D.start b = .no 2) : b0 ≠ 0 ∨ b1 = 255 := by
  rw [D.start, if_neg (by omega)] at h
  split at h
  · rename_i hc
    rcases hc with hc | hc
    · left
      intro e
      subst e
      exact hc h0
    · exact .inr (D.front_255 h1 hl hc)
  · cases h

set_option maxHeartbeats 8000000 in
theorem walk_RcdecBegins (W : World) (x0 : Sl × List UInt8) (x1 : Int) (x2 : T_pithlaw08_Plan) (k0 k1 k2 : Nat)
    (h0 : RdP cd_uint8 (old W) x0.1 x0.2 ∧ x0.2.length * 1 ≤ reachBytes ∧ x0.2.length + 1 ≤ k0 ∧ ∀ c ∈ x0.2, ∃ k, k ≤ k0 ∧ True) (h1 : -9223372036854775808 ≤ x1 ∧ x1 < 9223372036854775808) (h2 : x2.ok W k2) :
    Calls Try.prog 9 #[.slice x0.1.a x0.2.length x0.1.c, .int .i64 x1, .agg x2.enc.toArray] W fun e W' => e = .returned (.bool true) ∧ RowKit.Below W.heap.size W W' := by
  refine walk_end (pithlaw08_RcdecBegins.calls ?_)
  unfold pithlaw08_RcdecBegins.F
  obtain ⟨r0, s0, _, _⟩ := h0
  have hrb : reachBytes = 140737488351232 := rfl
  obtain ⟨b, l⟩ := x0
  obtain ⟨n, sq, qs⟩ := x2
  simp only [T_pithlaw08_Plan.ok] at h2
  obtain ⟨_, _, _, rq, lq, _⟩ := h2
  dsimp only at r0 s0 rq lq ⊢
  have hS := Sat.start W
  refine pN_bx (z := [.int .i64 n, .slice sq.a qs.length sq.c]) hS rfl fun bx w hS => ?_
  by_cases hn : 0 ≤ n ∧ n ≤ 64 ∧ 0 ≤ x1 ∧ x1 ≤ l.length
  rotate_left 1
  · repeat' (first | (refine pc_pithlaw08_known (known_ok hS ?_); clear hS; intro w hS) | ((first | refine pN_lss_s ?_ ?_ | refine pN_gtr_s ?_ ?_) <;> intro hc <;> try (exfalso; omega)) | refine pIf_t ?_ | refine pGd_go (by rfl) ?_ | refine pGd_no (by rfl) ?_ | refine pL_l hS (by first | rfl | assumption) ?_ | (refine pDr_go hS ?_; clear hS; intro w hS) | refine pN_via (by (intro K; simp (disch := omega) only [go_sem, pN_min, pN_max, w_u32, w_u64, Option.isNone_some, Option.isNone_none]; (try simp only [wrap_u32, wrap_u64]); rfl)) ?_ | refine pA_via (by (intro K; simp (disch := omega) only [go_sem, pN_min, pN_max, w_u32, w_u64, Option.isNone_some, Option.isNone_none]; (try simp only [wrap_u32, wrap_u64]); rfl)) ?_ | fail)
    all_goals exact ⟨rfl, hS.to⟩
  obtain ⟨n, rfl⟩ : ∃ m : Nat, n = m := ⟨n.toNat, by omega⟩
  obtain ⟨cut, rfl⟩ : ∃ m : Nat, x1 = m := ⟨x1.toNat, by omega⟩
  have htl : (l.take cut).length = cut := by rw [List.length_take]; omega
  by_cases h5 : cut < 5
  · have hst : D.start (l.take cut) = .no 1 := by rw [D.start, if_pos (by omega)]
    repeat' (first | ((first | refine pN_lss_s ?_ ?_ | refine pN_gtr_s ?_ ?_) <;> intro hc <;> try (exfalso; omega)) | refine pIf_f ?_ | refine pGd_go (by rfl) ?_ | refine pL_l hS (by first | rfl | assumption) ?_ | (refine pDr_go hS ?_; clear hS; intro w hS) | refine pN_via (by (intro K; simp (disch := omega) only [go_sem, pN_min, pN_max, w_u32, w_u64, Option.isNone_some, Option.isNone_none]; (try simp only [wrap_u32, wrap_u64]); rfl)) ?_ | refine pA_via (by (intro K; simp (disch := omega) only [go_sem, pN_min, pN_max, w_u32, w_u64, Option.isNone_some, Option.isNone_none]; (try simp only [wrap_u32, wrap_u64]); rfl)) ?_ | fail)
    refine pc_rcdec_New (DNew_ok hS (by omega) (fun t d w _ hS => ?_) fun e w _ hS => ?_)
    all_goals
      repeat' (first | refine pN_via (by (intro K; simp (disch := omega) only [go_sem, pN_min, pN_max, w_u32, w_u64, Option.isNone_some, Option.isNone_none]; (try simp only [wrap_u32, wrap_u64]); rfl)) ?_ | fail)
      refine pN_slh hS cut rfl rfl (by omega) fun s4 hp => ?_
      have hr4 : ∀ (L : List HA) [Rds cd_uint8 L b l], Rds cd_uint8 L s4 (l.take cut) := fun L h => hp.rd L h
      have hnew : ∀ {w : World} {L : List HA} {Q : Value → World → Prop} [Rds cd_uint8 L b l], Sat W w L → (∀ w, Sat W w L → Q (.tuple #[.pointer none, .int .i64 1]) w) → Calls Try.prog 42 #[.slice s4.a cut s4.c] w (retP Q) := fun {w L Q} _ hS hQ => by
        have := DNew_no (Q := Q) (s0 := s4) (l := l.take cut) hS (by omega) hst hQ
        rwa [htl] at this
      repeat' (first | refine pc_pithlaw08_num (num_ok _ (by omega) ?_) | (refine pc_rcdec_New (hnew hS ?_); clear hS; intro w hS) | (refine pN_lss_s ?_ ?_ <;> intro hc <;> try (exfalso; omega)) | (refine pN_eql_s ?_ ?_ <;> intro hc <;> try (exfalso; first | omega | exact hc rfl | exact hc (by assumption) | exact absurd hc (by assumption))) | refine pIf_t ?_ | refine pGd_go (by rfl) ?_ | refine pN_via (by (intro K; simp (disch := omega) only [go_sem, pN_min, pN_max, w_u32, w_u64, Option.isNone_some, Option.isNone_none]; (try simp only [wrap_u32, wrap_u64]); rfl)) ?_ | fail)
      exact ⟨rfl, hS.to⟩
  rcases hst : D.start (l.take cut) with ⟨t, u⟩ | e
  rotate_left 1
  · obtain ⟨hst2, rfl⟩ := D.start_no (by omega) hst
    obtain ⟨b0, hb0⟩ : ∃ x, l[0]? = some x := ⟨l[0]'(by omega), by simp⟩
    obtain ⟨b1, hb1⟩ : ∃ x, l[1]? = some x := ⟨l[1]'(by omega), by simp⟩
    have hor := D.start_2 hb0 hb1 (by omega) hst2
    have hbe : b0 = 0 ↔ (b0.toNat : Int) = ((0 : UInt8).toNat : Int) := ⟨fun e => by rw [e], fun e => UInt8.toNat_inj.1 (by omega)⟩
    have hb2 : b1 = 255 ↔ (b1.toNat : Int) = ((255 : UInt8).toNat : Int) := ⟨fun e => by rw [e], fun e => UInt8.toNat_inj.1 (by omega)⟩
    repeat' (first | ((first | refine pN_lss_s ?_ ?_ | refine pN_gtr_s ?_ ?_) <;> intro hc <;> try (exfalso; omega)) | refine pIf_f ?_ | refine pGd_go (by rfl) ?_ | refine pL_l hS (by first | rfl | assumption) ?_ | (refine pDr_go hS ?_; clear hS; intro w hS) | refine pN_via (by (intro K; simp (disch := omega) only [go_sem, pN_min, pN_max, w_u32, w_u64, Option.isNone_some, Option.isNone_none]; (try simp only [wrap_u32, wrap_u64]); rfl)) ?_ | refine pA_via (by (intro K; simp (disch := omega) only [go_sem, pN_min, pN_max, w_u32, w_u64, Option.isNone_some, Option.isNone_none]; (try simp only [wrap_u32, wrap_u64]); rfl)) ?_ | fail)
    refine pc_rcdec_New (DNew_no hS (by omega) hst2 fun w hS => ?_)
    repeat' (first | refine pN_via (by (intro K; simp (disch := omega) only [go_sem, pN_min, pN_max, w_u32, w_u64, Option.isNone_some, Option.isNone_none]; (try simp only [wrap_u32, wrap_u64]); rfl)) ?_ | fail)
    refine pN_slh hS cut rfl rfl (by omega) fun s4 hp => ?_
    have hr4 : ∀ (L : List HA) [Rds cd_uint8 L b l], Rds cd_uint8 L s4 (l.take cut) := fun L h => hp.rd L h
    have hnew : ∀ {w : World} {L : List HA} {Q : Value → World → Prop} [Rds cd_uint8 L b l], Sat W w L → (∀ w, Sat W w L → Q (.tuple #[.pointer none, .int .i64 2]) w) → Calls Try.prog 42 #[.slice s4.a cut s4.c] w (retP Q) := fun {w L Q} _ hS hQ => by
      have := DNew_no (Q := Q) (s0 := s4) (l := l.take cut) hS (by omega) hst hQ
      rwa [htl] at this
    repeat' (first | refine pc_pithlaw08_num (num_ok _ (by omega) ?_) | (refine pc_rcdec_New (hnew hS ?_); clear hS; intro w hS) | ((first | refine pN_eql_s ?_ ?_ | refine pN_neq_s ?_ ?_) <;> intro hc <;> try (exfalso; first | omega | exact hc rfl | exact hc (by assumption) | exact absurd hc (by assumption))) | refine pIf_t ?_ | refine pIf_f ?_ | refine pGd_go (by rfl) ?_ | refine pGd_no (by rfl) ?_ | refine pN_ld1 ha hS ?_ | refine pN_ixk hS _ (by first | rfl | (exact (Int.toNat_of_nonneg (by omega)).symm)) (by first | rfl | omega | simpa only [go_sem] using True.intro | (simp only [go_sem]; omega)) (by assumption) fun a ha hel => ?_ | refine pN_via (by (intro K; simp (disch := omega) only [go_sem, pN_min, pN_max, w_u32, w_u64, Option.isNone_some, Option.isNone_none]; (try simp only [wrap_u32, wrap_u64]); rfl)) ?_ | fail)
    · exact ⟨rfl, hS.to⟩
    · exfalso
      rcases hor with h | h
      · exact h (hbe.2 (by assumption))
      · exact hc (hb2.1 h)
    · exact ⟨rfl, hS.to⟩
  obtain ⟨t', hst2, hsim⟩ := D.start_sim hst
  obtain ⟨ho, htb, htk⟩ := D.start_ok hst
  obtain ⟨ho', htb', _⟩ := D.start_ok hst2
  repeat' (first | ((first | refine pN_lss_s ?_ ?_ | refine pN_gtr_s ?_ ?_) <;> intro hc <;> try (exfalso; omega)) | refine pIf_f ?_ | refine pGd_go (by rfl) ?_ | refine pL_l hS (by first | rfl | assumption) ?_ | (refine pDr_go hS ?_; clear hS; intro w hS) | refine pN_via (by (intro K; simp (disch := omega) only [go_sem, pN_min, pN_max, w_u32, w_u64, Option.isNone_some, Option.isNone_none]; (try simp only [wrap_u32, wrap_u64]); rfl)) ?_ | refine pA_via (by (intro K; simp (disch := omega) only [go_sem, pN_min, pN_max, w_u32, w_u64, Option.isNone_some, Option.isNone_none]; (try simp only [wrap_u32, wrap_u64]); rfl)) ?_ | fail)
  refine pc_rcdec_New (DNew_in hS (by omega) hst2 fun d w hS => ?_)
  repeat' (first | refine pN_via (by (intro K; simp (disch := omega) only [go_sem, pN_min, pN_max, w_u32, w_u64, Option.isNone_some, Option.isNone_none]; (try simp only [wrap_u32, wrap_u64]); rfl)) ?_ | fail)
  refine pN_slh hS cut rfl rfl (by omega) fun s4 hp => ?_
  have hr4 : ∀ (L : List HA) [Rds cd_uint8 L b l], Rds cd_uint8 L s4 (l.take cut) := fun L h => hp.rd L h
  have hnew : ∀ {w : World} {L : List HA} {Q : Value → World → Prop} [Rds cd_uint8 L b l], Sat W w L → (∀ c w, Sat W w (Dec c t :: L) → Q (.tuple #[.pointer (some ⟨c, 0, none⟩), .int .i64 0]) w) → Calls Try.prog 42 #[.slice s4.a cut s4.c] w (retP Q) := fun {w L Q} _ hS hQ => by
    have := DNew_in (Q := Q) (s0 := s4) (l := l.take cut) hS (by omega) hst hQ
    rwa [htl] at this
  repeat' (first | refine pc_pithlaw08_num (num_ok _ (by omega) ?_) | (refine pc_rcdec_New (hnew hS ?_); clear hS; intro c w hS) | ((first | refine pN_eql_s ?_ ?_ | refine pN_neq_s ?_ ?_) <;> intro hc <;> try (exfalso; first | omega | exact hc rfl | exact hc (by assumption) | exact absurd hc (by assumption))) | refine pIf_f ?_ | refine pGd_go (by rfl) ?_ | refine pN_via (by (intro K; simp (disch := omega) only [go_sem, pN_min, pN_max, w_u32, w_u64, Option.isNone_some, Option.isNone_none]; (try simp only [wrap_u32, wrap_u64]); rfl)) ?_ | fail)
  refine pc_prob_New (New_ok hS n (by omega) (by omega) fun p w hS => ?_)
  repeat' (first | refine pN_via (by (intro K; simp (disch := omega) only [go_sem, pN_min, pN_max, w_u32, w_u64, Option.isNone_some, Option.isNone_none]; (try simp only [wrap_u32, wrap_u64]); rfl)) ?_ | fail)
  refine pc_prob_New (New_ok hS n (by omega) (by omega) fun q w hS => ?_)
  rw [Int.toNat_natCast] at hS
  repeat' (first | refine pc_pithlaw08_num (num_ok _ (by omega) ?_) | (refine pN_neq_s ?_ ?_ <;> intro hc <;> try (exfalso; first | omega | exact hc rfl | exact hc (by assumption) | exact absurd hc (by assumption))) | refine pIf_f ?_ | refine pGd_go (by rfl) ?_ | refine pN_via (by (intro K; simp (disch := omega) only [go_sem, pN_min, pN_max, w_u32, w_u64, Option.isNone_some, Option.isNone_none]; (try simp only [wrap_u32, wrap_u64]); rfl)) ?_ | fail)
  have hac : D.AOk (t, List.replicate n 1024) := ⟨ho, B.Fine.new n⟩
  have had : D.AOk (t', List.replicate n 1024) := ⟨ho', B.Fine.new n⟩
  obtain ⟨hrc, hrs⟩ := hac.run qs
  obtain ⟨r, hr⟩ := D.Sim.run qs (c := (t, List.replicate n 1024)) (d := (t', List.replicate n 1024)) hsim rfl
  have hend := fun {q : T_pithlaw08_Ask} => D.run_end qs (t, List.replicate n 1024) (q := q)
  have hlen := D.run_len qs (t, List.replicate n 1024)
  have hlen2 := D.run_len qs (t', List.replicate n 1024)
  refine pc_pithlaw08_answered (answered_ok (a := (t, List.replicate n 1024)) (hS.fd2 (Dec c) (PSet q)) hac (by show t.b.length ≤ _; rw [htb]; omega) (by omega) fun sx w hS => ?_)
  repeat' (first | refine pN_via (by (intro K; simp (disch := omega) only [go_sem, pN_min, pN_max, w_u32, w_u64, Option.isNone_some, Option.isNone_none]; (try simp only [wrap_u32, wrap_u64]); rfl)) ?_ | fail)
  refine pc_pithlaw08_answered (answered_ok (a := (t', List.replicate n 1024)) (hS.fd2 (Dec d) (PSet p)) had (by show t'.b.length ≤ _; rw [htb']; omega) (by omega) fun sy w hS => ?_)
  have hk := hrc.s.k
  rw [hrs.b] at hk
  have hk : (D.run (t, List.replicate n 1024) qs).2.1.k ≤ cut := by
    have e : t.b.length = cut := by rw [htb]; exact htl
    exact Nat.le_trans hk (Nat.le_of_eq e)
  generalize D.run (t', List.replicate n 1024) qs = rd at hS hr hlen2 ⊢
  generalize hrun : D.run (t, List.replicate n 1024) qs = rc at hS hr hend hlen hrc hrs hk ⊢
  obtain ⟨ys, zd⟩ := rd
  obtain ⟨xs, zc⟩ := rc
  dsimp only at hS hr hend hlen hrc hrs hk hlen2 ⊢
  subst hr
  have hxl : (xs ++ r).length = xs.length + r.length := List.length_append
  rw [hxl] at hlen2 ⊢
  repeat' (first | (refine pN_gtr_s ?_ ?_ <;> intro hc <;> try (exfalso; omega)) | refine pIf_f ?_ | refine pN_via (by (intro K; simp (disch := omega) only [go_sem, pN_min, pN_max, w_u32, w_u64, Option.isNone_some, Option.isNone_none]; (try simp only [wrap_u32, wrap_u64]); rfl)) ?_ | fail)
  have hS : Sat W w [rows cd_uint32 sx xs, rows cd_uint32 sy (xs ++ r), Dec c zc.1, PSet q zc.2, cel bx ⟨98, [.int .i64 n, .slice sq.a qs.length sq.c]⟩, old W] := hS.to
  refine ⟨fun v w => ∃ j : Nat, v = .int .i64 j ∧ j ≤ xs.length ∧ Sat W w [rows cd_uint32 sx xs, rows cd_uint32 sy (xs ++ r), Dec c zc.1, PSet q zc.2, cel bx ⟨98, [.int .i64 n, .slice sq.a qs.length sq.c]⟩, old W], fun v _ => xs.length - (RowKit.intOf v).toNat, ⟨0, rfl, Nat.zero_le _, hS⟩, ?_⟩
  clear hS
  rintro _ _ w ⟨j, rfl, hj, hS⟩
  by_cases hlt : j < xs.length
  · obtain ⟨y, hy⟩ : ∃ y, xs[j]? = some y := ⟨xs[j]'hlt, by simp⟩
    have hy2 : (xs ++ r)[j]? = some y := by rw [List.getElem?_append_left hlt]; exact hy
    repeat' (first | (refine pN_lss_s ?_ ?_ <;> intro hc <;> try (exfalso; omega)) | (refine pA_neq_s ?_ ?_ <;> intro hc <;> try (exfalso; first | omega | exact hc rfl | exact hc (by assumption) | exact absurd hc (by assumption))) | refine pIf_t ?_ | refine pIf_f ?_ | refine pL_ld1 ha hS ?_ | (refine pDr_go hS ?_; clear hS; intro w hS) | refine pA_ixk hS _ (by first | rfl | (exact (Int.toNat_of_nonneg (by omega)).symm)) (by first | rfl | omega | simpa only [go_sem] using True.intro | (simp only [go_sem]; omega)) (by assumption) fun a ha hel => ?_ | refine pN_via (by (intro K; simp (disch := omega) only [go_sem, pN_min, pN_max, w_u32, w_u64, Option.isNone_some, Option.isNone_none]; (try simp only [wrap_u32, wrap_u64]); rfl)) ?_ | fail)
    exact ⟨⟨j + 1, rfl, by omega, hS.to⟩, by simp [RowKit.intOf] <;> omega⟩
  by_cases hall : xs.length = qs.length
  · repeat' (first | (refine pN_lss_s ?_ ?_ <;> intro hc <;> try (exfalso; omega)) | (refine pN_eql_s ?_ ?_ <;> intro hc <;> try (exfalso; first | omega | exact hc rfl | exact hc (by assumption) | exact absurd hc (by assumption))) | refine pIf_t ?_ | refine pIf_f ?_ | refine pN_via (by (intro K; simp (disch := omega) only [go_sem, pN_min, pN_max, w_u32, w_u64, Option.isNone_some, Option.isNone_none]; (try simp only [wrap_u32, wrap_u64]); rfl)) ?_ | fail)
    exact ⟨rfl, hS.to⟩
  obtain ⟨y, hy⟩ : ∃ y, qs[xs.length]? = some y := ⟨qs[xs.length]'(by omega), by simp⟩
  have hnone := hend hy
  obtain ⟨dir, ai, an, av⟩ := y
  have hrun1 : D.run zc [⟨dir, ai, an, av⟩] = ([], zc) := by rw [D.run, hnone]
  repeat' (first | (refine pN_lss_s ?_ ?_ <;> intro hc <;> try (exfalso; omega)) | (refine pN_eql_s ?_ ?_ <;> intro hc <;> try (exfalso; first | omega | exact hc rfl | exact hc (by assumption) | exact absurd hc (by assumption))) | refine pIf_f ?_ | refine pN_l hS (by first | rfl | assumption) ?_ | refine pN_ld_at ha hS (by rfl) ?_ | (refine pN_sa hS (by rfl) (by rfl) (by rfl) ?_; clear hS; intro w hS; try dsimp only at hS) | (refine pN_nz hS ?_; clear hS; intro a w hS) | refine pN_ixk hS _ (by first | rfl | (exact (Int.toNat_of_nonneg (by omega)).symm)) (by first | rfl | omega | simpa only [go_sem] using True.intro | (simp only [go_sem]; omega)) (by assumption) fun a ha hel => ?_ | refine pN_via (by (intro K; simp (disch := omega) only [go_sem, pN_min, pN_max, w_u32, w_u64, Option.isNone_some, Option.isNone_none]; (try simp only [wrap_u32, wrap_u64]); rfl)) ?_ | fail)
  refine pc_prob_Set_At (At_ok (hS.fd (PSet q)) ai fun w hS => ?_)
  repeat' (first | (refine pN_b1 (x := (⟨dir, ai, an, av⟩ : T_pithlaw08_Ask)) hS (by rfl) (by decide) ?_; clear hS; intro s w hS) | refine pN_la hS (by rfl) ?_ | refine pN_via (by (intro K; simp (disch := omega) only [go_sem, pN_min, pN_max, w_u32, w_u64, Option.isNone_some, Option.isNone_none]; (try simp only [wrap_u32, wrap_u64]); rfl)) ?_ | fail)
  refine pc_pithlaw08_answered (answered_ok (a := zc) (qs := [⟨dir, ai, an, av⟩]) (hS.fd2 (Dec c) (PSet q)) hrc (by rw [hrs.b]; show t.b.length ≤ _; rw [htb]; omega) (Nat.le_of_ble_eq_true rfl) fun s2 w hS => ?_)
  rw [hrun1] at hS ⊢
  dsimp only at hS ⊢
  repeat' (first | (refine pc_prob_Set_At (At_ok (hS.fd (PSet q)) ai ?_); clear hS; intro w hS) | (refine pN_leq_s ?_ ?_ <;> intro hc <;> try (exfalso; omega)) | (refine pN_eql_s ?_ ?_ <;> intro hc <;> try (exfalso; first | omega | exact hc rfl | exact hc (by assumption) | exact absurd hc (by assumption))) | refine pGd_go (by rfl) ?_ | refine pN_l hS (by first | rfl | assumption) ?_ | refine pN_via (by (intro K; simp (disch := omega) only [go_sem, pN_min, pN_max, w_u32, w_u64, Option.isNone_some, Option.isNone_none]; (try simp only [wrap_u32, wrap_u64]); rfl)) ?_ | fail)
  exact ⟨rfl, hS.to⟩

end Go.Proofs.Ytoejaggkedlfmaa
