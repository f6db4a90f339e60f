/-
  The statement RcdecBack, walked.
-/
import Derived.Test.YtoejaggkedlfmaaDecEnc
namespace Go.Proofs.Ytoejaggkedlfmaa
open Go
set_option linter.unusedSimpArgs false
set_option linter.unnecessarySimpa false
set_option linter.unusedSectionVars false
set_option linter.unusedVariables false
attribute [local irreducible] oMv oV oU oCall oCallV oBi oBin oUn oLoad oStore oNil oFld oField oIdx oIndex oPick oAlloc oBox oBuild oBs oConv oMk oSl oExt oFn oIface oMap oLook oMapUp oRange oNext oAssert oPanic oRes pN pA pL pDr pIf gA pGd

namespace D
theorem ask_dir {z z' : A} {i n x v : Int} (h : ask z ⟨true, i, n, x⟩ = some (z', v)) : z.1.dirQ n = (z'.1, v, 0) ∧ z'.2 = z.2 := by
  simp only [ask, if_true] at h
  split at h
  · rename_i h0
    cases h
    exact ⟨Prod.ext rfl (Prod.ext rfl h0), rfl⟩
  · cases h
theorem ask_bit {z z' : A} {i n x v : Int} (h : ask z ⟨false, i, n, x⟩ = some (z', v)) : z.1.bitQ z.2 i = (z'.1, z'.2, v, 0) := by
  simp only [ask, Bool.false_eq_true, if_false] at h
  split at h
  · rename_i h0
    cases h
    exact Prod.ext rfl (Prod.ext rfl (Prod.ext rfl h0))
  · cases h
/-- The next of the questions that are all answered. -/
theorem run_step {qs : List T_pithlaw08_Ask} {k : Nat} {z fin : A} {q : T_pithlaw08_Ask} (hq : qs[k]? = some q) (h : run z (qs.drop k) = ((qs.drop k).map R.told, fin)) :
    ∃ z', ask z q = some (z', R.told q) ∧ run z' (qs.drop (k + 1)) = ((qs.drop (k + 1)).map R.told, fin) := by
  have hlt := (List.getElem?_eq_some_iff.1 hq).1
  have hq' := (List.getElem?_eq_some_iff.1 hq).2
  rw [List.drop_eq_getElem_cons hlt, hq', run, List.map_cons] at h
  cases e : ask z q with
  | none => rw [e] at h; simp at h
  | some zv =>
    obtain ⟨z', v⟩ := zv
    rw [e] at h
    simp only [Prod.mk.injEq, List.cons.injEq] at h
    exact ⟨z', by rw [h.1.1], Prod.ext h.1.2 h.2⟩
end D

/-- Slices, as values of rows. -/
def cdSl : Cd (Sl × Nat) := { e := 29, size := 1, bytes := 24, zero := (⟨none, 0⟩, 0), enc := fun x => [.slice x.1.a x.2 x.1.c], len := fun _ => rfl, one := by intro b u hu; simp only [List.mem_cons, List.not_mem_nil, or_false] at hu; subst hu; rfl }
instance btSl : Bt cdSl 24 := ⟨rfl⟩
instance rowSl : Row Try.prog 120 (Sl × Nat) cdSl := ⟨⟨(.slice none 0 0), ⟨Try.underlying120, info_parts (by kernel_rfl), rfl, by decide⟩, rfl⟩, by decide⟩

set_option maxHeartbeats 8000000 in
theorem walk_RcdecBack (W : World) (x0 : Int) (x1 : Sl × List T_pithlaw08_Ask) (x2 : Sl × List UInt8) (k0 k1 k2 : Nat)
    (h0 : -9223372036854775808 ≤ x0 ∧ x0 < 9223372036854775808)
    (h1 : RdP cd_pithlaw08_Ask (old W) x1.1 x1.2 ∧ x1.2.length * 32 ≤ reachBytes ∧ x1.2.length + 1 ≤ k1 ∧ ∀ c ∈ x1.2, ∃ k, k ≤ k1 ∧ c.ok W k)
    (h2 : RdP cd_uint8 (old W) x2.1 x2.2 ∧ x2.2.length * 1 ≤ reachBytes ∧ x2.2.length + 1 ≤ k2 ∧ ∀ c ∈ x2.2, ∃ k, k ≤ k2 ∧ True) :
    Calls Try.prog 14 #[.int .i64 x0, .slice x1.1.a x1.2.length x1.1.c, .slice x2.1.a x2.2.length x2.1.c] W fun e W' => e = .returned (.bool true) ∧ RowKit.Below W.heap.size W W' := by
  refine walk_end (pithlaw08_RcdecBack.calls ?_)
  unfold pithlaw08_RcdecBack.F
  obtain ⟨r1, s1, _, o1⟩ := h1
  obtain ⟨r2, s2, _, _⟩ := h2
  have hrb : reachBytes = 140737488351232 := rfl
  obtain ⟨sq, qs⟩ := x1
  obtain ⟨tb, tl⟩ := x2
  dsimp only at r1 s1 o1 r2 s2 ⊢
  have hS := Sat.start W
  by_cases hn : 0 ≤ x0 ∧ x0 ≤ 64
  rotate_left 1
  · repeat' (first | (refine pc_pithlaw08_known (known_ok hS ?_); clear hS; intro w hS) | ((first | refine pN_lss_s ?_ ?_ | refine pN_gtr_s ?_ ?_) <;> intro hc <;> try (exfalso; omega)) | refine pIf_t ?_ | refine pGd_go (by rfl) ?_ | refine pGd_no (by rfl) ?_ | refine pN_via (by (intro K; simp (disch := omega) only [go_sem, pN_min, pN_max, w_u32, w_u64, Option.isNone_some, Option.isNone_none]; (try simp only [wrap_u32, wrap_u64]); rfl)) ?_ | fail)
    all_goals exact ⟨rfl, hS⟩
  obtain ⟨n, rfl⟩ : ∃ n : Nat, x0 = n := ⟨x0.toNat, by omega⟩
  have hval : ∀ q ∈ qs, 0 ≤ q.V ∧ q.V < 4294967296 := fun q hq => by
    obtain ⟨k, _, ho⟩ := o1 q hq
    simp only [T_pithlaw08_Ask.ok] at ho
    omega
  have hmay : ∀ q ∈ qs.filter (R.may n), R.may n q = true := fun q h => (List.mem_filter.1 h).2
  have hval2 : ∀ q ∈ qs.filter (R.may n), 0 ≤ q.V ∧ q.V < 4294967296 := fun q h => hval q (List.mem_filter.1 h).1
  have hfl : (qs.filter (R.may n)).length ≤ qs.length := List.length_filter_le _ _
  obtain ⟨hfo, hfk, hfll⟩ := R.TS.run_new (n := n) hmay
  have hbl : ((R.TS.new n).run (qs.filter (R.may n))).s.bytes.length = ((R.TS.new n).run (qs.filter (R.may n))).s.k + 5 := R.digits_length _ _
  have hback : ∀ more : List UInt8, ∃ d t, D.start (((R.TS.new n).run (qs.filter (R.may n))).s.bytes ++ more) = .ok d () ∧ D.run (d, List.replicate n 1024) (qs.filter (R.may n)) = ((qs.filter (R.may n)).map R.told, (t, ((R.TS.new n).run (qs.filter (R.may n))).l)) ∧
      t.k = ((R.TS.new n).run (qs.filter (R.may n))).s.bytes.length ∧ t.C = 0 ∧ t.b = ((R.TS.new n).run (qs.filter (R.may n))).s.bytes ++ more := D.back hmay
  repeat' (first | (refine pc_pithlaw08_encoded (encoded_ok n (by omega) hS (by omega) hval ?_); clear hS; intro sb sa p w hS) | ((first | refine pN_lss_s ?_ ?_ | refine pN_gtr_s ?_ ?_) <;> intro hc <;> try (exfalso; omega)) | refine pIf_f ?_ | refine pGd_go (by rfl) ?_ | refine pN_via (by (intro K; simp (disch := omega) only [go_sem, pN_min, pN_max, w_u32, w_u64, Option.isNone_some, Option.isNone_none]; (try simp only [wrap_u32, wrap_u64]); rfl)) ?_ | fail)
  generalize (qs.filter (R.may n)) = ls at *
  generalize hfe : (R.TS.new n).run ls = fe at *
  have hS : Sat W w [rows cd_uint8 sb fe.s.bytes, rows cd_pithlaw08_Ask sa ls, PSet p fe.l, old W] := hS.to
  skip
  refine pN_bl (C := cdSl) [.slice none 0 0, .slice tb.a tl.length tb.c] [(⟨none, 0⟩, 0), (tb, tl.length)] rfl rfl rfl (Nat.le_of_ble_eq_true rfl) hS (Nat.le_of_ble_eq_true rfl) fun sR w hS => ?_
  repeat' (first | refine pN_via (by (intro K; simp (disch := omega) only [go_sem, pN_min, pN_max, w_u32, w_u64, Option.isNone_some, Option.isNone_none]; (try simp only [wrap_u32, wrap_u64]); rfl)) ?_ | fail)
  obtain ⟨pr, hpr⟩ : ∃ r : List (Sl × Nat), r = [(⟨none, 0⟩, 0), (tb, tl.length)] := ⟨_, rfl⟩
  have hrow : ∀ i : Nat, i < 2 → ∃ (sm : Sl) (m : List UInt8), pr[i]? = some (sm, m.length) ∧ RdP cd_uint8 (old W) sm m ∧ m.length ≤ 140737488351232 := fun i hi => by
    subst hpr
    match i, hi with
    | 0, _ => exact ⟨⟨none, 0⟩, [], rfl, ⟨fun _ _ => Rd.nil⟩, Nat.zero_le _⟩
    | 1, _ => exact ⟨tb, tl, rfl, r2, by omega⟩
  have hprl : pr.length = 2 := by rw [hpr]; rfl
  rw [← hpr] at hS ⊢
  clear hpr
  have hS : Sat W w [rows cdSl sR pr, rows cd_uint8 sb fe.s.bytes, rows cd_pithlaw08_Ask sa ls, PSet p fe.l, old W] := hS
  refine ⟨fun v w => ∃ i : Nat, v = .int .i64 i ∧ i ≤ 2 ∧ Sat W w [rows cdSl sR pr, rows cd_uint8 sb fe.s.bytes, rows cd_pithlaw08_Ask sa ls, PSet p fe.l, old W], fun v _ => 2 - (RowKit.intOf v).toNat, ⟨0, rfl, Nat.zero_le _, hS⟩, ?_⟩
  clear hS
  rintro _ _ w ⟨i, rfl, hi, hS⟩
  by_cases hlt : i < 2
  rotate_left 1
  · repeat' (first | (refine pc_pithlaw08_known (known_ok hS ?_); clear hS; intro w hS) | (refine pN_lss_s ?_ ?_ <;> intro hc <;> try (exfalso; omega)) | refine pIf_f ?_ | fail)
    exact ⟨rfl, hS.to⟩
  obtain ⟨sm, m, hrw, hrm, hml⟩ := hrow i hlt
  obtain ⟨t0, t1, b1, b2, b3, b4, b5⟩ := hback m
  obtain ⟨ho1, htb1, _⟩ := D.start_ok b1
  repeat' (first | (refine pN_lss_s ?_ ?_ <;> intro hc <;> try (exfalso; omega)) | refine pIf_t ?_ | refine pN_ld1 ha hS ?_ | refine pN_ixk hS _ (by first | rfl | (exact (Int.toNat_of_nonneg (by omega)).symm)) (by first | rfl | omega | simpa only [go_sem] using True.intro | (simp only [go_sem]; omega)) (by assumption) fun a ha hel => ?_ | (refine pN_b0 hS ?_; clear hS; intro s w hS) | (refine pN_app hS (by first | rfl | omega | simpa only [go_sem] using True.intro | (simp only [go_sem]; omega)) (by first | rfl | omega | simpa only [go_sem] using True.intro | (simp only [go_sem]; omega)) (by first | omega | (simp only [go_sem]; omega)) ?_; clear hS; intro s w hS) | fail)
  rw [List.nil_append] at *
  have hbm : (fe.s.bytes ++ m).length = fe.s.bytes.length + m.length := List.length_append
  repeat' (first | (refine pN_appw hS rfl rfl (by omega) ?_; clear hS; intro s2 w hS) | refine pc_pithlaw08_num (num_ok _ (by omega) ?_) | (refine pc_rcdec_New (DNew_in hS (by omega) b1 ?_); clear hS; intro d w hS) | (refine pc_prob_New (New_ok hS n (by omega) (by omega) ?_); clear hS; intro t w hS) | (refine pN_neq_s ?_ ?_ <;> intro hc <;> try (exfalso; first | omega | exact hc rfl | exact hc (by assumption) | exact absurd hc (by assumption))) | refine pIf_f ?_ | refine pGd_go (by rfl) ?_ | refine pN_via (by (intro K; simp (disch := omega) only [go_sem, pN_min, pN_max, w_u32, w_u64, Option.isNone_some, Option.isNone_none]; (try simp only [wrap_u32, wrap_u64]); rfl)) ?_ | fail)
  rw [Int.toNat_natCast] at hS
  have hz0 : D.AOk (t0, List.replicate n 1024) := ⟨ho1, B.Fine.new n⟩
  have hS : Sat W w [Dec d t0, PSet t (List.replicate n 1024), rows cdSl sR pr, rows cd_uint8 sb fe.s.bytes, rows cd_pithlaw08_Ask sa ls, PSet p fe.l, old W] := hS.to
  refine ⟨fun v w => ∃ (k : Nat) (z : D.A), v = .int .i64 k ∧ k ≤ ls.length ∧ D.AOk z ∧ z.1.b = fe.s.bytes ++ m ∧ D.run z (ls.drop k) = ((ls.drop k).map R.told, (t1, fe.l)) ∧ Sat W w [Dec d z.1, PSet t z.2, rows cdSl sR pr, rows cd_uint8 sb fe.s.bytes, rows cd_pithlaw08_Ask sa ls, PSet p fe.l, old W], fun v _ => ls.length - (RowKit.intOf v).toNat, ⟨0, (t0, List.replicate n 1024), rfl, Nat.zero_le _, hz0, htb1, b2, hS⟩, ?_⟩
  clear hS hz0
  rintro _ _ w ⟨k, z, rfl, hk, hz, hzb, hrun, hS⟩
  have hzl : z.1.b.length ≤ 225000000000000 := by rw [hzb]; omega
  by_cases hkl : k < ls.length
  · obtain ⟨q, hq⟩ : ∃ q, ls[k]? = some q := ⟨ls[k]'hkl, by simp [hkl]⟩
    obtain ⟨z', hask, hrun2⟩ := D.run_step hq hrun
    obtain ⟨hz2, hsm⟩ := hz.ask hask
    have hqv := hval2 q (List.mem_of_getElem? hq)
    have hqm := hmay q (List.mem_of_getElem? hq)
    obtain ⟨dir, ai, an, av⟩ := q
    dsimp only at hqv
    repeat' (first | (refine pN_lss_s ?_ ?_ <;> intro hc <;> try (exfalso; omega)) | refine pIf_t ?_ | fail)
    refine ⟨fun w => Sat W w [Dec d z'.1, PSet t z'.2, rows cdSl sR pr, rows cd_uint8 sb fe.s.bytes, rows cd_pithlaw08_Ask sa ls, PSet p fe.l, old W], ?_, ?_⟩
    rotate_left 1
    · clear hS
      intro _ w hS
      repeat' (first | refine pN_via (by (intro K; simp (disch := omega) only [go_sem, pN_min, pN_max, w_u32, w_u64, Option.isNone_some, Option.isNone_none]; (try simp only [wrap_u32, wrap_u64]); rfl)) ?_ | fail)
      exact ⟨⟨k + 1, z', rfl, by omega, hz2, hsm.b.trans hzb, hrun2, hS⟩, by simp [RowKit.intOf] <;> omega⟩
    repeat' (first | refine pN_ld_at ha hS (by rfl) ?_ | (refine pN_sa hS (by rfl) (by rfl) (by rfl) ?_; clear hS; intro w hS; try dsimp only at hS) | (refine pN_nz hS ?_; clear hS; intro a w hS) | refine pN_ixk hS _ (by first | rfl | (exact (Int.toNat_of_nonneg (by omega)).symm)) (by first | rfl | omega | simpa only [go_sem] using True.intro | (simp only [go_sem]; omega)) (by assumption) fun a ha hel => ?_ | fail)
    have hS : Sat W w (cel a ⟨87, [.bool dir, .int .i64 ai, .int .i64 an, .int .u32 av]⟩ :: [Dec d z.1, PSet t z.2, rows cdSl sR pr, rows cd_uint8 sb fe.s.bytes, rows cd_pithlaw08_Ask sa ls, PSet p fe.l, old W]) := hS
    refine ⟨fun v b g w => ∃ j : Nat, v = .int .u32 (R.told ⟨dir, ai, an, av⟩) ∧ b = .int .i64 j ∧ j ≤ 32 ∧ R.told ⟨dir, ai, an, av⟩ = av % 2 ^ j ∧ g = .int .i64 0 ∧ Sat W w (cel a ⟨87, [.bool dir, .int .i64 ai, .int .i64 an, .int .u32 av]⟩ :: [Dec d z'.1, PSet t z'.2, rows cdSl sR pr, rows cd_uint8 sb fe.s.bytes, rows cd_pithlaw08_Ask sa ls, PSet p fe.l, old W]), ?_, ?_⟩
    · rcases dir with _ | _
      · have hd := D.ask_bit hask
        have ht : R.told ⟨false, ai, an, av⟩ = av % 2 := rfl
        repeat' (first | (refine pc_rcdec_Decoder_Bit (DBit_q (hS.fd2 (Dec d) (PSet t)) hz.s hz.f hzl ai ?_); clear hS; intro w hS; rw [hd] at hS ⊢; dsimp only at hS ⊢) | refine pIf_f ?_ | refine pN_l hS (by first | rfl | assumption) ?_ | refine pN_via (by (intro K; simp (disch := omega) only [go_sem, pN_min, pN_max, w_u32, w_u64, Option.isNone_some, Option.isNone_none]; (try simp only [wrap_u32, wrap_u64]); rfl)) ?_ | fail)
        exact ⟨1, rfl, rfl, by omega, by rw [ht, Int.pow_succ, Int.pow_zero, Int.one_mul], rfl, hS.to⟩
      · have hd := D.ask_dir hask
        have ht : R.told ⟨true, ai, an, av⟩ = av % 2 ^ an.toNat := rfl
        repeat' (first | (refine pc_rcdec_Decoder_Direct (DDirect_q (hS.fd (Dec d)) hz.s hzl an ?_); clear hS; intro w hS; rw [hd.1] at hS ⊢; dsimp only at hS ⊢) | refine pIf_t ?_ | refine pN_l hS (by first | rfl | assumption) ?_ | refine pN_via (by (intro K; simp (disch := omega) only [go_sem, pN_min, pN_max, w_u32, w_u64, Option.isNone_some, Option.isNone_none]; (try simp only [wrap_u32, wrap_u64]); rfl)) ?_ | fail)
        have ha : 0 ≤ an ∧ an ≤ 32 := of_decide_eq_true hqm
        exact ⟨an.toNat, rfl, by rw [Int.toNat_of_nonneg ha.1], by omega, ht, rfl, by rw [hd.2]; exact hS.to⟩
    clear hS
    rintro _ _ _ _ w ⟨j, rfl, rfl, hj, hjt, rfl, hS⟩
    repeat' (first | refine pc_pithlaw08_num (num_ok _ (by omega) ?_) | refine pc_pithlaw08_low (low_ok _ _ hqv.1 hqv.2 (by omega) (by omega) ?_) | (refine pN_neq_s ?_ ?_ <;> intro hc <;> try (exfalso; first | omega | exact hc rfl | exact hc (by assumption) | exact absurd hc (by assumption))) | refine pIf_f ?_ | refine pGd_go (by rfl) ?_ | refine pN_l hS (by first | rfl | assumption) ?_ | refine pN_via (by (intro K; simp (disch := omega) only [go_sem, pN_min, pN_max, w_u32, w_u64, Option.isNone_some, Option.isNone_none]; (try simp only [wrap_u32, wrap_u64]); rfl)) ?_ | fail)
    all_goals rw [Int.toNat_natCast] at hc
    · exact hS.to
    all_goals exact absurd hjt hc
  obtain rfl : k = ls.length := by omega
  rw [List.drop_length, D.run, List.map_nil] at hrun
  obtain rfl : z = (t1, fe.l) := congrArg Prod.snd hrun
  dsimp only at hS hzl
  have htl : t1.b.length = fe.s.bytes.length + m.length := by rw [b5, List.length_append]
  by_cases hm0 : m.length = 0
  · have hdone : decide (t1.k = t1.b.length ∧ t1.C = 0) = true := decide_eq_true ⟨by omega, b4⟩
    repeat' (first | (refine pc_rcdec_Decoder_Used (Used_ok (hS.fd (Dec d)) ?_); clear hS; intro w hS; rw [b3]) | (refine pc_rcdec_Decoder_Done (Done_ok (hS.fd (Dec d)) ?_); clear hS; intro w hS; rw [hdone]) | ((first | refine pN_lss_s ?_ ?_ | refine pN_gtr_s ?_ ?_) <;> intro hc <;> try (exfalso; omega)) | ((first | refine pN_eql_s ?_ ?_ | refine pN_neq_s ?_ ?_) <;> intro hc <;> try (exfalso; first | omega | exact hc rfl | exact hc (by assumption) | exact absurd hc (by assumption))) | refine pIf_f ?_ | refine pGd_go (by rfl) ?_ | refine pGd_no (by rfl) ?_ | refine pN_via (by (intro K; simp (disch := omega) only [go_sem, pN_min, pN_max, w_u32, w_u64, Option.isNone_some, Option.isNone_none]; (try simp only [wrap_u32, wrap_u64]); rfl)) ?_ | fail)
    have hS : Sat W w [PSet p fe.l, PSet t fe.l, rows cdSl sR pr, rows cd_uint8 sb fe.s.bytes, rows cd_pithlaw08_Ask sa ls, old W] := hS.to
    refine ⟨fun v w => ∃ k : Nat, v = .int .i64 k ∧ k ≤ n ∧ Sat W w [PSet p fe.l, PSet t fe.l, rows cdSl sR pr, rows cd_uint8 sb fe.s.bytes, rows cd_pithlaw08_Ask sa ls, old W], fun v _ => n - (RowKit.intOf v).toNat, ⟨0, rfl, Nat.zero_le _, hS⟩, ?_⟩
    clear hS
    rintro _ _ w ⟨k, rfl, hk, hS⟩
    by_cases hkn : k < n
    · obtain ⟨x, hx⟩ : ∃ x, fe.l[(k : Int).toNat]? = some x := ⟨fe.l[k]'(by omega), by simp⟩
      have hk0 : (0 : Int) ≤ (k : Int) := Int.natCast_nonneg k
      repeat' (first | (refine pN_lss_s ?_ ?_ <;> intro hc <;> try (exfalso; omega)) | refine pIf_t ?_ | fail)
      refine pc_prob_Set_At (At_in (hS.fd (PSet p)) (k : Int) hk0 hx fun w hS => ?_)
      repeat' (first | refine pN_via (by (intro K; simp (disch := omega) only [go_sem, pN_min, pN_max, w_u32, w_u64, Option.isNone_some, Option.isNone_none]; (try simp only [wrap_u32, wrap_u64]); rfl)) ?_ | fail)
      refine pc_prob_Set_At (At_in (hS.fd (PSet t)) (k : Int) hk0 hx fun w hS => ?_)
      repeat' (first | refine pc_pithlaw08_num (num_ok _ (by omega) ?_) | (refine pN_neq_s ?_ ?_ <;> intro hc <;> try (exfalso; first | omega | exact hc rfl | exact hc (by assumption) | exact absurd hc (by assumption))) | refine pIf_f ?_ | refine pGd_go (by rfl) ?_ | refine pN_via (by (intro K; simp (disch := omega) only [go_sem, pN_min, pN_max, w_u32, w_u64, Option.isNone_some, Option.isNone_none]; (try simp only [wrap_u32, wrap_u64]); rfl)) ?_ | fail)
      exact ⟨⟨k + 1, rfl, by omega, hS.to⟩, by simp [RowKit.intOf] <;> omega⟩
    repeat' (first | (refine pN_lss_s ?_ ?_ <;> intro hc <;> try (exfalso; omega)) | refine pIf_f ?_ | refine pN_via (by (intro K; simp (disch := omega) only [go_sem, pN_min, pN_max, w_u32, w_u64, Option.isNone_some, Option.isNone_none]; (try simp only [wrap_u32, wrap_u64]); rfl)) ?_ | fail)
    exact ⟨⟨i + 1, rfl, by omega, hS.to⟩, by simp [RowKit.intOf] <;> omega⟩
  · have hdone : decide (t1.k = t1.b.length ∧ t1.C = 0) = false := decide_eq_false fun h => by omega
    repeat' (first | (refine pc_rcdec_Decoder_Used (Used_ok (hS.fd (Dec d)) ?_); clear hS; intro w hS; rw [b3]) | (refine pc_rcdec_Decoder_Done (Done_ok (hS.fd (Dec d)) ?_); clear hS; intro w hS; rw [hdone]) | ((first | refine pN_lss_s ?_ ?_ | refine pN_gtr_s ?_ ?_) <;> intro hc <;> try (exfalso; omega)) | ((first | refine pN_eql_s ?_ ?_ | refine pN_neq_s ?_ ?_) <;> intro hc <;> try (exfalso; first | omega | exact hc rfl | exact hc (by assumption) | exact absurd hc (by assumption))) | refine pIf_f ?_ | refine pGd_go (by rfl) ?_ | refine pGd_no (by rfl) ?_ | refine pN_via (by (intro K; simp (disch := omega) only [go_sem, pN_min, pN_max, w_u32, w_u64, Option.isNone_some, Option.isNone_none]; (try simp only [wrap_u32, wrap_u64]); rfl)) ?_ | fail)
    have hS : Sat W w [PSet p fe.l, PSet t fe.l, rows cdSl sR pr, rows cd_uint8 sb fe.s.bytes, rows cd_pithlaw08_Ask sa ls, old W] := hS.to
    refine ⟨fun v w => ∃ k : Nat, v = .int .i64 k ∧ k ≤ n ∧ Sat W w [PSet p fe.l, PSet t fe.l, rows cdSl sR pr, rows cd_uint8 sb fe.s.bytes, rows cd_pithlaw08_Ask sa ls, old W], fun v _ => n - (RowKit.intOf v).toNat, ⟨0, rfl, Nat.zero_le _, hS⟩, ?_⟩
    clear hS
    rintro _ _ w ⟨k, rfl, hk, hS⟩
    by_cases hkn : k < n
    · obtain ⟨x, hx⟩ : ∃ x, fe.l[(k : Int).toNat]? = some x := ⟨fe.l[k]'(by omega), by simp⟩
      have hk0 : (0 : Int) ≤ (k : Int) := Int.natCast_nonneg k
      repeat' (first | (refine pN_lss_s ?_ ?_ <;> intro hc <;> try (exfalso; omega)) | refine pIf_t ?_ | fail)
      refine pc_prob_Set_At (At_in (hS.fd (PSet p)) (k : Int) hk0 hx fun w hS => ?_)
      repeat' (first | refine pN_via (by (intro K; simp (disch := omega) only [go_sem, pN_min, pN_max, w_u32, w_u64, Option.isNone_some, Option.isNone_none]; (try simp only [wrap_u32, wrap_u64]); rfl)) ?_ | fail)
      refine pc_prob_Set_At (At_in (hS.fd (PSet t)) (k : Int) hk0 hx fun w hS => ?_)
      repeat' (first | refine pc_pithlaw08_num (num_ok _ (by omega) ?_) | (refine pN_neq_s ?_ ?_ <;> intro hc <;> try (exfalso; first | omega | exact hc rfl | exact hc (by assumption) | exact absurd hc (by assumption))) | refine pIf_f ?_ | refine pGd_go (by rfl) ?_ | refine pN_via (by (intro K; simp (disch := omega) only [go_sem, pN_min, pN_max, w_u32, w_u64, Option.isNone_some, Option.isNone_none]; (try simp only [wrap_u32, wrap_u64]); rfl)) ?_ | fail)
      exact ⟨⟨k + 1, rfl, by omega, hS.to⟩, by simp [RowKit.intOf] <;> omega⟩
    repeat' (first | (refine pN_lss_s ?_ ?_ <;> intro hc <;> try (exfalso; omega)) | refine pIf_f ?_ | refine pN_via (by (intro K; simp (disch := omega) only [go_sem, pN_min, pN_max, w_u32, w_u64, Option.isNone_some, Option.isNone_none]; (try simp only [wrap_u32, wrap_u64]); rfl)) ?_ | fail)
    exact ⟨⟨i + 1, rfl, by omega, hS.to⟩, by simp [RowKit.intOf] <;> omega⟩

end Go.Proofs.Ytoejaggkedlfmaa
