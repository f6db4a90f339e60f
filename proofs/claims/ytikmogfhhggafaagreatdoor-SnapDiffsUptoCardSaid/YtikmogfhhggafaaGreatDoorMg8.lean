/-
  Texts of one proof, one behind the other: SnM, GloS, SnapDiffs.
-/
import Derived.SevenTiedAt
import Derived.Test.YtikmogfhhggafaaGreatDoorMg7
set_option linter.unusedSimpArgs false
set_option linter.unnecessarySimpa false
set_option linter.unusedSectionVars false
set_option linter.unusedVariables false

namespace Go.Proofs.YtikmogfhhggafaaGreatDoor
open Go
namespace S
theorem diff_nn : diff [] [] = [] := by rw [diff]
theorem diff_cn (a : L.En) (l : List L.En) : diff (a :: l) [] = (2, a.name) :: diff l [] := by rw [diff]
theorem diff_nc (b : L.En) (m : List L.En) : diff [] (b :: m) = (1, b.name) :: diff [] m := by rw [diff]
theorem diff_lt {a b : L.En} {l m : List L.En} (h : Op.bytesLess a.name b.name = true) : diff (a :: l) (b :: m) = (2, a.name) :: diff l (b :: m) := by rw [diff, if_pos h]
theorem diff_gt {a b : L.En} {l m : List L.En} (h : Op.bytesLess a.name b.name = false) (h2 : Op.bytesLess b.name a.name = true) : diff (a :: l) (b :: m) = (1, b.name) :: diff (a :: l) m := by rw [diff, if_neg (by rw [h]; decide), if_pos h2]
theorem diff_eq {a b : L.En} {l m : List L.En} (h : Op.bytesLess a.name b.name = false) (h2 : Op.bytesLess b.name a.name = false) (h3 : alike a b = true) : diff (a :: l) (b :: m) = diff l m := by rw [diff, if_neg (by rw [h]; decide), if_neg (by rw [h2]; decide), if_pos h3]
theorem diff_ne {a b : L.En} {l m : List L.En} (h : Op.bytesLess a.name b.name = false) (h2 : Op.bytesLess b.name a.name = false) (h3 : alike a b = false) : diff (a :: l) (b :: m) = (3, a.name) :: diff l m := by rw [diff, if_neg (by rw [h]; decide), if_neg (by rw [h2]; decide), if_neg (by rw [h3]; decide)]
end S
def chg (l : List (Int × List UInt8)) : List T_api_Change := l.map fun p => ⟨p.1, p.2⟩
theorem chg_cons (p : Int × List UInt8) (l : List (Int × List UInt8)) : chg (p :: l) = [⟨p.1, p.2⟩] ++ chg l := rfl
section
variable [Pan] {P : Program} {E w : World} {J : Value → Prop} {L : List HA} {t : TypeId} {α : Type} {C : Cd α} {s : Sl} {l : List α} {k1 : IntKind} {i1 : Int} {n : Nat}
theorem pA_sl1p (hS : Sat E w L) [Row P t α C] [h : Rds C L s l] (lo : Nat) (h1 : i1 = (lo : Int)) (hn : n = l.length) (hlo : lo ≤ l.length)
    (hk : ∀ s', Part C s l s' (l.drop lo) → J (.slice s'.a (l.length - lo) s'.c)) : pA P (oSl t (.slice s.a n s.c) (some (.int k1 i1)) none none) J := by
  subst h1 hn
  refine pA_sl_l (Row.slt (C := C)) (hS.rds (C := C) (s := s)) (by omega) (by omega) ?_
  rw [Int.toNat_natCast, subV_sl]
  refine hk _ ⟨fun L hL => ?_⟩
  have := Rds.sub (C := C) (L := L) (s := s) (l := l) lo l.length hlo (Nat.le_refl _)
  rwa [List.take_of_length_le (by simp)] at this
end
attribute [local irreducible] oMv oV oU oCall oCallV oBi oBin oUn oLoad oStore oNil oFld oField oIdx oIndex oPick oAlloc oBox oBuild oBs oConv oMk oSl oExt oFn oIface oMap oLook oMapUp oRange oNext oEntry oInv oAssert oPanic oRes pN pA pL pDr pIf gA pGd Calls S.alike
section
variable [Pan] {E w W : World} {K Q : Value → World → Prop} {LL M N N' : List HA} {c : T_api_Config} {db : Nat} {d : D.T}

set_option maxHeartbeats 4000000 in
theorem Diff_ok (hS : Sat E w LL) [hf : Fnd (Dep c db) LL d N] (n m : NKey) {es fs : List L.En} {ra rb : List I32} (hta : S.Tells d n.1 es ra) (htb : S.Tells d m.1 fs rb) (hra : ra.length ≤ 1099511627776) (hrb : rb.length ≤ 1099511627776)
    (hba : ∀ q, d.get ra = some q → q.length ≤ 1099511627776) (hbb : ∀ q, d.get rb = some q → q.length ≤ 1099511627776) (hle : es.length + fs.length ≤ 1099511627776) (hse : ∀ e ∈ es, e.sums.length ≤ 1099511627776)
    (hQ : ∀ so w, Sat E w (rows cd_api_Change so (chg (S.diff es fs)) :: Dep c db d :: N) → Q (.tuple #[.slice so.a (chg (S.diff es fs)).length so.c, .int .i64 0]) w) :
    Calls Tryz.prog 14 #[.pointer (some ⟨db, 0, none⟩), nke n, nke m] w (retP Q) := by
  refine snap_Diff.calls ?_
  unfold snap_Diff.F
  refine pc_snap_listed (slisted_ok (c := c) hS n hta hra hba ?_)
  clear hS
  intro ea sa sra w hea _ hS
  repeat' (first | (refine pc_snap_listed (slisted_ok (c := c) hS m htb hrb hbb ?_); clear hS; intro eb sb srb w heb _ hS) | (refine pN_neq_s ?_ ?_ <;> intro hc <;> try (exfalso; first | omega | exact hc rfl | exact hc (by assumption) | exact absurd hc (by assumption))) | refine pIf_f ?_ | refine pN_v (hk := ?_) | fail)
  refine ⟨fun v v' v'' w => ∃ (xa xb : List EE) (ta tb so : Sl) (o : List T_api_Change), v = .slice ta.a xa.length ta.c ∧ v' = .slice tb.a xb.length tb.c ∧ v'' = .slice so.a o.length so.c ∧ chg (S.diff es fs) = o ++ chg (S.diff (xa.map enOf) (xb.map enOf)) ∧
    Part cdE sa ea ta xa ∧ Part cdE sb eb tb xb ∧ (∀ p ∈ xa, p ∈ ea) ∧ (∀ p ∈ xb, p ∈ eb) ∧ o.length + xa.length + xb.length ≤ 1099511627776 ∧
    Sat E w (rows cd_api_Change so o :: rows cdE sb eb :: bag (eeR eb) :: rows (cdI 58) srb rb :: rows cdE sa ea :: bag (eeR ea) :: rows (cdI 58) sra ra :: Dep c db d :: N),
    fun v v' _ _ => (match v with | .slice _ n _ => n | _ => 0) + (match v' with | .slice _ n _ => n | _ => 0),
    ⟨ea, eb, sa, sb, ⟨none, 0⟩, [], rfl, rfl, rfl, by rw [hea, heb]; rfl, Part.self, Part.self, fun _ h => h, fun _ h => h, by rw [← hea, ← heb, List.length_map, List.length_map] at hle; rw [List.length_nil]; omega, ?_⟩, ?_⟩
  · have h8 : Sat E w (rows cd_api_Change ⟨none, 0⟩ [] :: _) := hS.nil cd_api_Change.e cd_api_Change.size
    exact h8.to
  clear hS
  rintro _ _ _ _ w ⟨xa, xb, ta, tb, so, o, rfl, rfl, rfl, hch, hpa, hpb, hma, hmb, hlen, hS⟩
  haveI := hpa.rd (rows cdE sa ea :: bag (eeR ea) :: rows (cdI 58) sra ra :: Dep c db d :: N) inferInstance
  haveI := hpb.rd (rows cdE sb eb :: bag (eeR eb) :: rows (cdI 58) srb rb :: rows cdE sa ea :: bag (eeR ea) :: rows (cdI 58) sra ra :: Dep c db d :: N) inferInstance
  cases xa with
  | nil =>
    cases xb with
    | nil =>
      have e0 : chg (S.diff (([] : List EE).map enOf) (([] : List EE).map enOf)) = [] := by rw [List.map_nil, S.diff_nn]; rfl
      rw [e0, List.append_nil] at hch
      rw [hch] at hQ
      repeat' (first | (refine pN_gtr_s ?_ ?_ <;> intro hc <;> try (exfalso; omega)) | refine pIf_f ?_ | refine pGd_go (by rfl) ?_ | refine pN_v (hk := ?_) | fail)
      exact hQ _ _ hS.to
    | cons y xb =>
      have hy0 : (y :: xb)[0]? = some y := rfl
      have e0 : chg (S.diff (([] : List EE).map enOf) ((y :: xb).map enOf)) = [⟨1, y.1.Name⟩] ++ chg (S.diff (([] : List EE).map enOf) (xb.map enOf)) := by rw [List.map_cons, List.map_nil, S.diff_nc]; rfl
      rw [e0, ← List.append_assoc] at hch
      rw [List.length_cons, List.length_nil] at hlen
      repeat' (first | (refine pN_sl1 (C := cdE) (s := tb) (l := y :: xb) hS 1 rfl rfl (by rw [List.length_cons]; omega) ?_; intro tb2 hpb2) | (refine pN_b1 (x := (⟨1, y.1.Name⟩ : T_api_Change)) hS rfl (by decide) ?_; clear hS; intro s3 w hS) | (refine pN_app (C := cd_api_Change) (s := so) (l := o) hS rfl rfl (by rw [List.length_cons, List.length_nil]; omega) ?_; clear hS; intro s4 w hS) | ((first | refine pN_gtr_s ?_ ?_ | refine pA_gtr_s ?_ ?_) <;> intro hc <;> try (exfalso; omega)) | (refine pA_eql_s ?_ ?_ <;> intro hc <;> try (exfalso; first | omega | exact hc rfl | exact hc (by assumption) | exact absurd hc (by assumption))) | refine pIf_t ?_ | refine pIf_f ?_ | refine gA_go (by rfl) ?_ | refine gA_no (by rfl) ?_ | refine pGd_go (by rfl) ?_ | refine pN_ld1 ha hS ?_ | refine pN_fa ha (by rfl) fun a ha => ?_ | (refine pDr_go hS ?_; clear hS; intro w hS) | refine pN_ixk hS _ (by first | rfl | (exact (Int.toNat_of_nonneg (by omega)).symm)) (by first | rfl | omega | simpa only [go_sem] using True.intro | (simp only [go_sem]; omega)) (by assumption) fun a ha hel => ?_ | refine pN_v (hk := ?_) | refine pA_v (hk := ?_) | fail)
      exact ⟨⟨[], xb, ta, tb2, s4, o ++ [⟨1, y.1.Name⟩], rfl, rfl, rfl, hch, hpa, hpb.trans hpb2, hma, fun p h => hmb p (List.mem_cons_of_mem _ h), (by rw [List.length_append, List.length_cons, List.length_nil]; simp only [List.length_cons, List.length_nil] at hlen ⊢; omega), hS.to⟩, by simp only [List.length_cons, List.length_nil]; omega⟩
  | cons x xa =>
    have hx0 : (x :: xa)[0]? = some x := rfl
    rw [List.length_cons] at hlen
    cases xb with
    | nil =>
      have e0 : chg (S.diff ((x :: xa).map enOf) (([] : List EE).map enOf)) = [⟨2, x.1.Name⟩] ++ chg (S.diff (xa.map enOf) (([] : List EE).map enOf)) := by rw [List.map_cons, List.map_nil, S.diff_cn]; rfl
      rw [e0, ← List.append_assoc] at hch
      rw [List.length_nil] at hlen
      repeat' (first | (refine pN_sl1 (C := cdE) (s := ta) (l := x :: xa) hS 1 rfl rfl (by rw [List.length_cons]; omega) ?_; intro ta2 hpa2) | (refine pN_b1 (x := (⟨2, x.1.Name⟩ : T_api_Change)) hS rfl (by decide) ?_; clear hS; intro s3 w hS) | (refine pN_app (C := cd_api_Change) (s := so) (l := o) hS rfl rfl (by rw [List.length_cons, List.length_nil]; omega) ?_; clear hS; intro s4 w hS) | (refine pN_gtr_s ?_ ?_ <;> intro hc <;> try (exfalso; omega)) | (refine pA_eql_s ?_ ?_ <;> intro hc <;> try (exfalso; first | omega | exact hc rfl | exact hc (by assumption) | exact absurd hc (by assumption))) | refine pIf_t ?_ | refine gA_no (by rfl) ?_ | refine pGd_no (by rfl) ?_ | refine pN_ld1 ha hS ?_ | refine pN_fa ha (by rfl) fun a ha => ?_ | (refine pDr_go hS ?_; clear hS; intro w hS) | refine pN_ixk hS _ (by first | rfl | (exact (Int.toNat_of_nonneg (by omega)).symm)) (by first | rfl | omega | simpa only [go_sem] using True.intro | (simp only [go_sem]; omega)) (by assumption) fun a ha hel => ?_ | refine pN_v (hk := ?_) | refine pA_v (hk := ?_) | fail)
      exact ⟨⟨xa, [], ta2, tb, s4, o ++ [⟨2, x.1.Name⟩], rfl, rfl, rfl, hch, hpa.trans hpa2, hpb, fun p h => hma p (List.mem_cons_of_mem _ h), hmb, (by rw [List.length_append, List.length_cons, List.length_nil]; simp only [List.length_cons, List.length_nil] at hlen ⊢; omega), hS.to⟩, by simp only [List.length_cons, List.length_nil]; omega⟩
    | cons y xb =>
      have hy0 : (y :: xb)[0]? = some y := rfl
      rw [List.length_cons] at hlen
      cases h1 : Op.bytesLess x.1.Name y.1.Name with
      | true =>
        have e0 : chg (S.diff ((x :: xa).map enOf) ((y :: xb).map enOf)) = [⟨2, x.1.Name⟩] ++ chg (S.diff (xa.map enOf) ((y :: xb).map enOf)) := by rw [List.map_cons, List.map_cons, S.diff_lt h1]; rfl
        rw [e0, ← List.append_assoc] at hch
        repeat' (first | (rw [pA_lss_l, h1]) | (refine pN_sl1 (C := cdE) (s := ta) (l := x :: xa) hS 1 rfl rfl (by rw [List.length_cons]; omega) ?_; intro ta2 hpa2) | (refine pN_b1 (x := (⟨2, x.1.Name⟩ : T_api_Change)) hS rfl (by decide) ?_; clear hS; intro s3 w hS) | (refine pN_app (C := cd_api_Change) (s := so) (l := o) hS rfl rfl (by rw [List.length_cons, List.length_nil]; omega) ?_; clear hS; intro s4 w hS) | ((first | refine pN_gtr_s ?_ ?_ | refine pA_gtr_s ?_ ?_) <;> intro hc <;> try (exfalso; omega)) | (refine pA_eql_s ?_ ?_ <;> intro hc <;> try (exfalso; first | omega | exact hc rfl | exact hc (by assumption) | exact absurd hc (by assumption))) | refine pIf_t ?_ | refine gA_go (by rfl) ?_ | refine pGd_no (by rfl) ?_ | refine pN_ld1 ha hS ?_ | refine pL_ld1 ha hS ?_ | refine pN_fa ha (by rfl) fun a ha => ?_ | refine pA_fa ha (by rfl) fun a ha => ?_ | (refine pDr_go hS ?_; clear hS; intro w hS) | refine pN_ixk hS _ (by first | rfl | (exact (Int.toNat_of_nonneg (by omega)).symm)) (by first | rfl | omega | simpa only [go_sem] using True.intro | (simp only [go_sem]; omega)) (by assumption) fun a ha hel => ?_ | refine pA_ixk hS _ (by first | rfl | (exact (Int.toNat_of_nonneg (by omega)).symm)) (by first | rfl | omega | simpa only [go_sem] using True.intro | (simp only [go_sem]; omega)) (by assumption) fun a ha hel => ?_ | refine pN_v (hk := ?_) | refine pA_v (hk := ?_) | fail)
        exact ⟨⟨xa, y :: xb, ta2, tb, s4, o ++ [⟨2, x.1.Name⟩], rfl, rfl, rfl, hch, hpa.trans hpa2, hpb, fun p h => hma p (List.mem_cons_of_mem _ h), hmb, (by rw [List.length_append, List.length_cons, List.length_nil]; simp only [List.length_cons, List.length_nil] at hlen ⊢; omega), hS.to⟩, by simp only [List.length_cons, List.length_nil]; omega⟩
      | false =>
        cases h2 : Op.bytesLess y.1.Name x.1.Name with
        | true =>
          have e0 : chg (S.diff ((x :: xa).map enOf) ((y :: xb).map enOf)) = [⟨1, y.1.Name⟩] ++ chg (S.diff ((x :: xa).map enOf) (xb.map enOf)) := by rw [List.map_cons, List.map_cons, S.diff_gt h1 h2]; rfl
          rw [e0, ← List.append_assoc] at hch
          repeat' (first | (rw [pA_lss_l, h1]) | (rw [pA_lss_l, h2]) | (refine pN_sl1 (C := cdE) (s := tb) (l := y :: xb) hS 1 rfl rfl (by rw [List.length_cons]; omega) ?_; intro tb2 hpb2) | (refine pN_b1 (x := (⟨1, y.1.Name⟩ : T_api_Change)) hS rfl (by decide) ?_; clear hS; intro s3 w hS) | (refine pN_app (C := cd_api_Change) (s := so) (l := o) hS rfl rfl (by rw [List.length_cons, List.length_nil]; omega) ?_; clear hS; intro s4 w hS) | ((first | refine pN_gtr_s ?_ ?_ | refine pA_gtr_s ?_ ?_) <;> intro hc <;> try (exfalso; omega)) | (refine pA_eql_s ?_ ?_ <;> intro hc <;> try (exfalso; first | omega | exact hc rfl | exact hc (by assumption) | exact absurd hc (by assumption))) | refine pIf_t ?_ | refine pIf_f ?_ | refine gA_go (by rfl) ?_ | refine pGd_no (by rfl) ?_ | refine pN_ld1 ha hS ?_ | refine pL_ld1 ha hS ?_ | refine pN_fa ha (by rfl) fun a ha => ?_ | refine pA_fa ha (by rfl) fun a ha => ?_ | (refine pDr_go hS ?_; clear hS; intro w hS) | refine pN_ixk hS _ (by first | rfl | (exact (Int.toNat_of_nonneg (by omega)).symm)) (by first | rfl | omega | simpa only [go_sem] using True.intro | (simp only [go_sem]; omega)) (by assumption) fun a ha hel => ?_ | refine pA_ixk hS _ (by first | rfl | (exact (Int.toNat_of_nonneg (by omega)).symm)) (by first | rfl | omega | simpa only [go_sem] using True.intro | (simp only [go_sem]; omega)) (by assumption) fun a ha hel => ?_ | refine pN_v (hk := ?_) | refine pA_v (hk := ?_) | fail)
          exact ⟨⟨x :: xa, xb, ta, tb2, s4, o ++ [⟨1, y.1.Name⟩], rfl, rfl, rfl, hch, hpa, hpb.trans hpb2, hma, fun p h => hmb p (List.mem_cons_of_mem _ h), (by rw [List.length_append, List.length_cons, List.length_nil]; simp only [List.length_cons, List.length_nil] at hlen ⊢; omega), hS.to⟩, by simp only [List.length_cons, List.length_nil]; omega⟩
        | false =>
          haveI : RdP (cdI 58) (bag (eeR ea)) x.2.1 x.2.2 := eeR_rd (hma x List.mem_cons_self)
          haveI : RdP (cdI 58) (bag (eeR eb)) y.2.1 y.2.2 := eeR_rd (hmb y List.mem_cons_self)
          have hsl : x.2.2.length ≤ 1099511627776 := hse (enOf x) (by rw [← hea]; exact List.mem_map.2 ⟨x, hma x List.mem_cons_self, rfl⟩)
          obtain ⟨o2, ho2, hch2⟩ : ∃ o2, o2 = (if S.alike (enOf x) (enOf y) = true then o else o ++ [⟨3, x.1.Name⟩]) ∧ chg (S.diff es fs) = o2 ++ chg (S.diff (xa.map enOf) (xb.map enOf)) := by
            refine ⟨_, rfl, ?_⟩
            rw [hch, List.map_cons, List.map_cons]
            cases h3 : S.alike (enOf x) (enOf y) with
            | true => rw [S.diff_eq h1 h2 h3, if_pos rfl]
            | false => rw [S.diff_ne h1 h2 h3, if_neg (by decide), chg_cons, List.append_assoc]; rfl
          clear hch
          have ho2l : o2.length ≤ o.length + 1 := by rw [ho2]; split <;> simp
          repeat' (first | (rw [pA_lss_l, h1]) | (rw [pA_lss_l, h2]) | ((first | refine pN_gtr_s ?_ ?_ | refine pA_gtr_s ?_ ?_) <;> intro hc <;> try (exfalso; omega)) | (refine pA_eql_s ?_ ?_ <;> intro hc <;> try (exfalso; first | omega | exact hc rfl | exact hc (by assumption) | exact absurd hc (by assumption))) | refine pIf_t ?_ | refine pIf_f ?_ | refine gA_go (by rfl) ?_ | refine pGd_no (by rfl) ?_ | refine pL_ld1 ha hS ?_ | refine pA_fa ha (by rfl) fun a ha => ?_ | (refine pDr_go hS ?_; clear hS; intro w hS) | refine pA_ixk hS _ (by first | rfl | (exact (Int.toNat_of_nonneg (by omega)).symm)) (by first | rfl | omega | simpa only [go_sem] using True.intro | (simp only [go_sem]; omega)) (by assumption) fun a ha hel => ?_ | refine pN_v (hk := ?_) | refine pA_v (hk := ?_) | fail)
          refine ⟨fun v w => ∃ so, v = .slice so.a o2.length so.c ∧ Sat E w (rows cd_api_Change so o2 :: rows cdE sb eb :: bag (eeR eb) :: rows (cdI 58) srb rb :: rows cdE sa ea :: bag (eeR ea) :: rows (cdI 58) sra ra :: Dep c db d :: N), ?_, ?_⟩
          · cases h3 : S.alike (enOf x) (enOf y) with
            | true =>
              rw [h3, if_pos rfl] at ho2
              subst ho2
              repeat' (first | (refine pc_snap_alike (alike_ok x y hS hsl ?_); rw [h3]; clear hS; intro w hS) | refine pIf_f ?_ | refine pL_ld_at ha hS (by rfl) ?_ | (refine pDr_go hS ?_; clear hS; intro w hS) | refine ⟨trivial, ?_⟩ | refine pA_ixk hS _ (by first | rfl | (exact (Int.toNat_of_nonneg (by omega)).symm)) (by first | rfl | omega | simpa only [go_sem] using True.intro | (simp only [go_sem]; omega)) (by assumption) fun a ha hel => ?_ | refine pA_v (hk := ?_) | fail)
              exact ⟨so, rfl, hS.to⟩
            | false =>
              rw [h3, if_neg (by decide)] at ho2
              subst ho2
              repeat' (first | (refine pc_snap_alike (alike_ok x y hS hsl ?_); rw [h3]; clear hS; intro w hS) | (refine pN_b1 (x := (⟨3, x.1.Name⟩ : T_api_Change)) hS rfl (by decide) ?_; clear hS; intro s3 w hS) | (refine pN_app (C := cd_api_Change) (s := so) (l := o) hS rfl rfl (by rw [List.length_cons, List.length_nil]; omega) ?_; clear hS; intro s4 w hS) | refine pIf_t ?_ | refine pN_ld1 ha hS ?_ | refine pL_ld_at ha hS (by rfl) ?_ | refine pN_fa ha (by rfl) fun a ha => ?_ | (refine pDr_go hS ?_; clear hS; intro w hS) | refine ⟨trivial, ?_⟩ | refine pN_ixk hS _ (by first | rfl | (exact (Int.toNat_of_nonneg (by omega)).symm)) (by first | rfl | omega | simpa only [go_sem] using True.intro | (simp only [go_sem]; omega)) (by assumption) fun a ha hel => ?_ | refine pA_ixk hS _ (by first | rfl | (exact (Int.toNat_of_nonneg (by omega)).symm)) (by first | rfl | omega | simpa only [go_sem] using True.intro | (simp only [go_sem]; omega)) (by assumption) fun a ha hel => ?_ | refine pN_v (hk := ?_) | refine pA_v (hk := ?_) | fail)
              exact ⟨s4, rfl, hS.to⟩
          · clear hS
            rintro _ _ w ⟨so, rfl, hS⟩
            repeat' (first | (refine pA_sl1p (C := cdE) (s := ta) (l := x :: xa) hS 1 rfl rfl (by rw [List.length_cons]; omega) ?_; intro ta2 hpa2) | (refine pA_sl1p (C := cdE) (s := tb) (l := y :: xb) hS 1 rfl rfl (by rw [List.length_cons]; omega) ?_; intro tb2 hpb2) | (refine pDr_go hS ?_; clear hS; intro w hS) | fail)
            exact ⟨⟨xa, xb, ta2, tb2, so, o2, rfl, rfl, rfl, hch2, hpa.trans hpa2, hpb.trans hpb2, fun p h => hma p (List.mem_cons_of_mem _ h), fun p h => hmb p (List.mem_cons_of_mem _ h), by omega, hS⟩, by simp only [List.length_cons]; omega⟩
end
end Go.Proofs.YtikmogfhhggafaaGreatDoor

namespace Go.Proofs.YtikmogfhhggafaaGreatDoor
open Go

theorem laid_get {P : Program} {W : World} : ∀ {l : List (String × DataW Unit)} {ps : List MemPlace} {n : String} {d : DataW Unit}, DataW.LaidVars P W l ps → (n, d) ∈ l →
    ∃ g t cs fuel p, P.globalNamed n = some g ∧ (P.globals[g]?).map (·.type) = some t ∧ W.var? P n = some cs ∧ DataW.trod (fun _ => ()) P W 0 (fun _ => true) false fuel t cs.toList = some (d, p)
  | [], _, _, _, _, h => by cases h
  | (n0, d0) :: r, ps, n, d, ⟨g, t, cs, fuel, p, q, h1, h2, h3, h4, h5, _⟩, h => by
    rcases List.mem_cons.1 h with e | h
    · cases e; exact ⟨g, t, cs, fuel, p, h1, h2, h3, h4⟩
    · exact laid_get h5 h

theorem laid_ks {kd : IntKind} {W : World} {l : List (String × DataW Unit)} {ps : List MemPlace} (hl : DataW.LaidVars Tryz.prog W l ps) {n : String} {g t e m : Nat} (zs : List Int) (hm : (n, DataW.agg (zs.map fun z => .lit (.int kd z))) ∈ l)
    (hg : Tryz.prog.globalNamed n = some g) (ht : (Tryz.prog.globals[g]?).map (·.type) = some t) (hu : Tryz.prog.underlying t = some (.array m e)) (hc : Tryz.prog.cellsOf e = 1) (he : Tryz.prog.underlying e = some (.int kd)) (i : Nat) (z : Int) (hi : i < m) (hz : zs[i]? = some z) : W.cell? ⟨g, i, none⟩ = some (.int kd z) := by
  obtain ⟨g', t', cs, fuel, p, hg', ht', hv, hd⟩ := laid_get hl hm
  obtain rfl := Option.some.inj (hg.symm.trans hg')
  obtain rfl := Option.some.inj (ht.symm.trans ht')
  obtain ⟨xs, k, _, ex, _, hln, hel⟩ := DataW.trod_array hu hd
  have hE := hel i hi
  have hlt : i < zs.length := (List.getElem?_eq_some_iff.1 hz).1
  have e3 : (xs.map (·.1)) = zs.map fun z => .lit (.int kd z) := (DataW.agg.inj (Prod.mk.inj ex).1).symm
  have hxl : xs.length = zs.length := by have := congrArg List.length e3; simpa using this
  rw [hc, Nat.mul_one, List.getElem?_eq_getElem (by omega)] at hE
  obtain ⟨y, e1, e2, _⟩ := DataW.trod_int he hE
  have e4 : (xs.map (·.1))[i]? = (zs.map fun z => (DataW.lit (.int kd z) : DataW Unit))[i]? := by rw [e3]
  rw [List.getElem?_map, List.getElem?_map, List.getElem?_eq_getElem (by omega : i < xs.length), hz, e2] at e4
  simp only [Option.map_some, Option.some.injEq, DataW.lit.injEq, Lit.int.injEq, true_and] at e4
  subst e4
  rw [World.var?_cell hg hv i]
  have h0 : ((cs.toList.drop i).take 1)[0]? = some (.int kd y) := by rw [e1]; rfl
  have : cs.toList[i]? = some (.int kd y) := by simpa using h0
  simpa using this

theorem glo_of_laid {W : World} {l : List (String × DataW Unit)} (h : laidMetH Tryz.prog l W) (hp : (l.filter fun x => x.2.handleName?.isSome) = []) (m1 : ("pith/sha.first", Rows.laid_pith_sha_first) ∈ l) (m2 : ("pith/sha.rounds", Rows.laid_pith_sha_rounds) ∈ l)
    (m3 : ("pith/varint.bounds", Rows.laid_pith_varint_bounds) ∈ l) : GloS W := by
  unfold laidMetH at h
  rw [hp] at h
  obtain ⟨ps, hv, _⟩ := h
  refine ⟨fun i hi => ?_, fun i hi => ?_, fun i u hu => ?_⟩
  · have hz : (H.first.map fun x => (x.toNat : Int))[i]? = some ((H.nth H.first i).toNat : Int) := by
      have hl : i < H.first.length := hi
      rw [List.getElem?_map, List.getElem?_eq_getElem hl, H.nth, List.getD_eq_getElem?_getD, List.getElem?_eq_getElem hl]; rfl
    exact laid_ks (kd := .u32) hv (H.first.map fun x => (x.toNat : Int)) m1 (by kernel_rfl) (by kernel_rfl) Tryz.underlying214 (by kernel_rfl) Tryz.underlying213 i _ hi hz
  · have hz : (H.consts.map fun x => (x.toNat : Int))[i]? = some ((H.nth H.consts i).toNat : Int) := by
      have hl : i < H.consts.length := hi
      rw [List.getElem?_map, List.getElem?_eq_getElem hl, H.nth, List.getD_eq_getElem?_getD, List.getElem?_eq_getElem hl]; rfl
    exact laid_ks (kd := .u32) hv (H.consts.map fun x => (x.toNat : Int)) m2 (by kernel_rfl) (by kernel_rfl) Tryz.underlying257 (by kernel_rfl) Tryz.underlying213 i _ hi hz
  · have hu2 : ∃ z : Int, u = .int .u64 z ∧ ([128, 16384, 2097152, 268435456, 34359738368, 4398046511104, 562949953421312, 72057594037927936, 9223372036854775808] : List Int)[i]? = some z := by
      have e : bndV = ([128, 16384, 2097152, 268435456, 34359738368, 4398046511104, 562949953421312, 72057594037927936, 9223372036854775808] : List Int).map (Value.int .u64) := rfl
      rw [e, List.getElem?_map] at hu
      obtain ⟨z, hz, hzu⟩ := Option.map_eq_some_iff.1 hu
      exact ⟨z, hzu.symm, hz⟩
    obtain ⟨z, rfl, hz⟩ := hu2
    have hi : i < 9 := (List.getElem?_eq_some_iff.1 hz).1
    exact laid_ks (kd := .u64) hv _ m3 (by kernel_rfl) (by kernel_rfl) Tryz.underlying290 (by kernel_rfl) Tryz.underlying212 i z hi hz
end Go.Proofs.YtikmogfhhggafaaGreatDoor

namespace Go.Proofs.YtikmogfhhggafaaGreatDoor
open Go
namespace S
def nL : NKey := ⟨[108], by decide⟩
def nM : NKey := ⟨[109], by decide⟩
theorem turned_nil (m : List It) : turned m [] = 0 := rfl
theorem came_nil (l : List It) : came l [] = 0 := rfl
theorem wantOf_nil (a : It) : wantOf [] a = 2 := rfl
theorem alone_nil (b : It) : alone [] b = true := rfl
theorem turned_le (m l : List It) : turned m l ≤ l.length := List.length_filter_le ..
theorem came_le (l m : List It) : came l m ≤ m.length := List.length_filter_le ..
theorem ens_eq (k : C.K) (l : List It) : ens k l = (sort l).map (en k) := rfl
theorem save_0 {d : D.T} {n : D.B} {l : List It} (hn : n.length ≤ 254) (h : rightI l = 0) : save d n l = (0, saved d n (sort l)) := by
  obtain ⟨h1, h2⟩ := right_0 h
  unfold save
  rw [if_neg (by omega), if_neg (by rw [werr_0 h1]; decide), if_neg (by rw [h2]; decide)]
theorem need_univ {k : C.K} {ls : List (List It)} {l : List It} (h : l ∈ ls) : ∀ p ∈ need k (sort l), p ∈ univ k ls := by
  intro p hp
  have h1 : p ∈ parts k l := by
    unfold need at hp
    unfold parts
    rcases List.mem_append.1 hp with hp | hp
    · exact List.mem_append.2 (.inl hp)
    · refine List.mem_append.2 (.inr ?_)
      obtain ⟨P, hP, hp⟩ := List.mem_flatten.1 hp
      obtain ⟨x, hx, rfl⟩ := List.mem_map.1 hP
      exact List.mem_flatten.2 ⟨_, List.mem_map.2 ⟨x, (sort_perm l).mem_iff.1 hx, rfl⟩, hp⟩
  exact List.mem_cons_of_mem _ (List.mem_flatten.2 ⟨_, List.mem_map.2 ⟨l, h, rfl⟩, h1⟩)
theorem datas_univ {k : C.K} {ls : List (List It)} {l : List It} (h : l ∈ ls) : ∀ x ∈ l, ∀ p ∈ C.pieces k x.Data.2, p ∈ univ k ls := by
  intro x hx p hp
  refine List.mem_cons_of_mem _ (List.mem_flatten.2 ⟨_, List.mem_map.2 ⟨l, h, rfl⟩, List.mem_append.2 (.inr (List.mem_flatten.2 ⟨_, List.mem_map.2 ⟨x, hx, rfl⟩, hp⟩))⟩)
end S
instance mt_told : MapT Tryz.prog 43 nke (.int .i64 0) := ⟨_, _, Tryz.underlying43, Tryz.zeroValue3, inferInstance⟩
def ivs (l : List (NKey × Int)) : List (NKey × Value) := l.map fun x => (x.1, .int .i64 x.2)
theorem ivs_get (l : List (NKey × Int)) (k : NKey) : mget (ivs l) k = (D.look l k).map (Value.int .i64) := by
  rw [D.mget_look]
  exact D.look_map (g := id) (fun a b h => h) (Value.int .i64) l k
theorem ivs_put (l : List (NKey × Int)) (k : NKey) (x : Int) : mput (ivs l) k (.int .i64 x) = ivs (D.upd l k x) := by
  rw [D.mput_upd]
  exact D.upd_map (g := id) (fun a b h => h) (Value.int .i64) l k x
theorem ivs_getD (l : List (NKey × Int)) (k : NKey) : (mget (ivs l) k).getD (.int .i64 0) = .int .i64 ((D.look l k).getD 0) := by
  rw [ivs_get]
  cases D.look l k <;> rfl
theorem chg_len (l : List (Int × List UInt8)) : (chg l).length = l.length := List.length_map ..
theorem chg_at (l : List (Int × List UInt8)) (i : Nat) : (chg l)[i]? = (l[i]?).map fun p => ⟨p.1, p.2⟩ := List.getElem?_map ..
attribute [local irreducible] oMv oV oU oCall oCallV oBi oBin oUn oLoad oStore oNil oFld oField oIdx oIndex oPick oAlloc oBox oBuild oBs oConv oMk oSl oExt oFn oIface oMap oLook oMapUp oRange oNext oEntry oInv oAssert oPanic oRes pN pA pL pDr pIf gA pGd Calls S.wantOf S.alone S.turned S.came S.saved S.univ S.ens chg

set_option maxHeartbeats 8000000 in
theorem walk_SnapDiffs (W : World) (hG : GloS W) (x0 : T_pithlaw36_Setup) (x1 x2 : Sl × List T_api_Item) (k0 k1 k2 : Nat)
    (h0 : x0.ok W k0)
    (h1 : RdP cd_api_Item (old W) x1.1 x1.2 ∧ x1.2.length * 80 ≤ reachBytes ∧ x1.2.length + 1 ≤ k1 ∧ ∀ c0 ∈ x1.2, ∃ k0', k0' ≤ k1 ∧ c0.ok W k0')
    (h2 : RdP cd_api_Item (old W) x2.1 x2.2 ∧ x2.2.length * 80 ≤ reachBytes ∧ x2.2.length + 1 ≤ k2 ∧ ∀ c0 ∈ x2.2, ∃ k0', k0' ≤ k2 ∧ c0.ok W k0')
    (q0 : k0 ≤ 1048576) (q1 : k1 ≤ 1048576) (q2 : k2 ≤ 1048576) :
    Calls Tryz.prog 3 #[.agg x0.enc.toArray, .slice x1.1.a x1.2.length x1.1.c, .slice x2.1.a x2.2.length x2.1.c] W fun e W' => e = .returned (.bool true) ∧ RowKit.Below W.heap.size W W' := by
  refine walk_end (pithlaw36_SnapDiffs.calls ?_)
  unfold pithlaw36_SnapDiffs.F
  have hS := Sat.start W
  obtain ⟨sl, l⟩ := x1
  obtain ⟨sm, m⟩ := x2
  dsimp only at h1 h2 ⊢
  obtain ⟨hrl, _, hll, hokl⟩ := h1
  obtain ⟨hrm, _, hlm, hokm⟩ := h2
  haveI := hrl
  haveI := hrm
  have hdl : ∀ x ∈ l, RdP cd_uint8 (old W) x.Data.1 x.Data.2 ∧ x.Data.2.length ≤ 1048576 ∧ x.Name.length ≤ 1048576 ∧ x.Link.length ≤ 1048576 := fun x hx => by
    obtain ⟨k, hk, ⟨⟨_, _, hn, _⟩, ⟨_, _, hk2, _⟩, _, _, _, ⟨_, _, hr, _, hd, _⟩⟩⟩ := hokl x hx
    exact ⟨hr, by omega, by omega, by omega⟩
  have hdm : ∀ x ∈ m, RdP cd_uint8 (old W) x.Data.1 x.Data.2 ∧ x.Data.2.length ≤ 1048576 ∧ x.Name.length ≤ 1048576 ∧ x.Link.length ≤ 1048576 := fun x hx => by
    obtain ⟨k, hk, ⟨⟨_, _, hn, _⟩, ⟨_, _, hk2, _⟩, _, _, _, ⟨_, _, hr, _, hd, _⟩⟩⟩ := hokm x hx
    exact ⟨hr, by omega, by omega, by omega⟩
  clear hokl hokm
  have hll : l.length ≤ 1048576 := by omega
  have hlm : m.length ≤ 1048576 := by omega
  refine pN_bx (z := x0.enc) hS rfl ?_
  clear hS
  intro ob w hS
  by_cases hok : D.okC x0.C ∧ (kutV x0.f_K).legal
  rotate_left 1
  · repeat' (first | (refine pc_pithlaw36_begin (begin_no x0 hok hS ?_); clear hS; intro w hS) | (refine pc_pithlaw36_known (lknown_ok hG hS ?_); clear hS; intro w hS) | refine pIf_t ?_ | refine pGd_go (by rfl) ?_ | refine pGd_no (by rfl) ?_ | refine pN_la hS (by rfl) ?_ | refine pN_v (hk := ?_) | fail)
    exact ⟨rfl, hS.to⟩
  obtain ⟨hc, hk⟩ := hok
  by_cases hr1 : S.rightI l = 0
  rotate_left 1
  · repeat' (first | (refine pc_pithlaw36_begin (begin_in x0 hc hk hS ?_); clear hS; intro db w hS) | (refine pc_pithlaw36_right (lright_ok (sl := sl) (its := l) hS (fun x hx => by haveI := (hdl x hx).1; infer_instance) (fun x hx => by have := hdl x hx; omega) (by omega) ?_); clear hS; intro w hS) | (refine pc_pithlaw36_known (lknown_ok hG hS ?_); clear hS; intro w hS) | (refine pN_neq_s ?_ ?_ <;> intro hc <;> try (exfalso; first | omega | exact hc rfl | exact hc (by assumption) | exact absurd hc (by assumption))) | refine pIf_t ?_ | refine pGd_go (by rfl) ?_ | refine pGd_no (by rfl) ?_ | refine pN_la hS (by rfl) ?_ | refine pN_v (hk := ?_) | fail)
    exact ⟨rfl, hS.to⟩
  by_cases hr2 : S.rightI m = 0
  rotate_left 1
  · repeat' (first | (refine pc_pithlaw36_begin (begin_in x0 hc hk hS ?_); clear hS; intro db w hS) | (refine pc_pithlaw36_right (lright_ok (sl := sl) (its := l) hS (fun x hx => by haveI := (hdl x hx).1; infer_instance) (fun x hx => by have := hdl x hx; omega) (by omega) ?_); clear hS; intro w hS) | (refine pc_pithlaw36_right (lright_ok (sl := sm) (its := m) hS (fun x hx => by haveI := (hdm x hx).1; infer_instance) (fun x hx => by have := hdm x hx; omega) (by omega) ?_); clear hS; intro w hS) | (refine pc_pithlaw36_known (lknown_ok hG hS ?_); clear hS; intro w hS) | (refine pN_neq_s ?_ ?_ <;> intro hc <;> try (exfalso; first | omega | exact hc rfl | exact hc (by assumption) | exact absurd hc (by assumption))) | refine pIf_t ?_ | refine pGd_go (by rfl) ?_ | refine pGd_no (by rfl) ?_ | refine pN_la hS (by rfl) ?_ | refine pN_v (hk := ?_) | fail)
    exact ⟨rfl, hS.to⟩
  obtain ⟨hwl, htl⟩ := S.right_0 hr1
  obtain ⟨hwm, htm⟩ := S.right_0 hr2
  have hsl : ∀ x ∈ S.sort l, A.wrong x = 0 ∧ x.Data.2.length ≤ 1048576 := fun x hx => ⟨hwl x ((S.sort_perm l).mem_iff.1 hx), (hdl x ((S.sort_perm l).mem_iff.1 hx)).2.1⟩
  have hsm : ∀ x ∈ S.sort m, A.wrong x = 0 ∧ x.Data.2.length ≤ 1048576 := fun x hx => ⟨hwm x ((S.sort_perm m).mem_iff.1 hx), (hdm x ((S.sort_perm m).mem_iff.1 hx)).2.1⟩
  have hLl : (S.list (kutV x0.f_K) (S.sort l)).length ≤ 1099511627776 := S.list_le hk (fun x hx => (hsl x hx).1) (fun x hx => (hsl x hx).2) (by rw [(S.sort_perm l).length_eq]; exact hll)
  have hLm : (S.list (kutV x0.f_K) (S.sort m)).length ≤ 1099511627776 := S.list_le hk (fun x hx => (hsm x hx).1) (fun x hx => (hsm x hx).2) (by rw [(S.sort_perm m).length_eq]; exact hlm)
  repeat' (first | (refine pc_pithlaw36_begin (begin_in x0 hc hk hS ?_); clear hS; intro db w hS) | (refine pc_pithlaw36_right (lright_ok (sl := sl) (its := l) hS (fun x hx => by haveI := (hdl x hx).1; infer_instance) (fun x hx => by have := hdl x hx; omega) (by omega) ?_); clear hS; intro w hS) | (refine pc_pithlaw36_right (lright_ok (sl := sm) (its := m) hS (fun x hx => by haveI := (hdm x hx).1; infer_instance) (fun x hx => by have := hdm x hx; omega) (by omega) ?_); clear hS; intro w hS) | (refine pN_bl (C := cd_sl_api_Item) [.slice sl.a l.length sl.c, .slice sm.a m.length sm.c] [(sl, l), (sm, m)] rfl rfl rfl (Nat.succ_pos _) hS (Nat.le_of_ble_eq_true rfl) ?_; clear hS; intro sq w hS) | (refine pN_neq_s ?_ ?_ <;> intro hc <;> try (exfalso; first | omega | exact hc rfl | exact hc (by assumption) | exact absurd hc (by assumption))) | refine pGd_go (by rfl) ?_ | refine pN_la hS (by rfl) ?_ | refine pN_v (hk := ?_) | fail)
  refine pc_pithlaw36_collide (collide_ok (ll := [(sl, l), (sm, m)]) x0 hk hG hS (Nat.le_of_ble_eq_true rfl) (fun p hp => ?_) (fun w hS => ?_) fun hnc w hS => ?_)
  · rcases List.mem_cons.1 hp with rfl | hp
    · exact ⟨by show Rds cd_api_Item _ sl l; infer_instance, hll, hr1, hLl, fun x hx => ⟨by haveI := (hdl x hx).1; infer_instance, (hdl x hx).2⟩⟩
    · obtain rfl := List.mem_singleton.1 hp
      exact ⟨by show Rds cd_api_Item _ sm m; infer_instance, hlm, hr2, hLm, fun x hx => ⟨by haveI := (hdm x hx).1; infer_instance, (hdm x hx).2⟩⟩
  · repeat' (first | (refine pc_pithlaw36_known (lknown_ok hG hS ?_); clear hS; intro w hS) | refine pIf_t ?_ | refine pGd_go (by rfl) ?_ | refine pN_v (hk := ?_) | fail)
    exact ⟨rfl, hS.to⟩
  have hnc : D.NC (S.univ (kutV x0.f_K) [l, m]) := hnc
  have hUl := S.need_univ (k := kutV x0.f_K) (ls := [l, m]) (l := l) List.mem_cons_self
  have hUm := S.need_univ (k := kutV x0.f_K) (ls := [l, m]) (l := m) (List.mem_cons_of_mem _ List.mem_cons_self)
  have hDl := S.datas_univ (k := kutV x0.f_K) (ls := [l, m]) (l := l) List.mem_cons_self
  have hDm := S.datas_univ (k := kutV x0.f_K) (ls := [l, m]) (l := m) (List.mem_cons_of_mem _ List.mem_cons_self)
  have hrsl := S.rise_of (S.sort_up l) htl
  have hrsm := S.rise_of (S.sort_up m) htm
  generalize kutV x0.f_K = k at *
  generalize S.univ k [l, m] = U at *
  have hI0 := D.in_new k U
  obtain ⟨d1, hd1⟩ : ∃ d1, d1 = S.saved (D.new k) S.nL.1 (S.sort l) := ⟨_, rfl⟩
  obtain ⟨d2, hd2⟩ : ∃ d2, d2 = S.saved d1 S.nM.1 (S.sort m) := ⟨_, rfl⟩
  have hk1 : d1.k = k := by rw [hd1]; exact S.saved_k _ _ _
  have hI1 : d1.In U := by rw [hd1]; exact S.saved_in hI0 hUl _
  have hsv1 : S.save (D.new k) S.nL.1 l = (0, d1) := by rw [hd1]; exact S.save_0 (by decide) hr1
  have hsv2 : S.save d1 S.nM.1 m = (0, d2) := by rw [hd2]; exact S.save_0 (by decide) hr2
  have hlsl : (S.sort l).length < 9223372036854775808 := by rw [(S.sort_perm l).length_eq]; omega
  have hlsm : (S.sort m).length < 9223372036854775808 := by rw [(S.sort_perm m).length_eq]; omega
  have hT1 : S.Tells d2 S.nL.1 (S.ens k l) (D.ids k (S.list k (S.sort l))) := by
    have h := S.saved_tells (d := D.new k) hI0 hnc (fun x hx => (hsl x hx).1) hrsl hlsl hUl S.nL.1
    rw [hd2, hd1]
    rw [S.ens_eq]
    exact S.saved_keeps h (show S.nM.1 ≠ S.nL.1 by decide) _
  have hT2 : S.Tells d2 S.nM.1 (S.ens k m) (D.ids k (S.list k (S.sort m))) := by
    have h := S.saved_tells (d := d1) hI1 hnc (fun x hx => (hsm x hx).1) hrsm hlsm (by rw [hk1]; exact hUm) S.nM.1
    rw [hk1] at h
    rw [hd2, S.ens_eq]
    exact h
  have hG1 : d2.get (D.ids k (S.list k (S.sort l))) = some (S.list k (S.sort l)) := by
    rw [hd2, hd1]
    exact S.saved_get_keep (S.saved_get (d := D.new k) hI0 hnc hUl _)
  have hG2 : d2.get (D.ids k (S.list k (S.sort m))) = some (S.list k (S.sort m)) := by
    have h := S.saved_get (d := d1) hI1 hnc (by rw [hk1]; exact hUm) S.nM.1
    rw [hk1] at h
    rw [hd2]
    exact h
  have hi1 : (D.ids k (S.list k (S.sort l))).length ≤ 1099511627776 := Nat.le_trans (by rw [D.ids, List.length_map]; exact C.pieces_len _ _) hLl
  have hi2 : (D.ids k (S.list k (S.sort m))).length ≤ 1099511627776 := Nat.le_trans (by rw [D.ids, List.length_map]; exact C.pieces_len _ _) hLm
  have hes : (S.ens k l).length = l.length := by unfold S.ens; rw [List.length_map, (S.sort_perm l).length_eq]
  have hfs : (S.ens k m).length = m.length := by unfold S.ens; rw [List.length_map, (S.sort_perm m).length_eq]
  have hse : ∀ e ∈ S.ens k l, e.sums.length ≤ 1099511627776 := fun e he => by
    obtain ⟨x, hx, rfl⟩ := S.mem_ens.1 he
    exact Nat.le_trans (S.ids_bound hk (hdl x hx).2.1) (Nat.le_of_ble_eq_true rfl)
  have hsf : ∀ e ∈ S.ens k m, e.sums.length ≤ 1099511627776 := fun e he => by
    obtain ⟨x, hx, rfl⟩ := S.mem_ens.1 he
    exact Nat.le_trans (S.ids_bound hk (hdm x hx).2.1) (Nat.le_of_ble_eq_true rfl)
  have hbG1 : ∀ q, d2.get (D.ids k (S.list k (S.sort l))) = some q → q.length ≤ 1099511627776 := fun q hq => by rw [hG1] at hq; cases hq; exact hLl
  have hbG2 : ∀ q, d2.get (D.ids k (S.list k (S.sort m))) = some q → q.length ≤ 1099511627776 := fun q hq => by rw [hG2] at hq; cases hq; exact hLm
  have h2w : S.Two k l m U := ⟨hnc, (sort_nodup l).1 htl, (sort_nodup m).1 htm, hDl, hDm⟩
  have hk1l : d1.k.legal := by rw [hk1]; exact hk
  have hS : Sat W w [Dep x0.C db (D.new k), old W] := hS.to
  have hll2 : (S.list (D.new k).k (S.sort l)).length ≤ 1099511627776 := hLl
  have hlm2 : (S.list d1.k (S.sort m)).length ≤ 1099511627776 := by rw [hk1]; exact hLm
  clear hd1 hd2 hUl hUm hLl hLm hG1 hG2 hsl hsm hI0 hI1
  repeat' (first | (refine pc_pithlaw36_num (Lnum_ok _ ?_)) | (refine pc_snap_Save (Save_ok (c := x0.C) (d := D.new k) (its := l) (sl := sl) (n := S.nL) hG hk hS (by decide) (fun x hx => by haveI := (hdl x hx).1; infer_instance) (fun x hx => by have := hdl x hx; omega) (by omega) hll2 ?_); rw [hsv1]; clear hS; intro w hS; dsimp only at hS ⊢) | (refine pc_snap_Save (Save_ok (c := x0.C) (d := d1) (its := m) (sl := sm) (n := S.nM) hG hk1l hS (by decide) (fun x hx => by haveI := (hdm x hx).1; infer_instance) (fun x hx => by have := hdm x hx; omega) (by omega) hlm2 ?_); rw [hsv2]; clear hS; intro w hS; dsimp only at hS ⊢) | (refine pN_neq_s ?_ ?_ <;> intro hc <;> try (exfalso; first | omega | exact hc rfl | exact hc (by assumption) | exact absurd hc (by assumption))) | refine pIf_f ?_ | refine pGd_go (by rfl) ?_ | refine pN_v (hk := ?_) | fail)
  refine pc_snap_Diff (Diff_ok (c := x0.C) hS S.nL S.nM hT1 hT2 hi1 hi2 hbG1 hbG2 (by omega) hse ?_)
  clear hS
  intro sx w hS
  repeat' (first | (refine pc_snap_Diff (Diff_ok (c := x0.C) hS S.nM S.nL hT2 hT1 hi2 hi1 hbG2 hbG1 (by omega) hsf ?_); clear hS; intro sy w hS) | (refine pc_snap_Diff (Diff_ok (c := x0.C) hS S.nL S.nL hT1 hT1 hi1 hi1 hbG1 hbG1 (by omega) hse ?_); clear hS; intro sz w hS) | refine pN_v (hk := ?_) | fail)
  obtain ⟨hnd, hup, hd3⟩ := S.diff_names h2w
  have hnm : ∀ c n, (c, n) ∈ S.diff (S.ens k l) (S.ens k m) → n.length ≤ 1000 := fun c n h => by
    rcases (S.dif_iff h2w).1 ((hd3 c n).1 h) with ⟨_, x, hx, hn, _⟩ | ⟨_, y, hy, hn, _⟩
    · rw [← hn]; exact Nat.le_trans (S.parted_len (S.fine_of (hwl x hx)).name) (by decide)
    · rw [← hn]; exact Nat.le_trans (S.parted_len (S.fine_of (hwm y hy)).name) (by decide)
  clear hd3
  have hcnt := S.diff_count h2w
  have hdb : (S.diff (S.ens k l) (S.ens k m)).length ≤ 2097152 := by
    rw [hcnt]
    have h1 : S.turned m l ≤ l.length := S.turned_le m l
    have h2 : S.came l m ≤ m.length := S.came_le l m
    omega
  have hth := fun c n => S.other_ok (c := c) (n := n) h2w
  have htw := fun t ht a ha n hn => S.told_want (t := t) h2w ht (a := a) ha n hn
  have hta := fun t ht b hb hal n hn => S.told_alone (t := t) h2w ht (b := b) hb hal n hn
  rw [S.diff_self] at hS ⊢
  rw [S.diff_turn (S.ens k l) (S.ens k m)] at hS ⊢
  generalize S.diff (S.ens k l) (S.ens k m) = df at *
  have hxl := chg_len df
  have hyl : (chg (df.map fun p => (S.other p.1, p.2))).length = (chg df).length := by rw [chg_len, chg_len, List.length_map]
  have hzl : (chg ([] : List (Int × List UInt8))).length = 0 := chg_len []
  have hS : Sat W w (rows cd_api_Change sx (chg df) :: rows cd_api_Change sy (chg (df.map fun p => (S.other p.1, p.2))) :: Dep x0.C db d2 :: [old W]) := hS.to
  have hX := fun i => chg_at df i
  have hY := fun i => chg_at (df.map fun p => (S.other p.1, p.2)) i
  rw [hyl]
  generalize hXX : chg df = X at *
  generalize hYY : chg (df.map fun p => (S.other p.1, p.2)) = Y at *
  repeat' (first | (refine pc_pithlaw36_num (Lnum_ok _ ?_)) | (refine pN_mkm hS nke ?_; clear hS; intro tb w hS) | (refine pN_neq_s ?_ ?_ <;> intro hc <;> try (exfalso; first | omega | exact hc rfl | exact hc (by assumption) | exact absurd hc (by assumption))) | refine pIf_f ?_ | refine pGd_go (by rfl) ?_ | refine pN_v (hk := ?_) | fail)
  have h8 : Sat W w (mp nke tb [] :: rows cd_api_Change sx X :: rows cd_api_Change sy Y :: [old W]) := hS.to
  refine ⟨fun v w => ∃ (i : Nat) (t : List (NKey × Int)), v = .int .i64 i ∧ i ≤ X.length ∧ S.toldBy (df.take i) t ∧ Sat W w (mp nke tb (ivs t) :: rows cd_api_Change sx X :: rows cd_api_Change sy Y :: [old W]), fun v _ => X.length - (RowKit.intOf v).toNat, ⟨0, [], rfl, by omega, by rw [List.take_zero]; exact S.toldBy_nil, h8⟩, ?_⟩
  clear hS
  rintro _ _ w ⟨i, t, rfl, hi, ht, hS⟩
  by_cases hlt : i < X.length
  · obtain ⟨⟨c, n⟩, hp⟩ : ∃ p, df[i]? = some p := ⟨df[i]'(by omega), List.getElem?_eq_getElem _⟩
    have hm := List.mem_of_getElem? hp
    obtain ⟨xx, hxi, hxk, hxn⟩ : ∃ xx : T_api_Change, X[i]? = some xx ∧ xx.Kind = c ∧ xx.Name = n := ⟨⟨c, n⟩, by rw [hX, hp]; rfl, rfl, rfl⟩
    obtain ⟨yy, hyi, hyk, hyn⟩ : ∃ yy : T_api_Change, Y[i]? = some yy ∧ yy.Kind = S.other c ∧ yy.Name = xx.Name := ⟨⟨S.other c, n⟩, by rw [hY, List.getElem?_map, hp]; rfl, rfl, hxn.symm⟩
    subst hxn
    have hnl := hnm c xx.Name hm
    have hnext := S.toldBy_put (n := ⟨xx.Name, hnl⟩) ht hp hnd
    have hprev : i = 0 ∨ ∃ q : T_api_Change, X[i - 1]? = some q ∧ (Op.bytesLess xx.Name q.Name || xx.Name == q.Name) = false ∧ 0 < i := by
      by_cases h0 : i = 0
      · exact .inl h0
      · obtain ⟨⟨c', n'⟩, hq⟩ : ∃ p, df[i - 1]? = some p := ⟨df[i - 1]'(by omega), List.getElem?_eq_getElem _⟩
        refine .inr ⟨⟨c', n'⟩, by rw [hX, hq]; rfl, ?_, by omega⟩
        have h1 : (df.map (·.2))[i - 1]? = some n' := by rw [List.getElem?_map, hq]; rfl
        have h2 : (df.map (·.2))[i]? = some xx.Name := by rw [List.getElem?_map, hp]; rfl
        obtain ⟨l1, e1⟩ := List.getElem?_eq_some_iff.1 h1
        obtain ⟨l2, e2⟩ := List.getElem?_eq_some_iff.1 h2
        have h3 := List.pairwise_iff_getElem.1 hup (i - 1) i l1 l2 (by omega)
        rw [e1, e2] at h3
        have h4 : Op.bytesLess xx.Name n' = false := S.less_ord.asym h3
        have h5 : xx.Name ≠ n' := fun e => by rw [e, S.less_irr] at h3; cases h3
        show (Op.bytesLess xx.Name n' || xx.Name == n') = false
        rw [h4, Bool.false_or]
        exact beq_eq_false_iff_ne.2 h5
    obtain ⟨kk, hkk, hk1', hk3', hko⟩ : ∃ kk : Nat, xx.Kind = (kk : Int) ∧ 1 ≤ kk ∧ kk ≤ 3 ∧ ([0, 2, 1, 3] : List Int)[kk]? = some yy.Kind := by
      rw [hyk, hxk]
      rcases hth c xx.Name hm with rfl | rfl | rfl
      · exact ⟨1, rfl, by decide, by decide, rfl⟩
      · exact ⟨2, rfl, by decide, by decide, rfl⟩
      · exact ⟨3, rfl, by decide, by decide, rfl⟩
    have hfin : ∀ w, Sat W w (mp nke tb (mput (ivs t) ⟨xx.Name, hnl⟩ (.int .i64 xx.Kind)) :: rows cd_api_Change sx X :: rows cd_api_Change sy Y :: [old W]) → ∃ (j : Nat) (t : List (NKey × Int)), Value.int .i64 ((i : Int) + 1) = .int .i64 j ∧ j ≤ X.length ∧ S.toldBy (df.take j) t ∧ Sat W w (mp nke tb (ivs t) :: rows cd_api_Change sx X :: rows cd_api_Change sy Y :: [old W]) := fun w hS => by
      rw [ivs_put, hxk] at hS
      exact ⟨i + 1, _, rfl, hlt, hnext, hS⟩
    clear hnext ht hxk hyk
    rcases hprev with h0 | ⟨q, hq, hle, h0⟩
    · repeat' (first | refine pN_ixk hS i (by omega) (by omega) hxi fun ad ha hel => ?_ | refine pA_ixk hS i (by omega) (by omega) hyi fun ad ha hel => ?_ | refine pA_ixk hS kk hkk rfl hko fun ad ha hel => ?_ | (refine pA_neq_ss (l := yy.Name) (r := xx.Name) ?_ ?_ <;> intro hc <;> try (exact absurd hyn hc)) | (refine pN_bl (C := cd_int) [.int .i64 0, .int .i64 2, .int .i64 1, .int .i64 3] [0, 2, 1, 3] rfl rfl rfl (Nat.succ_pos _) hS (Nat.le_of_ble_eq_true rfl) ?_; clear hS; intro so w hS) | (refine pN_mup (P := Tryz.prog) (t := 43) (ke := nke) (b := tb) hS ⟨xx.Name, hnl⟩ (.int .i64 xx.Kind) ?_; clear hS; intro w hS) | ((first | refine pN_lss_s ?_ ?_ | refine pA_lss_s ?_ ?_ | refine pA_gtr_s ?_ ?_) <;> intro hc <;> try (exfalso; omega)) | (refine pA_neq_s ?_ ?_ <;> intro hc <;> try (exfalso; first | omega | exact hc rfl | exact hc (by assumption) | exact absurd hc (by assumption))) | refine pIf_t ?_ | refine pIf_f ?_ | refine gA_go (by rfl) ?_ | refine gA_no (by rfl) ?_ | refine pN_l hS (by first | rfl | assumption) ?_ | refine pL_l hS (by first | rfl | assumption) ?_ | refine pL_ld1 ha hS ?_ | refine pN_ld_at ha hS (by rfl) ?_ | refine pA_fa ha (by rfl) fun a ha => ?_ | (refine pN_sa hS (by rfl) (by rfl) (by rfl) ?_; clear hS; intro w hS; try dsimp only at hS) | (refine pDr_go hS ?_; clear hS; intro w hS) | (refine pN_nz hS ?_; clear hS; intro a w hS) | refine pN_v (hk := ?_) | refine pA_v (hk := ?_) | fail)
      exact ⟨hfin _ hS.to, by simp [RowKit.intOf] <;> omega⟩
    · repeat' (first | refine pN_ixk hS i (by omega) (by omega) hxi fun ad ha hel => ?_ | refine pA_ixk hS i (by omega) (by omega) hyi fun ad ha hel => ?_ | refine pA_ixk hS kk hkk rfl hko fun ad ha hel => ?_ | refine pA_ixk hS (i - 1) (by omega) (by omega) hq fun ad ha hel => ?_ | (rw [pA_leq_l, hle]) | (refine pA_neq_ss (l := yy.Name) (r := xx.Name) ?_ ?_ <;> intro hc <;> try (exact absurd hyn hc)) | (refine pN_bl (C := cd_int) [.int .i64 0, .int .i64 2, .int .i64 1, .int .i64 3] [0, 2, 1, 3] rfl rfl rfl (Nat.succ_pos _) hS (Nat.le_of_ble_eq_true rfl) ?_; clear hS; intro so w hS) | (refine pN_mup (P := Tryz.prog) (t := 43) (ke := nke) (b := tb) hS ⟨xx.Name, hnl⟩ (.int .i64 xx.Kind) ?_; clear hS; intro w hS) | ((first | refine pN_lss_s ?_ ?_ | refine pA_lss_s ?_ ?_ | refine pA_gtr_s ?_ ?_) <;> intro hc <;> try (exfalso; omega)) | (refine pA_neq_s ?_ ?_ <;> intro hc <;> try (exfalso; first | omega | exact hc rfl | exact hc (by assumption) | exact absurd hc (by assumption))) | refine pIf_t ?_ | refine pIf_f ?_ | refine gA_go (by rfl) ?_ | refine pN_l hS (by first | rfl | assumption) ?_ | refine pL_l hS (by first | rfl | assumption) ?_ | refine pL_ld1 ha hS ?_ | refine pN_ld_at ha hS (by rfl) ?_ | refine pA_fa ha (by rfl) fun a ha => ?_ | (refine pN_sa hS (by rfl) (by rfl) (by rfl) ?_; clear hS; intro w hS; try dsimp only at hS) | (refine pDr_go hS ?_; clear hS; intro w hS) | (refine pN_nz hS ?_; clear hS; intro a w hS) | refine pN_v (hk := ?_) | refine pA_v (hk := ?_) | fail)
      exact ⟨hfin _ hS.to, by simp [RowKit.intOf] <;> omega⟩
  obtain rfl : i = X.length := by omega
  rw [hxl, List.take_length] at ht
  clear hX hY hup hnd hth hnm
  repeat' (first | (refine pN_lss_s ?_ ?_ <;> intro hc <;> try (exfalso; omega)) | refine pIf_f ?_ | refine pN_v (hk := ?_) | fail)
  refine ⟨fun v v' w => ∃ i : Nat, v = .int .i64 (S.turned m (l.take i) : Nat) ∧ v' = .int .i64 i ∧ i ≤ l.length ∧ Sat W w (mp nke tb (ivs t) :: rows cd_api_Change sx X :: [old W]), fun _ v _ => l.length - (RowKit.intOf v).toNat, ⟨0, by rw [List.take_zero, S.turned_nil]; rfl, rfl, by omega, hS.to⟩, ?_⟩
  clear hS
  rintro _ _ _ w ⟨i, rfl, rfl, hi, hS⟩
  have htl1 := S.turned_le m (l.take i)
  have htl2 : (l.take i).length ≤ l.length := by rw [List.length_take]; omega
  by_cases hlt : i < l.length
  · obtain ⟨u, hu⟩ : ∃ a, l[i]? = some a := ⟨l[i], List.getElem?_eq_getElem _⟩
    have hum := List.mem_of_getElem? hu
    have hnx := S.turned_take (m := m) hu
    have hnl : u.Name.length ≤ 1000 := Nat.le_trans (S.parted_len (S.fine_of (hwl u hum)).name) (by decide)
    have hwt := htw t ht u hum ⟨u.Name, hnl⟩ rfl
    haveI := (hdl u hum).1
    repeat' (first | (refine pN_lss_s ?_ ?_ <;> intro hc <;> try (exfalso; omega)) | refine pIf_t ?_ | fail)
    refine ⟨fun v w => v = .int .i64 (S.turned m (l.take (i + 1)) : Nat) ∧ Sat W w (mp nke tb (ivs t) :: rows cd_api_Change sx X :: [old W]), ?_, ?_⟩
    · repeat' (first | refine pN_ixk hS i (by omega) (by omega) hu fun ad ha hel => ?_ | refine pN_ld_at ha hS (by rfl) ?_ | (refine pN_sa hS (by rfl) (by rfl) (by rfl) ?_; clear hS; intro w hS; try dsimp only at hS) | (refine pN_nz hS ?_; clear hS; intro a w hS) | refine pN_v (hk := ?_) | fail)
      refine ⟨fun v v' w => ∃ j : Nat, v = .int .i64 (S.wantOf (m.take j) u) ∧ v' = .int .i64 j ∧ j ≤ m.length ∧ Sat W w (cel a ⟨49, cd_api_Item.enc u⟩ :: mp nke tb (ivs t) :: rows cd_api_Change sx X :: [old W]), fun _ v _ => m.length - (RowKit.intOf v).toNat, ⟨0, by rw [List.take_zero, S.wantOf_nil], rfl, by omega, hS.to⟩, ?_⟩
      clear hS
      rintro _ _ _ w ⟨j, rfl, rfl, hj, hS⟩
      by_cases hlj : j < m.length
      · obtain ⟨y, hy⟩ : ∃ a, m[j]? = some a := ⟨m[j], List.getElem?_eq_getElem _⟩
        have hym := List.mem_of_getElem? hy
        have hwx := S.wantOf_take (a := u) hy
        haveI := (hdm y hym).1
        repeat' (first | (refine pN_lss_s ?_ ?_ <;> intro hc <;> try (exfalso; omega)) | refine pIf_t ?_ | fail)
        refine ⟨fun v w => v = .int .i64 (S.wantOf (m.take (j + 1)) u) ∧ Sat W w (cel a ⟨49, cd_api_Item.enc u⟩ :: mp nke tb (ivs t) :: rows cd_api_Change sx X :: [old W]), ?_, ?_⟩
        · by_cases he : u.Name = y.Name
          · cases hs : S.same u y with
            | true =>
              rw [if_pos ⟨he, hs⟩] at hwx
              repeat' (first | refine pN_ixk hS j (by omega) (by omega) hy fun ad ha hel => ?_ | (refine pc_pithlaw36_same (lsame_ok u y hS ?_); rw [hs]; clear hS; intro w hS) | (refine pN_eql_ss ?_ ?_ <;> intro hc <;> try (exfalso; first | omega | exact hc rfl | exact hc (by assumption) | exact absurd hc (by assumption))) | refine pIf_t ?_ | refine pGd_go (by rfl) ?_ | refine pN_l hS (by first | rfl | assumption) ?_ | refine pN_ld_at ha hS (by rfl) ?_ | refine pN_la hS (by rfl) ?_ | (refine pN_sa hS (by rfl) (by rfl) (by rfl) ?_; clear hS; intro w hS; try dsimp only at hS) | (refine pN_nz hS ?_; clear hS; intro a w hS) | refine pN_v (hk := ?_) | fail)
              exact ⟨by rw [hwx], hS.to⟩
            | false =>
              rw [if_neg (fun h => by rw [hs] at h; cases h.2), if_pos he] at hwx
              repeat' (first | refine pN_ixk hS j (by omega) (by omega) hy fun ad ha hel => ?_ | (refine pc_pithlaw36_same (lsame_ok u y hS ?_); rw [hs]; clear hS; intro w hS) | (refine pN_eql_ss ?_ ?_ <;> intro hc <;> try (exfalso; first | omega | exact hc rfl | exact hc (by assumption) | exact absurd hc (by assumption))) | refine pIf_t ?_ | refine pIf_f ?_ | refine pGd_go (by rfl) ?_ | refine pN_l hS (by first | rfl | assumption) ?_ | refine pN_ld_at ha hS (by rfl) ?_ | refine pN_la hS (by rfl) ?_ | (refine pN_sa hS (by rfl) (by rfl) (by rfl) ?_; clear hS; intro w hS; try dsimp only at hS) | (refine pN_nz hS ?_; clear hS; intro a w hS) | refine pN_v (hk := ?_) | fail)
              exact ⟨by rw [hwx], hS.to⟩
          · rw [if_neg (fun h => he h.1), if_neg he] at hwx
            repeat' (first | refine pN_ixk hS j (by omega) (by omega) hy fun ad ha hel => ?_ | (refine pN_eql_ss ?_ ?_ <;> intro hc <;> try (exfalso; first | omega | exact hc rfl | exact hc (by assumption) | exact absurd hc (by assumption))) | refine pIf_f ?_ | refine pGd_no (by rfl) ?_ | refine pN_l hS (by first | rfl | assumption) ?_ | refine pN_ld_at ha hS (by rfl) ?_ | (refine pN_sa hS (by rfl) (by rfl) (by rfl) ?_; clear hS; intro w hS; try dsimp only at hS) | (refine pN_nz hS ?_; clear hS; intro a w hS) | refine pN_v (hk := ?_) | fail)
            exact ⟨by rw [hwx], hS.to⟩
        · clear hS
          rintro _ _ w ⟨rfl, hS⟩
          repeat' (first | refine pN_v (hk := ?_) | fail)
          exact ⟨⟨j + 1, rfl, rfl, by omega, hS⟩, by simp [RowKit.intOf] <;> omega⟩
      obtain rfl : j = m.length := by omega
      rw [List.take_length]
      repeat' (first | (refine pN_lk (P := Tryz.prog) (t := 43) (ke := nke) (b := tb) hS ⟨u.Name, hnl⟩ ?_; rw [ivs_getD, hwt]) | (refine pN_lss_s ?_ ?_ <;> intro hc <;> try (exfalso; omega)) | (refine pN_neq_s ?_ ?_ <;> intro hc <;> try (exfalso; first | omega | exact hc rfl | exact hc (by assumption) | exact absurd hc (by assumption))) | refine pIf_t ?_ | refine pIf_f ?_ | refine pN_l hS (by first | rfl | assumption) ?_ | refine pN_v (hk := ?_) | fail)
      · exact ⟨by rw [hnx, if_neg (fun h => h hc)]; rfl, hS.to⟩
      · exact ⟨by rw [hnx, if_pos hc]; rfl, hS.to⟩
    · clear hS
      rintro _ _ w ⟨rfl, hS⟩
      repeat' (first | refine pN_v (hk := ?_) | fail)
      exact ⟨⟨i + 1, rfl, rfl, by omega, hS⟩, by simp [RowKit.intOf] <;> omega⟩
  obtain rfl : i = l.length := by omega
  rw [List.take_length] at htl1 ⊢
  clear hi hlt
  repeat' (first | (refine pN_lss_s ?_ ?_ <;> intro hc <;> try (exfalso; omega)) | refine pIf_f ?_ | refine pN_v (hk := ?_) | fail)
  refine ⟨fun v v' w => ∃ i : Nat, v = .int .i64 (S.turned m l + S.came l (m.take i) : Nat) ∧ v' = .int .i64 i ∧ i ≤ m.length ∧ Sat W w (mp nke tb (ivs t) :: rows cd_api_Change sx X :: [old W]), fun _ v _ => m.length - (RowKit.intOf v).toNat, ⟨0, by rw [List.take_zero, S.came_nil]; rfl, rfl, by omega, hS.to⟩, ?_⟩
  clear hS
  rintro _ _ _ w ⟨i, rfl, rfl, hi, hS⟩
  have hcl1 := S.came_le l (m.take i)
  have hcl2 : (m.take i).length ≤ m.length := by rw [List.length_take]; omega
  by_cases hlt : i < m.length
  · obtain ⟨y, hy⟩ : ∃ a, m[i]? = some a := ⟨m[i], List.getElem?_eq_getElem _⟩
    have hym := List.mem_of_getElem? hy
    have hnx := S.came_take (l := l) hy
    have hnl : y.Name.length ≤ 1000 := Nat.le_trans (S.parted_len (S.fine_of (hwm y hym)).name) (by decide)
    have hta2 := fun h => hta t ht y hym h ⟨y.Name, hnl⟩ rfl
    repeat' (first | (refine pN_lss_s ?_ ?_ <;> intro hc <;> try (exfalso; omega)) | refine pIf_t ?_ | fail)
    refine ⟨fun v w => v = .int .i64 (S.turned m l + S.came l (m.take (i + 1)) : Nat) ∧ Sat W w (mp nke tb (ivs t) :: rows cd_api_Change sx X :: [old W]), ?_, ?_⟩
    · repeat' (first | refine pN_ixk hS i (by omega) (by omega) hy fun ad ha hel => ?_ | refine pN_ld_at ha hS (by rfl) ?_ | (refine pN_sa hS (by rfl) (by rfl) (by rfl) ?_; clear hS; intro w hS; try dsimp only at hS) | (refine pN_nz hS ?_; clear hS; intro a w hS) | refine pN_v (hk := ?_) | fail)
      refine ⟨fun v v' w => ∃ j : Nat, v = .bool (S.alone (l.take j) y) ∧ v' = .int .i64 j ∧ j ≤ l.length ∧ Sat W w (cel a ⟨49, cd_api_Item.enc y⟩ :: mp nke tb (ivs t) :: rows cd_api_Change sx X :: [old W]), fun _ v _ => l.length - (RowKit.intOf v).toNat, ⟨0, by rw [List.take_zero, S.alone_nil], rfl, by omega, hS.to⟩, ?_⟩
      clear hS
      rintro _ _ _ w ⟨j, rfl, rfl, hj, hS⟩
      by_cases hlj : j < l.length
      · obtain ⟨u, hu⟩ : ∃ a, l[j]? = some a := ⟨l[j], List.getElem?_eq_getElem _⟩
        have hax := S.alone_take (b := y) hu
        cases hal : S.alone (l.take j) y with
        | false =>
          rw [hal, Bool.false_and] at hax
          repeat' (first | refine pN_ixk hS j (by omega) (by omega) hu fun ad ha hel => ?_ | (refine pN_lss_s ?_ ?_ <;> intro hc <;> try (exfalso; omega)) | refine pIf_t ?_ | refine pGd_no (by rfl) ?_ | refine pN_ld_at ha hS (by rfl) ?_ | (refine pN_sa hS (by rfl) (by rfl) (by rfl) ?_; clear hS; intro w hS; try dsimp only at hS) | (refine pN_nz hS ?_; clear hS; intro a w hS) | refine pN_v (hk := ?_) | fail)
          exact ⟨⟨j + 1, by rw [hax], rfl, by omega, hS.to⟩, by simp [RowKit.intOf] <;> omega⟩
        | true =>
          rw [hal, Bool.true_and] at hax
          by_cases he : u.Name = y.Name
          · rw [decide_eq_false (fun h => h he)] at hax
            repeat' (first | refine pN_ixk hS j (by omega) (by omega) hu fun ad ha hel => ?_ | (refine pN_lss_s ?_ ?_ <;> intro hc <;> try (exfalso; omega)) | (refine pN_neq_ss ?_ ?_ <;> intro hc <;> try (exfalso; first | omega | exact hc rfl | exact hc (by assumption) | exact absurd hc (by assumption))) | refine pIf_t ?_ | refine pGd_go (by rfl) ?_ | refine pN_l hS (by first | rfl | assumption) ?_ | refine pN_ld_at ha hS (by rfl) ?_ | (refine pN_sa hS (by rfl) (by rfl) (by rfl) ?_; clear hS; intro w hS; try dsimp only at hS) | (refine pN_nz hS ?_; clear hS; intro a w hS) | refine pN_v (hk := ?_) | fail)
            exact ⟨⟨j + 1, by rw [hax], rfl, by omega, hS.to⟩, by simp [RowKit.intOf] <;> omega⟩
          · rw [decide_eq_true he] at hax
            repeat' (first | refine pN_ixk hS j (by omega) (by omega) hu fun ad ha hel => ?_ | (refine pN_lss_s ?_ ?_ <;> intro hc <;> try (exfalso; omega)) | (refine pN_neq_ss ?_ ?_ <;> intro hc <;> try (exfalso; first | omega | exact hc rfl | exact hc (by assumption) | exact absurd hc (by assumption))) | refine pIf_t ?_ | refine pGd_go (by rfl) ?_ | refine pN_l hS (by first | rfl | assumption) ?_ | refine pN_ld_at ha hS (by rfl) ?_ | (refine pN_sa hS (by rfl) (by rfl) (by rfl) ?_; clear hS; intro w hS; try dsimp only at hS) | (refine pN_nz hS ?_; clear hS; intro a w hS) | refine pN_v (hk := ?_) | fail)
            exact ⟨⟨j + 1, by rw [hax], rfl, by omega, hS.to⟩, by simp [RowKit.intOf] <;> omega⟩
      obtain rfl : j = l.length := by omega
      rw [List.take_length]
      cases hal : S.alone l y with
      | false =>
        rw [hal, if_neg (by decide)] at hnx
        repeat' (first | (refine pN_lss_s ?_ ?_ <;> intro hc <;> try (exfalso; omega)) | refine pIf_f ?_ | fail)
        refine ⟨fun v w => v = .int .i64 (S.turned m l + S.came l (m.take (i + 1)) : Nat) ∧ Sat W w (cel a ⟨49, cd_api_Item.enc y⟩ :: mp nke tb (ivs t) :: rows cd_api_Change sx X :: [old W]), ?_, ?_⟩
        · repeat' (first | refine pIf_f ?_ | fail)
          exact ⟨by rw [hnx]; rfl, hS.to⟩
        · clear hS
          rintro _ _ w ⟨rfl, hS⟩
          repeat' (first | refine pIf_f ?_ | refine pGd_no (by rfl) ?_ | refine pN_v (hk := ?_) | fail)
          exact ⟨rfl, hS.to⟩
      | true =>
        rw [hal, if_pos rfl] at hnx
        have hlk := hta2 hal
        repeat' (first | (refine pN_lss_s ?_ ?_ <;> intro hc <;> try (exfalso; omega)) | refine pIf_f ?_ | fail)
        refine ⟨fun v w => v = .int .i64 (S.turned m l + S.came l (m.take (i + 1)) : Nat) ∧ Sat W w (cel a ⟨49, cd_api_Item.enc y⟩ :: mp nke tb (ivs t) :: rows cd_api_Change sx X :: [old W]), ?_, ?_⟩
        · repeat' (first | refine pIf_t ?_ | refine pN_v (hk := ?_) | fail)
          exact ⟨by rw [hnx]; rfl, hS.to⟩
        · clear hS
          rintro _ _ w ⟨rfl, hS⟩
          repeat' (first | (refine pN_lk (P := Tryz.prog) (t := 43) (ke := nke) (b := tb) hS ⟨y.Name, hnl⟩ ?_; rw [ivs_getD, hlk]; show pGd _ _ _ _) | (refine pN_neq_s ?_ ?_ <;> intro hc <;> try (exfalso; first | omega | exact hc rfl | exact hc (by assumption) | exact absurd hc (by assumption))) | refine pIf_f ?_ | refine pGd_go (by rfl) ?_ | refine pN_l hS (by first | rfl | assumption) ?_ | refine pN_v (hk := ?_) | fail)
          exact ⟨rfl, hS.to⟩
    · clear hS
      rintro _ _ w ⟨rfl, hS⟩
      repeat' (first | refine pN_v (hk := ?_) | fail)
      exact ⟨⟨i + 1, rfl, rfl, by omega, hS⟩, by simp [RowKit.intOf] <;> omega⟩
  obtain rfl : i = m.length := by omega
  rw [List.take_length]
  have hfin : ((S.turned m l + S.came l m : Nat) : Int) = (X.length : Int) := by rw [hxl, hcnt]
  rw [hfin]
  repeat' (first | (refine pc_pithlaw36_known (lknown_ok hG hS ?_); clear hS; intro w hS) | (refine pN_lss_s ?_ ?_ <;> intro hc <;> try (exfalso; omega)) | (refine pN_eql_s ?_ ?_ <;> intro hc <;> try (exfalso; first | omega | exact hc rfl | exact hc (by assumption) | exact absurd hc (by assumption))) | refine pIf_f ?_ | refine pGd_go (by rfl) ?_ | refine pN_v (hk := ?_) | fail)
  exact ⟨rfl, hS.to⟩
end Go.Proofs.YtikmogfhhggafaaGreatDoor
