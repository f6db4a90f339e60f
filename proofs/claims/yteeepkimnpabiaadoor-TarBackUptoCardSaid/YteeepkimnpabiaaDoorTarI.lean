/-
  Items: the items of an archive one after the other; Read.
-/
import Derived.Test.YteeepkimnpabiaaDoorTarR
import Derived.Test.YteeepkimnpabiaaDoorLrTar
import Derived.Test.YteeepkimnpabiaaDoorRndS
namespace Go.Proofs.YteeepkimnpabiaaDoor
open Go
set_option linter.unusedSimpArgs false
set_option linter.unnecessarySimpa false
set_option linter.unusedSectionVars false
set_option linter.unusedVariables false

def slN : Value → Nat
  | .slice _ n _ => n
  | _ => 0
namespace A
/-- Does an item stand there? -/
def goes (l : List UInt8) : Prop := 512 ≤ l.length ∧ ¬ Zs (l.take 512)
instance (l : List UInt8) : Decidable (goes l) := inferInstanceAs (Decidable (_ ∧ _))
def endE (l : List UInt8) : Int := if l.length < 1024 then 1 else if 1024 < l.length ∨ ¬ Zs l then 2 else 0
/-- An archive: where each item begins; the error at the end. -/
def arch (l : List UInt8) : List (List UInt8) × Int :=
  if h : goes l then (if getE l = 0 then (l :: (arch (l.drop (getN l))).1, (arch (l.drop (getN l))).2) else ([], getE l)) else ([], endE l)
termination_by l.length
decreasing_by all_goals (have := h.1; rw [List.length_drop, getN]; omega)
theorem arch_no {l : List UInt8} (h : ¬ goes l) : arch l = ([], endE l) := by rw [arch, dif_neg h]
theorem arch_err {l : List UInt8} (h : goes l) (he : getE l ≠ 0) : arch l = ([], getE l) := by rw [arch, dif_pos h, if_neg he]
theorem arch_go {l : List UInt8} (h : goes l) (he : getE l = 0) : arch l = (l :: (arch (l.drop (getN l))).1, (arch (l.drop (getN l))).2) := by rw [arch, dif_pos h, if_pos he]
theorem getN_le {l : List UInt8} (h : getE l = 0) : 512 ≤ l.length ∧ getN l ≤ l.length ∧ 512 ≤ getN l := by
  unfold getE at h
  split at h
  · omega
  · rename_i h1
    split at h
    · omega
    · unfold getE2 at h
      split at h
      · omega
      · split at h
        · omega
        · unfold getN
          omega
theorem getE_cases (l : List UInt8) : getE l = 0 ∨ getE l = 1 ∨ getE l = 2 ∨ getE l = 3 := by
  unfold getE getE2
  repeat' split
  all_goals simp
end A

attribute [local irreducible] oMv oV oU oCall oCallV oBi oBin oUn oLoad oStore oNil oFld oField oIdx oIndex oPick oAlloc oBox oBuild oBs oConv oMk oSl oExt oFn oIface oMap oLook oMapUp oRange oNext oAssert oPanic oRes pN pA pL pDr pIf gA pGd Calls A.made A.header A.oct A.wrong A.padn A.putB A.fS A.num A.text A.readTo A.getE A.getX A.getL mkW bgW enW rfW jmpW pY pE
section
variable {E w : World} {K Q : Value → World → Prop} {L M : List HA} {l r : List UInt8} {s s2 : Sl}

set_option maxHeartbeats 4000000 in
/-- One after the other, whatever is done with each. -/
theorem Items_c1_ok {yl : Value} {cb : Nat} (B : Nat → List HA → Prop) (Bx : List HA → Prop) (hB0 : B 0 L) (hS : Sat E w L) [hc : Fnd (cel cb) L ⟨22, [.slice s.a l.length s.c]⟩ M]
    (hrd : ∀ k L, B k L → Rds cd_uint8 L s l) (hl : l.length ≤ 140737488355328)
    (hY : ∀ (R : HA) (k : Nat) (m : List UInt8) (L : List HA) (s : Sl) (w : World), (A.arch l).1[k]? = some m → B k L → Sat E w (R :: rows cd_uint8 s (A.getL m) :: L) →
      pY Tryd.prog (oCallV yl [.agg (A.getX m s).enc.toArray, .int .i64 0]) w fun v w' => (v = .bool true ∧ ∃ L', B (k + 1) L' ∧ Sat E w' (R :: L')) ∨ (v = .bool false ∧ ∃ L', Bx L' ∧ Sat E w' (R :: L')))
    (hE : ∀ (R : HA) (L : List HA) (w : World), (A.arch l).2 ≠ 0 → B (A.arch l).1.length L → Sat E w (R :: L) →
      pY Tryd.prog (oCallV yl [.agg T_api_Item.zero.enc.toArray, .int .i64 (A.arch l).2]) w fun v w' => ∃ b : Bool, v = .bool b ∧ ∃ L', Bx L' ∧ Sat E w' (R :: L'))
    (hQ1 : (A.arch l).2 = 0 → ∀ L w, B (A.arch l).1.length L → Sat E w L → Q (.tuple #[]) w) (hQ2 : ∀ L w, Bx L → Sat E w L → Q (.tuple #[]) w) :
    Calls Tryd.prog 42 #[yl, .pointer (some ⟨cb, 0, none⟩)] w (retP Q) := by
  obtain ⟨al, ae, hal⟩ : ∃ al ae, A.arch l = (al, ae) := ⟨_, _, rfl⟩
  have hal1 : al = (A.arch l).1 := by rw [hal]
  have hal2 : ae = (A.arch l).2 := by rw [hal]
  rw [hal] at hY hE hQ1
  dsimp only at hY hE hQ1
  refine tar_Items_c1R.calls ?_
  unfold tar_Items_c1R.F
  haveI hr := hrd 0 L hB0
  repeat' (first | refine pN_l hS (by first | rfl | assumption) ?_ | fail)
  refine ⟨fun ms v w => ms = [] ∧ ∃ (s1 : Sl) (m : List UInt8) (pre : List (List UInt8)) (L : List HA), v = .slice s1.a m.length s1.c ∧ (∀ L, Rds cd_uint8 L s l → Rds cd_uint8 L s1 m) ∧ m.length ≤ 140737488355328 ∧ B pre.length L ∧ Sat E w L ∧ al = pre ++ (A.arch m).1 ∧ ae = (A.arch m).2,
    fun v _ => slN v, ⟨rfl, s, l, [], L, rfl, fun _ h => h, hl, hB0, hS, hal1, hal2⟩, ?_⟩
  clear hS hr hB0 hc hal hal1 hal2
  rintro _ _ _ w ⟨rfl, s1, m, pre, L, rfl, hp, hm, hB, hS, ha, he⟩
  haveI hr : Rds cd_uint8 L s1 m := hp L (hrd _ _ hB)
  by_cases hg : A.goes m
  · have hm5 := hg.1
    have hlt : (m.take 512).length = 512 := by rw [List.length_take]; omega
    have hnz := hg.2
    repeat' (first | (refine pN_geq_s ?_ ?_ <;> intro hc <;> try (exfalso; omega)) | refine pGd_go (by rfl) ?_ | refine pN_via (by (intro K; simp (disch := omega) only [go_sem, pN_min, pN_max, w_u32, w_u64, Option.isNone_some, Option.isNone_none]; (try simp only [wrap_u32, wrap_u64]); rfl)) ?_ | fail)
    refine pN_slhw (C := cd_uint8) (s := s1) (l := m) hS 512 rfl rfl (by omega) ?_
    intro hp5
    repeat' (first | refine pGd_go (by rfl) ?_ | fail)
    refine pc_tar_zero (zero_n hlt.symm hS hp5 ?_)
    rw [decide_eq_false hnz]
    repeat' (first | refine pIf_t ?_ | refine pGd_go (by rfl) ?_ | refine pN_via (by (intro K; simp (disch := omega) only [go_sem, pN_min, pN_max, w_u32, w_u64, Option.isNone_some, Option.isNone_none]; (try simp only [wrap_u32, wrap_u64]); rfl)) ?_ | fail)
    refine pc_tar_Get (Get_ok (s := s1) (l := m) hS hm (fun hne w hS => ?_) fun h0 s2 w hS => ?_)
    · have har := A.arch_err hg hne
      rw [har] at ha he
      rw [List.append_nil] at ha
      have he : ae = A.getE m := he
      have hlen : al.length = pre.length := by rw [ha]
      rw [← he] at hne ⊢
      rw [← hlen] at hB
      repeat' (first | refine pN_la hS (by rfl) ?_ | (refine pN_sa hS (by rfl) (by rfl) (by rfl) ?_; clear hS; intro w hS; try dsimp only at hS) | (refine pN_nz hS ?_; clear hS; intro a w hS) | refine pN_via (by (intro K; simp (disch := omega) only [go_sem, pN_min, pN_max, w_u32, w_u64, Option.isNone_some, Option.isNone_none]; (try simp only [wrap_u32, wrap_u64]); rfl)) ?_ | fail)
      refine pY_mono (hE _ L w hne hB hS) ?_
      clear hS
      rintro _ w ⟨b, rfl, L', hX, hS⟩
      have hS : Sat E w L' := hS.drop
      cases b
      all_goals
        repeat' (first | refine mk_nil ?_ | (refine pN_neq_s ?_ ?_ <;> intro hc <;> try (exfalso; first | omega | exact hc rfl | exact hc (by assumption) | exact absurd hc (by assumption))) | refine pIf_t ?_ | refine pGd_go (by rfl) ?_ | refine pGd_no (by rfl) ?_ | refine pN_via (by (intro K; simp (disch := omega) only [go_sem, pN_min, pN_max, w_u32, w_u64, Option.isNone_some, Option.isNone_none]; (try simp only [wrap_u32, wrap_u64]); rfl)) ?_ | fail)
        exact hQ2 _ _ hX hS
    · have har := A.arch_go hg h0
      obtain ⟨_, hn1, hn2⟩ := A.getN_le h0
      rw [har] at ha he
      have he : ae = (A.arch (m.drop (A.getN m))).2 := he
      have hk : al[pre.length]? = some m := by rw [ha]; simp
      have hgx : (A.getX m s2).enc = [.string ⟨(A.getX m s2).Name.toArray⟩, .string ⟨(A.getX m s2).Link.toArray⟩, .int .i64 (A.getX m s2).Kind, .int .i64 (A.getX m s2).Mode, .int .i64 (A.getX m s2).Time, .slice (A.getX m s2).Data.1.a (A.getX m s2).Data.2.length (A.getX m s2).Data.1.c] := rfl
      have hcn : (A.getX m s2).enc.all (·.oneCell') = true := by rw [hgx]; rfl
      have hln : (A.getX m s2).enc.length = 6 := rfl
      have hYk := fun w L => hY (cel w ⟨24, (A.getX m s2).enc⟩) pre.length m L s2
      generalize hxe : (A.getX m s2).enc = xe at *
      repeat' (first | (refine pN_nz hS ?_; clear hS; intro a w hS) | refine pN_via (by (intro K; simp (disch := omega) only [go_sem, pN_min, pN_max, w_u32, w_u64, Option.isNone_some, Option.isNone_none]; (try simp only [wrap_u32, wrap_u64]); rfl)) ?_ | fail)
      refine pN_sa (us := xe) hS hln.symm (by exact hln) hcn ?_
      clear hS
      intro w hS
      repeat' (first | refine pN_la hS (by exact hln.symm) ?_ | fail)
      refine pY_mono (hYk _ _ _ hk hB hS) ?_
      clear hS
      rintro _ w (⟨rfl, L', hB', hS⟩ | ⟨rfl, L', hX, hS⟩)
      · have hS : Sat E w L' := hS.drop
        haveI hr2 : Rds cd_uint8 L' s1 m := hp L' (hrd _ _ hB')
        repeat' (first | (refine pN_neq_s ?_ ?_ <;> intro hc <;> try (exfalso; first | omega | exact hc rfl | exact hc (by assumption) | exact absurd hc (by assumption))) | refine pIf_f ?_ | refine pGd_go (by rfl) ?_ | refine pN_via (by (intro K; simp (disch := omega) only [go_sem, pN_min, pN_max, w_u32, w_u64, Option.isNone_some, Option.isNone_none]; (try simp only [wrap_u32, wrap_u64]); rfl)) ?_ | fail)
        refine pN_sl1w (C := cd_uint8) (s := s1) (l := m) hS (A.getN m) rfl rfl hn1 ?_
        intro _
        have e : m.length - A.getN m = (m.drop (A.getN m)).length := by rw [List.length_drop]
        have hlt2 : m.length - A.getN m < m.length := by omega
        rw [e]
        refine ⟨⟨rfl, s1.sub (A.getN m) cd_uint8.size, m.drop (A.getN m), pre ++ [m], L', rfl, fun L h => ?_, by omega, by rw [List.length_append]; exact hB', hS, ha.trans (by rw [List.append_assoc]; rfl), he⟩, by show (m.drop (A.getN m)).length < m.length; omega⟩
        haveI := hp L h
        have := Rds.sub (C := cd_uint8) (L := L) (s := s1) (l := m) (A.getN m) m.length hn1 (Nat.le_refl _)
        rwa [List.take_of_length_le (by simp)] at this
      · have hS : Sat E w L' := hS.drop
        repeat' (first | refine mk_nil ?_ | refine pIf_t ?_ | refine pGd_no (by rfl) ?_ | refine pN_via (by (intro K; simp (disch := omega) only [go_sem, pN_min, pN_max, w_u32, w_u64, Option.isNone_some, Option.isNone_none]; (try simp only [wrap_u32, wrap_u64]); rfl)) ?_ | fail)
        exact hQ2 _ _ hX hS
  · have har := A.arch_no hg
    rw [har] at ha he
    rw [List.append_nil] at ha
    have he : ae = A.endE m := he
    have hlen : al.length = pre.length := by rw [ha]
    rw [← hlen] at hB
    clear ha har hY
    by_cases c1 : m.length < 1024
    · have h1 : A.endE m = 1 := by rw [A.endE, if_pos c1]
      rw [h1] at he
      subst he
      by_cases c5 : 512 ≤ m.length
      · have hz : A.Zs (m.take 512) := Decidable.not_not.1 fun h => hg ⟨c5, h⟩
        have hlt : (m.take 512).length = 512 := by rw [List.length_take]; omega
        repeat' (first | (refine pN_geq_s ?_ ?_ <;> intro hc <;> try (exfalso; omega)) | refine pGd_go (by rfl) ?_ | refine pN_via (by (intro K; simp (disch := omega) only [go_sem, pN_min, pN_max, w_u32, w_u64, Option.isNone_some, Option.isNone_none]; (try simp only [wrap_u32, wrap_u64]); rfl)) ?_ | fail)
        refine pN_slhw (C := cd_uint8) (s := s1) (l := m) hS 512 rfl rfl (by omega) ?_
        intro hp5
        repeat' (first | refine pGd_go (by rfl) ?_ | fail)
        refine pc_tar_zero (zero_n hlt.symm hS hp5 ?_)
        rw [decide_eq_true hz]
        repeat' (first | (refine pN_lss_s ?_ ?_ <;> intro hc <;> try (exfalso; omega)) | refine pIf_t ?_ | refine pIf_f ?_ | refine pGd_go (by rfl) ?_ | refine pN_via (by (intro K; simp (disch := omega) only [go_sem, pN_min, pN_max, w_u32, w_u64, Option.isNone_some, Option.isNone_none]; (try simp only [wrap_u32, wrap_u64]); rfl)) ?_ | fail)
        refine pY_mono (hE (bag []) L w (by decide) hB hS.bag_nil) ?_
        clear hS
        rintro _ w ⟨b, rfl, L', hX, hS⟩
        have hS : Sat E w L' := hS.drop
        repeat' (first | refine mk_nil ?_ | fail)
        exact hQ2 _ _ hX hS
      · repeat' (first | ((first | refine pN_lss_s ?_ ?_ | refine pN_geq_s ?_ ?_) <;> intro hc <;> try (exfalso; omega)) | refine pIf_t ?_ | refine pIf_f ?_ | refine pGd_no (by rfl) ?_ | refine pN_via (by (intro K; simp (disch := omega) only [go_sem, pN_min, pN_max, w_u32, w_u64, Option.isNone_some, Option.isNone_none]; (try simp only [wrap_u32, wrap_u64]); rfl)) ?_ | fail)
        refine pY_mono (hE (bag []) L w (by decide) hB hS.bag_nil) ?_
        clear hS
        rintro _ w ⟨b, rfl, L', hX, hS⟩
        have hS : Sat E w L' := hS.drop
        repeat' (first | refine mk_nil ?_ | fail)
        exact hQ2 _ _ hX hS
    · have c5 : 512 ≤ m.length := by omega
      have hz : A.Zs (m.take 512) := Decidable.not_not.1 fun h => hg ⟨c5, h⟩
      have hlt : (m.take 512).length = 512 := by rw [List.length_take]; omega
      repeat' (first | (refine pN_geq_s ?_ ?_ <;> intro hc <;> try (exfalso; omega)) | refine pGd_go (by rfl) ?_ | refine pN_via (by (intro K; simp (disch := omega) only [go_sem, pN_min, pN_max, w_u32, w_u64, Option.isNone_some, Option.isNone_none]; (try simp only [wrap_u32, wrap_u64]); rfl)) ?_ | fail)
      refine pN_slhw (C := cd_uint8) (s := s1) (l := m) hS 512 rfl rfl (by omega) ?_
      intro hp5
      repeat' (first | refine pGd_go (by rfl) ?_ | fail)
      refine pc_tar_zero (zero_n hlt.symm hS hp5 ?_)
      rw [decide_eq_true hz]
      by_cases c2 : 1024 < m.length
      · have h1 : A.endE m = 2 := by rw [A.endE, if_neg c1, if_pos (.inl c2)]
        rw [h1] at he
        subst he
        repeat' (first | ((first | refine pN_lss_s ?_ ?_ | refine pN_gtr_s ?_ ?_) <;> intro hc <;> try (exfalso; omega)) | refine pIf_t ?_ | refine pIf_f ?_ | refine pGd_go (by rfl) ?_ | refine pGd_no (by rfl) ?_ | refine pN_via (by (intro K; simp (disch := omega) only [go_sem, pN_min, pN_max, w_u32, w_u64, Option.isNone_some, Option.isNone_none]; (try simp only [wrap_u32, wrap_u64]); rfl)) ?_ | fail)
        refine pY_mono (hE (bag []) L w (by decide) hB hS.bag_nil) ?_
        clear hS
        rintro _ w ⟨b, rfl, L', hX, hS⟩
        have hS : Sat E w L' := hS.drop
        repeat' (first | refine mk_nil ?_ | fail)
        exact hQ2 _ _ hX hS
      · repeat' (first | ((first | refine pN_lss_s ?_ ?_ | refine pN_gtr_s ?_ ?_) <;> intro hc <;> try (exfalso; omega)) | refine pIf_f ?_ | refine pGd_go (by rfl) ?_ | refine pN_via (by (intro K; simp (disch := omega) only [go_sem, pN_min, pN_max, w_u32, w_u64, Option.isNone_some, Option.isNone_none]; (try simp only [wrap_u32, wrap_u64]); rfl)) ?_ | fail)
        refine pc_tar_zero (zero_n rfl hS hr ?_)
        by_cases c3 : A.Zs m
        · have h1 : A.endE m = 0 := by rw [A.endE, if_neg c1, if_neg (fun h => h.elim c2 fun h => h c3)]
          rw [h1] at he
          rw [decide_eq_true c3]
          repeat' (first | refine mk_nil ?_ | refine pIf_f ?_ | refine pGd_go (by rfl) ?_ | refine pN_via (by (intro K; simp (disch := omega) only [go_sem, pN_min, pN_max, w_u32, w_u64, Option.isNone_some, Option.isNone_none]; (try simp only [wrap_u32, wrap_u64]); rfl)) ?_ | fail)
          exact hQ1 he _ _ hB hS
        · have h1 : A.endE m = 2 := by rw [A.endE, if_neg c1, if_pos (.inr c3)]
          rw [h1] at he
          subst he
          rw [decide_eq_false c3]
          repeat' (first | refine pIf_t ?_ | refine pGd_go (by rfl) ?_ | refine pN_via (by (intro K; simp (disch := omega) only [go_sem, pN_min, pN_max, w_u32, w_u64, Option.isNone_some, Option.isNone_none]; (try simp only [wrap_u32, wrap_u64]); rfl)) ?_ | fail)
          refine pY_mono (hE (bag []) L w (by decide) hB hS.bag_nil) ?_
          clear hS
          rintro _ w ⟨b, rfl, L', hX, hS⟩
          have hS : Sat E w L' := hS.drop
          repeat' (first | refine mk_nil ?_ | fail)
          exact hQ2 _ _ hX hS

theorem Items_ok (hS : Sat E w M) [hr : Rds cd_uint8 M s l] (hl : l.length ≤ 140737488355328)
    (hQ : ∀ cb s w, Sat E w (cel cb ⟨22, [.slice s.a l.length s.c]⟩ :: rows cd_uint8 s l :: M) → Q (.func (.func 42) #[] #[.pointer (some ⟨cb, 0, none⟩)]) w) :
    Calls Tryd.prog 23 #[.slice s.a l.length s.c] w (retP Q) := by
  refine tar_Items.calls ?_
  unfold tar_Items.F
  repeat' (first | refine pN_l hS (by first | rfl | assumption) ?_ | (refine pN_bx hS (by rfl) ?_; clear hS; intro a w hS) | fail)
  refine pc_bytes_Clone (Clone_ok hS hl ?_)
  clear hS
  intro s2 w hS
  repeat' (first | (refine pN_s hS (by first | exact Nat.le_of_ble_eq_true rfl | assumption) (by rfl) ?_; clear hS; intro w hS; try simp only [List.set_cons_zero, List.set_cons_succ] at hS) | refine pN_fn ?_ | fail)
  exact hQ a s2 _ hS.to

end
end Go.Proofs.YteeepkimnpabiaaDoor
