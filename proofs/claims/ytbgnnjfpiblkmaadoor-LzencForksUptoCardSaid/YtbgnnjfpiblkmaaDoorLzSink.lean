/-
  Package lzenc: coding and costing take bits.
-/
import Derived.Test.YtbgnnjfpiblkmaaDoorLzSym
namespace Go.Proofs.YtbgnnjfpiblkmaaDoor
open Go
set_option linter.unusedSimpArgs false
set_option linter.unnecessarySimpa false
set_option linter.unusedSectionVars false
set_option linter.unusedVariables false
namespace Z
theorem op_wt {p : Pr} {o : Op} (h : o.Ok p) : o.wt ≤ 16 ∧ o.bits.length ≤ 32 ∧ (1 ≤ o.bits.length ∨ o.bits.length = 0) := by
  cases o with
  | bit t i b => exact ⟨Nat.le_of_ble_eq_true rfl, Nat.le_of_ble_eq_true rfl, .inl (Nat.le_refl _)⟩
  | tree t a n v =>
    have := h.2.1.2.1
    simp only [Op.wt, Op.bits, treeBits, List.length_map, List.length_range]
    omega
  | back t a n v =>
    have := h.2.1.2.1
    simp only [Op.wt, Op.bits, treeBits, List.length_map, List.length_range]
    omega
  | direct v n =>
    have := h.2.2
    simp only [Op.wt, Op.bits, List.length_map, List.length_range]
    omega
theorem wts_len {p : Pr} : ∀ {l : List Op}, (∀ o ∈ l, o.Ok p) → wts l ≤ 16 * l.length ∧ lens l ≤ 32 * l.length
  | [], _ => ⟨Nat.le_refl _, Nat.le_refl _⟩
  | o :: l, h => by
    have h1 := op_wt (h o List.mem_cons_self)
    have h2 := wts_len (l := l) fun o ho => h o (List.mem_cons_of_mem _ ho)
    simp only [wts, lens, List.map_cons, List.sum_cons, List.length_cons] at h2 ⊢
    omega
theorem pr_get {p : Pr} {T : Nat → List Int} (hT : TabOk p T) {t : Nat} (ht : t < 18) {i : Int} (h0 : 0 ≤ i) (h1 : i < tabLen p t) (b : Int) : (T t)[i.toNat]? = some (pr T ⟨t, i, b⟩) := by
  have := hT.len t ht
  rw [pr, List.getD_eq_getElem?_getD, List.getElem?_eq_getElem (show i.toNat < (T t).length by omega)]; rfl
theorem run_bit {t : Nat} (ht : t < 18) (z : ES) (i b : Int) : run z (Op.bit t i b).bits = ⟨z.s.cut (B.bound z.s.R (pr z.T ⟨t, i, b⟩)) b, upd z.T t ((z.T t).set i.toNat (B.next (pr z.T ⟨t, i, b⟩) b))⟩ := by
  have hne : t ≠ 18 := by omega
  simp only [Op.bits, run, List.foldl_cons, List.foldl_nil, stepB, turn, hne, if_false]
end Z

/-- What coding holds behind some bits; what costing holds. -/
def codX (p : Z.Pr) (en : Nat) (q : Nat → Nat) (z : Z.ES) (l : List Z.Op) : HA := fun h => (∀ o ∈ l, o.Ok p) ∧ Sats [Enc en (Z.runO z l).s, tabs q (Z.runO z l).T] h
def cstX (p : Z.Pr) (a : Nat) (q : Nat → Nat) (T : Nat → List Int) (l : List Z.Op) : HA := fun h => (∀ o ∈ l, o.Ok p) ∧ Sats [cel a ⟨71, [.int .i64 (Z.costO T l)]⟩, tabs q T] h

section
variable {E w : World} {M : List HA} {p : Z.Pr} {en a : Nat} {q : Nat → Nat} {z : Z.ES} {T : Nat → List Int} {l : List Z.Op}
theorem codX.opn (hS : Sat E w (codX p en q z l :: M)) : (∀ o ∈ l, o.Ok p) ∧ Sat E w (Enc en (Z.runO z l).s :: tabs q (Z.runO z l).T :: M) := by
  obtain ⟨h1, ⟨hA, _⟩, _⟩ := hS.head
  exact ⟨hA, hS.open_ (M := [_, _]) fun _ h => h.2⟩
theorem codX.shut {m : List Z.Op} (hm : ∀ o ∈ m, o.Ok p) {s : R.S} {T : Nat → List Int} (hS : Sat E w (Enc en s :: tabs q T :: M)) (hs : Z.runO z m = ⟨s, T⟩) : Sat E w (codX p en q z m :: M) := by
  refine Sat.shut (M := [_, _]) hS fun _ h => ⟨hm, ?_⟩
  rw [hs]; exact h
theorem cstX.opn (hS : Sat E w (cstX p a q T l :: M)) : (∀ o ∈ l, o.Ok p) ∧ Sat E w (cel a ⟨71, [.int .i64 (Z.costO T l)]⟩ :: tabs q T :: M) := by
  obtain ⟨h1, ⟨hA, _⟩, _⟩ := hS.head
  exact ⟨hA, hS.open_ (M := [_, _]) fun _ h => h.2⟩
theorem cstX.shut {m : List Z.Op} (hm : ∀ o ∈ m, o.Ok p) {v : Int} (hS : Sat E w (cel a ⟨71, [.int .i64 v]⟩ :: tabs q T :: M)) (hv : v = Z.costO T m) : Sat E w (cstX p a q T m :: M) := by
  subst hv
  exact Sat.shut (M := [_, _]) hS fun _ h => ⟨hm, h⟩
theorem snoc_ok {o : Z.Op} (h : ∀ o ∈ l, o.Ok p) (ho : o.Ok p) : ∀ x ∈ l ++ [o], x.Ok p := fun x hx => by
  rcases List.mem_append.1 hx with hx | hx
  · exact h x hx
  · rw [List.mem_singleton.1 hx]; exact ho
end
attribute [local irreducible] oMv oV oU oCall oCallV oBi oBin oUn oLoad oStore oNil oFld oField oIdx oIndex oPick oAlloc oBox oBuild oBs oConv oMk oSl oExt oFn oIface oMap oLook oMapUp oRange oNext oEntry oInv oAssert oPanic oRes pN pA pL pDr pIf gA pGd

section
variable {E w : World} {M : List HA} {p : Z.Pr} {en a : Nat} {q : Nat → Nat} {z : Z.ES} {T : Nat → List Int} {l : List Z.Op} {K : Value → World → Prop}

theorem cod_z (hz : z.Ok p) (hzk : z.s.k + 1000 ≤ 140737488355328) (hl : l.length ≤ 20) (h : ∀ o ∈ l, o.Ok p) : (Z.runO z l).Ok p ∧ (Z.runO z l).s.k + 600 ≤ 140737488355328 := by
  have h1 := Z.ops_ok hz h
  have h2 := Z.wts_len h
  exact ⟨h1.1, by omega⟩

set_option maxRecDepth 8000 in
set_option maxHeartbeats 400000 in
theorem cod_snk (hp : p.Ok) (hz : z.Ok p) (hzk : z.s.k + 1000 ≤ 140737488355328) : Snk p q (codingV en) (codX p en q z) where
  nb := cod_nb en
  nt := cod_nt en
  nk := cod_nk en
  nd := cod_nd en
  bit {E w M K l} t i b ho hl hS hK := by
    refine inv_cod_bit (lzenc_coding_bit.calls ?_)
    unfold lzenc_coding_bit.F
    obtain ⟨hm, hS⟩ := codX.opn hS
    obtain ⟨hzl, hkl⟩ := cod_z hz hzk hl hm
    generalize hzz : Z.runO z l = zz at *
    have ho' := ho
    obtain ⟨ht, i0, i1, b0, b1⟩ := ho'
    have hS := tabs_out (hS.perm (List.Perm.swap _ _ _)) t ht
    repeat' (first | (refine pc_rcenc_Encoder_Bit (Bit_in (hS.fd2 (Enc en) (PSet (q t))) (hzl.T.fine t) (by omega) i b i0 (Z.pr_get hzl.T ht i0 i1 b) ?_); clear hS; intro w hS) | refine pN_l hS (by first | rfl | assumption) ?_ | (refine pN_bx hS (by rfl) ?_; clear hS; intro a w hS) | refine pN_via (by (intro K; simp (disch := omega) only [go_sem, pN_min, pN_max, w_u32, w_u64, Option.isNone_some, Option.isNone_none]; (try simp only [wrap_u32, wrap_u64]); rfl)) ?_ | fail)
    have hS := tabs_into (hS.fd2 (PSet (q t)) (tabsBut q zz.T)) ht
    refine hK _ (codX.shut (z := z) (snoc_ok hm ho) (hS.fd (Enc en)) ?_).to
    rw [Z.runO_snoc, hzz, Z.run_bit ht]
  tree {E w M K l} t at_ n m v hmn ho hl hS hK := by
    subst hmn
    refine inv_cod_tree (lzenc_coding_tree.calls ?_)
    unfold lzenc_coding_tree.F
    obtain ⟨hm, hS⟩ := codX.opn hS
    obtain ⟨hzl, hkl⟩ := cod_z hz hzk hl hm
    generalize hzz : Z.runO z l = zz at *
    have ho' := ho
    obtain ⟨ht, hth, hh⟩ := ho'
    have hlen := hzl.T.len t ht
    rw [← hlen] at hth
    have hbd : (zz.T t).length ≤ 1048576 := by rw [hlen]; exact Nat.le_trans (Z.tabLen_bd hp t) (by decide)
    have hk1 : zz.s.k + 100 ≤ 140737488355328 := by omega
    clear hlen
    have hS := tabs_out (hS.perm (List.Perm.swap _ _ _)) t ht
    repeat' (first | refine pN_l hS (by first | rfl | assumption) ?_ | (refine pN_bx hS (by rfl) ?_; clear hS; intro a w hS) | refine pN_via (by (intro K; simp (disch := omega) only [go_sem, pN_min, pN_max, w_u32, w_u64, Option.isNone_some, Option.isNone_none]; (try simp only [wrap_u32, wrap_u64]); rfl)) ?_ | fail)
    refine pc_tree_Put (Put_in (hS.fd2 (Enc en) (PSet (q t))) hzl.s (hzl.T.fine t) hk1 at_ n v hbd hth hh fun w hS => ?_)
    skip
    simp only [Int.toNat_natCast] at hS
    have hS := tabs_into (hS.fd2 (PSet (q t)) (tabsBut q zz.T)) ht
    refine hK _ (codX.shut (z := z) (snoc_ok hm ho) (hS.fd (Enc en)) ?_).to
    rw [Z.runO_snoc, hzz]
    exact Z.run_treeBits ht _ at_ (R.bitAt false n v) n
  back {E w M K l} t at_ n m v hmn ho hl hS hK := by
    subst hmn
    refine inv_cod_back (lzenc_coding_back.calls ?_)
    unfold lzenc_coding_back.F
    obtain ⟨hm, hS⟩ := codX.opn hS
    obtain ⟨hzl, hkl⟩ := cod_z hz hzk hl hm
    generalize hzz : Z.runO z l = zz at *
    have ho' := ho
    obtain ⟨ht, hth, hh⟩ := ho'
    have hlen := hzl.T.len t ht
    rw [← hlen] at hth
    have hbd : (zz.T t).length ≤ 1048576 := by rw [hlen]; exact Nat.le_trans (Z.tabLen_bd hp t) (by decide)
    have hk1 : zz.s.k + 100 ≤ 140737488355328 := by omega
    clear hlen
    have hS := tabs_out (hS.perm (List.Perm.swap _ _ _)) t ht
    repeat' (first | refine pN_l hS (by first | rfl | assumption) ?_ | (refine pN_bx hS (by rfl) ?_; clear hS; intro a w hS) | refine pN_via (by (intro K; simp (disch := omega) only [go_sem, pN_min, pN_max, w_u32, w_u64, Option.isNone_some, Option.isNone_none]; (try simp only [wrap_u32, wrap_u64]); rfl)) ?_ | fail)
    refine pc_tree_PutBack (PutBack_in (hS.fd2 (Enc en) (PSet (q t))) hzl.s (hzl.T.fine t) hk1 at_ n v hbd hth hh fun w hS => ?_)
    skip
    simp only [Int.toNat_natCast] at hS
    have hS := tabs_into (hS.fd2 (PSet (q t)) (tabsBut q zz.T)) ht
    refine hK _ (codX.shut (z := z) (snoc_ok hm ho) (hS.fd (Enc en)) ?_).to
    rw [Z.runO_snoc, hzz]
    exact Z.run_treeBits ht _ at_ (R.bitAt true n v) n
  direct {E w M K l} v n m hmn ho hl hS hK := by
    subst hmn
    refine inv_cod_direct (lzenc_coding_direct.calls ?_)
    unfold lzenc_coding_direct.F
    obtain ⟨hm, hS⟩ := codX.opn hS
    obtain ⟨hzl, hkl⟩ := cod_z hz hzk hl hm
    generalize hzz : Z.runO z l = zz at *
    have ho' := ho
    obtain ⟨v0, v1, hn⟩ := ho'
    repeat' (first | (refine pc_rcenc_Encoder_Direct (Direct_in (hS.fd (Enc en)) (by omega) v n v0 v1 hn ?_); clear hS; intro w hS) | refine pN_l hS (by first | rfl | assumption) ?_ | (refine pN_bx hS (by rfl) ?_; clear hS; intro a w hS) | refine pN_via (by (intro K; simp (disch := omega) only [go_sem, pN_min, pN_max, w_u32, w_u64, Option.isNone_some, Option.isNone_none]; (try simp only [wrap_u32, wrap_u64]); rfl)) ?_ | fail)
    refine hK _ (codX.shut (z := z) (snoc_ok hm ho) (show Sat E w (Enc en (zz.s.direct v n) :: tabs q zz.T :: M) from hS.to) ?_)
    rw [Z.runO_snoc, hzz, Z.run_direct]

set_option maxRecDepth 8000 in
set_option maxHeartbeats 400000 in
theorem cst_snk (hp : p.Ok) (hT : Z.TabOk p T) : Snk p q (costingV a) (cstX p a q T) where
  nb := cst_nb a
  nt := cst_nt a
  nk := cst_nk a
  nd := cst_nd a
  bit {E w M K l} t i b ho hl hS hK := by
    refine inv_cst_bit (lzenc_costing_bit.calls ?_)
    unfold lzenc_costing_bit.F
    obtain ⟨hm, hS⟩ := cstX.opn hS
    have h1 := Z.costO_bd T l
    have h2 := (Z.wts_len hm).2
    have ho' := ho
    obtain ⟨ht, i0, i1, b0, b1⟩ := ho'
    have hS := tabs_out (hS.perm (List.Perm.swap _ _ _)) t ht
    have hc := Z.costB_bd T ⟨t, i, b⟩
    have hne : t ≠ 18 := by omega
    simp only [Z.costB, hne, if_false] at hc
    repeat' (first | (refine pc_prob_Set_At (At_in (hS.fd (PSet (q t))) i i0 (Z.pr_get hT ht i0 i1 b) ?_); clear hS; intro w hS) | (refine pc_prob_Cost (Cost_ok _ _ ?_)) | refine pL_l hS (by first | rfl | assumption) ?_ | (refine pN_s hS (by first | exact Nat.le_of_ble_eq_true rfl | assumption) (by rfl) ?_; clear hS; intro w hS; try simp only [List.set_cons_zero, List.set_cons_succ] at hS) | (refine pDr_go hS ?_; clear hS; intro w hS) | refine ⟨trivial, ?_⟩ | refine ⟨⟨(by first | exact run_l hS (by first | rfl | assumption) | exact run_st hS (by first | rfl | omega) | exact run_ld1 ha hS | exact fun _ => run_l hS (by rfl) | exact fun _ => run_st hS (by first | rfl | omega) | exact fun _ => run_ld1 ha hS | exact fun h => Bool.noConfusion h), trivial⟩, ?_⟩ | refine pN_via (by (intro K; simp (disch := omega) only [go_sem, pN_min, pN_max, w_u32, w_u64, Option.isNone_some, Option.isNone_none]; (try simp only [wrap_u32, wrap_u64]); rfl)) ?_ | refine pA_via (by (intro K; simp (disch := omega) only [go_sem, pN_min, pN_max, w_u32, w_u64, Option.isNone_some, Option.isNone_none]; (try simp only [wrap_u32, wrap_u64]); rfl)) ?_ | fail)
    have hS := tabs_back (hS.fd2 (PSet (q t)) (tabsBut q T)) ht
    refine hK _ (cstX.shut (T := T) (snoc_ok hm ho) (hS.fd (cel a)) ?_).to
    simp only [Z.costO_snoc, Z.Op.bits, Z.costs, List.map_cons, List.map_nil, List.sum_cons, List.sum_nil, Z.costB, hne, if_false, Int.add_zero]
  tree {E w M K l} t at_ n m v hmn ho hl hS hK := by
    subst hmn
    refine inv_cst_tree (lzenc_costing_tree.calls ?_)
    unfold lzenc_costing_tree.F
    obtain ⟨hm, hS⟩ := cstX.opn hS
    have h1 := Z.costO_bd T l
    have h2 := (Z.wts_len hm).2
    have ho' := ho
    obtain ⟨ht, hth, hh⟩ := ho'
    have hn := hth.2.1
    have hlen := hT.len t ht
    rw [← hlen] at hth
    have hbd : (T t).length ≤ 1048576 := by rw [hlen]; exact Nat.le_trans (Z.tabLen_bd hp t) (by decide)
    clear hlen
    have hc := R.costs_small (T t) at_ (R.bitAt false n v) n
    have hS := tabs_out (hS.perm (List.Perm.swap _ _ _)) t ht
    skip
    refine pc_tree_Cost (TCost_in (hS.fd (PSet (q t))) at_ n v hbd hth hh fun w hS => ?_)
    repeat' (first | refine pN_l hS (by first | rfl | assumption) ?_ | (refine pN_s hS (by first | exact Nat.le_of_ble_eq_true rfl | assumption) (by rfl) ?_; clear hS; intro w hS; try simp only [List.set_cons_zero, List.set_cons_succ] at hS) | refine pN_via (by (intro K; simp (disch := omega) only [go_sem, pN_min, pN_max, w_u32, w_u64, Option.isNone_some, Option.isNone_none]; (try simp only [wrap_u32, wrap_u64]); rfl)) ?_ | fail)
    have hS := tabs_back (hS.fd2 (PSet (q t)) (tabsBut q T)) ht
    refine hK _ (cstX.shut (T := T) (snoc_ok hm ho) (hS.fd (cel a)) ?_).to
    rw [Z.costO_snoc, show (Z.Op.tree t at_ n v).bits = Z.treeBits t at_ (R.bitAt false n v) n from rfl, Z.costs_tree ht]
  back {E w M K l} t at_ n m v hmn ho hl hS hK := by
    subst hmn
    refine inv_cst_back (lzenc_costing_back.calls ?_)
    unfold lzenc_costing_back.F
    obtain ⟨hm, hS⟩ := cstX.opn hS
    have h1 := Z.costO_bd T l
    have h2 := (Z.wts_len hm).2
    have ho' := ho
    obtain ⟨ht, hth, hh⟩ := ho'
    have hn := hth.2.1
    have hlen := hT.len t ht
    rw [← hlen] at hth
    have hbd : (T t).length ≤ 1048576 := by rw [hlen]; exact Nat.le_trans (Z.tabLen_bd hp t) (by decide)
    clear hlen
    have hc := R.costs_small (T t) at_ (R.bitAt true n v) n
    have hS := tabs_out (hS.perm (List.Perm.swap _ _ _)) t ht
    skip
    refine pc_tree_CostBack (TCostBack_in (hS.fd (PSet (q t))) at_ n v hbd hth hh fun w hS => ?_)
    repeat' (first | refine pN_l hS (by first | rfl | assumption) ?_ | (refine pN_s hS (by first | exact Nat.le_of_ble_eq_true rfl | assumption) (by rfl) ?_; clear hS; intro w hS; try simp only [List.set_cons_zero, List.set_cons_succ] at hS) | refine pN_via (by (intro K; simp (disch := omega) only [go_sem, pN_min, pN_max, w_u32, w_u64, Option.isNone_some, Option.isNone_none]; (try simp only [wrap_u32, wrap_u64]); rfl)) ?_ | fail)
    have hS := tabs_back (hS.fd2 (PSet (q t)) (tabsBut q T)) ht
    refine hK _ (cstX.shut (T := T) (snoc_ok hm ho) (hS.fd (cel a)) ?_).to
    rw [Z.costO_snoc, show (Z.Op.back t at_ n v).bits = Z.treeBits t at_ (R.bitAt true n v) n from rfl, Z.costs_tree ht]
  direct {E w M K l} v n m hmn ho hl hS hK := by
    subst hmn
    refine inv_cst_direct (lzenc_costing_direct.calls ?_)
    unfold lzenc_costing_direct.F
    obtain ⟨hm, hS⟩ := cstX.opn hS
    have h1 := Z.costO_bd T l
    have h2 := (Z.wts_len hm).2
    have ho' := ho
    obtain ⟨v0, v1, hn⟩ := ho'
    repeat' (first | refine pN_l hS (by first | rfl | assumption) ?_ | (refine pN_s hS (by first | exact Nat.le_of_ble_eq_true rfl | assumption) (by rfl) ?_; clear hS; intro w hS; try simp only [List.set_cons_zero, List.set_cons_succ] at hS) | refine pN_via (by (intro K; simp (disch := omega) only [go_sem, pN_min, pN_max, w_u32, w_u64, Option.isNone_some, Option.isNone_none]; (try simp only [wrap_u32, wrap_u64]); rfl)) ?_ | fail)
    refine hK _ (cstX.shut (T := T) (snoc_ok hm ho) hS ?_)
    rw [Z.costO_snoc, Z.costs_direct]
end

end Go.Proofs.YtbgnnjfpiblkmaaDoor
