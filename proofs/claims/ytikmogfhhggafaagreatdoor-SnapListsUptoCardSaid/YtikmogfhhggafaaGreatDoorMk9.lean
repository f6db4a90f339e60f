/-
  Texts of one proof, one behind the other: SnapLists.
-/
import Derived.Test.YtikmogfhhggafaaGreatDoorMk8
set_option linter.unusedSimpArgs false
set_option linter.unnecessarySimpa false
set_option linter.unusedSectionVars false
set_option linter.unusedVariables false

namespace Go.Proofs.YtikmogfhhggafaaGreatDoor
open Go
open Hd
theorem itR_cons (x : T_api_Item) (l : List T_api_Item) : itR (x :: l) = rows cd_uint8 x.Data.1 x.Data.2 :: itR l := rfl
namespace S
theorem names_of {d e : D.T} (h : d.ns = e.ns) : d.names = e.names := by unfold D.T.names; rw [h]
theorem set_puts_ns {d : D.T} {P : List D.B} {n : D.B} {q : List I32} : ((d.puts P).set n q).ns = (d.set n q).ns := by
  unfold D.T.set
  rw [D.puts_ns]
def markI : T_api_Item := ⟨[109, 97, 114, 107], [], 0, 0, 0, (⟨none, 0⟩, [])⟩
def zeroI : T_api_Item := ⟨[], [], 0, 0, 0, (⟨none, 0⟩, [])⟩
def oneID : I32 := ⟨1 :: List.replicate 31 0, by decide⟩
def zeroID : I32 := ⟨List.replicate 32 0, by decide⟩
def nineC : T_api_Change := ⟨9, []⟩
def zeroC : T_api_Change := ⟨0, []⟩
end S
theorem run_oneID (w : World) : (oBuild 58 [(0, (bv 1))]).run Tryz.prog w = .ok (.value (.agg (bvs S.oneID.l).toArray)) w := by kernel_rfl
theorem run_zeroID (w : World) : (oBuild 58 []).run Tryz.prog w = .ok (.value (.agg (bvs S.zeroID.l).toArray)) w := by kernel_rfl
section
variable [Pan] {w : World} {K : Value → World → Prop}
theorem pN_oneID : pN Tryz.prog (oBuild 58 [(0, (bv 1))]) w K = K (.agg (bvs S.oneID.l).toArray) w := by rw [pN_def, run_oneID, rN_value]
theorem pN_zeroID : pN Tryz.prog (oBuild 58 []) w K = K (.agg (bvs S.zeroID.l).toArray) w := by rw [pN_def, run_zeroID, rN_value]
end
attribute [local irreducible] oMv oV oU oCall oCallV oBi oBin oUn oLoad oStore oNil oFld oField oIdx oIndex oPick oAlloc oBox oBuild oBs oConv oMk oSl oExt oFn oIface oMap oLook oMapUp oRange oNext oEntry oInv oAssert oPanic oRes pN pA pL pDr pIf gA pGd Calls S.needs S.saved S.univ S.rootOf S.list H.sum chg

set_option maxRecDepth 8000 in
set_option maxHeartbeats 8000000 in
theorem walk_SnapLists (W : World) (hG : GloS W) (x0 : T_pithlaw36_Setup) (x1 x2 : Sl × List T_api_Item) (k0 k1 k2 : Nat)
    (h0 : x0.ok W k0)
    (h1 : RdP cd_api_Item (old W) x1.1 x1.2 ∧ x1.2.length * 80 ≤ reachBytes ∧ x1.2.length + 1 ≤ k1 ∧ ∀ c0 ∈ x1.2, ∃ k0', k0' ≤ k1 ∧ c0.ok W k0')
    (h2 : RdP cd_api_Item (old W) x2.1 x2.2 ∧ x2.2.length * 80 ≤ reachBytes ∧ x2.2.length + 1 ≤ k2 ∧ ∀ c0 ∈ x2.2, ∃ k0', k0' ≤ k2 ∧ c0.ok W k0')
    (q0 : k0 ≤ 1048576) (q1 : k1 ≤ 1048576) (q2 : k2 ≤ 1048576) :
    Calls Tryz.prog 5 #[.agg x0.enc.toArray, .slice x1.1.a x1.2.length x1.1.c, .slice x2.1.a x2.2.length x2.1.c] W fun e W' => e = .returned (.bool true) ∧ RowKit.Below W.heap.size W W' := by
  refine walk_end (pithlaw36_SnapLists.calls ?_)
  unfold pithlaw36_SnapLists.F
  have hS := Sat.start W
  obtain ⟨sl, l⟩ := x1
  obtain ⟨sm, m⟩ := x2
  dsimp only at h1 h2 ⊢
  obtain ⟨hrl, _, hll, hokl⟩ := h1
  obtain ⟨hrm, _, hlm, hokm⟩ := h2
  haveI := hrl
  haveI := hrm
  have hdl : ∀ x ∈ l, RdP cd_uint8 (old W) x.Data.1 x.Data.2 ∧ x.Data.2.length ≤ 1048576 ∧ x.Name.length ≤ 1048576 ∧ x.Link.length ≤ 1048576 := fun x hx => by
    obtain ⟨k, hk, ⟨⟨_, _, hn, _⟩, ⟨_, _, hk2, _⟩, _, _, _, ⟨_, _, hr, _, hd, _⟩⟩⟩ := hokl x hx
    exact ⟨hr, by omega, by omega, by omega⟩
  have hdm : ∀ x ∈ m, RdP cd_uint8 (old W) x.Data.1 x.Data.2 ∧ x.Data.2.length ≤ 1048576 ∧ x.Name.length ≤ 1048576 ∧ x.Link.length ≤ 1048576 := fun x hx => by
    obtain ⟨k, hk, ⟨⟨_, _, hn, _⟩, ⟨_, _, hk2, _⟩, _, _, _, ⟨_, _, hr, _, hd, _⟩⟩⟩ := hokm x hx
    exact ⟨hr, by omega, by omega, by omega⟩
  clear hokl hokm
  have hll : l.length ≤ 1048576 := by omega
  have hlm : m.length ≤ 1048576 := by omega
  refine pN_bx (z := x0.enc) hS rfl ?_
  clear hS
  intro ob w hS
  by_cases hok : D.okC x0.C ∧ (kutV x0.f_K).legal
  rotate_left 1
  · repeat' (first | (refine pc_pithlaw36_begin (begin_no x0 hok hS ?_); clear hS; intro w hS) | (refine pc_pithlaw36_known (lknown_ok hG hS ?_); clear hS; intro w hS) | refine pIf_t ?_ | refine pGd_go (by rfl) ?_ | refine pGd_no (by rfl) ?_ | refine pN_la hS (by rfl) ?_ | refine pN_v (hk := ?_) | fail)
    exact ⟨rfl, hS.to⟩
  obtain ⟨hc, hk⟩ := hok
  by_cases hr1 : S.rightI l = 0
  rotate_left 1
  · repeat' (first | (refine pc_pithlaw36_begin (begin_in x0 hc hk hS ?_); clear hS; intro db w hS) | (refine pc_pithlaw36_right (lright_ok (sl := sl) (its := l) hS (fun x hx => by haveI := (hdl x hx).1; infer_instance) (fun x hx => by have := hdl x hx; omega) (by omega) ?_); clear hS; intro w hS) | (refine pc_pithlaw36_known (lknown_ok hG hS ?_); clear hS; intro w hS) | (refine pN_neq_s ?_ ?_ <;> intro hc <;> try (exfalso; first | omega | exact hc rfl | exact hc (by assumption) | exact absurd hc (by assumption))) | refine pIf_t ?_ | refine pGd_go (by rfl) ?_ | refine pGd_no (by rfl) ?_ | refine pN_la hS (by rfl) ?_ | refine pN_v (hk := ?_) | fail)
    exact ⟨rfl, hS.to⟩
  by_cases hr2 : S.rightI m = 0
  rotate_left 1
  · repeat' (first | (refine pc_pithlaw36_begin (begin_in x0 hc hk hS ?_); clear hS; intro db w hS) | (refine pc_pithlaw36_right (lright_ok (sl := sl) (its := l) hS (fun x hx => by haveI := (hdl x hx).1; infer_instance) (fun x hx => by have := hdl x hx; omega) (by omega) ?_); clear hS; intro w hS) | (refine pc_pithlaw36_right (lright_ok (sl := sm) (its := m) hS (fun x hx => by haveI := (hdm x hx).1; infer_instance) (fun x hx => by have := hdm x hx; omega) (by omega) ?_); clear hS; intro w hS) | (refine pc_pithlaw36_known (lknown_ok hG hS ?_); clear hS; intro w hS) | (refine pN_neq_s ?_ ?_ <;> intro hc <;> try (exfalso; first | omega | exact hc rfl | exact hc (by assumption) | exact absurd hc (by assumption))) | refine pIf_t ?_ | refine pGd_go (by rfl) ?_ | refine pGd_no (by rfl) ?_ | refine pN_la hS (by rfl) ?_ | refine pN_v (hk := ?_) | fail)
    exact ⟨rfl, hS.to⟩
  obtain ⟨hwl, htl⟩ := S.right_0 hr1
  obtain ⟨hwm, htm⟩ := S.right_0 hr2
  have hpl := S.sort_perm l
  have hpm := S.sort_perm m
  have hi1 : Items1 (kutV x0.f_K) (S.sort l) := ⟨fun x hx => ⟨hwl x (hpl.mem_iff.1 hx), (hdl x (hpl.mem_iff.1 hx)).2⟩, (hpl.map _).nodup_iff.2 ((sort_nodup l).1 htl), by rw [hpl.length_eq]; exact hll, hk⟩
  have hi2 : Items1 (kutV x0.f_K) (S.sort m) := ⟨fun x hx => ⟨hwm x (hpm.mem_iff.1 hx), (hdm x (hpm.mem_iff.1 hx)).2⟩, (hpm.map _).nodup_iff.2 ((sort_nodup m).1 htm), by rw [hpm.length_eq]; exact hlm, hk⟩
  have hdL : ∀ x ∈ S.sort l, RdP cd_uint8 (old W) x.Data.1 x.Data.2 := fun x hx => (hdl x (hpl.mem_iff.1 hx)).1
  have hLl : (S.list (kutV x0.f_K) (S.sort l)).length ≤ 1099511627776 := S.list_le hk (fun x hx => (hi1.ok x hx).1) (fun x hx => (hi1.ok x hx).2.1) hi1.len
  have hLm : (S.list (kutV x0.f_K) (S.sort m)).length ≤ 1099511627776 := S.list_le hk (fun x hx => (hi2.ok x hx).1) (fun x hx => (hi2.ok x hx).2.1) hi2.len
  repeat' (first | (refine pc_pithlaw36_begin (begin_in x0 hc hk hS ?_); clear hS; intro db w hS) | (refine pc_pithlaw36_right (lright_ok (sl := sl) (its := l) hS (fun x hx => by haveI := (hdl x hx).1; infer_instance) (fun x hx => by have := hdl x hx; omega) (by omega) ?_); clear hS; intro w hS) | (refine pc_pithlaw36_right (lright_ok (sl := sm) (its := m) hS (fun x hx => by haveI := (hdm x hx).1; infer_instance) (fun x hx => by have := hdm x hx; omega) (by omega) ?_); clear hS; intro w hS) | (refine pN_bl (C := cd_sl_api_Item) [.slice sl.a l.length sl.c, .slice sm.a m.length sm.c] [(sl, l), (sm, m)] rfl rfl rfl (Nat.succ_pos _) hS (Nat.le_of_ble_eq_true rfl) ?_; clear hS; intro sq w hS) | (refine pN_neq_s ?_ ?_ <;> intro hc <;> try (exfalso; first | omega | exact hc rfl | exact hc (by assumption) | exact absurd hc (by assumption))) | refine pGd_go (by rfl) ?_ | refine pN_la hS (by rfl) ?_ | refine pN_v (hk := ?_) | fail)
  refine pc_pithlaw36_collide (collide_ok (ll := [(sl, l), (sm, m)]) x0 hk hG hS (Nat.le_of_ble_eq_true rfl) (fun p hp => ?_) (fun w hS => ?_) fun hnc w hS => ?_)
  · rcases List.mem_cons.1 hp with rfl | hp
    · exact ⟨by show Rds cd_api_Item _ sl l; infer_instance, hll, hr1, hLl, fun x hx => ⟨by haveI := (hdl x hx).1; infer_instance, (hdl x hx).2⟩⟩
    · obtain rfl := List.mem_singleton.1 hp
      exact ⟨by show Rds cd_api_Item _ sm m; infer_instance, hlm, hr2, hLm, fun x hx => ⟨by haveI := (hdm x hx).1; infer_instance, (hdm x hx).2⟩⟩
  · repeat' (first | (refine pc_pithlaw36_known (lknown_ok hG hS ?_); clear hS; intro w hS) | refine pIf_t ?_ | refine pGd_go (by rfl) ?_ | refine pN_v (hk := ?_) | fail)
    exact ⟨rfl, hS.to⟩
  have hnc : D.NC (S.univ (kutV x0.f_K) [l, m]) := hnc
  have hUl := S.need_univ (k := kutV x0.f_K) (ls := [l, m]) (l := l) List.mem_cons_self
  have hUm := S.need_univ (k := kutV x0.f_K) (ls := [l, m]) (l := m) (List.mem_cons_of_mem _ List.mem_cons_self)
  have hrsl := S.rise_of (S.sort_up l) htl
  have hrsm := S.rise_of (S.sort_up m) htm
  generalize kutV x0.f_K = k at *
  generalize S.univ k [l, m] = U at *
  have hI0 := D.in_new k U
  obtain ⟨d1, hd1⟩ : ∃ d1, d1 = S.saved (D.new k) S.nL.1 (S.sort l) := ⟨_, rfl⟩
  obtain ⟨d2, hd2⟩ : ∃ d2, d2 = S.saved d1 S.nM.1 (S.sort m) := ⟨_, rfl⟩
  have hk1 : d1.k = k := by rw [hd1]; exact S.saved_k _ _ _
  have hI1 : d1.In U := by rw [hd1]; exact S.saved_in hI0 hUl _
  have hsv1 : S.save (D.new k) S.nL.1 l = (0, d1) := by rw [hd1]; exact S.save_0 (by decide) hr1
  have hsv2 : S.save d1 S.nM.1 m = (0, d2) := by rw [hd2]; exact S.save_0 (by decide) hr2
  have hlsl : (S.sort l).length < 9223372036854775808 := by have := hi1.len; omega
  have hlsm : (S.sort m).length < 9223372036854775808 := by have := hi2.len; omega
  have hT1 : S.Tells d2 S.nL.1 ((S.sort l).map (S.en k)) (S.rootOf k (S.sort l)) := by
    have h := S.saved_tells (d := D.new k) hI0 hnc (fun x hx => (hi1.ok x hx).1) hrsl hlsl hUl S.nL.1
    rw [hd2, hd1]
    unfold S.rootOf
    exact S.saved_keeps h (show S.nM.1 ≠ S.nL.1 by decide) _
  have hT2 : S.Tells d2 S.nM.1 ((S.sort m).map (S.en k)) (S.rootOf k (S.sort m)) := by
    have h := S.saved_tells (d := d1) hI1 hnc (fun x hx => (hi2.ok x hx).1) hrsm hlsm (by rw [hk1]; exact hUm) S.nM.1
    rw [hk1] at h
    rw [hd2]
    unfold S.rootOf
    exact h
  have hG1 : d2.get (S.rootOf k (S.sort l)) = some (S.list k (S.sort l)) := by
    rw [hd2, hd1]
    unfold S.rootOf
    exact S.saved_get_keep (S.saved_get (d := D.new k) hI0 hnc hUl _)
  have hG2 : d2.get (S.rootOf k (S.sort m)) = some (S.list k (S.sort m)) := by
    have h := S.saved_get (d := d1) hI1 hnc (by rw [hk1]; exact hUm) S.nM.1
    rw [hk1] at h
    rw [hd2]
    unfold S.rootOf
    exact h
  have hdat : ∀ x ∈ S.sort l, d2.get (D.ids k x.Data.2) = some x.Data.2 := fun x hx => by
    rw [hd2, hd1]
    exact S.saved_get_keep (S.saved_dat (d := D.new k) hI0 hnc hUl _ hx)
  have hnm : d2.names = [S.nL.1, S.nM.1] := by
    rw [hd2, S.saved_puts]
    refine (S.names_of S.set_puts_ns).trans ?_
    rw [hd1, S.saved_puts]
    exact S.names_two (S.ids_ne _ (S.list_ne _ _)) (S.ids_ne _ (S.list_ne _ _)) (D.puts_ns _ _)
  have hk1l : d1.k.legal := by rw [hk1]; exact hk
  have hS : Sat W w [Dep x0.C db (D.new k), old W] := hS.to
  have hll2 : (S.list (D.new k).k (S.sort l)).length ≤ 1099511627776 := hLl
  have hlm2 : (S.list d1.k (S.sort m)).length ≤ 1099511627776 := by rw [hk1]; exact hLm
  clear hd1 hd2 hUl hUm hI0 hI1
  generalize hLe : S.sort l = L at *
  generalize hMe : S.sort m = M2 at *
  have hrl : (S.rootOf k L).length ≤ 1099511627776 := Nat.le_trans (by unfold S.rootOf; rw [D.ids, List.length_map]; exact C.pieces_len _ _) hLl
  have hrm2 : (S.rootOf k M2).length ≤ 1099511627776 := Nat.le_trans (by unfold S.rootOf; rw [D.ids, List.length_map]; exact C.pieces_len _ _) hLm
  have hb1 : ∀ q, d2.get (S.rootOf k L) = some q → q.length ≤ 1099511627776 := fun q hq => by rw [hG1] at hq; cases hq; exact hLl
  have hb2 : ∀ q, d2.get (S.rootOf k M2) = some q → q.length ≤ 1099511627776 := fun q hq => by rw [hG2] at hq; cases hq; exact hLm
  have hlen1 := hi1.len
  have hlen2 := hi2.len
  have hhd : ∀ e ∈ L.map (S.en k), e.sums.length ≤ 1099511627776 ∧ (e.kind = 0 → d2.get e.sums = some (S.datOf L e)) ∧ (e.kind ≠ 0 → S.datOf L e = []) ∧ (S.datOf L e).length ≤ 140737488355328 := fun e he => by
    obtain ⟨x, hx, rfl⟩ := List.mem_map.1 he
    obtain ⟨o1, o2, _, _⟩ := hi1.ok x hx
    refine ⟨Nat.le_trans (S.ids_bound hi1.k o2) (Nat.le_of_ble_eq_true rfl), fun _ => ?_, fun hk => ?_, ?_⟩
    · rw [S.datOf_en hi1.nd hx]; exact hdat x hx
    · rw [S.datOf_en hi1.nd hx]; exact (S.fine_of o1).data hk
    · rw [S.datOf_en hi1.nd hx]; omega
  have hfu := S.fulls_ens (k := k) hi1.nd
  have hel1 : (L.map (S.en k)).length ≤ 1048576 := by rw [List.length_map]; exact hlen1
  have hel2 : (M2.map (S.en k)).length ≤ 1048576 := by rw [List.length_map]; exact hlen2
  have hse : ∀ e ∈ L.map (S.en k), e.sums.length ≤ 1099511627776 := fun e he => (hhd e he).1
  have hal := S.alls36 hi1 hLl
  have hVe : S.needsOf (S.rootOf k L) (L.map (S.en k)) = S.needs k L := S.needs_eq k L
  have hVl : (S.needs k L).length ≤ 34359738369 := by rw [← S.needs_eq]; exact Nat.le_trans (S.needs_len _ _) hal
  have hXl : (chg (S.diff (L.map (S.en k)) (M2.map (S.en k)))).length ≤ 2097152 := by
    have := S.diffs_len (L.map (S.en k)) (M2.map (S.en k))
    unfold chg
    rw [List.length_map]
    omega
  have hbd : ∀ j, (A.many (L.take j)).length + 1024 ≤ 140737488355328 := fun j => by
    have h1 := A.many_bd (its := L.take j) fun x hx => ⟨(hi1.ok x (List.mem_of_mem_take hx)).1, (hi1.ok x (List.mem_of_mem_take hx)).2.1⟩
    have h2 : (L.take j).length ≤ 1048576 := by rw [List.length_take]; omega
    have h3 : (L.take j).length * 1049600 ≤ 1048576 * 1049600 := Nat.mul_le_mul_right _ h2
    omega
  generalize S.needs k L = V at *
  repeat' (first | (refine pc_pithlaw36_num (Lnum_ok _ ?_)) | (refine pc_snap_Save (Save_ok (c := x0.C) (d := D.new k) (its := l) (sl := sl) (n := S.nL) hG hk hS (by decide) (fun x hx => by haveI := (hdl x hx).1; infer_instance) (fun x hx => by have := hdl x hx; omega) (by omega) (by rw [hLe]; exact hll2) ?_); rw [hsv1]; clear hS; intro w hS; dsimp only at hS ⊢) | (refine pc_snap_Save (Save_ok (c := x0.C) (d := d1) (its := m) (sl := sm) (n := S.nM) hG hk1l hS (by decide) (fun x hx => by haveI := (hdm x hx).1; infer_instance) (fun x hx => by have := hdm x hx; omega) (by omega) (by rw [hMe]; exact hlm2) ?_); rw [hsv2]; clear hS; intro w hS; dsimp only at hS ⊢) | (refine pN_neq_s ?_ ?_ <;> intro hc <;> try (exfalso; first | omega | exact hc rfl | exact hc (by assumption) | exact absurd hc (by assumption))) | refine pIf_f ?_ | refine pGd_go (by rfl) ?_ | refine pN_v (hk := ?_) | fail)
  refine pc_pithlaw36_sorted (lsorted_ok (sl := sl) (its := l) hS (by omega) (fun _ => ?_) (fun h => absurd h (by rw [hLe, htl]; decide)))
  rw [hLe]
  clear hS
  intro su w hS
  repeat' (first | (refine pc_tar_Write (Write_ok (sl := su) (its := L) hS (fun x hx => by haveI := hdL x hx; infer_instance) (fun x hx => by have := hi1.ok x hx; omega) (by omega) (fun x hx => (hi1.ok x hx).1) (fun j _ => hbd j) ?_); clear hS; intro st w hS) | (refine pN_nz hS ?_; clear hS; intro a w hS) | refine pN_fn ?_ | refine pN_v (hk := ?_) | fail)
  have hwb : (A.whole L).length ≤ 140737488355328 := by
    have h1 := hbd L.length
    rw [List.take_length] at h1
    have h2 : (A.whole L).length = (A.many L).length + 1024 := by unfold A.whole; rw [List.length_append, List.length_replicate]
    omega
  generalize hwh : A.whole L = wh at *
  rename_i a5 _
  rename Nat => a6
  have hS : Sat W w (heldA a5 a6 [] [] :: rows cd_uint8 st wh :: rows cd_api_Item su L :: Dep x0.C db d2 :: [old W]) := by
    have h1 : Sat W w (rows cd_sl_uint8 ⟨none, 0⟩ [] :: rows cd_string ⟨none, 0⟩ [] :: hBag [] :: _) := (hS.bag_nil.nil cd_string.e cd_string.size).nil cd_sl_uint8.e cd_sl_uint8.size
    exact heldA_shut (x5 := a5) (x6 := a6) (sH := ⟨none, 0⟩) (sW := ⟨none, 0⟩) (H := []) (T := []) h1.to
  refine pc_snap_Items (Items_ok (c := x0.C) hS S.nL hT1 hrl hb1 (by omega) (S.datOf L) hhd ?_)
  clear hS
  intro ox sx w hox hS
  rw [hfu] at hox
  repeat' (first | refine pN_v (hk := ?_) | fail)
  refine pc_snap_Items (Items_ok (c := x0.C) hS S.nL hT1 hrl hb1 (by omega) (S.datOf L) hhd ?_)
  clear hS
  intro oy sy w hoy hS
  rw [hfu] at hoy
  have hxl : ox.length = L.length := by have := congrArg List.length hox; rwa [List.length_map, List.length_map] at this
  have hyl : oy.length = L.length := by have := congrArg List.length hoy; rwa [List.length_map, List.length_map] at this
  repeat' (first | (refine pc_pithlaw36_num (Lnum_ok _ ?_)) | (refine pc_pithlaw36_sameAll (lsameAll_ok (la := ox) (lb := L) (sa := sx) (sb := su) hS (fun x hx => by haveI := itR_rd hx; infer_instance) (fun x hx => by haveI := hdL x hx; infer_instance) (by omega) ?_); rw [decide_eq_true hox]; clear hS; intro w hS) | (refine pc_pithlaw36_sameAll (lsameAll_ok (la := oy) (lb := L) (sa := sy) (sb := su) hS (fun x hx => by haveI := itR_rd hx; infer_instance) (fun x hx => by haveI := hdL x hx; infer_instance) (by omega) ?_); rw [decide_eq_true hoy]; clear hS; intro w hS) | (refine pN_neq_s ?_ ?_ <;> intro hc <;> try (exfalso; first | omega | exact hc rfl | exact hc (by assumption) | exact absurd hc (by assumption))) | refine pIf_f ?_ | refine pGd_go (by rfl) ?_ | refine pN_v (hk := ?_) | fail)
  have hS : Sat W w (heldA a5 a6 [] (([] : Hs).map (·.2)) :: bag (itR (oy.drop 0)) :: bag (itR (ox.drop 0)) :: rows cd_api_Item sy oy :: rows cd_api_Item sx ox :: rows cd_uint8 st wh :: rows cd_api_Item su L :: Dep x0.C db d2 :: [old W]) := by
    rw [List.drop_zero, List.drop_zero, List.map_nil]
    exact hS.to
  refine ⟨fun v w => ∃ (i : Nat) (H : Hs), v = .int .i64 i ∧ i ≤ L.length ∧ H.length = 3 * i ∧ (∀ p ∈ H, p.2.length ≤ 140737488355328) ∧ Sat W w (heldA a5 a6 H (H.map (·.2)) :: bag (itR (oy.drop i)) :: bag (itR (ox.drop i)) :: rows cd_api_Item sy oy :: rows cd_api_Item sx ox :: rows cd_uint8 st wh :: rows cd_api_Item su L :: Dep x0.C db d2 :: [old W]), fun v _ => L.length - (RowKit.intOf v).toNat, ⟨0, [], rfl, by omega, rfl, fun p hp => (by cases hp), hS⟩, ?_⟩
  clear hS
  rintro _ _ w ⟨i, H, rfl, hi, hH, hHb, hS⟩
  by_cases hlt : i < L.length
  · obtain ⟨x, hx⟩ : ∃ x, L[i]? = some x := ⟨L[i], List.getElem?_eq_getElem _⟩
    obtain ⟨xo, hxo⟩ : ∃ a, ox[i]? = some a := ⟨ox[i]'(by omega), List.getElem?_eq_getElem _⟩
    obtain ⟨yo, hyo⟩ : ∃ a, oy[i]? = some a := ⟨oy[i]'(by omega), List.getElem?_eq_getElem _⟩
    have hxm := List.mem_of_getElem? hx
    have hxb := (hi1.ok x hxm).2.1
    have hxd : xo.Data.2.length ≤ 1048576 := by
      have h1 : (ox.map S.plainI)[i]? = (L.map S.plainI)[i]? := by rw [hox]
      rw [List.getElem?_map, List.getElem?_map, hxo, hx] at h1
      have h2 : (S.plainI xo).Data.2 = (S.plainI x).Data.2 := by rw [Option.some.inj h1]
      have h3 : xo.Data.2 = x.Data.2 := h2
      rw [h3]; exact hxb
    have hyd : yo.Data.2.length ≤ 1048576 := by
      have h1 : (oy.map S.plainI)[i]? = (L.map S.plainI)[i]? := by rw [hoy]
      rw [List.getElem?_map, List.getElem?_map, hyo, hx] at h1
      have h2 : (S.plainI yo).Data.2 = (S.plainI x).Data.2 := by rw [Option.some.inj h1]
      have h3 : yo.Data.2 = x.Data.2 := h2
      rw [h3]; exact hxb
    have hS : Sat W w (rows cd_uint8 xo.Data.1 xo.Data.2 :: bag (itR (ox.drop (i + 1))) :: rows cd_uint8 yo.Data.1 yo.Data.2 :: bag (itR (oy.drop (i + 1))) :: heldA a5 a6 H (H.map (·.2)) :: rows cd_api_Item sy oy :: rows cd_api_Item sx ox :: rows cd_uint8 st wh :: rows cd_api_Item su L :: Dep x0.C db d2 :: [old W]) := by
      rw [drop_cons' hxo, drop_cons' hyo, itR_cons, itR_cons] at hS
      have h1 : Sat W w (bag (rows cd_uint8 yo.Data.1 yo.Data.2 :: itR (oy.drop (i + 1))) :: bag (rows cd_uint8 xo.Data.1 xo.Data.2 :: itR (ox.drop (i + 1))) :: heldA a5 a6 H (H.map (·.2)) :: rows cd_api_Item sy oy :: rows cd_api_Item sx ox :: rows cd_uint8 st wh :: rows cd_api_Item su L :: Dep x0.C db d2 :: [old W]) := hS.to
      have h2 := bag_uncons h1
      have h3 : Sat W w (bag (rows cd_uint8 xo.Data.1 xo.Data.2 :: itR (ox.drop (i + 1))) :: rows cd_uint8 yo.Data.1 yo.Data.2 :: bag (itR (oy.drop (i + 1))) :: heldA a5 a6 H (H.map (·.2)) :: rows cd_api_Item sy oy :: rows cd_api_Item sx ox :: rows cd_uint8 st wh :: rows cd_api_Item su L :: Dep x0.C db d2 :: [old W]) := h2.to
      exact bag_uncons h3
    repeat' (first | refine pN_ixk (s := su) (l := L) hS i (by omega) (by omega) hx fun ad ha hel => ?_ | (refine pN_lss_s ?_ ?_ <;> intro hc <;> try (exfalso; omega)) | refine pIf_t ?_ | refine pN_ld1 ha hS ?_ | refine pN_fa ha (by rfl) fun a ha => ?_ | fail)
    refine pc_snap_Find (Find_ok (c := x0.C) hS S.nL hT1 hrl hb1 (by omega) x.Name (S.datOf L) hhd (fun hno => absurd rfl (hno (S.en k x) (List.mem_map.2 ⟨x, hxm, rfl⟩))) fun e he hen => ?_)
    obtain ⟨y, hy, rfl⟩ := List.mem_map.1 he
    obtain rfl := S.nodup_name hi1.nd hy hxm hen
    rw [S.datOf_en hi1.nd hy]
    clear hS
    intro s3 w hS
    repeat' (first | (refine pc_pithlaw36_num (Lnum_ok _ ?_)) | refine pN_ixk (s := sx) (l := ox) hS i (by omega) (by omega) hxo fun ad ha hel => ?_ | (refine pN_neq_s ?_ ?_ <;> intro hc <;> try (exfalso; first | omega | exact hc rfl | exact hc (by assumption) | exact absurd hc (by assumption))) | refine pIf_f ?_ | refine pN_ld1 ha hS ?_ | refine pN_fa ha (by rfl) fun a ha => ?_ | (refine pN_sa hS (by rfl) (by rfl) (by rfl) ?_; clear hS; intro w hS; try dsimp only at hS) | (refine pN_nz hS ?_; clear hS; intro a w hS) | refine pN_v (hk := ?_) | fail)
    refine pN_callV (cap := [.pointer (some ⟨a5, 0, none⟩), .pointer (some ⟨a6, 0, none⟩)]) call_pithlaw36_SnapLists_c1 ?_
    refine keep_ok (s := xo.Data.1) (b := xo.Data.2) (x5 := a5) (x6 := a6) (H := H) (T := H.map (·.2)) (hS.fd2 (heldA a5 a6 (H)) (rows cd_uint8 (xo.Data.1))) (by (try simp only [List.length_append, List.length_singleton]); omega) (by (try simp only [List.length_append, List.length_singleton, List.length_map]); omega) (by omega) ?_
    clear hS
    intro w hS
    repeat' (first | refine pN_ixk (s := sy) (l := oy) hS i (by omega) (by omega) hyo fun ad ha hel => ?_ | refine pN_ld1 ha hS ?_ | refine pN_fa ha (by rfl) fun a ha => ?_ | fail)
    refine pN_callV (cap := [.pointer (some ⟨a5, 0, none⟩), .pointer (some ⟨a6, 0, none⟩)]) call_pithlaw36_SnapLists_c1 ?_
    refine keep_ok (s := yo.Data.1) (b := yo.Data.2) (x5 := a5) (x6 := a6) (H := H ++ [(xo.Data.1, xo.Data.2)]) (T := H.map (·.2) ++ [xo.Data.2]) (hS.fd2 (heldA a5 a6 (H ++ [(xo.Data.1, xo.Data.2)])) (rows cd_uint8 (yo.Data.1))) (by (try simp only [List.length_append, List.length_singleton]); omega) (by (try simp only [List.length_append, List.length_singleton, List.length_map]); omega) (by omega) ?_
    clear hS
    intro w hS
    repeat' (first | refine pN_l hS (by first | rfl | assumption) ?_ | refine pN_v (hk := ?_) | fail)
    refine pN_callV (cap := [.pointer (some ⟨a5, 0, none⟩), .pointer (some ⟨a6, 0, none⟩)]) call_pithlaw36_SnapLists_c1 ?_
    refine keep_ok (s := s3) (b := y.Data.2) (x5 := a5) (x6 := a6) (H := H ++ [(xo.Data.1, xo.Data.2)] ++ [(yo.Data.1, yo.Data.2)]) (T := H.map (·.2) ++ [xo.Data.2] ++ [yo.Data.2]) (hS.fd2 (heldA a5 a6 (H ++ [(xo.Data.1, xo.Data.2)] ++ [(yo.Data.1, yo.Data.2)])) (rows cd_uint8 (s3))) (by (try simp only [List.length_append, List.length_singleton]); omega) (by (try simp only [List.length_append, List.length_singleton, List.length_map]); omega) (by omega) ?_
    clear hS
    intro w hS
    have hTe : H.map (·.2) ++ [xo.Data.2] ++ [yo.Data.2] ++ [y.Data.2] = (H ++ [(xo.Data.1, xo.Data.2)] ++ [(yo.Data.1, yo.Data.2)] ++ [(s3, y.Data.2)]).map (·.2) := by simp
    rw [hTe] at hS
    have hbn : ∀ p ∈ H ++ [(xo.Data.1, xo.Data.2)] ++ [(yo.Data.1, yo.Data.2)] ++ [(s3, y.Data.2)], p.2.length ≤ 140737488355328 := fun p hp => by
      rcases List.mem_append.1 hp with hp | hp
      · rcases List.mem_append.1 hp with hp | hp
        · rcases List.mem_append.1 hp with hp | hp
          · exact hHb p hp
          · obtain rfl := List.mem_singleton.1 hp
            show xo.Data.2.length ≤ _
            omega
        · obtain rfl := List.mem_singleton.1 hp
          show yo.Data.2.length ≤ _
          omega
      · obtain rfl := List.mem_singleton.1 hp
        show y.Data.2.length ≤ _
        omega
    have hln : (H ++ [(xo.Data.1, xo.Data.2)] ++ [(yo.Data.1, yo.Data.2)] ++ [(s3, y.Data.2)]).length = 3 * (i + 1) := by simp only [List.length_append, List.length_singleton]; omega
    generalize H ++ [(xo.Data.1, xo.Data.2)] ++ [(yo.Data.1, yo.Data.2)] ++ [(s3, y.Data.2)] = H9 at *
    repeat' (first | refine pN_v (hk := ?_) | fail)
    exact ⟨⟨i + 1, H9, rfl, hlt, hln, hbn, hS.to⟩, by simp [RowKit.intOf] <;> omega⟩
  obtain rfl : i = L.length := by omega
  repeat' (first | (refine pN_lss_s ?_ ?_ <;> intro hc <;> try (exfalso; omega)) | refine pIf_f ?_ | fail)
  refine ⟨fun v w => ∃ (j : Nat) (H : Hs), v = .int .i64 j ∧ j ≤ 2 ∧ H.length ≤ 3145728 + j ∧ (∀ p ∈ H, p.2.length ≤ 140737488355328) ∧ Sat W w (heldA a5 a6 H (H.map (·.2)) :: rows cd_api_Item sy oy :: rows cd_api_Item sx ox :: rows cd_uint8 st wh :: rows cd_api_Item su L :: Dep x0.C db d2 :: [old W]), fun v _ => 2 - (RowKit.intOf v).toNat, ⟨0, H, rfl, by omega, by omega, hHb, hS.to⟩, ?_⟩
  clear hS hHb hH hi hlt
  rintro _ _ w ⟨j, H, rfl, hj, hH, hHb, hS⟩
  by_cases hlt : j < 2
  · repeat' (first | (refine pc_pithlaw36_num (Lnum_ok _ ?_)) | (refine pc_snap_Tar (Tar_ok (c := x0.C) hS S.nL hT1 hrl hb1 hel1 (S.datOf L) hhd L hfu.symm hi1.ok ?_); rw [hwh]; clear hS; intro s4 w hS) | (refine pN_neq_ss (l := wh) (r := wh) ?_ ?_ <;> intro hc <;> try (exact absurd rfl hc)) | (refine pN_lss_s ?_ ?_ <;> intro hc <;> try (exfalso; omega)) | (refine pN_neq_s ?_ ?_ <;> intro hc <;> try (exfalso; first | omega | exact hc rfl | exact hc (by assumption) | exact absurd hc (by assumption))) | refine pIf_t ?_ | refine pIf_f ?_ | refine pGd_go (by rfl) ?_ | refine pN_st hS (by first | rfl | omega | simpa only [go_sem] using True.intro | (simp only [go_sem]; omega)) ?_ | refine pN_v (hk := ?_) | fail)
    refine pN_callV (cap := [.pointer (some ⟨a5, 0, none⟩), .pointer (some ⟨a6, 0, none⟩)]) call_pithlaw36_SnapLists_c1 ?_
    refine keep_ok (s := s4) (b := wh) (x5 := a5) (x6 := a6) (H := H) (T := H.map (·.2)) (hS.fd2 (heldA a5 a6 (H)) (rows cd_uint8 (s4))) (by (try simp only [List.length_append, List.length_singleton]); omega) (by (try simp only [List.length_append, List.length_singleton, List.length_map]); omega) (by omega) ?_
    clear hS
    intro w hS
    have hTe : H.map (·.2) ++ [wh] = (H ++ [(s4, wh)]).map (·.2) := by simp
    rw [hTe] at hS
    have hbn : ∀ p ∈ H ++ [(s4, wh)], p.2.length ≤ 140737488355328 := fun p hp => by
      rcases List.mem_append.1 hp with hp | hp
      · exact hHb p hp
      · obtain rfl := List.mem_singleton.1 hp
        exact hwb
    have hln : (H ++ [(s4, wh)]).length ≤ 3145728 + (j + 1) := by rw [List.length_append, List.length_singleton]; omega
    generalize H ++ [(s4, wh)] = H9 at *
    repeat' (first | refine pN_v (hk := ?_) | fail)
    exact ⟨⟨j + 1, H9, rfl, hlt, hln, hbn, hS.to⟩, by simp [RowKit.intOf] <;> omega⟩
  obtain rfl : j = 2 := by omega
  have hHl : H.length ≤ 3145730 := by omega
  clear hlt hj hH
  have hnl : d2.ns.length ≤ 1099511627776 := by
    have h2 : d2.names.length = (d2.ns.map (·.1)).length := (S.sortN_perm _).length_eq
    rw [hnm, List.length_map] at h2
    simp only [List.length_cons, List.length_nil] at h2
    omega
  generalize hXe : chg (S.diff (L.map (S.en k)) (M2.map (S.en k))) = X at *
  repeat' (first | (refine pc_pithlaw36_num (Lnum_ok _ ?_)) | (refine pc_snap_Needs (Needs_ok (c := x0.C) hS S.nL hT1 hb1 (by omega) (by omega) ?_); rw [hVe]; clear hS; intro sv w hS) | (refine pc_snap_Diff (Diff_ok (c := x0.C) hS S.nL S.nM hT1 hT2 hrl hrm2 hb1 hb2 (by omega) hse ?_); rw [hXe]; clear hS; intro sc w hS) | (refine pc_snap_List (List_ok (c := x0.C) hS hnl ?_); rw [hnm]; clear hS; intro sn w hS) | (refine pN_app (C := cdI 58) (l := []) (s2 := sv) (m := V) hS rfl rfl (by rw [List.length_nil]; omega) ?_; clear hS; intro sq2 w hS; rw [List.nil_append] at hS ⊢) | (refine pN_app (C := cd_api_Change) (l := []) (s2 := sc) (m := X) hS rfl rfl (by rw [List.length_nil]; omega) ?_; clear hS; intro sd w hS; rw [List.nil_append] at hS ⊢) | (refine pN_lss_s ?_ ?_ <;> intro hc <;> try (exfalso; omega)) | (refine pN_neq_s ?_ ?_ <;> intro hc <;> try (exfalso; first | omega | exact hc rfl | exact hc (by assumption) | exact absurd hc (by assumption))) | refine pIf_f ?_ | refine pGd_go (by rfl) ?_ | (refine pN_b0 hS ?_; clear hS; intro s w hS) | refine pN_v (hk := ?_) | fail)
  have hS : Sat W w (rows cd_api_Item sx ox :: rows cd_string sn [S.nL.1, S.nM.1] :: rows cd_api_Change sc X :: rows (cdI 58) sv V :: heldA a5 a6 H (H.map (·.2)) :: rows (cdI 58) sq2 V :: rows cd_api_Change sd X :: rows cd_api_Item su L :: Dep x0.C db d2 :: [old W]) := hS.to
  skip
  refine ⟨fun v w => ∃ (i : Nat) (D : List T_api_Item), v = .int .i64 i ∧ i ≤ ox.length ∧ D.length = ox.length ∧ Sat W w (rows cd_api_Item sx D :: rows cd_string sn [S.nL.1, S.nM.1] :: rows cd_api_Change sc X :: rows (cdI 58) sv V :: heldA a5 a6 H (H.map (·.2)) :: rows (cdI 58) sq2 V :: rows cd_api_Change sd X :: rows cd_api_Item su L :: Dep x0.C db d2 :: [old W]), fun v _ => ox.length - (RowKit.intOf v).toNat, ⟨0, ox, rfl, by omega, rfl, hS⟩, ?_⟩
  clear hS
  rintro _ _ w ⟨i, D, rfl, hi, hD, hS⟩
  by_cases hlt : i < ox.length
  · obtain ⟨x, hx⟩ : ∃ x, D[i]? = some x := ⟨D[i]'(by omega), List.getElem?_eq_getElem _⟩
    repeat' (first | refine pN_ixk (s := sx) (l := D) hS i (by omega) (by omega) hx fun ad ha hel => ?_ | (refine pN_srn (C := cd_api_Item) (x := S.markI) hel hS rfl rfl (by omega) ?_; clear hS; intro w hS) | (refine pN_lss_s ?_ ?_ <;> intro hc <;> try (exfalso; omega)) | refine pIf_t ?_ | refine pN_v (hk := ?_) | fail)
    exact ⟨⟨i + 1, _, rfl, hlt, by rw [List.length_set]; exact hD, hS⟩, by simp [RowKit.intOf] <;> omega⟩
  obtain rfl : i = ox.length := by omega
  repeat' (first | (refine pN_lss_s ?_ ?_ <;> intro hc <;> try (exfalso; omega)) | refine pIf_f ?_ | refine pN_v (hk := ?_) | fail)
  refine ⟨fun v w => ∃ (i : Nat) (D2 : List I32), v = .int .i64 i ∧ i ≤ V.length ∧ D2.length = V.length ∧ Sat W w (rows (cdI 58) sv D2 :: rows cd_api_Item sx D :: rows cd_string sn [S.nL.1, S.nM.1] :: rows cd_api_Change sc X :: heldA a5 a6 H (H.map (·.2)) :: rows (cdI 58) sq2 V :: rows cd_api_Change sd X :: rows cd_api_Item su L :: Dep x0.C db d2 :: [old W]), fun v _ => V.length - (RowKit.intOf v).toNat, ⟨0, V, rfl, by omega, rfl, hS.to⟩, ?_⟩
  clear hS hi hlt
  rintro _ _ w ⟨i, D2, rfl, hi, hD2, hS⟩
  by_cases hlt : i < V.length
  · obtain ⟨x, hx⟩ : ∃ x, D2[i]? = some x := ⟨D2[i]'(by omega), List.getElem?_eq_getElem _⟩
    repeat' (first | refine pN_ixk (s := sv) (l := D2) hS i (by omega) (by omega) hx fun ad ha hel => ?_ | rw [pN_oneID] | (refine pN_srn (C := cdI 58) (x := S.oneID) hel hS rfl rfl (by omega) ?_; clear hS; intro w hS) | (refine pN_lss_s ?_ ?_ <;> intro hc <;> try (exfalso; omega)) | refine pIf_t ?_ | refine pN_v (hk := ?_) | fail)
    exact ⟨⟨i + 1, _, rfl, hlt, by rw [List.length_set]; exact hD2, hS⟩, by simp [RowKit.intOf] <;> omega⟩
  obtain rfl : i = V.length := by omega
  repeat' (first | (refine pN_lss_s ?_ ?_ <;> intro hc <;> try (exfalso; omega)) | refine pIf_f ?_ | refine pN_v (hk := ?_) | fail)
  refine ⟨fun v w => ∃ (i : Nat) (D3 : List T_api_Change), v = .int .i64 i ∧ i ≤ X.length ∧ D3.length = X.length ∧ Sat W w (rows cd_api_Change sc D3 :: rows (cdI 58) sv D2 :: rows cd_api_Item sx D :: rows cd_string sn [S.nL.1, S.nM.1] :: heldA a5 a6 H (H.map (·.2)) :: rows (cdI 58) sq2 V :: rows cd_api_Change sd X :: rows cd_api_Item su L :: Dep x0.C db d2 :: [old W]), fun v _ => X.length - (RowKit.intOf v).toNat, ⟨0, X, rfl, by omega, rfl, hS.to⟩, ?_⟩
  clear hS hi hlt
  rintro _ _ w ⟨i, D3, rfl, hi, hD3, hS⟩
  by_cases hlt : i < X.length
  · obtain ⟨x, hx⟩ : ∃ x, D3[i]? = some x := ⟨D3[i]'(by omega), List.getElem?_eq_getElem _⟩
    repeat' (first | refine pN_ixk (s := sc) (l := D3) hS i (by omega) (by omega) hx fun ad ha hel => ?_ | (refine pN_srn (C := cd_api_Change) (x := S.nineC) hel hS rfl rfl (by omega) ?_; clear hS; intro w hS) | (refine pN_lss_s ?_ ?_ <;> intro hc <;> try (exfalso; omega)) | refine pIf_t ?_ | refine pN_v (hk := ?_) | fail)
    exact ⟨⟨i + 1, _, rfl, hlt, by rw [List.length_set]; exact hD3, hS⟩, by simp [RowKit.intOf] <;> omega⟩
  obtain rfl : i = X.length := by omega
  have hap1 : (D.length + [S.zeroI].length) * 80 ≤ 140737488355328 := by rw [List.length_singleton]; omega
  have hap2 : (D2.length + [S.zeroID].length) * 32 ≤ 140737488355328 := by rw [List.length_singleton]; omega
  have hap3 : (D3.length + [S.zeroC].length) * 24 ≤ 140737488355328 := by rw [List.length_singleton]; omega
  repeat' (first | refine pN_ixk (s := sn) (l := [S.nL.1, S.nM.1]) hS 0 rfl rfl rfl fun ad ha hel => ?_ | (refine pN_sr (C := cd_string) (l := [S.nL.1, S.nM.1]) (x := [113]) hel hS rfl rfl (by decide) ?_; clear hS; intro w hS; dsimp only [List.set] at hS) | refine pN_ixk (s := sn) (l := [[113], S.nM.1]) hS 1 rfl rfl rfl fun ad ha hel => ?_ | (refine pN_sr (C := cd_string) (l := [[113], S.nM.1]) (x := [113]) hel hS rfl rfl (by decide) ?_; clear hS; intro w hS; dsimp only [List.set] at hS) | (refine pN_b1 (C := cd_api_Item) (x := S.zeroI) hS rfl (by decide) ?_; clear hS; intro s5 w hS) | (refine pN_app (C := cd_api_Item) (l := D) hS hD.symm rfl hap1 ?_; clear hS; intro s6 w hS) | rw [pN_zeroID] | (refine pN_b1 (C := cdI 58) (x := S.zeroID) hS rfl (by decide) ?_; clear hS; intro s5 w hS) | (refine pN_app (C := cdI 58) (l := D2) hS hD2.symm rfl hap2 ?_; clear hS; intro s7 w hS) | (refine pN_b1 (C := cd_api_Change) (x := S.zeroC) hS rfl (by decide) ?_; clear hS; intro s5 w hS) | (refine pN_app (C := cd_api_Change) (l := D3) hS hD3.symm rfl hap3 ?_; clear hS; intro s8 w hS) | (refine pN_b1 (C := cd_string) (x := [122]) hS rfl (by decide) ?_; clear hS; intro s5 w hS) | (refine pN_app (C := cd_string) (l := [[113], [113]]) hS rfl rfl (by decide) ?_; clear hS; intro s9 w hS) | (refine pN_lss_s ?_ ?_ <;> intro hc <;> try (exfalso; omega)) | refine pIf_f ?_ | refine pN_v (hk := ?_) | fail)
  have hS : Sat W w (heldA a5 a6 H (H.map (·.2)) :: rows (cdI 58) sq2 V :: rows cd_api_Change sd X :: rows cd_api_Item su L :: Dep x0.C db d2 :: [old W]) := hS.to
  obtain ⟨sH, sW, hS⟩ := heldA_open hS
  have hml : (H.map (·.2)).length = H.length := List.length_map ..
  have hHq : ∀ (i : Nat) (q : Sl × List UInt8), H[i]? = some q → q.2.length ≤ 140737488355328 := fun i q h => hHb q (List.mem_of_getElem? h)
  clear hHb
  repeat' (first | refine pN_l hS (by first | rfl | assumption) ?_ | refine pN_v (hk := ?_) | fail)
  refine ⟨fun v w => ∃ i : Nat, v = .int .i64 i ∧ i ≤ H.length ∧ Sat W w (hBag (ovr i H) :: cel a5 ⟨71, [.slice sH.a H.length sH.c]⟩ :: rows cd_sl_uint8 sH H :: cel a6 ⟨72, [.slice sW.a (H.map (·.2)).length sW.c]⟩ :: rows cd_string sW (H.map (·.2)) :: rows (cdI 58) sq2 V :: rows cd_api_Change sd X :: rows cd_api_Item su L :: Dep x0.C db d2 :: [old W]), fun v _ => H.length - (RowKit.intOf v).toNat, ⟨0, rfl, Nat.zero_le _, by rw [ovr_zero]; exact hS.to⟩, ?_⟩
  clear hS hi hlt
  rintro _ _ w ⟨i, rfl, hi, hS⟩
  by_cases hlt : i < H.length
  · obtain ⟨q, hq⟩ : ∃ q, H[i]? = some q := ⟨H[i]'hlt, by simp⟩
    have hql := hHq i q hq
    have hqt : (H.map (·.2))[i]? = some q.2 := by rw [List.getElem?_map, hq]; rfl
    have hfq : (ovr i H)[i]? = some q := by rw [ovr_get, hq]; simp
    have hfs := ovr_set hq
    have hS := hBag_out hS hfq
    have hback : ∀ w d, Sat W w (rows cd_uint8 q.1 d :: bag (((ovr i H).map fun p => rows cd_uint8 p.1 p.2).eraseIdx i) :: cel a5 ⟨71, [.slice sH.a H.length sH.c]⟩ :: rows cd_sl_uint8 sH H :: cel a6 ⟨72, [.slice sW.a (H.map (·.2)).length sW.c]⟩ :: rows cd_string sW (H.map (·.2)) :: rows (cdI 58) sq2 V :: rows cd_api_Change sd X :: rows cd_api_Item su L :: Dep x0.C db d2 :: [old W]) → Sat W w (hBag ((ovr i H).set i (q.1, d)) :: cel a5 ⟨71, [.slice sH.a H.length sH.c]⟩ :: rows cd_sl_uint8 sH H :: cel a6 ⟨72, [.slice sW.a (H.map (·.2)).length sW.c]⟩ :: rows cd_string sW (H.map (·.2)) :: rows (cdI 58) sq2 V :: rows cd_api_Change sd X :: rows cd_api_Item su L :: Dep x0.C db d2 :: [old W]) := fun w d hS => hBag_into hS hfq
    generalize bag (((ovr i H).map fun p => rows cd_uint8 p.1 p.2).eraseIdx i) = GB at *
    repeat' (first | refine pN_ixk (s := sH) (l := H) hS i (by omega) (by omega) hq fun ad ha hel => ?_ | refine pA_ixk (s := sH) (l := H) hS i (by omega) (by omega) hq fun ad ha hel => ?_ | (refine pA_neq_ss (l := q.2) (r := q.2) ?_ ?_ <;> intro hc <;> try (exact absurd rfl hc)) | (refine pN_lss_s ?_ ?_ <;> intro hc <;> try (exfalso; omega)) | refine pIf_t ?_ | refine pIf_f ?_ | refine pN_l hS (by first | rfl | assumption) ?_ | refine pL_l hS (by first | rfl | assumption) ?_ | refine pN_ld1 ha hS ?_ | refine pL_ld1 ha hS ?_ | (refine pDr_go hS ?_; clear hS; intro w hS) | refine pA_ixk hS _ (by first | rfl | (exact (Int.toNat_of_nonneg (by omega)).symm)) (by first | rfl | omega | simpa only [go_sem] using True.intro | (simp only [go_sem]; omega)) (by assumption) fun a ha hel => ?_ | refine pL_st hS (by first | rfl | omega | simpa only [go_sem] using True.intro | (simp only [go_sem]; omega)) ?_ | refine pN_v (hk := ?_) | fail)
    refine ⟨fun v w => ∃ z : Nat, z ≤ q.2.length ∧ v = .int .i64 z ∧ Sat W w (rows cd_uint8 q.1 (List.replicate z (byteOf i) ++ q.2.drop z) :: GB :: cel a5 ⟨71, [.slice sH.a H.length sH.c]⟩ :: rows cd_sl_uint8 sH H :: cel a6 ⟨72, [.slice sW.a (H.map (·.2)).length sW.c]⟩ :: rows cd_string sW (H.map (·.2)) :: rows (cdI 58) sq2 V :: rows cd_api_Change sd X :: rows cd_api_Item su L :: Dep x0.C db d2 :: [old W]), fun v _ => q.2.length - (RowKit.intOf v).toNat, ⟨0, Nat.zero_le _, rfl, hS⟩, ?_⟩
    clear hS
    rintro _ _ w ⟨z, hz, rfl, hS⟩
    by_cases hkn : z < q.2.length
    · have hdl : (List.replicate z (byteOf i) ++ q.2.drop z).length = q.2.length := by rw [List.length_append, List.length_replicate, List.length_drop]; omega
      have hset := set_rep (x := byteOf i) hkn
      generalize List.replicate z (byteOf i) ++ q.2.drop z = dd at *
      repeat' (first | refine pN_ixk (s := sH) (l := H) hS i (by omega) (by omega) hq fun ad ha hel => ?_ | (refine pN_lss_s ?_ ?_ <;> intro hc <;> try (exfalso; omega)) | refine pIf_t ?_ | refine pN_tob ?_ | refine pN_l hS (by first | rfl | assumption) ?_ | refine pN_ld1 ha hS ?_ | refine pN_ix hS _ (by first | rfl | (exact (Int.toNat_of_nonneg (by omega)).symm)) (by first | rfl | omega | simpa only [go_sem] using True.intro | (simp only [go_sem]; omega)) (by first | omega | (simp only [go_sem]; omega)) fun a x hx ha hel => ?_ | (refine pN_sr hel hS (by rfl) (by rfl) (by first | omega | (simp only [go_sem]; omega)) ?_; clear hS; intro w hS) | refine pN_v (hk := ?_) | fail)
      rw [hset] at hS
      exact ⟨⟨z + 1, hkn, rfl, hS.to⟩, by simp [RowKit.intOf] <;> omega⟩
    · obtain rfl : z = q.2.length := by omega
      rw [List.drop_length, List.append_nil] at hS
      have hS := hback _ _ hS
      rw [hfs] at hS
      repeat' (first | (refine pN_lss_s ?_ ?_ <;> intro hc <;> try (exfalso; omega)) | refine pIf_f ?_ | refine pN_v (hk := ?_) | fail)
      exact ⟨⟨i + 1, rfl, hlt, hS⟩, by simp [RowKit.intOf] <;> omega⟩
  obtain rfl : i = H.length := by omega
  repeat' (first | (refine pN_lss_s ?_ ?_ <;> intro hc <;> try (exfalso; omega)) | refine pIf_f ?_ | refine pN_l hS (by first | rfl | assumption) ?_ | refine pN_v (hk := ?_) | fail)
  have hJ : ∀ (j : Nat) (q : Sl × List UInt8), H[j]? = some q → (ovr H.length H)[j]? = some (q.1, List.replicate q.2.length (byteOf j)) := fun j q h => by
    have := (List.getElem?_eq_some_iff.1 h).1
    rw [ovr_get, h]
    simp [this]
  generalize ovr H.length H = J at *
  refine ⟨fun v0 v w => ∃ (i : Nat) (Ls : Hs) (Gs : List HA) (sX : Sl), i ≤ H.length ∧ v0 = .slice sX.a Ls.length sX.c ∧ v = .int .i64 i ∧ Ls.length = i ∧
    (∀ (j : Nat) (q : Sl × List UInt8), j < i → H[j]? = some q → ∃ G ∈ Gs, ∃ s' : Sl, Ls[j]? = some (s', List.replicate q.2.length (byteOf j) ++ tailL j) ∧ RdP cd_uint8 G q.1 (List.replicate q.2.length (byteOf j)) ∧ RdP cd_uint8 G s' (List.replicate q.2.length (byteOf j) ++ tailL j)) ∧
    Sat W w (bag Gs :: hBag (J.drop i) :: rows cd_sl_uint8 sX Ls :: cel a5 ⟨71, [.slice sH.a H.length sH.c]⟩ :: rows cd_sl_uint8 sH H :: rows (cdI 58) sq2 V :: rows cd_api_Change sd X :: rows cd_api_Item su L :: Dep x0.C db d2 :: [old W]), fun _ v _ => H.length - (RowKit.intOf v).toNat, ⟨0, [], [], ⟨none, 0⟩, Nat.zero_le _, rfl, rfl, rfl, fun j q h => absurd h (Nat.not_lt_zero _), ?_⟩, ?_⟩
  · rw [List.drop_zero]
    have h1 : Sat W w (rows cd_sl_uint8 ⟨none, 0⟩ [] :: _) := hS.nil cd_sl_uint8.e cd_sl_uint8.size
    exact h1.bag_nil.to
  clear hS hlt hi
  rintro _ _ _ w ⟨i, Ls, Gs, sX, hi, rfl, rfl, hLs, hG2, hS⟩
  by_cases hin : i < H.length
  · obtain ⟨q, hq⟩ : ∃ q, H[i]? = some q := ⟨H[i]'hin, by simp⟩
    have hql := hHq i q hq
    have hJq := hJ i q hq
    rw [drop_cons' hJq] at hS
    have hrl2 : (List.replicate q.2.length (byteOf i)).length = q.2.length := List.length_replicate
    generalize hrd : List.replicate q.2.length (byteOf i) = rq at *
    have h0 : Sat W w (hBag ((q.1, rq) :: J.drop (i + 1)) :: bag Gs :: rows cd_sl_uint8 sX Ls :: cel a5 ⟨71, [.slice sH.a H.length sH.c]⟩ :: rows cd_sl_uint8 sH H :: rows (cdI 58) sq2 V :: rows cd_api_Change sd X :: rows cd_api_Item su L :: Dep x0.C db d2 :: [old W]) := hS.to
    have hS : Sat W w (rows cd_uint8 q.1 rq :: hBag (J.drop (i + 1)) :: bag Gs :: rows cd_sl_uint8 sX Ls :: cel a5 ⟨71, [.slice sH.a H.length sH.c]⟩ :: rows cd_sl_uint8 sH H :: rows (cdI 58) sq2 V :: rows cd_api_Change sd X :: rows cd_api_Item su L :: Dep x0.C db d2 :: [old W]) := bag_uncons h0
    have htl : (tailL i).length = 1200 := List.length_replicate
    repeat' (first | refine pA_ixk (s := sH) (l := H) hS i (by omega) (by omega) hq fun ad ha hel => ?_ | (refine pN_lss_s ?_ ?_ <;> intro hc <;> try (exfalso; omega)) | refine pIf_t ?_ | refine pL_l hS (by first | rfl | assumption) ?_ | refine pL_ld1 ha hS ?_ | (refine pDr_go hS ?_; clear hS; intro w hS) | fail)
    refine pc_pithlaw36_tail (tail_ok (i := i) (by omega) hS ?_)
    clear hS
    intro st2 w hS
    repeat' (first | refine ⟨⟨(by first | exact run_l hS (by first | rfl | assumption) | exact run_st hS (by first | rfl | omega) | exact run_ld1 ha hS | exact fun _ => run_l hS (by rfl) | exact fun _ => run_st hS (by first | rfl | omega) | exact fun _ => run_ld1 ha hS | exact fun h => Bool.noConfusion h), (by first | exact run_l hS (by first | rfl | assumption) | exact run_st hS (by first | rfl | omega) | exact run_ld1 ha hS | exact fun _ => run_l hS (by rfl) | exact fun _ => run_st hS (by first | rfl | omega) | exact fun _ => run_ld1 ha hS | exact fun h => Bool.noConfusion h), trivial⟩, ?_⟩ | fail)
    refine pN_appk (C := cd_uint8) (s := q.1) (l := rq) (s2 := st2) (m := tailL i) hS hrl2.symm rfl (by rw [hrl2, htl]; omega) ?_
    clear hS
    intro G s' w hG1 hG3 hS
    have hb24 : (Ls.length + [(s', rq ++ tailL i)].length) * 24 ≤ 140737488355328 := by rw [List.length_singleton]; omega
    repeat' (first | (refine pN_b1 (C := cd_sl_uint8) (x := (s', rq ++ tailL i)) hS rfl (by decide) ?_; clear hS; intro s8 w hS) | (refine pN_app (C := cd_sl_uint8) (l := Ls) hS rfl rfl hb24 ?_; clear hS; intro sX2 w hS) | refine ⟨trivial, ?_⟩ | refine pN_v (hk := ?_) | fail)
    have hS1 : Sat W w (G :: bag Gs :: hBag (J.drop (i + 1)) :: rows cd_sl_uint8 sX2 (Ls ++ [(s', rq ++ tailL i)]) :: cel a5 ⟨71, [.slice sH.a H.length sH.c]⟩ :: rows cd_sl_uint8 sH H :: rows (cdI 58) sq2 V :: rows cd_api_Change sd X :: rows cd_api_Item su L :: Dep x0.C db d2 :: [old W]) := hS.to
    refine ⟨⟨i + 1, Ls ++ [(s', rq ++ tailL i)], G :: Gs, sX2, hin, rfl, rfl, by rw [List.length_append, hLs]; rfl, fun j q2 hj hq2 => ?_, Sat.bag_cons hS1⟩, by simp [RowKit.intOf] <;> omega⟩
    by_cases e : j = i
    · subst e
      obtain rfl : q = q2 := Option.some.inj (hq.symm.trans hq2)
      rw [hrd]
      exact ⟨G, List.mem_cons_self .., s', by rw [List.getElem?_append_right (by omega), hLs, Nat.sub_self]; rfl, hG1, hG3⟩
    · obtain ⟨G', hm, s'', h1, h2, h3⟩ := hG2 j q2 (by omega) hq2
      exact ⟨G', List.mem_cons_of_mem _ hm, s'', by rw [List.getElem?_append_left (List.getElem?_eq_some_iff.1 h1).1]; exact h1, h2, h3⟩
  obtain rfl : i = H.length := by omega
  repeat' (first | (refine pN_lss_s ?_ ?_ <;> intro hc <;> try (exfalso; omega)) | refine pIf_f ?_ | refine pN_l hS (by first | rfl | assumption) ?_ | refine pN_v (hk := ?_) | fail)
  refine ⟨fun v w => ∃ i : Nat, i ≤ H.length ∧ v = .int .i64 i ∧ Sat W w (bag Gs :: rows cd_sl_uint8 sX Ls :: cel a5 ⟨71, [.slice sH.a H.length sH.c]⟩ :: rows cd_sl_uint8 sH H :: rows (cdI 58) sq2 V :: rows cd_api_Change sd X :: rows cd_api_Item su L :: Dep x0.C db d2 :: [old W]), fun v _ => H.length - (RowKit.intOf v).toNat, ⟨0, Nat.zero_le _, rfl, hS.to⟩, ?_⟩
  clear hS hin hi
  rintro _ _ w ⟨i, hi, rfl, hS⟩
  by_cases hin : i < H.length
  · obtain ⟨q, hq⟩ : ∃ q, H[i]? = some q := ⟨H[i]'hin, by simp⟩
    have hql := hHq i q hq
    obtain ⟨G, hmG, s', h1, h2, h3⟩ := hG2 i q hin hq
    have hrl2 : (List.replicate q.2.length (byteOf i)).length = q.2.length := List.length_replicate
    have hrk : ∀ k, k < q.2.length → (List.replicate q.2.length (byteOf i))[k]? = some (byteOf i) := fun k hk => by rw [List.getElem?_replicate, if_pos hk]
    generalize List.replicate q.2.length (byteOf i) = rq at *
    haveI : RdP cd_uint8 (bag Gs) q.1 rq := ⟨RdA.bag hmG h2.rd⟩
    haveI : RdP cd_uint8 (bag Gs) s' (rq ++ tailL i) := ⟨RdA.bag hmG h3.rd⟩
    repeat' (first | refine pN_ixk (s := sH) (l := H) hS i (by omega) (by omega) hq fun ad ha hel => ?_ | (refine pN_lss_s ?_ ?_ <;> intro hc <;> try (exfalso; omega)) | refine pIf_t ?_ | refine pN_l hS (by first | rfl | assumption) ?_ | refine pN_ld1 ha hS ?_ | refine pN_v (hk := ?_) | fail)
    refine ⟨fun v w => ∃ z : Nat, z ≤ q.2.length ∧ v = .int .i64 z ∧ Sat W w (bag Gs :: rows cd_sl_uint8 sX Ls :: cel a5 ⟨71, [.slice sH.a H.length sH.c]⟩ :: rows cd_sl_uint8 sH H :: rows (cdI 58) sq2 V :: rows cd_api_Change sd X :: rows cd_api_Item su L :: Dep x0.C db d2 :: [old W]), fun v _ => q.2.length - (RowKit.intOf v).toNat, ⟨0, Nat.zero_le _, rfl, hS⟩, ?_⟩
    clear hS
    rintro _ _ w ⟨z, hz, rfl, hS⟩
    by_cases hkn : z < q.2.length
    · have hk1 := hrk z hkn
      have hk2 : (rq ++ tailL i)[z]? = some (byteOf i) := by rw [List.getElem?_append_left (by omega)]; exact hk1
      repeat' (first | refine pN_ixk (s := sH) (l := H) hS i (by omega) (by omega) hq fun ad ha hel => ?_ | refine pN_ixk (s := sX) (l := Ls) hS i (by omega) (by omega) h1 fun ad ha hel => ?_ | refine pN_ixk (s := q.1) (l := rq) hS z (by omega) (by omega) hk1 fun ad ha hel => ?_ | refine pN_ixk (s := s') (l := rq ++ tailL i) hS z (by omega) (by rfl) hk2 fun ad ha hel => ?_ | (refine pN_lss_s ?_ ?_ <;> intro hc <;> try (exfalso; omega)) | (refine pN_neq_s ?_ ?_ <;> intro hc <;> try (exfalso; first | omega | exact hc rfl | exact hc (by assumption) | exact absurd hc (by assumption))) | refine pIf_t ?_ | refine pIf_f ?_ | refine pGd_go (by rfl) ?_ | refine pN_tob ?_ | refine pN_l hS (by first | rfl | assumption) ?_ | refine pN_ld1 ha hS ?_ | refine pN_v (hk := ?_) | fail)
      exact ⟨⟨z + 1, hkn, rfl, hS⟩, by simp [RowKit.intOf] <;> omega⟩
    · have hdr : (rq ++ tailL i).drop q.2.length = tailL i := List.drop_left' hrl2
      have hrl3 : (rq ++ tailL i).length = q.2.length + (tailL i).length := by rw [List.length_append, hrl2]
      have htl : (tailL i).length = 1200 := List.length_replicate
      have hle : (rq ++ tailL i).length - q.2.length = (tailL i).length := by omega
      repeat' (first | refine pA_ixk (s := sH) (l := H) hS i (by omega) (by omega) hq fun ad ha hel => ?_ | refine pA_ixk (s := sX) (l := Ls) hS i (by omega) (by omega) h1 fun ad ha hel => ?_ | (refine pN_lss_s ?_ ?_ <;> intro hc <;> try (exfalso; omega)) | refine pIf_f ?_ | refine pL_l hS (by first | rfl | assumption) ?_ | refine pL_ld1 ha hS ?_ | (refine pDr_go hS ?_; clear hS; intro w hS) | refine pA_v (hk := ?_) | fail)
      refine pA_sl1w (C := cd_uint8) (s := s') (l := rq ++ tailL i) hS q.2.length rfl rfl (by omega) ?_
      rw [hdr, hle]
      intro hsl
      repeat' (first | refine pL_st hS (by first | rfl | omega | simpa only [go_sem] using True.intro | (simp only [go_sem]; omega)) ?_ | fail)
      refine pc_pithlaw36_tail (tail_ok (i := i) (by omega) hS ?_)
      clear hS
      intro st2 w hS
      refine ⟨⟨run_st hS rfl, run_ld1 (by assumption) hS, run_l hS (by rfl), run_ld1 (by assumption) hS, trivial⟩, ?_⟩
      repeat' (first | (refine pA_neq_ss ?_ ?_ <;> intro hc <;> try (exfalso; first | omega | exact hc rfl | exact hc (by assumption) | exact absurd hc (by assumption))) | refine pIf_f ?_ | refine pL_st hS (by first | rfl | omega | simpa only [go_sem] using True.intro | (simp only [go_sem]; omega)) ?_ | refine pN_v (hk := ?_) | fail)
      exact ⟨⟨i + 1, hin, rfl, hS.to⟩, by simp [RowKit.intOf] <;> omega⟩
  obtain rfl : i = H.length := by omega
  have hVd : decide (V = V) = true := decide_eq_true rfl
  have hXd : decide (X = X) = true := decide_eq_true rfl
  have hNd : decide ([S.nL.1, S.nM.1] = [S.nL.1, S.nM.1]) = true := decide_eq_true rfl
  repeat' (first | (refine pc_pithlaw36_num (Lnum_ok _ ?_)) | (refine pc_snap_Needs (Needs_ok (c := x0.C) hS S.nL hT1 hb1 (by omega) (by omega) ?_); rw [hVe]; clear hS; intro sv2 w hS) | (refine pc_snap_Diff (Diff_ok (c := x0.C) hS S.nL S.nM hT1 hT2 hrl hrm2 hb1 hb2 (by omega) hse ?_); rw [hXe]; clear hS; intro sc2 w hS) | (refine pc_snap_List (List_ok (c := x0.C) hS hnl ?_); rw [hnm]; clear hS; intro sn2 w hS) | (refine pc_pithlaw36_sameIDs (sameIDs_ok (la := V) (lb := V) (sa := sv2) (sb := sq2) hS (by omega) ?_); rw [hVd]; clear hS; intro w hS) | (refine pc_pithlaw36_sameChanges (sameChanges_ok (la := X) (lb := X) (sa := sc2) (sb := sd) hS (by omega) ?_); rw [hXd]; clear hS; intro w hS) | (refine pN_bl (C := cd_string) [.string ⟨#[108]⟩, .string ⟨#[109]⟩] [S.nL.1, S.nM.1] rfl rfl rfl (Nat.succ_pos _) hS (Nat.le_of_ble_eq_true rfl) ?_; clear hS; intro sl2 w hS) | (refine pc_pithlaw36_sameNames (sameNames_ok (na := [S.nL.1, S.nM.1]) (nb := [S.nL.1, S.nM.1]) (sa := sn2) (sb := sl2) hS (Nat.le_of_ble_eq_true rfl) ?_); rw [hNd]; clear hS; intro w hS) | (refine pN_lss_s ?_ ?_ <;> intro hc <;> try (exfalso; omega)) | (refine pN_neq_s ?_ ?_ <;> intro hc <;> try (exfalso; first | omega | exact hc rfl | exact hc (by assumption) | exact absurd hc (by assumption))) | refine pIf_f ?_ | refine pGd_go (by rfl) ?_ | refine pN_v (hk := ?_) | fail)
  refine pc_snap_Items (Items_ok (c := x0.C) hS S.nL hT1 hrl hb1 (by omega) (S.datOf L) hhd ?_)
  clear hS
  intro oz sz w hoz hS
  rw [hfu] at hoz
  have hzl : oz.length = L.length := by have := congrArg List.length hoz; rwa [List.length_map, List.length_map] at this
  repeat' (first | (refine pc_pithlaw36_num (Lnum_ok _ ?_)) | (refine pc_pithlaw36_sameAll (lsameAll_ok (la := oz) (lb := L) (sa := sz) (sb := su) hS (fun x hx => by haveI := itR_rd hx; infer_instance) (fun x hx => by haveI := hdL x hx; infer_instance) (by omega) ?_); rw [decide_eq_true hoz]; clear hS; intro w hS) | (refine pc_pithlaw36_known (lknown_ok hG hS ?_); clear hS; intro w hS) | (refine pN_eql_s ?_ ?_ <;> intro hc <;> try (exfalso; first | omega | exact hc rfl | exact hc (by assumption) | exact absurd hc (by assumption))) | refine pGd_go (by rfl) ?_ | refine pN_v (hk := ?_) | fail)
  exact ⟨rfl, hS.to⟩
end Go.Proofs.YtikmogfhhggafaaGreatDoor
