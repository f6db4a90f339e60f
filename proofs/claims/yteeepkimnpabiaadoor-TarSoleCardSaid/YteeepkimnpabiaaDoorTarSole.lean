/-
  The statement TarSole, walked: what is read is what would be written.
-/
import Derived.Test.YteeepkimnpabiaaDoorTarV
namespace Go.Proofs.YteeepkimnpabiaaDoor
open Go
set_option linter.unusedSimpArgs false
set_option linter.unnecessarySimpa false
set_option linter.unusedSectionVars false
set_option linter.unusedVariables false

namespace A
theorem many_split (its : List T_api_Item) (k : Nat) : many its = many (its.take k) ++ many (its.drop k) := by
  unfold many
  rw [← List.flatten_append, ← List.map_append, List.take_append_drop]
theorem whole_eq (its : List T_api_Item) : whole its = many its ++ List.replicate 1024 0 := rfl
/-- What is known of the items that are read. -/
theorem read_items {l : List UInt8} {its : List T_api_Item} (h0 : (arch l).2 = 0) (h : its.map plain = (arch l).1.map item) : whole its = l ∧ (∀ x ∈ its, wrong x = 0) ∧ its.length * 512 ≤ l.length := by
  obtain ⟨h1, h2⟩ := arch_sole l
  have h3 := h2 h0
  refine ⟨?_, fun x hx => ?_, ?_⟩
  · have hp : ∀ m, plain (item m) = item m := fun m => by simp only [plain, item, getX]
    have e : many its = many ((arch l).1.map item) := many_plain (by
      rw [h, List.map_map]
      exact (List.map_congr_left fun m _ => (hp m).symm))
    rw [whole, e, ← h3]
  · have hm : plain x ∈ (arch l).1.map item := by rw [← h]; exact List.mem_map.2 ⟨x, hx, rfl⟩
    obtain ⟨m, hm1, hm2⟩ := List.mem_map.1 hm
    rw [← wrong_plain, ← hm2]
    exact (got (h1 m hm1) ⟨none, 0⟩).1
  · have := congrArg List.length h
    rw [List.length_map, List.length_map] at this
    rw [this]
    exact arch_len l
end A

attribute [local irreducible] oMv oV oU oCall oCallV oBi oBin oUn oLoad oStore oNil oFld oField oIdx oIndex oPick oAlloc oBox oBuild oBs oConv oMk oSl oExt oFn oIface oMap oLook oMapUp oRange oNext oAssert oPanic oRes pN pA pL pDr pIf gA pGd Calls A.made A.header A.oct A.wrong A.padn A.putB A.fS A.num A.text A.readTo A.getE A.getX A.getL A.getN A.many A.whole A.werr
theorem calls_post [Pan] {P : Program} {f : FuncId} {args : Array Value} {w : World} {R K : Value → World → Prop} (h : Calls P f args w (retP R)) (hk : ∀ v w, R v w → K v w) : Calls P f args w (retP K) :=
  Calls.mono h fun e w he => by
    cases e with
    | returned v => exact hk _ _ he
    | panicked c => exact he
    | outgrown => exact he

set_option maxRecDepth 8000 in
set_option maxHeartbeats 4000000 in
theorem walk_TarSole (W : World) (x0 : Sl × List UInt8) (k0 : Nat)
    (h0 : RdP cd_uint8 (old W) x0.1 x0.2 ∧ x0.2.length * 1 ≤ reachBytes ∧ x0.2.length + 1 ≤ k0 ∧ ∀ c0 ∈ x0.2, ∃ k0', k0' ≤ k0 ∧ True) :
    Calls Tryd.prog 6 #[.slice x0.1.a x0.2.length x0.1.c] W fun e W' => e = .returned (.bool true) ∧ RowKit.Below W.heap.size W W' := by
  refine walk_end (pithlaw33_TarSole.calls ?_)
  unfold pithlaw33_TarSole.F
  have hS := Sat.start W
  obtain ⟨s, l⟩ := x0
  dsimp only at h0 ⊢
  obtain ⟨hr, hl, _, _⟩ := h0
  have hrb : reachBytes = 140737488351232 := rfl
  have hl1 : l.length ≤ 140737488351232 := by rw [← hrb]; omega
  haveI := hr
  refine pc_tar_Read (calls_post (R := fun v w => ∃ (sl : Sl) (its : List T_api_Item), v = .tuple #[.slice sl.a its.length sl.c, .int .i64 (A.arch l).2] ∧ (((A.arch l).2 ≠ 0 ∧ its = [] ∧ Sat W w [old W]) ∨ ((A.arch l).2 = 0 ∧ its.map A.plain = (A.arch l).1.map A.item ∧ Sat W w (rows cd_api_Item sl its :: bag (datas its) :: [old W]))))
    (Read_ok (s := s) (l := l) hS (by omega) (fun hne w hS => ⟨⟨none, 0⟩, [], rfl, .inl ⟨hne, rfl, hS⟩⟩) fun he sl its w hits hS => ⟨sl, its, by rw [he], .inr ⟨he, hits, hS⟩⟩) ?_)
  clear hS
  rintro _ w ⟨sl, its, rfl, hor⟩
  have hb := A.arch_bd l
  repeat' (first | refine pN_via (by (intro K; simp (disch := omega) only [go_sem, pN_min, pN_max, w_u32, w_u64, Option.isNone_some, Option.isNone_none]; (try simp only [wrap_u32, wrap_u64]); rfl)) ?_ | fail)
  refine ⟨fun w => Sat W w [old W], ?_, ?_⟩
  · rcases hor with ⟨hne, rfl, hS⟩ | ⟨he, hits, hS⟩
    · generalize (A.arch l).2 = ae at *
      repeat' (first | (refine pc_pithlaw33_num (num_ok _ ?_)) | ((first | refine pN_eql_s ?_ ?_ | refine pN_neq_s ?_ ?_) <;> intro hc <;> try (exfalso; first | omega | exact hc rfl | exact hc (by assumption) | exact absurd hc (by assumption))) | refine pIf_f ?_ | refine pN_via (by (intro K; simp (disch := omega) only [go_sem, pN_min, pN_max, w_u32, w_u64, Option.isNone_some, Option.isNone_none]; (try simp only [wrap_u32, wrap_u64]); rfl)) ?_ | fail)
      all_goals exact hS
    · obtain ⟨hw, hwr, h512⟩ := A.read_items he hits
      rw [he]
      have hsp := A.many_split its
      have hwl := A.whole_eq its
      have hwe := A.werr_0 hwr
      have hlen : (A.many its).length + 1024 = l.length := by rw [← hw, hwl, List.length_append, List.length_replicate]
      have hil : its.length ≤ 1099511627776 := by omega
      repeat' (first | (refine pc_pithlaw33_num (num_ok _ ?_)) | (refine pN_eql_s ?_ ?_ <;> intro hc <;> try (exfalso; first | omega | exact hc rfl | exact hc (by assumption) | exact absurd hc (by assumption))) | refine pIf_t ?_ | fail)
      refine pc_tar_Write (Write_ok (sl := sl) (its := its) hS (fun x hx => ?_) (fun x hx => ?_) hil (fun k hk _ => ?_) (fun h => absurd hwe h) fun _ s2 w hS => ?_)
      · haveI := rds_datas hx
        infer_instance
      · have h0 := A.wrong_0 (hwr x hx)
        have := A.fits_name h0.2.2.2.2.2.2.2.2.1
        have := h0.1.link
        omega
      · have := congrArg List.length (hsp k)
        rw [List.length_append] at this
        omega
      · rw [hw] at hS ⊢
        repeat' (first | (refine pc_pithlaw33_num (num_ok _ ?_)) | ((first | refine pN_neq_s ?_ ?_ | refine pN_neq_ss ?_ ?_) <;> intro hc <;> try (exfalso; first | omega | exact hc rfl | exact hc (by assumption) | exact absurd hc (by assumption))) | refine pIf_f ?_ | refine pGd_go (by rfl) ?_ | refine pN_st hS (by first | rfl | omega | simpa only [go_sem] using True.intro | (simp only [go_sem]; omega)) ?_ | refine pN_via (by (intro K; simp (disch := omega) only [go_sem, pN_min, pN_max, w_u32, w_u64, Option.isNone_some, Option.isNone_none]; (try simp only [wrap_u32, wrap_u64]); rfl)) ?_ | fail)
        all_goals exact hS.to
  clear hor
  intro _ w hS
  refine pc_tar_Get (Get_ok (s := s) (l := l) hS (by omega) (fun hne w hS => ?_) fun he s1 w hS => ?_)
  · have hb := A.getE_cases l
    generalize A.getE l = ae at *
    have hsame : same T_api_Item.zero T_api_Item.zero := ⟨rfl, rfl, rfl, rfl, rfl, rfl⟩
    repeat' (first | (refine pc_pithlaw33_num (num_ok _ ?_)) | (refine pc_pithlaw33_known (known_ok hS ?_); clear hS; intro w hS) | (refine pc_pithlaw33_same (same_ok T_api_Item.zero T_api_Item.zero hS (hr := Rds.nil) (hr2 := Rds.nil) ?_); clear hS; intro w hS; rw [decide_eq_true hsame]) | ((first | refine pN_eql_s ?_ ?_ | refine pN_neq_s ?_ ?_) <;> intro hc <;> try (exfalso; first | omega | exact hc rfl | exact hc (by assumption) | exact absurd hc (by assumption))) | refine pIf_t ?_ | refine pGd_go (by rfl) ?_ | refine pGd_no (by rfl) ?_ | refine pN_la hS (by rfl) ?_ | (refine pN_sa hS (by rfl) (by rfl) (by rfl) ?_; clear hS; intro w hS; try dsimp only at hS) | (refine pN_nz hS ?_; clear hS; intro a w hS) | refine pN_via (by (intro K; simp (disch := omega) only [go_sem, pN_min, pN_max, w_u32, w_u64, Option.isNone_some, Option.isNone_none]; (try simp only [wrap_u32, wrap_u64]); rfl)) ?_ | fail)
    all_goals exact ⟨rfl, hS.to⟩
  · obtain ⟨h1, h2⟩ := A.got he s1
    obtain ⟨hn0, hn1, hn2⟩ := A.getN_le he
    obtain ⟨_, _, _, _, _, _, _, _, hpt, hlk, hlk0, _⟩ := A.wrong_0 h1
    have hnm := A.fits_name hpt
    have hln : (A.getX l s1).Link.length ≤ 100 := (A.wrong_0 h1).1.link
    have hd1 : (A.getX l s1).Data.1 = s1 := by rw [A.getX_data]
    have hd2 : (A.getX l s1).Data.2 = A.getL l := by rw [A.getX_data]
    rw [← hd1, ← hd2] at hS
    have htk : (l.take (A.getN l)).length = A.getN l := by rw [List.length_take]; omega
    have hgl : l.length ≤ 140737488355328 := by omega
    generalize A.getX l s1 = x at *
    generalize hlt : l.take (A.getN l) = lt at *
    generalize A.getN l = n at *
    repeat' (first | (refine pc_pithlaw33_num (num_ok _ ?_)) | (refine pN_neq_s ?_ ?_ <;> intro hc <;> try (exfalso; first | omega | exact hc rfl | exact hc (by assumption) | exact absurd hc (by assumption))) | refine pIf_f ?_ | refine pN_la hS (by rfl) ?_ | (refine pN_sa hS (by rfl) (by rfl) (by rfl) ?_; clear hS; intro w hS; try dsimp only at hS) | (refine pN_nz hS ?_; clear hS; intro a w hS) | refine pN_via (by (intro K; simp (disch := omega) only [go_sem, pN_min, pN_max, w_u32, w_u64, Option.isNone_some, Option.isNone_none]; (try simp only [wrap_u32, wrap_u64]); rfl)) ?_ | fail)
    refine pc_tar_Put (Put_ok x (by omega) (by omega) hS (fun h => absurd h1 h) fun _ s2 w hS => ?_)
    rw [h2] at hS ⊢
    repeat' (first | (refine pc_pithlaw33_num (num_ok _ ?_)) | (refine pA_leq_s ?_ ?_ <;> intro hc <;> try (exfalso; omega)) | (refine pA_eql_s ?_ ?_ <;> intro hc <;> try (exfalso; first | omega | exact hc rfl | exact hc (by assumption) | exact absurd hc (by assumption))) | refine gA_go (by rfl) ?_ | (refine pDr_go hS ?_; clear hS; intro w hS) | refine ⟨trivial, ?_⟩ | refine pL_st hS (by first | rfl | omega | simpa only [go_sem] using True.intro | (simp only [go_sem]; omega)) ?_ | refine pN_via (by (intro K; simp (disch := omega) only [go_sem, pN_min, pN_max, w_u32, w_u64, Option.isNone_some, Option.isNone_none]; (try simp only [wrap_u32, wrap_u64]); rfl)) ?_ | refine pA_via (by (intro K; simp (disch := omega) only [go_sem, pN_min, pN_max, w_u32, w_u64, Option.isNone_some, Option.isNone_none]; (try simp only [wrap_u32, wrap_u64]); rfl)) ?_ | fail)
    refine pA_slhw (C := cd_uint8) (s := s) (l := l) hS n rfl rfl hn1 ?_
    intro hp
    rw [hlt] at hp
    repeat' (first | refine pL_st hS htk.symm ?_ | (refine pA_eql_ss ?_ ?_ <;> intro hc <;> try (exfalso; first | omega | exact hc rfl | exact hc (by assumption) | exact absurd hc (by assumption))) | refine gA_go (by rfl) ?_ | refine pA_via (by (intro K; simp (disch := omega) only [go_sem, pN_min, pN_max, w_u32, w_u64, Option.isNone_some, Option.isNone_none]; (try simp only [wrap_u32, wrap_u64]); rfl)) ?_ | fail)
    exact ⟨rfl, hS.to⟩
end Go.Proofs.YteeepkimnpabiaaDoor
