/-
  Write; are two lists of items the same.
-/
import Derived.Test.YteeepkimnpabiaaDoorTarQ
import Derived.Test.YteeepkimnpabiaaDoorTarK
namespace Go.Proofs.YteeepkimnpabiaaDoor
open Go
set_option linter.unusedSimpArgs false
set_option linter.unnecessarySimpa false
set_option linter.unusedSectionVars false
set_option linter.unusedVariables false

/-- One of many rows is read. -/
theorem RdP_bag {α : Type} {C : Cd α} {s : Sl} {l : List α} {N : List HA} (h : rows C s l ∈ N) : RdP C (bag N) s l := ⟨fun w ⟨h1, hN, hh⟩ => by
  obtain ⟨h2, hA, hs⟩ := Sats.mem h hN
  exact RdA.own w ⟨h2, hA, fun b o e => hh b o (hs b o e)⟩⟩
theorem rds_datas {its : List T_api_Item} {x : T_api_Item} (h : x ∈ its) : RdP cd_uint8 (bag (datas its)) x.Data.1 x.Data.2 := RdP_bag (List.mem_map.2 ⟨x, h, rfl⟩)

namespace A
theorem many_0 (its : List T_api_Item) : many (its.take 0) = [] := by rw [List.take_zero]; rfl
theorem many_take {its : List T_api_Item} {k : Nat} {x : T_api_Item} (h : its[k]? = some x) : many (its.take (k + 1)) = many (its.take k) ++ putB x := by
  unfold many
  rw [List.take_add_one, h]
  simp
theorem werr_at : ∀ {its : List T_api_Item} {k : Nat} {x : T_api_Item}, its[k]? = some x → (∀ y ∈ its.take k, wrong y = 0) → wrong x ≠ 0 → werr its = wrong x
  | [], k, x, h, _, _ => by simp at h
  | y :: r, 0, x, h, _, hx => by
    simp at h
    subst h
    rw [werr, if_neg hx]
  | y :: r, k + 1, x, h, hy, hx => by
    rw [werr, if_pos (hy y (by simp)), werr_at (k := k) (by simpa using h) (fun z hz => hy z (by rw [List.take_succ_cons]; exact List.mem_cons_of_mem _ hz)) hx]
theorem werr_0 : ∀ {its : List T_api_Item}, (∀ y ∈ its, wrong y = 0) → werr its = 0
  | [], _ => rfl
  | y :: r, h => by rw [werr, if_pos (h y List.mem_cons_self), werr_0 fun z hz => h z (List.mem_cons_of_mem _ hz)]
theorem werr_of : ∀ {its : List T_api_Item}, werr its = 0 → ∀ y ∈ its, wrong y = 0
  | [], _, y, hy => by cases hy
  | x :: r, h, y, hy => by
    rw [werr] at h
    split at h
    · rename_i hx
      rcases List.mem_cons.1 hy with rfl | hy
      · exact hx
      · exact werr_of h y hy
    · rename_i hx; exact absurd h hx
end A

attribute [local irreducible] oMv oV oU oCall oCallV oBi oBin oUn oLoad oStore oNil oFld oField oIdx oIndex oPick oAlloc oBox oBuild oBs oConv oMk oSl oExt oFn oIface oMap oLook oMapUp oRange oNext oAssert oPanic oRes pN pA pL pDr pIf gA pGd Calls A.made A.header A.oct A.wrong A.padn A.putB A.fS A.num A.text A.readTo A.getE A.getX A.getL A.many
section
variable [Pan] {E w : World} {K Q : Value → World → Prop} {L M : List HA} {l r : List UInt8} {s s2 sl : Sl} {its : List T_api_Item}

set_option maxRecDepth 8000 in
set_option maxHeartbeats 4000000 in
theorem Write_ok (hS : Sat E w M) [hr : Rds cd_api_Item M sl its] (hd : ∀ x ∈ its, Rds cd_uint8 M x.Data.1 x.Data.2) (hnm : ∀ x ∈ its, x.Name.length ≤ 140737488355328 ∧ x.Link.length ≤ 140737488355328)
    (hl : its.length ≤ 1099511627776) (hb : ∀ k, k ≤ its.length → (∀ x ∈ its.take k, A.wrong x = 0) → (A.many (its.take k)).length + 1024 ≤ 140737488355328)
    (hno : A.werr its ≠ 0 → ∀ w, Sat E w M → Q (.tuple #[.slice none 0 0, .int .i64 (A.werr its)]) w)
    (hok : A.werr its = 0 → ∀ s w, Sat E w (rows cd_uint8 s (A.whole its) :: M) → Q (.tuple #[.slice s.a (A.whole its).length s.c, .int .i64 0]) w) :
    Calls Tryd.prog 15 #[.slice sl.a its.length sl.c] w (retP Q) := by
  refine tar_Write.calls ?_
  unfold tar_Write.F
  repeat' (first | refine pN_via (by (intro K; simp (disch := omega) only [go_sem, pN_min, pN_max, w_u32, w_u64, Option.isNone_some, Option.isNone_none]; (try simp only [wrap_u32, wrap_u64]); rfl)) ?_ | fail)
  refine ⟨fun o i w => ∃ (k : Nat) (so : Sl), k ≤ its.length ∧ (∀ x ∈ its.take k, A.wrong x = 0) ∧ o = .slice so.a (A.many (its.take k)).length so.c ∧ i = .int .i64 k ∧ Sat E w (rows cd_uint8 so (A.many (its.take k)) :: M), fun _ i _ => its.length - (RowKit.intOf i).toNat,
    ⟨0, ⟨none, 0⟩, Nat.zero_le _, fun x hx => (by simp at hx), by rw [A.many_0]; rfl, rfl, by rw [A.many_0]; exact hS.nil cd_uint8.e cd_uint8.size⟩, ?_⟩
  clear hS
  rintro _ _ _ w ⟨k, so, hk, hw, rfl, rfl, hS⟩
  have hbk := hb k hk hw
  by_cases hlt : k < its.length
  · obtain ⟨x, hx⟩ : ∃ x, its[k]? = some x := ⟨its[k], by simp [hlt]⟩
    have hm : x ∈ its := List.mem_of_getElem? hx
    haveI := hd x hm
    obtain ⟨hn1, hn2⟩ := hnm x hm
    have hbk1 := hb (k + 1) hlt
    rw [A.many_take hx] at hbk1
    have hmt := A.many_take hx
    generalize hmk : A.many (its.take k) = mk at *
    repeat' (first | (refine pN_lss_s ?_ ?_ <;> intro hc <;> try (exfalso; omega)) | refine pIf_t ?_ | refine pN_ld_at ha hS (by rfl) ?_ | refine pN_la hS (by rfl) ?_ | (refine pN_sa hS (by rfl) (by rfl) (by rfl) ?_; clear hS; intro w hS; try dsimp only at hS) | (refine pN_nz hS ?_; clear hS; intro a w hS) | refine pN_ixk hS _ (by first | rfl | (exact (Int.toNat_of_nonneg (by omega)).symm)) (by first | rfl | omega | simpa only [go_sem] using True.intro | (simp only [go_sem]; omega)) (by assumption) fun a ha hel => ?_ | fail)
    refine pc_tar_Put (Put_ok x hn1 hn2 hS (fun h0 w hS => ?_) fun h0 s1 w hS => ?_)
    · repeat' (first | (refine pN_neq_s ?_ ?_ <;> intro hc <;> try (exfalso; first | omega | exact hc rfl | exact hc (by assumption) | exact absurd hc (by assumption))) | refine pIf_t ?_ | refine pN_via (by (intro K; simp (disch := omega) only [go_sem, pN_min, pN_max, w_u32, w_u64, Option.isNone_some, Option.isNone_none]; (try simp only [wrap_u32, wrap_u64]); rfl)) ?_ | fail)
      have hwe := A.werr_at hx hw h0
      rw [← hwe] at h0 ⊢
      exact hno h0 _ hS.to
    · have hwk : ∀ y ∈ its.take (k + 1), A.wrong y = 0 := fun y hy => by
        rw [List.take_add_one, hx] at hy
        rcases List.mem_append.1 hy with hy | hy
        · exact hw y hy
        · obtain rfl : y = x := by simpa using hy
          exact h0
      have hb1 := hbk1 hwk
      rw [List.length_append] at hb1
      repeat' (first | (refine pN_neq_s ?_ ?_ <;> intro hc <;> try (exfalso; first | omega | exact hc rfl | exact hc (by assumption) | exact absurd hc (by assumption))) | refine pIf_f ?_ | (refine pN_app hS (by first | rfl | omega | simpa only [go_sem] using True.intro | (simp only [go_sem]; omega)) (by first | rfl | omega | simpa only [go_sem] using True.intro | (simp only [go_sem]; omega)) (by first | omega | (simp only [go_sem]; omega)) ?_; clear hS; intro s w hS) | refine pN_via (by (intro K; simp (disch := omega) only [go_sem, pN_min, pN_max, w_u32, w_u64, Option.isNone_some, Option.isNone_none]; (try simp only [wrap_u32, wrap_u64]); rfl)) ?_ | fail)
      exact ⟨⟨k + 1, s, hlt, hwk, by rw [hmt], rfl, by rw [hmt]; exact hS.to⟩, by simp [RowKit.intOf] <;> omega⟩
  · obtain rfl : k = its.length := by omega
    rw [List.take_length] at hw hS hbk ⊢
    have h0 := A.werr_0 hw
    have hwl : A.whole its = A.many its ++ List.replicate 1024 0 := rfl
    have hz : cd_uint8.zero = 0 := rfl
    generalize hmk : A.many its = mk at *
    repeat' (first | (refine pN_lss_s ?_ ?_ <;> intro hc <;> try (exfalso; omega)) | refine pIf_f ?_ | fail)
    refine pN_appz (C := cd_uint8) (s := so) (l := mk) hS 1024 rfl rfl (by omega) ?_
    clear hS
    intro s1 w hS
    rw [hz, ← hwl] at hS ⊢
    exact hok h0 _ _ hS
end
end Go.Proofs.YteeepkimnpabiaaDoor
