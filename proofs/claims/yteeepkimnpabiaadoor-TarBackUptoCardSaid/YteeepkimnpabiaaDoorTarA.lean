/-
  Are two lists of items the same; how long archives are.
-/
import Derived.Test.YteeepkimnpabiaaDoorTarV
import Derived.Test.YteeepkimnpabiaaDoorTarB
namespace Go.Proofs.YteeepkimnpabiaaDoor
open Go
set_option linter.unusedSimpArgs false
set_option linter.unnecessarySimpa false
set_option linter.unusedSectionVars false
set_option linter.unusedVariables false

namespace A
theorem put_512 {x : T_api_Item} (h : wrong x = 0) : (putB x).length % 512 = 0 ∧ 512 ≤ (putB x).length ∧ (putB x).length ≤ x.Data.2.length + 1024 := by
  rw [putB_len h]
  unfold padn
  omega
theorem many_512 : ∀ {its : List T_api_Item}, (∀ x ∈ its, wrong x = 0) → (many its).length % 512 = 0
  | [], _ => rfl
  | x :: its, h => by
    have h1 := (put_512 (h x List.mem_cons_self)).1
    have h2 := many_512 (its := its) fun y hy => h y (List.mem_cons_of_mem _ hy)
    rw [many_cons, List.length_append]
    omega
theorem many_bd {d : Nat} : ∀ {its : List T_api_Item}, (∀ x ∈ its, wrong x = 0 ∧ x.Data.2.length ≤ d) → (many its).length ≤ its.length * (d + 1024)
  | [], _ => Nat.zero_le _
  | x :: its, h => by
    have h1 := h x List.mem_cons_self
    have h3 := (put_512 h1.1).2.2
    have h2 := many_bd (its := its) fun y hy => h y (List.mem_cons_of_mem _ hy)
    rw [many_cons, List.length_append, List.length_cons, Nat.add_mul, Nat.one_mul]
    omega
theorem werr_next {its : List T_api_Item} {k : Nat} {x : T_api_Item} (h : its[k]? = some x) : werr (its.take (k + 1)) = if werr (its.take k) = 0 then wrong x else werr (its.take k) := by
  rw [List.take_add_one, h]
  generalize its.take k = l
  induction l with
  | nil =>
    show werr [x] = if (0 : Int) = 0 then wrong x else 0
    rw [if_pos rfl, werr]
    split
    · rename_i h0; rw [h0]; rfl
    · rfl
  | cons y l ih =>
    rw [List.cons_append, werr, werr]
    split
    · exact ih
    · rfl
theorem wholeE (its : List T_api_Item) : whole its = many its ++ List.replicate 1024 0 := rfl
theorem werr_nil : werr [] = 0 := rfl
theorem wrong_cases (x : T_api_Item) : wrong x = 0 ∨ wrong x = 6 ∨ wrong x = 7 ∨ wrong x = 8 := by
  unfold wrong
  repeat' split
  all_goals simp
theorem werr_cases : ∀ (l : List T_api_Item), werr l = 0 ∨ werr l = 6 ∨ werr l = 7 ∨ werr l = 8
  | [] => .inl rfl
  | x :: l => by
    rw [werr]
    split
    · exact werr_cases l
    · exact wrong_cases x
end A

theorem calls_then [Pan] {P : Program} {f : FuncId} {args : Array Value} {w : World} {R K : Value → World → Prop} (h : Calls P f args w (retP R)) (hk : ∀ v w, R v w → K v w) : Calls P f args w (retP K) :=
  Calls.mono h fun e w he => by
    cases e with
    | returned v => exact hk _ _ he
    | panicked c => exact he
    | outgrown => exact he

attribute [local irreducible] oMv oV oU oCall oCallV oBi oBin oUn oLoad oStore oNil oFld oField oIdx oIndex oPick oAlloc oBox oBuild oBs oConv oMk oSl oExt oFn oIface oMap oLook oMapUp oRange oNext oAssert oPanic oRes pN pA pL pDr pIf gA pGd Calls A.made A.header A.oct A.wrong A.padn A.putB A.fS A.num A.text A.readTo A.getE A.getX A.getL A.many
section
variable [Pan] {E w : World} {K Q : Value → World → Prop} {L M : List HA} {l r : List UInt8} {s s2 sl sl2 : Sl} {its ots : List T_api_Item}

set_option maxRecDepth 8000 in
theorem sameAll_ok (hS : Sat E w M) [hr : Rds cd_api_Item M sl its] [hr2 : Rds cd_api_Item M sl2 ots] (hd : ∀ x ∈ its, Rds cd_uint8 M x.Data.1 x.Data.2) (hd2 : ∀ x ∈ ots, Rds cd_uint8 M x.Data.1 x.Data.2)
    (h : its.map A.plain = ots.map A.plain) (hl : its.length ≤ 1099511627776) (hQ : ∀ w, Sat E w M → Q (.bool true) w) :
    Calls Tryd.prog 21 #[.slice sl.a its.length sl.c, .slice sl2.a ots.length sl2.c] w (retP Q) := by
  refine pithlaw33_sameAll.calls ?_
  unfold pithlaw33_sameAll.F
  have hlen : its.length = ots.length := by
    have := congrArg List.length h
    rwa [List.length_map, List.length_map] at this
  repeat' (first | (refine pN_neq_s ?_ ?_ <;> intro hc <;> try (exfalso; first | omega | exact hc rfl | exact hc (by assumption) | exact absurd hc (by assumption))) | refine pIf_f ?_ | refine pN_via (by (intro K; simp (disch := omega) only [go_sem, pN_min, pN_max, w_u32, w_u64, Option.isNone_some, Option.isNone_none]; (try simp only [wrap_u32, wrap_u64]); rfl)) ?_ | fail)
  refine ⟨fun i w => ∃ k : Nat, k ≤ its.length ∧ i = .int .i64 k ∧ Sat E w M, fun i _ => its.length - (RowKit.intOf i).toNat, ⟨0, Nat.zero_le _, rfl, hS⟩, ?_⟩
  clear hS
  rintro _ _ w ⟨k, hk, rfl, hS⟩
  by_cases hlt : k < its.length
  · obtain ⟨x, hx⟩ : ∃ x, its[k]? = some x := ⟨its[k], by simp [hlt]⟩
    obtain ⟨y, hy⟩ : ∃ y, ots[k]? = some y := ⟨ots[k], by simp [show k < ots.length by omega]⟩
    haveI := hd x (List.mem_of_getElem? hx)
    haveI := hd2 y (List.mem_of_getElem? hy)
    have hsame : same x y := A.same_plain.2 (by
      have := congrArg (fun t => t[k]?) h
      simpa [hx, hy] using this)
    repeat' (first | (refine pN_lss_s ?_ ?_ <;> intro hc <;> try (exfalso; omega)) | refine pIf_t ?_ | refine pL_ld_at ha hS (by rfl) ?_ | (refine pDr_go hS ?_; clear hS; intro w hS) | refine pA_ixk hS _ (by first | rfl | (exact (Int.toNat_of_nonneg (by omega)).symm)) (by first | rfl | omega | simpa only [go_sem] using True.intro | (simp only [go_sem]; omega)) (by assumption) fun a ha hel => ?_ | fail)
    refine pc_pithlaw33_same (same_ok x y hS fun w hS => ?_)
    rw [decide_eq_true hsame]
    repeat' (first | refine pIf_f ?_ | refine ⟨trivial, ?_⟩ | refine pN_via (by (intro K; simp (disch := omega) only [go_sem, pN_min, pN_max, w_u32, w_u64, Option.isNone_some, Option.isNone_none]; (try simp only [wrap_u32, wrap_u64]); rfl)) ?_ | refine pA_via (by (intro K; simp (disch := omega) only [go_sem, pN_min, pN_max, w_u32, w_u64, Option.isNone_some, Option.isNone_none]; (try simp only [wrap_u32, wrap_u64]); rfl)) ?_ | fail)
    exact ⟨⟨k + 1, hlt, rfl, hS⟩, by simp [RowKit.intOf] <;> omega⟩
  · repeat' (first | (refine pN_lss_s ?_ ?_ <;> intro hc <;> try (exfalso; omega)) | refine pIf_f ?_ | fail)
    exact hQ _ hS
end
end Go.Proofs.YteeepkimnpabiaaDoor
