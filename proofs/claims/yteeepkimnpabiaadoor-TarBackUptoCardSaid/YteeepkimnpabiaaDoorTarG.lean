/-
  An item's bytes: Put.
-/
import Derived.Test.YteeepkimnpabiaaDoorTarF
import Derived.Test.YteeepkimnpabiaaDoorLfPithlaw33
namespace Go.Proofs.YteeepkimnpabiaaDoor
open Go
set_option linter.unusedSimpArgs false
set_option linter.unnecessarySimpa false
set_option linter.unusedSectionVars false
set_option linter.unusedVariables false

namespace A
theorem parted_bd {l : List UInt8} (h : (parted l).2.2 = true) : (parted l).2.1.length ≤ 100 ∧ (parted l).1.length ≤ 155 := by
  unfold parted at h ⊢
  split at h
  · cases h
  · rename_i h1
    rw [if_neg h1]
    split at h
    · rename_i h2
      rw [if_pos h2]
      exact ⟨h2, by simp⟩
    · rename_i h2
      rw [if_neg h2]
      cases hs : slash l (max 1 (l.length - 101)) with
      | none => rw [hs] at h; cases h
      | some i =>
        rw [hs] at h
        dsimp only at h ⊢
        have h3 := of_decide_eq_true h
        have h4 := slash_some hs
        simp only [List.length_drop, List.length_take]
        omega
theorem wrong_0 {x : T_api_Item} (h : wrong x = 0) : Fits x ∧ 0 ≤ x.Kind ∧ x.Kind < 3 ∧ 0 ≤ x.Mode ∧ x.Mode < 4096 ∧ 0 ≤ x.Time ∧ x.Time < 8589934592 ∧ x.Data.2.length < 8589934592 ∧ (parted x.Name).2.2 = true ∧ (x.Kind = 2 → 0 < x.Link.length ∧ x.Link.length ≤ 100 ∧ ¬ 0 ∈ x.Link) ∧ (x.Kind ≠ 2 → x.Link = []) ∧ (x.Kind ≠ 0 → x.Data.2 = []) := by
  unfold wrong at h
  split at h
  · omega
  · rename_i h1
    split at h
    · omega
    · rename_i h2
      split at h
      · omega
      · rename_i h3
        have hp : (parted x.Name).2.2 = true := by
          cases hb : (parted x.Name).2.2
          · exact absurd (.inl hb) h2
          · rfl
        have hl : x.Kind = 2 → 0 < x.Link.length ∧ x.Link.length ≤ 100 ∧ ¬ 0 ∈ x.Link := fun hk => by
          have h4 : ¬ (x.Link.length = 0 ∨ 100 < x.Link.length ∨ 0 ∈ x.Link) := fun h => h2 (.inr ⟨hk, h⟩)
          exact ⟨by have : ¬ x.Link.length = 0 := fun e => h4 (.inl e); omega, by have : ¬ 100 < x.Link.length := fun e => h4 (.inr (.inl e)); omega, fun e => h4 (.inr (.inr e))⟩
        have hl0 : x.Kind ≠ 2 → x.Link = [] := fun hk => List.length_eq_zero_iff.1 (by omega)
        have hd0 : x.Kind ≠ 0 → x.Data.2 = [] := fun hk => List.length_eq_zero_iff.1 (by omega)
        have hb := parted_bd hp
        refine ⟨⟨hb.1, hb.2, ?_⟩, by omega, by omega, by omega, by omega, by omega, by omega, by omega, hp, hl, hl0, hd0⟩
        by_cases hk : x.Kind = 2
        · exact (hl hk).2.1
        · rw [hl0 hk]; simp
theorem fits_name {x : T_api_Item} (h : (parted x.Name).2.2 = true) : x.Name.length ≤ 256 := by
  have hb := parted_bd h
  unfold parted at h hb
  split at h
  · cases h
  · rename_i h1
    rw [if_neg h1] at hb
    split at h
    · omega
    · rename_i h2
      rw [if_neg h2] at hb
      cases hs : slash x.Name (max 1 (x.Name.length - 101)) with
      | none => rw [hs] at h; cases h
      | some i =>
        rw [hs] at hb
        have h4 := slash_some hs
        simp only [List.length_drop, List.length_take] at hb
        omega
/-- How many zeros stand behind so many bytes. -/
def padn (n : Nat) : Nat := (512 - n % 512) % 512
/-- An item's bytes. -/
def putB (x : T_api_Item) : List UInt8 := header x x.Data.2.length ++ x.Data.2 ++ List.replicate (padn (512 + x.Data.2.length)) 0
end A

theorem run_bH (a b : ByteArray) (c d e m : Int) (p : Option Addr) (n q : Nat) (w : World) : (oBuild 65 [(0, .agg #[.string a, .string b, .int .i64 c, .int .i64 d, .int .i64 e, .slice p n q]), (1, .int .i64 m)]).run Tryd.prog w = .ok (.value (.agg #[.string a, .string b, .int .i64 c, .int .i64 d, .int .i64 e, .slice p n q, .int .i64 m])) w := by kernel_rfl
theorem pN_bH [Pan] {w : World} {K : Value → World → Prop} {a b : ByteArray} {c d e m : Int} {p : Option Addr} {n q : Nat} (hk : K (.agg #[.string a, .string b, .int .i64 c, .int .i64 d, .int .i64 e, .slice p n q, .int .i64 m]) w) :
    pN Tryd.prog (oBuild 65 [(0, .agg #[.string a, .string b, .int .i64 c, .int .i64 d, .int .i64 e, .slice p n q]), (1, .int .i64 m)]) w K := by rw [pN_def, run_bH, rN_value]; exact hk

attribute [local irreducible] oMv oV oU oCall oCallV oBi oBin oUn oLoad oStore oNil oFld oField oIdx oIndex oPick oAlloc oBox oBuild oBs oConv oMk oSl oExt oFn oIface oMap oLook oMapUp oRange oNext oAssert oPanic oRes pN pA pL pDr pIf gA pGd Calls A.made A.header A.oct A.wrong A.padn
section
variable [Pan] {E w : World} {K Q : Value → World → Prop} {L M : List HA} {l r : List UInt8} {s s2 : Sl}

set_option maxHeartbeats 2000000 in
theorem Put_ok (x : T_api_Item) (hn : x.Name.length ≤ 140737488355328) (hk : x.Link.length ≤ 140737488355328) (hS : Sat E w M) [hr : Rds cd_uint8 M x.Data.1 x.Data.2]
    (hno : A.wrong x ≠ 0 → ∀ w, Sat E w M → Q (.tuple #[.slice none 0 0, .int .i64 (A.wrong x)]) w)
    (hok : A.wrong x = 0 → ∀ s w, Sat E w (rows cd_uint8 s (A.putB x) :: M) → Q (.tuple #[.slice s.a (A.putB x).length s.c, .int .i64 0]) w) :
    Calls Tryd.prog 8 #[.agg x.enc.toArray] w (retP Q) := by
  refine tar_Put.calls ?_
  unfold tar_Put.F
  obtain ⟨y, hy⟩ : ∃ y, y = x := ⟨x, rfl⟩
  obtain ⟨name, link, kind, mode, time, data⟩ := x
  dsimp only at hn hk hr
  refine pN_bx hS (by rfl) ?_
  clear hS
  intro ab w hS
  repeat' (first | refine pN_la hS (by rfl) ?_ | fail)
  refine pc_tar_wrong (wrong_ok ⟨name, link, kind, mode, time, data⟩ hn hk hS ?_)
  clear hS
  intro w hS
  rw [← hy] at hno hok ⊢
  by_cases h0 : A.wrong y = 0
  · obtain ⟨hf, k0, k2, m0, m1, t0, t1, d1, hpt, hl, hl0, hd0⟩ := A.wrong_0 h0
    rw [h0]
    have hdl : data.2.length < 8589934592 := by rw [hy] at d1; exact d1
    repeat' (first | refine pN_bH ?_ | (refine pN_neq_s ?_ ?_ <;> intro hc <;> try (exfalso; first | omega | exact hc rfl | exact hc (by assumption) | exact absurd hc (by assumption))) | refine pIf_f ?_ | refine pL_l hS (by first | rfl | assumption) ?_ | refine pL_la hS (by rfl) ?_ | (refine pDr_go hS ?_; clear hS; intro w hS) | (refine pN_bx hS (by rfl) ?_; clear hS; intro a w hS) | refine ⟨⟨(by first | exact run_l hS (by first | rfl | assumption) | exact run_st hS (by first | rfl | omega) | exact run_ld1 ha hS | exact fun _ => run_l hS (by rfl) | exact fun _ => run_st hS (by first | rfl | omega) | exact fun _ => run_ld1 ha hS | exact fun h => Bool.noConfusion h), trivial⟩, ?_⟩ | refine pA_via (by (intro K; simp (disch := omega) only [go_sem, pN_min, pN_max, w_u32, w_u64, Option.isNone_some, Option.isNone_none]; (try simp only [wrap_u32, wrap_u64]); rfl)) ?_ | fail)
    have hS : Sat E w (headP a y (data.2.length : Nat) :: cel ab ⟨24, T_api_Item.enc ⟨name, link, kind, mode, time, data⟩⟩ :: M) := by subst hy; exact hS
    have hnl := A.fits_name hpt
    have hd : y.Data.2 = data.2 := by rw [hy]
    refine pc_tar_header (header_ok (x := y) (n := (data.2.length : Nat)) hf (by omega) k0 k2 hS ?_)
    clear hS
    intro s w hS
    have hhl := header_len hf (data.2.length : Nat)
    have hpb : A.putB y = A.header y (data.2.length : Nat) ++ data.2 ++ List.replicate (A.padn (512 + data.2.length)) 0 := by rw [A.putB, hd]
    rw [hpb] at hok
    generalize A.header y (data.2.length : Nat) = hd at *
    have hpl : A.padn (512 + data.2.length) < 512 := by unfold A.padn; omega
    have hal : (hd ++ data.2).length = 512 + data.2.length := by rw [List.length_append, hhl]
    have hpe : (512 - (512 + data.2.length) % 512) % 512 = A.padn (512 + data.2.length) := by unfold A.padn; rfl
    repeat' (first | refine ⟨trivial, ?_⟩ | refine ⟨⟨(by first | exact run_l hS (by first | rfl | assumption) | exact run_st hS (by first | rfl | omega) | exact run_ld1 ha hS | exact fun _ => run_l hS (by rfl) | exact fun _ => run_st hS (by first | rfl | omega) | exact fun _ => run_ld1 ha hS | exact fun h => Bool.noConfusion h), trivial⟩, ?_⟩ | (refine pN_app hS (by first | rfl | omega | simpa only [go_sem] using True.intro | (simp only [go_sem]; omega)) (by first | rfl | omega | simpa only [go_sem] using True.intro | (simp only [go_sem]; omega)) (by first | omega | (simp only [go_sem]; omega)) ?_; clear hS; intro s w hS) | refine pN_via (by (intro K; simp (disch := omega) only [go_sem, pN_min, pN_max, w_u32, w_u64, Option.isNone_some, Option.isNone_none]; (try simp only [wrap_u32, wrap_u64]); rfl)) ?_ | fail)
    rw [hhl]
    refine pc_tar_pad (pad_ok (512 + data.2.length) (by omega) ?_)
    rw [hpe]
    refine pN_appz (C := cd_uint8) hS (A.padn (512 + data.2.length)) rfl rfl (by omega) ?_
    clear hS
    intro s w hS
    have hS : Sat E w (rows cd_uint8 s (hd ++ data.2 ++ List.replicate (A.padn (512 + data.2.length)) 0) :: headP a y (data.2.length : Nat) :: cel ab ⟨24, T_api_Item.enc ⟨name, link, kind, mode, time, data⟩⟩ :: M) := hS
    exact hok h0 _ _ hS.to
  · repeat' (first | (refine pN_neq_s ?_ ?_ <;> intro hc <;> try (exfalso; first | omega | exact hc rfl | exact hc (by assumption) | exact absurd hc (by assumption))) | refine pIf_t ?_ | fail)
    exact hno h0 _ hS.to

theorem num_ok (e : Int) (hQ : Q (.int .i64 e) w) : Calls Tryd.prog 9 #[.int .i64 e] w (retP Q) := by
  refine pithlaw33_num.calls ?_
  unfold pithlaw33_num.F
  skip
  exact hQ
end

end Go.Proofs.YteeepkimnpabiaaDoor
