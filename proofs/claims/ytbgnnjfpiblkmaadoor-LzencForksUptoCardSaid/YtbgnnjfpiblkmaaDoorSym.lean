/-
  Package symbol: Apply, Size.
-/
import Derived.Test.YtbgnnjfpiblkmaaDoorLfSymbol
import Derived.Test.YtbgnnjfpiblkmaaDoorState
import Derived.Test.YtbgnnjfpiblkmaaDoorWin
namespace Go.Proofs.YtbgnnjfpiblkmaaDoor
open Go
set_option linter.unusedSimpArgs false
set_option linter.unnecessarySimpa false
set_option linter.unusedSectionVars false
set_option linter.unusedVariables false
namespace Z
/-- The error that a symbol has here; the bytes that it makes. -/
def may (x : W) (s : St) (y : Y) : Int := if errY y ≠ 0 then errY y else if y.Kind = 1 then 0 else if x.has (dist s y) then 0 else 7
def made (x : W) (s : St) (y : Y) : List UInt8 := if y.Kind = 1 then [y.Byte] else cpy x.all (dist s y).toNat (size y).toNat
theorem may_err {x : W} {s : St} {y : Y} (h : may x s y = 0) : errY y = 0 := by
  unfold may at h
  by_cases he : errY y = 0
  · exact he
  · rw [if_pos he] at h; exact h
theorem may_has {x : W} {s : St} {y : Y} (h : may x s y = 0) (hk : y.Kind ≠ 1) : x.has (dist s y) := by
  have he := may_err h
  unfold may at h
  rw [if_neg (by omega), if_neg hk] at h
  by_cases hh : x.has (dist s y)
  · exact hh
  · rw [if_neg hh] at h; omega
theorem kinds {y : Y} (hy : errY y = 0) : y.Kind = 1 ∨ y.Kind = 4 ∨ y.Kind = 2 ∨ y.Kind = 3 := by
  unfold errY at hy
  by_cases h1 : y.Kind = 1 ∨ y.Kind = 4
  · rcases h1 with h1 | h1 <;> simp [h1]
  · rw [if_neg h1] at hy
    by_cases h2 : y.Kind = 2
    · simp [h2]
    · rw [if_neg h2] at hy
      by_cases h3 : y.Kind = 3
      · simp [h3]
      · rw [if_neg h3] at hy; omega
theorem err_len {y : Y} (hy : errY y = 0) (h : y.Kind = 2 ∨ y.Kind = 3) : isLen y.Len := by
  unfold errY at hy
  rw [if_neg (by omega)] at hy
  by_cases h2 : y.Kind = 2
  · rw [if_pos h2] at hy
    by_cases hc : isLen y.Len ∧ isDist y.Dist
    · exact hc.1
    · rw [if_neg hc] at hy; omega
  · rw [if_neg h2, if_pos (by omega)] at hy
    by_cases hc : isLen y.Len ∧ 0 ≤ y.Dist ∧ y.Dist ≤ 3
    · exact hc.1
    · rw [if_neg hc] at hy; omega
theorem err_rep {y : Y} (hy : errY y = 0) (h : y.Kind = 3) : 0 ≤ y.Dist ∧ y.Dist ≤ 3 := by
  unfold errY at hy
  rw [if_neg (by omega), if_neg (by omega), if_pos h] at hy
  by_cases hc : isLen y.Len ∧ 0 ≤ y.Dist ∧ y.Dist ≤ 3
  · exact hc.2
  · rw [if_neg hc] at hy; omega
theorem size_bd {y : Y} (hy : errY y = 0) : 1 ≤ size y ∧ size y ≤ 273 := by
  unfold size
  rw [if_neg (by omega)]
  by_cases h : y.Kind = 2 ∨ y.Kind = 3
  · rw [if_pos h]
    have := err_len hy h
    unfold isLen at this
    omega
  · rw [if_neg h]; omega
theorem made_len {x : W} {s : St} {y : Y} (hy : errY y = 0) : ((made x s y).length : Int) = size y := by
  have h := size_bd hy
  unfold made
  by_cases hk : y.Kind = 1
  · rw [if_pos hk]
    unfold size
    rw [if_neg (by omega), if_neg (by omega)]
    rfl
  · rw [if_neg hk, cpy_len]; omega
theorem rep0 (s : St) : s.rep 0 = s.r0 := rfl
theorem rep1 (s : St) : s.rep 1 = s.r1 := rfl
theorem rep2 (s : St) : s.rep 2 = s.r2 := rfl
theorem rep3 (s : St) : s.rep 3 = s.r3 := rfl
abbrev W.put (x : W) (l : List UInt8) : W := ⟨x.size, x.all ++ l⟩
end Z
attribute [local irreducible] oMv oV oU oCall oCallV oBi oBin oUn oLoad oStore oNil oFld oField oIdx oIndex oPick oAlloc oBox oBuild oBs oConv oMk oSl oExt oFn oIface oMap oLook oMapUp oRange oNext oEntry oInv oAssert oPanic oRes pN pA pL pDr pIf gA pGd

section
variable {E w W : World} {M N : List HA} {Q : Value → World → Prop} {b : Nat} {x : Z.W} {s : Z.St} {y : Z.Y}

theorem Copy_at (hS : Sat E w (Win b x :: M)) (d n : Int) (hd : x.has d) (h0 : 0 ≤ n) (hn : n ≤ 273) (hb : x.all.length + 273 ≤ 4611686018427387904)
    (hQ : ∀ s w, Sat E w (rows cd_uint8 s (Z.cpy x.all d.toNat n.toNat) :: Win b ⟨x.size, x.all ++ Z.cpy x.all d.toNat n.toNat⟩ :: M) → Q (.tuple #[.slice s.a (Z.cpy x.all d.toNat n.toNat).length s.c, .int .i64 0]) w) :
    Calls Tryd.prog 39 #[.pointer (some ⟨b, 0, none⟩), .int .i64 d, .int .i64 n] w (retP Q) := by
  have d1 := hd.1
  obtain ⟨d, rfl⟩ : ∃ m : Nat, d = m := ⟨d.toNat, by omega⟩
  obtain ⟨n, rfl⟩ : ∃ m : Nat, n = m := ⟨n.toNat, by omega⟩
  simp only [Int.toNat_natCast, Z.cpy_len] at hQ
  exact Copy_in hS d n hd (by omega) (by omega) hQ

theorem Apply_in (hG : Glo W) (hS : Sat E w (Win b x :: M)) [h : Has (old W) M N] (hr : s.Right) (hm : Z.may x s y = 0) (hn : x.all.length + 273 ≤ 4611686018427387904)
    (hQ : ∀ s' w, Sat E w (rows cd_uint8 s' (Z.made x s y) :: Win b (x.put (Z.made x s y)) :: M) → Q (.tuple #[.slice s'.a (Z.made x s y).length s'.c, .agg (s.next y).cells.toArray, .int .i64 0]) w) :
    Calls Tryd.prog 22 #[.pointer (some ⟨b, 0, none⟩), .agg #[.int .i64 s.num, .int .i64 s.r0, .int .i64 s.r1, .int .i64 s.r2, .int .i64 s.r3], .agg #[.int .i64 y.Kind, bv y.Byte, .int .i64 y.Len, .int .i64 y.Dist]] w (retP Q) := by
  refine symbol_Apply.calls ?_
  unfold symbol_Apply.F
  have hy := Z.may_err hm
  have hsz := Z.size_bd hy
  refine pN_bx hS (by rfl) fun x4 w hS => ?_
  refine pN_bx hS (by rfl) fun x5 w hS => ?_
  refine pN_nz hS fun x7 w hS => ?_
  refine pN_la hS (by rfl) ?_
  refine pN_la hS (by rfl) ?_
  refine pc_state_State_Next (Next_in hG hS hr hy fun w hS => ?_)
  repeat' (first | (refine pN_neq_s ?_ ?_ <;> intro hc <;> try (exfalso; first | omega | exact hc rfl | exact hc (by assumption) | exact absurd hc (by assumption))) | refine pIf_f ?_ | (refine pN_sa hS (by rfl) (by rfl) (by rfl) ?_; clear hS; intro w hS; try dsimp only at hS) | (refine pN_nz hS ?_; clear hS; intro a w hS) | refine pN_via (by (intro K; simp (disch := omega) only [go_sem, pN_min, pN_max, w_u32, w_u64, Option.isNone_some, Option.isNone_none]; (try simp only [wrap_u32, wrap_u64]); rfl)) ?_ | fail)
  refine ⟨fun e v w => ∃ s' : Sl, e = .int .i64 0 ∧ v = .slice s'.a (Z.made x s y).length s'.c ∧ Sat E w (rows cd_uint8 s' (Z.made x s y) :: cel a ⟨60, (s.next y).cells⟩ :: cel x7 ⟨60, [.int .i64 0, .int .i64 0, .int .i64 0, .int .i64 0, .int .i64 0]⟩ :: Win b (x.put (Z.made x s y)) :: M), ?_, ?_⟩
  · rcases Z.kinds hy with hk | hk | hk | hk
    · have e : Z.made x s y = [y.Byte] := by rw [Z.made, if_pos hk]
      rw [e]
      repeat' (first | (refine pc_window_Window_Put (WPut_ok (l := [y.Byte]) (hS.fd (Win b)) (by simp only [List.length_cons, List.length_nil]; omega) ?_); clear hS; intro w hS) | (refine pN_eql_s ?_ ?_ <;> intro hc <;> try (exfalso; first | omega | exact hc rfl | exact hc (by assumption) | exact absurd hc (by assumption))) | refine pIf_t ?_ | refine pN_l hS (by first | rfl | assumption) ?_ | (refine pN_b1 hS (by rfl) (by decide) ?_; clear hS; intro s w hS) | refine pN_via (by (intro K; simp (disch := omega) only [go_sem, pN_min, pN_max, w_u32, w_u64, Option.isNone_some, Option.isNone_none]; (try simp only [wrap_u32, wrap_u64]); rfl)) ?_ | fail)
      exact ⟨_, rfl, rfl, hS.to⟩
    · have e : Z.made x s y = Z.cpy x.all s.r0.toNat (1 : Int).toNat := by rw [Z.made, if_neg (by omega), Z.dist, if_neg (by omega), if_neg (by omega), Z.size, if_neg (by omega), if_neg (by omega)]
      have hh := Z.may_has hm (by omega)
      rw [Z.dist, if_neg (by omega), if_neg (by omega)] at hh
      rw [e]
      repeat' (first | (refine pc_window_Window_Copy (Copy_at (hS.fd (Win b)) _ 1 hh (by omega) (by omega) (by omega) ?_); clear hS; intro s' w hS) | (refine pN_eql_s ?_ ?_ <;> intro hc <;> try (exfalso; first | omega | exact hc rfl | exact hc (by assumption) | exact absurd hc (by assumption))) | refine pIf_t ?_ | refine pIf_f ?_ | refine pN_l hS (by first | rfl | assumption) ?_ | refine pN_via (by (intro K; simp (disch := omega) only [go_sem, pN_min, pN_max, w_u32, w_u64, Option.isNone_some, Option.isNone_none]; (try simp only [wrap_u32, wrap_u64]); rfl)) ?_ | fail)
      exact ⟨_, rfl, rfl, hS.to⟩
    · have hl := Z.err_len hy (by omega)
      unfold Z.isLen at hl
      have e : Z.made x s y = Z.cpy x.all y.Dist.toNat y.Len.toNat := by rw [Z.made, if_neg (by omega), Z.dist, if_pos (by omega), Z.size, if_neg (by omega), if_pos (by omega)]
      have hh := Z.may_has hm (by omega)
      rw [Z.dist, if_pos (by omega)] at hh
      rw [e]
      repeat' (first | (refine pc_window_Window_Copy (Copy_at (hS.fd (Win b)) _ _ hh (by omega) (by omega) (by omega) ?_); clear hS; intro s' w hS) | (refine pN_eql_s ?_ ?_ <;> intro hc <;> try (exfalso; first | omega | exact hc rfl | exact hc (by assumption) | exact absurd hc (by assumption))) | refine pIf_t ?_ | refine pIf_f ?_ | refine pN_l hS (by first | rfl | assumption) ?_ | refine pN_via (by (intro K; simp (disch := omega) only [go_sem, pN_min, pN_max, w_u32, w_u64, Option.isNone_some, Option.isNone_none]; (try simp only [wrap_u32, wrap_u64]); rfl)) ?_ | fail)
      exact ⟨_, rfl, rfl, hS.to⟩
    · have hl := Z.err_len hy (by omega)
      have hd := Z.err_rep hy hk
      unfold Z.isLen at hl
      have e : Z.made x s y = Z.cpy x.all (s.rep y.Dist).toNat y.Len.toNat := by rw [Z.made, if_neg (by omega), Z.dist, if_neg (by omega), if_pos (by omega), Z.size, if_neg (by omega), if_pos (by omega)]
      have hh := Z.may_has hm (by omega)
      rw [Z.dist, if_neg (by omega), if_pos (by omega)] at hh
      rw [e]
      have h4 : y.Dist = 0 ∨ y.Dist = 1 ∨ y.Dist = 2 ∨ y.Dist = 3 := by omega
      rcases h4 with h4 | h4 | h4 | h4
      all_goals
        rw [h4] at hS hh ⊢
        simp only [Z.rep0, Z.rep1, Z.rep2, Z.rep3] at hh ⊢
        repeat' (first | (refine pc_window_Window_Copy (Copy_at (hS.fd (Win b)) _ _ hh (by omega) (by omega) (by omega) ?_); clear hS; intro s' w hS) | (refine pN_eql_s ?_ ?_ <;> intro hc <;> try (exfalso; first | omega | exact hc rfl | exact hc (by assumption) | exact absurd hc (by assumption))) | refine pIf_t ?_ | refine pIf_f ?_ | refine pN_l hS (by first | rfl | assumption) ?_ | refine pL_l hS (by first | rfl | assumption) ?_ | (refine pDr_go hS ?_; clear hS; intro w hS) | refine ⟨trivial, ?_⟩ | refine pN_via (by (intro K; simp (disch := omega) only [go_sem, pN_min, pN_max, w_u32, w_u64, Option.isNone_some, Option.isNone_none]; (try simp only [wrap_u32, wrap_u64]); rfl)) ?_ | refine pA_via (by (intro K; simp (disch := omega) only [go_sem, pN_min, pN_max, w_u32, w_u64, Option.isNone_some, Option.isNone_none]; (try simp only [wrap_u32, wrap_u64]); rfl)) ?_ | fail)
        exact ⟨_, rfl, rfl, hS.to⟩
  · clear hS
    rintro _ _ _ w ⟨s', rfl, rfl, hS⟩
    repeat' (first | (refine pN_neq_s ?_ ?_ <;> intro hc <;> try (exfalso; first | omega | exact hc rfl | exact hc (by assumption) | exact absurd hc (by assumption))) | refine pIf_f ?_ | refine pL_la hS (by rfl) ?_ | refine pL_ra hS (by rfl) ?_ | (refine pN_sa hS (by rfl) (by rfl) (by rfl) ?_; clear hS; intro w hS; try dsimp only at hS) | (refine pDr_go hS ?_; clear hS; intro w hS) | refine ⟨trivial, ?_⟩ | fail)
    exact hQ _ _ hS.to

theorem Apply_no (hG : Glo W) (hS : Sat E w (Win b x :: M)) [h : Has (old W) M N] (hr : s.Right) (hm : Z.may x s y ≠ 0)
    (hQ : ∀ w, Sat E w (Win b x :: M) → Q (.tuple #[.slice none 0 0, .agg #[.int .i64 0, .int .i64 0, .int .i64 0, .int .i64 0, .int .i64 0], .int .i64 (Z.may x s y)]) w) :
    Calls Tryd.prog 22 #[.pointer (some ⟨b, 0, none⟩), .agg #[.int .i64 s.num, .int .i64 s.r0, .int .i64 s.r1, .int .i64 s.r2, .int .i64 s.r3], .agg #[.int .i64 y.Kind, bv y.Byte, .int .i64 y.Len, .int .i64 y.Dist]] w (retP Q) := by
  refine symbol_Apply.calls ?_
  unfold symbol_Apply.F
  refine pN_bx hS (by rfl) fun x4 w hS => ?_
  refine pN_bx hS (by rfl) fun x5 w hS => ?_
  refine pN_nz hS fun x7 w hS => ?_
  refine pN_la hS (by rfl) ?_
  refine pN_la hS (by rfl) ?_
  by_cases hy : Z.errY y = 0
  · have hk : y.Kind ≠ 1 := fun hk => hm (by rw [Z.may, if_neg (by omega), if_pos hk])
    have hh : ¬ x.has (Z.dist s y) := fun hh => hm (by rw [Z.may, if_neg (by omega), if_neg hk, if_pos hh])
    have e7 : Z.may x s y = 7 := by rw [Z.may, if_neg (by omega), if_neg hk, if_neg hh]
    rw [e7] at hQ
    refine pc_state_State_Next (Next_in hG hS hr hy fun w hS => ?_)
    repeat' (first | (refine pN_neq_s ?_ ?_ <;> intro hc <;> try (exfalso; first | omega | exact hc rfl | exact hc (by assumption) | exact absurd hc (by assumption))) | refine pIf_f ?_ | (refine pN_sa hS (by rfl) (by rfl) (by rfl) ?_; clear hS; intro w hS; try dsimp only at hS) | (refine pN_nz hS ?_; clear hS; intro a w hS) | refine pN_via (by (intro K; simp (disch := omega) only [go_sem, pN_min, pN_max, w_u32, w_u64, Option.isNone_some, Option.isNone_none]; (try simp only [wrap_u32, wrap_u64]); rfl)) ?_ | fail)
    refine ⟨fun e v w => e = .int .i64 7 ∧ Sat E w (cel a ⟨60, (s.next y).cells⟩ :: cel x7 ⟨60, [.int .i64 0, .int .i64 0, .int .i64 0, .int .i64 0, .int .i64 0]⟩ :: Win b x :: M), ?_, ?_⟩
    · rcases Z.kinds hy with hk | hk | hk | hk
      · omega
      · rw [Z.dist, if_neg (by omega), if_neg (by omega)] at hh
        repeat' (first | (refine pc_window_Window_Copy (Copy_no (hS.fd (Win b)) _ _ (fun h => hh h.1) ?_); clear hS; intro w hS) | (refine pN_eql_s ?_ ?_ <;> intro hc <;> try (exfalso; first | omega | exact hc rfl | exact hc (by assumption) | exact absurd hc (by assumption))) | refine pIf_t ?_ | refine pIf_f ?_ | refine pN_l hS (by first | rfl | assumption) ?_ | refine pN_via (by (intro K; simp (disch := omega) only [go_sem, pN_min, pN_max, w_u32, w_u64, Option.isNone_some, Option.isNone_none]; (try simp only [wrap_u32, wrap_u64]); rfl)) ?_ | fail)
        exact ⟨rfl, hS.to⟩
      · rw [Z.dist, if_pos (by omega)] at hh
        repeat' (first | (refine pc_window_Window_Copy (Copy_no (hS.fd (Win b)) _ _ (fun h => hh h.1) ?_); clear hS; intro w hS) | (refine pN_eql_s ?_ ?_ <;> intro hc <;> try (exfalso; first | omega | exact hc rfl | exact hc (by assumption) | exact absurd hc (by assumption))) | refine pIf_t ?_ | refine pIf_f ?_ | refine pN_l hS (by first | rfl | assumption) ?_ | refine pN_via (by (intro K; simp (disch := omega) only [go_sem, pN_min, pN_max, w_u32, w_u64, Option.isNone_some, Option.isNone_none]; (try simp only [wrap_u32, wrap_u64]); rfl)) ?_ | fail)
        exact ⟨rfl, hS.to⟩
      · have hd := Z.err_rep hy hk
        rw [Z.dist, if_neg (by omega), if_pos (by omega)] at hh
        have h4 : y.Dist = 0 ∨ y.Dist = 1 ∨ y.Dist = 2 ∨ y.Dist = 3 := by omega
        rcases h4 with h4 | h4 | h4 | h4
        all_goals
          rw [h4] at hS hh
          try rw [h4]
          simp only [Z.rep0, Z.rep1, Z.rep2, Z.rep3] at hh
          repeat' (first | (refine pc_window_Window_Copy (Copy_no (hS.fd (Win b)) _ _ (fun h => hh h.1) ?_); clear hS; intro w hS) | (refine pN_eql_s ?_ ?_ <;> intro hc <;> try (exfalso; first | omega | exact hc rfl | exact hc (by assumption) | exact absurd hc (by assumption))) | refine pIf_t ?_ | refine pIf_f ?_ | refine pN_l hS (by first | rfl | assumption) ?_ | refine pL_l hS (by first | rfl | assumption) ?_ | (refine pDr_go hS ?_; clear hS; intro w hS) | refine ⟨trivial, ?_⟩ | refine pN_via (by (intro K; simp (disch := omega) only [go_sem, pN_min, pN_max, w_u32, w_u64, Option.isNone_some, Option.isNone_none]; (try simp only [wrap_u32, wrap_u64]); rfl)) ?_ | refine pA_via (by (intro K; simp (disch := omega) only [go_sem, pN_min, pN_max, w_u32, w_u64, Option.isNone_some, Option.isNone_none]; (try simp only [wrap_u32, wrap_u64]); rfl)) ?_ | fail)
          exact ⟨rfl, hS.to⟩
    · clear hS
      rintro _ _ _ w ⟨rfl, hS⟩
      repeat' (first | (refine pN_neq_s ?_ ?_ <;> intro hc <;> try (exfalso; first | omega | exact hc rfl | exact hc (by assumption) | exact absurd hc (by assumption))) | refine pIf_t ?_ | refine pL_ra hS (by rfl) ?_ | (refine pN_sa hS (by rfl) (by rfl) (by rfl) ?_; clear hS; intro w hS; try dsimp only at hS) | refine pN_via (by (intro K; simp (disch := omega) only [go_sem, pN_min, pN_max, w_u32, w_u64, Option.isNone_some, Option.isNone_none]; (try simp only [wrap_u32, wrap_u64]); rfl)) ?_ | fail)
      exact hQ _ hS.to
  · have e7 : Z.may x s y = Z.errY y := by rw [Z.may, if_pos (by omega)]
    rw [e7] at hQ
    refine pc_state_State_Next (Next_no hS hr hy fun w hS => ?_)
    repeat' (first | (refine pN_neq_s ?_ ?_ <;> intro hc <;> try (exfalso; first | omega | exact hc rfl | exact hc (by assumption) | exact absurd hc (by assumption))) | refine pIf_t ?_ | refine pL_ra hS (by rfl) ?_ | (refine pN_sa hS (by rfl) (by rfl) (by rfl) ?_; clear hS; intro w hS; try dsimp only at hS) | (refine pN_nz hS ?_; clear hS; intro a w hS) | refine pN_via (by (intro K; simp (disch := omega) only [go_sem, pN_min, pN_max, w_u32, w_u64, Option.isNone_some, Option.isNone_none]; (try simp only [wrap_u32, wrap_u64]); rfl)) ?_ | fail)
    exact hQ _ hS.to
end

end Go.Proofs.YtbgnnjfpiblkmaaDoor
