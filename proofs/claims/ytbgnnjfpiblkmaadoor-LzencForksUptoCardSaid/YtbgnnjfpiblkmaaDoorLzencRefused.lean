/-
  The statement LzencRefused, walked: what is refused changes nothing.
-/
import Derived.Test.YtbgnnjfpiblkmaaDoorLaw14
namespace Go.Proofs.YtbgnnjfpiblkmaaDoor
open Go
set_option linter.unusedSimpArgs false
set_option linter.unnecessarySimpa false
set_option linter.unusedSectionVars false
set_option linter.unusedVariables false
namespace Z
def puts (e : EZ) (l : List Y) : EZ := l.foldl EZ.put e
theorem puts_snoc (e : EZ) (l : List Y) (y : Y) : puts e (l ++ [y]) = (puts e l).put y := by simp [puts]
set_option maxRecDepth 8000 in
theorem puts_bd {e : EZ} (h : e.Ok) (l : List Y) : (puts e l).Ok ∧ (puts e l).s.k ≤ e.s.k + 26 * l.length ∧ (puts e l).x.all.length ≤ e.x.all.length + 273 * l.length := by
  induction l using R.snoc_ind with
  | h0 => exact ⟨h, Nat.le_refl _, Nat.le_refl _⟩
  | h1 l y ih =>
    rw [puts_snoc]
    obtain ⟨h1, h2, h3⟩ := ih
    have h4 := h1.put y
    have h5 := EZ.put_len (e := puts e l) y
    rw [List.length_append, List.length_cons, List.length_nil]
    exact ⟨h4.1, by omega, by omega⟩
theorem errY_vals (y : Y) : errY y = 0 ∨ errY y = 6 ∨ errY y = 7 := by
  unfold errY
  split
  · exact .inl rfl
  · split
    · split
      · exact .inl rfl
      · exact .inr (.inr rfl)
    · split
      · split
        · exact .inl rfl
        · exact .inr (.inr rfl)
      · exact .inr (.inl rfl)
theorem may_vals (e : EZ) (y : Y) : e.may y = 0 ∨ e.may y = 6 ∨ e.may y = 7 := by
  unfold EZ.may may
  split
  · exact errY_vals y
  · split
    · exact .inl rfl
    · split
      · exact .inl rfl
      · exact .inr (.inr rfl)
theorem may_lit (e : EZ) {y : Y} (h : y.Kind = 1) : e.may y = 0 := by
  have he : errY y = 0 := by unfold errY; rw [if_pos (.inl h)]
  unfold EZ.may may
  rw [if_neg (by omega), if_pos h]
end Z
attribute [local irreducible] oMv oV oU oCall oCallV oBi oBin oUn oLoad oStore oNil oFld oField oIdx oIndex oPick oAlloc oBox oBuild oBs oConv oMk oSl oExt oFn oIface oMap oLook oMapUp oRange oNext oEntry oInv oAssert oPanic oRes pN pA pL pDr pIf gA pGd

set_option maxRecDepth 8000 in
set_option maxHeartbeats 600000 in
theorem walk_LzencRefused (W : World) (hG : Glo W) (x0 : T_pithlaw14_Setup) (x1 : Sl × List T_api_Symbol) (k0 k1 : Nat)
    (h0 : x0.ok W k0)
    (h1 : RdP cd_api_Symbol (old W) x1.1 x1.2 ∧ x1.2.length * 32 ≤ reachBytes ∧ x1.2.length + 1 ≤ k1 ∧ ∀ c ∈ x1.2, ∃ k, k ≤ k1 ∧ c.ok W k) :
    Calls Tryd.prog 3 #[.agg x0.enc.toArray, .slice x1.1.a x1.2.length x1.1.c] W fun e W' => e = .returned (.bool true) ∧ RowKit.Below W.heap.size W W' := by
  refine walk_end (pithlaw14_LzencRefused.calls ?_)
  unfold pithlaw14_LzencRefused.F
  obtain ⟨r1, s1, _, _⟩ := h1
  obtain ⟨⟨_, _, hpr⟩, hd⟩ := h0
  have hrb : reachBytes = 140737488351232 := rfl
  have hS := Sat.start W
  obtain ⟨⟨lc, lp, pb⟩, dict⟩ := x0
  have hlc := hpr.1
  dsimp only at hlc hd
  refine pN_bx (z := [.int .i64 lc, .int .i64 lp, .int .i64 pb, .int .i64 dict]) hS (by rfl) fun x2 w hS => ?_
  by_cases hok : (⟨lc, lp, pb⟩ : Z.Pr).Ok ∧ 1 ≤ dict ∧ dict ≤ 4294967295
  · have hp := hok.1
    repeat' (first | refine pN_la_at (n := 3) hS [.int .i64 lc, .int .i64 lp, .int .i64 pb] rfl rfl ?_ | refine pN_l hS (by first | rfl | assumption) ?_ | refine pN_via (by (intro K; simp (disch := omega) only [go_sem, pN_min, pN_max, w_u32, w_u64, Option.isNone_some, Option.isNone_none]; (try simp only [wrap_u32, wrap_u64]); rfl)) ?_ | fail)
    refine pc_lzenc_New (LNew_in (p := ⟨lc, lp, pb⟩) hS hp dict hok.2.1 hok.2.2 fun e w hS => ?_)
    repeat' (first | refine pN_la_at (n := 3) hS [.int .i64 lc, .int .i64 lp, .int .i64 pb] rfl rfl ?_ | refine pN_l hS (by first | rfl | assumption) ?_ | refine pN_via (by (intro K; simp (disch := omega) only [go_sem, pN_min, pN_max, w_u32, w_u64, Option.isNone_some, Option.isNone_none]; (try simp only [wrap_u32, wrap_u64]); rfl)) ?_ | fail)
    refine pc_lzenc_New (LNew_in (p := ⟨lc, lp, pb⟩) hS hp dict hok.2.1 hok.2.2 fun c w hS => ?_)
    repeat' (first | refine pc_pithlaw14_num (num14_ok _ (by omega) ?_) | (refine pN_neq_s ?_ ?_ <;> intro hc <;> try (exfalso; first | omega | exact hc rfl | exact hc (by assumption) | exact absurd hc (by assumption))) | refine pIf_f ?_ | refine pGd_go (by rfl) ?_ | refine pN_via (by (intro K; simp (disch := omega) only [go_sem, pN_min, pN_max, w_u32, w_u64, Option.isNone_some, Option.isNone_none]; (try simp only [wrap_u32, wrap_u64]); rfl)) ?_ | fail)
    have hE0 := Z.EZ.Ok.new hp dict
    have hk0 : (Z.EZ.new ⟨lc, lp, pb⟩ dict).s.k = 0 := rfl
    have hx0 : (Z.EZ.new ⟨lc, lp, pb⟩ dict).x.all.length = 0 := rfl
    generalize Z.EZ.new ⟨lc, lp, pb⟩ dict = E0 at *
    refine ⟨fun v w => ∃ i : Nat, v = .int .i64 i ∧ i ≤ x1.2.length ∧ Sat W w [LEnc e (Z.puts E0 (x1.2.take i)), LEnc c (Z.puts E0 (x1.2.take i)), cel x2 ⟨25, [.int .i64 lc, .int .i64 lp, .int .i64 pb, .int .i64 dict]⟩, old W], fun v _ => x1.2.length - (RowKit.intOf v).toNat, ⟨0, rfl, Nat.zero_le _, by rw [show Z.puts E0 (x1.2.take 0) = E0 from rfl]; exact hS.to⟩, ?_⟩
    clear hS
    rintro _ _ w ⟨i, rfl, hi, hS⟩
    obtain ⟨zo, zk, zx⟩ := Z.puts_bd hE0 (x1.2.take i)
    rw [List.length_take, Nat.min_eq_left hi, hk0] at zk
    rw [List.length_take, Nat.min_eq_left hi, hx0] at zx
    by_cases hlt : i < x1.2.length
    · obtain ⟨y, hy⟩ : ∃ y, x1.2[i]? = some y := ⟨x1.2[i]'hlt, by simp⟩
      have hsn : x1.2.take (i + 1) = x1.2.take i ++ [y] := by rw [List.take_add_one, hy]; rfl
      have hpn : Z.puts E0 (x1.2.take (i + 1)) = (Z.puts E0 (x1.2.take i)).put y := by rw [hsn, Z.puts_snoc]
      generalize Z.puts E0 (x1.2.take i) = Z1 at *
      have hmv := Z.may_vals Z1 y
      have hml := Z.may_lit Z1 (y := y)
      repeat' (first | (refine pN_lss_s ?_ ?_ <;> intro hc <;> try (exfalso; omega)) | refine pIf_t ?_ | fail)
      refine ⟨fun w => Sat W w [LEnc e (Z1.put y), LEnc c (Z1.put y), cel x2 ⟨25, [.int .i64 lc, .int .i64 lp, .int .i64 pb, .int .i64 dict]⟩, old W], ?_, ?_⟩
      · repeat' (first | refine pN_ixk hS i rfl rfl hy (fun a ha hel => ?_) | (refine pc_lzenc_Encoder_Size (LSize_ok (hS.fd (LEnc e)) (by omega) ?_); clear hS; intro w hS) | refine pN_ld_at ha hS (by rfl) ?_ | refine pN_la hS (by rfl) ?_ | (refine pN_sa hS (by rfl) (by rfl) (by rfl) ?_; clear hS; intro w hS; try dsimp only at hS) | (refine pN_nz hS ?_; clear hS; intro a w hS) | fail)
        refine pc_lzenc_Encoder_Put (LPut_ok (y := y) hG (hS.fd (LEnc e)) (by omega) (by omega) fun w hS => ?_)
        by_cases hm : Z1.may y = 0
        · rw [hm]
          repeat' (first | refine pc_pithlaw14_num (num14_ok _ (by omega) ?_) | (refine pN_eql_s ?_ ?_ <;> intro hc <;> try (exfalso; first | omega | exact hc rfl | exact hc (by assumption) | exact absurd hc (by assumption))) | refine pIf_t ?_ | refine pN_la hS (by rfl) ?_ | fail)
          refine pc_lzenc_Encoder_Put (LPut_ok (y := y) hG (hS.fd (LEnc c)) (by omega) (by omega) fun w hS => ?_)
          rw [hm]
          repeat' (first | refine pc_pithlaw14_num (num14_ok _ (by omega) ?_) | (refine pN_neq_s ?_ ?_ <;> intro hc <;> try (exfalso; first | omega | exact hc rfl | exact hc (by assumption) | exact absurd hc (by assumption))) | refine pIf_f ?_ | fail)
          exact hS.to
        · have hput : Z1.put y = Z1 := by rw [Z.EZ.put, if_neg hm]
          have hkd : ¬ y.Kind = 1 := fun h => hm (hml h)
          rw [hput] at hS ⊢
          rcases hmv with h | h | h
          · exact absurd h hm
          · rw [h]
            repeat' (first | refine pc_pithlaw14_num (num14_ok _ (by omega) ?_) | (refine pc_lzenc_Encoder_Size (LSize_ok (hS.fd (LEnc e)) (by omega) ?_); clear hS; intro w hS) | ((first | refine pN_eql_s ?_ ?_ | refine pN_neq_s ?_ ?_) <;> intro hc <;> try (exfalso; first | omega | exact hc rfl | exact hc (by assumption) | exact absurd hc (by assumption))) | refine pIf_f ?_ | refine pGd_go (by rfl) ?_ | refine pGd_no (by rfl) ?_ | refine pN_l hS (by first | rfl | assumption) ?_ | refine pN_via (by (intro K; simp (disch := omega) only [go_sem, pN_min, pN_max, w_u32, w_u64, Option.isNone_some, Option.isNone_none]; (try simp only [wrap_u32, wrap_u64]); rfl)) ?_ | fail)
            exact hS.to
          · rw [h]
            repeat' (first | refine pc_pithlaw14_num (num14_ok _ (by omega) ?_) | (refine pc_lzenc_Encoder_Size (LSize_ok (hS.fd (LEnc e)) (by omega) ?_); clear hS; intro w hS) | ((first | refine pN_eql_s ?_ ?_ | refine pN_neq_s ?_ ?_) <;> intro hc <;> try (exfalso; first | omega | exact hc rfl | exact hc (by assumption) | exact absurd hc (by assumption))) | refine pIf_f ?_ | refine pGd_go (by rfl) ?_ | refine pN_l hS (by first | rfl | assumption) ?_ | refine pN_via (by (intro K; simp (disch := omega) only [go_sem, pN_min, pN_max, w_u32, w_u64, Option.isNone_some, Option.isNone_none]; (try simp only [wrap_u32, wrap_u64]); rfl)) ?_ | fail)
            exact hS.to
      · clear hS
        rintro _ w hS
        repeat' (first | refine pN_via (by (intro K; simp (disch := omega) only [go_sem, pN_min, pN_max, w_u32, w_u64, Option.isNone_some, Option.isNone_none]; (try simp only [wrap_u32, wrap_u64]); rfl)) ?_ | fail)
        exact ⟨⟨i + 1, rfl, by omega, by rw [hpn]; exact hS⟩, by simp [RowKit.intOf]; omega⟩
    · obtain rfl : i = x1.2.length := by omega
      generalize Z.puts E0 (x1.2.take x1.2.length) = Z1 at *
      have n1 : ¬ (⟨5, 0, 0⟩ : Z.Pr).Ok := by decide
      have n2 : ¬ (⟨2, 3, 0⟩ : Z.Pr).Ok := by decide
      have hm7 : Z1.may ⟨1, 7, 0, 0⟩ = 0 := Z.may_lit Z1 rfl
      have hp7 := zo.put (⟨1, 7, 0, 0⟩ : Z.Y)
      have hl7 := Z.EZ.put_len (e := Z1) ⟨1, 7, 0, 0⟩
      have b1 : -9223372036854775808 ≤ (⟨5, 0, 0⟩ : Z.Pr).lc ∧ (⟨5, 0, 0⟩ : Z.Pr).lc < 9223372036854775808 := ⟨by show (-9223372036854775808 : Int) ≤ 5; omega, by show (5 : Int) < 9223372036854775808; omega⟩
      have b2 : -9223372036854775808 ≤ (⟨2, 3, 0⟩ : Z.Pr).lc ∧ (⟨2, 3, 0⟩ : Z.Pr).lc < 9223372036854775808 := ⟨by show (-9223372036854775808 : Int) ≤ 2; omega, by show (2 : Int) < 9223372036854775808; omega⟩
      repeat' (first | (refine pN_lss_s ?_ ?_ <;> intro hc <;> try (exfalso; omega)) | refine pIf_f ?_ | refine pN_via (by (intro K; simp (disch := omega) only [go_sem, pN_min, pN_max, w_u32, w_u64, Option.isNone_some, Option.isNone_none]; (try simp only [wrap_u32, wrap_u64]); rfl)) ?_ | fail)
      refine pc_lzenc_Encoder_Reset (LReset_no (p := ⟨5, 0, 0⟩) n1 b1 hS fun w hS => ?_)
      repeat' (first | refine pc_pithlaw14_num (num14_ok _ (by omega) ?_) | (refine pN_neq_s ?_ ?_ <;> intro hc <;> try (exfalso; first | omega | exact hc rfl | exact hc (by assumption) | exact absurd hc (by assumption))) | refine pGd_go (by rfl) ?_ | refine pN_via (by (intro K; simp (disch := omega) only [go_sem, pN_min, pN_max, w_u32, w_u64, Option.isNone_some, Option.isNone_none]; (try simp only [wrap_u32, wrap_u64]); rfl)) ?_ | fail)
      refine pc_lzenc_Encoder_Reset (LReset_no (p := ⟨2, 3, 0⟩) n2 b2 hS fun w hS => ?_)
      repeat' (first | refine pc_pithlaw14_num (num14_ok _ (by omega) ?_) | (refine pN_neq_s ?_ ?_ <;> intro hc <;> try (exfalso; first | omega | exact hc rfl | exact hc (by assumption) | exact absurd hc (by assumption))) | refine pIf_f ?_ | refine pGd_go (by rfl) ?_ | refine pL_la hS (by rfl) ?_ | (refine pN_sa hS (by rfl) (by rfl) (by rfl) ?_; clear hS; intro w hS; try dsimp only at hS) | (refine pDr_go hS ?_; clear hS; intro w hS) | (refine pN_nz hS ?_; clear hS; intro a w hS) | refine pN_via (by (intro K; simp (disch := omega) only [go_sem, pN_min, pN_max, w_u32, w_u64, Option.isNone_some, Option.isNone_none]; (try simp only [wrap_u32, wrap_u64]); rfl)) ?_ | fail)
      refine pc_lzenc_Encoder_Put (LPut_ok (y := ⟨1, 7, 0, 0⟩) hG (hS.fd (LEnc e)) (by omega) (by omega) fun w hS => ?_)
      rw [hm7]
      repeat' (first | refine pc_pithlaw14_num (num14_ok _ (by omega) ?_) | (refine pA_eql_s ?_ ?_ <;> intro hc <;> try (exfalso; first | omega | exact hc rfl | exact hc (by assumption) | exact absurd hc (by assumption))) | refine gA_go (by rfl) ?_ | refine pGd_go (by rfl) ?_ | refine pL_la hS (by rfl) ?_ | refine ⟨trivial, ?_⟩ | refine pA_via (by (intro K; simp (disch := omega) only [go_sem, pN_min, pN_max, w_u32, w_u64, Option.isNone_some, Option.isNone_none]; (try simp only [wrap_u32, wrap_u64]); rfl)) ?_ | fail)
      refine pc_lzenc_Encoder_Put (LPut_ok (y := ⟨1, 7, 0, 0⟩) hG (hS.fd (LEnc c)) (by omega) (by omega) fun w hS => ?_)
      rw [hm7]
      generalize Z1.put ⟨1, 7, 0, 0⟩ = Z2 at *
      repeat' (first | refine pc_pithlaw14_num (num14_ok _ (by omega) ?_) | (refine pA_eql_s ?_ ?_ <;> intro hc <;> try (exfalso; first | omega | exact hc rfl | exact hc (by assumption) | exact absurd hc (by assumption))) | refine gA_go (by rfl) ?_ | refine pGd_go (by rfl) ?_ | refine ⟨trivial, ?_⟩ | refine pA_via (by (intro K; simp (disch := omega) only [go_sem, pN_min, pN_max, w_u32, w_u64, Option.isNone_some, Option.isNone_none]; (try simp only [wrap_u32, wrap_u64]); rfl)) ?_ | fail)
      refine pc_lzenc_Encoder_Cut (LCut_ok (hS.fd (LEnc e)) (by omega) fun sc w hS => ?_)
      repeat' (first | refine gA_go (by rfl) ?_ | refine pGd_go (by rfl) ?_ | refine ⟨trivial, ?_⟩ | refine pL_st hS (by first | rfl | omega | simpa only [go_sem] using True.intro | (simp only [go_sem]; omega)) ?_ | fail)
      refine pc_lzenc_Encoder_Cut (LCut_ok (hS.fd (LEnc c)) (by omega) fun sd w hS => ?_)
      repeat' (first | (refine pc_pithlaw14_known (known14_ok hG hS ?_); clear hS; intro w hS) | (refine pA_eql_ss ?_ ?_ <;> intro hc <;> try (exfalso; first | omega | exact hc rfl | exact hc (by assumption) | exact absurd hc (by assumption))) | refine gA_go (by rfl) ?_ | refine pGd_go (by rfl) ?_ | refine ⟨trivial, ?_⟩ | refine ⟨⟨(by first | exact run_l hS (by first | rfl | assumption) | exact run_st hS (by first | rfl | omega) | exact run_ld1 ha hS | exact fun _ => run_l hS (by rfl) | exact fun _ => run_st hS (by first | rfl | omega) | exact fun _ => run_ld1 ha hS | exact fun h => Bool.noConfusion h), trivial⟩, ?_⟩ | refine pL_st hS (by first | rfl | omega | simpa only [go_sem] using True.intro | (simp only [go_sem]; omega)) ?_ | refine pA_via (by (intro K; simp (disch := omega) only [go_sem, pN_min, pN_max, w_u32, w_u64, Option.isNone_some, Option.isNone_none]; (try simp only [wrap_u32, wrap_u64]); rfl)) ?_ | fail)
      exact ⟨rfl, hS.to⟩
  · repeat' (first | refine pN_la_at (n := 3) hS [.int .i64 lc, .int .i64 lp, .int .i64 pb] rfl rfl ?_ | (refine pc_lzenc_New (LNew_no (p := ⟨lc, lp, pb⟩) hS dict hlc hok ?_); clear hS; intro w hS) | refine pN_l hS (by first | rfl | assumption) ?_ | refine pN_via (by (intro K; simp (disch := omega) only [go_sem, pN_min, pN_max, w_u32, w_u64, Option.isNone_some, Option.isNone_none]; (try simp only [wrap_u32, wrap_u64]); rfl)) ?_ | fail)
    by_cases hp : (⟨lc, lp, pb⟩ : Z.Pr).Ok
    · simp only [if_pos hp]
      repeat' (first | refine pc_pithlaw14_num (num14_ok _ (by omega) ?_) | (refine pc_pithlaw14_known (known14_ok hG hS ?_); clear hS; intro w hS) | ((first | refine pN_eql_s ?_ ?_ | refine pN_neq_s ?_ ?_) <;> intro hc <;> try (exfalso; first | omega | exact hc rfl | exact hc (by assumption) | exact absurd hc (by assumption))) | refine pIf_t ?_ | refine pGd_go (by rfl) ?_ | refine pGd_no (by rfl) ?_ | refine pN_via (by (intro K; simp (disch := omega) only [go_sem, pN_min, pN_max, w_u32, w_u64, Option.isNone_some, Option.isNone_none]; (try simp only [wrap_u32, wrap_u64]); rfl)) ?_ | fail)
      exact ⟨rfl, hS.to⟩
    · simp only [if_neg hp]
      repeat' (first | refine pc_pithlaw14_num (num14_ok _ (by omega) ?_) | (refine pc_pithlaw14_known (known14_ok hG hS ?_); clear hS; intro w hS) | ((first | refine pN_eql_s ?_ ?_ | refine pN_neq_s ?_ ?_) <;> intro hc <;> try (exfalso; first | omega | exact hc rfl | exact hc (by assumption) | exact absurd hc (by assumption))) | refine pIf_t ?_ | refine pGd_go (by rfl) ?_ | refine pGd_no (by rfl) ?_ | refine pN_via (by (intro K; simp (disch := omega) only [go_sem, pN_min, pN_max, w_u32, w_u64, Option.isNone_some, Option.isNone_none]; (try simp only [wrap_u32, wrap_u64]); rfl)) ?_ | fail)
      exact ⟨rfl, hS.to⟩

end Go.Proofs.YtbgnnjfpiblkmaaDoor
