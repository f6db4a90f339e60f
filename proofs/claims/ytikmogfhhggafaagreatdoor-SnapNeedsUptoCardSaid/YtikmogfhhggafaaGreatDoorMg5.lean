/-
  Texts of one proof, one behind the other: LfBits, ShaW, ShaV, DepU, Apst, LfVarint, VarW, Defer1, LfSnap, SnW, LfTar, TarO.
-/
import Derived.Test.YtikmogfhhggafaaGreatDoorRows
import Derived.Lib.AppendStr
import Derived.Test.YtikmogfhhggafaaGreatDoorMg4
set_option linter.unusedSimpArgs false
set_option linter.unnecessarySimpa false
set_option linter.unusedSectionVars false
set_option linter.unusedVariables false

namespace Go.Proofs.YtikmogfhhggafaaGreatDoor
open Go
set_option maxRecDepth 100000

def math_bits_RotateLeft32.F [Pan] (x0 x1 : Value) (w : World) (Q : Value → World → Prop) : Prop :=
 pN Tryz.prog (oConv 3 97 x1) w fun x7 w1 =>
 pN Tryz.prog (oBin .and 97 (.tmp 7) (.const (.int .u64 31)) x7 (.int .u64 31)) w1 fun x8 w2 =>
 pN Tryz.prog (oBin .shl 213 (.tmp 9) (.tmp 10) x0 x8) w2 fun x11 w3 =>
 pN Tryz.prog (oBin .sub 97 (.const (.int .u64 32)) (.tmp 13) (.int .u64 32) x8) w3 fun x14 w4 =>
 pN Tryz.prog (oBin .shr 213 (.tmp 12) (.tmp 14) x0 x14) w4 fun x15 w5 =>
 pN Tryz.prog (oBin .or 213 (.tmp 11) (.tmp 15) x11 x15) w5 fun x16 w6 =>
 Q x16 w6
theorem math_bits_RotateLeft32.calls [Pan] {x0 x1 : Value} {w : World} {Q : Value → World → Prop} (h : math_bits_RotateLeft32.F x0 x1 w Q) : Calls Tryz.prog 175 #[x0, x1] w (retP Q) := calls_lift mixed .z [x0, x1] Tryz.func175 (by kernel_rfl) (by kernel_rfl) h

end Go.Proofs.YtikmogfhhggafaaGreatDoor

namespace Go.Proofs.YtikmogfhhggafaaGreatDoor
open Go

instance ar_8 : Ar Tryz.prog 214 8 := ⟨_, Tryz.underlying214, Tryz.sizeOf213, Tryz.isAgg213⟩
instance ar_64b : Ar Tryz.prog 215 64 := ⟨_, Tryz.underlying215, Tryz.sizeOf5, Tryz.isAgg5⟩
instance ar_64 : Ar Tryz.prog 257 64 := ⟨_, Tryz.underlying257, Tryz.sizeOf213, Tryz.isAgg213⟩
instance ar_32 : Ar Tryz.prog 57 32 := ⟨_, Tryz.underlying57, Tryz.sizeOf5, Tryz.isAgg5⟩

instance zv_w64 : Zv Tryz.prog 257 (ws (List.replicate 64 0)) := ⟨_, Tryz.zeroValue257, rfl⟩
def hC (h : H.T) : List Value := ws h.st ++ bvs h.blk ++ [.int .i64 h.n]
instance zv_hash : Zv Tryz.prog 217 (hC ⟨List.replicate 8 0, List.replicate 64 0, 0⟩) := ⟨_, Tryz.zeroValue217, rfl⟩

theorem zeros8 : ([.int .u32 0, .int .u32 0, .int .u32 0, .int .u32 0, .int .u32 0, .int .u32 0, .int .u32 0, .int .u32 0] : List Value) = ws (List.replicate 8 0) := rfl
theorem words_0 (blk : List UInt8) : List.replicate 64 0 = H.words blk 0 := rfl

theorem run_b8 (a b c d e f g h : H.W) (w : World) : (oBuild 214 [(0, wv a), (1, wv b), (2, wv c), (3, wv d), (4, wv e), (5, wv f), (6, wv g), (7, wv h)]).run Tryz.prog w = .ok (.value (.agg (ws [a, b, c, d, e, f, g, h]).toArray)) w := by kernel_rfl
theorem pN_b8 [Pan] {w : World} {K : Value → World → Prop} {a b c d e f g h : H.W} (hk : K (.agg (ws [a, b, c, d, e, f, g, h]).toArray) w) : pN Tryz.prog (oBuild 214 [(0, wv a), (1, wv b), (2, wv c), (3, wv d), (4, wv e), (5, wv f), (6, wv g), (7, wv h)]) w K := by rw [pN_def, run_b8, rN_value]; exact hk

def bndV : List Value := [.int .u64 128, .int .u64 16384, .int .u64 2097152, .int .u64 268435456, .int .u64 34359738368, .int .u64 4398046511104, .int .u64 562949953421312, .int .u64 72057594037927936, .int .u64 9223372036854775808]
structure GloS (W : World) : Prop where
  first : ∀ i, i < 8 → W.cell? ⟨0, i, none⟩ = some (wv (H.nth H.first i))
  rounds : ∀ i, i < 64 → W.cell? ⟨2, i, none⟩ = some (wv (H.nth H.consts i))
  bounds : ∀ (i : Nat) (u : Value), bndV[i]? = some u → W.cell? ⟨3, i, none⟩ = some u
theorem old_cell {E w W : World} {L M : List HA} (hS : Sat E w L) [h : Has (old W) L M] {a : Addr} {v : Value} (hc : W.cell? a = some v) : w.cell? a = some v := by
  have hS2 : Sat E w (old W :: M) := hS.perm h.perm
  have hh := hS2.old_at 0 rfl
  unfold World.cell? at hc ⊢
  cases hb : W.heap[a.block]? with
  | none => rw [hb] at hc; cases hc
  | some o => rw [hh _ _ hb]; rw [hb] at hc; exact hc

section
variable [Pan] {E w W : World} {K Q : Value → World → Prop} {J : Value → Prop} {L M N : List HA} {l r : List UInt8} {s s2 : Sl}

theorem pL_glo {t : TypeId} {a : Addr} {v : Value} (hS : Sat E w L) [h : Has (old W) L M] [Sc Tryz.prog t] (hc : W.cell? a = some v) (hk : J v) : pL Tryz.prog (oLoad t (.pointer (some a))) w J := ⟨v, run_load Sc.na (old_cell hS hc), hk⟩
theorem run_glo {t : TypeId} {a : Addr} {v : Value} (hS : Sat E w L) [h : Has (old W) L M] [Sc Tryz.prog t] (hc : W.cell? a = some v) : (oLoad t (.pointer (some a))).run Tryz.prog w = .ok (.value v) w := run_load Sc.na (old_cell hS hc)

end
attribute [local irreducible] oMv oV oU oCall oCallV oBi oBin oUn oLoad oStore oNil oFld oField oIdx oIndex oPick oAlloc oBox oBuild oBs oConv oMk oSl oExt oFn oIface oMap oLook oMapUp oRange oNext oEntry oInv oAssert oPanic oRes pN pA pL pDr pIf gA pGd Calls H.words H.rounds H.added H.word H.round
section
variable [Pan] {E w W : World} {K Q : Value → World → Prop} {J : Value → Prop} {L M N : List HA} {l r : List UInt8} {s s2 : Sl}

theorem Rot_ok (x : H.W) (i : Int) (n : Nat) (hi : i % 32 = (n : Int)) (hb : -32 ≤ i ∧ i < 32) (hS : Sat E w M) (hQ : ∀ w, Sat E w M → Q (wv (H.rot x n)) w) : Calls Tryz.prog 175 #[wv x, .int .i64 i] w (retP Q) := by
  refine math_bits_RotateLeft32.calls ?_
  unfold math_bits_RotateLeft32.F
  repeat' (first | refine pN_shl_w n (by omega) (by omega) ?_ | refine pN_shr_w (32 - n) (by omega) (by omega) ?_ | refine pN_or_w ?_ | (refine pN_via (fun K => pN_andn 5 31 32 (by rfl) (by rfl) (by decide) (by rw [wrap_u64]; omega)) ?_) | refine pN_v (hk := ?_) | fail)
  exact hQ _ hS

set_option maxHeartbeats 2000000 in
set_option maxRecDepth 8000 in
theorem Step_ok (hG : GloS W) (st : List H.W) (blk : List UInt8) (h8 : st.length = 8) (h64 : blk.length = 64) (hS : Sat E w M) [Has (old W) M N] (hQ : ∀ w, Sat E w M → Q (.agg (ws (H.step st blk)).toArray) w) :
    Calls Tryz.prog 125 #[.agg (ws st).toArray, .agg (bvs blk).toArray] w (retP Q) := by
  refine sha_Step.calls ?_
  unfold sha_Step.F
  refine pN_bx (z := ws st) hS rfl ?_
  clear hS
  intro b2 w hS
  refine pN_bx (z := bvs blk) hS rfl ?_
  clear hS
  intro b3 w hS
  refine pN_nz hS ?_
  clear hS
  intro b4 w hS
  refine pN_nz hS ?_
  clear hS
  intro b5 w hS
  have hS : Sat E w (cel b5 ⟨257, ws (H.words blk 0)⟩ :: cel b4 ⟨214, ws (List.replicate 8 0)⟩ :: cel b3 ⟨215, bvs blk⟩ :: cel b2 ⟨214, ws st⟩ :: M) := by
    rw [← words_0, ← zeros8]; exact hS
  refine ⟨fun v w => ∃ t : Nat, v = .int .i64 t ∧ t ≤ 64 ∧ Sat E w (cel b5 ⟨257, ws (H.words blk t)⟩ :: cel b4 ⟨214, ws (List.replicate 8 0)⟩ :: cel b3 ⟨215, bvs blk⟩ :: cel b2 ⟨214, ws st⟩ :: M), fun v _ => 64 - (RowKit.intOf v).toNat, ⟨0, rfl, by omega, hS⟩, ?_⟩
  clear hS
  rintro _ _ w ⟨t, rfl, ht, hS⟩
  have hwl := H.words_len blk t
  have hws : ∀ i, i < 64 → (ws (H.words blk t))[i]? = some (wv (H.nth (H.words blk t) i)) := fun i hi => ws_at (by omega)
  have hbs : ∀ i, i < 64 → (bvs blk)[i]? = some (bv (blk.getD i 0)) := fun i hi => bvs_at (by omega)
  have hlw : t < 64 → t < (ws (H.words blk t)).length := fun h => by rw [ws_len]; omega
  by_cases h64t : t < 64
  · have hlw := hlw h64t
    repeat' (first | (refine pN_lss_s ?_ ?_ <;> intro hc <;> try (exfalso; omega)) | refine pIf_t ?_ | fail)
    refine ⟨fun w => Sat E w (cel b5 ⟨257, ws (H.words blk (t + 1))⟩ :: cel b4 ⟨214, ws (List.replicate 8 0)⟩ :: cel b3 ⟨215, bvs blk⟩ :: cel b2 ⟨214, ws st⟩ :: M), ?_, ?_⟩
    · have hset : ∀ x, x = H.word blk (H.words blk t) t → (ws (H.words blk t)).set t (wv x) = ws (H.words blk (t + 1)) := fun x hx => by rw [ws_set, hx, H.words_s]
      by_cases h16 : t < 16
      · have hword := hset _ (H.word_lo h16).symm
        unfold H.by_ at hword
        repeat' (first | refine pA_ai0 t (by omega) (by omega) ?_ | refine pA_ai0 (4 * t) (by omega) (by omega) ?_ | refine pA_ai0 (4 * t + 1) (by omega) (by omega) ?_ | refine pA_ai0 (4 * t + 2) (by omega) (by omega) ?_ | refine pA_ai0 (4 * t + 3) (by omega) (by omega) ?_ | refine pL_l hS (hbs _ (by omega)) ?_ | refine pL_tow ?_ | refine pA_shl_w 24 rfl (by omega) ?_ | refine pA_shl_w 16 rfl (by omega) ?_ | refine pA_shl_w 8 rfl (by omega) ?_ | refine pA_or_w ?_ | (refine pN_s hS hlw (by rfl) ?_; clear hS; intro w hS) | (refine pN_lss_s ?_ ?_ <;> intro hc <;> try (exfalso; omega)) | refine pIf_t ?_ | (refine pDr_go hS ?_; clear hS; intro w hS) | refine ⟨trivial, ?_⟩ | refine pA_v (hk := ?_) | fail)
        dsimp only at hS
        rw [hword] at hS
        exact hS
      · have hword := hset _ (H.word_hi h16).symm
        repeat' (first | refine pA_ai0 t (by omega) (by omega) ?_ | refine pA_ai0 (t - 15) (by omega) (by omega) ?_ | refine pA_ai0 (t - 2) (by omega) (by omega) ?_ | refine pA_ai0 (t - 7) (by omega) (by omega) ?_ | refine pA_ai0 (t - 16) (by omega) (by omega) ?_ | refine pL_l hS (hws _ (by omega)) ?_ | (refine pc_math_bits_RotateLeft32 (Rot_ok _ (-7) 25 (by rfl) (by omega) hS ?_); clear hS; intro w hS) | (refine pc_math_bits_RotateLeft32 (Rot_ok _ (-18) 14 (by rfl) (by omega) hS ?_); clear hS; intro w hS) | (refine pc_math_bits_RotateLeft32 (Rot_ok _ (-17) 15 (by rfl) (by omega) hS ?_); clear hS; intro w hS) | (refine pc_math_bits_RotateLeft32 (Rot_ok _ (-19) 13 (by rfl) (by omega) hS ?_); clear hS; intro w hS) | refine pN_shr_w 3 rfl (by omega) ?_ | refine pN_shr_w 10 rfl (by omega) ?_ | refine pN_xor_w ?_ | refine pA_add_w ?_ | (refine pN_s hS hlw (by rfl) ?_; clear hS; intro w hS) | (refine pN_lss_s ?_ ?_ <;> intro hc <;> try (exfalso; omega)) | refine pIf_f ?_ | (refine pDr_go hS ?_; clear hS; intro w hS) | refine ⟨trivial, ?_⟩ | refine pA_v (hk := ?_) | fail)
        dsimp only at hS
        rw [hword] at hS
        exact hS
    · rintro _ w hS
      repeat' (first | refine pN_v (hk := ?_) | fail)
      exact ⟨⟨t + 1, rfl, by omega, hS⟩, by simp [RowKit.intOf] <;> omega⟩
  · obtain rfl : t = 64 := by omega
    clear hlw
    generalize hWd : H.words blk 64 = W at *
    repeat' (first | (refine pN_lss_s ?_ ?_ <;> intro hc <;> try (exfalso; omega)) | refine pIf_f ?_ | fail)
    have hst : (ws st).length = 8 := by rw [ws_len]; exact h8
    refine pN_la (P := Tryz.prog) (t := 214) (b := b2) (o := ⟨214, ws st⟩) hS hst.symm ?_
    refine pN_nz hS ?_
    clear hS
    intro b6 w hS
    refine pN_sa (P := Tryz.prog) (t := 214) (b := b6) (us := ws st) hS hst.symm (by rw [hst]; rfl) (ws_one st) ?_
    clear hS
    intro w hS
    have hS : Sat E w (cel b6 ⟨214, ws (H.rounds st W 0)⟩ :: cel b5 ⟨257, ws W⟩ :: cel b4 ⟨214, ws (List.replicate 8 0)⟩ :: cel b3 ⟨215, bvs blk⟩ :: cel b2 ⟨214, ws st⟩ :: M) := by
      rw [H.rounds_0]; exact hS
    refine ⟨fun v w => ∃ t : Nat, v = .int .i64 t ∧ t ≤ 64 ∧ Sat E w (cel b6 ⟨214, ws (H.rounds st W t)⟩ :: cel b5 ⟨257, ws W⟩ :: cel b4 ⟨214, ws (List.replicate 8 0)⟩ :: cel b3 ⟨215, bvs blk⟩ :: cel b2 ⟨214, ws st⟩ :: M), fun v _ => 64 - (RowKit.intOf v).toNat, ⟨0, rfl, by omega, hS⟩, ?_⟩
    clear hS
    rintro _ _ w ⟨t, rfl, ht, hS⟩
    have hrl := H.rounds_len (w := W) h8 t
    have hrs : ∀ i, i < 8 → (ws (H.rounds st W t))[i]? = some (wv (H.nth (H.rounds st W t) i)) := fun i hi => ws_at (by omega)
    by_cases h64t : t < 64
    · have hgr := hG.rounds t h64t
      have hsucc := H.rounds_s st W t
      generalize H.rounds st W t = R at *
      repeat' (first | refine pA_ai0 t (by omega) (by omega) ?_ | refine pA_ai0 0 rfl (by omega) ?_ | refine pA_ai0 1 rfl (by omega) ?_ | refine pA_ai0 2 rfl (by omega) ?_ | refine pA_ai0 4 rfl (by omega) ?_ | refine pA_ai0 5 rfl (by omega) ?_ | refine pA_ai0 6 rfl (by omega) ?_ | refine pA_ai0 7 rfl (by omega) ?_ | refine pN_ai0 3 rfl (by omega) ?_ | refine pL_glo hS hgr ?_ | refine pL_l hS (hrs _ (by omega)) ?_ | refine pN_l hS (hrs _ (by omega)) ?_ | refine pL_l hS (hws _ (by omega)) ?_ | refine ⟨⟨run_l hS (hws _ (by omega)), run_glo hS hgr, run_l hS (hrs _ (by omega)), trivial⟩, ?_⟩ | (refine pc_math_bits_RotateLeft32 (Rot_ok _ (-6) 26 (by rfl) (by omega) hS ?_); clear hS; intro w hS) | (refine pc_math_bits_RotateLeft32 (Rot_ok _ (-11) 21 (by rfl) (by omega) hS ?_); clear hS; intro w hS) | (refine pc_math_bits_RotateLeft32 (Rot_ok _ (-25) 7 (by rfl) (by omega) hS ?_); clear hS; intro w hS) | (refine pc_math_bits_RotateLeft32 (Rot_ok _ (-2) 30 (by rfl) (by omega) hS ?_); clear hS; intro w hS) | (refine pc_math_bits_RotateLeft32 (Rot_ok _ (-13) 19 (by rfl) (by omega) hS ?_); clear hS; intro w hS) | (refine pc_math_bits_RotateLeft32 (Rot_ok _ (-22) 10 (by rfl) (by omega) hS ?_); clear hS; intro w hS) | refine pN_xor_w ?_ | refine pA_xor_w ?_ | refine pN_and_w ?_ | refine pA_and_w ?_ | refine pN_add_w ?_ | refine pA_add_w ?_ | refine pA_com_w ?_ | (refine pN_lss_s ?_ ?_ <;> intro hc <;> try (exfalso; omega)) | refine pIf_t ?_ | (refine pDr_go hS ?_; clear hS; intro w hS) | fail)
      refine pN_b8 ?_
      rw [← H.round_eq, ← hsucc]
      have hsl : (ws (H.rounds st W (t + 1))).length = 8 := by rw [ws_len]; exact H.rounds_len h8 (t + 1)
      refine pN_sa (P := Tryz.prog) (t := 214) (b := b6) (us := ws (H.rounds st W (t + 1))) hS hsl.symm (by rw [hsl]; show 8 = (ws R).length; rw [ws_len, hrl]) (ws_one _) ?_
      clear hS
      intro w hS
      repeat' (first | refine pN_v (hk := ?_) | fail)
      exact ⟨⟨t + 1, rfl, by omega, hS⟩, by simp [RowKit.intOf] <;> omega⟩
    · obtain rfl : t = 64 := by omega
      clear hrs
      generalize hRd : H.rounds st W 64 = R at *
      repeat' (first | (refine pN_lss_s ?_ ?_ <;> intro hc <;> try (exfalso; omega)) | refine pIf_f ?_ | fail)
      have hS : Sat E w (cel b6 ⟨214, ws (H.added R st 0)⟩ :: cel b5 ⟨257, ws W⟩ :: cel b4 ⟨214, ws (List.replicate 8 0)⟩ :: cel b3 ⟨215, bvs blk⟩ :: cel b2 ⟨214, ws st⟩ :: M) := by
        rw [H.added_0]; exact hS
      refine ⟨fun v w => ∃ t : Nat, v = .int .i64 t ∧ t ≤ 8 ∧ Sat E w (cel b6 ⟨214, ws (H.added R st t)⟩ :: cel b5 ⟨257, ws W⟩ :: cel b4 ⟨214, ws (List.replicate 8 0)⟩ :: cel b3 ⟨215, bvs blk⟩ :: cel b2 ⟨214, ws st⟩ :: M), fun v _ => 8 - (RowKit.intOf v).toNat, ⟨0, rfl, by omega, hS⟩, ?_⟩
      clear hS
      rintro _ _ w ⟨t, rfl, ht, hS⟩
      have hal := H.added_len (s := R) (o := st) t
      rw [hrl] at hal
      have has : ∀ i, i < 8 → (ws (H.added R st t))[i]? = some (wv (H.nth (H.added R st t) i)) := fun i hi => ws_at (by omega)
      have hss : ∀ i, i < 8 → (ws st)[i]? = some (wv (H.nth st i)) := fun i hi => ws_at (by omega)
      by_cases h8t : t < 8
      · have hsucc := H.added_s R st t
        have hset := ws_set (H.added R st t) t (H.nth (H.added R st t) t + H.nth st t)
        rw [← hsucc] at hset
        have hlt : t < (ws (H.added R st t)).length := by rw [ws_len]; omega
        generalize H.added R st t = D at *
        repeat' (first | refine pA_ai0 t (by omega) (by omega) ?_ | refine pL_l hS (has _ (by omega)) ?_ | refine pL_l hS (hss _ (by omega)) ?_ | refine pA_add_w ?_ | (refine pN_s hS hlt (by rfl) ?_; clear hS; intro w hS) | (refine pN_lss_s ?_ ?_ <;> intro hc <;> try (exfalso; omega)) | refine pIf_t ?_ | (refine pDr_go hS ?_; clear hS; intro w hS) | refine ⟨trivial, ?_⟩ | refine pN_v (hk := ?_) | fail)
        dsimp only at hS
        rw [hset] at hS
        exact ⟨⟨t + 1, rfl, by omega, hS⟩, by simp [RowKit.intOf] <;> omega⟩
      · obtain rfl : t = 8 := by omega
        have hst8 : H.added R st 8 = H.step st blk := by rw [H.step, hWd, hRd]
        rw [hst8] at hS
        have hl8 := H.step_len h8 blk
        generalize H.step st blk = D at *
        have hDl : (ws D).length = 8 := by rw [ws_len]; exact hl8
        repeat' (first | (refine pN_lss_s ?_ ?_ <;> intro hc <;> try (exfalso; omega)) | refine pIf_f ?_ | fail)
        refine pN_la (P := Tryz.prog) (t := 214) (b := b6) (o := ⟨214, ws D⟩) hS hDl.symm ?_
        refine pN_sa (P := Tryz.prog) (t := 214) (b := b4) (us := ws D) hS hDl.symm (by rw [hDl]; rfl) (ws_one _) ?_
        clear hS
        intro w hS
        refine pL_ra (P := Tryz.prog) (t := 214) (b := b4) (o := ⟨214, ws D⟩) hS hDl.symm ?_
        exact hQ _ hS.to
end
end Go.Proofs.YtikmogfhhggafaaGreatDoor

namespace Go.Proofs.YtikmogfhhggafaaGreatDoor
open Go

section
variable {h : H.T}
theorem hC_len (h8 : h.st.length = 8) (h64 : h.blk.length = 64) : (hC h).length = 73 := by simp only [hC, List.length_append, ws_len, bvs_length, h8, h64, List.length_singleton]
theorem hC_n (h8 : h.st.length = 8) (h64 : h.blk.length = 64) : (hC h)[72]? = some (.int .i64 h.n) := by
  rw [hC, List.getElem?_append_right (by simp only [List.length_append, ws_len, bvs_length]; omega)]
  simp only [List.length_append, ws_len, bvs_length, h8, h64]
  rfl
theorem hC_setn (h8 : h.st.length = 8) (h64 : h.blk.length = 64) (n : Nat) : (hC h).set 72 (.int .i64 n) = hC ⟨h.st, h.blk, n⟩ := by
  rw [hC, List.set_append_right _ _ (by simp only [List.length_append, ws_len, bvs_length]; omega)]
  simp only [List.length_append, ws_len, bvs_length, h8, h64]
  rfl
theorem hC_setb (h8 : h.st.length = 8) (h64 : h.blk.length = 64) {i : Nat} (hi : i < 64) (c : UInt8) : (hC h).set (8 + i) (bv c) = hC ⟨h.st, h.blk.set i c, h.n⟩ := by
  rw [hC, List.append_assoc, List.set_append_right _ _ (by rw [ws_len]; omega), ws_len, h8, Nat.add_sub_cancel_left, List.set_append_left _ _ (by rw [bvs_length]; omega), bvs_set, ← List.append_assoc]
  rfl
theorem hC_st (h8 : h.st.length = 8) : ((hC h).drop 0).take 8 = ws h.st := by
  rw [List.drop_zero, hC, List.append_assoc, List.take_append_of_le_length (by rw [ws_len]; omega), List.take_of_length_le (by rw [ws_len]; omega)]
theorem hC_blk (h8 : h.st.length = 8) (h64 : h.blk.length = 64) : ((hC h).drop 8).take 64 = bvs h.blk := by
  have e : (8 : Nat) = (ws h.st).length := by rw [ws_len, h8]
  rw [hC, List.append_assoc, e, List.drop_left, List.take_append_of_le_length (by rw [bvs_length]; omega), List.take_of_length_le (by rw [bvs_length]; omega)]
theorem hC_setst (h8 : h.st.length = 8) {st : List H.W} (h8' : st.length = 8) : (hC h).take 0 ++ ws st ++ (hC h).drop (0 + (ws st).length) = hC ⟨st, h.blk, h.n⟩ := by
  have e : 0 + (ws st).length = (ws h.st).length := by rw [ws_len, ws_len, h8, h8']
  rw [List.take_zero, List.nil_append, e, hC, List.append_assoc, List.drop_left, hC, List.append_assoc]
theorem ws_at_cells {W : World} {g : Nat} {l : List H.W} (h : ∀ i, i < l.length → W.cell? ⟨g, i, none⟩ = some (wv (H.nth l i))) : ∀ (j : Nat) (u : Value), (ws l)[j]? = some u → W.cell? ((⟨g, 0, none⟩ : Addr).add j) = some u := by
  intro j u hj
  have hlt : j < l.length := by
    have := (List.getElem?_eq_some_iff.1 hj).1
    rwa [ws_len] at this
  rw [ws_at hlt] at hj
  rw [← Option.some.inj hj, Addr.add_lit, Nat.zero_add]
  exact h j hlt
end
theorem zeros32 : ([bv 0, bv 0, bv 0, bv 0, bv 0, bv 0, bv 0, bv 0, bv 0, bv 0, bv 0, bv 0, bv 0, bv 0, bv 0, bv 0, bv 0, bv 0, bv 0, bv 0, bv 0, bv 0, bv 0, bv 0, bv 0, bv 0, bv 0, bv 0, bv 0, bv 0, bv 0, bv 0] : List Value) = bvs (List.replicate 32 0) := rfl
theorem hC_one (h : H.T) : (hC h).all (·.oneCell') = true := by
  rw [hC, List.all_append, List.all_append, ws_one, bvs_all]; rfl
theorem run_bHash (w : World) : (oBuild 217 [(0, .agg (ws H.first).toArray)]).run Tryz.prog w = .ok (.value (.agg (hC H.T.new).toArray)) w := by kernel_rfl
theorem pN_bHash [Pan] {w : World} {K : Value → World → Prop} (hk : K (.agg (hC H.T.new).toArray) w) : pN Tryz.prog (oBuild 217 [(0, .agg (ws H.first).toArray)]) w K := by rw [pN_def, run_bHash, rN_value]; exact hk

attribute [local irreducible] oMv oV oU oCall oCallV oBi oBin oUn oLoad oStore oNil oFld oField oIdx oIndex oPick oAlloc oBox oBuild oBs oConv oMk oSl oExt oFn oIface oMap oLook oMapUp oRange oNext oEntry oInv oAssert oPanic oRes pN pA pL pDr pIf gA pGd Calls H.words H.rounds H.added H.word H.round H.T.put H.T.write H.step H.pad H.bes hC
abbrev pq (b : Nat) : Value := .pointer (some ⟨b, 0, none⟩)
section
variable [Pan] {E w W : World} {K Q : Value → World → Prop} {J : Value → Prop} {L M N : List HA} {l r : List UInt8} {s s2 : Sl} {b : Nat} {h : H.T}

theorem ShNew_ok (hG : GloS W) (hS : Sat E w M) [Has (old W) M N] (hQ : ∀ b w, Sat E w (cel b ⟨217, hC H.T.new⟩ :: M) → Q (pq b) w) : Calls Tryz.prog 92 #[] w (retP Q) := by
  refine sha_New.calls ?_
  unfold sha_New.F
  refine pN_ld_n (cs := ws H.first) Ag.ag Ag.sz rfl (ws_at_cells fun i hi => old_cell hS (hG.first i hi)) ?_
  refine pN_bHash ?_
  refine pN_bx (z := hC H.T.new) hS rfl ?_
  clear hS
  intro b w hS
  exact hQ b w hS

set_option maxHeartbeats 2000000 in
theorem ShWrite_ok (hG : GloS W) (h8 : h.st.length = 8) (h64 : h.blk.length = 64) (hS : Sat E w (cel b ⟨217, hC h⟩ :: M)) [Has (old W) M N] [hr : Rds cd_uint8 M s l] (hn : h.n + l.length < 4611686018427387904)
    (hQ : ∀ w, Sat E w (cel b ⟨217, hC (h.write l)⟩ :: M) → Q (.tuple #[]) w) : Calls Tryz.prog 93 #[pq b, .slice s.a l.length s.c] w (retP Q) := by
  refine sha_Hash_Write.calls ?_
  unfold sha_Hash_Write.F
  repeat' (first | refine pN_v (hk := ?_) | fail)
  refine ⟨fun v w => ∃ t : Nat, v = .int .i64 t ∧ t ≤ l.length ∧ Sat E w (cel b ⟨217, hC (h.write (l.take t))⟩ :: M), fun v _ => l.length - (RowKit.intOf v).toNat, ⟨0, rfl, by omega, by rw [List.take_zero, H.write_nil]; exact hS⟩, ?_⟩
  clear hS
  rintro _ _ w ⟨t, rfl, ht, hS⟩
  obtain ⟨g8, g64, gn⟩ := H.write_ok (l.take t) h8 h64
  rw [List.length_take, Nat.min_eq_left ht] at gn
  by_cases hlt : t < l.length
  · obtain ⟨c, hc⟩ : ∃ c, l[t]? = some c := ⟨l[t], by simp [hlt]⟩
    have hsucc : h.write (l.take (t + 1)) = (h.write (l.take t)).put c := by
      rw [List.take_add_one, hc, H.write_app, H.write_one]
    generalize h.write (l.take t) = G at *
    have hcn := hC_n g8 g64
    repeat' (first | (refine pN_lss_s ?_ ?_ <;> intro hc <;> try (exfalso; omega)) | refine pIf_t ?_ | fail)
    refine ⟨fun w => Sat E w (cel b ⟨217, hC (G.put c)⟩ :: M), ?_, ?_⟩
    · have hm : G.n % 64 < 64 := Nat.mod_lt _ (by omega)
      have hlb : 8 + G.n % 64 < (hC G).length := by rw [hC_len g8 g64]; omega
      have hsb := hC_setb g8 g64 hm c
      repeat' (first | refine pN_l hS hcn ?_ | refine pN_aia (G.n % 64) (by omega) (by omega) ?_ | (refine pN_s hS hlb (by rfl) ?_; clear hS; intro w hS) | refine pN_ld1 ha hS ?_ | refine pN_ixk hS _ (by first | rfl | (exact (Int.toNat_of_nonneg (by omega)).symm)) (by first | rfl | omega | simpa only [go_sem] using True.intro | (simp only [go_sem]; omega)) (by assumption) fun a ha hel => ?_ | refine pN_v (hk := ?_) | fail)
      dsimp only at hS
      rw [hsb] at hS
      obtain ⟨G2, hG2⟩ : ∃ G2 : H.T, G2 = ⟨G.st, G.blk.set (G.n % 64) c, G.n⟩ := ⟨_, rfl⟩
      have e8 : G2.st.length = 8 := by rw [hG2]; exact g8
      have e64 : G2.blk.length = 64 := by rw [hG2]; show (G.blk.set _ c).length = 64; rw [List.length_set, g64]
      have en : G2.n = G.n := by rw [hG2]
      rw [← hG2] at hS
      have hcn2 := hC_n e8 e64
      rw [en] at hcn2
      have hsn := hC_setn e8 e64 (G.n + 1)
      have hl2 : 72 < (hC G2).length := by rw [hC_len e8 e64]; omega
      have hcast : ((G.n : Int) + 1) = ((G.n + 1 : Nat) : Int) := by norm_cast
      repeat' (first | refine pN_l hS hcn2 ?_ | (refine pN_s hS hl2 (by rfl) ?_; clear hS; intro w hS) | (refine pN_eql_s ?_ ?_ <;> intro hc <;> try (exfalso; first | omega | exact hc rfl | exact hc (by assumption) | exact absurd hc (by assumption))) | refine pIf_t ?_ | refine pIf_f ?_ | (refine pDr_go hS ?_; clear hS; intro w hS) | refine pN_v (hk := ?_) | refine pA_v (hk := ?_) | fail)
      · dsimp only at hS
        rw [hcast, hsn] at hS
        have hm63 : G.n % 64 = 63 := by omega
        rw [H.put_63 hm63 c]
        obtain ⟨G3, hG3⟩ : ∃ G3 : H.T, G3 = ⟨G2.st, G2.blk, G.n + 1⟩ := ⟨_, rfl⟩
        rw [← hG3] at hS
        have f8 : G3.st.length = 8 := by rw [hG3]; exact e8
        have f64 : G3.blk.length = 64 := by rw [hG3]; exact e64
        have hws : (ws G3.st).length = 8 := by rw [ws_len, f8]
        have hbs : (bvs G3.blk).length = 64 := by rw [bvs_length, f64]
        have hs8 := H.step_len f8 G3.blk
        have hsw : (ws (H.step G3.st G3.blk)).length = 8 := by rw [ws_len, hs8]
        have hse := hC_setst (h := G3) f8 hs8
        have hl0 : 0 + (ws (H.step G3.st G3.blk)).length ≤ (hC G3).length := by rw [hsw, hC_len f8 f64]; omega
        have hfin : (⟨H.step G.st (G.blk.set 63 c), G.blk.set 63 c, G.n + 1⟩ : H.T) = ⟨H.step G3.st G3.blk, G3.blk, G3.n⟩ := by rw [hG3, hG2, hm63]
        rw [hfin]
        repeat' (first | refine pL_la_at (n := 8) hS (ws G3.st) (hC_st f8) hws.symm ?_ | refine pL_la_at (n := 64) hS (bvs G3.blk) (hC_blk f8 f64) hbs.symm ?_ | (refine pc_sha_Step (Step_ok hG _ _ f8 f64 hS ?_); clear hS; intro w hS) | (refine pN_sa_at (n := 8) hS hsw.symm hl0 (ws_one _) ?_; clear hS; intro w hS) | refine ⟨trivial, ?_⟩ | refine pA_v (hk := ?_) | fail)
        dsimp only at hS
        rw [hse] at hS
        exact hS
      · dsimp only at hS
        rw [hcast, hsn] at hS
        rw [H.put_lo (h := G) (by omega) c]
        rw [hG2] at hS
        exact hS
    · rintro _ w hS
      rw [← hsucc] at hS
      repeat' (first | refine pN_v (hk := ?_) | fail)
      exact ⟨⟨t + 1, rfl, by omega, hS⟩, by simp [RowKit.intOf] <;> omega⟩
  · obtain rfl : t = l.length := by omega
    rw [List.take_length] at hS
    repeat' (first | (refine pN_lss_s ?_ ?_ <;> intro hc <;> try (exfalso; omega)) | refine pIf_f ?_ | fail)
    exact hQ _ hS

theorem shr_byte (x k : Nat) : byteOf ((x : Int) / 2 ^ (8 * k)) = byteOf ((x / 256 ^ k : Nat) : Int) := by
  have e : (256 : Nat) ^ k = 2 ^ (8 * k) := by rw [Nat.pow_mul]
  rw [e]
  congr 1

set_option maxHeartbeats 2000000 in
theorem Pad_ok (n : Nat) (hn : n < 4611686018427387904) (hS : Sat E w M) (hQ : ∀ s w, Sat E w (rows cd_uint8 s (H.pad n) :: M) → Q (.slice s.a (H.pad n).length s.c) w) : Calls Tryz.prog 126 #[.int .i64 n] w (retP Q) := by
  refine sha_Pad.calls ?_
  unfold sha_Pad.F
  obtain ⟨z, hz⟩ : ∃ z : Nat, z = (119 - n % 64) % 64 := ⟨_, rfl⟩
  have hz64 : z < 64 := by omega
  have hzi : (119 - (n : Int) % 64) % 64 = (z : Int) := by omega
  have hp : H.pad n = (128 :: List.replicate z 0) ++ H.bes (n * 8 % 18446744073709551616) 8 := by rw [H.pad_eq, hz]
  generalize hB : H.bes (n * 8 % 18446744073709551616) 8 = B at *
  have hBl : B.length = 8 := by rw [← hB, H.bes_len]
  have hBg : ∀ k, k < 8 → B[k]? = some (byteOf (((n * 8 % 18446744073709551616) / 256 ^ (7 - k) : Nat) : Int)) := fun k hk => by rw [← hB, H.bes_get 8 _ k hk]
  repeat' (first | (refine pN_mk (C := cd_uint8) hS (1 + z + 8) (by omega) (by omega) ?_; clear hS; intro s w hS) | (refine pN_lss_s ?_ ?_ <;> intro hc <;> try (exfalso; omega)) | refine pIf_f ?_ | refine pN_ix hS _ (by first | rfl | (exact (Int.toNat_of_nonneg (by omega)).symm)) (by first | rfl | omega | simpa only [go_sem] using True.intro | (simp only [go_sem]; omega)) (by first | omega | (simp only [go_sem]; omega)) fun a x hx ha hel => ?_ | (refine pN_sr hel hS (by rfl) (by rfl) (by first | omega | (simp only [go_sem]; omega)) ?_; clear hS; intro w hS) | refine pN_v (hk := ?_) | fail)
  rw [hzi]
  have h0 : (List.replicate (1 + z + 8) cd_uint8.zero).set 0 128 = H.sofar (128 :: List.replicate z 0) B 0 := by
    rw [show 1 + z + 8 = (z + 8) + 1 by omega, List.replicate_succ, List.set_cons_zero, H.sofar, hBl, List.take_zero, List.nil_append, List.cons_append, List.replicate_append_replicate]
    rfl
  have hAl : (128 :: List.replicate z (0 : UInt8)).length = 1 + z := by rw [List.length_cons, List.length_replicate]; omega
  generalize hA : (128 :: List.replicate z (0 : UInt8)) = A at *
  have hfin : H.pad n = H.sofar A B 8 := by rw [hp, ← hBl, H.sofar_all]
  have hsl : ∀ k, k ≤ 8 → (H.sofar A B k).length = 1 + z + 8 := fun k hk => by rw [H.sofar_len _ _ (by omega), hAl, hBl]
  rw [h0] at hS
  refine ⟨fun v w => ∃ k : Nat, v = .int .i64 k ∧ k ≤ 8 ∧ Sat E w (rows cd_uint8 s (H.sofar A B k) :: M), fun v _ => 8 - (RowKit.intOf v).toNat, ⟨0, rfl, by omega, hS⟩, ?_⟩
  clear hS
  rintro _ _ w ⟨k, rfl, hk, hS⟩
  have hlk := hsl k hk
  by_cases hk8 : k < 8
  · have hset := H.sofar_set A (hBg k hk8)
    rw [hAl] at hset
    rw [← hlk]
    generalize H.sofar A B k = D at *
    have hval : byteOf (IntKind.u64.wrap ((n : Int) * 8) / 2 ^ (8 * (7 - k))) = byteOf (((n * 8 % 18446744073709551616) / 256 ^ (7 - k) : Nat) : Int) := by
      rw [← shr_byte, wrap_u64, Int.natCast_emod, Int.natCast_mul]; rfl
    repeat' (first | refine pN_via (fun K => pN_shln 3 3 8 rfl rfl (by decide)) ?_ | refine pN_shr_k (8 * (7 - k)) (by omega) (show _ ≤ 64 by omega) ?_ | (refine pN_lss_s ?_ ?_ <;> intro hc <;> try (exfalso; omega)) | refine pIf_t ?_ | refine pN_tob ?_ | refine pN_ix hS _ (by first | rfl | (exact (Int.toNat_of_nonneg (by omega)).symm)) (by first | rfl | omega | simpa only [go_sem] using True.intro | (simp only [go_sem]; omega)) (by first | omega | (simp only [go_sem]; omega)) fun a x hx ha hel => ?_ | (refine pN_sr hel hS (by rfl) (by rfl) (by first | omega | (simp only [go_sem]; omega)) ?_; clear hS; intro w hS) | refine pN_v (hk := ?_) | fail)
    rw [hval, hset] at hS
    exact ⟨⟨k + 1, rfl, by omega, hS⟩, by simp [RowKit.intOf] <;> omega⟩
  · obtain rfl : k = 8 := by omega
    rw [← hfin] at hS hlk
    rw [← hlk]
    repeat' (first | (refine pN_lss_s ?_ ?_ <;> intro hc <;> try (exfalso; omega)) | refine pIf_f ?_ | fail)
    exact hQ _ _ hS

set_option maxHeartbeats 4000000 in
set_option maxRecDepth 8000 in
theorem ShSum_ok (hG : GloS W) (h8 : h.st.length = 8) (h64 : h.blk.length = 64) (hS : Sat E w (cel b ⟨217, hC h⟩ :: M)) [Has (old W) M N] (hn : h.n < 2305843009213693952)
    (hQ : ∀ w, Sat E w (cel b ⟨217, hC h⟩ :: M) → Q (arrV h.sum) w) : Calls Tryz.prog 94 #[pq b] w (retP Q) := by
  refine sha_Hash_Sum.calls ?_
  unfold sha_Hash_Sum.F
  have hcl := hC_len h8 h64
  have hcn := hC_n h8 h64
  refine pN_nz hS ?_
  clear hS
  intro b1 w hS
  repeat' (first | refine pN_v (hk := ?_) | fail)
  refine pN_la (P := Tryz.prog) (t := 217) (b := b) (o := ⟨217, hC h⟩) hS hcl.symm ?_
  refine pN_nz hS ?_
  clear hS
  intro b2 w hS
  rw [zeros32] at hS
  have hzl : (hC ⟨List.replicate 8 0, List.replicate 64 0, 0⟩).length = 73 := hC_len (by rw [List.length_replicate]) (by rw [List.length_replicate])
  refine pN_sa (P := Tryz.prog) (t := 217) (b := b2) (us := hC h) hS hcl.symm (by rw [hcl]; exact hzl.symm) (hC_one h) ?_
  clear hS
  intro w hS
  have hpl : (H.pad h.n).length ≤ 73 := by rw [H.pad_eq, List.length_append, List.length_cons, List.length_replicate, H.bes_len]; omega
  obtain ⟨e8, e64, en⟩ := H.write_ok (H.pad h.n) h8 h64
  have hsum : h.sum = H.outs (h.write (H.pad h.n)).st := rfl
  repeat' (first | refine pN_l hS hcn ?_ | (refine pc_sha_Pad (Pad_ok h.n (by omega) hS ?_); clear hS; intro s w hS) | (refine pc_sha_Hash_Write (ShWrite_ok hG h8 h64 (hS.fd (cel b2)) (by omega) ?_); clear hS; intro w hS) | (refine pN_nz hS ?_; clear hS; intro a w hS) | refine pN_v (hk := ?_) | fail)
  rw [zeros32] at hS
  generalize h.write (H.pad h.n) = G at *
  rw [hsum] at hQ
  have hGst : (ws G.st).length = 8 := by rw [ws_len, e8]
  have hOg : ∀ i k, i < 8 → k < 4 → (H.outs G.st)[4 * i + k]? = some (byteOf (((H.nth G.st i).toNat / 256 ^ (3 - k) : Nat) : Int)) := fun i k hi hk => H.outs_get G.st i k hk (by omega)
  have hOl : (H.outs G.st).length = 32 := by rw [H.outs_len, e8]
  have hgs : ∀ i, i < 8 → (ws G.st)[i]? = some (wv (H.nth G.st i)) := fun i hi => ws_at (by omega)
  generalize hOO : H.outs G.st = O at *
  have h00 : List.replicate 32 (0 : UInt8) = H.sofar [] O 0 := by rw [H.sofar, hOl]; rfl
  have h0e : (List.replicate 32 (0 : UInt8)).length = 32 := by rw [List.length_replicate]
  have hSl : ∀ j, j ≤ 32 → (bvs (H.sofar [] O j)).length = 32 := fun j hj => by rw [bvs_length, H.sofar_len _ _ (by omega), hOl]; rfl
  have hfin : H.sofar [] O 32 = O := by rw [← hOl, H.sofar_all]; rfl
  refine pN_la_at (n := 8) hS (ws G.st) (hC_st e8) hGst.symm ?_
  refine ⟨fun v w => ∃ i : Nat, v = .int .i64 i ∧ i ≤ 8 ∧ Sat E w (cel a ⟨57, bvs (H.sofar [] O (4 * i))⟩ :: cel b2 ⟨217, hC G⟩ :: rows cd_uint8 s (H.pad h.n) :: cel b1 ⟨57, bvs (List.replicate 32 0)⟩ :: cel b ⟨217, hC h⟩ :: M), fun v _ => 8 - (RowKit.intOf v).toNat, ⟨0, rfl, by omega, by rw [Nat.mul_zero, ← h00]; exact hS⟩, ?_⟩
  clear hS
  rintro _ _ w ⟨i, rfl, hi, hS⟩
  by_cases hi8 : i < 8
  · repeat' (first | refine pN_aix i rfl hi8 (hgs i hi8) ?_ | (refine pN_lss_s ?_ ?_ <;> intro hc <;> try (exfalso; omega)) | refine pIf_t ?_ | fail)
    refine ⟨fun v w => ∃ k : Nat, v = .int .i64 k ∧ k ≤ 4 ∧ Sat E w (cel a ⟨57, bvs (H.sofar [] O (4 * i + k))⟩ :: cel b2 ⟨217, hC G⟩ :: rows cd_uint8 s (H.pad h.n) :: cel b1 ⟨57, bvs (List.replicate 32 0)⟩ :: cel b ⟨217, hC h⟩ :: M), fun v _ => 4 - (RowKit.intOf v).toNat, ⟨0, rfl, by omega, hS⟩, ?_⟩
    clear hS
    rintro _ _ w ⟨k, rfl, hk, hS⟩
    by_cases hk4 : k < 4
    · have hset := H.sofar_set [] (hOg i k hi8 hk4)
      rw [List.length_nil, Nat.zero_add] at hset
      have hlt : 4 * i + k < (bvs (H.sofar [] O (4 * i + k))).length := by rw [hSl _ (by omega)]; omega
      have hbs := bvs_set (H.sofar [] O (4 * i + k)) (4 * i + k) (byteOf (((H.nth G.st i).toNat / 256 ^ (3 - k) : Nat) : Int))
      rw [hset] at hbs
      have hby : byteOf (((H.nth G.st i >>> (8 * (3 - k))).toNat : Nat) : Int) = byteOf (((H.nth G.st i).toNat / 256 ^ (3 - k) : Nat) : Int) := by
        rw [BitVec.toNat_ushiftRight, Nat.shiftRight_eq_div_pow, Nat.pow_mul]
      generalize H.sofar [] O (4 * i + k) = D at *
      repeat' (first | refine pN_shr_w (8 * (3 - k)) (by omega) (by omega) ?_ | refine pN_ai0 (4 * i + k) (by omega) (by omega) ?_ | refine pN_tobw ?_ | (refine pN_s hS hlt (by rfl) ?_; clear hS; intro w hS) | (refine pN_lss_s ?_ ?_ <;> intro hc <;> try (exfalso; omega)) | refine pIf_t ?_ | refine pN_v (hk := ?_) | fail)
      dsimp only at hS
      rw [hby, hbs] at hS
      exact ⟨⟨k + 1, rfl, by omega, hS⟩, by simp [RowKit.intOf] <;> omega⟩
    · obtain rfl : k = 4 := by omega
      rw [show 4 * i + 4 = 4 * (i + 1) by omega] at hS
      repeat' (first | (refine pN_lss_s ?_ ?_ <;> intro hc <;> try (exfalso; omega)) | refine pIf_f ?_ | refine pN_v (hk := ?_) | fail)
      exact ⟨⟨i + 1, rfl, by omega, hS⟩, by simp [RowKit.intOf] <;> omega⟩
  · obtain rfl : i = 8 := by omega
    have hO32 : (bvs O).length = 32 := by rw [bvs_length, hOl]
    have h32 : (bvs (List.replicate 32 (0 : UInt8))).length = 32 := by rw [bvs_length, h0e]
    rw [show 4 * 8 = 32 by omega, hfin] at hS
    repeat' (first | (refine pN_lss_s ?_ ?_ <;> intro hc <;> try (exfalso; omega)) | refine pIf_f ?_ | fail)
    refine pN_la (P := Tryz.prog) (t := 57) (b := a) (o := ⟨57, bvs O⟩) hS hO32.symm ?_
    refine pN_sa (P := Tryz.prog) (t := 57) (b := b1) (us := bvs O) hS hO32.symm (by rw [hO32]; exact h32.symm) (bvs_all _) ?_
    clear hS
    intro w hS
    refine pL_ra (P := Tryz.prog) (t := 57) (b := b1) (o := ⟨57, bvs O⟩) hS hO32.symm ?_
    exact hQ _ hS.to

theorem Sum_ok (hG : GloS W) (hS : Sat E w M) [Has (old W) M N] {s1 : Sl} [hr : Rds cd_sl_uint8 M s [(s1, l)]] [hr1 : Rds cd_uint8 M s1 l] (hn : l.length < 2305843009213693952) (hQ : ∀ w, Sat E w M → Q (idV (H.sum l)) w) :
    Calls Tryz.prog 52 #[.slice s.a 1 s.c] w (retP Q) := by
  refine sha_Sum.calls ?_
  unfold sha_Sum.F
  repeat' (first | (refine pc_sha_New (ShNew_ok hG hS ?_); clear hS; intro b w hS) | (refine pN_nz hS ?_; clear hS; intro a w hS) | refine pN_v (hk := ?_) | fail)
  rw [zeros32] at hS
  obtain ⟨e8, e64, en⟩ := H.write_ok l H.new_st H.new_blk
  have en0 : H.T.new.n = 0 := rfl
  have hsum : idV (H.sum l) = arrV (H.T.new.write l).sum := rfl
  rw [hsum] at hQ
  have hw0 := H.write_nil H.T.new
  refine ⟨fun v w => ∃ i : Nat, v = .int .i64 i ∧ i ≤ 1 ∧ Sat E w (cel b ⟨217, hC (H.T.new.write (if i = 0 then [] else l))⟩ :: cel a ⟨57, bvs (List.replicate 32 0)⟩ :: M), fun v _ => 1 - (RowKit.intOf v).toNat, ⟨0, rfl, by omega, by rw [if_pos rfl, hw0]; exact hS⟩, ?_⟩
  clear hS
  rintro _ _ w ⟨i, rfl, hi, hS⟩
  have h01 : i = 0 ∨ i = 1 := by omega
  rcases h01 with rfl | rfl
  · rw [if_pos rfl, hw0] at hS
    have t8 := H.new_st
    have t64 := H.new_blk
    generalize H.T.new = T0 at *
    repeat' (first | refine pN_ixk (C := cd_sl_uint8) (l := [(s1, l)]) (x := (s1, l)) hS 0 rfl rfl rfl fun a ha hel => ?_ | (refine pN_lss_s ?_ ?_ <;> intro hc <;> try (exfalso; omega)) | refine pIf_t ?_ | refine pN_ld1 ha hS ?_ | fail)
    refine pc_sha_Hash_Write (ShWrite_ok (s := s1) (l := l) hG t8 t64 hS (by omega) ?_)
    clear hS
    intro w hS
    repeat' (first | refine pN_v (hk := ?_) | fail)
    exact ⟨⟨1, rfl, by omega, by rw [if_neg (by omega)]; exact hS⟩, by simp [RowKit.intOf]⟩
  · rw [if_neg (by omega)] at hS
    generalize H.T.new.write l = T1 at *
    have hO : (bvs T1.sum).length = 32 := by rw [bvs_length]; exact H.Tsum_len e8
    have h32 : (bvs (List.replicate 32 (0 : UInt8))).length = 32 := by rw [bvs_length, List.length_replicate]
    repeat' (first | (refine pc_sha_Hash_Sum (ShSum_ok hG e8 e64 hS (by omega) ?_); clear hS; intro w hS) | (refine pN_lss_s ?_ ?_ <;> intro hc <;> try (exfalso; omega)) | refine pIf_f ?_ | fail)
    refine pN_sa (P := Tryz.prog) (t := 57) (b := a) (us := bvs T1.sum) hS hO.symm (by rw [hO]; exact h32.symm) (bvs_all _) ?_
    clear hS
    intro w hS
    refine pL_ra (P := Tryz.prog) (t := 57) (b := a) (o := ⟨57, bvs T1.sum⟩) hS hO.symm ?_
    exact hQ _ hS.to
end
end Go.Proofs.YtikmogfhhggafaaGreatDoor

namespace Go.Proofs.YtikmogfhhggafaaGreatDoor
open Go
namespace D
theorem puts_snoc (d : T) (l : List B) (p : B) : d.puts (l ++ [p]) = (d.puts l).put1 p := by rw [puts_app]; rfl
theorem put1_has {d : T} {p : B} (h : d.has (H.sum p) = true) : d.put1 p = d := by unfold T.put1; rw [if_pos h]
theorem put1_new {d : T} {p : B} (h : d.has (H.sum p) = false) : d.put1 p = { d with ps := upd d.ps (H.sum p) p } := by unfold T.put1; rw [h]; rfl
end D
attribute [local irreducible] oMv oV oU oCall oCallV oBi oBin oUn oLoad oStore oNil oFld oField oIdx oIndex oPick oAlloc oBox oBuild oBs oConv oMk oSl oExt oFn oIface oMap oLook oMapUp oRange oNext oEntry oInv oAssert oPanic oRes pN pA pL pDr pIf gA pGd Calls H.sum
section
variable [Pan] {E w W : World} {K Q : Value → World → Prop} {L M N N' : List HA} {l r : List UInt8} {s s2 : Sl} {c : T_api_Config} {b : Nat} {d : D.T} {li : List I32}

set_option maxHeartbeats 2000000 in
theorem DPut_ok (hG : GloS W) (hk : d.k.legal) (hS : Sat E w L) [hf : Fnd (Dep c b) L d N] [hg : Has (old W) N N'] [hr : Rds cd_uint8 N s l] (hl : l.length ≤ 1099511627776)
    (hQ : ∀ s2 w, Sat E w (rows (cdI 58) s2 (D.ids d.k l) :: Dep c b (d.put l) :: N) → Q (.slice s2.a (D.ids d.k l).length s2.c) w) :
    Calls Tryz.prog 16 #[.pointer (some ⟨b, 0, none⟩), .slice s.a l.length s.c] w (retP Q) := by
  refine depot_Depot_Put.calls ?_
  unfold depot_Depot_Put.F
  have hS1 := hS.fd (Dep c b)
  clear hS hf
  obtain ⟨mb, nb, pl, nl, ht, hS⟩ := Dep.opn hS1
  clear hS1
  have hil := endsI_len d.k l
  have hpl := C.pieces_len d.k l
  have hget := fun {j e} => @endsI_get d.k l j e
  have hput : d.put l = d.puts (C.pieces d.k l) := rfl
  have hids : D.ids d.k l = (C.pieces d.k l).map H.sum := rfl
  rw [hput, hids] at hQ
  repeat' (first | refine pN_la_at (n := 3) hS [.int .i64 d.k.least, .int .i64 d.k.most, .int .i64 d.k.bits] rfl rfl ?_ | (refine pc_cdc_Cut (Calls.up (Cut_ok (s := s) (l := l) hk hS hl ?_)); clear hS; intro se w hS) | refine pN_v (hk := ?_) | fail)
  have hS : Sat E w (depP c b d.k mb nb pl nl (rows cd_int se (endsI d.k l) :: N)) := hS.to
  have hS := Dep.shut ht rfl hS
  have hS : Sat E w (rows cd_int se (endsI d.k l) :: Dep c b d :: N) := hS.to
  rw [← hil]
  generalize endsI d.k l = I at *
  skip
  refine ⟨fun v v' v'' w => ∃ (p : Nat) (pre : List (List UInt8)) (so : Sl), v = .slice so.a (pre.map H.sum).length so.c ∧ v' = .int .i64 p ∧ v'' = .int .i64 pre.length ∧ p ≤ l.length ∧ C.pieces d.k l = pre ++ C.pieces d.k (l.drop p) ∧ pre.flatten.length = p ∧ Sat E w (rows (cdI 58) so (pre.map H.sum) :: rows cd_int se I :: Dep c b (d.puts pre) :: N), fun _ _ v _ => I.length - (RowKit.intOf v).toNat,
    ⟨0, [], ⟨none, 0⟩, rfl, rfl, rfl, by omega, by rw [List.drop_zero]; rfl, rfl, hS.nil (cdI 58).e (cdI 58).size⟩, ?_⟩
  clear hS
  rintro _ _ _ _ w ⟨p, pre, so, rfl, rfl, rfl, hp, hpc, hpf, hS⟩
  have hcl := congrArg List.length hpc
  rw [List.length_append] at hcl
  by_cases hlt : pre.length < I.length
  · have hne : l.drop p ≠ [] := fun h => by
      rw [h, C.pieces_nil, List.length_nil] at hcl
      omega
    rw [C.pieces_cons d.k hne] at hpc
    have hf1 := C.fst_pos d.k hne
    have hf2 := C.fst_le d.k (l.drop p)
    have hdl : (l.drop p).length = l.length - p := List.length_drop
    rw [hdl] at hf2
    have hdd : (l.drop p).drop (C.fst d.k (l.drop p)) = l.drop (p + C.fst d.k (l.drop p)) := by rw [List.drop_drop]
    rw [hdd] at hpc
    obtain ⟨q, hq⟩ : ∃ q, q = (l.drop p).take (C.fst d.k (l.drop p)) := ⟨_, rfl⟩
    rw [← hq] at hpc
    have htl : q.length = C.fst d.k (l.drop p) := by rw [hq, List.length_take, hdl]; omega
    rw [← htl] at hpc hq hf1 hf2
    clear htl
    have hend := hget (j := pre.length) (e := p + q.length) (by rw [hpc, C.ends_at, hpf, Nat.zero_add])
    have hsub : (l.drop p).take (p + q.length - p) = q := by rw [Nat.add_sub_cancel_left]; exact hq.symm
    have hsn := D.puts_snoc d pre q
    have hdk : (d.puts pre).k = d.k := D.puts_k pre d
    repeat' (first | (refine pN_lss_s ?_ ?_ <;> intro hc <;> try (exfalso; omega)) | refine pIf_t ?_ | fail)
    refine ⟨fun v v' w => ∃ so, v = .slice so.a ((pre ++ [q]).map H.sum).length so.c ∧ v' = .int .i64 ((p + q.length : Nat) : Int) ∧ Sat E w (rows (cdI 58) so ((pre ++ [q]).map H.sum) :: rows cd_int se I :: Dep c b (d.puts (pre ++ [q])) :: N), ?_, ?_⟩
    · repeat' (first | (refine pN_sl2 (C := cd_uint8) (s := s) (l := l) hS p (p + q.length) rfl (by first | rfl | omega) rfl (by omega) (by omega) ?_; intro s' hp') | refine pN_ld1 ha hS ?_ | refine pN_ixk hS _ (by first | rfl | (exact (Int.toNat_of_nonneg (by omega)).symm)) (by first | rfl | omega | simpa only [go_sem] using True.intro | (simp only [go_sem]; omega)) (by assumption) fun a ha hel => ?_ | fail)
      rw [hsub] at hp'
      have e1 : p + q.length - p = q.length := by omega
      rw [e1]
      haveI hrs : Rds cd_uint8 N s' q := hp'.rd _ inferInstance
      refine pN_b1 (x := (s', q)) hS rfl (by decide) ?_
      clear hS
      intro sb w hS
      refine pc_sha_Sum (Sum_ok (l := q) (s1 := s') hG hS (by omega) ?_)
      clear hS
      intro w hS
      have hi1 := D.put1_has (d := d.puts pre) (p := q)
      have hi2 := D.put1_new (d := d.puts pre) (p := q)
      rw [← hsn] at hi1 hi2
      rw [List.map_append]
      show pN _ _ _ _
      have e2 : [q].map H.sum = [H.sum q] := rfl
      rw [e2]
      generalize H.sum q = i at *
      generalize hD : d.puts (pre ++ [q]) = d2 at *
      repeat' (first | (refine pN_sid hS i (by rfl) ?_; clear hS; intro w hS) | (refine pN_nz hS ?_; clear hS; intro a w hS) | fail)
      refine ⟨fun w => Sat E w (cel a ⟨58, bvs i.l⟩ :: rows (cdI 58) so (pre.map H.sum) :: rows cd_int se I :: Dep c b d2 :: N), ?_, ?_⟩
      · refine pN_la_at (n := 32) hS (bvs i.l) (i32t i) (i32n i) ?_
        refine pc_depot_Depot_Has (DHas_ok (c := c) hS i ?_)
        clear hS
        intro w hS
        cases hh : (d.puts pre).has i with
        | true =>
          rw [hi1 hh]
          repeat' (first | refine pIf_f ?_ | refine pN_v (hk := ?_) | fail)
          exact hS.to
        | false =>
          rw [hi2 hh]
          obtain ⟨mb, nb, pl, nl, ht, hS⟩ := Dep.opn hS
          repeat' (first | refine pL_la_at (n := 32) hS (bvs i.l) (i32t i) (i32n i) ?_ | (refine pc_slices_Clone___byte_byte_ (SCloneB_ok (s := s') (l := q) hS (by omega) ?_); clear hS; intro s4 w hS) | refine pIf_t ?_ | refine pL_l hS (by first | rfl | assumption) ?_ | (refine pDr_go hS ?_; clear hS; intro w hS) | refine pN_v (hk := ?_) | refine pA_v (hk := ?_) | fail)
          refine ⟨⟨run_la_at (n := 32) hS (bvs i.l) (i32t i) (i32n i), run_l hS rfl, trivial⟩, ?_⟩
          refine pN_mup (P := Tryz.prog) (t := 126) (ke := idV) (b := mb) hS i (slv (s4, q)) ?_
          clear hS
          intro w hS
          refine ⟨trivial, ?_⟩
          rw [vals_put] at hS
          generalize d.puts pre = d0 at *
          have hS : Sat E w (rows cd_uint8 s4 q :: bag (keep cd_uint8 pl) :: cel b ⟨129, depC c d0.k mb nb⟩ :: mp idV mb (vals (D.upd pl i (s4, q))) :: mp nke nb (vals nl) :: bag (keep (cdI 58) nl) :: cel a ⟨58, bvs i.l⟩ :: rows (cdI 58) so (pre.map H.sum) :: rows cd_int se I :: N) := hS.to
          have hS : Sat E w (depP c b d0.k mb nb (D.upd pl i (s4, q)) nl (cel a ⟨58, bvs i.l⟩ :: rows (cdI 58) so (pre.map H.sum) :: rows cd_int se I :: N)) := (keep_put i hS).to
          have hS := Dep.shut (ht.upd i s4 q) rfl hS
          exact hS.to
      · clear hS
        intro _ w hS
        have hml : (pre.map H.sum).length ≤ 1099511627776 := by rw [List.length_map]; omega
        generalize pre.map H.sum = li at *
        refine pN_la_at (n := 32) hS (bvs i.l) (i32t i) (i32n i) ?_
        refine pN_b1 (x := i) hS rfl (by decide) ?_
        clear hS
        intro s3 w hS
        repeat' (first | (refine pN_app hS (by first | rfl | omega | simpa only [go_sem] using True.intro | (simp only [go_sem]; omega)) (by first | rfl | omega | simpa only [go_sem] using True.intro | (simp only [go_sem]; omega)) (by first | omega | (simp only [go_sem]; omega)) ?_; clear hS; intro s w hS) | fail)
        exact ⟨_, by rw [List.length_append], rfl, hS.to⟩
    · clear hS
      rintro _ _ _ w ⟨so, rfl, rfl, hS⟩
      repeat' (first | refine pN_v (hk := ?_) | fail)
      refine ⟨⟨p + q.length, pre ++ [q], so, rfl, rfl, by rw [List.length_append]; rfl, by omega, by rw [List.append_assoc]; exact hpc, by simp [hpf], hS⟩, ?_⟩
      simp [RowKit.intOf] <;> omega
  · have hnil : l.drop p = [] := by
      by_cases h : l.drop p = []
      · exact h
      · have := C.pieces_cons d.k h
        rw [this, List.length_cons] at hcl
        omega
    rw [hnil, C.pieces_nil, List.append_nil] at hpc
    rw [hpc] at hQ
    repeat' (first | (refine pN_lss_s ?_ ?_ <;> intro hc <;> try (exfalso; omega)) | refine pIf_f ?_ | fail)
    have hS : Sat E w (rows (cdI 58) so (pre.map H.sum) :: Dep c b (d.puts pre) :: N) := hS.to
    exact hQ _ _ hS
end
end Go.Proofs.YtikmogfhhggafaaGreatDoor

namespace Go.Proofs.YtikmogfhhggafaaGreatDoor
open Go Go.Lib
section
variable {P : Program} {w : World}
theorem run_apst {t u ty e : TypeId} {i : TypeInfo} (ht : P.underlying t = some (.slice e)) (hu : P.underlying u = some .string) (hi : P.info? e = some i) (hz : i.zero = some (.int .u8 0)) (hsize : i.size = 1) (hby : i.bytes = 1)
    (v : Value) (n : Nat) (xs : List Value) (hown : w.ownsRow 0 e 1 v n xs) (s : ByteArray) (hb : n + s.size ≤ 140737488355328) :
    ∃ v' w', (Builtin.append_ #[t, u] ty #[v, .string s]).run P w = .ok v' w' ∧ w'.ownsRow 0 e 1 v' (n + s.size) (xs ++ strCells s) ∧ w.grownBy w' v.ownBlock ∧ (v'.ownBlock = v.ownBlock ∨ v'.ownBlock = some w.heap.size) := by
  have h63 : n + s.size ≤ maxLen := by unfold maxLen; omega
  have hxl : xs.length = n := by simpa using hown.1
  have hlen : (xs ++ strCells s).length = (n + s.size) * 1 := by rw [List.length_append, hxl, strCells_length, Nat.mul_one]
  have gr : ∀ (old : Nat), old < n + s.size → ∀ (row : Option Nat),
      (w.drew.alloc (.cells (xs.toArray ++ (strCells s).toArray ++ Builtin.zeroCells (Value.int .u8 0).cells (grownCap w (n + s.size) old e - (n + s.size))) e)).ownsRow 0 e 1
        (.slice (some ⟨w.heap.size, 0, none⟩) (n + s.size) (grownCap w (n + s.size) old e)) (n + s.size) (xs ++ strCells s) ∧
      w.grownBy (w.drew.alloc (.cells (xs.toArray ++ (strCells s).toArray ++ Builtin.zeroCells (Value.int .u8 0).cells (grownCap w (n + s.size) old e - (n + s.size))) e)) row := by
    intro old ho row
    have hge := grownCap_ge w (n + s.size) old e
    have hcm : grownCap w (n + s.size) old e ≤ maxLen := grownCap_le_maxLen w (n + s.size) old e h63
    refine ⟨⟨hlen, .inr ⟨w.heap.size, _, _, rfl, Nat.zero_le _, heap_alloc_new w.drew _, hge, hcm, ?_, ?_⟩⟩, ⟨rfl, rfl, rfl, by simp, fun k hk _ => by rw [show (w.drew.alloc _).heap[k]? = _ from (by first | exact Go.heap_alloc_old w.drew _ hk | exact Go.heap_alloc_old w.drew _ _ hk)]; rfl⟩⟩
    · have hz1 : (Value.int IntKind.u8 0).cells.size = 1 := rfl
      simp only [Array.size_append, List.size_toArray, size_zeroCells, hz1, hxl, strCells_length]
      omega
    · simp only [Array.toList_append, List.append_assoc]
      rw [← List.append_assoc, ← hlen]
      exact List.take_left
  rcases hown.2 with ⟨rfl, rfl⟩ | ⟨g, cap, cur, rfl, hbg, hg, hnc, hcm, hcs, htake⟩
  · have hx : xs = [] := List.eq_nil_of_length_eq_zero hxl
    subst hx
    by_cases hm : s.size = 0
    · have hn : strCells s = [] := List.eq_nil_of_length_eq_zero (by rw [strCells_length]; exact hm)
      refine ⟨.slice none 0 0, w, ?_, by rw [hm, hn]; exact World.ownsRow_nil w 0 e 1, ⟨rfl, rfl, rfl, Nat.le_refl _, fun _ _ _ => rfl⟩, .inl rfl⟩
      have hf := run_firstCells_string (P := P) w 1 s
      rw [hm] at hf
      simp [Builtin.append_, run_underlying ht, run_underlying hu, sizeOf, typeInfo, hi, hsize, Builtin.lenOf, hm, hf]
    · have hr := run_append_nil_string (P := P) w t u ty e i (.int .u8 0) ht hu hi hz s (by omega) (by omega) (by rw [hby]; omega)
      have hgr := gr 0 (by omega) (Value.ownBlock (.slice none 0 0))
      simp only [Nat.zero_add, List.nil_append, Array.empty_append] at hgr ⊢
      have e1 : (s.data.map fun b => Value.int .u8 b.toNat) = (strCells s).toArray := by
        apply Array.ext'
        simp [strCells]
      rw [e1] at hr
      exact ⟨_, _, hr, hgr.1, hgr.2, .inr rfl⟩
  · by_cases hroom : n + s.size ≤ cap
    · have hcs' : cur.size = cap := by simpa using hcs
      have hr := run_append_room_string (P := P) w t u ty e i ht hu hi hsize g n cap cur hg s hroom (by omega)
      refine ⟨_, _, hr, ⟨hlen, .inr ⟨g, cap, _, rfl, hbg, setRow_heap w g cur _ e _ hg, hroom, hcm, ?_, ?_⟩⟩, ⟨rfl, rfl, rfl, by simp, fun k _ hk => setRow_other w g k _ (fun e => hk (by simp [Value.ownBlock, e]))⟩, .inl rfl⟩
      · simp only [List.size_toArray, List.length_append, List.length_take, List.length_drop, Array.length_toList, strCells_length]
        omega
      · have ht' : cur.toList.take n = xs := by simpa using htake
        rw [ht', ← hlen]
        exact List.take_left
    · have holds : ∀ j u, xs[j]? = some u → w.cell? ((⟨g, 0, none⟩ : Addr).add j) = some u := hown.cells (g := g) rfl
      have hr := run_append_grow_string (P := P) w t u ty e i (.int .u8 0) ht hu hi hz ⟨g, 0, none⟩ n cap xs (by rw [hsize]; simpa using hxl) holds s (by omega) (by omega) (by rw [hby]; exact growslice_fits (by omega) (by omega))
      have hgr := gr cap (by omega) (Value.ownBlock (.slice (some ⟨g, 0, none⟩) n cap))
      exact ⟨_, _, hr, hgr.1, hgr.2, .inr rfl⟩

class ApS (P : Program) (t u : TypeId) (C : outParam (Cd UInt8)) : Prop where
  tt : P.underlying t = some (.slice C.e)
  uu : P.underlying u = some .string
  ii : ∃ i, P.info? C.e = some i ∧ i.zero = some (.int .u8 0) ∧ i.size = 1 ∧ i.bytes = 1
  size : C.size = 1
  enc : ∀ b, C.enc b = [bv b]

variable [Pan] {E : World} {K : Value → World → Prop} {L M : List HA} {t u ty : TypeId} {C : Cd UInt8} {s : Sl} {l m : List UInt8}
theorem pN_apst {n : Nat} {cs : List Bool} (hS : Sat E w L) [hw : ApS P t u C] [hf : Fnd (rows C s) L l M] (hn : n = l.length) (hb : l.length + m.length ≤ 140737488355328)
    (hk : ∀ s' w', Sat E w' (rows C s' (l ++ m) :: M) → K (.slice s'.a (l ++ m).length s'.c) w') : pN P (oBi .append #[t, u] ty cs [.slice s.a n s.c, .string ⟨m.toArray⟩]) w K := by
  subst hn
  have h0 := hS.fd (rows C s)
  obtain ⟨i, hi, hz, hs, hby⟩ := hw.ii
  have ho1 := h0.own_at 0 rfl
  have e1 : C.size = 1 := hw.size
  have h0' : Sat E w (own C.e 1 (.slice s.a l.length s.c) l.length (C.flat l) :: M) := by rw [← e1]; exact h0
  obtain ⟨v', w', hr, ho, hg, hbk⟩ := run_apst (P := P) (ty := ty) hw.tt hw.uu hi hz hs hby (.slice s.a l.length s.c) l.length (C.flat l) (h0'.own_at 0 rfl) ⟨m.toArray⟩ (by rw [size_str]; exact hb)
  have e2 : strCells ⟨m.toArray⟩ = C.flat m := by
    rw [C.flat_single bv hw.enc]
    rfl
  rw [size_str, e2, ← C.flat_append] at ho
  have h2 := h0'.grown hg ho hbk
  obtain ⟨s', rfl⟩ := own_sl h2
  rw [pN_def, show (oBi .append #[t, u] ty cs [.slice s.a l.length s.c, .string ⟨m.toArray⟩]).run P w = _ from run_oV_ok hr, rN_value]
  rw [← e1, ← List.length_append] at h2
  rw [← List.length_append]
  exact hk s' w' h2
end
end Go.Proofs.YtikmogfhhggafaaGreatDoor

namespace Go.Proofs.YtikmogfhhggafaaGreatDoor
open Go
set_option maxRecDepth 100000

def varint_Put.H : Hints := { cut := fun  | _ => none, loop := fun | 6 => ([0, 15], 134185025) | _ => ([], 0), order := fun  | _ => [] }
def varint_Put.F [Pan] (x0 : Value) (w : World) (Q : Value → World → Prop) : Prop :=
 pN Tryz.prog (oCall 174 [x0]) w fun x8 w1 =>
 pN Tryz.prog (oBin .eql 3 (.tmp 9) (.const (.int .i64 0)) x8 (.int .i64 0)) w1 fun x10 w2 =>
 pIf x10
 (Q (.tuple #[(.slice none 0 0), (.int .i64 7)]) w2)
 (pN Tryz.prog (oMk 47 x8 x8) w2 fun x12 w3 =>
 pN Tryz.prog (oBi .len #[47] 3 [false] [x12]) w3 fun x14 w4 =>
 ∃ (L6 : Value → Value → World → Prop) (m6 : Value → Value → World → Nat),
 L6 x0 (.int .i64 0) w4 ∧
 ∀ (_k6 : Env) (v0l6 : Value) (v15l6 : Value) (w5 : World), L6 v0l6 v15l6 w5 →
 pN Tryz.prog (oBin .lss 3 (.tmp 15) (.tmp 14) v15l6 x14) w5 fun x16 w6 =>
 pIf x16
 (pN Tryz.prog (oConv 212 5 v0l6) w6 fun x21 w7 =>
 pN Tryz.prog (oBin .or 5 (.tmp 21) (.const (.int .u8 128)) x21 (bv 128)) w7 fun x22 w8 =>
 pN Tryz.prog (oIdx 47 x12 v15l6) w8 fun x23 w9 =>
 pN Tryz.prog (oStore 5 x23 x22) w9 fun _ w10 =>
 pN Tryz.prog (oBin .shr 212 (.tmp 24) (.const (.int .u64 7)) v0l6 (.int .u64 7)) w10 fun x25 w11 =>
 pN Tryz.prog (oBin .add 3 (.tmp 15) (.const (.int .i64 1)) v15l6 (.int .i64 1)) w11 fun x26 w12 =>
 (L6 x25 x26 w12 ∧ m6 x25 x26 w12 < m6 v0l6 v15l6 w5))
 (pN Tryz.prog (oBin .sub 3 (.tmp 28) (.const (.int .i64 1)) x8 (.int .i64 1)) w6 fun x29 w13 =>
 pN Tryz.prog (oIdx 47 x12 x29) w13 fun x30 w14 =>
 pN Tryz.prog (oLoad 5 x30) w14 fun x31 w15 =>
 pN Tryz.prog (oBin .andNot 5 (.tmp 31) (.const (.int .u8 128)) x31 (bv 128)) w15 fun x32 w16 =>
 pN Tryz.prog (oIdx 47 x12 x29) w16 fun x33 w17 =>
 pN Tryz.prog (oStore 5 x33 x32) w17 fun _ w18 =>
 Q (.tuple #[x12, (.int .i64 0)]) w18))
theorem varint_Put.calls [Pan] {x0 : Value} {w : World} {Q : Value → World → Prop} (h : varint_Put.F x0 w Q) : Calls Tryz.prog 124 #[x0] w (retP Q) := calls_lift mixed varint_Put.H [x0] Tryz.func124 (by kernel_rfl) (by kernel_rfl) h

def varint_Size.H : Hints := { cut := fun  | _ => none, loop := fun | 2 => ([6], 65500) | _ => ([], 0), order := fun  | _ => [] }
def varint_Size.F [Pan] (x0 : Value) (w : World) (Q : Value → World → Prop) : Prop :=
 pN Tryz.prog (oLoad 290 (.pointer (some ⟨3, 0, none⟩))) w fun x5 w1 =>
 ∃ (L2 : Value → World → Prop) (m2 : Value → World → Nat),
 L2 (.int .i64 0) w1 ∧
 ∀ (_k2 : Env) (v6l2 : Value) (w2 : World), L2 v6l2 w2 →
 pN Tryz.prog (oBin .lss 3 (.tmp 6) (.const (.int .i64 9)) v6l2 (.int .i64 9)) w2 fun x7 w3 =>
 pIf x7
 (pN Tryz.prog (oIndex 290 x5 v6l2) w3 fun x9 w4 =>
 pN Tryz.prog (oBin .lss 212 (.tmp 10) (.tmp 11) x0 x9) w4 fun x12 w5 =>
 pIf x12
 (pN Tryz.prog (oBin .add 3 (.tmp 13) (.const (.int .i64 1)) v6l2 (.int .i64 1)) w5 fun x14 w6 =>
 Q x14 w6)
 (pN Tryz.prog (oBin .add 3 (.tmp 6) (.const (.int .i64 1)) v6l2 (.int .i64 1)) w5 fun x15 w7 =>
 (L2 x15 w7 ∧ m2 x15 w7 < m2 v6l2 w2)))
 (Q (.int .i64 0) w3)
theorem varint_Size.calls [Pan] {x0 : Value} {w : World} {Q : Value → World → Prop} (h : varint_Size.F x0 w Q) : Calls Tryz.prog 174 #[x0] w (retP Q) := calls_lift mixed varint_Size.H [x0] Tryz.func174 (by kernel_rfl) (by kernel_rfl) h

def varint_Get.H : Hints := { cut := fun  | _ => none, loop := fun | 3 => ([5, 10], 8796093021436) | _ => ([], 0), order := fun  | _ => [] }
def varint_Get.F [Pan] (x0 : Value) (w : World) (Q : Value → World → Prop) : Prop :=
 pN Tryz.prog (oBi .len #[47] 3 [false] [x0]) w fun x9 w1 =>
 ∃ (L3 : Value → Value → World → Prop) (m3 : Value → Value → World → Nat),
 L3 (.int .u64 0) (.int .i64 0) w1 ∧
 ∀ (_k3 : Env) (v5l3 : Value) (v10l3 : Value) (w2 : World), L3 v5l3 v10l3 w2 →
 pN Tryz.prog (oBin .lss 3 (.tmp 10) (.tmp 9) v10l3 x9) w2 fun x11 w3 =>
 pIf x11
 (pN Tryz.prog (oIdx 47 x0 v10l3) w3 fun x13 w4 =>
 pN Tryz.prog (oLoad 5 x13) w4 fun x14 w5 =>
 pN Tryz.prog (oBin .lss 5 (.tmp 15) (.const (.int .u8 128)) x14 (bv 128)) w5 fun x16 w6 =>
 pIf x16
 (pN Tryz.prog (oBin .eql 5 (.tmp 17) (.const (.int .u8 0)) x14 (bv 0)) w6 fun x18 w7 =>
 pGd (gB x18 true) (pN Tryz.prog (oMv v10l3) w7) w7 fun x20 w8 =>
 pGd (gB x18 true) (pN Tryz.prog (oBin .gtr 3 (.tmp 20) (.const (.int .i64 0)) x20 (.int .i64 0)) w8) w8 fun x21 w9 =>
 pN Tryz.prog (oPick x18 x21 (.bool false)) w9 fun x22 w10 =>
 pIf x22
 (Q (.tuple #[(.int .u64 0), (.int .i64 0), (.int .i64 2)]) w10)
 (pN Tryz.prog (oConv 5 212 x14) w10 fun x25 w11 =>
 pN Tryz.prog (oBin .mul 3 (.const (.int .i64 7)) (.tmp 26) (.int .i64 7) v10l3) w11 fun x27 w12 =>
 pN Tryz.prog (oBin .shl 212 (.tmp 25) (.tmp 27) x25 x27) w12 fun x28 w13 =>
 pN Tryz.prog (oBin .or 212 (.tmp 23) (.tmp 28) v5l3 x28) w13 fun x29 w14 =>
 pN Tryz.prog (oBin .add 3 (.tmp 30) (.const (.int .i64 1)) v10l3 (.int .i64 1)) w14 fun x31 w15 =>
 Q (.tuple #[x29, x31, (.int .i64 0)]) w15))
 (pN Tryz.prog (oBin .eql 3 (.tmp 32) (.const (.int .i64 8)) v10l3 (.int .i64 8)) w6 fun x33 w16 =>
 pIf x33
 (Q (.tuple #[(.int .u64 0), (.int .i64 0), (.int .i64 2)]) w16)
 (pN Tryz.prog (oBin .andNot 5 (.tmp 35) (.const (.int .u8 128)) x14 (bv 128)) w16 fun x36 w17 =>
 pN Tryz.prog (oConv 5 212 x36) w17 fun x37 w18 =>
 pN Tryz.prog (oBin .mul 3 (.const (.int .i64 7)) (.tmp 38) (.int .i64 7) v10l3) w18 fun x39 w19 =>
 pN Tryz.prog (oBin .shl 212 (.tmp 37) (.tmp 39) x37 x39) w19 fun x40 w20 =>
 pN Tryz.prog (oBin .or 212 (.tmp 34) (.tmp 40) v5l3 x40) w20 fun x41 w21 =>
 pN Tryz.prog (oBin .add 3 (.tmp 10) (.const (.int .i64 1)) v10l3 (.int .i64 1)) w21 fun x42 w22 =>
 (L3 x41 x42 w22 ∧ m3 x41 x42 w22 < m3 v5l3 v10l3 w2))))
 (Q (.tuple #[(.int .u64 0), (.int .i64 0), (.int .i64 1)]) w3)
theorem varint_Get.calls [Pan] {x0 : Value} {w : World} {Q : Value → World → Prop} (h : varint_Get.F x0 w Q) : Calls Tryz.prog 179 #[x0] w (retP Q) := calls_lift mixed varint_Get.H [x0] Tryz.func179 (by kernel_rfl) (by kernel_rfl) h

end Go.Proofs.YtikmogfhhggafaaGreatDoor

namespace Go.Proofs.YtikmogfhhggafaaGreatDoor
open Go

namespace C
def bnd (i : Nat) : Nat := ([128, 16384, 2097152, 268435456, 34359738368, 4398046511104, 562949953421312, 72057594037927936, 9223372036854775808] : List Nat).getD i 0
theorem nsize_at {v i : Nat} (hi : i < 9) (h : ∀ j, j < i → bnd j ≤ v) (hv : v < bnd i) : nsize v = i + 1 := by
  have h8 : i = 0 ∨ i = 1 ∨ i = 2 ∨ i = 3 ∨ i = 4 ∨ i = 5 ∨ i = 6 ∨ i = 7 ∨ i = 8 := by omega
  unfold nsize
  rcases h8 with rfl | rfl | rfl | rfl | rfl | rfl | rfl | rfl | rfl
  · have : v < 128 := hv
    rw [if_pos this]
  · have h0 : 128 ≤ v := h 0 (by omega)
    have : v < 16384 := hv
    rw [if_neg (by omega), if_pos this]
  · have h0 : 16384 ≤ v := h 1 (by omega)
    have : v < 2097152 := hv
    rw [if_neg (by omega), if_neg (by omega), if_pos this]
  · have h0 : 2097152 ≤ v := h 2 (by omega)
    have : v < 268435456 := hv
    rw [if_neg (by omega), if_neg (by omega), if_neg (by omega), if_pos this]
  · have h0 : 268435456 ≤ v := h 3 (by omega)
    have : v < 34359738368 := hv
    rw [if_neg (by omega), if_neg (by omega), if_neg (by omega), if_neg (by omega), if_pos this]
  · have h0 : 34359738368 ≤ v := h 4 (by omega)
    have : v < 4398046511104 := hv
    rw [if_neg (by omega), if_neg (by omega), if_neg (by omega), if_neg (by omega), if_neg (by omega), if_pos this]
  · have h0 : 4398046511104 ≤ v := h 5 (by omega)
    have : v < 562949953421312 := hv
    rw [if_neg (by omega), if_neg (by omega), if_neg (by omega), if_neg (by omega), if_neg (by omega), if_neg (by omega), if_pos this]
  · have h0 : 562949953421312 ≤ v := h 6 (by omega)
    have : v < 72057594037927936 := hv
    rw [if_neg (by omega), if_neg (by omega), if_neg (by omega), if_neg (by omega), if_neg (by omega), if_neg (by omega), if_neg (by omega), if_pos this]
  · have h0 : 72057594037927936 ≤ v := h 7 (by omega)
    have : v < 9223372036854775808 := hv
    rw [if_neg (by omega), if_neg (by omega), if_neg (by omega), if_neg (by omega), if_neg (by omega), if_neg (by omega), if_neg (by omega), if_neg (by omega), if_pos this]
theorem more_snoc : ∀ (n v : Nat), more v (n + 1) = more v n ++ [byteOf ((v / 128 ^ n % 128 + 128 : Nat) : Int)]
  | 0, v => by simp [more]
  | n + 1, v => by
    rw [more, more_snoc n (v / 128), more, List.cons_append, Nat.div_div_eq_div_mul, Nat.pow_succ, Nat.mul_comm 128]
theorem or128 (b : UInt8) : b ||| 128 = byteOf ((b.toNat % 128 + 128 : Nat) : Int) := by
  have h : ∀ x, x < 256 → x ||| 128 = x % 128 + 128 := by decide +kernel
  apply UInt8.toNat_inj.1
  have := b.toNat_lt
  rw [byteOf_lt (by omega), UInt8.toNat_or]
  exact h _ b.toNat_lt
theorem not128 (b : UInt8) : b &&& ~~~ 128 = byteOf ((b.toNat % 128 : Nat) : Int) := by
  have h : ∀ x, x < 256 → x &&& 127 = x % 128 := by decide +kernel
  apply UInt8.toNat_inj.1
  have := b.toNat_lt
  rw [byteOf_lt (by omega), UInt8.toNat_and]
  exact h _ b.toNat_lt
end C

section
variable [Pan] {P : Program} {w : World} {K : Value → World → Prop} {t : TypeId} {xo yo : Operand}
theorem run_or_bv (a b : UInt8) : (oBin .or t xo yo (bv a) (bv b)).run P w = .ok (.value (bv (a ||| b))) w := by
  unfold bv
  rw [run_or]
  have e : IntKind.u8.wrap ((BitVec.ofInt 8 (a.toNat : Int) ||| BitVec.ofInt 8 (b.toNat : Int)).toNat) = ((a ||| b).toNat : Int) := by
    have ea : BitVec.ofInt 8 (a.toNat : Int) = a.toBitVec := ofInt_nat a.toBitVec
    have eb : BitVec.ofInt 8 (b.toNat : Int) = b.toBitVec := ofInt_nat b.toBitVec
    rw [ea, eb, wrap_u8, ← UInt8.toBitVec_or]
    have := (a ||| b).toNat_lt
    show ((a ||| b).toNat : Int) % 256 = _
    omega
  show (Result.ok (Next.value (.int .u8 (IntKind.u8.wrap ((BitVec.ofInt 8 (a.toNat : Int) ||| BitVec.ofInt 8 (b.toNat : Int)).toNat)))) w : Result Next) = _
  rw [e]
theorem run_andn_bv (a b : UInt8) : (oBin .andNot t xo yo (bv a) (bv b)).run P w = .ok (.value (bv (a &&& ~~~ b))) w := by
  unfold bv
  rw [run_andn]
  have e : IntKind.u8.wrap ((BitVec.ofInt 8 (a.toNat : Int) &&& ~~~ BitVec.ofInt 8 (b.toNat : Int)).toNat) = ((a &&& ~~~ b).toNat : Int) := by
    have ea : BitVec.ofInt 8 (a.toNat : Int) = a.toBitVec := ofInt_nat a.toBitVec
    have eb : BitVec.ofInt 8 (b.toNat : Int) = b.toBitVec := ofInt_nat b.toBitVec
    rw [ea, eb, wrap_u8, ← UInt8.toBitVec_not, ← UInt8.toBitVec_and]
    have := (a &&& ~~~ b).toNat_lt
    show ((a &&& ~~~ b).toNat : Int) % 256 = _
    omega
  show (Result.ok (Next.value (.int .u8 (IntKind.u8.wrap ((BitVec.ofInt 8 (a.toNat : Int) &&& ~~~ BitVec.ofInt 8 (b.toNat : Int)).toNat)))) w : Result Next) = _
  rw [e]
theorem pN_or128 {b : UInt8} (hk : K (bv (byteOf ((b.toNat % 128 + 128 : Nat) : Int))) w) : pN P (oBin .or t xo yo (bv b) (bv 128)) w K := pN_of (run_or_bv b 128) (by rw [C.or128]; exact hk)
theorem pN_not128 {b : UInt8} (hk : K (bv (byteOf ((b.toNat % 128 : Nat) : Int))) w) : pN P (oBin .andNot t xo yo (bv b) (bv 128)) w K := pN_of (run_andn_bv b 128) (by rw [C.not128]; exact hk)
set_option maxRecDepth 20000 in
theorem pN_or_hl {x y : Int} (j : Nat) (a b : Nat) (hx : x = (b : Int)) (hy : y = ((a * 2 ^ j : Nat) : Int)) (hb : b < 2 ^ j) (h : a * 2 ^ j + b < 18446744073709551616) (hk : K (.int .u64 ((a * 2 ^ j + b : Nat) : Int)) w) : pN P (oBin .or t xo yo (.int .u64 x) (.int .u64 y)) w K := by
  subst hx hy
  refine pN_of (run_or ..) ?_
  have e := or_low 64 (a : Int) (b : Int) j (by omega) (by omega) (by exact_mod_cast hb) (by exact_mod_cast h)
  have e2 : IntKind.u64.wrap (((BitVec.ofInt IntKind.u64.bits (b : Int) ||| BitVec.ofInt IntKind.u64.bits ((a * 2 ^ j : Nat) : Int)).toNat : Nat) : Int) = ((a * 2 ^ j + b : Nat) : Int) := by
    rw [BitVec.or_comm]
    have e3 : ((a * 2 ^ j : Nat) : Int) = (a : Int) * 2 ^ j := by push_cast; rfl
    rw [e3]
    have e4 : (((BitVec.ofInt 64 ((a : Int) * 2 ^ j) ||| BitVec.ofInt 64 (b : Int)).toNat : Nat) : Int) = (a : Int) * 2 ^ j + b := e
    show IntKind.u64.wrap (((BitVec.ofInt 64 ((a : Int) * 2 ^ j) ||| BitVec.ofInt 64 (b : Int)).toNat : Nat) : Int) = _
    have e5 : (a : Int) * 2 ^ j + b = ((a * 2 ^ j + b : Nat) : Int) := by rw [Int.natCast_add, e3]
    rw [e4, e5, w64_nat h]
  rw [e2]; exact hk
end

theorem bndV_at {i : Nat} (h : i < 9) : bndV[i]? = some (.int .u64 ((C.bnd i : Nat) : Int)) := by
  match i with
  | 0 | 1 | 2 | 3 | 4 | 5 | 6 | 7 | 8 => rfl
  | n + 9 => omega

instance ar_9 : Ar Tryz.prog 290 9 := ⟨_, Tryz.underlying290, Tryz.sizeOf212, Tryz.isAgg212⟩

theorem C.bnd_8 : C.bnd 8 = 9223372036854775808 := rfl
def C.part (v n i : Nat) : List UInt8 := C.more v i ++ List.replicate (n - i) 0
theorem C.part_len (v : Nat) {n i : Nat} (h : i ≤ n) : (C.part v n i).length = n := by rw [C.part, List.length_append, C.more_len, List.length_replicate]; omega
theorem C.part_0 (v n : Nat) : C.part v n 0 = List.replicate n 0 := by rw [C.part, Nat.sub_zero]; rfl
theorem C.part_all (v n : Nat) : C.part v n n = C.more v n := by rw [C.part, Nat.sub_self, List.replicate_zero, List.append_nil]
theorem C.part_set (v : Nat) {n i : Nat} (h : i < n) : (C.part v n i).set i (byteOf ((v / 128 ^ i % 128 + 128 : Nat) : Int)) = C.part v n (i + 1) := by
  have e : List.replicate (n - i) (0 : UInt8) = 0 :: List.replicate (n - (i + 1)) 0 := by rw [← List.replicate_succ]; congr 1; omega
  rw [C.part, C.part, C.more_snoc, e, List.set_append_right _ _ (by rw [C.more_len]; exact Nat.le_refl _), C.more_len, Nat.sub_self, List.set_cons_zero, List.append_assoc]
  rfl
theorem C.put_of {v n : Nat} (hn : C.nsize v = n + 1) (hv : v < 9223372036854775808) : (C.more v (n + 1))[n]? = some (byteOf ((v / 128 ^ n % 128 + 128 : Nat) : Int)) ∧ (C.more v (n + 1)).set n (byteOf ((v / 128 ^ n % 128 : Nat) : Int)) = C.put v := by
  have hb := (C.nsize_bound hv).1
  rw [hn, Nat.pow_succ] at hb
  have hq : v / 128 ^ n < 128 := by rw [Nat.div_lt_iff_lt_mul (Nat.pow_pos (by omega)), Nat.mul_comm]; exact hb
  rw [C.more_snoc]
  refine ⟨?_, ?_⟩
  · rw [List.getElem?_append_right (by rw [C.more_len]; exact Nat.le_refl _), C.more_len, Nat.sub_self]; rfl
  · rw [List.set_append_right _ _ (by rw [C.more_len]; exact Nat.le_refl _), C.more_len, Nat.sub_self, C.put, hn, Nat.add_sub_cancel, Nat.mod_eq_of_lt hq]; rfl
theorem C.byte_more (x : Nat) : byteOf (((byteOf (x : Int)).toNat % 128 + 128 : Nat) : Int) = byteOf ((x % 128 + 128 : Nat) : Int) := by
  have := byteOf_toNat (x : Int)
  congr 2; omega
theorem C.byte_last {x : Nat} (h : x < 128) : byteOf (((byteOf ((x + 128 : Nat) : Int)).toNat % 128 : Nat) : Int) = byteOf ((x : Nat) : Int) := by
  rw [C.byteOf_lt (by omega)]
  congr 2; omega

attribute [local irreducible] oMv oV oU oCall oCallV oBi oBin oUn oLoad oStore oNil oFld oField oIdx oIndex oPick oAlloc oBox oBuild oBs oConv oMk oSl oExt oFn oIface oMap oLook oMapUp oRange oNext oEntry oInv oAssert oPanic oRes pN pA pL pDr pIf gA pGd Calls C.part C.nsize C.more C.put C.get C.bnd
section
variable [Pan] {E w W : World} {K Q : Value → World → Prop} {J : Value → Prop} {L M N : List HA} {l r : List UInt8} {s s2 : Sl}

theorem VSize_ok (hG : GloS W) (v : Nat) (hv : v < 9223372036854775808) (hS : Sat E w M) [Has (old W) M N] (hQ : ∀ w, Sat E w M → Q (.int .i64 (C.nsize v)) w) : Calls Tryz.prog 174 #[.int .u64 v] w (retP Q) := by
  refine varint_Size.calls ?_
  unfold varint_Size.F
  refine pN_ld_n (cs := bndV) Ag.ag Ag.sz rfl (fun j u hj => by rw [Addr.add_lit, Nat.zero_add]; exact old_cell hS (hG.bounds j u hj)) ?_
  refine ⟨fun x w => ∃ i : Nat, x = .int .i64 i ∧ i ≤ 9 ∧ (∀ j, j < i → C.bnd j ≤ v) ∧ Sat E w M, fun x _ => 9 - (RowKit.intOf x).toNat, ⟨0, rfl, by omega, fun j hj => by omega, hS⟩, ?_⟩
  clear hS
  rintro _ _ w ⟨i, rfl, hi, hb, hS⟩
  by_cases hi9 : i < 9
  · have hns := fun h => C.nsize_at hi9 hb h
    repeat' (first | refine pN_aix i rfl hi9 (bndV_at hi9) ?_ | (refine pN_lss_s ?_ ?_ <;> intro hc <;> try (exfalso; omega)) | refine pIf_t ?_ | refine pIf_f ?_ | refine pN_v (hk := ?_) | fail)
    · have hns := hns (by omega)
      skip
      have hc1 : ((i : Int) + 1) = ((C.nsize v : Nat) : Int) := by omega
      rw [hc1]
      exact hQ _ hS
    · skip
      refine ⟨⟨i + 1, rfl, by omega, fun j hj => ?_, hS⟩, by simp [RowKit.intOf] <;> omega⟩
      by_cases hji : j = i
      · subst hji; omega
      · exact hb j (by omega)
  · obtain rfl : i = 9 := by omega
    have h8 := hb 8 (by omega)
    rw [C.bnd_8] at h8
    omega

set_option maxHeartbeats 1000000 in
theorem VPut_ok (hG : GloS W) (v : Nat) (hv : v < 9223372036854775808) (hS : Sat E w M) [Has (old W) M N] (hQ : ∀ s w, Sat E w (rows cd_uint8 s (C.put v) :: M) → Q (.tuple #[.slice s.a (C.put v).length s.c, .int .i64 0]) w) :
    Calls Tryz.prog 124 #[.int .u64 v] w (retP Q) := by
  refine varint_Put.calls ?_
  unfold varint_Put.F
  obtain ⟨n1, n9⟩ := C.nsize_pos hv
  have hpl := C.put_len v
  obtain ⟨n, hn⟩ : ∃ n, C.nsize v = n + 1 := ⟨C.nsize v - 1, by omega⟩
  obtain ⟨hlast, hset⟩ := C.put_of hn hv
  have hdv : v / 128 ^ n < 128 := by
    have hb := (C.nsize_bound hv).1
    rw [hn, Nat.pow_succ] at hb
    rw [Nat.div_lt_iff_lt_mul (Nat.pow_pos (by omega)), Nat.mul_comm]; exact hb
  repeat' (first | (refine pc_varint_Size (VSize_ok hG v hv hS ?_); clear hS; intro w hS) | (refine pN_mk (C := cd_uint8) hS (C.nsize v) rfl (by omega) ?_; clear hS; intro s w hS) | (refine pN_eql_s ?_ ?_ <;> intro hc <;> try (exfalso; first | omega | exact hc rfl | exact hc (by assumption) | exact absurd hc (by assumption))) | refine pIf_f ?_ | refine pN_v (hk := ?_) | fail)
  have h0 : List.replicate (C.nsize v) cd_uint8.zero = C.part v (C.nsize v) 0 := (C.part_0 v (C.nsize v)).symm
  rw [h0] at hS
  refine ⟨fun x y w => ∃ i : Nat, x = .int .u64 ((v / 128 ^ i : Nat) : Int) ∧ y = .int .i64 i ∧ i ≤ C.nsize v ∧ Sat E w (rows cd_uint8 s (C.part v (C.nsize v) i) :: M), fun _ y _ => C.nsize v - (RowKit.intOf y).toNat, ⟨0, by rw [Nat.pow_zero, Nat.div_one], rfl, by omega, hS⟩, ?_⟩
  clear hS
  rintro _ _ _ w ⟨i, rfl, rfl, hi, hS⟩
  have hpi := C.part_len v hi
  by_cases hlt : i < C.nsize v
  · have hst := C.part_set v hlt
    have hdiv : ((v / 128 ^ i : Nat) : Int) / 2 ^ 7 = ((v / 128 ^ (i + 1) : Nat) : Int) := by
      rw [Nat.pow_succ, ← Nat.div_div_eq_div_mul, Int.natCast_ediv]; rfl
    have hx : v / 128 ^ i < 9223372036854775808 := Nat.lt_of_le_of_lt (Nat.div_le_self _ _) hv
    have hby := C.byte_more (v / 128 ^ i)
    generalize C.nsize v = m at *
    generalize hX : v / 128 ^ i = X at *
    generalize C.part v m i = D at *
    repeat' (first | refine pN_or128 ?_ | refine pN_shr_k 7 rfl (by decide) ?_ | (refine pN_lss_s ?_ ?_ <;> intro hc <;> try (exfalso; omega)) | refine pIf_t ?_ | refine pN_tob ?_ | refine pN_ix hS _ (by first | rfl | (exact (Int.toNat_of_nonneg (by omega)).symm)) (by first | rfl | omega | simpa only [go_sem] using True.intro | (simp only [go_sem]; omega)) (by first | omega | (simp only [go_sem]; omega)) fun a x hx ha hel => ?_ | (refine pN_sr hel hS (by rfl) (by rfl) (by first | omega | (simp only [go_sem]; omega)) ?_; clear hS; intro w hS) | refine pN_v (hk := ?_) | fail)
    rw [hby, hst] at hS
    rw [hdiv]
    exact ⟨⟨i + 1, rfl, rfl, by omega, hS⟩, by simp [RowKit.intOf] <;> omega⟩
  · obtain rfl : i = C.nsize v := by omega
    rw [C.part_all] at hS hpi
    rw [hpl, hn, Nat.add_sub_cancel] at hQ
    rw [hn] at hS hpi ⊢
    have hb2 := C.byte_last hdv
    rw [Nat.mod_eq_of_lt hdv] at hlast hset
    generalize C.more v (n + 1) = D at *
    repeat' (first | refine pN_ixk hS n (by omega) (by omega) hlast fun a ha hel => ?_ | refine pN_not128 ?_ | (refine pN_lss_s ?_ ?_ <;> intro hc <;> try (exfalso; omega)) | refine pIf_f ?_ | refine pN_ld1 ha hS ?_ | (refine pN_sr hel hS (by rfl) (by rfl) (by first | omega | (simp only [go_sem]; omega)) ?_; clear hS; intro w hS) | refine pN_v (hk := ?_) | fail)
    rw [hb2, hset] at hS
    exact hQ _ _ hS

theorem C.small_hl {i v c : Nat} (hi : i ≤ 8) (hv : v < 128 ^ i) (hc : c < 128) : c * 128 ^ i + v < 18446744073709551616 := by
  have h1 : c * 128 ^ i ≤ 127 * 128 ^ i := Nat.mul_le_mul_right _ (by omega)
  have h2 : 128 ^ i ≤ 128 ^ 8 := Nat.pow_le_pow_right (by omega) hi
  have e8 : (128 : Nat) ^ 8 = 72057594037927936 := rfl
  omega
theorem C.pow7 (i : Nat) : (2 : Nat) ^ (7 * i) = 128 ^ i := by rw [Nat.pow_mul]

set_option maxHeartbeats 1000000 in
set_option maxRecDepth 8000 in
theorem VGet_ok (hS : Sat E w M) [hr : Rds cd_uint8 M s l] (hl : l.length < 4611686018427387904) (hQ : ∀ w, Sat E w M → Q (.tuple #[.int .u64 (C.get 0 0 l).1, .int .i64 (C.get 0 0 l).2.1, .int .i64 (C.get 0 0 l).2.2]) w) :
    Calls Tryz.prog 179 #[.slice s.a l.length s.c] w (retP Q) := by
  refine varint_Get.calls ?_
  unfold varint_Get.F
  repeat' (first | refine pN_v (hk := ?_) | fail)
  refine ⟨fun x y w => ∃ v i : Nat, x = .int .u64 (v : Int) ∧ y = .int .i64 i ∧ i ≤ l.length ∧ i ≤ 8 ∧ v < 128 ^ i ∧ C.get 0 0 l = C.get v i (l.drop i) ∧ Sat E w M, fun _ y _ => l.length - (RowKit.intOf y).toNat, ⟨0, 0, rfl, rfl, by omega, by omega, by omega, by rw [List.drop_zero], hS⟩, ?_⟩
  clear hS
  rintro _ _ _ w ⟨v, i, rfl, rfl, hi, hi8, hv, hg, hS⟩
  by_cases hlt : i < l.length
  · obtain ⟨c, hc⟩ : ∃ c, l[i]? = some c := ⟨l[i], by simp [hlt]⟩
    have hd : l.drop i = c :: l.drop (i + 1) := by
      rw [List.drop_eq_getElem_cons hlt]
      rw [List.getElem?_eq_getElem hlt] at hc
      rw [Option.some.inj hc]
    rw [hd] at hg
    have hcl := c.toNat_lt
    by_cases hc8 : c.toNat < 128
    · have hlt8 : c < 128 := by rw [UInt8.lt_iff_toNat_lt]; exact hc8
      by_cases hz : c.toNat = 0 ∧ 0 < i
      · rw [C.get_c0 hc8 hz] at hg
        rw [hg] at hQ
        have h0 : c = 0 := UInt8.toNat_inj.1 hz.1
        repeat' (first | refine pN_lss_sb (fun _ => ?_) (fun h => absurd hlt8 h) | refine pN_eql_sb (fun _ => ?_) (fun h => absurd h0 h) | ((first | refine pN_lss_s ?_ ?_ | refine pN_gtr_s ?_ ?_) <;> intro hc <;> try (exfalso; omega)) | refine pIf_t ?_ | refine pGd_go (by rfl) ?_ | refine pN_ld1 ha hS ?_ | refine pN_ixk hS _ (by first | rfl | (exact (Int.toNat_of_nonneg (by omega)).symm)) (by first | rfl | omega | simpa only [go_sem] using True.intro | (simp only [go_sem]; omega)) (by assumption) fun a ha hel => ?_ | refine pN_v (hk := ?_) | fail)
        exact hQ _ hS
      · rw [C.get_c hc8 hz] at hg
        rw [hg] at hQ
        have e7 := C.pow7 i
        have hv2 : v < 2 ^ (7 * i) := by rw [e7]; exact hv
        have hsm := C.small_hl hi8 hv hc8
        have hshl : IntKind.u64.wrap ((c.toNat : Int) * 2 ^ (7 * i)) = ((c.toNat * 2 ^ (7 * i) : Nat) : Int) := by
          have e3 : ((c.toNat * 2 ^ (7 * i) : Nat) : Int) = (c.toNat : Int) * 2 ^ (7 * i) := by push_cast; rfl
          rw [← e3, w64_nat]
          rw [e7]; omega
        rw [← e7] at hsm
        have hval : c.toNat * 2 ^ (7 * i) + v = v + c.toNat * 128 ^ i := by rw [e7]; omega
        have hend : ∀ w, Sat E w M → Q (.tuple #[.int .u64 ((c.toNat * 2 ^ (7 * i) + v : Nat) : Int), .int .i64 ((i : Int) + 1), .int .i64 0]) w := fun w hS => by
          rw [hval]
          exact hQ w hS
        clear hQ
        by_cases h0 : c = 0
        · have hi0 : i = 0 := by
            have : c.toNat = 0 := by rw [h0]; rfl
            omega
          repeat' (first | refine pN_lss_sb (fun _ => ?_) (fun h => absurd hlt8 h) | refine pN_eql_sb (fun _ => ?_) (fun h => absurd h0 h) | refine pN_shl_k (7 * i) (by omega) (show _ ≤ 64 by omega) ?_ | refine pN_or_hl (7 * i) c.toNat v rfl hshl hv2 hsm ?_ | ((first | refine pN_lss_s ?_ ?_ | refine pN_gtr_s ?_ ?_) <;> intro hc <;> try (exfalso; omega)) | refine pIf_t ?_ | refine pIf_f ?_ | refine pGd_go (by rfl) ?_ | refine pN_ofb ?_ | refine pN_ld1 ha hS ?_ | refine pN_ixk hS _ (by first | rfl | (exact (Int.toNat_of_nonneg (by omega)).symm)) (by first | rfl | omega | simpa only [go_sem] using True.intro | (simp only [go_sem]; omega)) (by assumption) fun a ha hel => ?_ | refine pN_v (hk := ?_) | fail)
          exact hend _ hS
        · repeat' (first | refine pN_lss_sb (fun _ => ?_) (fun h => absurd hlt8 h) | refine pN_eql_sb (fun h => absurd h h0) (fun _ => ?_) | refine pN_shl_k (7 * i) (by omega) (show _ ≤ 64 by omega) ?_ | refine pN_or_hl (7 * i) c.toNat v rfl hshl hv2 hsm ?_ | (refine pN_lss_s ?_ ?_ <;> intro hc <;> try (exfalso; omega)) | refine pIf_t ?_ | refine pIf_f ?_ | refine pGd_no (by rfl) ?_ | refine pN_ofb ?_ | refine pN_ld1 ha hS ?_ | refine pN_ixk hS _ (by first | rfl | (exact (Int.toNat_of_nonneg (by omega)).symm)) (by first | rfl | omega | simpa only [go_sem] using True.intro | (simp only [go_sem]; omega)) (by assumption) fun a ha hel => ?_ | refine pN_v (hk := ?_) | fail)
          exact hend _ hS
    · have hge8 : ¬ c < 128 := by rw [UInt8.lt_iff_toNat_lt]; exact hc8
      by_cases h8 : i = 8
      · rw [C.get_m8 hc8 h8] at hg
        rw [hg] at hQ
        repeat' (first | refine pN_lss_sb (fun h => absurd h hge8) (fun _ => ?_) | (refine pN_lss_s ?_ ?_ <;> intro hc <;> try (exfalso; omega)) | (refine pN_eql_s ?_ ?_ <;> intro hc <;> try (exfalso; first | omega | exact hc rfl | exact hc (by assumption) | exact absurd hc (by assumption))) | refine pIf_t ?_ | refine pIf_f ?_ | refine pN_ld1 ha hS ?_ | refine pN_ixk hS _ (by first | rfl | (exact (Int.toNat_of_nonneg (by omega)).symm)) (by first | rfl | omega | simpa only [go_sem] using True.intro | (simp only [go_sem]; omega)) (by assumption) fun a ha hel => ?_ | fail)
        exact hQ _ hS
      · rw [C.get_m hc8 h8] at hg
        have e7 := C.pow7 i
        obtain ⟨x, hx⟩ : ∃ x : Nat, x = c.toNat - 128 := ⟨_, rfl⟩
        have hx8 : x < 128 := by omega
        rw [← hx] at hg
        have hv2 : v < 2 ^ (7 * i) := by rw [e7]; exact hv
        have hsm := C.small_hl hi8 hv hx8
        have hby : ((byteOf ((c.toNat % 128 : Nat) : Int)).toNat : Int) = (x : Int) := by rw [C.byteOf_lt (by omega)]; omega
        have hshl : IntKind.u64.wrap ((x : Int) * 2 ^ (7 * i)) = ((x * 2 ^ (7 * i) : Nat) : Int) := by
          have e3 : ((x * 2 ^ (7 * i) : Nat) : Int) = (x : Int) * 2 ^ (7 * i) := by push_cast; rfl
          rw [← e3, w64_nat]
          rw [e7]; omega
        have hv3 : v + x * 128 ^ i < 128 ^ (i + 1) := by
          have : x * 128 ^ i ≤ 127 * 128 ^ i := Nat.mul_le_mul_right _ (by omega)
          rw [Nat.pow_succ]; omega
        rw [← e7] at hsm
        have hval : x * 2 ^ (7 * i) + v = v + x * 128 ^ i := by rw [e7]; omega
        have hend : ∀ w, Sat E w M → ∃ v' i' : Nat, Value.int .u64 ((x * 2 ^ (7 * i) + v : Nat) : Int) = .int .u64 (v' : Int) ∧ Value.int .i64 ((i : Int) + 1) = .int .i64 i' ∧ i' ≤ l.length ∧ i' ≤ 8 ∧ v' < 128 ^ i' ∧ C.get 0 0 l = C.get v' i' (l.drop i') ∧ Sat E w M := fun w hS =>
          ⟨v + x * 128 ^ i, i + 1, by rw [hval], rfl, by omega, by omega, hv3, hg, hS⟩
        clear hQ
        repeat' (first | refine pN_lss_sb (fun h => absurd h hge8) (fun _ => ?_) | refine pN_not128 ?_ | (refine pN_ofb ?_; rw [hby]) | refine pN_shl_k (7 * i) (by omega) (show _ ≤ 64 by omega) ?_ | refine pN_or_hl (7 * i) x v rfl hshl hv2 hsm ?_ | (refine pN_lss_s ?_ ?_ <;> intro hc <;> try (exfalso; omega)) | (refine pN_eql_s ?_ ?_ <;> intro hc <;> try (exfalso; first | omega | exact hc rfl | exact hc (by assumption) | exact absurd hc (by assumption))) | refine pIf_t ?_ | refine pIf_f ?_ | refine pN_ld1 ha hS ?_ | refine pN_ixk hS _ (by first | rfl | (exact (Int.toNat_of_nonneg (by omega)).symm)) (by first | rfl | omega | simpa only [go_sem] using True.intro | (simp only [go_sem]; omega)) (by assumption) fun a ha hel => ?_ | refine pN_v (hk := ?_) | fail)
        exact ⟨hend _ hS, by simp [RowKit.intOf] <;> omega⟩
  · obtain rfl : i = l.length := by omega
    rw [List.drop_length, C.get_nil] at hg
    rw [hg] at hQ
    repeat' (first | (refine pN_lss_s ?_ ?_ <;> intro hc <;> try (exfalso; omega)) | refine pIf_f ?_ | fail)
    exact hQ _ hS
end
end Go.Proofs.YtikmogfhhggafaaGreatDoor

namespace Go.Proofs.YtikmogfhhggafaaGreatDoor
open Go

section
variable {P : Program} {H : Hints} {v : Value}

theorem cw_wpS1 (hm : P.follows .mixedOrders = true) {n : Frm} {cs cs2 : List Frame} (hv : recoverD cs = some (v, cs2) ∨ (recoverD cs = none ∧ v = .nilIface ∧ cs2 = cs)) {id : Nat} {o : Oper} {y : Code}
    (hr : recB #[o] 0 = true) (hcut : (firstRg y).bind H.cut = none) :
    ∀ {Q : PQ} {ρ : Env} {w : World} {a : Act}, served H n (.seq (.region id (recOps #[o] 0 v) false) y) = true → Fits n a ρ → @cw Pan.no P H (.seq (.region id (recOps #[o] 0 v) false) y) Q ρ w →
      (Code.seq (.region id #[o] false) y).wpS P (fun e a' cs' w' => cs' = cs2 ∧ @UpQ Pan.no n a (writes (.seq (.region id (recOps #[o] 0 v) false) y)) Q e a' w') a cs w := by
  intro Q ρ w a hs hf h
  obtain ⟨o2, ho2, hrun, hg, haft⟩ := (recB_at (P := P) hr).is
  obtain rfl : o = o2 := by simpa using ho2
  simp only [served, Bool.and_eq_true, hcut] at hs
  simp only [cw, hcut] at h
  have hlt : ∀ t ∈ opWrites (recOps #[o] 0 v).toList, n.lo ≤ t ∧ t < n.n := by
    intro t ht
    have hs1 := hs.1.1
    simp only [List.all_eq_true] at hs1
    have := hs1 t ht
    simp only [Bool.and_eq_true, Nat.blt_eq, Nat.ble_eq] at this
    exact ⟨this.2, this.1⟩
  have hl := @rgW_wp Pan.no P n (recOps #[o] 0 v) (recOps #[o] 0 v).toList a ρ w _ (fun e a' w' => @UpQ Pan.no n a (writes (.region id (recOps #[o] 0 v) false)) (fun e ρ' w' => match e with
      | .normal => @cw Pan.no P H y Q ρ' w'
      | _ => False) e a' w') (fun c a w h => h) hlt hf h fun a' ρ' w' hk hf' hq => ⟨hk, ρ', hf', hq⟩
  have e : (recOps #[o] 0 v).toList = [{ o with op := .assign (.const v) }] := rfl
  rw [e] at hl
  refine wpS_seq ?_
  refine wpS_region ?_
  have key : @UpQ Pan.no n a (writes (.region id (recOps #[o] 0 v) false)) (fun e ρ' w' => match e with
      | .normal => @cw Pan.no P H y Q ρ' w'
      | _ => False) .normal (a.put o.dst v) w := by
    unfold wpList at hl
    simp only [Region.wanted, hg, if_true, Oper.wp, Oper.upon, execOp, Sem.run_pure] at hl
    unfold wpList at hl
    exact hl.resolve_right fun h => by obtain ⟨_, _, _, h⟩ := h; exact h
  have key2 : (Code.wpS P y (fun e a' cs' w' => cs' = cs2 ∧ @UpQ Pan.no n a (writes (.seq (.region id (recOps #[o] 0 v) false) y)) Q e a' w')) (a.put o.dst v) cs2 w := by
    obtain ⟨hk, ρ', hf', hq'⟩ := key
    refine wpS_of_wp (wp_mono (cw_wp (n := n) hm y hs.1.2 hf' hq') fun e a'' w'' h => (⟨rfl, UpQ.next hk e a'' w'' h⟩ : cs2 = cs2 ∧ _))
  show wpOpsS P #[o] _ [0] a cs w
  unfold wpOpsS
  simp only [ho2, Region.wanted, hg, if_true, hrun]
  rcases hv with hv | ⟨hv, rfl, rfl⟩
  · simp only [hv]; exact key2
  · simp only [hv]; exact key2

theorem callsD_of_cw1 (hm : P.follows .mixedOrders = true) {f : FuncId} {fn : Func} {id : Nat} {o : Oper} {y : Code} {args : List Value} {w : World} {K : Value → World → Prop} {u u2 : FrameMode}
    (hu : (∃ older, u = .panicking ({ v := v, recovered := false } :: older) ∧ u2 = .panicking ({ v := v, recovered := true } :: older)) ∨ (u = .returning ∧ v = .nilIface ∧ u2 = .returning))
    (hfn : P.funcs[f]? = some fn) (hb : fn.body = some (.seq (.region id #[o] false) y)) (hr : recB #[o] 0 = true) (hcut : ((firstRg y).bind H.cut).isNone = true)
    (hs : served H (Frm.new fn.ntmps) (.seq (.region id (recOps #[o] 0 v) false) y) = true) (ha : args.length ≤ fn.ntmps)
    (h : @cw Pan.no P H (.seq (.region id (recOps #[o] 0 v) false) y) (endQ P fn.results.toList K) (argsE args) w) : CallsD P f args.toArray u w fun e u' w' => u' = u2 ∧ ∃ r, e = .returned r ∧ K r w' := by
  refine callsD_of_wpS hfn hb fun c₀ cs hu₀ => ?_
  have hf := fits_new fn.ntmps args ha
  have hv : recoverD (c₀ :: cs) = some (v, { c₀ with mode := u2 } :: cs) ∨ (recoverD (c₀ :: cs) = none ∧ v = .nilIface ∧ { c₀ with mode := u2 } :: cs = c₀ :: cs) := by
    rcases hu with ⟨older, rfl, rfl⟩ | ⟨rfl, rfl, rfl⟩
    · left; simp [recoverD, hu₀]
    · right
      refine ⟨by simp [recoverD, hu₀], rfl, ?_⟩
      rw [← hu₀]
  refine wpS_mono (cw_wpS1 hm hv hr (Option.isNone_iff_eq_none.1 hcut) hs hf h) fun e a' cs' w' hq => ?_
  obtain ⟨rfl, hq⟩ := hq
  cases e with
  | panic c => exact hq.z.elim
  | outgrown => exact hq.elim
  | goto l => exact hq.elim
  | exit id => obtain ⟨_, ρ', _, hq⟩ := hq; exact hq.elim
  | normal =>
    obtain ⟨_, ρ', hf', hq⟩ := hq
    obtain ⟨vs, hr, hK⟩ := resW_run _ _ hq
    exact ⟨hf'.defers, u2, rfl, _, results_one hf' fn w' P vs hr, rfl, _, rfl, by simpa using hK⟩
  | ret =>
    obtain ⟨_, ρ', hf', hq⟩ := hq
    obtain ⟨vs, hr, hK⟩ := resW_run _ _ hq
    exact ⟨hf'.defers, u2, rfl, _, results_one hf' fn w' P vs hr, rfl, _, rfl, by simpa using hK⟩
end
end Go.Proofs.YtikmogfhhggafaaGreatDoor

namespace Go.Proofs.YtikmogfhhggafaaGreatDoor
open Go
set_option maxRecDepth 100000

def snap_Save.H : Hints := { cut := fun | 24 => some ([], 9407839477591871324160) | 25 => some ([13], 151113421608819433250816) | _ => none, loop := fun | 5 => ([24], 137422179904) | 13 => ([12], 144114638320046144) | 19 => ([13, 59], 302230878442904990359552) | _ => ([], 0), order := fun | 15 => [(0, 0), (1, 1), (2, 3), (3, 7), (4, 15), (5, 31), (6, 63), (7, 127), (8, 255), (9, 511), (10, 1023), (11, 2047)] | _ => [] }
def snap_Save.F [Pan] (x0 x1 x2 : Value) (w : World) (Q : Value → World → Prop) : Prop :=
 pN Tryz.prog (oCall 56 [x1]) w fun x18 w1 =>
 pN Tryz.prog (oBin .neq 38 (.tmp 19) (.const (.int .i64 0)) x18 (.int .i64 0)) w1 fun x20 w2 =>
 pIf x20
 (Q x18 w2)
 (pN Tryz.prog (oBi .len #[30] 3 [false] [x2]) w2 fun x23 w3 =>
 ∃ (L5 : Value → World → Prop) (m5 : Value → World → Nat),
 L5 (.int .i64 0) w3 ∧
 ∀ (_k5 : Env) (v24l5 : Value) (w4 : World), L5 v24l5 w4 →
 pN Tryz.prog (oBin .lss 3 (.tmp 24) (.tmp 23) v24l5 x23) w4 fun x25 w5 =>
 pIf x25
 (pN Tryz.prog (oIdx 30 x2 v24l5) w5 fun x26 w6 =>
 pN Tryz.prog (oLoad 49 x26) w6 fun x27 w7 =>
 pN Tryz.prog (oAlloc 49) w7 fun x9 w8 =>
 pN Tryz.prog (oStore 49 x9 x27) w8 fun _ w9 =>
 pN Tryz.prog (oLoad 49 x9) w9 fun x29 w10 =>
 pN Tryz.prog (oCall 49 [x29]) w10 fun x30 w11 =>
 pN Tryz.prog (oExt x30 0) w11 fun _ w12 =>
 pN Tryz.prog (oExt x30 1) w12 fun x32 w13 =>
 pN Tryz.prog (oBin .neq 38 (.tmp 33) (.const (.int .i64 0)) x32 (.int .i64 0)) w13 fun x34 w14 =>
 pIf x34
 (Q x32 w14)
 (pN Tryz.prog (oBin .add 3 (.tmp 24) (.const (.int .i64 1)) v24l5 (.int .i64 1)) w14 fun x36 w15 =>
 (L5 x36 w15 ∧ m5 x36 w15 < m5 v24l5 w4)))
 (pN Tryz.prog (oCall 57 [x2, (.func (.func 58) #[] #[])]) w5 fun x38 w16 =>
 ∃ (L13 : Value → World → Prop) (m13 : Value → World → Nat),
 L13 (.int .i64 1) w16 ∧
 ∀ (_k13 : Env) (i12l13 : Value) (w17 : World), L13 i12l13 w17 →
 pN Tryz.prog (oBi .len #[30] 3 [false] [x38]) w17 fun x41 w18 =>
 pN Tryz.prog (oBin .lss 3 (.tmp 39) (.tmp 41) i12l13 x41) w18 fun x42 w19 =>
 pIf x42
 (pDr w19 fun w20 =>
 pA Tryz.prog (oIdx 30 x38 i12l13) fun x47 =>
 pA Tryz.prog (oFld 49 x47 0) fun x48 =>
 pL Tryz.prog (oLoad 9 x48) w20 fun x49 =>
 pA Tryz.prog (oBin .sub 3 (.tmp 51) (.const (.int .i64 1)) i12l13 (.int .i64 1)) fun x52 =>
 pA Tryz.prog (oIdx 30 x38 x52) fun x53 =>
 pA Tryz.prog (oFld 49 x53 0) fun x54 =>
 pL Tryz.prog (oLoad 9 x54) w20 fun x55 =>
 pA Tryz.prog (oBin .eql 9 (.tmp 49) (.tmp 55) x49 x55) fun x56 =>
 pIf x56
 (Q (.int .i64 9) w20)
 (pN Tryz.prog (oBin .add 3 (.tmp 43) (.const (.int .i64 1)) i12l13 (.int .i64 1)) w20 fun x44 w21 =>
 (L13 x44 w21 ∧ m13 x44 w21 < m13 i12l13 w17)))
 (pN Tryz.prog (oBi .len #[30] 3 [false] [x38]) w19 fun x58 w22 =>
 ∃ (L19 : Value → Value → World → Prop) (m19 : Value → Value → World → Nat),
 L19 (.slice none 0 0) (.int .i64 0) w22 ∧
 ∀ (_k19 : Env) (list13l19 : Value) (v59l19 : Value) (w23 : World), L19 list13l19 v59l19 w23 →
 pN Tryz.prog (oBin .lss 3 (.tmp 59) (.tmp 58) v59l19 x58) w23 fun x60 w24 =>
 pIf x60
 (∃ I25 : Value → World → Prop,
 (pN Tryz.prog (oIdx 30 x38 v59l19) w24 fun x61 w25 =>
 pN Tryz.prog (oLoad 49 x61) w25 fun x62 w26 =>
 pN Tryz.prog (oAlloc 49) w26 fun x15 w27 =>
 pN Tryz.prog (oStore 49 x15 x62) w27 fun _ w28 =>
 pN Tryz.prog (oLoad 49 x15) w28 fun x63 w29 =>
 pN Tryz.prog (oBuild 118 [(0, x63)]) w29 fun x64 w30 =>
 pN Tryz.prog (oAlloc 118) w30 fun x16 w31 =>
 pN Tryz.prog (oStore 118 x16 x64) w31 fun _ w32 =>
 ∃ I24 : World → Prop,
 (pN Tryz.prog (oFld 49 x15 2) w32 fun x65 w33 =>
 pN Tryz.prog (oLoad 3 x65) w33 fun x66 w34 =>
 pN Tryz.prog (oBin .eql 3 (.tmp 66) (.const (.int .i64 0)) x66 (.int .i64 0)) w34 fun x67 w35 =>
 pIf x67
 (pN Tryz.prog (oFld 49 x15 5) w35 fun x69 w36 =>
 pN Tryz.prog (oLoad 47 x69) w36 fun x70 w37 =>
 pN Tryz.prog (oCall 16 [x0, x70]) w37 fun x71 w38 =>
 pN Tryz.prog (oFld 118 x16 1) w38 fun x72 w39 =>
 pN Tryz.prog (oStore 52 x72 x71) w39 fun _ w40 =>
 I24 w40)
 (I24 w35)) ∧
 ∀ (_j24 : Env) (w41 : World), I24 w41 →
 pN Tryz.prog (oLoad 118 x16) w41 fun x74 w42 =>
 pN Tryz.prog (oBs 116 1 [(0, x74)]) w42 fun x75 w43 =>
 pN Tryz.prog (oBi .append #[116, 116] 116 [false, false] [list13l19, x75]) w43 fun x76 w44 =>
 I25 x76 w44) ∧
 ∀ (_j25 : Env) (list13c25 : Value) (w45 : World), I25 list13c25 w45 →
 pN Tryz.prog (oBin .add 3 (.tmp 59) (.const (.int .i64 1)) v59l19 (.int .i64 1)) w45 fun x77 w46 =>
 (L19 list13c25 x77 w46 ∧ m19 list13c25 x77 w46 < m19 list13l19 v59l19 w23))
 (pN Tryz.prog (oCall 60 [list13l19]) w24 fun x82 w47 =>
 pN Tryz.prog (oCall 16 [x0, x82]) w47 fun x83 w48 =>
 pN Tryz.prog (oCall 59 [x0, x1, x83]) w48 fun x84 w49 =>
 Q x84 w49))))
theorem snap_Save.calls [Pan] {x0 x1 x2 : Value} {w : World} {Q : Value → World → Prop} (h : snap_Save.F x0 x1 x2 w Q) : Calls Tryz.prog 13 #[x0, x1, x2] w (retP Q) := calls_lift mixed snap_Save.H [x0, x1, x2] Tryz.func13 (by kernel_rfl) (by kernel_rfl) h

def snap_Needs.H : Hints := { cut := fun  | _ => none, loop := fun | 6 => ([9, 26], 34292632064) | _ => ([], 0), order := fun  | _ => [] }
def snap_Needs.F [Pan] (x0 x1 : Value) (w : World) (Q : Value → World → Prop) : Prop :=
 pN Tryz.prog (oCall 61 [x0, x1]) w fun x15 w1 =>
 pN Tryz.prog (oExt x15 0) w1 fun x16 w2 =>
 pN Tryz.prog (oExt x15 1) w2 fun x17 w3 =>
 pN Tryz.prog (oExt x15 2) w3 fun x18 w4 =>
 pN Tryz.prog (oBin .neq 38 (.tmp 19) (.const (.int .i64 0)) x18 (.int .i64 0)) w4 fun x20 w5 =>
 pIf x20
 (Q (.tuple #[(.slice none 0 0), x18]) w5)
 (pN Tryz.prog (oCall 65 [x17]) w5 fun x23 w6 =>
 pN Tryz.prog (oBi .len #[116] 3 [false] [x16]) w6 fun x25 w7 =>
 ∃ (L6 : Value → Value → World → Prop) (m6 : Value → Value → World → Nat),
 L6 x23 (.int .i64 0) w7 ∧
 ∀ (_k6 : Env) (all9l6 : Value) (v26l6 : Value) (w8 : World), L6 all9l6 v26l6 w8 →
 pN Tryz.prog (oBin .lss 3 (.tmp 26) (.tmp 25) v26l6 x25) w8 fun x27 w9 =>
 pIf x27
 (pN Tryz.prog (oIdx 116 x16 v26l6) w9 fun x28 w10 =>
 pN Tryz.prog (oLoad 118 x28) w10 fun x29 w11 =>
 pN Tryz.prog (oAlloc 118) w11 fun x11 w12 =>
 pN Tryz.prog (oStore 118 x11 x29) w12 fun _ w13 =>
 pN Tryz.prog (oFld 118 x11 1) w13 fun x31 w14 =>
 pN Tryz.prog (oLoad 52 x31) w14 fun x32 w15 =>
 pN Tryz.prog (oBi .append #[52, 52] 52 [false, false] [all9l6, x32]) w15 fun x33 w16 =>
 pN Tryz.prog (oBin .add 3 (.tmp 26) (.const (.int .i64 1)) v26l6 (.int .i64 1)) w16 fun x34 w17 =>
 (L6 x33 x34 w17 ∧ m6 x33 x34 w17 < m6 all9l6 v26l6 w8))
 (pN Tryz.prog (oCall 66 [all9l6, (.func (.func 67) #[] #[])]) w9 fun _ w18 =>
 pN Tryz.prog (oCall 69 [all9l6]) w18 fun x38 w19 =>
 Q (.tuple #[x38, (.int .i64 0)]) w19))
theorem snap_Needs.calls [Pan] {x0 x1 : Value} {w : World} {Q : Value → World → Prop} (h : snap_Needs.F x0 x1 w Q) : Calls Tryz.prog 17 #[x0, x1] w (retP Q) := calls_lift mixed snap_Needs.H [x0, x1] Tryz.func17 (by kernel_rfl) (by kernel_rfl) h

def snap_Items.H : Hints := { cut := fun  | _ => none, loop := fun | 6 => ([9, 26], 17592118950448) | _ => ([], 0), order := fun  | _ => [] }
def snap_Items.F [Pan] (x0 x1 : Value) (w : World) (Q : Value → World → Prop) : Prop :=
 pN Tryz.prog (oCall 61 [x0, x1]) w fun x17 w1 =>
 pN Tryz.prog (oExt x17 0) w1 fun x18 w2 =>
 pN Tryz.prog (oExt x17 1) w2 fun _ w3 =>
 pN Tryz.prog (oExt x17 2) w3 fun x20 w4 =>
 pN Tryz.prog (oBin .neq 38 (.tmp 21) (.const (.int .i64 0)) x20 (.int .i64 0)) w4 fun x22 w5 =>
 pIf x22
 (Q (.tuple #[(.slice none 0 0), x20]) w5)
 (pN Tryz.prog (oBi .len #[116] 3 [false] [x18]) w5 fun x25 w6 =>
 ∃ (L6 : Value → Value → World → Prop) (m6 : Value → Value → World → Nat),
 L6 (.slice none 0 0) (.int .i64 0) w6 ∧
 ∀ (_k6 : Env) (out9l6 : Value) (v26l6 : Value) (w7 : World), L6 out9l6 v26l6 w7 →
 pN Tryz.prog (oBin .lss 3 (.tmp 26) (.tmp 25) v26l6 x25) w7 fun x27 w8 =>
 pIf x27
 (pN Tryz.prog (oIdx 116 x18 v26l6) w8 fun x28 w9 =>
 pN Tryz.prog (oLoad 118 x28) w9 fun x29 w10 =>
 pN Tryz.prog (oAlloc 118) w10 fun x11 w11 =>
 pN Tryz.prog (oStore 118 x11 x29) w11 fun _ w12 =>
 pN Tryz.prog (oLoad 118 x11) w12 fun x32 w13 =>
 pN Tryz.prog (oCall 71 [x0, x32]) w13 fun x33 w14 =>
 pN Tryz.prog (oExt x33 0) w14 fun x34 w15 =>
 pN Tryz.prog (oExt x33 1) w15 fun x35 w16 =>
 pN Tryz.prog (oAlloc 49) w16 fun x12 w17 =>
 pN Tryz.prog (oStore 49 x12 x34) w17 fun _ w18 =>
 pN Tryz.prog (oBin .neq 38 (.tmp 36) (.const (.int .i64 0)) x35 (.int .i64 0)) w18 fun x37 w19 =>
 pIf x37
 (Q (.tuple #[(.slice none 0 0), x35]) w19)
 (pN Tryz.prog (oLoad 49 x12) w19 fun x40 w20 =>
 pN Tryz.prog (oBs 30 1 [(0, x40)]) w20 fun x41 w21 =>
 pN Tryz.prog (oBi .append #[30, 30] 30 [false, false] [out9l6, x41]) w21 fun x42 w22 =>
 pN Tryz.prog (oBin .add 3 (.tmp 26) (.const (.int .i64 1)) v26l6 (.int .i64 1)) w22 fun x43 w23 =>
 (L6 x42 x43 w23 ∧ m6 x42 x43 w23 < m6 out9l6 v26l6 w7)))
 (Q (.tuple #[out9l6, (.int .i64 0)]) w8))
theorem snap_Items.calls [Pan] {x0 x1 : Value} {w : World} {Q : Value → World → Prop} (h : snap_Items.F x0 x1 w Q) : Calls Tryz.prog 24 #[x0, x1] w (retP Q) := calls_lift mixed snap_Items.H [x0, x1] Tryz.func24 (by kernel_rfl) (by kernel_rfl) h

def snap_Find.F [Pan] (x0 x1 x2 : Value) (w : World) (Q : Value → World → Prop) : Prop :=
 pN Tryz.prog (oBox 9 x2) w fun x5 w1 =>
 pN Tryz.prog (oAlloc 49) w1 fun x6 w2 =>
 pN Tryz.prog (oCall 61 [x0, x1]) w2 fun x15 w3 =>
 pN Tryz.prog (oExt x15 0) w3 fun x16 w4 =>
 pN Tryz.prog (oExt x15 1) w4 fun _ w5 =>
 pN Tryz.prog (oExt x15 2) w5 fun x18 w6 =>
 pN Tryz.prog (oBin .neq 38 (.tmp 19) (.const (.int .i64 0)) x18 (.int .i64 0)) w6 fun x20 w7 =>
 pIf x20
 (pN Tryz.prog (oBuild 49 []) w7 fun x21 w8 =>
 pN Tryz.prog (oStore 49 x6 x21) w8 fun _ w9 =>
 pL Tryz.prog (oRes 49 x6) w9 fun r6 =>
 Q (.tuple #[r6, x18]) w9)
 (pN Tryz.prog (oFn (.func 73) [] [x5]) w7 fun x24 w10 =>
 pN Tryz.prog (oCall 72 [x16, x24]) w10 fun x25 w11 =>
 pN Tryz.prog (oBin .lss 3 (.tmp 26) (.const (.int .i64 0)) x25 (.int .i64 0)) w11 fun x27 w12 =>
 pIf x27
 (pN Tryz.prog (oBuild 49 []) w12 fun x28 w13 =>
 pN Tryz.prog (oStore 49 x6 x28) w13 fun _ w14 =>
 pL Tryz.prog (oRes 49 x6) w14 fun r6 =>
 Q (.tuple #[r6, (.int .i64 8)]) w14)
 (pN Tryz.prog (oIdx 116 x16 x25) w12 fun x32 w15 =>
 pN Tryz.prog (oLoad 118 x32) w15 fun x33 w16 =>
 pN Tryz.prog (oCall 71 [x0, x33]) w16 fun x34 w17 =>
 pN Tryz.prog (oExt x34 0) w17 fun x35 w18 =>
 pN Tryz.prog (oExt x34 1) w18 fun x36 w19 =>
 pN Tryz.prog (oStore 49 x6 x35) w19 fun _ w20 =>
 pL Tryz.prog (oRes 49 x6) w20 fun r6 =>
 Q (.tuple #[r6, x36]) w20))
theorem snap_Find.calls [Pan] {x0 x1 x2 : Value} {w : World} {Q : Value → World → Prop} (h : snap_Find.F x0 x1 x2 w Q) : Calls Tryz.prog 28 #[x0, x1, x2] w (retP Q) := calls_lift mixed .z [x0, x1, x2] Tryz.func28 (by kernel_rfl) (by kernel_rfl) h

def snap_Tar.F [Pan] (x0 x1 : Value) (w : World) (Q : Value → World → Prop) : Prop :=
 pN Tryz.prog (oCall 24 [x0, x1]) w fun x11 w1 =>
 pN Tryz.prog (oExt x11 0) w1 fun x12 w2 =>
 pN Tryz.prog (oExt x11 1) w2 fun x13 w3 =>
 pN Tryz.prog (oBin .neq 38 (.tmp 14) (.const (.int .i64 0)) x13 (.int .i64 0)) w3 fun x15 w4 =>
 pIf x15
 (Q (.tuple #[(.slice none 0 0), x13]) w4)
 (pN Tryz.prog (oCall 25 [x12]) w4 fun x18 w5 =>
 pN Tryz.prog (oExt x18 0) w5 fun x19 w6 =>
 pN Tryz.prog (oExt x18 1) w6 fun x20 w7 =>
 Q (.tuple #[x19, x20]) w7)
theorem snap_Tar.calls [Pan] {x0 x1 : Value} {w : World} {Q : Value → World → Prop} (h : snap_Tar.F x0 x1 w Q) : Calls Tryz.prog 29 #[x0, x1] w (retP Q) := calls_lift mixed .z [x0, x1] Tryz.func29 (by kernel_rfl) (by kernel_rfl) h

def snap_List.F [Pan] (x0 : Value) (w : World) (Q : Value → World → Prop) : Prop :=
 pN Tryz.prog (oCall 74 [x0]) w fun x4 w1 =>
 Q x4 w1
theorem snap_List.calls [Pan] {x0 : Value} {w : World} {Q : Value → World → Prop} (h : snap_List.F x0 w Q) : Calls Tryz.prog 30 #[x0] w (retP Q) := calls_lift mixed .z [x0] Tryz.func30 (by kernel_rfl) (by kernel_rfl) h

def snap_byName_api_Item_.F [Pan] (x0 x1 : Value) (w : World) (Q : Value → World → Prop) : Prop :=
 pN Tryz.prog (oBox 115 x1) w fun x3 w1 =>
 pN Tryz.prog (oCall 95 [x0]) w1 fun x6 w2 =>
 pN Tryz.prog (oFn (.func 97) [] [x3]) w2 fun x8 w3 =>
 pN Tryz.prog (oCall 96 [x6, x8]) w3 fun _ w4 =>
 Q x6 w4
theorem snap_byName_api_Item_.calls [Pan] {x0 x1 : Value} {w : World} {Q : Value → World → Prop} (h : snap_byName_api_Item_.F x0 x1 w Q) : Calls Tryz.prog 57 #[x0, x1] w (retP Q) := calls_lift mixed .z [x0, x1] Tryz.func57 (by kernel_rfl) (by kernel_rfl) h

def snap_itemName.F [Pan] (x0 : Value) (w : World) (Q : Value → World → Prop) : Prop :=
 pN Tryz.prog (oBox 49 x0) w fun x1 w1 =>
 pN Tryz.prog (oFld 49 x1 0) w1 fun x3 w2 =>
 pN Tryz.prog (oLoad 9 x3) w2 fun x4 w3 =>
 Q x4 w3
theorem snap_itemName.calls [Pan] {x0 : Value} {w : World} {Q : Value → World → Prop} (h : snap_itemName.F x0 w Q) : Calls Tryz.prog 58 #[x0] w (retP Q) := calls_lift mixed .z [x0] Tryz.func58 (by kernel_rfl) (by kernel_rfl) h

def snap_write.H : Hints := { cut := fun | 18 => some ([3], 73786976294838173864) | _ => none, loop := fun | 3 => ([3, 13], 147573952589676404904) | 12 => ([3, 51], 574208952489738376) | _ => ([], 0), order := fun | 6 => [(0, 0), (1, 1), (2, 3), (3, 7), (5, 15), (6, 47), (7, 111), (4, 239), (8, 255), (9, 511)] | _ => [] }
def snap_write.F [Pan] (x0 : Value) (w : World) (Q : Value → World → Prop) : Prop :=
 pN Tryz.prog (oBi .len #[116] 3 [false] [x0]) w fun x9 w1 =>
 pN Tryz.prog (oCall 99 [(.slice none 0 0), x9]) w1 fun x10 w2 =>
 pN Tryz.prog (oBi .len #[116] 3 [false] [x0]) w2 fun x12 w3 =>
 ∃ (L3 : Value → Value → World → Prop) (m3 : Value → Value → World → Nat),
 L3 x10 (.int .i64 0) w3 ∧
 ∀ (_k3 : Env) (b3l3 : Value) (v13l3 : Value) (w4 : World), L3 b3l3 v13l3 w4 →
 pN Tryz.prog (oBin .lss 3 (.tmp 13) (.tmp 12) v13l3 x12) w4 fun x14 w5 =>
 pIf x14
 (∃ I18 : Value → World → Prop,
 (pN Tryz.prog (oIdx 116 x0 v13l3) w5 fun x15 w6 =>
 pN Tryz.prog (oLoad 118 x15) w6 fun x16 w7 =>
 pN Tryz.prog (oAlloc 118) w7 fun x5 w8 =>
 pN Tryz.prog (oStore 118 x5 x16) w8 fun _ w9 =>
 pN Tryz.prog (oFld 118 x5 0) w9 fun x18 w10 =>
 pN Tryz.prog (oFld 49 x18 2) w10 fun x19 w11 =>
 pN Tryz.prog (oLoad 3 x19) w11 fun x20 w12 =>
 pN Tryz.prog (oConv 3 5 x20) w12 fun x21 w13 =>
 pN Tryz.prog (oBs 47 1 [(0, x21)]) w13 fun x22 w14 =>
 pN Tryz.prog (oBi .append #[47, 47] 47 [false, false] [b3l3, x22]) w14 fun x23 w15 =>
 pDr w15 fun w16 =>
 pA Tryz.prog (oFld 118 x5 0) fun x25 =>
 pA Tryz.prog (oFld 49 x25 3) fun x26 =>
 pL Tryz.prog (oLoad 3 x26) w16 fun x27 =>
 pA Tryz.prog (oFld 118 x5 0) fun x29 =>
 pA Tryz.prog (oFld 49 x29 4) fun x30 =>
 pL Tryz.prog (oLoad 3 x30) w16 fun x31 =>
 pN Tryz.prog (oCall 99 [x23, x27]) w16 fun x28 w17 =>
 ((Sem.run Tryz.prog (oLoad 3 x30) w17 = .ok (.value x31) w17) ∧ True) ∧ (pN Tryz.prog (oCall 99 [x28, x31]) w17 fun x32 w18 =>
 (True) ∧ (pN Tryz.prog (oFld 118 x5 0) w18 fun x34 w19 =>
 pN Tryz.prog (oFld 49 x34 0) w19 fun x35 w20 =>
 pN Tryz.prog (oLoad 9 x35) w20 fun x36 w21 =>
 pN Tryz.prog (oCall 100 [x32, x36]) w21 fun x37 w22 =>
 pN Tryz.prog (oFld 118 x5 0) w22 fun x38 w23 =>
 pN Tryz.prog (oFld 49 x38 2) w23 fun x39 w24 =>
 pN Tryz.prog (oLoad 3 x39) w24 fun x40 w25 =>
 pN Tryz.prog (oBin .eql 3 (.tmp 40) (.const (.int .i64 0)) x40 (.int .i64 0)) w25 fun x42 w26 =>
 pIf x42
 (pN Tryz.prog (oFld 118 x5 1) w26 fun x44 w27 =>
 pN Tryz.prog (oLoad 52 x44) w27 fun x45 w28 =>
 pN Tryz.prog (oBi .len #[52] 3 [false] [x45]) w28 fun x46 w29 =>
 pN Tryz.prog (oCall 99 [x37, x46]) w29 fun x47 w30 =>
 pN Tryz.prog (oFld 118 x5 1) w30 fun x48 w31 =>
 pN Tryz.prog (oLoad 52 x48) w31 fun x49 w32 =>
 pN Tryz.prog (oBi .len #[52] 3 [false] [x49]) w32 fun x50 w33 =>
 ∃ (L12 : Value → Value → World → Prop) (m12 : Value → Value → World → Nat),
 L12 x47 (.int .i64 0) w33 ∧
 ∀ (_k12 : Env) (b3l12 : Value) (v51l12 : Value) (w34 : World), L12 b3l12 v51l12 w34 →
 pN Tryz.prog (oBin .lss 3 (.tmp 51) (.tmp 50) v51l12 x50) w34 fun x52 w35 =>
 pIf x52
 (pN Tryz.prog (oIdx 52 x49 v51l12) w35 fun x53 w36 =>
 pN Tryz.prog (oLoad 58 x53) w36 fun x54 w37 =>
 pN Tryz.prog (oAlloc 58) w37 fun x7 w38 =>
 pN Tryz.prog (oStore 58 x7 x54) w38 fun _ w39 =>
 pN Tryz.prog (oSl 58 x7 none none none) w39 fun x56 w40 =>
 pN Tryz.prog (oBi .append #[47, 47] 47 [false, false] [b3l12, x56]) w40 fun x57 w41 =>
 pN Tryz.prog (oBin .add 3 (.tmp 51) (.const (.int .i64 1)) v51l12 (.int .i64 1)) w41 fun x58 w42 =>
 (L12 x57 x58 w42 ∧ m12 x57 x58 w42 < m12 b3l12 v51l12 w34))
 (I18 b3l12 w35))
 (pN Tryz.prog (oBin .eql 3 (.tmp 40) (.const (.int .i64 2)) x40 (.int .i64 2)) w26 fun x60 w43 =>
 pIf x60
 (pN Tryz.prog (oFld 118 x5 0) w43 fun x62 w44 =>
 pN Tryz.prog (oFld 49 x62 1) w44 fun x63 w45 =>
 pN Tryz.prog (oLoad 9 x63) w45 fun x64 w46 =>
 pN Tryz.prog (oCall 100 [x37, x64]) w46 fun x65 w47 =>
 I18 x65 w47)
 (I18 x37 w43))))) ∧
 ∀ (_j18 : Env) (b3c18 : Value) (w48 : World), I18 b3c18 w48 →
 pN Tryz.prog (oBin .add 3 (.tmp 13) (.const (.int .i64 1)) v13l3 (.int .i64 1)) w48 fun x66 w49 =>
 (L3 b3c18 x66 w49 ∧ m3 b3c18 x66 w49 < m3 b3l3 v13l3 w4))
 (Q b3l3 w5)
theorem snap_write.calls [Pan] {x0 : Value} {w : World} {Q : Value → World → Prop} (h : snap_write.F x0 w Q) : Calls Tryz.prog 60 #[x0] w (retP Q) := calls_lift mixed snap_write.H [x0] Tryz.func60 (by kernel_rfl) (by kernel_rfl) h

def snap_listed.F [Pan] (x0 x1 : Value) (w : World) (Q : Value → World → Prop) : Prop :=
 pN Tryz.prog (oCall 54 [x0, x1]) w fun x14 w1 =>
 pN Tryz.prog (oExt x14 0) w1 fun x15 w2 =>
 pN Tryz.prog (oExt x14 1) w2 fun x16 w3 =>
 pN Tryz.prog (oBin .neq 38 (.tmp 17) (.const (.int .i64 0)) x16 (.int .i64 0)) w3 fun x18 w4 =>
 pIf x18
 (Q (.tuple #[(.slice none 0 0), (.slice none 0 0), (.int .i64 8)]) w4)
 (pN Tryz.prog (oCall 55 [x0, x15]) w4 fun x22 w5 =>
 pN Tryz.prog (oExt x22 0) w5 fun x23 w6 =>
 pN Tryz.prog (oExt x22 1) w6 fun x24 w7 =>
 pN Tryz.prog (oBin .neq 38 (.tmp 25) (.const (.int .i64 0)) x24 (.int .i64 0)) w7 fun x26 w8 =>
 pIf x26
 (Q (.tuple #[(.slice none 0 0), (.slice none 0 0), (.int .i64 1)]) w8)
 (pN Tryz.prog (oCall 101 [x23]) w8 fun x29 w9 =>
 pN Tryz.prog (oExt x29 0) w9 fun x30 w10 =>
 pN Tryz.prog (oExt x29 1) w10 fun x31 w11 =>
 Q (.tuple #[x30, x15, x31]) w11))
theorem snap_listed.calls [Pan] {x0 x1 : Value} {w : World} {Q : Value → World → Prop} (h : snap_listed.F x0 x1 w Q) : Calls Tryz.prog 61 #[x0, x1] w (retP Q) := calls_lift mixed .z [x0, x1] Tryz.func61 (by kernel_rfl) (by kernel_rfl) h

def snap_Needs_c1.H : Hints := { cut := fun  | _ => none, loop := fun  | _ => ([], 0), order := fun | 1 => [(0, 0), (1, 1), (2, 3), (3, 7)] | _ => [] }
def snap_Needs_c1.F [Pan] (x0 x1 : Value) (w : World) (Q : Value → World → Prop) : Prop :=
 pN Tryz.prog (oBox 58 x0) w fun x2 w1 =>
 pN Tryz.prog (oBox 58 x1) w1 fun x3 w2 =>
 pDr w2 fun w3 =>
 pA Tryz.prog (oSl 58 x2 none none none) fun x5 =>
 pA Tryz.prog (oSl 58 x3 none none none) fun x6 =>
 pN Tryz.prog (oCall 68 [x5, x6]) w3 fun x7 w4 =>
 (True) ∧ (Q x7 w4)
theorem snap_Needs_c1.calls [Pan] {x0 x1 : Value} {w : World} {Q : Value → World → Prop} (h : snap_Needs_c1.F x0 x1 w Q) : Calls Tryz.prog 67 #[x0, x1] w (retP Q) := calls_lift mixed snap_Needs_c1.H [x0, x1] Tryz.func67 (by kernel_rfl) (by kernel_rfl) h

def snap_item.F [Pan] (x0 x1 : Value) (w : World) (Q : Value → World → Prop) : Prop :=
 pN Tryz.prog (oBox 118 x1) w fun x3 w1 =>
 pN Tryz.prog (oAlloc 49) w1 fun x4 w2 =>
 pN Tryz.prog (oFld 118 x3 0) w2 fun x9 w3 =>
 pN Tryz.prog (oLoad 49 x9) w3 fun x10 w4 =>
 pN Tryz.prog (oAlloc 49) w4 fun x6 w5 =>
 pN Tryz.prog (oStore 49 x6 x10) w5 fun _ w6 =>
 pN Tryz.prog (oFld 49 x6 2) w6 fun x11 w7 =>
 pN Tryz.prog (oLoad 3 x11) w7 fun x12 w8 =>
 pN Tryz.prog (oBin .neq 3 (.tmp 12) (.const (.int .i64 0)) x12 (.int .i64 0)) w8 fun x13 w9 =>
 pIf x13
 (pN Tryz.prog (oLoad 49 x6) w9 fun x14 w10 =>
 pN Tryz.prog (oStore 49 x4 x14) w10 fun _ w11 =>
 pL Tryz.prog (oRes 49 x4) w11 fun r4 =>
 Q (.tuple #[r4, (.int .i64 0)]) w11)
 (pN Tryz.prog (oFld 118 x3 1) w9 fun x17 w12 =>
 pN Tryz.prog (oLoad 52 x17) w12 fun x18 w13 =>
 pN Tryz.prog (oCall 55 [x0, x18]) w13 fun x19 w14 =>
 pN Tryz.prog (oExt x19 0) w14 fun x20 w15 =>
 pN Tryz.prog (oExt x19 1) w15 fun x21 w16 =>
 pN Tryz.prog (oBin .neq 38 (.tmp 22) (.const (.int .i64 0)) x21 (.int .i64 0)) w16 fun x23 w17 =>
 pIf x23
 (pN Tryz.prog (oBuild 49 []) w17 fun x24 w18 =>
 pN Tryz.prog (oStore 49 x4 x24) w18 fun _ w19 =>
 pL Tryz.prog (oRes 49 x4) w19 fun r4 =>
 Q (.tuple #[r4, (.int .i64 1)]) w19)
 (pN Tryz.prog (oFld 49 x6 5) w17 fun x26 w20 =>
 pN Tryz.prog (oStore 47 x26 x20) w20 fun _ w21 =>
 pN Tryz.prog (oLoad 49 x6) w21 fun x27 w22 =>
 pN Tryz.prog (oStore 49 x4 x27) w22 fun _ w23 =>
 pL Tryz.prog (oRes 49 x4) w23 fun r4 =>
 Q (.tuple #[r4, (.int .i64 0)]) w23))
theorem snap_item.calls [Pan] {x0 x1 : Value} {w : World} {Q : Value → World → Prop} (h : snap_item.F x0 x1 w Q) : Calls Tryz.prog 71 #[x0, x1] w (retP Q) := calls_lift mixed .z [x0, x1] Tryz.func71 (by kernel_rfl) (by kernel_rfl) h

def snap_Find_c1.F [Pan] (x0 x1 : Value) (w : World) (Q : Value → World → Prop) : Prop :=
 pN Tryz.prog (oBox 118 x0) w fun x2 w1 =>
 pN Tryz.prog (oFld 118 x2 0) w1 fun x4 w2 =>
 pN Tryz.prog (oFld 49 x4 0) w2 fun x5 w3 =>
 pN Tryz.prog (oLoad 9 x5) w3 fun x6 w4 =>
 pN Tryz.prog (oLoad 9 x1) w4 fun x7 w5 =>
 pN Tryz.prog (oBin .eql 9 (.tmp 6) (.tmp 7) x6 x7) w5 fun x8 w6 =>
 Q x8 w6
theorem snap_Find_c1.calls [Pan] {x0 x1 : Value} {w : World} {Q : Value → World → Prop} (h : snap_Find_c1.F x0 x1 w Q) : Calls Tryz.prog 73 #[x0, x1] w (retP Q) := calls_lift mixed .z [x0, x1] Tryz.func73 (by kernel_rfl) (by kernel_rfl) h

def snap_byName_api_Item__c1.H : Hints := { cut := fun  | _ => none, loop := fun  | _ => ([], 0), order := fun | 1 => [(0, 0), (1, 1), (3, 3), (4, 11), (2, 27), (5, 31), (6, 63), (7, 127)] | _ => [] }
def snap_byName_api_Item__c1.F [Pan] (x0 x1 x2 : Value) (w : World) (Q : Value → World → Prop) : Prop :=
 pN Tryz.prog (oBox 49 x0) w fun x3 w1 =>
 pN Tryz.prog (oBox 49 x1) w1 fun x4 w2 =>
 pDr w2 fun w3 =>
 pL Tryz.prog (oLoad 115 x2) w3 fun x6 =>
 pL Tryz.prog (oLoad 49 x3) w3 fun x7 =>
 pL Tryz.prog (oLoad 115 x2) w3 fun x9 =>
 pL Tryz.prog (oLoad 49 x4) w3 fun x10 =>
 pN Tryz.prog (oCallV x6 [x7]) w3 fun x8 w4 =>
 ((Sem.run Tryz.prog (oLoad 49 x4) w4 = .ok (.value x10) w4) ∧ (Sem.run Tryz.prog (oLoad 115 x2) w4 = .ok (.value x9) w4) ∧ True) ∧ (pN Tryz.prog (oCallV x9 [x10]) w4 fun x11 w5 =>
 (True) ∧ (pN Tryz.prog (oCall 98 [x8, x11]) w5 fun x12 w6 =>
 (True) ∧ (Q x12 w6)))
theorem snap_byName_api_Item__c1.calls [Pan] {x0 x1 x2 : Value} {w : World} {Q : Value → World → Prop} (h : snap_byName_api_Item__c1.F x0 x1 x2 w Q) : Calls Tryz.prog 97 #[x0, x1, x2] w (retP Q) := calls_lift mixed snap_byName_api_Item__c1.H [x0, x1, x2] Tryz.func97 (by kernel_rfl) (by kernel_rfl) h

def snap_number.F [Pan] (x0 x1 : Value) (w : World) (Q : Value → World → Prop) : Prop :=
 pN Tryz.prog (oConv 3 212 x1) w fun x9 w1 =>
 pN Tryz.prog (oCall 124 [x9]) w1 fun x10 w2 =>
 pN Tryz.prog (oExt x10 0) w2 fun x11 w3 =>
 pN Tryz.prog (oExt x10 1) w3 fun _ w4 =>
 pN Tryz.prog (oBi .append #[47, 47] 47 [false, false] [x0, x11]) w4 fun x15 w5 =>
 Q x15 w5
theorem snap_number.calls [Pan] {x0 x1 : Value} {w : World} {Q : Value → World → Prop} (h : snap_number.F x0 x1 w Q) : Calls Tryz.prog 99 #[x0, x1] w (retP Q) := calls_lift mixed .z [x0, x1] Tryz.func99 (by kernel_rfl) (by kernel_rfl) h

def snap_text.F [Pan] (x0 x1 : Value) (w : World) (Q : Value → World → Prop) : Prop :=
 pN Tryz.prog (oBi .len #[9] 3 [false] [x1]) w fun x7 w1 =>
 pN Tryz.prog (oCall 99 [x0, x7]) w1 fun x8 w2 =>
 pN Tryz.prog (oBi .append #[47, 9] 47 [false, false] [x8, x1]) w2 fun x10 w3 =>
 Q x10 w3
theorem snap_text.calls [Pan] {x0 x1 : Value} {w : World} {Q : Value → World → Prop} (h : snap_text.F x0 x1 w Q) : Calls Tryz.prog 100 #[x0, x1] w (retP Q) := calls_lift mixed .z [x0, x1] Tryz.func100 (by kernel_rfl) (by kernel_rfl) h

def snap_read.H : Hints := { cut := fun  | _ => none, loop := fun | 4 => ([12], 549755809824) | _ => ([], 0), order := fun | 6 => [(0, 0), (1, 1), (2, 3), (3, 7), (4, 15), (5, 31), (6, 63), (7, 127), (8, 255), (9, 511), (10, 1023), (11, 2047), (12, 4095), (13, 8191), (14, 16383), (15, 32767), (16, 65535), (17, 131071)] | _ => [] }
noncomputable def snap_read.c : Code := match Tryz.f101.body with | some c => c | none => .skip
def snap_read.F [Pan] (x0 : Value) (w : World) (Q : Value → World → Prop) : Prop :=
 pN Tryz.prog (oAlloc 116) w fun x2 w1 =>
 pN Tryz.prog (oAlloc 38) w1 fun x3 w2 =>
 pN Tryz.prog (oFn (.func 129) [] [x2, x3]) w2 fun x6 w3 =>
 pDf Tryz.prog (oDf x6 []) w3 fun d =>
 ∃ Z : Pan, (∀ (ch : List PanicEntry) (w4 : World), Z.z ch w4 → dE Tryz.prog d (.panicking ch) w4 fun w5 =>
 pL Tryz.prog (oRes 116 x2) w5 fun r2 =>
 pL Tryz.prog (oRes 38 x3) w5 fun r3 =>
 Q (.tuple #[r2, r3]) w5) ∧
 (pN Tryz.prog (oBuild 224 [(0, x0)]) w3 fun x8 w6 =>
 pN Tryz.prog (oBox 224 x8) w6 fun x9 w7 =>
 pN Tryz.prog (oCall 130 [x9]) w7 fun x11 w8 =>
 ∃ (L4 : Value → World → Prop) (m4 : Value → World → Nat),
 L4 (.int .i64 0) w8 ∧
 ∀ (_k4 : Env) (v12l4 : Value) (w9 : World), L4 v12l4 w9 →
 pN Tryz.prog (oBin .lss 3 (.tmp 12) (.tmp 11) v12l4 x11) w9 fun x13 w10 =>
 pIf x13
 (pN Tryz.prog (oCall 131 [x9]) w10 fun x15 w11 =>
 pN Tryz.prog (oAlloc 118) w11 fun x5 w12 =>
 pN Tryz.prog (oStore 118 x5 x15) w12 fun _ w13 =>
 pDr w13 fun w14 =>
 pL Tryz.prog (oLoad 116 x2) w14 fun x16 =>
 pA Tryz.prog (oBi .len #[116] 3 [false] [x16]) fun x17 =>
 pA Tryz.prog (oBin .eql 3 (.tmp 17) (.const (.int .i64 0)) x17 (.int .i64 0)) fun x18 =>
 gA (gB x18 false) (pL Tryz.prog (oLoad 116 x2) w14) fun x20 =>
 gA (gB x18 false) (pL Tryz.prog (oLoad 116 x2) w14) fun x21 =>
 gA (gB x18 false) (pA Tryz.prog (oBi .len #[116] 3 [false] [x21])) fun x22 =>
 gA (gB x18 false) (pA Tryz.prog (oBin .sub 3 (.tmp 22) (.const (.int .i64 1)) x22 (.int .i64 1))) fun x23 =>
 gA (gB x18 false) (pA Tryz.prog (oIdx 116 x20 x23)) fun x24 =>
 gA (gB x18 false) (pA Tryz.prog (oFld 118 x24 0)) fun x25 =>
 gA (gB x18 false) (pA Tryz.prog (oFld 49 x25 0)) fun x26 =>
 gA (gB x18 false) (pL Tryz.prog (oLoad 9 x26) w14) fun x27 =>
 gA (gB x18 false) (pA Tryz.prog (oFld 118 x5 0)) fun x28 =>
 gA (gB x18 false) (pA Tryz.prog (oFld 49 x28 0)) fun x29 =>
 gA (gB x18 false) (pL Tryz.prog (oLoad 9 x29) w14) fun x30 =>
 gA (gB x18 false) (pA Tryz.prog (oBin .lss 9 (.tmp 27) (.tmp 30) x27 x30)) fun x31 =>
 pA Tryz.prog (oPick x18 (.bool true) x31) fun x32 =>
 pN Tryz.prog (oCall 132 [x32]) w14 fun _ w15 =>
 (True) ∧ (pN Tryz.prog (oLoad 116 x2) w15 fun x34 w16 =>
 pN Tryz.prog (oLoad 118 x5) w16 fun x35 w17 =>
 pN Tryz.prog (oBs 116 1 [(0, x35)]) w17 fun x36 w18 =>
 pN Tryz.prog (oBi .append #[116, 116] 116 [false, false] [x34, x36]) w18 fun x37 w19 =>
 pN Tryz.prog (oStore 116 x2 x37) w19 fun _ w20 =>
 pN Tryz.prog (oBin .add 3 (.tmp 12) (.const (.int .i64 1)) v12l4 (.int .i64 1)) w20 fun x38 w21 =>
 (L4 x38 w21 ∧ m4 x38 w21 < m4 v12l4 w9)))
 (pN Tryz.prog (oNil x9) w10 fun x40 w22 =>
 pN Tryz.prog (oFld 224 x40 0) w22 fun x41 w23 =>
 pN Tryz.prog (oLoad 47 x41) w23 fun x42 w24 =>
 pN Tryz.prog (oBi .len #[47] 3 [false] [x42]) w24 fun x43 w25 =>
 pN Tryz.prog (oBin .eql 3 (.tmp 43) (.const (.int .i64 0)) x43 (.int .i64 0)) w25 fun x44 w26 =>
 pN Tryz.prog (oCall 132 [x44]) w26 fun _ w27 =>
 pN Tryz.prog (oLoad 116 x2) w27 fun x46 w28 =>
 pN Tryz.prog (oStore 116 x2 x46) w28 fun _ w29 =>
 pN Tryz.prog (oStore 38 x3 (.int .i64 0)) w29 fun _ w30 =>
 dE Tryz.prog d .returning w30 fun w31 =>
 pL Tryz.prog (oRes 116 x2) w31 fun r2 =>
 pL Tryz.prog (oRes 38 x3) w31 fun r3 =>
 Q (.tuple #[r2, r3]) w31))
theorem snap_read.eq [Pan] (x0 : Value) (w : World) (Q : Value → World → Prop) : cwD Tryz.prog snap_read.H Tryz.f101.results.toList Q snap_read.c (argsE [x0]) w = snap_read.F x0 w Q := by kernel_rfl
theorem snap_read.calls [Pan] {x0 : Value} {w : World} {Q : Value → World → Prop} (h : snap_read.F x0 w Q) : Calls Tryz.prog 101 #[x0] w (retP Q) :=
  calls_of_cwD (H := snap_read.H) (c := snap_read.c) (args := [x0]) mixed 4 Tryz.func101 (by kernel_rfl) (by kernel_rfl) (by kernel_rfl) (Nat.le_of_ble_eq_true (by kernel_rfl)) ((snap_read.eq x0 w Q).mpr h)

def snap_read_c1.H : Hints := { cut := fun  | _ => none, loop := fun  | _ => ([], 0), order := fun  | _ => [] }
noncomputable def snap_read_c1.c : Code := match Tryz.f129.body with | some c => c | none => .skip
noncomputable def snap_read_c1.d (rv : Value) : Code := recCode 0 0 rv snap_read_c1.c
def snap_read_c1.F (rv : Value) (x0 : Value) (x1 : Value) (w : World) (Q : Value → World → Prop) : Prop :=
 pN Tryz.prog (oBin .eql 20 (.tmp 5) (.const .nilIface) rv .nilIface) w fun x7 w1 =>
 pIf x7
 (Q (.tuple #[]) w1)
 (pN Tryz.prog (oAssert rv 20 221 true) w1 fun x8 w2 =>
 pN Tryz.prog (oExt x8 1) w2 fun x9 w3 =>
 pN Tryz.prog (oExt x8 0) w3 fun x10 w4 =>
 pIf x9
 (pN Tryz.prog (oAlloc 221) w4 fun x3 w5 =>
 pN Tryz.prog (oStore 221 x3 x10) w5 fun _ w6 =>
 pN Tryz.prog (oStore 116 x0 (.slice none 0 0)) w6 fun _ w7 =>
 pN Tryz.prog (oStore 38 x1 (.int .i64 2)) w7 fun _ w8 =>
 Q (.tuple #[]) w8)
 (pN Tryz.prog (oPanic rv) w4 fun _ w9 =>
 Q (.tuple #[]) w9))
theorem snap_read_c1.eq (rv : Value) (x0 : Value) (x1 : Value) (w : World) (Q : Value → World → Prop) : cw Tryz.prog snap_read_c1.H (snap_read_c1.d rv) (endQ Tryz.prog Tryz.f129.results.toList Q) (argsE [x0, x1]) w = snap_read_c1.F rv x0 x1 w Q := by kernel_rfl
theorem snap_read_c1.panics {rv : Value} {older : List PanicEntry} {x0 : Value} {x1 : Value} {w : World} {Q : Value → World → Prop} (h : snap_read_c1.F rv x0 x1 w Q) : CallsD Tryz.prog 129 #[x0, x1] (.panicking ({ v := rv, recovered := false } :: older)) w fun e u w => u = .panicking ({ v := rv, recovered := true } :: older) ∧ ∃ r, e = .returned r ∧ Q r w :=
  callsD_of_cw1 (H := snap_read_c1.H) (args := [x0, x1]) mixed (Or.inl ⟨older, rfl, rfl⟩) Tryz.func129 (show Tryz.f129.body = some (.seq _ _) by kernel_rfl) (by kernel_rfl) (by kernel_rfl) (by kernel_rfl) (Nat.le_of_ble_eq_true (by kernel_rfl)) ((snap_read_c1.eq rv x0 x1 w Q).mpr h)
theorem snap_read_c1.idles {x0 : Value} {x1 : Value} {w : World} {Q : Value → World → Prop} (h : snap_read_c1.F .nilIface x0 x1 w Q) : CallsD Tryz.prog 129 #[x0, x1] .returning w fun e u w => u = .returning ∧ ∃ r, e = .returned r ∧ Q r w :=
  callsD_of_cw1 (H := snap_read_c1.H) (args := [x0, x1]) mixed (Or.inr ⟨rfl, rfl, rfl⟩) Tryz.func129 (show Tryz.f129.body = some (.seq _ _) by kernel_rfl) (by kernel_rfl) (by kernel_rfl) (by kernel_rfl) (Nat.le_of_ble_eq_true (by kernel_rfl)) ((snap_read_c1.eq .nilIface x0 x1 w Q).mpr h)

def snap_reader_number.F [Pan] (x0 : Value) (w : World) (Q : Value → World → Prop) : Prop :=
 pN Tryz.prog (oNil x0) w fun x8 w1 =>
 pN Tryz.prog (oFld 224 x8 0) w1 fun x9 w2 =>
 pN Tryz.prog (oLoad 47 x9) w2 fun x10 w3 =>
 pN Tryz.prog (oCall 179 [x10]) w3 fun x11 w4 =>
 pN Tryz.prog (oExt x11 0) w4 fun x12 w5 =>
 pN Tryz.prog (oExt x11 1) w5 fun x13 w6 =>
 pN Tryz.prog (oExt x11 2) w6 fun x14 w7 =>
 pN Tryz.prog (oBin .eql 38 (.tmp 15) (.const (.int .i64 0)) x14 (.int .i64 0)) w7 fun x16 w8 =>
 pN Tryz.prog (oCall 132 [x16]) w8 fun _ w9 =>
 pN Tryz.prog (oNil x0) w9 fun x20 w10 =>
 pN Tryz.prog (oFld 224 x20 0) w10 fun x21 w11 =>
 pN Tryz.prog (oLoad 47 x21) w11 fun x22 w12 =>
 pN Tryz.prog (oSl 47 x22 (some x13) none none) w12 fun x24 w13 =>
 pN Tryz.prog (oNil x0) w13 fun x25 w14 =>
 pN Tryz.prog (oFld 224 x25 0) w14 fun x26 w15 =>
 pN Tryz.prog (oStore 47 x26 x24) w15 fun _ w16 =>
 pN Tryz.prog (oConv 212 3 x12) w16 fun x28 w17 =>
 Q x28 w17
theorem snap_reader_number.calls [Pan] {x0 : Value} {w : World} {Q : Value → World → Prop} (h : snap_reader_number.F x0 w Q) : Calls Tryz.prog 130 #[x0] w (retP Q) := calls_lift mixed .z [x0] Tryz.func130 (by kernel_rfl) (by kernel_rfl) h

def snap_reader_entry.H : Hints := { cut := fun | 14 => some ([], 1125899873288192) | _ => none, loop := fun | 9 => ([32], 17587891077120) | _ => ([], 0), order := fun | 10 => [(0, 0), (1, 1), (2, 3), (3, 7), (4, 15), (5, 31), (6, 63), (7, 127), (8, 255), (9, 511)] | _ => [] }
def snap_reader_entry.F [Pan] (x0 : Value) (w : World) (Q : Value → World → Prop) : Prop :=
 pN Tryz.prog (oAlloc 118) w fun x2 w1 =>
 pN Tryz.prog (oAlloc 118) w1 fun x3 w2 =>
 pN Tryz.prog (oCall 180 [x0, (.int .i64 1)]) w2 fun x7 w3 =>
 pN Tryz.prog (oIdx 47 x7 (.int .i64 0)) w3 fun x8 w4 =>
 pN Tryz.prog (oLoad 5 x8) w4 fun x9 w5 =>
 pN Tryz.prog (oConv 5 3 x9) w5 fun x10 w6 =>
 pN Tryz.prog (oFld 118 x3 0) w6 fun x11 w7 =>
 pN Tryz.prog (oFld 49 x11 2) w7 fun x12 w8 =>
 pN Tryz.prog (oStore 3 x12 x10) w8 fun _ w9 =>
 pN Tryz.prog (oCall 130 [x0]) w9 fun x14 w10 =>
 pN Tryz.prog (oFld 118 x3 0) w10 fun x15 w11 =>
 pN Tryz.prog (oFld 49 x15 3) w11 fun x16 w12 =>
 pN Tryz.prog (oStore 3 x16 x14) w12 fun _ w13 =>
 pN Tryz.prog (oCall 130 [x0]) w13 fun x18 w14 =>
 pN Tryz.prog (oFld 118 x3 0) w14 fun x19 w15 =>
 pN Tryz.prog (oFld 49 x19 4) w15 fun x20 w16 =>
 pN Tryz.prog (oStore 3 x20 x18) w16 fun _ w17 =>
 pN Tryz.prog (oCall 181 [x0]) w17 fun x22 w18 =>
 pN Tryz.prog (oFld 118 x3 0) w18 fun x23 w19 =>
 pN Tryz.prog (oFld 49 x23 0) w19 fun x24 w20 =>
 pN Tryz.prog (oStore 9 x24 x22) w20 fun _ w21 =>
 ∃ I14 : World → Prop,
 (pN Tryz.prog (oFld 118 x3 0) w21 fun x25 w22 =>
 pN Tryz.prog (oFld 49 x25 2) w22 fun x26 w23 =>
 pN Tryz.prog (oLoad 3 x26) w23 fun x27 w24 =>
 pN Tryz.prog (oBin .eql 3 (.tmp 27) (.const (.int .i64 0)) x27 (.int .i64 0)) w24 fun x29 w25 =>
 pIf x29
 (pN Tryz.prog (oCall 130 [x0]) w25 fun x31 w26 =>
 ∃ (L9 : Value → World → Prop) (m9 : Value → World → Nat),
 L9 (.int .i64 0) w26 ∧
 ∀ (_k9 : Env) (v32l9 : Value) (w27 : World), L9 v32l9 w27 →
 pN Tryz.prog (oBin .lss 3 (.tmp 32) (.tmp 31) v32l9 x31) w27 fun x33 w28 =>
 pIf x33
 (pDr w28 fun w29 =>
 pA Tryz.prog (oFld 118 x3 1) fun x34 =>
 pL Tryz.prog (oLoad 52 x34) w29 fun x35 =>
 pN Tryz.prog (oCall 180 [x0, (.int .i64 32)]) w29 fun x37 w30 =>
 ((Sem.run Tryz.prog (oLoad 52 x34) w30 = .ok (.value x35) w30) ∧ True) ∧ (pN Tryz.prog (oV (Instr.arrayAt 58 x37)) w30 fun x38 w31 =>
 ((Sem.run Tryz.prog (oLoad 52 x34) w31 = .ok (.value x35) w31) ∧ True) ∧ (pL Tryz.prog (oLoad 58 x38) w31 fun x39 =>
 pN Tryz.prog (oBs 52 1 [(0, x39)]) w31 fun x40 w32 =>
 ((Sem.run Tryz.prog (oLoad 52 x34) w32 = .ok (.value x35) w32) ∧ True) ∧ (pN Tryz.prog (oBi .append #[52, 52] 52 [false, false] [x35, x40]) w32 fun x41 w33 =>
 (True) ∧ (pA Tryz.prog (oFld 118 x3 1) fun x42 =>
 pN Tryz.prog (oStore 52 x42 x41) w33 fun _ w34 =>
 (True) ∧ (pN Tryz.prog (oBin .add 3 (.tmp 32) (.const (.int .i64 1)) v32l9 (.int .i64 1)) w34 fun x43 w35 =>
 (L9 x43 w35 ∧ m9 x43 w35 < m9 v32l9 w27)))))))
 (I14 w28))
 (pN Tryz.prog (oBin .eql 3 (.tmp 27) (.const (.int .i64 2)) x27 (.int .i64 2)) w25 fun x45 w36 =>
 pIf x45
 (pN Tryz.prog (oCall 181 [x0]) w36 fun x47 w37 =>
 pN Tryz.prog (oFld 118 x3 0) w37 fun x48 w38 =>
 pN Tryz.prog (oFld 49 x48 1) w38 fun x49 w39 =>
 pN Tryz.prog (oStore 9 x49 x47) w39 fun _ w40 =>
 I14 w40)
 (I14 w36))) ∧
 ∀ (_j14 : Env) (w41 : World), I14 w41 →
 pN Tryz.prog (oFld 118 x3 0) w41 fun x51 w42 =>
 pN Tryz.prog (oLoad 49 x51) w42 fun x52 w43 =>
 pN Tryz.prog (oCall 49 [x52]) w43 fun x53 w44 =>
 pN Tryz.prog (oExt x53 0) w44 fun _ w45 =>
 pN Tryz.prog (oExt x53 1) w45 fun x55 w46 =>
 pN Tryz.prog (oBin .eql 38 (.tmp 56) (.const (.int .i64 0)) x55 (.int .i64 0)) w46 fun x57 w47 =>
 pN Tryz.prog (oCall 132 [x57]) w47 fun _ w48 =>
 pN Tryz.prog (oLoad 118 x3) w48 fun x59 w49 =>
 pN Tryz.prog (oStore 118 x2 x59) w49 fun _ w50 =>
 pL Tryz.prog (oRes 118 x2) w50 fun r2 =>
 Q r2 w50
theorem snap_reader_entry.calls [Pan] {x0 : Value} {w : World} {Q : Value → World → Prop} (h : snap_reader_entry.F x0 w Q) : Calls Tryz.prog 131 #[x0] w (retP Q) := calls_lift mixed snap_reader_entry.H [x0] Tryz.func131 (by kernel_rfl) (by kernel_rfl) h

def snap_form.F [Pan] (x0 : Value) (w : World) (Q : Value → World → Prop) : Prop :=
 pN Tryz.prog (oUn .not x0) w fun x3 w1 =>
 pIf x3
 (pN Tryz.prog (oBuild 221 []) w1 fun x4 w2 =>
 pN Tryz.prog (oIface 221 x4) w2 fun x5 w3 =>
 pN Tryz.prog (oPanic x5) w3 fun _ w4 =>
 Q (.tuple #[]) w4)
 (Q (.tuple #[]) w1)
theorem snap_form.calls [Pan] {x0 : Value} {w : World} {Q : Value → World → Prop} (h : snap_form.F x0 w Q) : Calls Tryz.prog 132 #[x0] w (retP Q) := calls_lift mixed .z [x0] Tryz.func132 (by kernel_rfl) (by kernel_rfl) h

def snap_reader_take.F [Pan] (x0 x1 : Value) (w : World) (Q : Value → World → Prop) : Prop :=
 pN Tryz.prog (oNil x0) w fun x8 w1 =>
 pN Tryz.prog (oFld 224 x8 0) w1 fun x9 w2 =>
 pN Tryz.prog (oLoad 47 x9) w2 fun x10 w3 =>
 pN Tryz.prog (oBi .len #[47] 3 [false] [x10]) w3 fun x11 w4 =>
 pN Tryz.prog (oBin .leq 3 (.tmp 6) (.tmp 11) x1 x11) w4 fun x12 w5 =>
 pN Tryz.prog (oCall 132 [x12]) w5 fun _ w6 =>
 pN Tryz.prog (oNil x0) w6 fun x15 w7 =>
 pN Tryz.prog (oFld 224 x15 0) w7 fun x16 w8 =>
 pN Tryz.prog (oLoad 47 x16) w8 fun x17 w9 =>
 pN Tryz.prog (oSl 47 x17 none (some x1) none) w9 fun x19 w10 =>
 pN Tryz.prog (oNil x0) w10 fun x22 w11 =>
 pN Tryz.prog (oFld 224 x22 0) w11 fun x23 w12 =>
 pN Tryz.prog (oLoad 47 x23) w12 fun x24 w13 =>
 pN Tryz.prog (oSl 47 x24 (some x1) none none) w13 fun x26 w14 =>
 pN Tryz.prog (oNil x0) w14 fun x27 w15 =>
 pN Tryz.prog (oFld 224 x27 0) w15 fun x28 w16 =>
 pN Tryz.prog (oStore 47 x28 x26) w16 fun _ w17 =>
 Q x19 w17
theorem snap_reader_take.calls [Pan] {x0 x1 : Value} {w : World} {Q : Value → World → Prop} (h : snap_reader_take.F x0 x1 w Q) : Calls Tryz.prog 180 #[x0, x1] w (retP Q) := calls_lift mixed .z [x0, x1] Tryz.func180 (by kernel_rfl) (by kernel_rfl) h

def snap_reader_text.F [Pan] (x0 : Value) (w : World) (Q : Value → World → Prop) : Prop :=
 pN Tryz.prog (oCall 130 [x0]) w fun x5 w1 =>
 pN Tryz.prog (oCall 180 [x0, x5]) w1 fun x6 w2 =>
 pN Tryz.prog (oConv 47 9 x6) w2 fun x7 w3 =>
 Q x7 w3
theorem snap_reader_text.calls [Pan] {x0 : Value} {w : World} {Q : Value → World → Prop} (h : snap_reader_text.F x0 w Q) : Calls Tryz.prog 181 #[x0] w (retP Q) := calls_lift mixed .z [x0] Tryz.func181 (by kernel_rfl) (by kernel_rfl) h

end Go.Proofs.YtikmogfhhggafaaGreatDoor

namespace Go.Proofs.YtikmogfhhggafaaGreatDoor
open Go
instance ar_id : Ar Tryz.prog 58 32 := ⟨_, Tryz.underlying58, Tryz.sizeOf5, Tryz.isAgg5⟩
section
variable [Pan] {P : Program} {E w : World} {K : Value → World → Prop} {J : Value → Prop} {t : TypeId} {n b : Nat}
theorem run_asla [h : Ar P t n] (h0 : 0 < n) (w : World) : (oSl t (.pointer (some ⟨b, 0, none⟩)) none none none).run P w = .ok (.value (.slice (some ⟨b, 0, none⟩) n n)) w := by
  obtain ⟨e, ht, hs, _⟩ := h.ex
  refine run_oV_ok ?_
  have h2 : ¬ n = 0 := by omega
  simp [Instr.sliceAt, run_underlying ht, Instr.sureAddr, Instr.sliceBounds, Instr.sliceBound, asIntOf, hs, h2, Addr.add_lit]
theorem pN_asla [h : Ar P t n] (h0 : 0 < n) (hk : K (.slice (some ⟨b, 0, none⟩) n n) w) : pN P (oSl t (.pointer (some ⟨b, 0, none⟩)) none none none) w K := pN_of (run_asla h0 w) hk
theorem rd_cel {e : TypeId} {l : List UInt8} (hl : l.length = n) : RdP cd_uint8 (cel b ⟨e, bvs l⟩) ⟨some ⟨b, 0, none⟩, n⟩ l := by
  subst hl
  refine ⟨fun w ⟨h1, hA, hh⟩ => ⟨by rw [cd_uint8.flat_len], some ⟨b, 0, none⟩, l.length, rfl, Nat.le_refl _, fun h => (by cases h), fun a ha j u hu => ?_⟩⟩
  cases ha
  have hb := hh b _ hA
  rw [cd_uint8.flat_single bv (fun _ => rfl)] at hu
  have := cell_of_blk hb j
  rw [Addr.add_lit, Nat.zero_add, this]
  rw [List.getElem?_toArray]
  exact hu
end
abbrev EE := T_api_Item × (Sl × List I32)
theorem cdE_one (b : EE) (u : Value) (hu : u ∈ b.1.enc ++ [.slice b.2.1.a b.2.2.length b.2.1.c]) : u.oneCell' = true := by
  simp only [T_api_Item.enc, List.cons_append, List.nil_append, List.append_assoc, List.mem_cons, List.not_mem_nil, or_false] at hu
  rcases hu with rfl | rfl | rfl | rfl | rfl | rfl | rfl <;> rfl
def cdE : Cd EE := { e := 118, size := 7, bytes := 104, zero := (T_api_Item.zero, (⟨none, 0⟩, [])), enc := fun p => p.1.enc ++ [.slice p.2.1.a p.2.2.length p.2.1.c], len := fun _ => rfl, one := cdE_one }
instance bt_E : Bt cdE 104 := ⟨rfl⟩
instance row_E : Row Tryz.prog 116 EE cdE := ⟨⟨.agg #[.string ⟨#[]⟩, .string ⟨#[]⟩, .int .i64 0, .int .i64 0, .int .i64 0, .slice none 0 0, .slice none 0 0], ⟨Tryz.underlying116, info_parts (by kernel_rfl), rfl, by decide⟩, rfl⟩, by decide⟩
instance aps : ApS Tryz.prog 47 9 cd_uint8 := ⟨Tryz.underlying47, Tryz.underlying9, info_parts (by kernel_rfl), rfl, fun _ => rfl⟩
def enOf (p : EE) : L.En := ⟨p.1.Kind, p.1.Mode, p.1.Time, p.1.Name, p.1.Link, p.2.2⟩
namespace L
theorem rows_take {es : List En} {k : Nat} {e : En} (h : es[k]? = some e) : rows (es.take (k + 1)) = rows (es.take k) ++ row e := by
  unfold rows
  rw [List.take_add_one, h]
  simp
theorem rows_le {es : List En} (k : Nat) : (rows (es.take k)).length ≤ (rows es).length := by
  have : rows es = rows (es.take k) ++ rows (es.drop k) := by
    unfold rows
    rw [← List.flatten_append, ← List.map_append, List.take_append_drop]
  rw [this, List.length_append]; omega
theorem flat_take {l : List I32} {k : Nat} {i : I32} (h : l[k]? = some i) : flat (l.take (k + 1)) = flat (l.take k) ++ i.l := by
  unfold flat
  rw [List.take_add_one, h]
  simp
theorem flat_len : ∀ l : List I32, (flat l).length = 32 * l.length
  | [] => rfl
  | i :: l => by
    have h := flat_len l
    have e : flat (i :: l) = i.l ++ flat l := by unfold flat; rw [List.map_cons, List.flatten_cons]
    rw [e, List.length_append, h, i.h, List.length_cons]; omega
theorem flat_nil : flat [] = [] := rfl
theorem putl (v : Nat) (h : v < 9223372036854775808) : 1 ≤ (C.put v).length ∧ (C.put v).length ≤ 9 := by
  have := C.nsize_pos h
  rw [C.put_len]; omega
end L
attribute [local irreducible] oMv oV oU oCall oCallV oBi oBin oUn oLoad oStore oNil oFld oField oIdx oIndex oPick oAlloc oBox oBuild oBs oConv oMk oSl oExt oFn oIface oMap oLook oMapUp oRange oNext oEntry oInv oAssert oPanic oRes pN pA pL pDr pIf gA pGd Calls C.put L.flat
section
variable [Pan] {E w W : World} {K Q : Value → World → Prop} {LL M N N' : List HA} {l r : List UInt8} {s s2 : Sl} {es : List EE}

theorem snum_ok (hG : GloS W) (v : Int) (h0 : 0 ≤ v) (h1 : v < 9223372036854775808) (hS : Sat E w LL) [hg : Has (old W) LL N'] [hf : Fnd (rows cd_uint8 s) LL l M] (hb : l.length ≤ 140737488355319)
    (hQ : ∀ s2 w, Sat E w (rows cd_uint8 s2 (l ++ C.put v.toNat) :: M) → Q (.slice s2.a (l ++ C.put v.toNat).length s2.c) w) :
    Calls Tryz.prog 99 #[.slice s.a l.length s.c, .int .i64 v] w (retP Q) := by
  refine snap_number.calls ?_
  unfold snap_number.F
  obtain ⟨v, rfl⟩ := Int.eq_ofNat_of_zero_le h0
  rw [Int.toNat_natCast] at hQ
  have hp := L.putl v (by omega)
  repeat' (first | (refine pc_varint_Put (VPut_ok hG v (by omega) hS ?_); clear hS; intro s1 w hS) | (refine pN_app hS (by first | rfl | omega | simpa only [go_sem] using True.intro | (simp only [go_sem]; omega)) (by first | rfl | omega | simpa only [go_sem] using True.intro | (simp only [go_sem]; omega)) (by first | omega | (simp only [go_sem]; omega)) ?_; clear hS; intro s w hS) | refine pN_v (hk := ?_) | fail)
  exact hQ _ _ hS.to

theorem stext_ok (hG : GloS W) (t : List UInt8) (hS : Sat E w LL) [hg : Has (old W) LL N'] [hf : Fnd (rows cd_uint8 s) LL l M] [hg2 : Has (old W) M N] (hb : l.length + t.length ≤ 140737488355300)
    (hQ : ∀ s2 w, Sat E w (rows cd_uint8 s2 (l ++ L.text t) :: M) → Q (.slice s2.a (l ++ L.text t).length s2.c) w) :
    Calls Tryz.prog 100 #[.slice s.a l.length s.c, .string ⟨t.toArray⟩] w (retP Q) := by
  refine snap_text.calls ?_
  unfold snap_text.F
  have hp := L.putl t.length (by omega)
  have hlt := @List.length_append _ l (C.put t.length)
  rw [L.text, ← List.append_assoc] at hQ
  repeat' (first | refine pN_slen ?_ | (refine pc_snap_number (snum_ok hG _ (by omega) (by omega) hS (by omega) ?_); clear hS; intro s1 w hS; rw [Int.toNat_natCast] at hS ⊢) | (refine pN_apst hS rfl (by rw [List.length_append]; omega) ?_; clear hS; intro s2 w hS) | fail)
  exact hQ _ _ hS.to

set_option maxHeartbeats 4000000 in
theorem swrite_ok (hG : GloS W) (hS : Sat E w M) [hg : Has (old W) M N] [hr : Rds cdE M s es] (hd : ∀ p ∈ es, Rds (cdI 58) M p.2.1 p.2.2)
    (hf : ∀ p ∈ es, 0 ≤ p.1.Mode ∧ p.1.Mode < 9223372036854775808 ∧ 0 ≤ p.1.Time ∧ p.1.Time < 9223372036854775808) (hel : es.length ≤ 1099511627776) (hb : (L.list (es.map enOf)).length ≤ 140737488355000)
    (hQ : ∀ s2 w, Sat E w (rows cd_uint8 s2 (L.list (es.map enOf)) :: M) → Q (.slice s2.a (L.list (es.map enOf)).length s2.c) w) :
    Calls Tryz.prog 60 #[.slice s.a es.length s.c] w (retP Q) := by
  refine snap_write.calls ?_
  unfold snap_write.F
  have hes : es.length = (es.map enOf).length := (List.length_map ..).symm
  have hrl := L.rows_le (es := es.map enOf)
  have hls : L.list (es.map enOf) = C.put es.length ++ L.rows (es.map enOf) := by rw [L.list, List.length_map]
  rw [hls] at hb hQ
  rw [List.length_append] at hb
  have h0 : Sat E w (rows cd_uint8 ⟨none, 0⟩ [] :: M) := hS.nil cd_uint8.e cd_uint8.size
  clear hS
  have hS := h0
  clear h0
  have e0 : (.slice none 0 0 : Value) = .slice (⟨none, 0⟩ : Sl).a ([] : List UInt8).length (⟨none, 0⟩ : Sl).c := rfl
  rw [e0]
  repeat' (first | (refine pc_snap_number (snum_ok hG _ (by omega) (by omega) hS (by decide) ?_); clear hS; intro s1 w hS; rw [List.nil_append, Int.toNat_natCast] at hS ⊢) | refine pN_v (hk := ?_) | fail)
  refine ⟨fun v v' w => ∃ (k : Nat) (so : Sl), k ≤ es.length ∧ v = .slice so.a (C.put es.length ++ L.rows ((es.map enOf).take k)).length so.c ∧ v' = .int .i64 k ∧ Sat E w (rows cd_uint8 so (C.put es.length ++ L.rows ((es.map enOf).take k)) :: M), fun _ v _ => es.length - (RowKit.intOf v).toNat,
    ⟨0, s1, by omega, by rw [List.take_zero]; show _ = Value.slice s1.a (C.put es.length ++ []).length s1.c; rw [List.append_nil], rfl, by rw [List.take_zero]; show Sat E w (rows cd_uint8 s1 (C.put es.length ++ []) :: M); rw [List.append_nil]; exact hS⟩, ?_⟩
  clear hS
  rintro _ _ _ w ⟨k, so, hk, rfl, rfl, hS⟩
  by_cases hlt : k < es.length
  · obtain ⟨p, hp⟩ : ∃ p, es[k]? = some p := ⟨es[k], by simp [hlt]⟩
    have hm : p ∈ es := List.mem_of_getElem? hp
    obtain ⟨x, sx, li⟩ := p
    obtain ⟨f1, f2, f3, f4⟩ := hf _ hm
    have hrd := hd _ hm
    dsimp only at f1 f2 f3 f4 hrd
    have hrk := L.rows_take (es := es.map enOf) (k := k) (e := enOf (x, sx, li)) (by rw [List.getElem?_map, hp]; rfl)
    have hr1 := hrl (k + 1)
    rw [hrk, List.length_append] at hr1
    have hrow : L.row (enOf (x, sx, li)) = byteOf x.Kind :: (C.put x.Mode.toNat ++ (C.put x.Time.toNat ++ (L.text x.Name ++ L.tail (enOf (x, sx, li))))) := rfl
    rw [hrow] at hr1 hrk
    have htx : L.text x.Name = C.put x.Name.length ++ x.Name := rfl
    have htxl : (L.text x.Name).length = (C.put x.Name.length).length + x.Name.length := by rw [htx, List.length_append]
    have hput : C.put es.length ++ L.rows ((es.map enOf).take (k + 1)) = (C.put es.length ++ L.rows ((es.map enOf).take k)) ++ (byteOf x.Kind :: (C.put x.Mode.toNat ++ (C.put x.Time.toNat ++ (L.text x.Name ++ L.tail (enOf (x, sx, li)))))) := by rw [hrk, List.append_assoc]
    have hbl : (C.put es.length ++ L.rows ((es.map enOf).take k)).length = (C.put es.length).length + (L.rows ((es.map enOf).take k)).length := List.length_append
    simp only [List.length_cons, List.length_append] at hr1
    generalize C.put es.length ++ L.rows ((es.map enOf).take k) = pr at *
    repeat' (first | (refine pN_lss_s ?_ ?_ <;> intro hc <;> try (exfalso; omega)) | refine pIf_t ?_ | fail)
    refine ⟨fun v w => ∃ so, v = .slice so.a (pr ++ (byteOf x.Kind :: (C.put x.Mode.toNat ++ (C.put x.Time.toNat ++ (L.text x.Name ++ L.tail (enOf (x, sx, li))))))).length so.c ∧ Sat E w (rows cd_uint8 so (pr ++ (byteOf x.Kind :: (C.put x.Mode.toNat ++ (C.put x.Time.toNat ++ (L.text x.Name ++ L.tail (enOf (x, sx, li))))))) :: M), ?_, ?_⟩
    · repeat' (first | refine pN_tob ?_ | refine pN_l hS (by first | rfl | assumption) ?_ | refine pL_l hS (by first | rfl | assumption) ?_ | refine pN_ld_at ha hS (by rfl) ?_ | (refine pN_sa hS (by rfl) (by rfl) (by rfl) ?_; clear hS; intro w hS; try dsimp only at hS) | (refine pDr_go hS ?_; clear hS; intro w hS) | (refine pN_nz hS ?_; clear hS; intro a w hS) | refine pN_ixk hS _ (by first | rfl | (exact (Int.toNat_of_nonneg (by omega)).symm)) (by first | rfl | omega | simpa only [go_sem] using True.intro | (simp only [go_sem]; omega)) (by assumption) fun a ha hel => ?_ | (refine pN_b1 hS (by rfl) (by decide) ?_; clear hS; intro s w hS) | (refine pN_app hS (by first | rfl | omega | simpa only [go_sem] using True.intro | (simp only [go_sem]; omega)) (by first | rfl | omega | simpa only [go_sem] using True.intro | (simp only [go_sem]; omega)) (by first | omega | (simp only [go_sem]; omega)) ?_; clear hS; intro s w hS) | refine pN_v (hk := ?_) | refine pA_v (hk := ?_) | fail)
      dsimp only at hS ⊢
      refine pc_snap_number (snum_ok hG x.Mode f1 f2 hS (by simp only [List.length_append, List.length_cons, List.length_nil]; omega) ?_)
      clear hS
      intro s1 w hS
      refine ⟨⟨run_l hS rfl, trivial⟩, ?_⟩
      refine pc_snap_number (snum_ok hG x.Time f3 f4 hS (by simp only [List.length_append, List.length_cons, List.length_nil]; omega) ?_)
      clear hS
      intro s2 w hS
      refine ⟨trivial, ?_⟩
      have htail : L.tail (enOf (x, sx, li)) = if x.Kind = 0 then C.put li.length ++ L.flat li else if x.Kind = 2 then L.text x.Link else [] := rfl
      have hasc : pr ++ (byteOf x.Kind :: (C.put x.Mode.toNat ++ (C.put x.Time.toNat ++ (L.text x.Name ++ L.tail (enOf (x, sx, li)))))) = (pr ++ [byteOf x.Kind] ++ C.put x.Mode.toNat ++ C.put x.Time.toNat ++ L.text x.Name) ++ L.tail (enOf (x, sx, li)) := by simp only [List.append_assoc, List.cons_append, List.nil_append]
      rw [hasc]
      have hpl : (pr ++ [byteOf x.Kind] ++ C.put x.Mode.toNat ++ C.put x.Time.toNat ++ L.text x.Name).length + (L.tail (enOf (x, sx, li))).length ≤ 140737488355000 := by simp only [List.length_append, List.length_cons, List.length_nil]; omega
      by_cases k0 : x.Kind = 0
      · rw [if_pos k0] at htail
        rw [htail] at hpl ⊢
        rw [@List.length_append _ (C.put li.length)] at hpl
        repeat' (first | (refine pc_snap_text (stext_ok hG x.Name hS (by simp only [List.length_append, List.length_cons, List.length_nil]; omega) ?_); clear hS; intro s3 w hS) | (refine pN_eql_s ?_ ?_ <;> intro hc <;> try (exfalso; first | omega | exact hc rfl | exact hc (by assumption) | exact absurd hc (by assumption))) | refine pIf_t ?_ | refine pN_l hS (by first | rfl | assumption) ?_ | refine pN_v (hk := ?_) | fail)
        generalize pr ++ [byteOf x.Kind] ++ C.put x.Mode.toNat ++ C.put x.Time.toNat ++ L.text x.Name = pr2 at *
        have hfl := L.flat_len li
        have htk : ∀ j, (L.flat (li.take j)).length ≤ (L.flat li).length := fun j => by rw [L.flat_len, L.flat_len, List.length_take]; omega
        repeat' (first | (refine pc_snap_number (snum_ok hG _ (by omega) (by omega) hS (by omega) ?_); clear hS; intro s4 w hS; rw [Int.toNat_natCast] at hS ⊢) | refine pN_l hS (by first | rfl | assumption) ?_ | refine pN_v (hk := ?_) | fail)
        rw [← List.append_assoc]
        rw [← Nat.add_assoc, ← List.length_append] at hpl
        generalize pr2 ++ C.put li.length = pr3 at *
        refine ⟨fun v v' w => ∃ (j : Nat) (so : Sl), j ≤ li.length ∧ v = .slice so.a (pr3 ++ L.flat (li.take j)).length so.c ∧ v' = .int .i64 j ∧ Sat E w (rows cd_uint8 so (pr3 ++ L.flat (li.take j)) :: M), fun _ v _ => li.length - (RowKit.intOf v).toNat,
          ⟨0, s4, by omega, by rw [List.take_zero, L.flat_nil, List.append_nil], rfl, by rw [List.take_zero, L.flat_nil, List.append_nil]; exact hS.to⟩, ?_⟩
        clear hS
        rintro _ _ _ w ⟨j, so, hj, rfl, rfl, hS⟩
        by_cases hlt2 : j < li.length
        · obtain ⟨i, hi⟩ : ∃ i, li[j]? = some i := ⟨li[j], by simp [hlt2]⟩
          have hnx := L.flat_take hi
          have h1 := htk (j + 1)
          rw [hnx, List.length_append, i.h] at h1
          have hih := i.h
          repeat' (first | refine pN_ld_at ha hS (i32n i) ?_ | (refine pN_sid hS i (by rfl) ?_; clear hS; intro w hS) | refine pN_asla (by omega) ?_ | (refine pN_lss_s ?_ ?_ <;> intro hc <;> try (exfalso; omega)) | refine pIf_t ?_ | (refine pN_nz hS ?_; clear hS; intro a w hS) | refine pN_ixk hS _ (by first | rfl | (exact (Int.toNat_of_nonneg (by omega)).symm)) (by first | rfl | omega | simpa only [go_sem] using True.intro | (simp only [go_sem]; omega)) (by assumption) fun a ha hel => ?_ | fail)
          haveI := rd_cel (e := 58) (b := a) i.h
          refine pN_app (C := cd_uint8) (l := pr3 ++ L.flat (li.take j)) (s2 := ⟨some ⟨a, 0, none⟩, 32⟩) (m := i.l) hS rfl i.h.symm (by rw [List.length_append]; omega) ?_
          clear hS
          intro s5 w hS
          rw [List.append_assoc, ← hnx] at hS ⊢
          repeat' (first | refine pN_v (hk := ?_) | fail)
          exact ⟨⟨j + 1, s5, by omega, rfl, rfl, hS.to⟩, by simp [RowKit.intOf] <;> omega⟩
        · obtain rfl : j = li.length := by omega
          rw [List.take_length] at hS ⊢
          repeat' (first | (refine pN_lss_s ?_ ?_ <;> intro hc <;> try (exfalso; omega)) | refine pIf_f ?_ | fail)
          exact ⟨_, rfl, hS.to⟩
      · rw [if_neg k0] at htail
        by_cases k2 : x.Kind = 2
        · rw [if_pos k2] at htail
          rw [htail] at hpl ⊢
          have htx2 : L.text x.Link = C.put x.Link.length ++ x.Link := rfl
          have htxl2 : (L.text x.Link).length = (C.put x.Link.length).length + x.Link.length := by rw [htx2, List.length_append]
          repeat' (first | (refine pc_snap_text (stext_ok hG x.Name hS (by simp only [List.length_append, List.length_cons, List.length_nil]; omega) ?_); clear hS; intro s3 w hS) | (refine pc_snap_text (stext_ok hG x.Link hS (by omega) ?_); clear hS; intro s4 w hS) | (refine pN_eql_s ?_ ?_ <;> intro hc <;> try (exfalso; first | omega | exact hc rfl | exact hc (by assumption) | exact absurd hc (by assumption))) | refine pIf_t ?_ | refine pIf_f ?_ | refine pN_l hS (by first | rfl | assumption) ?_ | refine pN_v (hk := ?_) | fail)
          exact ⟨_, rfl, hS.to⟩
        · rw [if_neg k2] at htail
          rw [htail, List.append_nil]
          repeat' (first | (refine pc_snap_text (stext_ok hG x.Name hS (by simp only [List.length_append, List.length_cons, List.length_nil]; omega) ?_); clear hS; intro s3 w hS) | (refine pN_eql_s ?_ ?_ <;> intro hc <;> try (exfalso; first | omega | exact hc rfl | exact hc (by assumption) | exact absurd hc (by assumption))) | refine pIf_f ?_ | refine pN_l hS (by first | rfl | assumption) ?_ | refine pN_v (hk := ?_) | fail)
          exact ⟨_, rfl, hS.to⟩
    · clear hS
      rintro _ _ w ⟨so, rfl, hS⟩
      repeat' (first | refine pN_v (hk := ?_) | fail)
      exact ⟨⟨k + 1, so, by omega, by rw [hput], rfl, by rw [hput]; exact hS⟩, by simp [RowKit.intOf] <;> omega⟩
  · obtain rfl : k = es.length := by omega
    rw [hes, List.take_length, ← hes] at hS ⊢
    repeat' (first | (refine pN_lss_s ?_ ?_ <;> intro hc <;> try (exfalso; omega)) | refine pIf_f ?_ | fail)
    exact hQ _ _ hS
end
end Go.Proofs.YtikmogfhhggafaaGreatDoor

namespace Go.Proofs.YtikmogfhhggafaaGreatDoor
open Go
set_option maxRecDepth 100000

def tar_Write.H : Hints := { cut := fun  | _ => none, loop := fun | 3 => ([4, 11], 134216156) | _ => ([], 0), order := fun  | _ => [] }
def tar_Write.F [Pan] (x0 : Value) (w : World) (Q : Value → World → Prop) : Prop :=
 pN Tryz.prog (oBi .len #[30] 3 [false] [x0]) w fun x10 w1 =>
 ∃ (L3 : Value → Value → World → Prop) (m3 : Value → Value → World → Nat),
 L3 (.slice none 0 0) (.int .i64 0) w1 ∧
 ∀ (_k3 : Env) (out4l3 : Value) (v11l3 : Value) (w2 : World), L3 out4l3 v11l3 w2 →
 pN Tryz.prog (oBin .lss 3 (.tmp 11) (.tmp 10) v11l3 x10) w2 fun x12 w3 =>
 pIf x12
 (pN Tryz.prog (oIdx 30 x0 v11l3) w3 fun x13 w4 =>
 pN Tryz.prog (oLoad 49 x13) w4 fun x14 w5 =>
 pN Tryz.prog (oAlloc 49) w5 fun x6 w6 =>
 pN Tryz.prog (oStore 49 x6 x14) w6 fun _ w7 =>
 pN Tryz.prog (oLoad 49 x6) w7 fun x16 w8 =>
 pN Tryz.prog (oCall 49 [x16]) w8 fun x17 w9 =>
 pN Tryz.prog (oExt x17 0) w9 fun x18 w10 =>
 pN Tryz.prog (oExt x17 1) w10 fun x19 w11 =>
 pN Tryz.prog (oBin .neq 38 (.tmp 20) (.const (.int .i64 0)) x19 (.int .i64 0)) w11 fun x21 w12 =>
 pIf x21
 (Q (.tuple #[(.slice none 0 0), x19]) w12)
 (pN Tryz.prog (oBi .append #[47, 47] 47 [false, false] [out4l3, x18]) w12 fun x25 w13 =>
 pN Tryz.prog (oBin .add 3 (.tmp 11) (.const (.int .i64 1)) v11l3 (.int .i64 1)) w13 fun x26 w14 =>
 (L3 x25 x26 w14 ∧ m3 x25 x26 w14 < m3 out4l3 v11l3 w2)))
 (pN Tryz.prog (oBi .append #[47, 3] 47 [false, true] [out4l3, (.int .i64 1024)]) w3 fun x28 w15 =>
 Q (.tuple #[x28, (.int .i64 0)]) w15)
theorem tar_Write.calls [Pan] {x0 : Value} {w : World} {Q : Value → World → Prop} (h : tar_Write.F x0 w Q) : Calls Tryz.prog 25 #[x0] w (retP Q) := calls_lift mixed tar_Write.H [x0] Tryz.func25 (by kernel_rfl) (by kernel_rfl) h

def tar_Put.H : Hints := { cut := fun  | _ => none, loop := fun  | _ => ([], 0), order := fun | 4 => [(0, 0), (1, 1), (2, 3), (3, 7), (7, 15), (8, 143), (4, 399), (5, 415), (6, 447), (9, 511), (10, 1023)] | _ => [] }
def tar_Put.F [Pan] (x0 : Value) (w : World) (Q : Value → World → Prop) : Prop :=
 pN Tryz.prog (oBox 49 x0) w fun x1 w1 =>
 pN Tryz.prog (oLoad 49 x1) w1 fun x6 w2 =>
 pN Tryz.prog (oCall 88 [x6]) w2 fun x7 w3 =>
 pN Tryz.prog (oBin .neq 38 (.tmp 8) (.const (.int .i64 0)) x7 (.int .i64 0)) w3 fun x9 w4 =>
 pIf x9
 (Q (.tuple #[(.slice none 0 0), x7]) w4)
 (pDr w4 fun w5 =>
 pL Tryz.prog (oLoad 49 x1) w5 fun x11 =>
 pA Tryz.prog (oFld 49 x1 5) fun x12 =>
 pL Tryz.prog (oLoad 47 x12) w5 fun x13 =>
 pA Tryz.prog (oBi .len #[47] 3 [false] [x13]) fun x14 =>
 pA Tryz.prog (oFld 49 x1 5) fun x18 =>
 pL Tryz.prog (oLoad 47 x18) w5 fun x19 =>
 pN Tryz.prog (oBuild 165 [(0, x11), (1, x14)]) w5 fun x15 w6 =>
 ((Sem.run Tryz.prog (oLoad 47 x18) w6 = .ok (.value x19) w6) ∧ True) ∧ (pN Tryz.prog (oBox 165 x15) w6 fun x16 w7 =>
 ((Sem.run Tryz.prog (oLoad 47 x18) w7 = .ok (.value x19) w7) ∧ True) ∧ (pN Tryz.prog (oCall 89 [x16]) w7 fun x17 w8 =>
 ((Sem.run Tryz.prog (oLoad 47 x18) w8 = .ok (.value x19) w8) ∧ True) ∧ (pN Tryz.prog (oBi .append #[47, 47] 47 [false, false] [x17, x19]) w8 fun x20 w9 =>
 (True) ∧ (pN Tryz.prog (oBi .len #[47] 3 [false] [x20]) w9 fun x23 w10 =>
 pN Tryz.prog (oCall 90 [x23]) w10 fun x24 w11 =>
 pN Tryz.prog (oBi .append #[47, 3] 47 [false, false] [x20, x24]) w11 fun x25 w12 =>
 Q (.tuple #[x25, (.int .i64 0)]) w12)))))
theorem tar_Put.calls [Pan] {x0 : Value} {w : World} {Q : Value → World → Prop} (h : tar_Put.F x0 w Q) : Calls Tryz.prog 49 #[x0] w (retP Q) := calls_lift mixed tar_Put.H [x0] Tryz.func49 (by kernel_rfl) (by kernel_rfl) h

def tar_wrong.H : Hints := { cut := fun | 6 => some ([17], 4398046380032) | 9 => some ([42], 9223367638808264704) | 13 => some ([63], 19342803890462029940523008) | 14 => some ([], 19342813113834066795167748) | _ => none, loop := fun  | _ => ([], 0), order := fun  | _ => [] }
def tar_wrong.F [Pan] (x0 : Value) (w : World) (Q : Value → World → Prop) : Prop :=
 pN Tryz.prog (oBox 49 x0) w fun x1 w1 =>
 pN Tryz.prog (oFld 49 x1 0) w1 fun x8 w2 =>
 pN Tryz.prog (oLoad 9 x8) w2 fun x9 w3 =>
 pN Tryz.prog (oCall 120 [x9]) w3 fun x10 w4 =>
 pN Tryz.prog (oExt x10 0) w4 fun _ w5 =>
 pN Tryz.prog (oExt x10 1) w5 fun _ w6 =>
 pN Tryz.prog (oExt x10 2) w6 fun x13 w7 =>
 pN Tryz.prog (oFld 49 x1 2) w7 fun x14 w8 =>
 pN Tryz.prog (oLoad 3 x14) w8 fun x15 w9 =>
 pN Tryz.prog (oBin .eql 3 (.tmp 15) (.const (.int .i64 2)) x15 (.int .i64 2)) w9 fun x16 w10 =>
 ∃ I14 : World → Prop,
 (∃ I6 : Value → World → Prop,
 (pN Tryz.prog (oFld 49 x1 2) w10 fun x18 w11 =>
 pN Tryz.prog (oLoad 3 x18) w11 fun x19 w12 =>
 pN Tryz.prog (oBin .lss 3 (.tmp 19) (.const (.int .i64 0)) x19 (.int .i64 0)) w12 fun x20 w13 =>
 pGd (gB x20 false) (pN Tryz.prog (oFld 49 x1 2) w13) w13 fun x22 w14 =>
 pGd (gB x20 false) (pN Tryz.prog (oLoad 3 x22) w14) w14 fun x23 w15 =>
 pGd (gB x20 false) (pN Tryz.prog (oBin .geq 3 (.tmp 23) (.const (.int .i64 3)) x23 (.int .i64 3)) w15) w15 fun x24 w16 =>
 pN Tryz.prog (oPick x20 (.bool true) x24) w16 fun x25 w17 =>
 pIf x25
 (I6 x25 w17)
 (pN Tryz.prog (oUn .not x16) w17 fun x27 w18 =>
 pGd (gB x27 true) (pN Tryz.prog (oFld 49 x1 1) w18) w18 fun x29 w19 =>
 pGd (gB x27 true) (pN Tryz.prog (oLoad 9 x29) w19) w19 fun x30 w20 =>
 pGd (gB x27 true) (pN Tryz.prog (oBin .neq 9 (.tmp 30) (.const (.string ⟨#[]⟩)) x30 (.string ⟨#[]⟩)) w20) w20 fun x31 w21 =>
 pN Tryz.prog (oPick x27 x31 (.bool false)) w21 fun x32 w22 =>
 pIf x32
 (I6 x32 w22)
 (pN Tryz.prog (oFld 49 x1 2) w22 fun x33 w23 =>
 pN Tryz.prog (oLoad 3 x33) w23 fun x34 w24 =>
 pN Tryz.prog (oBin .neq 3 (.tmp 34) (.const (.int .i64 0)) x34 (.int .i64 0)) w24 fun x35 w25 =>
 pGd (gB x35 true) (pN Tryz.prog (oFld 49 x1 5) w25) w25 fun x37 w26 =>
 pGd (gB x35 true) (pN Tryz.prog (oLoad 47 x37) w26) w26 fun x38 w27 =>
 pGd (gB x35 true) (pN Tryz.prog (oBi .len #[47] 3 [false] [x38]) w27) w27 fun x39 w28 =>
 pGd (gB x35 true) (pN Tryz.prog (oBin .gtr 3 (.tmp 39) (.const (.int .i64 0)) x39 (.int .i64 0)) w28) w28 fun x40 w29 =>
 pN Tryz.prog (oPick x35 x40 (.bool false)) w29 fun x41 w30 =>
 I6 x41 w30))) ∧
 ∀ (_j6 : Env) (v17c6 : Value) (w31 : World), I6 v17c6 w31 →
 pIf v17c6
 (Q (.int .i64 6) w31)
 (∃ I9 : Value → World → Prop,
 (pN Tryz.prog (oUn .not x13) w31 fun x44 w32 =>
 pIf x44
 (I9 x44 w32)
 (pGd (gB x16 true) (pN Tryz.prog (oFld 49 x1 1) w32) w32 fun x47 w33 =>
 pGd (gB x16 true) (pN Tryz.prog (oLoad 9 x47) w33) w33 fun x48 w34 =>
 pGd (gB x16 true) (pN Tryz.prog (oBin .eql 9 (.tmp 48) (.const (.string ⟨#[]⟩)) x48 (.string ⟨#[]⟩)) w34) w34 fun x49 w35 =>
 pGd (gB x16 true) (pN Tryz.prog (oMv x49) w35) w35 fun x50 w36 =>
 pGd (gB x50 false) (pN Tryz.prog (oFld 49 x1 1) w36) w36 fun x51 w37 =>
 pGd (gB x50 false) (pN Tryz.prog (oLoad 9 x51) w37) w37 fun x52 w38 =>
 pGd (gB x50 false) (pN Tryz.prog (oBi .len #[9] 3 [false] [x52]) w38) w38 fun x53 w39 =>
 pGd (gB x50 false) (pN Tryz.prog (oBin .gtr 3 (.tmp 53) (.const (.int .i64 100)) x53 (.int .i64 100)) w39) w39 fun x54 w40 =>
 pGd (gB x16 true) (pN Tryz.prog (oPick x50 (.bool true) x54) w40) w40 fun x55 w41 =>
 pGd (gB x16 true) (pN Tryz.prog (oMv x55) w41) w41 fun x56 w42 =>
 pGd (gB x56 false) (pN Tryz.prog (oFld 49 x1 1) w42) w42 fun x57 w43 =>
 pGd (gB x56 false) (pN Tryz.prog (oLoad 9 x57) w43) w43 fun x58 w44 =>
 pGd (gB x56 false) (pN Tryz.prog (oCall 121 [x58, (bv 0)]) w44) w44 fun x59 w45 =>
 pGd (gB x56 false) (pN Tryz.prog (oBin .geq 3 (.tmp 59) (.const (.int .i64 0)) x59 (.int .i64 0)) w45) w45 fun x60 w46 =>
 pGd (gB x16 true) (pN Tryz.prog (oPick x56 (.bool true) x60) w46) w46 fun x61 w47 =>
 pN Tryz.prog (oPick x16 x61 (.bool false)) w47 fun x62 w48 =>
 I9 x62 w48)) ∧
 ∀ (_j9 : Env) (v42c9 : Value) (w49 : World), I9 v42c9 w49 →
 pIf v42c9
 (Q (.int .i64 8) w49)
 (∃ I13 : Value → World → Prop,
 (pN Tryz.prog (oFld 49 x1 3) w49 fun x64 w50 =>
 pN Tryz.prog (oLoad 3 x64) w50 fun x65 w51 =>
 pN Tryz.prog (oBin .lss 3 (.tmp 65) (.const (.int .i64 0)) x65 (.int .i64 0)) w51 fun x66 w52 =>
 pGd (gB x66 false) (pN Tryz.prog (oFld 49 x1 3) w52) w52 fun x68 w53 =>
 pGd (gB x66 false) (pN Tryz.prog (oLoad 3 x68) w53) w53 fun x69 w54 =>
 pGd (gB x66 false) (pN Tryz.prog (oBin .geq 3 (.tmp 69) (.const (.int .i64 4096)) x69 (.int .i64 4096)) w54) w54 fun x70 w55 =>
 pN Tryz.prog (oPick x66 (.bool true) x70) w55 fun x71 w56 =>
 pIf x71
 (I13 x71 w56)
 (pN Tryz.prog (oFld 49 x1 4) w56 fun x72 w57 =>
 pN Tryz.prog (oLoad 3 x72) w57 fun x73 w58 =>
 pN Tryz.prog (oBin .lss 3 (.tmp 73) (.const (.int .i64 0)) x73 (.int .i64 0)) w58 fun x74 w59 =>
 pGd (gB x74 false) (pN Tryz.prog (oFld 49 x1 4) w59) w59 fun x76 w60 =>
 pGd (gB x74 false) (pN Tryz.prog (oLoad 3 x76) w60) w60 fun x77 w61 =>
 pGd (gB x74 false) (pN Tryz.prog (oBin .geq 3 (.tmp 77) (.const (.int .i64 8589934592)) x77 (.int .i64 8589934592)) w61) w61 fun x78 w62 =>
 pN Tryz.prog (oPick x74 (.bool true) x78) w62 fun x79 w63 =>
 pIf x79
 (I13 x79 w63)
 (pN Tryz.prog (oFld 49 x1 5) w63 fun x80 w64 =>
 pN Tryz.prog (oLoad 47 x80) w64 fun x81 w65 =>
 pN Tryz.prog (oBi .len #[47] 3 [false] [x81]) w65 fun x82 w66 =>
 pN Tryz.prog (oBin .geq 3 (.tmp 82) (.const (.int .i64 8589934592)) x82 (.int .i64 8589934592)) w66 fun x83 w67 =>
 I13 x83 w67))) ∧
 ∀ (_j13 : Env) (v63c13 : Value) (w68 : World), I13 v63c13 w68 →
 pIf v63c13
 (Q (.int .i64 7) w68)
 (I14 w68)))) ∧
 ∀ (_j14 : Env) (w69 : World), I14 w69 →
 Q (.int .i64 0) w69
theorem tar_wrong.calls [Pan] {x0 : Value} {w : World} {Q : Value → World → Prop} (h : tar_wrong.F x0 w Q) : Calls Tryz.prog 88 #[x0] w (retP Q) := calls_lift mixed tar_wrong.H [x0] Tryz.func88 (by kernel_rfl) (by kernel_rfl) h

def tar_header.H : Hints := { cut := fun  | _ => none, loop := fun | 3 => ([9], 134217248) | _ => ([], 0), order := fun | 5 => [(0, 0), (1, 1), (2, 3), (3, 7), (4, 15), (5, 31), (6, 63), (7, 127), (8, 255), (9, 511), (10, 1023), (11, 2047), (12, 4095)] | 7 => [(0, 0), (1, 1), (2, 3), (3, 7), (4, 15)] | _ => [] }
def tar_header.F [Pan] (x0 : Value) (w : World) (Q : Value → World → Prop) : Prop :=
 pN Tryz.prog (oMk 47 (.int .i64 512) (.int .i64 512)) w fun x6 w1 =>
 pN Tryz.prog (oCall 122 []) w1 fun x7 w2 =>
 pN Tryz.prog (oBi .len #[206] 3 [false] [x7]) w2 fun x8 w3 =>
 ∃ (L3 : Value → World → Prop) (m3 : Value → World → Nat),
 L3 (.int .i64 0) w3 ∧
 ∀ (_k3 : Env) (v9l3 : Value) (w4 : World), L3 v9l3 w4 →
 pN Tryz.prog (oBin .lss 3 (.tmp 9) (.tmp 8) v9l3 x8) w4 fun x10 w5 =>
 pIf x10
 (pN Tryz.prog (oIdx 206 x7 v9l3) w5 fun x11 w6 =>
 pN Tryz.prog (oLoad 210 x11) w6 fun x12 w7 =>
 pN Tryz.prog (oAlloc 210) w7 fun x5 w8 =>
 pN Tryz.prog (oStore 210 x5 x12) w8 fun _ w9 =>
 pDr w9 fun w10 =>
 pA Tryz.prog (oFld 210 x5 2) fun x13 =>
 pL Tryz.prog (oLoad 208 x13) w10 fun x14 =>
 pA Tryz.prog (oFld 210 x5 0) fun x16 =>
 pL Tryz.prog (oLoad 3 x16) w10 fun x17 =>
 pA Tryz.prog (oFld 210 x5 0) fun x18 =>
 pL Tryz.prog (oLoad 3 x18) w10 fun x19 =>
 pA Tryz.prog (oFld 210 x5 1) fun x20 =>
 pL Tryz.prog (oLoad 3 x20) w10 fun x21 =>
 pA Tryz.prog (oBin .add 3 (.tmp 19) (.tmp 21) x19 x21) fun x22 =>
 pA Tryz.prog (oSl 47 x6 (some x17) (some x22) none) fun x23 =>
 pN Tryz.prog (oCallV x14 [x23, x0]) w10 fun _ w11 =>
 (True) ∧ (pN Tryz.prog (oBin .add 3 (.tmp 9) (.const (.int .i64 1)) v9l3 (.int .i64 1)) w11 fun x26 w12 =>
 (L3 x26 w12 ∧ m3 x26 w12 < m3 v9l3 w4)))
 (pDr w5 fun w13 =>
 pA Tryz.prog (oSl 47 x6 (some (.int .i64 148)) none none) fun x28 =>
 pN Tryz.prog (oCall 123 [x6]) w13 fun x30 w14 =>
 (True) ∧ (pN Tryz.prog (oBi .copy #[47, 47] 3 [false, false] [x28, x30]) w14 fun _ w15 =>
 (True) ∧ (Q x6 w15)))
theorem tar_header.calls [Pan] {x0 : Value} {w : World} {Q : Value → World → Prop} (h : tar_header.F x0 w Q) : Calls Tryz.prog 89 #[x0] w (retP Q) := calls_lift mixed tar_header.H [x0] Tryz.func89 (by kernel_rfl) (by kernel_rfl) h

def tar_pad.F [Pan] (x0 : Value) (w : World) (Q : Value → World → Prop) : Prop :=
 pN Tryz.prog (oBin .rem 3 (.tmp 3) (.const (.int .i64 512)) x0 (.int .i64 512)) w fun x4 w1 =>
 pN Tryz.prog (oBin .sub 3 (.const (.int .i64 512)) (.tmp 4) (.int .i64 512) x4) w1 fun x5 w2 =>
 pN Tryz.prog (oBin .rem 3 (.tmp 5) (.const (.int .i64 512)) x5 (.int .i64 512)) w2 fun x6 w3 =>
 Q x6 w3
theorem tar_pad.calls [Pan] {x0 : Value} {w : World} {Q : Value → World → Prop} (h : tar_pad.F x0 w Q) : Calls Tryz.prog 90 #[x0] w (retP Q) := calls_lift mixed .z [x0] Tryz.func90 (by kernel_rfl) (by kernel_rfl) h

def tar_parted.H : Hints := { cut := fun  | _ => none, loop := fun | 6 => ([5], 281474972516412) | _ => ([], 0), order := fun | 9 => [(0, 0), (1, 1), (2, 3), (3, 7), (4, 15), (5, 31), (6, 63), (7, 127), (8, 255), (9, 511), (10, 1023), (11, 2047), (12, 4095), (13, 8191), (14, 16383), (15, 32767), (16, 65535), (17, 131071), (18, 262143)] | _ => [] }
def tar_parted.F [Pan] (x0 : Value) (w : World) (Q : Value → World → Prop) : Prop :=
 pN Tryz.prog (oBin .eql 9 (.tmp 6) (.const (.string ⟨#[]⟩)) x0 (.string ⟨#[]⟩)) w fun x7 w1 =>
 pGd (gB x7 false) (pN Tryz.prog (oMv x0) w1) w1 fun x9 w2 =>
 pGd (gB x7 false) (pN Tryz.prog (oCall 121 [x9, (bv 0)]) w2) w2 fun x10 w3 =>
 pGd (gB x7 false) (pN Tryz.prog (oBin .geq 3 (.tmp 10) (.const (.int .i64 0)) x10 (.int .i64 0)) w3) w3 fun x11 w4 =>
 pN Tryz.prog (oPick x7 (.bool true) x11) w4 fun x12 w5 =>
 pIf x12
 (Q (.tuple #[(.string ⟨#[]⟩), (.string ⟨#[]⟩), (.bool false)]) w5)
 (pN Tryz.prog (oBi .len #[9] 3 [false] [x0]) w5 fun x14 w6 =>
 pN Tryz.prog (oBin .leq 3 (.tmp 14) (.const (.int .i64 100)) x14 (.int .i64 100)) w6 fun x15 w7 =>
 pIf x15
 (Q (.tuple #[(.string ⟨#[]⟩), x0, (.bool true)]) w7)
 (pN Tryz.prog (oBi .len #[9] 3 [false] [x0]) w7 fun x18 w8 =>
 pN Tryz.prog (oBin .sub 3 (.tmp 18) (.const (.int .i64 1)) x18 (.int .i64 1)) w8 fun x19 w9 =>
 pN Tryz.prog (oBin .sub 3 (.tmp 19) (.const (.int .i64 100)) x19 (.int .i64 100)) w9 fun x20 w10 =>
 pN Tryz.prog (oBi .max #[3, 3] 3 [true, false] [(.int .i64 1), x20]) w10 fun x21 w11 =>
 ∃ (L6 : Value → World → Prop) (m6 : Value → World → Nat),
 L6 x21 w11 ∧
 ∀ (_k6 : Env) (i5l6 : Value) (w12 : World), L6 i5l6 w12 →
 pN Tryz.prog (oBi .len #[9] 3 [false] [x0]) w12 fun x24 w13 =>
 pN Tryz.prog (oBin .lss 3 (.tmp 22) (.tmp 24) i5l6 x24) w13 fun x25 w14 =>
 pIf x25
 (pN Tryz.prog (oIndex 9 x0 i5l6) w14 fun x30 w15 =>
 pN Tryz.prog (oBin .eql 5 (.tmp 30) (.const (.int .u8 47)) x30 (bv 47)) w15 fun x31 w16 =>
 pIf x31
 (pDr w16 fun w17 =>
 pA Tryz.prog (oSl 9 x0 none (some i5l6) none) fun x34 =>
 pA Tryz.prog (oBin .add 3 (.tmp 36) (.const (.int .i64 1)) i5l6 (.int .i64 1)) fun x37 =>
 pA Tryz.prog (oSl 9 x0 (some x37) none none) fun x38 =>
 pA Tryz.prog (oBin .leq 3 (.tmp 39) (.const (.int .i64 155)) i5l6 (.int .i64 155)) fun x40 =>
 gA (gB x40 true) (pA Tryz.prog (oMv i5l6)) fun x42 =>
 gA (gB x40 true) (pA Tryz.prog (oBin .add 3 (.tmp 42) (.const (.int .i64 1)) x42 (.int .i64 1))) fun x43 =>
 gA (gB x40 true) (pA Tryz.prog (oMv x0)) fun x44 =>
 gA (gB x40 true) (pA Tryz.prog (oBi .len #[9] 3 [false] [x44])) fun x45 =>
 gA (gB x40 true) (pA Tryz.prog (oBin .lss 3 (.tmp 43) (.tmp 45) x43 x45)) fun x46 =>
 pA Tryz.prog (oPick x40 x46 (.bool false)) fun x47 =>
 Q (.tuple #[x34, x38, x47]) w17)
 (pN Tryz.prog (oBin .add 3 (.tmp 26) (.const (.int .i64 1)) i5l6 (.int .i64 1)) w16 fun x27 w18 =>
 (L6 x27 w18 ∧ m6 x27 w18 < m6 i5l6 w12)))
 (Q (.tuple #[(.string ⟨#[]⟩), (.string ⟨#[]⟩), (.bool false)]) w14)))
theorem tar_parted.calls [Pan] {x0 : Value} {w : World} {Q : Value → World → Prop} (h : tar_parted.F x0 w Q) : Calls Tryz.prog 120 #[x0] w (retP Q) := calls_lift mixed tar_parted.H [x0] Tryz.func120 (by kernel_rfl) (by kernel_rfl) h

def tar_fields.F [Pan]  (w : World) (Q : Value → World → Prop) : Prop :=
 pN Tryz.prog (oBuild 210 [(0, (.int .i64 0)), (1, (.int .i64 100)), (2, (.func (.func 155) #[] #[])), (3, (.func (.func 156) #[] #[]))]) w fun x1 w1 =>
 pN Tryz.prog (oBuild 210 [(0, (.int .i64 100)), (1, (.int .i64 8)), (2, (.func (.func 158) #[] #[])), (3, (.func (.func 160) #[] #[]))]) w1 fun x2 w2 =>
 pN Tryz.prog (oBuild 210 [(0, (.int .i64 108)), (1, (.int .i64 8)), (2, (.func (.func 162) #[] #[])), (3, .nilFunc)]) w2 fun x3 w3 =>
 pN Tryz.prog (oBuild 210 [(0, (.int .i64 116)), (1, (.int .i64 8)), (2, (.func (.func 162) #[] #[])), (3, .nilFunc)]) w3 fun x4 w4 =>
 pN Tryz.prog (oBuild 210 [(0, (.int .i64 124)), (1, (.int .i64 12)), (2, (.func (.func 163) #[] #[])), (3, (.func (.func 164) #[] #[]))]) w4 fun x5 w5 =>
 pN Tryz.prog (oBuild 210 [(0, (.int .i64 136)), (1, (.int .i64 12)), (2, (.func (.func 165) #[] #[])), (3, (.func (.func 166) #[] #[]))]) w5 fun x6 w6 =>
 pN Tryz.prog (oBuild 210 [(0, (.int .i64 156)), (1, (.int .i64 1)), (2, (.func (.func 167) #[] #[])), (3, (.func (.func 168) #[] #[]))]) w6 fun x7 w7 =>
 pN Tryz.prog (oBuild 210 [(0, (.int .i64 157)), (1, (.int .i64 100)), (2, (.func (.func 169) #[] #[])), (3, (.func (.func 170) #[] #[]))]) w7 fun x8 w8 =>
 pN Tryz.prog (oBuild 210 [(0, (.int .i64 257)), (1, (.int .i64 8)), (2, (.func (.func 171) #[] #[])), (3, .nilFunc)]) w8 fun x9 w9 =>
 pN Tryz.prog (oBuild 210 [(0, (.int .i64 329)), (1, (.int .i64 8)), (2, (.func (.func 162) #[] #[])), (3, .nilFunc)]) w9 fun x10 w10 =>
 pN Tryz.prog (oBuild 210 [(0, (.int .i64 337)), (1, (.int .i64 8)), (2, (.func (.func 162) #[] #[])), (3, .nilFunc)]) w10 fun x11 w11 =>
 pN Tryz.prog (oBuild 210 [(0, (.int .i64 345)), (1, (.int .i64 155)), (2, (.func (.func 172) #[] #[])), (3, (.func (.func 173) #[] #[]))]) w11 fun x12 w12 =>
 pN Tryz.prog (oBs 206 12 [(0, x1), (1, x2), (2, x3), (3, x4), (4, x5), (5, x6), (6, x7), (7, x8), (8, x9), (9, x10), (10, x11), (11, x12)]) w12 fun x13 w13 =>
 Q x13 w13
theorem tar_fields.calls [Pan]  {w : World} {Q : Value → World → Prop} (h : tar_fields.F  w Q) : Calls Tryz.prog 122 #[] w (retP Q) := calls_lift mixed .z [] Tryz.func122 (by kernel_rfl) (by kernel_rfl) h

def tar_sum.H : Hints := { cut := fun | 7 => some ([5], 2064416) | 8 => some ([3], 33550392) | _ => none, loop := fun | 3 => ([3, 10], 67107896) | _ => ([], 0), order := fun  | _ => [] }
def tar_sum.F [Pan] (x0 : Value) (w : World) (Q : Value → World → Prop) : Prop :=
 pN Tryz.prog (oSl 47 x0 none (some (.int .i64 512)) none) w fun x8 w1 =>
 pN Tryz.prog (oBi .len #[47] 3 [false] [x8]) w1 fun x9 w2 =>
 ∃ (L3 : Value → Value → World → Prop) (m3 : Value → Value → World → Nat),
 L3 (.int .i64 0) (.int .i64 0) w2 ∧
 ∀ (_k3 : Env) (n3l3 : Value) (v10l3 : Value) (w3 : World), L3 n3l3 v10l3 w3 →
 pN Tryz.prog (oBin .lss 3 (.tmp 10) (.tmp 9) v10l3 x9) w3 fun x11 w4 =>
 pIf x11
 (∃ I8 : Value → World → Prop,
 (pN Tryz.prog (oIdx 47 x8 v10l3) w4 fun x13 w5 =>
 pN Tryz.prog (oLoad 5 x13) w5 fun x14 w6 =>
 ∃ I7 : Value → World → Prop,
 (pN Tryz.prog (oBin .geq 3 (.tmp 15) (.const (.int .i64 148)) v10l3 (.int .i64 148)) w6 fun x16 w7 =>
 pGd (gB x16 true) (pN Tryz.prog (oMv v10l3) w7) w7 fun x18 w8 =>
 pGd (gB x16 true) (pN Tryz.prog (oBin .lss 3 (.tmp 18) (.const (.int .i64 156)) x18 (.int .i64 156)) w8) w8 fun x19 w9 =>
 pN Tryz.prog (oPick x16 x19 (.bool false)) w9 fun x20 w10 =>
 pIf x20
 (I7 (bv 32) w10)
 (I7 x14 w10)) ∧
 ∀ (_j7 : Env) (c5c7 : Value) (w11 : World), I7 c5c7 w11 →
 pN Tryz.prog (oConv 5 3 c5c7) w11 fun x23 w12 =>
 pN Tryz.prog (oBin .add 3 (.tmp 21) (.tmp 23) n3l3 x23) w12 fun x24 w13 =>
 I8 x24 w13) ∧
 ∀ (_j8 : Env) (n3c8 : Value) (w14 : World), I8 n3c8 w14 →
 pN Tryz.prog (oBin .add 3 (.tmp 10) (.const (.int .i64 1)) v10l3 (.int .i64 1)) w14 fun x25 w15 =>
 (L3 n3c8 x25 w15 ∧ m3 n3c8 x25 w15 < m3 n3l3 v10l3 w3))
 (pN Tryz.prog (oMk 47 (.int .i64 8) (.int .i64 8)) w4 fun x26 w16 =>
 pN Tryz.prog (oSl 47 x26 none (some (.int .i64 7)) none) w16 fun x28 w17 =>
 pN Tryz.prog (oCall 159 [x28, n3l3]) w17 fun _ w18 =>
 pN Tryz.prog (oIdx 47 x26 (.int .i64 7)) w18 fun x32 w19 =>
 pN Tryz.prog (oStore 5 x32 (bv 32)) w19 fun _ w20 =>
 Q x26 w20)
theorem tar_sum.calls [Pan] {x0 : Value} {w : World} {Q : Value → World → Prop} (h : tar_sum.F x0 w Q) : Calls Tryz.prog 123 #[x0] w (retP Q) := calls_lift mixed tar_sum.H [x0] Tryz.func123 (by kernel_rfl) (by kernel_rfl) h

def tar_fields_c1.F [Pan] (x0 x1 : Value) (w : World) (Q : Value → World → Prop) : Prop :=
 pN Tryz.prog (oNil x1) w fun x9 w1 =>
 pN Tryz.prog (oFld 165 x9 0) w1 fun x10 w2 =>
 pN Tryz.prog (oFld 49 x10 0) w2 fun x11 w3 =>
 pN Tryz.prog (oLoad 9 x11) w3 fun x12 w4 =>
 pN Tryz.prog (oCall 120 [x12]) w4 fun x13 w5 =>
 pN Tryz.prog (oExt x13 0) w5 fun _ w6 =>
 pN Tryz.prog (oExt x13 1) w6 fun x15 w7 =>
 pN Tryz.prog (oExt x13 2) w7 fun _ w8 =>
 pN Tryz.prog (oBi .copy #[47, 9] 3 [false, false] [x0, x15]) w8 fun _ w9 =>
 Q (.tuple #[]) w9
theorem tar_fields_c1.calls [Pan] {x0 x1 : Value} {w : World} {Q : Value → World → Prop} (h : tar_fields_c1.F x0 x1 w Q) : Calls Tryz.prog 155 #[x0, x1] w (retP Q) := calls_lift mixed .z [x0, x1] Tryz.func155 (by kernel_rfl) (by kernel_rfl) h

def tar_fields_c3.F [Pan] (x0 x1 : Value) (w : World) (Q : Value → World → Prop) : Prop :=
 pN Tryz.prog (oNil x1) w fun x6 w1 =>
 pN Tryz.prog (oFld 165 x6 0) w1 fun x7 w2 =>
 pN Tryz.prog (oFld 49 x7 3) w2 fun x8 w3 =>
 pN Tryz.prog (oLoad 3 x8) w3 fun x9 w4 =>
 pN Tryz.prog (oCall 159 [x0, x9]) w4 fun _ w5 =>
 Q (.tuple #[]) w5
theorem tar_fields_c3.calls [Pan] {x0 x1 : Value} {w : World} {Q : Value → World → Prop} (h : tar_fields_c3.F x0 x1 w Q) : Calls Tryz.prog 158 #[x0, x1] w (retP Q) := calls_lift mixed .z [x0, x1] Tryz.func158 (by kernel_rfl) (by kernel_rfl) h

def tar_octal.H : Hints := { cut := fun  | _ => none, loop := fun | 1 => ([1, 4], 2096914) | _ => ([], 0), order := fun  | _ => [] }
def tar_octal.F [Pan] (x0 x1 : Value) (w : World) (Q : Value → World → Prop) : Prop :=
 pN Tryz.prog (oBi .len #[47] 3 [false] [x0]) w fun x6 w1 =>
 pN Tryz.prog (oBin .sub 3 (.tmp 6) (.const (.int .i64 2)) x6 (.int .i64 2)) w1 fun x7 w2 =>
 ∃ (L1 : Value → Value → World → Prop) (m1 : Value → Value → World → Nat),
 L1 x1 x7 w2 ∧
 ∀ (_k1 : Env) (v1l1 : Value) (i4l1 : Value) (w3 : World), L1 v1l1 i4l1 w3 →
 pN Tryz.prog (oBin .geq 3 (.tmp 8) (.const (.int .i64 0)) i4l1 (.int .i64 0)) w3 fun x9 w4 =>
 pIf x9
 (pN Tryz.prog (oBin .and 3 (.tmp 14) (.const (.int .i64 7)) v1l1 (.int .i64 7)) w4 fun x15 w5 =>
 pN Tryz.prog (oConv 3 5 x15) w5 fun x16 w6 =>
 pN Tryz.prog (oBin .add 5 (.const (.int .u8 48)) (.tmp 16) (bv 48) x16) w6 fun x17 w7 =>
 pN Tryz.prog (oIdx 47 x0 i4l1) w7 fun x18 w8 =>
 pN Tryz.prog (oStore 5 x18 x17) w8 fun _ w9 =>
 pN Tryz.prog (oBin .shr 3 (.tmp 19) (.const (.int .u64 3)) v1l1 (.int .u64 3)) w9 fun x20 w10 =>
 pN Tryz.prog (oBin .sub 3 (.tmp 10) (.const (.int .i64 1)) i4l1 (.int .i64 1)) w10 fun x11 w11 =>
 (L1 x20 x11 w11 ∧ m1 x20 x11 w11 < m1 v1l1 i4l1 w3))
 (Q (.tuple #[]) w4)
theorem tar_octal.calls [Pan] {x0 x1 : Value} {w : World} {Q : Value → World → Prop} (h : tar_octal.F x0 x1 w Q) : Calls Tryz.prog 159 #[x0, x1] w (retP Q) := calls_lift mixed tar_octal.H [x0, x1] Tryz.func159 (by kernel_rfl) (by kernel_rfl) h

def tar_none.F [Pan] (x0 x1 : Value) (w : World) (Q : Value → World → Prop) : Prop :=
 pN Tryz.prog (oCall 159 [x0, (.int .i64 0)]) w fun _ w1 =>
 Q (.tuple #[]) w1
theorem tar_none.calls [Pan] {x0 x1 : Value} {w : World} {Q : Value → World → Prop} (h : tar_none.F x0 x1 w Q) : Calls Tryz.prog 162 #[x0, x1] w (retP Q) := calls_lift mixed .z [x0, x1] Tryz.func162 (by kernel_rfl) (by kernel_rfl) h

def tar_fields_c5.F [Pan] (x0 x1 : Value) (w : World) (Q : Value → World → Prop) : Prop :=
 pN Tryz.prog (oNil x1) w fun x6 w1 =>
 pN Tryz.prog (oFld 165 x6 1) w1 fun x7 w2 =>
 pN Tryz.prog (oLoad 3 x7) w2 fun x8 w3 =>
 pN Tryz.prog (oCall 159 [x0, x8]) w3 fun _ w4 =>
 Q (.tuple #[]) w4
theorem tar_fields_c5.calls [Pan] {x0 x1 : Value} {w : World} {Q : Value → World → Prop} (h : tar_fields_c5.F x0 x1 w Q) : Calls Tryz.prog 163 #[x0, x1] w (retP Q) := calls_lift mixed .z [x0, x1] Tryz.func163 (by kernel_rfl) (by kernel_rfl) h

def tar_fields_c7.F [Pan] (x0 x1 : Value) (w : World) (Q : Value → World → Prop) : Prop :=
 pN Tryz.prog (oNil x1) w fun x6 w1 =>
 pN Tryz.prog (oFld 165 x6 0) w1 fun x7 w2 =>
 pN Tryz.prog (oFld 49 x7 4) w2 fun x8 w3 =>
 pN Tryz.prog (oLoad 3 x8) w3 fun x9 w4 =>
 pN Tryz.prog (oCall 159 [x0, x9]) w4 fun _ w5 =>
 Q (.tuple #[]) w5
theorem tar_fields_c7.calls [Pan] {x0 x1 : Value} {w : World} {Q : Value → World → Prop} (h : tar_fields_c7.F x0 x1 w Q) : Calls Tryz.prog 165 #[x0, x1] w (retP Q) := calls_lift mixed .z [x0, x1] Tryz.func165 (by kernel_rfl) (by kernel_rfl) h

def tar_fields_c9.F [Pan] (x0 x1 : Value) (w : World) (Q : Value → World → Prop) : Prop :=
 pN Tryz.prog (oNil x1) w fun x6 w1 =>
 pN Tryz.prog (oFld 165 x6 0) w1 fun x7 w2 =>
 pN Tryz.prog (oFld 49 x7 2) w2 fun x8 w3 =>
 pN Tryz.prog (oLoad 3 x8) w3 fun x9 w4 =>
 pN Tryz.prog (oIndex 9 (.string ⟨#[48, 53, 50]⟩) x9) w4 fun x10 w5 =>
 pN Tryz.prog (oIdx 47 x0 (.int .i64 0)) w5 fun x11 w6 =>
 pN Tryz.prog (oStore 5 x11 x10) w6 fun _ w7 =>
 Q (.tuple #[]) w7
theorem tar_fields_c9.calls [Pan] {x0 x1 : Value} {w : World} {Q : Value → World → Prop} (h : tar_fields_c9.F x0 x1 w Q) : Calls Tryz.prog 167 #[x0, x1] w (retP Q) := calls_lift mixed .z [x0, x1] Tryz.func167 (by kernel_rfl) (by kernel_rfl) h

def tar_fields_c11.F [Pan] (x0 x1 : Value) (w : World) (Q : Value → World → Prop) : Prop :=
 pN Tryz.prog (oNil x1) w fun x6 w1 =>
 pN Tryz.prog (oFld 165 x6 0) w1 fun x7 w2 =>
 pN Tryz.prog (oFld 49 x7 1) w2 fun x8 w3 =>
 pN Tryz.prog (oLoad 9 x8) w3 fun x9 w4 =>
 pN Tryz.prog (oBi .copy #[47, 9] 3 [false, false] [x0, x9]) w4 fun _ w5 =>
 Q (.tuple #[]) w5
theorem tar_fields_c11.calls [Pan] {x0 x1 : Value} {w : World} {Q : Value → World → Prop} (h : tar_fields_c11.F x0 x1 w Q) : Calls Tryz.prog 169 #[x0, x1] w (retP Q) := calls_lift mixed .z [x0, x1] Tryz.func169 (by kernel_rfl) (by kernel_rfl) h

def tar_fields_c13.F [Pan] (x0 x1 : Value) (w : World) (Q : Value → World → Prop) : Prop :=
 pN Tryz.prog (oBi .copy #[47, 9] 3 [false, true] [x0, (.string ⟨#[117, 115, 116, 97, 114, 0, 48, 48]⟩)]) w fun _ w1 =>
 Q (.tuple #[]) w1
theorem tar_fields_c13.calls [Pan] {x0 x1 : Value} {w : World} {Q : Value → World → Prop} (h : tar_fields_c13.F x0 x1 w Q) : Calls Tryz.prog 171 #[x0, x1] w (retP Q) := calls_lift mixed .z [x0, x1] Tryz.func171 (by kernel_rfl) (by kernel_rfl) h

def tar_fields_c14.F [Pan] (x0 x1 : Value) (w : World) (Q : Value → World → Prop) : Prop :=
 pN Tryz.prog (oNil x1) w fun x9 w1 =>
 pN Tryz.prog (oFld 165 x9 0) w1 fun x10 w2 =>
 pN Tryz.prog (oFld 49 x10 0) w2 fun x11 w3 =>
 pN Tryz.prog (oLoad 9 x11) w3 fun x12 w4 =>
 pN Tryz.prog (oCall 120 [x12]) w4 fun x13 w5 =>
 pN Tryz.prog (oExt x13 0) w5 fun x14 w6 =>
 pN Tryz.prog (oExt x13 1) w6 fun _ w7 =>
 pN Tryz.prog (oExt x13 2) w7 fun _ w8 =>
 pN Tryz.prog (oBi .copy #[47, 9] 3 [false, false] [x0, x14]) w8 fun _ w9 =>
 Q (.tuple #[]) w9
theorem tar_fields_c14.calls [Pan] {x0 x1 : Value} {w : World} {Q : Value → World → Prop} (h : tar_fields_c14.F x0 x1 w Q) : Calls Tryz.prog 172 #[x0, x1] w (retP Q) := calls_lift mixed .z [x0, x1] Tryz.func172 (by kernel_rfl) (by kernel_rfl) h

end Go.Proofs.YtikmogfhhggafaaGreatDoor

namespace Go.Proofs.YtikmogfhhggafaaGreatDoor
open Go
attribute [local irreducible] oMv oV oU oCall oCallV oBi oBin oUn oLoad oStore oNil oFld oField oIdx oIndex oPick oAlloc oBox oBuild oBs oConv oMk oSl oExt oFn oIface oMap oLook oMapUp oRange oNext oEntry oInv oAssert oPanic oRes pN pA pL pDr pIf gA pGd Calls

namespace A
theorem oct_at (v : Int) (j : Nat) : oct v (j + 1) = (48 + byteOf (v / 8 ^ j % 8)) :: oct v j := rfl
def num : List UInt8 → Int := fun l => l.foldl (fun v c => 8 * v + c.toNat % 8) 0
end A

theorem putL_set {α : Type} (l us : List α) (k : Nat) (d : α) (h : k + 1 + us.length ≤ l.length) : (putL l (k + 1) us).set k d = putL l k (d :: us) := by
  simp only [putL, List.length_cons]
  rw [List.append_assoc, List.set_append_left _ _ (by simp; omega), List.set_eq_take_append_cons_drop, if_pos (by simp; omega), List.take_take, List.drop_take, Nat.sub_self, List.take_zero, Nat.min_eq_left (by omega)]
  simp [Nat.add_assoc, Nat.add_comm 1]

section
variable [Pan] {E w : World} {K Q : Value → World → Prop} {L M : List HA} {l r : List UInt8} {s s2 : Sl}

set_option maxHeartbeats 1000000 in
theorem octal_ok (hS : Sat E w (rows cd_uint8 s l :: M)) (o n : Nat) (h0 : 0 < n) (ho : o + n ≤ l.length) (hl : l.length ≤ 140737488355328) (v : Int)
    (hQ : ∀ w, Sat E w (rows cd_uint8 s (putL l o (A.oct v (n - 1))) :: M) → Q (.tuple #[]) w) :
    Calls Tryz.prog 159 #[.slice (s.sub o cd_uint8.size).a n (s.sub o cd_uint8.size).c, .int .i64 v] w (retP Q) := by
  refine tar_octal.calls ?_
  unfold tar_octal.F
  obtain ⟨g, hg, hc⟩ := rows_at (C := cd_uint8) (s := s) hS (by omega)
  repeat' (first | refine pN_v (hk := ?_) | fail)
  refine ⟨fun a i w => ∃ j : Nat, j ≤ n - 1 ∧ a = .int .i64 (v / 8 ^ j) ∧ i = .int .i64 ((n : Int) - 2 - j) ∧ Sat E w (rows cd_uint8 s (putL l (o + (n - 1 - j)) (A.oct v j)) :: M), fun _ i _ => (RowKit.intOf i + 1).toNat,
    ⟨0, Nat.zero_le _, by rw [Int.pow_zero, Int.ediv_one], by simp, by simpa [putL, A.oct] using hS⟩, ?_⟩
  clear hS
  rintro _ _ _ w ⟨j, hj, rfl, rfl, hS⟩
  have hlen : (putL l (o + (n - 1 - j)) (A.oct v j)).length = l.length := putL_len _ _ _ (by rw [A.oct_len]; omega)
  by_cases hlt : j < n - 1
  · obtain ⟨i, hi⟩ : ∃ i : Nat, (n : Int) - 2 - j = i := ⟨n - 2 - j, by omega⟩
    rw [hi]
    have hin : i = n - 2 - j := by omega
    subst hin
    haveI hr0 : Rds cd_uint8 (rows cd_uint8 s (putL l (o + (n - 1 - j)) (A.oct v j)) :: M) s (putL l (o + (n - 1 - j)) (A.oct v j)) := inferInstance
    haveI hr1 := Rds.sub (C := cd_uint8) (h := hr0) o (o + n) (by omega) (by omega)
    have hl1 : (((putL l (o + (n - 1 - j)) (A.oct v j)).drop o).take (o + n - o)).length = n := by rw [List.length_take, List.length_drop]; omega
    have e8 : v / 8 ^ j / 8 = v / 8 ^ (j + 1) := by rw [Int.pow_succ, Int.ediv_ediv_of_nonneg (Int.pow_nonneg (by omega))]
    have ek : o + (n - 1 - j) = (o + (n - 2 - j)) + 1 := by omega
    repeat' (first | (refine pN_geq_s ?_ ?_ <;> intro hc <;> try (exfalso; omega)) | refine pIf_t ?_ | refine pN_tob ?_ | refine pN_ix hS _ (by first | rfl | (exact (Int.toNat_of_nonneg (by omega)).symm)) (by first | rfl | omega | simpa only [go_sem] using True.intro | (simp only [go_sem]; omega)) (by first | omega | (simp only [go_sem]; omega)) fun a x hx ha hel => ?_ | refine pN_v (hk := ?_) | fail)
    refine pN_sr (hel.sub (by omega)) hS rfl rfl (by omega) ?_
    clear hS
    intro w hS
    rw [ek, putL_set _ _ _ _ (by rw [A.oct_len]; omega), ← A.oct_at] at hS
    repeat' (first | refine pN_v (hk := ?_) | fail)
    rw [e8]
    exact ⟨⟨j + 1, by omega, rfl, congrArg (Value.int .i64) (by omega), by rw [show o + (n - 1 - (j + 1)) = o + (n - 2 - j) from by omega]; exact hS⟩, by simp [RowKit.intOf] <;> omega⟩
  · repeat' (first | (refine pN_geq_s ?_ ?_ <;> intro hc <;> try (exfalso; omega)) | refine pIf_f ?_ | fail)
    obtain rfl : j = n - 1 := by omega
    rw [Nat.sub_self, Nat.add_zero] at hS
    exact hQ _ hS
theorem none_ok (h : Value) (hS : Sat E w (rows cd_uint8 s l :: M)) (o n : Nat) (h0 : 0 < n) (ho : o + n ≤ l.length) (hl : l.length ≤ 140737488355328)
    (hQ : ∀ w, Sat E w (rows cd_uint8 s (putL l o (A.oct 0 (n - 1))) :: M) → Q (.tuple #[]) w) :
    Calls Tryz.prog 162 #[.slice (s.sub o cd_uint8.size).a n (s.sub o cd_uint8.size).c, h] w (retP Q) := by
  refine tar_none.calls ?_
  unfold tar_none.F
  exact pc_tar_octal (octal_ok hS o n h0 ho hl 0 hQ)

theorem pad_ok (n : Nat) (hn : n ≤ 281474976710656) (hQ : Q (.int .i64 ((512 - n % 512) % 512 : Nat)) w) : Calls Tryz.prog 90 #[.int .i64 n] w (retP Q) := by
  refine tar_pad.calls ?_
  unfold tar_pad.F
  repeat' (first | refine pN_v (hk := ?_) | fail)
  have e : ((512 - n % 512) % 512 : Nat) = (512 - (n : Int) % 512) % 512 := by omega
  rw [e] at hQ
  exact hQ

set_option maxHeartbeats 1000000 in
theorem sum_ok (hS : Sat E w L) [hr : Rds cd_uint8 L s l] (hl : 512 ≤ l.length) (hl2 : l.length ≤ 140737488355328) (hQ : ∀ s' w, Sat E w (rows cd_uint8 s' (A.sumField l) :: L) → Q (.slice s'.a 8 s'.c) w) :
    Calls Tryz.prog 123 #[.slice s.a l.length s.c] w (retP Q) := by
  refine tar_sum.calls ?_
  unfold tar_sum.F
  have htl : (l.take 512).length = 512 := by rw [List.length_take]; omega
  generalize hm : l.take 512 = m at *
  repeat' (first | (refine pN_slhw hS 512 rfl rfl (by omega) ?_; intro hp) | refine pN_v (hk := ?_) | fail)
  rw [hm] at hp
  have hS0 := hS
  refine ⟨fun a i w' => ∃ j : Nat, j ≤ 512 ∧ a = .int .i64 (A.sumTo l j : Nat) ∧ i = .int .i64 j ∧ Sat E w' L, fun _ i _ => 512 - (RowKit.intOf i).toNat, ⟨0, Nat.zero_le _, rfl, rfl, hS⟩, ?_⟩
  clear hS hS0
  rintro _ _ _ w ⟨j, hj, rfl, rfl, hS⟩
  by_cases hlt : j < 512
  · obtain ⟨x, hx⟩ : ∃ x, m[j]? = some x := ⟨m[j]'(by omega), by simp⟩
    have hsb := A.sumTo_bd l j
    have hxl : l[j]? = some x := by
      rw [← hm, List.getElem?_take, if_pos hlt] at hx
      exact hx
    have hxd : l.getD j 0 = x := by rw [List.getD_eq_getElem?_getD, hxl]; rfl
    have hx256 := x.toNat_lt
    repeat' (first | (refine pN_lss_s ?_ ?_ <;> intro hc <;> try (exfalso; omega)) | refine pIf_t ?_ | fail)
    refine ⟨fun v w' => v = .int .i64 (A.sumTo l (j + 1) : Nat) ∧ Sat E w' L, ?_, ?_⟩
    rotate_left 1
    · clear hS
      rintro _ _ w ⟨rfl, hS⟩
      repeat' (first | refine pN_v (hk := ?_) | fail)
      exact ⟨⟨j + 1, by omega, rfl, rfl, hS⟩, by simp [RowKit.intOf] <;> omega⟩
    repeat' (first | refine pN_ld1 ha hS ?_ | refine pN_ixk hS _ (by first | rfl | (exact (Int.toNat_of_nonneg (by omega)).symm)) (by first | rfl | omega | simpa only [go_sem] using True.intro | (simp only [go_sem]; omega)) (by assumption) fun a ha hel => ?_ | fail)
    refine ⟨fun v w' => v = bv (if 148 ≤ j ∧ j < 156 then 32 else x) ∧ Sat E w' L, ?_, ?_⟩
    · by_cases h1 : 148 ≤ j
      · by_cases h2 : j < 156
        · rw [if_pos ⟨h1, h2⟩]
          repeat' (first | ((first | refine pN_lss_s ?_ ?_ | refine pN_geq_s ?_ ?_) <;> intro hc <;> try (exfalso; omega)) | refine pIf_t ?_ | refine pGd_go (by rfl) ?_ | refine pN_v (hk := ?_) | fail)
          exact ⟨rfl, hS⟩
        · rw [if_neg (by omega)]
          repeat' (first | ((first | refine pN_lss_s ?_ ?_ | refine pN_geq_s ?_ ?_) <;> intro hc <;> try (exfalso; omega)) | refine pIf_f ?_ | refine pGd_go (by rfl) ?_ | refine pN_v (hk := ?_) | fail)
          exact ⟨rfl, hS⟩
      · rw [if_neg (by omega)]
        repeat' (first | (refine pN_geq_s ?_ ?_ <;> intro hc <;> try (exfalso; omega)) | refine pIf_f ?_ | refine pGd_no (by rfl) ?_ | refine pN_v (hk := ?_) | fail)
        exact ⟨rfl, hS⟩
    clear hS
    rintro _ _ w ⟨rfl, hS⟩
    have e : A.sumTo l (j + 1) = A.sumTo l j + (if 148 ≤ j ∧ j < 156 then 32 else x).toNat := by
      rw [A.sumTo, hxd]
      split <;> rfl
    have hy := (if 148 ≤ j ∧ j < 156 then 32 else x : UInt8).toNat_lt
    rw [e]
    generalize (if 148 ≤ j ∧ j < 156 then 32 else x : UInt8) = y at *
    repeat' (first | refine pN_ofb ?_ | refine pN_v (hk := ?_) | fail)
    exact ⟨congrArg (Value.int .i64) (by omega), hS⟩
  · obtain rfl : j = 512 := by omega
    repeat' (first | (refine pN_lss_s ?_ ?_ <;> intro hc <;> try (exfalso; omega)) | refine pIf_f ?_ | (refine pN_mk hS _ (by first | rfl | (exact (Int.toNat_of_nonneg (by omega)).symm)) (by first | omega | (simp only [go_sem]; omega)) ?_; clear hS; intro s w hS) | fail)
    have hS : Sat E w (rows cd_uint8 s (List.replicate 8 0) :: L) := hS
    refine pN_slhw hS 7 rfl rfl (by decide) ?_
    intro _
    refine pc_tar_octal (octal_ok hS 0 7 (by omega) (by simp) (by simp) _ ?_)
    clear hS
    intro w hS
    have hu := A.oct_len (A.sumTo l 512) 6
    have e : putL (List.replicate 8 (0 : UInt8)) 0 (A.oct (A.sumTo l 512) (7 - 1)) = A.oct (A.sumTo l 512) 6 ++ [0, 0] := by
      rw [show (7 - 1 : Nat) = 6 from rfl, putL, hu]
      rfl
    rw [e] at hS
    have hl8 : (A.oct (A.sumTo l 512) 6 ++ [0, 0]).length = 8 := by rw [List.length_append, hu]; rfl
    have e2 : (A.oct (A.sumTo l 512) 6 ++ [0, 0]).set 7 32 = A.sumField l := by
      rw [List.set_append_right _ _ (by omega), hu]
      rfl
    repeat' (first | refine pN_ix hS _ (by first | rfl | (exact (Int.toNat_of_nonneg (by omega)).symm)) (by first | rfl | omega | simpa only [go_sem] using True.intro | (simp only [go_sem]; omega)) (by first | omega | (simp only [go_sem]; omega)) fun a x hx ha hel => ?_ | (refine pN_sr hel hS (by rfl) (by rfl) (by first | omega | (simp only [go_sem]; omega)) ?_; clear hS; intro w hS) | fail)
    have hl9 : (A.sumField l).length = 8 := by rw [← e2, List.length_set, hl8]
    rw [e2] at hS
    exact hQ _ _ hS

theorem parted_ok (hl : l.length ≤ 140737488355328) (hQ : ∀ w, Sat E w L → Q (.tuple #[.string ⟨(A.parted l).1.toArray⟩, .string ⟨(A.parted l).2.1.toArray⟩, .bool (A.parted l).2.2]) w) (hS : Sat E w L) :
    Calls Tryz.prog 120 #[.string ⟨l.toArray⟩] w (retP Q) := by
  refine tar_parted.calls ?_
  unfold tar_parted.F
  have e0 : (.string ⟨#[]⟩ : Value) = .string ⟨List.toArray []⟩ := rfl
  rw [e0]
  by_cases h1 : l = [] ∨ 0 ∈ l
  · have hp : A.parted l = ([], [], false) := by rw [A.parted, if_pos h1]
    rw [hp] at hQ
    have h2 : ¬ l = [] → 0 ≤ A.ixb l 0 := fun hn => A.ixb_mem.2 (h1.resolve_left hn)
    repeat' (first | (refine pc_strings_IndexByte (sIndexByte_ok 0 ?_); have h3 := h2 (by assumption)) | (refine pN_geq_s ?_ ?_ <;> intro hc <;> try (exfalso; omega)) | (refine pN_eql_ss ?_ ?_ <;> intro hc <;> try (exfalso; first | omega | exact hc rfl | exact hc (by assumption) | exact absurd hc (by assumption))) | refine pIf_t ?_ | refine pGd_go (by rfl) ?_ | refine pGd_no (by rfl) ?_ | refine pN_v (hk := ?_) | fail)
    all_goals exact hQ _ hS
  have h2 : ¬ l = [] := fun e => h1 (.inl e)
  have h3 : ¬ 0 ≤ A.ixb l 0 := fun e => h1 (.inr (A.ixb_mem.1 e))
  by_cases h4 : l.length ≤ 100
  · have hp : A.parted l = ([], l, true) := by rw [A.parted, if_neg h1, if_pos h4]
    rw [hp] at hQ
    repeat' (first | (refine pc_strings_IndexByte (sIndexByte_ok 0 ?_)) | refine pN_slen ?_ | ((first | refine pN_leq_s ?_ ?_ | refine pN_geq_s ?_ ?_) <;> intro hc <;> try (exfalso; omega)) | (refine pN_eql_ss ?_ ?_ <;> intro hc <;> try (exfalso; first | omega | exact hc rfl | exact hc (by assumption) | exact absurd hc (by assumption))) | refine pIf_t ?_ | refine pIf_f ?_ | refine pGd_go (by rfl) ?_ | refine pN_v (hk := ?_) | fail)
    all_goals exact hQ _ hS
  have hpn : A.slash l (max 1 (l.length - 101)) = none → A.parted l = ([], [], false) := fun e => by rw [A.parted, if_neg h1, if_neg h4, e]
  have hps : ∀ i, A.slash l (max 1 (l.length - 101)) = some i → A.parted l = (l.take i, l.drop (i + 1), decide (i ≤ 155 ∧ i + 1 < l.length)) := fun i e => by rw [A.parted, if_neg h1, if_neg h4, e]
  generalize hm0 : max 1 (l.length - 101) = m0 at *
  have hm1 : (max 1 ((l.length : Int) - 1 - 100)) = (m0 : Int) := by omega
  repeat' (first | (refine pc_strings_IndexByte (sIndexByte_ok 0 ?_)) | refine pN_slen ?_ | ((first | refine pN_leq_s ?_ ?_ | refine pN_geq_s ?_ ?_) <;> intro hc <;> try (exfalso; omega)) | (refine pN_eql_ss ?_ ?_ <;> intro hc <;> try (exfalso; first | omega | exact hc rfl | exact hc (by assumption) | exact absurd hc (by assumption))) | refine pIf_f ?_ | refine pGd_go (by rfl) ?_ | refine pN_v (hk := ?_) | fail)
  rw [hm1]
  refine ⟨fun v w' => ∃ i : Nat, v = .int .i64 i ∧ m0 ≤ i ∧ A.slash l m0 = A.slash l i ∧ Sat E w' L, fun v _ => l.length - (RowKit.intOf v).toNat, ⟨m0, rfl, Nat.le_refl _, rfl, hS⟩, ?_⟩
  clear hS
  rintro _ _ w ⟨i, rfl, hi, hsl, hS⟩
  by_cases hlt : i < l.length
  · obtain ⟨x, hx⟩ : ∃ x, l[i]? = some x := ⟨l[i]'hlt, by simp⟩
    by_cases h47 : x = 47
    · subst h47
      rw [A.slash_hit hx] at hsl
      rw [hps _ hsl] at hQ
      by_cases h5 : i ≤ 155
      · by_cases h6 : i + 1 < l.length
        · rw [decide_eq_true ⟨h5, h6⟩] at hQ
          repeat' (first | refine pN_slen ?_ | refine pA_slen ?_ | refine pN_sidx _ (by first | rfl | (exact (Int.toNat_of_nonneg (by omega)).symm)) (by first | assumption | rfl) ?_ | refine pA_ssl1 _ (by first | rfl | (exact (Int.toNat_of_nonneg (by omega)).symm)) (by first | omega | (simp only [go_sem]; omega)) ?_ | refine pA_sslh _ (by first | rfl | (exact (Int.toNat_of_nonneg (by omega)).symm)) (by first | omega | (simp only [go_sem]; omega)) ?_ | ((first | refine pN_lss_s ?_ ?_ | refine pA_lss_s ?_ ?_ | refine pA_leq_s ?_ ?_) <;> intro hc <;> try (exfalso; omega)) | (refine pN_eql_s ?_ ?_ <;> intro hc <;> try (exfalso; first | omega | exact hc rfl | exact hc (by assumption) | exact absurd hc (by assumption))) | refine pIf_t ?_ | refine gA_go (by rfl) ?_ | (refine pDr_go hS ?_; clear hS; intro w hS) | refine pA_v (hk := ?_) | fail)
          exact hQ _ hS
        · rw [decide_eq_false (fun h => h6 h.2)] at hQ
          repeat' (first | refine pN_slen ?_ | refine pA_slen ?_ | refine pN_sidx _ (by first | rfl | (exact (Int.toNat_of_nonneg (by omega)).symm)) (by first | assumption | rfl) ?_ | refine pA_ssl1 _ (by first | rfl | (exact (Int.toNat_of_nonneg (by omega)).symm)) (by first | omega | (simp only [go_sem]; omega)) ?_ | refine pA_sslh _ (by first | rfl | (exact (Int.toNat_of_nonneg (by omega)).symm)) (by first | omega | (simp only [go_sem]; omega)) ?_ | ((first | refine pN_lss_s ?_ ?_ | refine pA_lss_s ?_ ?_ | refine pA_leq_s ?_ ?_) <;> intro hc <;> try (exfalso; omega)) | (refine pN_eql_s ?_ ?_ <;> intro hc <;> try (exfalso; first | omega | exact hc rfl | exact hc (by assumption) | exact absurd hc (by assumption))) | refine pIf_t ?_ | refine gA_go (by rfl) ?_ | (refine pDr_go hS ?_; clear hS; intro w hS) | refine pA_v (hk := ?_) | fail)
          exact hQ _ hS
      · rw [decide_eq_false (fun h => h5 h.1)] at hQ
        repeat' (first | refine pN_slen ?_ | refine pN_sidx _ (by first | rfl | (exact (Int.toNat_of_nonneg (by omega)).symm)) (by first | assumption | rfl) ?_ | refine pA_ssl1 _ (by first | rfl | (exact (Int.toNat_of_nonneg (by omega)).symm)) (by first | omega | (simp only [go_sem]; omega)) ?_ | refine pA_sslh _ (by first | rfl | (exact (Int.toNat_of_nonneg (by omega)).symm)) (by first | omega | (simp only [go_sem]; omega)) ?_ | ((first | refine pN_lss_s ?_ ?_ | refine pA_leq_s ?_ ?_) <;> intro hc <;> try (exfalso; omega)) | (refine pN_eql_s ?_ ?_ <;> intro hc <;> try (exfalso; first | omega | exact hc rfl | exact hc (by assumption) | exact absurd hc (by assumption))) | refine pIf_t ?_ | refine gA_no (by rfl) ?_ | (refine pDr_go hS ?_; clear hS; intro w hS) | refine pA_v (hk := ?_) | fail)
        exact hQ _ hS
    · have h48 : ¬ (x.toNat : Int) = ((47 : UInt8).toNat : Int) := fun e => h47 (UInt8.toNat_inj.1 (by omega))
      rw [A.slash_miss hx h47] at hsl
      repeat' (first | refine pN_slen ?_ | refine pN_sidx _ (by first | rfl | (exact (Int.toNat_of_nonneg (by omega)).symm)) (by first | assumption | rfl) ?_ | (refine pN_lss_s ?_ ?_ <;> intro hc <;> try (exfalso; omega)) | (refine pN_eql_s ?_ ?_ <;> intro hc <;> try (exfalso; first | omega | exact hc rfl | exact hc (by assumption) | exact absurd hc (by assumption))) | refine pIf_t ?_ | refine pIf_f ?_ | refine pN_v (hk := ?_) | fail)
      exact ⟨⟨i + 1, rfl, by omega, hsl, hS⟩, by simp [RowKit.intOf] <;> omega⟩
  · rw [A.slash_out (l := l) (i := i) (by omega)] at hsl
    rw [hpn hsl] at hQ
    repeat' (first | refine pN_slen ?_ | (refine pN_lss_s ?_ ?_ <;> intro hc <;> try (exfalso; omega)) | refine pIf_f ?_ | fail)
    exact hQ _ hS
end

end Go.Proofs.YtikmogfhhggafaaGreatDoor
