/-
  Texts of one proof, one behind the other: LzSym, LzSym2, LzSink, Lz, ZDec, ZRdQ, ZNq, LfLzdec, TreeGet, LzRd, LzE, Law14, Bk1, LzSymR, Bk2, Bk3, Bk4, Bk5, Puts, Bk6.
-/
import Derived.Test.YtbgnnjfpiblkmaaGreatDoorRows
import Derived.SevenTiedAt
import Derived.Test.YtbgnnjfpiblkmaaGreatDoorMg6
set_option linter.unusedSimpArgs false
set_option linter.unnecessarySimpa false
set_option linter.unusedSectionVars false
set_option linter.unusedVariables false

namespace Go.Proofs.YtbgnnjfpiblkmaaGreatDoor
open Go

abbrev codingV (e : Nat) : Value := .iface 136 (.agg #[pz e])
abbrev costingV (a : Nat) : Value := .iface 156 (pz a)
theorem cod_nb (e : Nat) (w : World) : (oNil (mth "pith/lzenc.bit" (codingV e))).run Tryz.prog w = .ok (.value (mth "pith/lzenc.bit" (codingV e))) w := by kernel_rfl
theorem cod_nt (e : Nat) (w : World) : (oNil (mth "pith/lzenc.tree" (codingV e))).run Tryz.prog w = .ok (.value (mth "pith/lzenc.tree" (codingV e))) w := by kernel_rfl
theorem cod_nk (e : Nat) (w : World) : (oNil (mth "pith/lzenc.back" (codingV e))).run Tryz.prog w = .ok (.value (mth "pith/lzenc.back" (codingV e))) w := by kernel_rfl
theorem cod_nd (e : Nat) (w : World) : (oNil (mth "pith/lzenc.direct" (codingV e))).run Tryz.prog w = .ok (.value (mth "pith/lzenc.direct" (codingV e))) w := by kernel_rfl
theorem cst_nb (e : Nat) (w : World) : (oNil (mth "pith/lzenc.bit" (costingV e))).run Tryz.prog w = .ok (.value (mth "pith/lzenc.bit" (costingV e))) w := by kernel_rfl
theorem cst_nt (e : Nat) (w : World) : (oNil (mth "pith/lzenc.tree" (costingV e))).run Tryz.prog w = .ok (.value (mth "pith/lzenc.tree" (costingV e))) w := by kernel_rfl
theorem cst_nk (e : Nat) (w : World) : (oNil (mth "pith/lzenc.back" (costingV e))).run Tryz.prog w = .ok (.value (mth "pith/lzenc.back" (costingV e))) w := by kernel_rfl
theorem cst_nd (e : Nat) (w : World) : (oNil (mth "pith/lzenc.direct" (costingV e))).run Tryz.prog w = .ok (.value (mth "pith/lzenc.direct" (costingV e))) w := by kernel_rfl

set_option maxRecDepth 100000
section
variable {w : World} {K : Value → World → Prop}
theorem inv_cod_bit {e : Nat} {args : List Value} (h : Calls Tryz.prog 242 (.agg #[pz e] :: args).toArray w (retP K)) : pN Tryz.prog (oInv (codingV e) "pith/lzenc.bit" args) w K :=
  pN_inv (r := .agg #[pz e]) (fun args w => by kernel_rfl) h
theorem inv_cod_tree {e : Nat} {args : List Value} (h : Calls Tryz.prog 244 (.agg #[pz e] :: args).toArray w (retP K)) : pN Tryz.prog (oInv (codingV e) "pith/lzenc.tree" args) w K :=
  pN_inv (r := .agg #[pz e]) (fun args w => by kernel_rfl) h
theorem inv_cod_back {e : Nat} {args : List Value} (h : Calls Tryz.prog 241 (.agg #[pz e] :: args).toArray w (retP K)) : pN Tryz.prog (oInv (codingV e) "pith/lzenc.back" args) w K :=
  pN_inv (r := .agg #[pz e]) (fun args w => by kernel_rfl) h
theorem inv_cod_direct {e : Nat} {args : List Value} (h : Calls Tryz.prog 243 (.agg #[pz e] :: args).toArray w (retP K)) : pN Tryz.prog (oInv (codingV e) "pith/lzenc.direct" args) w K :=
  pN_inv (r := .agg #[pz e]) (fun args w => by kernel_rfl) h
theorem inv_cst_bit {e : Nat} {args : List Value} (h : Calls Tryz.prog 254 (pz e :: args).toArray w (retP K)) : pN Tryz.prog (oInv (costingV e) "pith/lzenc.bit" args) w K :=
  pN_inv (r := pz e) (fun args w => by kernel_rfl) h
theorem inv_cst_tree {e : Nat} {args : List Value} (h : Calls Tryz.prog 256 (pz e :: args).toArray w (retP K)) : pN Tryz.prog (oInv (costingV e) "pith/lzenc.tree" args) w K :=
  pN_inv (r := pz e) (fun args w => by kernel_rfl) h
theorem inv_cst_back {e : Nat} {args : List Value} (h : Calls Tryz.prog 253 (pz e :: args).toArray w (retP K)) : pN Tryz.prog (oInv (costingV e) "pith/lzenc.back" args) w K :=
  pN_inv (r := pz e) (fun args w => by kernel_rfl) h
theorem inv_cst_direct {e : Nat} {args : List Value} (h : Calls Tryz.prog 255 (pz e :: args).toArray w (retP K)) : pN Tryz.prog (oInv (costingV e) "pith/lzenc.direct" args) w K :=
  pN_inv (r := pz e) (fun args w => by kernel_rfl) h
end
theorem Sat.fd3 {E w : World} {L M N O : List HA} {σ τ υ : Type} (hS : Sat E w L) (F : σ → HA) (G : τ → HA) (H : υ → HA) {a : σ} {b : τ} {c : υ} [h1 : Fnd F L a M] [h2 : Fnd G M b N] [h3 : Fnd H N c O] : Sat E w (F a :: G b :: H c :: O) := hS.perm (h1.perm.trans ((h2.perm.trans (h3.perm.cons _)).cons _))
theorem Sat.fd4 {E w : World} {L M N O R : List HA} {σ τ υ φ : Type} (hS : Sat E w L) (F : σ → HA) (G : τ → HA) (H : υ → HA) (I : φ → HA) {a : σ} {b : τ} {c : υ} {d : φ} [h1 : Fnd F L a M] [h2 : Fnd G M b N] [h3 : Fnd H N c O] [h4 : Fnd I O d R] : Sat E w (F a :: G b :: H c :: I d :: R) := hS.perm (h1.perm.trans ((h2.perm.trans ((h3.perm.trans (h4.perm.cons _)).cons _)).cons _))
attribute [local irreducible] oMv oV oU oCall oCallV oBi oBin oUn oLoad oStore oNil oFld oField oIdx oIndex oPick oAlloc oBox oBuild oBs oConv oMk oSl oExt oFn oIface oMap oLook oMapUp oRange oNext oEntry oInv oAssert oPanic oRes pN pA pL pDr pIf gA pGd

section
variable {E w W : World} {M N : List HA} {Q : Value → World → Prop} {p : Z.Pr} {s : Z.St} {x : Z.W} {b t wd en : Nat} {q : Nat → Nat} {c : Value} {X : List Z.Op → HA} {l : List Z.Op}

set_option maxHeartbeats 2000000 in
theorem code1_ok {y : Z.Y} (hk : Snk p q c X) (hp : p.Ok) (hs : s.Right) (hy : Z.errY y = 0) (hk1 : y.Kind = 1)
    (hS : Sat E w (X [] :: cel b ⟨128, encCells t wd en⟩ :: cel t ⟨141, tbCells p s q⟩ :: Win wd x :: M)) (hx : x.all.length ≤ 4611686018427387904)
    (hQ : ∀ w, Sat E w (X (Z.symOps p s x y) :: cel b ⟨128, encCells t wd en⟩ :: cel t ⟨141, tbCells p s q⟩ :: Win wd x :: M) → Q (.tuple #[]) w) :
    Calls Tryz.prog 68 #[pz b, c, .agg #[.int .i64 y.Kind, bv y.Byte, .int .i64 y.Len, .int .i64 y.Dist]] w (retP Q) := by
  refine lzenc_Encoder_code.calls ?_
  unfold lzenc_Encoder_code.F
  have ho := (Z.symOps_ok hp hs x hy).ok
  have hn := hs.num
  have hpl := place_bd hp x.all.length
  unfold Z.symOps at ho hQ
  dsimp only at ho hQ
  rw [if_pos hk1] at ho hQ
  repeat' (first | (refine hk.bit _ _ _ (ho _ (by first | exact List.Mem.head _ | exact List.Mem.tail _ (List.Mem.head _) | exact List.Mem.tail _ (List.Mem.tail _ (List.Mem.head _)) | exact List.Mem.tail _ (List.Mem.tail _ (List.Mem.tail _ (List.Mem.head _))) | exact List.Mem.tail _ (List.Mem.tail _ (List.Mem.tail _ (List.Mem.tail _ (List.Mem.head _)))) | exact List.Mem.tail _ (List.Mem.tail _ (List.Mem.tail _ (List.Mem.tail _ (List.Mem.tail _ (List.Mem.head _))))) | exact List.Mem.tail _ (List.Mem.tail _ (List.Mem.tail _ (List.Mem.tail _ (List.Mem.tail _ (List.Mem.tail _ (List.Mem.head _)))))))) (by first | omega | (simp only [List.length_append, List.length_cons, List.length_nil]; omega)) (hS.fd X) ?_; clear hS; intro w hS) | refine pA_nilm hk.nb ?_ | (refine pc_window_Window_Pos (Pos_ok (hS.fd (Win wd)) ?_); clear hS; intro w hS) | (refine pc_model_Tables_At (MAt_ok (hS.fd (cel t)) hp hs _ (by omega) (by omega) ?_); clear hS; intro w hS) | (refine pc_lzenc_Encoder_literal (literal_ok hk hp hs _ (by simp only [List.length_append, List.length_cons, List.length_nil]; omega) (hS.fd4 X (cel b) (cel t) (Win wd)) hx ?_); clear hS; intro w hS) | (refine pN_eql_s ?_ ?_ <;> intro hc <;> try (exfalso; first | omega | exact hc rfl | exact hc (by assumption) | exact absurd hc (by assumption))) | refine pIf_t ?_ | refine pN_ofb ?_ | refine pN_l hS (by first | rfl | assumption) ?_ | refine pL_l hS (by first | rfl | assumption) ?_ | (refine pDr_go hS ?_; clear hS; intro w hS) | (refine pN_bx hS (by rfl) ?_; clear hS; intro a w hS) | refine ⟨trivial, ?_⟩ | refine ⟨⟨(by first | exact run_l hS (by first | rfl | assumption) | exact run_st hS (by first | rfl | omega) | exact run_ld1 ha hS | exact fun _ => run_l hS (by rfl) | exact fun _ => run_st hS (by first | rfl | omega) | exact fun _ => run_ld1 ha hS | exact fun h => Bool.noConfusion h), (by first | exact run_l hS (by first | rfl | assumption) | exact run_st hS (by first | rfl | omega) | exact run_ld1 ha hS | exact fun _ => run_l hS (by rfl) | exact fun _ => run_st hS (by first | rfl | omega) | exact fun _ => run_ld1 ha hS | exact fun h => Bool.noConfusion h), trivial⟩, ?_⟩ | refine ⟨⟨(by first | exact run_l hS (by first | rfl | assumption) | exact run_st hS (by first | rfl | omega) | exact run_ld1 ha hS | exact fun _ => run_l hS (by rfl) | exact fun _ => run_st hS (by first | rfl | omega) | exact fun _ => run_ld1 ha hS | exact fun h => Bool.noConfusion h), (by first | exact run_l hS (by first | rfl | assumption) | exact run_st hS (by first | rfl | omega) | exact run_ld1 ha hS | exact fun _ => run_l hS (by rfl) | exact fun _ => run_st hS (by first | rfl | omega) | exact fun _ => run_ld1 ha hS | exact fun h => Bool.noConfusion h), (by first | exact run_l hS (by first | rfl | assumption) | exact run_st hS (by first | rfl | omega) | exact run_ld1 ha hS | exact fun _ => run_l hS (by rfl) | exact fun _ => run_st hS (by first | rfl | omega) | exact fun _ => run_ld1 ha hS | exact fun h => Bool.noConfusion h), trivial⟩, ?_⟩ | refine pN_fn ?_ | refine pN_v (hk := ?_) | refine pA_v (hk := ?_) | fail)
  simp only [List.append_assoc, List.cons_append, List.nil_append] at hS
  exact hQ _ hS.to

set_option maxHeartbeats 2000000 in
theorem code4_ok {y : Z.Y} (hk : Snk p q c X) (hp : p.Ok) (hs : s.Right) (hy : Z.errY y = 0) (hk4 : y.Kind = 4)
    (hS : Sat E w (X [] :: cel b ⟨128, encCells t wd en⟩ :: cel t ⟨141, tbCells p s q⟩ :: Win wd x :: M)) (hx : x.all.length ≤ 4611686018427387904)
    (hQ : ∀ w, Sat E w (X (Z.symOps p s x y) :: cel b ⟨128, encCells t wd en⟩ :: cel t ⟨141, tbCells p s q⟩ :: Win wd x :: M) → Q (.tuple #[]) w) :
    Calls Tryz.prog 68 #[pz b, c, .agg #[.int .i64 y.Kind, bv y.Byte, .int .i64 y.Len, .int .i64 y.Dist]] w (retP Q) := by
  refine lzenc_Encoder_code.calls ?_
  unfold lzenc_Encoder_code.F
  have ho := (Z.symOps_ok hp hs x hy).ok
  have hn := hs.num
  have hpl := place_bd hp x.all.length
  unfold Z.symOps at ho hQ
  dsimp only at ho hQ
  rw [if_neg (by omega), if_neg (by omega), if_pos hk4] at ho hQ
  repeat' (first | (refine hk.bit _ _ _ (ho _ (by first | exact List.Mem.head _ | exact List.Mem.tail _ (List.Mem.head _) | exact List.Mem.tail _ (List.Mem.tail _ (List.Mem.head _)) | exact List.Mem.tail _ (List.Mem.tail _ (List.Mem.tail _ (List.Mem.head _))) | exact List.Mem.tail _ (List.Mem.tail _ (List.Mem.tail _ (List.Mem.tail _ (List.Mem.head _)))) | exact List.Mem.tail _ (List.Mem.tail _ (List.Mem.tail _ (List.Mem.tail _ (List.Mem.tail _ (List.Mem.head _))))) | exact List.Mem.tail _ (List.Mem.tail _ (List.Mem.tail _ (List.Mem.tail _ (List.Mem.tail _ (List.Mem.tail _ (List.Mem.head _)))))))) (by first | omega | (simp only [List.length_append, List.length_cons, List.length_nil]; omega)) (hS.fd X) ?_; clear hS; intro w hS) | refine pA_nilm hk.nb ?_ | (refine pc_window_Window_Pos (Pos_ok (hS.fd (Win wd)) ?_); clear hS; intro w hS) | (refine pc_model_Tables_At (MAt_ok (hS.fd (cel t)) hp hs _ (by omega) (by omega) ?_); clear hS; intro w hS) | (refine pN_eql_s ?_ ?_ <;> intro hc <;> try (exfalso; first | omega | exact hc rfl | exact hc (by assumption) | exact absurd hc (by assumption))) | refine pIf_t ?_ | refine pIf_f ?_ | refine pN_l hS (by first | rfl | assumption) ?_ | refine pL_l hS (by first | rfl | assumption) ?_ | (refine pDr_go hS ?_; clear hS; intro w hS) | (refine pN_bx hS (by rfl) ?_; clear hS; intro a w hS) | refine ⟨trivial, ?_⟩ | refine ⟨⟨(by first | exact run_l hS (by first | rfl | assumption) | exact run_st hS (by first | rfl | omega) | exact run_ld1 ha hS | exact fun _ => run_l hS (by rfl) | exact fun _ => run_st hS (by first | rfl | omega) | exact fun _ => run_ld1 ha hS | exact fun h => Bool.noConfusion h), (by first | exact run_l hS (by first | rfl | assumption) | exact run_st hS (by first | rfl | omega) | exact run_ld1 ha hS | exact fun _ => run_l hS (by rfl) | exact fun _ => run_st hS (by first | rfl | omega) | exact fun _ => run_ld1 ha hS | exact fun h => Bool.noConfusion h), trivial⟩, ?_⟩ | refine ⟨⟨(by first | exact run_l hS (by first | rfl | assumption) | exact run_st hS (by first | rfl | omega) | exact run_ld1 ha hS | exact fun _ => run_l hS (by rfl) | exact fun _ => run_st hS (by first | rfl | omega) | exact fun _ => run_ld1 ha hS | exact fun h => Bool.noConfusion h), (by first | exact run_l hS (by first | rfl | assumption) | exact run_st hS (by first | rfl | omega) | exact run_ld1 ha hS | exact fun _ => run_l hS (by rfl) | exact fun _ => run_st hS (by first | rfl | omega) | exact fun _ => run_ld1 ha hS | exact fun h => Bool.noConfusion h), (by first | exact run_l hS (by first | rfl | assumption) | exact run_st hS (by first | rfl | omega) | exact run_ld1 ha hS | exact fun _ => run_l hS (by rfl) | exact fun _ => run_st hS (by first | rfl | omega) | exact fun _ => run_ld1 ha hS | exact fun h => Bool.noConfusion h), trivial⟩, ?_⟩ | refine pN_fn ?_ | refine pN_v (hk := ?_) | refine pA_v (hk := ?_) | fail)
  simp only [List.append_assoc, List.cons_append, List.nil_append] at hS
  exact hQ _ hS.to

end

end Go.Proofs.YtbgnnjfpiblkmaaGreatDoor

namespace Go.Proofs.YtbgnnjfpiblkmaaGreatDoor
open Go
attribute [local irreducible] oMv oV oU oCall oCallV oBi oBin oUn oLoad oStore oNil oFld oField oIdx oIndex oPick oAlloc oBox oBuild oBs oConv oMk oSl oExt oFn oIface oMap oLook oMapUp oRange oNext oEntry oInv oAssert oPanic oRes pN pA pL pDr pIf gA pGd

section
variable {E w W : World} {M N : List HA} {Q : Value → World → Prop} {p : Z.Pr} {s : Z.St} {x : Z.W} {b t wd en : Nat} {q : Nat → Nat} {c : Value} {X : List Z.Op → HA} {l : List Z.Op}

set_option maxHeartbeats 2000000 in
theorem code2_ok {y : Z.Y} (hk : Snk p q c X) (hp : p.Ok) (hs : s.Right) (hy : Z.errY y = 0) (hk2 : y.Kind = 2)
    (hS : Sat E w (X [] :: cel b ⟨128, encCells t wd en⟩ :: cel t ⟨141, tbCells p s q⟩ :: Win wd x :: M)) (hx : x.all.length ≤ 4611686018427387904)
    (hQ : ∀ w, Sat E w (X (Z.symOps p s x y) :: cel b ⟨128, encCells t wd en⟩ :: cel t ⟨141, tbCells p s q⟩ :: Win wd x :: M) → Q (.tuple #[]) w) :
    Calls Tryz.prog 68 #[pz b, c, .agg #[.int .i64 y.Kind, bv y.Byte, .int .i64 y.Len, .int .i64 y.Dist]] w (retP Q) := by
  refine lzenc_Encoder_code.calls ?_
  unfold lzenc_Encoder_code.F
  have ho := (Z.symOps_ok hp hs x hy).ok
  have hn := hs.num
  have hpl := place_bd hp x.all.length
  unfold Z.symOps at ho hQ
  dsimp only at ho hQ
  rw [if_neg (by omega), if_pos hk2] at ho hQ
  have hl := Z.err_len hy (.inl hk2)
  have hd := Z.err_dist hy hk2
  repeat' (first | (refine hk.bit _ _ _ (ho _ (by first | exact List.Mem.head _ | exact List.Mem.tail _ (List.Mem.head _) | exact List.Mem.tail _ (List.Mem.tail _ (List.Mem.head _)) | exact List.Mem.tail _ (List.Mem.tail _ (List.Mem.tail _ (List.Mem.head _))) | exact List.Mem.tail _ (List.Mem.tail _ (List.Mem.tail _ (List.Mem.tail _ (List.Mem.head _)))) | exact List.Mem.tail _ (List.Mem.tail _ (List.Mem.tail _ (List.Mem.tail _ (List.Mem.tail _ (List.Mem.head _))))) | exact List.Mem.tail _ (List.Mem.tail _ (List.Mem.tail _ (List.Mem.tail _ (List.Mem.tail _ (List.Mem.tail _ (List.Mem.head _)))))))) (by first | omega | (simp only [List.length_append, List.length_cons, List.length_nil]; omega)) (hS.fd X) ?_; clear hS; intro w hS) | refine pA_nilm hk.nb ?_ | (refine pc_window_Window_Pos (Pos_ok (hS.fd (Win wd)) ?_); clear hS; intro w hS) | refine pL_la_at (n := 4) hS [pz (q 7), pz (q 8), pz (q 9), pz (q 10)] rfl rfl ?_ | (refine pc_model_Tables_At (MAt_ok (hS.fd (cel t)) hp hs _ (by omega) (by omega) ?_); clear hS; intro w hS) | (refine pc_lzenc_Encoder_length (length_ok hk hp 7 (.inl rfl) hl (by simp only [List.length_append, List.length_cons, List.length_nil]; omega) (hS.fd4 X (cel b) (cel t) (Win wd)) hx ?_); clear hS; intro w hS) | (refine pc_lzenc_Encoder_distance (distance_ok hk hp hl hd (by simp only [List.length_append, List.length_cons, List.length_nil]; have := Z.lenOps_len 7 p x.all.length y.Len; omega) (hS.fd3 X (cel b) (cel t)) ?_); clear hS; intro w hS) | (refine pN_eql_s ?_ ?_ <;> intro hc <;> try (exfalso; first | omega | exact hc rfl | exact hc (by assumption) | exact absurd hc (by assumption))) | refine pIf_t ?_ | refine pIf_f ?_ | refine pN_l hS (by first | rfl | assumption) ?_ | refine pL_l hS (by first | rfl | assumption) ?_ | refine pN_la hS (by rfl) ?_ | (refine pDr_go hS ?_; clear hS; intro w hS) | (refine pN_bx hS (by rfl) ?_; clear hS; intro a w hS) | refine ⟨trivial, ?_⟩ | refine ⟨⟨(by first | exact run_l hS (by first | rfl | assumption) | exact run_st hS (by first | rfl | omega) | exact run_ld1 ha hS | exact fun _ => run_l hS (by rfl) | exact fun _ => run_st hS (by first | rfl | omega) | exact fun _ => run_ld1 ha hS | exact fun h => Bool.noConfusion h), (by first | exact run_l hS (by first | rfl | assumption) | exact run_st hS (by first | rfl | omega) | exact run_ld1 ha hS | exact fun _ => run_l hS (by rfl) | exact fun _ => run_st hS (by first | rfl | omega) | exact fun _ => run_ld1 ha hS | exact fun h => Bool.noConfusion h), trivial⟩, ?_⟩ | refine ⟨⟨(by first | exact run_l hS (by first | rfl | assumption) | exact run_st hS (by first | rfl | omega) | exact run_ld1 ha hS | exact fun _ => run_l hS (by rfl) | exact fun _ => run_st hS (by first | rfl | omega) | exact fun _ => run_ld1 ha hS | exact fun h => Bool.noConfusion h), (by first | exact run_l hS (by first | rfl | assumption) | exact run_st hS (by first | rfl | omega) | exact run_ld1 ha hS | exact fun _ => run_l hS (by rfl) | exact fun _ => run_st hS (by first | rfl | omega) | exact fun _ => run_ld1 ha hS | exact fun h => Bool.noConfusion h), (by first | exact run_l hS (by first | rfl | assumption) | exact run_st hS (by first | rfl | omega) | exact run_ld1 ha hS | exact fun _ => run_l hS (by rfl) | exact fun _ => run_st hS (by first | rfl | omega) | exact fun _ => run_ld1 ha hS | exact fun h => Bool.noConfusion h), trivial⟩, ?_⟩ | refine pN_fn ?_ | refine pN_v (hk := ?_) | refine pA_v (hk := ?_) | fail)
  simp only [List.append_assoc, List.cons_append, List.nil_append] at hS hQ
  exact hQ _ hS.to

set_option maxHeartbeats 2000000 in
theorem code3_ok {y : Z.Y} (hk : Snk p q c X) (hp : p.Ok) (hs : s.Right) (hy : Z.errY y = 0) (hk3 : y.Kind = 3)
    (hS : Sat E w (X [] :: cel b ⟨128, encCells t wd en⟩ :: cel t ⟨141, tbCells p s q⟩ :: Win wd x :: M)) (hx : x.all.length ≤ 4611686018427387904)
    (hQ : ∀ w, Sat E w (X (Z.symOps p s x y) :: cel b ⟨128, encCells t wd en⟩ :: cel t ⟨141, tbCells p s q⟩ :: Win wd x :: M) → Q (.tuple #[]) w) :
    Calls Tryz.prog 68 #[pz b, c, .agg #[.int .i64 y.Kind, bv y.Byte, .int .i64 y.Len, .int .i64 y.Dist]] w (retP Q) := by
  refine lzenc_Encoder_code.calls ?_
  unfold lzenc_Encoder_code.F
  have ho := (Z.symOps_ok hp hs x hy).ok
  have hn := hs.num
  have hpl := place_bd hp x.all.length
  unfold Z.symOps at ho hQ
  dsimp only at ho hQ
  rw [if_neg (by omega), if_neg (by omega), if_neg (by omega)] at ho hQ
  have hl := Z.err_len hy (.inr hk3)
  have hd := Z.err_rep hy hk3
  have hrl : (Z.repOps p s x.all.length y.Dist).length ≤ 3 := by
    unfold Z.repOps
    split
    · exact Nat.le_of_ble_eq_true rfl
    · split <;> exact Nat.le_of_ble_eq_true rfl
  repeat' (first | (refine hk.bit _ _ _ (ho _ (by first | exact List.Mem.head _ | exact List.Mem.tail _ (List.Mem.head _) | exact List.Mem.tail _ (List.Mem.tail _ (List.Mem.head _)) | exact List.Mem.tail _ (List.Mem.tail _ (List.Mem.tail _ (List.Mem.head _))) | exact List.Mem.tail _ (List.Mem.tail _ (List.Mem.tail _ (List.Mem.tail _ (List.Mem.head _)))) | exact List.Mem.tail _ (List.Mem.tail _ (List.Mem.tail _ (List.Mem.tail _ (List.Mem.tail _ (List.Mem.head _))))) | exact List.Mem.tail _ (List.Mem.tail _ (List.Mem.tail _ (List.Mem.tail _ (List.Mem.tail _ (List.Mem.tail _ (List.Mem.head _)))))))) (by first | omega | (simp only [List.length_append, List.length_cons, List.length_nil]; omega)) (hS.fd X) ?_; clear hS; intro w hS) | refine pA_nilm hk.nb ?_ | (refine pc_window_Window_Pos (Pos_ok (hS.fd (Win wd)) ?_); clear hS; intro w hS) | (refine pc_model_Tables_At (MAt_ok (hS.fd (cel t)) hp hs _ (by omega) (by omega) ?_); clear hS; intro w hS) | (refine pN_eql_s ?_ ?_ <;> intro hc <;> try (exfalso; first | omega | exact hc rfl | exact hc (by assumption) | exact absurd hc (by assumption))) | refine pIf_f ?_ | refine pN_l hS (by first | rfl | assumption) ?_ | refine pL_l hS (by first | rfl | assumption) ?_ | (refine pDr_go hS ?_; clear hS; intro w hS) | (refine pN_bx hS (by rfl) ?_; clear hS; intro a w hS) | refine ⟨trivial, ?_⟩ | refine ⟨⟨(by first | exact run_l hS (by first | rfl | assumption) | exact run_st hS (by first | rfl | omega) | exact run_ld1 ha hS | exact fun _ => run_l hS (by rfl) | exact fun _ => run_st hS (by first | rfl | omega) | exact fun _ => run_ld1 ha hS | exact fun h => Bool.noConfusion h), (by first | exact run_l hS (by first | rfl | assumption) | exact run_st hS (by first | rfl | omega) | exact run_ld1 ha hS | exact fun _ => run_l hS (by rfl) | exact fun _ => run_st hS (by first | rfl | omega) | exact fun _ => run_ld1 ha hS | exact fun h => Bool.noConfusion h), trivial⟩, ?_⟩ | refine ⟨⟨(by first | exact run_l hS (by first | rfl | assumption) | exact run_st hS (by first | rfl | omega) | exact run_ld1 ha hS | exact fun _ => run_l hS (by rfl) | exact fun _ => run_st hS (by first | rfl | omega) | exact fun _ => run_ld1 ha hS | exact fun h => Bool.noConfusion h), (by first | exact run_l hS (by first | rfl | assumption) | exact run_st hS (by first | rfl | omega) | exact run_ld1 ha hS | exact fun _ => run_l hS (by rfl) | exact fun _ => run_st hS (by first | rfl | omega) | exact fun _ => run_ld1 ha hS | exact fun h => Bool.noConfusion h), (by first | exact run_l hS (by first | rfl | assumption) | exact run_st hS (by first | rfl | omega) | exact run_ld1 ha hS | exact fun _ => run_l hS (by rfl) | exact fun _ => run_st hS (by first | rfl | omega) | exact fun _ => run_ld1 ha hS | exact fun h => Bool.noConfusion h), trivial⟩, ?_⟩ | refine pN_fn ?_ | refine pN_v (hk := ?_) | refine pA_v (hk := ?_) | fail)
  refine ⟨fun w => Sat E w (X ([Z.Op.bit 0 (s.num * 16 + Z.place p x.all.length) 1, Z.Op.bit 2 s.num 1] ++ Z.repOps p s x.all.length y.Dist) :: cel t ⟨141, tbCells p s q⟩ :: Win wd x :: cel a ⟨48, [.int .i64 y.Kind, bv y.Byte, .int .i64 y.Len, .int .i64 y.Dist]⟩ :: cel b ⟨128, encCells t wd en⟩ :: M), ?_, ?_⟩
  · unfold Z.repOps at ho hQ ⊢
    by_cases h0 : y.Dist = 0
    · rw [if_pos h0] at ho ⊢
      repeat' (first | (refine hk.bit _ _ _ (ho _ (by first | exact List.Mem.head _ | exact List.Mem.tail _ (List.Mem.head _) | exact List.Mem.tail _ (List.Mem.tail _ (List.Mem.head _)) | exact List.Mem.tail _ (List.Mem.tail _ (List.Mem.tail _ (List.Mem.head _))) | exact List.Mem.tail _ (List.Mem.tail _ (List.Mem.tail _ (List.Mem.tail _ (List.Mem.head _)))) | exact List.Mem.tail _ (List.Mem.tail _ (List.Mem.tail _ (List.Mem.tail _ (List.Mem.tail _ (List.Mem.head _))))) | exact List.Mem.tail _ (List.Mem.tail _ (List.Mem.tail _ (List.Mem.tail _ (List.Mem.tail _ (List.Mem.tail _ (List.Mem.head _)))))))) (by first | omega | (simp only [List.length_append, List.length_cons, List.length_nil]; omega)) (hS.fd X) ?_; clear hS; intro w hS) | refine pA_nilm hk.nb ?_ | (refine pN_eql_s ?_ ?_ <;> intro hc <;> try (exfalso; first | omega | exact hc rfl | exact hc (by assumption) | exact absurd hc (by assumption))) | refine pIf_t ?_ | refine pN_l hS (by first | rfl | assumption) ?_ | refine pL_l hS (by first | rfl | assumption) ?_ | (refine pDr_go hS ?_; clear hS; intro w hS) | refine ⟨trivial, ?_⟩ | refine ⟨⟨(by first | exact run_l hS (by first | rfl | assumption) | exact run_st hS (by first | rfl | omega) | exact run_ld1 ha hS | exact fun _ => run_l hS (by rfl) | exact fun _ => run_st hS (by first | rfl | omega) | exact fun _ => run_ld1 ha hS | exact fun h => Bool.noConfusion h), (by first | exact run_l hS (by first | rfl | assumption) | exact run_st hS (by first | rfl | omega) | exact run_ld1 ha hS | exact fun _ => run_l hS (by rfl) | exact fun _ => run_st hS (by first | rfl | omega) | exact fun _ => run_ld1 ha hS | exact fun h => Bool.noConfusion h), trivial⟩, ?_⟩ | refine pN_fn ?_ | refine pN_v (hk := ?_) | refine pA_v (hk := ?_) | fail)
      simp only [List.append_assoc, List.cons_append, List.nil_append] at hS ⊢
      exact hS.to
    · rw [if_neg h0] at ho ⊢
      by_cases h1 : 1 < y.Dist
      · rw [if_pos h1] at ho ⊢
        have hm : min (y.Dist - 1) 1 = 1 := by omega
        rw [hm] at ho ⊢
        repeat' (first | (refine hk.bit _ _ _ (ho _ (by first | exact List.Mem.head _ | exact List.Mem.tail _ (List.Mem.head _) | exact List.Mem.tail _ (List.Mem.tail _ (List.Mem.head _)) | exact List.Mem.tail _ (List.Mem.tail _ (List.Mem.tail _ (List.Mem.head _))) | exact List.Mem.tail _ (List.Mem.tail _ (List.Mem.tail _ (List.Mem.tail _ (List.Mem.head _)))) | exact List.Mem.tail _ (List.Mem.tail _ (List.Mem.tail _ (List.Mem.tail _ (List.Mem.tail _ (List.Mem.head _))))) | exact List.Mem.tail _ (List.Mem.tail _ (List.Mem.tail _ (List.Mem.tail _ (List.Mem.tail _ (List.Mem.tail _ (List.Mem.head _)))))))) (by first | omega | (simp only [List.length_append, List.length_cons, List.length_nil]; omega)) (hS.fd X) ?_; clear hS; intro w hS) | refine pA_nilm hk.nb ?_ | refine pA_minv hm ?_ | (refine pN_gtr_s ?_ ?_ <;> intro hc <;> try (exfalso; omega)) | (refine pN_eql_s ?_ ?_ <;> intro hc <;> try (exfalso; first | omega | exact hc rfl | exact hc (by assumption) | exact absurd hc (by assumption))) | refine pIf_t ?_ | refine pIf_f ?_ | refine pN_l hS (by first | rfl | assumption) ?_ | refine pL_l hS (by first | rfl | assumption) ?_ | (refine pDr_go hS ?_; clear hS; intro w hS) | refine ⟨trivial, ?_⟩ | refine ⟨⟨(by first | exact run_l hS (by first | rfl | assumption) | exact run_st hS (by first | rfl | omega) | exact run_ld1 ha hS | exact fun _ => run_l hS (by rfl) | exact fun _ => run_st hS (by first | rfl | omega) | exact fun _ => run_ld1 ha hS | exact fun h => Bool.noConfusion h), (by first | exact run_l hS (by first | rfl | assumption) | exact run_st hS (by first | rfl | omega) | exact run_ld1 ha hS | exact fun _ => run_l hS (by rfl) | exact fun _ => run_st hS (by first | rfl | omega) | exact fun _ => run_ld1 ha hS | exact fun h => Bool.noConfusion h), trivial⟩, ?_⟩ | refine ⟨⟨(by first | exact run_l hS (by first | rfl | assumption) | exact run_st hS (by first | rfl | omega) | exact run_ld1 ha hS | exact fun _ => run_l hS (by rfl) | exact fun _ => run_st hS (by first | rfl | omega) | exact fun _ => run_ld1 ha hS | exact fun h => Bool.noConfusion h), (by first | exact run_l hS (by first | rfl | assumption) | exact run_st hS (by first | rfl | omega) | exact run_ld1 ha hS | exact fun _ => run_l hS (by rfl) | exact fun _ => run_st hS (by first | rfl | omega) | exact fun _ => run_ld1 ha hS | exact fun h => Bool.noConfusion h), (by first | exact run_l hS (by first | rfl | assumption) | exact run_st hS (by first | rfl | omega) | exact run_ld1 ha hS | exact fun _ => run_l hS (by rfl) | exact fun _ => run_st hS (by first | rfl | omega) | exact fun _ => run_ld1 ha hS | exact fun h => Bool.noConfusion h), trivial⟩, ?_⟩ | refine pN_fn ?_ | refine pN_v (hk := ?_) | refine pA_v (hk := ?_) | fail)
        simp only [List.append_assoc, List.cons_append, List.nil_append] at hS ⊢
        exact hS.to
      · rw [if_neg h1] at ho ⊢
        have hm : min (y.Dist - 1) 1 = 0 := by omega
        rw [hm] at ho ⊢
        repeat' (first | (refine hk.bit _ _ _ (ho _ (by first | exact List.Mem.head _ | exact List.Mem.tail _ (List.Mem.head _) | exact List.Mem.tail _ (List.Mem.tail _ (List.Mem.head _)) | exact List.Mem.tail _ (List.Mem.tail _ (List.Mem.tail _ (List.Mem.head _))) | exact List.Mem.tail _ (List.Mem.tail _ (List.Mem.tail _ (List.Mem.tail _ (List.Mem.head _)))) | exact List.Mem.tail _ (List.Mem.tail _ (List.Mem.tail _ (List.Mem.tail _ (List.Mem.tail _ (List.Mem.head _))))) | exact List.Mem.tail _ (List.Mem.tail _ (List.Mem.tail _ (List.Mem.tail _ (List.Mem.tail _ (List.Mem.tail _ (List.Mem.head _)))))))) (by first | omega | (simp only [List.length_append, List.length_cons, List.length_nil]; omega)) (hS.fd X) ?_; clear hS; intro w hS) | refine pA_nilm hk.nb ?_ | refine pA_minv hm ?_ | (refine pN_gtr_s ?_ ?_ <;> intro hc <;> try (exfalso; omega)) | (refine pN_eql_s ?_ ?_ <;> intro hc <;> try (exfalso; first | omega | exact hc rfl | exact hc (by assumption) | exact absurd hc (by assumption))) | refine pIf_f ?_ | refine pN_l hS (by first | rfl | assumption) ?_ | refine pL_l hS (by first | rfl | assumption) ?_ | (refine pDr_go hS ?_; clear hS; intro w hS) | refine ⟨trivial, ?_⟩ | refine ⟨⟨(by first | exact run_l hS (by first | rfl | assumption) | exact run_st hS (by first | rfl | omega) | exact run_ld1 ha hS | exact fun _ => run_l hS (by rfl) | exact fun _ => run_st hS (by first | rfl | omega) | exact fun _ => run_ld1 ha hS | exact fun h => Bool.noConfusion h), (by first | exact run_l hS (by first | rfl | assumption) | exact run_st hS (by first | rfl | omega) | exact run_ld1 ha hS | exact fun _ => run_l hS (by rfl) | exact fun _ => run_st hS (by first | rfl | omega) | exact fun _ => run_ld1 ha hS | exact fun h => Bool.noConfusion h), trivial⟩, ?_⟩ | refine ⟨⟨(by first | exact run_l hS (by first | rfl | assumption) | exact run_st hS (by first | rfl | omega) | exact run_ld1 ha hS | exact fun _ => run_l hS (by rfl) | exact fun _ => run_st hS (by first | rfl | omega) | exact fun _ => run_ld1 ha hS | exact fun h => Bool.noConfusion h), (by first | exact run_l hS (by first | rfl | assumption) | exact run_st hS (by first | rfl | omega) | exact run_ld1 ha hS | exact fun _ => run_l hS (by rfl) | exact fun _ => run_st hS (by first | rfl | omega) | exact fun _ => run_ld1 ha hS | exact fun h => Bool.noConfusion h), (by first | exact run_l hS (by first | rfl | assumption) | exact run_st hS (by first | rfl | omega) | exact run_ld1 ha hS | exact fun _ => run_l hS (by rfl) | exact fun _ => run_st hS (by first | rfl | omega) | exact fun _ => run_ld1 ha hS | exact fun h => Bool.noConfusion h), trivial⟩, ?_⟩ | refine pN_fn ?_ | refine pN_v (hk := ?_) | refine pA_v (hk := ?_) | fail)
        simp only [List.append_assoc, List.cons_append, List.nil_append] at hS ⊢
        exact hS.to
  · clear hS
    rintro _ w hS
    repeat' (first | refine pL_la_at (n := 4) hS [pz (q 11), pz (q 12), pz (q 13), pz (q 14)] rfl rfl ?_ | (refine pc_lzenc_Encoder_length (length_ok hk hp 11 (.inr rfl) hl (by simp only [List.length_append, List.length_cons, List.length_nil]; omega) (hS.fd4 X (cel b) (cel t) (Win wd)) hx ?_); clear hS; intro w hS) | refine pL_l hS (by first | rfl | assumption) ?_ | (refine pDr_go hS ?_; clear hS; intro w hS) | refine ⟨trivial, ?_⟩ | refine pA_v (hk := ?_) | fail)
    exact hQ _ hS.to

theorem code_ok {y : Z.Y} (hk : Snk p q c X) (hp : p.Ok) (hs : s.Right) (hy : Z.errY y = 0)
    (hS : Sat E w (X [] :: cel b ⟨128, encCells t wd en⟩ :: cel t ⟨141, tbCells p s q⟩ :: Win wd x :: M)) (hx : x.all.length ≤ 4611686018427387904)
    (hQ : ∀ w, Sat E w (X (Z.symOps p s x y) :: cel b ⟨128, encCells t wd en⟩ :: cel t ⟨141, tbCells p s q⟩ :: Win wd x :: M) → Q (.tuple #[]) w) :
    Calls Tryz.prog 68 #[pz b, c, .agg #[.int .i64 y.Kind, bv y.Byte, .int .i64 y.Len, .int .i64 y.Dist]] w (retP Q) := by
  rcases Z.kinds hy with h | h | h | h
  · exact code1_ok hk hp hs hy h hS hx hQ
  · exact code4_ok hk hp hs hy h hS hx hQ
  · exact code2_ok hk hp hs hy h hS hx hQ
  · exact code3_ok hk hp hs hy h hS hx hQ
end

end Go.Proofs.YtbgnnjfpiblkmaaGreatDoor

namespace Go.Proofs.YtbgnnjfpiblkmaaGreatDoor
open Go
namespace Z
theorem op_wt {p : Pr} {o : Op} (h : o.Ok p) : o.wt ≤ 16 ∧ o.bits.length ≤ 32 ∧ (1 ≤ o.bits.length ∨ o.bits.length = 0) := by
  cases o with
  | bit t i b => exact ⟨Nat.le_of_ble_eq_true rfl, Nat.le_of_ble_eq_true rfl, .inl (Nat.le_refl _)⟩
  | tree t a n v =>
    have := h.2.1.2.1
    simp only [Op.wt, Op.bits, treeBits, List.length_map, List.length_range]
    omega
  | back t a n v =>
    have := h.2.1.2.1
    simp only [Op.wt, Op.bits, treeBits, List.length_map, List.length_range]
    omega
  | direct v n =>
    have := h.2.2
    simp only [Op.wt, Op.bits, List.length_map, List.length_range]
    omega
theorem wts_len {p : Pr} : ∀ {l : List Op}, (∀ o ∈ l, o.Ok p) → wts l ≤ 16 * l.length ∧ lens l ≤ 32 * l.length
  | [], _ => ⟨Nat.le_refl _, Nat.le_refl _⟩
  | o :: l, h => by
    have h1 := op_wt (h o List.mem_cons_self)
    have h2 := wts_len (l := l) fun o ho => h o (List.mem_cons_of_mem _ ho)
    simp only [wts, lens, List.map_cons, List.sum_cons, List.length_cons] at h2 ⊢
    omega
theorem pr_get {p : Pr} {T : Nat → List Int} (hT : TabOk p T) {t : Nat} (ht : t < 18) {i : Int} (h0 : 0 ≤ i) (h1 : i < tabLen p t) (b : Int) : (T t)[i.toNat]? = some (pr T ⟨t, i, b⟩) := by
  have := hT.len t ht
  rw [pr, List.getD_eq_getElem?_getD, List.getElem?_eq_getElem (show i.toNat < (T t).length by omega)]; rfl
theorem run_bit {t : Nat} (ht : t < 18) (z : ES) (i b : Int) : run z (Op.bit t i b).bits = ⟨z.s.cut (B.bound z.s.R (pr z.T ⟨t, i, b⟩)) b, upd z.T t ((z.T t).set i.toNat (B.next (pr z.T ⟨t, i, b⟩) b))⟩ := by
  have hne : t ≠ 18 := by omega
  simp only [Op.bits, run, List.foldl_cons, List.foldl_nil, stepB, turn, hne, if_false]
end Z

def codX (p : Z.Pr) (en : Nat) (q : Nat → Nat) (z : Z.ES) (l : List Z.Op) : HA := fun h => (∀ o ∈ l, o.Ok p) ∧ Sats [Enc en (Z.runO z l).s, tabs q (Z.runO z l).T] h
def cstX (p : Z.Pr) (a : Nat) (q : Nat → Nat) (T : Nat → List Int) (l : List Z.Op) : HA := fun h => (∀ o ∈ l, o.Ok p) ∧ Sats [cel a ⟨155, [.int .i64 (Z.costO T l)]⟩, tabs q T] h

section
variable {E w : World} {M : List HA} {p : Z.Pr} {en a : Nat} {q : Nat → Nat} {z : Z.ES} {T : Nat → List Int} {l : List Z.Op}
theorem codX.opn (hS : Sat E w (codX p en q z l :: M)) : (∀ o ∈ l, o.Ok p) ∧ Sat E w (Enc en (Z.runO z l).s :: tabs q (Z.runO z l).T :: M) := by
  obtain ⟨h1, ⟨hA, _⟩, _⟩ := hS.head
  exact ⟨hA, hS.open_ (M := [_, _]) fun _ h => h.2⟩
theorem codX.shut {m : List Z.Op} (hm : ∀ o ∈ m, o.Ok p) {s : R.S} {T : Nat → List Int} (hS : Sat E w (Enc en s :: tabs q T :: M)) (hs : Z.runO z m = ⟨s, T⟩) : Sat E w (codX p en q z m :: M) := by
  refine Sat.shut (M := [_, _]) hS fun _ h => ⟨hm, ?_⟩
  rw [hs]; exact h
theorem cstX.opn (hS : Sat E w (cstX p a q T l :: M)) : (∀ o ∈ l, o.Ok p) ∧ Sat E w (cel a ⟨155, [.int .i64 (Z.costO T l)]⟩ :: tabs q T :: M) := by
  obtain ⟨h1, ⟨hA, _⟩, _⟩ := hS.head
  exact ⟨hA, hS.open_ (M := [_, _]) fun _ h => h.2⟩
theorem cstX.shut {m : List Z.Op} (hm : ∀ o ∈ m, o.Ok p) {v : Int} (hS : Sat E w (cel a ⟨155, [.int .i64 v]⟩ :: tabs q T :: M)) (hv : v = Z.costO T m) : Sat E w (cstX p a q T m :: M) := by
  subst hv
  exact Sat.shut (M := [_, _]) hS fun _ h => ⟨hm, h⟩
theorem snoc_ok {o : Z.Op} (h : ∀ o ∈ l, o.Ok p) (ho : o.Ok p) : ∀ x ∈ l ++ [o], x.Ok p := fun x hx => by
  rcases List.mem_append.1 hx with hx | hx
  · exact h x hx
  · rw [List.mem_singleton.1 hx]; exact ho
end
attribute [local irreducible] oMv oV oU oCall oCallV oBi oBin oUn oLoad oStore oNil oFld oField oIdx oIndex oPick oAlloc oBox oBuild oBs oConv oMk oSl oExt oFn oIface oMap oLook oMapUp oRange oNext oEntry oInv oAssert oPanic oRes pN pA pL pDr pIf gA pGd

section
variable {E w : World} {M : List HA} {p : Z.Pr} {en a : Nat} {q : Nat → Nat} {z : Z.ES} {T : Nat → List Int} {l : List Z.Op} {K : Value → World → Prop}

theorem cod_z (hz : z.Ok p) (hzk : z.s.k + 1000 ≤ 140737488355328) (hl : l.length ≤ 20) (h : ∀ o ∈ l, o.Ok p) : (Z.runO z l).Ok p ∧ (Z.runO z l).s.k + 600 ≤ 140737488355328 := by
  have h1 := Z.ops_ok hz h
  have h2 := Z.wts_len h
  exact ⟨h1.1, by omega⟩

set_option maxRecDepth 8000 in
set_option maxHeartbeats 400000 in
theorem cod_snk (hp : p.Ok) (hz : z.Ok p) (hzk : z.s.k + 1000 ≤ 140737488355328) : Snk p q (codingV en) (codX p en q z) where
  nb := cod_nb en
  nt := cod_nt en
  nk := cod_nk en
  nd := cod_nd en
  bit {E w M K l} t i b ho hl hS hK := by
    refine inv_cod_bit (lzenc_coding_bit.calls ?_)
    unfold lzenc_coding_bit.F
    obtain ⟨hm, hS⟩ := codX.opn hS
    obtain ⟨hzl, hkl⟩ := cod_z hz hzk hl hm
    generalize hzz : Z.runO z l = zz at *
    have ho' := ho
    obtain ⟨ht, i0, i1, b0, b1⟩ := ho'
    have hS := tabs_out (hS.perm (List.Perm.swap _ _ _)) t ht
    repeat' (first | (refine pc_rcenc_Encoder_Bit (Bit_in (hS.fd2 (Enc en) (PSet (q t))) (hzl.T.fine t) (by omega) i b i0 (Z.pr_get hzl.T ht i0 i1 b) ?_); clear hS; intro w hS) | refine pN_l hS (by first | rfl | assumption) ?_ | (refine pN_bx hS (by rfl) ?_; clear hS; intro a w hS) | refine pN_v (hk := ?_) | fail)
    have hS := tabs_into (hS.fd2 (PSet (q t)) (tabsBut q zz.T)) ht
    refine hK _ (codX.shut (z := z) (snoc_ok hm ho) (hS.fd (Enc en)) ?_).to
    rw [Z.runO_snoc, hzz, Z.run_bit ht]
  tree {E w M K l} t at_ n m v hmn ho hl hS hK := by
    subst hmn
    refine inv_cod_tree (lzenc_coding_tree.calls ?_)
    unfold lzenc_coding_tree.F
    obtain ⟨hm, hS⟩ := codX.opn hS
    obtain ⟨hzl, hkl⟩ := cod_z hz hzk hl hm
    generalize hzz : Z.runO z l = zz at *
    have ho' := ho
    obtain ⟨ht, hth, hh⟩ := ho'
    have hlen := hzl.T.len t ht
    rw [← hlen] at hth
    have hbd : (zz.T t).length ≤ 1048576 := by rw [hlen]; exact Nat.le_trans (Z.tabLen_bd hp t) (by decide)
    have hk1 : zz.s.k + 100 ≤ 140737488355328 := by omega
    clear hlen
    have hS := tabs_out (hS.perm (List.Perm.swap _ _ _)) t ht
    repeat' (first | refine pN_l hS (by first | rfl | assumption) ?_ | (refine pN_bx hS (by rfl) ?_; clear hS; intro a w hS) | refine pN_v (hk := ?_) | fail)
    refine pc_tree_Put (Put_in (hS.fd2 (Enc en) (PSet (q t))) hzl.s (hzl.T.fine t) hk1 at_ n v hbd hth hh fun w hS => ?_)
    skip
    simp only [Int.toNat_natCast] at hS
    have hS := tabs_into (hS.fd2 (PSet (q t)) (tabsBut q zz.T)) ht
    refine hK _ (codX.shut (z := z) (snoc_ok hm ho) (hS.fd (Enc en)) ?_).to
    rw [Z.runO_snoc, hzz]
    exact Z.run_treeBits ht _ at_ (R.bitAt false n v) n
  back {E w M K l} t at_ n m v hmn ho hl hS hK := by
    subst hmn
    refine inv_cod_back (lzenc_coding_back.calls ?_)
    unfold lzenc_coding_back.F
    obtain ⟨hm, hS⟩ := codX.opn hS
    obtain ⟨hzl, hkl⟩ := cod_z hz hzk hl hm
    generalize hzz : Z.runO z l = zz at *
    have ho' := ho
    obtain ⟨ht, hth, hh⟩ := ho'
    have hlen := hzl.T.len t ht
    rw [← hlen] at hth
    have hbd : (zz.T t).length ≤ 1048576 := by rw [hlen]; exact Nat.le_trans (Z.tabLen_bd hp t) (by decide)
    have hk1 : zz.s.k + 100 ≤ 140737488355328 := by omega
    clear hlen
    have hS := tabs_out (hS.perm (List.Perm.swap _ _ _)) t ht
    repeat' (first | refine pN_l hS (by first | rfl | assumption) ?_ | (refine pN_bx hS (by rfl) ?_; clear hS; intro a w hS) | refine pN_v (hk := ?_) | fail)
    refine pc_tree_PutBack (PutBack_in (hS.fd2 (Enc en) (PSet (q t))) hzl.s (hzl.T.fine t) hk1 at_ n v hbd hth hh fun w hS => ?_)
    skip
    simp only [Int.toNat_natCast] at hS
    have hS := tabs_into (hS.fd2 (PSet (q t)) (tabsBut q zz.T)) ht
    refine hK _ (codX.shut (z := z) (snoc_ok hm ho) (hS.fd (Enc en)) ?_).to
    rw [Z.runO_snoc, hzz]
    exact Z.run_treeBits ht _ at_ (R.bitAt true n v) n
  direct {E w M K l} v n m hmn ho hl hS hK := by
    subst hmn
    refine inv_cod_direct (lzenc_coding_direct.calls ?_)
    unfold lzenc_coding_direct.F
    obtain ⟨hm, hS⟩ := codX.opn hS
    obtain ⟨hzl, hkl⟩ := cod_z hz hzk hl hm
    generalize hzz : Z.runO z l = zz at *
    have ho' := ho
    obtain ⟨v0, v1, hn⟩ := ho'
    repeat' (first | (refine pc_rcenc_Encoder_Direct (Direct_in (hS.fd (Enc en)) (by omega) v n v0 v1 hn ?_); clear hS; intro w hS) | refine pN_l hS (by first | rfl | assumption) ?_ | (refine pN_bx hS (by rfl) ?_; clear hS; intro a w hS) | refine pN_v (hk := ?_) | fail)
    refine hK _ (codX.shut (z := z) (snoc_ok hm ho) (show Sat E w (Enc en (zz.s.direct v n) :: tabs q zz.T :: M) from hS.to) ?_)
    rw [Z.runO_snoc, hzz, Z.run_direct]

set_option maxRecDepth 8000 in
set_option maxHeartbeats 400000 in
theorem cst_snk (hp : p.Ok) (hT : Z.TabOk p T) : Snk p q (costingV a) (cstX p a q T) where
  nb := cst_nb a
  nt := cst_nt a
  nk := cst_nk a
  nd := cst_nd a
  bit {E w M K l} t i b ho hl hS hK := by
    refine inv_cst_bit (lzenc_costing_bit.calls ?_)
    unfold lzenc_costing_bit.F
    obtain ⟨hm, hS⟩ := cstX.opn hS
    have h1 := Z.costO_bd T l
    have h2 := (Z.wts_len hm).2
    have ho' := ho
    obtain ⟨ht, i0, i1, b0, b1⟩ := ho'
    have hS := tabs_out (hS.perm (List.Perm.swap _ _ _)) t ht
    have hc := Z.costB_bd T ⟨t, i, b⟩
    have hne : t ≠ 18 := by omega
    simp only [Z.costB, hne, if_false] at hc
    repeat' (first | (refine pc_prob_Set_At (At_in (hS.fd (PSet (q t))) i i0 (Z.pr_get hT ht i0 i1 b) ?_); clear hS; intro w hS) | (refine pc_prob_Cost (Cost_ok _ _ ?_)) | refine pL_l hS (by first | rfl | assumption) ?_ | (refine pN_s hS (by first | exact Nat.le_of_ble_eq_true rfl | assumption) (by rfl) ?_; clear hS; intro w hS; try simp only [List.set_cons_zero, List.set_cons_succ] at hS) | (refine pDr_go hS ?_; clear hS; intro w hS) | refine ⟨trivial, ?_⟩ | refine ⟨⟨(by first | exact run_l hS (by first | rfl | assumption) | exact run_st hS (by first | rfl | omega) | exact run_ld1 ha hS | exact fun _ => run_l hS (by rfl) | exact fun _ => run_st hS (by first | rfl | omega) | exact fun _ => run_ld1 ha hS | exact fun h => Bool.noConfusion h), trivial⟩, ?_⟩ | refine pN_v (hk := ?_) | refine pA_v (hk := ?_) | fail)
    have hS := tabs_back (hS.fd2 (PSet (q t)) (tabsBut q T)) ht
    refine hK _ (cstX.shut (T := T) (snoc_ok hm ho) (hS.fd (cel a)) ?_).to
    simp only [Z.costO_snoc, Z.Op.bits, Z.costs, List.map_cons, List.map_nil, List.sum_cons, List.sum_nil, Z.costB, hne, if_false, Int.add_zero]
  tree {E w M K l} t at_ n m v hmn ho hl hS hK := by
    subst hmn
    refine inv_cst_tree (lzenc_costing_tree.calls ?_)
    unfold lzenc_costing_tree.F
    obtain ⟨hm, hS⟩ := cstX.opn hS
    have h1 := Z.costO_bd T l
    have h2 := (Z.wts_len hm).2
    have ho' := ho
    obtain ⟨ht, hth, hh⟩ := ho'
    have hn := hth.2.1
    have hlen := hT.len t ht
    rw [← hlen] at hth
    have hbd : (T t).length ≤ 1048576 := by rw [hlen]; exact Nat.le_trans (Z.tabLen_bd hp t) (by decide)
    clear hlen
    have hc := R.costs_small (T t) at_ (R.bitAt false n v) n
    have hS := tabs_out (hS.perm (List.Perm.swap _ _ _)) t ht
    skip
    refine pc_tree_Cost (TCost_in (hS.fd (PSet (q t))) at_ n v hbd hth hh fun w hS => ?_)
    repeat' (first | refine pN_l hS (by first | rfl | assumption) ?_ | (refine pN_s hS (by first | exact Nat.le_of_ble_eq_true rfl | assumption) (by rfl) ?_; clear hS; intro w hS; try simp only [List.set_cons_zero, List.set_cons_succ] at hS) | refine pN_v (hk := ?_) | fail)
    have hS := tabs_back (hS.fd2 (PSet (q t)) (tabsBut q T)) ht
    refine hK _ (cstX.shut (T := T) (snoc_ok hm ho) (hS.fd (cel a)) ?_).to
    rw [Z.costO_snoc, show (Z.Op.tree t at_ n v).bits = Z.treeBits t at_ (R.bitAt false n v) n from rfl, Z.costs_tree ht]
  back {E w M K l} t at_ n m v hmn ho hl hS hK := by
    subst hmn
    refine inv_cst_back (lzenc_costing_back.calls ?_)
    unfold lzenc_costing_back.F
    obtain ⟨hm, hS⟩ := cstX.opn hS
    have h1 := Z.costO_bd T l
    have h2 := (Z.wts_len hm).2
    have ho' := ho
    obtain ⟨ht, hth, hh⟩ := ho'
    have hn := hth.2.1
    have hlen := hT.len t ht
    rw [← hlen] at hth
    have hbd : (T t).length ≤ 1048576 := by rw [hlen]; exact Nat.le_trans (Z.tabLen_bd hp t) (by decide)
    clear hlen
    have hc := R.costs_small (T t) at_ (R.bitAt true n v) n
    have hS := tabs_out (hS.perm (List.Perm.swap _ _ _)) t ht
    skip
    refine pc_tree_CostBack (TCostBack_in (hS.fd (PSet (q t))) at_ n v hbd hth hh fun w hS => ?_)
    repeat' (first | refine pN_l hS (by first | rfl | assumption) ?_ | (refine pN_s hS (by first | exact Nat.le_of_ble_eq_true rfl | assumption) (by rfl) ?_; clear hS; intro w hS; try simp only [List.set_cons_zero, List.set_cons_succ] at hS) | refine pN_v (hk := ?_) | fail)
    have hS := tabs_back (hS.fd2 (PSet (q t)) (tabsBut q T)) ht
    refine hK _ (cstX.shut (T := T) (snoc_ok hm ho) (hS.fd (cel a)) ?_).to
    rw [Z.costO_snoc, show (Z.Op.back t at_ n v).bits = Z.treeBits t at_ (R.bitAt true n v) n from rfl, Z.costs_tree ht]
  direct {E w M K l} v n m hmn ho hl hS hK := by
    subst hmn
    refine inv_cst_direct (lzenc_costing_direct.calls ?_)
    unfold lzenc_costing_direct.F
    obtain ⟨hm, hS⟩ := cstX.opn hS
    have h1 := Z.costO_bd T l
    have h2 := (Z.wts_len hm).2
    have ho' := ho
    obtain ⟨v0, v1, hn⟩ := ho'
    repeat' (first | refine pN_l hS (by first | rfl | assumption) ?_ | (refine pN_s hS (by first | exact Nat.le_of_ble_eq_true rfl | assumption) (by rfl) ?_; clear hS; intro w hS; try simp only [List.set_cons_zero, List.set_cons_succ] at hS) | refine pN_v (hk := ?_) | fail)
    refine hK _ (cstX.shut (T := T) (snoc_ok hm ho) hS ?_)
    rw [Z.costO_snoc, Z.costs_direct]
end

end Go.Proofs.YtbgnnjfpiblkmaaGreatDoor

namespace Go.Proofs.YtbgnnjfpiblkmaaGreatDoor
open Go
namespace Z
structure EZ where
  p : Pr
  st : St
  T : Nat → List Int
  x : W
  s : R.S
structure EZ.Ok (e : EZ) : Prop where
  p : e.p.Ok
  st : e.st.Right
  T : TabOk e.p e.T
  s : R.Ok e.s
def EZ.may (e : EZ) (y : Y) : Int := Z.may e.x e.st y
def EZ.ops (e : EZ) (y : Y) : List Op := symOps e.p e.st e.x y
def EZ.es (e : EZ) (y : Y) : ES := runO ⟨e.s, e.T⟩ (e.ops y)
def EZ.put1 (e : EZ) (y : Y) : EZ := ⟨e.p, e.st.next y, (e.es y).T, e.x.put (made e.x e.st y), (e.es y).s⟩
def EZ.put (e : EZ) (y : Y) : EZ := if e.may y = 0 then e.put1 y else e
def EZ.cost (e : EZ) (y : Y) : Int := if e.may y = 0 then costO e.T (e.ops y) else 0
def EZ.new (p : Pr) (dict : Int) : EZ := ⟨p, St.new, T0 p, ⟨dict, []⟩, R.S.new⟩
def EZ.cut (e : EZ) : EZ := ⟨e.p, e.st, e.T, e.x, R.S.new⟩
def EZ.clear (e : EZ) : EZ := ⟨e.p, St.new, T0 e.p, ⟨e.x.size, []⟩, e.s⟩
def EZ.reset (e : EZ) (p : Pr) : EZ := if p.Ok then ⟨p, St.new, T0 p, e.x, e.s⟩ else e
def EZ.raw (e : EZ) (b : List UInt8) : EZ := ⟨e.p, e.st, e.T, e.x.put b, e.s⟩
theorem EZ.Ok.new {p : Pr} (h : p.Ok) (d : Int) : (EZ.new p d).Ok := ⟨h, St.Right.new, TabOk.new p, R.Ok.new⟩
theorem EZ.Ok.put1 {e : EZ} (h : e.Ok) {y : Y} (hm : e.may y = 0) : (e.put1 y).Ok ∧ (e.put1 y).s.k ≤ e.s.k + 26 := by
  have hy := may_err hm
  have ho := symOps_ok h.p h.st e.x hy
  have h1 := ops_ok (z := ⟨e.s, e.T⟩) ⟨h.s, h.T⟩ ho.ok
  have hw := ho.wt
  exact ⟨⟨h.p, h.st.next hy, h1.1.T, h1.1.s⟩, Nat.le_trans h1.2 (Nat.add_le_add_left hw _)⟩
theorem EZ.Ok.put {e : EZ} (h : e.Ok) (y : Y) : (e.put y).Ok ∧ (e.put y).s.k ≤ e.s.k + 26 := by
  unfold EZ.put
  split
  · exact h.put1 (by assumption)
  · exact ⟨h, by omega⟩
theorem EZ.put_len {e : EZ} (y : Y) : (e.put y).x.all.length ≤ e.x.all.length + 273 := by
  unfold EZ.put
  split
  · rename_i hm
    have hy := may_err hm
    have := made_len (x := e.x) (s := e.st) hy
    have := size_bd hy
    simp only [EZ.put1, List.length_append]
    omega
  · omega
theorem EZ.Ok.cut {e : EZ} (h : e.Ok) : e.cut.Ok := ⟨h.p, h.st, h.T, R.Ok.new⟩
theorem EZ.Ok.clear {e : EZ} (h : e.Ok) : e.clear.Ok := ⟨h.p, St.Right.new, TabOk.new _, h.s⟩
theorem EZ.Ok.reset {e : EZ} (h : e.Ok) (p : Pr) : (e.reset p).Ok := by
  unfold EZ.reset
  split
  · exact ⟨by assumption, St.Right.new, TabOk.new _, h.s⟩
  · exact h
theorem EZ.Ok.raw {e : EZ} (h : e.Ok) (b : List UInt8) : (e.raw b).Ok := ⟨h.p, h.st, h.T, h.s⟩
end Z
attribute [local irreducible] oMv oV oU oCall oCallV oBi oBin oUn oLoad oStore oNil oFld oField oIdx oIndex oPick oAlloc oBox oBuild oBs oConv oMk oSl oExt oFn oIface oMap oLook oMapUp oRange oNext oEntry oInv oAssert oPanic oRes pN pA pL pDr pIf gA pGd

section
variable {E w W : World} {M N : List HA} {Q : Value → World → Prop} {p : Z.Pr} {s : Z.St} {x : Z.W} {b t wd en : Nat} {q : Nat → Nat} {y : Z.Y}

theorem Last_e (hS : Sat E w (Win b x :: M)) (d : Int) (hQ : ∀ c w, Sat E w (Win b x :: M) → Q (.tuple #[bv c, .int .i64 (if x.has d then 0 else 7)]) w) :
    Calls Tryz.prog 101 #[.pointer (some ⟨b, 0, none⟩), .int .i64 d] w (retP Q) := by
  by_cases h : x.has d
  · rw [if_pos h] at hQ; exact Last_in hS d h fun w hS => hQ _ w hS
  · rw [if_neg h] at hQ; exact Last_no hS d h fun w hS => hQ _ w hS

set_option maxHeartbeats 4000000 in
theorem may_ok (hG : Glo W) (hs : s.Right) (hS : Sat E w (cel b ⟨128, encCells t wd en⟩ :: cel t ⟨141, tbCells p s q⟩ :: Win wd x :: M)) [h : Has (old W) M N]
    (hQ : ∀ w, Sat E w (cel b ⟨128, encCells t wd en⟩ :: cel t ⟨141, tbCells p s q⟩ :: Win wd x :: M) → Q (.int .i64 (Z.may x s y)) w) :
    Calls Tryz.prog 67 #[pz b, .agg #[.int .i64 y.Kind, bv y.Byte, .int .i64 y.Len, .int .i64 y.Dist]] w (retP Q) := by
  refine lzenc_Encoder_may.calls ?_
  unfold lzenc_Encoder_may.F
  by_cases hy : Z.errY y = 0
  · repeat' (first | refine pL_la_at (n := 5) hS s.cells rfl rfl ?_ | refine pL_l hS (by first | rfl | assumption) ?_ | refine pL_la hS (by rfl) ?_ | (refine pDr_go hS ?_; clear hS; intro w hS) | (refine pN_bx hS (by rfl) ?_; clear hS; intro a w hS) | refine pA_v (hk := ?_) | fail)
    refine ⟨?_, ?_⟩
    · repeat' (first | (refine pc_state_State_Next (Next_in hG hS hs hy ?_); clear hS; intro w hS) | (refine pN_neq_s ?_ ?_ <;> intro hc <;> try (exfalso; first | omega | exact hc rfl | exact hc (by assumption) | exact absurd hc (by assumption))) | refine pIf_f ?_ | (refine pN_sa hS (by rfl) (by rfl) (by rfl) ?_; clear hS; intro w hS; try dsimp only at hS) | (refine pN_nz hS ?_; clear hS; intro a w hS) | refine ⟨trivial, ?_⟩ | refine pA_v (hk := ?_) | fail)
      refine ⟨fun v w => v = .int .i64 (Z.dist s y) ∧ y.Kind ≠ 1 ∧ Sat E w (cel b ⟨128, encCells t wd en⟩ :: cel t ⟨141, tbCells p s q⟩ :: Win wd x :: M), ?_, ?_⟩
      · rcases Z.kinds hy with hk | hk | hk | hk
        · repeat' (first | (refine pN_eql_s ?_ ?_ <;> intro hc <;> try (exfalso; first | omega | exact hc rfl | exact hc (by assumption) | exact absurd hc (by assumption))) | refine pIf_t ?_ | refine pN_l hS (by first | rfl | assumption) ?_ | refine pN_v (hk := ?_) | fail)
          rw [Z.may, if_neg (by omega), if_pos hk] at hQ
          exact hQ _ hS.to
        · repeat' (first | (refine pN_eql_s ?_ ?_ <;> intro hc <;> try (exfalso; first | omega | exact hc rfl | exact hc (by assumption) | exact absurd hc (by assumption))) | refine pIf_t ?_ | refine pIf_f ?_ | refine pN_l hS (by first | rfl | assumption) ?_ | refine pN_v (hk := ?_) | fail)
          exact ⟨by rw [Z.dist, if_neg (by omega), if_neg (by omega)], by omega, hS.to⟩
        · repeat' (first | (refine pN_eql_s ?_ ?_ <;> intro hc <;> try (exfalso; first | omega | exact hc rfl | exact hc (by assumption) | exact absurd hc (by assumption))) | refine pIf_t ?_ | refine pIf_f ?_ | refine pN_l hS (by first | rfl | assumption) ?_ | refine pN_v (hk := ?_) | fail)
          exact ⟨by rw [Z.dist, if_pos (by omega)], by omega, hS.to⟩
        · have hd := Z.err_rep hy hk
          have h4 : y.Dist = 0 ∨ y.Dist = 1 ∨ y.Dist = 2 ∨ y.Dist = 3 := by omega
          rw [Z.dist, if_neg (by omega), if_pos hk]
          rcases h4 with h4 | h4 | h4 | h4
          all_goals
            rw [h4] at hS
            try rw [h4]
            simp only [Z.rep0, Z.rep1, Z.rep2, Z.rep3]
            repeat' (first | (refine pN_eql_s ?_ ?_ <;> intro hc <;> try (exfalso; first | omega | exact hc rfl | exact hc (by assumption) | exact absurd hc (by assumption))) | refine pIf_t ?_ | refine pIf_f ?_ | refine pN_l hS (by first | rfl | assumption) ?_ | refine pL_l hS (by first | rfl | assumption) ?_ | (refine pDr_go hS ?_; clear hS; intro w hS) | refine pN_v (hk := ?_) | refine pA_v (hk := ?_) | fail)
            exact ⟨rfl, by omega, hS.to⟩
      · clear hS
        rintro _ _ w ⟨rfl, hk, hS⟩
        rw [Z.may, if_neg (by omega), if_neg hk] at hQ
        repeat' (first | (refine pc_window_Window_Last (Last_e (hS.fd (Win wd)) _ ?_); clear hS; intro c w hS) | refine pN_l hS (by first | rfl | assumption) ?_ | refine pN_v (hk := ?_) | fail)
        exact hQ _ hS.to
    · repeat' (first | refine ⟨⟨run_la_at hS _ (by rfl) (by rfl), run_la_at (n := 5) hS s.cells rfl rfl, run_l hS (by rfl), trivial⟩, ?_⟩ | (refine pc_state_State_Next (Next_in hG hS hs hy ?_); clear hS; intro w hS) | (refine pN_neq_s ?_ ?_ <;> intro hc <;> try (exfalso; first | omega | exact hc rfl | exact hc (by assumption) | exact absurd hc (by assumption))) | refine pIf_f ?_ | (refine pN_sa hS (by rfl) (by rfl) (by rfl) ?_; clear hS; intro w hS; try dsimp only at hS) | (refine pN_nz hS ?_; clear hS; intro a w hS) | refine ⟨trivial, ?_⟩ | refine pA_v (hk := ?_) | fail)
      refine ⟨fun v w => v = .int .i64 (Z.dist s y) ∧ y.Kind ≠ 1 ∧ Sat E w (cel b ⟨128, encCells t wd en⟩ :: cel t ⟨141, tbCells p s q⟩ :: Win wd x :: M), ?_, ?_⟩
      · rcases Z.kinds hy with hk | hk | hk | hk
        · repeat' (first | (refine pN_eql_s ?_ ?_ <;> intro hc <;> try (exfalso; first | omega | exact hc rfl | exact hc (by assumption) | exact absurd hc (by assumption))) | refine pIf_t ?_ | refine pN_l hS (by first | rfl | assumption) ?_ | refine pN_v (hk := ?_) | fail)
          rw [Z.may, if_neg (by omega), if_pos hk] at hQ
          exact hQ _ hS.to
        · repeat' (first | (refine pN_eql_s ?_ ?_ <;> intro hc <;> try (exfalso; first | omega | exact hc rfl | exact hc (by assumption) | exact absurd hc (by assumption))) | refine pIf_t ?_ | refine pIf_f ?_ | refine pN_l hS (by first | rfl | assumption) ?_ | refine pN_v (hk := ?_) | fail)
          exact ⟨by rw [Z.dist, if_neg (by omega), if_neg (by omega)], by omega, hS.to⟩
        · repeat' (first | (refine pN_eql_s ?_ ?_ <;> intro hc <;> try (exfalso; first | omega | exact hc rfl | exact hc (by assumption) | exact absurd hc (by assumption))) | refine pIf_t ?_ | refine pIf_f ?_ | refine pN_l hS (by first | rfl | assumption) ?_ | refine pN_v (hk := ?_) | fail)
          exact ⟨by rw [Z.dist, if_pos (by omega)], by omega, hS.to⟩
        · have hd := Z.err_rep hy hk
          have h4 : y.Dist = 0 ∨ y.Dist = 1 ∨ y.Dist = 2 ∨ y.Dist = 3 := by omega
          rw [Z.dist, if_neg (by omega), if_pos hk]
          rcases h4 with h4 | h4 | h4 | h4
          all_goals
            rw [h4] at hS
            try rw [h4]
            simp only [Z.rep0, Z.rep1, Z.rep2, Z.rep3]
            repeat' (first | (refine pN_eql_s ?_ ?_ <;> intro hc <;> try (exfalso; first | omega | exact hc rfl | exact hc (by assumption) | exact absurd hc (by assumption))) | refine pIf_t ?_ | refine pIf_f ?_ | refine pN_l hS (by first | rfl | assumption) ?_ | refine pL_l hS (by first | rfl | assumption) ?_ | (refine pDr_go hS ?_; clear hS; intro w hS) | refine pN_v (hk := ?_) | refine pA_v (hk := ?_) | fail)
            exact ⟨rfl, by omega, hS.to⟩
      · clear hS
        rintro _ _ w ⟨rfl, hk, hS⟩
        rw [Z.may, if_neg (by omega), if_neg hk] at hQ
        repeat' (first | (refine pc_window_Window_Last (Last_e (hS.fd (Win wd)) _ ?_); clear hS; intro c w hS) | refine pN_l hS (by first | rfl | assumption) ?_ | refine pN_v (hk := ?_) | fail)
        exact hQ _ hS.to
  · have e7 : Z.may x s y = Z.errY y := by rw [Z.may, if_pos (by omega)]
    rw [e7] at hQ
    repeat' (first | refine pL_la_at (n := 5) hS s.cells rfl rfl ?_ | refine pL_l hS (by first | rfl | assumption) ?_ | refine pL_la hS (by rfl) ?_ | (refine pDr_go hS ?_; clear hS; intro w hS) | (refine pN_bx hS (by rfl) ?_; clear hS; intro a w hS) | refine pA_v (hk := ?_) | fail)
    refine ⟨?_, ?_⟩
    · repeat' (first | (refine pc_state_State_Next (Next_no hS hs hy ?_); clear hS; intro w hS) | (refine pN_neq_s ?_ ?_ <;> intro hc <;> try (exfalso; first | omega | exact hc rfl | exact hc (by assumption) | exact absurd hc (by assumption))) | refine pIf_t ?_ | (refine pN_sa hS (by rfl) (by rfl) (by rfl) ?_; clear hS; intro w hS; try dsimp only at hS) | (refine pN_nz hS ?_; clear hS; intro a w hS) | refine ⟨trivial, ?_⟩ | refine pA_v (hk := ?_) | fail)
      exact hQ _ hS.to
    · repeat' (first | refine ⟨⟨run_la_at hS _ (by rfl) (by rfl), run_la_at (n := 5) hS s.cells rfl rfl, run_l hS (by rfl), trivial⟩, ?_⟩ | (refine pc_state_State_Next (Next_no hS hs hy ?_); clear hS; intro w hS) | (refine pN_neq_s ?_ ?_ <;> intro hc <;> try (exfalso; first | omega | exact hc rfl | exact hc (by assumption) | exact absurd hc (by assumption))) | refine pIf_t ?_ | (refine pN_sa hS (by rfl) (by rfl) (by rfl) ?_; clear hS; intro w hS; try dsimp only at hS) | (refine pN_nz hS ?_; clear hS; intro a w hS) | refine ⟨trivial, ?_⟩ | refine pA_v (hk := ?_) | fail)
      exact hQ _ hS.to
end

end Go.Proofs.YtbgnnjfpiblkmaaGreatDoor

namespace Go.Proofs.YtbgnnjfpiblkmaaGreatDoor
open Go
namespace Z

theorem bitsRd_ok {p : Pr} {t : Nat} {at_ : Int} {N : Nat} (ht : t < 18) (h0 : 0 ≤ at_) (h1 : at_ + 2 ^ N ≤ tabLen p t) : ∀ (n : Nat) {l : List Int}, R.Bits l → l.length + n = N → (bitsRd t at_ n l).Ok p
  | 0, _, _, _ => trivial
  | n + 1, l, hb, hl => by
    have hn := R.nodeL_bd hb
    have p1 : (2 : Int) ^ (l.length + 1) ≤ 2 ^ N := two_le' (by omega)
    have p2 : (0 : Int) < 2 ^ l.length := Int.pow_pos (by omega)
    exact ⟨.inr ⟨ht, by omega, by omega⟩, fun b h => bitsRd_ok ht h0 h1 n (hb.snoc h) (by rw [List.length_append, List.length_cons, List.length_nil]; omega)⟩
theorem treeRd_ok {p : Pr} {back : Bool} {t : Nat} {at_ : Int} {n : Nat} (ht : t < 18) (h0 : 0 ≤ at_) (h1 : at_ + 2 ^ n ≤ tabLen p t) : (treeRd back t at_ n).Ok p :=
  (bitsRd_ok ht h0 h1 n (fun _ h => by cases h) (by simp)).map
theorem dirRd_ok {p : Pr} : ∀ (n : Nat) {v : Int}, (dirRd n v).Ok p
  | 0, _ => trivial
  | n + 1, _ => ⟨.inl rfl, fun _ _ => dirRd_ok n⟩
theorem litGoRd_ok {p : Pr} {f t : Int} (hf : 0 ≤ f ∧ f + 768 ≤ tabLen p 6) : ∀ (i : Nat) {m : Int} {same : Bool}, i ≤ 8 → 1 ≤ m → m < 2 ^ (9 - i) → (litGoRd f t i m same).Ok p
  | 0, _, _, _, _, _ => trivial
  | i + 1, m, same, hi, h1, h2 => by
    have e : 9 - i = (9 - (i + 1)) + 1 := by omega
    have hm : m < 256 := by
      have : (2 : Int) ^ (9 - (i + 1)) ≤ 2 ^ 8 := two_le' (by omega)
      have e8 : (2 : Int) ^ 8 = 256 := by decide
      omega
    refine ⟨.inr ⟨by decide, by split <;> omega, by split <;> omega⟩, fun b hb => litGoRd_ok hf i (by omega) (by omega) ?_⟩
    rw [e, Int.pow_succ]
    omega
theorem litRd_ok {p : Pr} (hp : p.Ok) (s : St) (x : W) : (litRd p s x).Ok p := by
  have hl := (lastOr x 1).toNat_lt
  have hc := context_bd hp x.all.length (lastOr x 1).toNat (by omega) (by omega)
  have e8 : (2 : Int) ^ 8 = 256 := by decide
  unfold litRd
  split
  · exact treeRd_ok (by decide) hc.1 (by omega)
  · exact litGoRd_ok hc 8 (by omega) (by omega) (by decide)
theorem lenRd_ok {p : Pr} (hp : p.Ok) {c : Nat} (hc : c = 7 ∨ c = 11) (pos : Int) : (lenRd c p pos).Ok p := by
  obtain ⟨t0, t1, t2, t3⟩ := tab_c p c hc
  have hpl := place_bd hp pos
  have e3 : (2 : Int) ^ 3 = 8 := by decide
  have e8 : (2 : Int) ^ 8 = 256 := by decide
  refine ⟨.inr ⟨by omega, by omega, by omega⟩, fun b hb => ?_⟩
  rcases hb with rfl | rfl
  · exact (treeRd_ok (by omega) (by omega) (by omega)).map
  · refine ⟨.inr ⟨by omega, by omega, by omega⟩, fun b hb => ?_⟩
    rcases hb with rfl | rfl
    · exact (treeRd_ok (by omega) (by omega) (by omega)).map
    · exact (treeRd_ok (by omega) (by omega) (by omega)).map
theorem distRd_ok (p : Pr) {n : Int} (hn : isLen n) : (distRd n).Ok p := by
  obtain ⟨n1, n2⟩ := hn
  have e6 : (2 : Int) ^ 6 = 64 := by decide
  have e4 : (2 : Int) ^ 4 = 16 := by decide
  have t15 : tabLen p 15 = 256 := rfl
  have t16 : tabLen p 16 = 128 := rfl
  have t17 : tabLen p 17 = 16 := rfl
  refine (treeRd_ok (by decide) (by omega) (by omega)).bind fun s m hs => ?_
  obtain ⟨s0, s1, _⟩ := treeRd_path.1 hs
  rw [e6] at s1
  split
  · trivial
  · split
    · have hr := rest_law s (by omega) (by omega)
      exact (treeRd_ok (by decide) hr.1 (by omega)).map
    · exact (dirRd_ok _).bind fun h m hm => (treeRd_ok (by decide) (by omega) (by omega)).map
theorem symRd_ok {p : Pr} (hp : p.Ok) {s : St} (hs : s.Right) (x : W) : (symRd p s x).Ok p := by
  have hn := hs.num
  have hpl := place_bd hp x.all.length
  have t0 : tabLen p 0 = 192 := rfl
  have t1 : tabLen p 1 = 192 := rfl
  have t2 : tabLen p 2 = 12 := rfl
  have t3 : tabLen p 3 = 12 := rfl
  have t4 : tabLen p 4 = 12 := rfl
  have t5 : tabLen p 5 = 12 := rfl
  refine ⟨.inr ⟨by decide, by omega, by omega⟩, fun b _ => ?_⟩
  dsimp only
  split
  · exact (litRd_ok hp s x).map
  refine ⟨.inr ⟨by decide, by omega, by omega⟩, fun b _ => ?_⟩
  dsimp only
  split
  · exact (lenRd_ok hp (.inl rfl) _).bind fun n m hm => (distRd_ok p (lenRd_path.1 hm).1).map
  refine ⟨.inr ⟨by decide, by omega, by omega⟩, fun b _ => ?_⟩
  dsimp only
  split
  · refine ⟨.inr ⟨by decide, by omega, by omega⟩, fun b _ => ?_⟩
    dsimp only
    split
    · trivial
    · exact (lenRd_ok hp (.inr rfl) _).map
  refine ⟨.inr ⟨by decide, by omega, by omega⟩, fun b _ => ?_⟩
  dsimp only
  split
  · exact (lenRd_ok hp (.inr rfl) _).map
  refine ⟨.inr ⟨by decide, by omega, by omega⟩, fun b _ => ?_⟩
  exact (lenRd_ok hp (.inr rfl) _).map

structure DZ where
  p : Pr
  st : St
  T : Nat → List Int
  x : W
structure DZ.Ok (e : DZ) : Prop where
  p : e.p.Ok
  st : e.st.Right
  T : TabOk e.p e.T
def DZ.new (p : Pr) (dict : Int) : DZ := ⟨p, St.new, T0 p, ⟨dict, []⟩⟩
def DZ.clear (e : DZ) : DZ := ⟨e.p, St.new, T0 e.p, ⟨e.x.size, []⟩⟩
def DZ.reset (e : DZ) (p : Pr) : DZ := if p.Ok then ⟨p, St.new, T0 p, e.x⟩ else e
def DZ.raw (e : DZ) (b : List UInt8) : DZ := ⟨e.p, e.st, e.T, e.x.put b⟩
theorem DZ.Ok.new {p : Pr} (h : p.Ok) (d : Int) : (DZ.new p d).Ok := ⟨h, St.Right.new, TabOk.new p⟩
theorem DZ.Ok.clear {e : DZ} (h : e.Ok) : e.clear.Ok := ⟨h.p, St.Right.new, TabOk.new _⟩
theorem DZ.Ok.reset {e : DZ} (h : e.Ok) (p : Pr) : (e.reset p).Ok := by
  unfold DZ.reset
  split
  · exact ⟨by assumption, St.Right.new, TabOk.new _⟩
  · exact h
theorem DZ.Ok.raw {e : DZ} (h : e.Ok) (b : List UInt8) : (e.raw b).Ok := ⟨h.p, h.st, h.T⟩

structure LS where
  st : St
  x : W
  z : RS
  out : List UInt8
  l : List Y
def LS.step (s : LS) (z : RS) (y : Y) : LS := ⟨s.st.next y, s.x.put (made s.x s.st y), z, s.out ++ made s.x s.st y, s.l ++ [y]⟩
def stepD (p : Pr) (n : Int) (s : LS) : Option LS :=
  match (symRd p s.st s.x).run s.z with
  | none => none
  | some (z, y) => if may s.x s.st y = 0 ∧ size y ≤ n - s.out.length then some (s.step z y) else none
def loopD (p : Pr) (n : Int) : Nat → LS → Option LS
  | 0, s => if (s.out.length : Int) < n then none else some s
  | f + 1, s => if (s.out.length : Int) < n then match stepD p n s with
    | none => none
    | some t => loopD p n f t
    else some s
def DZ.ls (e : DZ) (d : D.S) : LS := ⟨e.st, e.x, ⟨d, e.T⟩, [], []⟩
def DZ.take (e : DZ) (b : List UInt8) (n : Int) : Option (DZ × List Y × List UInt8) :=
  match D.start b with
  | .no _ => none
  | .ok d _ => match loopD e.p n n.toNat (e.ls d) with
    | none => none
    | some t => if t.z.d.k = t.z.d.b.length ∧ t.z.d.C = 0 then some (⟨e.p, t.st, t.z.T, t.x⟩, t.l, t.out) else none

structure LS.Ok (p : Pr) (s : LS) : Prop where
  st : s.st.Right
  z : s.z.Ok p
theorem stepD_some {p : Pr} {n : Int} {s t : LS} (h : stepD p n s = some t) : ∃ z y, (symRd p s.st s.x).run s.z = some (z, y) ∧ may s.x s.st y = 0 ∧ size y ≤ n - s.out.length ∧ t = s.step z y := by
  unfold stepD at h
  split at h
  · cases h
  · rename_i z y e
    split at h
    · rename_i hc
      exact ⟨z, y, e, hc.1, hc.2, by cases h; rfl⟩
    · cases h
theorem LS.Ok.step {p : Pr} (hp : p.Ok) {n : Int} {s t : LS} (hs : s.Ok p) (h : stepD p n s = some t) : t.Ok p ∧ t.z.d.b = s.z.d.b := by
  obtain ⟨z, y, h1, h2, _, rfl⟩ := stepD_some h
  obtain ⟨h3, h4⟩ := Rd.run_ok (symRd_ok hp hs.st s.x) hs.z h1
  exact ⟨⟨hs.st.next (may_err h2), h3⟩, h4⟩

def EZ.valid : EZ → List Y → Prop
  | _, [] => True
  | e, y :: ys => e.may y = 0 ∧ EZ.valid (e.put1 y) ys
def EZ.putV (e : EZ) : List Y → EZ
  | [] => e
  | y :: ys => EZ.putV (e.put1 y) ys
def EZ.outs : EZ → List Y → List UInt8
  | _, [] => []
  | e, y :: ys => made e.x e.st y ++ EZ.outs (e.put1 y) ys
theorem EZ.valid_snoc : ∀ (ys : List Y) (e : EZ) (y : Y), e.valid (ys ++ [y]) ↔ e.valid ys ∧ (e.putV ys).may y = 0
  | [], e, y => by simp [EZ.valid, EZ.putV]
  | a :: ys, e, y => by simp only [List.cons_append, EZ.valid, EZ.putV, EZ.valid_snoc ys]; exact and_assoc.symm
theorem EZ.putV_snoc : ∀ (ys : List Y) (e : EZ) (y : Y), e.putV (ys ++ [y]) = (e.putV ys).put1 y
  | [], e, y => rfl
  | a :: ys, e, y => by simp only [List.cons_append, EZ.putV, EZ.putV_snoc ys]
theorem EZ.putV_p : ∀ (ys : List Y) (e : EZ), (e.putV ys).p = e.p
  | [], e => rfl
  | y :: ys, e => by rw [EZ.putV, EZ.putV_p ys]; rfl
theorem EZ.putV_x : ∀ (ys : List Y) (e : EZ), (e.putV ys).x = e.x.put (e.outs ys)
  | [], e => by simp [EZ.putV, EZ.outs, W.put]
  | y :: ys, e => by rw [EZ.putV, EZ.putV_x ys, EZ.outs]; simp [EZ.put1, W.put]
theorem EZ.Ok.putV : ∀ (ys : List Y) {e : EZ}, e.Ok → e.valid ys → (e.putV ys).Ok ∧ (e.putV ys).s.k ≤ e.s.k + 26 * ys.length
  | [], e, h, _ => ⟨h, by simp [EZ.putV]⟩
  | y :: ys, e, h, hv => by
    obtain ⟨h1, h2⟩ := h.put1 hv.1
    obtain ⟨h3, h4⟩ := EZ.Ok.putV ys h1 hv.2
    refine ⟨h3, ?_⟩
    rw [EZ.putV, List.length_cons]
    omega
def sizes (ys : List Y) : Int := (ys.map size).sum
theorem sizes_cons (y : Y) (ys : List Y) : sizes (y :: ys) = size y + sizes ys := rfl
theorem EZ.outs_len : ∀ (ys : List Y) {e : EZ}, e.valid ys → ((e.outs ys).length : Int) = sizes ys
  | [], e, _ => rfl
  | y :: ys, e, h => by
    rw [EZ.outs, List.length_append, sizes_cons, ← EZ.outs_len ys h.2]
    have := made_len (x := e.x) (s := e.st) (may_err h.1)
    omega
theorem sizes_pos : ∀ (ys : List Y) {e : EZ}, e.valid ys → (ys.length : Int) ≤ sizes ys ∧ sizes ys ≤ 273 * ys.length
  | [], e, _ => by simp [sizes]
  | y :: ys, e, h => by
    have h1 := size_bd (may_err h.1)
    have h2 := sizes_pos ys h.2
    rw [sizes_cons, List.length_cons]
    omega
theorem errY_used {y : Y} : errY (used y) = errY y := by
  unfold used errY
  by_cases h1 : y.Kind = 1
  · simp [h1]
  · by_cases h4 : y.Kind = 4
    · simp [h4]
    · simp [h1, h4]
theorem dist_used (s : St) {y : Y} : dist s (used y) = dist s y := by
  unfold used dist
  by_cases h1 : y.Kind = 1
  · simp [h1]
  · by_cases h4 : y.Kind = 4
    · simp [h4]
    · simp [h1, h4]
theorem kind_used {y : Y} : (used y).Kind = y.Kind := by
  unfold used
  by_cases h1 : y.Kind = 1
  · simp [h1]
  · by_cases h4 : y.Kind = 4
    · simp [h4]
    · simp [h1, h4]
theorem size_used {y : Y} : size (used y) = size y := by
  unfold size
  rw [errY_used, kind_used]
  split
  · rfl
  · split
    · rename_i h
      unfold used
      rw [if_neg (by omega), if_neg (by omega)]
    · rfl
theorem may_used (x : W) (s : St) {y : Y} : may x s (used y) = may x s y := by
  unfold may
  rw [errY_used, kind_used, dist_used]
theorem made_used (x : W) (s : St) {y : Y} : made x s (used y) = made x s y := by
  unfold made
  rw [kind_used, dist_used, size_used]
  split
  · rename_i h; simp [used, h]
  · rfl
theorem next_used (s : St) {y : Y} : s.next (used y) = s.next y := by
  unfold St.next
  rw [kind_used]
  split
  · rename_i h; simp [used, h]
  · split
    · rename_i h; simp [used, h]
    · rfl

theorem EZ.fol {b : List UInt8} {f : R.S} (hb : D.Begins b f) {e : EZ} (he : e.Ok) {y : Y} (hm : e.may y = 0) {z : RS} (hf : D.Fol b f e.s z.d) (hT : e.T = z.T) (hi : D.In (e.put1 y).s f) :
    D.In e.s f ∧ ∃ w, (symRd e.p e.st e.x).run z = some (w, used y) ∧ D.Fol b f (e.put1 y).s w.d ∧ (e.put1 y).T = w.T := by
  have hy := may_err hm
  have ho := symOps_ok he.p he.st e.x hy
  have hp := symRd_bits (p := e.p) (s := e.st) (x := e.x) hy
  have e1 : e.es y = Z.run ⟨e.s, e.T⟩ (allBits (symOps e.p e.st e.x y)) := runO_bits _ _
  have e2 : (e.put1 y).s = (e.es y).s := rfl
  have e3 : (e.put1 y).T = (e.es y).T := rfl
  rw [e2, e1] at hi
  rw [e2, e3, e1]
  exact Rd.fol hb (symRd e.p e.st e.x) (es := ⟨e.s, e.T⟩) hp ((symRd_ok he.p he.st e.x).path hp) ⟨he.s, he.T⟩ hf hT hi

theorem Twin.start {b : List UInt8} {d : D.S} (h : D.start b = .ok d ()) : Twin b R.S.new d := by
  obtain ⟨h1, h2, h3⟩ := D.start_ok h
  unfold D.start at h
  split at h
  · cases h
  · rename_i h5
    split at h
    · cases h
    · rename_i hc
      cases h
      refine ⟨rfl, rfl, ?_, rfl⟩
      have hb0 : b[0]? = some 0 := by
        rw [not_or] at hc
        exact Decidable.not_not.1 hc.1
      have hsplit : b.take 5 = 0 :: (b.drop 1).take 4 := by
        cases b with
        | nil => simp at hb0
        | cons x l => simp at hb0; subst hb0; rfl
      have hn := R.num_append [0] ((b.drop 1).take 4)
      simp only
      rw [hsplit]
      rw [List.singleton_append] at hn
      rw [hn, show R.num [0] = 0 from rfl, Int.zero_mul]
      rfl
end Z
end Go.Proofs.YtbgnnjfpiblkmaaGreatDoor

namespace Go.Proofs.YtbgnnjfpiblkmaaGreatDoor
open Go
namespace Z

theorem bit_no {d : D.S} {c e : Int} (h : d.bit c = .no e) : e ≠ 0 := by
  unfold D.S.bit at h
  split at h
  · cases h
  · cases h; decide
theorem direct_no : ∀ (n : Nat) {d : D.S} {v e : Int}, d.direct v n = .no e → e ≠ 0
  | 0, d, v, e, h => by cases h
  | n + 1, d, v, e, h => by
    simp only [D.S.direct] at h
    split at h
    · cases h; decide
    · split at h
      · cases h; decide
      · exact direct_no n h
theorem ask_bitQ {z : RS} {t : Nat} {i : Int} (hne : t ≠ 18) (h : 0 ≤ i ∧ i < (z.T t).length) :
    z.ask t i = if (z.d.bitQ (z.T t) i).2.2.2 = 0 then some (⟨(z.d.bitQ (z.T t) i).1, upd z.T t (z.d.bitQ (z.T t) i).2.1⟩, (z.d.bitQ (z.T t) i).2.2.1) else none := by
  unfold RS.ask D.S.bitQ
  rw [if_neg hne, if_pos h]
  cases e : z.d.bit (B.bound z.d.R ((z.T t).getD i.toNat 0)) with
  | ok d v => simp
  | no e' =>
    have := bit_no e
    simp [this]
theorem dirRd_run : ∀ (n : Nat) {s : RS} {v : Int}, (dirRd n v).run s = match s.d.direct v n with
    | .ok d u => some (⟨d, s.T⟩, u)
    | .no _ => none
  | 0, s, v => rfl
  | n + 1, s, v => by
    simp only [dirRd, Rd.run, RS.ask, if_true, direct_1, D.S.direct]
    by_cases h : s.d.one.R ≤ s.d.one.C
    · simp only [if_pos h]
    · simp only [if_neg h]
      cases e : s.d.one.widen with
      | none => rfl
      | some d =>
        simp only [Int.mul_zero, Int.zero_add]
        exact dirRd_run n (s := ⟨d, s.T⟩) (v := 2 * v + s.d.bitAt (s.d.R / 2))
theorem dirQ_run {s : RS} {n : Nat} (hn : n ≤ 32) : (dirRd n 0).run s = if (s.d.dirQ n).2.2 = 0 then some (⟨(s.d.dirQ n).1, s.T⟩, (s.d.dirQ n).2.1) else none := by
  rw [dirRd_run]
  unfold D.S.dirQ
  rw [if_pos (show 0 ≤ (n : Int) ∧ (n : Int) ≤ 32 by omega), Int.toNat_natCast]
  cases e : s.d.direct 0 n with
  | ok d u => simp
  | no e' =>
    have := direct_no n e
    simp [this]
end Z
end Go.Proofs.YtbgnnjfpiblkmaaGreatDoor

namespace Go.Proofs.YtbgnnjfpiblkmaaGreatDoor
open Go
namespace Z
theorem ask_rel {w : Pre} (hw : PreOk w) {n : Nat} (hn : 768 ≤ n) {p : Pr} (hp : p.Ok) {N : Key → List Int} {y : RS} (hy : y.Ok p) (hr : Rel w n p N y.T) {t : Nat} {i : Int} (ht : t < 18) (h0 : 0 ≤ i) (h1 : i < tabLen p t)
    {U : D.S × List Int × Int × Int} (hU : U = y.d.bitQ (N (keyU w (un t i.toNat))) (pl t i.toNat)) :
    ∃ y' : RS, y'.Ok p ∧ y'.d.b = y.d.b ∧ y'.d = U.1 ∧ Rel w n p (updN N (keyU w (un t i.toNat)) U.2.1) y'.T ∧ (U.2.2.1 = 0 ∨ U.2.2.1 = 1) ∧ y.ask t i = if U.2.2.2 = 0 then some (y', U.2.2.1) else none := by
  have hlen := hy.T.len t ht
  have hu := un_bd hp ht (i := i.toNat) (by omega)
  have hN := hr.get t ht i.toNat (by omega)
  have hNl := hr.len (keyU w (un t i.toNat))
  have hTg : (y.T t)[i.toNat]? = some ((y.T t).getD i.toNat 0) := by
    rw [List.getD_eq_getElem?_getD, List.getElem?_eq_getElem (show i.toNat < (y.T t).length by omega)]; rfl
  rw [hTg] at hN
  have hg : (N (keyU w (un t i.toNat))).getD (pl t i.toNat) 0 = (y.T t).getD i.toNat 0 := by rw [List.getD_eq_getElem?_getD, hN]; rfl
  have hok := D.bitQ_ok hy.d (hr.fine (keyU w (un t i.toNat))) (pl t i.toNat)
  have h01 := D.bitQ_v (st := y.d) (l := N (keyU w (un t i.toNat))) (i := pl t i.toNat)
  have hask := ask_bitQ (z := y) (t := t) (i := i) (by omega) (by omega)
  have hpb := (hy.T.fine t).get hTg
  rw [hask]
  rw [← hU] at hok h01
  unfold D.S.bitQ at hU ⊢
  rw [if_pos (show (0 : Int) ≤ (pl t i.toNat : Int) ∧ (pl t i.toNat : Int) < ((N (keyU w (un t i.toNat))).length : Int) by omega), Int.toNat_natCast, hg] at hU
  rw [if_pos (show 0 ≤ i ∧ i < ((y.T t).length : Int) by omega)]
  cases e : y.d.bit (B.bound y.d.R ((y.T t).getD i.toNat 0)) with
  | ok d v =>
    rw [e] at hU
    subst hU
    have hv : 31 ≤ B.next ((y.T t).getD i.toNat 0) v ∧ B.next ((y.T t).getD i.toNat 0) v ≤ 2017 := ⟨B.next_lo _ hpb.1 hpb.2, B.next_hi _ hpb.1 hpb.2⟩
    refine ⟨⟨d, upd y.T t ((y.T t).set i.toNat (B.next ((y.T t).getD i.toNat 0) v))⟩, ⟨hok.1, ⟨fun k hk => ?_, fun k => ?_⟩⟩, hok.2.1, rfl, hr.upd hw hn hp hy.T.len ht (by omega) _ hv, h01, rfl⟩
    · show (upd y.T t _ k).length = _
      unfold upd
      split
      · rename_i hkt; rw [hkt, List.length_set, hlen]
      · exact hy.T.len k hk
    · show B.Fine (upd y.T t _ k)
      unfold upd
      split
      · exact (hy.T.fine t).set _ hv
      · exact hy.T.fine k
  | no e' =>
    rw [e] at hU
    subst hU
    have hne := bit_no e
    have eN : updN N (keyU w (un t i.toNat)) (N (keyU w (un t i.toNat))) = N := by
      funext k
      unfold updN
      split
      · rename_i h; rw [h]
      · rfl
    refine ⟨y, hy, rfl, rfl, by rw [eN]; exact hr, h01, ?_⟩
    simp only [if_neg hne]
end Z
end Go.Proofs.YtbgnnjfpiblkmaaGreatDoor

namespace Go.Proofs.YtbgnnjfpiblkmaaGreatDoor
open Go
set_option maxRecDepth 100000

end Go.Proofs.YtbgnnjfpiblkmaaGreatDoor

namespace Go.Proofs.YtbgnnjfpiblkmaaGreatDoor
open Go
attribute [local irreducible] oMv oV oU oCall oCallV oBi oBin oUn oLoad oStore oNil oFld oField oIdx oIndex oPick oAlloc oBox oBuild oBs oConv oMk oSl oExt oFn oIface oMap oLook oMapUp oRange oNext oEntry oInv oAssert oPanic oRes pN pA pL pDr pIf gA pGd

section
variable {E w : World} {M : List HA} {Q : Value → World → Prop} {d p : Nat}

end

end Go.Proofs.YtbgnnjfpiblkmaaGreatDoor

namespace Go.Proofs.YtbgnnjfpiblkmaaGreatDoor
open Go

def Rsd (p : Z.Pr) (B : List UInt8) (dd : Nat) (q : Nat → Nat) (z : Option Z.RS) : HA := fun h => ∃ y : Z.RS, (y.Ok p ∧ y.d.b = B ∧ ∀ s, z = some s → y = s) ∧ Sats [Dec dd y.d, tabs q y.T] h
section
variable {E w : World} {M : List HA} {p : Z.Pr} {B : List UInt8} {dd : Nat} {q : Nat → Nat} {z : Option Z.RS} {y : Z.RS}
theorem Rsd.opn (hS : Sat E w (Rsd p B dd q z :: M)) : ∃ y : Z.RS, y.Ok p ∧ y.d.b = B ∧ (∀ s, z = some s → y = s) ∧ Sat E w (Dec dd y.d :: tabs q y.T :: M) := by
  obtain ⟨y, hS⟩ := hS.ex
  obtain ⟨h1, ⟨hA, _⟩, _⟩ := hS.head
  exact ⟨y, hA.1, hA.2.1, hA.2.2, hS.open_ (M := [_, _]) fun _ h => h.2⟩
theorem Rsd.shut (hS : Sat E w (Dec dd y.d :: tabs q y.T :: M)) (h1 : y.Ok p) (h2 : y.d.b = B) (h3 : ∀ s, z = some s → y = s) : Sat E w (Rsd p B dd q z :: M) :=
  Sat.shut (M := [_, _]) hS fun _ h => ⟨y, ⟨h1, h2, h3⟩, h⟩
end
attribute [local irreducible] oMv oV oU oCall oCallV oBi oBin oUn oLoad oStore oNil oFld oField oIdx oIndex oPick oAlloc oBox oBuild oBs oConv oMk oSl oExt oFn oIface oMap oLook oMapUp oRange oNext oEntry oInv oAssert oPanic oRes pN pA pL pDr pIf gA pGd

section
variable {E w W : World} {M N : List HA} {Q : Value → World → Prop} {p : Z.Pr} {s : Z.St} {x : Z.W} {B : List UInt8} {r dec dd t wd : Nat} {q : Nat → Nat} {z : Option Z.RS}

theorem dirQ_bd {d : D.S} {n : Nat} (hn : n ≤ 32) : 0 ≤ (d.dirQ n).2.1 ∧ (d.dirQ n).2.1 < 2 ^ n := by
  unfold D.S.dirQ
  rw [if_pos (by omega), Int.toNat_natCast]
  have p0 : (0 : Int) < 2 ^ n := Int.pow_pos (by omega)
  cases e : d.direct 0 n with
  | no e' => exact ⟨Int.le_refl _, p0⟩
  | ok t u =>
    have key : ∀ (n : Nat) {d t : D.S} {v u : Int}, 0 ≤ v → d.direct v n = .ok t u → v * 2 ^ n ≤ u ∧ u < (v + 1) * 2 ^ n := by
      intro n
      induction n with
      | zero => intro d t v u hv e; cases e; simp; omega
      | succ n ih =>
        intro d t v u hv e
        simp only [D.S.direct] at e
        split at e
        · cases e
        · split at e
          · cases e
          · have h01 := D.bitAt_01 d (d.R / 2)
            have := ih (by omega) e
            have p1 : (0 : Int) < 2 ^ n := Int.pow_pos (by omega)
            rw [Int.pow_succ]
            generalize (2 : Int) ^ n = W at *
            rcases h01 with h | h <;> rw [h] at this
            · constructor <;> grind
            · constructor <;> grind
    have := key n (Int.le_refl 0) e
    simp only
    omega
end

end Go.Proofs.YtbgnnjfpiblkmaaGreatDoor

namespace Go.Proofs.YtbgnnjfpiblkmaaGreatDoor
open Go

theorem pN_ifc {en : Nat} {w : World} {K : Value → World → Prop} (hk : K (codingV en) w) : pN Tryz.prog (oIface 136 (.agg #[pz en])) w K := by
  have : (oIface 136 (.agg #[pz en])).run Tryz.prog w = .ok (.value (codingV en)) w := by kernel_rfl
  rw [pN_def, this, rN_value]; exact hk
theorem pN_ifs {en : Nat} {w : World} {K : Value → World → Prop} (hk : K (costingV en) w) : pN Tryz.prog (oIface 156 (pz en)) w K := by
  have : (oIface 156 (pz en)).run Tryz.prog w = .ok (.value (costingV en)) w := by kernel_rfl
  rw [pN_def, this, rN_value]; exact hk

def LEnc (b : Nat) (e : Z.EZ) : HA := fun h => ∃ k : Nat × Nat × Nat × (Nat → Nat), e.Ok ∧ Sats [cel b ⟨128, encCells k.1 k.2.1 k.2.2.1⟩, cel k.1 ⟨141, tbCells e.p e.st k.2.2.2⟩, Win k.2.1 e.x, Enc k.2.2.1 e.s, tabs k.2.2.2 e.T] h
section
variable {E w : World} {M : List HA} {b t wd en : Nat} {q : Nat → Nat} {e : Z.EZ}
theorem LEnc.opn (hS : Sat E w (LEnc b e :: M)) : e.Ok ∧ ∃ t wd en q, Sat E w (cel b ⟨128, encCells t wd en⟩ :: cel t ⟨141, tbCells e.p e.st q⟩ :: Win wd e.x :: Enc en e.s :: tabs q e.T :: M) := by
  obtain ⟨k, hS⟩ := hS.ex
  obtain ⟨h1, ⟨hA, _⟩, _⟩ := hS.head
  exact ⟨hA, k.1, k.2.1, k.2.2.1, k.2.2.2, hS.open_ (M := [_, _, _, _, _]) fun _ h => h.2⟩
theorem LEnc.shut (hS : Sat E w (cel b ⟨128, encCells t wd en⟩ :: cel t ⟨141, tbCells e.p e.st q⟩ :: Win wd e.x :: Enc en e.s :: tabs q e.T :: M)) (he : e.Ok) : Sat E w (LEnc b e :: M) :=
  Sat.shut (M := [_, _, _, _, _]) hS fun _ h => ⟨(t, wd, en, q), he, h⟩
theorem cel_conv {E w : World} {M : List HA} {t : Nat} {o o' : Ob} (h : o = o') (hS : Sat E w (cel t o :: M)) : Sat E w (cel t o' :: M) := h ▸ hS
end
attribute [local irreducible] oMv oV oU oCall oCallV oBi oBin oUn oLoad oStore oNil oFld oField oIdx oIndex oPick oAlloc oBox oBuild oBs oConv oMk oSl oExt oFn oIface oMap oLook oMapUp oRange oNext oEntry oInv oAssert oPanic oRes pN pA pL pDr pIf gA pGd

section
variable {E w W : World} {M N : List HA} {Q : Value → World → Prop} {b : Nat} {e : Z.EZ} {y : Z.Y}

theorem LNew_in {p : Z.Pr} (hS : Sat E w M) (hp : p.Ok) (d : Int) (h0 : 1 ≤ d) (h1 : d ≤ 4294967295) (hQ : ∀ b w, Sat E w (LEnc b (Z.EZ.new p d) :: M) → Q (.tuple #[pz b, .int .i64 0]) w) :
    Calls Tryz.prog 13 #[.agg #[.int .i64 p.lc, .int .i64 p.lp, .int .i64 p.pb], .int .i64 d] w (retP Q) := by
  refine lzenc_New.calls ?_
  unfold lzenc_New.F
  repeat' (first | (refine pc_state_PropsByte (PropsByte_in p hp hS ?_); clear hS; intro w hS) | (refine pc_window_New (WNew_in hS d h0 h1 ?_); clear hS; intro wd w hS) | (refine pc_model_New (MNew_ok hp hS ?_); clear hS; intro t q w hS) | (refine pc_rcenc_New (NewE_ok hS ?_); clear hS; intro en w hS) | (refine pN_neq_s ?_ ?_ <;> intro hc <;> try (exfalso; first | omega | exact hc rfl | exact hc (by assumption) | exact absurd hc (by assumption))) | refine pIf_f ?_ | refine pN_la hS (by rfl) ?_ | (refine pN_bx hS (by rfl) ?_; clear hS; intro a w hS) | refine pN_v (hk := ?_) | fail)
  exact hQ _ _ (LEnc.shut (e := ⟨p, Z.St.new, Z.T0 p, ⟨d, []⟩, R.S.new⟩) (t := t) (wd := wd) (en := en) (q := q) hS.to (Z.EZ.Ok.new hp d))
theorem LNew_no {p : Z.Pr} (hS : Sat E w M) (d : Int) (hpb : -9223372036854775808 ≤ p.lc ∧ p.lc < 9223372036854775808) (h : ¬ (p.Ok ∧ 1 ≤ d ∧ d ≤ 4294967295)) (hQ : ∀ w, Sat E w M → Q (.tuple #[.pointer none, .int .i64 (if p.Ok then 7 else 6)]) w) :
    Calls Tryz.prog 13 #[.agg #[.int .i64 p.lc, .int .i64 p.lp, .int .i64 p.pb], .int .i64 d] w (retP Q) := by
  refine lzenc_New.calls ?_
  unfold lzenc_New.F
  by_cases hp : p.Ok
  · rw [if_pos hp] at hQ
    repeat' (first | (refine pc_state_PropsByte (PropsByte_in p hp hS ?_); clear hS; intro w hS) | (refine pc_window_New (WNew_no d (fun hd => h ⟨hp, hd⟩) ?_)) | (refine pN_neq_s ?_ ?_ <;> intro hc <;> try (exfalso; first | omega | exact hc rfl | exact hc (by assumption) | exact absurd hc (by assumption))) | refine pIf_t ?_ | refine pIf_f ?_ | refine pN_la hS (by rfl) ?_ | (refine pN_bx hS (by rfl) ?_; clear hS; intro a w hS) | refine pN_v (hk := ?_) | fail)
    exact hQ _ hS.to
  · rw [if_neg hp] at hQ
    repeat' (first | (refine pc_state_PropsByte (PropsByte_no p hp hpb hS ?_); clear hS; intro w hS) | (refine pN_neq_s ?_ ?_ <;> intro hc <;> try (exfalso; first | omega | exact hc rfl | exact hc (by assumption) | exact absurd hc (by assumption))) | refine pIf_t ?_ | refine pN_la hS (by rfl) ?_ | (refine pN_bx hS (by rfl) ?_; clear hS; intro a w hS) | refine pN_v (hk := ?_) | fail)
    exact hQ _ hS.to

theorem LSize_ok (hS : Sat E w (LEnc b e :: M)) (hk : e.s.k ≤ 140737488355328) (hQ : ∀ w, Sat E w (LEnc b e :: M) → Q (.int .i64 (e.s.k + 5 : Nat)) w) :
    Calls Tryz.prog 32 #[pz b] w (retP Q) := by
  refine lzenc_Encoder_Size.calls ?_
  unfold lzenc_Encoder_Size.F
  obtain ⟨he, t, wd, en, q, hS⟩ := LEnc.opn hS
  repeat' (first | (refine pc_rcenc_Encoder_Size (Size_ok (hS.fd (Enc en)) hk ?_); clear hS; intro w hS) | refine pN_l hS (by first | rfl | assumption) ?_ | refine pN_v (hk := ?_) | fail)
  exact hQ _ (LEnc.shut (t := t) (wd := wd) (en := en) (q := q) hS.to he)

theorem LCut_ok (hS : Sat E w (LEnc b e :: M)) (hk : e.s.k + 18 ≤ 140737488355328) (hQ : ∀ s w, Sat E w (rows cd_uint8 s e.s.bytes :: LEnc b e.cut :: M) → Q (.slice s.a e.s.bytes.length s.c) w) :
    Calls Tryz.prog 21 #[pz b] w (retP Q) := by
  refine lzenc_Encoder_Cut.calls ?_
  unfold lzenc_Encoder_Cut.F
  obtain ⟨he, t, wd, en, q, hS⟩ := LEnc.opn hS
  repeat' (first | (refine pc_rcenc_Encoder_Bytes (Bytes_ok (hS.fd (Enc en)) hk ?_); clear hS; intro sl w hS) | (refine pc_rcenc_New (NewE_ok hS ?_); clear hS; intro en2 w hS) | refine pN_l hS (by first | rfl | assumption) ?_ | (refine pN_s hS (by first | exact Nat.le_of_ble_eq_true rfl | assumption) (by rfl) ?_; clear hS; intro w hS; try simp only [List.set_cons_zero, List.set_cons_succ] at hS) | refine pN_v (hk := ?_) | fail)
  have hS : Sat E w (cel b ⟨128, encCells t wd en2⟩ :: cel t ⟨141, tbCells e.p e.st q⟩ :: Win wd e.x :: Enc en2 R.S.new :: tabs q e.T :: rows cd_uint8 sl e.s.bytes :: M) := hS.to
  have hS := LEnc.shut (e := ⟨e.p, e.st, e.T, e.x, R.S.new⟩) hS he.cut
  exact hQ _ _ (hS.perm (List.Perm.swap _ _ _))

theorem LReset_in {p : Z.Pr} (hp : p.Ok) (hS : Sat E w (LEnc b e :: M)) (hQ : ∀ w, Sat E w (LEnc b (e.reset p) :: M) → Q (.int .i64 0) w) :
    Calls Tryz.prog 26 #[pz b, .agg #[.int .i64 p.lc, .int .i64 p.lp, .int .i64 p.pb]] w (retP Q) := by
  refine lzenc_Encoder_Reset.calls ?_
  unfold lzenc_Encoder_Reset.F
  obtain ⟨he, t, wd, en, q, hS⟩ := LEnc.opn hS
  have er : e.reset p = ⟨p, Z.St.new, Z.T0 p, e.x, e.s⟩ := by rw [Z.EZ.reset, if_pos hp]
  have he2 := he.reset p
  rw [er] at hQ he2
  repeat' (first | (refine pc_state_PropsByte (PropsByte_in p hp hS ?_); clear hS; intro w hS) | (refine pc_model_New (MNew_ok hp hS ?_); clear hS; intro t2 q2 w hS) | (refine pN_neq_s ?_ ?_ <;> intro hc <;> try (exfalso; first | omega | exact hc rfl | exact hc (by assumption) | exact absurd hc (by assumption))) | refine pIf_f ?_ | refine pN_la hS (by rfl) ?_ | (refine pN_s hS (by first | exact Nat.le_of_ble_eq_true rfl | assumption) (by rfl) ?_; clear hS; intro w hS; try simp only [List.set_cons_zero, List.set_cons_succ] at hS) | (refine pN_bx hS (by rfl) ?_; clear hS; intro a w hS) | refine pN_v (hk := ?_) | fail)
  exact hQ _ (LEnc.shut (e := ⟨p, Z.St.new, Z.T0 p, e.x, e.s⟩) (t := t2) (wd := wd) (en := en) (q := q2) hS.to he2)
theorem LReset_no {p : Z.Pr} (hp : ¬ p.Ok) (hpb : -9223372036854775808 ≤ p.lc ∧ p.lc < 9223372036854775808) (hS : Sat E w (LEnc b e :: M)) (hQ : ∀ w, Sat E w (LEnc b e :: M) → Q (.int .i64 6) w) :
    Calls Tryz.prog 26 #[pz b, .agg #[.int .i64 p.lc, .int .i64 p.lp, .int .i64 p.pb]] w (retP Q) := by
  refine lzenc_Encoder_Reset.calls ?_
  unfold lzenc_Encoder_Reset.F
  repeat' (first | (refine pc_state_PropsByte (PropsByte_no p hp hpb hS ?_); clear hS; intro w hS) | (refine pN_neq_s ?_ ?_ <;> intro hc <;> try (exfalso; first | omega | exact hc rfl | exact hc (by assumption) | exact absurd hc (by assumption))) | refine pIf_t ?_ | refine pN_la hS (by rfl) ?_ | (refine pN_bx hS (by rfl) ?_; clear hS; intro a w hS) | refine pN_v (hk := ?_) | fail)
  exact hQ _ hS.to

theorem LClear_ok (hS : Sat E w (LEnc b e :: M)) (hQ : ∀ w, Sat E w (LEnc b e.clear :: M) → Q (.tuple #[]) w) :
    Calls Tryz.prog 28 #[pz b] w (retP Q) := by
  refine lzenc_Encoder_Clear.calls ?_
  unfold lzenc_Encoder_Clear.F
  obtain ⟨he, t, wd, en, q, hS⟩ := LEnc.opn hS
  repeat' (first | refine pN_la_at (n := 3) hS e.p.cells rfl rfl ?_ | (refine pc_model_New (MNew_ok he.p hS ?_); clear hS; intro t2 q2 w hS) | (refine pc_window_Window_Clear (WClear_ok (hS.fd (Win wd)) ?_); clear hS; intro w hS) | refine pN_l hS (by first | rfl | assumption) ?_ | (refine pN_s hS (by first | exact Nat.le_of_ble_eq_true rfl | assumption) (by rfl) ?_; clear hS; intro w hS; try simp only [List.set_cons_zero, List.set_cons_succ] at hS) | refine pN_v (hk := ?_) | fail)
  exact hQ _ (LEnc.shut (e := ⟨e.p, Z.St.new, Z.T0 e.p, ⟨e.x.size, []⟩, e.s⟩) (t := t2) (wd := wd) (en := en) (q := q2) hS.to he.clear)

set_option maxHeartbeats 2000000 in
theorem LCost_ok (hG : Glo W) (hS : Sat E w (LEnc b e :: M)) [h : Has (old W) M N] (hn : e.x.all.length ≤ 4611686018427387904)
    (hQ : ∀ w, Sat E w (LEnc b e :: M) → Q (.tuple #[.int .i64 (e.cost y), .int .i64 (e.may y)]) w) :
    Calls Tryz.prog 19 #[pz b, .agg #[.int .i64 y.Kind, bv y.Byte, .int .i64 y.Len, .int .i64 y.Dist]] w (retP Q) := by
  refine lzenc_Encoder_Cost.calls ?_
  unfold lzenc_Encoder_Cost.F
  obtain ⟨he, t, wd, en, q, hS⟩ := LEnc.opn hS
  by_cases hm : e.may y = 0
  · have hy := Z.may_err hm
    have hcost : e.cost y = Z.costO e.T (e.ops y) := by rw [Z.EZ.cost, if_pos hm]
    have hm' : Z.may e.x e.st y = 0 := hm
    rw [hcost, hm] at hQ
    repeat' (first | (refine pc_lzenc_Encoder_may (may_ok hG he.st (hS.fd3 (cel b) (cel t) (Win wd)) ?_); rw [hm']; clear hS; intro w hS) | refine pN_ifs ?_ | (refine pN_neq_s ?_ ?_ <;> intro hc <;> try (exfalso; first | omega | exact hc rfl | exact hc (by assumption) | exact absurd hc (by assumption))) | refine pIf_f ?_ | refine pN_la hS (by rfl) ?_ | (refine pN_nz hS ?_; clear hS; intro a w hS) | (refine pN_bx hS (by rfl) ?_; clear hS; intro a w hS) | fail)
    have hS := cstX.shut (p := e.p) (a := a) (q := q) (T := e.T) (m := []) (fun _ h => (by cases h)) (hS.hs2 (cel a ⟨155, [.int .i64 0]⟩) (tabs q e.T)) rfl
    refine pc_lzenc_Encoder_code (code_ok (X := cstX e.p a q e.T) (cst_snk he.p he.T) he.p he.st hy hS hn fun w hS => ?_)
    obtain ⟨_, hS⟩ := cstX.opn hS
    repeat' (first | refine pN_l hS (by first | rfl | assumption) ?_ | refine pN_v (hk := ?_) | fail)
    exact hQ _ (LEnc.shut (t := t) (wd := wd) (en := en) (q := q) hS.to he)
  · have hcost : e.cost y = 0 := by rw [Z.EZ.cost, if_neg hm]
    rw [hcost] at hQ
    have hm' : ¬ Z.may e.x e.st y = 0 := hm
    repeat' (first | (refine pc_lzenc_Encoder_may (may_ok hG he.st (hS.fd3 (cel b) (cel t) (Win wd)) ?_); clear hS; intro w hS) | (refine pN_neq_s ?_ ?_ <;> intro hc <;> try (exfalso; first | omega | exact hc rfl | exact hc (by assumption) | exact absurd hc (by assumption))) | refine pIf_t ?_ | refine pN_la hS (by rfl) ?_ | (refine pN_bx hS (by rfl) ?_; clear hS; intro a w hS) | fail)
    exact hQ _ (LEnc.shut (t := t) (wd := wd) (en := en) (q := q) hS.to he)

set_option maxHeartbeats 2000000 in
theorem LPut_ok (hG : Glo W) (hS : Sat E w (LEnc b e :: M)) [h : Has (old W) M N] (hn : e.x.all.length + 273 ≤ 4611686018427387904) (hk : e.s.k + 1000 ≤ 140737488355328)
    (hQ : ∀ w, Sat E w (LEnc b (e.put y) :: M) → Q (.int .i64 (e.may y)) w) :
    Calls Tryz.prog 17 #[pz b, .agg #[.int .i64 y.Kind, bv y.Byte, .int .i64 y.Len, .int .i64 y.Dist]] w (retP Q) := by
  refine lzenc_Encoder_Put.calls ?_
  unfold lzenc_Encoder_Put.F
  obtain ⟨he, t, wd, en, q, hS⟩ := LEnc.opn hS
  by_cases hm : e.may y = 0
  · have hy := Z.may_err hm
    have hput : e.put y = e.put1 y := by rw [Z.EZ.put, if_pos hm]
    have hm' : Z.may e.x e.st y = 0 := hm
    rw [hput, hm] at hQ
    repeat' (first | (refine pc_lzenc_Encoder_may (may_ok hG he.st (hS.fd3 (cel b) (cel t) (Win wd)) ?_); rw [hm']; clear hS; intro w hS) | refine pN_ifc ?_ | refine pL_la_at hS _ (by rfl) (by rfl) ?_ | refine ⟨⟨run_la_at hS _ (by rfl) (by rfl), trivial⟩, ?_⟩ | (refine pN_neq_s ?_ ?_ <;> intro hc <;> try (exfalso; first | omega | exact hc rfl | exact hc (by assumption) | exact absurd hc (by assumption))) | refine pIf_f ?_ | refine pL_l hS (by first | rfl | assumption) ?_ | refine pN_la hS (by rfl) ?_ | (refine pDr_go hS ?_; clear hS; intro w hS) | (refine pN_bx hS (by rfl) ?_; clear hS; intro a w hS) | refine pN_v (hk := ?_) | refine pA_v (hk := ?_) | fail)
    have hS := codX.shut (p := e.p) (en := en) (q := q) (z := ⟨e.s, e.T⟩) (m := []) (fun _ h => (by cases h)) (hS.hs2 (Enc en e.s) (tabs q e.T)) rfl
    refine pc_lzenc_Encoder_code (code_ok (X := codX e.p en q ⟨e.s, e.T⟩) (cod_snk he.p ⟨he.s, he.T⟩ hk) he.p he.st hy hS (by omega) fun w hS => ?_)
    obtain ⟨_, hS⟩ := codX.opn hS
    have hput1 := (he.put1 hm).1
    unfold Z.EZ.put1 Z.EZ.es Z.EZ.ops at hQ hput1
    generalize Z.runO ⟨e.s, e.T⟩ (Z.symOps e.p e.st e.x y) = zz at *
    repeat' (first | refine pL_la_at hS _ (by rfl) (by rfl) ?_ | refine ⟨trivial, ?_⟩ | refine pL_l hS (by first | rfl | assumption) ?_ | (refine pDr_go hS ?_; clear hS; intro w hS) | refine ⟨trivial, ?_⟩ | refine pA_v (hk := ?_) | fail)
    refine ⟨?_, ?_⟩
    · repeat' (first | (refine pc_symbol_Apply (Apply_in hG (hS.fd (Win wd)) he.st hm' hn ?_); clear hS; intro s' w hS) | (refine pN_sa hS (by rfl) (by rfl) (by rfl) ?_; clear hS; intro w hS; try dsimp only at hS) | (refine pN_nz hS ?_; clear hS; intro a w hS) | refine ⟨trivial, ?_⟩ | refine pA_v (hk := ?_) | fail)
      refine ⟨fun w => Sat E w (cel b ⟨128, encCells t wd en⟩ :: cel t ⟨141, tbCells e.p (e.st.next y) q⟩ :: Win wd (e.x.put (Z.made e.x e.st y)) :: Enc en zz.s :: tabs q zz.T :: M), ?_, ?_⟩
      · repeat' (first | refine pL_la_at (n := 5) hS (e.st.next y).cells rfl rfl ?_ | (refine pN_sa_at (us := (e.st.next y).cells) hS rfl (Nat.le_of_ble_eq_true rfl) rfl ?_; clear hS; intro w hS) | (refine pN_eql_s ?_ ?_ <;> intro hc <;> try (exfalso; first | omega | exact hc rfl | exact hc (by assumption) | exact absurd hc (by assumption))) | refine pIf_t ?_ | refine pL_l hS (by first | rfl | assumption) ?_ | (refine pDr_go hS ?_; clear hS; intro w hS) | refine ⟨trivial, ?_⟩ | refine pA_v (hk := ?_) | fail)
        have hS := cel_conv (o' := ⟨141, tbCells e.p (e.st.next y) q⟩) rfl hS
        exact hS.to
      · clear hS
        rintro _ w hS
        exact hQ _ (LEnc.shut (e := ⟨e.p, e.st.next y, zz.T, e.x.put (Z.made e.x e.st y), zz.s⟩) (t := t) (wd := wd) (en := en) (q := q) hS.to hput1)
    · repeat' (first | refine ⟨⟨run_la_at hS _ (by rfl) (by rfl), run_la_at (n := 5) hS e.st.cells rfl rfl, run_l hS (by rfl), run_l hS (by rfl), trivial⟩, ?_⟩ | (refine pc_symbol_Apply (Apply_in hG (hS.fd (Win wd)) he.st hm' hn ?_); clear hS; intro s' w hS) | (refine pN_sa hS (by rfl) (by rfl) (by rfl) ?_; clear hS; intro w hS; try dsimp only at hS) | (refine pN_nz hS ?_; clear hS; intro a w hS) | refine ⟨trivial, ?_⟩ | refine pA_v (hk := ?_) | fail)
      refine ⟨fun w => Sat E w (cel b ⟨128, encCells t wd en⟩ :: cel t ⟨141, tbCells e.p (e.st.next y) q⟩ :: Win wd (e.x.put (Z.made e.x e.st y)) :: Enc en zz.s :: tabs q zz.T :: M), ?_, ?_⟩
      · repeat' (first | refine pL_la_at (n := 5) hS (e.st.next y).cells rfl rfl ?_ | (refine pN_sa_at (us := (e.st.next y).cells) hS rfl (Nat.le_of_ble_eq_true rfl) rfl ?_; clear hS; intro w hS) | (refine pN_eql_s ?_ ?_ <;> intro hc <;> try (exfalso; first | omega | exact hc rfl | exact hc (by assumption) | exact absurd hc (by assumption))) | refine pIf_t ?_ | refine pL_l hS (by first | rfl | assumption) ?_ | (refine pDr_go hS ?_; clear hS; intro w hS) | refine ⟨trivial, ?_⟩ | refine pA_v (hk := ?_) | fail)
        have hS := cel_conv (o' := ⟨141, tbCells e.p (e.st.next y) q⟩) rfl hS
        exact hS.to
      · clear hS
        rintro _ w hS
        exact hQ _ (LEnc.shut (e := ⟨e.p, e.st.next y, zz.T, e.x.put (Z.made e.x e.st y), zz.s⟩) (t := t) (wd := wd) (en := en) (q := q) hS.to hput1)
  · have hput : e.put y = e := by rw [Z.EZ.put, if_neg hm]
    rw [hput] at hQ
    have hm' : ¬ Z.may e.x e.st y = 0 := hm
    repeat' (first | (refine pc_lzenc_Encoder_may (may_ok hG he.st (hS.fd3 (cel b) (cel t) (Win wd)) ?_); clear hS; intro w hS) | (refine pN_neq_s ?_ ?_ <;> intro hc <;> try (exfalso; first | omega | exact hc rfl | exact hc (by assumption) | exact absurd hc (by assumption))) | refine pIf_t ?_ | refine pN_la hS (by rfl) ?_ | (refine pN_bx hS (by rfl) ?_; clear hS; intro a w hS) | fail)
    exact hQ _ (LEnc.shut (t := t) (wd := wd) (en := en) (q := q) hS.to he)
end

end Go.Proofs.YtbgnnjfpiblkmaaGreatDoor

namespace Go.Proofs.YtbgnnjfpiblkmaaGreatDoor
open Go

theorem laid_get12 {W : World} {l : List (String × DataW Unit)} {ps : List MemPlace} (hl : DataW.LaidVars Tryz.prog W l ps) {n : String} {g : Nat} (k : Int) (hm : (n, DataW.agg (((List.range 12).map fun i : Nat => Z.moved (i : Int) k).map fun z => .lit (.int .i64 z))) ∈ l)
    (hg : Tryz.prog.globalNamed n = some g) (ht : (Tryz.prog.globals[g]?).map (·.type) = some 234) (i : Nat) (hi : i < 12) : W.cell? ⟨g, i, none⟩ = some (.int .i64 (Z.moved i k)) :=
  laid_ints hl ((List.range 12).map fun i : Nat => Z.moved (i : Int) k) hm hg ht Tryz.underlying234 (by kernel_rfl) Tryz.underlying3 i (Z.moved i k) hi (by rw [List.getElem?_map, List.getElem?_range hi]; rfl)

theorem glo_of_laid {W : World} {l : List (String × DataW Unit)} (h : laidMetH Tryz.prog l W) (hp : (l.filter fun x => x.2.handleName?.isSome) = []) (m1 : ("pith/state.afterLit", Rows.laid_pith_state_afterLit) ∈ l) (m2 : ("pith/state.afterMatch", Rows.laid_pith_state_afterMatch) ∈ l)
    (m3 : ("pith/state.afterRep", Rows.laid_pith_state_afterRep) ∈ l) (m4 : ("pith/state.afterShort", Rows.laid_pith_state_afterShort) ∈ l) : Glo W := by
  unfold laidMetH at h
  rw [hp] at h
  obtain ⟨ps, hv, _⟩ := h
  exact ⟨laid_get12 hv 1 m1 (by kernel_rfl) (by kernel_rfl), laid_get12 hv 2 m2 (by kernel_rfl) (by kernel_rfl), laid_get12 hv 3 m3 (by kernel_rfl) (by kernel_rfl), laid_get12 hv 4 m4 (by kernel_rfl) (by kernel_rfl)⟩

namespace Z
theorem known_p : (⟨3, 0, 2⟩ : Pr).Ok := by decide
theorem known_c : (EZ.new ⟨3, 0, 2⟩ 4096).cost ⟨1, 255, 0, 0⟩ = 152 ∧ (EZ.new ⟨3, 0, 2⟩ 4096).may ⟨1, 255, 0, 0⟩ = 0 := by decide +kernel
theorem known_d : (EZ.new ⟨3, 0, 2⟩ 4096).cost ⟨2, 0, 2, 1⟩ = 0 ∧ (EZ.new ⟨3, 0, 2⟩ 4096).may ⟨2, 0, 2, 1⟩ = 7 := by decide +kernel
theorem known_b : (EZ.new ⟨3, 0, 2⟩ 4096).s.bytes = [0, 0, 0, 0, 0] := by decide +kernel
end Z
attribute [local irreducible] oMv oV oU oCall oCallV oBi oBin oUn oLoad oStore oNil oFld oField oIdx oIndex oPick oAlloc oBox oBuild oBs oConv oMk oSl oExt oFn oIface oMap oLook oMapUp oRange oNext oEntry oInv oAssert oPanic oRes pN pA pL pDr pIf gA pGd

section
variable {E w W : World} {M N : List HA} {Q : Value → World → Prop}

theorem num14_ok (n : Int) (h : -9223372036854775808 ≤ n ∧ n < 9223372036854775808) (hQ : Q (.int .i64 n) w) : Calls Tryz.prog 15 #[.int .i64 n] w (retP Q) := by
  refine pithlaw14_num.calls ?_
  unfold pithlaw14_num.F
  skip
  exact hQ

set_option maxRecDepth 8000 in
set_option maxHeartbeats 1000000 in
theorem known14_ok (hG : Glo W) (hS : Sat E w M) [h : Has (old W) M N] (hQ : ∀ w, Sat E w M → Q (.bool true) w) : Calls Tryz.prog 16 #[] w (retP Q) := by
  refine pithlaw14_known.calls ?_
  unfold pithlaw14_known.F
  obtain ⟨c1, c2⟩ := Z.known_c
  obtain ⟨d1, d2⟩ := Z.known_d
  have hbk := Z.known_b
  have hk0 : (Z.EZ.new ⟨3, 0, 2⟩ 4096).s.k = 0 := rfl
  have hx0 : (Z.EZ.new ⟨3, 0, 2⟩ 4096).x.all.length = 0 := rfl
  repeat' (first | refine pN_v (hk := ?_) | fail)
  refine pc_lzenc_New (LNew_in (p := ⟨3, 0, 2⟩) hS Z.known_p 4096 (by decide) (by decide) fun b w hS => ?_)
  generalize Z.EZ.new ⟨3, 0, 2⟩ 4096 = e at *
  repeat' (first | refine pc_pithlaw14_num (num14_ok _ (by omega) ?_) | (refine pN_neq_s ?_ ?_ <;> intro hc <;> try (exfalso; first | omega | exact hc rfl | exact hc (by assumption) | exact absurd hc (by assumption))) | refine pGd_go (by rfl) ?_ | refine pN_v (hk := ?_) | fail)
  refine pc_lzenc_Encoder_Size (LSize_ok hS (by omega) fun w hS => ?_)
  rw [hk0]
  repeat' (first | (refine pN_neq_s ?_ ?_ <;> intro hc <;> try (exfalso; first | omega | exact hc rfl | exact hc (by assumption) | exact absurd hc (by assumption))) | refine pIf_f ?_ | refine pGd_go (by rfl) ?_ | refine pN_v (hk := ?_) | fail)
  refine pc_lzenc_Encoder_Cost (LCost_ok (y := ⟨1, 255, 0, 0⟩) hG hS (by omega) fun w hS => ?_)
  rw [c1, c2]
  repeat' (first | refine pN_v (hk := ?_) | fail)
  refine pc_lzenc_Encoder_Cost (LCost_ok (y := ⟨2, 0, 2, 1⟩) hG hS (by omega) fun w hS => ?_)
  rw [d1, d2]
  repeat' (first | refine pc_pithlaw14_num (num14_ok _ (by omega) ?_) | (refine pN_eql_s ?_ ?_ <;> intro hc <;> try (exfalso; first | omega | exact hc rfl | exact hc (by assumption) | exact absurd hc (by assumption))) | refine pGd_go (by rfl) ?_ | refine pN_v (hk := ?_) | fail)
  refine pc_lzenc_Encoder_Cut (LCut_ok hS (by omega) fun sc w hS => ?_)
  rw [hbk] at hS ⊢
  repeat' (first | (refine pN_eql_ss ?_ ?_ <;> intro hc <;> try (exfalso; first | omega | exact hc rfl | exact hc (by assumption) | exact absurd hc (by assumption))) | refine pGd_go (by rfl) ?_ | refine pN_st hS (by first | rfl | omega | simpa only [go_sem] using True.intro | (simp only [go_sem]; omega)) ?_ | refine pN_v (hk := ?_) | fail)
  exact hQ _ hS.to
end

end Go.Proofs.YtbgnnjfpiblkmaaGreatDoor

namespace Go.Proofs.YtbgnnjfpiblkmaaGreatDoor
open Go
namespace Z
def preR : Pre := fun k => match k with
  | 0 => [109, 97, 116, 99, 104] | 1 => [108, 111, 110, 103] | 2 => [114, 101, 112] | 3 => [114, 101, 112, 48] | 4 => [114, 101, 112, 49] | 5 => [114, 101, 112, 50]
  | 6 => [76, 105, 116, 101, 114, 97, 108]
  | 7 => [77, 97, 116, 99, 104] ++ [32, 111, 110, 101] | 8 => [77, 97, 116, 99, 104] ++ [32, 116, 119, 111] | 9 => [77, 97, 116, 99, 104] ++ [32, 108, 111, 119] | 10 => [77, 97, 116, 99, 104] ++ [32, 109, 105, 100] | 11 => [77, 97, 116, 99, 104] ++ [32, 104, 105, 103, 104]
  | 12 => [82, 101, 112] ++ [32, 111, 110, 101] | 13 => [82, 101, 112] ++ [32, 116, 119, 111] | 14 => [82, 101, 112] ++ [32, 108, 111, 119] | 15 => [82, 101, 112] ++ [32, 109, 105, 100] | 16 => [82, 101, 112] ++ [32, 104, 105, 103, 104]
  | 17 => [83, 108, 111, 116] | 18 => [82, 101, 115, 116] | _ => [65, 108, 105, 103, 110]
theorem preR_inv : ∀ u : Fin 533, inv preR (nameU preR u.val) 20 = u.val := by decide +kernel
theorem preR_len : ∀ u : Fin 533, (nameU preR u.val).length ≤ 1000 := by decide +kernel
theorem preR_ok : PreOk preR := ⟨preR_inv, preR_len⟩
theorem bitQ_e (st : D.S) (l : List Int) (i : Int) : 0 ≤ (st.bitQ l i).2.2.2 ∧ (st.bitQ l i).2.2.2 ≤ 7 := by
  unfold D.S.bitQ
  split
  · cases h : st.bit (B.bound st.R (l.getD i.toNat 0)) with
    | ok t v => exact ⟨Int.le_refl _, by show (0 : Int) ≤ 7; omega⟩
    | no e =>
      unfold D.S.bit at h
      split at h
      · cases h
      · cases h; exact ⟨by show (0 : Int) ≤ 1; omega, by show (1 : Int) ≤ 7; omega⟩
  · exact ⟨by show (0 : Int) ≤ 7; omega, by show (7 : Int) ≤ 7; omega⟩
def freshR : List Int := List.replicate 1024 1024
end Z
instance mt_rsets : MapT Tryz.prog 77 ske (.pointer none) :=
  ⟨_, _, Tryz.underlying77, Tryz.zeroValue137, KeyC.of (κ := Key) (Maps.string_keyed Tryz.underlying9) (fun l => Lit.string l.1) (fun k => key_str k) (fun a b h => Subtype.ext (by simpa [ske] using h))⟩
abbrev QSets (bm : Nat) (N : Key → List Int) : HA := NSets PSet Z.freshR bm N
abbrev rdrC (dd : Nat) (p : Z.Pr) (st : Z.St) (sa : Sl) (n : Nat) (bm : Nat) (f : Bool) : List Value :=
  [pz dd, .int .i64 p.lc, .int .i64 p.lp, .int .i64 p.pb, .int .i64 st.num, .int .i64 st.r0, .int .i64 st.r1, .int .i64 st.r2, .int .i64 st.r3, .slice sa.a n sa.c, .map (some bm), .bool f]
def QRd (p : Z.Pr) (B : List UInt8) (dd bm : Nat) (z : Option Z.RS) : HA := fun h => ∃ k : Z.RS × (Key → List Int), (k.1.Ok p ∧ k.1.d.b = B ∧ (∀ s, z = some s → k.1 = s) ∧ Z.Rel Z.preR 1024 p k.2 k.1.T) ∧ Sats [Dec dd k.1.d, QSets bm k.2] h
section
variable {E w : World} {M : List HA} {p : Z.Pr} {B : List UInt8} {dd bm : Nat} {z : Option Z.RS} {y : Z.RS} {N : Key → List Int}
theorem QRd.opn (hS : Sat E w (QRd p B dd bm z :: M)) : ∃ (y : Z.RS) (N : Key → List Int), y.Ok p ∧ y.d.b = B ∧ (∀ s, z = some s → y = s) ∧ Z.Rel Z.preR 1024 p N y.T ∧ Sat E w (Dec dd y.d :: QSets bm N :: M) := by
  obtain ⟨k, hS⟩ := hS.ex
  obtain ⟨h1, ⟨hA, _⟩, _⟩ := hS.head
  exact ⟨k.1, k.2, hA.1, hA.2.1, hA.2.2.1, hA.2.2.2, hS.open_ (M := [_, _]) fun _ h => h.2⟩
theorem QRd.shut (hS : Sat E w (Dec dd y.d :: QSets bm N :: M)) (h1 : y.Ok p) (h2 : y.d.b = B) (h3 : ∀ s, z = some s → y = s) (h4 : Z.Rel Z.preR 1024 p N y.T) : Sat E w (QRd p B dd bm z :: M) :=
  Sat.shut (M := [_, _]) hS fun _ h => ⟨(y, N), ⟨h1, h2, h3, h4⟩, h⟩
end
attribute [local irreducible] oMv oV oU oCall oCallV oBi oBin oUn oLoad oStore oNil oFld oField oIdx oIndex oPick oAlloc oBox oBuild oBs oConv oMk oSl oExt oFn oIface oMap oLook oMapUp oRange oNext oEntry oInv oAssert oPanic oRes pN pA pL pDr pIf gA pGd Calls

section
variable {E w W : World} {M : List HA} {Q : Value → World → Prop} {p : Z.Pr} {st : Z.St} {B : List UInt8} {r dd bm n : Nat} {sa s0 : Sl} {z : Option Z.RS} {nme : List UInt8} {l : List Int} {t : Nat} {i j : Int}
set_option maxRecDepth 8000 in
set_option maxHeartbeats 1000000 in
theorem qbit_ok (hp : p.Ok) (hB : B.length ≤ 225000000000000) (hS : Sat E w (cel r ⟨79, rdrC dd p st sa n bm z.isNone⟩ :: QRd p B dd bm z :: M)) [hr : Rds cd_int M s0 l] (hi : ∀ v ∈ l, 0 ≤ v ∧ v < 100) (hb : nme.length + 3 * l.length ≤ 1000000) (hA : Z.At Z.preR p (Z.nm nme l) j t i)
    (hQ : ∀ y v w, Z.Got (.bit t i .ret) z y v → (v = 0 ∨ v = 1) → Sat E w (cel r ⟨79, rdrC dd p st sa n bm y.isNone⟩ :: QRd p B dd bm y :: M) → Q (.int .i64 v) w) :
    Calls Tryz.prog 128 #[pz r, .int .i64 j, .string ⟨nme.toArray⟩, .slice s0.a l.length s0.c] w (retP Q) := by
  refine pithlaw14_Reader_bit.calls ?_
  unfold pithlaw14_Reader_bit.F
  repeat' (first | refine pN_v (hk := ?_) | fail)
  refine ⟨fun a k w' => ∃ i : Nat, a = .string ⟨(Z.nm nme (l.take i)).toArray⟩ ∧ k = .int .i64 i ∧ i ≤ l.length ∧ Sat E w' (cel r ⟨79, rdrC dd p st sa n bm z.isNone⟩ :: QRd p B dd bm z :: M), fun _ k _ => (l.length - RowKit.intOf k).toNat, ⟨0, rfl, rfl, by omega, hS⟩, ?_⟩
  clear hS
  rintro _ _ _ w1 ⟨q, rfl, rfl, h3, hS⟩
  by_cases hlt : q < l.length
  · obtain ⟨v, hv⟩ : ∃ v, l[q]? = some v := ⟨_, List.getElem?_eq_getElem hlt⟩
    have hvi := hi v (List.mem_of_getElem? hv)
    obtain ⟨v, rfl⟩ : ∃ m : Nat, v = m := ⟨v.toNat, by omega⟩
    have hlen := Z.nm_len (l.take q) nme fun j hj => hi j (List.mem_of_mem_take hj)
    rw [List.length_take] at hlen
    have hd := Z.dec_len ⟨v, by omega⟩
    simp only at hd
    have e : Z.nm nme (l.take (q + 1)) = Z.nm nme (l.take q) ++ [32] ++ Lib.decDigits v := by
      rw [List.take_add_one, hv]; exact Z.nm_snoc _ _ _
    repeat' (first | refine pN_sadd (by simp only [List.length_append, List.length_cons, List.length_nil]; omega) ?_ | (refine pc_strconv_Itoa (Itoa_ok v (by omega) ?_)) | (refine pN_lss_s ?_ ?_ <;> intro hc <;> try (exfalso; omega)) | refine pIf_t ?_ | refine pN_ld1 ha hS ?_ | refine pN_ixk hS _ (by first | rfl | (exact (Int.toNat_of_nonneg (by omega)).symm)) (by first | rfl | omega | simpa only [go_sem] using True.intro | (simp only [go_sem]; omega)) (by assumption) fun a ha hel => ?_ | refine pN_v (hk := ?_) | fail)
    refine ⟨⟨q + 1, ?_, rfl, hlt, hS⟩, by simp [RowKit.intOf]; omega⟩
    rw [e]
  obtain rfl : q = l.length := by omega
  rw [List.take_length]
  obtain ⟨ht, i0, i1, hs, hj⟩ := hA
  have hun := Z.un_bd hp ht (i := i.toNat) (by omega)
  have hkey : (Z.keyU Z.preR (Z.un t i.toNat)).1 = Z.nm nme l := by rw [Z.preR_ok.key hun.1, hs]
  have hO := QRd.opn (hS.fd (QRd p B dd bm))
  clear hS
  obtain ⟨y, N, ho, hyb, hys, hrel, hS⟩ := hO
  obtain ⟨y', ho', hb', hd', hr', h01, hask⟩ := Z.ask_rel Z.preR_ok (show 768 ≤ 1024 by decide) hp ho hrel ht i0 i1 rfl
  rw [hj] at hd' hr' h01 hask
  have hfine := hrel.fine (Z.keyU Z.preR (Z.un t i.toNat))
  rw [← hkey]
  generalize hkk : Z.keyU Z.preR (Z.un t i.toNat) = key at *
  have hS : Sat E _ (QSets bm N :: cel r ⟨79, rdrC dd p st sa n bm z.isNone⟩ :: Dec dd y.d :: M) := hS.to
  obtain ⟨m, h1, h2, hS⟩ := NSets.bagged hS
  repeat' (first | (refine pN_lss_s ?_ ?_ <;> intro hc <;> try (exfalso; omega)) | refine pIf_f ?_ | refine pN_l hS (by first | rfl | assumption) ?_ | refine pN_v (hk := ?_) | fail)
  refine pN_lko (P := Tryz.prog) (t := 77) hS key (fun v hg => ?_) (fun hg => ?_)
  obtain ⟨q, e, hq, hn, rfl⟩ := Z.look_some hg
  have hq2 : m[q]? = some ⟨key, e.b, e.l⟩ := by rw [hq, ← hn]
  repeat' (first | refine pN_v (hk := ?_) | fail)
  refine ⟨fun v w => ∃ b, v = pz b ∧ Sat E w (PSet b (N key) :: NHole PSet Z.freshR bm N key b :: cel r ⟨79, rdrC dd p st sa n bm z.isNone⟩ :: Dec dd y.d :: M), ?_, ?_⟩
  · repeat' (first | refine pIf_f ?_ | refine pN_v (hk := ?_) | fail)
    exact ⟨_, rfl, NHole.of (l := e.l) h1 h2 hq2 hS⟩
  rotate_left 1
  skip
  refine ⟨fun v w => ∃ b, v = pz b ∧ Sat E w (PSet b (N key) :: NHole PSet Z.freshR bm N key b :: cel r ⟨79, rdrC dd p st sa n bm z.isNone⟩ :: Dec dd y.d :: M), ?_, ?_⟩
  · repeat' (first | (refine pc_prob_New (New_ok hS 1024 (by omega) (by omega) ?_); clear hS; intro b w hS) | refine pN_l hS rfl ?_ | (refine pN_mup (P := Tryz.prog) (t := 77) hS key (pz b) ?_; clear hS; intro w hS) | refine pIf_t ?_ | refine pN_v (hk := ?_) | fail)
    have hS2 : Sat E _ (mp ske bm (mput (nsV m) key (pz b)) :: bag (nsA PSet m) :: PSet b Z.freshR :: cel r ⟨79, rdrC dd p st sa n bm z.isNone⟩ :: Dec dd y.d :: M) := hS.perm (List.Perm.cons _ (List.Perm.swap _ _ _))
    exact ⟨_, rfl, NHole.new h1 h2 hg hS2⟩
  all_goals
    clear hS
    rintro _ _ w ⟨b, rfl, hS⟩
    cases z with
    | none =>
      simp only [Option.isNone_none] at hS
      repeat' (first | refine pIf_t ?_ | refine pGd_no (by rfl) ?_ | refine pN_l hS (by first | rfl | assumption) ?_ | (refine pN_s hS (by first | exact Nat.le_of_ble_eq_true rfl | assumption) (by rfl) ?_; clear hS; intro w hS; try simp only [List.set_cons_zero, List.set_cons_succ] at hS) | refine pN_v (hk := ?_) | fail)
      have hS := NHole.back (hS.fd2 (PSet b) (NHole PSet Z.freshR bm N key))
      have hS := QRd.shut (p := p) (B := B) (z := none) (hS.fd2 (Dec dd) (NSets PSet Z.freshR bm)) ho hyb (fun _ h => by cases h) hrel
      exact hQ none 0 _ rfl (.inl rfl) (hS.fd2 (cel r) (QRd p B dd bm))
    | some s =>
      simp only [Option.isNone_some] at hS
      have hsy := hys s rfl
      repeat' (first | (refine pc_rcdec_Decoder_Bit (DBit_q (hS.fd2 (Dec dd) (PSet b)) ho.d hfine (by rw [hyb]; exact hB) j ?_); clear hS; intro w hS) | refine pIf_f ?_ | refine pGd_go (by rfl) ?_ | refine pN_l hS (by first | rfl | assumption) ?_ | refine pN_v (hk := ?_) | fail)
      have hev := Z.bitQ_e y.d (N key) j
      have hlist := NHole.shut (hS.fd2 (PSet b) (NHole PSet Z.freshR bm N key))
      clear hS
      have hS := hlist
      generalize y.d.bitQ (N key) j = U at *
      have hS : Sat E w (Dec dd y'.d :: QSets bm (Z.updN N key U.2.1) :: cel r ⟨79, rdrC dd p st sa n bm false⟩ :: M) := by rw [hd']; exact hS.to
      by_cases h0 : U.2.2.2 = 0
      · rw [if_pos h0] at hask
        repeat' (first | refine pc_pithlaw14_num (num14_ok _ (by omega) ?_) | (refine pN_neq_s ?_ ?_ <;> intro hc <;> try (exfalso; first | omega | exact hc rfl | exact hc (by assumption) | exact absurd hc (by assumption))) | refine pGd_go (by rfl) ?_ | (refine pN_s hS (by first | exact Nat.le_of_ble_eq_true rfl | assumption) (by rfl) ?_; clear hS; intro w hS; try simp only [List.set_cons_zero, List.set_cons_succ] at hS) | refine pN_v (hk := ?_) | fail)
        have hS := QRd.shut (p := p) (B := B) (z := some y') (hS.fd2 (Dec dd) (NSets PSet Z.freshR bm)) ho' (hb'.trans hyb) (fun _ h => by cases h; rfl) hr'
        exact hQ (some y') _ _ (by show Z.Rd.run _ _ = _; rw [Z.Rd.run, ← hsy, hask]; rfl) h01 (hS.fd2 (cel r) (QRd p B dd bm))
      · rw [if_neg h0] at hask
        repeat' (first | refine pc_pithlaw14_num (num14_ok _ (by omega) ?_) | (refine pN_neq_s ?_ ?_ <;> intro hc <;> try (exfalso; first | omega | exact hc rfl | exact hc (by assumption) | exact absurd hc (by assumption))) | refine pGd_go (by rfl) ?_ | (refine pN_s hS (by first | exact Nat.le_of_ble_eq_true rfl | assumption) (by rfl) ?_; clear hS; intro w hS; try simp only [List.set_cons_zero, List.set_cons_succ] at hS) | refine pN_v (hk := ?_) | fail)
        have hS := QRd.shut (p := p) (B := B) (z := none) (hS.fd2 (Dec dd) (NSets PSet Z.freshR bm)) ho' (hb'.trans hyb) (fun _ h => by cases h) hr'
        exact hQ none _ _ (by show Z.Rd.run _ _ = _; rw [Z.Rd.run, ← hsy, hask]; rfl) h01 (hS.fd2 (cel r) (QRd p B dd bm))
end
end Go.Proofs.YtbgnnjfpiblkmaaGreatDoor

namespace Go.Proofs.YtbgnnjfpiblkmaaGreatDoor
open Go
attribute [local irreducible] oMv oV oU oCall oCallV oBi oBin oUn oLoad oStore oNil oFld oField oIdx oIndex oPick oAlloc oBox oBuild oBs oConv oMk oSl oExt oFn oIface oMap oLook oMapUp oRange oNext oEntry oInv oAssert oPanic oRes pN pA pL pDr pIf gA pGd

section
variable {E w W : World} {M N : List HA} {Q : Value → World → Prop} {p : Z.Pr} {s : Z.St} {x : Z.W} {B : List UInt8} {r dec dd t wd : Nat} {q : Nat → Nat} {z : Option Z.RS} {f : Bool}

theorem least_bd {s : Int} (h0 : 0 ≤ s) (h1 : s < 64) : 1 ≤ Z.least s ∧ Z.least s ≤ 4294967296 ∧ Z.bitsN s ≤ 30 := by
  have key : ∀ a : Fin 64, 1 ≤ Z.least (a.val : Int) ∧ Z.least (a.val : Int) ≤ 4294967296 ∧ Z.bitsN (a.val : Int) ≤ 30 := by decide +kernel
  have := key ⟨s.toNat, by omega⟩
  simp only [Int.toNat_of_nonneg h0] at this
  exact this
end

end Go.Proofs.YtbgnnjfpiblkmaaGreatDoor

namespace Go.Proofs.YtbgnnjfpiblkmaaGreatDoor
open Go
namespace Z
theorem Got.bits_ret {t : Nat} {a : Int} {z z' : Option RS} {n : Nat} {bs : List Int} (h : ∀ y v, Got (bitsRd t a 0 bs) z' y v → Got (bitsRd t a n []) z y v) (back : Bool) : Got (treeRd back t a n) z z' (R.val back bs) :=
  Got.map (h z' bs (Got.ret z' bs))
theorem node_horner : ∀ (l : List Int), R.nodeL l = 2 ^ l.length + R.horner l := by
  intro l
  induction l using R.snoc_ind with
  | h0 => rfl
  | h1 l b ih =>
    rw [R.nodeL_snoc, R.horner_snoc, ih, List.length_append, List.length_cons, List.length_nil, Int.pow_succ]
    omega
theorem backv_snoc (l : List Int) (b : Int) : R.backv (l ++ [b]) = R.backv l + b * 2 ^ l.length := by
  induction l with
  | nil => simp [R.backv]
  | cons a l ih =>
    show a + 2 * R.backv (l ++ [b]) = a + 2 * R.backv l + b * 2 ^ (l.length + 1)
    rw [ih, Int.pow_succ]
    have : 2 * (b * 2 ^ l.length) = b * (2 ^ l.length * 2) := by rw [Int.mul_comm 2, Int.mul_assoc]
    omega
end Z
attribute [local irreducible] oMv oV oU oCall oCallV oBi oBin oUn oLoad oStore oNil oFld oField oIdx oIndex oPick oAlloc oBox oBuild oBs oConv oMk oSl oExt oFn oIface oMap oLook oMapUp oRange oNext oEntry oInv oAssert oPanic oRes pN pA pL pDr pIf gA pGd Calls

section
variable {E w W : World} {M : List HA} {Q : Value → World → Prop} {p : Z.Pr} {st : Z.St} {B : List UInt8} {r dd bm na : Nat} {sa s0 : Sl} {z : Option Z.RS} {nme : List UInt8} {l : List Int} {t : Nat} {a : Int}
set_option maxRecDepth 8000 in
theorem qtree_ok (n : Nat) (hn : n ≤ 16) (hp : p.Ok) (hB : B.length ≤ 225000000000000) (hS : Sat E w (cel r ⟨79, rdrC dd p st sa na bm z.isNone⟩ :: QRd p B dd bm z :: M)) [hr : Rds cd_int M s0 l] (hi : ∀ v ∈ l, 0 ≤ v ∧ v < 100) (hb : nme.length + 3 * l.length ≤ 1000000) (hA : ∀ v : Int, 1 ≤ v → v < 2 ^ n → Z.At Z.preR p (Z.nm nme l) v t (a + v))
    (hQ : ∀ y v w, Z.Got (Z.treeRd false t a n) z y v → 0 ≤ v → v < 2 ^ n → Sat E w (cel r ⟨79, rdrC dd p st sa na bm y.isNone⟩ :: QRd p B dd bm y :: M) → Q (.int .i64 v) w) :
    Calls Tryz.prog 164 #[pz r, .int .i64 n, .string ⟨nme.toArray⟩, .slice s0.a l.length s0.c] w (retP Q) := by
  refine pithlaw14_Reader_tree.calls ?_
  unfold pithlaw14_Reader_tree.F
  refine ⟨fun m k w => ∃ (bs : List Int) (z' : Option Z.RS), m = .int .i64 (R.nodeL bs) ∧ k = .int .i64 bs.length ∧ bs.length ≤ n ∧ R.Bits bs ∧ (∀ y v, Z.Got (Z.bitsRd t a (n - bs.length) bs) z' y v → Z.Got (Z.bitsRd t a n []) z y v) ∧ Sat E w (cel r ⟨79, rdrC dd p st sa na bm z'.isNone⟩ :: QRd p B dd bm z' :: M), fun _ k _ => (n - RowKit.intOf k).toNat, ⟨[], z, rfl, rfl, by simp, fun _ h => (by cases h), fun _ _ h => h, hS⟩, ?_⟩
  clear hS
  rintro _ _ _ w ⟨bs, z', rfl, rfl, hk, hbs, hgo, hS⟩
  have hnd := R.nodeL_bd hbs
  have h17 : (2 : Int) ^ (bs.length + 1) ≤ 2 ^ 17 := two_le' (by omega)
  have e17 : (2 : Int) ^ 17 = 131072 := by decide
  have hp0 : (0 : Int) < 2 ^ bs.length := Int.pow_pos (by omega)
  by_cases hlt : bs.length < n
  · have hpn : (2 : Int) ^ (bs.length + 1) ≤ 2 ^ n := two_le' (by omega)
    repeat' (first | (refine pN_lss_s ?_ ?_ <;> intro hc <;> try (exfalso; omega)) | refine pIf_t ?_ | refine pN_v (hk := ?_) | fail)
    refine pc_pithlaw14_Reader_bit (qbit_ok hp hB hS hi hb (hA (R.nodeL bs) (by omega) (by omega)) fun y v w g hv hS => ?_)
    repeat' (first | refine pN_v (hk := ?_) | fail)
    refine ⟨⟨bs ++ [v], y, by rw [R.nodeL_snoc], by simp, by simp; omega, hbs.snoc hv, fun x u hx => hgo x u ?_, hS⟩, by simp only [RowKit.intOf]; omega⟩
    rw [show n - bs.length = (n - (bs ++ [v]).length) + 1 from by simp; omega]
    exact Z.Got.bit g hx
  · have hnb : bs.length = n := by omega
    rw [hnb, Nat.sub_self] at hgo
    have hv := Z.val_bd false hbs
    have hnh := Z.node_horner bs
    have hg := Z.Got.bits_ret (n := n) hgo false
    rw [hnb] at hv hnh
    have hn16 : (2 : Int) ^ n ≤ 2 ^ 16 := two_le' hn
    have e16 : (2 : Int) ^ 16 = 65536 := by decide
    have hp0 : (0 : Int) < 2 ^ n := Int.pow_pos (by omega)
    have e : R.nodeL bs - 2 ^ n = R.val false bs := by rw [hnh]; show _ = R.horner bs; omega
    repeat' (first | refine pN_shl_k n rfl (by show _ ≤ 64; omega) ?_ | (refine pN_lss_s ?_ ?_ <;> intro hc <;> try (exfalso; omega)) | refine pIf_f ?_ | refine pN_v (hk := ?_) | fail)
    rw [Int.one_mul, e]
    exact hQ _ _ _ hg hv.1 hv.2 hS
set_option maxRecDepth 8000 in
theorem qback_ok (n : Nat) (hn : n ≤ 16) (hp : p.Ok) (hB : B.length ≤ 225000000000000) (hS : Sat E w (cel r ⟨79, rdrC dd p st sa na bm z.isNone⟩ :: QRd p B dd bm z :: M)) [hr : Rds cd_int M s0 l] (hi : ∀ v ∈ l, 0 ≤ v ∧ v < 100) (hb : nme.length + 3 * l.length ≤ 1000000) (hA : ∀ v : Int, 1 ≤ v → v < 2 ^ n → Z.At Z.preR p (Z.nm nme l) v t (a + v))
    (hQ : ∀ y v w, Z.Got (Z.treeRd true t a n) z y v → 0 ≤ v → v < 2 ^ n → Sat E w (cel r ⟨79, rdrC dd p st sa na bm y.isNone⟩ :: QRd p B dd bm y :: M) → Q (.int .i64 v) w) :
    Calls Tryz.prog 165 #[pz r, .int .i64 n, .string ⟨nme.toArray⟩, .slice s0.a l.length s0.c] w (retP Q) := by
  refine pithlaw14_Reader_back.calls ?_
  unfold pithlaw14_Reader_back.F
  refine ⟨fun m u k w => ∃ (bs : List Int) (z' : Option Z.RS), m = .int .i64 (R.nodeL bs) ∧ u = .int .i64 (R.backv bs) ∧ k = .int .i64 bs.length ∧ bs.length ≤ n ∧ R.Bits bs ∧ (∀ y v, Z.Got (Z.bitsRd t a (n - bs.length) bs) z' y v → Z.Got (Z.bitsRd t a n []) z y v) ∧ Sat E w (cel r ⟨79, rdrC dd p st sa na bm z'.isNone⟩ :: QRd p B dd bm z' :: M), fun _ _ k _ => (n - RowKit.intOf k).toNat, ⟨[], z, rfl, rfl, rfl, by simp, fun _ h => (by cases h), fun _ _ h => h, hS⟩, ?_⟩
  clear hS
  rintro _ _ _ _ w ⟨bs, z', rfl, rfl, rfl, hk, hbs, hgo, hS⟩
  have hnd := R.nodeL_bd hbs
  have hvb := R.backv_bd hbs
  have h17 : (2 : Int) ^ (bs.length + 1) ≤ 2 ^ 17 := two_le' (by omega)
  have e17 : (2 : Int) ^ 17 = 131072 := by decide
  have hp0 : (0 : Int) < 2 ^ bs.length := Int.pow_pos (by omega)
  have h16 : (2 : Int) ^ bs.length ≤ 2 ^ 16 := two_le' (by omega)
  have e16 : (2 : Int) ^ 16 = 65536 := by decide
  by_cases hlt : bs.length < n
  · have hpn : (2 : Int) ^ (bs.length + 1) ≤ 2 ^ n := two_le' (by omega)
    repeat' (first | (refine pN_lss_s ?_ ?_ <;> intro hc <;> try (exfalso; omega)) | refine pIf_t ?_ | fail)
    refine pc_pithlaw14_Reader_bit (qbit_ok hp hB hS hi hb (hA (R.nodeL bs) (by omega) (by omega)) fun y v w g hv hS => ?_)
    have hs := Z.backv_snoc bs v
    obtain ⟨kk, hkk⟩ : ∃ k, k = bs.length := ⟨_, rfl⟩
    rcases hv with rfl | rfl
    · rw [Int.zero_mul, Int.add_zero] at hs
      repeat' (first | refine pN_shl_k bs.length rfl (by show _ ≤ 64; omega) ?_ | refine pN_v (hk := ?_) | fail)
      refine ⟨⟨bs ++ [0], y, by rw [R.nodeL_snoc], ?_, by simp, by simp; omega, hbs.snoc (by omega), fun x u hx => hgo x u ?_, hS⟩, by simp only [RowKit.intOf]; omega⟩
      · rw [hs]; congr 1; omega
      · rw [show n - bs.length = (n - (bs ++ [0]).length) + 1 from by simp; omega]
        exact Z.Got.bit g hx
    · rw [Int.one_mul] at hs
      repeat' (first | refine pN_shl_k bs.length rfl (by show _ ≤ 64; omega) ?_ | refine pN_v (hk := ?_) | fail)
      refine ⟨⟨bs ++ [1], y, by rw [R.nodeL_snoc], ?_, by simp, by simp; omega, hbs.snoc (by omega), fun x u hx => hgo x u ?_, hS⟩, by simp only [RowKit.intOf]; omega⟩
      · rw [hs]; congr 1; omega
      · rw [show n - bs.length = (n - (bs ++ [1]).length) + 1 from by simp; omega]
        exact Z.Got.bit g hx
  · have hnb : bs.length = n := by omega
    rw [hnb, Nat.sub_self] at hgo
    have hv := Z.val_bd true hbs
    have hg := Z.Got.bits_ret (n := n) hgo true
    rw [hnb] at hv
    repeat' (first | (refine pN_lss_s ?_ ?_ <;> intro hc <;> try (exfalso; omega)) | refine pIf_f ?_ | fail)
    exact hQ _ _ _ hg hv.1 hv.2 hS
end
end Go.Proofs.YtbgnnjfpiblkmaaGreatDoor

namespace Go.Proofs.YtbgnnjfpiblkmaaGreatDoor
open Go
theorem dirQ_e (st : D.S) (n : Int) : 0 ≤ (st.dirQ n).2.2 ∧ (st.dirQ n).2.2 ≤ 7 := by
  have key : ∀ (n : Nat) {d : D.S} {v e : Int}, d.direct v n = .no e → 0 ≤ e ∧ e ≤ 7 := by
    intro n
    induction n with
    | zero => intro d v e h; cases h
    | succ n ih =>
      intro d v e h
      simp only [D.S.direct] at h
      split at h
      · cases h; decide
      · split at h
        · cases h; decide
        · exact ih h
  unfold D.S.dirQ
  split
  · cases h : st.direct 0 n.toNat with
    | ok t v => exact ⟨Int.le_refl _, by show (0 : Int) ≤ 7; omega⟩
    | no e => exact key _ h
  · exact ⟨by show (0 : Int) ≤ 7; omega, by show (7 : Int) ≤ 7; omega⟩
set_option maxRecDepth 8000 in
theorem pN_int1 {E w : World} {K : Value → World → Prop} {L : List HA} {a : Int} (hS : Sat E w L) (hk : ∀ s' w', Sat E w' (rows cd_int s' [a] :: L) → K (.slice s'.a 1 s'.c) w') :
    pN Tryz.prog (oBs 217 1 [(0, .int .i64 a)]) w K := pN_b1 (C := cd_int) hS rfl (Nat.le_of_ble_eq_true rfl) hk
attribute [local irreducible] oMv oV oU oCall oCallV oBi oBin oUn oLoad oStore oNil oFld oField oIdx oIndex oPick oAlloc oBox oBuild oBs oConv oMk oSl oExt oFn oIface oMap oLook oMapUp oRange oNext oEntry oInv oAssert oPanic oRes pN pA pL pDr pIf gA pGd Calls

section
variable {E w W : World} {M : List HA} {Q : Value → World → Prop} {p : Z.Pr} {st : Z.St} {x : Z.W} {B : List UInt8} {r dd bm na : Nat} {sa s0 : Sl} {z : Option Z.RS} {nme : List UInt8} {l : List Int} {t : Nat} {a : Int} {f : Bool}
theorem qbit0_ok (hp : p.Ok) (hB : B.length ≤ 225000000000000) (hS : Sat E w (cel r ⟨79, rdrC dd p st sa na bm z.isNone⟩ :: QRd p B dd bm z :: M)) {j i : Int} (hb : nme.length ≤ 1000) (hA : Z.At Z.preR p nme j t i)
    (hQ : ∀ y v w, Z.Got (.bit t i .ret) z y v → (v = 0 ∨ v = 1) → Sat E w (cel r ⟨79, rdrC dd p st sa na bm y.isNone⟩ :: QRd p B dd bm y :: M) → Q (.int .i64 v) w) :
    Calls Tryz.prog 128 #[pz r, .int .i64 j, .string ⟨nme.toArray⟩, .slice none 0 0] w (retP Q) :=
  qbit_ok (l := []) (s0 := ⟨none, 0⟩) hp hB hS (fun _ h => by cases h) (by simp; omega) hA hQ
theorem qbit1_ok (hp : p.Ok) (hB : B.length ≤ 225000000000000) (hS : Sat E w (cel r ⟨79, rdrC dd p st sa na bm z.isNone⟩ :: QRd p B dd bm z :: M)) {j i : Int} (v1 : Int) [hr : Rds cd_int M s0 [v1]] (h1 : 0 ≤ v1 ∧ v1 < 100) (hb : nme.length ≤ 1000) (hA : Z.At Z.preR p (Z.nm nme [v1]) j t i)
    (hQ : ∀ y v w, Z.Got (.bit t i .ret) z y v → (v = 0 ∨ v = 1) → Sat E w (cel r ⟨79, rdrC dd p st sa na bm y.isNone⟩ :: QRd p B dd bm y :: M) → Q (.int .i64 v) w) :
    Calls Tryz.prog 128 #[pz r, .int .i64 j, .string ⟨nme.toArray⟩, .slice s0.a 1 s0.c] w (retP Q) :=
  qbit_ok (l := [v1]) (s0 := s0) hp hB hS (fun _ h => by rw [List.mem_singleton] at h; omega) (by simp; omega) hA hQ
theorem qbit2_ok (hp : p.Ok) (hB : B.length ≤ 225000000000000) (hS : Sat E w (cel r ⟨79, rdrC dd p st sa na bm z.isNone⟩ :: QRd p B dd bm z :: M)) {j i : Int} (v1 v2 : Int) [hr : Rds cd_int M s0 [v1, v2]] (h1 : 0 ≤ v1 ∧ v1 < 100) (h2 : 0 ≤ v2 ∧ v2 < 100) (hb : nme.length ≤ 1000) (hA : Z.At Z.preR p (Z.nm nme [v1, v2]) j t i)
    (hQ : ∀ y v w, Z.Got (.bit t i .ret) z y v → (v = 0 ∨ v = 1) → Sat E w (cel r ⟨79, rdrC dd p st sa na bm y.isNone⟩ :: QRd p B dd bm y :: M) → Q (.int .i64 v) w) :
    Calls Tryz.prog 128 #[pz r, .int .i64 j, .string ⟨nme.toArray⟩, .slice s0.a 2 s0.c] w (retP Q) :=
  qbit_ok (l := [v1, v2]) (s0 := s0) hp hB hS (fun _ h => by
    rcases List.mem_cons.1 h with rfl | h
    · exact h1
    · rw [List.mem_singleton] at h; subst h; exact h2) (by simp; omega) hA hQ
theorem qtree1_ok (n : Nat) (hn : n ≤ 16) (hp : p.Ok) (hB : B.length ≤ 225000000000000) (hS : Sat E w (cel r ⟨79, rdrC dd p st sa na bm z.isNone⟩ :: QRd p B dd bm z :: M)) (v1 : Int) [hr : Rds cd_int M s0 [v1]] (h1 : 0 ≤ v1 ∧ v1 < 100) (hb : nme.length ≤ 1000) (hA : ∀ v : Int, 1 ≤ v → v < 2 ^ n → Z.At Z.preR p (Z.nm nme [v1]) v t (a + v))
    (hQ : ∀ y v w, Z.Got (Z.treeRd false t a n) z y v → 0 ≤ v → v < 2 ^ n → Sat E w (cel r ⟨79, rdrC dd p st sa na bm y.isNone⟩ :: QRd p B dd bm y :: M) → Q (.int .i64 v) w) :
    Calls Tryz.prog 164 #[pz r, .int .i64 n, .string ⟨nme.toArray⟩, .slice s0.a 1 s0.c] w (retP Q) :=
  qtree_ok (l := [v1]) (s0 := s0) n hn hp hB hS (fun _ h => by rw [List.mem_singleton] at h; omega) (by simp; omega) hA hQ
theorem qtree0_ok (n : Nat) (hn : n ≤ 16) (hp : p.Ok) (hB : B.length ≤ 225000000000000) (hS : Sat E w (cel r ⟨79, rdrC dd p st sa na bm z.isNone⟩ :: QRd p B dd bm z :: M)) (hb : nme.length ≤ 1000) (hA : ∀ v : Int, 1 ≤ v → v < 2 ^ n → Z.At Z.preR p nme v t (a + v))
    (hQ : ∀ y v w, Z.Got (Z.treeRd false t a n) z y v → 0 ≤ v → v < 2 ^ n → Sat E w (cel r ⟨79, rdrC dd p st sa na bm y.isNone⟩ :: QRd p B dd bm y :: M) → Q (.int .i64 v) w) :
    Calls Tryz.prog 164 #[pz r, .int .i64 n, .string ⟨nme.toArray⟩, .slice none 0 0] w (retP Q) :=
  qtree_ok (l := []) (s0 := ⟨none, 0⟩) n hn hp hB hS (fun _ h => by cases h) (by simp; omega) hA hQ
theorem qback1_ok (n : Nat) (hn : n ≤ 16) (hp : p.Ok) (hB : B.length ≤ 225000000000000) (hS : Sat E w (cel r ⟨79, rdrC dd p st sa na bm z.isNone⟩ :: QRd p B dd bm z :: M)) (v1 : Int) [hr : Rds cd_int M s0 [v1]] (h1 : 0 ≤ v1 ∧ v1 < 100) (hb : nme.length ≤ 1000) (hA : ∀ v : Int, 1 ≤ v → v < 2 ^ n → Z.At Z.preR p (Z.nm nme [v1]) v t (a + v))
    (hQ : ∀ y v w, Z.Got (Z.treeRd true t a n) z y v → 0 ≤ v → v < 2 ^ n → Sat E w (cel r ⟨79, rdrC dd p st sa na bm y.isNone⟩ :: QRd p B dd bm y :: M) → Q (.int .i64 v) w) :
    Calls Tryz.prog 165 #[pz r, .int .i64 n, .string ⟨nme.toArray⟩, .slice s0.a 1 s0.c] w (retP Q) :=
  qback_ok (l := [v1]) (s0 := s0) n hn hp hB hS (fun _ h => by rw [List.mem_singleton] at h; omega) (by simp; omega) hA hQ
theorem qback0_ok (n : Nat) (hn : n ≤ 16) (hp : p.Ok) (hB : B.length ≤ 225000000000000) (hS : Sat E w (cel r ⟨79, rdrC dd p st sa na bm z.isNone⟩ :: QRd p B dd bm z :: M)) (hb : nme.length ≤ 1000) (hA : ∀ v : Int, 1 ≤ v → v < 2 ^ n → Z.At Z.preR p nme v t (a + v))
    (hQ : ∀ y v w, Z.Got (Z.treeRd true t a n) z y v → 0 ≤ v → v < 2 ^ n → Sat E w (cel r ⟨79, rdrC dd p st sa na bm y.isNone⟩ :: QRd p B dd bm y :: M) → Q (.int .i64 v) w) :
    Calls Tryz.prog 165 #[pz r, .int .i64 n, .string ⟨nme.toArray⟩, .slice none 0 0] w (retP Q) :=
  qback_ok (l := []) (s0 := ⟨none, 0⟩) n hn hp hB hS (fun _ h => by cases h) (by simp; omega) hA hQ

theorem qlast_ok (d : Int) (hd : d ≤ x.size) (hx : x.all.length ≤ 140737488355328) (hS : Sat E w (cel r ⟨79, rdrC dd p st sa x.all.length bm f⟩ :: rows cd_uint8 sa x.all :: M)) (hQ : ∀ w, Sat E w (cel r ⟨79, rdrC dd p st sa x.all.length bm f⟩ :: rows cd_uint8 sa x.all :: M) → Q (.int .i64 (Z.lastOr x d).toNat) w) :
    Calls Tryz.prog 132 #[pz r, .int .i64 d] w (retP Q) := by
  refine pithlaw14_Reader_last.calls ?_
  unfold pithlaw14_Reader_last.F
  by_cases hh : x.has d
  · have hh' := hh
    obtain ⟨h1, h2⟩ := hh'
    unfold Z.W.full at h2
    have hl : Z.lastOr x d = (x.all[x.all.length - d.toNat]?).getD 0 := by rw [Z.lastOr, if_pos hh]; rfl
    obtain ⟨b, hb⟩ : ∃ b, x.all[x.all.length - d.toNat]? = some b := ⟨_, List.getElem?_eq_getElem (by omega)⟩
    rw [hb] at hl
    rw [hl] at hQ
    have hbl := b.toNat_lt
    have hbc : ∀ (k : Nat) (y : UInt8), x.all[k]? = some y → k = x.all.length - d.toNat → y = b := fun k y g1 g2 => by
      rw [g2, hb] at g1; exact (Option.some.inj g1).symm
    repeat' (first | ((first | refine pN_lss_s ?_ ?_ | refine pN_gtr_s ?_ ?_) <;> intro hc <;> try (exfalso; omega)) | refine pIf_f ?_ | refine pGd_go (by rfl) ?_ | refine pL_ofb ?_ | refine pN_l hS (by first | rfl | assumption) ?_ | refine pL_l hS (by first | rfl | assumption) ?_ | refine pL_ld1 ha hS ?_ | (refine pDr_go hS ?_; clear hS; intro w hS) | refine pA_ix hS _ (by first | rfl | (exact (Int.toNat_of_nonneg (by omega)).symm)) (by first | rfl | omega | simpa only [go_sem] using True.intro | (simp only [go_sem]; omega)) (by first | omega | (simp only [go_sem]; omega)) fun a x hx ha hel => ?_ | refine pN_v (hk := ?_) | refine pA_v (hk := ?_) | fail)
    have hbe := hbc _ _ (by assumption) (by omega)
    subst hbe
    exact hQ _ hS
  · have hl : Z.lastOr x d = 0 := by rw [Z.lastOr, if_neg hh]
    rw [hl] at hQ
    have hn : ¬ (1 ≤ d ∧ d ≤ x.all.length) := fun hn => hh ⟨hn.1, by unfold Z.W.full; omega⟩
    by_cases h1 : d < 1
    · repeat' (first | (refine pN_lss_s ?_ ?_ <;> intro hc <;> try (exfalso; omega)) | refine pIf_t ?_ | refine pGd_no (by rfl) ?_ | refine pN_v (hk := ?_) | fail)
      exact hQ _ hS
    · repeat' (first | ((first | refine pN_lss_s ?_ ?_ | refine pN_gtr_s ?_ ?_) <;> intro hc <;> try (exfalso; omega)) | refine pIf_t ?_ | refine pGd_go (by rfl) ?_ | refine pN_l hS (by first | rfl | assumption) ?_ | refine pN_v (hk := ?_) | fail)
      exact hQ _ hS

set_option maxHeartbeats 1000000 in
theorem qlength7_ok (hp : p.Ok) (hB : B.length ≤ 225000000000000) (pos : Int)
    (hS : Sat E w (cel r ⟨79, rdrC dd p st sa na bm z.isNone⟩ :: QRd p B dd bm z :: M))
    (hQ : ∀ y v w, Z.Got (Z.lenRd 7 p pos) z y v → Z.isLen v → Sat E w (cel r ⟨79, rdrC dd p st sa na bm y.isNone⟩ :: QRd p B dd bm y :: M) → Q (.int .i64 v) w) :
    Calls Tryz.prog 130 #[pz r, .string ⟨#[77, 97, 116, 99, 104]⟩, .int .i64 (Z.place p pos)] w (retP Q) := by
  refine pithlaw14_Reader_length.calls ?_
  unfold pithlaw14_Reader_length.F
  have hpl := place_bd hp pos
  have e3 : (2 : Int) ^ 3 = 8 := by decide
  have e8 : (2 : Int) ^ 8 = 256 := by decide
  repeat' (first | refine pN_sadd (by decide) ?_ | fail)
  refine pc_pithlaw14_Reader_bit (qbit0_ok hp hB hS (by decide) (Z.at_7_0 Z.preR p) fun z1 b1 w g1 hb1 hS => ?_)
  rcases hb1 with rfl | rfl
  · repeat' (first | refine pN_sadd (by decide) ?_ | (refine pN_int1 hS ?_; clear hS; intro si w hS) | (refine pN_eql_s ?_ ?_ <;> intro hc <;> try (exfalso; first | omega | exact hc rfl | exact hc (by assumption) | exact absurd hc (by assumption))) | refine pIf_t ?_ | fail)
    refine pc_pithlaw14_Reader_tree (qtree1_ok 3 (by decide) hp hB (hS.fd2 (cel r) (QRd p B dd bm)) (Z.place p pos) (by omega) (by decide) (fun v h0 h1 => Z.at_8 Z.preR p (by omega) (by rw [e3] at h1; omega)) fun z2 v2 w g2 v0 v1 hS => ?_)
    rw [e3] at v1
    repeat' (first | refine pN_v (hk := ?_) | fail)
    refine hQ z2 _ _ (Z.Got.bit g1 ?_) ⟨by omega, by omega⟩ hS.to
    rw [if_pos rfl]
    exact g2.map
  · repeat' (first | refine pN_sadd (by decide) ?_ | (refine pN_eql_s ?_ ?_ <;> intro hc <;> try (exfalso; first | omega | exact hc rfl | exact hc (by assumption) | exact absurd hc (by assumption))) | refine pIf_f ?_ | fail)
    refine pc_pithlaw14_Reader_bit (qbit0_ok hp hB hS (by decide) (Z.at_7_1 Z.preR p) fun z2 b2 w g2 hb2 hS => ?_)
    rcases hb2 with rfl | rfl
    · repeat' (first | refine pN_sadd (by decide) ?_ | (refine pN_int1 hS ?_; clear hS; intro si w hS) | (refine pN_eql_s ?_ ?_ <;> intro hc <;> try (exfalso; first | omega | exact hc rfl | exact hc (by assumption) | exact absurd hc (by assumption))) | refine pIf_t ?_ | fail)
      refine pc_pithlaw14_Reader_tree (qtree1_ok 3 (by decide) hp hB (hS.fd2 (cel r) (QRd p B dd bm)) (Z.place p pos) (by omega) (by decide) (fun v h0 h1 => Z.at_9 Z.preR p (by omega) (by rw [e3] at h1; omega)) fun z3 v3 w g3 v0 v1 hS => ?_)
      rw [e3] at v1
      repeat' (first | refine pN_v (hk := ?_) | fail)
      refine hQ z3 _ _ (Z.Got.bit g1 ?_) ⟨by omega, by omega⟩ hS.to
      rw [if_neg (by decide)]
      refine Z.Got.bit g2 ?_
      rw [if_pos rfl]
      exact g3.map
    · repeat' (first | refine pN_sadd (by decide) ?_ | (refine pN_eql_s ?_ ?_ <;> intro hc <;> try (exfalso; first | omega | exact hc rfl | exact hc (by assumption) | exact absurd hc (by assumption))) | refine pIf_f ?_ | fail)
      refine pc_pithlaw14_Reader_tree (qtree0_ok 8 (by decide) hp hB (hS.fd2 (cel r) (QRd p B dd bm)) (by decide) (fun v h0 h1 => Z.at_10 Z.preR p (by rw [e8] at h1; omega)) fun z3 v3 w g3 v0 v1 hS => ?_)
      rw [e8] at v1
      repeat' (first | refine pN_v (hk := ?_) | fail)
      refine hQ z3 _ _ (Z.Got.bit g1 ?_) ⟨by omega, by omega⟩ hS.to
      rw [if_neg (by decide)]
      refine Z.Got.bit g2 ?_
      rw [if_neg (by decide)]
      exact g3.map
set_option maxHeartbeats 1000000 in
theorem qlength11_ok (hp : p.Ok) (hB : B.length ≤ 225000000000000) (pos : Int)
    (hS : Sat E w (cel r ⟨79, rdrC dd p st sa na bm z.isNone⟩ :: QRd p B dd bm z :: M))
    (hQ : ∀ y v w, Z.Got (Z.lenRd 11 p pos) z y v → Z.isLen v → Sat E w (cel r ⟨79, rdrC dd p st sa na bm y.isNone⟩ :: QRd p B dd bm y :: M) → Q (.int .i64 v) w) :
    Calls Tryz.prog 130 #[pz r, .string ⟨#[82, 101, 112]⟩, .int .i64 (Z.place p pos)] w (retP Q) := by
  refine pithlaw14_Reader_length.calls ?_
  unfold pithlaw14_Reader_length.F
  have hpl := place_bd hp pos
  have e3 : (2 : Int) ^ 3 = 8 := by decide
  have e8 : (2 : Int) ^ 8 = 256 := by decide
  repeat' (first | refine pN_sadd (by decide) ?_ | fail)
  refine pc_pithlaw14_Reader_bit (qbit0_ok hp hB hS (by decide) (Z.at_11_0 Z.preR p) fun z1 b1 w g1 hb1 hS => ?_)
  rcases hb1 with rfl | rfl
  · repeat' (first | refine pN_sadd (by decide) ?_ | (refine pN_int1 hS ?_; clear hS; intro si w hS) | (refine pN_eql_s ?_ ?_ <;> intro hc <;> try (exfalso; first | omega | exact hc rfl | exact hc (by assumption) | exact absurd hc (by assumption))) | refine pIf_t ?_ | fail)
    refine pc_pithlaw14_Reader_tree (qtree1_ok 3 (by decide) hp hB (hS.fd2 (cel r) (QRd p B dd bm)) (Z.place p pos) (by omega) (by decide) (fun v h0 h1 => Z.at_12 Z.preR p (by omega) (by rw [e3] at h1; omega)) fun z2 v2 w g2 v0 v1 hS => ?_)
    rw [e3] at v1
    repeat' (first | refine pN_v (hk := ?_) | fail)
    refine hQ z2 _ _ (Z.Got.bit g1 ?_) ⟨by omega, by omega⟩ hS.to
    rw [if_pos rfl]
    exact g2.map
  · repeat' (first | refine pN_sadd (by decide) ?_ | (refine pN_eql_s ?_ ?_ <;> intro hc <;> try (exfalso; first | omega | exact hc rfl | exact hc (by assumption) | exact absurd hc (by assumption))) | refine pIf_f ?_ | fail)
    refine pc_pithlaw14_Reader_bit (qbit0_ok hp hB hS (by decide) (Z.at_11_1 Z.preR p) fun z2 b2 w g2 hb2 hS => ?_)
    rcases hb2 with rfl | rfl
    · repeat' (first | refine pN_sadd (by decide) ?_ | (refine pN_int1 hS ?_; clear hS; intro si w hS) | (refine pN_eql_s ?_ ?_ <;> intro hc <;> try (exfalso; first | omega | exact hc rfl | exact hc (by assumption) | exact absurd hc (by assumption))) | refine pIf_t ?_ | fail)
      refine pc_pithlaw14_Reader_tree (qtree1_ok 3 (by decide) hp hB (hS.fd2 (cel r) (QRd p B dd bm)) (Z.place p pos) (by omega) (by decide) (fun v h0 h1 => Z.at_13 Z.preR p (by omega) (by rw [e3] at h1; omega)) fun z3 v3 w g3 v0 v1 hS => ?_)
      rw [e3] at v1
      repeat' (first | refine pN_v (hk := ?_) | fail)
      refine hQ z3 _ _ (Z.Got.bit g1 ?_) ⟨by omega, by omega⟩ hS.to
      rw [if_neg (by decide)]
      refine Z.Got.bit g2 ?_
      rw [if_pos rfl]
      exact g3.map
    · repeat' (first | refine pN_sadd (by decide) ?_ | (refine pN_eql_s ?_ ?_ <;> intro hc <;> try (exfalso; first | omega | exact hc rfl | exact hc (by assumption) | exact absurd hc (by assumption))) | refine pIf_f ?_ | fail)
      refine pc_pithlaw14_Reader_tree (qtree0_ok 8 (by decide) hp hB (hS.fd2 (cel r) (QRd p B dd bm)) (by decide) (fun v h0 h1 => Z.at_14 Z.preR p (by rw [e8] at h1; omega)) fun z3 v3 w g3 v0 v1 hS => ?_)
      rw [e8] at v1
      repeat' (first | refine pN_v (hk := ?_) | fail)
      refine hQ z3 _ _ (Z.Got.bit g1 ?_) ⟨by omega, by omega⟩ hS.to
      rw [if_neg (by decide)]
      refine Z.Got.bit g2 ?_
      rw [if_neg (by decide)]
      exact g3.map

set_option maxHeartbeats 2000000 in
theorem qdistance_ok {n : Int} (hn : Z.isLen n) (hp : p.Ok) (hB : B.length ≤ 225000000000000)
    (hS : Sat E w (cel r ⟨79, rdrC dd p st sa na bm z.isNone⟩ :: QRd p B dd bm z :: M))
    (hQ : ∀ y v w, Z.Got (Z.distRd n) z y v → -9223372036854775808 ≤ v → v < 9223372036854775808 → Sat E w (cel r ⟨79, rdrC dd p st sa na bm y.isNone⟩ :: QRd p B dd bm y :: M) → Q (.int .i64 v) w) :
    Calls Tryz.prog 131 #[pz r, .int .i64 n] w (retP Q) := by
  refine pithlaw14_Reader_distance.calls ?_
  unfold pithlaw14_Reader_distance.F
  obtain ⟨n1, n2⟩ := hn
  have e6 : (2 : Int) ^ 6 = 64 := by decide
  have e4 : (2 : Int) ^ 4 = 16 := by decide
  have hmk2 : 0 ≤ min (n - 2) 3 ∧ min (n - 2) 3 < 4 := by omega
  repeat' (first | (refine pN_b1 hS (by rfl) (by decide) ?_; clear hS; intro s w hS) | refine pN_v (hk := ?_) | fail)
  refine pc_pithlaw14_Reader_tree (qtree1_ok 6 (by decide) hp hB (hS.fd2 (cel r) (QRd p B dd bm)) (min (n - 2) 3) (by omega) (by decide) (fun v h0 h1 => Z.at_15 Z.preR p hmk2 (by rw [e6] at h1; omega)) fun z1 v w g1 s0 s1 hS => ?_)
  rw [e6] at s1
  have hlb := least_bd s0 s1
  have hb0 := Z.bits_0 s0
  by_cases h4 : v < 4
  · cases z1 with
    | none =>
      simp only [Option.isNone_none] at hS
      repeat' (first | refine pc_state_Range (Range_in _ s0 (by omega) ?_) | refine pc_pithlaw14_num (num14_ok _ (by omega) ?_) | (refine pN_lss_s ?_ ?_ <;> intro hc <;> try (exfalso; omega)) | (refine pN_neq_s ?_ ?_ <;> intro hc <;> try (exfalso; first | omega | exact hc rfl | exact hc (by assumption) | exact absurd hc (by assumption))) | refine pIf_t ?_ | refine pGd_go (by rfl) ?_ | refine pGd_no (by rfl) ?_ | refine pN_l hS (by first | rfl | assumption) ?_ | (refine pN_s hS (by first | exact Nat.le_of_ble_eq_true rfl | assumption) (by rfl) ?_; clear hS; intro w hS; try simp only [List.set_cons_zero, List.set_cons_succ] at hS) | refine pN_v (hk := ?_) | fail)
      refine hQ none _ _ (Z.Got.bind g1 ?_) (by omega) (by omega) (show Sat E _ (cel r ⟨79, rdrC dd p st sa na bm true⟩ :: QRd p B dd bm (none) :: M) from hS.to)
      rw [if_pos h4]
      exact Z.Got.ret _ _
    | some s1' =>
      simp only [Option.isNone_some] at hS
      repeat' (first | refine pc_state_Range (Range_in _ s0 (by omega) ?_) | refine pc_pithlaw14_num (num14_ok _ (by omega) ?_) | (refine pN_lss_s ?_ ?_ <;> intro hc <;> try (exfalso; omega)) | (refine pN_neq_s ?_ ?_ <;> intro hc <;> try (exfalso; first | omega | exact hc rfl | exact hc (by assumption) | exact absurd hc (by assumption))) | refine pIf_t ?_ | refine pGd_go (by rfl) ?_ | refine pN_l hS (by first | rfl | assumption) ?_ | (refine pN_s hS (by first | exact Nat.le_of_ble_eq_true rfl | assumption) (by rfl) ?_; clear hS; intro w hS; try simp only [List.set_cons_zero, List.set_cons_succ] at hS) | refine pN_v (hk := ?_) | fail)
      refine hQ (some s1') _ _ (Z.Got.bind g1 ?_) (by omega) (by omega) (show Sat E _ (cel r ⟨79, rdrC dd p st sa na bm false⟩ :: QRd p B dd bm (some s1') :: M) from hS.to)
      rw [if_pos h4]
      exact Z.Got.ret _ _
  by_cases h14 : v < 14
  · have hr := Z.rest_law v (by omega) (by omega)
    have hrb : (2 : Int) ^ Z.bitsN v ≤ 2 ^ 5 := two_le' hr.2.2.1
    have e5 : (2 : Int) ^ 5 = 32 := by decide
    have hrp : (0 : Int) < 2 ^ Z.bitsN v := Int.pow_pos (by omega)
    repeat' (first | refine pc_state_Range (Range_in _ s0 (by omega) ?_) | refine pc_pithlaw14_num (num14_ok _ (by omega) ?_) | (refine pN_int1 hS ?_; clear hS; intro si w hS) | (refine pN_lss_s ?_ ?_ <;> intro hc <;> try (exfalso; omega)) | (refine pN_neq_s ?_ ?_ <;> intro hc <;> try (exfalso; first | omega | exact hc rfl | exact hc (by assumption) | exact absurd hc (by assumption))) | refine pIf_t ?_ | refine pIf_f ?_ | refine pGd_go (by rfl) ?_ | refine pN_v (hk := ?_) | fail)
    refine pc_pithlaw14_Reader_back (qback1_ok (Z.bitsN v) (by omega) hp hB (hS.fd2 (cel r) (QRd p B dd bm)) v (by omega) (by decide) (fun u h0 h1 => Z.at_16 Z.preR p (by omega) ⟨by omega, h1⟩) fun z2 u w g2 u0 u1 hS => ?_)
    repeat' (first | refine pN_v (hk := ?_) | fail)
    refine hQ z2 _ _ (Z.Got.bind g1 ?_) (by omega) (by omega) hS.to
    rw [if_neg (by omega), if_pos h14]
    exact g2.map
  · have hlate := Z.late_bits (s := v) (by omega)
    have hbm : (Z.bitsN v : Int) - 4 = ((Z.bitsN v - 4 : Nat) : Int) := by omega
    have hub : (2 : Int) ^ (Z.bitsN v - 4) ≤ 2 ^ 26 := two_le' (by omega)
    have e26 : (2 : Int) ^ 26 = 67108864 := by decide
    cases z1 with
    | none =>
      simp only [Option.isNone_none] at hS
      repeat' (first | refine pc_state_Range (Range_in _ s0 (by omega) ?_) | refine pc_pithlaw14_num (num14_ok _ (by omega) ?_) | (refine pN_lss_s ?_ ?_ <;> intro hc <;> try (exfalso; omega)) | (refine pN_neq_s ?_ ?_ <;> intro hc <;> try (exfalso; first | omega | exact hc rfl | exact hc (by assumption) | exact absurd hc (by assumption))) | refine pIf_t ?_ | refine pIf_f ?_ | refine pGd_go (by rfl) ?_ | refine pN_l hS (by first | rfl | assumption) ?_ | refine pN_v (hk := ?_) | fail)
      exact hQ none 0 _ (Z.Got.bind g1 (by rw [if_neg h4, if_neg h14]; rfl)) (by omega) (by omega) (show Sat E _ (cel r ⟨79, rdrC dd p st sa na bm true⟩ :: QRd p B dd bm (none) :: M) from hS.to)
    | some s1' =>
      simp only [Option.isNone_some] at hS
      repeat' (first | refine pc_state_Range (Range_in _ s0 (by omega) ?_) | refine pc_pithlaw14_num (num14_ok _ (by omega) ?_) | (refine pN_lss_s ?_ ?_ <;> intro hc <;> try (exfalso; omega)) | (refine pN_neq_s ?_ ?_ <;> intro hc <;> try (exfalso; first | omega | exact hc rfl | exact hc (by assumption) | exact absurd hc (by assumption))) | refine pIf_f ?_ | refine pGd_go (by rfl) ?_ | refine pN_l hS (by first | rfl | assumption) ?_ | refine pN_v (hk := ?_) | fail)
      have hO := QRd.opn (hS.fd (QRd p B dd bm))
      clear hS
      obtain ⟨y, N, ho, hyb, hys, hrel, hS⟩ := hO
      have hsy := hys _ rfl
      have hrun := Z.dirQ_run (s := y) (n := Z.bitsN v - 4) (by omega)
      have hbd := dirQ_bd (d := y.d) (n := Z.bitsN v - 4) (by omega)
      have hok := D.dirQ_ok ho.d ((Z.bitsN v - 4 : Nat) : Int)
      have hev := dirQ_e y.d ((Z.bitsN v - 4 : Nat) : Int)
      rw [hbm]
      repeat' (first | (refine pc_rcdec_Decoder_Direct (DDirect_q (hS.fd (Dec dd)) ho.d (by rw [hyb]; exact hB) ((Z.bitsN v - 4 : Nat) : Int) ?_); clear hS; intro w hS) | refine pGd_go (by rfl) ?_ | refine pN_l hS (by first | rfl | assumption) ?_ | refine pN_v (hk := ?_) | fail)
      generalize y.d.dirQ ((Z.bitsN v - 4 : Nat) : Int) = u at *
      have hend : ∀ (z2 : Option Z.RS) w, Z.Got (Z.dirRd (Z.bitsN v - 4) 0) (some s1') z2 u.2.1 → Sat E w (cel r ⟨79, rdrC dd p st sa na bm z2.isNone⟩ :: QRd p B dd bm z2 :: M) → ∀ (K : Value → World → Prop), (∀ y a w, Z.Got (Z.distRd n) z y (Z.least v + u.2.1 * 16 + a) → 0 ≤ a → a < 16 → Sat E w (cel r ⟨79, rdrC dd p st sa na bm y.isNone⟩ :: QRd p B dd bm y :: M) → K (.int .i64 a) w) → Calls Tryz.prog 165 #[pz r, .int .i64 4, .string ⟨#[65, 108, 105, 103, 110]⟩, .slice none 0 0] w (retP K) := fun z2 w g2 hS K hK => by
        refine qback0_ok 4 (by decide) hp hB hS (by decide) (fun u h0 h1 => Z.at_17 Z.preR p (by rw [e4] at h1; omega)) fun z3 a w g3 a0 a1 hS => ?_
        rw [e4] at a1
        refine hK z3 a w (Z.Got.bind g1 ?_) a0 a1 hS
        rw [if_neg (by omega), if_neg h14]
        exact Z.Got.bind g2 g3.map
      by_cases h0 : u.2.2 = 0
      · rw [if_pos h0] at hrun
        repeat' (first | refine pc_pithlaw14_num (num14_ok _ (by omega) ?_) | refine pN_shl_k 4 rfl (by show _ ≤ 64; omega) ?_ | (refine pN_neq_s ?_ ?_ <;> intro hc <;> try (exfalso; first | omega | exact hc rfl | exact hc (by assumption) | exact absurd hc (by assumption))) | refine pGd_go (by rfl) ?_ | (refine pN_s hS (by first | exact Nat.le_of_ble_eq_true rfl | assumption) (by rfl) ?_; clear hS; intro w hS; try simp only [List.set_cons_zero, List.set_cons_succ] at hS) | refine pN_v (hk := ?_) | fail)
        have hS := QRd.shut (p := p) (B := B) (z := some ⟨u.1, y.T⟩) (y := ⟨u.1, y.T⟩) (hS.fd2 (Dec dd) (NSets PSet Z.freshR bm)) ⟨hok.1, ho.T⟩ (hok.2.trans hyb) (fun _ h => by cases h; rfl) hrel
        refine pc_pithlaw14_Reader_back (hend (some ⟨u.1, y.T⟩) _ (by show Z.Rd.run _ _ = _; rw [← hsy, hrun]; rfl) (show Sat E _ (cel r ⟨79, rdrC dd p st sa na bm false⟩ :: QRd p B dd bm (some ⟨u.1, y.T⟩) :: M) from hS.to) _ fun y2 a w g a0 a1 hS => ?_)
        have e16 : u.2.1 * 2 ^ 4 = u.2.1 * 16 := by rw [e4]
        rw [e16]
        repeat' (first | refine pN_v (hk := ?_) | fail)
        exact hQ y2 _ _ g (by omega) (by omega) hS
      · rw [if_neg h0] at hrun
        repeat' (first | refine pc_pithlaw14_num (num14_ok _ (by omega) ?_) | refine pN_shl_k 4 rfl (by show _ ≤ 64; omega) ?_ | (refine pN_neq_s ?_ ?_ <;> intro hc <;> try (exfalso; first | omega | exact hc rfl | exact hc (by assumption) | exact absurd hc (by assumption))) | refine pGd_go (by rfl) ?_ | (refine pN_s hS (by first | exact Nat.le_of_ble_eq_true rfl | assumption) (by rfl) ?_; clear hS; intro w hS; try simp only [List.set_cons_zero, List.set_cons_succ] at hS) | refine pN_v (hk := ?_) | fail)
        have hS := QRd.shut (p := p) (B := B) (z := none) (y := ⟨u.1, y.T⟩) (hS.fd2 (Dec dd) (NSets PSet Z.freshR bm)) ⟨hok.1, ho.T⟩ (hok.2.trans hyb) (fun _ h => by cases h) hrel
        refine pc_pithlaw14_Reader_back (hend (none) _ (by show Z.Rd.run _ _ = _; rw [← hsy, hrun]; rfl) (show Sat E _ (cel r ⟨79, rdrC dd p st sa na bm true⟩ :: QRd p B dd bm (none) :: M) from hS.to) _ fun y2 a w g a0 a1 hS => ?_)
        have e16 : u.2.1 * 2 ^ 4 = u.2.1 * 16 := by rw [e4]
        rw [e16]
        repeat' (first | refine pN_v (hk := ?_) | fail)
        exact hQ y2 _ _ g (by omega) (by omega) hS
end
end Go.Proofs.YtbgnnjfpiblkmaaGreatDoor

namespace Go.Proofs.YtbgnnjfpiblkmaaGreatDoor
open Go
theorem byteOf_256 (v : Int) : byteOf (256 + v) = byteOf v := by
  unfold byteOf
  rw [show (256 + v) % 256 = v % 256 from by omega]
attribute [local irreducible] oMv oV oU oCall oCallV oBi oBin oUn oLoad oStore oNil oFld oField oIdx oIndex oPick oAlloc oBox oBuild oBs oConv oMk oSl oExt oFn oIface oMap oLook oMapUp oRange oNext oEntry oInv oAssert oPanic oRes pN pA pL pDr pIf gA pGd Calls

section
variable {E w W : World} {M : List HA} {Q : Value → World → Prop} {p : Z.Pr} {st : Z.St} {x : Z.W} {B : List UInt8} {r dd bm na : Nat} {sa s0 : Sl} {z : Option Z.RS}
set_option maxRecDepth 8000 in
set_option maxHeartbeats 2000000 in
theorem qliteral_ok (hp : p.Ok) (hs : st.Right) (hB : B.length ≤ 225000000000000) (hx : x.all.length ≤ 140737488355328) (h1 : 1 ≤ x.size) (h2 : st.r0 ≤ x.size)
    (hS : Sat E w (cel r ⟨79, rdrC dd p st sa x.all.length bm z.isNone⟩ :: QRd p B dd bm z :: rows cd_uint8 sa x.all :: M))
    (hQ : ∀ y v w, Z.Got (Z.litRd p st x) z y v → 0 ≤ v → v < 256 → Sat E w (cel r ⟨79, rdrC dd p st sa x.all.length bm y.isNone⟩ :: QRd p B dd bm y :: rows cd_uint8 sa x.all :: M) → Q (bv (byteOf v)) w) :
    Calls Tryz.prog 129 #[pz r] w (retP Q) := by
  refine pithlaw14_Reader_literal.calls ?_
  unfold pithlaw14_Reader_literal.F
  obtain ⟨p2, p3, p4, p5, p6⟩ := id hp
  have hpow : (2 : Int) ^ p.lp.toNat ≤ 2 ^ 4 := two_le' (by omega)
  have hpow0 : (0 : Int) < 2 ^ p.lp.toNat := Int.pow_pos (by omega)
  have e4 : (2 : Int) ^ 4 = 16 := by decide
  have e : (1 : Int) * 2 ^ p.lp.toNat - 1 = 2 ^ p.lp.toNat - 1 := by omega
  have hb0 := Int.emod_nonneg (x.all.length : Int) (show (2 : Int) ^ p.lp.toNat ≠ 0 by omega)
  have hb1 := Int.emod_lt_of_pos (x.all.length : Int) hpow0
  have hpc : (2 : Int) ^ p.lc.toNat ≤ 2 ^ 4 := two_le' (by omega)
  have hpc0 : (0 : Int) < 2 ^ p.lc.toNat := Int.pow_pos (by omega)
  have hx0 : 0 ≤ (x.all.length : Int) % 2 ^ p.lp.toNat * 2 ^ p.lc.toNat := Int.mul_nonneg hb0 (by omega)
  have hx1 : (x.all.length : Int) % 2 ^ p.lp.toNat * 2 ^ p.lc.toNat ≤ 16 * 16 := Int.mul_le_mul (by omega) (by omega) (by omega) (by omega)
  have hy0 : 0 ≤ ((Z.lastOr x 1).toNat : Int) / 2 ^ (8 - p.lc).toNat := Int.ediv_nonneg (by omega) (Int.pow_nonneg (by omega))
  have hy1 : ((Z.lastOr x 1).toNat : Int) / 2 ^ (8 - p.lc).toNat ≤ (Z.lastOr x 1).toNat := Int.ediv_le_self _ (by omega)
  have hb := (Z.lastOr x 1).toNat_lt
  have hc := context_bd hp x.all.length (Z.lastOr x 1).toNat (by omega) (by omega)
  have tl := Z.tabLen_bd hp 6
  have e8 : (2 : Int) ^ 8 = 256 := by decide
  unfold Z.litRd at hQ
  have hcx : Z.context p x.all.length (Z.lastOr x 1).toNat = 768 * ((x.all.length : Int) % 2 ^ p.lp.toNat * 2 ^ p.lc.toNat + ((Z.lastOr x 1).toNat : Int) / 2 ^ (8 - p.lc).toNat) := rfl
  rw [hcx] at hQ hc
  have hlt16 : (x.all.length : Int) % 2 ^ p.lp.toNat * 2 ^ p.lc.toNat + ((Z.lastOr x 1).toNat : Int) / 2 ^ (8 - p.lc).toNat < 16 := by omega
  obtain ⟨fr, hfr⟩ : ∃ fr, fr = (x.all.length : Int) % 2 ^ p.lp.toNat * 2 ^ p.lc.toNat + ((Z.lastOr x 1).toNat : Int) / 2 ^ (8 - p.lc).toNat := ⟨_, rfl⟩
  have hfr16 : 0 ≤ fr ∧ fr < 16 := by rw [hfr]; omega
  have hu0 := (Z.lastOr x st.r0).toNat_lt
  have hA : ∀ {j : Int}, 0 ≤ j → j < 768 → Z.At Z.preR p (Z.nm [76, 105, 116, 101, 114, 97, 108] [fr]) j 6 (768 * fr + j) := fun h0 h1 => Z.at_6 Z.preR p (by rw [hfr]; exact ⟨by omega, by omega⟩) (by rw [hfr]; omega) ⟨h0, h1⟩
  by_cases h7 : st.num < 7
  · rw [if_pos h7, ← hfr] at hQ
    repeat' (first | refine pA_shl_k p.lp.toNat (Int.toNat_of_nonneg (by omega)).symm (by show _ ≤ 64; omega) ?_ | refine pA_shl_k p.lc.toNat (Int.toNat_of_nonneg (by omega)).symm (by show _ ≤ 64; omega) ?_ | refine pA_shr_k (8 - p.lc).toNat (Int.toNat_of_nonneg (by omega)).symm (by show _ ≤ 64; omega) ?_ | (rw [e, pA_andn p.lp.toNat _ _ rfl rfl (by show _ < 64; omega) (wrap_i64 (by omega))]) | (refine pc_pithlaw14_Reader_last (qlast_ok (x := x) 1 h1 hx (hS.fd2 (cel r) (rows cd_uint8 sa)) ?_); clear hS; intro w hS) | refine And.intro ?_ ?_ | exact trivial | exact run_l hS rfl | (refine pc_pithlaw14_Reader_last (qlast_ok (x := x) st.r0 h2 hx (hS.fd2 (cel r) (rows cd_uint8 sa)) ?_); clear hS; intro w hS) | (refine pN_geq_s ?_ ?_ <;> intro hc <;> try (exfalso; omega)) | refine pN_l hS (by first | rfl | assumption) ?_ | refine pL_l hS (by first | rfl | assumption) ?_ | (refine pDr_go hS ?_; clear hS; intro w hS) | refine pN_v (hk := ?_) | refine pA_v (hk := ?_) | fail)
    rw [← hfr] at *
    refine ⟨fun m sm i w => ∃ (bs : List Int) (z1 : Option Z.RS), m = .int .i64 (R.nodeL bs) ∧ sm = .bool false ∧ i = .int .i64 (7 - (bs.length : Int)) ∧ bs.length ≤ 8 ∧ R.Bits bs ∧ (∀ y v, Z.Got (Z.bitsRd 6 (768 * fr) (8 - bs.length) bs) z1 y v → Z.Got (Z.bitsRd 6 (768 * fr) 8 []) z y v) ∧
      Sat E w (cel r ⟨79, rdrC dd p st sa x.all.length bm z1.isNone⟩ :: QRd p B dd bm z1 :: rows cd_uint8 sa x.all :: M), fun _ _ i _ => (RowKit.intOf i + 1).toNat, ⟨[], z, rfl, rfl, rfl, by simp, fun _ h => (by cases h), fun _ _ h => h, hS.to⟩, ?_⟩
    clear hS
    rintro _ _ _ _ w ⟨bs, z1, rfl, rfl, rfl, hk, hbs, hgo, hS⟩
    have hnd := R.nodeL_bd hbs
    have h9 : (2 : Int) ^ (bs.length + 1) ≤ 2 ^ 9 := two_le' (by omega)
    have e9 : (2 : Int) ^ 9 = 512 := by decide
    have hp0 : (0 : Int) < 2 ^ bs.length := Int.pow_pos (by omega)
    by_cases hlt : bs.length < 8
    · have hpn : (2 : Int) ^ (bs.length + 1) ≤ 2 ^ 8 := two_le' (by omega)
      obtain ⟨i, hi⟩ : ∃ i : Nat, 7 - (bs.length : Int) = i := ⟨7 - bs.length, by omega⟩
      rw [hi]
      have h1le : i ≤ 64 := by omega
      repeat' (first | (refine pN_geq_s ?_ ?_ <;> intro hc <;> try (exfalso; omega)) | refine pIf_t ?_ | fail)
      refine ⟨fun m sm w => ∃ (b : Int) (z2 : Option Z.RS), (b = 0 ∨ b = 1) ∧ m = .int .i64 (2 * R.nodeL bs + b) ∧ sm = .bool false ∧ Z.Got (.bit 6 (768 * fr + R.nodeL bs) .ret) z1 z2 b ∧ Sat E w (cel r ⟨79, rdrC dd p st sa x.all.length bm z2.isNone⟩ :: QRd p B dd bm z2 :: rows cd_uint8 sa x.all :: M), ?_, ?_⟩
      · repeat' (first | refine pN_shr_k i rfl h1le ?_ | refine pN_v (hk := ?_) | fail)
        refine ⟨fun v w => v = .int .i64 (R.nodeL bs) ∧ Sat E w (cel r ⟨79, rdrC dd p st sa x.all.length bm z1.isNone⟩ :: QRd p B dd bm z1 :: rows cd_uint8 sa x.all :: M), ?_, ?_⟩
        · repeat' (first | refine pIf_f ?_ | fail)
          exact ⟨rfl, hS.to⟩
        clear hS
        rintro _ _ w ⟨rfl, hS⟩
        repeat' (first | (refine pN_b1 hS (by rfl) (by decide) ?_; clear hS; intro s w hS) | fail)
        refine pc_pithlaw14_Reader_bit (qbit1_ok hp hB (hS.fd2 (cel r) (QRd p B dd bm)) fr (by omega) (by decide) (hA (by omega) (by omega)) fun z2 b w g hb hS => ?_)
        rcases hb with rfl | rfl
        · repeat' (first | refine pGd_no (by rfl) ?_ | refine pN_v (hk := ?_) | fail)
          exact ⟨_, z2, .inl rfl, rfl, rfl, g, hS.to⟩
        · repeat' (first | refine pGd_no (by rfl) ?_ | refine pN_v (hk := ?_) | fail)
          exact ⟨_, z2, .inr rfl, rfl, rfl, g, hS.to⟩
      · clear hS
        rintro _ _ _ w ⟨b, z2, hb, rfl, rfl, g, hS⟩
        repeat' (first | refine pN_v (hk := ?_) | fail)
        refine ⟨⟨bs ++ [b], z2, by rw [R.nodeL_snoc], rfl, by simp; omega, by simp; omega, hbs.snoc hb, fun y u hx => hgo y u ?_, hS⟩, by simp only [RowKit.intOf]; omega⟩
        rw [show 8 - bs.length = (8 - (bs ++ [b]).length) + 1 from by simp; omega]
        exact Z.Got.bit g hx
    · have hnb : bs.length = 8 := by omega
      rw [hnb, Nat.sub_self] at hgo
      have hv := Z.val_bd false hbs
      have hnh := Z.node_horner bs
      have hg := Z.Got.bits_ret (n := 8) hgo false
      rw [hnb, e8] at hv hnh
      have hvh : R.val false bs = R.horner bs := rfl
      rw [hnb, show 7 - ((8 : Nat) : Int) = -1 from by decide]
      repeat' (first | (refine pN_geq_s ?_ ?_ <;> intro hc <;> try (exfalso; omega)) | refine pIf_f ?_ | refine pN_tob ?_ | fail)
      rw [hnh, byteOf_256, ← hvh]
      exact hQ z1 _ _ hg hv.1 hv.2 hS.to
  · rw [if_neg h7, ← hfr] at hQ
    repeat' (first | refine pA_shl_k p.lp.toNat (Int.toNat_of_nonneg (by omega)).symm (by show _ ≤ 64; omega) ?_ | refine pA_shl_k p.lc.toNat (Int.toNat_of_nonneg (by omega)).symm (by show _ ≤ 64; omega) ?_ | refine pA_shr_k (8 - p.lc).toNat (Int.toNat_of_nonneg (by omega)).symm (by show _ ≤ 64; omega) ?_ | (rw [e, pA_andn p.lp.toNat _ _ rfl rfl (by show _ < 64; omega) (wrap_i64 (by omega))]) | (refine pc_pithlaw14_Reader_last (qlast_ok (x := x) 1 h1 hx (hS.fd2 (cel r) (rows cd_uint8 sa)) ?_); clear hS; intro w hS) | refine And.intro ?_ ?_ | exact trivial | exact run_l hS rfl | (refine pc_pithlaw14_Reader_last (qlast_ok (x := x) st.r0 h2 hx (hS.fd2 (cel r) (rows cd_uint8 sa)) ?_); clear hS; intro w hS) | (refine pN_geq_s ?_ ?_ <;> intro hc <;> try (exfalso; omega)) | refine pN_l hS (by first | rfl | assumption) ?_ | refine pL_l hS (by first | rfl | assumption) ?_ | (refine pDr_go hS ?_; clear hS; intro w hS) | refine pN_v (hk := ?_) | refine pA_v (hk := ?_) | fail)
    rw [← hfr] at *
    generalize hu : ((Z.lastOr x st.r0).toNat : Int) = u at *
    refine ⟨fun m sm i w => ∃ (k : Nat) (m' : Int) (same : Bool) (z1 : Option Z.RS), sm = .bool same ∧ i = .int .i64 ((k : Int) - 1) ∧ m = .int .i64 m' ∧ k ≤ 8 ∧ 1 ≤ m' ∧ 2 ^ (8 - k) ≤ m' ∧ m' < 2 ^ (9 - k) ∧ (∀ y v, Z.Got (Z.litGoRd (768 * fr) u k m' same) z1 y v → Z.Got (Z.litGoRd (768 * fr) u 8 1 true) z y v) ∧
      Sat E w (cel r ⟨79, rdrC dd p st sa x.all.length bm z1.isNone⟩ :: QRd p B dd bm z1 :: rows cd_uint8 sa x.all :: M), fun _ _ i _ => (RowKit.intOf i + 1).toNat, ⟨8, 1, true, z, rfl, rfl, rfl, by omega, by omega, by decide, by decide, fun _ _ h => h, hS.to⟩, ?_⟩
    clear hS
    rintro _ _ _ _ w ⟨k, m', same, z1, rfl, rfl, rfl, hk8, hm1, hm0, hm2, hgo, hS⟩
    cases k with
    | zero =>
      have e9 : (2 : Int) ^ 9 = 512 := by decide
      rw [show 8 - 0 = 8 from rfl, e8] at hm0
      rw [show 9 - 0 = 9 from rfl, e9] at hm2
      repeat' (first | (refine pN_geq_s ?_ ?_ <;> intro hc <;> try (exfalso; omega)) | refine pIf_f ?_ | refine pN_tob ?_ | fail)
      rw [show m' = 256 + (m' - 256) from by omega, byteOf_256]
      exact hQ z1 _ _ (hgo z1 _ (Z.Got.ret _ _)) (by omega) (by omega) hS.to
    | succ i =>
      have ei : ((i + 1 : Nat) : Int) - 1 = (i : Int) := by omega
      rw [ei]
      have hub : 0 ≤ u / 2 ^ i % 2 ∧ u / 2 ^ i % 2 ≤ 1 := by omega
      have e9 : (2 : Int) ^ (9 - i) = 2 ^ (9 - (i + 1)) * 2 := by rw [show 9 - i = (9 - (i + 1)) + 1 from by omega, Int.pow_succ]
      have e10 : (2 : Int) ^ (8 - i) = 2 ^ (8 - (i + 1)) * 2 := by rw [show 8 - i = (8 - (i + 1)) + 1 from by omega, Int.pow_succ]
      have hm8 : m' < 256 := by
        have : (2 : Int) ^ (9 - (i + 1)) ≤ 2 ^ 8 := two_le' (by omega)
        omega
      have h1le : i ≤ 64 := by omega
      repeat' (first | (refine pN_geq_s ?_ ?_ <;> intro hc <;> try (exfalso; omega)) | refine pIf_t ?_ | fail)
      refine ⟨fun m sm w => ∃ (b : Int) (z2 : Option Z.RS), (b = 0 ∨ b = 1) ∧ m = .int .i64 (2 * m' + b) ∧ sm = .bool (same && decide (b = u / 2 ^ i % 2)) ∧ (∀ y v, Z.Got (Z.litGoRd (768 * fr) u i (2 * m' + b) (same && decide (b = u / 2 ^ i % 2))) z2 y v → Z.Got (Z.litGoRd (768 * fr) u 8 1 true) z y v) ∧ Sat E w (cel r ⟨79, rdrC dd p st sa x.all.length bm z2.isNone⟩ :: QRd p B dd bm z2 :: rows cd_uint8 sa x.all :: M), ?_, ?_⟩
      · repeat' (first | refine pN_shr_k i rfl h1le ?_ | refine pN_v (hk := ?_) | fail)
        generalize hub2 : u / 2 ^ i % 2 = ub at *
        refine ⟨fun v w => v = .int .i64 (m' + if same = true then 256 * (1 + ub) else 0) ∧ Sat E w (cel r ⟨79, rdrC dd p st sa x.all.length bm z1.isNone⟩ :: QRd p B dd bm z1 :: rows cd_uint8 sa x.all :: M), ?_, ?_⟩
        · cases same
          · repeat' (first | refine pIf_f ?_ | fail)
            exact ⟨by simp, hS.to⟩
          · repeat' (first | refine pIf_t ?_ | refine pN_v (hk := ?_) | fail)
            exact ⟨by simp; omega, hS.to⟩
        clear hS
        rintro _ _ w ⟨rfl, hS⟩
        repeat' (first | (refine pN_b1 hS (by rfl) (by decide) ?_; clear hS; intro s w hS) | fail)
        refine pc_pithlaw14_Reader_bit (qbit1_ok hp hB (hS.fd2 (cel r) (QRd p B dd bm)) fr (by omega) (by decide) (hA (by split <;> omega) (by split <;> omega)) fun z2 b w g hb hS => ?_)
        have hgo2 : ∀ y v, Z.Got (Z.litGoRd (768 * fr) u i (2 * m' + b) (same && decide (b = ub))) z2 y v → Z.Got (Z.litGoRd (768 * fr) u 8 1 true) z y v := fun y v h => hgo y v (by rw [Z.litGoRd, hub2, Int.add_assoc]; exact Z.Got.bit g h)
        cases same
        · rcases hb with rfl | rfl
          · repeat' (first | refine pGd_no (by rfl) ?_ | refine pN_v (hk := ?_) | fail)
            exact ⟨_, z2, .inl rfl, rfl, rfl, hgo2, hS.to⟩
          · repeat' (first | refine pGd_no (by rfl) ?_ | refine pN_v (hk := ?_) | fail)
            exact ⟨_, z2, .inr rfl, rfl, rfl, hgo2, hS.to⟩
        · rcases hb with rfl | rfl
          · repeat' (first | (refine pN_eql_s ?_ ?_ <;> intro hc <;> try (exfalso; first | omega | exact hc rfl | exact hc (by assumption) | exact absurd hc (by assumption))) | refine pGd_go (by rfl) ?_ | refine pN_v (hk := ?_) | fail)
            · exact ⟨_, z2, .inl rfl, rfl, by rw [decide_eq_true hc]; rfl, hgo2, hS.to⟩
            · exact ⟨_, z2, .inl rfl, rfl, by rw [decide_eq_false hc]; rfl, hgo2, hS.to⟩
          · repeat' (first | (refine pN_eql_s ?_ ?_ <;> intro hc <;> try (exfalso; first | omega | exact hc rfl | exact hc (by assumption) | exact absurd hc (by assumption))) | refine pGd_go (by rfl) ?_ | refine pN_v (hk := ?_) | fail)
            · exact ⟨_, z2, .inr rfl, rfl, by rw [decide_eq_true hc]; rfl, hgo2, hS.to⟩
            · exact ⟨_, z2, .inr rfl, rfl, by rw [decide_eq_false hc]; rfl, hgo2, hS.to⟩
      · clear hS
        rintro _ _ _ w ⟨b, z2, hb, rfl, rfl, hgo2, hS⟩
        repeat' (first | refine pN_v (hk := ?_) | fail)
        exact ⟨⟨i, _, _, z2, rfl, rfl, rfl, by omega, by omega, by omega, by omega, hgo2, hS⟩, by simp [RowKit.intOf] <;> omega⟩
end
end Go.Proofs.YtbgnnjfpiblkmaaGreatDoor

namespace Go.Proofs.YtbgnnjfpiblkmaaGreatDoor
open Go
set_option maxRecDepth 8000 in
theorem pN_int2' {E w : World} {K : Value → World → Prop} {L : List HA} {a b : Int} (hS : Sat E w L) (hk : ∀ s' w', Sat E w' (rows cd_int s' [a, b] :: L) → K (.slice s'.a 2 s'.c) w') :
    pN Tryz.prog (oBs 217 2 [(0, .int .i64 a), (1, .int .i64 b)]) w K :=
  pN_bl (C := cd_int) [_, _] [a, b] rfl rfl rfl (Nat.zero_lt_succ _) hS (Nat.le_of_ble_eq_true rfl) hk
attribute [local irreducible] oMv oV oU oCall oCallV oBi oBin oUn oLoad oStore oNil oFld oField oIdx oIndex oPick oAlloc oBox oBuild oBs oConv oMk oSl oExt oFn oIface oMap oLook oMapUp oRange oNext oEntry oInv oAssert oPanic oRes pN pA pL pDr pIf gA pGd Calls

section
variable {E w W : World} {M : List HA} {Q : Value → World → Prop} {p : Z.Pr} {st : Z.St} {x : Z.W} {B : List UInt8} {r dd bm na : Nat} {sa s0 : Sl} {z : Option Z.RS}
set_option maxRecDepth 8000 in
set_option maxHeartbeats 4000000 in
theorem qsymbol_ok (hp : p.Ok) (hs : st.Right) (hB : B.length ≤ 225000000000000) (hx : x.all.length ≤ 140737488355328) (h1 : 1 ≤ x.size) (h2 : st.r0 ≤ x.size)
    (hS : Sat E w (cel r ⟨79, rdrC dd p st sa x.all.length bm z.isNone⟩ :: QRd p B dd bm z :: rows cd_uint8 sa x.all :: M))
    (hQ : ∀ y v w, Z.Got (Z.symRd p st x) z y v → Sat E w (cel r ⟨79, rdrC dd p st sa x.all.length bm y.isNone⟩ :: QRd p B dd bm y :: rows cd_uint8 sa x.all :: M) → Q (.agg #[.int .i64 v.Kind, bv v.Byte, .int .i64 v.Len, .int .i64 v.Dist]) w) :
    Calls Tryz.prog 88 #[pz r] w (retP Q) := by
  refine pithlaw14_Reader_symbol.calls ?_
  unfold pithlaw14_Reader_symbol.F
  obtain ⟨p2, p3, p4, p5, p6⟩ := id hp
  have hpow : (2 : Int) ^ p.pb.toNat ≤ 2 ^ 4 := two_le' (by omega)
  have hpow0 : (0 : Int) < 2 ^ p.pb.toNat := Int.pow_pos (by omega)
  have e4 : (2 : Int) ^ 4 = 16 := by decide
  have e : (1 : Int) * 2 ^ p.pb.toNat - 1 = 2 ^ p.pb.toNat - 1 := by omega
  have hpl := place_bd hp x.all.length
  have hn := hs.num
  have hps : (x.all.length : Int) % 2 ^ p.pb.toNat = Z.place p x.all.length := rfl
  have hn100 : 0 ≤ st.num ∧ st.num < 100 := by omega
  have hp100 : 0 ≤ Z.place p x.all.length ∧ Z.place p x.all.length < 100 := by omega
  repeat' (first | refine pA_shl_k p.pb.toNat (Int.toNat_of_nonneg (by omega)).symm (by show _ ≤ 64; omega) ?_ | (rw [e, pA_andn p.pb.toNat _ _ rfl rfl (by show _ < 64; omega) (wrap_i64 (by omega)), hps]) | (refine pN_int2' hS ?_; clear hS; intro si w hS) | (refine pN_nz hS ?_; clear hS; intro ay w hS) | refine pN_l hS (by first | rfl | assumption) ?_ | refine pL_l hS (by first | rfl | assumption) ?_ | (refine pDr_go hS ?_; clear hS; intro w hS) | refine pN_v (hk := ?_) | refine pA_v (hk := ?_) | fail)
  refine pc_pithlaw14_Reader_bit (qbit2_ok hp hB (hS.fd2 (cel r) (QRd p B dd bm)) st.num (Z.place p x.all.length) hn100 hp100 (by decide) (Z.at_0 Z.preR p hn hpl) fun z1 b1 w g1 hb1 hS => ?_)
  rcases hb1 with rfl | rfl
  · repeat' (first | (refine pN_eql_s ?_ ?_ <;> intro hc <;> try (exfalso; first | omega | exact hc rfl | exact hc (by assumption) | exact absurd hc (by assumption))) | refine pIf_t ?_ | fail)
    refine pc_pithlaw14_Reader_literal (qliteral_ok hp hs hB hx h1 h2 (hS.fd3 (cel r) (QRd p B dd bm) (rows cd_uint8 sa)) fun z2 v w g2 v0 v1 hS => ?_)
    repeat' (first | refine pL_ra hS (by rfl) ?_ | (refine pN_sa hS (by rfl) (by rfl) (by rfl) ?_; clear hS; intro w hS; try dsimp only at hS) | refine pN_v (hk := ?_) | fail)
    exact hQ z2 ⟨1, byteOf v, 0, 0⟩ _ (Z.Got.bit g1 (by rw [if_pos rfl]; exact g2.map)) hS.to
  repeat' (first | (refine pN_int1 hS ?_; clear hS; intro sj w hS) | (refine pN_eql_s ?_ ?_ <;> intro hc <;> try (exfalso; first | omega | exact hc rfl | exact hc (by assumption) | exact absurd hc (by assumption))) | refine pIf_f ?_ | refine pN_l hS (by first | rfl | assumption) ?_ | refine pN_v (hk := ?_) | fail)
  refine pc_pithlaw14_Reader_bit (qbit1_ok hp hB (hS.fd2 (cel r) (QRd p B dd bm)) st.num hn100 (by decide) (Z.at_2 Z.preR p hn) fun z2 b2 w g2 hb2 hS => ?_)
  rcases hb2 with rfl | rfl
  · repeat' (first | (refine pN_eql_s ?_ ?_ <;> intro hc <;> try (exfalso; first | omega | exact hc rfl | exact hc (by assumption) | exact absurd hc (by assumption))) | refine pIf_t ?_ | fail)
    refine pc_pithlaw14_Reader_length (qlength7_ok hp hB x.all.length (hS.fd2 (cel r) (QRd p B dd bm)) fun z3 n w g3 hn3 hS => ?_)
    skip
    refine pc_pithlaw14_Reader_distance (qdistance_ok hn3 hp hB (hS.fd2 (cel r) (QRd p B dd bm)) fun z4 d w g4 d0 d1 hS => ?_)
    repeat' (first | refine pL_ra hS (by rfl) ?_ | (refine pN_sa hS (by rfl) (by rfl) (by rfl) ?_; clear hS; intro w hS; try dsimp only at hS) | refine pN_v (hk := ?_) | fail)
    refine hQ z4 ⟨2, 0, n, d⟩ _ (Z.Got.bit g1 ?_) hS.to
    rw [if_neg (by decide)]
    refine Z.Got.bit g2 ?_
    rw [if_pos rfl]
    exact Z.Got.bind g3 g4.map
  repeat' (first | (refine pN_eql_s ?_ ?_ <;> intro hc <;> try (exfalso; first | omega | exact hc rfl | exact hc (by assumption) | exact absurd hc (by assumption))) | refine pIf_f ?_ | fail)
  refine ⟨fun i w => ∃ (d : Int) (z4 : Option Z.RS), i = .int .i64 d ∧ (∀ y v, Z.Got (Z.repRd p x.all.length d) z4 y v → Z.Got (Z.symRd p st x) z y v) ∧ Sat E w (cel ay ⟨48, [.int .i64 0, bv 0, .int .i64 0, .int .i64 0]⟩ :: cel r ⟨79, rdrC dd p st sa x.all.length bm z4.isNone⟩ :: QRd p B dd bm z4 :: rows cd_uint8 sa x.all :: M), ?_, ?_⟩
  · repeat' (first | (refine pN_int1 hS ?_; clear hS; intro sj w hS) | refine pN_l hS (by first | rfl | assumption) ?_ | refine pN_v (hk := ?_) | fail)
    refine pc_pithlaw14_Reader_bit (qbit1_ok hp hB (hS.fd2 (cel r) (QRd p B dd bm)) st.num hn100 (by decide) (Z.at_3 Z.preR p hn) fun z3 b3 w g3 hb3 hS => ?_)
    rcases hb3 with rfl | rfl
    · repeat' (first | (refine pN_int2' hS ?_; clear hS; intro si w hS) | (refine pN_eql_s ?_ ?_ <;> intro hc <;> try (exfalso; first | omega | exact hc rfl | exact hc (by assumption) | exact absurd hc (by assumption))) | refine pIf_t ?_ | refine pN_l hS (by first | rfl | assumption) ?_ | refine pN_v (hk := ?_) | fail)
      refine pc_pithlaw14_Reader_bit (qbit2_ok hp hB (hS.fd2 (cel r) (QRd p B dd bm)) st.num (Z.place p x.all.length) hn100 hp100 (by decide) (Z.at_1 Z.preR p hn hpl) fun z4 b4 w g4 hb4 hS => ?_)
      rcases hb4 with rfl | rfl
      · repeat' (first | (refine pN_eql_s ?_ ?_ <;> intro hc <;> try (exfalso; first | omega | exact hc rfl | exact hc (by assumption) | exact absurd hc (by assumption))) | refine pIf_t ?_ | refine pL_ra hS (by rfl) ?_ | (refine pN_sa hS (by rfl) (by rfl) (by rfl) ?_; clear hS; intro w hS; try dsimp only at hS) | refine pN_v (hk := ?_) | fail)
        refine hQ z4 ⟨4, 0, 0, 0⟩ _ (Z.Got.bit g1 ?_) hS.to
        rw [if_neg (by decide)]
        refine Z.Got.bit g2 ?_
        rw [if_neg (by decide)]
        refine Z.Got.bit g3 ?_
        rw [if_pos rfl]
        refine Z.Got.bit g4 ?_
        rw [if_pos rfl]
        exact Z.Got.ret _ _
      · repeat' (first | (refine pN_eql_s ?_ ?_ <;> intro hc <;> try (exfalso; first | omega | exact hc rfl | exact hc (by assumption) | exact absurd hc (by assumption))) | refine pIf_f ?_ | fail)
        refine ⟨0, z4, rfl, fun y v h => Z.Got.bit g1 ?_, hS.to⟩
        rw [if_neg (by decide)]
        refine Z.Got.bit g2 ?_
        rw [if_neg (by decide)]
        refine Z.Got.bit g3 ?_
        rw [if_pos rfl]
        refine Z.Got.bit g4 ?_
        rw [if_neg (by decide)]
        exact h
    repeat' (first | (refine pN_int1 hS ?_; clear hS; intro sj w hS) | (refine pN_eql_s ?_ ?_ <;> intro hc <;> try (exfalso; first | omega | exact hc rfl | exact hc (by assumption) | exact absurd hc (by assumption))) | refine pIf_f ?_ | refine pN_l hS (by first | rfl | assumption) ?_ | refine pN_v (hk := ?_) | fail)
    refine pc_pithlaw14_Reader_bit (qbit1_ok hp hB (hS.fd2 (cel r) (QRd p B dd bm)) st.num hn100 (by decide) (Z.at_4 Z.preR p hn) fun z4 b4 w g4 hb4 hS => ?_)
    rcases hb4 with rfl | rfl
    · repeat' (first | (refine pN_eql_s ?_ ?_ <;> intro hc <;> try (exfalso; first | omega | exact hc rfl | exact hc (by assumption) | exact absurd hc (by assumption))) | refine pIf_t ?_ | fail)
      refine ⟨1, z4, rfl, fun y v h => Z.Got.bit g1 ?_, hS.to⟩
      rw [if_neg (by decide)]
      refine Z.Got.bit g2 ?_
      rw [if_neg (by decide)]
      refine Z.Got.bit g3 ?_
      rw [if_neg (by decide)]
      refine Z.Got.bit g4 ?_
      rw [if_pos rfl]
      exact h
    · repeat' (first | (refine pN_int1 hS ?_; clear hS; intro sj w hS) | (refine pN_eql_s ?_ ?_ <;> intro hc <;> try (exfalso; first | omega | exact hc rfl | exact hc (by assumption) | exact absurd hc (by assumption))) | refine pIf_f ?_ | refine pN_l hS (by first | rfl | assumption) ?_ | refine pN_v (hk := ?_) | fail)
      refine pc_pithlaw14_Reader_bit (qbit1_ok hp hB (hS.fd2 (cel r) (QRd p B dd bm)) st.num hn100 (by decide) (Z.at_5 Z.preR p hn) fun z5 b5 w g5 hb5 hS => ?_)
      repeat' (first | refine pN_v (hk := ?_) | fail)
      refine ⟨2 + b5, z5, rfl, fun y v h => Z.Got.bit g1 ?_, hS.to⟩
      rw [if_neg (by decide)]
      refine Z.Got.bit g2 ?_
      rw [if_neg (by decide)]
      refine Z.Got.bit g3 ?_
      rw [if_neg (by decide)]
      refine Z.Got.bit g4 ?_
      rw [if_neg (by decide)]
      exact Z.Got.bit g5 h
  · clear hS
    rintro _ _ w ⟨d, z4, rfl, hgo, hS⟩
    skip
    refine pc_pithlaw14_Reader_length (qlength11_ok hp hB x.all.length (hS.fd2 (cel r) (QRd p B dd bm)) fun z5 n w g5 hn5 hS => ?_)
    repeat' (first | refine pL_ra hS (by rfl) ?_ | (refine pN_sa hS (by rfl) (by rfl) (by rfl) ?_; clear hS; intro w hS; try dsimp only at hS) | refine pN_v (hk := ?_) | fail)
    exact hQ z5 ⟨3, 0, n, d⟩ _ (hgo _ _ g5.map) hS.to
end
end Go.Proofs.YtbgnnjfpiblkmaaGreatDoor

namespace Go.Proofs.YtbgnnjfpiblkmaaGreatDoor
open Go
namespace Z
theorem errY_vals (y : Y) : errY y = 0 ∨ errY y = 6 ∨ errY y = 7 := by
  unfold errY
  split
  · exact .inl rfl
  · split
    · split
      · exact .inl rfl
      · exact .inr (.inr rfl)
    · split
      · split
        · exact .inl rfl
        · exact .inr (.inr rfl)
      · exact .inr (.inl rfl)
theorem may_vals (e : EZ) (y : Y) : e.may y = 0 ∨ e.may y = 6 ∨ e.may y = 7 := by
  unfold EZ.may may
  split
  · exact errY_vals y
  · split
    · exact .inl rfl
    · split
      · exact .inl rfl
      · exact .inr (.inr rfl)
end Z

end Go.Proofs.YtbgnnjfpiblkmaaGreatDoor

namespace Go.Proofs.YtbgnnjfpiblkmaaGreatDoor
open Go
namespace Z
theorem cpy_take (all : List UInt8) (d : Nat) : ∀ n k, k ≤ n → (cpy all d n).take k = cpy all d k
  | 0, k, h => by obtain rfl : k = 0 := by omega
                  rfl
  | n + 1, k, h => by
    by_cases hk : k = n + 1
    · subst hk; rw [List.take_of_length_le (by rw [cpy_len]; omega)]
    · rw [cpy, List.take_append_of_le_length (by rw [cpy_len]; omega), cpy_take all d n k (by omega)]
theorem next_r0 {s : St} {y : Y} (hy : errY y = 0) (hk : y.Kind ≠ 1) : (s.next y).r0 = dist s y := by
  rcases kinds hy with h | h | h | h
  · exact absurd h hk
  · simp [St.next, dist, h]
  · simp [St.next, dist, h]
  · have hd := err_rep hy h
    have h4 : y.Dist = 0 ∨ y.Dist = 1 ∨ y.Dist = 2 ∨ y.Dist = 3 := by omega
    rcases h4 with h4 | h4 | h4 | h4 <;> simp [St.next, dist, St.rep, h, h4]
theorem size_max {y : Y} (hy : errY y = 0) (hu : used y = y) : max 1 y.Len = size y := by
  unfold size
  rw [if_neg (by omega)]
  rcases kinds hy with h | h | h | h
  · have : y.Len = 0 := by rw [← hu, used, if_pos h]
    rw [if_neg (by omega), this]; rfl
  · have : y.Len = 0 := by rw [← hu, used, if_neg (by omega), if_pos h]
    rw [if_neg (by omega), this]; rfl
  · have hl := (err_len hy (.inl h)).1
    rw [if_pos (.inl h)]; omega
  · have hl := (err_len hy (.inr h)).1
    rw [if_pos (.inr h)]; omega
theorem cel_cnv2 {E w : World} {M : List HA} {t : Nat} {o o' : Ob} (h : o = o') (hS : Sat E w (cel t o :: M)) : Sat E w (cel t o' :: M) := h ▸ hS
end Z
abbrev rdrV (dv : Value) (p : Z.Pr) (st : Z.St) (sa : Sl) (n : Nat) (bm : Nat) (f : Bool) : List Value :=
  [dv, .int .i64 p.lc, .int .i64 p.lp, .int .i64 p.pb, .int .i64 st.num, .int .i64 st.r0, .int .i64 st.r1, .int .i64 st.r2, .int .i64 st.r3, .slice sa.a n sa.c, .map (some bm), .bool f]
theorem QSets.fresh {E w : World} {M : List HA} {bm : Nat} (hS : Sat E w (mp ske bm [] :: M)) : Sat E w (QSets bm (fun _ => Z.freshR) :: M) :=
  Sat.shut (M := [_]) hS fun h hh => ⟨[], List.nodup_nil, fun _ => rfl, hh⟩
attribute [local irreducible] oMv oV oU oCall oCallV oBi oBin oUn oLoad oStore oNil oFld oField oIdx oIndex oPick oAlloc oBox oBuild oBs oConv oMk oSl oExt oFn oIface oMap oLook oMapUp oRange oNext oEntry oInv oAssert oPanic oRes pN pA pL pDr pIf gA pGd Calls

section
variable {E w W : World} {M N : List HA} {Q : Value → World → Prop} {p : Z.Pr} {st : Z.St} {x : Z.W} {y : Z.Y} {B : List UInt8} {r dd bm na : Nat} {sa s0 : Sl} {z : Option Z.RS}
theorem qused_ok (hS : Sat E w M) (hQ : ∀ w, Sat E w M → Q (.agg #[.int .i64 (Z.used y).Kind, bv (Z.used y).Byte, .int .i64 (Z.used y).Len, .int .i64 (Z.used y).Dist]) w) :
    Calls Tryz.prog 35 #[.agg #[.int .i64 y.Kind, bv y.Byte, .int .i64 y.Len, .int .i64 y.Dist]] w (retP Q) := by
  refine pithlaw14_used.calls ?_
  unfold pithlaw14_used.F
  by_cases h1 : y.Kind = 1
  · have e : Z.used y = ⟨1, y.Byte, 0, 0⟩ := by rw [Z.used, if_pos h1]
    rw [e] at hQ
    repeat' (first | (refine pN_eql_s ?_ ?_ <;> intro hc <;> try (exfalso; first | omega | exact hc rfl | exact hc (by assumption) | exact absurd hc (by assumption))) | refine pIf_t ?_ | refine pN_l hS (by first | rfl | assumption) ?_ | refine pL_ra hS (by rfl) ?_ | (refine pN_sa hS (by rfl) (by rfl) (by rfl) ?_; clear hS; intro w hS; try dsimp only at hS) | (refine pN_nz hS ?_; clear hS; intro a w hS) | (refine pN_bx hS (by rfl) ?_; clear hS; intro a w hS) | refine pN_v (hk := ?_) | fail)
    rw [h1]
    exact hQ _ hS.to
  · by_cases h4 : y.Kind = 4
    · have e : Z.used y = ⟨4, 0, 0, 0⟩ := by rw [Z.used, if_neg h1, if_pos h4]
      rw [e] at hQ
      repeat' (first | (refine pN_eql_s ?_ ?_ <;> intro hc <;> try (exfalso; first | omega | exact hc rfl | exact hc (by assumption) | exact absurd hc (by assumption))) | refine pIf_t ?_ | refine pIf_f ?_ | refine pN_l hS (by first | rfl | assumption) ?_ | refine pL_ra hS (by rfl) ?_ | (refine pN_sa hS (by rfl) (by rfl) (by rfl) ?_; clear hS; intro w hS; try dsimp only at hS) | (refine pN_nz hS ?_; clear hS; intro a w hS) | (refine pN_bx hS (by rfl) ?_; clear hS; intro a w hS) | refine pN_v (hk := ?_) | fail)
      rw [h4]
      exact hQ _ hS.to
    · have e : Z.used y = ⟨y.Kind, 0, y.Len, y.Dist⟩ := by rw [Z.used, if_neg h1, if_neg h4]
      rw [e] at hQ
      repeat' (first | (refine pN_eql_s ?_ ?_ <;> intro hc <;> try (exfalso; first | omega | exact hc rfl | exact hc (by assumption) | exact absurd hc (by assumption))) | refine pIf_f ?_ | refine pN_l hS (by first | rfl | assumption) ?_ | refine pL_ra hS (by rfl) ?_ | (refine pN_sa hS (by rfl) (by rfl) (by rfl) ?_; clear hS; intro w hS; try dsimp only at hS) | (refine pN_nz hS ?_; clear hS; intro a w hS) | (refine pN_bx hS (by rfl) ?_; clear hS; intro a w hS) | refine pN_v (hk := ?_) | fail)
      exact hQ _ hS.to
theorem qbegin_ok {dv mv : Value} {s0 s1 s2 s3 s4 : Int} {f : Bool} {n : Nat} (hS : Sat E w (cel r ⟨79, [dv, .int .i64 p.lc, .int .i64 p.lp, .int .i64 p.pb, .int .i64 s0, .int .i64 s1, .int .i64 s2, .int .i64 s3, .int .i64 s4, .slice sa.a n sa.c, mv, .bool f]⟩ :: M)) (hQ : ∀ bm w, Sat E w (cel r ⟨79, rdrV dv p Z.St.new sa n bm f⟩ :: QSets bm (fun _ => Z.freshR) :: M) → Q (.tuple #[]) w) :
    Calls Tryz.prog 34 #[pz r] w (retP Q) := by
  refine pithlaw14_Reader_begin.calls ?_
  unfold pithlaw14_Reader_begin.F
  repeat' (first | (refine pN_mkm hS ske ?_; clear hS; intro bm2 w hS) | (refine pN_sa_at (us := [.int .i64 1, .int .i64 1, .int .i64 1, .int .i64 1]) hS rfl (Nat.le_of_ble_eq_true rfl) rfl ?_; clear hS; intro w hS) | (refine pN_s hS (by first | exact Nat.le_of_ble_eq_true rfl | assumption) (by rfl) ?_; clear hS; intro w hS; try simp only [List.set_cons_zero, List.set_cons_succ] at hS) | refine pN_v (hk := ?_) | fail)
  have hS := Z.cel_cnv2 (t := r) (o' := ⟨79, rdrV dv p Z.St.new sa n bm2 f⟩) rfl (hS.fd (cel r))
  have hS := QSets.fresh (hS.fd (mp ske bm2))
  exact hQ bm2 _ hS.to

set_option maxRecDepth 8000 in
set_option maxHeartbeats 2000000 in
theorem qapply_ok (hG : Glo W) (hs : st.Right) (hm : Z.may x st y = 0) (hu : Z.used y = y) (hx : x.all.length + 273 ≤ 140737488355328)
    (hS : Sat E w (cel r ⟨79, rdrC dd p st sa x.all.length bm false⟩ :: rows cd_uint8 sa x.all :: M)) [h : Has (old W) M N]
    (hQ : ∀ sa w, Sat E w (cel r ⟨79, rdrC dd p (st.next y) sa (x.all ++ Z.made x st y).length bm false⟩ :: rows cd_uint8 sa (x.all ++ Z.made x st y) :: M) → Q (.tuple #[]) w) :
    Calls Tryz.prog 89 #[pz r, .agg #[.int .i64 y.Kind, bv y.Byte, .int .i64 y.Len, .int .i64 y.Dist]] w (retP Q) := by
  refine pithlaw14_Reader_apply.calls ?_
  unfold pithlaw14_Reader_apply.F
  have hy := Z.may_err hm
  have hsz := Z.size_bd hy
  have hmx := Z.size_max hy hu
  repeat' (first | (refine pN_bx hS (by rfl) ?_; clear hS; intro aY w hS) | refine pL_la_at (n := 4) hS [.int .i64 st.r0, .int .i64 st.r1, .int .i64 st.r2, .int .i64 st.r3] rfl rfl ?_ | refine pL_la_at (n := 4) hS [.int .i64 y.Kind, bv y.Byte, .int .i64 y.Len, .int .i64 y.Dist] rfl rfl ?_ | refine And.intro ?_ ?_ | exact trivial | exact run_l hS rfl | exact run_la_at (n := 4) hS [.int .i64 st.r0, .int .i64 st.r1, .int .i64 st.r2, .int .i64 st.r3] rfl rfl | exact run_la_at hS [.int .i64 y.Kind, bv y.Byte, .int .i64 y.Len, .int .i64 y.Dist] rfl rfl | (refine pc_state_State_Next (Next_in hG hS hs hy ?_); clear hS; intro w hS) | refine pc_pithlaw14_num (num14_ok _ (by omega) ?_) | (refine pN_sa_at (us := (st.next y).cells) hS rfl (Nat.le_of_ble_eq_true rfl) rfl ?_; clear hS; intro w hS) | refine pL_la_at (n := 4) hS [.int .i64 (st.next y).r0, .int .i64 (st.next y).r1, .int .i64 (st.next y).r2, .int .i64 (st.next y).r3] rfl rfl ?_ | exact run_la_at (n := 4) hS [.int .i64 (st.next y).r0, .int .i64 (st.next y).r1, .int .i64 (st.next y).r2, .int .i64 (st.next y).r3] rfl rfl | (refine pN_sa_at (us := [.int .i64 (st.next y).r0, .int .i64 (st.next y).r1, .int .i64 (st.next y).r2, .int .i64 (st.next y).r3]) hS rfl (Nat.le_of_ble_eq_true rfl) rfl ?_; clear hS; intro w hS) | (refine pN_neq_s ?_ ?_ <;> intro hc <;> try (exfalso; first | omega | exact hc rfl | exact hc (by assumption) | exact absurd hc (by assumption))) | refine pIf_f ?_ | refine pN_l hS (by first | rfl | assumption) ?_ | refine pL_l hS (by first | rfl | assumption) ?_ | (refine pN_s hS (by first | exact Nat.le_of_ble_eq_true rfl | assumption) (by rfl) ?_; clear hS; intro w hS; try simp only [List.set_cons_zero, List.set_cons_succ] at hS) | (refine pDr_go hS ?_; clear hS; intro w hS) | (refine pN_nz hS ?_; clear hS; intro a w hS) | refine pN_v (hk := ?_) | refine pA_v (hk := ?_) | fail)
  all_goals
    rw [hmx]
    have hml : (Z.made x st y).length = (Z.size y).toNat := by
      unfold Z.made
      split
      · rename_i hk; rw [Z.size, if_neg (by omega), if_neg (by omega)]; rfl
      · rw [Z.cpy_len]
    have hS := Z.cel_cnv2 (t := r) (o' := ⟨79, rdrC dd p (st.next y) sa x.all.length bm false⟩) rfl (hS.fd (cel r))
    refine ⟨fun v w => ∃ (k : Nat) (sb : Sl), v = .int .i64 k ∧ k ≤ (Z.size y).toNat ∧ Sat E w (cel aY ⟨48, [.int .i64 y.Kind, bv y.Byte, .int .i64 y.Len, .int .i64 y.Dist]⟩ :: cel r ⟨79, rdrC dd p (st.next y) sb (x.all ++ (Z.made x st y).take k).length bm false⟩ :: rows cd_uint8 sb (x.all ++ (Z.made x st y).take k) :: M), fun v _ => (Z.size y).toNat - (RowKit.intOf v).toNat, ⟨0, sa, rfl, Nat.zero_le _, by rw [List.take_zero, List.append_nil]; exact hS.to⟩, ?_⟩
    clear hS
    rintro _ _ w ⟨k, sb, rfl, hk, hS⟩
    have hlk : (x.all ++ (Z.made x st y).take k).length = x.all.length + k := by rw [List.length_append, List.length_take]; omega
    by_cases hlt : k < (Z.size y).toNat
    · by_cases hk1 : y.Kind = 1
      · have hmd : Z.made x st y = [y.Byte] := by rw [Z.made, if_pos hk1]
        have hk0 : k = 0 := by rw [hmd] at hml; simp at hml; omega
        subst hk0
        rw [hmd] at hS ⊢
        simp only [List.take_zero, List.append_nil] at hS
        repeat' (first | (refine pN_lss_s ?_ ?_ <;> intro hc <;> try (exfalso; omega)) | refine pIf_t ?_ | fail)
        refine ⟨fun w => ∃ sc : Sl, Sat E w (cel aY ⟨48, [.int .i64 y.Kind, bv y.Byte, .int .i64 y.Len, .int .i64 y.Dist]⟩ :: cel r ⟨79, rdrC dd p (st.next y) sc (x.all ++ [y.Byte]).length bm false⟩ :: rows cd_uint8 sc (x.all ++ [y.Byte]) :: M), ?_, ?_⟩
        · repeat' (first | refine And.intro ?_ ?_ | exact trivial | exact run_l hS rfl | (refine pN_app hS rfl rfl (by simp only [List.length_cons, List.length_nil]; omega) ?_; clear hS; intro sc w hS) | (refine pN_eql_s ?_ ?_ <;> intro hc <;> try (exfalso; first | omega | exact hc rfl | exact hc (by assumption) | exact absurd hc (by assumption))) | refine pIf_t ?_ | refine pN_l hS (by first | rfl | assumption) ?_ | refine pL_l hS (by first | rfl | assumption) ?_ | (refine pN_s hS (by first | exact Nat.le_of_ble_eq_true rfl | assumption) (by rfl) ?_; clear hS; intro w hS; try simp only [List.set_cons_zero, List.set_cons_succ] at hS) | (refine pDr_go hS ?_; clear hS; intro w hS) | (refine pN_b1 hS (by rfl) (by decide) ?_; clear hS; intro s w hS) | refine pN_v (hk := ?_) | refine pA_v (hk := ?_) | fail)
          all_goals exact ⟨sc, hS.to⟩
        · clear hS
          rintro _ w ⟨sc, hS⟩
          repeat' (first | refine pN_v (hk := ?_) | fail)
          exact ⟨⟨1, sc, rfl, by omega, hS⟩, by simp only [RowKit.intOf]; omega⟩
      · have hhas := Z.may_has hm hk1
        obtain ⟨d1, d2⟩ := id hhas
        unfold Z.W.full at d2
        have hr0 := Z.next_r0 (s := st) hy hk1
        have hmd : Z.made x st y = Z.cpy x.all (Z.dist st y).toNat (Z.size y).toNat := by rw [Z.made, if_neg hk1]
        have htk : (Z.made x st y).take k = Z.cpy x.all (Z.dist st y).toNat k := by rw [hmd, Z.cpy_take _ _ _ _ (by omega)]
        have htk1 : (Z.made x st y).take (k + 1) = Z.cpy x.all (Z.dist st y).toNat (k + 1) := by rw [hmd, Z.cpy_take _ _ _ _ (by omega)]
        rw [htk] at hS hlk
        have hlast : Z.lastOr ⟨x.size, x.all ++ Z.cpy x.all (Z.dist st y).toNat k⟩ (Z.dist st y) = ((x.all ++ Z.cpy x.all (Z.dist st y).toNat k)[(x.all ++ Z.cpy x.all (Z.dist st y).toNat k).length - (Z.dist st y).toNat]?).getD 0 := by
          rw [Z.lastOr, if_pos ⟨d1, by unfold Z.W.full; simp only [hlk]; omega⟩]; rfl
        have e1 : x.all ++ Z.cpy x.all (Z.dist st y).toNat (k + 1) = (x.all ++ Z.cpy x.all (Z.dist st y).toNat k) ++ [Z.lastOr ⟨x.size, x.all ++ Z.cpy x.all (Z.dist st y).toNat k⟩ (Z.dist st y)] := by rw [hlast, List.append_assoc]; rfl
        have e2 : x.all ++ (Z.made x st y).take (k + 1) = (x.all ++ Z.cpy x.all (Z.dist st y).toNat k) ++ [Z.lastOr ⟨x.size, x.all ++ Z.cpy x.all (Z.dist st y).toNat k⟩ (Z.dist st y)] := by rw [htk1, e1]
        clear e1 hlast htk htk1
        generalize hA : x.all ++ Z.cpy x.all (Z.dist st y).toNat k = A at *
        have hdz : (st.next y).r0 ≤ (⟨x.size, A⟩ : Z.W).size := by rw [hr0]; show _ ≤ x.size; omega
        rw [← hr0] at e2
        generalize hbb : Z.lastOr ⟨x.size, A⟩ (st.next y).r0 = bb at *
        have hbl := bb.toNat_lt
        repeat' (first | (refine pN_lss_s ?_ ?_ <;> intro hc <;> try (exfalso; omega)) | refine pIf_t ?_ | fail)
        refine ⟨fun w => ∃ sc : Sl, Sat E w (cel aY ⟨48, [.int .i64 y.Kind, bv y.Byte, .int .i64 y.Len, .int .i64 y.Dist]⟩ :: cel r ⟨79, rdrC dd p (st.next y) sc (A ++ [bb]).length bm false⟩ :: rows cd_uint8 sc (A ++ [bb]) :: M), ?_, ?_⟩
        · repeat' (first | refine And.intro ?_ ?_ | exact trivial | exact run_l hS rfl | (refine pc_pithlaw14_Reader_last (qlast_ok (x := ⟨x.size, A⟩) (st.next y).r0 hdz (by show A.length ≤ _; omega) (hS.fd2 (cel r) (rows cd_uint8 sb)) ?_); rw [hbb]; clear hS; intro w hS) | (refine pN_app hS rfl rfl (by simp only [List.length_cons, List.length_nil]; omega) ?_; clear hS; intro sc w hS) | (refine pN_eql_s ?_ ?_ <;> intro hc <;> try (exfalso; first | omega | exact hc rfl | exact hc (by assumption) | exact absurd hc (by assumption))) | refine pIf_f ?_ | refine pL_tob ?_ | refine pN_l hS (by first | rfl | assumption) ?_ | refine pL_l hS (by first | rfl | assumption) ?_ | (refine pN_s hS (by first | exact Nat.le_of_ble_eq_true rfl | assumption) (by rfl) ?_; clear hS; intro w hS; try simp only [List.set_cons_zero, List.set_cons_succ] at hS) | (refine pDr_go hS ?_; clear hS; intro w hS) | (refine pN_b1 hS (by rfl) (by decide) ?_; clear hS; intro s w hS) | refine pN_v (hk := ?_) | refine pA_v (hk := ?_) | fail)
          all_goals
            simp only [byteOf_self] at hS
            exact ⟨sc, hS.to⟩
        · clear hS
          rintro _ w ⟨sc, hS⟩
          rw [← e2] at hS
          repeat' (first | refine pN_v (hk := ?_) | fail)
          exact ⟨⟨k + 1, sc, rfl, by omega, hS⟩, by simp only [RowKit.intOf]; omega⟩
    · have hke : k = (Z.size y).toNat := by omega
      have hkl : (Z.made x st y).take k = Z.made x st y := List.take_of_length_le (by omega)
      rw [hkl] at hS hlk
      by_cases hk2 : y.Kind = 2
      · have hhas := Z.may_has hm (by omega)
        obtain ⟨d1, d2⟩ := id hhas
        unfold Z.W.full at d2
        have hdd : Z.dist st y = y.Dist := by rw [Z.dist, if_pos hk2]
        repeat' (first | ((first | refine pN_lss_s ?_ ?_ | refine pA_gtr_s ?_ ?_) <;> intro hc <;> try (exfalso; omega)) | (refine pA_eql_s ?_ ?_ <;> intro hc <;> try (exfalso; first | omega | exact hc rfl | exact hc (by assumption) | exact absurd hc (by assumption))) | refine pIf_f ?_ | refine gA_go (by rfl) ?_ | refine pL_l hS (by first | rfl | assumption) ?_ | (refine pDr_go hS ?_; clear hS; intro w hS) | refine pA_v (hk := ?_) | fail)
        exact hQ sb _ hS.to
      · repeat' (first | (refine pN_lss_s ?_ ?_ <;> intro hc <;> try (exfalso; omega)) | (refine pA_eql_s ?_ ?_ <;> intro hc <;> try (exfalso; first | omega | exact hc rfl | exact hc (by assumption) | exact absurd hc (by assumption))) | refine pIf_f ?_ | refine gA_no (by rfl) ?_ | refine pL_l hS (by first | rfl | assumption) ?_ | (refine pDr_go hS ?_; clear hS; intro w hS) | refine pA_v (hk := ?_) | fail)
        exact hQ sb _ hS.to
end
end Go.Proofs.YtbgnnjfpiblkmaaGreatDoor
