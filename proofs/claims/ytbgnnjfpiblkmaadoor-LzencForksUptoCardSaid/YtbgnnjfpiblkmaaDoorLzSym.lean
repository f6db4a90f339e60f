/-
  Package lzenc: a symbol's bits; the two that take them.
-/
import Derived.Test.YtbgnnjfpiblkmaaDoorLzCode
namespace Go.Proofs.YtbgnnjfpiblkmaaDoor
open Go
set_option linter.unusedSimpArgs false
set_option linter.unnecessarySimpa false
set_option linter.unusedSectionVars false
set_option linter.unusedVariables false

theorem nil_any {nm : String} {t : TypeId} {u : Value} (h : ∀ w : World, (oNil (.func (.method nm) #[.iface t u] #[])).run Tryd.prog w = .ok (.value (.func (.method nm) #[.iface t u] #[])) w) (w : World) : (oNil (mth nm (.iface t u))).run Tryd.prog w = .ok (.value (mth nm (.iface t u))) w := h w

/-- That codes them. -/
abbrev codingV (e : Nat) : Value := .iface 57 (.agg #[pz e])
/-- That adds up their costs. -/
abbrev costingV (a : Nat) : Value := .iface 72 (pz a)
theorem cod_nb (e : Nat) (w : World) : (oNil (mth "pith/lzenc.bit" (codingV e))).run Tryd.prog w = .ok (.value (mth "pith/lzenc.bit" (codingV e))) w := by kernel_rfl
theorem cod_nt (e : Nat) (w : World) : (oNil (mth "pith/lzenc.tree" (codingV e))).run Tryd.prog w = .ok (.value (mth "pith/lzenc.tree" (codingV e))) w := by kernel_rfl
theorem cod_nk (e : Nat) (w : World) : (oNil (mth "pith/lzenc.back" (codingV e))).run Tryd.prog w = .ok (.value (mth "pith/lzenc.back" (codingV e))) w := by kernel_rfl
theorem cod_nd (e : Nat) (w : World) : (oNil (mth "pith/lzenc.direct" (codingV e))).run Tryd.prog w = .ok (.value (mth "pith/lzenc.direct" (codingV e))) w := by kernel_rfl
theorem cst_nb (e : Nat) (w : World) : (oNil (mth "pith/lzenc.bit" (costingV e))).run Tryd.prog w = .ok (.value (mth "pith/lzenc.bit" (costingV e))) w := by kernel_rfl
theorem cst_nt (e : Nat) (w : World) : (oNil (mth "pith/lzenc.tree" (costingV e))).run Tryd.prog w = .ok (.value (mth "pith/lzenc.tree" (costingV e))) w := by kernel_rfl
theorem cst_nk (e : Nat) (w : World) : (oNil (mth "pith/lzenc.back" (costingV e))).run Tryd.prog w = .ok (.value (mth "pith/lzenc.back" (costingV e))) w := by kernel_rfl
theorem cst_nd (e : Nat) (w : World) : (oNil (mth "pith/lzenc.direct" (costingV e))).run Tryd.prog w = .ok (.value (mth "pith/lzenc.direct" (costingV e))) w := by kernel_rfl

set_option maxRecDepth 100000
section
variable {w : World} {K : Value → World → Prop}
theorem inv_cod_bit {e : Nat} {args : List Value} (h : Calls Tryd.prog 76 (.agg #[pz e] :: args).toArray w (retP K)) : pN Tryd.prog (oInv (codingV e) "pith/lzenc.bit" args) w K :=
  pN_inv (r := .agg #[pz e]) (fun args w => by kernel_rfl) h
theorem inv_cod_tree {e : Nat} {args : List Value} (h : Calls Tryd.prog 78 (.agg #[pz e] :: args).toArray w (retP K)) : pN Tryd.prog (oInv (codingV e) "pith/lzenc.tree" args) w K :=
  pN_inv (r := .agg #[pz e]) (fun args w => by kernel_rfl) h
theorem inv_cod_back {e : Nat} {args : List Value} (h : Calls Tryd.prog 75 (.agg #[pz e] :: args).toArray w (retP K)) : pN Tryd.prog (oInv (codingV e) "pith/lzenc.back" args) w K :=
  pN_inv (r := .agg #[pz e]) (fun args w => by kernel_rfl) h
theorem inv_cod_direct {e : Nat} {args : List Value} (h : Calls Tryd.prog 77 (.agg #[pz e] :: args).toArray w (retP K)) : pN Tryd.prog (oInv (codingV e) "pith/lzenc.direct" args) w K :=
  pN_inv (r := .agg #[pz e]) (fun args w => by kernel_rfl) h
theorem inv_cst_bit {e : Nat} {args : List Value} (h : Calls Tryd.prog 98 (pz e :: args).toArray w (retP K)) : pN Tryd.prog (oInv (costingV e) "pith/lzenc.bit" args) w K :=
  pN_inv (r := pz e) (fun args w => by kernel_rfl) h
theorem inv_cst_tree {e : Nat} {args : List Value} (h : Calls Tryd.prog 100 (pz e :: args).toArray w (retP K)) : pN Tryd.prog (oInv (costingV e) "pith/lzenc.tree" args) w K :=
  pN_inv (r := pz e) (fun args w => by kernel_rfl) h
theorem inv_cst_back {e : Nat} {args : List Value} (h : Calls Tryd.prog 97 (pz e :: args).toArray w (retP K)) : pN Tryd.prog (oInv (costingV e) "pith/lzenc.back" args) w K :=
  pN_inv (r := pz e) (fun args w => by kernel_rfl) h
theorem inv_cst_direct {e : Nat} {args : List Value} (h : Calls Tryd.prog 99 (pz e :: args).toArray w (retP K)) : pN Tryd.prog (oInv (costingV e) "pith/lzenc.direct" args) w K :=
  pN_inv (r := pz e) (fun args w => by kernel_rfl) h
end
theorem Sat.fd3 {E w : World} {L M N O : List HA} {σ τ υ : Type} (hS : Sat E w L) (F : σ → HA) (G : τ → HA) (H : υ → HA) {a : σ} {b : τ} {c : υ} [h1 : Fnd F L a M] [h2 : Fnd G M b N] [h3 : Fnd H N c O] : Sat E w (F a :: G b :: H c :: O) := hS.perm (h1.perm.trans ((h2.perm.trans (h3.perm.cons _)).cons _))
theorem Sat.fd4 {E w : World} {L M N O R : List HA} {σ τ υ φ : Type} (hS : Sat E w L) (F : σ → HA) (G : τ → HA) (H : υ → HA) (I : φ → HA) {a : σ} {b : τ} {c : υ} {d : φ} [h1 : Fnd F L a M] [h2 : Fnd G M b N] [h3 : Fnd H N c O] [h4 : Fnd I O d R] : Sat E w (F a :: G b :: H c :: I d :: R) := hS.perm (h1.perm.trans ((h2.perm.trans ((h3.perm.trans (h4.perm.cons _)).cons _)).cons _))
attribute [local irreducible] oMv oV oU oCall oCallV oBi oBin oUn oLoad oStore oNil oFld oField oIdx oIndex oPick oAlloc oBox oBuild oBs oConv oMk oSl oExt oFn oIface oMap oLook oMapUp oRange oNext oEntry oInv oAssert oPanic oRes pN pA pL pDr pIf gA pGd

section
variable {E w W : World} {M N : List HA} {Q : Value → World → Prop} {p : Z.Pr} {s : Z.St} {x : Z.W} {b t wd en : Nat} {q : Nat → Nat} {c : Value} {X : List Z.Op → HA} {l : List Z.Op}

set_option maxHeartbeats 2000000 in
theorem code1_ok {y : Z.Y} (hk : Snk p q c X) (hp : p.Ok) (hs : s.Right) (hy : Z.errY y = 0) (hk1 : y.Kind = 1)
    (hS : Sat E w (X [] :: cel b ⟨54, encCells t wd en⟩ :: cel t ⟨67, tbCells p s q⟩ :: Win wd x :: M)) (hx : x.all.length ≤ 4611686018427387904)
    (hQ : ∀ w, Sat E w (X (Z.symOps p s x y) :: cel b ⟨54, encCells t wd en⟩ :: cel t ⟨67, tbCells p s q⟩ :: Win wd x :: M) → Q (.tuple #[]) w) :
    Calls Tryd.prog 21 #[pz b, c, .agg #[.int .i64 y.Kind, bv y.Byte, .int .i64 y.Len, .int .i64 y.Dist]] w (retP Q) := by
  refine lzenc_Encoder_code.calls ?_
  unfold lzenc_Encoder_code.F
  have ho := (Z.symOps_ok hp hs x hy).ok
  have hn := hs.num
  have hpl := place_bd hp x.all.length
  unfold Z.symOps at ho hQ
  dsimp only at ho hQ
  rw [if_pos hk1] at ho hQ
  repeat' (first | (refine hk.bit _ _ _ (ho _ (by first | exact List.Mem.head _ | exact List.Mem.tail _ (List.Mem.head _) | exact List.Mem.tail _ (List.Mem.tail _ (List.Mem.head _)) | exact List.Mem.tail _ (List.Mem.tail _ (List.Mem.tail _ (List.Mem.head _))) | exact List.Mem.tail _ (List.Mem.tail _ (List.Mem.tail _ (List.Mem.tail _ (List.Mem.head _)))) | exact List.Mem.tail _ (List.Mem.tail _ (List.Mem.tail _ (List.Mem.tail _ (List.Mem.tail _ (List.Mem.head _))))) | exact List.Mem.tail _ (List.Mem.tail _ (List.Mem.tail _ (List.Mem.tail _ (List.Mem.tail _ (List.Mem.tail _ (List.Mem.head _)))))))) (by first | omega | (simp only [List.length_append, List.length_cons, List.length_nil]; omega)) (hS.fd X) ?_; clear hS; intro w hS) | refine pA_nilm hk.nb ?_ | (refine pc_window_Window_Pos (Pos_ok (hS.fd (Win wd)) ?_); clear hS; intro w hS) | (refine pc_model_Tables_At (MAt_ok (hS.fd (cel t)) hp hs _ (by omega) (by omega) ?_); clear hS; intro w hS) | (refine pc_lzenc_Encoder_literal (literal_ok hk hp hs _ (by simp only [List.length_append, List.length_cons, List.length_nil]; omega) (hS.fd4 X (cel b) (cel t) (Win wd)) hx ?_); clear hS; intro w hS) | (refine pN_eql_s ?_ ?_ <;> intro hc <;> try (exfalso; first | omega | exact hc rfl | exact hc (by assumption) | exact absurd hc (by assumption))) | refine pIf_t ?_ | refine pN_ofb ?_ | refine pN_l hS (by first | rfl | assumption) ?_ | refine pL_l hS (by first | rfl | assumption) ?_ | (refine pDr_go hS ?_; clear hS; intro w hS) | (refine pN_bx hS (by rfl) ?_; clear hS; intro a w hS) | refine ⟨trivial, ?_⟩ | refine ⟨⟨(by first | exact run_l hS (by first | rfl | assumption) | exact run_st hS (by first | rfl | omega) | exact run_ld1 ha hS | exact fun _ => run_l hS (by rfl) | exact fun _ => run_st hS (by first | rfl | omega) | exact fun _ => run_ld1 ha hS | exact fun h => Bool.noConfusion h), (by first | exact run_l hS (by first | rfl | assumption) | exact run_st hS (by first | rfl | omega) | exact run_ld1 ha hS | exact fun _ => run_l hS (by rfl) | exact fun _ => run_st hS (by first | rfl | omega) | exact fun _ => run_ld1 ha hS | exact fun h => Bool.noConfusion h), trivial⟩, ?_⟩ | refine ⟨⟨(by first | exact run_l hS (by first | rfl | assumption) | exact run_st hS (by first | rfl | omega) | exact run_ld1 ha hS | exact fun _ => run_l hS (by rfl) | exact fun _ => run_st hS (by first | rfl | omega) | exact fun _ => run_ld1 ha hS | exact fun h => Bool.noConfusion h), (by first | exact run_l hS (by first | rfl | assumption) | exact run_st hS (by first | rfl | omega) | exact run_ld1 ha hS | exact fun _ => run_l hS (by rfl) | exact fun _ => run_st hS (by first | rfl | omega) | exact fun _ => run_ld1 ha hS | exact fun h => Bool.noConfusion h), (by first | exact run_l hS (by first | rfl | assumption) | exact run_st hS (by first | rfl | omega) | exact run_ld1 ha hS | exact fun _ => run_l hS (by rfl) | exact fun _ => run_st hS (by first | rfl | omega) | exact fun _ => run_ld1 ha hS | exact fun h => Bool.noConfusion h), trivial⟩, ?_⟩ | refine pN_fn ?_ | refine pN_via (by (intro K; simp (disch := omega) only [go_sem, pN_min, pN_max, w_u32, w_u64, Option.isNone_some, Option.isNone_none]; (try simp only [wrap_u32, wrap_u64]); rfl)) ?_ | refine pA_via (by (intro K; simp (disch := omega) only [go_sem, pN_min, pN_max, w_u32, w_u64, Option.isNone_some, Option.isNone_none]; (try simp only [wrap_u32, wrap_u64]); rfl)) ?_ | fail)
  simp only [List.append_assoc, List.cons_append, List.nil_append] at hS
  exact hQ _ hS.to

set_option maxHeartbeats 2000000 in
theorem code4_ok {y : Z.Y} (hk : Snk p q c X) (hp : p.Ok) (hs : s.Right) (hy : Z.errY y = 0) (hk4 : y.Kind = 4)
    (hS : Sat E w (X [] :: cel b ⟨54, encCells t wd en⟩ :: cel t ⟨67, tbCells p s q⟩ :: Win wd x :: M)) (hx : x.all.length ≤ 4611686018427387904)
    (hQ : ∀ w, Sat E w (X (Z.symOps p s x y) :: cel b ⟨54, encCells t wd en⟩ :: cel t ⟨67, tbCells p s q⟩ :: Win wd x :: M) → Q (.tuple #[]) w) :
    Calls Tryd.prog 21 #[pz b, c, .agg #[.int .i64 y.Kind, bv y.Byte, .int .i64 y.Len, .int .i64 y.Dist]] w (retP Q) := by
  refine lzenc_Encoder_code.calls ?_
  unfold lzenc_Encoder_code.F
  have ho := (Z.symOps_ok hp hs x hy).ok
  have hn := hs.num
  have hpl := place_bd hp x.all.length
  unfold Z.symOps at ho hQ
  dsimp only at ho hQ
  rw [if_neg (by omega), if_neg (by omega), if_pos hk4] at ho hQ
  repeat' (first | (refine hk.bit _ _ _ (ho _ (by first | exact List.Mem.head _ | exact List.Mem.tail _ (List.Mem.head _) | exact List.Mem.tail _ (List.Mem.tail _ (List.Mem.head _)) | exact List.Mem.tail _ (List.Mem.tail _ (List.Mem.tail _ (List.Mem.head _))) | exact List.Mem.tail _ (List.Mem.tail _ (List.Mem.tail _ (List.Mem.tail _ (List.Mem.head _)))) | exact List.Mem.tail _ (List.Mem.tail _ (List.Mem.tail _ (List.Mem.tail _ (List.Mem.tail _ (List.Mem.head _))))) | exact List.Mem.tail _ (List.Mem.tail _ (List.Mem.tail _ (List.Mem.tail _ (List.Mem.tail _ (List.Mem.tail _ (List.Mem.head _)))))))) (by first | omega | (simp only [List.length_append, List.length_cons, List.length_nil]; omega)) (hS.fd X) ?_; clear hS; intro w hS) | refine pA_nilm hk.nb ?_ | (refine pc_window_Window_Pos (Pos_ok (hS.fd (Win wd)) ?_); clear hS; intro w hS) | (refine pc_model_Tables_At (MAt_ok (hS.fd (cel t)) hp hs _ (by omega) (by omega) ?_); clear hS; intro w hS) | (refine pN_eql_s ?_ ?_ <;> intro hc <;> try (exfalso; first | omega | exact hc rfl | exact hc (by assumption) | exact absurd hc (by assumption))) | refine pIf_t ?_ | refine pIf_f ?_ | refine pN_l hS (by first | rfl | assumption) ?_ | refine pL_l hS (by first | rfl | assumption) ?_ | (refine pDr_go hS ?_; clear hS; intro w hS) | (refine pN_bx hS (by rfl) ?_; clear hS; intro a w hS) | refine ⟨trivial, ?_⟩ | refine ⟨⟨(by first | exact run_l hS (by first | rfl | assumption) | exact run_st hS (by first | rfl | omega) | exact run_ld1 ha hS | exact fun _ => run_l hS (by rfl) | exact fun _ => run_st hS (by first | rfl | omega) | exact fun _ => run_ld1 ha hS | exact fun h => Bool.noConfusion h), (by first | exact run_l hS (by first | rfl | assumption) | exact run_st hS (by first | rfl | omega) | exact run_ld1 ha hS | exact fun _ => run_l hS (by rfl) | exact fun _ => run_st hS (by first | rfl | omega) | exact fun _ => run_ld1 ha hS | exact fun h => Bool.noConfusion h), trivial⟩, ?_⟩ | refine ⟨⟨(by first | exact run_l hS (by first | rfl | assumption) | exact run_st hS (by first | rfl | omega) | exact run_ld1 ha hS | exact fun _ => run_l hS (by rfl) | exact fun _ => run_st hS (by first | rfl | omega) | exact fun _ => run_ld1 ha hS | exact fun h => Bool.noConfusion h), (by first | exact run_l hS (by first | rfl | assumption) | exact run_st hS (by first | rfl | omega) | exact run_ld1 ha hS | exact fun _ => run_l hS (by rfl) | exact fun _ => run_st hS (by first | rfl | omega) | exact fun _ => run_ld1 ha hS | exact fun h => Bool.noConfusion h), (by first | exact run_l hS (by first | rfl | assumption) | exact run_st hS (by first | rfl | omega) | exact run_ld1 ha hS | exact fun _ => run_l hS (by rfl) | exact fun _ => run_st hS (by first | rfl | omega) | exact fun _ => run_ld1 ha hS | exact fun h => Bool.noConfusion h), trivial⟩, ?_⟩ | refine pN_fn ?_ | refine pN_via (by (intro K; simp (disch := omega) only [go_sem, pN_min, pN_max, w_u32, w_u64, Option.isNone_some, Option.isNone_none]; (try simp only [wrap_u32, wrap_u64]); rfl)) ?_ | refine pA_via (by (intro K; simp (disch := omega) only [go_sem, pN_min, pN_max, w_u32, w_u64, Option.isNone_some, Option.isNone_none]; (try simp only [wrap_u32, wrap_u64]); rfl)) ?_ | fail)
  simp only [List.append_assoc, List.cons_append, List.nil_append] at hS
  exact hQ _ hS.to

end

end Go.Proofs.YtbgnnjfpiblkmaaDoor
