/-
  Texts of one proof, one behind the other: LzCode, LzSym, LzSym2, LzSink, Lz, Ref14F, Ref14G, Ref14H, LfPithlaw14, LzE, Law14, ZDec, Puts.
-/
import Derived.Test.YtbgnnjfpiblkmaaGreatDoorRows
import Derived.SevenTiedAt
import Derived.Test.YtbgnnjfpiblkmaaGreatDoorMg7
set_option linter.unusedSimpArgs false
set_option linter.unnecessarySimpa false
set_option linter.unusedSectionVars false
set_option linter.unusedVariables false

namespace Go.Proofs.YtbgnnjfpiblkmaaGreatDoor
open Go

abbrev mth (nm : String) (c : Value) : Value := .func (.method nm) [c].toArray [].toArray
structure Snk (p : Z.Pr) (q : Nat → Nat) (c : Value) (X : List Z.Op → HA) : Prop where
  nb : ∀ w, (oNil (mth "pith/lzenc.bit" c)).run Tryz.prog w = .ok (.value (mth "pith/lzenc.bit" c)) w
  nt : ∀ w, (oNil (mth "pith/lzenc.tree" c)).run Tryz.prog w = .ok (.value (mth "pith/lzenc.tree" c)) w
  nk : ∀ w, (oNil (mth "pith/lzenc.back" c)).run Tryz.prog w = .ok (.value (mth "pith/lzenc.back" c)) w
  nd : ∀ w, (oNil (mth "pith/lzenc.direct" c)).run Tryz.prog w = .ok (.value (mth "pith/lzenc.direct" c)) w
  bit : ∀ {E w : World} {M : List HA} {K : Value → World → Prop} {l : List Z.Op} (t : Nat) (i b : Int), (Z.Op.bit t i b).Ok p → l.length ≤ 20 → Sat E w (X l :: M) → (∀ w, Sat E w (X (l ++ [.bit t i b]) :: M) → K (.tuple #[]) w) → pN Tryz.prog (oInv c "pith/lzenc.bit" [pz (q t), .int .i64 i, .int .i64 b]) w K
  tree : ∀ {E w : World} {M : List HA} {K : Value → World → Prop} {l : List Z.Op} (t : Nat) (a : Int) (n : Nat) (m v : Int), m = n → (Z.Op.tree t a n v).Ok p → l.length ≤ 20 → Sat E w (X l :: M) → (∀ w, Sat E w (X (l ++ [.tree t a n v]) :: M) → K (.tuple #[]) w) → pN Tryz.prog (oInv c "pith/lzenc.tree" [pz (q t), .int .i64 a, .int .i64 m, .int .i64 v]) w K
  back : ∀ {E w : World} {M : List HA} {K : Value → World → Prop} {l : List Z.Op} (t : Nat) (a : Int) (n : Nat) (m v : Int), m = n → (Z.Op.back t a n v).Ok p → l.length ≤ 20 → Sat E w (X l :: M) → (∀ w, Sat E w (X (l ++ [.back t a n v]) :: M) → K (.tuple #[]) w) → pN Tryz.prog (oInv c "pith/lzenc.back" [pz (q t), .int .i64 a, .int .i64 m, .int .i64 v]) w K
  direct : ∀ {E w : World} {M : List HA} {K : Value → World → Prop} {l : List Z.Op} (v : Int) (n : Nat) (m : Int), m = n → (Z.Op.direct v n).Ok p → l.length ≤ 20 → Sat E w (X l :: M) → (∀ w, Sat E w (X (l ++ [.direct v n]) :: M) → K (.tuple #[]) w) → pN Tryz.prog (oInv c "pith/lzenc.direct" [.int .i64 v, .int .i64 m]) w K
theorem pA_nilm {P : Program} {v : Value} {J : Value → Prop} (hn : ∀ w, (oNil v).run P w = .ok (.value v) w) (hk : J v) : pA P (oNil v) J := ⟨_, hn, hk⟩
attribute [local irreducible] oMv oV oU oCall oCallV oBi oBin oUn oLoad oStore oNil oFld oField oIdx oIndex oPick oAlloc oBox oBuild oBs oConv oMk oSl oExt oFn oIface oMap oLook oMapUp oRange oNext oEntry oInv oAssert oPanic oRes pN pA pL pDr pIf gA pGd

abbrev encCells (t wd en : Nat) : List Value := [pz t, pz wd, pz en]

section
variable {E w W : World} {M N : List HA} {Q : Value → World → Prop} {p : Z.Pr} {s : Z.St} {x : Z.W} {b t wd en : Nat} {q : Nat → Nat} {c : Value} {X : List Z.Op → HA} {l : List Z.Op}

theorem length_ok (hk : Snk p q c X) (hp : p.Ok) (k : Nat) (hkk : k = 7 ∨ k = 11) {n : Int} (hn : Z.isLen n) (hl : l.length ≤ 10)
    (hS : Sat E w (X l :: cel b ⟨128, encCells t wd en⟩ :: cel t ⟨141, tbCells p s q⟩ :: Win wd x :: M)) (hx : x.all.length ≤ 4611686018427387904)
    (hQ : ∀ w, Sat E w (X (l ++ Z.lenOps k p x.all.length n) :: cel b ⟨128, encCells t wd en⟩ :: cel t ⟨141, tbCells p s q⟩ :: Win wd x :: M) → Q (.tuple #[]) w) :
    Calls Tryz.prog 105 #[pz b, c, .agg #[pz (q k), pz (q (k + 1)), pz (q (k + 2)), pz (q (k + 3))], .int .i64 n] w (retP Q) := by
  refine lzenc_Encoder_length.calls ?_
  unfold lzenc_Encoder_length.F
  have ho := (Z.lenOps_ok hp k hkk x.all.length hn).ok
  have hpl := place_bd hp x.all.length
  obtain ⟨n1, n2⟩ := hn
  by_cases h8 : n - 2 < 8
  · have e : Z.lenOps k p x.all.length n = [.bit k 0 0, .tree (k + 1) (8 * Z.place p x.all.length) 3 (n - 2)] := by unfold Z.lenOps; rw [if_pos h8]
    rw [e] at ho hQ
    repeat' (first | (refine hk.bit _ _ _ (ho _ (by first | exact List.Mem.head _ | exact List.Mem.tail _ (List.Mem.head _) | exact List.Mem.tail _ (List.Mem.tail _ (List.Mem.head _)) | exact List.Mem.tail _ (List.Mem.tail _ (List.Mem.tail _ (List.Mem.head _))) | exact List.Mem.tail _ (List.Mem.tail _ (List.Mem.tail _ (List.Mem.tail _ (List.Mem.head _)))) | exact List.Mem.tail _ (List.Mem.tail _ (List.Mem.tail _ (List.Mem.tail _ (List.Mem.tail _ (List.Mem.head _))))) | exact List.Mem.tail _ (List.Mem.tail _ (List.Mem.tail _ (List.Mem.tail _ (List.Mem.tail _ (List.Mem.tail _ (List.Mem.head _)))))))) (by first | omega | (simp only [List.length_append, List.length_cons, List.length_nil]; omega)) (hS.fd X) ?_; clear hS; intro w hS) | (refine hk.tree _ _ 3 _ _ rfl (ho _ (by first | exact List.Mem.head _ | exact List.Mem.tail _ (List.Mem.head _) | exact List.Mem.tail _ (List.Mem.tail _ (List.Mem.head _)) | exact List.Mem.tail _ (List.Mem.tail _ (List.Mem.tail _ (List.Mem.head _))) | exact List.Mem.tail _ (List.Mem.tail _ (List.Mem.tail _ (List.Mem.tail _ (List.Mem.head _)))) | exact List.Mem.tail _ (List.Mem.tail _ (List.Mem.tail _ (List.Mem.tail _ (List.Mem.tail _ (List.Mem.head _))))) | exact List.Mem.tail _ (List.Mem.tail _ (List.Mem.tail _ (List.Mem.tail _ (List.Mem.tail _ (List.Mem.tail _ (List.Mem.head _)))))))) (by first | omega | (simp only [List.length_append, List.length_cons, List.length_nil]; omega)) (hS.fd X) ?_; clear hS; intro w hS) | (refine pc_window_Window_Pos (Pos_ok (hS.fd (Win wd)) ?_); clear hS; intro w hS) | (refine pc_model_Tables_PlaceState (PlaceState_ok (hS.fd (cel t)) hp _ (by omega) (by omega) ?_); clear hS; intro w hS) | (refine pN_lss_s ?_ ?_ <;> intro hc <;> try (exfalso; omega)) | refine pIf_t ?_ | refine pN_l hS (by first | rfl | assumption) ?_ | refine pL_l hS (by first | rfl | assumption) ?_ | (refine pDr_go hS ?_; clear hS; intro w hS) | (refine pN_bx hS (by rfl) ?_; clear hS; intro a w hS) | refine ⟨trivial, ?_⟩ | refine ⟨⟨(by first | exact run_l hS (by first | rfl | assumption) | exact run_st hS (by first | rfl | omega) | exact run_ld1 ha hS | exact fun _ => run_l hS (by rfl) | exact fun _ => run_st hS (by first | rfl | omega) | exact fun _ => run_ld1 ha hS | exact fun h => Bool.noConfusion h), trivial⟩, ?_⟩ | refine pN_v (hk := ?_) | refine pA_v (hk := ?_) | fail)
    simp only [List.append_assoc, List.cons_append, List.nil_append] at hS
    exact hQ _ hS.to
  · by_cases h16 : n - 2 < 16
    · have e : Z.lenOps k p x.all.length n = [.bit k 0 1, .bit k 1 0, .tree (k + 2) (8 * Z.place p x.all.length) 3 (n - 2 - 8)] := by unfold Z.lenOps; rw [if_neg h8, if_pos h16]
      rw [e] at ho hQ
      repeat' (first | (refine hk.bit _ _ _ (ho _ (by first | exact List.Mem.head _ | exact List.Mem.tail _ (List.Mem.head _) | exact List.Mem.tail _ (List.Mem.tail _ (List.Mem.head _)) | exact List.Mem.tail _ (List.Mem.tail _ (List.Mem.tail _ (List.Mem.head _))) | exact List.Mem.tail _ (List.Mem.tail _ (List.Mem.tail _ (List.Mem.tail _ (List.Mem.head _)))) | exact List.Mem.tail _ (List.Mem.tail _ (List.Mem.tail _ (List.Mem.tail _ (List.Mem.tail _ (List.Mem.head _))))) | exact List.Mem.tail _ (List.Mem.tail _ (List.Mem.tail _ (List.Mem.tail _ (List.Mem.tail _ (List.Mem.tail _ (List.Mem.head _)))))))) (by first | omega | (simp only [List.length_append, List.length_cons, List.length_nil]; omega)) (hS.fd X) ?_; clear hS; intro w hS) | (refine hk.tree _ _ 3 _ _ rfl (ho _ (by first | exact List.Mem.head _ | exact List.Mem.tail _ (List.Mem.head _) | exact List.Mem.tail _ (List.Mem.tail _ (List.Mem.head _)) | exact List.Mem.tail _ (List.Mem.tail _ (List.Mem.tail _ (List.Mem.head _))) | exact List.Mem.tail _ (List.Mem.tail _ (List.Mem.tail _ (List.Mem.tail _ (List.Mem.head _)))) | exact List.Mem.tail _ (List.Mem.tail _ (List.Mem.tail _ (List.Mem.tail _ (List.Mem.tail _ (List.Mem.head _))))) | exact List.Mem.tail _ (List.Mem.tail _ (List.Mem.tail _ (List.Mem.tail _ (List.Mem.tail _ (List.Mem.tail _ (List.Mem.head _)))))))) (by first | omega | (simp only [List.length_append, List.length_cons, List.length_nil]; omega)) (hS.fd X) ?_; clear hS; intro w hS) | (refine pc_window_Window_Pos (Pos_ok (hS.fd (Win wd)) ?_); clear hS; intro w hS) | (refine pc_model_Tables_PlaceState (PlaceState_ok (hS.fd (cel t)) hp _ (by omega) (by omega) ?_); clear hS; intro w hS) | (refine pN_lss_s ?_ ?_ <;> intro hc <;> try (exfalso; omega)) | refine pIf_t ?_ | refine pIf_f ?_ | refine pN_l hS (by first | rfl | assumption) ?_ | refine pL_l hS (by first | rfl | assumption) ?_ | (refine pDr_go hS ?_; clear hS; intro w hS) | (refine pN_bx hS (by rfl) ?_; clear hS; intro a w hS) | refine ⟨trivial, ?_⟩ | refine ⟨⟨(by first | exact run_l hS (by first | rfl | assumption) | exact run_st hS (by first | rfl | omega) | exact run_ld1 ha hS | exact fun _ => run_l hS (by rfl) | exact fun _ => run_st hS (by first | rfl | omega) | exact fun _ => run_ld1 ha hS | exact fun h => Bool.noConfusion h), trivial⟩, ?_⟩ | refine pN_v (hk := ?_) | refine pA_v (hk := ?_) | fail)
      simp only [List.append_assoc, List.cons_append, List.nil_append] at hS
      exact hQ _ hS.to
    · have e : Z.lenOps k p x.all.length n = [.bit k 0 1, .bit k 1 1, .tree (k + 3) 0 8 (n - 2 - 16)] := by unfold Z.lenOps; rw [if_neg h8, if_neg h16]
      rw [e] at ho hQ
      repeat' (first | (refine hk.bit _ _ _ (ho _ (by first | exact List.Mem.head _ | exact List.Mem.tail _ (List.Mem.head _) | exact List.Mem.tail _ (List.Mem.tail _ (List.Mem.head _)) | exact List.Mem.tail _ (List.Mem.tail _ (List.Mem.tail _ (List.Mem.head _))) | exact List.Mem.tail _ (List.Mem.tail _ (List.Mem.tail _ (List.Mem.tail _ (List.Mem.head _)))) | exact List.Mem.tail _ (List.Mem.tail _ (List.Mem.tail _ (List.Mem.tail _ (List.Mem.tail _ (List.Mem.head _))))) | exact List.Mem.tail _ (List.Mem.tail _ (List.Mem.tail _ (List.Mem.tail _ (List.Mem.tail _ (List.Mem.tail _ (List.Mem.head _)))))))) (by first | omega | (simp only [List.length_append, List.length_cons, List.length_nil]; omega)) (hS.fd X) ?_; clear hS; intro w hS) | (refine hk.tree _ _ 8 _ _ rfl (ho _ (by first | exact List.Mem.head _ | exact List.Mem.tail _ (List.Mem.head _) | exact List.Mem.tail _ (List.Mem.tail _ (List.Mem.head _)) | exact List.Mem.tail _ (List.Mem.tail _ (List.Mem.tail _ (List.Mem.head _))) | exact List.Mem.tail _ (List.Mem.tail _ (List.Mem.tail _ (List.Mem.tail _ (List.Mem.head _)))) | exact List.Mem.tail _ (List.Mem.tail _ (List.Mem.tail _ (List.Mem.tail _ (List.Mem.tail _ (List.Mem.head _))))) | exact List.Mem.tail _ (List.Mem.tail _ (List.Mem.tail _ (List.Mem.tail _ (List.Mem.tail _ (List.Mem.tail _ (List.Mem.head _)))))))) (by first | omega | (simp only [List.length_append, List.length_cons, List.length_nil]; omega)) (hS.fd X) ?_; clear hS; intro w hS) | (refine pc_window_Window_Pos (Pos_ok (hS.fd (Win wd)) ?_); clear hS; intro w hS) | (refine pc_model_Tables_PlaceState (PlaceState_ok (hS.fd (cel t)) hp _ (by omega) (by omega) ?_); clear hS; intro w hS) | (refine pN_lss_s ?_ ?_ <;> intro hc <;> try (exfalso; omega)) | refine pIf_f ?_ | refine pN_l hS (by first | rfl | assumption) ?_ | refine pL_l hS (by first | rfl | assumption) ?_ | (refine pDr_go hS ?_; clear hS; intro w hS) | (refine pN_bx hS (by rfl) ?_; clear hS; intro a w hS) | refine ⟨trivial, ?_⟩ | refine ⟨⟨(by first | exact run_l hS (by first | rfl | assumption) | exact run_st hS (by first | rfl | omega) | exact run_ld1 ha hS | exact fun _ => run_l hS (by rfl) | exact fun _ => run_st hS (by first | rfl | omega) | exact fun _ => run_ld1 ha hS | exact fun h => Bool.noConfusion h), trivial⟩, ?_⟩ | refine pN_v (hk := ?_) | refine pA_v (hk := ?_) | fail)
      simp only [List.append_assoc, List.cons_append, List.nil_append] at hS
      exact hQ _ hS.to

set_option maxHeartbeats 2000000 in
theorem distance_ok {y : Z.Y} (hk : Snk p q c X) (hp : p.Ok) (hn : Z.isLen y.Len) (hd : Z.isDist y.Dist) (hl : l.length ≤ 15)
    (hS : Sat E w (X l :: cel b ⟨128, encCells t wd en⟩ :: cel t ⟨141, tbCells p s q⟩ :: M))
    (hQ : ∀ w, Sat E w (X (l ++ Z.distOps y.Len y.Dist) :: cel b ⟨128, encCells t wd en⟩ :: cel t ⟨141, tbCells p s q⟩ :: M) → Q (.tuple #[]) w) :
    Calls Tryz.prog 106 #[pz b, c, .agg #[.int .i64 y.Kind, bv y.Byte, .int .i64 y.Len, .int .i64 y.Dist]] w (retP Q) := by
  refine lzenc_Encoder_distance.calls ?_
  unfold lzenc_Encoder_distance.F
  have ho := (Z.distOps_ok p hn hd).ok
  obtain ⟨s0, s1, sb, s2, s3⟩ := Z.slot_law hd
  obtain ⟨n1, n2⟩ := hn
  have d1 := hd.1
  have d2 := hd.2
  have hb := Z.bits_0 s0
  have hlp := Z.least_pos s0
  have hlate : ∀ b, decide (14 ≤ Z.slot y.Dist) = b → True := fun _ _ => trivial
  unfold Z.distOps at ho hQ
  dsimp only at ho hQ
  by_cases h4 : Z.bitsN (Z.slot y.Dist) = 0
  · rw [if_pos h4] at ho hQ
    repeat' (first | (refine hk.tree _ _ 6 _ _ rfl (ho _ (by first | exact List.Mem.head _ | exact List.Mem.tail _ (List.Mem.head _) | exact List.Mem.tail _ (List.Mem.tail _ (List.Mem.head _)) | exact List.Mem.tail _ (List.Mem.tail _ (List.Mem.tail _ (List.Mem.head _))) | exact List.Mem.tail _ (List.Mem.tail _ (List.Mem.tail _ (List.Mem.tail _ (List.Mem.head _)))) | exact List.Mem.tail _ (List.Mem.tail _ (List.Mem.tail _ (List.Mem.tail _ (List.Mem.tail _ (List.Mem.head _))))) | exact List.Mem.tail _ (List.Mem.tail _ (List.Mem.tail _ (List.Mem.tail _ (List.Mem.tail _ (List.Mem.tail _ (List.Mem.head _)))))))) (by first | omega | (simp only [List.length_append, List.length_cons, List.length_nil]; omega)) (hS.fd X) ?_; clear hS; intro w hS) | refine pA_nilm hk.nt ?_ | refine pc_state_Slot (Slot_in _ hd ?_) | refine pc_state_Range (Range_in _ s0 s1 ?_) | refine pA_minv rfl ?_ | (refine pN_eql_s ?_ ?_ <;> intro hc <;> try (exfalso; first | omega | exact hc rfl | exact hc (by assumption) | exact absurd hc (by assumption))) | refine pIf_t ?_ | refine pN_l hS (by first | rfl | assumption) ?_ | refine pL_l hS (by first | rfl | assumption) ?_ | (refine pDr_go hS ?_; clear hS; intro w hS) | (refine pN_bx hS (by rfl) ?_; clear hS; intro a w hS) | refine ⟨trivial, ?_⟩ | refine ⟨⟨(by first | exact run_l hS (by first | rfl | assumption) | exact run_st hS (by first | rfl | omega) | exact run_ld1 ha hS | exact fun _ => run_l hS (by rfl) | exact fun _ => run_st hS (by first | rfl | omega) | exact fun _ => run_ld1 ha hS | exact fun h => Bool.noConfusion h), (by first | exact run_l hS (by first | rfl | assumption) | exact run_st hS (by first | rfl | omega) | exact run_ld1 ha hS | exact fun _ => run_l hS (by rfl) | exact fun _ => run_st hS (by first | rfl | omega) | exact fun _ => run_ld1 ha hS | exact fun h => Bool.noConfusion h), (by first | exact run_l hS (by first | rfl | assumption) | exact run_st hS (by first | rfl | omega) | exact run_ld1 ha hS | exact fun _ => run_l hS (by rfl) | exact fun _ => run_st hS (by first | rfl | omega) | exact fun _ => run_ld1 ha hS | exact fun h => Bool.noConfusion h), trivial⟩, ?_⟩ | refine pN_fn ?_ | refine pN_v (hk := ?_) | refine pA_v (hk := ?_) | fail)
    exact hQ _ hS.to
  · rw [if_neg h4] at ho hQ
    by_cases h14 : Z.slot y.Dist < 14
    · rw [if_pos h14] at ho hQ
      have e14 : decide (14 ≤ Z.slot y.Dist) = false := decide_eq_false (by omega)
      repeat' (first | (refine hk.tree _ _ 6 _ _ rfl (ho _ (by first | exact List.Mem.head _ | exact List.Mem.tail _ (List.Mem.head _) | exact List.Mem.tail _ (List.Mem.tail _ (List.Mem.head _)) | exact List.Mem.tail _ (List.Mem.tail _ (List.Mem.tail _ (List.Mem.head _))) | exact List.Mem.tail _ (List.Mem.tail _ (List.Mem.tail _ (List.Mem.tail _ (List.Mem.head _)))) | exact List.Mem.tail _ (List.Mem.tail _ (List.Mem.tail _ (List.Mem.tail _ (List.Mem.tail _ (List.Mem.head _))))) | exact List.Mem.tail _ (List.Mem.tail _ (List.Mem.tail _ (List.Mem.tail _ (List.Mem.tail _ (List.Mem.tail _ (List.Mem.head _)))))))) (by first | omega | (simp only [List.length_append, List.length_cons, List.length_nil]; omega)) (hS.fd X) ?_; clear hS; intro w hS) | refine pA_nilm hk.nt ?_ | refine pc_state_Slot (Slot_in _ hd ?_) | refine pc_state_Range (Range_in _ s0 s1 ?_) | refine pA_minv rfl ?_ | (refine pc_model_Late (Late_ok _ ?_); rw [e14]) | (refine pN_eql_s ?_ ?_ <;> intro hc <;> try (exfalso; first | omega | exact hc rfl | exact hc (by assumption) | exact absurd hc (by assumption))) | refine pIf_t ?_ | refine pIf_f ?_ | refine pN_l hS (by first | rfl | assumption) ?_ | refine pL_l hS (by first | rfl | assumption) ?_ | (refine pDr_go hS ?_; clear hS; intro w hS) | (refine pN_bx hS (by rfl) ?_; clear hS; intro a w hS) | refine ⟨trivial, ?_⟩ | refine ⟨⟨(by first | exact run_l hS (by first | rfl | assumption) | exact run_st hS (by first | rfl | omega) | exact run_ld1 ha hS | exact fun _ => run_l hS (by rfl) | exact fun _ => run_st hS (by first | rfl | omega) | exact fun _ => run_ld1 ha hS | exact fun h => Bool.noConfusion h), (by first | exact run_l hS (by first | rfl | assumption) | exact run_st hS (by first | rfl | omega) | exact run_ld1 ha hS | exact fun _ => run_l hS (by rfl) | exact fun _ => run_st hS (by first | rfl | omega) | exact fun _ => run_ld1 ha hS | exact fun h => Bool.noConfusion h), (by first | exact run_l hS (by first | rfl | assumption) | exact run_st hS (by first | rfl | omega) | exact run_ld1 ha hS | exact fun _ => run_l hS (by rfl) | exact fun _ => run_st hS (by first | rfl | omega) | exact fun _ => run_ld1 ha hS | exact fun h => Bool.noConfusion h), trivial⟩, ?_⟩ | refine pN_fn ?_ | refine pN_v (hk := ?_) | refine pA_v (hk := ?_) | fail)
      refine ⟨?_, ?_⟩
      · repeat' (first | (refine hk.back _ _ _ _ _ rfl (ho _ (by first | exact List.Mem.head _ | exact List.Mem.tail _ (List.Mem.head _) | exact List.Mem.tail _ (List.Mem.tail _ (List.Mem.head _)) | exact List.Mem.tail _ (List.Mem.tail _ (List.Mem.tail _ (List.Mem.head _))) | exact List.Mem.tail _ (List.Mem.tail _ (List.Mem.tail _ (List.Mem.tail _ (List.Mem.head _)))) | exact List.Mem.tail _ (List.Mem.tail _ (List.Mem.tail _ (List.Mem.tail _ (List.Mem.tail _ (List.Mem.head _))))) | exact List.Mem.tail _ (List.Mem.tail _ (List.Mem.tail _ (List.Mem.tail _ (List.Mem.tail _ (List.Mem.tail _ (List.Mem.head _)))))))) (by first | omega | (simp only [List.length_append, List.length_cons, List.length_nil]; omega)) (hS.fd X) ?_; clear hS; intro w hS) | refine pA_nilm hk.nk ?_ | refine pc_model_RestAt (RestAt_ok _ s0 (by omega) ?_) | refine ⟨trivial, ?_⟩ | refine ⟨⟨(by first | exact run_l hS (by first | rfl | assumption) | exact run_st hS (by first | rfl | omega) | exact run_ld1 ha hS | exact fun _ => run_l hS (by rfl) | exact fun _ => run_st hS (by first | rfl | omega) | exact fun _ => run_ld1 ha hS | exact fun h => Bool.noConfusion h), (by first | exact run_l hS (by first | rfl | assumption) | exact run_st hS (by first | rfl | omega) | exact run_ld1 ha hS | exact fun _ => run_l hS (by rfl) | exact fun _ => run_st hS (by first | rfl | omega) | exact fun _ => run_ld1 ha hS | exact fun h => Bool.noConfusion h), trivial⟩, ?_⟩ | refine pN_fn ?_ | fail)
        simp only [List.append_assoc, List.cons_append, List.nil_append] at hS
        exact hQ _ hS.to
      · repeat' (first | (refine hk.back _ _ _ _ _ rfl (ho _ (by first | exact List.Mem.head _ | exact List.Mem.tail _ (List.Mem.head _) | exact List.Mem.tail _ (List.Mem.tail _ (List.Mem.head _)) | exact List.Mem.tail _ (List.Mem.tail _ (List.Mem.tail _ (List.Mem.head _))) | exact List.Mem.tail _ (List.Mem.tail _ (List.Mem.tail _ (List.Mem.tail _ (List.Mem.head _)))) | exact List.Mem.tail _ (List.Mem.tail _ (List.Mem.tail _ (List.Mem.tail _ (List.Mem.tail _ (List.Mem.head _))))) | exact List.Mem.tail _ (List.Mem.tail _ (List.Mem.tail _ (List.Mem.tail _ (List.Mem.tail _ (List.Mem.tail _ (List.Mem.head _)))))))) (by first | omega | (simp only [List.length_append, List.length_cons, List.length_nil]; omega)) (hS.fd X) ?_; clear hS; intro w hS) | refine pA_nilm hk.nk ?_ | refine pc_model_RestAt (RestAt_ok _ s0 (by omega) ?_) | refine ⟨trivial, ?_⟩ | refine ⟨⟨(by first | exact run_l hS (by first | rfl | assumption) | exact run_st hS (by first | rfl | omega) | exact run_ld1 ha hS | exact fun _ => run_l hS (by rfl) | exact fun _ => run_st hS (by first | rfl | omega) | exact fun _ => run_ld1 ha hS | exact fun h => Bool.noConfusion h), (by first | exact run_l hS (by first | rfl | assumption) | exact run_st hS (by first | rfl | omega) | exact run_ld1 ha hS | exact fun _ => run_l hS (by rfl) | exact fun _ => run_st hS (by first | rfl | omega) | exact fun _ => run_ld1 ha hS | exact fun h => Bool.noConfusion h), trivial⟩, ?_⟩ | refine pN_fn ?_ | fail)
        simp only [List.append_assoc, List.cons_append, List.nil_append] at hS
        exact hQ _ hS.to
    · rw [if_neg h14] at ho hQ
      have e14 : decide (14 ≤ Z.slot y.Dist) = true := decide_eq_true (by omega)
      have hlb := Z.late_bits (s := Z.slot y.Dist) (by omega)
      have hbm : ((Z.bitsN (Z.slot y.Dist) - 4 : Nat) : Int) = (Z.bitsN (Z.slot y.Dist) : Int) - 4 := by omega
      repeat' (first | (refine hk.tree _ _ 6 _ _ rfl (ho _ (by first | exact List.Mem.head _ | exact List.Mem.tail _ (List.Mem.head _) | exact List.Mem.tail _ (List.Mem.tail _ (List.Mem.head _)) | exact List.Mem.tail _ (List.Mem.tail _ (List.Mem.tail _ (List.Mem.head _))) | exact List.Mem.tail _ (List.Mem.tail _ (List.Mem.tail _ (List.Mem.tail _ (List.Mem.head _)))) | exact List.Mem.tail _ (List.Mem.tail _ (List.Mem.tail _ (List.Mem.tail _ (List.Mem.tail _ (List.Mem.head _))))) | exact List.Mem.tail _ (List.Mem.tail _ (List.Mem.tail _ (List.Mem.tail _ (List.Mem.tail _ (List.Mem.tail _ (List.Mem.head _)))))))) (by first | omega | (simp only [List.length_append, List.length_cons, List.length_nil]; omega)) (hS.fd X) ?_; clear hS; intro w hS) | (refine hk.back _ _ _ _ _ rfl (ho _ (by first | exact List.Mem.head _ | exact List.Mem.tail _ (List.Mem.head _) | exact List.Mem.tail _ (List.Mem.tail _ (List.Mem.head _)) | exact List.Mem.tail _ (List.Mem.tail _ (List.Mem.tail _ (List.Mem.head _))) | exact List.Mem.tail _ (List.Mem.tail _ (List.Mem.tail _ (List.Mem.tail _ (List.Mem.head _)))) | exact List.Mem.tail _ (List.Mem.tail _ (List.Mem.tail _ (List.Mem.tail _ (List.Mem.tail _ (List.Mem.head _))))) | exact List.Mem.tail _ (List.Mem.tail _ (List.Mem.tail _ (List.Mem.tail _ (List.Mem.tail _ (List.Mem.tail _ (List.Mem.head _)))))))) (by first | omega | (simp only [List.length_append, List.length_cons, List.length_nil]; omega)) (hS.fd X) ?_; clear hS; intro w hS) | refine pA_nilm hk.nt ?_ | refine pA_nilm hk.nk ?_ | refine pc_state_Slot (Slot_in _ hd ?_) | refine pc_state_Range (Range_in _ s0 s1 ?_) | refine pA_minv rfl ?_ | (refine pc_model_Late (Late_ok _ ?_); rw [e14]) | (rw [← hbm]; refine hk.direct _ _ _ rfl (ho _ (List.Mem.tail _ (List.Mem.head _))) (by first | omega | (simp only [List.length_append, List.length_cons, List.length_nil]; omega)) (hS.fd X) ?_; clear hS; intro w hS) | (refine pN_eql_s ?_ ?_ <;> intro hc <;> try (exfalso; first | omega | exact hc rfl | exact hc (by assumption) | exact absurd hc (by assumption))) | refine pIf_f ?_ | refine pN_l hS (by first | rfl | assumption) ?_ | refine pL_l hS (by first | rfl | assumption) ?_ | (refine pDr_go hS ?_; clear hS; intro w hS) | (refine pN_bx hS (by rfl) ?_; clear hS; intro a w hS) | refine ⟨trivial, ?_⟩ | refine ⟨⟨(by first | exact run_l hS (by first | rfl | assumption) | exact run_st hS (by first | rfl | omega) | exact run_ld1 ha hS | exact fun _ => run_l hS (by rfl) | exact fun _ => run_st hS (by first | rfl | omega) | exact fun _ => run_ld1 ha hS | exact fun h => Bool.noConfusion h), (by first | exact run_l hS (by first | rfl | assumption) | exact run_st hS (by first | rfl | omega) | exact run_ld1 ha hS | exact fun _ => run_l hS (by rfl) | exact fun _ => run_st hS (by first | rfl | omega) | exact fun _ => run_ld1 ha hS | exact fun h => Bool.noConfusion h), trivial⟩, ?_⟩ | refine ⟨⟨(by first | exact run_l hS (by first | rfl | assumption) | exact run_st hS (by first | rfl | omega) | exact run_ld1 ha hS | exact fun _ => run_l hS (by rfl) | exact fun _ => run_st hS (by first | rfl | omega) | exact fun _ => run_ld1 ha hS | exact fun h => Bool.noConfusion h), (by first | exact run_l hS (by first | rfl | assumption) | exact run_st hS (by first | rfl | omega) | exact run_ld1 ha hS | exact fun _ => run_l hS (by rfl) | exact fun _ => run_st hS (by first | rfl | omega) | exact fun _ => run_ld1 ha hS | exact fun h => Bool.noConfusion h), (by first | exact run_l hS (by first | rfl | assumption) | exact run_st hS (by first | rfl | omega) | exact run_ld1 ha hS | exact fun _ => run_l hS (by rfl) | exact fun _ => run_st hS (by first | rfl | omega) | exact fun _ => run_ld1 ha hS | exact fun h => Bool.noConfusion h), trivial⟩, ?_⟩ | refine pN_fn ?_ | refine pN_v (hk := ?_) | refine pA_v (hk := ?_) | fail)
      simp only [List.append_assoc, List.cons_append, List.nil_append] at hS
      exact hQ _ hS.to

set_option maxHeartbeats 2000000 in
theorem literal_ok (hk : Snk p q c X) (hp : p.Ok) (hs : s.Right) (v : UInt8) (hl : l.length ≤ 5)
    (hS : Sat E w (X l :: cel b ⟨128, encCells t wd en⟩ :: cel t ⟨141, tbCells p s q⟩ :: Win wd x :: M)) (hx : x.all.length ≤ 4611686018427387904)
    (hQ : ∀ w, Sat E w (X (l ++ Z.litOps p s x v) :: cel b ⟨128, encCells t wd en⟩ :: cel t ⟨141, tbCells p s q⟩ :: Win wd x :: M) → Q (.tuple #[]) w) :
    Calls Tryz.prog 104 #[pz b, c, .int .i64 v.toNat] w (retP Q) := by
  refine lzenc_Encoder_literal.calls ?_
  unfold lzenc_Encoder_literal.F
  have ho := (Z.litOps_ok hp (s := s) (x := x) v).ok
  have last : ∀ {w : World} {M : List HA} {Q : Value → World → Prop} (d : Int), Sat E w (Win wd x :: M) → (∀ (e : Int) w, Sat E w (Win wd x :: M) → Q (.tuple #[bv (Z.lastOr x d), .int .i64 e]) w) → Calls Tryz.prog 101 #[pz wd, .int .i64 d] w (retP Q) := by
    intro w M Q d hS hQ
    unfold Z.lastOr at hQ
    by_cases h : x.has d
    · rw [if_pos h] at hQ
      exact Last_in hS d h fun w hS => hQ 0 w hS
    · rw [if_neg h] at hQ
      exact Last_no hS d h fun w hS => hQ 7 w hS
  have hn := hs.num
  have hb1 := (Z.lastOr x 1).toNat_lt
  have hb2 := v.toNat_lt
  have hc := context_bd hp x.all.length (Z.lastOr x 1).toNat (by omega) (by omega)
  have tl := Z.tabLen_bd hp 6
  unfold Z.litOps at ho hQ
  dsimp only at ho hQ
  generalize hf : Z.context p x.all.length (Z.lastOr x 1).toNat = f at *
  by_cases h7 : s.num < 7
  · rw [if_pos h7] at ho hQ
    have e7 : decide (s.num < 7) = true := decide_eq_true h7
    repeat' (first | (refine hk.tree _ _ 8 _ _ rfl (ho _ (by first | exact List.Mem.head _ | exact List.Mem.tail _ (List.Mem.head _) | exact List.Mem.tail _ (List.Mem.tail _ (List.Mem.head _)) | exact List.Mem.tail _ (List.Mem.tail _ (List.Mem.tail _ (List.Mem.head _))) | exact List.Mem.tail _ (List.Mem.tail _ (List.Mem.tail _ (List.Mem.tail _ (List.Mem.head _)))) | exact List.Mem.tail _ (List.Mem.tail _ (List.Mem.tail _ (List.Mem.tail _ (List.Mem.tail _ (List.Mem.head _))))) | exact List.Mem.tail _ (List.Mem.tail _ (List.Mem.tail _ (List.Mem.tail _ (List.Mem.tail _ (List.Mem.tail _ (List.Mem.head _)))))))) (by first | omega | (simp only [List.length_append, List.length_cons, List.length_nil]; omega)) (hS.fd X) ?_; clear hS; intro w hS) | refine pA_nilm hk.nt ?_ | (refine pc_window_Window_Pos (Pos_ok (hS.fd (Win wd)) ?_); clear hS; intro w hS) | (refine pc_window_Window_Last (last _ (hS.fd (Win wd)) ?_); clear hS; intro er w hS) | (refine pc_model_Tables_Context (Context_ok (hS.fd (cel t)) hp _ (by omega) (by omega) _ ?_); rw [hf]; clear hS; intro w hS) | (refine pN_la_at (n := 5) hS s.cells rfl rfl ?_) | (refine pc_state_State_Literal (SLiteral_ok hS hs ?_); rw [e7]; clear hS; intro w hS) | refine pIf_t ?_ | refine pN_l hS (by first | rfl | assumption) ?_ | refine pL_l hS (by first | rfl | assumption) ?_ | (refine pDr_go hS ?_; clear hS; intro w hS) | refine ⟨trivial, ?_⟩ | refine ⟨⟨(by first | exact run_l hS (by first | rfl | assumption) | exact run_st hS (by first | rfl | omega) | exact run_ld1 ha hS | exact fun _ => run_l hS (by rfl) | exact fun _ => run_st hS (by first | rfl | omega) | exact fun _ => run_ld1 ha hS | exact fun h => Bool.noConfusion h), trivial⟩, ?_⟩ | refine ⟨⟨(by first | exact run_l hS (by first | rfl | assumption) | exact run_st hS (by first | rfl | omega) | exact run_ld1 ha hS | exact fun _ => run_l hS (by rfl) | exact fun _ => run_st hS (by first | rfl | omega) | exact fun _ => run_ld1 ha hS | exact fun h => Bool.noConfusion h), (by first | exact run_l hS (by first | rfl | assumption) | exact run_st hS (by first | rfl | omega) | exact run_ld1 ha hS | exact fun _ => run_l hS (by rfl) | exact fun _ => run_st hS (by first | rfl | omega) | exact fun _ => run_ld1 ha hS | exact fun h => Bool.noConfusion h), trivial⟩, ?_⟩ | refine pN_fn ?_ | refine pN_v (hk := ?_) | refine pA_v (hk := ?_) | fail)
    exact hQ _ hS.to
  · rw [if_neg h7] at ho hQ
    have e7 : decide (s.num < 7) = false := decide_eq_false h7
    repeat' (first | (refine pc_window_Window_Pos (Pos_ok (hS.fd (Win wd)) ?_); clear hS; intro w hS) | (refine pc_window_Window_Last (last _ (hS.fd (Win wd)) ?_); clear hS; intro er w hS) | (refine pc_model_Tables_Context (Context_ok (hS.fd (cel t)) hp _ (by omega) (by omega) _ ?_); rw [hf]; clear hS; intro w hS) | (refine pN_la_at (n := 5) hS s.cells rfl rfl ?_) | (refine pc_state_State_Literal (SLiteral_ok hS hs ?_); rw [e7]; clear hS; intro w hS) | refine pIf_f ?_ | refine pN_ofb ?_ | refine pN_l hS (by first | rfl | assumption) ?_ | refine pL_l hS (by first | rfl | assumption) ?_ | (refine pDr_go hS ?_; clear hS; intro w hS) | refine ⟨trivial, ?_⟩ | refine ⟨⟨(by first | exact run_l hS (by first | rfl | assumption) | exact run_st hS (by first | rfl | omega) | exact run_ld1 ha hS | exact fun _ => run_l hS (by rfl) | exact fun _ => run_st hS (by first | rfl | omega) | exact fun _ => run_ld1 ha hS | exact fun h => Bool.noConfusion h), trivial⟩, ?_⟩ | refine pN_v (hk := ?_) | refine pA_v (hk := ?_) | fail)
    generalize hu : ((Z.lastOr x s.r0).toNat : Int) = u at *
    have hu0 : 0 ≤ u ∧ u < 256 := by have := (Z.lastOr x s.r0).toNat_lt; omega
    have hv0 : 0 ≤ (v.toNat : Int) ∧ (v.toNat : Int) < 256 := by omega
    generalize (v.toNat : Int) = v' at *
    refine ⟨fun sm i m w => ∃ (k : Nat) (m' : Int) (same : Bool) (l1 : List Z.Op), sm = .bool same ∧ i = .int .i64 ((k : Int) - 1) ∧ m = .int .i64 m' ∧ k ≤ 8 ∧ 1 ≤ m' ∧ m' < 2 ^ (9 - k) ∧ l1 ++ Z.litGo f v' u k m' same = Z.litGo f v' u 8 1 true ∧ l1.length = 8 - k ∧
      Sat E w (X (l ++ l1) :: cel b ⟨128, encCells t wd en⟩ :: cel t ⟨141, tbCells p s q⟩ :: Win wd x :: M), fun _ i _ _ => (RowKit.intOf i + 1).toNat, ⟨8, 1, true, [], rfl, rfl, rfl, by omega, by omega, by decide, rfl, rfl, by rw [List.append_nil]; exact hS.to⟩, ?_⟩
    clear hS
    rintro _ _ _ _ w ⟨k, m', same, l1, rfl, rfl, rfl, hk8, hm1, hm2, hl1, hl2, hS⟩
    cases k with
    | zero =>
      rw [Z.litGo, List.append_nil] at hl1
      rw [hl1] at hS
      repeat' (first | (refine pN_geq_s ?_ ?_ <;> intro hc <;> try (exfalso; omega)) | refine pIf_f ?_ | fail)
      exact hQ _ hS.to
    | succ i =>
      rw [Z.litGo] at hl1
      have ei : ((i + 1 : Nat) : Int) - 1 = (i : Int) := by omega
      rw [ei]
      have hop := ho _ (hl1 ▸ List.mem_append_right l1 (List.Mem.head _))
      have hbit : 0 ≤ v' / 2 ^ i % 2 ∧ v' / 2 ^ i % 2 ≤ 1 := by omega
      have hub : 0 ≤ u / 2 ^ i % 2 ∧ u / 2 ^ i % 2 ≤ 1 := by omega
      have hm8 : m' < 512 := by
        have : (2 : Int) ^ (9 - (i + 1)) ≤ 2 ^ 8 := two_le' (by omega)
        have e8 : (2 : Int) ^ 8 = 256 := by decide
        omega
      have h1le : i ≤ 64 := by omega
      have hm3 : 2 * m' + v' / 2 ^ i % 2 < 2 ^ (9 - i) := by
        have e : 9 - i = (9 - (i + 1)) + 1 := by omega
        rw [e, Int.pow_succ]; omega
      repeat' (first | (refine pN_geq_s ?_ ?_ <;> intro hc <;> try (exfalso; omega)) | refine pIf_t ?_ | fail)
      refine ⟨fun sm m w => sm = .bool (same && decide (v' / 2 ^ i % 2 = u / 2 ^ i % 2)) ∧ m = .int .i64 (2 * m' + v' / 2 ^ i % 2) ∧ Sat E w (X (l ++ (l1 ++ [Z.Op.bit 6 (f + m' + if same = true then 256 * (1 + u / 2 ^ i % 2) else 0) (v' / 2 ^ i % 2)])) :: cel b ⟨128, encCells t wd en⟩ :: cel t ⟨141, tbCells p s q⟩ :: Win wd x :: M), ?_, ?_⟩
      · repeat' (first | refine pA_shr_k i rfl h1le ?_ | (refine pDr_go hS ?_; clear hS; intro w hS) | refine pN_v (hk := ?_) | refine pA_v (hk := ?_) | fail)
        generalize v' / 2 ^ i % 2 = bit at *
        generalize u / 2 ^ i % 2 = ub at *
        refine ⟨fun v w => v = .int .i64 (f + m' + if same = true then 256 * (1 + ub) else 0) ∧ Sat E w (X (l ++ l1) :: cel b ⟨128, encCells t wd en⟩ :: cel t ⟨141, tbCells p s q⟩ :: Win wd x :: M), ?_, ?_⟩
        · cases same
          · repeat' (first | refine pIf_f ?_ | fail)
            exact ⟨by simp, hS.to⟩
          · repeat' (first | refine pIf_t ?_ | refine pN_v (hk := ?_) | fail)
            exact ⟨by simp, hS.to⟩
        clear hS
        rintro _ _ w ⟨rfl, hS⟩
        repeat' (first | refine pA_nilm hk.nb ?_ | (refine hk.bit _ _ _ hop (by simp only [List.length_append]; omega) (hS.fd X) ?_; clear hS; intro w hS) | refine pL_l hS (by first | rfl | assumption) ?_ | (refine pDr_go hS ?_; clear hS; intro w hS) | refine ⟨trivial, ?_⟩ | refine ⟨⟨(by first | exact run_l hS (by first | rfl | assumption) | exact run_st hS (by first | rfl | omega) | exact run_ld1 ha hS | exact fun _ => run_l hS (by rfl) | exact fun _ => run_st hS (by first | rfl | omega) | exact fun _ => run_ld1 ha hS | exact fun h => Bool.noConfusion h), (by first | exact run_l hS (by first | rfl | assumption) | exact run_st hS (by first | rfl | omega) | exact run_ld1 ha hS | exact fun _ => run_l hS (by rfl) | exact fun _ => run_st hS (by first | rfl | omega) | exact fun _ => run_ld1 ha hS | exact fun h => Bool.noConfusion h), trivial⟩, ?_⟩ | refine pN_fn ?_ | refine pA_v (hk := ?_) | fail)
        rw [List.append_assoc] at hS
        cases same
        · repeat' (first | refine pGd_no (by rfl) ?_ | refine pN_v (hk := ?_) | fail)
          exact ⟨rfl, rfl, hS.to⟩
        · repeat' (first | (refine pN_eql_s ?_ ?_ <;> intro hc <;> try (exfalso; first | omega | exact hc rfl | exact hc (by assumption) | exact absurd hc (by assumption))) | refine pGd_go (by rfl) ?_ | refine pN_v (hk := ?_) | fail)
          · exact ⟨by rw [decide_eq_true hc]; rfl, rfl, hS.to⟩
          · exact ⟨by rw [decide_eq_false hc]; rfl, rfl, hS.to⟩
      · clear hS
        rintro _ _ _ w ⟨rfl, rfl, hS⟩
        repeat' (first | refine pN_v (hk := ?_) | fail)
        refine ⟨⟨i, _, _, _, rfl, rfl, rfl, by omega, by omega, hm3, ?_, ?_, hS⟩, by simp [RowKit.intOf] <;> omega⟩
        · rw [List.append_assoc]; exact hl1
        · simp only [List.length_append, List.length_cons, List.length_nil]; omega
end

end Go.Proofs.YtbgnnjfpiblkmaaGreatDoor

namespace Go.Proofs.YtbgnnjfpiblkmaaGreatDoor
open Go

abbrev codingV (e : Nat) : Value := .iface 136 (.agg #[pz e])
abbrev costingV (a : Nat) : Value := .iface 156 (pz a)
theorem cod_nb (e : Nat) (w : World) : (oNil (mth "pith/lzenc.bit" (codingV e))).run Tryz.prog w = .ok (.value (mth "pith/lzenc.bit" (codingV e))) w := by kernel_rfl
theorem cod_nt (e : Nat) (w : World) : (oNil (mth "pith/lzenc.tree" (codingV e))).run Tryz.prog w = .ok (.value (mth "pith/lzenc.tree" (codingV e))) w := by kernel_rfl
theorem cod_nk (e : Nat) (w : World) : (oNil (mth "pith/lzenc.back" (codingV e))).run Tryz.prog w = .ok (.value (mth "pith/lzenc.back" (codingV e))) w := by kernel_rfl
theorem cod_nd (e : Nat) (w : World) : (oNil (mth "pith/lzenc.direct" (codingV e))).run Tryz.prog w = .ok (.value (mth "pith/lzenc.direct" (codingV e))) w := by kernel_rfl
theorem cst_nb (e : Nat) (w : World) : (oNil (mth "pith/lzenc.bit" (costingV e))).run Tryz.prog w = .ok (.value (mth "pith/lzenc.bit" (costingV e))) w := by kernel_rfl
theorem cst_nt (e : Nat) (w : World) : (oNil (mth "pith/lzenc.tree" (costingV e))).run Tryz.prog w = .ok (.value (mth "pith/lzenc.tree" (costingV e))) w := by kernel_rfl
theorem cst_nk (e : Nat) (w : World) : (oNil (mth "pith/lzenc.back" (costingV e))).run Tryz.prog w = .ok (.value (mth "pith/lzenc.back" (costingV e))) w := by kernel_rfl
theorem cst_nd (e : Nat) (w : World) : (oNil (mth "pith/lzenc.direct" (costingV e))).run Tryz.prog w = .ok (.value (mth "pith/lzenc.direct" (costingV e))) w := by kernel_rfl

set_option maxRecDepth 100000
section
variable {w : World} {K : Value → World → Prop}
theorem inv_cod_bit {e : Nat} {args : List Value} (h : Calls Tryz.prog 242 (.agg #[pz e] :: args).toArray w (retP K)) : pN Tryz.prog (oInv (codingV e) "pith/lzenc.bit" args) w K :=
  pN_inv (r := .agg #[pz e]) (fun args w => by kernel_rfl) h
theorem inv_cod_tree {e : Nat} {args : List Value} (h : Calls Tryz.prog 244 (.agg #[pz e] :: args).toArray w (retP K)) : pN Tryz.prog (oInv (codingV e) "pith/lzenc.tree" args) w K :=
  pN_inv (r := .agg #[pz e]) (fun args w => by kernel_rfl) h
theorem inv_cod_back {e : Nat} {args : List Value} (h : Calls Tryz.prog 241 (.agg #[pz e] :: args).toArray w (retP K)) : pN Tryz.prog (oInv (codingV e) "pith/lzenc.back" args) w K :=
  pN_inv (r := .agg #[pz e]) (fun args w => by kernel_rfl) h
theorem inv_cod_direct {e : Nat} {args : List Value} (h : Calls Tryz.prog 243 (.agg #[pz e] :: args).toArray w (retP K)) : pN Tryz.prog (oInv (codingV e) "pith/lzenc.direct" args) w K :=
  pN_inv (r := .agg #[pz e]) (fun args w => by kernel_rfl) h
theorem inv_cst_bit {e : Nat} {args : List Value} (h : Calls Tryz.prog 254 (pz e :: args).toArray w (retP K)) : pN Tryz.prog (oInv (costingV e) "pith/lzenc.bit" args) w K :=
  pN_inv (r := pz e) (fun args w => by kernel_rfl) h
theorem inv_cst_tree {e : Nat} {args : List Value} (h : Calls Tryz.prog 256 (pz e :: args).toArray w (retP K)) : pN Tryz.prog (oInv (costingV e) "pith/lzenc.tree" args) w K :=
  pN_inv (r := pz e) (fun args w => by kernel_rfl) h
theorem inv_cst_back {e : Nat} {args : List Value} (h : Calls Tryz.prog 253 (pz e :: args).toArray w (retP K)) : pN Tryz.prog (oInv (costingV e) "pith/lzenc.back" args) w K :=
  pN_inv (r := pz e) (fun args w => by kernel_rfl) h
theorem inv_cst_direct {e : Nat} {args : List Value} (h : Calls Tryz.prog 255 (pz e :: args).toArray w (retP K)) : pN Tryz.prog (oInv (costingV e) "pith/lzenc.direct" args) w K :=
  pN_inv (r := pz e) (fun args w => by kernel_rfl) h
end
theorem Sat.fd3 {E w : World} {L M N O : List HA} {σ τ υ : Type} (hS : Sat E w L) (F : σ → HA) (G : τ → HA) (H : υ → HA) {a : σ} {b : τ} {c : υ} [h1 : Fnd F L a M] [h2 : Fnd G M b N] [h3 : Fnd H N c O] : Sat E w (F a :: G b :: H c :: O) := hS.perm (h1.perm.trans ((h2.perm.trans (h3.perm.cons _)).cons _))
theorem Sat.fd4 {E w : World} {L M N O R : List HA} {σ τ υ φ : Type} (hS : Sat E w L) (F : σ → HA) (G : τ → HA) (H : υ → HA) (I : φ → HA) {a : σ} {b : τ} {c : υ} {d : φ} [h1 : Fnd F L a M] [h2 : Fnd G M b N] [h3 : Fnd H N c O] [h4 : Fnd I O d R] : Sat E w (F a :: G b :: H c :: I d :: R) := hS.perm (h1.perm.trans ((h2.perm.trans ((h3.perm.trans (h4.perm.cons _)).cons _)).cons _))
attribute [local irreducible] oMv oV oU oCall oCallV oBi oBin oUn oLoad oStore oNil oFld oField oIdx oIndex oPick oAlloc oBox oBuild oBs oConv oMk oSl oExt oFn oIface oMap oLook oMapUp oRange oNext oEntry oInv oAssert oPanic oRes pN pA pL pDr pIf gA pGd

section
variable {E w W : World} {M N : List HA} {Q : Value → World → Prop} {p : Z.Pr} {s : Z.St} {x : Z.W} {b t wd en : Nat} {q : Nat → Nat} {c : Value} {X : List Z.Op → HA} {l : List Z.Op}

set_option maxHeartbeats 2000000 in
theorem code1_ok {y : Z.Y} (hk : Snk p q c X) (hp : p.Ok) (hs : s.Right) (hy : Z.errY y = 0) (hk1 : y.Kind = 1)
    (hS : Sat E w (X [] :: cel b ⟨128, encCells t wd en⟩ :: cel t ⟨141, tbCells p s q⟩ :: Win wd x :: M)) (hx : x.all.length ≤ 4611686018427387904)
    (hQ : ∀ w, Sat E w (X (Z.symOps p s x y) :: cel b ⟨128, encCells t wd en⟩ :: cel t ⟨141, tbCells p s q⟩ :: Win wd x :: M) → Q (.tuple #[]) w) :
    Calls Tryz.prog 68 #[pz b, c, .agg #[.int .i64 y.Kind, bv y.Byte, .int .i64 y.Len, .int .i64 y.Dist]] w (retP Q) := by
  refine lzenc_Encoder_code.calls ?_
  unfold lzenc_Encoder_code.F
  have ho := (Z.symOps_ok hp hs x hy).ok
  have hn := hs.num
  have hpl := place_bd hp x.all.length
  unfold Z.symOps at ho hQ
  dsimp only at ho hQ
  rw [if_pos hk1] at ho hQ
  repeat' (first | (refine hk.bit _ _ _ (ho _ (by first | exact List.Mem.head _ | exact List.Mem.tail _ (List.Mem.head _) | exact List.Mem.tail _ (List.Mem.tail _ (List.Mem.head _)) | exact List.Mem.tail _ (List.Mem.tail _ (List.Mem.tail _ (List.Mem.head _))) | exact List.Mem.tail _ (List.Mem.tail _ (List.Mem.tail _ (List.Mem.tail _ (List.Mem.head _)))) | exact List.Mem.tail _ (List.Mem.tail _ (List.Mem.tail _ (List.Mem.tail _ (List.Mem.tail _ (List.Mem.head _))))) | exact List.Mem.tail _ (List.Mem.tail _ (List.Mem.tail _ (List.Mem.tail _ (List.Mem.tail _ (List.Mem.tail _ (List.Mem.head _)))))))) (by first | omega | (simp only [List.length_append, List.length_cons, List.length_nil]; omega)) (hS.fd X) ?_; clear hS; intro w hS) | refine pA_nilm hk.nb ?_ | (refine pc_window_Window_Pos (Pos_ok (hS.fd (Win wd)) ?_); clear hS; intro w hS) | (refine pc_model_Tables_At (MAt_ok (hS.fd (cel t)) hp hs _ (by omega) (by omega) ?_); clear hS; intro w hS) | (refine pc_lzenc_Encoder_literal (literal_ok hk hp hs _ (by simp only [List.length_append, List.length_cons, List.length_nil]; omega) (hS.fd4 X (cel b) (cel t) (Win wd)) hx ?_); clear hS; intro w hS) | (refine pN_eql_s ?_ ?_ <;> intro hc <;> try (exfalso; first | omega | exact hc rfl | exact hc (by assumption) | exact absurd hc (by assumption))) | refine pIf_t ?_ | refine pN_ofb ?_ | refine pN_l hS (by first | rfl | assumption) ?_ | refine pL_l hS (by first | rfl | assumption) ?_ | (refine pDr_go hS ?_; clear hS; intro w hS) | (refine pN_bx hS (by rfl) ?_; clear hS; intro a w hS) | refine ⟨trivial, ?_⟩ | refine ⟨⟨(by first | exact run_l hS (by first | rfl | assumption) | exact run_st hS (by first | rfl | omega) | exact run_ld1 ha hS | exact fun _ => run_l hS (by rfl) | exact fun _ => run_st hS (by first | rfl | omega) | exact fun _ => run_ld1 ha hS | exact fun h => Bool.noConfusion h), (by first | exact run_l hS (by first | rfl | assumption) | exact run_st hS (by first | rfl | omega) | exact run_ld1 ha hS | exact fun _ => run_l hS (by rfl) | exact fun _ => run_st hS (by first | rfl | omega) | exact fun _ => run_ld1 ha hS | exact fun h => Bool.noConfusion h), trivial⟩, ?_⟩ | refine ⟨⟨(by first | exact run_l hS (by first | rfl | assumption) | exact run_st hS (by first | rfl | omega) | exact run_ld1 ha hS | exact fun _ => run_l hS (by rfl) | exact fun _ => run_st hS (by first | rfl | omega) | exact fun _ => run_ld1 ha hS | exact fun h => Bool.noConfusion h), (by first | exact run_l hS (by first | rfl | assumption) | exact run_st hS (by first | rfl | omega) | exact run_ld1 ha hS | exact fun _ => run_l hS (by rfl) | exact fun _ => run_st hS (by first | rfl | omega) | exact fun _ => run_ld1 ha hS | exact fun h => Bool.noConfusion h), (by first | exact run_l hS (by first | rfl | assumption) | exact run_st hS (by first | rfl | omega) | exact run_ld1 ha hS | exact fun _ => run_l hS (by rfl) | exact fun _ => run_st hS (by first | rfl | omega) | exact fun _ => run_ld1 ha hS | exact fun h => Bool.noConfusion h), trivial⟩, ?_⟩ | refine pN_fn ?_ | refine pN_v (hk := ?_) | refine pA_v (hk := ?_) | fail)
  simp only [List.append_assoc, List.cons_append, List.nil_append] at hS
  exact hQ _ hS.to

set_option maxHeartbeats 2000000 in
theorem code4_ok {y : Z.Y} (hk : Snk p q c X) (hp : p.Ok) (hs : s.Right) (hy : Z.errY y = 0) (hk4 : y.Kind = 4)
    (hS : Sat E w (X [] :: cel b ⟨128, encCells t wd en⟩ :: cel t ⟨141, tbCells p s q⟩ :: Win wd x :: M)) (hx : x.all.length ≤ 4611686018427387904)
    (hQ : ∀ w, Sat E w (X (Z.symOps p s x y) :: cel b ⟨128, encCells t wd en⟩ :: cel t ⟨141, tbCells p s q⟩ :: Win wd x :: M) → Q (.tuple #[]) w) :
    Calls Tryz.prog 68 #[pz b, c, .agg #[.int .i64 y.Kind, bv y.Byte, .int .i64 y.Len, .int .i64 y.Dist]] w (retP Q) := by
  refine lzenc_Encoder_code.calls ?_
  unfold lzenc_Encoder_code.F
  have ho := (Z.symOps_ok hp hs x hy).ok
  have hn := hs.num
  have hpl := place_bd hp x.all.length
  unfold Z.symOps at ho hQ
  dsimp only at ho hQ
  rw [if_neg (by omega), if_neg (by omega), if_pos hk4] at ho hQ
  repeat' (first | (refine hk.bit _ _ _ (ho _ (by first | exact List.Mem.head _ | exact List.Mem.tail _ (List.Mem.head _) | exact List.Mem.tail _ (List.Mem.tail _ (List.Mem.head _)) | exact List.Mem.tail _ (List.Mem.tail _ (List.Mem.tail _ (List.Mem.head _))) | exact List.Mem.tail _ (List.Mem.tail _ (List.Mem.tail _ (List.Mem.tail _ (List.Mem.head _)))) | exact List.Mem.tail _ (List.Mem.tail _ (List.Mem.tail _ (List.Mem.tail _ (List.Mem.tail _ (List.Mem.head _))))) | exact List.Mem.tail _ (List.Mem.tail _ (List.Mem.tail _ (List.Mem.tail _ (List.Mem.tail _ (List.Mem.tail _ (List.Mem.head _)))))))) (by first | omega | (simp only [List.length_append, List.length_cons, List.length_nil]; omega)) (hS.fd X) ?_; clear hS; intro w hS) | refine pA_nilm hk.nb ?_ | (refine pc_window_Window_Pos (Pos_ok (hS.fd (Win wd)) ?_); clear hS; intro w hS) | (refine pc_model_Tables_At (MAt_ok (hS.fd (cel t)) hp hs _ (by omega) (by omega) ?_); clear hS; intro w hS) | (refine pN_eql_s ?_ ?_ <;> intro hc <;> try (exfalso; first | omega | exact hc rfl | exact hc (by assumption) | exact absurd hc (by assumption))) | refine pIf_t ?_ | refine pIf_f ?_ | refine pN_l hS (by first | rfl | assumption) ?_ | refine pL_l hS (by first | rfl | assumption) ?_ | (refine pDr_go hS ?_; clear hS; intro w hS) | (refine pN_bx hS (by rfl) ?_; clear hS; intro a w hS) | refine ⟨trivial, ?_⟩ | refine ⟨⟨(by first | exact run_l hS (by first | rfl | assumption) | exact run_st hS (by first | rfl | omega) | exact run_ld1 ha hS | exact fun _ => run_l hS (by rfl) | exact fun _ => run_st hS (by first | rfl | omega) | exact fun _ => run_ld1 ha hS | exact fun h => Bool.noConfusion h), (by first | exact run_l hS (by first | rfl | assumption) | exact run_st hS (by first | rfl | omega) | exact run_ld1 ha hS | exact fun _ => run_l hS (by rfl) | exact fun _ => run_st hS (by first | rfl | omega) | exact fun _ => run_ld1 ha hS | exact fun h => Bool.noConfusion h), trivial⟩, ?_⟩ | refine ⟨⟨(by first | exact run_l hS (by first | rfl | assumption) | exact run_st hS (by first | rfl | omega) | exact run_ld1 ha hS | exact fun _ => run_l hS (by rfl) | exact fun _ => run_st hS (by first | rfl | omega) | exact fun _ => run_ld1 ha hS | exact fun h => Bool.noConfusion h), (by first | exact run_l hS (by first | rfl | assumption) | exact run_st hS (by first | rfl | omega) | exact run_ld1 ha hS | exact fun _ => run_l hS (by rfl) | exact fun _ => run_st hS (by first | rfl | omega) | exact fun _ => run_ld1 ha hS | exact fun h => Bool.noConfusion h), (by first | exact run_l hS (by first | rfl | assumption) | exact run_st hS (by first | rfl | omega) | exact run_ld1 ha hS | exact fun _ => run_l hS (by rfl) | exact fun _ => run_st hS (by first | rfl | omega) | exact fun _ => run_ld1 ha hS | exact fun h => Bool.noConfusion h), trivial⟩, ?_⟩ | refine pN_fn ?_ | refine pN_v (hk := ?_) | refine pA_v (hk := ?_) | fail)
  simp only [List.append_assoc, List.cons_append, List.nil_append] at hS
  exact hQ _ hS.to

end

end Go.Proofs.YtbgnnjfpiblkmaaGreatDoor

namespace Go.Proofs.YtbgnnjfpiblkmaaGreatDoor
open Go
attribute [local irreducible] oMv oV oU oCall oCallV oBi oBin oUn oLoad oStore oNil oFld oField oIdx oIndex oPick oAlloc oBox oBuild oBs oConv oMk oSl oExt oFn oIface oMap oLook oMapUp oRange oNext oEntry oInv oAssert oPanic oRes pN pA pL pDr pIf gA pGd

section
variable {E w W : World} {M N : List HA} {Q : Value → World → Prop} {p : Z.Pr} {s : Z.St} {x : Z.W} {b t wd en : Nat} {q : Nat → Nat} {c : Value} {X : List Z.Op → HA} {l : List Z.Op}

set_option maxHeartbeats 2000000 in
theorem code2_ok {y : Z.Y} (hk : Snk p q c X) (hp : p.Ok) (hs : s.Right) (hy : Z.errY y = 0) (hk2 : y.Kind = 2)
    (hS : Sat E w (X [] :: cel b ⟨128, encCells t wd en⟩ :: cel t ⟨141, tbCells p s q⟩ :: Win wd x :: M)) (hx : x.all.length ≤ 4611686018427387904)
    (hQ : ∀ w, Sat E w (X (Z.symOps p s x y) :: cel b ⟨128, encCells t wd en⟩ :: cel t ⟨141, tbCells p s q⟩ :: Win wd x :: M) → Q (.tuple #[]) w) :
    Calls Tryz.prog 68 #[pz b, c, .agg #[.int .i64 y.Kind, bv y.Byte, .int .i64 y.Len, .int .i64 y.Dist]] w (retP Q) := by
  refine lzenc_Encoder_code.calls ?_
  unfold lzenc_Encoder_code.F
  have ho := (Z.symOps_ok hp hs x hy).ok
  have hn := hs.num
  have hpl := place_bd hp x.all.length
  unfold Z.symOps at ho hQ
  dsimp only at ho hQ
  rw [if_neg (by omega), if_pos hk2] at ho hQ
  have hl := Z.err_len hy (.inl hk2)
  have hd := Z.err_dist hy hk2
  repeat' (first | (refine hk.bit _ _ _ (ho _ (by first | exact List.Mem.head _ | exact List.Mem.tail _ (List.Mem.head _) | exact List.Mem.tail _ (List.Mem.tail _ (List.Mem.head _)) | exact List.Mem.tail _ (List.Mem.tail _ (List.Mem.tail _ (List.Mem.head _))) | exact List.Mem.tail _ (List.Mem.tail _ (List.Mem.tail _ (List.Mem.tail _ (List.Mem.head _)))) | exact List.Mem.tail _ (List.Mem.tail _ (List.Mem.tail _ (List.Mem.tail _ (List.Mem.tail _ (List.Mem.head _))))) | exact List.Mem.tail _ (List.Mem.tail _ (List.Mem.tail _ (List.Mem.tail _ (List.Mem.tail _ (List.Mem.tail _ (List.Mem.head _)))))))) (by first | omega | (simp only [List.length_append, List.length_cons, List.length_nil]; omega)) (hS.fd X) ?_; clear hS; intro w hS) | refine pA_nilm hk.nb ?_ | (refine pc_window_Window_Pos (Pos_ok (hS.fd (Win wd)) ?_); clear hS; intro w hS) | refine pL_la_at (n := 4) hS [pz (q 7), pz (q 8), pz (q 9), pz (q 10)] rfl rfl ?_ | (refine pc_model_Tables_At (MAt_ok (hS.fd (cel t)) hp hs _ (by omega) (by omega) ?_); clear hS; intro w hS) | (refine pc_lzenc_Encoder_length (length_ok hk hp 7 (.inl rfl) hl (by simp only [List.length_append, List.length_cons, List.length_nil]; omega) (hS.fd4 X (cel b) (cel t) (Win wd)) hx ?_); clear hS; intro w hS) | (refine pc_lzenc_Encoder_distance (distance_ok hk hp hl hd (by simp only [List.length_append, List.length_cons, List.length_nil]; have := Z.lenOps_len 7 p x.all.length y.Len; omega) (hS.fd3 X (cel b) (cel t)) ?_); clear hS; intro w hS) | (refine pN_eql_s ?_ ?_ <;> intro hc <;> try (exfalso; first | omega | exact hc rfl | exact hc (by assumption) | exact absurd hc (by assumption))) | refine pIf_t ?_ | refine pIf_f ?_ | refine pN_l hS (by first | rfl | assumption) ?_ | refine pL_l hS (by first | rfl | assumption) ?_ | refine pN_la hS (by rfl) ?_ | (refine pDr_go hS ?_; clear hS; intro w hS) | (refine pN_bx hS (by rfl) ?_; clear hS; intro a w hS) | refine ⟨trivial, ?_⟩ | refine ⟨⟨(by first | exact run_l hS (by first | rfl | assumption) | exact run_st hS (by first | rfl | omega) | exact run_ld1 ha hS | exact fun _ => run_l hS (by rfl) | exact fun _ => run_st hS (by first | rfl | omega) | exact fun _ => run_ld1 ha hS | exact fun h => Bool.noConfusion h), (by first | exact run_l hS (by first | rfl | assumption) | exact run_st hS (by first | rfl | omega) | exact run_ld1 ha hS | exact fun _ => run_l hS (by rfl) | exact fun _ => run_st hS (by first | rfl | omega) | exact fun _ => run_ld1 ha hS | exact fun h => Bool.noConfusion h), trivial⟩, ?_⟩ | refine ⟨⟨(by first | exact run_l hS (by first | rfl | assumption) | exact run_st hS (by first | rfl | omega) | exact run_ld1 ha hS | exact fun _ => run_l hS (by rfl) | exact fun _ => run_st hS (by first | rfl | omega) | exact fun _ => run_ld1 ha hS | exact fun h => Bool.noConfusion h), (by first | exact run_l hS (by first | rfl | assumption) | exact run_st hS (by first | rfl | omega) | exact run_ld1 ha hS | exact fun _ => run_l hS (by rfl) | exact fun _ => run_st hS (by first | rfl | omega) | exact fun _ => run_ld1 ha hS | exact fun h => Bool.noConfusion h), (by first | exact run_l hS (by first | rfl | assumption) | exact run_st hS (by first | rfl | omega) | exact run_ld1 ha hS | exact fun _ => run_l hS (by rfl) | exact fun _ => run_st hS (by first | rfl | omega) | exact fun _ => run_ld1 ha hS | exact fun h => Bool.noConfusion h), trivial⟩, ?_⟩ | refine pN_fn ?_ | refine pN_v (hk := ?_) | refine pA_v (hk := ?_) | fail)
  simp only [List.append_assoc, List.cons_append, List.nil_append] at hS hQ
  exact hQ _ hS.to

set_option maxHeartbeats 2000000 in
theorem code3_ok {y : Z.Y} (hk : Snk p q c X) (hp : p.Ok) (hs : s.Right) (hy : Z.errY y = 0) (hk3 : y.Kind = 3)
    (hS : Sat E w (X [] :: cel b ⟨128, encCells t wd en⟩ :: cel t ⟨141, tbCells p s q⟩ :: Win wd x :: M)) (hx : x.all.length ≤ 4611686018427387904)
    (hQ : ∀ w, Sat E w (X (Z.symOps p s x y) :: cel b ⟨128, encCells t wd en⟩ :: cel t ⟨141, tbCells p s q⟩ :: Win wd x :: M) → Q (.tuple #[]) w) :
    Calls Tryz.prog 68 #[pz b, c, .agg #[.int .i64 y.Kind, bv y.Byte, .int .i64 y.Len, .int .i64 y.Dist]] w (retP Q) := by
  refine lzenc_Encoder_code.calls ?_
  unfold lzenc_Encoder_code.F
  have ho := (Z.symOps_ok hp hs x hy).ok
  have hn := hs.num
  have hpl := place_bd hp x.all.length
  unfold Z.symOps at ho hQ
  dsimp only at ho hQ
  rw [if_neg (by omega), if_neg (by omega), if_neg (by omega)] at ho hQ
  have hl := Z.err_len hy (.inr hk3)
  have hd := Z.err_rep hy hk3
  have hrl : (Z.repOps p s x.all.length y.Dist).length ≤ 3 := by
    unfold Z.repOps
    split
    · exact Nat.le_of_ble_eq_true rfl
    · split <;> exact Nat.le_of_ble_eq_true rfl
  repeat' (first | (refine hk.bit _ _ _ (ho _ (by first | exact List.Mem.head _ | exact List.Mem.tail _ (List.Mem.head _) | exact List.Mem.tail _ (List.Mem.tail _ (List.Mem.head _)) | exact List.Mem.tail _ (List.Mem.tail _ (List.Mem.tail _ (List.Mem.head _))) | exact List.Mem.tail _ (List.Mem.tail _ (List.Mem.tail _ (List.Mem.tail _ (List.Mem.head _)))) | exact List.Mem.tail _ (List.Mem.tail _ (List.Mem.tail _ (List.Mem.tail _ (List.Mem.tail _ (List.Mem.head _))))) | exact List.Mem.tail _ (List.Mem.tail _ (List.Mem.tail _ (List.Mem.tail _ (List.Mem.tail _ (List.Mem.tail _ (List.Mem.head _)))))))) (by first | omega | (simp only [List.length_append, List.length_cons, List.length_nil]; omega)) (hS.fd X) ?_; clear hS; intro w hS) | refine pA_nilm hk.nb ?_ | (refine pc_window_Window_Pos (Pos_ok (hS.fd (Win wd)) ?_); clear hS; intro w hS) | (refine pc_model_Tables_At (MAt_ok (hS.fd (cel t)) hp hs _ (by omega) (by omega) ?_); clear hS; intro w hS) | (refine pN_eql_s ?_ ?_ <;> intro hc <;> try (exfalso; first | omega | exact hc rfl | exact hc (by assumption) | exact absurd hc (by assumption))) | refine pIf_f ?_ | refine pN_l hS (by first | rfl | assumption) ?_ | refine pL_l hS (by first | rfl | assumption) ?_ | (refine pDr_go hS ?_; clear hS; intro w hS) | (refine pN_bx hS (by rfl) ?_; clear hS; intro a w hS) | refine ⟨trivial, ?_⟩ | refine ⟨⟨(by first | exact run_l hS (by first | rfl | assumption) | exact run_st hS (by first | rfl | omega) | exact run_ld1 ha hS | exact fun _ => run_l hS (by rfl) | exact fun _ => run_st hS (by first | rfl | omega) | exact fun _ => run_ld1 ha hS | exact fun h => Bool.noConfusion h), (by first | exact run_l hS (by first | rfl | assumption) | exact run_st hS (by first | rfl | omega) | exact run_ld1 ha hS | exact fun _ => run_l hS (by rfl) | exact fun _ => run_st hS (by first | rfl | omega) | exact fun _ => run_ld1 ha hS | exact fun h => Bool.noConfusion h), trivial⟩, ?_⟩ | refine ⟨⟨(by first | exact run_l hS (by first | rfl | assumption) | exact run_st hS (by first | rfl | omega) | exact run_ld1 ha hS | exact fun _ => run_l hS (by rfl) | exact fun _ => run_st hS (by first | rfl | omega) | exact fun _ => run_ld1 ha hS | exact fun h => Bool.noConfusion h), (by first | exact run_l hS (by first | rfl | assumption) | exact run_st hS (by first | rfl | omega) | exact run_ld1 ha hS | exact fun _ => run_l hS (by rfl) | exact fun _ => run_st hS (by first | rfl | omega) | exact fun _ => run_ld1 ha hS | exact fun h => Bool.noConfusion h), (by first | exact run_l hS (by first | rfl | assumption) | exact run_st hS (by first | rfl | omega) | exact run_ld1 ha hS | exact fun _ => run_l hS (by rfl) | exact fun _ => run_st hS (by first | rfl | omega) | exact fun _ => run_ld1 ha hS | exact fun h => Bool.noConfusion h), trivial⟩, ?_⟩ | refine pN_fn ?_ | refine pN_v (hk := ?_) | refine pA_v (hk := ?_) | fail)
  refine ⟨fun w => Sat E w (X ([Z.Op.bit 0 (s.num * 16 + Z.place p x.all.length) 1, Z.Op.bit 2 s.num 1] ++ Z.repOps p s x.all.length y.Dist) :: cel t ⟨141, tbCells p s q⟩ :: Win wd x :: cel a ⟨48, [.int .i64 y.Kind, bv y.Byte, .int .i64 y.Len, .int .i64 y.Dist]⟩ :: cel b ⟨128, encCells t wd en⟩ :: M), ?_, ?_⟩
  · unfold Z.repOps at ho hQ ⊢
    by_cases h0 : y.Dist = 0
    · rw [if_pos h0] at ho ⊢
      repeat' (first | (refine hk.bit _ _ _ (ho _ (by first | exact List.Mem.head _ | exact List.Mem.tail _ (List.Mem.head _) | exact List.Mem.tail _ (List.Mem.tail _ (List.Mem.head _)) | exact List.Mem.tail _ (List.Mem.tail _ (List.Mem.tail _ (List.Mem.head _))) | exact List.Mem.tail _ (List.Mem.tail _ (List.Mem.tail _ (List.Mem.tail _ (List.Mem.head _)))) | exact List.Mem.tail _ (List.Mem.tail _ (List.Mem.tail _ (List.Mem.tail _ (List.Mem.tail _ (List.Mem.head _))))) | exact List.Mem.tail _ (List.Mem.tail _ (List.Mem.tail _ (List.Mem.tail _ (List.Mem.tail _ (List.Mem.tail _ (List.Mem.head _)))))))) (by first | omega | (simp only [List.length_append, List.length_cons, List.length_nil]; omega)) (hS.fd X) ?_; clear hS; intro w hS) | refine pA_nilm hk.nb ?_ | (refine pN_eql_s ?_ ?_ <;> intro hc <;> try (exfalso; first | omega | exact hc rfl | exact hc (by assumption) | exact absurd hc (by assumption))) | refine pIf_t ?_ | refine pN_l hS (by first | rfl | assumption) ?_ | refine pL_l hS (by first | rfl | assumption) ?_ | (refine pDr_go hS ?_; clear hS; intro w hS) | refine ⟨trivial, ?_⟩ | refine ⟨⟨(by first | exact run_l hS (by first | rfl | assumption) | exact run_st hS (by first | rfl | omega) | exact run_ld1 ha hS | exact fun _ => run_l hS (by rfl) | exact fun _ => run_st hS (by first | rfl | omega) | exact fun _ => run_ld1 ha hS | exact fun h => Bool.noConfusion h), (by first | exact run_l hS (by first | rfl | assumption) | exact run_st hS (by first | rfl | omega) | exact run_ld1 ha hS | exact fun _ => run_l hS (by rfl) | exact fun _ => run_st hS (by first | rfl | omega) | exact fun _ => run_ld1 ha hS | exact fun h => Bool.noConfusion h), trivial⟩, ?_⟩ | refine pN_fn ?_ | refine pN_v (hk := ?_) | refine pA_v (hk := ?_) | fail)
      simp only [List.append_assoc, List.cons_append, List.nil_append] at hS ⊢
      exact hS.to
    · rw [if_neg h0] at ho ⊢
      by_cases h1 : 1 < y.Dist
      · rw [if_pos h1] at ho ⊢
        have hm : min (y.Dist - 1) 1 = 1 := by omega
        rw [hm] at ho ⊢
        repeat' (first | (refine hk.bit _ _ _ (ho _ (by first | exact List.Mem.head _ | exact List.Mem.tail _ (List.Mem.head _) | exact List.Mem.tail _ (List.Mem.tail _ (List.Mem.head _)) | exact List.Mem.tail _ (List.Mem.tail _ (List.Mem.tail _ (List.Mem.head _))) | exact List.Mem.tail _ (List.Mem.tail _ (List.Mem.tail _ (List.Mem.tail _ (List.Mem.head _)))) | exact List.Mem.tail _ (List.Mem.tail _ (List.Mem.tail _ (List.Mem.tail _ (List.Mem.tail _ (List.Mem.head _))))) | exact List.Mem.tail _ (List.Mem.tail _ (List.Mem.tail _ (List.Mem.tail _ (List.Mem.tail _ (List.Mem.tail _ (List.Mem.head _)))))))) (by first | omega | (simp only [List.length_append, List.length_cons, List.length_nil]; omega)) (hS.fd X) ?_; clear hS; intro w hS) | refine pA_nilm hk.nb ?_ | refine pA_minv hm ?_ | (refine pN_gtr_s ?_ ?_ <;> intro hc <;> try (exfalso; omega)) | (refine pN_eql_s ?_ ?_ <;> intro hc <;> try (exfalso; first | omega | exact hc rfl | exact hc (by assumption) | exact absurd hc (by assumption))) | refine pIf_t ?_ | refine pIf_f ?_ | refine pN_l hS (by first | rfl | assumption) ?_ | refine pL_l hS (by first | rfl | assumption) ?_ | (refine pDr_go hS ?_; clear hS; intro w hS) | refine ⟨trivial, ?_⟩ | refine ⟨⟨(by first | exact run_l hS (by first | rfl | assumption) | exact run_st hS (by first | rfl | omega) | exact run_ld1 ha hS | exact fun _ => run_l hS (by rfl) | exact fun _ => run_st hS (by first | rfl | omega) | exact fun _ => run_ld1 ha hS | exact fun h => Bool.noConfusion h), (by first | exact run_l hS (by first | rfl | assumption) | exact run_st hS (by first | rfl | omega) | exact run_ld1 ha hS | exact fun _ => run_l hS (by rfl) | exact fun _ => run_st hS (by first | rfl | omega) | exact fun _ => run_ld1 ha hS | exact fun h => Bool.noConfusion h), trivial⟩, ?_⟩ | refine ⟨⟨(by first | exact run_l hS (by first | rfl | assumption) | exact run_st hS (by first | rfl | omega) | exact run_ld1 ha hS | exact fun _ => run_l hS (by rfl) | exact fun _ => run_st hS (by first | rfl | omega) | exact fun _ => run_ld1 ha hS | exact fun h => Bool.noConfusion h), (by first | exact run_l hS (by first | rfl | assumption) | exact run_st hS (by first | rfl | omega) | exact run_ld1 ha hS | exact fun _ => run_l hS (by rfl) | exact fun _ => run_st hS (by first | rfl | omega) | exact fun _ => run_ld1 ha hS | exact fun h => Bool.noConfusion h), (by first | exact run_l hS (by first | rfl | assumption) | exact run_st hS (by first | rfl | omega) | exact run_ld1 ha hS | exact fun _ => run_l hS (by rfl) | exact fun _ => run_st hS (by first | rfl | omega) | exact fun _ => run_ld1 ha hS | exact fun h => Bool.noConfusion h), trivial⟩, ?_⟩ | refine pN_fn ?_ | refine pN_v (hk := ?_) | refine pA_v (hk := ?_) | fail)
        simp only [List.append_assoc, List.cons_append, List.nil_append] at hS ⊢
        exact hS.to
      · rw [if_neg h1] at ho ⊢
        have hm : min (y.Dist - 1) 1 = 0 := by omega
        rw [hm] at ho ⊢
        repeat' (first | (refine hk.bit _ _ _ (ho _ (by first | exact List.Mem.head _ | exact List.Mem.tail _ (List.Mem.head _) | exact List.Mem.tail _ (List.Mem.tail _ (List.Mem.head _)) | exact List.Mem.tail _ (List.Mem.tail _ (List.Mem.tail _ (List.Mem.head _))) | exact List.Mem.tail _ (List.Mem.tail _ (List.Mem.tail _ (List.Mem.tail _ (List.Mem.head _)))) | exact List.Mem.tail _ (List.Mem.tail _ (List.Mem.tail _ (List.Mem.tail _ (List.Mem.tail _ (List.Mem.head _))))) | exact List.Mem.tail _ (List.Mem.tail _ (List.Mem.tail _ (List.Mem.tail _ (List.Mem.tail _ (List.Mem.tail _ (List.Mem.head _)))))))) (by first | omega | (simp only [List.length_append, List.length_cons, List.length_nil]; omega)) (hS.fd X) ?_; clear hS; intro w hS) | refine pA_nilm hk.nb ?_ | refine pA_minv hm ?_ | (refine pN_gtr_s ?_ ?_ <;> intro hc <;> try (exfalso; omega)) | (refine pN_eql_s ?_ ?_ <;> intro hc <;> try (exfalso; first | omega | exact hc rfl | exact hc (by assumption) | exact absurd hc (by assumption))) | refine pIf_f ?_ | refine pN_l hS (by first | rfl | assumption) ?_ | refine pL_l hS (by first | rfl | assumption) ?_ | (refine pDr_go hS ?_; clear hS; intro w hS) | refine ⟨trivial, ?_⟩ | refine ⟨⟨(by first | exact run_l hS (by first | rfl | assumption) | exact run_st hS (by first | rfl | omega) | exact run_ld1 ha hS | exact fun _ => run_l hS (by rfl) | exact fun _ => run_st hS (by first | rfl | omega) | exact fun _ => run_ld1 ha hS | exact fun h => Bool.noConfusion h), (by first | exact run_l hS (by first | rfl | assumption) | exact run_st hS (by first | rfl | omega) | exact run_ld1 ha hS | exact fun _ => run_l hS (by rfl) | exact fun _ => run_st hS (by first | rfl | omega) | exact fun _ => run_ld1 ha hS | exact fun h => Bool.noConfusion h), trivial⟩, ?_⟩ | refine ⟨⟨(by first | exact run_l hS (by first | rfl | assumption) | exact run_st hS (by first | rfl | omega) | exact run_ld1 ha hS | exact fun _ => run_l hS (by rfl) | exact fun _ => run_st hS (by first | rfl | omega) | exact fun _ => run_ld1 ha hS | exact fun h => Bool.noConfusion h), (by first | exact run_l hS (by first | rfl | assumption) | exact run_st hS (by first | rfl | omega) | exact run_ld1 ha hS | exact fun _ => run_l hS (by rfl) | exact fun _ => run_st hS (by first | rfl | omega) | exact fun _ => run_ld1 ha hS | exact fun h => Bool.noConfusion h), (by first | exact run_l hS (by first | rfl | assumption) | exact run_st hS (by first | rfl | omega) | exact run_ld1 ha hS | exact fun _ => run_l hS (by rfl) | exact fun _ => run_st hS (by first | rfl | omega) | exact fun _ => run_ld1 ha hS | exact fun h => Bool.noConfusion h), trivial⟩, ?_⟩ | refine pN_fn ?_ | refine pN_v (hk := ?_) | refine pA_v (hk := ?_) | fail)
        simp only [List.append_assoc, List.cons_append, List.nil_append] at hS ⊢
        exact hS.to
  · clear hS
    rintro _ w hS
    repeat' (first | refine pL_la_at (n := 4) hS [pz (q 11), pz (q 12), pz (q 13), pz (q 14)] rfl rfl ?_ | (refine pc_lzenc_Encoder_length (length_ok hk hp 11 (.inr rfl) hl (by simp only [List.length_append, List.length_cons, List.length_nil]; omega) (hS.fd4 X (cel b) (cel t) (Win wd)) hx ?_); clear hS; intro w hS) | refine pL_l hS (by first | rfl | assumption) ?_ | (refine pDr_go hS ?_; clear hS; intro w hS) | refine ⟨trivial, ?_⟩ | refine pA_v (hk := ?_) | fail)
    exact hQ _ hS.to

theorem code_ok {y : Z.Y} (hk : Snk p q c X) (hp : p.Ok) (hs : s.Right) (hy : Z.errY y = 0)
    (hS : Sat E w (X [] :: cel b ⟨128, encCells t wd en⟩ :: cel t ⟨141, tbCells p s q⟩ :: Win wd x :: M)) (hx : x.all.length ≤ 4611686018427387904)
    (hQ : ∀ w, Sat E w (X (Z.symOps p s x y) :: cel b ⟨128, encCells t wd en⟩ :: cel t ⟨141, tbCells p s q⟩ :: Win wd x :: M) → Q (.tuple #[]) w) :
    Calls Tryz.prog 68 #[pz b, c, .agg #[.int .i64 y.Kind, bv y.Byte, .int .i64 y.Len, .int .i64 y.Dist]] w (retP Q) := by
  rcases Z.kinds hy with h | h | h | h
  · exact code1_ok hk hp hs hy h hS hx hQ
  · exact code4_ok hk hp hs hy h hS hx hQ
  · exact code2_ok hk hp hs hy h hS hx hQ
  · exact code3_ok hk hp hs hy h hS hx hQ
end

end Go.Proofs.YtbgnnjfpiblkmaaGreatDoor

namespace Go.Proofs.YtbgnnjfpiblkmaaGreatDoor
open Go
namespace Z
theorem op_wt {p : Pr} {o : Op} (h : o.Ok p) : o.wt ≤ 16 ∧ o.bits.length ≤ 32 ∧ (1 ≤ o.bits.length ∨ o.bits.length = 0) := by
  cases o with
  | bit t i b => exact ⟨Nat.le_of_ble_eq_true rfl, Nat.le_of_ble_eq_true rfl, .inl (Nat.le_refl _)⟩
  | tree t a n v =>
    have := h.2.1.2.1
    simp only [Op.wt, Op.bits, treeBits, List.length_map, List.length_range]
    omega
  | back t a n v =>
    have := h.2.1.2.1
    simp only [Op.wt, Op.bits, treeBits, List.length_map, List.length_range]
    omega
  | direct v n =>
    have := h.2.2
    simp only [Op.wt, Op.bits, List.length_map, List.length_range]
    omega
theorem wts_len {p : Pr} : ∀ {l : List Op}, (∀ o ∈ l, o.Ok p) → wts l ≤ 16 * l.length ∧ lens l ≤ 32 * l.length
  | [], _ => ⟨Nat.le_refl _, Nat.le_refl _⟩
  | o :: l, h => by
    have h1 := op_wt (h o List.mem_cons_self)
    have h2 := wts_len (l := l) fun o ho => h o (List.mem_cons_of_mem _ ho)
    simp only [wts, lens, List.map_cons, List.sum_cons, List.length_cons] at h2 ⊢
    omega
theorem pr_get {p : Pr} {T : Nat → List Int} (hT : TabOk p T) {t : Nat} (ht : t < 18) {i : Int} (h0 : 0 ≤ i) (h1 : i < tabLen p t) (b : Int) : (T t)[i.toNat]? = some (pr T ⟨t, i, b⟩) := by
  have := hT.len t ht
  rw [pr, List.getD_eq_getElem?_getD, List.getElem?_eq_getElem (show i.toNat < (T t).length by omega)]; rfl
theorem run_bit {t : Nat} (ht : t < 18) (z : ES) (i b : Int) : run z (Op.bit t i b).bits = ⟨z.s.cut (B.bound z.s.R (pr z.T ⟨t, i, b⟩)) b, upd z.T t ((z.T t).set i.toNat (B.next (pr z.T ⟨t, i, b⟩) b))⟩ := by
  have hne : t ≠ 18 := by omega
  simp only [Op.bits, run, List.foldl_cons, List.foldl_nil, stepB, turn, hne, if_false]
end Z

def codX (p : Z.Pr) (en : Nat) (q : Nat → Nat) (z : Z.ES) (l : List Z.Op) : HA := fun h => (∀ o ∈ l, o.Ok p) ∧ Sats [Enc en (Z.runO z l).s, tabs q (Z.runO z l).T] h
def cstX (p : Z.Pr) (a : Nat) (q : Nat → Nat) (T : Nat → List Int) (l : List Z.Op) : HA := fun h => (∀ o ∈ l, o.Ok p) ∧ Sats [cel a ⟨155, [.int .i64 (Z.costO T l)]⟩, tabs q T] h

section
variable {E w : World} {M : List HA} {p : Z.Pr} {en a : Nat} {q : Nat → Nat} {z : Z.ES} {T : Nat → List Int} {l : List Z.Op}
theorem codX.opn (hS : Sat E w (codX p en q z l :: M)) : (∀ o ∈ l, o.Ok p) ∧ Sat E w (Enc en (Z.runO z l).s :: tabs q (Z.runO z l).T :: M) := by
  obtain ⟨h1, ⟨hA, _⟩, _⟩ := hS.head
  exact ⟨hA, hS.open_ (M := [_, _]) fun _ h => h.2⟩
theorem codX.shut {m : List Z.Op} (hm : ∀ o ∈ m, o.Ok p) {s : R.S} {T : Nat → List Int} (hS : Sat E w (Enc en s :: tabs q T :: M)) (hs : Z.runO z m = ⟨s, T⟩) : Sat E w (codX p en q z m :: M) := by
  refine Sat.shut (M := [_, _]) hS fun _ h => ⟨hm, ?_⟩
  rw [hs]; exact h
theorem cstX.opn (hS : Sat E w (cstX p a q T l :: M)) : (∀ o ∈ l, o.Ok p) ∧ Sat E w (cel a ⟨155, [.int .i64 (Z.costO T l)]⟩ :: tabs q T :: M) := by
  obtain ⟨h1, ⟨hA, _⟩, _⟩ := hS.head
  exact ⟨hA, hS.open_ (M := [_, _]) fun _ h => h.2⟩
theorem cstX.shut {m : List Z.Op} (hm : ∀ o ∈ m, o.Ok p) {v : Int} (hS : Sat E w (cel a ⟨155, [.int .i64 v]⟩ :: tabs q T :: M)) (hv : v = Z.costO T m) : Sat E w (cstX p a q T m :: M) := by
  subst hv
  exact Sat.shut (M := [_, _]) hS fun _ h => ⟨hm, h⟩
theorem snoc_ok {o : Z.Op} (h : ∀ o ∈ l, o.Ok p) (ho : o.Ok p) : ∀ x ∈ l ++ [o], x.Ok p := fun x hx => by
  rcases List.mem_append.1 hx with hx | hx
  · exact h x hx
  · rw [List.mem_singleton.1 hx]; exact ho
end
attribute [local irreducible] oMv oV oU oCall oCallV oBi oBin oUn oLoad oStore oNil oFld oField oIdx oIndex oPick oAlloc oBox oBuild oBs oConv oMk oSl oExt oFn oIface oMap oLook oMapUp oRange oNext oEntry oInv oAssert oPanic oRes pN pA pL pDr pIf gA pGd

section
variable {E w : World} {M : List HA} {p : Z.Pr} {en a : Nat} {q : Nat → Nat} {z : Z.ES} {T : Nat → List Int} {l : List Z.Op} {K : Value → World → Prop}

theorem cod_z (hz : z.Ok p) (hzk : z.s.k + 1000 ≤ 140737488355328) (hl : l.length ≤ 20) (h : ∀ o ∈ l, o.Ok p) : (Z.runO z l).Ok p ∧ (Z.runO z l).s.k + 600 ≤ 140737488355328 := by
  have h1 := Z.ops_ok hz h
  have h2 := Z.wts_len h
  exact ⟨h1.1, by omega⟩

set_option maxRecDepth 8000 in
set_option maxHeartbeats 400000 in
theorem cod_snk (hp : p.Ok) (hz : z.Ok p) (hzk : z.s.k + 1000 ≤ 140737488355328) : Snk p q (codingV en) (codX p en q z) where
  nb := cod_nb en
  nt := cod_nt en
  nk := cod_nk en
  nd := cod_nd en
  bit {E w M K l} t i b ho hl hS hK := by
    refine inv_cod_bit (lzenc_coding_bit.calls ?_)
    unfold lzenc_coding_bit.F
    obtain ⟨hm, hS⟩ := codX.opn hS
    obtain ⟨hzl, hkl⟩ := cod_z hz hzk hl hm
    generalize hzz : Z.runO z l = zz at *
    have ho' := ho
    obtain ⟨ht, i0, i1, b0, b1⟩ := ho'
    have hS := tabs_out (hS.perm (List.Perm.swap _ _ _)) t ht
    repeat' (first | (refine pc_rcenc_Encoder_Bit (Bit_in (hS.fd2 (Enc en) (PSet (q t))) (hzl.T.fine t) (by omega) i b i0 (Z.pr_get hzl.T ht i0 i1 b) ?_); clear hS; intro w hS) | refine pN_l hS (by first | rfl | assumption) ?_ | (refine pN_bx hS (by rfl) ?_; clear hS; intro a w hS) | refine pN_v (hk := ?_) | fail)
    have hS := tabs_into (hS.fd2 (PSet (q t)) (tabsBut q zz.T)) ht
    refine hK _ (codX.shut (z := z) (snoc_ok hm ho) (hS.fd (Enc en)) ?_).to
    rw [Z.runO_snoc, hzz, Z.run_bit ht]
  tree {E w M K l} t at_ n m v hmn ho hl hS hK := by
    subst hmn
    refine inv_cod_tree (lzenc_coding_tree.calls ?_)
    unfold lzenc_coding_tree.F
    obtain ⟨hm, hS⟩ := codX.opn hS
    obtain ⟨hzl, hkl⟩ := cod_z hz hzk hl hm
    generalize hzz : Z.runO z l = zz at *
    have ho' := ho
    obtain ⟨ht, hth, hh⟩ := ho'
    have hlen := hzl.T.len t ht
    rw [← hlen] at hth
    have hbd : (zz.T t).length ≤ 1048576 := by rw [hlen]; exact Nat.le_trans (Z.tabLen_bd hp t) (by decide)
    have hk1 : zz.s.k + 100 ≤ 140737488355328 := by omega
    clear hlen
    have hS := tabs_out (hS.perm (List.Perm.swap _ _ _)) t ht
    repeat' (first | refine pN_l hS (by first | rfl | assumption) ?_ | (refine pN_bx hS (by rfl) ?_; clear hS; intro a w hS) | refine pN_v (hk := ?_) | fail)
    refine pc_tree_Put (Put_in (hS.fd2 (Enc en) (PSet (q t))) hzl.s (hzl.T.fine t) hk1 at_ n v hbd hth hh fun w hS => ?_)
    skip
    simp only [Int.toNat_natCast] at hS
    have hS := tabs_into (hS.fd2 (PSet (q t)) (tabsBut q zz.T)) ht
    refine hK _ (codX.shut (z := z) (snoc_ok hm ho) (hS.fd (Enc en)) ?_).to
    rw [Z.runO_snoc, hzz]
    exact Z.run_treeBits ht _ at_ (R.bitAt false n v) n
  back {E w M K l} t at_ n m v hmn ho hl hS hK := by
    subst hmn
    refine inv_cod_back (lzenc_coding_back.calls ?_)
    unfold lzenc_coding_back.F
    obtain ⟨hm, hS⟩ := codX.opn hS
    obtain ⟨hzl, hkl⟩ := cod_z hz hzk hl hm
    generalize hzz : Z.runO z l = zz at *
    have ho' := ho
    obtain ⟨ht, hth, hh⟩ := ho'
    have hlen := hzl.T.len t ht
    rw [← hlen] at hth
    have hbd : (zz.T t).length ≤ 1048576 := by rw [hlen]; exact Nat.le_trans (Z.tabLen_bd hp t) (by decide)
    have hk1 : zz.s.k + 100 ≤ 140737488355328 := by omega
    clear hlen
    have hS := tabs_out (hS.perm (List.Perm.swap _ _ _)) t ht
    repeat' (first | refine pN_l hS (by first | rfl | assumption) ?_ | (refine pN_bx hS (by rfl) ?_; clear hS; intro a w hS) | refine pN_v (hk := ?_) | fail)
    refine pc_tree_PutBack (PutBack_in (hS.fd2 (Enc en) (PSet (q t))) hzl.s (hzl.T.fine t) hk1 at_ n v hbd hth hh fun w hS => ?_)
    skip
    simp only [Int.toNat_natCast] at hS
    have hS := tabs_into (hS.fd2 (PSet (q t)) (tabsBut q zz.T)) ht
    refine hK _ (codX.shut (z := z) (snoc_ok hm ho) (hS.fd (Enc en)) ?_).to
    rw [Z.runO_snoc, hzz]
    exact Z.run_treeBits ht _ at_ (R.bitAt true n v) n
  direct {E w M K l} v n m hmn ho hl hS hK := by
    subst hmn
    refine inv_cod_direct (lzenc_coding_direct.calls ?_)
    unfold lzenc_coding_direct.F
    obtain ⟨hm, hS⟩ := codX.opn hS
    obtain ⟨hzl, hkl⟩ := cod_z hz hzk hl hm
    generalize hzz : Z.runO z l = zz at *
    have ho' := ho
    obtain ⟨v0, v1, hn⟩ := ho'
    repeat' (first | (refine pc_rcenc_Encoder_Direct (Direct_in (hS.fd (Enc en)) (by omega) v n v0 v1 hn ?_); clear hS; intro w hS) | refine pN_l hS (by first | rfl | assumption) ?_ | (refine pN_bx hS (by rfl) ?_; clear hS; intro a w hS) | refine pN_v (hk := ?_) | fail)
    refine hK _ (codX.shut (z := z) (snoc_ok hm ho) (show Sat E w (Enc en (zz.s.direct v n) :: tabs q zz.T :: M) from hS.to) ?_)
    rw [Z.runO_snoc, hzz, Z.run_direct]

set_option maxRecDepth 8000 in
set_option maxHeartbeats 400000 in
theorem cst_snk (hp : p.Ok) (hT : Z.TabOk p T) : Snk p q (costingV a) (cstX p a q T) where
  nb := cst_nb a
  nt := cst_nt a
  nk := cst_nk a
  nd := cst_nd a
  bit {E w M K l} t i b ho hl hS hK := by
    refine inv_cst_bit (lzenc_costing_bit.calls ?_)
    unfold lzenc_costing_bit.F
    obtain ⟨hm, hS⟩ := cstX.opn hS
    have h1 := Z.costO_bd T l
    have h2 := (Z.wts_len hm).2
    have ho' := ho
    obtain ⟨ht, i0, i1, b0, b1⟩ := ho'
    have hS := tabs_out (hS.perm (List.Perm.swap _ _ _)) t ht
    have hc := Z.costB_bd T ⟨t, i, b⟩
    have hne : t ≠ 18 := by omega
    simp only [Z.costB, hne, if_false] at hc
    repeat' (first | (refine pc_prob_Set_At (At_in (hS.fd (PSet (q t))) i i0 (Z.pr_get hT ht i0 i1 b) ?_); clear hS; intro w hS) | (refine pc_prob_Cost (Cost_ok _ _ ?_)) | refine pL_l hS (by first | rfl | assumption) ?_ | (refine pN_s hS (by first | exact Nat.le_of_ble_eq_true rfl | assumption) (by rfl) ?_; clear hS; intro w hS; try simp only [List.set_cons_zero, List.set_cons_succ] at hS) | (refine pDr_go hS ?_; clear hS; intro w hS) | refine ⟨trivial, ?_⟩ | refine ⟨⟨(by first | exact run_l hS (by first | rfl | assumption) | exact run_st hS (by first | rfl | omega) | exact run_ld1 ha hS | exact fun _ => run_l hS (by rfl) | exact fun _ => run_st hS (by first | rfl | omega) | exact fun _ => run_ld1 ha hS | exact fun h => Bool.noConfusion h), trivial⟩, ?_⟩ | refine pN_v (hk := ?_) | refine pA_v (hk := ?_) | fail)
    have hS := tabs_back (hS.fd2 (PSet (q t)) (tabsBut q T)) ht
    refine hK _ (cstX.shut (T := T) (snoc_ok hm ho) (hS.fd (cel a)) ?_).to
    simp only [Z.costO_snoc, Z.Op.bits, Z.costs, List.map_cons, List.map_nil, List.sum_cons, List.sum_nil, Z.costB, hne, if_false, Int.add_zero]
  tree {E w M K l} t at_ n m v hmn ho hl hS hK := by
    subst hmn
    refine inv_cst_tree (lzenc_costing_tree.calls ?_)
    unfold lzenc_costing_tree.F
    obtain ⟨hm, hS⟩ := cstX.opn hS
    have h1 := Z.costO_bd T l
    have h2 := (Z.wts_len hm).2
    have ho' := ho
    obtain ⟨ht, hth, hh⟩ := ho'
    have hn := hth.2.1
    have hlen := hT.len t ht
    rw [← hlen] at hth
    have hbd : (T t).length ≤ 1048576 := by rw [hlen]; exact Nat.le_trans (Z.tabLen_bd hp t) (by decide)
    clear hlen
    have hc := R.costs_small (T t) at_ (R.bitAt false n v) n
    have hS := tabs_out (hS.perm (List.Perm.swap _ _ _)) t ht
    skip
    refine pc_tree_Cost (TCost_in (hS.fd (PSet (q t))) at_ n v hbd hth hh fun w hS => ?_)
    repeat' (first | refine pN_l hS (by first | rfl | assumption) ?_ | (refine pN_s hS (by first | exact Nat.le_of_ble_eq_true rfl | assumption) (by rfl) ?_; clear hS; intro w hS; try simp only [List.set_cons_zero, List.set_cons_succ] at hS) | refine pN_v (hk := ?_) | fail)
    have hS := tabs_back (hS.fd2 (PSet (q t)) (tabsBut q T)) ht
    refine hK _ (cstX.shut (T := T) (snoc_ok hm ho) (hS.fd (cel a)) ?_).to
    rw [Z.costO_snoc, show (Z.Op.tree t at_ n v).bits = Z.treeBits t at_ (R.bitAt false n v) n from rfl, Z.costs_tree ht]
  back {E w M K l} t at_ n m v hmn ho hl hS hK := by
    subst hmn
    refine inv_cst_back (lzenc_costing_back.calls ?_)
    unfold lzenc_costing_back.F
    obtain ⟨hm, hS⟩ := cstX.opn hS
    have h1 := Z.costO_bd T l
    have h2 := (Z.wts_len hm).2
    have ho' := ho
    obtain ⟨ht, hth, hh⟩ := ho'
    have hn := hth.2.1
    have hlen := hT.len t ht
    rw [← hlen] at hth
    have hbd : (T t).length ≤ 1048576 := by rw [hlen]; exact Nat.le_trans (Z.tabLen_bd hp t) (by decide)
    clear hlen
    have hc := R.costs_small (T t) at_ (R.bitAt true n v) n
    have hS := tabs_out (hS.perm (List.Perm.swap _ _ _)) t ht
    skip
    refine pc_tree_CostBack (TCostBack_in (hS.fd (PSet (q t))) at_ n v hbd hth hh fun w hS => ?_)
    repeat' (first | refine pN_l hS (by first | rfl | assumption) ?_ | (refine pN_s hS (by first | exact Nat.le_of_ble_eq_true rfl | assumption) (by rfl) ?_; clear hS; intro w hS; try simp only [List.set_cons_zero, List.set_cons_succ] at hS) | refine pN_v (hk := ?_) | fail)
    have hS := tabs_back (hS.fd2 (PSet (q t)) (tabsBut q T)) ht
    refine hK _ (cstX.shut (T := T) (snoc_ok hm ho) (hS.fd (cel a)) ?_).to
    rw [Z.costO_snoc, show (Z.Op.back t at_ n v).bits = Z.treeBits t at_ (R.bitAt true n v) n from rfl, Z.costs_tree ht]
  direct {E w M K l} v n m hmn ho hl hS hK := by
    subst hmn
    refine inv_cst_direct (lzenc_costing_direct.calls ?_)
    unfold lzenc_costing_direct.F
    obtain ⟨hm, hS⟩ := cstX.opn hS
    have h1 := Z.costO_bd T l
    have h2 := (Z.wts_len hm).2
    have ho' := ho
    obtain ⟨v0, v1, hn⟩ := ho'
    repeat' (first | refine pN_l hS (by first | rfl | assumption) ?_ | (refine pN_s hS (by first | exact Nat.le_of_ble_eq_true rfl | assumption) (by rfl) ?_; clear hS; intro w hS; try simp only [List.set_cons_zero, List.set_cons_succ] at hS) | refine pN_v (hk := ?_) | fail)
    refine hK _ (cstX.shut (T := T) (snoc_ok hm ho) hS ?_)
    rw [Z.costO_snoc, Z.costs_direct]
end

end Go.Proofs.YtbgnnjfpiblkmaaGreatDoor

namespace Go.Proofs.YtbgnnjfpiblkmaaGreatDoor
open Go
namespace Z
structure EZ where
  p : Pr
  st : St
  T : Nat → List Int
  x : W
  s : R.S
structure EZ.Ok (e : EZ) : Prop where
  p : e.p.Ok
  st : e.st.Right
  T : TabOk e.p e.T
  s : R.Ok e.s
def EZ.may (e : EZ) (y : Y) : Int := Z.may e.x e.st y
def EZ.ops (e : EZ) (y : Y) : List Op := symOps e.p e.st e.x y
def EZ.es (e : EZ) (y : Y) : ES := runO ⟨e.s, e.T⟩ (e.ops y)
def EZ.put1 (e : EZ) (y : Y) : EZ := ⟨e.p, e.st.next y, (e.es y).T, e.x.put (made e.x e.st y), (e.es y).s⟩
def EZ.put (e : EZ) (y : Y) : EZ := if e.may y = 0 then e.put1 y else e
def EZ.cost (e : EZ) (y : Y) : Int := if e.may y = 0 then costO e.T (e.ops y) else 0
def EZ.new (p : Pr) (dict : Int) : EZ := ⟨p, St.new, T0 p, ⟨dict, []⟩, R.S.new⟩
def EZ.cut (e : EZ) : EZ := ⟨e.p, e.st, e.T, e.x, R.S.new⟩
def EZ.clear (e : EZ) : EZ := ⟨e.p, St.new, T0 e.p, ⟨e.x.size, []⟩, e.s⟩
def EZ.reset (e : EZ) (p : Pr) : EZ := if p.Ok then ⟨p, St.new, T0 p, e.x, e.s⟩ else e
def EZ.raw (e : EZ) (b : List UInt8) : EZ := ⟨e.p, e.st, e.T, e.x.put b, e.s⟩
theorem EZ.Ok.new {p : Pr} (h : p.Ok) (d : Int) : (EZ.new p d).Ok := ⟨h, St.Right.new, TabOk.new p, R.Ok.new⟩
theorem EZ.Ok.put1 {e : EZ} (h : e.Ok) {y : Y} (hm : e.may y = 0) : (e.put1 y).Ok ∧ (e.put1 y).s.k ≤ e.s.k + 26 := by
  have hy := may_err hm
  have ho := symOps_ok h.p h.st e.x hy
  have h1 := ops_ok (z := ⟨e.s, e.T⟩) ⟨h.s, h.T⟩ ho.ok
  have hw := ho.wt
  exact ⟨⟨h.p, h.st.next hy, h1.1.T, h1.1.s⟩, Nat.le_trans h1.2 (Nat.add_le_add_left hw _)⟩
theorem EZ.Ok.put {e : EZ} (h : e.Ok) (y : Y) : (e.put y).Ok ∧ (e.put y).s.k ≤ e.s.k + 26 := by
  unfold EZ.put
  split
  · exact h.put1 (by assumption)
  · exact ⟨h, by omega⟩
theorem EZ.put_len {e : EZ} (y : Y) : (e.put y).x.all.length ≤ e.x.all.length + 273 := by
  unfold EZ.put
  split
  · rename_i hm
    have hy := may_err hm
    have := made_len (x := e.x) (s := e.st) hy
    have := size_bd hy
    simp only [EZ.put1, List.length_append]
    omega
  · omega
theorem EZ.Ok.cut {e : EZ} (h : e.Ok) : e.cut.Ok := ⟨h.p, h.st, h.T, R.Ok.new⟩
theorem EZ.Ok.clear {e : EZ} (h : e.Ok) : e.clear.Ok := ⟨h.p, St.Right.new, TabOk.new _, h.s⟩
theorem EZ.Ok.reset {e : EZ} (h : e.Ok) (p : Pr) : (e.reset p).Ok := by
  unfold EZ.reset
  split
  · exact ⟨by assumption, St.Right.new, TabOk.new _, h.s⟩
  · exact h
theorem EZ.Ok.raw {e : EZ} (h : e.Ok) (b : List UInt8) : (e.raw b).Ok := ⟨h.p, h.st, h.T, h.s⟩
theorem tab_small {p : Pr} (hp : p.Ok) {T : Nat → List Int} (h : TabOk p T) : ∀ i, i < 18 → (T i).length ≤ 1048576 := fun i hi => by rw [h.len i hi]; exact Nat.le_trans (tabLen_bd hp i) (by decide)
end Z
attribute [local irreducible] oMv oV oU oCall oCallV oBi oBin oUn oLoad oStore oNil oFld oField oIdx oIndex oPick oAlloc oBox oBuild oBs oConv oMk oSl oExt oFn oIface oMap oLook oMapUp oRange oNext oEntry oInv oAssert oPanic oRes pN pA pL pDr pIf gA pGd

section
variable {E w W : World} {M N : List HA} {Q : Value → World → Prop} {p : Z.Pr} {s : Z.St} {x : Z.W} {b t wd en : Nat} {q : Nat → Nat} {y : Z.Y}

theorem Last_e (hS : Sat E w (Win b x :: M)) (d : Int) (hQ : ∀ c w, Sat E w (Win b x :: M) → Q (.tuple #[bv c, .int .i64 (if x.has d then 0 else 7)]) w) :
    Calls Tryz.prog 101 #[.pointer (some ⟨b, 0, none⟩), .int .i64 d] w (retP Q) := by
  by_cases h : x.has d
  · rw [if_pos h] at hQ; exact Last_in hS d h fun w hS => hQ _ w hS
  · rw [if_neg h] at hQ; exact Last_no hS d h fun w hS => hQ _ w hS

set_option maxHeartbeats 4000000 in
theorem may_ok (hG : Glo W) (hs : s.Right) (hS : Sat E w (cel b ⟨128, encCells t wd en⟩ :: cel t ⟨141, tbCells p s q⟩ :: Win wd x :: M)) [h : Has (old W) M N]
    (hQ : ∀ w, Sat E w (cel b ⟨128, encCells t wd en⟩ :: cel t ⟨141, tbCells p s q⟩ :: Win wd x :: M) → Q (.int .i64 (Z.may x s y)) w) :
    Calls Tryz.prog 67 #[pz b, .agg #[.int .i64 y.Kind, bv y.Byte, .int .i64 y.Len, .int .i64 y.Dist]] w (retP Q) := by
  refine lzenc_Encoder_may.calls ?_
  unfold lzenc_Encoder_may.F
  by_cases hy : Z.errY y = 0
  · repeat' (first | refine pL_la_at (n := 5) hS s.cells rfl rfl ?_ | refine pL_l hS (by first | rfl | assumption) ?_ | refine pL_la hS (by rfl) ?_ | (refine pDr_go hS ?_; clear hS; intro w hS) | (refine pN_bx hS (by rfl) ?_; clear hS; intro a w hS) | refine pA_v (hk := ?_) | fail)
    refine ⟨?_, ?_⟩
    · repeat' (first | (refine pc_state_State_Next (Next_in hG hS hs hy ?_); clear hS; intro w hS) | (refine pN_neq_s ?_ ?_ <;> intro hc <;> try (exfalso; first | omega | exact hc rfl | exact hc (by assumption) | exact absurd hc (by assumption))) | refine pIf_f ?_ | (refine pN_sa hS (by rfl) (by rfl) (by rfl) ?_; clear hS; intro w hS; try dsimp only at hS) | (refine pN_nz hS ?_; clear hS; intro a w hS) | refine ⟨trivial, ?_⟩ | refine pA_v (hk := ?_) | fail)
      refine ⟨fun v w => v = .int .i64 (Z.dist s y) ∧ y.Kind ≠ 1 ∧ Sat E w (cel b ⟨128, encCells t wd en⟩ :: cel t ⟨141, tbCells p s q⟩ :: Win wd x :: M), ?_, ?_⟩
      · rcases Z.kinds hy with hk | hk | hk | hk
        · repeat' (first | (refine pN_eql_s ?_ ?_ <;> intro hc <;> try (exfalso; first | omega | exact hc rfl | exact hc (by assumption) | exact absurd hc (by assumption))) | refine pIf_t ?_ | refine pN_l hS (by first | rfl | assumption) ?_ | refine pN_v (hk := ?_) | fail)
          rw [Z.may, if_neg (by omega), if_pos hk] at hQ
          exact hQ _ hS.to
        · repeat' (first | (refine pN_eql_s ?_ ?_ <;> intro hc <;> try (exfalso; first | omega | exact hc rfl | exact hc (by assumption) | exact absurd hc (by assumption))) | refine pIf_t ?_ | refine pIf_f ?_ | refine pN_l hS (by first | rfl | assumption) ?_ | refine pN_v (hk := ?_) | fail)
          exact ⟨by rw [Z.dist, if_neg (by omega), if_neg (by omega)], by omega, hS.to⟩
        · repeat' (first | (refine pN_eql_s ?_ ?_ <;> intro hc <;> try (exfalso; first | omega | exact hc rfl | exact hc (by assumption) | exact absurd hc (by assumption))) | refine pIf_t ?_ | refine pIf_f ?_ | refine pN_l hS (by first | rfl | assumption) ?_ | refine pN_v (hk := ?_) | fail)
          exact ⟨by rw [Z.dist, if_pos (by omega)], by omega, hS.to⟩
        · have hd := Z.err_rep hy hk
          have h4 : y.Dist = 0 ∨ y.Dist = 1 ∨ y.Dist = 2 ∨ y.Dist = 3 := by omega
          rw [Z.dist, if_neg (by omega), if_pos hk]
          rcases h4 with h4 | h4 | h4 | h4
          all_goals
            rw [h4] at hS
            try rw [h4]
            simp only [Z.rep0, Z.rep1, Z.rep2, Z.rep3]
            repeat' (first | (refine pN_eql_s ?_ ?_ <;> intro hc <;> try (exfalso; first | omega | exact hc rfl | exact hc (by assumption) | exact absurd hc (by assumption))) | refine pIf_t ?_ | refine pIf_f ?_ | refine pN_l hS (by first | rfl | assumption) ?_ | refine pL_l hS (by first | rfl | assumption) ?_ | (refine pDr_go hS ?_; clear hS; intro w hS) | refine pN_v (hk := ?_) | refine pA_v (hk := ?_) | fail)
            exact ⟨rfl, by omega, hS.to⟩
      · clear hS
        rintro _ _ w ⟨rfl, hk, hS⟩
        rw [Z.may, if_neg (by omega), if_neg hk] at hQ
        repeat' (first | (refine pc_window_Window_Last (Last_e (hS.fd (Win wd)) _ ?_); clear hS; intro c w hS) | refine pN_l hS (by first | rfl | assumption) ?_ | refine pN_v (hk := ?_) | fail)
        exact hQ _ hS.to
    · repeat' (first | refine ⟨⟨run_la_at hS _ (by rfl) (by rfl), run_la_at (n := 5) hS s.cells rfl rfl, run_l hS (by rfl), trivial⟩, ?_⟩ | (refine pc_state_State_Next (Next_in hG hS hs hy ?_); clear hS; intro w hS) | (refine pN_neq_s ?_ ?_ <;> intro hc <;> try (exfalso; first | omega | exact hc rfl | exact hc (by assumption) | exact absurd hc (by assumption))) | refine pIf_f ?_ | (refine pN_sa hS (by rfl) (by rfl) (by rfl) ?_; clear hS; intro w hS; try dsimp only at hS) | (refine pN_nz hS ?_; clear hS; intro a w hS) | refine ⟨trivial, ?_⟩ | refine pA_v (hk := ?_) | fail)
      refine ⟨fun v w => v = .int .i64 (Z.dist s y) ∧ y.Kind ≠ 1 ∧ Sat E w (cel b ⟨128, encCells t wd en⟩ :: cel t ⟨141, tbCells p s q⟩ :: Win wd x :: M), ?_, ?_⟩
      · rcases Z.kinds hy with hk | hk | hk | hk
        · repeat' (first | (refine pN_eql_s ?_ ?_ <;> intro hc <;> try (exfalso; first | omega | exact hc rfl | exact hc (by assumption) | exact absurd hc (by assumption))) | refine pIf_t ?_ | refine pN_l hS (by first | rfl | assumption) ?_ | refine pN_v (hk := ?_) | fail)
          rw [Z.may, if_neg (by omega), if_pos hk] at hQ
          exact hQ _ hS.to
        · repeat' (first | (refine pN_eql_s ?_ ?_ <;> intro hc <;> try (exfalso; first | omega | exact hc rfl | exact hc (by assumption) | exact absurd hc (by assumption))) | refine pIf_t ?_ | refine pIf_f ?_ | refine pN_l hS (by first | rfl | assumption) ?_ | refine pN_v (hk := ?_) | fail)
          exact ⟨by rw [Z.dist, if_neg (by omega), if_neg (by omega)], by omega, hS.to⟩
        · repeat' (first | (refine pN_eql_s ?_ ?_ <;> intro hc <;> try (exfalso; first | omega | exact hc rfl | exact hc (by assumption) | exact absurd hc (by assumption))) | refine pIf_t ?_ | refine pIf_f ?_ | refine pN_l hS (by first | rfl | assumption) ?_ | refine pN_v (hk := ?_) | fail)
          exact ⟨by rw [Z.dist, if_pos (by omega)], by omega, hS.to⟩
        · have hd := Z.err_rep hy hk
          have h4 : y.Dist = 0 ∨ y.Dist = 1 ∨ y.Dist = 2 ∨ y.Dist = 3 := by omega
          rw [Z.dist, if_neg (by omega), if_pos hk]
          rcases h4 with h4 | h4 | h4 | h4
          all_goals
            rw [h4] at hS
            try rw [h4]
            simp only [Z.rep0, Z.rep1, Z.rep2, Z.rep3]
            repeat' (first | (refine pN_eql_s ?_ ?_ <;> intro hc <;> try (exfalso; first | omega | exact hc rfl | exact hc (by assumption) | exact absurd hc (by assumption))) | refine pIf_t ?_ | refine pIf_f ?_ | refine pN_l hS (by first | rfl | assumption) ?_ | refine pL_l hS (by first | rfl | assumption) ?_ | (refine pDr_go hS ?_; clear hS; intro w hS) | refine pN_v (hk := ?_) | refine pA_v (hk := ?_) | fail)
            exact ⟨rfl, by omega, hS.to⟩
      · clear hS
        rintro _ _ w ⟨rfl, hk, hS⟩
        rw [Z.may, if_neg (by omega), if_neg hk] at hQ
        repeat' (first | (refine pc_window_Window_Last (Last_e (hS.fd (Win wd)) _ ?_); clear hS; intro c w hS) | refine pN_l hS (by first | rfl | assumption) ?_ | refine pN_v (hk := ?_) | fail)
        exact hQ _ hS.to
  · have e7 : Z.may x s y = Z.errY y := by rw [Z.may, if_pos (by omega)]
    rw [e7] at hQ
    repeat' (first | refine pL_la_at (n := 5) hS s.cells rfl rfl ?_ | refine pL_l hS (by first | rfl | assumption) ?_ | refine pL_la hS (by rfl) ?_ | (refine pDr_go hS ?_; clear hS; intro w hS) | (refine pN_bx hS (by rfl) ?_; clear hS; intro a w hS) | refine pA_v (hk := ?_) | fail)
    refine ⟨?_, ?_⟩
    · repeat' (first | (refine pc_state_State_Next (Next_no hS hs hy ?_); clear hS; intro w hS) | (refine pN_neq_s ?_ ?_ <;> intro hc <;> try (exfalso; first | omega | exact hc rfl | exact hc (by assumption) | exact absurd hc (by assumption))) | refine pIf_t ?_ | (refine pN_sa hS (by rfl) (by rfl) (by rfl) ?_; clear hS; intro w hS; try dsimp only at hS) | (refine pN_nz hS ?_; clear hS; intro a w hS) | refine ⟨trivial, ?_⟩ | refine pA_v (hk := ?_) | fail)
      exact hQ _ hS.to
    · repeat' (first | refine ⟨⟨run_la_at hS _ (by rfl) (by rfl), run_la_at (n := 5) hS s.cells rfl rfl, run_l hS (by rfl), trivial⟩, ?_⟩ | (refine pc_state_State_Next (Next_no hS hs hy ?_); clear hS; intro w hS) | (refine pN_neq_s ?_ ?_ <;> intro hc <;> try (exfalso; first | omega | exact hc rfl | exact hc (by assumption) | exact absurd hc (by assumption))) | refine pIf_t ?_ | (refine pN_sa hS (by rfl) (by rfl) (by rfl) ?_; clear hS; intro w hS; try dsimp only at hS) | (refine pN_nz hS ?_; clear hS; intro a w hS) | refine ⟨trivial, ?_⟩ | refine pA_v (hk := ?_) | fail)
      exact hQ _ hS.to
end

end Go.Proofs.YtbgnnjfpiblkmaaGreatDoor

namespace Go.Proofs.YtbgnnjfpiblkmaaGreatDoor
open Go
namespace Z
theorem pre14_some : ∀ u : Fin 533, nameU pre14 u.val ≠ [] := by decide +kernel
theorem direct_one (s : R.S) {b : Int} (hb : 0 ≤ b ∧ b ≤ 1) : s.direct b 1 = s.one b := by
  have e : b / 2 ^ 0 % 2 = b := by rw [Int.pow_zero]; omega
  rw [R.S.direct, e, R.S.direct]
theorem symN_len {p : Pr} {s : St} {x : W} {y : Y} (hy : errY y = 0) : (symN p s x y).length ≤ 60 := by
  unfold symN
  rcases kinds hy with hk | hk | hk | hk
  · rw [if_pos hk]
    have := litN_len p s x y.Byte
    simp only [List.length_append, List.length_cons, List.length_nil]; omega
  · rw [if_neg (by omega), if_neg (by omega), if_pos hk]
    have := repN_len s.num 0
    simp only [List.length_append, List.length_cons, List.length_nil]; omega
  · rw [if_neg (by omega), if_pos hk]
    have := lenN_len [77, 97, 116, 99, 104] (place p x.all.length) y.Len
    have := distN_len (n := y.Len) (err_dist hy hk)
    simp only [List.length_append, List.length_cons, List.length_nil]; omega
  · rw [if_neg (by omega), if_neg (by omega), if_neg (by omega)]
    have := lenN_len [82, 101, 112] (place p x.all.length) y.Len
    have := repN_len s.num y.Dist
    split
    · simp only [List.length_append, List.length_cons, List.length_nil]; omega
    · simp only [List.length_append, List.length_cons, List.length_nil]; omega
theorem costs_lim (T : Nat → List Int) : ∀ l : List PB, 0 ≤ costs T l ∧ costs T l ≤ 161 * l.length
  | [] => by simp [costs]
  | x :: l => by
    have h1 := costB_bd T x
    have h2 := costs_lim T l
    simp only [costs, List.map_cons, List.sum_cons, List.length_cons] at h2 ⊢
    omega
theorem costO_bits (T : Nat → List Int) : ∀ l : List Op, costO T l = costs T (allBits l)
  | [] => rfl
  | o :: l => by
    have ih := costO_bits T l
    rw [allBits, List.map_cons, List.flatten_cons, costs_append, ← allBits, ← ih]
    simp [costO]
end Z
def RT (be bm : Nat) (p : Z.Pr) (z : Z.ES) : HA := fun h => ∃ N : Key → List Int, (z.Ok p ∧ Z.Rel Z.pre14 768 p N z.T) ∧ Sats [REnc be z.s, RSets bm N] h
section
variable {E w : World} {M : List HA} {be bm : Nat} {p : Z.Pr} {z : Z.ES} {N : Key → List Int}
theorem RT.opn (hS : Sat E w (RT be bm p z :: M)) : ∃ N, z.Ok p ∧ Z.Rel Z.pre14 768 p N z.T ∧ Sat E w (REnc be z.s :: RSets bm N :: M) := by
  obtain ⟨N, hS⟩ := hS.ex
  obtain ⟨h1, ⟨hA, _⟩, _⟩ := hS.head
  exact ⟨N, hA.1, hA.2, hS.open_ (M := [_, _]) fun _ h => h.2⟩
theorem RT.shut (hS : Sat E w (REnc be z.s :: RSets bm N :: M)) (h1 : z.Ok p) (h2 : Z.Rel Z.pre14 768 p N z.T) : Sat E w (RT be bm p z :: M) :=
  Sat.shut (M := [_, _]) hS fun _ h => ⟨N, ⟨h1, h2⟩, h⟩
end
theorem cel_cnv {E w : World} {M : List HA} {t : Nat} {o o' : Ob} (h : o = o') (hS : Sat E w (cel t o :: M)) : Sat E w (cel t o' :: M) := h ▸ hS
attribute [local irreducible] oMv oV oU oCall oCallV oBi oBin oUn oLoad oStore oNil oFld oField oIdx oIndex oPick oAlloc oBox oBuild oBs oConv oMk oSl oExt oFn oIface oMap oLook oMapUp oRange oNext oEntry oInv oAssert oPanic oRes pN pA pL pDr pIf gA pGd Calls

section
variable {E w : World} {M : List HA} {Q : Value → World → Prop} {bm be bw c b : Nat} {N : Key → List Int} {n : Key} {l : List Int} {p : Z.Pr} {s : Z.St} {x : Z.W} {y : Z.Y} {z : Z.ES} {u : Z.PB}
theorem R14Set_at {cs : List Value} {nme : List UInt8} (hn : n.1 = nme) (hS : Sat E w (cel c ⟨73, cs⟩ :: RSets bm N :: M)) (hv : cs[9]? = some (.map (some bm))) (hQ : ∀ b w, Sat E w (RSet b (N n) :: RHole bm N n b :: cel c ⟨73, cs⟩ :: M) → Q (pz b) w) :
    Calls Tryz.prog 72 #[pz c, .string ⟨nme.toArray⟩] w (retP Q) := by
  subst hn; exact R14Set_ok hS hv hQ
theorem RT.turn (hp : p.Ok) (ho : z.Ok p) (hr : Z.Rel Z.pre14 768 p N z.T) (hu : u.Ok p) (ht : u.t ≠ 18) (hn : n = Z.keyU Z.pre14 (Z.un u.t u.i.toNat))
    (hS : Sat E w (REnc be (z.s.cut (B.bound z.s.R (Z.pr z.T u)) u.b) :: RSet b ((N n).set (Z.pl u.t u.i.toNat) (B.next (Z.pr z.T u) u.b)) :: RHole bm N n b :: M)) : Sat E w (RT be bm p (Z.stepB z u) :: M) := by
  subst hn
  have hx := hu.t.resolve_left ht
  have hS := NHole.shut (hS.perm ((List.Perm.swap _ _ _).trans ((List.Perm.swap _ _ _).cons _)))
  have h1 := (Z.step_ok ho hu).1
  have e1 : (Z.stepB z u).s = z.s.cut (B.bound z.s.R (Z.pr z.T u)) u.b := by rw [Z.stepB, if_neg ht]
  have e2 : (Z.stepB z u).T = Z.upd z.T u.t ((z.T u.t).set u.i.toNat (B.next (Z.pr z.T u) u.b)) := by simp only [Z.stepB, Z.turn, if_neg ht]
  rw [← e1] at hS
  refine RT.shut (hS.perm (List.Perm.swap _ _ _)) h1 ?_
  rw [e2]
  have hTg : (z.T u.t)[u.i.toNat]? = some (Z.pr z.T u) := by
    have hl := ho.T.len u.t hx.1
    rw [Z.pr, List.getD_eq_getElem?_getD, List.getElem?_eq_getElem (show u.i.toNat < (z.T u.t).length by omega)]; rfl
  have hpb := (ho.T.fine u.t).get hTg
  exact hr.upd Z.pre14_ok (Nat.le_refl _) hp ho.T.len hx.1 (by omega) _ ⟨B.next_lo _ hpb.1 hpb.2, B.next_hi _ hpb.1 hpb.2⟩
end

section
variable {E w : World} {M : List HA} {Q : Value → World → Prop} {bm be bw c b : Nat} {p : Z.Pr} {s : Z.St} {x : Z.W} {y : Z.Y} {z : Z.ES}
set_option maxRecDepth 8000 in
set_option maxHeartbeats 1000000 in
theorem R14Put_go (hS : Sat E w (Cod c p bw s bm be :: RWin bw x :: RT be bm p z :: M)) (hp : p.Ok) (hs : s.Right) (h0 : 1 ≤ x.size) (hl : x.all.length + 273 ≤ 140737488355328) (hk : z.s.k + 1000 ≤ 140737488355328) (hm : Z.may x s y = 0)
    (hQ : ∀ w, Sat E w (Cod c p bw (s.next y) bm be :: RWin bw (x.put (Z.made x s y)) :: RT be bm p (Z.runO z (Z.symOps p s x y)) :: M) → Q (.int .i64 0) w) :
    Calls Tryz.prog 18 #[pz c, .agg #[.int .i64 y.Kind, bv y.Byte, .int .i64 y.Len, .int .i64 y.Dist]] w (retP Q) := by
  refine pithref14_Coder_Put.calls ?_
  unfold pithref14_Coder_Put.F
  have ho0 : z.Ok p := by
    obtain ⟨_, ho, _⟩ := RT.opn (hS.fd (RT be bm p))
    exact ho
  have hy := Z.may_err hm
  have hsl := Z.symN_len (p := p) (s := s) (x := x) hy
  have hsN := Z.symN_eq hp hs (x := x) hy
  have hbo : ∀ u ∈ Z.allBits (Z.symOps p s x y), u.Ok p := fun u hu => by
    obtain ⟨l, hl, hu⟩ := List.mem_flatten.1 hu
    obtain ⟨o, ho, rfl⟩ := List.mem_map.1 hl
    exact ((Z.symOps_ok hp hs x hy).ok o ho).bits u hu
  rw [Z.runO_bits] at hQ
  generalize Z.allBits (Z.symOps p s x y) = bits at *
  repeat' (first | (refine pN_bx hS (by rfl) ?_; clear hS; intro aY w hS) | (refine pc_pithref14_Coder_Bits (R14Bits_in (hS.fd2 (cel c) (RWin bw)) hp hs h0 hl hm ?_); clear hS; intro sl w hS) | (refine pN_neq_s ?_ ?_ <;> intro hc <;> try (exfalso; first | omega | exact hc rfl | exact hc (by assumption) | exact absurd hc (by assumption))) | refine pIf_f ?_ | refine pN_la hS (by rfl) ?_ | refine pN_v (hk := ?_) | fail)
  generalize Z.symN p s x y = L at *
  subst hsN
  rw [List.length_map] at hsl
  refine ⟨fun i w => ∃ k : Nat, i = .int .i64 k ∧ k ≤ bits.length ∧ Sat E w (rows cd_pithref14_Bit sl (bits.map (Z.nbOf Z.pre14)) :: Cod c p bw s bm be :: RWin bw x :: cel aY ⟨48, [.int .i64 y.Kind, bv y.Byte, .int .i64 y.Len, .int .i64 y.Dist]⟩ :: RT be bm p (Z.run z (bits.take k)) :: M), fun i _ => (bits.length - RowKit.intOf i).toNat, ⟨0, rfl, by omega, by rw [show Z.run z (bits.take 0) = z from by rw [List.take_zero]; rfl]; exact hS.to⟩, ?_⟩
  clear hS
  rintro _ _ w ⟨k, rfl, hk2, hS⟩
  by_cases hlt : k < bits.length
  · obtain ⟨u, hu⟩ : ∃ u, bits[k]? = some u := ⟨_, List.getElem?_eq_getElem hlt⟩
    have hub := hbo u (List.mem_of_getElem? hu)
    have hget : (bits.map (Z.nbOf Z.pre14))[k]? = some (Z.nbOf Z.pre14 u) := by rw [List.getElem?_map, hu]; rfl
    have eN : Z.run z (bits.take (k + 1)) = Z.stepB (Z.run z (bits.take k)) u := by
      rw [List.take_add_one, hu, Option.toList_some, Z.run_append]; rfl
    have hzk : (Z.run z (bits.take k)).s.k ≤ z.s.k + 60 := by
      have := (Z.run_ok (l := bits.take k) (z := z) (p := p) ho0 (fun v hv => hbo v (List.mem_of_mem_take hv))).2
      rw [List.length_take] at this
      omega
    generalize Z.run z (bits.take k) = zk at *
    obtain ⟨N, ho, hr, hS⟩ := RT.opn (hS.fd (RT be bm p))
    have hub1 := hub.b
    have hlm : (bits.map (Z.nbOf Z.pre14)).length = bits.length := List.length_map ..
    generalize bits.map (Z.nbOf Z.pre14) = L at *
    by_cases h18 : u.t = 18
    · have eu : Z.nbOf Z.pre14 u = ⟨[], 0, u.b⟩ := if_pos h18
      rw [eu] at hget
      repeat' (first | (refine pN_lss_s ?_ ?_ <;> intro hc <;> try (exfalso; omega)) | refine pIf_t ?_ | refine pN_v (hk := ?_) | fail)
      refine ⟨fun w => Sat E w (rows cd_pithref14_Bit sl L :: Cod c p bw s bm be :: RWin bw x :: cel aY ⟨48, [.int .i64 y.Kind, bv y.Byte, .int .i64 y.Len, .int .i64 y.Dist]⟩ :: RT be bm p (Z.stepB zk u) :: M), ?_, ?_⟩
      · repeat' (first | (refine pc_pithref07_Encoder_Direct (RDirect_ok (hS.fd (REnc be)) ho.s (by omega) u.b 1 (by omega) (by omega) ?_); clear hS; intro w hS) | refine And.intro ?_ ?_ | exact trivial | (refine pN_eql_ss ?_ ?_ <;> intro hc <;> try (exfalso; first | omega | exact hc rfl | exact hc (by assumption) | exact absurd hc (by assumption))) | refine pIf_t ?_ | refine pL_l hS (by first | rfl | assumption) ?_ | refine pN_ld1 ha hS ?_ | refine pL_ld1 ha hS ?_ | refine pN_fa ha (by rfl) fun a ha => ?_ | refine pA_fa ha (by rfl) fun a ha => ?_ | (refine pDr_go hS ?_; clear hS; intro w hS) | refine pN_ixk hS _ (by first | rfl | (exact (Int.toNat_of_nonneg (by omega)).symm)) (by first | rfl | omega | simpa only [go_sem] using True.intro | (simp only [go_sem]; omega)) (by assumption) fun a ha hel => ?_ | refine pA_ixk hS _ (by first | rfl | (exact (Int.toNat_of_nonneg (by omega)).symm)) (by first | rfl | omega | simpa only [go_sem] using True.intro | (simp only [go_sem]; omega)) (by assumption) fun a ha hel => ?_ | refine pA_v (hk := ?_) | refine pL_v (hk := ?_) | fail)
        rw [if_pos (by decide), show (1 : Int).toNat = 1 from rfl, Z.direct_one _ hub1] at hS
        have e1 : (Z.stepB zk u).s = zk.s.one u.b := by simp only [Z.stepB, if_pos h18]
        have e2 : (Z.stepB zk u).T = zk.T := by simp only [Z.stepB, Z.turn, if_pos h18]
        rw [← e1] at hS
        have hS := RT.shut (z := Z.stepB zk u) (hS.fd2 (REnc be) (NSets RSet Z.fresh bm)) (Z.step_ok ho hub).1 (by rw [e2]; exact hr)
        exact hS.to
      · clear hS
        rintro _ w hS
        repeat' (first | refine pN_v (hk := ?_) | fail)
        rw [← eN] at hS
        exact ⟨⟨k + 1, rfl, hlt, hS⟩, by simp only [RowKit.intOf]; omega⟩
    · have hx := hub.t.resolve_left h18
      have hun := Z.un_bd hp hx.1 (i := u.i.toNat) (by omega)
      have hkey : (Z.keyU Z.pre14 (Z.un u.t u.i.toNat)).1 = Z.nameU Z.pre14 (Z.un u.t u.i.toNat) := Z.pre14_ok.key hun.1
      have hne : ¬ Z.nameU Z.pre14 (Z.un u.t u.i.toNat) = [] := Z.pre14_some ⟨_, hun.1⟩
      have eu : Z.nbOf Z.pre14 u = ⟨Z.nameU Z.pre14 (Z.un u.t u.i.toNat), Z.pl u.t u.i.toNat, u.b⟩ := if_neg h18
      rw [eu] at hget
      have hNg := hr.get u.t hx.1 u.i.toNat (by omega)
      have hTg : (zk.T u.t)[u.i.toNat]? = some (Z.pr zk.T u) := by
        have hl := ho.T.len u.t hx.1
        rw [Z.pr, List.getD_eq_getElem?_getD, List.getElem?_eq_getElem (show u.i.toNat < (zk.T u.t).length by omega)]; rfl
      rw [hTg] at hNg
      have hfine : B.Fine (N (Z.keyU Z.pre14 (Z.un u.t u.i.toNat))) := hr.fine _
      have hturn := fun b M w => RT.turn (E := E) (w := w) (M := M) (be := be) (bm := bm) (b := b) hp ho hr hub h18 rfl
      generalize Z.nameU Z.pre14 (Z.un u.t u.i.toNat) = nme at *
      generalize hkk : Z.keyU Z.pre14 (Z.un u.t u.i.toNat) = key at *
      generalize hpp : Z.pl u.t u.i.toNat = ppl at *
      repeat' (first | (refine pN_lss_s ?_ ?_ <;> intro hc <;> try (exfalso; omega)) | refine pIf_t ?_ | refine pN_v (hk := ?_) | fail)
      refine ⟨fun w => Sat E w (rows cd_pithref14_Bit sl L :: Cod c p bw s bm be :: RWin bw x :: cel aY ⟨48, [.int .i64 y.Kind, bv y.Byte, .int .i64 y.Len, .int .i64 y.Dist]⟩ :: RT be bm p (Z.stepB zk u) :: M), ?_, ?_⟩
      · repeat' (first | (refine pc_pithref14_Coder_Set (R14Set_at hkey (hS.fd2 (cel c) (NSets RSet Z.fresh bm)) rfl ?_); clear hS; intro b w hS) | (refine pc_pithref07_Encoder_Bit (RBit_in (hS.fd2 (REnc be) (RSet b)) ho.s hfine (by omega) (ppl : Int) u.b (by omega) (by rw [Int.toNat_natCast]; exact hNg) ?_); clear hS; intro w hS) | exact run_ld1 (by assumption) hS | refine And.intro ?_ ?_ | exact trivial | exact run_l hS rfl | (refine pN_eql_ss ?_ ?_ <;> intro hc <;> try (exfalso; first | omega | exact hc rfl | exact hc (by assumption) | exact absurd hc (by assumption))) | refine pIf_f ?_ | refine pL_l hS (by first | rfl | assumption) ?_ | refine pN_ld1 ha hS ?_ | refine pL_ld1 ha hS ?_ | refine pN_fa ha (by rfl) fun a ha => ?_ | refine pA_fa ha (by rfl) fun a ha => ?_ | (refine pDr_go hS ?_; clear hS; intro w hS) | refine pN_ixk hS _ (by first | rfl | (exact (Int.toNat_of_nonneg (by omega)).symm)) (by first | rfl | omega | simpa only [go_sem] using True.intro | (simp only [go_sem]; omega)) (by assumption) fun a ha hel => ?_ | refine pA_ixk hS _ (by first | rfl | (exact (Int.toNat_of_nonneg (by omega)).symm)) (by first | rfl | omega | simpa only [go_sem] using True.intro | (simp only [go_sem]; omega)) (by assumption) fun a ha hel => ?_ | refine pA_v (hk := ?_) | fail)
        have hS := hturn _ _ _ (hS.fd3 (REnc be) (RSet b) (NHole RSet Z.fresh bm N key))
        exact hS.to
      · clear hS
        rintro _ w hS
        repeat' (first | refine pN_v (hk := ?_) | fail)
        rw [← eN] at hS
        exact ⟨⟨k + 1, rfl, hlt, hS⟩, by simp only [RowKit.intOf]; omega⟩
  · obtain rfl : k = bits.length := by omega
    rw [List.take_length] at hS
    have hlm : (bits.map (Z.nbOf Z.pre14)).length = bits.length := List.length_map ..
    repeat' (first | refine pL_la_at (n := 5) hS s.cells rfl rfl ?_ | refine pN_la_at (n := 5) hS (s.next y).cells rfl rfl ?_ | (refine pc_pithref13_Apply (R13Apply_in (hS.fd (RWin bw)) (by omega) hs hm (by omega) ?_); clear hS; intro sm w hS) | refine And.intro ?_ ?_ | exact trivial | exact run_la_at (n := 5) hS s.cells rfl rfl | exact run_la_at hS [.int .i64 y.Kind, bv y.Byte, .int .i64 y.Len, .int .i64 y.Dist] rfl rfl | exact run_l hS rfl | (refine pN_sa_at (us := (s.next y).cells) hS rfl (Nat.le_of_ble_eq_true rfl) rfl ?_; clear hS; intro w hS) | (refine pN_lss_s ?_ ?_ <;> intro hc <;> try (exfalso; omega)) | refine pIf_f ?_ | refine pL_l hS (by first | rfl | assumption) ?_ | refine pL_la hS (by rfl) ?_ | (refine pDr_go hS ?_; clear hS; intro w hS) | (refine pN_nz hS ?_; clear hS; intro a w hS) | refine pN_v (hk := ?_) | refine pA_v (hk := ?_) | fail)
    all_goals
      have hS := cel_cnv (t := c) (o' := ⟨73, coderC p bw (s.next y) bm be⟩) rfl (hS.fd (cel c))
      exact hQ _ hS.to

set_option maxRecDepth 8000 in
set_option maxHeartbeats 1000000 in
theorem R14Cost_go (hS : Sat E w (Cod c p bw s bm be :: RWin bw x :: RT be bm p z :: M)) (hp : p.Ok) (hs : s.Right) (h0 : 1 ≤ x.size) (hl : x.all.length + 273 ≤ 140737488355328) (hm : Z.may x s y = 0)
    (hQ : ∀ w, Sat E w (Cod c p bw s bm be :: RWin bw x :: RT be bm p z :: M) → Q (.tuple #[.int .i64 (Z.costO z.T (Z.symOps p s x y)), .int .i64 0]) w) :
    Calls Tryz.prog 20 #[pz c, .agg #[.int .i64 y.Kind, bv y.Byte, .int .i64 y.Len, .int .i64 y.Dist]] w (retP Q) := by
  refine pithref14_Coder_Cost.calls ?_
  unfold pithref14_Coder_Cost.F
  have hy := Z.may_err hm
  have hsl := Z.symN_len (p := p) (s := s) (x := x) hy
  have hsN := Z.symN_eq hp hs (x := x) hy
  have hbo : ∀ u ∈ Z.allBits (Z.symOps p s x y), u.Ok p := fun u hu => by
    obtain ⟨l, hl, hu⟩ := List.mem_flatten.1 hu
    obtain ⟨o, ho, rfl⟩ := List.mem_map.1 hl
    exact ((Z.symOps_ok hp hs x hy).ok o ho).bits u hu
  rw [Z.costO_bits] at hQ
  generalize Z.allBits (Z.symOps p s x y) = bits at *
  repeat' (first | (refine pN_bx hS (by rfl) ?_; clear hS; intro aY w hS) | (refine pc_pithref14_Coder_Bits (R14Bits_in (hS.fd2 (cel c) (RWin bw)) hp hs h0 hl hm ?_); clear hS; intro sl w hS) | (refine pN_neq_s ?_ ?_ <;> intro hc <;> try (exfalso; first | omega | exact hc rfl | exact hc (by assumption) | exact absurd hc (by assumption))) | refine pIf_f ?_ | refine pN_la hS (by rfl) ?_ | refine pN_v (hk := ?_) | fail)
  generalize Z.symN p s x y = L at *
  subst hsN
  rw [List.length_map] at hsl
  refine ⟨fun v i w => ∃ k : Nat, v = .int .i64 (Z.costs z.T (bits.take k)) ∧ i = .int .i64 k ∧ k ≤ bits.length ∧ Sat E w (rows cd_pithref14_Bit sl (bits.map (Z.nbOf Z.pre14)) :: Cod c p bw s bm be :: RWin bw x :: RT be bm p z :: M), fun _ i _ => (bits.length - RowKit.intOf i).toNat, ⟨0, by rw [List.take_zero]; rfl, rfl, by omega, hS.to⟩, ?_⟩
  clear hS
  rintro _ _ _ w ⟨k, rfl, rfl, hk2, hS⟩
  by_cases hlt : k < bits.length
  · obtain ⟨u, hu⟩ : ∃ u, bits[k]? = some u := ⟨_, List.getElem?_eq_getElem hlt⟩
    have hub := hbo u (List.mem_of_getElem? hu)
    have hget : (bits.map (Z.nbOf Z.pre14))[k]? = some (Z.nbOf Z.pre14 u) := by rw [List.getElem?_map, hu]; rfl
    have eN : Z.costs z.T (bits.take (k + 1)) = Z.costs z.T (bits.take k) + Z.costB z.T u := by
      rw [List.take_add_one, hu, Option.toList_some, Z.costs_append]
      simp [Z.costs]
    have hcb := Z.costs_lim z.T (bits.take k)
    have hcu := Z.costB_bd z.T u
    rw [List.length_take] at hcb
    generalize Z.costs z.T (bits.take k) = ck at *
    obtain ⟨N, ho, hr, hS⟩ := RT.opn (hS.fd (RT be bm p))
    have hub1 := hub.b
    have hlm : (bits.map (Z.nbOf Z.pre14)).length = bits.length := List.length_map ..
    generalize bits.map (Z.nbOf Z.pre14) = L at *
    by_cases h18 : u.t = 18
    · have eu : Z.nbOf Z.pre14 u = ⟨[], 0, u.b⟩ := if_pos h18
      have ec : Z.costB z.T u = 16 := by rw [Z.costB, if_pos h18]
      rw [eu] at hget
      repeat' (first | (refine pN_lss_s ?_ ?_ <;> intro hc <;> try (exfalso; omega)) | refine pIf_t ?_ | refine pN_v (hk := ?_) | fail)
      refine ⟨fun v w => v = .int .i64 (ck + 16) ∧ Sat E w (rows cd_pithref14_Bit sl L :: Cod c p bw s bm be :: RWin bw x :: RT be bm p z :: M), ?_, ?_⟩
      · repeat' (first | (refine pN_eql_ss ?_ ?_ <;> intro hc <;> try (exfalso; first | omega | exact hc rfl | exact hc (by assumption) | exact absurd hc (by assumption))) | refine pIf_t ?_ | refine pN_ld1 ha hS ?_ | refine pN_fa ha (by rfl) fun a ha => ?_ | refine pN_ixk hS _ (by first | rfl | (exact (Int.toNat_of_nonneg (by omega)).symm)) (by first | rfl | omega | simpa only [go_sem] using True.intro | (simp only [go_sem]; omega)) (by assumption) fun a ha hel => ?_ | refine pN_v (hk := ?_) | fail)
        have hS := RT.shut (z := z) (hS.fd2 (REnc be) (NSets RSet Z.fresh bm)) ho hr
        exact ⟨rfl, hS.to⟩
      · clear hS
        rintro _ _ w ⟨rfl, hS⟩
        repeat' (first | refine pN_v (hk := ?_) | fail)
        exact ⟨⟨k + 1, by rw [eN, ec], rfl, hlt, hS⟩, by simp only [RowKit.intOf]; omega⟩
    · have hx := hub.t.resolve_left h18
      have hun := Z.un_bd hp hx.1 (i := u.i.toNat) (by omega)
      have hkey : (Z.keyU Z.pre14 (Z.un u.t u.i.toNat)).1 = Z.nameU Z.pre14 (Z.un u.t u.i.toNat) := Z.pre14_ok.key hun.1
      have hne : ¬ Z.nameU Z.pre14 (Z.un u.t u.i.toNat) = [] := Z.pre14_some ⟨_, hun.1⟩
      have eu : Z.nbOf Z.pre14 u = ⟨Z.nameU Z.pre14 (Z.un u.t u.i.toNat), Z.pl u.t u.i.toNat, u.b⟩ := if_neg h18
      have ec : Z.costB z.T u = B.cost (Z.pr z.T u) u.b := by rw [Z.costB, if_neg h18]
      rw [eu] at hget
      have hNg := hr.get u.t hx.1 u.i.toNat (by omega)
      have hTg : (z.T u.t)[u.i.toNat]? = some (Z.pr z.T u) := by
        have hl := ho.T.len u.t hx.1
        rw [Z.pr, List.getD_eq_getElem?_getD, List.getElem?_eq_getElem (show u.i.toNat < (z.T u.t).length by omega)]; rfl
      rw [hTg] at hNg
      have hNl := hr.len (Z.keyU Z.pre14 (Z.un u.t u.i.toNat))
      generalize Z.nameU Z.pre14 (Z.un u.t u.i.toNat) = nme at *
      generalize hkk : Z.keyU Z.pre14 (Z.un u.t u.i.toNat) = key at *
      generalize hpp : Z.pl u.t u.i.toNat = ppl at *
      have hgd : (N key).getD (ppl : Int).toNat 0 = Z.pr z.T u := by rw [Int.toNat_natCast, List.getD_eq_getElem?_getD, hNg]; rfl
      repeat' (first | (refine pN_lss_s ?_ ?_ <;> intro hc <;> try (exfalso; omega)) | refine pIf_t ?_ | refine pN_v (hk := ?_) | fail)
      refine ⟨fun v w => v = .int .i64 (ck + B.cost (Z.pr z.T u) u.b) ∧ Sat E w (rows cd_pithref14_Bit sl L :: Cod c p bw s bm be :: RWin bw x :: RT be bm p z :: M), ?_, ?_⟩
      · repeat' (first | (refine pc_pithref14_Coder_Set (R14Set_at hkey (hS.fd2 (cel c) (NSets RSet Z.fresh bm)) rfl ?_); clear hS; intro b w hS) | (refine pc_pithref06_Set_At (RAt_ok (hS.fd (RSet b)) (ppl : Int) ?_); rw [if_pos (by omega), hgd]; clear hS; intro w hS) | exact run_ld1 (by assumption) hS | refine And.intro ?_ ?_ | exact trivial | refine pc_pithref06_Cost (RCost_ok _ _ ?_) | (refine pN_eql_ss ?_ ?_ <;> intro hc <;> try (exfalso; first | omega | exact hc rfl | exact hc (by assumption) | exact absurd hc (by assumption))) | refine pIf_f ?_ | refine pN_ld1 ha hS ?_ | refine pL_ld1 ha hS ?_ | refine pN_fa ha (by rfl) fun a ha => ?_ | refine pA_fa ha (by rfl) fun a ha => ?_ | (refine pDr_go hS ?_; clear hS; intro w hS) | refine pN_ixk hS _ (by first | rfl | (exact (Int.toNat_of_nonneg (by omega)).symm)) (by first | rfl | omega | simpa only [go_sem] using True.intro | (simp only [go_sem]; omega)) (by assumption) fun a ha hel => ?_ | refine pA_ixk hS _ (by first | rfl | (exact (Int.toNat_of_nonneg (by omega)).symm)) (by first | rfl | omega | simpa only [go_sem] using True.intro | (simp only [go_sem]; omega)) (by assumption) fun a ha hel => ?_ | refine pN_v (hk := ?_) | refine pA_v (hk := ?_) | fail)
        all_goals first
          | exact rfl
          | (have hS := NHole.back (hS.fd2 (RSet b) (NHole RSet Z.fresh bm N key))
             have hS := RT.shut (z := z) (hS.fd2 (REnc be) (NSets RSet Z.fresh bm)) ho hr
             exact hS.to)
      · clear hS
        rintro _ _ w ⟨rfl, hS⟩
        repeat' (first | refine pN_v (hk := ?_) | fail)
        exact ⟨⟨k + 1, by rw [eN, ec], rfl, hlt, hS⟩, by simp only [RowKit.intOf]; omega⟩
  · obtain rfl : k = bits.length := by omega
    rw [List.take_length]
    have hlm : (bits.map (Z.nbOf Z.pre14)).length = bits.length := List.length_map ..
    repeat' (first | (refine pN_lss_s ?_ ?_ <;> intro hc <;> try (exfalso; omega)) | refine pIf_f ?_ | refine pN_v (hk := ?_) | fail)
    exact hQ _ hS.to
end
end Go.Proofs.YtbgnnjfpiblkmaaGreatDoor

namespace Go.Proofs.YtbgnnjfpiblkmaaGreatDoor
open Go

def wRng (b r : Nat) (w : World) : Nat := match w.heap[r]?, w.heap[b]? with
  | some (.mapIter _ _ seen _), some (.map es _) => (es.toList.filter fun e => !seen.contains e.born).length
  | _, _ => 0
theorem wRng_eq {κ : Type} {ke : κ → Value} {E w : World} {L M : List HA} {b r : Nat} {x : Rng κ} (hS : Sat E w L) [h : Fnd (mrng ke b r) L x M] : wRng b r w = x.left.length := by
  obtain ⟨hh, ⟨es, clock, seen, hb, hr, hs, he, hl, hcur⟩, hsub, _⟩ := (hS.fd (mrng ke b r)).sats
  have h1 : w.heap[b]? = some (.map es clock) := hsub _ _ hb
  have h2 : w.heap[r]? = some (.mapIter (some b) clock seen clock) := hsub _ _ hr
  unfold wRng
  rw [h1, h2]
  simp only
  have := congrArg List.length hl
  simpa [eks, kvs] using this

namespace Z
def prN (e : NS) : Key × List Int := (e.name, e.l)
theorem names_pr (m : List NS) : m.map (·.name) = (m.map prN).map (·.1) := by rw [List.map_map]; rfl
theorem look_out {fr : List Int} : ∀ {m : List NS} {n : Key}, n ∉ m.map (·.name) → look fr m n = fr
  | [], _, _ => rfl
  | x :: m, n, h => by
    simp only [List.map_cons, List.mem_cons, not_or] at h
    rw [look, if_neg (fun e => h.1 e.symm), look_out h.2]
theorem look_perm {fr : List Int} {m m2 : List NS} (hn : (m.map (·.name)).Nodup) (hp : (m2.map prN).Perm (m.map prN)) (n : Key) : look fr m2 n = look fr m n := by
  have hn2 : (m2.map (·.name)).Nodup := by
    rw [names_pr] at hn ⊢
    exact (hp.map _).nodup_iff.2 hn
  by_cases h : n ∈ m.map (·.name)
  · obtain ⟨e, he, rfl⟩ := List.mem_map.1 h
    obtain ⟨i, hi⟩ := List.getElem?_of_mem he
    rw [look_at hn hi]
    have : prN e ∈ m2.map prN := hp.mem_iff.2 (List.mem_map_of_mem he)
    obtain ⟨e2, he2, h2⟩ := List.mem_map.1 this
    obtain ⟨j, hj⟩ := List.getElem?_of_mem he2
    have h3 : e2.name = e.name := congrArg Prod.fst h2
    have h4 : e2.l = e.l := congrArg Prod.snd h2
    rw [← h3, look_at hn2 hj, h4]
  · have h2 : n ∉ m2.map (·.name) := by
      rw [names_pr] at h ⊢
      exact fun hh => h ((hp.map _).mem_iff.1 hh)
    rw [look_out h, look_out h2]
end Z
theorem NSets.make {E w : World} {M : List HA} {S : Nat → List Int → HA} {fr : List Int} {bm : Nat} {N : Key → List Int} {m : List NS} (h1 : (m.map (·.name)).Nodup) (h2 : ∀ n, N n = Z.look fr m n) (hS : Sat E w (mp ske bm (nsV m) :: bag (nsA S m) :: M)) : Sat E w (NSets S fr bm N :: M) := by
  have hS := (hS.perm (List.Perm.swap _ _ _)).openBag
  have hS := hS.perm (List.perm_middle (a := mp ske bm (nsV m)) (l₁ := nsA S m) (l₂ := M))
  exact Sat.shut (M := mp ske bm (nsV m) :: nsA S m) hS fun h hh => ⟨m, h1, h2, hh⟩
theorem NSets.fresh {E w : World} {M : List HA} {S : Nat → List Int → HA} {fr : List Int} {bm : Nat} (hS : Sat E w (mp ske bm [] :: M)) : Sat E w (NSets S fr bm (fun _ => fr) :: M) :=
  Sat.shut (M := [_]) hS fun h hh => ⟨[], List.nodup_nil, fun _ => rfl, hh⟩

def RCod (c : Nat) (e : Z.EZ) : HA := fun h => ∃ k : Nat × Nat × Nat, (e.Ok ∧ 1 ≤ e.x.size) ∧ Sats [Cod c e.p k.1 e.st k.2.1 k.2.2, RWin k.1 e.x, RT k.2.2 k.2.1 e.p ⟨e.s, e.T⟩] h
section
variable {E w : World} {M : List HA} {c bw bm be : Nat} {e : Z.EZ}
theorem RCod.opn (hS : Sat E w (RCod c e :: M)) : e.Ok ∧ 1 ≤ e.x.size ∧ ∃ bw bm be, Sat E w (Cod c e.p bw e.st bm be :: RWin bw e.x :: RT be bm e.p ⟨e.s, e.T⟩ :: M) := by
  obtain ⟨k, hS⟩ := hS.ex
  obtain ⟨h1, ⟨hA, _⟩, _⟩ := hS.head
  exact ⟨hA.1, hA.2, k.1, k.2.1, k.2.2, hS.open_ (M := [_, _, _]) fun _ h => h.2⟩
theorem RCod.shut (hS : Sat E w (Cod c e.p bw e.st bm be :: RWin bw e.x :: RT be bm e.p ⟨e.s, e.T⟩ :: M)) (h1 : e.Ok) (h2 : 1 ≤ e.x.size) : Sat E w (RCod c e :: M) :=
  Sat.shut (M := [_, _, _]) hS fun _ h => ⟨(bw, bm, be), ⟨h1, h2⟩, h⟩
end
attribute [local irreducible] oMv oV oU oCall oCallV oBi oBin oUn oLoad oStore oNil oFld oField oIdx oIndex oPick oAlloc oBox oBuild oBs oConv oMk oSl oExt oFn oIface oMap oLook oMapUp oRange oNext oEntry oInv oAssert oPanic oRes pN pA pL pDr pIf gA pGd Calls

section
variable {E w : World} {M : List HA} {Q : Value → World → Prop} {bm be bw c b : Nat} {l : List Int} {st : R.S} {e : Z.EZ} {y : Z.Y} {p : Z.Pr}
theorem RSFork_ok (hS : Sat E w (RSet b l :: M)) (hl : l.length ≤ 1048576) (hQ : ∀ c w, Sat E w (RSet c l :: RSet b l :: M) → Q (pz c) w) :
    Calls Tryz.prog 85 #[pz b] w (retP Q) := by
  refine pithref06_Set_Fork.calls ?_
  unfold pithref06_Set_Fork.F
  obtain ⟨s1, hS⟩ := RSet.opn hS
  repeat' (first | refine pN_l hS (by first | rfl | assumption) ?_ | refine pL_l hS (by first | rfl | assumption) ?_ | (refine pN_s hS (by first | exact Nat.le_of_ble_eq_true rfl | assumption) (by rfl) ?_; clear hS; intro w hS; try simp only [List.set_cons_zero, List.set_cons_succ] at hS) | (refine pDr_go hS ?_; clear hS; intro w hS) | (refine pN_bx hS (by rfl) ?_; clear hS; intro a w hS) | refine ⟨trivial, ?_⟩ | (refine pN_app0 hS (by first | rfl | omega | simpa only [go_sem] using True.intro | (simp only [go_sem]; omega)) (by first | omega | (simp only [go_sem]; omega)) ?_; clear hS; intro s w hS) | refine pN_v (hk := ?_) | refine pA_v (hk := ?_) | fail)
  have hS := RSet.shut (b := b) (s := s1) (l := l) hS rfl
  exact hQ _ _ (RSet.shut (b := a) (s := s) (l := l) hS rfl)
theorem RFork_ok (hS : Sat E w (REnc b st :: M)) (hk : st.k + 5 ≤ 140737488355328) (hQ : ∀ c w, Sat E w (REnc c st :: REnc b st :: M) → Q (pz c) w) :
    Calls Tryz.prog 84 #[pz b] w (retP Q) := by
  refine pithref07_Encoder_Fork.calls ?_
  unfold pithref07_Encoder_Fork.F
  obtain ⟨s, hS⟩ := REnc.opn hS
  repeat' (first | refine pL_l hS (by first | rfl | assumption) ?_ | (refine pDr_go hS ?_; clear hS; intro w hS) | refine pA_v (hk := ?_) | fail)
  have hS := REnc.shut (b := b) (s := s) (st := st) hS rfl rfl
  refine pc_pithref07_Encoder_Bytes (RBytes_ok hS hk fun s2 w hS => ?_)
  obtain ⟨s, hS⟩ := REnc.opn (hS.fd (REnc b))
  repeat' (first | (refine pN_bx hS (by rfl) ?_; clear hS; intro a w hS) | refine ⟨trivial, ?_⟩ | refine ⟨⟨(by first | exact run_l hS (by first | rfl | assumption) | exact run_st hS (by first | rfl | omega) | exact run_ld1 ha hS | exact fun _ => run_l hS (by rfl) | exact fun _ => run_st hS (by first | rfl | omega) | exact fun _ => run_ld1 ha hS | exact fun h => Bool.noConfusion h), (by first | exact run_l hS (by first | rfl | assumption) | exact run_st hS (by first | rfl | omega) | exact run_ld1 ha hS | exact fun _ => run_l hS (by rfl) | exact fun _ => run_st hS (by first | rfl | omega) | exact fun _ => run_ld1 ha hS | exact fun h => Bool.noConfusion h), trivial⟩, ?_⟩ | refine pN_v (hk := ?_) | fail)
  have hS := REnc.shut (b := b) (s := s) (st := st) hS rfl rfl
  exact hQ _ _ (REnc.shut (b := a) (s := s2) hS rfl rfl).to

theorem new_rel {p : Z.Pr} (hp : p.Ok) : Z.Rel Z.pre14 768 p (fun _ => Z.fresh) (Z.T0 p) := Z.Rel.new Z.pre14 (Nat.le_refl _) hp

theorem R14New_in (hS : Sat E w M) (hp : p.Ok) (d : Int) (h0 : 1 ≤ d) (h1 : d ≤ 4294967295) (hQ : ∀ b w, Sat E w (RCod b (Z.EZ.new p d) :: M) → Q (.tuple #[pz b, .int .i64 0]) w) :
    Calls Tryz.prog 14 #[.agg #[.int .i64 p.lc, .int .i64 p.lp, .int .i64 p.pb], .int .i64 d] w (retP Q) := by
  refine pithref14_New.calls ?_
  unfold pithref14_New.F
  repeat' (first | (refine pc_pithref12_PropsByte (R12PropsByte_in p hp hS ?_); clear hS; intro w hS) | (refine pc_pithref10_New (R10New_in hS d h0 h1 ?_); clear hS; intro bw w hS) | (refine pc_pithref12_New (R12New_ok hS ?_); clear hS; intro w hS) | (refine pc_pithref07_New (RNewE_ok hS ?_); clear hS; intro be w hS) | (refine pN_mkm hS ske ?_; clear hS; intro bm w hS) | refine And.intro ?_ ?_ | exact trivial | exact run_la_at hS [.int .i64 p.lc, .int .i64 p.lp, .int .i64 p.pb] rfl rfl | (refine pN_neq_s ?_ ?_ <;> intro hc <;> try (exfalso; first | omega | exact hc rfl | exact hc (by assumption) | exact absurd hc (by assumption))) | refine pIf_f ?_ | refine pN_la hS (by rfl) ?_ | refine pL_la hS (by rfl) ?_ | (refine pN_s hS (by first | exact Nat.le_of_ble_eq_true rfl | assumption) (by rfl) ?_; clear hS; intro w hS; try simp only [List.set_cons_zero, List.set_cons_succ] at hS) | (refine pDr_go hS ?_; clear hS; intro w hS) | (refine pN_bx hS (by rfl) ?_; clear hS; intro a w hS) | refine pN_v (hk := ?_) | fail)
  have hS := NSets.fresh (S := RSet) (fr := Z.fresh) (hS.fd (mp ske bm))
  have hS := RT.shut (p := p) (z := ⟨R.S.new, Z.T0 p⟩) (hS.fd2 (REnc be) (NSets RSet Z.fresh bm)) ⟨R.Ok.new, Z.TabOk.new p⟩ (new_rel hp)
  have hS := cel_cnv (t := a) (o' := ⟨73, coderC p bw Z.St.new bm be⟩) rfl (hS.fd (cel a))
  exact hQ _ _ (RCod.shut (e := ⟨p, Z.St.new, Z.T0 p, ⟨d, []⟩, R.S.new⟩) (bw := bw) (bm := bm) (be := be) hS.to (Z.EZ.Ok.new hp d) h0)
theorem R14New_no (hS : Sat E w M) (d : Int) (hpb : -9223372036854775808 ≤ p.lc ∧ p.lc < 9223372036854775808) (h : ¬ (p.Ok ∧ 1 ≤ d ∧ d ≤ 4294967295)) (hQ : ∀ w, Sat E w M → Q (.tuple #[.pointer none, .int .i64 (if p.Ok then 7 else 6)]) w) :
    Calls Tryz.prog 14 #[.agg #[.int .i64 p.lc, .int .i64 p.lp, .int .i64 p.pb], .int .i64 d] w (retP Q) := by
  refine pithref14_New.calls ?_
  unfold pithref14_New.F
  by_cases hp : p.Ok
  · rw [if_pos hp] at hQ
    repeat' (first | (refine pc_pithref12_PropsByte (R12PropsByte_in p hp hS ?_); clear hS; intro w hS) | (refine pc_pithref10_New (R10New_no hS d (fun hd => h ⟨hp, hd⟩) ?_); clear hS; intro w hS) | (refine pN_neq_s ?_ ?_ <;> intro hc <;> try (exfalso; first | omega | exact hc rfl | exact hc (by assumption) | exact absurd hc (by assumption))) | refine pIf_t ?_ | refine pIf_f ?_ | refine pN_la hS (by rfl) ?_ | (refine pN_bx hS (by rfl) ?_; clear hS; intro a w hS) | refine pN_v (hk := ?_) | fail)
    exact hQ _ hS.to
  · rw [if_neg hp] at hQ
    repeat' (first | (refine pc_pithref12_PropsByte (R12PropsByte_no p hp hpb hS ?_); clear hS; intro w hS) | (refine pN_neq_s ?_ ?_ <;> intro hc <;> try (exfalso; first | omega | exact hc rfl | exact hc (by assumption) | exact absurd hc (by assumption))) | refine pIf_t ?_ | refine pN_la hS (by rfl) ?_ | (refine pN_bx hS (by rfl) ?_; clear hS; intro a w hS) | refine pN_v (hk := ?_) | fail)
    exact hQ _ hS.to
theorem R14Cut_ok (hS : Sat E w (RCod c e :: M)) (hk : e.s.k + 18 ≤ 140737488355328) (hQ : ∀ s w, Sat E w (rows cd_uint8 s e.s.bytes :: RCod c e.cut :: M) → Q (.slice s.a e.s.bytes.length s.c) w) :
    Calls Tryz.prog 22 #[pz c] w (retP Q) := by
  refine pithref14_Coder_Cut.calls ?_
  unfold pithref14_Coder_Cut.F
  obtain ⟨he, h1, bw, bm, be, hS⟩ := RCod.opn hS
  obtain ⟨N, ho, hr, hS⟩ := RT.opn (hS.fd (RT be bm e.p))
  repeat' (first | (refine pc_pithref07_Encoder_Bytes (RBytes_ok (hS.fd (REnc be)) (by simp only; omega) ?_); clear hS; intro s w hS) | (refine pc_pithref07_New (RNewE_ok hS ?_); clear hS; intro be2 w hS) | refine pN_l hS (by first | rfl | assumption) ?_ | (refine pN_s hS (by first | exact Nat.le_of_ble_eq_true rfl | assumption) (by rfl) ?_; clear hS; intro w hS; try simp only [List.set_cons_zero, List.set_cons_succ] at hS) | refine pN_v (hk := ?_) | fail)
  have hS := RT.shut (p := e.p) (z := ⟨R.S.new, e.T⟩) (hS.fd2 (REnc be2) (NSets RSet Z.fresh bm)) ⟨R.Ok.new, ho.T⟩ hr
  have hS : Sat E w (Cod c e.p bw e.st bm be2 :: RWin bw e.x :: RT be2 bm e.p ⟨R.S.new, e.T⟩ :: rows cd_uint8 s e.s.bytes :: M) := hS.to
  exact hQ _ _ ((RCod.shut (e := e.cut) hS he.cut h1).perm (List.Perm.swap _ _ _))
theorem R14Raw_ok {s0 : Sl} {l : List UInt8} (hS : Sat E w (RCod c e :: M)) [hl : Rds cd_uint8 M s0 l] (hn : e.x.all.length + l.length ≤ 140737488355328) (hQ : ∀ w, Sat E w (RCod c (e.raw l) :: M) → Q (.tuple #[]) w) :
    Calls Tryz.prog 25 #[pz c, .slice s0.a l.length s0.c] w (retP Q) := by
  refine pithref14_Coder_Raw.calls ?_
  unfold pithref14_Coder_Raw.F
  obtain ⟨he, h1, bw, bm, be, hS⟩ := RCod.opn hS
  repeat' (first | (refine pc_pithref10_Window_Put (R10Put_ok (l := l) (hS.fd (RWin bw)) (by omega) ?_); clear hS; intro w hS) | refine pN_l hS (by first | rfl | assumption) ?_ | refine pN_v (hk := ?_) | fail)
  exact hQ _ (RCod.shut (e := ⟨e.p, e.st, e.T, e.x.put l, e.s⟩) (bw := bw) (bm := bm) (be := be) hS.to (he.raw l) h1)
theorem R14Reset_in {p : Z.Pr} (hp : p.Ok) (hS : Sat E w (RCod c e :: M)) (hQ : ∀ w, Sat E w (RCod c (e.reset p) :: M) → Q (.int .i64 0) w) :
    Calls Tryz.prog 27 #[pz c, .agg #[.int .i64 p.lc, .int .i64 p.lp, .int .i64 p.pb]] w (retP Q) := by
  refine pithref14_Coder_Reset.calls ?_
  unfold pithref14_Coder_Reset.F
  obtain ⟨he, h1, bw, bm, be, hS⟩ := RCod.opn hS
  obtain ⟨N, ho, hr, hS⟩ := RT.opn (hS.fd (RT be bm e.p))
  have er : e.reset p = ⟨p, Z.St.new, Z.T0 p, e.x, e.s⟩ := by rw [Z.EZ.reset, if_pos hp]
  have he2 := he.reset p
  rw [er] at hQ he2
  repeat' (first | (refine pc_pithref12_PropsByte (R12PropsByte_in p hp hS ?_); clear hS; intro w hS) | (refine pc_pithref12_New (R12New_ok hS ?_); clear hS; intro w hS) | (refine pN_mkm hS ske ?_; clear hS; intro bm2 w hS) | refine pN_la_at (n := 3) hS [.int .i64 p.lc, .int .i64 p.lp, .int .i64 p.pb] rfl rfl ?_ | (refine pN_sa_at (us := [.int .i64 p.lc, .int .i64 p.lp, .int .i64 p.pb]) hS rfl (Nat.le_of_ble_eq_true rfl) rfl ?_; clear hS; intro w hS) | (refine pN_sa_at (us := Z.St.new.cells) hS rfl (Nat.le_of_ble_eq_true rfl) rfl ?_; clear hS; intro w hS) | (refine pN_neq_s ?_ ?_ <;> intro hc <;> try (exfalso; first | omega | exact hc rfl | exact hc (by assumption) | exact absurd hc (by assumption))) | refine pIf_f ?_ | (refine pN_s hS (by first | exact Nat.le_of_ble_eq_true rfl | assumption) (by rfl) ?_; clear hS; intro w hS; try simp only [List.set_cons_zero, List.set_cons_succ] at hS) | (refine pN_bx hS (by rfl) ?_; clear hS; intro a w hS) | refine pN_v (hk := ?_) | fail)
  have hS := cel_cnv (t := c) (o' := ⟨73, coderC p bw Z.St.new bm2 be⟩) rfl (hS.fd (cel c))
  have hS := NSets.fresh (S := RSet) (fr := Z.fresh) (hS.fd (mp ske bm2))
  have hS := RT.shut (p := p) (z := ⟨e.s, Z.T0 p⟩) (hS.fd2 (REnc be) (NSets RSet Z.fresh bm2)) ⟨he.s, Z.TabOk.new p⟩ (new_rel hp)
  exact hQ _ (RCod.shut (e := ⟨p, Z.St.new, Z.T0 p, e.x, e.s⟩) (bw := bw) (bm := bm2) (be := be) hS.to he2 h1)
theorem R14Reset_no {p : Z.Pr} (hp : ¬ p.Ok) (hpb : -9223372036854775808 ≤ p.lc ∧ p.lc < 9223372036854775808) (hS : Sat E w (RCod c e :: M)) (hQ : ∀ w, Sat E w (RCod c e :: M) → Q (.int .i64 6) w) :
    Calls Tryz.prog 27 #[pz c, .agg #[.int .i64 p.lc, .int .i64 p.lp, .int .i64 p.pb]] w (retP Q) := by
  refine pithref14_Coder_Reset.calls ?_
  unfold pithref14_Coder_Reset.F
  repeat' (first | (refine pc_pithref12_PropsByte (R12PropsByte_no p hp hpb hS ?_); clear hS; intro w hS) | (refine pN_neq_s ?_ ?_ <;> intro hc <;> try (exfalso; first | omega | exact hc rfl | exact hc (by assumption) | exact absurd hc (by assumption))) | refine pIf_t ?_ | refine pN_la hS (by rfl) ?_ | (refine pN_bx hS (by rfl) ?_; clear hS; intro a w hS) | refine pN_v (hk := ?_) | fail)
  exact hQ _ hS.to
theorem R14Clear_ok (hS : Sat E w (RCod c e :: M)) (hQ : ∀ w, Sat E w (RCod c e.clear :: M) → Q (.tuple #[]) w) :
    Calls Tryz.prog 29 #[pz c] w (retP Q) := by
  refine pithref14_Coder_Clear.calls ?_
  unfold pithref14_Coder_Clear.F
  obtain ⟨he, h1, bw, bm, be, hS⟩ := RCod.opn hS
  repeat' (first | refine pN_la_at (n := 3) hS [.int .i64 e.p.lc, .int .i64 e.p.lp, .int .i64 e.p.pb] rfl rfl ?_ | refine pN_v (hk := ?_) | fail)
  have hS := RCod.shut (e := e) (bw := bw) (bm := bm) (be := be) hS he h1
  refine pc_pithref14_Coder_Reset (R14Reset_in (p := e.p) he.p hS fun w hS => ?_)
  have er : e.reset e.p = ⟨e.p, Z.St.new, Z.T0 e.p, e.x, e.s⟩ := by rw [Z.EZ.reset, if_pos he.p]
  have he2 := he.reset e.p
  rw [er] at hS he2
  obtain ⟨_, h1, bw, bm, be, hS⟩ := RCod.opn hS
  dsimp only at hS h1
  repeat' (first | (refine pc_pithref10_Window_Clear (R10Clear_ok (hS.fd (RWin bw)) ?_); clear hS; intro w hS) | refine pN_l hS (by first | rfl | assumption) ?_ | refine pN_v (hk := ?_) | fail)
  exact hQ _ (RCod.shut (e := ⟨e.p, Z.St.new, Z.T0 e.p, ⟨e.x.size, []⟩, e.s⟩) (bw := bw) (bm := bm) (be := be) hS.to he.clear h1)

theorem R14Put_ok (hS : Sat E w (RCod c e :: M)) (hl : e.x.all.length + 273 ≤ 140737488355328) (hk : e.s.k + 1000 ≤ 140737488355328) (hQ : ∀ w, Sat E w (RCod c (e.put y) :: M) → Q (.int .i64 (e.may y)) w) :
    Calls Tryz.prog 18 #[pz c, .agg #[.int .i64 y.Kind, bv y.Byte, .int .i64 y.Len, .int .i64 y.Dist]] w (retP Q) := by
  obtain ⟨he, h1, bw, bm, be, hS⟩ := RCod.opn hS
  by_cases hm : e.may y = 0
  · have hput : e.put y = e.put1 y := by rw [Z.EZ.put, if_pos hm]
    have hput1 := (he.put1 hm).1
    rw [hput, hm] at hQ
    refine R14Put_go hS he.p he.st h1 hl hk hm fun w hS => ?_
    exact hQ _ (RCod.shut (e := e.put1 y) hS hput1 h1)
  · have hput : e.put y = e := by rw [Z.EZ.put, if_neg hm]
    rw [hput] at hQ
    have hm' : Z.may e.x e.st y ≠ 0 := hm
    refine pithref14_Coder_Put.calls ?_
    unfold pithref14_Coder_Put.F
    unfold Z.EZ.may at hQ
    repeat' (first | (refine pc_pithref14_Coder_Bits (R14Bits_no (hS.fd2 (cel c) (RWin bw)) he.st h1 (by omega) hm' ?_); clear hS; intro w hS) | (refine pN_neq_s ?_ ?_ <;> intro hc <;> try (exfalso; first | omega | exact hc rfl | exact hc (by assumption) | exact absurd hc (by assumption))) | refine pIf_t ?_ | refine pN_la hS (by rfl) ?_ | (refine pN_bx hS (by rfl) ?_; clear hS; intro a w hS) | refine pN_v (hk := ?_) | fail)
    exact hQ _ (RCod.shut (e := e) (bw := bw) (bm := bm) (be := be) hS.to he h1)
theorem R14Cost_ok (hS : Sat E w (RCod c e :: M)) (hl : e.x.all.length + 273 ≤ 140737488355328) (hQ : ∀ w, Sat E w (RCod c e :: M) → Q (.tuple #[.int .i64 (e.cost y), .int .i64 (e.may y)]) w) :
    Calls Tryz.prog 20 #[pz c, .agg #[.int .i64 y.Kind, bv y.Byte, .int .i64 y.Len, .int .i64 y.Dist]] w (retP Q) := by
  obtain ⟨he, h1, bw, bm, be, hS⟩ := RCod.opn hS
  by_cases hm : e.may y = 0
  · have hcost : e.cost y = Z.costO e.T (e.ops y) := by rw [Z.EZ.cost, if_pos hm]
    rw [hcost, hm] at hQ
    refine R14Cost_go hS he.p he.st h1 hl hm fun w hS => ?_
    exact hQ _ (RCod.shut (e := e) hS he h1)
  · have hcost : e.cost y = 0 := by rw [Z.EZ.cost, if_neg hm]
    rw [hcost] at hQ
    have hm' : Z.may e.x e.st y ≠ 0 := hm
    refine pithref14_Coder_Cost.calls ?_
    unfold pithref14_Coder_Cost.F
    unfold Z.EZ.may at hQ
    repeat' (first | (refine pc_pithref14_Coder_Bits (R14Bits_no (hS.fd2 (cel c) (RWin bw)) he.st h1 (by omega) hm' ?_); clear hS; intro w hS) | (refine pN_neq_s ?_ ?_ <;> intro hc <;> try (exfalso; first | omega | exact hc rfl | exact hc (by assumption) | exact absurd hc (by assumption))) | refine pIf_t ?_ | refine pN_la hS (by rfl) ?_ | (refine pN_bx hS (by rfl) ?_; clear hS; intro a w hS) | refine pN_v (hk := ?_) | fail)
    exact hQ _ (RCod.shut (e := e) (bw := bw) (bm := bm) (be := be) hS.to he h1)
end
end Go.Proofs.YtbgnnjfpiblkmaaGreatDoor

namespace Go.Proofs.YtbgnnjfpiblkmaaGreatDoor
open Go
namespace Z
theorem nsV_at {m : List NS} {i : Nat} {p : Key × Value} (h : (nsV m)[i]? = some p) : ∃ e, m[i]? = some e ∧ p = (e.name, pz e.b) := by
  rw [nsV, List.getElem?_map] at h
  cases hm : m[i]? with
  | none => rw [hm] at h; cases h
  | some e => rw [hm] at h; exact ⟨e, rfl, (Option.some.inj h).symm⟩
end Z
theorem nsA_snoc (S : Nat → List Int → HA) (m : List NS) (e : NS) : nsA S (m ++ [e]) = nsA S m ++ [S e.b e.l] := by simp [nsA]
theorem Sat.put_back {E w : World} {L M : List HA} {i : Nat} {A : HA} (hs : Sat E w (A :: bag (M.eraseIdx i) :: L)) (h : M[i]? = some A) : Sat E w (bag M :: L) := by
  have h1 := Sat.into hs h
  rw [set_same h] at h1
  exact h1
theorem perm_at {α : Type} : ∀ (L : List α) (i : Nat) (A : α), L[i]? = some A → L.Perm (A :: L.eraseIdx i)
  | [], i, A, h => by simp at h
  | B :: L, 0, A, h => by simp at h; subst h; exact List.Perm.refl _
  | B :: L, i + 1, A, h => by
    have h' : L[i]? = some A := by simpa using h
    exact ((perm_at L i A h').cons B).trans (List.Perm.swap A B _)

theorem pN_extn {K : Value → World → Prop} {w : World} {vs : Array Value} {i : Nat} {v : Value} (h : vs[i]? = some v) (hk : K v w) : pN Tryz.prog (oExt (.tuple vs) i) w K := by
  rw [pN_def, run_ext vs i h, rN_value]; exact hk
attribute [local irreducible] oMv oV oU oCall oCallV oBi oBin oUn oLoad oStore oNil oFld oField oIdx oIndex oPick oAlloc oBox oBuild oBs oConv oMk oSl oExt oFn oIface oMap oLook oMapUp oRange oNext oEntry oInv oAssert oPanic oRes pN pA pL pDr pIf gA pGd Calls

section
variable {E w : World} {M : List HA} {Q : Value → World → Prop} {bm be bw c b : Nat} {e : Z.EZ}
set_option maxHeartbeats 1000000 in
theorem R14Fork_ok (hS : Sat E w (RCod c e :: M)) (hl : e.x.all.length ≤ 140737488355328) (hk : e.s.k + 5 ≤ 140737488355328) (hQ : ∀ d w, Sat E w (RCod d e :: RCod c e :: M) → Q (pz d) w) :
    Calls Tryz.prog 31 #[pz c] w (retP Q) := by
  refine pithref14_Coder_Fork.calls ?_
  unfold pithref14_Coder_Fork.F
  obtain ⟨he, h1, bw, bm, be, hS⟩ := RCod.opn hS
  obtain ⟨N, ho, hr, hS⟩ := RT.opn (hS.fd (RT be bm e.p))
  have hS : Sat E w (NSets RSet Z.fresh bm N :: REnc be e.s :: Cod c e.p bw e.st bm be :: RWin bw e.x :: M) := hS.to
  obtain ⟨m, hn, hN, hS⟩ := NSets.bagged hS
  have hlen : ∀ x ∈ m, x.l.length = 768 := fun x hx => by
    obtain ⟨i, hi⟩ := List.getElem?_of_mem hx
    have := hN x.name
    rw [Z.look_at hn hi] at this
    rw [← this]; exact hr.len _
  repeat' (first | refine pL_la_at (n := 5) hS [.int .i64 e.st.num, .int .i64 e.st.r0, .int .i64 e.st.r1, .int .i64 e.st.r2, .int .i64 e.st.r3] rfl rfl ?_ | refine pL_la_at (n := 3) hS [.int .i64 e.p.lc, .int .i64 e.p.lp, .int .i64 e.p.pb] rfl rfl ?_ | (refine pc_pithref10_Window_Fork (R10Fork_ok (hS.fd (RWin bw)) (by omega) ?_); clear hS; intro bw2 w hS) | (refine pc_pithref07_Encoder_Fork (RFork_ok (hS.fd (REnc be)) (by omega) ?_); clear hS; intro be2 w hS) | (refine pN_mkm hS ske ?_; clear hS; intro bm2 w hS) | (refine pN_rng (P := Tryz.prog) (t := 70) (ke := ske) (b := bm) hS ?_; clear hS; intro r w hS) | refine And.intro ?_ ?_ | exact trivial | exact run_la_at (n := 5) hS [.int .i64 e.st.num, .int .i64 e.st.r0, .int .i64 e.st.r1, .int .i64 e.st.r2, .int .i64 e.st.r3] rfl rfl | exact run_la_at (n := 3) hS [.int .i64 e.p.lc, .int .i64 e.p.lp, .int .i64 e.p.pb] rfl rfl | exact run_l hS rfl | refine pN_l hS (by first | rfl | assumption) ?_ | refine pL_l hS (by first | rfl | assumption) ?_ | (refine pN_s hS (by first | exact Nat.le_of_ble_eq_true rfl | assumption) (by rfl) ?_; clear hS; intro w hS; try simp only [List.set_cons_zero, List.set_cons_succ] at hS) | (refine pDr_go hS ?_; clear hS; intro w hS) | (refine pN_bx hS (by rfl) ?_; clear hS; intro a w hS) | refine pN_v (hk := ?_) | refine pA_v (hk := ?_) | fail)
  have hS := Sat.shutBag (M := []) hS
  have hS := cel_cnv (t := a) (o' := ⟨73, coderC e.p bw2 e.st bm2 be2⟩) rfl (hS.fd (cel a))
  refine ⟨fun w => ∃ (m2 L2 : List NS) (cur : Option (Key × Value)), (∀ x ∈ L2, x ∈ m) ∧ ((m2 ++ L2).map Z.prN).Perm (m.map Z.prN) ∧ Sat E w (mrng ske bm r ⟨nsV m, nsV L2, cur⟩ :: bag (nsA RSet m) :: mp ske bm2 (nsV m2) :: bag (nsA RSet m2) :: cel a ⟨73, coderC e.p bw2 e.st bm2 be2⟩ :: RWin bw2 e.x :: REnc be2 e.s :: REnc be e.s :: Cod c e.p bw e.st bm be :: RWin bw e.x :: M), wRng bm r, ⟨[], m, none, fun _ h => h, List.Perm.refl _, ?_⟩, ?_⟩
  · have hS2 : Sat E _ (mrng ske bm r ⟨nsV m, nsV m, none⟩ :: bag (nsA RSet m) :: mp ske bm2 [] :: bag [] :: cel a ⟨73, coderC e.p bw2 e.st bm2 be2⟩ :: RWin bw2 e.x :: REnc be2 e.s :: REnc be e.s :: Cod c e.p bw e.st bm be :: RWin bw e.x :: M) := hS.to
    exact hS2
  clear hS
  rintro _ w ⟨m2, L2, cur, hsub, hperm, hS⟩
  have hms := wRng_eq (ke := ske) (b := bm) (r := r) hS
  rw [hms]
  dsimp only
  refine pN_nxt (ke := ske) (b := bm) (r := r) hS (fun h0 => ?_) (fun i pp w hi hS => ?_)
  · obtain rfl : L2 = [] := by
      cases L2 with
      | nil => rfl
      | cons x l => cases h0
    rw [List.append_nil] at hperm
    refine pN_extn rfl ?_
    repeat' (first | refine pIf_f ?_ | fail)
    have hS := mrng_end (ke := ske) (b := bm) (r := r) hS
    dsimp only at hS
    have hn2 : (m2.map (·.name)).Nodup := by
      rw [Z.names_pr] at hn ⊢
      exact (hperm.map _).nodup_iff.2 hn
    have hS := NSets.make (N := N) hn hN hS
    have hS : Sat E w (mp ske bm2 (nsV m2) :: bag (nsA RSet m2) :: NSets RSet Z.fresh bm N :: cel a ⟨73, coderC e.p bw2 e.st bm2 be2⟩ :: RWin bw2 e.x :: REnc be2 e.s :: REnc be e.s :: Cod c e.p bw e.st bm be :: RWin bw e.x :: M) := hS.to
    have hS := NSets.make (N := N) hn2 (fun n => by rw [hN, Z.look_perm hn hperm]) hS
    have hS := RT.shut (p := e.p) (z := ⟨e.s, e.T⟩) (hS.fd2 (REnc be2) (NSets RSet Z.fresh bm2)) ho hr
    have hS := RT.shut (p := e.p) (z := ⟨e.s, e.T⟩) (hS.fd2 (REnc be) (NSets RSet Z.fresh bm)) ho hr
    have hS := RCod.shut (e := e) (c := c) (bw := bw) (bm := bm) (be := be) (hS.fd3 (cel c) (RWin bw) (RT be bm e.p)) he h1
    have hS := RCod.shut (e := e) (c := a) (bw := bw2) (bm := bm2) (be := be2) (hS.fd3 (cel a) (RWin bw2) (RT be2 bm2 e.p)) he h1
    exact hQ _ _ hS
  · dsimp only at hi hS
    obtain ⟨x, hx, rfl⟩ := Z.nsV_at hi
    have hxm := hsub x (List.mem_of_getElem? hx)
    obtain ⟨j, hj⟩ := List.getElem?_of_mem hxm
    have hjA : (nsA RSet m)[j]? = some (RSet x.b x.l) := by rw [nsA, List.getElem?_map, hj]; rfl
    have hxl := hlen x hxm
    have hp2 : L2.Perm (x :: L2.eraseIdx i) := perm_at L2 i x hx
    have hnotin : x.name ∉ m2.map (·.name) := by
      have h3 : ((m2 ++ L2).map (·.name)).Nodup := by
        rw [Z.names_pr] at hn ⊢
        exact (hperm.map _).nodup_iff.2 hn
      rw [List.map_append] at h3
      intro hh
      exact (List.nodup_append.1 h3).2.2 _ hh _ (List.mem_map_of_mem (List.mem_of_getElem? hx)) rfl
    have eL : (nsV L2).eraseIdx i = nsV (L2.eraseIdx i) := map_erase _ _ _
    rw [eL] at hS
    refine pN_extn rfl ?_
    refine pIf_t ?_
    refine pN_ent (ke := ske) (b := bm) (r := r) hS rfl ?_
    have hS := (hS.hs (bag (nsA RSet m))).out j hjA
    repeat' (first | (refine pc_pithref06_Set_Fork (RSFork_ok (hS.fd (RSet x.b)) (by omega) ?_); clear hS; intro d w hS) | (refine pN_mup (P := Tryz.prog) (t := 70) (ke := ske) (b := bm2) hS x.name (pz d) ?_; clear hS; intro w hS) | refine And.intro ?_ ?_ | exact trivial | exact run_l hS rfl | refine pL_l hS (by first | rfl | assumption) ?_ | (refine pDr_go hS ?_; clear hS; intro w hS) | refine pN_v (hk := ?_) | refine pA_v (hk := ?_) | fail)
    · rw [Z.mput_new d x.l hnotin] at hS
      have hS := Sat.put_back (hS.hs2 (RSet x.b x.l) (bag ((nsA RSet m).eraseIdx j))) hjA
      have hS := Sat.bag_snoc (hS.hs2 (RSet d x.l) (bag (nsA RSet m2)))
      rw [← nsA_snoc RSet m2 ⟨x.name, d, x.l⟩] at hS
      refine ⟨m2 ++ [⟨x.name, d, x.l⟩], L2.eraseIdx i, some (x.name, pz x.b), fun z hz => hsub z (List.mem_of_mem_eraseIdx hz), ?_, hS.to⟩
      refine List.Perm.trans ?_ hperm
      simp only [List.map_append, List.map_cons, List.map_nil, List.append_assoc, List.cons_append, List.nil_append]
      exact ((hp2.map Z.prN).symm).append_left _
    · rw [wRng_eq (ke := ske) (b := bm) (r := r) hS]
      have hlt := (List.getElem?_eq_some_iff.1 hx).1
      simp only [nsV, List.length_map, List.length_eraseIdx]
      rw [if_pos hlt]
      omega
end
end Go.Proofs.YtbgnnjfpiblkmaaGreatDoor

namespace Go.Proofs.YtbgnnjfpiblkmaaGreatDoor
open Go
set_option maxRecDepth 100000

def pithlaw14_LzencExact.H : Hints := { cut := fun | 49 => some ([9, 10], 100433627766186892221372630771322661448711867496795385824784) | 51 => some ([9, 10], 25711008708143844408671393477458601640355243288838666945820176) | _ => none, loop := fun | 9 => ([9, 10, 60], 51422017416287688817342786954917203280710494648127866131183120) | 33 => ([153], 1450083655789255239155218544960687058564872667136) | 53 => ([207], 6901746141102494122284000592905877632782295849328403350965041313611792) | _ => ([], 0), order := fun | 13 => [(0, 0), (1, 1), (2, 3), (3, 7), (4, 15), (5, 31), (6, 63), (7, 127), (8, 255), (9, 511)] | 16 => [(0, 0), (1, 1), (2, 3), (5, 7), (6, 39), (7, 103), (3, 231), (4, 239), (8, 255), (9, 511)] | 24 => [(0, 0), (3, 1), (1, 9), (2, 11), (4, 15), (5, 31), (6, 63)] | 30 => [(0, 0), (1, 1), (2, 3), (3, 7), (4, 15), (5, 31), (6, 63)] | 38 => [(0, 0), (1, 1), (2, 3), (5, 7), (6, 39), (7, 103), (3, 231), (4, 239), (8, 255), (9, 511)] | 49 => [(0, 0), (2, 1), (3, 5), (4, 13), (5, 29), (1, 61), (6, 63), (7, 127)] | 55 => [(0, 0), (1, 1), (2, 3), (3, 7), (6, 15), (7, 79), (8, 207), (9, 463), (4, 975), (5, 991), (10, 1023), (11, 2047), (12, 4095), (13, 8191), (14, 16383), (15, 32767), (16, 65535), (17, 131071), (18, 262143), (19, 524287), (20, 1048575)] | _ => [] }
def pithlaw14_LzencExact.F [Pan] (x0 x1 : Value) (w : World) (Q : Value → World → Prop) : Prop :=
 pN Tryz.prog (oBox 35 x0) w fun x2 w1 =>
 pN Tryz.prog (oFld 35 x2 0) w1 fun x25 w2 =>
 pN Tryz.prog (oLoad 23 x25) w2 fun x26 w3 =>
 pN Tryz.prog (oFld 35 x2 1) w3 fun x27 w4 =>
 pN Tryz.prog (oLoad 3 x27) w4 fun x28 w5 =>
 pN Tryz.prog (oCall 13 [x26, x28]) w5 fun x29 w6 =>
 pN Tryz.prog (oExt x29 0) w6 fun x30 w7 =>
 pN Tryz.prog (oExt x29 1) w7 fun x31 w8 =>
 pN Tryz.prog (oFld 35 x2 0) w8 fun x33 w9 =>
 pN Tryz.prog (oLoad 23 x33) w9 fun x34 w10 =>
 pN Tryz.prog (oFld 35 x2 1) w10 fun x35 w11 =>
 pN Tryz.prog (oLoad 3 x35) w11 fun x36 w12 =>
 pN Tryz.prog (oCall 14 [x34, x36]) w12 fun x37 w13 =>
 pN Tryz.prog (oExt x37 0) w13 fun x38 w14 =>
 pN Tryz.prog (oExt x37 1) w14 fun x39 w15 =>
 pN Tryz.prog (oCall 15 [x31]) w15 fun x41 w16 =>
 pN Tryz.prog (oBin .neq 3 (.tmp 41) (.tmp 42) x41 x39) w16 fun x43 w17 =>
 pGd (gB x43 false) (pN Tryz.prog (oMv x30) w17) w17 fun x45 w18 =>
 pGd (gB x43 false) (pN Tryz.prog (oBin .eql 37 (.tmp 45) (.const (.pointer none)) x45 (.pointer none)) w18) w18 fun x46 w19 =>
 pGd (gB x43 false) (pN Tryz.prog (oMv x38) w19) w19 fun x47 w20 =>
 pGd (gB x43 false) (pN Tryz.prog (oBin .eql 41 (.tmp 47) (.const (.pointer none)) x47 (.pointer none)) w20) w20 fun x48 w21 =>
 pGd (gB x43 false) (pN Tryz.prog (oBin .neq 4 (.tmp 46) (.tmp 48) x46 x48) w21) w21 fun x49 w22 =>
 pN Tryz.prog (oPick x43 (.bool true) x49) w22 fun x50 w23 =>
 pIf x50
 (Q (.bool false) w23)
 (pN Tryz.prog (oBin .eql 41 (.tmp 51) (.const (.pointer none)) x38 (.pointer none)) w23 fun x52 w24 =>
 pIf x52
 (pN Tryz.prog (oCall 16 []) w24 fun x53 w25 =>
 Q x53 w25)
 (pN Tryz.prog (oBs 45 1 [(0, x30)]) w24 fun x55 w26 =>
 pN Tryz.prog (oBs 46 1 [(0, x38)]) w26 fun x57 w27 =>
 pN Tryz.prog (oBi .len #[36] 3 [false] [x1]) w27 fun x59 w28 =>
 ∃ (L9 : Value → Value → Value → World → Prop) (m9 : Value → Value → Value → World → Nat),
 L9 x55 x57 (.int .i64 0) w28 ∧
 ∀ (_k9 : Env) (es9l9 : Value) (rs10l9 : Value) (v60l9 : Value) (w29 : World), L9 es9l9 rs10l9 v60l9 w29 →
 pN Tryz.prog (oBin .lss 3 (.tmp 60) (.tmp 59) v60l9 x59) w29 fun x61 w30 =>
 pIf x61
 (∃ I51 : Value → Value → World → Prop,
 (pN Tryz.prog (oIdx 36 x1 v60l9) w30 fun x62 w31 =>
 pN Tryz.prog (oLoad 50 x62) w31 fun x63 w32 =>
 pN Tryz.prog (oAlloc 50) w32 fun x12 w33 =>
 pN Tryz.prog (oStore 50 x12 x63) w33 fun _ w34 =>
 pN Tryz.prog (oFld 50 x12 0) w34 fun x64 w35 =>
 pN Tryz.prog (oLoad 3 x64) w35 fun x65 w36 =>
 pN Tryz.prog (oBin .lss 3 (.tmp 65) (.const (.int .i64 0)) x65 (.int .i64 0)) w36 fun x66 w37 =>
 pIf x66
 (I51 es9l9 rs10l9 w37)
 (pN Tryz.prog (oFld 50 x12 0) w37 fun x67 w38 =>
 pN Tryz.prog (oLoad 3 x67) w38 fun x68 w39 =>
 pN Tryz.prog (oBi .len #[45] 3 [false] [es9l9]) w39 fun x70 w40 =>
 pN Tryz.prog (oBin .rem 3 (.tmp 68) (.tmp 70) x68 x70) w40 fun x71 w41 =>
 pDr w41 fun w42 =>
 pA Tryz.prog (oIdx 45 es9l9 x71) fun x74 =>
 pL Tryz.prog (oLoad 37 x74) w42 fun x75 =>
 pA Tryz.prog (oIdx 46 rs10l9 x71) fun x78 =>
 pL Tryz.prog (oLoad 41 x78) w42 fun x79 =>
 ∃ I49 : Value → Value → World → Prop,
 (pN Tryz.prog (oFld 50 x12 1) w42 fun x80 w43 =>
 pN Tryz.prog (oLoad 3 x80) w43 fun x81 w44 =>
 pN Tryz.prog (oBin .eql 3 (.tmp 81) (.const (.int .i64 0)) x81 (.int .i64 0)) w44 fun x83 w45 =>
 pIf x83
 (pDr w45 fun w46 =>
 pA Tryz.prog (oFld 50 x12 2) fun x85 =>
 pL Tryz.prog (oLoad 48 x85) w46 fun x86 =>
 pA Tryz.prog (oFld 50 x12 2) fun x90 =>
 pL Tryz.prog (oLoad 48 x90) w46 fun x91 =>
 pN Tryz.prog (oCall 17 [x75, x86]) w46 fun x87 w47 =>
 ((Sem.run Tryz.prog (oLoad 48 x90) w47 = .ok (.value x91) w47) ∧ True) ∧ (pN Tryz.prog (oCall 15 [x87]) w47 fun x88 w48 =>
 ((Sem.run Tryz.prog (oLoad 48 x90) w48 = .ok (.value x91) w48) ∧ True) ∧ (pN Tryz.prog (oCall 18 [x79, x91]) w48 fun x92 w49 =>
 (True) ∧ (pA Tryz.prog (oBin .neq 3 (.tmp 88) (.tmp 92) x88 x92) fun x93 =>
 pIf x93
 (Q (.bool false) w49)
 (I49 es9l9 rs10l9 w49)))))
 (pN Tryz.prog (oBin .eql 3 (.tmp 81) (.const (.int .i64 1)) x81 (.int .i64 1)) w45 fun x95 w50 =>
 pIf x95
 (pN Tryz.prog (oFld 50 x12 2) w50 fun x98 w51 =>
 pN Tryz.prog (oLoad 48 x98) w51 fun x99 w52 =>
 pN Tryz.prog (oCall 19 [x75, x99]) w52 fun x100 w53 =>
 pN Tryz.prog (oExt x100 0) w53 fun x101 w54 =>
 pN Tryz.prog (oExt x100 1) w54 fun x102 w55 =>
 pN Tryz.prog (oFld 50 x12 2) w55 fun x105 w56 =>
 pN Tryz.prog (oLoad 48 x105) w56 fun x106 w57 =>
 pN Tryz.prog (oCall 20 [x79, x106]) w57 fun x107 w58 =>
 pN Tryz.prog (oExt x107 0) w58 fun x108 w59 =>
 pN Tryz.prog (oExt x107 1) w59 fun x109 w60 =>
 pN Tryz.prog (oBin .neq 3 (.tmp 110) (.tmp 111) x101 x108) w60 fun x112 w61 =>
 pGd (gB x112 false) (pN Tryz.prog (oMv x102) w61) w61 fun x114 w62 =>
 pGd (gB x112 false) (pN Tryz.prog (oCall 15 [x114]) w62) w62 fun x115 w63 =>
 pGd (gB x112 false) (pN Tryz.prog (oMv x109) w63) w63 fun x116 w64 =>
 pGd (gB x112 false) (pN Tryz.prog (oBin .neq 3 (.tmp 115) (.tmp 116) x115 x116) w64) w64 fun x117 w65 =>
 pN Tryz.prog (oPick x112 (.bool true) x117) w65 fun x118 w66 =>
 pIf x118
 (Q (.bool false) w66)
 (I49 es9l9 rs10l9 w66))
 (pN Tryz.prog (oBin .eql 3 (.tmp 81) (.const (.int .i64 2)) x81 (.int .i64 2)) w50 fun x120 w67 =>
 pIf x120
 (pDr w67 fun w68 =>
 pN Tryz.prog (oCall 21 [x75]) w68 fun x122 w69 =>
 (True) ∧ (pL Tryz.prog (oConv 30 9 x122) w69 fun x123 =>
 pN Tryz.prog (oCall 22 [x79]) w69 fun x125 w70 =>
 ((Sem.run Tryz.prog (oConv 30 9 x122) w70 = .ok (.value x123) w70) ∧ True) ∧ (pL Tryz.prog (oConv 30 9 x125) w70 fun x126 =>
 pA Tryz.prog (oBin .neq 9 (.tmp 123) (.tmp 126) x123 x126) fun x127 =>
 pIf x127
 (Q (.bool false) w70)
 (I49 es9l9 rs10l9 w70))))
 (pN Tryz.prog (oBin .eql 3 (.tmp 81) (.const (.int .i64 3)) x81 (.int .i64 3)) w67 fun x129 w71 =>
 pIf x129
 (pN Tryz.prog (oFld 50 x12 3) w71 fun x130 w72 =>
 pN Tryz.prog (oLoad 30 x130) w72 fun x131 w73 =>
 pN Tryz.prog (oCall 23 [x131]) w73 fun x132 w74 =>
 pN Tryz.prog (oFld 50 x12 3) w74 fun x135 w75 =>
 pN Tryz.prog (oLoad 30 x135) w75 fun x136 w76 =>
 pN Tryz.prog (oBi .len #[30] 3 [false] [x136]) w76 fun x137 w77 =>
 pN Tryz.prog (oSl 30 x132 none (some x137) none) w77 fun x138 w78 =>
 pN Tryz.prog (oCall 24 [x75, x138]) w78 fun _ w79 =>
 pN Tryz.prog (oFld 50 x12 3) w79 fun x141 w80 =>
 pN Tryz.prog (oLoad 30 x141) w80 fun x142 w81 =>
 pN Tryz.prog (oCall 25 [x79, x142]) w81 fun _ w82 =>
 pDr w82 fun w83 =>
 pL Tryz.prog (oConv 30 9 x132) w83 fun x145 =>
 pA Tryz.prog (oFld 50 x12 3) fun x146 =>
 pL Tryz.prog (oLoad 30 x146) w83 fun x147 =>
 pN Tryz.prog (oCall 23 [x147]) w83 fun x148 w84 =>
 ((Sem.run Tryz.prog (oConv 30 9 x132) w84 = .ok (.value x145) w84) ∧ True) ∧ (pL Tryz.prog (oConv 30 9 x148) w84 fun x149 =>
 pA Tryz.prog (oBin .neq 9 (.tmp 145) (.tmp 149) x145 x149) fun x150 =>
 pIf x150
 (Q (.bool false) w84)
 (pN Tryz.prog (oBi .len #[30] 3 [false] [x132]) w84 fun x152 w85 =>
 ∃ (L33 : Value → World → Prop) (m33 : Value → World → Nat),
 L33 (.int .i64 0) w85 ∧
 ∀ (_k33 : Env) (v153l33 : Value) (w86 : World), L33 v153l33 w86 →
 pN Tryz.prog (oBin .lss 3 (.tmp 153) (.tmp 152) v153l33 x152) w86 fun x154 w87 =>
 pIf x154
 (pN Tryz.prog (oIdx 30 x132 v153l33) w87 fun x158 w88 =>
 pN Tryz.prog (oStore 5 x158 (bv 46)) w88 fun _ w89 =>
 pN Tryz.prog (oBin .add 3 (.tmp 153) (.const (.int .i64 1)) v153l33 (.int .i64 1)) w89 fun x159 w90 =>
 (L33 x159 w90 ∧ m33 x159 w90 < m33 v153l33 w86))
 (I49 es9l9 rs10l9 w87))))
 (pN Tryz.prog (oBin .eql 3 (.tmp 81) (.const (.int .i64 4)) x81 (.int .i64 4)) w71 fun x161 w91 =>
 pIf x161
 (pDr w91 fun w92 =>
 pA Tryz.prog (oFld 50 x12 4) fun x163 =>
 pL Tryz.prog (oLoad 23 x163) w92 fun x164 =>
 pA Tryz.prog (oFld 50 x12 4) fun x168 =>
 pL Tryz.prog (oLoad 23 x168) w92 fun x169 =>
 pN Tryz.prog (oCall 26 [x75, x164]) w92 fun x165 w93 =>
 ((Sem.run Tryz.prog (oLoad 23 x168) w93 = .ok (.value x169) w93) ∧ True) ∧ (pN Tryz.prog (oCall 15 [x165]) w93 fun x166 w94 =>
 ((Sem.run Tryz.prog (oLoad 23 x168) w94 = .ok (.value x169) w94) ∧ True) ∧ (pN Tryz.prog (oCall 27 [x79, x169]) w94 fun x170 w95 =>
 (True) ∧ (pA Tryz.prog (oBin .neq 3 (.tmp 166) (.tmp 170) x166 x170) fun x171 =>
 pIf x171
 (Q (.bool false) w95)
 (I49 es9l9 rs10l9 w95)))))
 (pN Tryz.prog (oBin .eql 3 (.tmp 81) (.const (.int .i64 5)) x81 (.int .i64 5)) w91 fun x173 w96 =>
 pIf x173
 (pN Tryz.prog (oCall 28 [x75]) w96 fun _ w97 =>
 pN Tryz.prog (oCall 29 [x79]) w97 fun _ w98 =>
 I49 es9l9 rs10l9 w98)
 (pN Tryz.prog (oBin .eql 3 (.tmp 81) (.const (.int .i64 6)) x81 (.int .i64 6)) w96 fun x179 w99 =>
 pIf x179
 (pN Tryz.prog (oBi .len #[45] 3 [false] [es9l9]) w99 fun x181 w100 =>
 pN Tryz.prog (oBin .lss 3 (.tmp 181) (.const (.int .i64 4)) x181 (.int .i64 4)) w100 fun x182 w101 =>
 pIf x182
 (pN Tryz.prog (oCall 30 [x75]) w101 fun x184 w102 =>
 pN Tryz.prog (oBin .eql 37 (.tmp 185) (.const (.pointer none)) x184 (.pointer none)) w102 fun x186 w103 =>
 pIf x186
 (Q (.bool false) w103)
 (pN Tryz.prog (oBs 45 1 [(0, x184)]) w103 fun x189 w104 =>
 pN Tryz.prog (oBi .append #[45, 45] 45 [false, false] [es9l9, x189]) w104 fun x190 w105 =>
 pN Tryz.prog (oCall 31 [x79]) w105 fun x193 w106 =>
 pN Tryz.prog (oBs 46 1 [(0, x193)]) w106 fun x194 w107 =>
 pN Tryz.prog (oBi .append #[46, 46] 46 [false, false] [rs10l9, x194]) w107 fun x195 w108 =>
 I49 x190 x195 w108))
 (I49 es9l9 rs10l9 w101))
 (I49 es9l9 rs10l9 w99)))))))) ∧
 ∀ (_j49 : Env) (es9c49 : Value) (rs10c49 : Value) (w109 : World), I49 es9c49 rs10c49 w109 →
 pDr w109 fun w110 =>
 pA Tryz.prog (oNil x79) fun x199 =>
 pA Tryz.prog (oFld 73 x199 4) fun x200 =>
 pL Tryz.prog (oLoad 71 x200) w110 fun x201 =>
 pN Tryz.prog (oCall 32 [x75]) w110 fun x197 w111 =>
 ((Sem.run Tryz.prog (oLoad 71 x200) w111 = .ok (.value x201) w111) ∧ True) ∧ (pN Tryz.prog (oCall 33 [x201]) w111 fun x202 w112 =>
 (True) ∧ (pA Tryz.prog (oBin .neq 3 (.tmp 197) (.tmp 202) x197 x202) fun x203 =>
 pIf x203
 (Q (.bool false) w112)
 (I51 es9c49 rs10c49 w112))))) ∧
 ∀ (_j51 : Env) (es9c51 : Value) (rs10c51 : Value) (w113 : World), I51 es9c51 rs10c51 w113 →
 pN Tryz.prog (oBin .add 3 (.tmp 60) (.const (.int .i64 1)) v60l9 (.int .i64 1)) w113 fun x204 w114 =>
 (L9 es9c51 rs10c51 x204 w114 ∧ m9 es9c51 rs10c51 x204 w114 < m9 es9l9 rs10l9 v60l9 w29))
 (pN Tryz.prog (oBi .len #[45] 3 [false] [es9l9]) w30 fun x206 w115 =>
 ∃ (L53 : Value → World → Prop) (m53 : Value → World → Nat),
 L53 (.int .i64 0) w115 ∧
 ∀ (_k53 : Env) (v207l53 : Value) (w116 : World), L53 v207l53 w116 →
 pN Tryz.prog (oBin .lss 3 (.tmp 207) (.tmp 206) v207l53 x206) w116 fun x208 w117 =>
 pIf x208
 (pDr w117 fun w118 =>
 pA Tryz.prog (oIdx 45 es9l9 v207l53) fun x212 =>
 pL Tryz.prog (oLoad 37 x212) w118 fun x213 =>
 pA Tryz.prog (oIdx 46 rs10l9 v207l53) fun x218 =>
 pL Tryz.prog (oLoad 41 x218) w118 fun x219 =>
 pN Tryz.prog (oCall 21 [x213]) w118 fun x214 w119 =>
 ((Sem.run Tryz.prog (oLoad 41 x218) w119 = .ok (.value x219) w119) ∧ True) ∧ (pL Tryz.prog (oConv 30 9 x214) w119 fun x215 =>
 pN Tryz.prog (oCall 22 [x219]) w119 fun x220 w120 =>
 ((Sem.run Tryz.prog (oConv 30 9 x214) w120 = .ok (.value x215) w120) ∧ True) ∧ (pL Tryz.prog (oConv 30 9 x220) w120 fun x221 =>
 pA Tryz.prog (oBin .neq 9 (.tmp 215) (.tmp 221) x215 x221) fun x222 =>
 gA (gB x222 false) (pA Tryz.prog (oMv es9l9)) fun x224 =>
 gA (gB x222 false) (pA Tryz.prog (oMv v207l53)) fun x225 =>
 gA (gB x222 false) (pA Tryz.prog (oIdx 45 x224 x225)) fun x226 =>
 gA (gB x222 false) (pL Tryz.prog (oLoad 37 x226) w120) fun x227 =>
 pGd (gB x222 false) (pN Tryz.prog (oCall 32 [x227]) w120) w120 fun x228 w121 =>
 (True) ∧ (gA (gB x222 false) (pA Tryz.prog (oBin .neq 3 (.tmp 228) (.const (.int .i64 5)) x228 (.int .i64 5))) fun x229 =>
 pA Tryz.prog (oPick x222 (.bool true) x229) fun x230 =>
 pIf x230
 (Q (.bool false) w121)
 (pN Tryz.prog (oBin .add 3 (.tmp 207) (.const (.int .i64 1)) v207l53 (.int .i64 1)) w121 fun x231 w122 =>
 (L53 x231 w122 ∧ m53 x231 w122 < m53 v207l53 w116))))))
 (pN Tryz.prog (oCall 16 []) w117 fun x232 w123 =>
 Q x232 w123))))
theorem pithlaw14_LzencExact.calls [Pan] {x0 x1 : Value} {w : World} {Q : Value → World → Prop} (h : pithlaw14_LzencExact.F x0 x1 w Q) : Calls Tryz.prog 4 #[x0, x1] w (retP Q) := calls_lift mixed pithlaw14_LzencExact.H [x0, x1] Tryz.func4 (by kernel_rfl) (by kernel_rfl) h

def pithlaw14_num.F [Pan] (x0 : Value) (w : World) (Q : Value → World → Prop) : Prop :=
 Q x0 w
theorem pithlaw14_num.calls [Pan] {x0 : Value} {w : World} {Q : Value → World → Prop} (h : pithlaw14_num.F x0 w Q) : Calls Tryz.prog 15 #[x0] w (retP Q) := calls_lift mixed .z [x0] Tryz.func15 (by kernel_rfl) (by kernel_rfl) h

def pithlaw14_known.F [Pan]  (w : World) (Q : Value → World → Prop) : Prop :=
 pN Tryz.prog (oBuild 23 [(0, (.int .i64 3)), (2, (.int .i64 2))]) w fun x8 w1 =>
 pN Tryz.prog (oCall 13 [x8, (.int .i64 4096)]) w1 fun x9 w2 =>
 pN Tryz.prog (oExt x9 0) w2 fun x10 w3 =>
 pN Tryz.prog (oExt x9 1) w3 fun x11 w4 =>
 pN Tryz.prog (oCall 15 [x11]) w4 fun x13 w5 =>
 pN Tryz.prog (oBin .neq 3 (.tmp 13) (.const (.int .i64 0)) x13 (.int .i64 0)) w5 fun x14 w6 =>
 pGd (gB x14 false) (pN Tryz.prog (oMv x10) w6) w6 fun x16 w7 =>
 pGd (gB x14 false) (pN Tryz.prog (oBin .eql 37 (.tmp 16) (.const (.pointer none)) x16 (.pointer none)) w7) w7 fun x17 w8 =>
 pN Tryz.prog (oPick x14 (.bool true) x17) w8 fun x18 w9 =>
 pGd (gB x18 false) (pN Tryz.prog (oMv x10) w9) w9 fun x20 w10 =>
 pGd (gB x18 false) (pN Tryz.prog (oCall 32 [x20]) w10) w10 fun x21 w11 =>
 pGd (gB x18 false) (pN Tryz.prog (oBin .neq 3 (.tmp 21) (.const (.int .i64 5)) x21 (.int .i64 5)) w11) w11 fun x22 w12 =>
 pN Tryz.prog (oPick x18 (.bool true) x22) w12 fun x23 w13 =>
 pIf x23
 (Q (.bool false) w13)
 (pN Tryz.prog (oBuild 48 [(0, (.int .i64 1)), (1, (bv 255))]) w13 fun x26 w14 =>
 pN Tryz.prog (oCall 19 [x10, x26]) w14 fun x27 w15 =>
 pN Tryz.prog (oExt x27 0) w15 fun x28 w16 =>
 pN Tryz.prog (oExt x27 1) w16 fun x29 w17 =>
 pN Tryz.prog (oBuild 48 [(0, (.int .i64 2)), (2, (.int .i64 2)), (3, (.int .i64 1))]) w17 fun x32 w18 =>
 pN Tryz.prog (oCall 19 [x10, x32]) w18 fun x33 w19 =>
 pN Tryz.prog (oExt x33 0) w19 fun x34 w20 =>
 pN Tryz.prog (oExt x33 1) w20 fun x35 w21 =>
 pN Tryz.prog (oBin .eql 3 (.tmp 36) (.const (.int .i64 152)) x28 (.int .i64 152)) w21 fun x37 w22 =>
 pGd (gB x37 true) (pN Tryz.prog (oMv x29) w22) w22 fun x39 w23 =>
 pGd (gB x37 true) (pN Tryz.prog (oCall 15 [x39]) w23) w23 fun x40 w24 =>
 pGd (gB x37 true) (pN Tryz.prog (oBin .eql 3 (.tmp 40) (.const (.int .i64 0)) x40 (.int .i64 0)) w24) w24 fun x41 w25 =>
 pN Tryz.prog (oPick x37 x41 (.bool false)) w25 fun x42 w26 =>
 pGd (gB x42 true) (pN Tryz.prog (oMv x34) w26) w26 fun x44 w27 =>
 pGd (gB x42 true) (pN Tryz.prog (oBin .eql 3 (.tmp 44) (.const (.int .i64 0)) x44 (.int .i64 0)) w27) w27 fun x45 w28 =>
 pN Tryz.prog (oPick x42 x45 (.bool false)) w28 fun x46 w29 =>
 pGd (gB x46 true) (pN Tryz.prog (oMv x35) w29) w29 fun x48 w30 =>
 pGd (gB x46 true) (pN Tryz.prog (oCall 15 [x48]) w30) w30 fun x49 w31 =>
 pGd (gB x46 true) (pN Tryz.prog (oBin .eql 3 (.tmp 49) (.const (.int .i64 7)) x49 (.int .i64 7)) w31) w31 fun x50 w32 =>
 pN Tryz.prog (oPick x46 x50 (.bool false)) w32 fun x51 w33 =>
 pGd (gB x51 true) (pN Tryz.prog (oMv x10) w33) w33 fun x53 w34 =>
 pGd (gB x51 true) (pN Tryz.prog (oCall 21 [x53]) w34) w34 fun x54 w35 =>
 pGd (gB x51 true) (pN Tryz.prog (oConv 30 9 x54) w35) w35 fun x55 w36 =>
 pGd (gB x51 true) (pN Tryz.prog (oBin .eql 9 (.tmp 55) (.const (.string ⟨#[0, 0, 0, 0, 0]⟩)) x55 (.string ⟨#[0, 0, 0, 0, 0]⟩)) w36) w36 fun x56 w37 =>
 pN Tryz.prog (oPick x51 x56 (.bool false)) w37 fun x57 w38 =>
 Q x57 w38)
theorem pithlaw14_known.calls [Pan]  {w : World} {Q : Value → World → Prop} (h : pithlaw14_known.F  w Q) : Calls Tryz.prog 16 #[] w (retP Q) := calls_lift mixed .z [] Tryz.func16 (by kernel_rfl) (by kernel_rfl) h

def pithlaw14_room.F [Pan] (x0 : Value) (w : World) (Q : Value → World → Prop) : Prop :=
 pN Tryz.prog (oBi .append #[30, 30] 30 [false, false] [(.slice none 0 0), x0]) w fun x6 w1 =>
 pN Tryz.prog (oBs 30 1 [(0, (bv 109))]) w1 fun x8 w2 =>
 pN Tryz.prog (oBi .append #[30, 30] 30 [false, false] [x6, x8]) w2 fun x9 w3 =>
 Q x9 w3
theorem pithlaw14_room.calls [Pan] {x0 : Value} {w : World} {Q : Value → World → Prop} (h : pithlaw14_room.F x0 w Q) : Calls Tryz.prog 23 #[x0] w (retP Q) := calls_lift mixed .z [x0] Tryz.func23 (by kernel_rfl) (by kernel_rfl) h

end Go.Proofs.YtbgnnjfpiblkmaaGreatDoor

namespace Go.Proofs.YtbgnnjfpiblkmaaGreatDoor
open Go

theorem pN_ifc {en : Nat} {w : World} {K : Value → World → Prop} (hk : K (codingV en) w) : pN Tryz.prog (oIface 136 (.agg #[pz en])) w K := by
  have : (oIface 136 (.agg #[pz en])).run Tryz.prog w = .ok (.value (codingV en)) w := by kernel_rfl
  rw [pN_def, this, rN_value]; exact hk
theorem pN_ifs {en : Nat} {w : World} {K : Value → World → Prop} (hk : K (costingV en) w) : pN Tryz.prog (oIface 156 (pz en)) w K := by
  have : (oIface 156 (pz en)).run Tryz.prog w = .ok (.value (costingV en)) w := by kernel_rfl
  rw [pN_def, this, rN_value]; exact hk

def LEnc (b : Nat) (e : Z.EZ) : HA := fun h => ∃ k : Nat × Nat × Nat × (Nat → Nat), e.Ok ∧ Sats [cel b ⟨128, encCells k.1 k.2.1 k.2.2.1⟩, cel k.1 ⟨141, tbCells e.p e.st k.2.2.2⟩, Win k.2.1 e.x, Enc k.2.2.1 e.s, tabs k.2.2.2 e.T] h
section
variable {E w : World} {M : List HA} {b t wd en : Nat} {q : Nat → Nat} {e : Z.EZ}
theorem LEnc.opn (hS : Sat E w (LEnc b e :: M)) : e.Ok ∧ ∃ t wd en q, Sat E w (cel b ⟨128, encCells t wd en⟩ :: cel t ⟨141, tbCells e.p e.st q⟩ :: Win wd e.x :: Enc en e.s :: tabs q e.T :: M) := by
  obtain ⟨k, hS⟩ := hS.ex
  obtain ⟨h1, ⟨hA, _⟩, _⟩ := hS.head
  exact ⟨hA, k.1, k.2.1, k.2.2.1, k.2.2.2, hS.open_ (M := [_, _, _, _, _]) fun _ h => h.2⟩
theorem LEnc.shut (hS : Sat E w (cel b ⟨128, encCells t wd en⟩ :: cel t ⟨141, tbCells e.p e.st q⟩ :: Win wd e.x :: Enc en e.s :: tabs q e.T :: M)) (he : e.Ok) : Sat E w (LEnc b e :: M) :=
  Sat.shut (M := [_, _, _, _, _]) hS fun _ h => ⟨(t, wd, en, q), he, h⟩
theorem cel_conv {E w : World} {M : List HA} {t : Nat} {o o' : Ob} (h : o = o') (hS : Sat E w (cel t o :: M)) : Sat E w (cel t o' :: M) := h ▸ hS
def capT (T : Nat → List Int) (i : Nat) : List Int := if i < 18 then T i else []
theorem capT_eq (q : Nat → Nat) (T : Nat → List Int) : tabs q T = tabs q (capT T) := tabs_congr (fun _ _ => rfl) fun i hi => by rw [capT, if_pos hi]
theorem capT_ok {p : Z.Pr} (hp : p.Ok) {T : Nat → List Int} (h : Z.TabOk p T) : ∀ i, (capT T i).length ≤ 1048576 := fun i => by
  unfold capT
  split
  · exact Z.tab_small hp h i (by assumption)
  · exact Nat.zero_le _
end
attribute [local irreducible] oMv oV oU oCall oCallV oBi oBin oUn oLoad oStore oNil oFld oField oIdx oIndex oPick oAlloc oBox oBuild oBs oConv oMk oSl oExt oFn oIface oMap oLook oMapUp oRange oNext oEntry oInv oAssert oPanic oRes pN pA pL pDr pIf gA pGd

section
variable {E w W : World} {M N : List HA} {Q : Value → World → Prop} {b : Nat} {e : Z.EZ} {y : Z.Y}

theorem LNew_in {p : Z.Pr} (hS : Sat E w M) (hp : p.Ok) (d : Int) (h0 : 1 ≤ d) (h1 : d ≤ 4294967295) (hQ : ∀ b w, Sat E w (LEnc b (Z.EZ.new p d) :: M) → Q (.tuple #[pz b, .int .i64 0]) w) :
    Calls Tryz.prog 13 #[.agg #[.int .i64 p.lc, .int .i64 p.lp, .int .i64 p.pb], .int .i64 d] w (retP Q) := by
  refine lzenc_New.calls ?_
  unfold lzenc_New.F
  repeat' (first | (refine pc_state_PropsByte (PropsByte_in p hp hS ?_); clear hS; intro w hS) | (refine pc_window_New (WNew_in hS d h0 h1 ?_); clear hS; intro wd w hS) | (refine pc_model_New (MNew_ok hp hS ?_); clear hS; intro t q w hS) | (refine pc_rcenc_New (NewE_ok hS ?_); clear hS; intro en w hS) | (refine pN_neq_s ?_ ?_ <;> intro hc <;> try (exfalso; first | omega | exact hc rfl | exact hc (by assumption) | exact absurd hc (by assumption))) | refine pIf_f ?_ | refine pN_la hS (by rfl) ?_ | (refine pN_bx hS (by rfl) ?_; clear hS; intro a w hS) | refine pN_v (hk := ?_) | fail)
  exact hQ _ _ (LEnc.shut (e := ⟨p, Z.St.new, Z.T0 p, ⟨d, []⟩, R.S.new⟩) (t := t) (wd := wd) (en := en) (q := q) hS.to (Z.EZ.Ok.new hp d))
theorem LNew_no {p : Z.Pr} (hS : Sat E w M) (d : Int) (hpb : -9223372036854775808 ≤ p.lc ∧ p.lc < 9223372036854775808) (h : ¬ (p.Ok ∧ 1 ≤ d ∧ d ≤ 4294967295)) (hQ : ∀ w, Sat E w M → Q (.tuple #[.pointer none, .int .i64 (if p.Ok then 7 else 6)]) w) :
    Calls Tryz.prog 13 #[.agg #[.int .i64 p.lc, .int .i64 p.lp, .int .i64 p.pb], .int .i64 d] w (retP Q) := by
  refine lzenc_New.calls ?_
  unfold lzenc_New.F
  by_cases hp : p.Ok
  · rw [if_pos hp] at hQ
    repeat' (first | (refine pc_state_PropsByte (PropsByte_in p hp hS ?_); clear hS; intro w hS) | (refine pc_window_New (WNew_no d (fun hd => h ⟨hp, hd⟩) ?_)) | (refine pN_neq_s ?_ ?_ <;> intro hc <;> try (exfalso; first | omega | exact hc rfl | exact hc (by assumption) | exact absurd hc (by assumption))) | refine pIf_t ?_ | refine pIf_f ?_ | refine pN_la hS (by rfl) ?_ | (refine pN_bx hS (by rfl) ?_; clear hS; intro a w hS) | refine pN_v (hk := ?_) | fail)
    exact hQ _ hS.to
  · rw [if_neg hp] at hQ
    repeat' (first | (refine pc_state_PropsByte (PropsByte_no p hp hpb hS ?_); clear hS; intro w hS) | (refine pN_neq_s ?_ ?_ <;> intro hc <;> try (exfalso; first | omega | exact hc rfl | exact hc (by assumption) | exact absurd hc (by assumption))) | refine pIf_t ?_ | refine pN_la hS (by rfl) ?_ | (refine pN_bx hS (by rfl) ?_; clear hS; intro a w hS) | refine pN_v (hk := ?_) | fail)
    exact hQ _ hS.to

theorem LSize_ok (hS : Sat E w (LEnc b e :: M)) (hk : e.s.k ≤ 140737488355328) (hQ : ∀ w, Sat E w (LEnc b e :: M) → Q (.int .i64 (e.s.k + 5 : Nat)) w) :
    Calls Tryz.prog 32 #[pz b] w (retP Q) := by
  refine lzenc_Encoder_Size.calls ?_
  unfold lzenc_Encoder_Size.F
  obtain ⟨he, t, wd, en, q, hS⟩ := LEnc.opn hS
  repeat' (first | (refine pc_rcenc_Encoder_Size (Size_ok (hS.fd (Enc en)) hk ?_); clear hS; intro w hS) | refine pN_l hS (by first | rfl | assumption) ?_ | refine pN_v (hk := ?_) | fail)
  exact hQ _ (LEnc.shut (t := t) (wd := wd) (en := en) (q := q) hS.to he)

theorem LCut_ok (hS : Sat E w (LEnc b e :: M)) (hk : e.s.k + 18 ≤ 140737488355328) (hQ : ∀ s w, Sat E w (rows cd_uint8 s e.s.bytes :: LEnc b e.cut :: M) → Q (.slice s.a e.s.bytes.length s.c) w) :
    Calls Tryz.prog 21 #[pz b] w (retP Q) := by
  refine lzenc_Encoder_Cut.calls ?_
  unfold lzenc_Encoder_Cut.F
  obtain ⟨he, t, wd, en, q, hS⟩ := LEnc.opn hS
  repeat' (first | (refine pc_rcenc_Encoder_Bytes (Bytes_ok (hS.fd (Enc en)) hk ?_); clear hS; intro sl w hS) | (refine pc_rcenc_New (NewE_ok hS ?_); clear hS; intro en2 w hS) | refine pN_l hS (by first | rfl | assumption) ?_ | (refine pN_s hS (by first | exact Nat.le_of_ble_eq_true rfl | assumption) (by rfl) ?_; clear hS; intro w hS; try simp only [List.set_cons_zero, List.set_cons_succ] at hS) | refine pN_v (hk := ?_) | fail)
  have hS : Sat E w (cel b ⟨128, encCells t wd en2⟩ :: cel t ⟨141, tbCells e.p e.st q⟩ :: Win wd e.x :: Enc en2 R.S.new :: tabs q e.T :: rows cd_uint8 sl e.s.bytes :: M) := hS.to
  have hS := LEnc.shut (e := ⟨e.p, e.st, e.T, e.x, R.S.new⟩) hS he.cut
  exact hQ _ _ (hS.perm (List.Perm.swap _ _ _))

theorem LReset_in {p : Z.Pr} (hp : p.Ok) (hS : Sat E w (LEnc b e :: M)) (hQ : ∀ w, Sat E w (LEnc b (e.reset p) :: M) → Q (.int .i64 0) w) :
    Calls Tryz.prog 26 #[pz b, .agg #[.int .i64 p.lc, .int .i64 p.lp, .int .i64 p.pb]] w (retP Q) := by
  refine lzenc_Encoder_Reset.calls ?_
  unfold lzenc_Encoder_Reset.F
  obtain ⟨he, t, wd, en, q, hS⟩ := LEnc.opn hS
  have er : e.reset p = ⟨p, Z.St.new, Z.T0 p, e.x, e.s⟩ := by rw [Z.EZ.reset, if_pos hp]
  have he2 := he.reset p
  rw [er] at hQ he2
  repeat' (first | (refine pc_state_PropsByte (PropsByte_in p hp hS ?_); clear hS; intro w hS) | (refine pc_model_New (MNew_ok hp hS ?_); clear hS; intro t2 q2 w hS) | (refine pN_neq_s ?_ ?_ <;> intro hc <;> try (exfalso; first | omega | exact hc rfl | exact hc (by assumption) | exact absurd hc (by assumption))) | refine pIf_f ?_ | refine pN_la hS (by rfl) ?_ | (refine pN_s hS (by first | exact Nat.le_of_ble_eq_true rfl | assumption) (by rfl) ?_; clear hS; intro w hS; try simp only [List.set_cons_zero, List.set_cons_succ] at hS) | (refine pN_bx hS (by rfl) ?_; clear hS; intro a w hS) | refine pN_v (hk := ?_) | fail)
  exact hQ _ (LEnc.shut (e := ⟨p, Z.St.new, Z.T0 p, e.x, e.s⟩) (t := t2) (wd := wd) (en := en) (q := q2) hS.to he2)
theorem LReset_no {p : Z.Pr} (hp : ¬ p.Ok) (hpb : -9223372036854775808 ≤ p.lc ∧ p.lc < 9223372036854775808) (hS : Sat E w (LEnc b e :: M)) (hQ : ∀ w, Sat E w (LEnc b e :: M) → Q (.int .i64 6) w) :
    Calls Tryz.prog 26 #[pz b, .agg #[.int .i64 p.lc, .int .i64 p.lp, .int .i64 p.pb]] w (retP Q) := by
  refine lzenc_Encoder_Reset.calls ?_
  unfold lzenc_Encoder_Reset.F
  repeat' (first | (refine pc_state_PropsByte (PropsByte_no p hp hpb hS ?_); clear hS; intro w hS) | (refine pN_neq_s ?_ ?_ <;> intro hc <;> try (exfalso; first | omega | exact hc rfl | exact hc (by assumption) | exact absurd hc (by assumption))) | refine pIf_t ?_ | refine pN_la hS (by rfl) ?_ | (refine pN_bx hS (by rfl) ?_; clear hS; intro a w hS) | refine pN_v (hk := ?_) | fail)
  exact hQ _ hS.to

theorem LClear_ok (hS : Sat E w (LEnc b e :: M)) (hQ : ∀ w, Sat E w (LEnc b e.clear :: M) → Q (.tuple #[]) w) :
    Calls Tryz.prog 28 #[pz b] w (retP Q) := by
  refine lzenc_Encoder_Clear.calls ?_
  unfold lzenc_Encoder_Clear.F
  obtain ⟨he, t, wd, en, q, hS⟩ := LEnc.opn hS
  repeat' (first | refine pN_la_at (n := 3) hS e.p.cells rfl rfl ?_ | (refine pc_model_New (MNew_ok he.p hS ?_); clear hS; intro t2 q2 w hS) | (refine pc_window_Window_Clear (WClear_ok (hS.fd (Win wd)) ?_); clear hS; intro w hS) | refine pN_l hS (by first | rfl | assumption) ?_ | (refine pN_s hS (by first | exact Nat.le_of_ble_eq_true rfl | assumption) (by rfl) ?_; clear hS; intro w hS; try simp only [List.set_cons_zero, List.set_cons_succ] at hS) | refine pN_v (hk := ?_) | fail)
  exact hQ _ (LEnc.shut (e := ⟨e.p, Z.St.new, Z.T0 e.p, ⟨e.x.size, []⟩, e.s⟩) (t := t2) (wd := wd) (en := en) (q := q2) hS.to he.clear)

theorem LFork_ok (hS : Sat E w (LEnc b e :: M)) (hk : e.s.k + 8 ≤ 140737488355328) (hQ : ∀ c w, Sat E w (LEnc c e :: LEnc b e :: M) → Q (pz c) w) :
    Calls Tryz.prog 30 #[pz b] w (retP Q) := by
  refine lzenc_Encoder_Fork.calls ?_
  unfold lzenc_Encoder_Fork.F
  obtain ⟨he, t, wd, en, q, hS⟩ := LEnc.opn hS
  repeat' (first | refine pL_l hS (by first | rfl | assumption) ?_ | (refine pDr_go hS ?_; clear hS; intro w hS) | refine pA_v (hk := ?_) | fail)
  have hT := capT_ok he.p he.T
  rw [capT_eq q e.T] at hS
  refine pc_model_Tables_Fork (MFork_ok (p := e.p) (s := e.st) (T := capT e.T) (hS.fd (cel t) |>.hs2 (cel t _) (tabs q (capT e.T))) hT fun t2 q2 w hS => ?_)
  rw [← capT_eq q e.T, ← capT_eq q2 e.T] at hS
  repeat' (first | (refine pc_window_Window_Fork (WFork_ok (hS.fd (Win wd)) ?_); clear hS; intro wd2 w hS) | (refine pc_rcenc_Encoder_Fork (Fork_ok' (hS.fd (Enc en)) hk ?_); clear hS; intro en2 w hS) | (refine pN_bx hS (by rfl) ?_; clear hS; intro a w hS) | refine ⟨trivial, ?_⟩ | refine ⟨⟨(by first | exact run_l hS (by first | rfl | assumption) | exact run_st hS (by first | rfl | omega) | exact run_ld1 ha hS | exact fun _ => run_l hS (by rfl) | exact fun _ => run_st hS (by first | rfl | omega) | exact fun _ => run_ld1 ha hS | exact fun h => Bool.noConfusion h), trivial⟩, ?_⟩ | refine ⟨⟨(by first | exact run_l hS (by first | rfl | assumption) | exact run_st hS (by first | rfl | omega) | exact run_ld1 ha hS | exact fun _ => run_l hS (by rfl) | exact fun _ => run_st hS (by first | rfl | omega) | exact fun _ => run_ld1 ha hS | exact fun h => Bool.noConfusion h), (by first | exact run_l hS (by first | rfl | assumption) | exact run_st hS (by first | rfl | omega) | exact run_ld1 ha hS | exact fun _ => run_l hS (by rfl) | exact fun _ => run_st hS (by first | rfl | omega) | exact fun _ => run_ld1 ha hS | exact fun h => Bool.noConfusion h), trivial⟩, ?_⟩ | refine pN_v (hk := ?_) | fail)
  have hS : Sat E w (cel a ⟨128, encCells t2 wd2 en2⟩ :: cel t2 ⟨141, tbCells e.p e.st q2⟩ :: Win wd2 e.x :: Enc en2 e.s :: tabs q2 e.T :: cel b ⟨128, encCells t wd en⟩ :: cel t ⟨141, tbCells e.p e.st q⟩ :: Win wd e.x :: Enc en e.s :: tabs q e.T :: M) := hS.to
  have hS := LEnc.shut (e := e) hS he
  have hS : Sat E w (cel b ⟨128, encCells t wd en⟩ :: cel t ⟨141, tbCells e.p e.st q⟩ :: Win wd e.x :: Enc en e.s :: tabs q e.T :: LEnc a e :: M) := hS.to
  have hS := LEnc.shut (e := e) hS he
  exact hQ _ _ (hS.perm (List.Perm.swap _ _ _))

set_option maxHeartbeats 2000000 in
theorem LCost_ok (hG : Glo W) (hS : Sat E w (LEnc b e :: M)) [h : Has (old W) M N] (hn : e.x.all.length ≤ 4611686018427387904)
    (hQ : ∀ w, Sat E w (LEnc b e :: M) → Q (.tuple #[.int .i64 (e.cost y), .int .i64 (e.may y)]) w) :
    Calls Tryz.prog 19 #[pz b, .agg #[.int .i64 y.Kind, bv y.Byte, .int .i64 y.Len, .int .i64 y.Dist]] w (retP Q) := by
  refine lzenc_Encoder_Cost.calls ?_
  unfold lzenc_Encoder_Cost.F
  obtain ⟨he, t, wd, en, q, hS⟩ := LEnc.opn hS
  by_cases hm : e.may y = 0
  · have hy := Z.may_err hm
    have hcost : e.cost y = Z.costO e.T (e.ops y) := by rw [Z.EZ.cost, if_pos hm]
    have hm' : Z.may e.x e.st y = 0 := hm
    rw [hcost, hm] at hQ
    repeat' (first | (refine pc_lzenc_Encoder_may (may_ok hG he.st (hS.fd3 (cel b) (cel t) (Win wd)) ?_); rw [hm']; clear hS; intro w hS) | refine pN_ifs ?_ | (refine pN_neq_s ?_ ?_ <;> intro hc <;> try (exfalso; first | omega | exact hc rfl | exact hc (by assumption) | exact absurd hc (by assumption))) | refine pIf_f ?_ | refine pN_la hS (by rfl) ?_ | (refine pN_nz hS ?_; clear hS; intro a w hS) | (refine pN_bx hS (by rfl) ?_; clear hS; intro a w hS) | fail)
    have hS := cstX.shut (p := e.p) (a := a) (q := q) (T := e.T) (m := []) (fun _ h => (by cases h)) (hS.hs2 (cel a ⟨155, [.int .i64 0]⟩) (tabs q e.T)) rfl
    refine pc_lzenc_Encoder_code (code_ok (X := cstX e.p a q e.T) (cst_snk he.p he.T) he.p he.st hy hS hn fun w hS => ?_)
    obtain ⟨_, hS⟩ := cstX.opn hS
    repeat' (first | refine pN_l hS (by first | rfl | assumption) ?_ | refine pN_v (hk := ?_) | fail)
    exact hQ _ (LEnc.shut (t := t) (wd := wd) (en := en) (q := q) hS.to he)
  · have hcost : e.cost y = 0 := by rw [Z.EZ.cost, if_neg hm]
    rw [hcost] at hQ
    have hm' : ¬ Z.may e.x e.st y = 0 := hm
    repeat' (first | (refine pc_lzenc_Encoder_may (may_ok hG he.st (hS.fd3 (cel b) (cel t) (Win wd)) ?_); clear hS; intro w hS) | (refine pN_neq_s ?_ ?_ <;> intro hc <;> try (exfalso; first | omega | exact hc rfl | exact hc (by assumption) | exact absurd hc (by assumption))) | refine pIf_t ?_ | refine pN_la hS (by rfl) ?_ | (refine pN_bx hS (by rfl) ?_; clear hS; intro a w hS) | fail)
    exact hQ _ (LEnc.shut (t := t) (wd := wd) (en := en) (q := q) hS.to he)

set_option maxHeartbeats 2000000 in
theorem LPut_ok (hG : Glo W) (hS : Sat E w (LEnc b e :: M)) [h : Has (old W) M N] (hn : e.x.all.length + 273 ≤ 4611686018427387904) (hk : e.s.k + 1000 ≤ 140737488355328)
    (hQ : ∀ w, Sat E w (LEnc b (e.put y) :: M) → Q (.int .i64 (e.may y)) w) :
    Calls Tryz.prog 17 #[pz b, .agg #[.int .i64 y.Kind, bv y.Byte, .int .i64 y.Len, .int .i64 y.Dist]] w (retP Q) := by
  refine lzenc_Encoder_Put.calls ?_
  unfold lzenc_Encoder_Put.F
  obtain ⟨he, t, wd, en, q, hS⟩ := LEnc.opn hS
  by_cases hm : e.may y = 0
  · have hy := Z.may_err hm
    have hput : e.put y = e.put1 y := by rw [Z.EZ.put, if_pos hm]
    have hm' : Z.may e.x e.st y = 0 := hm
    rw [hput, hm] at hQ
    repeat' (first | (refine pc_lzenc_Encoder_may (may_ok hG he.st (hS.fd3 (cel b) (cel t) (Win wd)) ?_); rw [hm']; clear hS; intro w hS) | refine pN_ifc ?_ | refine pL_la_at hS _ (by rfl) (by rfl) ?_ | refine ⟨⟨run_la_at hS _ (by rfl) (by rfl), trivial⟩, ?_⟩ | (refine pN_neq_s ?_ ?_ <;> intro hc <;> try (exfalso; first | omega | exact hc rfl | exact hc (by assumption) | exact absurd hc (by assumption))) | refine pIf_f ?_ | refine pL_l hS (by first | rfl | assumption) ?_ | refine pN_la hS (by rfl) ?_ | (refine pDr_go hS ?_; clear hS; intro w hS) | (refine pN_bx hS (by rfl) ?_; clear hS; intro a w hS) | refine pN_v (hk := ?_) | refine pA_v (hk := ?_) | fail)
    have hS := codX.shut (p := e.p) (en := en) (q := q) (z := ⟨e.s, e.T⟩) (m := []) (fun _ h => (by cases h)) (hS.hs2 (Enc en e.s) (tabs q e.T)) rfl
    refine pc_lzenc_Encoder_code (code_ok (X := codX e.p en q ⟨e.s, e.T⟩) (cod_snk he.p ⟨he.s, he.T⟩ hk) he.p he.st hy hS (by omega) fun w hS => ?_)
    obtain ⟨_, hS⟩ := codX.opn hS
    have hput1 := (he.put1 hm).1
    unfold Z.EZ.put1 Z.EZ.es Z.EZ.ops at hQ hput1
    generalize Z.runO ⟨e.s, e.T⟩ (Z.symOps e.p e.st e.x y) = zz at *
    repeat' (first | refine pL_la_at hS _ (by rfl) (by rfl) ?_ | refine ⟨trivial, ?_⟩ | refine pL_l hS (by first | rfl | assumption) ?_ | (refine pDr_go hS ?_; clear hS; intro w hS) | refine ⟨trivial, ?_⟩ | refine pA_v (hk := ?_) | fail)
    refine ⟨?_, ?_⟩
    · repeat' (first | (refine pc_symbol_Apply (Apply_in hG (hS.fd (Win wd)) he.st hm' hn ?_); clear hS; intro s' w hS) | (refine pN_sa hS (by rfl) (by rfl) (by rfl) ?_; clear hS; intro w hS; try dsimp only at hS) | (refine pN_nz hS ?_; clear hS; intro a w hS) | refine ⟨trivial, ?_⟩ | refine pA_v (hk := ?_) | fail)
      refine ⟨fun w => Sat E w (cel b ⟨128, encCells t wd en⟩ :: cel t ⟨141, tbCells e.p (e.st.next y) q⟩ :: Win wd (e.x.put (Z.made e.x e.st y)) :: Enc en zz.s :: tabs q zz.T :: M), ?_, ?_⟩
      · repeat' (first | refine pL_la_at (n := 5) hS (e.st.next y).cells rfl rfl ?_ | (refine pN_sa_at (us := (e.st.next y).cells) hS rfl (Nat.le_of_ble_eq_true rfl) rfl ?_; clear hS; intro w hS) | (refine pN_eql_s ?_ ?_ <;> intro hc <;> try (exfalso; first | omega | exact hc rfl | exact hc (by assumption) | exact absurd hc (by assumption))) | refine pIf_t ?_ | refine pL_l hS (by first | rfl | assumption) ?_ | (refine pDr_go hS ?_; clear hS; intro w hS) | refine ⟨trivial, ?_⟩ | refine pA_v (hk := ?_) | fail)
        have hS := cel_conv (o' := ⟨141, tbCells e.p (e.st.next y) q⟩) rfl hS
        exact hS.to
      · clear hS
        rintro _ w hS
        exact hQ _ (LEnc.shut (e := ⟨e.p, e.st.next y, zz.T, e.x.put (Z.made e.x e.st y), zz.s⟩) (t := t) (wd := wd) (en := en) (q := q) hS.to hput1)
    · repeat' (first | refine ⟨⟨run_la_at hS _ (by rfl) (by rfl), run_la_at (n := 5) hS e.st.cells rfl rfl, run_l hS (by rfl), run_l hS (by rfl), trivial⟩, ?_⟩ | (refine pc_symbol_Apply (Apply_in hG (hS.fd (Win wd)) he.st hm' hn ?_); clear hS; intro s' w hS) | (refine pN_sa hS (by rfl) (by rfl) (by rfl) ?_; clear hS; intro w hS; try dsimp only at hS) | (refine pN_nz hS ?_; clear hS; intro a w hS) | refine ⟨trivial, ?_⟩ | refine pA_v (hk := ?_) | fail)
      refine ⟨fun w => Sat E w (cel b ⟨128, encCells t wd en⟩ :: cel t ⟨141, tbCells e.p (e.st.next y) q⟩ :: Win wd (e.x.put (Z.made e.x e.st y)) :: Enc en zz.s :: tabs q zz.T :: M), ?_, ?_⟩
      · repeat' (first | refine pL_la_at (n := 5) hS (e.st.next y).cells rfl rfl ?_ | (refine pN_sa_at (us := (e.st.next y).cells) hS rfl (Nat.le_of_ble_eq_true rfl) rfl ?_; clear hS; intro w hS) | (refine pN_eql_s ?_ ?_ <;> intro hc <;> try (exfalso; first | omega | exact hc rfl | exact hc (by assumption) | exact absurd hc (by assumption))) | refine pIf_t ?_ | refine pL_l hS (by first | rfl | assumption) ?_ | (refine pDr_go hS ?_; clear hS; intro w hS) | refine ⟨trivial, ?_⟩ | refine pA_v (hk := ?_) | fail)
        have hS := cel_conv (o' := ⟨141, tbCells e.p (e.st.next y) q⟩) rfl hS
        exact hS.to
      · clear hS
        rintro _ w hS
        exact hQ _ (LEnc.shut (e := ⟨e.p, e.st.next y, zz.T, e.x.put (Z.made e.x e.st y), zz.s⟩) (t := t) (wd := wd) (en := en) (q := q) hS.to hput1)
  · have hput : e.put y = e := by rw [Z.EZ.put, if_neg hm]
    rw [hput] at hQ
    have hm' : ¬ Z.may e.x e.st y = 0 := hm
    repeat' (first | (refine pc_lzenc_Encoder_may (may_ok hG he.st (hS.fd3 (cel b) (cel t) (Win wd)) ?_); clear hS; intro w hS) | (refine pN_neq_s ?_ ?_ <;> intro hc <;> try (exfalso; first | omega | exact hc rfl | exact hc (by assumption) | exact absurd hc (by assumption))) | refine pIf_t ?_ | refine pN_la hS (by rfl) ?_ | (refine pN_bx hS (by rfl) ?_; clear hS; intro a w hS) | fail)
    exact hQ _ (LEnc.shut (t := t) (wd := wd) (en := en) (q := q) hS.to he)
end

end Go.Proofs.YtbgnnjfpiblkmaaGreatDoor

namespace Go.Proofs.YtbgnnjfpiblkmaaGreatDoor
open Go

theorem laid_get12 {W : World} {l : List (String × DataW Unit)} {ps : List MemPlace} (hl : DataW.LaidVars Tryz.prog W l ps) {n : String} {g : Nat} (k : Int) (hm : (n, DataW.agg (((List.range 12).map fun i : Nat => Z.moved (i : Int) k).map fun z => .lit (.int .i64 z))) ∈ l)
    (hg : Tryz.prog.globalNamed n = some g) (ht : (Tryz.prog.globals[g]?).map (·.type) = some 234) (i : Nat) (hi : i < 12) : W.cell? ⟨g, i, none⟩ = some (.int .i64 (Z.moved i k)) :=
  laid_ints hl ((List.range 12).map fun i : Nat => Z.moved (i : Int) k) hm hg ht Tryz.underlying234 (by kernel_rfl) Tryz.underlying3 i (Z.moved i k) hi (by rw [List.getElem?_map, List.getElem?_range hi]; rfl)

theorem glo_of_laid {W : World} {l : List (String × DataW Unit)} (h : laidMetH Tryz.prog l W) (hp : (l.filter fun x => x.2.handleName?.isSome) = []) (m1 : ("pith/state.afterLit", Rows.laid_pith_state_afterLit) ∈ l) (m2 : ("pith/state.afterMatch", Rows.laid_pith_state_afterMatch) ∈ l)
    (m3 : ("pith/state.afterRep", Rows.laid_pith_state_afterRep) ∈ l) (m4 : ("pith/state.afterShort", Rows.laid_pith_state_afterShort) ∈ l) : Glo W := by
  unfold laidMetH at h
  rw [hp] at h
  obtain ⟨ps, hv, _⟩ := h
  exact ⟨laid_get12 hv 1 m1 (by kernel_rfl) (by kernel_rfl), laid_get12 hv 2 m2 (by kernel_rfl) (by kernel_rfl), laid_get12 hv 3 m3 (by kernel_rfl) (by kernel_rfl), laid_get12 hv 4 m4 (by kernel_rfl) (by kernel_rfl)⟩

namespace Z
theorem known_p : (⟨3, 0, 2⟩ : Pr).Ok := by decide
theorem known_c : (EZ.new ⟨3, 0, 2⟩ 4096).cost ⟨1, 255, 0, 0⟩ = 152 ∧ (EZ.new ⟨3, 0, 2⟩ 4096).may ⟨1, 255, 0, 0⟩ = 0 := by decide +kernel
theorem known_d : (EZ.new ⟨3, 0, 2⟩ 4096).cost ⟨2, 0, 2, 1⟩ = 0 ∧ (EZ.new ⟨3, 0, 2⟩ 4096).may ⟨2, 0, 2, 1⟩ = 7 := by decide +kernel
theorem known_b : (EZ.new ⟨3, 0, 2⟩ 4096).s.bytes = [0, 0, 0, 0, 0] := by decide +kernel
end Z
attribute [local irreducible] oMv oV oU oCall oCallV oBi oBin oUn oLoad oStore oNil oFld oField oIdx oIndex oPick oAlloc oBox oBuild oBs oConv oMk oSl oExt oFn oIface oMap oLook oMapUp oRange oNext oEntry oInv oAssert oPanic oRes pN pA pL pDr pIf gA pGd

section
variable {E w W : World} {M N : List HA} {Q : Value → World → Prop}

theorem num14_ok (n : Int) (h : -9223372036854775808 ≤ n ∧ n < 9223372036854775808) (hQ : Q (.int .i64 n) w) : Calls Tryz.prog 15 #[.int .i64 n] w (retP Q) := by
  refine pithlaw14_num.calls ?_
  unfold pithlaw14_num.F
  skip
  exact hQ

set_option maxRecDepth 8000 in
set_option maxHeartbeats 1000000 in
theorem known14_ok (hG : Glo W) (hS : Sat E w M) [h : Has (old W) M N] (hQ : ∀ w, Sat E w M → Q (.bool true) w) : Calls Tryz.prog 16 #[] w (retP Q) := by
  refine pithlaw14_known.calls ?_
  unfold pithlaw14_known.F
  obtain ⟨c1, c2⟩ := Z.known_c
  obtain ⟨d1, d2⟩ := Z.known_d
  have hbk := Z.known_b
  have hk0 : (Z.EZ.new ⟨3, 0, 2⟩ 4096).s.k = 0 := rfl
  have hx0 : (Z.EZ.new ⟨3, 0, 2⟩ 4096).x.all.length = 0 := rfl
  repeat' (first | refine pN_v (hk := ?_) | fail)
  refine pc_lzenc_New (LNew_in (p := ⟨3, 0, 2⟩) hS Z.known_p 4096 (by decide) (by decide) fun b w hS => ?_)
  generalize Z.EZ.new ⟨3, 0, 2⟩ 4096 = e at *
  repeat' (first | refine pc_pithlaw14_num (num14_ok _ (by omega) ?_) | (refine pN_neq_s ?_ ?_ <;> intro hc <;> try (exfalso; first | omega | exact hc rfl | exact hc (by assumption) | exact absurd hc (by assumption))) | refine pGd_go (by rfl) ?_ | refine pN_v (hk := ?_) | fail)
  refine pc_lzenc_Encoder_Size (LSize_ok hS (by omega) fun w hS => ?_)
  rw [hk0]
  repeat' (first | (refine pN_neq_s ?_ ?_ <;> intro hc <;> try (exfalso; first | omega | exact hc rfl | exact hc (by assumption) | exact absurd hc (by assumption))) | refine pIf_f ?_ | refine pGd_go (by rfl) ?_ | refine pN_v (hk := ?_) | fail)
  refine pc_lzenc_Encoder_Cost (LCost_ok (y := ⟨1, 255, 0, 0⟩) hG hS (by omega) fun w hS => ?_)
  rw [c1, c2]
  repeat' (first | refine pN_v (hk := ?_) | fail)
  refine pc_lzenc_Encoder_Cost (LCost_ok (y := ⟨2, 0, 2, 1⟩) hG hS (by omega) fun w hS => ?_)
  rw [d1, d2]
  repeat' (first | refine pc_pithlaw14_num (num14_ok _ (by omega) ?_) | (refine pN_eql_s ?_ ?_ <;> intro hc <;> try (exfalso; first | omega | exact hc rfl | exact hc (by assumption) | exact absurd hc (by assumption))) | refine pGd_go (by rfl) ?_ | refine pN_v (hk := ?_) | fail)
  refine pc_lzenc_Encoder_Cut (LCut_ok hS (by omega) fun sc w hS => ?_)
  rw [hbk] at hS ⊢
  repeat' (first | (refine pN_eql_ss ?_ ?_ <;> intro hc <;> try (exfalso; first | omega | exact hc rfl | exact hc (by assumption) | exact absurd hc (by assumption))) | refine pGd_go (by rfl) ?_ | refine pN_st hS (by first | rfl | omega | simpa only [go_sem] using True.intro | (simp only [go_sem]; omega)) ?_ | refine pN_v (hk := ?_) | fail)
  exact hQ _ hS.to
end

end Go.Proofs.YtbgnnjfpiblkmaaGreatDoor

namespace Go.Proofs.YtbgnnjfpiblkmaaGreatDoor
open Go
namespace Z

theorem bitsRd_ok {p : Pr} {t : Nat} {at_ : Int} {N : Nat} (ht : t < 18) (h0 : 0 ≤ at_) (h1 : at_ + 2 ^ N ≤ tabLen p t) : ∀ (n : Nat) {l : List Int}, R.Bits l → l.length + n = N → (bitsRd t at_ n l).Ok p
  | 0, _, _, _ => trivial
  | n + 1, l, hb, hl => by
    have hn := R.nodeL_bd hb
    have p1 : (2 : Int) ^ (l.length + 1) ≤ 2 ^ N := two_le' (by omega)
    have p2 : (0 : Int) < 2 ^ l.length := Int.pow_pos (by omega)
    exact ⟨.inr ⟨ht, by omega, by omega⟩, fun b h => bitsRd_ok ht h0 h1 n (hb.snoc h) (by rw [List.length_append, List.length_cons, List.length_nil]; omega)⟩
theorem treeRd_ok {p : Pr} {back : Bool} {t : Nat} {at_ : Int} {n : Nat} (ht : t < 18) (h0 : 0 ≤ at_) (h1 : at_ + 2 ^ n ≤ tabLen p t) : (treeRd back t at_ n).Ok p :=
  (bitsRd_ok ht h0 h1 n (fun _ h => by cases h) (by simp)).map
theorem dirRd_ok {p : Pr} : ∀ (n : Nat) {v : Int}, (dirRd n v).Ok p
  | 0, _ => trivial
  | n + 1, _ => ⟨.inl rfl, fun _ _ => dirRd_ok n⟩
theorem litGoRd_ok {p : Pr} {f t : Int} (hf : 0 ≤ f ∧ f + 768 ≤ tabLen p 6) : ∀ (i : Nat) {m : Int} {same : Bool}, i ≤ 8 → 1 ≤ m → m < 2 ^ (9 - i) → (litGoRd f t i m same).Ok p
  | 0, _, _, _, _, _ => trivial
  | i + 1, m, same, hi, h1, h2 => by
    have e : 9 - i = (9 - (i + 1)) + 1 := by omega
    have hm : m < 256 := by
      have : (2 : Int) ^ (9 - (i + 1)) ≤ 2 ^ 8 := two_le' (by omega)
      have e8 : (2 : Int) ^ 8 = 256 := by decide
      omega
    refine ⟨.inr ⟨by decide, by split <;> omega, by split <;> omega⟩, fun b hb => litGoRd_ok hf i (by omega) (by omega) ?_⟩
    rw [e, Int.pow_succ]
    omega
theorem litRd_ok {p : Pr} (hp : p.Ok) (s : St) (x : W) : (litRd p s x).Ok p := by
  have hl := (lastOr x 1).toNat_lt
  have hc := context_bd hp x.all.length (lastOr x 1).toNat (by omega) (by omega)
  have e8 : (2 : Int) ^ 8 = 256 := by decide
  unfold litRd
  split
  · exact treeRd_ok (by decide) hc.1 (by omega)
  · exact litGoRd_ok hc 8 (by omega) (by omega) (by decide)
theorem lenRd_ok {p : Pr} (hp : p.Ok) {c : Nat} (hc : c = 7 ∨ c = 11) (pos : Int) : (lenRd c p pos).Ok p := by
  obtain ⟨t0, t1, t2, t3⟩ := tab_c p c hc
  have hpl := place_bd hp pos
  have e3 : (2 : Int) ^ 3 = 8 := by decide
  have e8 : (2 : Int) ^ 8 = 256 := by decide
  refine ⟨.inr ⟨by omega, by omega, by omega⟩, fun b hb => ?_⟩
  rcases hb with rfl | rfl
  · exact (treeRd_ok (by omega) (by omega) (by omega)).map
  · refine ⟨.inr ⟨by omega, by omega, by omega⟩, fun b hb => ?_⟩
    rcases hb with rfl | rfl
    · exact (treeRd_ok (by omega) (by omega) (by omega)).map
    · exact (treeRd_ok (by omega) (by omega) (by omega)).map
theorem distRd_ok (p : Pr) {n : Int} (hn : isLen n) : (distRd n).Ok p := by
  obtain ⟨n1, n2⟩ := hn
  have e6 : (2 : Int) ^ 6 = 64 := by decide
  have e4 : (2 : Int) ^ 4 = 16 := by decide
  have t15 : tabLen p 15 = 256 := rfl
  have t16 : tabLen p 16 = 128 := rfl
  have t17 : tabLen p 17 = 16 := rfl
  refine (treeRd_ok (by decide) (by omega) (by omega)).bind fun s m hs => ?_
  obtain ⟨s0, s1, _⟩ := treeRd_path.1 hs
  rw [e6] at s1
  split
  · trivial
  · split
    · have hr := rest_law s (by omega) (by omega)
      exact (treeRd_ok (by decide) hr.1 (by omega)).map
    · exact (dirRd_ok _).bind fun h m hm => (treeRd_ok (by decide) (by omega) (by omega)).map
theorem symRd_ok {p : Pr} (hp : p.Ok) {s : St} (hs : s.Right) (x : W) : (symRd p s x).Ok p := by
  have hn := hs.num
  have hpl := place_bd hp x.all.length
  have t0 : tabLen p 0 = 192 := rfl
  have t1 : tabLen p 1 = 192 := rfl
  have t2 : tabLen p 2 = 12 := rfl
  have t3 : tabLen p 3 = 12 := rfl
  have t4 : tabLen p 4 = 12 := rfl
  have t5 : tabLen p 5 = 12 := rfl
  refine ⟨.inr ⟨by decide, by omega, by omega⟩, fun b _ => ?_⟩
  dsimp only
  split
  · exact (litRd_ok hp s x).map
  refine ⟨.inr ⟨by decide, by omega, by omega⟩, fun b _ => ?_⟩
  dsimp only
  split
  · exact (lenRd_ok hp (.inl rfl) _).bind fun n m hm => (distRd_ok p (lenRd_path.1 hm).1).map
  refine ⟨.inr ⟨by decide, by omega, by omega⟩, fun b _ => ?_⟩
  dsimp only
  split
  · refine ⟨.inr ⟨by decide, by omega, by omega⟩, fun b _ => ?_⟩
    dsimp only
    split
    · trivial
    · exact (lenRd_ok hp (.inr rfl) _).map
  refine ⟨.inr ⟨by decide, by omega, by omega⟩, fun b _ => ?_⟩
  dsimp only
  split
  · exact (lenRd_ok hp (.inr rfl) _).map
  refine ⟨.inr ⟨by decide, by omega, by omega⟩, fun b _ => ?_⟩
  exact (lenRd_ok hp (.inr rfl) _).map

structure DZ where
  p : Pr
  st : St
  T : Nat → List Int
  x : W
structure DZ.Ok (e : DZ) : Prop where
  p : e.p.Ok
  st : e.st.Right
  T : TabOk e.p e.T
def DZ.new (p : Pr) (dict : Int) : DZ := ⟨p, St.new, T0 p, ⟨dict, []⟩⟩
def DZ.clear (e : DZ) : DZ := ⟨e.p, St.new, T0 e.p, ⟨e.x.size, []⟩⟩
def DZ.reset (e : DZ) (p : Pr) : DZ := if p.Ok then ⟨p, St.new, T0 p, e.x⟩ else e
def DZ.raw (e : DZ) (b : List UInt8) : DZ := ⟨e.p, e.st, e.T, e.x.put b⟩
theorem DZ.Ok.new {p : Pr} (h : p.Ok) (d : Int) : (DZ.new p d).Ok := ⟨h, St.Right.new, TabOk.new p⟩
theorem DZ.Ok.clear {e : DZ} (h : e.Ok) : e.clear.Ok := ⟨h.p, St.Right.new, TabOk.new _⟩
theorem DZ.Ok.reset {e : DZ} (h : e.Ok) (p : Pr) : (e.reset p).Ok := by
  unfold DZ.reset
  split
  · exact ⟨by assumption, St.Right.new, TabOk.new _⟩
  · exact h
theorem DZ.Ok.raw {e : DZ} (h : e.Ok) (b : List UInt8) : (e.raw b).Ok := ⟨h.p, h.st, h.T⟩

structure LS where
  st : St
  x : W
  z : RS
  out : List UInt8
  l : List Y
def LS.step (s : LS) (z : RS) (y : Y) : LS := ⟨s.st.next y, s.x.put (made s.x s.st y), z, s.out ++ made s.x s.st y, s.l ++ [y]⟩
def stepD (p : Pr) (n : Int) (s : LS) : Option LS :=
  match (symRd p s.st s.x).run s.z with
  | none => none
  | some (z, y) => if may s.x s.st y = 0 ∧ size y ≤ n - s.out.length then some (s.step z y) else none
def loopD (p : Pr) (n : Int) : Nat → LS → Option LS
  | 0, s => if (s.out.length : Int) < n then none else some s
  | f + 1, s => if (s.out.length : Int) < n then match stepD p n s with
    | none => none
    | some t => loopD p n f t
    else some s
def DZ.ls (e : DZ) (d : D.S) : LS := ⟨e.st, e.x, ⟨d, e.T⟩, [], []⟩
def DZ.take (e : DZ) (b : List UInt8) (n : Int) : Option (DZ × List Y × List UInt8) :=
  match D.start b with
  | .no _ => none
  | .ok d _ => match loopD e.p n n.toNat (e.ls d) with
    | none => none
    | some t => if t.z.d.k = t.z.d.b.length ∧ t.z.d.C = 0 then some (⟨e.p, t.st, t.z.T, t.x⟩, t.l, t.out) else none

structure LS.Ok (p : Pr) (s : LS) : Prop where
  st : s.st.Right
  z : s.z.Ok p
theorem stepD_some {p : Pr} {n : Int} {s t : LS} (h : stepD p n s = some t) : ∃ z y, (symRd p s.st s.x).run s.z = some (z, y) ∧ may s.x s.st y = 0 ∧ size y ≤ n - s.out.length ∧ t = s.step z y := by
  unfold stepD at h
  split at h
  · cases h
  · rename_i z y e
    split at h
    · rename_i hc
      exact ⟨z, y, e, hc.1, hc.2, by cases h; rfl⟩
    · cases h
theorem LS.Ok.step {p : Pr} (hp : p.Ok) {n : Int} {s t : LS} (hs : s.Ok p) (h : stepD p n s = some t) : t.Ok p ∧ t.z.d.b = s.z.d.b := by
  obtain ⟨z, y, h1, h2, _, rfl⟩ := stepD_some h
  obtain ⟨h3, h4⟩ := Rd.run_ok (symRd_ok hp hs.st s.x) hs.z h1
  exact ⟨⟨hs.st.next (may_err h2), h3⟩, h4⟩

theorem Twin.start {b : List UInt8} {d : D.S} (h : D.start b = .ok d ()) : Twin b R.S.new d := by
  obtain ⟨h1, h2, h3⟩ := D.start_ok h
  unfold D.start at h
  split at h
  · cases h
  · rename_i h5
    split at h
    · cases h
    · rename_i hc
      cases h
      refine ⟨rfl, rfl, ?_, rfl⟩
      have hb0 : b[0]? = some 0 := by
        rw [not_or] at hc
        exact Decidable.not_not.1 hc.1
      have hsplit : b.take 5 = 0 :: (b.drop 1).take 4 := by
        cases b with
        | nil => simp at hb0
        | cons x l => simp at hb0; subst hb0; rfl
      have hn := R.num_append [0] ((b.drop 1).take 4)
      simp only
      rw [hsplit]
      rw [List.singleton_append] at hn
      rw [hn, show R.num [0] = 0 from rfl, Int.zero_mul]
      rfl
end Z
end Go.Proofs.YtbgnnjfpiblkmaaGreatDoor

namespace Go.Proofs.YtbgnnjfpiblkmaaGreatDoor
open Go
namespace Z
theorem errY_vals (y : Y) : errY y = 0 ∨ errY y = 6 ∨ errY y = 7 := by
  unfold errY
  split
  · exact .inl rfl
  · split
    · split
      · exact .inl rfl
      · exact .inr (.inr rfl)
    · split
      · split
        · exact .inl rfl
        · exact .inr (.inr rfl)
      · exact .inr (.inl rfl)
theorem may_vals (e : EZ) (y : Y) : e.may y = 0 ∨ e.may y = 6 ∨ e.may y = 7 := by
  unfold EZ.may may
  split
  · exact errY_vals y
  · split
    · exact .inl rfl
    · split
      · exact .inl rfl
      · exact .inr (.inr rfl)
end Z

end Go.Proofs.YtbgnnjfpiblkmaaGreatDoor
