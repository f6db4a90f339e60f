/-
  Package model: the tables.
-/
import Derived.Test.YtbgnnjfpiblkmaaDoorLfModel
import Derived.Test.YtbgnnjfpiblkmaaDoorState
import Derived.Test.YtbgnnjfpiblkmaaDoorProb
namespace Go.Proofs.YtbgnnjfpiblkmaaDoor
open Go
set_option linter.unusedSimpArgs false
set_option linter.unnecessarySimpa false
set_option linter.unusedSectionVars false
set_option linter.unusedVariables false
namespace Z
/-- How many probabilities each table has. -/
def tabLen (p : Pr) (i : Nat) : Nat := [192, 192, 12, 12, 12, 12, 768 * 2 ^ (p.lc + p.lp).toNat, 2, 128, 128, 256, 2, 128, 128, 256, 256, 128, 16].getD i 0
def T0 (p : Pr) (i : Nat) : List Int := List.replicate (tabLen p i) 1024
structure TabOk (p : Pr) (T : Nat → List Int) : Prop where
  len : ∀ i, i < 18 → (T i).length = tabLen p i
  fine : ∀ i, B.Fine (T i)
theorem TabOk.new (p : Pr) : TabOk p (T0 p) := ⟨fun i _ => List.length_replicate, fun i => B.Fine.new _⟩
theorem tabLen_bd {p : Pr} (h : p.Ok) (i : Nat) : tabLen p i ≤ 12288 := by
  have h1 : 2 ^ (p.lc + p.lp).toNat ≤ 2 ^ 4 := Nat.pow_le_pow_right (by omega) (by unfold Pr.Ok at h; omega)
  unfold tabLen
  match i with
  | 0 | 1 | 2 | 3 | 4 | 5 | 7 | 8 | 9 | 10 | 11 | 12 | 13 | 14 | 15 | 16 | 17 => exact Nat.le_of_ble_eq_true rfl
  | 6 =>
    show 768 * 2 ^ (p.lc + p.lp).toNat ≤ 12288
    omega
  | n + 18 => simp [List.getD]
def place (p : Pr) (n : Int) : Int := n % 2 ^ p.pb.toNat
def context (p : Pr) (n : Int) (b : Int) : Int := 768 * (n % 2 ^ p.lp.toNat * 2 ^ p.lc.toNat + b / 2 ^ (8 - p.lc).toNat)
/-- Where the tree of a slot's rest begins. -/
def restAt (s : Int) : Int := if s ≤ 4 then 0 else if s = 5 then 2 else if s = 6 then 4 else if s = 7 then 8 else if s = 8 then 12 else if s = 9 then 20 else if s = 10 then 28 else if s = 11 then 44 else if s = 12 then 60 else 92
theorem rest_step (i : Int) (h0 : 4 ≤ i) (h1 : i ≤ 12) : restAt i + 1 * 2 ^ bitsN i = restAt (i + 1) ∧ 0 ≤ restAt i ∧ restAt i ≤ 92 ∧ bitsN i ≤ 5 ∧ (1 : Int) * 2 ^ bitsN i ≤ 32 ∧ 0 ≤ (1 : Int) * 2 ^ bitsN i := by
  have h4 : i = 4 ∨ i = 5 ∨ i = 6 ∨ i = 7 ∨ i = 8 ∨ i = 9 ∨ i = 10 ∨ i = 11 ∨ i = 12 := by omega
  rcases h4 with rfl | rfl | rfl | rfl | rfl | rfl | rfl | rfl | rfl <;> decide
def upd {α : Type} (f : Nat → α) (i : Nat) (a : α) (j : Nat) : α := if j = i then a else f j
theorem upd_self {α : Type} (f : Nat → α) (i : Nat) (a : α) : upd f i a i = a := by rw [upd, if_pos rfl]
theorem upd_ne {α : Type} (f : Nat → α) {i j : Nat} (a : α) (h : j ≠ i) : upd f i a j = f j := by rw [upd, if_neg h]
end Z

abbrev pz (q : Nat) : Value := .pointer (some ⟨q, 0, none⟩)
/-- The tables' own cells. -/
abbrev tbCells (p : Z.Pr) (s : Z.St) (q : Nat → Nat) : List Value :=
  [.int .i64 p.lc, .int .i64 p.lp, .int .i64 p.pb, .int .i64 s.num, .int .i64 s.r0, .int .i64 s.r1, .int .i64 s.r2, .int .i64 s.r3, pz (q 0), pz (q 1), pz (q 2), pz (q 3), pz (q 4), pz (q 5), pz (q 6), pz (q 7), pz (q 8), pz (q 9), pz (q 10), pz (q 11), pz (q 12), pz (q 13), pz (q 14), pz (q 15), pz (q 16), pz (q 17)]
abbrev pz' (f o : Nat) : Value := .pointer (some ⟨f, o, none⟩)
theorem tbCells_get (p : Z.Pr) (s : Z.St) (q : Nat → Nat) (i : Nat) (h : i < 18) : (tbCells p s q)[8 + i]? = some (pz (q i)) := by
  match i with
  | 0 | 1 | 2 | 3 | 4 | 5 | 6 | 7 | 8 | 9 | 10 | 11 | 12 | 13 | 14 | 15 | 16 | 17 => rfl
  | n + 18 => omega
theorem tbCells_set (p : Z.Pr) (s : Z.St) (q : Nat → Nat) (i c : Nat) (h : i < 18) : (tbCells p s q).set (8 + i) (pz c) = tbCells p s (Z.upd q i c) := by
  match i with
  | 0 | 1 | 2 | 3 | 4 | 5 | 6 | 7 | 8 | 9 | 10 | 11 | 12 | 13 | 14 | 15 | 16 | 17 => rfl
  | n + 18 => omega
/-- All tables. -/
def tabs (q : Nat → Nat) (T : Nat → List Int) : HA := bag ((List.range 18).map fun i => PSet (q i) (T i))

section
variable {E w : World} {L M : List HA} {q : Nat → Nat} {T : Nat → List Int}
def tabsBut (q : Nat → Nat) (T : Nat → List Int) (i : Nat) : HA := bag (((List.range 18).map fun i => PSet (q i) (T i)).eraseIdx i)
theorem tabs_out (hS : Sat E w (tabs q T :: M)) (i : Nat) (h : i < 18) : Sat E w (PSet (q i) (T i) :: tabsBut q T i :: M) :=
  hS.out i (by rw [List.getElem?_map, List.getElem?_range h]; rfl)
theorem tabs_into {i : Nat} {l : List Int} (hS : Sat E w (PSet (q i) l :: tabsBut q T i :: M)) (h : i < 18) : Sat E w (tabs q (Z.upd T i l) :: M) := by
  have h1 := Sat.into (M := (List.range 18).map fun i => PSet (q i) (T i)) (A := PSet (q i) (T i)) hS (by rw [List.getElem?_map, List.getElem?_range h]; rfl)
  have e : ((List.range 18).map fun i => PSet (q i) (T i)).set i (PSet (q i) l) = (List.range 18).map fun j => PSet (q j) (Z.upd T i l j) := by
    refine List.ext_getElem? fun j => ?_
    rw [List.getElem?_set]
    by_cases hij : i = j
    · subst hij
      rw [if_pos rfl, if_pos (by simpa using h), List.getElem?_map, List.getElem?_range h, Option.map_some, Z.upd_self]
    · rw [if_neg hij, List.getElem?_map, List.getElem?_map]
      by_cases hj : j < 18
      · rw [List.getElem?_range hj, Option.map_some, Option.map_some, Z.upd_ne _ _ (Ne.symm hij)]
      · rw [List.getElem?_eq_none (by simpa using hj)]; rfl
  rw [e] at h1
  exact h1
theorem tabs_back {i : Nat} (hS : Sat E w (PSet (q i) (T i) :: tabsBut q T i :: M)) (h : i < 18) : Sat E w (tabs q T :: M) := by
  have := tabs_into hS h
  have e : Z.upd T i (T i) = T := by funext j; unfold Z.upd; split <;> simp_all
  rw [e] at this
  exact this
theorem tabs_shut (hS : Sat E w (PSet (q 0) (T 0) :: PSet (q 1) (T 1) :: PSet (q 2) (T 2) :: PSet (q 3) (T 3) :: PSet (q 4) (T 4) :: PSet (q 5) (T 5) :: PSet (q 6) (T 6) :: PSet (q 7) (T 7) :: PSet (q 8) (T 8) :: PSet (q 9) (T 9) :: PSet (q 10) (T 10) :: PSet (q 11) (T 11) :: PSet (q 12) (T 12) :: PSet (q 13) (T 13) :: PSet (q 14) (T 14) :: PSet (q 15) (T 15) :: PSet (q 16) (T 16) :: PSet (q 17) (T 17) :: M)) : Sat E w (tabs q T :: M) :=
  Sat.shutBag (M := (List.range 18).map fun i => PSet (q i) (T i)) hS
theorem tabs_congr {q q' : Nat → Nat} {T T' : Nat → List Int} (hq : ∀ i, i < 18 → q i = q' i) (hT : ∀ i, i < 18 → T i = T' i) : tabs q T = tabs q' T' := by
  unfold tabs
  congr 1
  refine List.map_congr_left fun i hi => ?_
  rw [hq i (by simpa using hi), hT i (by simpa using hi)]
theorem tabs_new {b0 b1 b2 b3 b4 b5 b6 b7 b8 b9 b10 b11 b12 b13 b14 b15 b16 b17 : Nat} {l0 l1 l2 l3 l4 l5 l6 l7 l8 l9 l10 l11 l12 l13 l14 l15 l16 l17 : List Int} {C : HA} (hS : Sat E w (C :: PSet b17 l17 :: PSet b16 l16 :: PSet b15 l15 :: PSet b11 l11 :: PSet b12 l12 :: PSet b13 l13 :: PSet b14 l14 :: PSet b7 l7 :: PSet b8 l8 :: PSet b9 l9 :: PSet b10 l10 :: PSet b6 l6 :: PSet b5 l5 :: PSet b4 l4 :: PSet b3 l3 :: PSet b2 l2 :: PSet b1 l1 :: PSet b0 l0 :: M)) : Sat E w (C :: tabs (fun i => [b0, b1, b2, b3, b4, b5, b6, b7, b8, b9, b10, b11, b12, b13, b14, b15, b16, b17].getD i 0) (fun i => [l0, l1, l2, l3, l4, l5, l6, l7, l8, l9, l10, l11, l12, l13, l14, l15, l16, l17].getD i []) :: M) :=
  (Sat.shutBag (M := (List.range 18).map fun i => PSet ([b0, b1, b2, b3, b4, b5, b6, b7, b8, b9, b10, b11, b12, b13, b14, b15, b16, b17].getD i 0) ([l0, l1, l2, l3, l4, l5, l6, l7, l8, l9, l10, l11, l12, l13, l14, l15, l16, l17].getD i []))
    ((hS.perm (List.perm_middle (l₁ := List.map (fun i => PSet ([b0, b1, b2, b3, b4, b5, b6, b7, b8, b9, b10, b11, b12, b13, b14, b15, b16, b17].getD i 0) ([l0, l1, l2, l3, l4, l5, l6, l7, l8, l9, l10, l11, l12, l13, l14, l15, l16, l17].getD i [])) [17, 16, 15, 11, 12, 13, 14, 7, 8, 9, 10, 6, 5, 4, 3, 2, 1, 0])).symm).perm (List.Perm.append_right (C :: M) ((show List.Perm [17, 16, 15, 11, 12, 13, 14, 7, 8, 9, 10, 6, 5, 4, 3, 2, 1, 0] (List.range 18) by decide).map (fun i => PSet ([b0, b1, b2, b3, b4, b5, b6, b7, b8, b9, b10, b11, b12, b13, b14, b15, b16, b17].getD i 0) ([l0, l1, l2, l3, l4, l5, l6, l7, l8, l9, l10, l11, l12, l13, l14, l15, l16, l17].getD i [])))))).perm (List.Perm.swap _ _ _)
theorem all18 {P : Nat → Prop} (h0 : P 0) (h1 : P 1) (h2 : P 2) (h3 : P 3) (h4 : P 4) (h5 : P 5) (h6 : P 6) (h7 : P 7) (h8 : P 8) (h9 : P 9) (h10 : P 10) (h11 : P 11) (h12 : P 12) (h13 : P 13) (h14 : P 14) (h15 : P 15) (h16 : P 16) (h17 : P 17) : ∀ i, i < 18 → P i := by
  intro i hi
  match i, hi with
  | 0, _ => exact h0
  | 1, _ => exact h1
  | 2, _ => exact h2
  | 3, _ => exact h3
  | 4, _ => exact h4
  | 5, _ => exact h5
  | 6, _ => exact h6
  | 7, _ => exact h7
  | 8, _ => exact h8
  | 9, _ => exact h9
  | 10, _ => exact h10
  | 11, _ => exact h11
  | 12, _ => exact h12
  | 13, _ => exact h13
  | 14, _ => exact h14
  | 15, _ => exact h15
  | 16, _ => exact h16
  | 17, _ => exact h17
  | n + 18, h => omega
theorem Sat.hs (hS : Sat E w L) (A : HA) [h : Has A L M] : Sat E w (A :: M) := hS.perm h.perm
theorem Sat.hs2 (hS : Sat E w L) (A B : HA) {N : List HA} [h : Has A L M] [k : Has B M N] : Sat E w (A :: B :: N) := hS.perm (h.perm.trans (k.perm.cons _))
theorem tabs_fin {p : Z.Pr} {t e : Nat} {cs : List Value} {A : HA} (h : Sat E w (cel t ⟨e, cs⟩ :: tabs q T :: A :: M)) (hc : cs = tbCells p Z.St.new q) (hT : ∀ i, i < 18 → T i = Z.T0 p i) : Sat E w (cel t ⟨e, tbCells p Z.St.new q⟩ :: tabs q (Z.T0 p) :: M) := by
  rw [← hc, ← tabs_congr (fun _ _ => rfl) hT]
  exact h.to
end
attribute [local irreducible] oMv oV oU oCall oCallV oBi oBin oUn oLoad oStore oNil oFld oField oIdx oIndex oPick oAlloc oBox oBuild oBs oConv oMk oSl oExt oFn oIface oMap oLook oMapUp oRange oNext oEntry oInv oAssert oPanic oRes pN pA pL pDr pIf gA pGd

section
variable {E w W : World} {M N : List HA} {Q : Value → World → Prop} {p : Z.Pr} {s : Z.St} {t : Nat} {q : Nat → Nat} {T : Nat → List Int}

theorem row_ok (hS : Sat E w M) (n : Int) (h0 : 0 ≤ n) (h1 : n ≤ 1048576) (hQ : ∀ b w, Sat E w (PSet b (List.replicate n.toNat 1024) :: M) → Q (pz b) w) : Calls Tryd.prog 29 #[.int .i64 n] w (retP Q) := by
  refine model_row.calls ?_
  unfold model_row.F
  refine pc_prob_New (New_ok hS n h0 h1 fun b w hS => ?_)
  repeat' (first | refine pN_via (by (intro K; simp (disch := omega) only [go_sem, pN_min, pN_max, w_u32, w_u64, Option.isNone_some, Option.isNone_none]; (try simp only [wrap_u32, wrap_u64]); rfl)) ?_ | fail)
  exact hQ _ _ hS

theorem lengths_ok (hS : Sat E w M) (hQ : ∀ a b c d w, Sat E w (PSet a (List.replicate 2 1024) :: PSet b (List.replicate 128 1024) :: PSet c (List.replicate 128 1024) :: PSet d (List.replicate 256 1024) :: M) → Q (.agg #[pz a, pz b, pz c, pz d]) w) : Calls Tryd.prog 30 #[] w (retP Q) := by
  refine model_lengths.calls ?_
  unfold model_lengths.F
  repeat' (first | (refine pN_nz hS ?_; clear hS; intro a w hS) | fail)
  refine pc_model_row (row_ok hS 2 (by omega) (by omega) fun b1 w hS => ?_)
  refine pc_model_row (row_ok hS 128 (by omega) (by omega) fun b2 w hS => ?_)
  refine pc_model_row (row_ok hS 128 (by omega) (by omega) fun b3 w hS => ?_)
  refine pc_model_row (row_ok hS 256 (by omega) (by omega) fun b4 w hS => ?_)
  repeat' (first | refine pL_ra hS (by rfl) ?_ | (refine pN_sa hS (by rfl) (by rfl) (by rfl) ?_; clear hS; intro w hS; try dsimp only at hS) | refine pN_via (by (intro K; simp (disch := omega) only [go_sem, pN_min, pN_max, w_u32, w_u64, Option.isNone_some, Option.isNone_none]; (try simp only [wrap_u32, wrap_u64]); rfl)) ?_ | fail)
  simp only [Int.reduceToNat] at hS
  exact hQ _ _ _ _ _ hS.to

set_option maxRecDepth 8000 in
theorem MNew_ok (hp : p.Ok) (hS : Sat E w M) (hQ : ∀ t q w, Sat E w (cel t ⟨67, tbCells p Z.St.new q⟩ :: tabs q (Z.T0 p) :: M) → Q (pz t) w) : Calls Tryd.prog 17 #[.agg #[.int .i64 p.lc, .int .i64 p.lp, .int .i64 p.pb]] w (retP Q) := by
  refine model_New.calls ?_
  unfold model_New.F
  have hp' := hp
  obtain ⟨h1, h2, h3, h4, h5⟩ := hp'
  have hpow : (2 : Int) ^ (p.lc + p.lp).toNat ≤ 2 ^ 4 := two_le' (by omega)
  have hpow0 : (0 : Int) < 2 ^ (p.lc + p.lp).toNat := Int.pow_pos (by omega)
  have e4 : (2 : Int) ^ 4 = 16 := by decide
  have hwr : IntKind.i64.wrap (768 * 2 ^ (p.lc + p.lp).toNat) = 768 * 2 ^ (p.lc + p.lp).toNat := wrap_i64 (by omega)
  repeat' (first | (rw [hwr]; refine pc_model_row (row_ok hS _ (by omega) (by omega) ?_); clear hS; intro b w hS) | refine ⟨⟨run_l hS (by rfl), run_l hS (by rfl), run_la_at hS _ (by rfl) (by rfl), trivial⟩, ?_⟩ | refine ⟨⟨run_la_at hS _ (by rfl) (by rfl), trivial⟩, ?_⟩ | refine pA_shl_k (p.lc + p.lp).toNat (Int.toNat_of_nonneg (by omega)).symm (by show _ ≤ 64; omega) ?_ | (refine pc_model_row (row_ok hS _ (by omega) (by omega) ?_); clear hS; intro b w hS) | (refine pc_model_lengths (lengths_ok hS ?_); clear hS; intro b1 b2 b3 b4 w hS) | (refine pc_state_New (SNew_ok hS ?_); clear hS; intro w hS) | refine pL_l hS (by first | rfl | assumption) ?_ | refine pL_la hS (by rfl) ?_ | (refine pDr_go hS ?_; clear hS; intro w hS) | (refine pN_bx hS (by rfl) ?_; clear hS; intro a w hS) | refine ⟨trivial, ?_⟩ | refine pN_via (by (intro K; simp (disch := omega) only [go_sem, pN_min, pN_max, w_u32, w_u64, Option.isNone_some, Option.isNone_none]; (try simp only [wrap_u32, wrap_u64]); rfl)) ?_ | refine pA_via (by (intro K; simp (disch := omega) only [go_sem, pN_min, pN_max, w_u32, w_u64, Option.isNone_some, Option.isNone_none]; (try simp only [wrap_u32, wrap_u64]); rfl)) ?_ | fail)
  have e6 : ((768 : Int) * 2 ^ (p.lc + p.lp).toNat).toNat = 768 * 2 ^ (p.lc + p.lp).toNat := by
    have : (768 : Int) * 2 ^ (p.lc + p.lp).toNat = ((768 * 2 ^ (p.lc + p.lp).toNat : Nat) : Int) := by push_cast; rfl
    rw [this, Int.toNat_natCast]
  simp only [Int.reduceToNat, e6] at hS
  exact hQ a _ _ (tabs_fin (tabs_new hS) rfl (all18 rfl rfl rfl rfl rfl rfl rfl rfl rfl rfl rfl rfl rfl rfl rfl rfl rfl rfl))

theorem tab_fork (hS : Sat E w (tabs q T :: M)) (hT : ∀ i, (T i).length ≤ 1048576) (i : Nat) (hi : i < 18) (hQ : ∀ c w, Sat E w (PSet c (T i) :: tabs q T :: M) → Q (pz c) w) : Calls Tryd.prog 41 #[pz (q i)] w (retP Q) := by
  refine Fork_ok (tabs_out hS i hi) (hT i) fun c w hS => hQ c w ?_
  have h1 := hS.perm ((List.Perm.swap _ _ _).trans ((List.Perm.swap _ _ _).cons _))
  exact (tabs_back (i := i) h1 hi).perm (List.Perm.swap _ _ _)

/-- The order in which fork's loop goes. -/
def forkOrd : List Nat := [0, 1, 2, 3, 4, 5, 6, 15, 16, 17]

theorem Lfork_ok (hS : Sat E w (tabs q T :: M)) (hT : ∀ i, (T i).length ≤ 1048576) (i : Nat) (hi : i + 3 < 18) (hQ : ∀ a b c d w, Sat E w (PSet d (T (i + 3)) :: PSet c (T (i + 2)) :: PSet b (T (i + 1)) :: PSet a (T i) :: tabs q T :: M) → Q (.agg #[pz a, pz b, pz c, pz d]) w) :
    Calls Tryd.prog 42 #[.agg #[pz (q i), pz (q (i + 1)), pz (q (i + 2)), pz (q (i + 3))]] w (retP Q) := by
  refine model_Lengths_fork.calls ?_
  unfold model_Lengths_fork.F
  repeat' (first | refine ⟨⟨run_l hS (by rfl), run_l hS (by rfl), run_l hS (by rfl), trivial⟩, ?_⟩ | (refine pc_prob_Set_Fork (tab_fork (hS.hs (tabs q T)) hT _ (by omega) ?_); clear hS; intro a w hS) | refine pL_l hS (by first | rfl | assumption) ?_ | refine pL_ra hS (by rfl) ?_ | (refine pN_sa hS (by rfl) (by rfl) (by rfl) ?_; clear hS; intro w hS; try dsimp only at hS) | (refine pDr_go hS ?_; clear hS; intro w hS) | (refine pN_nz hS ?_; clear hS; intro a w hS) | (refine pN_bx hS (by rfl) ?_; clear hS; intro a w hS) | refine ⟨trivial, ?_⟩ | refine ⟨⟨(by first | exact run_l hS (by first | rfl | assumption) | exact run_st hS (by first | rfl | omega) | exact run_ld1 ha hS | exact fun _ => run_l hS (by rfl) | exact fun _ => run_st hS (by first | rfl | omega) | exact fun _ => run_ld1 ha hS | exact fun h => Bool.noConfusion h), trivial⟩, ?_⟩ | refine ⟨⟨(by first | exact run_l hS (by first | rfl | assumption) | exact run_st hS (by first | rfl | omega) | exact run_ld1 ha hS | exact fun _ => run_l hS (by rfl) | exact fun _ => run_st hS (by first | rfl | omega) | exact fun _ => run_ld1 ha hS | exact fun h => Bool.noConfusion h), (by first | exact run_l hS (by first | rfl | assumption) | exact run_st hS (by first | rfl | omega) | exact run_ld1 ha hS | exact fun _ => run_l hS (by rfl) | exact fun _ => run_st hS (by first | rfl | omega) | exact fun _ => run_ld1 ha hS | exact fun h => Bool.noConfusion h), trivial⟩, ?_⟩ | refine pN_via (by (intro K; simp (disch := omega) only [go_sem, pN_min, pN_max, w_u32, w_u64, Option.isNone_some, Option.isNone_none]; (try simp only [wrap_u32, wrap_u64]); rfl)) ?_ | refine pA_via (by (intro K; simp (disch := omega) only [go_sem, pN_min, pN_max, w_u32, w_u64, Option.isNone_some, Option.isNone_none]; (try simp only [wrap_u32, wrap_u64]); rfl)) ?_ | fail)
  exact hQ _ _ _ _ _ hS.to

theorem tabs_perm {o : List Nat} (ho : o.Perm (List.range 18)) (hS : Sat E w (o.map (fun i => PSet (q i) (T i)) ++ M)) : Sat E w (tabs q T :: M) :=
  Sat.shutBag (M := (List.range 18).map fun i => PSet (q i) (T i)) (hS.perm (List.Perm.append_right M (ho.map _)))

set_option maxRecDepth 8000 in
theorem MFork_ok (hS : Sat E w (cel t ⟨67, tbCells p s q⟩ :: tabs q T :: M)) (hT : ∀ i, (T i).length ≤ 1048576) (hQ : ∀ f q' w, Sat E w (cel f ⟨67, tbCells p s q'⟩ :: tabs q' T :: cel t ⟨67, tbCells p s q⟩ :: tabs q T :: M) → Q (pz f) w) :
    Calls Tryd.prog 24 #[pz t] w (retP Q) := by
  refine model_Tables_Fork.calls ?_
  unfold model_Tables_Fork.F
  refine pN_via (v := pz t) (by intro K; exact pN_nil _) ?_
  refine pN_la hS (by rfl) ?_
  refine pN_nz hS fun f w hS => ?_
  refine pN_sa hS (by rfl) (by rfl) (by rfl) fun w hS => ?_
  repeat' (first | refine pN_via (by (intro K; simp (disch := omega) only [go_sem, pN_min, pN_max, w_u32, w_u64, Option.isNone_some, Option.isNone_none]; (try simp only [wrap_u32, wrap_u64]); rfl)) ?_ | fail)
  refine pN_bl (C := cd_p_p_prob_Set) [pz' f 8, pz' f 9, pz' f 10, pz' f 11, pz' f 12, pz' f 13, pz' f 14, pz' f 23, pz' f 24, pz' f 25] (forkOrd.map fun j => some ⟨f, 8 + j, none⟩) rfl rfl rfl (Nat.le_of_ble_eq_true rfl) hS (Nat.le_of_ble_eq_true rfl) ?_
  clear hS
  intro sl w hS
  repeat' (first | refine pN_via (by (intro K; simp (disch := omega) only [go_sem, pN_min, pN_max, w_u32, w_u64, Option.isNone_some, Option.isNone_none]; (try simp only [wrap_u32, wrap_u64]); rfl)) ?_ | fail)
  refine ⟨fun v w => ∃ (i : Nat) (q1 : Nat → Nat), v = .int .i64 i ∧ i ≤ 10 ∧ (∀ j, j ∉ forkOrd.take i → q1 j = q j) ∧ Sat E w (cel f ⟨67, tbCells p s q1⟩ :: bag ((forkOrd.take i).map fun j => PSet (q1 j) (T j)) :: rows cd_p_p_prob_Set sl (forkOrd.map fun j => some ⟨f, 8 + j, none⟩) :: cel t ⟨67, tbCells p s q⟩ :: tabs q T :: M),
    fun v _ => 10 - (RowKit.intOf v).toNat, ⟨0, q, rfl, by omega, fun _ _ => rfl, ?_⟩, ?_⟩
  · have hS := Sat.bag_nil hS
    dsimp only at hS
    exact (show Sat E w (cel f ⟨67, tbCells p s q⟩ :: bag [] :: _ :: _ :: _ :: M) from hS.to)
  clear hS
  rintro _ _ w ⟨i, q1, rfl, hi, hq1, hS⟩
  have hfo : forkOrd.length = 10 := rfl
  have hfl : (forkOrd.map fun j => (some ⟨f, 8 + j, none⟩ : Option Addr)).length = 10 := rfl
  by_cases hlt : i < 10
  · obtain ⟨j, hj, hj18, hjn, htk⟩ : ∃ j, forkOrd[i]? = some j ∧ j < 18 ∧ j ∉ forkOrd.take i ∧ forkOrd.take (i + 1) = forkOrd.take i ++ [j] := by
      match i, hlt with
      | 0, _ | 1, _ | 2, _ | 3, _ | 4, _ | 5, _ | 6, _ | 7, _ | 8, _ | 9, _ => exact ⟨_, rfl, by decide, by decide, rfl⟩
      | n + 10, h => omega
    have hj2 : (forkOrd.map fun j => (some ⟨f, 8 + j, none⟩ : Option Addr))[i]? = some (some ⟨f, 8 + j, none⟩) := by rw [List.getElem?_map, hj]; rfl
    have hg := tbCells_get p s q1 j hj18
    rw [hq1 j hjn] at hg
    repeat' (first | refine pN_ixk (C := cd_p_p_prob_Set) (s := sl) hS i rfl hfl.symm hj2 (fun a ha hel => ?_) | refine pN_ld1 ha hS ?_ | refine pN_l hS hg ?_ | (refine pc_prob_Set_Fork (tab_fork (hS.hs (tabs q T)) hT _ hj18 ?_); clear hS; intro c w hS) | (refine pN_s hS (by show 8 + j < 26; omega) (by rfl) ?_; clear hS; intro w hS) | (refine pN_lss_s ?_ ?_ <;> intro hc <;> try (exfalso; omega)) | refine pIf_t ?_ | refine pN_ld1 ha hS ?_ | refine pN_via (by (intro K; simp (disch := omega) only [go_sem, pN_min, pN_max, w_u32, w_u64, Option.isNone_some, Option.isNone_none]; (try simp only [wrap_u32, wrap_u64]); rfl)) ?_ | fail)
    dsimp only at hS
    rw [tbCells_set p s q1 j c hj18] at hS
    have hS := Sat.bag_snoc (hS.hs2 (PSet c (T j)) (bag ((forkOrd.take i).map fun j => PSet (q1 j) (T j))))
    refine ⟨⟨i + 1, Z.upd q1 j c, rfl, by omega, fun k hk => ?_, ?_⟩, by simp [RowKit.intOf]; omega⟩
    · rw [htk, List.mem_append, List.mem_singleton, not_or] at hk
      rw [Z.upd_ne _ _ hk.2]
      exact hq1 k hk.1
    · have e : ((forkOrd.take (i + 1)).map fun k => PSet (Z.upd q1 j c k) (T k)) = ((forkOrd.take i).map fun k => PSet (q1 k) (T k)) ++ [PSet c (T j)] := by
        rw [htk, List.map_append, List.map_cons, List.map_nil, Z.upd_self]
        congr 1
        refine List.map_congr_left fun k hk => ?_
        rw [Z.upd_ne _ _ (by rintro rfl; exact hjn hk)]
      rw [e]
      exact hS.to
  · obtain rfl : i = 10 := by omega
    generalize hB : bag ((forkOrd.take 10).map fun j => PSet (q1 j) (T j)) = B at hS
    generalize hR : rows cd_p_p_prob_Set sl (forkOrd.map fun j => (some ⟨f, 8 + j, none⟩ : Option Addr)) = R at hS
    repeat' (first | (refine pN_lss_s ?_ ?_ <;> intro hc <;> try (exfalso; omega)) | refine pIf_f ?_ | (refine pDr_go hS ?_; clear hS; intro w hS) | refine pA_via (by (intro K; simp (disch := omega) only [go_sem, pN_min, pN_max, w_u32, w_u64, Option.isNone_some, Option.isNone_none]; (try simp only [wrap_u32, wrap_u64]); rfl)) ?_ | fail)
    refine pL_la_at (n := 4) hS [pz (q 7), pz (q 8), pz (q 9), pz (q 10)] rfl rfl ?_
    repeat' (first | refine pA_via (by (intro K; simp (disch := omega) only [go_sem, pN_min, pN_max, w_u32, w_u64, Option.isNone_some, Option.isNone_none]; (try simp only [wrap_u32, wrap_u64]); rfl)) ?_ | fail)
    refine pL_la_at (n := 4) hS [pz (q 11), pz (q 12), pz (q 13), pz (q 14)] rfl rfl ?_
    refine pc_model_Lengths_fork (Lfork_ok (hS.hs (tabs q T)) hT 7 (by omega) fun a1 a2 a3 a4 w hS => ?_)
    refine ⟨⟨run_la_at (n := 4) hS [pz (q 11), pz (q 12), pz (q 13), pz (q 14)] rfl rfl, trivial⟩, ?_⟩
    refine pc_model_Lengths_fork (Lfork_ok (hS.hs (tabs q T)) hT 11 (by omega) fun c1 c2 c3 c4 w hS => ?_)
    repeat' (first | refine ⟨trivial, ?_⟩ | refine pA_via (by (intro K; simp (disch := omega) only [go_sem, pN_min, pN_max, w_u32, w_u64, Option.isNone_some, Option.isNone_none]; (try simp only [wrap_u32, wrap_u64]); rfl)) ?_ | fail)
    refine pN_sa_at (us := [pz a1, pz a2, pz a3, pz a4]) hS rfl (Nat.le_of_ble_eq_true rfl) rfl fun w hS => ?_
    repeat' (first | refine ⟨trivial, ?_⟩ | refine pA_via (by (intro K; simp (disch := omega) only [go_sem, pN_min, pN_max, w_u32, w_u64, Option.isNone_some, Option.isNone_none]; (try simp only [wrap_u32, wrap_u64]); rfl)) ?_ | fail)
    refine pN_sa_at (us := [pz c1, pz c2, pz c3, pz c4]) hS rfl (Nat.le_of_ble_eq_true rfl) rfl fun w hS => ?_
    repeat' (first | refine ⟨trivial, ?_⟩ | fail)
    let q3 : Nat → Nat := fun i => [q1 0, q1 1, q1 2, q1 3, q1 4, q1 5, q1 6, a1, a2, a3, a4, c1, c2, c3, c4, q1 15, q1 16, q1 17].getD i 0
    have hS : Sat E w (cel f ⟨67, tbCells p s q3⟩ :: PSet c4 (T 14) :: PSet c3 (T 13) :: PSet c2 (T 12) :: PSet c1 (T 11) :: tabs q T :: PSet a4 (T 10) :: PSet a3 (T 9) :: PSet a2 (T 8) :: PSet a1 (T 7) :: B :: R :: cel t ⟨67, tbCells p s q⟩ :: M) := hS
    have hS : Sat E w (B :: PSet c4 (T 14) :: PSet c3 (T 13) :: PSet c2 (T 12) :: PSet c1 (T 11) :: PSet a4 (T 10) :: PSet a3 (T 9) :: PSet a2 (T 8) :: PSet a1 (T 7) :: cel f ⟨67, tbCells p s q3⟩ :: cel t ⟨67, tbCells p s q⟩ :: tabs q T :: M) := hS.to
    subst hB
    have hS : Sat E w (List.map (fun i => PSet (q3 i) (T i)) [0, 1, 2, 3, 4, 5, 6, 15, 16, 17, 14, 13, 12, 11, 10, 9, 8, 7] ++ (cel f ⟨67, tbCells p s q3⟩ :: cel t ⟨67, tbCells p s q⟩ :: tabs q T :: M)) := hS.openBag
    have hS := tabs_perm (by decide) hS
    exact hQ _ q3 _ (hS.perm (List.Perm.swap _ _ _))

theorem PlaceState_ok (hS : Sat E w (cel t ⟨67, tbCells p s q⟩ :: M)) (hp : p.Ok) (n : Int) (h0 : 0 ≤ n) (h1 : n ≤ 4611686018427387904) (hQ : ∀ w, Sat E w (cel t ⟨67, tbCells p s q⟩ :: M) → Q (.int .i64 (Z.place p n)) w) :
    Calls Tryd.prog 49 #[pz t, .int .i64 n] w (retP Q) := by
  refine model_Tables_PlaceState.calls ?_
  unfold model_Tables_PlaceState.F
  obtain ⟨h2, h3, h4, h5, h6⟩ := hp
  have hpow : (2 : Int) ^ p.pb.toNat ≤ 2 ^ 4 := two_le' (by omega)
  have hpow0 : (0 : Int) < 2 ^ p.pb.toNat := Int.pow_pos (by omega)
  have e4 : (2 : Int) ^ 4 = 16 := by decide
  unfold Z.place at hQ
  repeat' (first | refine pN_shl_k p.pb.toNat (Int.toNat_of_nonneg (by omega)).symm (by show _ ≤ 64; omega) ?_ | refine pN_l hS (by first | rfl | assumption) ?_ | refine pN_via (by (intro K; simp (disch := omega) only [go_sem, pN_min, pN_max, w_u32, w_u64, Option.isNone_some, Option.isNone_none]; (try simp only [wrap_u32, wrap_u64]); rfl)) ?_ | fail)
  have e : (1 : Int) * 2 ^ p.pb.toNat - 1 = 2 ^ p.pb.toNat - 1 := by omega
  have hb0 := Int.emod_nonneg n (show (2 : Int) ^ p.pb.toNat ≠ 0 by omega)
  have hb1 := Int.emod_lt_of_pos n hpow0
  rw [e, pN_andn p.pb.toNat _ _ rfl rfl (by show _ < 64; omega) (wrap_i64 (by omega))]
  exact hQ _ hS

theorem place_bd (hp : p.Ok) (n : Int) : 0 ≤ Z.place p n ∧ Z.place p n < 16 := by
  obtain ⟨h2, h3, h4, h5, h6⟩ := hp
  have hpow : (2 : Int) ^ p.pb.toNat ≤ 2 ^ 4 := two_le' (by omega)
  have hpow0 : (0 : Int) < 2 ^ p.pb.toNat := Int.pow_pos (by omega)
  have e4 : (2 : Int) ^ 4 = 16 := by decide
  have hb0 := Int.emod_nonneg n (show (2 : Int) ^ p.pb.toNat ≠ 0 by omega)
  have hb1 := Int.emod_lt_of_pos n hpow0
  unfold Z.place
  omega

theorem MAt_ok (hS : Sat E w (cel t ⟨67, tbCells p s q⟩ :: M)) (hp : p.Ok) (hs : s.Right) (n : Int) (h0 : 0 ≤ n) (h1 : n ≤ 4611686018427387904) (hQ : ∀ w, Sat E w (cel t ⟨67, tbCells p s q⟩ :: M) → Q (.int .i64 (s.num * 16 + Z.place p n)) w) :
    Calls Tryd.prog 33 #[pz t, .int .i64 n] w (retP Q) := by
  refine model_Tables_At.calls ?_
  unfold model_Tables_At.F
  have hn := hs.num
  have hpl := place_bd hp n
  repeat' (first | (refine pc_model_Tables_PlaceState (PlaceState_ok (hS.fd (cel t)) hp n h0 h1 ?_); clear hS; intro w hS) | refine pL_l hS (by first | rfl | assumption) ?_ | (refine pDr_go hS ?_; clear hS; intro w hS) | refine ⟨⟨(by first | exact run_l hS (by first | rfl | assumption) | exact run_st hS (by first | rfl | omega) | exact run_ld1 ha hS | exact fun _ => run_l hS (by rfl) | exact fun _ => run_st hS (by first | rfl | omega) | exact fun _ => run_ld1 ha hS | exact fun h => Bool.noConfusion h), trivial⟩, ?_⟩ | refine pA_via (by (intro K; simp (disch := omega) only [go_sem, pN_min, pN_max, w_u32, w_u64, Option.isNone_some, Option.isNone_none]; (try simp only [wrap_u32, wrap_u64]); rfl)) ?_ | fail)
  exact hQ _ hS

set_option maxRecDepth 8000 in
theorem context_bd (hp : p.Ok) (n b : Int) (b0 : 0 ≤ b) (b1 : b < 256) : 0 ≤ Z.context p n b ∧ Z.context p n b + 768 ≤ Z.tabLen p 6 := by
  obtain ⟨h2, h3, h4, h5, h6⟩ := hp
  have hpow0 : (0 : Int) < 2 ^ p.lp.toNat := Int.pow_pos (by omega)
  have hb0 := Int.emod_nonneg n (show (2 : Int) ^ p.lp.toNat ≠ 0 by omega)
  have hb1 := Int.emod_lt_of_pos n hpow0
  have hpc0 : (0 : Int) < 2 ^ p.lc.toNat := Int.pow_pos (by omega)
  have hy0 : 0 ≤ b / 2 ^ (8 - p.lc).toNat := Int.ediv_nonneg (by omega) (Int.pow_nonneg (by omega))
  have hy1 : b / 2 ^ (8 - p.lc).toNat < 2 ^ p.lc.toNat := by
    refine Int.ediv_lt_of_lt_mul (Int.pow_pos (by omega)) ?_
    rw [← Int.pow_add, show p.lc.toNat + (8 - p.lc).toNat = 8 from by omega]
    exact b1
  have hx0 : 0 ≤ n % 2 ^ p.lp.toNat * 2 ^ p.lc.toNat := Int.mul_nonneg hb0 (by omega)
  have hx1 : n % 2 ^ p.lp.toNat * 2 ^ p.lc.toNat ≤ (2 ^ p.lp.toNat - 1) * 2 ^ p.lc.toNat := Int.mul_le_mul_of_nonneg_right (by omega) (by omega)
  rw [Int.sub_mul, ← Int.pow_add, Int.one_mul] at hx1
  have e : (Z.tabLen p 6 : Int) = 768 * 2 ^ (p.lp.toNat + p.lc.toNat) := by
    have : Z.tabLen p 6 = 768 * 2 ^ (p.lp.toNat + p.lc.toNat) := by
      show 768 * 2 ^ (p.lc + p.lp).toNat = _
      congr 2
      omega
    rw [this]; push_cast; rfl
  rw [e]
  unfold Z.context
  omega

theorem Context_ok (hS : Sat E w (cel t ⟨67, tbCells p s q⟩ :: M)) (hp : p.Ok) (n : Int) (h0 : 0 ≤ n) (h1 : n ≤ 4611686018427387904) (b : UInt8) (hQ : ∀ w, Sat E w (cel t ⟨67, tbCells p s q⟩ :: M) → Q (.int .i64 (Z.context p n b.toNat)) w) :
    Calls Tryd.prog 50 #[pz t, .int .i64 n, bv b] w (retP Q) := by
  refine model_Tables_Context.calls ?_
  unfold model_Tables_Context.F
  obtain ⟨h2, h3, h4, h5, h6⟩ := hp
  have hpow : (2 : Int) ^ p.lp.toNat ≤ 2 ^ 4 := two_le' (by omega)
  have hpow0 : (0 : Int) < 2 ^ p.lp.toNat := Int.pow_pos (by omega)
  have e4 : (2 : Int) ^ 4 = 16 := by decide
  have e : (1 : Int) * 2 ^ p.lp.toNat - 1 = 2 ^ p.lp.toNat - 1 := by omega
  have hb0 := Int.emod_nonneg n (show (2 : Int) ^ p.lp.toNat ≠ 0 by omega)
  have hb1 := Int.emod_lt_of_pos n hpow0
  have hpc : (2 : Int) ^ p.lc.toNat ≤ 2 ^ 4 := two_le' (by omega)
  have hpc0 : (0 : Int) < 2 ^ p.lc.toNat := Int.pow_pos (by omega)
  have hx0 : 0 ≤ n % 2 ^ p.lp.toNat * 2 ^ p.lc.toNat := Int.mul_nonneg hb0 (by omega)
  have hx1 : n % 2 ^ p.lp.toNat * 2 ^ p.lc.toNat ≤ 16 * 16 := Int.mul_le_mul (by omega) (by omega) (by omega) (by omega)
  have hy0 : 0 ≤ (b.toNat : Int) / 2 ^ (8 - p.lc).toNat := Int.ediv_nonneg (by omega) (Int.pow_nonneg (by omega))
  have hy1 : (b.toNat : Int) / 2 ^ (8 - p.lc).toNat ≤ b.toNat := Int.ediv_le_self _ (by omega)
  have hb := b.toNat_lt
  unfold Z.context at hQ
  repeat' (first | refine pA_shl_k p.lp.toNat (Int.toNat_of_nonneg (by omega)).symm (by show _ ≤ 64; omega) ?_ | refine pA_shl_k p.lc.toNat (Int.toNat_of_nonneg (by omega)).symm (by show _ ≤ 64; omega) ?_ | refine pA_shr_k (8 - p.lc).toNat (Int.toNat_of_nonneg (by omega)).symm (by show _ ≤ 64; omega) ?_ | (rw [e, pA_andn p.lp.toNat _ _ rfl rfl (by show _ < 64; omega) (wrap_i64 (by omega))]) | refine pL_ofb ?_ | refine pL_l hS (by first | rfl | assumption) ?_ | (refine pDr_go hS ?_; clear hS; intro w hS) | refine pN_via (by (intro K; simp (disch := omega) only [go_sem, pN_min, pN_max, w_u32, w_u64, Option.isNone_some, Option.isNone_none]; (try simp only [wrap_u32, wrap_u64]); rfl)) ?_ | refine pA_via (by (intro K; simp (disch := omega) only [go_sem, pN_min, pN_max, w_u32, w_u64, Option.isNone_some, Option.isNone_none]; (try simp only [wrap_u32, wrap_u64]); rfl)) ?_ | fail)
  exact hQ _ hS

theorem RestAt_ok (n : Int) (h0 : 0 ≤ n) (h1 : n ≤ 13) (hQ : Q (.int .i64 (Z.restAt n)) w) :
    Calls Tryd.prog 55 #[.int .i64 n] w (retP Q) := by
  refine model_RestAt.calls ?_
  unfold model_RestAt.F
  refine ⟨fun a k w' => ∃ i : Int, a = .int .i64 (Z.restAt i) ∧ k = .int .i64 i ∧ 4 ≤ i ∧ (i ≤ n ∨ i = 4) ∧ w' = w, fun _ k _ => (14 - RowKit.intOf k).toNat, ⟨4, rfl, rfl, by omega, .inr rfl, rfl⟩, ?_⟩
  rintro _ _ _ w1 ⟨i, rfl, rfl, h2, h3, rfl⟩
  by_cases hlt : i < n
  · obtain ⟨r1, r2, r3, r4, r5, r6⟩ := Z.rest_step i h2 (by omega)
    repeat' (first | refine pc_state_Range (Range_in _ (by omega) (by omega) ?_) | refine pN_shl_k _ rfl (by show _ ≤ 64; omega) ?_ | (refine pN_lss_s ?_ ?_ <;> intro hc <;> try (exfalso; omega)) | refine pIf_t ?_ | refine pN_via (by (intro K; simp (disch := omega) only [go_sem, pN_min, pN_max, w_u32, w_u64, Option.isNone_some, Option.isNone_none]; (try simp only [wrap_u32, wrap_u64]); rfl)) ?_ | fail)
    refine ⟨⟨i + 1, ?_, rfl, by omega, .inl (by omega), rfl⟩, by simp [RowKit.intOf]; omega⟩
    rw [r1]
  · repeat' (first | (refine pN_lss_s ?_ ?_ <;> intro hc <;> try (exfalso; omega)) | refine pIf_f ?_ | fail)
    have e : Z.restAt i = Z.restAt n := by
      by_cases h5 : i = n
      · rw [h5]
      · obtain rfl : i = 4 := by omega
        unfold Z.restAt
        rw [if_pos (by omega), if_pos (by omega)]
    rw [← e] at hQ
    exact hQ

theorem Late_ok (n : Int) (hQ : Q (.bool (decide (14 ≤ n))) w) : Calls Tryd.prog 54 #[.int .i64 n] w (retP Q) := by
  refine model_Late.calls ?_
  unfold model_Late.F
  repeat' (first | (refine pN_geq_s ?_ ?_ <;> intro hc <;> try (exfalso; omega)) | fail)
  · rw [decide_eq_true hc] at hQ; exact hQ
  · rw [decide_eq_false hc] at hQ; exact hQ
end

end Go.Proofs.YtbgnnjfpiblkmaaDoor
