/-
  Texts of one proof, one behind the other: Stab, Stab2, Stab3, SnV, LfPithlaw36, LwA, LwB, SnI, LwE, LwF, SnD, SnB.
-/
import Derived.Lib.Bytealg
import Derived.Test.YtikmogfhhggafaaGreatDoorRows
import Derived.Test.YtikmogfhhggafaaGreatDoorMk6
set_option linter.unusedSimpArgs false
set_option linter.unnecessarySimpa false
set_option linter.unusedSectionVars false
set_option linter.unusedVariables false

namespace Go.Proofs.YtikmogfhhggafaaGreatDoor
open Go

theorem cmp_lt : ∀ (l r : List UInt8), decide (Lib.compareBytes l r < 0) = Op.bytesLess l r
  | [], [] => rfl
  | [], _ :: _ => rfl
  | _ :: _, [] => rfl
  | a :: l, b :: r => by
    rw [Lib.compareBytes, Op.bytesLess]
    by_cases h : a < b
    · simp [h]
    · by_cases h2 : b < a
      · have hne : a ≠ b := fun e => by subst e; exact h h2
        simp [h, h2, hne]
      · have e : a = b := by
          rw [UInt8.lt_iff_toNat_lt] at h h2
          exact UInt8.toNat_inj.1 (by omega)
        subst e
        simp [h, cmp_lt l r]
section
variable [Pan] {w : World} {K : Value → World → Prop} {l r : List UInt8}
theorem pN_cms (hk : K (.int .i64 (Lib.compareBytes l r)) w) : pN Tryz.prog (oCall 178 [.string ⟨l.toArray⟩, .string ⟨r.toArray⟩]) w K := by
  have h := run_callFunc_extern (P := Tryz.prog) Tryz.func178 (by kernel_rfl) (by kernel_rfl) (by kernel_rfl) (e := Extern.BytealgCompare.compare) (by kernel_rfl) #[.string ⟨l.toArray⟩, .string ⟨r.toArray⟩] w
  rw [Lib.run_compareString] at h
  have h2 : (oCall 178 [.string ⟨l.toArray⟩, .string ⟨r.toArray⟩]).run Tryz.prog w = .ok (.value (.int .i64 (Lib.compareBytes l r))) w := h
  rw [pN_def, h2, rN_value]
  exact hk
end

attribute [local irreducible] oMv oV oU oCall oCallV oBi oBin oUn oLoad oStore oNil oFld oField oIdx oIndex oPick oAlloc oBox oBuild oBs oConv oMk oSl oExt oFn oIface oMap oLook oMapUp oRange oNext oEntry oInv oAssert oPanic oRes pN pA pL pDr pIf gA pGd Calls
section
variable [Pan] {E w : World} {K Q : Value → World → Prop} {L M : List HA} {l r : List UInt8}

theorem SCompare_ok (hS : Sat E w M) (hQ : ∀ w, Sat E w M → Q (.int .i64 (Lib.compareBytes l r)) w) : Calls Tryz.prog 98 #[.string ⟨l.toArray⟩, .string ⟨r.toArray⟩] w (retP Q) := by
  refine strings_Compare.calls ?_
  unfold strings_Compare.F
  refine pN_callQ Tryz.call128 ?_
  refine internal_bytealg_CompareString.calls ?_
  unfold internal_bytealg_CompareString.F
  refine pN_cms ?_
  exact hQ _ hS

abbrev cmpV (bc : Nat) : Value := .func (.func 97) #[] #[.pointer (some ⟨bc, 0, none⟩)]
theorem itemName_ok (x : T_api_Item) (hS : Sat E w M) (hQ : ∀ w, Sat E w M → Q (.string ⟨x.Name.toArray⟩) w) : Calls Tryz.prog 58 #[.agg x.enc.toArray] w (retP Q) := by
  refine snap_itemName.calls ?_
  unfold snap_itemName.F
  repeat' (first | refine pN_l hS (by first | rfl | assumption) ?_ | (refine pN_bx hS (by rfl) ?_; clear hS; intro a w hS) | refine pN_v (hk := ?_) | fail)
  exact hQ _ hS.to

set_option maxHeartbeats 1000000 in
theorem cmp_ok {bc : Nat} {N : List HA} (x y : T_api_Item) (hS : Sat E w M) [Fnd (cel bc) M ⟨115, [.func (.func 58) #[] #[]]⟩ N] (hQ : ∀ w, Sat E w M → Q (.int .i64 (Lib.compareBytes x.Name y.Name)) w) : pN Tryz.prog (oCallV (cmpV bc) [.agg x.enc.toArray, .agg y.enc.toArray]) w Q := by
  refine pN_callV (cap := [.pointer (some ⟨bc, 0, none⟩)]) call_snap_byName_api_Item__c1 ?_
  refine snap_byName_api_Item__c1.calls ?_
  unfold snap_byName_api_Item__c1.F
  repeat' (first | refine pL_l hS (by first | rfl | assumption) ?_ | refine pL_la hS (by rfl) ?_ | (refine pDr_go hS ?_; clear hS; intro w hS) | (refine pN_bx hS (by rfl) ?_; clear hS; intro a w hS) | fail)
  refine pN_callV (cap := []) call_snap_itemName (itemName_ok x hS ?_)
  clear hS
  intro w hS
  refine ⟨⟨run_la_at (n := 6) hS y.enc rfl rfl, run_l hS (by rfl), trivial⟩, ?_⟩
  refine pN_callV (cap := []) call_snap_itemName (itemName_ok y hS ?_)
  clear hS
  intro w hS
  refine ⟨trivial, pc_strings_Compare (SCompare_ok hS ?_)⟩
  clear hS
  intro w hS
  exact ⟨trivial, hQ _ hS.to⟩
end
section
variable [Pan] {E w W : World} {K Q : Value → World → Prop} {J : Value → Prop} {L M N : List HA} {l r : List T_api_Item} {s s2 : Sl} {b : Nat}

set_option maxHeartbeats 1000000 in
theorem SwapR_ok {A X P Y Z : List T_api_Item} (n : Nat) (cmp : Value) (hx : X.length = n) (hy : Y.length = n) (hS : Sat E w (rows cd_api_Item s (A ++ (X ++ (P ++ (Y ++ Z)))) :: M)) {m : Nat} (hm : m = A.length + n + P.length + n + Z.length) (hb : m ≤ 1099511627776)
    {a b : Nat} (ha : a = A.length) (hbb : b = A.length + n + P.length)
    (hQ : ∀ w, Sat E w (rows cd_api_Item s (A ++ (Y ++ (P ++ (X ++ Z)))) :: M) → Q (.tuple #[]) w) :
    Calls Tryz.prog 219 #[.slice s.a m s.c, .int .i64 a, .int .i64 b, .int .i64 n, cmp] w (retP Q) := by
  refine slices_swapRangeCmpFunc_api_Item_.calls ?_
  unfold slices_swapRangeCmpFunc_api_Item_.F
  rw [← U.swp_0] at hS
  refine ⟨fun v w => ∃ i : Nat, v = .int .i64 i ∧ i ≤ n ∧ Sat E w (rows cd_api_Item s (U.swp A X P Y Z i) :: M), fun v _ => n - (RowKit.intOf v).toNat, ⟨0, rfl, by omega, hS⟩, ?_⟩
  clear hS
  rintro _ _ w ⟨i, rfl, hi, hS⟩
  by_cases hlt : i < n
  · obtain ⟨x, y, h1, h2, h3⟩ := U.swp_step (A := A) (N := P) (Z := Z) hx hy hlt
    have hl := U.swp_len (A := A) (N := P) (Z := Z) (i := i) hx hy
    rw [← hbb] at h2 h3 hl hm
    rw [← ha] at h1 h3
    generalize U.swp A X P Y Z i = D at *
    obtain ⟨z, h4⟩ : ∃ z, (D.set (a + i) y)[b + i]? = some z := ⟨(D.set (a + i) y)[b + i]'(by rw [List.length_set]; omega), List.getElem?_eq_getElem _⟩
    repeat' (first | refine pA_ixk hS (b + i) (by omega) (by rw [List.length_set]; omega) h4 fun ad ha hel => ?_ | refine pA_ixk hS (b + i) (by omega) (by omega) h2 fun ad ha hel => ?_ | refine pA_ixk hS (a + i) (by omega) (by omega) h1 fun ad ha hel => ?_ | (refine pN_srn (x := y) hel hS (by rfl) (by rfl) (by omega) ?_; clear hS; intro w hS) | (refine pN_srn (x := x) hel hS (by rfl) (by rfl) (by rw [List.length_set]; omega) ?_; clear hS; intro w hS) | (refine pN_lss_s ?_ ?_ <;> intro hc <;> try (exfalso; omega)) | refine pIf_t ?_ | refine pL_ld_at ha hS (by rfl) ?_ | (refine pDr_go hS ?_; clear hS; intro w hS) | refine ⟨trivial, ?_⟩ | refine pN_v (hk := ?_) | refine pA_v (hk := ?_) | fail)
    rw [h3] at hS
    exact ⟨⟨i + 1, rfl, by omega, hS⟩, by simp [RowKit.intOf] <;> omega⟩
  · obtain rfl : i = n := by omega
    rw [U.swp_all hx hy] at hS
    repeat' (first | (refine pN_lss_s ?_ ?_ <;> intro hc <;> try (exfalso; omega)) | refine pIf_f ?_ | fail)
    exact hQ _ hS

theorem half (l : List T_api_Item) {k : Nat} (h : k ≤ l.length) : ∃ X Y, l = X ++ Y ∧ X.length = k ∧ Y.length = l.length - k := ⟨l.take k, l.drop k, (List.take_append_drop k l).symm, by rw [List.length_take]; omega, by rw [List.length_drop]⟩

set_option maxHeartbeats 1000000 in
theorem Rotate_ok {A S T Z : List T_api_Item} (cmp : Value) (h1 : 0 < S.length) (h2 : 0 < T.length) (hS : Sat E w (rows cd_api_Item s (A ++ (S ++ (T ++ Z))) :: M)) {n : Nat} (hn : n = A.length + S.length + T.length + Z.length) (hb : n ≤ 1099511627776)
    {a m b : Nat} (ha : a = A.length) (hm : m = A.length + S.length) (hbb : b = A.length + S.length + T.length)
    (hQ : ∀ w, Sat E w (rows cd_api_Item s (A ++ (T ++ (S ++ Z))) :: M) → Q (.tuple #[]) w) :
    Calls Tryz.prog 207 #[.slice s.a n s.c, .int .i64 a, .int .i64 m, .int .i64 b, cmp] w (retP Q) := by
  refine slices_rotateCmpFunc_api_Item_.calls ?_
  unfold slices_rotateCmpFunc_api_Item_.F
  generalize hG : A ++ (T ++ (S ++ Z)) = G at *
  have hi1 : ((m : Int) - (a : Int)) = ((S.length : Nat) : Int) := by omega
  have hi2 : ((b : Int) - (m : Int)) = ((T.length : Nat) : Int) := by omega
  repeat' (first | refine pN_v (hk := ?_) | fail)
  rw [hi1, hi2]
  refine ⟨fun x y w => ∃ (i j : Nat) (A' P R Z' : List T_api_Item), x = .int .i64 i ∧ y = .int .i64 j ∧ P.length = i ∧ R.length = j ∧ 0 < i ∧ 0 < j ∧ m = A'.length + i ∧ n = A'.length + i + j + Z'.length ∧ A' ++ (R ++ (P ++ Z')) = G ∧ Sat E w (rows cd_api_Item s (A' ++ (P ++ (R ++ Z'))) :: M), fun x y _ => (RowKit.intOf x).toNat + (RowKit.intOf y).toNat,
    ⟨_, _, A, S, T, Z, rfl, rfl, rfl, rfl, h1, h2, hm, hn, hG, hS⟩, ?_⟩
  clear hS
  rintro _ _ _ w ⟨i, j, A', P, R, Z', rfl, rfl, hP, hR, hi, hj, hmi, hni, hG', hS⟩
  by_cases hij : i = j
  · subst hij
    have hS : Sat E w (rows cd_api_Item s (A' ++ (P ++ ([] ++ (R ++ Z')))) :: M) := hS
    have he : ((m : Int) - (i : Int)) = ((A'.length : Nat) : Int) := by omega
    repeat' (first | (refine pN_neq_s ?_ ?_ <;> intro hc <;> try (exfalso; first | omega | exact hc rfl | exact hc (by assumption) | exact absurd hc (by assumption))) | refine pIf_f ?_ | refine pN_v (hk := ?_) | fail)
    rw [he]
    refine pc_slices_swapRangeCmpFunc_api_Item_ (SwapR_ok i cmp hP hR hS (by rw [List.length_nil]; omega) hb rfl (by rw [List.length_nil]; omega) ?_)
    clear hS
    intro w hS
    skip
    rw [List.nil_append, hG'] at hS
    exact hQ _ hS
  · by_cases hgt : j < i
    · obtain ⟨P1, P2, rfl, hp1, hp2⟩ := half P (k := j) (by omega)
      rw [hP] at hp2
      have hS : Sat E w (rows cd_api_Item s (A' ++ (P1 ++ (P2 ++ (R ++ Z')))) :: M) := by rw [List.append_assoc] at hS; exact hS
      have he : ((m : Int) - (i : Int)) = ((A'.length : Nat) : Int) := by omega
      have he2 : ((i : Int) - (j : Int)) = ((i - j : Nat) : Int) := by omega
      repeat' (first | (refine pN_gtr_s ?_ ?_ <;> intro hc <;> try (exfalso; omega)) | (refine pN_neq_s ?_ ?_ <;> intro hc <;> try (exfalso; first | omega | exact hc rfl | exact hc (by assumption) | exact absurd hc (by assumption))) | refine pIf_t ?_ | refine pN_v (hk := ?_) | fail)
      rw [he]
      refine pc_slices_swapRangeCmpFunc_api_Item_ (SwapR_ok j cmp hp1 hR hS (by omega) hb rfl (by omega) ?_)
      clear hS
      intro w hS
      repeat' (first | refine pN_v (hk := ?_) | fail)
      rw [he2]
      refine ⟨⟨i - j, j, A' ++ R, P2, P1, Z', rfl, rfl, hp2, hp1, by omega, by omega, by rw [List.length_append]; omega, by rw [List.length_append]; omega, ?_, ?_⟩, by simp [RowKit.intOf] <;> omega⟩
      · rw [← hG']; simp only [List.append_assoc]
      · rw [List.append_assoc]; exact hS
    · obtain ⟨Q1, Q2, rfl, hq1, hq2⟩ := half R (k := j - i) (by omega)
      rw [hR] at hq2
      have hS : Sat E w (rows cd_api_Item s (A' ++ (P ++ (Q1 ++ (Q2 ++ Z')))) :: M) := by rw [List.append_assoc] at hS; exact hS
      have he : ((m : Int) - (i : Int)) = ((A'.length : Nat) : Int) := by omega
      have he2 : ((j : Int) - (i : Int)) = ((j - i : Nat) : Int) := by omega
      have he3 : ((m : Int) + (j : Int) - (i : Int)) = ((A'.length + i + Q1.length : Nat) : Int) := by omega
      repeat' (first | (refine pN_gtr_s ?_ ?_ <;> intro hc <;> try (exfalso; omega)) | (refine pN_neq_s ?_ ?_ <;> intro hc <;> try (exfalso; first | omega | exact hc rfl | exact hc (by assumption) | exact absurd hc (by assumption))) | refine pIf_t ?_ | refine pIf_f ?_ | refine pN_v (hk := ?_) | fail)
      rw [he, he3]
      refine pc_slices_swapRangeCmpFunc_api_Item_ (SwapR_ok i cmp hP (by omega) hS (by omega) hb rfl rfl ?_)
      clear hS
      intro w hS
      repeat' (first | refine pN_v (hk := ?_) | fail)
      rw [he2]
      refine ⟨⟨i, j - i, A', Q2, Q1, P ++ Z', rfl, rfl, by omega, hq1, by omega, by omega, by omega, by rw [List.length_append]; omega, ?_, ?_⟩, by simp [RowKit.intOf] <;> omega⟩
      · rw [← hG']; simp only [List.append_assoc]
      · exact hS

abbrev capOb : Ob := ⟨115, [.func (.func 58) #[] #[]]⟩
theorem bef_t {x y : T_api_Item} (h : Lib.compareBytes x.Name y.Name < 0) : S.before x y = true := by rw [S.before, ← cmp_lt]; exact decide_eq_true h
theorem bef_f {x y : T_api_Item} (h : ¬ Lib.compareBytes x.Name y.Name < 0) : S.before x y = false := by rw [S.before, ← cmp_lt]; exact decide_eq_false h

set_option maxHeartbeats 2000000 in
theorem InsSort_ok {bc : Nat} {A X Z : List T_api_Item} (hS : Sat E w (rows cd_api_Item s (A ++ (X ++ Z)) :: M)) [hf : Fnd (cel bc) M capOb N] {m : Nat} (hm : m = A.length + X.length + Z.length) (hb : m ≤ 1099511627776) {a b : Nat} (ha : a = A.length) (hbb : b = A.length + X.length)
    (hQ : ∀ X' w, X'.Perm X → U.Up S.before X' → Sat E w (rows cd_api_Item s (A ++ (X' ++ Z)) :: M) → Q (.tuple #[]) w) :
    Calls Tryz.prog 176 #[.slice s.a m s.c, .int .i64 a, .int .i64 b, cmpV bc] w (retP Q) := by
  refine slices_insertionSortCmpFunc_api_Item_.calls ?_
  unfold slices_insertionSortCmpFunc_api_Item_.F
  cases X with
  | nil =>
    have hab : b = a := by rw [hbb, ha]; rfl
    subst hab
    repeat' (first | refine pN_v (hk := ?_) | fail)
    refine ⟨fun v w => v = .int .i64 ((b : Int) + 1) ∧ Sat E w (rows cd_api_Item s (A ++ ([] ++ Z)) :: M), fun _ _ => 0, ⟨rfl, hS⟩, ?_⟩
    clear hS
    rintro _ _ w ⟨rfl, hS⟩
    repeat' (first | (refine pN_lss_s ?_ ?_ <;> intro hc <;> try (exfalso; omega)) | refine pIf_f ?_ | fail)
    exact hQ [] _ (List.Perm.refl _) U.Up.nil hS
  | cons x0 X0 =>
    have hbb : b = A.length + (X0.length + 1) := hbb
    have hm : m = A.length + (X0.length + 1) + Z.length := hm
    repeat' (first | refine pN_v (hk := ?_) | fail)
    refine ⟨fun v w => ∃ (X1 X2 : List T_api_Item), v = .int .i64 ((a : Int) + X1.length) ∧ (X1 ++ X2).Perm (x0 :: X0) ∧ X1.length + X2.length = X0.length + 1 ∧ U.Up S.before X1 ∧ Sat E w (rows cd_api_Item s (A ++ (X1 ++ (X2 ++ Z))) :: M), fun v _ => b - (RowKit.intOf v).toNat,
      ⟨[x0], X0, rfl, List.Perm.refl _, by rw [List.length_singleton]; omega, U.Up.one x0, hS⟩, ?_⟩
    clear hS
    rintro _ _ w ⟨X1, X2, rfl, hp, hl, hu, hS⟩
    cases X2 with
    | nil =>
      rw [List.length_nil] at hl
      rw [List.append_nil] at hp
      repeat' (first | (refine pN_lss_s ?_ ?_ <;> intro hc <;> try (exfalso; omega)) | refine pIf_f ?_ | fail)
      exact hQ X1 _ hp hu hS
    | cons x X2 =>
      rw [List.length_cons] at hl
      have hi0 : ((a : Int) + (X1.length : Int)) = ((a + X1.length : Nat) : Int) := by omega
      rw [hi0]
      repeat' (first | (refine pN_lss_s ?_ ?_ <;> intro hc <;> try (exfalso; omega)) | refine pIf_t ?_ | fail)
      refine ⟨fun v w => ∃ (P R : List T_api_Item), v = .int .i64 ((a + P.length : Nat) : Int) ∧ U.Up S.before (P ++ R) ∧ (∀ r ∈ R, S.before x r = true) ∧ (P ++ R).Perm X1 ∧ P.length + R.length = X1.length ∧ Sat E w (rows cd_api_Item s (A ++ (P ++ x :: (R ++ (X2 ++ Z)))) :: M), fun v _ => (RowKit.intOf v).toNat,
        ⟨X1, [], rfl, by rw [List.append_nil]; exact hu, fun r hr => by (cases hr), by rw [List.append_nil], rfl, hS⟩, ?_⟩
      clear hS
      rintro _ _ w ⟨P, R, rfl, hup, hr, hpr, hlr, hS⟩
      have hfin : (∀ p, P.getLast? = some p → S.before x p = false) → ((P ++ x :: R) ++ X2).Perm (x0 :: X0) ∧ U.Up S.before (P ++ x :: R) := fun h => by
        refine ⟨?_, U.Up.ins S.before_ord hup hr h⟩
        refine List.Perm.trans ?_ hp
        have e1 : (P ++ x :: R).Perm (X1 ++ [x]) := by
          refine List.perm_middle.trans ?_
          refine (hpr.cons x).trans ?_
          exact (List.perm_append_singleton x X1).symm
        have := e1.append_right X2
        rw [List.append_assoc X1] at this
        exact this
      by_cases hP : P = []
      · subst hP
        obtain ⟨f1, f2⟩ := hfin (fun p h => by cases h)
        have hj0 : ((a + ([] : List T_api_Item).length : Nat) : Int) = (a : Int) := rfl
        rw [hj0]
        have hlr : R.length = X1.length := by rw [← hlr, List.length_nil]; omega
        repeat' (first | (refine pA_gtr_s ?_ ?_ <;> intro hc <;> try (exfalso; omega)) | refine pIf_f ?_ | refine gA_no (by rfl) ?_ | refine pGd_no (by rfl) ?_ | (refine pDr_go hS ?_; clear hS; intro w hS) | refine ⟨trivial, ?_⟩ | refine pN_v (hk := ?_) | refine pA_v (hk := ?_) | fail)
        refine ⟨⟨x :: R, X2, by rw [List.length_cons, hlr]; congr 1, f1, by rw [List.length_cons]; omega, f2, hS⟩, by simp [RowKit.intOf] <;> omega⟩
      · obtain ⟨P0, y, rfl⟩ := U.last_cut hP
        obtain ⟨q, hq⟩ : ∃ q, q = (A ++ P0).length := ⟨_, rfl⟩
        have hqa : q = a + P0.length := by rw [hq, List.length_append, ha]
        have hj1 : ((a + (P0 ++ [y]).length : Nat) : Int) = ((q + 1 : Nat) : Int) := by rw [List.length_append, List.length_singleton]; omega
        have hlr : P0.length + 1 + R.length = X1.length := by rw [← hlr, List.length_append, List.length_singleton]
        rw [hj1]
        have hD : A ++ ((P0 ++ [y]) ++ x :: (R ++ (X2 ++ Z))) = (A ++ P0) ++ y :: (x :: (R ++ (X2 ++ Z))) := by simp
        rw [hD] at hS
        have g0 := U.get_mid (A ++ P0) (x :: (R ++ (X2 ++ Z))) y
        have g1 := U.get_nb (A ++ P0) (R ++ (X2 ++ Z)) y x
        have hsw := U.swap_nb (A ++ P0) (R ++ (X2 ++ Z)) y x
        have hlen : ((A ++ P0) ++ y :: (x :: (R ++ (X2 ++ Z)))).length = m := by simp only [List.length_append, List.length_cons]; omega
        have hD2 : (A ++ P0) ++ x :: (y :: (R ++ (X2 ++ Z))) = A ++ (P0 ++ x :: ((y :: R) ++ (X2 ++ Z))) := by simp
        rw [hD2] at hsw
        rw [← hq] at g0 g1 hsw
        have hbt := fun h => bef_t (x := x) (y := y) h
        have hbf := fun h => bef_f (x := x) (y := y) h
        have hD3 : (A ++ P0) ++ y :: (x :: (R ++ (X2 ++ Z))) = A ++ (((P0 ++ [y]) ++ x :: R) ++ (X2 ++ Z)) := by simp
        obtain ⟨D, hDD⟩ : ∃ D, D = (A ++ P0) ++ y :: (x :: (R ++ (X2 ++ Z))) := ⟨_, rfl⟩
        rw [← hDD] at hS g0 g1 hsw hlen hD3
        obtain ⟨z, h4⟩ : ∃ z, (D.set (q + 1) y)[q]? = some z := ⟨(D.set (q + 1) y)[q]'(by rw [List.length_set]; omega), List.getElem?_eq_getElem _⟩
        have hca : ¬ (((q + 1 : Nat) : Int) ≤ (a : Int)) := by omega
        repeat' (first | refine pA_ixk hS q (by omega) (by rw [List.length_set]; omega) h4 fun ad ha hel => ?_ | refine pA_ixk hS (q + 1) (by omega) (by omega) g1 fun ad ha hel => ?_ | refine pA_ixk hS q (by omega) (by omega) g0 fun ad ha hel => ?_ | (refine cmp_ok x y hS ?_; clear hS; intro w hS) | refine pA_lss_s (fun hcc => ?_) (fun hcc => ?_) | (refine pN_srn (x := y) hel hS (by rfl) (by rfl) (by omega) ?_; clear hS; intro w hS) | (refine pN_srn (x := x) hel hS (by rfl) (by rfl) (by rw [List.length_set]; omega) ?_; clear hS; intro w hS) | (refine pA_gtr_s ?_ ?_ <;> intro hc <;> try (exfalso; omega)) | refine pIf_t ?_ | refine pIf_f ?_ | refine gA_go (by rfl) ?_ | refine pGd_go (by rfl) ?_ | refine pL_ld_at ha hS (by rfl) ?_ | (refine pDr_go hS ?_; clear hS; intro w hS) | refine ⟨trivial, ?_⟩ | refine pN_v (hk := ?_) | refine pA_v (hk := ?_) | fail)
        · rw [hsw] at hS
          have hq1 : (((q + 1 : Nat) : Int) - 1) = ((a + P0.length : Nat) : Int) := by omega
          rw [hq1]
          have e0 : (P0 ++ [y]) ++ R = P0 ++ (y :: R) := by simp
          rw [e0] at hup hpr
          refine ⟨⟨P0, y :: R, rfl, hup, fun r hr' => ?_, hpr, by rw [List.length_cons]; omega, hS⟩, by simp [RowKit.intOf] <;> omega⟩
          rcases List.mem_cons.1 hr' with rfl | hr'
          · exact hbt hcc
          · exact hr r hr'
        · rw [hD3] at hS
          obtain ⟨f1, f2⟩ := hfin (fun p hp => by
            rw [List.getLast?_concat, Option.some.injEq] at hp
            subst hp
            exact hbf hcc)
          have hll : ((P0 ++ [y]) ++ x :: R).length = X1.length + 1 := by simp only [List.length_append, List.length_cons, List.length_nil]; omega
          have hi1 : (((a + X1.length : Nat) : Int) + 1) = (a : Int) + ((P0 ++ [y]) ++ x :: R).length := by rw [hll]; omega
          rw [hi1]
          refine ⟨⟨(P0 ++ [y]) ++ x :: R, X2, rfl, f1, by rw [hll]; omega, f2, hS⟩, by rw [hll]; simp [RowKit.intOf] <;> omega⟩
end
end Go.Proofs.YtikmogfhhggafaaGreatDoor

namespace Go.Proofs.YtikmogfhhggafaaGreatDoor
open Go
attribute [local irreducible] oMv oV oU oCall oCallV oBi oBin oUn oLoad oStore oNil oFld oField oIdx oIndex oPick oAlloc oBox oBuild oBs oConv oMk oSl oExt oFn oIface oMap oLook oMapUp oRange oNext oEntry oInv oAssert oPanic oRes pN pA pL pDr pIf gA pGd Calls
section
variable [Pan] {E w W : World} {K Q : Value → World → Prop} {J : Value → Prop} {L M N : List HA} {l r : List T_api_Item} {s s2 : Sl} {b : Nat}

theorem mid_ok {i j h : Nat} (hh : h = (i + j) / 2) (hb : i + j < 9223372036854775808) : IntKind.i64.wrap (IntKind.u64.wrap ((i : Int) + (j : Int)) / 2 ^ 1) = (h : Int) := by
  rw [wrap_u64, wrap_i64] <;> omega

set_option maxHeartbeats 4000000 in
theorem SymMerge_ok {bc : Nat} : ∀ (k : Nat) {w : World} {Q : Value → World → Prop} {A X T Z : List T_api_Item}, X.length + T.length ≤ k → 0 < X.length → 0 < T.length → U.Up S.before X → U.Up S.before T →
    ∀ (hS : Sat E w (rows cd_api_Item s (A ++ (X ++ (T ++ Z))) :: M)) [hf : Fnd (cel bc) M capOb N] {m : Nat} (hm : m = A.length + X.length + T.length + Z.length) (hb : m ≤ 1099511627776) {a c b : Nat} (ha : a = A.length) (hc : c = A.length + X.length) (hbb : b = A.length + X.length + T.length)
    (hQ : ∀ G w, G.Perm (X ++ T) → U.Up S.before G → Sat E w (rows cd_api_Item s (A ++ (G ++ Z)) :: M) → Q (.tuple #[]) w),
    Calls Tryz.prog 177 #[.slice s.a m s.c, .int .i64 a, .int .i64 c, .int .i64 b, cmpV bc] w (retP Q) := by
  intro k
  induction k with
  | zero => intro w Q A X T Z hk h1; omega
  | succ k ih =>
  intro w Q A X T Z hk hX hT uX uT hS hf m hm hb a c b ha hc hbb hQ
  refine slices_symMergeCmpFunc_api_Item_.calls ?_
  unfold slices_symMergeCmpFunc_api_Item_.F
  by_cases hX1 : X.length = 1
  · obtain ⟨x, rfl⟩ : ∃ x, X = [x] := List.length_eq_one_iff.1 hX1
    have hcc : c = a + 1 := by omega
    have hm : m = A.length + T.length + 1 + Z.length := by rw [hX1] at hm; omega
    have hbT : b = c + T.length := by omega
    obtain ⟨D, hD⟩ : ∃ D, D = A ++ ([x] ++ (T ++ Z)) := ⟨_, rfl⟩
    have hDl : D.length = m := by rw [hD, hm]; simp only [List.length_append, List.length_singleton]; omega
    have g0 : D[a]? = some x := by rw [hD, ha]; exact U.get_mid A (T ++ Z) x
    have gT : ∀ k t, T[k]? = some t → D[c + k]? = some t := fun k t h => by
      have hk := (List.getElem?_eq_some_iff.1 h).1
      rw [hD, hcc, ha, show A ++ ([x] ++ (T ++ Z)) = (A ++ [x]) ++ (T ++ Z) by simp, List.getElem?_append_right (by simp only [List.length_append, List.length_singleton]; omega)]
      rw [show A.length + 1 + k - (A ++ [x]).length = k by simp only [List.length_append, List.length_singleton]; omega, List.getElem?_append_left hk, h]
    repeat' (first | (refine pN_eql_s ?_ ?_ <;> intro hc <;> try (exfalso; first | omega | exact hc rfl | exact hc (by assumption) | exact absurd hc (by assumption))) | refine pIf_t ?_ | refine pN_v (hk := ?_) | fail)
    refine ⟨fun v v' w => ∃ p q : Nat, v = .int .i64 ((c + p : Nat) : Int) ∧ v' = .int .i64 ((c + q : Nat) : Int) ∧ p ≤ q ∧ q ≤ T.length ∧ (∀ k t, k < p → T[k]? = some t → S.before t x = true) ∧ (∀ k t, q ≤ k → T[k]? = some t → S.before t x = false) ∧ Sat E w (rows cd_api_Item s D :: M), fun v v' _ => (RowKit.intOf v').toNat - (RowKit.intOf v).toNat,
      ⟨0, T.length, by rw [Nat.add_zero], by rw [hbT], by omega, by omega, fun k t h => by omega, fun k t h1 h2 => by have := (List.getElem?_eq_some_iff.1 h2).1; omega, by rw [hD]; exact hS⟩, ?_⟩
    clear hS
    rintro _ _ _ w ⟨p, q, rfl, rfl, hpq, hq, hlo, hhi, hS⟩
    by_cases hlt : p < q
    · obtain ⟨h, hh⟩ : ∃ h, h = (p + q) / 2 := ⟨_, rfl⟩
      have hmid := mid_ok (i := c + p) (j := c + q) (h := c + h) (by omega) (by omega)
      obtain ⟨t, ht⟩ : ∃ t, T[h]? = some t := ⟨T[h]'(by omega), List.getElem?_eq_getElem _⟩
      have g1 := gT h t ht
      have hbt := fun h => bef_t (x := t) (y := x) h
      have hbf := fun h => bef_f (x := t) (y := x) h
      repeat' (first | refine pN_shr_k 1 rfl (by decide) ?_ | refine pA_ixk hS (c + h) (by omega) (by omega) g1 fun ad ha hel => ?_ | refine pA_ixk hS a rfl (by omega) g0 fun ad ha hel => ?_ | (refine cmp_ok t x hS ?_; clear hS; intro w hS) | refine pA_lss_s (fun hcc => ?_) (fun hcc => ?_) | (refine pN_lss_s ?_ ?_ <;> intro hc <;> try (exfalso; omega)) | refine pIf_t ?_ | refine pIf_f ?_ | refine pL_ld_at ha hS (by rfl) ?_ | (refine pDr_go hS ?_; clear hS; intro w hS) | refine ⟨trivial, ?_⟩ | refine pN_v (hk := ?_) | fail)
      · have hbt := hbt hcc
        have he : (((c + p : Nat) : Int) + ((c + q : Nat) : Int)) / 2 ^ 1 + 1 = ((c + (h + 1) : Nat) : Int) := by omega
        rw [he]
        exact ⟨⟨h + 1, q, rfl, rfl, by omega, hq, fun k u hk hu => uT.lt_le S.before_ord ht hu (by omega) hbt, hhi, hS⟩, by simp [RowKit.intOf] <;> omega⟩
      · have hbf := hbf hcc
        have he : (((c + p : Nat) : Int) + ((c + q : Nat) : Int)) / 2 ^ 1 = ((c + h : Nat) : Int) := by omega
        rw [he]
        exact ⟨⟨p, h, rfl, rfl, by omega, by omega, hlo, fun k u hk hu => uT.nlt_ge S.before_ord ht hu (by omega) hbf, hS⟩, by simp [RowKit.intOf] <;> omega⟩
    · obtain rfl : p = q := by omega
      have hT1 := U.mem_take_at hlo
      have hT2 := U.mem_drop_at hhi
      have hup := U.Up.front S.before_ord (T1 := T.take p) (T2 := T.drop p) (by rw [List.take_append_drop]; exact uT) hT1 hT2
      have hper : (T.take p ++ x :: T.drop p).Perm ([x] ++ T) := by
        refine List.perm_middle.trans ?_
        rw [List.take_append_drop]; exact List.Perm.refl _
      have hthr0 := U.thr_0 A T Z x
      have hD0 : D = U.thr A (T.take p) (T.drop p ++ Z) x 0 := by
        rw [hD, U.thr_0]; simp [← List.append_assoc]
      have hfin : U.thr A (T.take p) (T.drop p ++ Z) x p = A ++ ((T.take p ++ x :: T.drop p) ++ Z) := by
        have := U.thr_all A (T.take p) (T.drop p ++ Z) x
        rw [List.length_take, Nat.min_eq_left hq] at this
        rw [this]; simp
      have hthl : ∀ r, r ≤ p → (U.thr A (T.take p) (T.drop p ++ Z) x r).length = m := fun r hr => by
        rw [U.thr_len _ _ _ _ _ (by rw [List.length_take]; omega), List.length_take, List.length_append, List.length_drop]; omega
      rw [hD0] at hS
      repeat' (first | (refine pN_lss_s ?_ ?_ <;> intro hc <;> try (exfalso; omega)) | refine pIf_f ?_ | fail)
      refine ⟨fun v w => ∃ r : Nat, v = .int .i64 ((a + r : Nat) : Int) ∧ r ≤ p ∧ Sat E w (rows cd_api_Item s (U.thr A (T.take p) (T.drop p ++ Z) x r) :: M), fun v _ => c + p - (RowKit.intOf v).toNat, ⟨0, by rw [Nat.add_zero], by omega, hS⟩, ?_⟩
      clear hS
      rintro _ _ w ⟨r, rfl, hr, hS⟩
      have hlr := hthl r hr
      by_cases hrp : r < p
      · obtain ⟨y, hy, e1, e2, e3⟩ := U.thr_step A (T.take p) (T.drop p ++ Z) x (r := r) (by rw [List.length_take]; omega)
        have g1 := U.get_mid (A ++ (T.take p).take r) (y :: ((T.take p).drop (r + 1) ++ (T.drop p ++ Z))) x
        have g2 := U.get_nb (A ++ (T.take p).take r) ((T.take p).drop (r + 1) ++ (T.drop p ++ Z)) x y
        have hsw := U.swap_nb' (A ++ (T.take p).take r) ((T.take p).drop (r + 1) ++ (T.drop p ++ Z)) x y
        rw [← e1] at g1 g2 hsw
        rw [← e2] at hsw
        rw [e3, ← ha] at g1 g2 hsw
        generalize U.thr A (T.take p) (T.drop p ++ Z) x r = B at *
        obtain ⟨z, h4⟩ : ∃ z, (B.set (a + r) y)[a + r + 1]? = some z := ⟨(B.set (a + r) y)[a + r + 1]'(by rw [List.length_set]; omega), List.getElem?_eq_getElem _⟩
        repeat' (first | refine pA_ixk hS (a + r + 1) (by omega) (by rw [List.length_set]; omega) h4 fun ad ha hel => ?_ | refine pA_ixk hS (a + r + 1) (by omega) (by omega) g2 fun ad ha hel => ?_ | refine pA_ixk hS (a + r) (by omega) (by omega) g1 fun ad ha hel => ?_ | (refine pN_srn (x := y) hel hS (by rfl) (by rfl) (by omega) ?_; clear hS; intro w hS) | (refine pN_srn (x := x) hel hS (by rfl) (by rfl) (by rw [List.length_set]; omega) ?_; clear hS; intro w hS) | (refine pN_lss_s ?_ ?_ <;> intro hc <;> try (exfalso; omega)) | refine pIf_t ?_ | refine pL_ld_at ha hS (by rfl) ?_ | (refine pDr_go hS ?_; clear hS; intro w hS) | refine ⟨trivial, ?_⟩ | refine pN_v (hk := ?_) | refine pA_v (hk := ?_) | fail)
        rw [hsw] at hS
        exact ⟨⟨r + 1, rfl, by omega, hS⟩, by simp [RowKit.intOf] <;> omega⟩
      · obtain rfl : r = p := by omega
        rw [hfin] at hS
        repeat' (first | (refine pN_lss_s ?_ ?_ <;> intro hc <;> try (exfalso; omega)) | refine pIf_f ?_ | refine pN_v (hk := ?_) | fail)
        exact hQ _ _ hper hup hS
  by_cases hT1 : T.length = 1
  · obtain ⟨y, rfl⟩ : ∃ y, T = [y] := List.length_eq_one_iff.1 hT1
    have hbc : b = c + 1 := by omega
    have hca : c = a + X.length := by omega
    have hm : m = A.length + X.length + 1 + Z.length := by rw [hT1] at hm; omega
    have hX2 : ¬ (c : Int) - (a : Int) = 1 := by omega
    have hbc1 : (b : Int) - (c : Int) = 1 := by omega
    obtain ⟨D, hD⟩ : ∃ D, D = A ++ (X ++ ([y] ++ Z)) := ⟨_, rfl⟩
    have hDl : D.length = m := by rw [hD, hm]; simp only [List.length_append, List.length_singleton]; omega
    have g0 : D[c]? = some y := by
      rw [hD, show A ++ (X ++ ([y] ++ Z)) = (A ++ X) ++ y :: Z by simp, hc, show A.length + X.length = (A ++ X).length by rw [List.length_append]]
      exact U.get_mid (A ++ X) Z y
    have gX : ∀ k t, X[k]? = some t → D[a + k]? = some t := fun k t h => by
      have hk := (List.getElem?_eq_some_iff.1 h).1
      rw [hD, ha, List.getElem?_append_right (by omega), show A.length + k - A.length = k by omega, List.getElem?_append_left hk, h]
    repeat' (first | (refine pN_eql_s ?_ ?_ <;> intro hc <;> try (exfalso; first | omega | exact hc rfl | exact hc (by assumption) | exact absurd hc (by assumption))) | refine pIf_t ?_ | refine pIf_f ?_ | refine pN_v (hk := ?_) | fail)
    refine ⟨fun v v' w => ∃ p q : Nat, v = .int .i64 ((a + p : Nat) : Int) ∧ v' = .int .i64 ((a + q : Nat) : Int) ∧ p ≤ q ∧ q ≤ X.length ∧ (∀ k t, k < p → X[k]? = some t → S.before y t = false) ∧ (∀ k t, q ≤ k → X[k]? = some t → S.before y t = true) ∧ Sat E w (rows cd_api_Item s D :: M), fun v v' _ => (RowKit.intOf v').toNat - (RowKit.intOf v).toNat,
      ⟨0, X.length, by rw [Nat.add_zero], by rw [hca], by omega, by omega, fun k t h => by omega, fun k t h1 h2 => by have := (List.getElem?_eq_some_iff.1 h2).1; omega, by rw [hD]; exact hS⟩, ?_⟩
    clear hS
    rintro _ _ _ w ⟨p, q, rfl, rfl, hpq, hq, hlo, hhi, hS⟩
    by_cases hlt : p < q
    · obtain ⟨h, hh⟩ : ∃ h, h = (p + q) / 2 := ⟨_, rfl⟩
      obtain ⟨t, ht⟩ : ∃ t, X[h]? = some t := ⟨X[h]'(by omega), List.getElem?_eq_getElem _⟩
      have g1 := gX h t ht
      have hbt := fun h => bef_t (x := y) (y := t) h
      have hbf := fun h => bef_f (x := y) (y := t) h
      repeat' (first | refine pN_shr_k 1 rfl (by decide) ?_ | refine pA_ixk hS (a + h) (by omega) (by omega) g1 fun ad ha hel => ?_ | refine pA_ixk hS c rfl (by omega) g0 fun ad ha hel => ?_ | (refine cmp_ok y t hS ?_; clear hS; intro w hS) | refine pA_lss_s (fun hcc => ?_) (fun hcc => ?_) | (refine pN_lss_s ?_ ?_ <;> intro hc <;> try (exfalso; omega)) | refine pIf_t ?_ | refine pIf_f ?_ | refine pL_ld_at ha hS (by rfl) ?_ | (refine pDr_go hS ?_; clear hS; intro w hS) | refine ⟨trivial, ?_⟩ | refine pN_v (hk := ?_) | refine pA_v (hk := ?_) | fail)
      · have hbt := hbt hcc
        have he : (((a + p : Nat) : Int) + ((a + q : Nat) : Int)) / 2 ^ 1 = ((a + h : Nat) : Int) := by omega
        rw [he]
        exact ⟨⟨p, h, rfl, rfl, by omega, by omega, hlo, fun k u hk hu => uX.lt_ge S.before_ord ht hu (by omega) hbt, hS⟩, by simp [RowKit.intOf] <;> omega⟩
      · have hbf := hbf hcc
        have he : (((a + p : Nat) : Int) + ((a + q : Nat) : Int)) / 2 ^ 1 + 1 = ((a + (h + 1) : Nat) : Int) := by omega
        rw [he]
        exact ⟨⟨h + 1, q, rfl, rfl, by omega, hq, fun k u hk hu => uX.nlt_le S.before_ord ht hu (by omega) hbf, hhi, hS⟩, by simp [RowKit.intOf] <;> omega⟩
    · obtain rfl : p = q := by omega
      have hX1 := U.mem_take_at hlo
      have hX2 := U.mem_drop_at hhi
      have hup := U.Up.back S.before_ord (S1 := X.take p) (S2 := X.drop p) (by rw [List.take_append_drop]; exact uX) hX1 hX2
      have hper : (X.take p ++ y :: X.drop p).Perm (X ++ [y]) := by
        refine List.perm_middle.trans ?_
        rw [List.take_append_drop]; exact (List.perm_append_singleton y X).symm
      have hD0 : D = U.thr (A ++ X.take p) (X.drop p) Z y (X.length - p) := by
        have := U.thr_all (A ++ X.take p) (X.drop p) Z y
        rw [List.length_drop] at this
        rw [hD, this, List.append_assoc, ← List.append_assoc (X.take p), List.take_append_drop]; rfl
      have hfin : U.thr (A ++ X.take p) (X.drop p) Z y 0 = A ++ ((X.take p ++ y :: X.drop p) ++ Z) := by
        rw [U.thr_0]; simp
      have hAl : (A ++ X.take p).length = a + p := by rw [List.length_append, List.length_take]; omega
      have hthl : ∀ r, r ≤ X.length - p → (U.thr (A ++ X.take p) (X.drop p) Z y r).length = m := fun r hr => by
        rw [U.thr_len _ _ _ _ _ (by rw [List.length_drop]; omega), List.length_drop, hAl]; omega
      rw [hD0] at hS
      have hc0 : (c : Int) = ((a + p + (X.length - p) : Nat) : Int) := by omega
      repeat' (first | (refine pN_lss_s ?_ ?_ <;> intro hc <;> try (exfalso; omega)) | refine pIf_f ?_ | fail)
      refine ⟨fun v w => ∃ r : Nat, v = .int .i64 ((a + p + r : Nat) : Int) ∧ r ≤ X.length - p ∧ Sat E w (rows cd_api_Item s (U.thr (A ++ X.take p) (X.drop p) Z y r) :: M), fun v _ => (RowKit.intOf v).toNat, ⟨X.length - p, by rw [hc0], by omega, hS⟩, ?_⟩
      clear hS
      rintro _ _ w ⟨r, rfl, hr, hS⟩
      have hlr := hthl r hr
      by_cases hrp : 0 < r
      · obtain ⟨r', rfl⟩ : ∃ r', r = r' + 1 := ⟨r - 1, by omega⟩
        obtain ⟨x, hx, e1, e2, e3⟩ := U.thr_step (A ++ X.take p) (X.drop p) Z y (r := r') (by rw [List.length_drop]; omega)
        rw [hAl] at e3
        have g1 := U.get_mid ((A ++ X.take p) ++ (X.drop p).take r') (y :: ((X.drop p).drop (r' + 1) ++ Z)) x
        have g2 := U.get_nb ((A ++ X.take p) ++ (X.drop p).take r') ((X.drop p).drop (r' + 1) ++ Z) x y
        have hsw := U.swap_nb ((A ++ X.take p) ++ (X.drop p).take r') ((X.drop p).drop (r' + 1) ++ Z) x y
        rw [← e2] at g1 g2 hsw
        rw [← e1] at hsw
        rw [e3] at g1 g2 hsw
        generalize U.thr (A ++ X.take p) (X.drop p) Z y (r' + 1) = B at *
        obtain ⟨z, h4⟩ : ∃ z, (B.set (a + p + r' + 1) x)[a + p + r']? = some z := ⟨(B.set (a + p + r' + 1) x)[a + p + r']'(by rw [List.length_set]; omega), List.getElem?_eq_getElem _⟩
        repeat' (first | refine pA_ixk hS (a + p + r') (by omega) (by rw [List.length_set]; omega) h4 fun ad ha hel => ?_ | refine pA_ixk hS (a + p + r' + 1) (by omega) (by omega) g2 fun ad ha hel => ?_ | refine pA_ixk hS (a + p + r') (by omega) (by omega) g1 fun ad ha hel => ?_ | (refine pN_srn (x := x) hel hS (by rfl) (by rfl) (by omega) ?_; clear hS; intro w hS) | (refine pN_srn (x := y) hel hS (by rfl) (by rfl) (by rw [List.length_set]; omega) ?_; clear hS; intro w hS) | (refine pN_gtr_s ?_ ?_ <;> intro hc <;> try (exfalso; omega)) | refine pIf_t ?_ | refine pL_ld_at ha hS (by rfl) ?_ | (refine pDr_go hS ?_; clear hS; intro w hS) | refine ⟨trivial, ?_⟩ | refine pN_v (hk := ?_) | refine pA_v (hk := ?_) | fail)
        rw [hsw] at hS
        exact ⟨⟨r', by congr 1; omega, by omega, hS⟩, by simp [RowKit.intOf] <;> omega⟩
      · obtain rfl : r = 0 := by omega
        rw [hfin] at hS
        repeat' (first | (refine pN_gtr_s ?_ ?_ <;> intro hc <;> try (exfalso; omega)) | refine pIf_f ?_ | fail)
        exact hQ _ _ hper hup hS
  have hX2 : ¬ (c : Int) - (a : Int) = 1 := by omega
  have hT2 : ¬ (b : Int) - (c : Int) = 1 := by omega
  obtain ⟨d, hd⟩ : ∃ d, d = (a + b) / 2 := ⟨_, rfl⟩
  have hdi : ((a : Int) + (b : Int)) / 2 ^ 1 = (d : Int) := by omega
  obtain ⟨D, hD⟩ : ∃ D, D = A ++ (X ++ (T ++ Z)) := ⟨_, rfl⟩
  have hDl : D.length = m := by rw [hD, hm]; simp only [List.length_append]; omega
  have gX : ∀ k t, X[k]? = some t → D[a + k]? = some t := fun k t h => by
    have hk := (List.getElem?_eq_some_iff.1 h).1
    rw [hD, ha, List.getElem?_append_right (by omega), show A.length + k - A.length = k by omega, List.getElem?_append_left hk, h]
  have gT : ∀ k t, T[k]? = some t → D[c + k]? = some t := fun k t h => by
    have hk := (List.getElem?_eq_some_iff.1 h).1
    rw [hD, ← List.append_assoc, hc, List.getElem?_append_right (by rw [List.length_append]; omega), List.length_append, show A.length + X.length + k - (A.length + X.length) = k by omega, List.getElem?_append_left hk, h]
  repeat' (first | refine pN_shr_k 1 rfl (by decide) ?_ | (refine pN_eql_s ?_ ?_ <;> intro hc <;> try (exfalso; first | omega | exact hc rfl | exact hc (by assumption) | exact absurd hc (by assumption))) | refine pIf_f ?_ | refine pN_v (hk := ?_) | fail)
  rw [hdi]
  -- where the halves may part
  obtain ⟨lo, hlo⟩ : ∃ lo, lo = if d < c then d + c - b else a := ⟨_, rfl⟩
  obtain ⟨hi, hhi⟩ : ∃ hi, hi = if d < c then d else c := ⟨_, rfl⟩
  have hlh : a ≤ lo ∧ lo ≤ hi ∧ hi ≤ c ∧ d + c - lo ≤ b ∧ c ≤ d + c - hi := by
    by_cases h : d < c
    · rw [if_pos h] at hlo hhi; omega
    · rw [if_neg h] at hlo hhi; omega
  refine ⟨fun v v' w => v = .int .i64 (lo : Int) ∧ v' = .int .i64 (hi : Int) ∧ Sat E w (rows cd_api_Item s D :: M), ?_, ?_⟩
  · by_cases h : d < c
    · rw [if_pos h] at hlo hhi
      have e1 : (d : Int) + (c : Int) - (b : Int) = (lo : Int) := by omega
      repeat' (first | (refine pN_gtr_s ?_ ?_ <;> intro hc <;> try (exfalso; omega)) | refine pIf_t ?_ | refine pN_v (hk := ?_) | fail)
      rw [e1, hhi]
      exact ⟨rfl, rfl, hD ▸ hS⟩
    · rw [if_neg h] at hlo hhi
      repeat' (first | (refine pN_gtr_s ?_ ?_ <;> intro hc <;> try (exfalso; omega)) | refine pIf_f ?_ | fail)
      rw [hlo, hhi]
      exact ⟨rfl, rfl, hD ▸ hS⟩
  clear hS
  rintro _ _ _ w ⟨rfl, rfl, hS⟩
  repeat' (first | refine pN_v (hk := ?_) | fail)
  refine ⟨fun v v' w => ∃ p q : Nat, v = .int .i64 (p : Int) ∧ v' = .int .i64 (q : Int) ∧ lo ≤ p ∧ p ≤ q ∧ q ≤ hi ∧ (p = lo ∨ ∃ x t, X[p - 1 - a]? = some x ∧ T[d + c - p - c]? = some t ∧ S.before t x = false) ∧ (q = hi ∨ ∃ x t, X[q - a]? = some x ∧ T[d + c - 1 - q - c]? = some t ∧ S.before t x = true) ∧ Sat E w (rows cd_api_Item s D :: M), fun v v' _ => (RowKit.intOf v').toNat - (RowKit.intOf v).toNat,
    ⟨lo, hi, rfl, rfl, Nat.le_refl _, hlh.2.1, Nat.le_refl _, .inl rfl, .inl rfl, hS⟩, ?_⟩
  clear hS
  rintro _ _ _ w ⟨p, q, rfl, rfl, hp, hpq, hq, hl1, hl2, hS⟩
  by_cases hlt : p < q
  · obtain ⟨h, hh⟩ : ∃ h, h = (p + q) / 2 := ⟨_, rfl⟩
    obtain ⟨x, hx⟩ : ∃ x, X[h - a]? = some x := ⟨X[h - a]'(by omega), List.getElem?_eq_getElem _⟩
    obtain ⟨t, ht⟩ : ∃ t, T[d + c - 1 - h - c]? = some t := ⟨T[d + c - 1 - h - c]'(by omega), List.getElem?_eq_getElem _⟩
    have g1 := gX _ x hx
    have g2 := gT _ t ht
    rw [show a + (h - a) = h by omega] at g1
    rw [show c + (d + c - 1 - h - c) = d + c - 1 - h by omega] at g2
    have hbt := fun h => bef_t (x := t) (y := x) h
    have hbf := fun h => bef_f (x := t) (y := x) h
    repeat' (first | refine pN_shr_k 1 rfl (by decide) ?_ | refine pA_ixk hS (d + c - 1 - h) (by omega) (by omega) g2 fun ad ha hel => ?_ | refine pA_ixk hS h (by omega) (by omega) g1 fun ad ha hel => ?_ | (refine cmp_ok t x hS ?_; clear hS; intro w hS) | refine pA_lss_s (fun hcc => ?_) (fun hcc => ?_) | (refine pN_lss_s ?_ ?_ <;> intro hc <;> try (exfalso; omega)) | refine pIf_t ?_ | refine pIf_f ?_ | refine pL_ld_at ha hS (by rfl) ?_ | (refine pDr_go hS ?_; clear hS; intro w hS) | refine ⟨trivial, ?_⟩ | refine pN_v (hk := ?_) | refine pA_v (hk := ?_) | fail)
    · have hbt := hbt hcc
      have he : ((p : Int) + (q : Int)) / 2 ^ 1 = (h : Int) := by omega
      rw [he]
      exact ⟨⟨p, h, rfl, rfl, hp, by omega, by omega, hl1, .inr ⟨x, t, hx, ht, hbt⟩, hS⟩, by simp [RowKit.intOf] <;> omega⟩
    · have hbf := hbf hcc
      have he : ((p : Int) + (q : Int)) / 2 ^ 1 + 1 = ((h + 1 : Nat) : Int) := by omega
      rw [he]
      exact ⟨⟨h + 1, q, rfl, rfl, by omega, by omega, hq, .inr ⟨x, t, by rw [Nat.add_sub_cancel]; exact hx, by rw [show d + c - (h + 1) - c = d + c - 1 - h - c by omega]; exact ht, hbf⟩, hl2, hS⟩, by simp [RowKit.intOf] <;> omega⟩
  · obtain rfl : p = q := by omega
    obtain ⟨e, he⟩ : ∃ e, e = d + c - p := ⟨_, rfl⟩
    have hei : (d : Int) + (c : Int) - (p : Int) = (e : Int) := by omega
    obtain ⟨X1, X2, rfl, hx1, hx2⟩ := half X (k := p - a) (by omega)
    obtain ⟨T1, T2, rfl, ht1, ht2⟩ := half T (k := e - c) (by omega)
    have hXW := U.Up.hXW S.before_ord uX uT (by
      rcases hl1 with h | ⟨x, t, e1, e2, e3⟩
      · by_cases hdc : d < c
        · rw [if_pos hdc] at hlo
          exact .inr (.inl (List.eq_nil_of_length_eq_zero (by omega)))
        · rw [if_neg hdc] at hlo
          exact .inl (List.eq_nil_of_length_eq_zero (by omega))
      · by_cases h0 : p = a
        · exact .inl (List.eq_nil_of_length_eq_zero (by omega))
        · refine .inr (.inr ⟨x, t, ?_, ?_, e3⟩)
          · rw [List.getElem?_append_left (by omega)] at e1
            rw [List.getLast?_eq_getElem?, ← e1]; congr 1; omega
          · rw [List.getElem?_append_right (by omega)] at e2
            rw [List.head?_eq_getElem?, ← e2]; congr 1; omega)
    have hYS := U.Up.hYS S.before_ord uX uT (by
      rcases hl2 with h | ⟨x, t, e1, e2, e3⟩
      · by_cases hdc : d < c
        · rw [if_pos hdc] at hhi
          exact .inr (.inl (List.eq_nil_of_length_eq_zero (by omega)))
        · rw [if_neg hdc] at hhi
          exact .inl (List.eq_nil_of_length_eq_zero (by omega))
      · by_cases h0 : e = c
        · exact .inr (.inl (List.eq_nil_of_length_eq_zero (by omega)))
        · refine .inr (.inr ⟨x, t, ?_, ?_, e3⟩)
          · rw [List.getElem?_append_right (by omega)] at e1
            rw [List.head?_eq_getElem?, ← e1]; congr 1; omega
          · rw [List.getElem?_append_left (by omega)] at e2
            rw [List.getLast?_eq_getElem?, ← e2]; congr 1; omega)
    clear gX gT hl1 hl2
    simp only [List.length_append] at hX hT hX1 hT1 hX2 hT2 hk hm hbb hc hx1 hx2 ht1 ht2
    have hD2 : D = (A ++ X1) ++ (X2 ++ (T1 ++ (T2 ++ Z))) := by rw [hD]; simp only [List.append_assoc]
    have hAX : (A ++ X1).length = p := by rw [List.length_append]; omega
    have hTZ : (T2 ++ Z).length = T2.length + Z.length := List.length_append
    repeat' (first | (refine pN_lss_s ?_ ?_ <;> intro hc <;> try (exfalso; omega)) | refine pIf_f ?_ | refine pN_v (hk := ?_) | fail)
    rw [hei]
    refine ⟨fun w => Sat E w (rows cd_api_Item s ((A ++ X1) ++ (T1 ++ (X2 ++ (T2 ++ Z)))) :: M), ?_, ?_⟩
    · by_cases h1 : p < c ∧ c < e
      · rw [hD2] at hS
        repeat' (first | (refine pN_lss_s ?_ ?_ <;> intro hc <;> try (exfalso; omega)) | refine pIf_t ?_ | refine pGd_go (by rfl) ?_ | refine pN_v (hk := ?_) | fail)
        refine pc_slices_rotateCmpFunc_api_Item_ (Rotate_ok (A := A ++ X1) (S := X2) (T := T1) (Z := T2 ++ Z) (cmpV bc) (by omega) (by omega) hS (by omega) hb (by omega) (by omega) (by omega) ?_)
        clear hS
        intro w hS
        exact hS
      · have hsame : (A ++ X1) ++ (T1 ++ (X2 ++ (T2 ++ Z))) = D := by
          rw [hD2]
          by_cases h2 : p < c
          · have : T1 = [] := List.eq_nil_of_length_eq_zero (by omega)
            rw [this]; rfl
          · have : X2 = [] := List.eq_nil_of_length_eq_zero (by omega)
            rw [this]; rfl
        rw [hsame]
        by_cases h2 : p < c
        · have h3 : ¬ c < e := fun h => h1 ⟨h2, h⟩
          repeat' (first | (refine pN_lss_s ?_ ?_ <;> intro hc <;> try (exfalso; omega)) | refine pIf_f ?_ | refine pGd_go (by rfl) ?_ | refine pN_v (hk := ?_) | fail)
          exact hS
        · repeat' (first | (refine pN_lss_s ?_ ?_ <;> intro hc <;> try (exfalso; omega)) | refine pIf_f ?_ | refine pGd_no (by rfl) ?_ | refine pN_v (hk := ?_) | fail)
          exact hS
    clear hS
    rintro _ w hS
    have hpX := (U.Up.app.1 uX)
    have hpT := (U.Up.app.1 uT)
    have hS : Sat E w (rows cd_api_Item s (A ++ (X1 ++ (T1 ++ (X2 ++ (T2 ++ Z))))) :: M) := by rw [List.append_assoc] at hS; exact hS
    have hxz : (X2 ++ (T2 ++ Z)).length = X2.length + (T2.length + Z.length) := by simp only [List.length_append]
    skip
    refine ⟨fun w => ∃ U1 : List T_api_Item, U1.Perm (X1 ++ T1) ∧ U.Up S.before U1 ∧ Sat E w (rows cd_api_Item s (A ++ (U1 ++ (X2 ++ (T2 ++ Z)))) :: M), ?_, ?_⟩
    · by_cases h1 : a < p ∧ p < d
      · repeat' (first | (refine pN_lss_s ?_ ?_ <;> intro hc <;> try (exfalso; omega)) | refine pIf_t ?_ | refine pGd_go (by rfl) ?_ | refine pN_v (hk := ?_) | fail)
        refine pc_slices_symMergeCmpFunc_api_Item_ (ih (X := X1) (T := T1) (Z := X2 ++ (T2 ++ Z)) (by omega) (by omega) (by omega) hpX.1 hpT.1 hS (by omega) hb ha (by omega) (by omega) fun G w hp hu hS => ?_)
        exact ⟨G, hp, hu, hS⟩
      · have hone : U.Up S.before (X1 ++ T1) := by
          by_cases h2 : a < p
          · have : T1 = [] := List.eq_nil_of_length_eq_zero (by omega)
            rw [this, List.append_nil]; exact hpX.1
          · have : X1 = [] := List.eq_nil_of_length_eq_zero (by omega)
            rw [this]; exact hpT.1
        have hS2 : Sat E w (rows cd_api_Item s (A ++ ((X1 ++ T1) ++ (X2 ++ (T2 ++ Z)))) :: M) := by rw [List.append_assoc]; exact hS
        by_cases h2 : a < p
        · have h3 : ¬ p < d := fun h => h1 ⟨h2, h⟩
          clear hS
          have hS := hS2
          repeat' (first | (refine pN_lss_s ?_ ?_ <;> intro hc <;> try (exfalso; omega)) | refine pIf_f ?_ | refine pGd_go (by rfl) ?_ | refine pN_v (hk := ?_) | fail)
          exact ⟨_, List.Perm.refl _, hone, hS⟩
        · clear hS
          have hS := hS2
          repeat' (first | (refine pN_lss_s ?_ ?_ <;> intro hc <;> try (exfalso; omega)) | refine pIf_f ?_ | refine pGd_no (by rfl) ?_ | refine pN_v (hk := ?_) | fail)
          exact ⟨_, List.Perm.refl _, hone, hS⟩
    clear hS
    rintro _ w ⟨U1, hp1, hu1, hS⟩
    have hl1 := hp1.length_eq
    rw [List.length_append] at hl1
    have hfin : ∀ U2 : List T_api_Item, U2.Perm (X2 ++ T2) → U.Up S.before U2 → (U1 ++ U2).Perm ((X1 ++ X2) ++ (T1 ++ T2)) ∧ U.Up S.before (U1 ++ U2) := fun U2 hp2 hu2 => by
      refine ⟨(hp1.append hp2).trans ?_, U.Up.cross uX uT hXW hYS hp1 hp2 hu1 hu2⟩
      have e1 : (X1 ++ T1) ++ (X2 ++ T2) = X1 ++ (T1 ++ X2 ++ T2) := by simp only [List.append_assoc]
      have e2 : (X1 ++ X2) ++ (T1 ++ T2) = X1 ++ (X2 ++ T1 ++ T2) := by simp only [List.append_assoc]
      rw [e1, e2]
      exact (List.perm_append_comm.append_right T2).append_left X1
    have hAU : (A ++ U1).length = d := by rw [List.length_append]; omega
    have hS : Sat E w (rows cd_api_Item s ((A ++ U1) ++ (X2 ++ (T2 ++ Z))) :: M) := by rw [List.append_assoc]; exact hS
    by_cases h1 : d < e ∧ e < b
    · repeat' (first | (refine pN_lss_s ?_ ?_ <;> intro hc <;> try (exfalso; omega)) | refine pIf_t ?_ | refine pGd_go (by rfl) ?_ | refine pN_v (hk := ?_) | fail)
      refine pc_slices_symMergeCmpFunc_api_Item_ (ih (A := A ++ U1) (X := X2) (T := T2) (Z := Z) (by omega) (by omega) (by omega) hpX.2.1 hpT.2.1 hS (by omega) hb (by omega) (by omega) (by omega) fun G w hp hu hS => ?_)
      obtain ⟨f1, f2⟩ := hfin G hp hu
      skip
      exact hQ _ _ f1 f2 (by rw [List.append_assoc] at hS ⊢; exact hS)
    · have hone : U.Up S.before (X2 ++ T2) := by
        by_cases h2 : d < e
        · have : T2 = [] := List.eq_nil_of_length_eq_zero (by omega)
          rw [this, List.append_nil]; exact hpX.2.1
        · have : X2 = [] := List.eq_nil_of_length_eq_zero (by omega)
          rw [this]; exact hpT.2.1
      obtain ⟨f1, f2⟩ := hfin _ (List.Perm.refl _) hone
      have hS2 : Sat E w (rows cd_api_Item s (A ++ ((U1 ++ (X2 ++ T2)) ++ Z)) :: M) := by
        have e1 : A ++ ((U1 ++ (X2 ++ T2)) ++ Z) = (A ++ U1) ++ (X2 ++ (T2 ++ Z)) := by simp only [List.append_assoc]
        rw [e1]; exact hS
      clear hS
      have hS := hS2
      by_cases h2 : d < e
      · have h3 : ¬ e < b := fun h => h1 ⟨h2, h⟩
        repeat' (first | (refine pN_lss_s ?_ ?_ <;> intro hc <;> try (exfalso; omega)) | refine pIf_f ?_ | refine pGd_go (by rfl) ?_ | refine pN_v (hk := ?_) | fail)
        exact hQ _ _ f1 f2 hS
      · repeat' (first | (refine pN_lss_s ?_ ?_ <;> intro hc <;> try (exfalso; omega)) | refine pIf_f ?_ | refine pGd_no (by rfl) ?_ | refine pN_v (hk := ?_) | fail)
        exact hQ _ _ f1 f2 hS
end
end Go.Proofs.YtikmogfhhggafaaGreatDoor

namespace Go.Proofs.YtikmogfhhggafaaGreatDoor
open Go
attribute [local irreducible] oMv oV oU oCall oCallV oBi oBin oUn oLoad oStore oNil oFld oField oIdx oIndex oPick oAlloc oBox oBuild oBs oConv oMk oSl oExt oFn oIface oMap oLook oMapUp oRange oNext oEntry oInv oAssert oPanic oRes pN pA pL pDr pIf gA pGd Calls
section
variable [Pan] {E w W : World} {K Q : Value → World → Prop} {J : Value → Prop} {L M N : List HA} {l r : List T_api_Item} {s s2 : Sl} {b : Nat}

set_option maxHeartbeats 4000000 in
theorem Stable_ok {bc : Nat} (hS : Sat E w (rows cd_api_Item s l :: M)) [hf : Fnd (cel bc) M capOb N] (hb : l.length ≤ 1099511627776)
    (hQ : ∀ G w, G.Perm l → U.Up S.before G → Sat E w (rows cd_api_Item s G :: M) → Q (.tuple #[]) w) :
    Calls Tryz.prog 127 #[.slice s.a l.length s.c, .int .i64 l.length, cmpV bc] w (retP Q) := by
  refine slices_stableCmpFunc_api_Item_.calls ?_
  unfold slices_stableCmpFunc_api_Item_.F
  obtain ⟨m, hm⟩ : ∃ m, m = l.length := ⟨_, rfl⟩
  rw [← hm] at hb ⊢
  refine ⟨fun v v' w => ∃ (c : Nat) (D : List T_api_Item), v = .int .i64 ((c * 20 : Nat) : Int) ∧ v' = .int .i64 (((c + 1) * 20 : Nat) : Int) ∧ c * 20 ≤ m ∧ D.length = m ∧ D.Perm l ∧ U.Pre S.before 20 (c * 20) D ∧ Sat E w (rows cd_api_Item s D :: M), fun v _ _ => m - (RowKit.intOf v).toNat,
    ⟨0, l, rfl, rfl, by omega, hm.symm, List.Perm.refl _, U.Pre.start (by omega), hS⟩, ?_⟩
  clear hS
  rintro _ _ _ w ⟨c, D, rfl, rfl, hc, hDl, hp, hpre, hS⟩
  by_cases hle : (c + 1) * 20 ≤ m
  · obtain ⟨A, X, Z, rfl, hA, hX, _⟩ := U.cut3 D (a := c * 20) (b := (c + 1) * 20) (by omega) (by omega)
    simp only [List.length_append] at hDl
    repeat' (first | (refine pN_leq_s ?_ ?_ <;> intro hc <;> try (exfalso; omega)) | refine pIf_t ?_ | fail)
    refine pc_slices_insertionSortCmpFunc_api_Item_ (InsSort_ok hS (by omega) hb (by omega) (by omega) fun X' w hp' hu hS => ?_)
    have hl' := hp'.length_eq
    repeat' (first | refine pN_v (hk := ?_) | fail)
    have e1 : (((c + 1) * 20 : Nat) : Int) + 20 = (((c + 1 + 1) * 20 : Nat) : Int) := by omega
    rw [e1]
    refine ⟨⟨c + 1, A ++ (X' ++ Z), rfl, rfl, hle, by simp only [List.length_append]; omega, U.perm_mid hp hp', hpre.step hA (by omega) (by omega) hu, hS⟩, by simp [RowKit.intOf] <;> omega⟩
  · obtain ⟨A, X, hX, hA, hXl⟩ := half D (k := c * 20) (by omega)
    subst hX
    have hS : Sat E w (rows cd_api_Item s (A ++ (X ++ [])) :: M) := by rw [List.append_nil]; exact hS
    simp only [List.length_append] at hDl hXl
    repeat' (first | (refine pN_leq_s ?_ ?_ <;> intro hc <;> try (exfalso; omega)) | refine pIf_f ?_ | fail)
    refine pc_slices_insertionSortCmpFunc_api_Item_ (InsSort_ok (Z := []) hS (by rw [List.length_nil]; omega) hb (by omega) (by omega) fun X' w hp' hu hS => ?_)
    have hl' := hp'.length_eq
    rw [List.append_nil] at hS
    have hblk := hpre.last hA (S' := X') (by omega) hu
    have hp2 : (A ++ X').Perm l := (hp'.append_left A).trans hp
    have hl2 : (A ++ X').length = m := by rw [List.length_append]; omega
    generalize A ++ X' = D at *
    clear hpre hp' hp hu hA hXl hl' hDl hle hc
    skip
    refine ⟨fun v w => ∃ (k : Nat) (D : List T_api_Item), v = .int .i64 (k : Int) ∧ 0 < k ∧ k ≤ 4398046511104 ∧ D.length = m ∧ D.Perm l ∧ U.Blk S.before k D ∧ Sat E w (rows cd_api_Item s D :: M), fun v _ => m - (RowKit.intOf v).toNat,
      ⟨20, D, rfl, by omega, by omega, hl2, hp2, hblk, hS⟩, ?_⟩
    clear hS hblk hp2 hl2 D
    rintro _ _ w ⟨k, D, rfl, hk0, hk4, hDl, hp, hblk, hS⟩
    by_cases hkm : k < m
    · repeat' (first | (refine pN_lss_s ?_ ?_ <;> intro hc <;> try (exfalso; omega)) | refine pIf_t ?_ | refine pN_v (hk := ?_) | fail)
      have e0 : (2 * (k : Int)) = (((0 + 1) * (2 * k) : Nat) : Int) := by omega
      rw [e0]
      refine ⟨fun v v' w => ∃ (c : Nat) (D : List T_api_Item), v = .int .i64 ((c * (2 * k) : Nat) : Int) ∧ v' = .int .i64 (((c + 1) * (2 * k) : Nat) : Int) ∧ c * (2 * k) ≤ m ∧ D.length = m ∧ D.Perm l ∧ U.Half S.before k (c * (2 * k)) D ∧ Sat E w (rows cd_api_Item s D :: M), fun v _ _ => m - (RowKit.intOf v).toNat,
        ⟨0, D, by rw [Nat.zero_mul]; rfl, rfl, by omega, hDl, hp, by rw [Nat.zero_mul]; exact U.Half.start hblk, hS⟩, ?_⟩
      clear hS hblk hp hDl D
      rintro _ _ _ w ⟨c, D, rfl, rfl, hc, hDl, hp, hh, hS⟩
      obtain ⟨a, ha⟩ : ∃ a, a = c * (2 * k) := ⟨_, rfl⟩
      have hb1 : (c + 1) * (2 * k) = a + 2 * k := by rw [Nat.add_mul, Nat.one_mul, ha]
      have hu1 := hh.hi (2 * c) (by rw [Nat.mul_comm 2 c, Nat.mul_assoc]; exact Nat.le_refl _)
      have hu2 := hh.hi (2 * c + 1) (by rw [Nat.add_mul, Nat.mul_comm 2 c, Nat.mul_assoc]; omega)
      have e1 : 2 * c * k = a := by rw [ha, Nat.mul_comm 2 c, Nat.mul_assoc]
      have e2 : (2 * c + 1) * k = a + k := by rw [Nat.add_mul, e1, Nat.one_mul]
      rw [e1] at hu1
      rw [e2] at hu2
      rw [hb1]
      rw [← ha] at hh hc ⊢
      by_cases hle : a + 2 * k ≤ m
      · obtain ⟨A, X, T, Z, rfl, hA, hX, hT, hX', hT'⟩ := U.cut4 D (a := a) (m := a + k) (b := a + 2 * k) (by omega) (by omega) (by omega)
        rw [show a + k - a = k by omega] at hX hX'
        rw [show a + 2 * k - (a + k) = k by omega] at hT hT'
        rw [← hX'] at hu1
        rw [← hT'] at hu2
        simp only [List.length_append] at hDl
        repeat' (first | (refine pN_leq_s ?_ ?_ <;> intro hc <;> try (exfalso; omega)) | refine pIf_t ?_ | refine pN_v (hk := ?_) | fail)
        refine pc_slices_symMergeCmpFunc_api_Item_ (SymMerge_ok (X.length + T.length) (Nat.le_refl _) (by omega) (by omega) hu1 hu2 hS (by omega) hb (by omega) (by omega) (by omega) fun G w hp' hu hS => ?_)
        have hl' := hp'.length_eq
        rw [List.length_append] at hl'
        repeat' (first | refine pN_v (hk := ?_) | fail)
        have e3 : ((a + 2 * k : Nat) : Int) + 2 * (k : Int) = (((c + 1 + 1) * (2 * k) : Nat) : Int) := by
          rw [Nat.add_mul (c + 1), hb1]; omega
        rw [e3]
        have hh2 : U.Half S.before k ((c + 1) * (2 * k)) (A ++ (G ++ Z)) := U.Half.step (by rw [← ha]; exact hh) (by omega) hl' (by omega) hu
        refine ⟨⟨c + 1, A ++ (G ++ Z), by rw [hb1], rfl, by omega, by simp only [List.length_append]; omega, ?_, hh2, hS⟩, by simp [RowKit.intOf] <;> omega⟩
        refine U.perm_mid (S := X ++ T) ?_ hp'
        rw [List.append_assoc]; exact hp
      · by_cases hmm : a + k < m
        · obtain ⟨A, X, T, Z, hDD, hA, hX, hT, hX', hT'⟩ := U.cut4 D (a := a) (m := a + k) (b := m) (by omega) (by omega) (by omega)
          have hZ : Z = [] := by
            have := congrArg List.length hDD
            simp only [List.length_append] at this
            exact List.eq_nil_of_length_eq_zero (by omega)
          subst hZ
          rw [show a + k - a = k by omega] at hX hX'
          have hseg : U.seg D (a + k) (m - (a + k)) = U.seg D (a + k) k := by
            unfold U.seg
            rw [List.take_of_length_le (by rw [List.length_drop]; omega), List.take_of_length_le (by rw [List.length_drop]; omega)]
          rw [hseg] at hT'
          rw [← hX'] at hu1
          rw [← hT'] at hu2
          rw [hDD] at hS hp hh
          rw [List.append_nil] at hh hp
          repeat' (first | (refine pN_leq_s ?_ ?_ <;> intro hc <;> try (exfalso; omega)) | refine pIf_f ?_ | fail)
          refine ⟨fun w => ∃ D : List T_api_Item, D.length = m ∧ D.Perm l ∧ U.Blk S.before (2 * k) D ∧ Sat E w (rows cd_api_Item s D :: M), ?_, ?_⟩
          · repeat' (first | (refine pN_lss_s ?_ ?_ <;> intro hc <;> try (exfalso; omega)) | refine pIf_t ?_ | refine pN_v (hk := ?_) | fail)
            refine pc_slices_symMergeCmpFunc_api_Item_ (SymMerge_ok (X.length + T.length) (Nat.le_refl _) (by omega) (by omega) hu1 hu2 hS (by rw [List.length_nil]; omega) hb (by omega) (by omega) (by omega) fun G w hp' hu hS => ?_)
            have hl' := hp'.length_eq
            rw [List.length_append] at hl'
            rw [List.append_nil] at hS
            refine ⟨A ++ G, by rw [List.length_append]; omega, (hp'.append_left A).trans hp, U.Half.last (c := c) (by rw [← ha]; exact hh) (by omega) hl' (by omega) hu, hS⟩
          · clear hS hp hh
            rintro _ w ⟨D, hDl, hp, hblk, hS⟩
            have e3 : (k : Int) * 2 = ((2 * k : Nat) : Int) := by omega
            repeat' (first | refine pN_v (hk := ?_) | fail)
            rw [e3]
            exact ⟨⟨2 * k, D, rfl, by omega, by omega, hDl, hp, hblk, hS⟩, by simp [RowKit.intOf] <;> omega⟩
        · have hblk := U.Half.rest (c := c) (l := D) (by rw [← ha]; exact hh) (by omega)
          repeat' (first | (refine pN_leq_s ?_ ?_ <;> intro hc <;> try (exfalso; omega)) | refine pIf_f ?_ | fail)
          refine ⟨fun w => ∃ D : List T_api_Item, D.length = m ∧ D.Perm l ∧ U.Blk S.before (2 * k) D ∧ Sat E w (rows cd_api_Item s D :: M), ?_, ?_⟩
          · repeat' (first | (refine pN_lss_s ?_ ?_ <;> intro hc <;> try (exfalso; omega)) | refine pIf_f ?_ | refine pN_v (hk := ?_) | fail)
            exact ⟨D, hDl, hp, hblk, hS⟩
          · clear hS hp hh hblk hDl hu1 hu2 D
            rintro _ w ⟨D, hDl, hp, hblk, hS⟩
            have e3 : (k : Int) * 2 = ((2 * k : Nat) : Int) := by omega
            repeat' (first | refine pN_v (hk := ?_) | fail)
            rw [e3]
            exact ⟨⟨2 * k, D, rfl, by omega, by omega, hDl, hp, hblk, hS⟩, by simp [RowKit.intOf] <;> omega⟩
    · have hup := hblk.all (by omega)
      repeat' (first | (refine pN_lss_s ?_ ?_ <;> intro hc <;> try (exfalso; omega)) | refine pIf_f ?_ | fail)
      exact hQ _ _ hp hup hS

theorem SortStable_ok {bc : Nat} (hS : Sat E w (rows cd_api_Item s l :: M)) [hf : Fnd (cel bc) M capOb N] (hb : l.length ≤ 1099511627776)
    (hQ : ∀ G w, G.Perm l → U.Up S.before G → Sat E w (rows cd_api_Item s G :: M) → Q (.tuple #[]) w) :
    Calls Tryz.prog 96 #[.slice s.a l.length s.c, cmpV bc] w (retP Q) := by
  refine slices_SortStableFunc___api_Item_api_Item_.calls ?_
  unfold slices_SortStableFunc___api_Item_api_Item_.F
  repeat' (first | refine pN_v (hk := ?_) | fail)
  refine pc_slices_stableCmpFunc_api_Item_ (Stable_ok hS hb fun G w hp hu hS => ?_)
  skip
  exact hQ _ _ hp hu hS
end
end Go.Proofs.YtikmogfhhggafaaGreatDoor

namespace Go.Proofs.YtikmogfhhggafaaGreatDoor
open Go
namespace S
theorem werr_at : ∀ {its : List It} {k : Nat} {x : It}, its[k]? = some x → (∀ y ∈ its.take k, A.wrong y = 0) → A.wrong x ≠ 0 → werr its = A.wrong x
  | [], k, x, h, _, _ => by simp at h
  | y :: r, 0, x, h, _, hx => by
    simp at h
    subst h
    rw [werr, if_neg hx]
  | y :: r, k + 1, x, h, hy, hx => by
    rw [werr, if_pos (hy y (by simp)), werr_at (k := k) (by simpa using h) (fun z hz => hy z (by rw [List.take_succ_cons]; exact List.mem_cons_of_mem _ hz)) hx]
theorem werr_0 : ∀ {its : List It}, (∀ y ∈ its, A.wrong y = 0) → werr its = 0
  | [], _ => rfl
  | y :: r, h => by rw [werr, if_pos (h y List.mem_cons_self), werr_0 fun z hz => h z (List.mem_cons_of_mem _ hz)]
theorem werr_of : ∀ {its : List It}, werr its = 0 → ∀ y ∈ its, A.wrong y = 0
  | [], _, y, hy => by cases hy
  | x :: r, h, y, hy => by
    rw [werr] at h
    split at h
    · rename_i hx
      rcases List.mem_cons.1 hy with rfl | hy
      · exact hx
      · exact werr_of h y hy
    · rename_i hx; exact absurd h hx
theorem twice_eq : ∀ (l : List It), twice l = true ↔ ∃ i x y, l[i]? = some x ∧ l[i + 1]? = some y ∧ x.Name = y.Name
  | [] => by simp [twice]
  | [x] => by
    simp only [twice, Bool.false_eq_true, false_iff]
    rintro ⟨i, a, b, _, h2, _⟩
    simp at h2
  | x :: y :: r => by
    rw [twice, Bool.or_eq_true, decide_eq_true_eq, twice_eq (y :: r)]
    constructor
    · rintro (h | ⟨i, a, b, h1, h2, h3⟩)
      · exact ⟨0, x, y, rfl, rfl, h⟩
      · exact ⟨i + 1, a, b, by simpa using h1, by simpa using h2, h3⟩
    · rintro ⟨i, a, b, h1, h2, h3⟩
      cases i with
      | zero =>
        simp at h1 h2
        subst h1 h2
        exact .inl h3
      | succ i => exact .inr ⟨i, a, b, by simpa using h1, by simpa using h2, h3⟩
theorem putAll_take {d : D.T} {l : List It} {k : Nat} {x : It} (h : l[k]? = some x) : putAll d (l.take (k + 1)) = (putAll d (l.take k)).put x.Data.2 := by
  unfold putAll
  rw [List.take_add_one, h, List.foldl_append]
  rfl
theorem put_nil (d : D.T) : d.put [] = d := by
  show d.puts (C.pieces d.k []) = d
  rw [C.pieces_nil]; rfl
theorem ids_nil (k : C.K) : D.ids k [] = [] := by
  show (C.pieces k []).map H.sum = []
  rw [C.pieces_nil]; rfl
end S
theorem pN_bldE [Pan] {w : World} {K : Value → World → Prop} (a b : List UInt8) (k m t : Int) (dt : Sl × List UInt8) (hk : K (.agg #[.string ⟨a.toArray⟩, .string ⟨b.toArray⟩, .int .i64 k, .int .i64 m, .int .i64 t, .slice dt.1.a dt.2.length dt.1.c, .slice none 0 0]) w) :
    pN Tryz.prog (oBuild 118 [(0, .agg (T_api_Item.enc ⟨a, b, k, m, t, dt⟩).toArray)]) w K := by
  have e : (oBuild 118 [(0, .agg (T_api_Item.enc ⟨a, b, k, m, t, dt⟩).toArray)]) = oBuild 118 [(0, .agg #[.string ⟨a.toArray⟩, .string ⟨b.toArray⟩, .int .i64 k, .int .i64 m, .int .i64 t, .slice dt.1.a dt.2.length dt.1.c])] := rfl
  rw [e, pN_bld_118_0]
  exact hk
theorem list_en_take {k : C.K} {G : List T_api_Item} {j : Nat} {x : T_api_Item} (h : G[j]? = some x) : (G.take (j + 1)).map (S.en k) = (G.take j).map (S.en k) ++ [S.en k x] := by
  rw [List.take_add_one, h, List.map_append]; rfl
attribute [local irreducible] oMv oV oU oCall oCallV oBi oBin oUn oLoad oStore oNil oFld oField oIdx oIndex oPick oAlloc oBox oBuild oBs oConv oMk oSl oExt oFn oIface oMap oLook oMapUp oRange oNext oEntry oInv oAssert oPanic oRes pN pA pL pDr pIf gA pGd Calls H.sum C.put L.list
section
variable [Pan] {E w W : World} {K Q : Value → World → Prop} {LL M N N' : List HA} {c : T_api_Config} {db : Nat} {d : D.T} {its : List T_api_Item} {s sl : Sl}

theorem byName_ok (hS : Sat E w M) [hr : Rds cd_api_Item M sl its] (hl : its.length ≤ 1099511627776) (hQ : ∀ G s w, G.Perm its → U.Up S.before G → Sat E w (rows cd_api_Item s G :: M) → Q (.slice s.a G.length s.c) w) :
    Calls Tryz.prog 57 #[.slice sl.a its.length sl.c, .func (.func 58) #[] #[]] w (retP Q) := by
  refine snap_byName_api_Item_.calls ?_
  unfold snap_byName_api_Item_.F
  refine pN_bx (z := [.func (.func 58) #[] #[]]) hS rfl ?_
  clear hS
  intro bc w hS
  repeat' (first | (refine pc_slices_Clone___api_Item_api_Item_ (SCloneT_ok (s := sl) (lt := its) hS hl ?_); clear hS; intro s1 w hS) | refine pN_fn ?_ | fail)
  refine pc_slices_SortStableFunc___api_Item_api_Item_ (SortStable_ok (bc := bc) (s := s1) (l := its) hS hl fun G w hp hu hS => ?_)
  rw [← hp.length_eq]
  skip
  exact hQ G s1 _ hp hu hS.to

set_option maxHeartbeats 4000000 in
theorem Save_ok (hG : GloS W) (hk : d.k.legal) (hS : Sat E w LL) [hf : Fnd (Dep c db) LL d N] [hg : Has (old W) N N'] (n : NKey) (hn : n.1.length ≤ 254) [hr : Rds cd_api_Item N sl its] (hd : ∀ x ∈ its, Rds cd_uint8 N x.Data.1 x.Data.2)
    (hb : ∀ x ∈ its, x.Name.length ≤ 1099511627776 ∧ x.Link.length ≤ 1099511627776 ∧ x.Data.2.length ≤ 1099511627776) (hl : its.length ≤ 1099511627776) (hlist : (S.list d.k (S.sort its)).length ≤ 1099511627776)
    (hQ : ∀ w, Sat E w (Dep c db (S.save d n.1 its).2 :: N) → Q (.int .i64 (S.save d n.1 its).1) w) :
    Calls Tryz.prog 13 #[.pointer (some ⟨db, 0, none⟩), nke n, .slice sl.a its.length sl.c] w (retP Q) := by
  refine snap_Save.calls ?_
  unfold snap_Save.F
  have hS1 := hS.fd (Dep c db)
  clear hS hf
  have hS := hS1
  clear hS1
  have hsv : S.save d n.1 its = if S.werr its ≠ 0 then (S.werr its, d) else if S.twice (S.sort its) = true then (9, d) else (0, S.saved d n.1 (S.sort its)) := by rw [S.save, if_neg (by omega)]
  rw [hsv] at hQ
  clear hsv
  repeat' (first | (refine pc_depot_Legal (DLegal_ok n.1 hn ?_)) | (refine pN_neq_s ?_ ?_ <;> intro hc <;> try (exfalso; first | omega | exact hc rfl | exact hc (by assumption) | exact absurd hc (by assumption))) | refine pIf_f ?_ | refine pN_v (hk := ?_) | fail)
  refine ⟨fun v w => ∃ k : Nat, v = .int .i64 k ∧ k ≤ its.length ∧ (∀ x ∈ its.take k, A.wrong x = 0) ∧ Sat E w (Dep c db d :: N), fun v _ => its.length - (RowKit.intOf v).toNat, ⟨0, rfl, by omega, fun x hx => by simp at hx, hS⟩, ?_⟩
  clear hS
  rintro _ _ w ⟨k, rfl, hkl, hw, hS⟩
  by_cases hlt : k < its.length
  · obtain ⟨x, hx⟩ : ∃ x, its[k]? = some x := ⟨its[k], by simp [hlt]⟩
    have hm : x ∈ its := List.mem_of_getElem? hx
    haveI := hd x hm
    obtain ⟨b1, b2, b3⟩ := hb x hm
    repeat' (first | (refine pN_lss_s ?_ ?_ <;> intro hc <;> try (exfalso; omega)) | refine pIf_t ?_ | refine pN_ld_at ha hS (by rfl) ?_ | refine pN_la hS (by rfl) ?_ | (refine pN_sa hS (by rfl) (by rfl) (by rfl) ?_; clear hS; intro w hS; try dsimp only at hS) | (refine pN_nz hS ?_; clear hS; intro a w hS) | refine pN_ixk hS _ (by first | rfl | (exact (Int.toNat_of_nonneg (by omega)).symm)) (by first | rfl | omega | simpa only [go_sem] using True.intro | (simp only [go_sem]; omega)) (by assumption) fun a ha hel => ?_ | fail)
    refine pc_tar_Put (Put_ok x (by omega) (by omega) hS (fun h0 w hS => ?_) fun h0 s1 w hS => ?_)
    · rw [S.werr_at hx hw h0, if_pos h0] at hQ
      repeat' (first | (refine pN_neq_s ?_ ?_ <;> intro hc <;> try (exfalso; first | omega | exact hc rfl | exact hc (by assumption) | exact absurd hc (by assumption))) | refine pIf_t ?_ | refine pN_v (hk := ?_) | fail)
      exact hQ _ hS.to
    · repeat' (first | (refine pN_neq_s ?_ ?_ <;> intro hc <;> try (exfalso; first | omega | exact hc rfl | exact hc (by assumption) | exact absurd hc (by assumption))) | refine pIf_f ?_ | refine pN_v (hk := ?_) | fail)
      refine ⟨⟨k + 1, rfl, by omega, fun y hy => ?_, hS.to⟩, by simp [RowKit.intOf] <;> omega⟩
      rw [List.take_add_one, hx] at hy
      rcases List.mem_append.1 hy with hy | hy
      · exact hw y hy
      · obtain rfl : y = x := by simpa using hy
        exact h0
  · obtain rfl : k = its.length := by omega
    rw [List.take_length] at hw
    rw [S.werr_0 hw, if_neg (fun h => h rfl)] at hQ
    repeat' (first | (refine pN_lss_s ?_ ?_ <;> intro hc <;> try (exfalso; omega)) | refine pIf_f ?_ | fail)
    refine pc_snap_byName_api_Item_ (byName_ok (sl := sl) (its := its) hS hl fun G sg w hp hu hS => ?_)
    obtain ⟨ht1, ht2⟩ := S.sort_of hp hu
    have hgl := hp.length_eq
    refine ⟨fun v w => ∃ i : Nat, v = .int .i64 i ∧ 1 ≤ i ∧ (∀ j x y, j + 1 < i → G[j]? = some x → G[j + 1]? = some y → x.Name ≠ y.Name) ∧ Sat E w (rows cd_api_Item sg G :: Dep c db d :: N), fun v _ => G.length - (RowKit.intOf v).toNat, ⟨1, rfl, by omega, fun j x y h => by omega, hS⟩, ?_⟩
    clear hS
    rintro _ _ w ⟨i, rfl, hi1, hne, hS⟩
    by_cases hlt : i < G.length
    · obtain ⟨y, hy⟩ : ∃ y, G[i]? = some y := ⟨G[i], by simp [hlt]⟩
      obtain ⟨x, hx⟩ : ∃ x, G[i - 1]? = some x := ⟨G[i - 1], by simp [show i - 1 < G.length by omega]⟩
      have e1 : i - 1 + 1 = i := by omega
      have e2 : (((i - 1 : Nat)) : Int) = (i : Int) - 1 := by omega
      repeat' (first | (refine pN_lss_s ?_ ?_ <;> intro hc <;> try (exfalso; omega)) | (refine pA_eql_ss ?_ ?_ <;> intro hc <;> try (exfalso; first | omega | exact hc rfl | exact hc (by assumption) | exact absurd hc (by assumption))) | refine pIf_t ?_ | refine pIf_f ?_ | refine pL_ld1 ha hS ?_ | refine pA_fa ha (by rfl) fun a ha => ?_ | (refine pDr_go hS ?_; clear hS; intro w hS) | refine pA_ixk hS _ (by first | rfl | (exact (Int.toNat_of_nonneg (by omega)).symm)) (by first | rfl | omega | simpa only [go_sem] using True.intro | (simp only [go_sem]; omega)) (by assumption) fun a ha hel => ?_ | refine pA_ix hS _ (by first | rfl | (exact (Int.toNat_of_nonneg (by omega)).symm)) (by first | rfl | omega | simpa only [go_sem] using True.intro | (simp only [go_sem]; omega)) (by first | omega | (simp only [go_sem]; omega)) fun a x hx ha hel => ?_ | refine pN_v (hk := ?_) | refine pA_v (hk := ?_) | fail)
      · have e3 : ((i : Int) - 1).toNat = i - 1 := by omega
        rw [e3] at hx
        have h1 : S.twice G = true := (S.twice_eq G).2 ⟨i - 1, x, y, hx, by rw [e1]; exact hy, hc.symm⟩
        rw [← ht1, h1, if_pos rfl] at hQ
        exact hQ _ hS.to
      · have e3 : ((i : Int) - 1).toNat = i - 1 := by omega
        rw [e3] at hx
        refine ⟨⟨i + 1, rfl, by omega, fun j x2 y2 hj h1 h2 => ?_, hS⟩, by simp [RowKit.intOf] <;> omega⟩
        by_cases hji : j + 1 < i
        · exact hne j x2 y2 hji h1 h2
        · obtain rfl : j = i - 1 := by omega
          rw [hx] at h1
          rw [e1, hy] at h2
          cases h1
          cases h2
          exact fun e => hc e.symm
    · have htw : S.twice G = false := by
        cases h : S.twice G with
        | false => rfl
        | true =>
          obtain ⟨j, x, y, h1, h2, h3⟩ := (S.twice_eq G).1 h
          have := (List.getElem?_eq_some_iff.1 h2).1
          exact absurd h3 (hne j x y (by omega) h1 h2)
      rw [← ht1, htw, if_neg (by decide)] at hQ
      rw [← ht2 htw] at hQ hlist
      have hdG : ∀ x ∈ G, Rds cd_uint8 N x.Data.1 x.Data.2 := fun x hx => hd x (hp.mem_iff.1 hx)
      have hbG : ∀ x ∈ G, x.Name.length ≤ 1099511627776 ∧ x.Link.length ≤ 1099511627776 ∧ x.Data.2.length ≤ 1099511627776 := fun x hx => hb x (hp.mem_iff.1 hx)
      have hwG : ∀ x ∈ G, A.wrong x = 0 := fun x hx => hw x (hp.mem_iff.1 hx)
      clear hne ht1 ht2
      repeat' (first | (refine pN_lss_s ?_ ?_ <;> intro hc <;> try (exfalso; omega)) | refine pIf_f ?_ | refine pN_v (hk := ?_) | fail)
      refine ⟨fun v v' w => ∃ (k : Nat) (ee : List EE) (so : Sl), v = .slice so.a ee.length so.c ∧ v' = .int .i64 k ∧ k ≤ G.length ∧ ee.map enOf = (G.take k).map (S.en d.k) ∧
        (∀ p ∈ ee, 0 ≤ p.1.Mode ∧ p.1.Mode < 9223372036854775808 ∧ 0 ≤ p.1.Time ∧ p.1.Time < 9223372036854775808) ∧
        Sat E w (rows cdE so ee :: bag (eeR ee) :: Dep c db (S.putAll d (G.take k)) :: rows cd_api_Item sg G :: N), fun _ v _ => G.length - (RowKit.intOf v).toNat,
        ⟨0, [], ⟨none, 0⟩, rfl, rfl, by omega, rfl, fun p h => (by cases h), ?_⟩, ?_⟩
      · have h8 : Sat E w (rows cdE ⟨none, 0⟩ [] :: _) := hS.nil cdE.e cdE.size
        have h9 : Sat E w (bag (eeR []) :: rows cdE ⟨none, 0⟩ [] :: _) := h8.bag_nil
        have h10 : Sat E w (rows cdE ⟨none, 0⟩ [] :: bag (eeR []) :: Dep c db d :: rows cd_api_Item sg G :: N) := h9.to
        exact h10
      clear hS
      rintro _ _ _ w ⟨k, ee, so, rfl, rfl, hkl, hee, hmt, hS⟩
      have hel : ee.length = k := by
        have := congrArg List.length hee
        rw [List.length_map, List.length_map, List.length_take] at this
        omega
      by_cases hlt : k < G.length
      · obtain ⟨x, hx⟩ : ∃ x, G[k]? = some x := ⟨G[k], by simp [hlt]⟩
        have hm : x ∈ G := List.mem_of_getElem? hx
        have hrd := hdG x hm
        obtain ⟨b1, b2, b3⟩ := hbG x hm
        obtain ⟨_, _, _, m0, m1, t0, t1, _, _, _, _, hd0⟩ := A.wrong_0 (hwG x hm)
        have hpt := S.putAll_take (d := d) hx
        have hdk : (S.putAll d (G.take k)).k = d.k := S.putAll_k _ d
        have hen := list_en_take (k := d.k) hx
        generalize S.putAll d (G.take k) = d1 at *
        have hids : x.Kind ≠ 0 → D.ids d.k x.Data.2 = [] ∧ d1.put x.Data.2 = d1 := fun h => by
          rw [hd0 h]
          exact ⟨S.ids_nil _, S.put_nil _⟩
        obtain ⟨nm, lk, kd, md, tm, dt⟩ := x
        dsimp only at hrd b1 b2 b3 m0 m1 t0 t1 hids hpt
        have hle1 : ((ee ++ [((⟨nm, lk, kd, md, tm, dt⟩ : T_api_Item), (sl, D.ids d.k dt.2))]).length : Nat) = k + 1 := by rw [List.length_append, hel]; rfl
        have hids2 : ∀ ss : Sl, (ee ++ [((⟨nm, lk, kd, md, tm, dt⟩ : T_api_Item), (ss, D.ids d.k dt.2))]).map enOf = (G.take (k + 1)).map (S.en d.k) := fun ss => by rw [List.map_append, hee, hen]; rfl
        repeat' (first | (refine pN_lss_s ?_ ?_ <;> intro hc <;> try (exfalso; omega)) | refine pIf_t ?_ | fail)
        refine ⟨fun v w => ∃ (ss so : Sl), v = .slice so.a (ee ++ [((⟨nm, lk, kd, md, tm, dt⟩ : T_api_Item), (ss, D.ids d.k dt.2))]).length so.c ∧
          Sat E w (rows cdE so (ee ++ [((⟨nm, lk, kd, md, tm, dt⟩ : T_api_Item), (ss, D.ids d.k dt.2))]) :: bag (eeR (ee ++ [((⟨nm, lk, kd, md, tm, dt⟩ : T_api_Item), (ss, D.ids d.k dt.2))])) :: Dep c db (d1.put dt.2) :: rows cd_api_Item sg G :: N), ?_, ?_⟩
        · repeat' (first | refine pN_ld_at ha hS (by rfl) ?_ | refine pN_la hS (by rfl) ?_ | (refine pN_sa hS (by rfl) (by rfl) (by rfl) ?_; clear hS; intro w hS; try dsimp only at hS) | (refine pN_nz hS ?_; clear hS; intro a w hS) | refine pN_ixk hS _ (by first | rfl | (exact (Int.toNat_of_nonneg (by omega)).symm)) (by first | rfl | omega | simpa only [go_sem] using True.intro | (simp only [go_sem]; omega)) (by assumption) fun a ha hel => ?_ | fail)
          revert a
          intro x15 hS
          refine pN_bldE nm lk kd md tm dt ?_
          repeat' (first | (refine pN_sa hS (by rfl) (by rfl) (by rfl) ?_; clear hS; intro w hS; try dsimp only at hS) | (refine pN_nz hS ?_; clear hS; intro a w hS) | fail)
          revert a
          intro x16 hS
          haveI hrd2 : Rds cd_uint8 N dt.1 dt.2 := hrd
          refine ⟨fun w => ∃ ss : Sl, Sat E w (rows (cdI 58) ss (D.ids d.k dt.2) :: cel x16 ⟨118, [.string ⟨nm.toArray⟩, .string ⟨lk.toArray⟩, .int .i64 kd, .int .i64 md, .int .i64 tm, .slice dt.1.a dt.2.length dt.1.c, .slice ss.a (D.ids d.k dt.2).length ss.c]⟩ :: rows cdE so ee :: bag (eeR ee) :: Dep c db (d1.put dt.2) :: rows cd_api_Item sg G :: N), ?_, ?_⟩
          · by_cases k0 : kd = 0
            · repeat' (first | (refine pN_eql_s ?_ ?_ <;> intro hc <;> try (exfalso; first | omega | exact hc rfl | exact hc (by assumption) | exact absurd hc (by assumption))) | refine pIf_t ?_ | refine pN_l hS (by first | rfl | assumption) ?_ | refine pN_v (hk := ?_) | fail)
              refine pc_depot_Depot_Put (DPut_ok (c := c) (d := d1) (s := dt.1) (l := dt.2) hG (by rw [hdk]; exact hk) hS b3 ?_)
              rw [hdk]
              clear hS
              intro si w hS
              repeat' (first | (refine pN_s hS (by first | exact Nat.le_of_ble_eq_true rfl | assumption) (by rfl) ?_; clear hS; intro w hS; try simp only [List.set_cons_zero, List.set_cons_succ] at hS) | refine pN_v (hk := ?_) | fail)
              exact ⟨si, hS.to⟩
            · obtain ⟨i1, i2⟩ := hids k0
              rw [i1, i2]
              repeat' (first | (refine pN_eql_s ?_ ?_ <;> intro hc <;> try (exfalso; first | omega | exact hc rfl | exact hc (by assumption) | exact absurd hc (by assumption))) | refine pIf_f ?_ | refine pN_l hS (by first | rfl | assumption) ?_ | refine pN_v (hk := ?_) | fail)
              have h8 : Sat E w (rows (cdI 58) ⟨none, 0⟩ [] :: _) := hS.nil (cdI 58).e (cdI 58).size
              exact ⟨⟨none, 0⟩, h8.to⟩
          · clear hS
            rintro _ w ⟨ss, hS⟩
            generalize D.ids d.k dt.2 = di at *
            repeat' (first | (refine pN_b1 (x := ((⟨nm, lk, kd, md, tm, dt⟩ : T_api_Item), (ss, di))) hS rfl (by decide) ?_; clear hS; intro s3 w hS) | (refine pN_app (C := cdE) (s := so) (l := ee) hS rfl rfl (by rw [List.length_cons, List.length_nil]; omega) ?_; clear hS; intro s4 w hS) | refine pN_la hS (by rfl) ?_ | fail)
            have hS : Sat E w (rows (cdI 58) ss di :: bag (eeR ee) :: rows cdE s4 (ee ++ [((⟨nm, lk, kd, md, tm, dt⟩ : T_api_Item), (ss, di))]) :: Dep c db (d1.put dt.2) :: rows cd_api_Item sg G :: N) := hS.to
            have hS := eeR_snoc ((⟨nm, lk, kd, md, tm, dt⟩ : T_api_Item), (ss, di)) hS
            exact ⟨ss, s4, rfl, hS.to⟩
        · clear hS
          rintro _ _ w ⟨ss, so, rfl, hS⟩
          repeat' (first | refine pN_v (hk := ?_) | fail)
          refine ⟨⟨k + 1, _, so, rfl, rfl, by omega, hids2 ss, fun p hp => ?_, by rw [hpt]; exact hS⟩, by simp [RowKit.intOf] <;> omega⟩
          rcases List.mem_append.1 hp with hp | hp
          · exact hmt p hp
          · obtain rfl : p = _ := by simpa using hp
            exact ⟨m0, by show md < _; omega, t0, by show tm < _; omega⟩
      · obtain rfl : k = G.length := by omega
        rw [List.take_length] at hee hS
        have hdk : (S.putAll d G).k = d.k := S.putAll_k _ d
        have hLl : L.list (ee.map enOf) = S.list d.k G := by rw [hee]; rfl
        have hsaved : S.saved d n.1 G = ((S.putAll d G).put (S.list d.k G)).set n.1 (D.ids d.k (S.list d.k G)) := rfl
        have hne := S.ids_ne d.k (S.list_ne d.k G)
        have hidl : (D.ids d.k (S.list d.k G)).length ≤ 1099511627776 := by
          have h1 := C.pieces_len d.k (S.list d.k G)
          have h2 : (D.ids d.k (S.list d.k G)).length = (C.pieces d.k (S.list d.k G)).length := List.length_map ..
          omega
        rw [hsaved] at hQ
        generalize S.putAll d G = d1 at *
        have hrdE : ∀ p ∈ ee, Rds (cdI 58) (rows cdE so ee :: bag (eeR ee) :: Dep c db d1 :: rows cd_api_Item sg G :: N) p.2.1 p.2.2 := fun p hp => by
          haveI := eeR_rd hp
          infer_instance
        repeat' (first | (refine pc_snap_write (swrite_ok (s := so) (es := ee) hG hS hrdE hmt (by omega) (by rw [hLl]; omega) ?_); rw [hLl]; clear hS; intro sb w hS) | (refine pN_lss_s ?_ ?_ <;> intro hc <;> try (exfalso; omega)) | refine pIf_f ?_ | fail)
        refine pc_depot_Depot_Put (DPut_ok (c := c) (d := d1) (s := sb) (l := S.list d.k G) hG (by rw [hdk]; exact hk) hS hlist ?_)
        rw [hdk]
        clear hS
        intro si w hS
        refine pc_depot_Depot_Set (DSet_ok (c := c) n hn hS (s := si) (li := D.ids d.k (S.list d.k G)) hne hidl ?_)
        clear hS
        intro w hS
        exact hQ _ hS.to
end
end Go.Proofs.YtikmogfhhggafaaGreatDoor

namespace Go.Proofs.YtikmogfhhggafaaGreatDoor
open Go
set_option maxRecDepth 100000

def pithlaw36_SnapLists.H : Hints := { cut := fun  | _ => none, loop := fun | 16 => ([129], 23384026196613881957417080396533779099631391604800) | 26 => ([164], 49039833923682246173020413609852570415271337414979747904) | 39 => ([218], 107418537501928330431876388237343840965272997308560093479398270828544) | 44 => ([228], 109996582401974610362241421555040093148439549243965535722902731964284928) | 49 => ([238], 112636500379622001010935215672361055384002098425820708580252395336699478016) | 56 => ([267], 509258993846479322809087853874871162965074263132987134063803237185786192892628112813064256) | 61 => ([285], 254567331637259537453286288270153917526420992189392362864837498172186017533290538780852224) | 68 => ([35, 300], 33372760400287885551335945713210842412506206693429033594171888981772828834022745257505678426112) | 73 => ([316], 150306725297525193085737013137637420063187047533125309056233974887263255917234451492943874606590820971230265408) | 76 => ([324], 2293498581814278936876259576981739642083731155525008766031144520234257150932969195579769752743007173476416) | _ => ([], 0), order := fun | 58 => [(0, 0), (1, 1), (2, 3), (3, 7), (4, 15), (5, 31), (6, 63), (7, 127), (8, 255), (9, 511)] | 70 => [(0, 0), (1, 1), (2, 3), (3, 7), (4, 15), (5, 31), (6, 63), (7, 127), (8, 255), (9, 511), (10, 1023)] | 81 => [(0, 0), (1, 1), (2, 3), (3, 7), (4, 15), (5, 31), (6, 63), (7, 127), (8, 255), (9, 511), (10, 1023), (11, 2047), (12, 4095), (13, 8191), (14, 16383)] | _ => [] }
def pithlaw36_SnapLists.F [Pan] (x0 x1 x2 : Value) (w : World) (Q : Value → World → Prop) : Prop :=
 pN Tryz.prog (oBox 29 x0) w fun x3 w1 =>
 pN Tryz.prog (oLoad 29 x3) w1 fun x43 w2 =>
 pN Tryz.prog (oCall 8 [x43]) w2 fun x44 w3 =>
 pN Tryz.prog (oExt x44 0) w3 fun x45 w4 =>
 pN Tryz.prog (oExt x44 1) w4 fun x46 w5 =>
 pN Tryz.prog (oBin .eql 31 (.tmp 47) (.const (.pointer none)) x45 (.pointer none)) w5 fun x48 w6 =>
 pGd (gB x48 false) (pN Tryz.prog (oMv x46) w6) w6 fun x50 w7 =>
 pGd (gB x48 false) (pN Tryz.prog (oUn .not x50) w7) w7 fun x51 w8 =>
 pN Tryz.prog (oPick x48 (.bool true) x51) w8 fun x52 w9 =>
 pGd (gB x52 false) (pN Tryz.prog (oMv x1) w9) w9 fun x54 w10 =>
 pGd (gB x52 false) (pN Tryz.prog (oCall 9 [x54]) w10) w10 fun x55 w11 =>
 pGd (gB x52 false) (pN Tryz.prog (oBin .neq 3 (.tmp 55) (.const (.int .i64 0)) x55 (.int .i64 0)) w11) w11 fun x56 w12 =>
 pN Tryz.prog (oPick x52 (.bool true) x56) w12 fun x57 w13 =>
 pGd (gB x57 false) (pN Tryz.prog (oMv x2) w13) w13 fun x59 w14 =>
 pGd (gB x57 false) (pN Tryz.prog (oCall 9 [x59]) w14) w14 fun x60 w15 =>
 pGd (gB x57 false) (pN Tryz.prog (oBin .neq 3 (.tmp 60) (.const (.int .i64 0)) x60 (.int .i64 0)) w15) w15 fun x61 w16 =>
 pN Tryz.prog (oPick x57 (.bool true) x61) w16 fun x62 w17 =>
 pGd (gB x62 false) (pN Tryz.prog (oLoad 29 x3) w17) w17 fun x64 w18 =>
 pGd (gB x62 false) (pN Tryz.prog (oMv x1) w18) w18 fun x65 w19 =>
 pGd (gB x62 false) (pN Tryz.prog (oMv x2) w19) w19 fun x66 w20 =>
 pGd (gB x62 false) (pN Tryz.prog (oBs 104 2 [(0, x65), (1, x66)]) w20) w20 fun x67 w21 =>
 pGd (gB x62 false) (pN Tryz.prog (oCall 10 [x64, x67]) w21) w21 fun x68 w22 =>
 pN Tryz.prog (oPick x62 (.bool true) x68) w22 fun x69 w23 =>
 pIf x69
 (pGd (gB x46 true) (pN Tryz.prog (oCall 11 []) w23) w23 fun x72 w24 =>
 pN Tryz.prog (oPick x46 x72 (.bool false)) w24 fun x73 w25 =>
 Q x73 w25)
 (pN Tryz.prog (oCall 13 [x45, (.string ⟨#[108]⟩), x1]) w23 fun x76 w26 =>
 pN Tryz.prog (oCall 12 [x76]) w26 fun x77 w27 =>
 pN Tryz.prog (oBin .neq 3 (.tmp 77) (.const (.int .i64 0)) x77 (.int .i64 0)) w27 fun x78 w28 =>
 pGd (gB x78 false) (pN Tryz.prog (oMv x45) w28) w28 fun x80 w29 =>
 pGd (gB x78 false) (pN Tryz.prog (oMv x2) w29) w29 fun x81 w30 =>
 pGd (gB x78 false) (pN Tryz.prog (oCall 13 [x80, (.string ⟨#[109]⟩), x81]) w30) w30 fun x82 w31 =>
 pGd (gB x78 false) (pN Tryz.prog (oCall 12 [x82]) w31) w31 fun x83 w32 =>
 pGd (gB x78 false) (pN Tryz.prog (oBin .neq 3 (.tmp 83) (.const (.int .i64 0)) x83 (.int .i64 0)) w32) w32 fun x84 w33 =>
 pN Tryz.prog (oPick x78 (.bool true) x84) w33 fun x85 w34 =>
 pIf x85
 (Q (.bool false) w34)
 (pN Tryz.prog (oCall 21 [x1]) w34 fun x88 w35 =>
 pN Tryz.prog (oExt x88 0) w35 fun x89 w36 =>
 pN Tryz.prog (oExt x88 1) w36 fun _ w37 =>
 pN Tryz.prog (oCall 25 [x89]) w37 fun x93 w38 =>
 pN Tryz.prog (oExt x93 0) w38 fun x94 w39 =>
 pN Tryz.prog (oExt x93 1) w39 fun _ w40 =>
 pN Tryz.prog (oAlloc 71) w40 fun x13 w41 =>
 pN Tryz.prog (oAlloc 72) w41 fun x14 w42 =>
 pN Tryz.prog (oFn (.func 26) [] [x13, x14]) w42 fun x96 w43 =>
 pN Tryz.prog (oCall 24 [x45, (.string ⟨#[108]⟩)]) w43 fun x99 w44 =>
 pN Tryz.prog (oExt x99 0) w44 fun x100 w45 =>
 pN Tryz.prog (oExt x99 1) w45 fun x101 w46 =>
 pN Tryz.prog (oCall 24 [x45, (.string ⟨#[108]⟩)]) w46 fun x104 w47 =>
 pN Tryz.prog (oExt x104 0) w47 fun x105 w48 =>
 pN Tryz.prog (oExt x104 1) w48 fun x106 w49 =>
 pN Tryz.prog (oCall 12 [x101]) w49 fun x108 w50 =>
 pN Tryz.prog (oBin .neq 3 (.tmp 108) (.const (.int .i64 0)) x108 (.int .i64 0)) w50 fun x109 w51 =>
 pGd (gB x109 false) (pN Tryz.prog (oMv x106) w51) w51 fun x111 w52 =>
 pGd (gB x109 false) (pN Tryz.prog (oCall 12 [x111]) w52) w52 fun x112 w53 =>
 pGd (gB x109 false) (pN Tryz.prog (oBin .neq 3 (.tmp 112) (.const (.int .i64 0)) x112 (.int .i64 0)) w53) w53 fun x113 w54 =>
 pN Tryz.prog (oPick x109 (.bool true) x113) w54 fun x114 w55 =>
 pGd (gB x114 false) (pN Tryz.prog (oMv x100) w55) w55 fun x116 w56 =>
 pGd (gB x114 false) (pN Tryz.prog (oMv x89) w56) w56 fun x117 w57 =>
 pGd (gB x114 false) (pN Tryz.prog (oCall 27 [x116, x117]) w57) w57 fun x118 w58 =>
 pGd (gB x114 false) (pN Tryz.prog (oUn .not x118) w58) w58 fun x119 w59 =>
 pN Tryz.prog (oPick x114 (.bool true) x119) w59 fun x120 w60 =>
 pGd (gB x120 false) (pN Tryz.prog (oMv x105) w60) w60 fun x122 w61 =>
 pGd (gB x120 false) (pN Tryz.prog (oMv x89) w61) w61 fun x123 w62 =>
 pGd (gB x120 false) (pN Tryz.prog (oCall 27 [x122, x123]) w62) w62 fun x124 w63 =>
 pGd (gB x120 false) (pN Tryz.prog (oUn .not x124) w63) w63 fun x125 w64 =>
 pN Tryz.prog (oPick x120 (.bool true) x125) w64 fun x126 w65 =>
 pIf x126
 (Q (.bool false) w65)
 (pN Tryz.prog (oBi .len #[30] 3 [false] [x89]) w65 fun x128 w66 =>
 ∃ (L16 : Value → World → Prop) (m16 : Value → World → Nat),
 L16 (.int .i64 0) w66 ∧
 ∀ (_k16 : Env) (v129l16 : Value) (w67 : World), L16 v129l16 w67 →
 pN Tryz.prog (oBin .lss 3 (.tmp 129) (.tmp 128) v129l16 x128) w67 fun x130 w68 =>
 pIf x130
 (pN Tryz.prog (oIdx 30 x89 v129l16) w68 fun x136 w69 =>
 pN Tryz.prog (oFld 49 x136 0) w69 fun x137 w70 =>
 pN Tryz.prog (oLoad 9 x137) w70 fun x138 w71 =>
 pN Tryz.prog (oCall 28 [x45, (.string ⟨#[108]⟩), x138]) w71 fun x139 w72 =>
 pN Tryz.prog (oExt x139 0) w72 fun x140 w73 =>
 pN Tryz.prog (oExt x139 1) w73 fun x141 w74 =>
 pN Tryz.prog (oAlloc 49) w74 fun x21 w75 =>
 pN Tryz.prog (oStore 49 x21 x140) w75 fun _ w76 =>
 pN Tryz.prog (oCall 12 [x141]) w76 fun x143 w77 =>
 pN Tryz.prog (oBin .neq 3 (.tmp 143) (.const (.int .i64 0)) x143 (.int .i64 0)) w77 fun x144 w78 =>
 pIf x144
 (Q (.bool false) w78)
 (pN Tryz.prog (oIdx 30 x100 v129l16) w78 fun x148 w79 =>
 pN Tryz.prog (oFld 49 x148 5) w79 fun x149 w80 =>
 pN Tryz.prog (oLoad 47 x149) w80 fun x150 w81 =>
 pN Tryz.prog (oCallV x96 [x150]) w81 fun _ w82 =>
 pN Tryz.prog (oIdx 30 x105 v129l16) w82 fun x155 w83 =>
 pN Tryz.prog (oFld 49 x155 5) w83 fun x156 w84 =>
 pN Tryz.prog (oLoad 47 x156) w84 fun x157 w85 =>
 pN Tryz.prog (oCallV x96 [x157]) w85 fun _ w86 =>
 pN Tryz.prog (oFld 49 x21 5) w86 fun x160 w87 =>
 pN Tryz.prog (oLoad 47 x160) w87 fun x161 w88 =>
 pN Tryz.prog (oCallV x96 [x161]) w88 fun _ w89 =>
 pN Tryz.prog (oBin .add 3 (.tmp 129) (.const (.int .i64 1)) v129l16 (.int .i64 1)) w89 fun x163 w90 =>
 (L16 x163 w90 ∧ m16 x163 w90 < m16 v129l16 w67)))
 (∃ (L26 : Value → World → Prop) (m26 : Value → World → Nat),
 L26 (.int .i64 0) w68 ∧
 ∀ (_k26 : Env) (v164l26 : Value) (w91 : World), L26 v164l26 w91 →
 pN Tryz.prog (oBin .lss 3 (.tmp 164) (.const (.int .i64 2)) v164l26 (.int .i64 2)) w91 fun x165 w92 =>
 pIf x165
 (pN Tryz.prog (oCall 29 [x45, (.string ⟨#[108]⟩)]) w92 fun x168 w93 =>
 pN Tryz.prog (oExt x168 0) w93 fun x169 w94 =>
 pN Tryz.prog (oExt x168 1) w94 fun x170 w95 =>
 pN Tryz.prog (oCall 12 [x170]) w95 fun x172 w96 =>
 pN Tryz.prog (oBin .neq 3 (.tmp 172) (.const (.int .i64 0)) x172 (.int .i64 0)) w96 fun x173 w97 =>
 pGd (gB x173 false) (pN Tryz.prog (oMv x169) w97) w97 fun x175 w98 =>
 pGd (gB x173 false) (pN Tryz.prog (oConv 47 9 x175) w98) w98 fun x176 w99 =>
 pGd (gB x173 false) (pN Tryz.prog (oMv x94) w99) w99 fun x177 w100 =>
 pGd (gB x173 false) (pN Tryz.prog (oConv 47 9 x177) w100) w100 fun x178 w101 =>
 pGd (gB x173 false) (pN Tryz.prog (oBin .neq 9 (.tmp 176) (.tmp 178) x176 x178) w101) w101 fun x179 w102 =>
 pN Tryz.prog (oPick x173 (.bool true) x179) w102 fun x180 w103 =>
 pIf x180
 (Q (.bool false) w103)
 (pN Tryz.prog (oCallV x96 [x169]) w103 fun _ w104 =>
 pN Tryz.prog (oBin .add 3 (.tmp 164) (.const (.int .i64 1)) v164l26 (.int .i64 1)) w104 fun x184 w105 =>
 (L26 x184 w105 ∧ m26 x184 w105 < m26 v164l26 w91)))
 (pN Tryz.prog (oCall 17 [x45, (.string ⟨#[108]⟩)]) w92 fun x187 w106 =>
 pN Tryz.prog (oExt x187 0) w106 fun x188 w107 =>
 pN Tryz.prog (oExt x187 1) w107 fun x189 w108 =>
 pN Tryz.prog (oCall 14 [x45, (.string ⟨#[108]⟩), (.string ⟨#[109]⟩)]) w108 fun x192 w109 =>
 pN Tryz.prog (oExt x192 0) w109 fun x193 w110 =>
 pN Tryz.prog (oExt x192 1) w110 fun x194 w111 =>
 pN Tryz.prog (oCall 30 [x45]) w111 fun x196 w112 =>
 pN Tryz.prog (oCall 12 [x189]) w112 fun x198 w113 =>
 pN Tryz.prog (oBin .neq 3 (.tmp 198) (.const (.int .i64 0)) x198 (.int .i64 0)) w113 fun x199 w114 =>
 pGd (gB x199 false) (pN Tryz.prog (oMv x194) w114) w114 fun x201 w115 =>
 pGd (gB x199 false) (pN Tryz.prog (oCall 12 [x201]) w115) w115 fun x202 w116 =>
 pGd (gB x199 false) (pN Tryz.prog (oBin .neq 3 (.tmp 202) (.const (.int .i64 0)) x202 (.int .i64 0)) w116) w116 fun x203 w117 =>
 pN Tryz.prog (oPick x199 (.bool true) x203) w117 fun x204 w118 =>
 pGd (gB x204 false) (pN Tryz.prog (oMv x196) w118) w118 fun x206 w119 =>
 pGd (gB x204 false) (pN Tryz.prog (oBi .len #[72] 3 [false] [x206]) w119) w119 fun x207 w120 =>
 pGd (gB x204 false) (pN Tryz.prog (oBin .neq 3 (.tmp 207) (.const (.int .i64 2)) x207 (.int .i64 2)) w120) w120 fun x208 w121 =>
 pN Tryz.prog (oPick x204 (.bool true) x208) w121 fun x209 w122 =>
 pIf x209
 (Q (.bool false) w122)
 (pN Tryz.prog (oBs 52 0 []) w122 fun x210 w123 =>
 pN Tryz.prog (oBi .append #[52, 52] 52 [false, false] [x210, x188]) w123 fun x212 w124 =>
 pN Tryz.prog (oBs 40 0 []) w124 fun x213 w125 =>
 pN Tryz.prog (oBi .append #[40, 40] 40 [false, false] [x213, x193]) w125 fun x215 w126 =>
 pN Tryz.prog (oBi .len #[30] 3 [false] [x100]) w126 fun x217 w127 =>
 ∃ (L39 : Value → World → Prop) (m39 : Value → World → Nat),
 L39 (.int .i64 0) w127 ∧
 ∀ (_k39 : Env) (v218l39 : Value) (w128 : World), L39 v218l39 w128 →
 pN Tryz.prog (oBin .lss 3 (.tmp 218) (.tmp 217) v218l39 x217) w128 fun x219 w129 =>
 pIf x219
 (pN Tryz.prog (oBuild 49 [(0, (.string ⟨#[109, 97, 114, 107]⟩))]) w129 fun x223 w130 =>
 pN Tryz.prog (oIdx 30 x100 v218l39) w130 fun x224 w131 =>
 pN Tryz.prog (oStore 49 x224 x223) w131 fun _ w132 =>
 pN Tryz.prog (oBin .add 3 (.tmp 218) (.const (.int .i64 1)) v218l39 (.int .i64 1)) w132 fun x225 w133 =>
 (L39 x225 w133 ∧ m39 x225 w133 < m39 v218l39 w128))
 (pN Tryz.prog (oBi .len #[52] 3 [false] [x188]) w129 fun x227 w134 =>
 ∃ (L44 : Value → World → Prop) (m44 : Value → World → Nat),
 L44 (.int .i64 0) w134 ∧
 ∀ (_k44 : Env) (v228l44 : Value) (w135 : World), L44 v228l44 w135 →
 pN Tryz.prog (oBin .lss 3 (.tmp 228) (.tmp 227) v228l44 x227) w135 fun x229 w136 =>
 pIf x229
 (pN Tryz.prog (oBuild 58 [(0, (bv 1))]) w136 fun x233 w137 =>
 pN Tryz.prog (oIdx 52 x188 v228l44) w137 fun x234 w138 =>
 pN Tryz.prog (oStore 58 x234 x233) w138 fun _ w139 =>
 pN Tryz.prog (oBin .add 3 (.tmp 228) (.const (.int .i64 1)) v228l44 (.int .i64 1)) w139 fun x235 w140 =>
 (L44 x235 w140 ∧ m44 x235 w140 < m44 v228l44 w135))
 (pN Tryz.prog (oBi .len #[40] 3 [false] [x193]) w136 fun x237 w141 =>
 ∃ (L49 : Value → World → Prop) (m49 : Value → World → Nat),
 L49 (.int .i64 0) w141 ∧
 ∀ (_k49 : Env) (v238l49 : Value) (w142 : World), L49 v238l49 w142 →
 pN Tryz.prog (oBin .lss 3 (.tmp 238) (.tmp 237) v238l49 x237) w142 fun x239 w143 =>
 pIf x239
 (pN Tryz.prog (oBuild 45 [(0, (.int .i64 9))]) w143 fun x243 w144 =>
 pN Tryz.prog (oIdx 40 x193 v238l49) w144 fun x244 w145 =>
 pN Tryz.prog (oStore 45 x244 x243) w145 fun _ w146 =>
 pN Tryz.prog (oBin .add 3 (.tmp 238) (.const (.int .i64 1)) v238l49 (.int .i64 1)) w146 fun x245 w147 =>
 (L49 x245 w147 ∧ m49 x245 w147 < m49 v238l49 w142))
 (pN Tryz.prog (oIdx 72 x196 (.int .i64 0)) w143 fun x248 w148 =>
 pN Tryz.prog (oStore 9 x248 (.string ⟨#[113]⟩)) w148 fun _ w149 =>
 pN Tryz.prog (oIdx 72 x196 (.int .i64 1)) w149 fun x249 w150 =>
 pN Tryz.prog (oStore 9 x249 (.string ⟨#[113]⟩)) w150 fun _ w151 =>
 pN Tryz.prog (oBuild 49 []) w151 fun x251 w152 =>
 pN Tryz.prog (oBs 30 1 [(0, x251)]) w152 fun x252 w153 =>
 pN Tryz.prog (oBi .append #[30, 30] 30 [false, false] [x100, x252]) w153 fun x253 w154 =>
 pN Tryz.prog (oBuild 58 []) w154 fun x255 w155 =>
 pN Tryz.prog (oBs 52 1 [(0, x255)]) w155 fun x256 w156 =>
 pN Tryz.prog (oBi .append #[52, 52] 52 [false, false] [x188, x256]) w156 fun x257 w157 =>
 pN Tryz.prog (oBuild 45 []) w157 fun x259 w158 =>
 pN Tryz.prog (oBs 40 1 [(0, x259)]) w158 fun x260 w159 =>
 pN Tryz.prog (oBi .append #[40, 40] 40 [false, false] [x193, x260]) w159 fun x261 w160 =>
 pN Tryz.prog (oBs 72 1 [(0, (.string ⟨#[122]⟩))]) w160 fun x263 w161 =>
 pN Tryz.prog (oBi .append #[72, 72] 72 [false, false] [x196, x263]) w161 fun x264 w162 =>
 pN Tryz.prog (oLoad 71 x13) w162 fun x265 w163 =>
 pN Tryz.prog (oBi .len #[71] 3 [false] [x265]) w163 fun x266 w164 =>
 ∃ (L56 : Value → World → Prop) (m56 : Value → World → Nat),
 L56 (.int .i64 0) w164 ∧
 ∀ (_k56 : Env) (v267l56 : Value) (w165 : World), L56 v267l56 w165 →
 pN Tryz.prog (oBin .lss 3 (.tmp 267) (.tmp 266) v267l56 x266) w165 fun x268 w166 =>
 pIf x268
 (pDr w166 fun w167 =>
 pL Tryz.prog (oLoad 71 x13) w167 fun x270 =>
 pA Tryz.prog (oIdx 71 x270 v267l56) fun x272 =>
 pL Tryz.prog (oLoad 47 x272) w167 fun x273 =>
 pL Tryz.prog (oConv 47 9 x273) w167 fun x274 =>
 pL Tryz.prog (oLoad 72 x14) w167 fun x275 =>
 pA Tryz.prog (oIdx 72 x275 v267l56) fun x277 =>
 pL Tryz.prog (oLoad 9 x277) w167 fun x278 =>
 pA Tryz.prog (oBin .neq 9 (.tmp 274) (.tmp 278) x274 x278) fun x279 =>
 pIf x279
 (Q (.bool false) w167)
 (pN Tryz.prog (oLoad 71 x13) w167 fun x280 w168 =>
 pN Tryz.prog (oIdx 71 x280 v267l56) w168 fun x282 w169 =>
 pN Tryz.prog (oLoad 47 x282) w169 fun x283 w170 =>
 pN Tryz.prog (oBi .len #[47] 3 [false] [x283]) w170 fun x284 w171 =>
 ∃ (L61 : Value → World → Prop) (m61 : Value → World → Nat),
 L61 (.int .i64 0) w171 ∧
 ∀ (_k61 : Env) (v285l61 : Value) (w172 : World), L61 v285l61 w172 →
 pN Tryz.prog (oBin .lss 3 (.tmp 285) (.tmp 284) v285l61 x284) w172 fun x286 w173 =>
 pIf x286
 (pN Tryz.prog (oLoad 71 x13) w173 fun x288 w174 =>
 pN Tryz.prog (oIdx 71 x288 v267l56) w174 fun x290 w175 =>
 pN Tryz.prog (oLoad 47 x290) w175 fun x291 w176 =>
 pN Tryz.prog (oConv 3 5 v267l56) w176 fun x294 w177 =>
 pN Tryz.prog (oIdx 47 x291 v285l61) w177 fun x295 w178 =>
 pN Tryz.prog (oStore 5 x295 x294) w178 fun _ w179 =>
 pN Tryz.prog (oBin .add 3 (.tmp 285) (.const (.int .i64 1)) v285l61 (.int .i64 1)) w179 fun x296 w180 =>
 (L61 x296 w180 ∧ m61 x296 w180 < m61 v285l61 w172))
 (pN Tryz.prog (oBin .add 3 (.tmp 267) (.const (.int .i64 1)) v267l56 (.int .i64 1)) w173 fun x297 w181 =>
 (L56 x297 w181 ∧ m56 x297 w181 < m56 v267l56 w165))))
 (pN Tryz.prog (oLoad 71 x13) w166 fun x298 w182 =>
 pN Tryz.prog (oBi .len #[71] 3 [false] [x298]) w182 fun x299 w183 =>
 ∃ (L68 : Value → Value → World → Prop) (m68 : Value → Value → World → Nat),
 L68 (.slice none 0 0) (.int .i64 0) w183 ∧
 ∀ (_k68 : Env) (long35l68 : Value) (v300l68 : Value) (w184 : World), L68 long35l68 v300l68 w184 →
 pN Tryz.prog (oBin .lss 3 (.tmp 300) (.tmp 299) v300l68 x299) w184 fun x301 w185 =>
 pIf x301
 (pDr w185 fun w186 =>
 pL Tryz.prog (oLoad 71 x13) w186 fun x304 =>
 pA Tryz.prog (oIdx 71 x304 v300l68) fun x306 =>
 pL Tryz.prog (oLoad 47 x306) w186 fun x307 =>
 pN Tryz.prog (oCall 31 [v300l68]) w186 fun x309 w187 =>
 ((Sem.run Tryz.prog (oLoad 47 x306) w187 = .ok (.value x307) w187) ∧ (Sem.run Tryz.prog (oLoad 71 x13) w187 = .ok (.value x304) w187) ∧ True) ∧ (pN Tryz.prog (oBi .append #[47, 47] 47 [false, false] [x307, x309]) w187 fun x310 w188 =>
 (True) ∧ (pN Tryz.prog (oBs 71 1 [(0, x310)]) w188 fun x311 w189 =>
 (True) ∧ (pN Tryz.prog (oBi .append #[71, 71] 71 [false, false] [long35l68, x311]) w189 fun x312 w190 =>
 (True) ∧ (pN Tryz.prog (oBin .add 3 (.tmp 300) (.const (.int .i64 1)) v300l68 (.int .i64 1)) w190 fun x313 w191 =>
 (L68 x312 x313 w191 ∧ m68 x312 x313 w191 < m68 long35l68 v300l68 w184))))))
 (pN Tryz.prog (oLoad 71 x13) w185 fun x314 w192 =>
 pN Tryz.prog (oBi .len #[71] 3 [false] [x314]) w192 fun x315 w193 =>
 ∃ (L73 : Value → World → Prop) (m73 : Value → World → Nat),
 L73 (.int .i64 0) w193 ∧
 ∀ (_k73 : Env) (v316l73 : Value) (w194 : World), L73 v316l73 w194 →
 pN Tryz.prog (oBin .lss 3 (.tmp 316) (.tmp 315) v316l73 x315) w194 fun x317 w195 =>
 pIf x317
 (pN Tryz.prog (oLoad 71 x13) w195 fun x319 w196 =>
 pN Tryz.prog (oIdx 71 x319 v316l73) w196 fun x321 w197 =>
 pN Tryz.prog (oLoad 47 x321) w197 fun x322 w198 =>
 pN Tryz.prog (oBi .len #[47] 3 [false] [x322]) w198 fun x323 w199 =>
 ∃ (L76 : Value → World → Prop) (m76 : Value → World → Nat),
 L76 (.int .i64 0) w199 ∧
 ∀ (_k76 : Env) (v324l76 : Value) (w200 : World), L76 v324l76 w200 →
 pN Tryz.prog (oBin .lss 3 (.tmp 324) (.tmp 323) v324l76 x323) w200 fun x325 w201 =>
 pIf x325
 (pN Tryz.prog (oLoad 71 x13) w201 fun x327 w202 =>
 pN Tryz.prog (oIdx 71 x327 v316l73) w202 fun x329 w203 =>
 pN Tryz.prog (oLoad 47 x329) w203 fun x330 w204 =>
 pN Tryz.prog (oIdx 47 x330 v324l76) w204 fun x332 w205 =>
 pN Tryz.prog (oLoad 5 x332) w205 fun x333 w206 =>
 pN Tryz.prog (oConv 3 5 v316l73) w206 fun x335 w207 =>
 pN Tryz.prog (oBin .neq 5 (.tmp 333) (.tmp 335) x333 x335) w207 fun x336 w208 =>
 pGd (gB x336 false) (pN Tryz.prog (oMv long35l68) w208) w208 fun x338 w209 =>
 pGd (gB x336 false) (pN Tryz.prog (oMv v316l73) w209) w209 fun x339 w210 =>
 pGd (gB x336 false) (pN Tryz.prog (oIdx 71 x338 x339) w210) w210 fun x340 w211 =>
 pGd (gB x336 false) (pN Tryz.prog (oLoad 47 x340) w211) w211 fun x341 w212 =>
 pGd (gB x336 false) (pN Tryz.prog (oMv v324l76) w212) w212 fun x342 w213 =>
 pGd (gB x336 false) (pN Tryz.prog (oIdx 47 x341 x342) w213) w213 fun x343 w214 =>
 pGd (gB x336 false) (pN Tryz.prog (oLoad 5 x343) w214) w214 fun x344 w215 =>
 pGd (gB x336 false) (pN Tryz.prog (oMv v316l73) w215) w215 fun x345 w216 =>
 pGd (gB x336 false) (pN Tryz.prog (oConv 3 5 x345) w216) w216 fun x346 w217 =>
 pGd (gB x336 false) (pN Tryz.prog (oBin .neq 5 (.tmp 344) (.tmp 346) x344 x346) w217) w217 fun x347 w218 =>
 pN Tryz.prog (oPick x336 (.bool true) x347) w218 fun x348 w219 =>
 pIf x348
 (Q (.bool false) w219)
 (pN Tryz.prog (oBin .add 3 (.tmp 324) (.const (.int .i64 1)) v324l76 (.int .i64 1)) w219 fun x349 w220 =>
 (L76 x349 w220 ∧ m76 x349 w220 < m76 v324l76 w200)))
 (pDr w201 fun w221 =>
 pA Tryz.prog (oIdx 71 long35l68 v316l73) fun x352 =>
 pL Tryz.prog (oLoad 47 x352) w221 fun x353 =>
 pL Tryz.prog (oLoad 71 x13) w221 fun x354 =>
 pA Tryz.prog (oIdx 71 x354 v316l73) fun x356 =>
 pL Tryz.prog (oLoad 47 x356) w221 fun x357 =>
 pA Tryz.prog (oBi .len #[47] 3 [false] [x357]) fun x358 =>
 pA Tryz.prog (oSl 47 x353 (some x358) none none) fun x359 =>
 pL Tryz.prog (oConv 47 9 x359) w221 fun x360 =>
 pN Tryz.prog (oCall 31 [v316l73]) w221 fun x362 w222 =>
 ((Sem.run Tryz.prog (oConv 47 9 x359) w222 = .ok (.value x360) w222) ∧ (Sem.run Tryz.prog (oLoad 47 x356) w222 = .ok (.value x357) w222) ∧ (Sem.run Tryz.prog (oLoad 71 x13) w222 = .ok (.value x354) w222) ∧ (Sem.run Tryz.prog (oLoad 47 x352) w222 = .ok (.value x353) w222) ∧ True) ∧ (pL Tryz.prog (oConv 47 9 x362) w222 fun x363 =>
 pA Tryz.prog (oBin .neq 9 (.tmp 360) (.tmp 363) x360 x363) fun x364 =>
 pIf x364
 (Q (.bool false) w222)
 (pN Tryz.prog (oBin .add 3 (.tmp 316) (.const (.int .i64 1)) v316l73 (.int .i64 1)) w222 fun x365 w223 =>
 (L73 x365 w223 ∧ m73 x365 w223 < m73 v316l73 w194)))))
 (pN Tryz.prog (oCall 17 [x45, (.string ⟨#[108]⟩)]) w195 fun x368 w224 =>
 pN Tryz.prog (oExt x368 0) w224 fun x369 w225 =>
 pN Tryz.prog (oExt x368 1) w225 fun x370 w226 =>
 pN Tryz.prog (oCall 14 [x45, (.string ⟨#[108]⟩), (.string ⟨#[109]⟩)]) w226 fun x373 w227 =>
 pN Tryz.prog (oExt x373 0) w227 fun x374 w228 =>
 pN Tryz.prog (oExt x373 1) w228 fun x375 w229 =>
 pN Tryz.prog (oCall 12 [x370]) w229 fun x377 w230 =>
 pN Tryz.prog (oBin .neq 3 (.tmp 377) (.const (.int .i64 0)) x377 (.int .i64 0)) w230 fun x378 w231 =>
 pGd (gB x378 false) (pN Tryz.prog (oMv x375) w231) w231 fun x380 w232 =>
 pGd (gB x378 false) (pN Tryz.prog (oCall 12 [x380]) w232) w232 fun x381 w233 =>
 pGd (gB x378 false) (pN Tryz.prog (oBin .neq 3 (.tmp 381) (.const (.int .i64 0)) x381 (.int .i64 0)) w233) w233 fun x382 w234 =>
 pN Tryz.prog (oPick x378 (.bool true) x382) w234 fun x383 w235 =>
 pGd (gB x383 false) (pN Tryz.prog (oMv x369) w235) w235 fun x385 w236 =>
 pGd (gB x383 false) (pN Tryz.prog (oMv x212) w236) w236 fun x386 w237 =>
 pGd (gB x383 false) (pN Tryz.prog (oCall 22 [x385, x386]) w237) w237 fun x387 w238 =>
 pGd (gB x383 false) (pN Tryz.prog (oUn .not x387) w238) w238 fun x388 w239 =>
 pN Tryz.prog (oPick x383 (.bool true) x388) w239 fun x389 w240 =>
 pGd (gB x389 false) (pN Tryz.prog (oMv x374) w240) w240 fun x391 w241 =>
 pGd (gB x389 false) (pN Tryz.prog (oMv x215) w241) w241 fun x392 w242 =>
 pGd (gB x389 false) (pN Tryz.prog (oCall 32 [x391, x392]) w242) w242 fun x393 w243 =>
 pGd (gB x389 false) (pN Tryz.prog (oUn .not x393) w243) w243 fun x394 w244 =>
 pN Tryz.prog (oPick x389 (.bool true) x394) w244 fun x395 w245 =>
 pGd (gB x395 false) (pN Tryz.prog (oMv x45) w245) w245 fun x397 w246 =>
 pGd (gB x395 false) (pN Tryz.prog (oCall 30 [x397]) w246) w246 fun x398 w247 =>
 pGd (gB x395 false) (pN Tryz.prog (oBs 72 2 [(0, (.string ⟨#[108]⟩)), (1, (.string ⟨#[109]⟩))]) w247) w247 fun x399 w248 =>
 pGd (gB x395 false) (pN Tryz.prog (oCall 33 [x398, x399]) w248) w248 fun x400 w249 =>
 pGd (gB x395 false) (pN Tryz.prog (oUn .not x400) w249) w249 fun x401 w250 =>
 pN Tryz.prog (oPick x395 (.bool true) x401) w250 fun x402 w251 =>
 pIf x402
 (Q (.bool false) w251)
 (pN Tryz.prog (oCall 24 [x45, (.string ⟨#[108]⟩)]) w251 fun x405 w252 =>
 pN Tryz.prog (oExt x405 0) w252 fun x406 w253 =>
 pN Tryz.prog (oExt x405 1) w253 fun x407 w254 =>
 pN Tryz.prog (oCall 12 [x407]) w254 fun x409 w255 =>
 pN Tryz.prog (oBin .eql 3 (.tmp 409) (.const (.int .i64 0)) x409 (.int .i64 0)) w255 fun x410 w256 =>
 pGd (gB x410 true) (pN Tryz.prog (oMv x406) w256) w256 fun x412 w257 =>
 pGd (gB x410 true) (pN Tryz.prog (oMv x89) w257) w257 fun x413 w258 =>
 pGd (gB x410 true) (pN Tryz.prog (oCall 27 [x412, x413]) w258) w258 fun x414 w259 =>
 pN Tryz.prog (oPick x410 x414 (.bool false)) w259 fun x415 w260 =>
 pGd (gB x415 true) (pN Tryz.prog (oMv x253) w260) w260 fun x417 w261 =>
 pGd (gB x415 true) (pN Tryz.prog (oBi .len #[30] 3 [false] [x417]) w261) w261 fun x418 w262 =>
 pGd (gB x415 true) (pN Tryz.prog (oMv x89) w262) w262 fun x419 w263 =>
 pGd (gB x415 true) (pN Tryz.prog (oBi .len #[30] 3 [false] [x419]) w263) w263 fun x420 w264 =>
 pGd (gB x415 true) (pN Tryz.prog (oBin .add 3 (.tmp 420) (.const (.int .i64 1)) x420 (.int .i64 1)) w264) w264 fun x421 w265 =>
 pGd (gB x415 true) (pN Tryz.prog (oBin .eql 3 (.tmp 418) (.tmp 421) x418 x421) w265) w265 fun x422 w266 =>
 pN Tryz.prog (oPick x415 x422 (.bool false)) w266 fun x423 w267 =>
 pGd (gB x423 true) (pN Tryz.prog (oMv x257) w267) w267 fun x425 w268 =>
 pGd (gB x423 true) (pN Tryz.prog (oBi .len #[52] 3 [false] [x425]) w268) w268 fun x426 w269 =>
 pGd (gB x423 true) (pN Tryz.prog (oMv x212) w269) w269 fun x427 w270 =>
 pGd (gB x423 true) (pN Tryz.prog (oBi .len #[52] 3 [false] [x427]) w270) w270 fun x428 w271 =>
 pGd (gB x423 true) (pN Tryz.prog (oBin .add 3 (.tmp 428) (.const (.int .i64 1)) x428 (.int .i64 1)) w271) w271 fun x429 w272 =>
 pGd (gB x423 true) (pN Tryz.prog (oBin .eql 3 (.tmp 426) (.tmp 429) x426 x429) w272) w272 fun x430 w273 =>
 pN Tryz.prog (oPick x423 x430 (.bool false)) w273 fun x431 w274 =>
 pGd (gB x431 true) (pN Tryz.prog (oMv x261) w274) w274 fun x433 w275 =>
 pGd (gB x431 true) (pN Tryz.prog (oBi .len #[40] 3 [false] [x433]) w275) w275 fun x434 w276 =>
 pGd (gB x431 true) (pN Tryz.prog (oMv x215) w276) w276 fun x435 w277 =>
 pGd (gB x431 true) (pN Tryz.prog (oBi .len #[40] 3 [false] [x435]) w277) w277 fun x436 w278 =>
 pGd (gB x431 true) (pN Tryz.prog (oBin .add 3 (.tmp 436) (.const (.int .i64 1)) x436 (.int .i64 1)) w278) w278 fun x437 w279 =>
 pGd (gB x431 true) (pN Tryz.prog (oBin .eql 3 (.tmp 434) (.tmp 437) x434 x437) w279) w279 fun x438 w280 =>
 pN Tryz.prog (oPick x431 x438 (.bool false)) w280 fun x439 w281 =>
 pGd (gB x439 true) (pN Tryz.prog (oMv x264) w281) w281 fun x441 w282 =>
 pGd (gB x439 true) (pN Tryz.prog (oBi .len #[72] 3 [false] [x441]) w282) w282 fun x442 w283 =>
 pGd (gB x439 true) (pN Tryz.prog (oBin .eql 3 (.tmp 442) (.const (.int .i64 3)) x442 (.int .i64 3)) w283) w283 fun x443 w284 =>
 pN Tryz.prog (oPick x439 x443 (.bool false)) w284 fun x444 w285 =>
 pGd (gB x444 true) (pN Tryz.prog (oCall 11 []) w285) w285 fun x446 w286 =>
 pN Tryz.prog (oPick x444 x446 (.bool false)) w286 fun x447 w287 =>
 Q x447 w287)))))))))))))
theorem pithlaw36_SnapLists.calls [Pan] {x0 x1 x2 : Value} {w : World} {Q : Value → World → Prop} (h : pithlaw36_SnapLists.F x0 x1 x2 w Q) : Calls Tryz.prog 5 #[x0, x1, x2] w (retP Q) := calls_lift mixed pithlaw36_SnapLists.H [x0, x1, x2] Tryz.func5 (by kernel_rfl) (by kernel_rfl) h

def pithlaw36_begin.F [Pan] (x0 : Value) (w : World) (Q : Value → World → Prop) : Prop :=
 pN Tryz.prog (oBox 29 x0) w fun x1 w1 =>
 pN Tryz.prog (oFld 29 x1 0) w1 fun x7 w2 =>
 pN Tryz.prog (oLoad 25 x7) w2 fun x8 w3 =>
 pN Tryz.prog (oFld 29 x1 1) w3 fun x9 w4 =>
 pN Tryz.prog (oLoad 27 x9) w4 fun x10 w5 =>
 pN Tryz.prog (oCall 48 [x8, x10]) w5 fun x11 w6 =>
 pN Tryz.prog (oExt x11 0) w6 fun x12 w7 =>
 pN Tryz.prog (oExt x11 1) w7 fun x13 w8 =>
 pN Tryz.prog (oCall 12 [x13]) w8 fun x16 w9 =>
 pN Tryz.prog (oBin .eql 3 (.tmp 16) (.const (.int .i64 0)) x16 (.int .i64 0)) w9 fun x17 w10 =>
 pN Tryz.prog (oBin .neq 31 (.tmp 18) (.const (.pointer none)) x12 (.pointer none)) w10 fun x19 w11 =>
 pN Tryz.prog (oBin .eql 4 (.tmp 17) (.tmp 19) x17 x19) w11 fun x20 w12 =>
 pGd (gB x20 true) (pN Tryz.prog (oMv x13) w12) w12 fun x22 w13 =>
 pGd (gB x20 true) (pN Tryz.prog (oCall 12 [x22]) w13) w13 fun x23 w14 =>
 pGd (gB x20 true) (pN Tryz.prog (oBin .eql 3 (.tmp 23) (.const (.int .i64 0)) x23 (.int .i64 0)) w14) w14 fun x24 w15 =>
 pGd (gB x20 true) (pN Tryz.prog (oMv x24) w15) w15 fun x25 w16 =>
 pGd (gB x25 false) (pN Tryz.prog (oMv x13) w16) w16 fun x26 w17 =>
 pGd (gB x25 false) (pN Tryz.prog (oCall 12 [x26]) w17) w17 fun x27 w18 =>
 pGd (gB x25 false) (pN Tryz.prog (oBin .eql 3 (.tmp 27) (.const (.int .i64 6)) x27 (.int .i64 6)) w18) w18 fun x28 w19 =>
 pGd (gB x20 true) (pN Tryz.prog (oPick x25 (.bool true) x28) w19) w19 fun x29 w20 =>
 pN Tryz.prog (oPick x20 x29 (.bool false)) w20 fun x30 w21 =>
 Q (.tuple #[x12, x30]) w21
theorem pithlaw36_begin.calls [Pan] {x0 : Value} {w : World} {Q : Value → World → Prop} (h : pithlaw36_begin.F x0 w Q) : Calls Tryz.prog 8 #[x0] w (retP Q) := calls_lift mixed .z [x0] Tryz.func8 (by kernel_rfl) (by kernel_rfl) h

def pithlaw36_right.H : Hints := { cut := fun  | _ => none, loop := fun | 2 => ([11], 67106932) | _ => ([], 0), order := fun  | _ => [] }
def pithlaw36_right.F [Pan] (x0 : Value) (w : World) (Q : Value → World → Prop) : Prop :=
 pN Tryz.prog (oBi .len #[30] 3 [false] [x0]) w fun x10 w1 =>
 ∃ (L2 : Value → World → Prop) (m2 : Value → World → Nat),
 L2 (.int .i64 0) w1 ∧
 ∀ (_k2 : Env) (v11l2 : Value) (w2 : World), L2 v11l2 w2 →
 pN Tryz.prog (oBin .lss 3 (.tmp 11) (.tmp 10) v11l2 x10) w2 fun x12 w3 =>
 pIf x12
 (pN Tryz.prog (oIdx 30 x0 v11l2) w3 fun x13 w4 =>
 pN Tryz.prog (oLoad 49 x13) w4 fun x14 w5 =>
 pN Tryz.prog (oAlloc 49) w5 fun x4 w6 =>
 pN Tryz.prog (oStore 49 x4 x14) w6 fun _ w7 =>
 pN Tryz.prog (oLoad 49 x4) w7 fun x16 w8 =>
 pN Tryz.prog (oCall 49 [x16]) w8 fun x17 w9 =>
 pN Tryz.prog (oExt x17 0) w9 fun _ w10 =>
 pN Tryz.prog (oExt x17 1) w10 fun x19 w11 =>
 pN Tryz.prog (oCall 12 [x19]) w11 fun x21 w12 =>
 pN Tryz.prog (oBin .neq 3 (.tmp 21) (.const (.int .i64 0)) x21 (.int .i64 0)) w12 fun x22 w13 =>
 pIf x22
 (pN Tryz.prog (oCall 12 [x19]) w13 fun x24 w14 =>
 Q x24 w14)
 (pN Tryz.prog (oBin .add 3 (.tmp 11) (.const (.int .i64 1)) v11l2 (.int .i64 1)) w13 fun x25 w15 =>
 (L2 x25 w15 ∧ m2 x25 w15 < m2 v11l2 w2)))
 (pN Tryz.prog (oCall 21 [x0]) w3 fun x28 w16 =>
 pN Tryz.prog (oExt x28 0) w16 fun _ w17 =>
 pN Tryz.prog (oExt x28 1) w17 fun x30 w18 =>
 pN Tryz.prog (oUn .not x30) w18 fun x32 w19 =>
 pIf x32
 (Q (.int .i64 9) w19)
 (Q (.int .i64 0) w19))
theorem pithlaw36_right.calls [Pan] {x0 : Value} {w : World} {Q : Value → World → Prop} (h : pithlaw36_right.F x0 w Q) : Calls Tryz.prog 9 #[x0] w (retP Q) := calls_lift mixed pithlaw36_right.H [x0] Tryz.func9 (by kernel_rfl) (by kernel_rfl) h

def pithlaw36_collide.H : Hints := { cut := fun | 12 => some ([5], 562949951324832) | _ => none, loop := fun | 3 => ([5, 19], 1125899906319008) | 8 => ([5, 37], 562812514468384) | 15 => ([53], 151115718444629392158736) | _ => ([], 0), order := fun | 6 => [(0, 0), (1, 1), (2, 3), (3, 7), (5, 15), (6, 47), (4, 111), (7, 127), (8, 255), (9, 511)] | _ => [] }
def pithlaw36_collide.F [Pan] (x0 x1 : Value) (w : World) (Q : Value → World → Prop) : Prop :=
 pN Tryz.prog (oBox 29 x0) w fun x2 w1 =>
 pN Tryz.prog (oBs 72 1 [(0, (.string ⟨#[115, 111, 109, 101, 116, 104, 105, 110, 103, 32, 101, 108, 115, 101, 44, 32, 119, 104, 105, 99, 104, 32, 110, 111, 98, 111, 100, 121, 32, 110, 101, 101, 100, 115]⟩))]) w1 fun x16 w2 =>
 pN Tryz.prog (oBi .len #[104] 3 [false] [x1]) w2 fun x18 w3 =>
 ∃ (L3 : Value → Value → World → Prop) (m3 : Value → Value → World → Nat),
 L3 x16 (.int .i64 0) w3 ∧
 ∀ (_k3 : Env) (all5l3 : Value) (v19l3 : Value) (w4 : World), L3 all5l3 v19l3 w4 →
 pN Tryz.prog (oBin .lss 3 (.tmp 19) (.tmp 18) v19l3 x18) w4 fun x20 w5 =>
 pIf x20
 (∃ I12 : Value → World → Prop,
 (pN Tryz.prog (oIdx 104 x1 v19l3) w5 fun x21 w6 =>
 pN Tryz.prog (oLoad 30 x21) w6 fun x22 w7 =>
 pN Tryz.prog (oCall 9 [x22]) w7 fun x24 w8 =>
 pN Tryz.prog (oBin .neq 3 (.tmp 24) (.const (.int .i64 0)) x24 (.int .i64 0)) w8 fun x25 w9 =>
 pIf x25
 (I12 all5l3 w9)
 (pDr w9 fun w10 =>
 pA Tryz.prog (oFld 29 x2 1) fun x28 =>
 pL Tryz.prog (oLoad 27 x28) w10 fun x29 =>
 pA Tryz.prog (oFld 29 x2 1) fun x31 =>
 pL Tryz.prog (oLoad 27 x31) w10 fun x32 =>
 pN Tryz.prog (oCall 51 [x22, x29]) w10 fun x30 w11 =>
 ((Sem.run Tryz.prog (oLoad 27 x31) w11 = .ok (.value x32) w11) ∧ True) ∧ (pN Tryz.prog (oCall 50 [x30, x32]) w11 fun x33 w12 =>
 (True) ∧ (pN Tryz.prog (oBi .append #[72, 72] 72 [false, false] [all5l3, x33]) w12 fun x34 w13 =>
 (True) ∧ (pN Tryz.prog (oBi .len #[30] 3 [false] [x22]) w13 fun x36 w14 =>
 ∃ (L8 : Value → Value → World → Prop) (m8 : Value → Value → World → Nat),
 L8 x34 (.int .i64 0) w14 ∧
 ∀ (_k8 : Env) (all5l8 : Value) (v37l8 : Value) (w15 : World), L8 all5l8 v37l8 w15 →
 pN Tryz.prog (oBin .lss 3 (.tmp 37) (.tmp 36) v37l8 x36) w15 fun x38 w16 =>
 pIf x38
 (pN Tryz.prog (oIdx 30 x22 v37l8) w16 fun x39 w17 =>
 pN Tryz.prog (oLoad 49 x39) w17 fun x40 w18 =>
 pN Tryz.prog (oAlloc 49) w18 fun x9 w19 =>
 pN Tryz.prog (oStore 49 x9 x40) w19 fun _ w20 =>
 pN Tryz.prog (oFld 49 x9 5) w20 fun x42 w21 =>
 pN Tryz.prog (oLoad 47 x42) w21 fun x43 w22 =>
 pN Tryz.prog (oFld 29 x2 1) w22 fun x44 w23 =>
 pN Tryz.prog (oLoad 27 x44) w23 fun x45 w24 =>
 pN Tryz.prog (oCall 50 [x43, x45]) w24 fun x46 w25 =>
 pN Tryz.prog (oBi .append #[72, 72] 72 [false, false] [all5l8, x46]) w25 fun x47 w26 =>
 pN Tryz.prog (oBin .add 3 (.tmp 37) (.const (.int .i64 1)) v37l8 (.int .i64 1)) w26 fun x48 w27 =>
 (L8 x47 x48 w27 ∧ m8 x47 x48 w27 < m8 all5l8 v37l8 w15))
 (I12 all5l8 w16)))))) ∧
 ∀ (_j12 : Env) (all5c12 : Value) (w28 : World), I12 all5c12 w28 →
 pN Tryz.prog (oBin .add 3 (.tmp 19) (.const (.int .i64 1)) v19l3 (.int .i64 1)) w28 fun x49 w29 =>
 (L3 all5c12 x49 w29 ∧ m3 all5c12 x49 w29 < m3 all5l3 v19l3 w4))
 (pN Tryz.prog (oMap 107 none) w5 fun x50 w30 =>
 pN Tryz.prog (oBi .len #[72] 3 [false] [all5l3]) w30 fun x52 w31 =>
 ∃ (L15 : Value → World → Prop) (m15 : Value → World → Nat),
 L15 (.int .i64 0) w31 ∧
 ∀ (_k15 : Env) (v53l15 : Value) (w32 : World), L15 v53l15 w32 →
 pN Tryz.prog (oBin .lss 3 (.tmp 53) (.tmp 52) v53l15 x52) w32 fun x54 w33 =>
 pIf x54
 (pN Tryz.prog (oIdx 72 all5l3 v53l15) w33 fun x55 w34 =>
 pN Tryz.prog (oLoad 9 x55) w34 fun x56 w35 =>
 pN Tryz.prog (oConv 9 47 x56) w35 fun x58 w36 =>
 pN Tryz.prog (oBs 71 1 [(0, x58)]) w36 fun x59 w37 =>
 pN Tryz.prog (oCall 52 [x59]) w37 fun x60 w38 =>
 pN Tryz.prog (oAlloc 57) w38 fun x13 w39 =>
 pN Tryz.prog (oStore 57 x13 x60) w39 fun _ w40 =>
 pN Tryz.prog (oLoad 57 x13) w40 fun x63 w41 =>
 pN Tryz.prog (oLook 107 x50 x63 true) w41 fun x64 w42 =>
 pN Tryz.prog (oExt x64 0) w42 fun x65 w43 =>
 pN Tryz.prog (oExt x64 1) w43 fun x66 w44 =>
 pGd (gB x66 true) (pN Tryz.prog (oMv x65) w44) w44 fun x69 w45 =>
 pGd (gB x66 true) (pN Tryz.prog (oMv x56) w45) w45 fun x70 w46 =>
 pGd (gB x66 true) (pN Tryz.prog (oBin .neq 9 (.tmp 69) (.tmp 70) x69 x70) w46) w46 fun x71 w47 =>
 pN Tryz.prog (oPick x66 x71 (.bool false)) w47 fun x72 w48 =>
 pIf x72
 (Q (.bool true) w48)
 (pN Tryz.prog (oLoad 57 x13) w48 fun x74 w49 =>
 pN Tryz.prog (oMapUp 107 x50 x74 x56) w49 fun _ w50 =>
 pN Tryz.prog (oBin .add 3 (.tmp 53) (.const (.int .i64 1)) v53l15 (.int .i64 1)) w50 fun x76 w51 =>
 (L15 x76 w51 ∧ m15 x76 w51 < m15 v53l15 w32)))
 (Q (.bool false) w33))
theorem pithlaw36_collide.calls [Pan] {x0 x1 : Value} {w : World} {Q : Value → World → Prop} (h : pithlaw36_collide.F x0 x1 w Q) : Calls Tryz.prog 10 #[x0, x1] w (retP Q) := calls_lift mixed pithlaw36_collide.H [x0, x1] Tryz.func10 (by kernel_rfl) (by kernel_rfl) h

def pithlaw36_known.F [Pan]  (w : World) (Q : Value → World → Prop) : Prop :=
 pN Tryz.prog (oCall 53 []) w fun x11 w1 =>
 pN Tryz.prog (oBs 47 3 [(0, (bv 97)), (1, (bv 98)), (2, (bv 99))]) w1 fun x12 w2 =>
 pN Tryz.prog (oConv 47 47 x12) w2 fun x13 w3 =>
 pN Tryz.prog (oBuild 49 [(0, (.string ⟨#[120]⟩)), (3, (.int .i64 420)), (5, x13)]) w3 fun x14 w4 =>
 pN Tryz.prog (oAlloc 49) w4 fun x2 w5 =>
 pN Tryz.prog (oStore 49 x2 x14) w5 fun _ w6 =>
 pN Tryz.prog (oBuild 49 [(0, (.string ⟨#[100]⟩)), (2, (.int .i64 1)), (3, (.int .i64 493)), (4, (.int .i64 7))]) w6 fun x15 w7 =>
 pN Tryz.prog (oAlloc 49) w7 fun x3 w8 =>
 pN Tryz.prog (oStore 49 x3 x15) w8 fun _ w9 =>
 pN Tryz.prog (oBin .eql 31 (.tmp 16) (.const (.pointer none)) x11 (.pointer none)) w9 fun x17 w10 =>
 pGd (gB x17 false) (pN Tryz.prog (oMv x11) w10) w10 fun x19 w11 =>
 pGd (gB x17 false) (pN Tryz.prog (oLoad 49 x2) w11) w11 fun x20 w12 =>
 pGd (gB x17 false) (pN Tryz.prog (oLoad 49 x3) w12) w12 fun x21 w13 =>
 pGd (gB x17 false) (pN Tryz.prog (oBs 30 2 [(0, x20), (1, x21)]) w13) w13 fun x22 w14 =>
 pGd (gB x17 false) (pN Tryz.prog (oCall 13 [x19, (.string ⟨#[111, 110, 101]⟩), x22]) w14) w14 fun x23 w15 =>
 pGd (gB x17 false) (pN Tryz.prog (oCall 12 [x23]) w15) w15 fun x24 w16 =>
 pGd (gB x17 false) (pN Tryz.prog (oBin .neq 3 (.tmp 24) (.const (.int .i64 0)) x24 (.int .i64 0)) w16) w16 fun x25 w17 =>
 pN Tryz.prog (oPick x17 (.bool true) x25) w17 fun x26 w18 =>
 pGd (gB x26 false) (pN Tryz.prog (oMv x11) w18) w18 fun x28 w19 =>
 pGd (gB x26 false) (pN Tryz.prog (oLoad 49 x2) w19) w19 fun x29 w20 =>
 pGd (gB x26 false) (pN Tryz.prog (oLoad 49 x2) w20) w20 fun x30 w21 =>
 pGd (gB x26 false) (pN Tryz.prog (oBs 30 2 [(0, x29), (1, x30)]) w21) w21 fun x31 w22 =>
 pGd (gB x26 false) (pN Tryz.prog (oCall 13 [x28, (.string ⟨#[98, 97, 100]⟩), x31]) w22) w22 fun x32 w23 =>
 pGd (gB x26 false) (pN Tryz.prog (oCall 12 [x32]) w23) w23 fun x33 w24 =>
 pGd (gB x26 false) (pN Tryz.prog (oBin .neq 3 (.tmp 33) (.const (.int .i64 9)) x33 (.int .i64 9)) w24) w24 fun x34 w25 =>
 pN Tryz.prog (oPick x26 (.bool true) x34) w25 fun x35 w26 =>
 pIf x35
 (Q (.bool false) w26)
 (pN Tryz.prog (oCall 24 [x11, (.string ⟨#[111, 110, 101]⟩)]) w26 fun x38 w27 =>
 pN Tryz.prog (oExt x38 0) w27 fun x39 w28 =>
 pN Tryz.prog (oExt x38 1) w28 fun x40 w29 =>
 pN Tryz.prog (oCall 54 [x11, (.string ⟨#[111, 110, 101]⟩)]) w29 fun x43 w30 =>
 pN Tryz.prog (oExt x43 0) w30 fun x44 w31 =>
 pN Tryz.prog (oExt x43 1) w31 fun x45 w32 =>
 pN Tryz.prog (oCall 55 [x11, x44]) w32 fun x49 w33 =>
 pN Tryz.prog (oExt x49 0) w33 fun x50 w34 =>
 pN Tryz.prog (oExt x49 1) w34 fun x51 w35 =>
 pN Tryz.prog (oCall 12 [x40]) w35 fun x53 w36 =>
 pN Tryz.prog (oBin .eql 3 (.tmp 53) (.const (.int .i64 0)) x53 (.int .i64 0)) w36 fun x54 w37 =>
 pGd (gB x54 true) (pN Tryz.prog (oMv x39) w37) w37 fun x56 w38 =>
 pGd (gB x54 true) (pN Tryz.prog (oLoad 49 x3) w38) w38 fun x57 w39 =>
 pGd (gB x54 true) (pN Tryz.prog (oLoad 49 x2) w39) w39 fun x58 w40 =>
 pGd (gB x54 true) (pN Tryz.prog (oBs 30 2 [(0, x57), (1, x58)]) w40) w40 fun x59 w41 =>
 pGd (gB x54 true) (pN Tryz.prog (oCall 27 [x56, x59]) w41) w41 fun x60 w42 =>
 pN Tryz.prog (oPick x54 x60 (.bool false)) w42 fun x61 w43 =>
 pGd (gB x61 true) (pN Tryz.prog (oMv x45) w43) w43 fun x63 w44 =>
 pGd (gB x61 true) (pN Tryz.prog (oCall 12 [x63]) w44) w44 fun x64 w45 =>
 pGd (gB x61 true) (pN Tryz.prog (oBin .eql 3 (.tmp 64) (.const (.int .i64 0)) x64 (.int .i64 0)) w45) w45 fun x65 w46 =>
 pN Tryz.prog (oPick x61 x65 (.bool false)) w46 fun x66 w47 =>
 pGd (gB x66 true) (pN Tryz.prog (oMv x51) w47) w47 fun x68 w48 =>
 pGd (gB x66 true) (pN Tryz.prog (oCall 12 [x68]) w48) w48 fun x69 w49 =>
 pGd (gB x66 true) (pN Tryz.prog (oBin .eql 3 (.tmp 69) (.const (.int .i64 0)) x69 (.int .i64 0)) w49) w49 fun x70 w50 =>
 pN Tryz.prog (oPick x66 x70 (.bool false)) w50 fun x71 w51 =>
 pGd (gB x71 true) (pN Tryz.prog (oMv x50) w51) w51 fun x73 w52 =>
 pGd (gB x71 true) (pN Tryz.prog (oBi .len #[47] 3 [false] [x73]) w52) w52 fun x74 w53 =>
 pGd (gB x71 true) (pN Tryz.prog (oBin .eql 3 (.tmp 74) (.const (.int .i64 46)) x74 (.int .i64 46)) w53) w53 fun x75 w54 =>
 pN Tryz.prog (oPick x71 x75 (.bool false)) w54 fun x76 w55 =>
 pGd (gB x76 true) (pN Tryz.prog (oMv x50) w55) w55 fun x78 w56 =>
 pGd (gB x76 true) (pN Tryz.prog (oSl 47 x78 none (some (.int .i64 14)) none) w56) w56 fun x79 w57 =>
 pGd (gB x76 true) (pN Tryz.prog (oConv 47 9 x79) w57) w57 fun x80 w58 =>
 pGd (gB x76 true) (pN Tryz.prog (oMv (.string ⟨#[2, 1, 237, 3, 7, 1, 100, 0, 164, 3, 0, 1, 120, 1]⟩)) w58) w58 fun x81 w59 =>
 pGd (gB x76 true) (pN Tryz.prog (oBin .eql 9 (.tmp 80) (.tmp 81) x80 x81) w59) w59 fun x82 w60 =>
 pN Tryz.prog (oPick x76 x82 (.bool false)) w60 fun x83 w61 =>
 pGd (gB x83 true) (pN Tryz.prog (oMv x11) w61) w61 fun x85 w62 =>
 pGd (gB x83 true) (pN Tryz.prog (oCall 30 [x85]) w62) w62 fun x86 w63 =>
 pGd (gB x83 true) (pN Tryz.prog (oBi .len #[72] 3 [false] [x86]) w63) w63 fun x87 w64 =>
 pGd (gB x83 true) (pN Tryz.prog (oBin .eql 3 (.tmp 87) (.const (.int .i64 1)) x87 (.int .i64 1)) w64) w64 fun x88 w65 =>
 pN Tryz.prog (oPick x83 x88 (.bool false)) w65 fun x89 w66 =>
 Q x89 w66)
theorem pithlaw36_known.calls [Pan]  {w : World} {Q : Value → World → Prop} (h : pithlaw36_known.F  w Q) : Calls Tryz.prog 11 #[] w (retP Q) := calls_lift mixed .z [] Tryz.func11 (by kernel_rfl) (by kernel_rfl) h

def pithlaw36_num.F [Pan] (x0 : Value) (w : World) (Q : Value → World → Prop) : Prop :=
 Q x0 w
theorem pithlaw36_num.calls [Pan] {x0 : Value} {w : World} {Q : Value → World → Prop} (h : pithlaw36_num.F x0 w Q) : Calls Tryz.prog 12 #[x0] w (retP Q) := calls_lift mixed .z [x0] Tryz.func12 (by kernel_rfl) (by kernel_rfl) h

def pithlaw36_same.F [Pan] (x0 x1 : Value) (w : World) (Q : Value → World → Prop) : Prop :=
 pN Tryz.prog (oBox 49 x0) w fun x2 w1 =>
 pN Tryz.prog (oBox 49 x1) w1 fun x3 w2 =>
 pN Tryz.prog (oFld 49 x2 0) w2 fun x5 w3 =>
 pN Tryz.prog (oLoad 9 x5) w3 fun x6 w4 =>
 pN Tryz.prog (oFld 49 x3 0) w4 fun x7 w5 =>
 pN Tryz.prog (oLoad 9 x7) w5 fun x8 w6 =>
 pN Tryz.prog (oBin .eql 9 (.tmp 6) (.tmp 8) x6 x8) w6 fun x9 w7 =>
 pGd (gB x9 true) (pN Tryz.prog (oFld 49 x2 1) w7) w7 fun x11 w8 =>
 pGd (gB x9 true) (pN Tryz.prog (oLoad 9 x11) w8) w8 fun x12 w9 =>
 pGd (gB x9 true) (pN Tryz.prog (oFld 49 x3 1) w9) w9 fun x13 w10 =>
 pGd (gB x9 true) (pN Tryz.prog (oLoad 9 x13) w10) w10 fun x14 w11 =>
 pGd (gB x9 true) (pN Tryz.prog (oBin .eql 9 (.tmp 12) (.tmp 14) x12 x14) w11) w11 fun x15 w12 =>
 pN Tryz.prog (oPick x9 x15 (.bool false)) w12 fun x16 w13 =>
 pGd (gB x16 true) (pN Tryz.prog (oFld 49 x2 2) w13) w13 fun x18 w14 =>
 pGd (gB x16 true) (pN Tryz.prog (oLoad 3 x18) w14) w14 fun x19 w15 =>
 pGd (gB x16 true) (pN Tryz.prog (oFld 49 x3 2) w15) w15 fun x20 w16 =>
 pGd (gB x16 true) (pN Tryz.prog (oLoad 3 x20) w16) w16 fun x21 w17 =>
 pGd (gB x16 true) (pN Tryz.prog (oBin .eql 3 (.tmp 19) (.tmp 21) x19 x21) w17) w17 fun x22 w18 =>
 pN Tryz.prog (oPick x16 x22 (.bool false)) w18 fun x23 w19 =>
 pGd (gB x23 true) (pN Tryz.prog (oFld 49 x2 3) w19) w19 fun x25 w20 =>
 pGd (gB x23 true) (pN Tryz.prog (oLoad 3 x25) w20) w20 fun x26 w21 =>
 pGd (gB x23 true) (pN Tryz.prog (oFld 49 x3 3) w21) w21 fun x27 w22 =>
 pGd (gB x23 true) (pN Tryz.prog (oLoad 3 x27) w22) w22 fun x28 w23 =>
 pGd (gB x23 true) (pN Tryz.prog (oBin .eql 3 (.tmp 26) (.tmp 28) x26 x28) w23) w23 fun x29 w24 =>
 pN Tryz.prog (oPick x23 x29 (.bool false)) w24 fun x30 w25 =>
 pGd (gB x30 true) (pN Tryz.prog (oFld 49 x2 4) w25) w25 fun x32 w26 =>
 pGd (gB x30 true) (pN Tryz.prog (oLoad 3 x32) w26) w26 fun x33 w27 =>
 pGd (gB x30 true) (pN Tryz.prog (oFld 49 x3 4) w27) w27 fun x34 w28 =>
 pGd (gB x30 true) (pN Tryz.prog (oLoad 3 x34) w28) w28 fun x35 w29 =>
 pGd (gB x30 true) (pN Tryz.prog (oBin .eql 3 (.tmp 33) (.tmp 35) x33 x35) w29) w29 fun x36 w30 =>
 pN Tryz.prog (oPick x30 x36 (.bool false)) w30 fun x37 w31 =>
 pGd (gB x37 true) (pN Tryz.prog (oFld 49 x2 5) w31) w31 fun x39 w32 =>
 pGd (gB x37 true) (pN Tryz.prog (oLoad 47 x39) w32) w32 fun x40 w33 =>
 pGd (gB x37 true) (pN Tryz.prog (oConv 47 9 x40) w33) w33 fun x41 w34 =>
 pGd (gB x37 true) (pN Tryz.prog (oFld 49 x3 5) w34) w34 fun x42 w35 =>
 pGd (gB x37 true) (pN Tryz.prog (oLoad 47 x42) w35) w35 fun x43 w36 =>
 pGd (gB x37 true) (pN Tryz.prog (oConv 47 9 x43) w36) w36 fun x44 w37 =>
 pGd (gB x37 true) (pN Tryz.prog (oBin .eql 9 (.tmp 41) (.tmp 44) x41 x44) w37) w37 fun x45 w38 =>
 pN Tryz.prog (oPick x37 x45 (.bool false)) w38 fun x46 w39 =>
 Q x46 w39
theorem pithlaw36_same.calls [Pan] {x0 x1 : Value} {w : World} {Q : Value → World → Prop} (h : pithlaw36_same.F x0 x1 w Q) : Calls Tryz.prog 15 #[x0, x1] w (retP Q) := calls_lift mixed .z [x0, x1] Tryz.func15 (by kernel_rfl) (by kernel_rfl) h

def pithlaw36_sorted.H : Hints := { cut := fun  | _ => none, loop := fun | 3 => ([4, 10], 295147905179352825052) | 7 => ([7], 147573952589674315916) | _ => ([], 0), order := fun | 7 => [(0, 0), (1, 1), (2, 3), (3, 7), (4, 15), (5, 31), (6, 63), (7, 127), (8, 255), (9, 511), (10, 1023), (11, 2047), (12, 4095), (13, 8191), (14, 16383), (15, 32767)] | 9 => [(0, 0), (1, 1), (2, 3), (3, 7), (4, 15), (5, 31), (6, 63), (7, 127), (8, 255), (9, 511), (10, 1023), (11, 2047)] | 11 => [(0, 0), (1, 1), (2, 3), (3, 7), (4, 15), (5, 31), (6, 63), (7, 127), (8, 255), (9, 511), (10, 1023), (11, 2047), (12, 4095), (13, 8191), (14, 16383), (15, 32767), (16, 65535), (17, 131071)] | _ => [] }
def pithlaw36_sorted.F [Pan] (x0 : Value) (w : World) (Q : Value → World → Prop) : Prop :=
 pN Tryz.prog (oBi .len #[30] 3 [false] [x0]) w fun x9 w1 =>
 ∃ (L3 : Value → Value → World → Prop) (m3 : Value → Value → World → Nat),
 L3 (.slice none 0 0) (.int .i64 0) w1 ∧
 ∀ (_k3 : Env) (c4l3 : Value) (v10l3 : Value) (w2 : World), L3 c4l3 v10l3 w2 →
 pN Tryz.prog (oBin .lss 3 (.tmp 10) (.tmp 9) v10l3 x9) w2 fun x11 w3 =>
 pIf x11
 (pN Tryz.prog (oIdx 30 x0 v10l3) w3 fun x12 w4 =>
 pN Tryz.prog (oLoad 49 x12) w4 fun x13 w5 =>
 pN Tryz.prog (oAlloc 49) w5 fun x6 w6 =>
 pN Tryz.prog (oStore 49 x6 x13) w6 fun _ w7 =>
 pN Tryz.prog (oLoad 49 x6) w7 fun x15 w8 =>
 pN Tryz.prog (oBs 30 1 [(0, x15)]) w8 fun x16 w9 =>
 pN Tryz.prog (oBi .append #[30, 30] 30 [false, false] [c4l3, x16]) w9 fun x17 w10 =>
 pN Tryz.prog (oBi .len #[30] 3 [false] [x17]) w10 fun x19 w11 =>
 pN Tryz.prog (oBin .sub 3 (.tmp 19) (.const (.int .i64 1)) x19 (.int .i64 1)) w11 fun x20 w12 =>
 ∃ (L7 : Value → World → Prop) (m7 : Value → World → Nat),
 L7 x20 w12 ∧
 ∀ (_k7 : Env) (j7l7 : Value) (w13 : World), L7 j7l7 w13 →
 pDr w13 fun w14 =>
 pA Tryz.prog (oBin .gtr 3 (.tmp 21) (.const (.int .i64 0)) j7l7 (.int .i64 0)) fun x22 =>
 gA (gB x22 true) (pA Tryz.prog (oMv x17)) fun x24 =>
 gA (gB x22 true) (pA Tryz.prog (oMv j7l7)) fun x25 =>
 gA (gB x22 true) (pA Tryz.prog (oIdx 30 x24 x25)) fun x26 =>
 gA (gB x22 true) (pA Tryz.prog (oFld 49 x26 0)) fun x27 =>
 gA (gB x22 true) (pL Tryz.prog (oLoad 9 x27) w14) fun x28 =>
 gA (gB x22 true) (pA Tryz.prog (oMv x17)) fun x29 =>
 gA (gB x22 true) (pA Tryz.prog (oMv j7l7)) fun x30 =>
 gA (gB x22 true) (pA Tryz.prog (oBin .sub 3 (.tmp 30) (.const (.int .i64 1)) x30 (.int .i64 1))) fun x31 =>
 gA (gB x22 true) (pA Tryz.prog (oIdx 30 x29 x31)) fun x32 =>
 gA (gB x22 true) (pA Tryz.prog (oFld 49 x32 0)) fun x33 =>
 gA (gB x22 true) (pL Tryz.prog (oLoad 9 x33) w14) fun x34 =>
 gA (gB x22 true) (pA Tryz.prog (oBin .leq 9 (.tmp 28) (.tmp 34) x28 x34)) fun x35 =>
 pA Tryz.prog (oPick x22 x35 (.bool false)) fun x36 =>
 pIf x36
 (pDr w14 fun w15 =>
 pA Tryz.prog (oIdx 30 x17 j7l7) fun x41 =>
 pA Tryz.prog (oFld 49 x41 0) fun x42 =>
 pL Tryz.prog (oLoad 9 x42) w15 fun x43 =>
 pA Tryz.prog (oBin .sub 3 (.tmp 45) (.const (.int .i64 1)) j7l7 (.int .i64 1)) fun x46 =>
 pA Tryz.prog (oIdx 30 x17 x46) fun x47 =>
 pA Tryz.prog (oFld 49 x47 0) fun x48 =>
 pL Tryz.prog (oLoad 9 x48) w15 fun x49 =>
 pA Tryz.prog (oBin .eql 9 (.tmp 43) (.tmp 49) x43 x49) fun x50 =>
 pIf x50
 (Q (.tuple #[(.slice none 0 0), (.bool false)]) w15)
 (pDr w15 fun w16 =>
 pA Tryz.prog (oBin .sub 3 (.tmp 54) (.const (.int .i64 1)) j7l7 (.int .i64 1)) fun x55 =>
 pA Tryz.prog (oBin .sub 3 (.tmp 57) (.const (.int .i64 1)) j7l7 (.int .i64 1)) fun x58 =>
 pA Tryz.prog (oIdx 30 x17 x58) fun x59 =>
 pL Tryz.prog (oLoad 49 x59) w16 fun x60 =>
 pA Tryz.prog (oIdx 30 x17 j7l7) fun x63 =>
 pL Tryz.prog (oLoad 49 x63) w16 fun x64 =>
 pA Tryz.prog (oIdx 30 x17 j7l7) fun x65 =>
 pN Tryz.prog (oStore 49 x65 x60) w16 fun _ w17 =>
 (True) ∧ (pA Tryz.prog (oIdx 30 x17 x55) fun x66 =>
 pN Tryz.prog (oStore 49 x66 x64) w17 fun _ w18 =>
 (True) ∧ (pN Tryz.prog (oBin .sub 3 (.tmp 37) (.const (.int .i64 1)) j7l7 (.int .i64 1)) w18 fun x38 w19 =>
 (L7 x38 w19 ∧ m7 x38 w19 < m7 j7l7 w13)))))
 (pN Tryz.prog (oBin .add 3 (.tmp 10) (.const (.int .i64 1)) v10l3 (.int .i64 1)) w14 fun x67 w20 =>
 (L3 x17 x67 w20 ∧ m3 x17 x67 w20 < m3 c4l3 v10l3 w2)))
 (Q (.tuple #[c4l3, (.bool true)]) w3)
theorem pithlaw36_sorted.calls [Pan] {x0 : Value} {w : World} {Q : Value → World → Prop} (h : pithlaw36_sorted.F x0 w Q) : Calls Tryz.prog 21 #[x0] w (retP Q) := calls_lift mixed pithlaw36_sorted.H [x0] Tryz.func21 (by kernel_rfl) (by kernel_rfl) h

def pithlaw36_sameIDs.H : Hints := { cut := fun  | _ => none, loop := fun | 4 => ([13], 67100720) | _ => ([], 0), order := fun | 6 => [(0, 0), (1, 1), (2, 3), (3, 7), (4, 15), (5, 31), (6, 63), (7, 127), (8, 255)] | _ => [] }
def pithlaw36_sameIDs.F [Pan] (x0 x1 : Value) (w : World) (Q : Value → World → Prop) : Prop :=
 pN Tryz.prog (oBi .len #[52] 3 [false] [x0]) w fun x7 w1 =>
 pN Tryz.prog (oBi .len #[52] 3 [false] [x1]) w1 fun x9 w2 =>
 pN Tryz.prog (oBin .neq 3 (.tmp 7) (.tmp 9) x7 x9) w2 fun x10 w3 =>
 pIf x10
 (Q (.bool false) w3)
 (pN Tryz.prog (oBi .len #[52] 3 [false] [x0]) w3 fun x12 w4 =>
 ∃ (L4 : Value → World → Prop) (m4 : Value → World → Nat),
 L4 (.int .i64 0) w4 ∧
 ∀ (_k4 : Env) (v13l4 : Value) (w5 : World), L4 v13l4 w5 →
 pN Tryz.prog (oBin .lss 3 (.tmp 13) (.tmp 12) v13l4 x12) w5 fun x14 w6 =>
 pIf x14
 (pDr w6 fun w7 =>
 pA Tryz.prog (oIdx 52 x0 v13l4) fun x18 =>
 pL Tryz.prog (oLoad 58 x18) w7 fun x19 =>
 pA Tryz.prog (oIdx 52 x1 v13l4) fun x22 =>
 pL Tryz.prog (oLoad 58 x22) w7 fun x23 =>
 pA Tryz.prog (oBin .neq 58 (.tmp 19) (.tmp 23) x19 x23) fun x24 =>
 pIf x24
 (Q (.bool false) w7)
 (pN Tryz.prog (oBin .add 3 (.tmp 13) (.const (.int .i64 1)) v13l4 (.int .i64 1)) w7 fun x25 w8 =>
 (L4 x25 w8 ∧ m4 x25 w8 < m4 v13l4 w5)))
 (Q (.bool true) w6))
theorem pithlaw36_sameIDs.calls [Pan] {x0 x1 : Value} {w : World} {Q : Value → World → Prop} (h : pithlaw36_sameIDs.F x0 x1 w Q) : Calls Tryz.prog 22 #[x0, x1] w (retP Q) := calls_lift mixed pithlaw36_sameIDs.H [x0, x1] Tryz.func22 (by kernel_rfl) (by kernel_rfl) h

def pithlaw36_SnapLists_c1.F [Pan] (x0 x1 x2 : Value) (w : World) (Q : Value → World → Prop) : Prop :=
 pDr w fun w1 =>
 pL Tryz.prog (oLoad 71 x1) w1 fun x4 =>
 pL Tryz.prog (oLoad 72 x2) w1 fun x8 =>
 pL Tryz.prog (oConv 47 9 x0) w1 fun x10 =>
 (pN Tryz.prog (oBs 71 1 [(0, x0)]) w1 fun x6 w2 =>
 ((Sem.run Tryz.prog (oConv 47 9 x0) w2 = .ok (.value x10) w2) ∧ (Sem.run Tryz.prog (oLoad 72 x2) w2 = .ok (.value x8) w2) ∧ (Sem.run Tryz.prog (oLoad 71 x1) w2 = .ok (.value x4) w2) ∧ True) ∧ ((pN Tryz.prog (oBi .append #[71, 71] 71 [false, false] [x4, x6]) w2 fun x7 w3 =>
 ((Sem.run Tryz.prog (oConv 47 9 x0) w3 = .ok (.value x10) w3) ∧ (Sem.run Tryz.prog (oLoad 72 x2) w3 = .ok (.value x8) w3) ∧ True) ∧ (pN Tryz.prog (oBs 72 1 [(0, x10)]) w3 fun x11 w4 =>
 ((Sem.run Tryz.prog (oLoad 72 x2) w4 = .ok (.value x8) w4) ∧ True) ∧ (pN Tryz.prog (oBi .append #[72, 72] 72 [false, false] [x8, x11]) w4 fun x12 w5 =>
 (True) ∧ (pN Tryz.prog (oStore 71 x1 x7) w5 fun _ w6 =>
 (True) ∧ (pN Tryz.prog (oStore 72 x2 x12) w6 fun _ w7 =>
 (True) ∧ (Q (.tuple #[]) w7)))))) ∧ (pN Tryz.prog (oBs 72 1 [(0, x10)]) w2 fun x11 w8 =>
 ((Sem.run Tryz.prog (oLoad 72 x2) w8 = .ok (.value x8) w8) ∧ (Sem.run Tryz.prog (oLoad 71 x1) w8 = .ok (.value x4) w8) ∧ True) ∧ (pN Tryz.prog (oBi .append #[71, 71] 71 [false, false] [x4, x6]) w8 fun x7 w9 =>
 ((Sem.run Tryz.prog (oLoad 72 x2) w9 = .ok (.value x8) w9) ∧ True) ∧ (pN Tryz.prog (oBi .append #[72, 72] 72 [false, false] [x8, x11]) w9 fun x12 w10 =>
 (True) ∧ (pN Tryz.prog (oStore 71 x1 x7) w10 fun _ w11 =>
 (True) ∧ (pN Tryz.prog (oStore 72 x2 x12) w11 fun _ w12 =>
 (True) ∧ (Q (.tuple #[]) w12)))))))) ∧ (pN Tryz.prog (oBs 72 1 [(0, x10)]) w1 fun x11 w13 =>
 ((Sem.run Tryz.prog (oLoad 72 x2) w13 = .ok (.value x8) w13) ∧ (Sem.run Tryz.prog (oLoad 71 x1) w13 = .ok (.value x4) w13) ∧ True) ∧ (pN Tryz.prog (oBs 71 1 [(0, x0)]) w13 fun x6 w14 =>
 ((Sem.run Tryz.prog (oLoad 72 x2) w14 = .ok (.value x8) w14) ∧ (Sem.run Tryz.prog (oLoad 71 x1) w14 = .ok (.value x4) w14) ∧ True) ∧ (pN Tryz.prog (oBi .append #[71, 71] 71 [false, false] [x4, x6]) w14 fun x7 w15 =>
 ((Sem.run Tryz.prog (oLoad 72 x2) w15 = .ok (.value x8) w15) ∧ True) ∧ (pN Tryz.prog (oBi .append #[72, 72] 72 [false, false] [x8, x11]) w15 fun x12 w16 =>
 (True) ∧ (pN Tryz.prog (oStore 71 x1 x7) w16 fun _ w17 =>
 (True) ∧ (pN Tryz.prog (oStore 72 x2 x12) w17 fun _ w18 =>
 (True) ∧ (Q (.tuple #[]) w18)))))))
theorem pithlaw36_SnapLists_c1.calls [Pan] {x0 x1 x2 : Value} {w : World} {Q : Value → World → Prop} (h : pithlaw36_SnapLists_c1.F x0 x1 x2 w Q) : Calls Tryz.prog 26 #[x0, x1, x2] w (retP Q) := calls_lift mixed .z [x0, x1, x2] Tryz.func26 (by kernel_rfl) (by kernel_rfl) h

def pithlaw36_sameAll.H : Hints := { cut := fun  | _ => none, loop := fun | 4 => ([13], 134209584) | _ => ([], 0), order := fun | 6 => [(0, 0), (1, 1), (2, 3), (3, 7), (4, 15), (5, 31), (6, 63), (7, 127), (8, 255), (9, 511)] | _ => [] }
def pithlaw36_sameAll.F [Pan] (x0 x1 : Value) (w : World) (Q : Value → World → Prop) : Prop :=
 pN Tryz.prog (oBi .len #[30] 3 [false] [x0]) w fun x7 w1 =>
 pN Tryz.prog (oBi .len #[30] 3 [false] [x1]) w1 fun x9 w2 =>
 pN Tryz.prog (oBin .neq 3 (.tmp 7) (.tmp 9) x7 x9) w2 fun x10 w3 =>
 pIf x10
 (Q (.bool false) w3)
 (pN Tryz.prog (oBi .len #[30] 3 [false] [x0]) w3 fun x12 w4 =>
 ∃ (L4 : Value → World → Prop) (m4 : Value → World → Nat),
 L4 (.int .i64 0) w4 ∧
 ∀ (_k4 : Env) (v13l4 : Value) (w5 : World), L4 v13l4 w5 →
 pN Tryz.prog (oBin .lss 3 (.tmp 13) (.tmp 12) v13l4 x12) w5 fun x14 w6 =>
 pIf x14
 (pDr w6 fun w7 =>
 pA Tryz.prog (oIdx 30 x0 v13l4) fun x18 =>
 pL Tryz.prog (oLoad 49 x18) w7 fun x19 =>
 pA Tryz.prog (oIdx 30 x1 v13l4) fun x22 =>
 pL Tryz.prog (oLoad 49 x22) w7 fun x23 =>
 pN Tryz.prog (oCall 15 [x19, x23]) w7 fun x24 w8 =>
 (True) ∧ (pA Tryz.prog (oUn .not x24) fun x25 =>
 pIf x25
 (Q (.bool false) w8)
 (pN Tryz.prog (oBin .add 3 (.tmp 13) (.const (.int .i64 1)) v13l4 (.int .i64 1)) w8 fun x26 w9 =>
 (L4 x26 w9 ∧ m4 x26 w9 < m4 v13l4 w5))))
 (Q (.bool true) w6))
theorem pithlaw36_sameAll.calls [Pan] {x0 x1 : Value} {w : World} {Q : Value → World → Prop} (h : pithlaw36_sameAll.F x0 x1 w Q) : Calls Tryz.prog 27 #[x0, x1] w (retP Q) := calls_lift mixed pithlaw36_sameAll.H [x0, x1] Tryz.func27 (by kernel_rfl) (by kernel_rfl) h

def pithlaw36_tail.H : Hints := { cut := fun  | _ => none, loop := fun | 3 => ([3, 4], 8184) | _ => ([], 0), order := fun  | _ => [] }
def pithlaw36_tail.F [Pan] (x0 : Value) (w : World) (Q : Value → World → Prop) : Prop :=
 ∃ (L3 : Value → Value → World → Prop) (m3 : Value → Value → World → Nat),
 L3 (.slice none 0 0) (.int .i64 0) w ∧
 ∀ (_k3 : Env) (b3l3 : Value) (v4l3 : Value) (w1 : World), L3 b3l3 v4l3 w1 →
 pN Tryz.prog (oBin .lss 3 (.tmp 4) (.const (.int .i64 1200)) v4l3 (.int .i64 1200)) w1 fun x5 w2 =>
 pIf x5
 (pN Tryz.prog (oBin .add 3 (.tmp 7) (.const (.int .i64 100)) x0 (.int .i64 100)) w2 fun x8 w3 =>
 pN Tryz.prog (oConv 3 5 x8) w3 fun x9 w4 =>
 pN Tryz.prog (oBs 47 1 [(0, x9)]) w4 fun x10 w5 =>
 pN Tryz.prog (oBi .append #[47, 47] 47 [false, false] [b3l3, x10]) w5 fun x11 w6 =>
 pN Tryz.prog (oBin .add 3 (.tmp 4) (.const (.int .i64 1)) v4l3 (.int .i64 1)) w6 fun x12 w7 =>
 (L3 x11 x12 w7 ∧ m3 x11 x12 w7 < m3 b3l3 v4l3 w1))
 (Q b3l3 w2)
theorem pithlaw36_tail.calls [Pan] {x0 : Value} {w : World} {Q : Value → World → Prop} (h : pithlaw36_tail.F x0 w Q) : Calls Tryz.prog 31 #[x0] w (retP Q) := calls_lift mixed pithlaw36_tail.H [x0] Tryz.func31 (by kernel_rfl) (by kernel_rfl) h

def pithlaw36_sameChanges.H : Hints := { cut := fun  | _ => none, loop := fun | 4 => ([13], 67100720) | _ => ([], 0), order := fun | 6 => [(0, 0), (1, 1), (2, 3), (3, 7), (4, 15), (5, 31), (6, 63), (7, 127), (8, 255)] | _ => [] }
def pithlaw36_sameChanges.F [Pan] (x0 x1 : Value) (w : World) (Q : Value → World → Prop) : Prop :=
 pN Tryz.prog (oBi .len #[40] 3 [false] [x0]) w fun x7 w1 =>
 pN Tryz.prog (oBi .len #[40] 3 [false] [x1]) w1 fun x9 w2 =>
 pN Tryz.prog (oBin .neq 3 (.tmp 7) (.tmp 9) x7 x9) w2 fun x10 w3 =>
 pIf x10
 (Q (.bool false) w3)
 (pN Tryz.prog (oBi .len #[40] 3 [false] [x0]) w3 fun x12 w4 =>
 ∃ (L4 : Value → World → Prop) (m4 : Value → World → Nat),
 L4 (.int .i64 0) w4 ∧
 ∀ (_k4 : Env) (v13l4 : Value) (w5 : World), L4 v13l4 w5 →
 pN Tryz.prog (oBin .lss 3 (.tmp 13) (.tmp 12) v13l4 x12) w5 fun x14 w6 =>
 pIf x14
 (pDr w6 fun w7 =>
 pA Tryz.prog (oIdx 40 x0 v13l4) fun x18 =>
 pL Tryz.prog (oLoad 45 x18) w7 fun x19 =>
 pA Tryz.prog (oIdx 40 x1 v13l4) fun x22 =>
 pL Tryz.prog (oLoad 45 x22) w7 fun x23 =>
 pA Tryz.prog (oBin .neq 45 (.tmp 19) (.tmp 23) x19 x23) fun x24 =>
 pIf x24
 (Q (.bool false) w7)
 (pN Tryz.prog (oBin .add 3 (.tmp 13) (.const (.int .i64 1)) v13l4 (.int .i64 1)) w7 fun x25 w8 =>
 (L4 x25 w8 ∧ m4 x25 w8 < m4 v13l4 w5)))
 (Q (.bool true) w6))
theorem pithlaw36_sameChanges.calls [Pan] {x0 x1 : Value} {w : World} {Q : Value → World → Prop} (h : pithlaw36_sameChanges.F x0 x1 w Q) : Calls Tryz.prog 32 #[x0, x1] w (retP Q) := calls_lift mixed pithlaw36_sameChanges.H [x0, x1] Tryz.func32 (by kernel_rfl) (by kernel_rfl) h

def pithlaw36_sameNames.H : Hints := { cut := fun  | _ => none, loop := fun | 4 => ([13], 67100720) | _ => ([], 0), order := fun | 6 => [(0, 0), (1, 1), (2, 3), (3, 7), (4, 15), (5, 31), (6, 63), (7, 127), (8, 255)] | _ => [] }
def pithlaw36_sameNames.F [Pan] (x0 x1 : Value) (w : World) (Q : Value → World → Prop) : Prop :=
 pN Tryz.prog (oBi .len #[72] 3 [false] [x0]) w fun x7 w1 =>
 pN Tryz.prog (oBi .len #[72] 3 [false] [x1]) w1 fun x9 w2 =>
 pN Tryz.prog (oBin .neq 3 (.tmp 7) (.tmp 9) x7 x9) w2 fun x10 w3 =>
 pIf x10
 (Q (.bool false) w3)
 (pN Tryz.prog (oBi .len #[72] 3 [false] [x0]) w3 fun x12 w4 =>
 ∃ (L4 : Value → World → Prop) (m4 : Value → World → Nat),
 L4 (.int .i64 0) w4 ∧
 ∀ (_k4 : Env) (v13l4 : Value) (w5 : World), L4 v13l4 w5 →
 pN Tryz.prog (oBin .lss 3 (.tmp 13) (.tmp 12) v13l4 x12) w5 fun x14 w6 =>
 pIf x14
 (pDr w6 fun w7 =>
 pA Tryz.prog (oIdx 72 x0 v13l4) fun x18 =>
 pL Tryz.prog (oLoad 9 x18) w7 fun x19 =>
 pA Tryz.prog (oIdx 72 x1 v13l4) fun x22 =>
 pL Tryz.prog (oLoad 9 x22) w7 fun x23 =>
 pA Tryz.prog (oBin .neq 9 (.tmp 19) (.tmp 23) x19 x23) fun x24 =>
 pIf x24
 (Q (.bool false) w7)
 (pN Tryz.prog (oBin .add 3 (.tmp 13) (.const (.int .i64 1)) v13l4 (.int .i64 1)) w7 fun x25 w8 =>
 (L4 x25 w8 ∧ m4 x25 w8 < m4 v13l4 w5)))
 (Q (.bool true) w6))
theorem pithlaw36_sameNames.calls [Pan] {x0 x1 : Value} {w : World} {Q : Value → World → Prop} (h : pithlaw36_sameNames.F x0 x1 w Q) : Calls Tryz.prog 33 #[x0, x1] w (retP Q) := calls_lift mixed pithlaw36_sameNames.H [x0, x1] Tryz.func33 (by kernel_rfl) (by kernel_rfl) h

def pithlaw36_pieces.H : Hints := { cut := fun  | _ => none, loop := fun | 5 => ([7, 8, 19], 4398045988240) | _ => ([], 0), order := fun  | _ => [] }
def pithlaw36_pieces.F [Pan] (x0 x1 : Value) (w : World) (Q : Value → World → Prop) : Prop :=
 pN Tryz.prog (oBox 27 x1) w fun x3 w1 =>
 pN Tryz.prog (oLoad 27 x3) w1 fun x13 w2 =>
 pN Tryz.prog (oCall 63 [x0, x13]) w2 fun x14 w3 =>
 pN Tryz.prog (oExt x14 0) w3 fun x15 w4 =>
 pN Tryz.prog (oExt x14 1) w4 fun _ w5 =>
 pN Tryz.prog (oBi .len #[46] 3 [false] [x15]) w5 fun x18 w6 =>
 ∃ (L5 : Value → Value → Value → World → Prop) (m5 : Value → Value → Value → World → Nat),
 L5 (.slice none 0 0) (.int .i64 0) (.int .i64 0) w6 ∧
 ∀ (_k5 : Env) (l7l5 : Value) (from8l5 : Value) (v19l5 : Value) (w7 : World), L5 l7l5 from8l5 v19l5 w7 →
 pN Tryz.prog (oBin .lss 3 (.tmp 19) (.tmp 18) v19l5 x18) w7 fun x20 w8 =>
 pIf x20
 (pN Tryz.prog (oIdx 46 x15 v19l5) w8 fun x21 w9 =>
 pN Tryz.prog (oLoad 3 x21) w9 fun x22 w10 =>
 pN Tryz.prog (oBin .lss 3 (.tmp 23) (.tmp 24) x22 from8l5) w10 fun x25 w11 =>
 pGd (gB x25 false) (pN Tryz.prog (oMv x22) w11) w11 fun x27 w12 =>
 pGd (gB x25 false) (pN Tryz.prog (oMv x0) w12) w12 fun x28 w13 =>
 pGd (gB x25 false) (pN Tryz.prog (oBi .len #[47] 3 [false] [x28]) w13) w13 fun x29 w14 =>
 pGd (gB x25 false) (pN Tryz.prog (oBin .gtr 3 (.tmp 27) (.tmp 29) x27 x29) w14) w14 fun x30 w15 =>
 pN Tryz.prog (oPick x25 (.bool true) x30) w15 fun x31 w16 =>
 pIf x31
 (Q (.slice none 0 0) w16)
 (pN Tryz.prog (oSl 47 x0 (some from8l5) (some x22) none) w16 fun x36 w17 =>
 pN Tryz.prog (oConv 47 9 x36) w17 fun x37 w18 =>
 pN Tryz.prog (oBs 72 1 [(0, x37)]) w18 fun x38 w19 =>
 pN Tryz.prog (oBi .append #[72, 72] 72 [false, false] [l7l5, x38]) w19 fun x39 w20 =>
 pN Tryz.prog (oBin .add 3 (.tmp 19) (.const (.int .i64 1)) v19l5 (.int .i64 1)) w20 fun x41 w21 =>
 (L5 x39 x22 x41 w21 ∧ m5 x39 x22 x41 w21 < m5 l7l5 from8l5 v19l5 w7)))
 (Q l7l5 w8)
theorem pithlaw36_pieces.calls [Pan] {x0 x1 : Value} {w : World} {Q : Value → World → Prop} (h : pithlaw36_pieces.F x0 x1 w Q) : Calls Tryz.prog 50 #[x0, x1] w (retP Q) := calls_lift mixed pithlaw36_pieces.H [x0, x1] Tryz.func50 (by kernel_rfl) (by kernel_rfl) h

def pithlaw36_listed.H : Hints := { cut := fun | 18 => some ([7], 18889465368528627446912) | 20 => some ([7], 38685626227668133523502720) | _ => none, loop := fun | 4 => ([7, 24], 77371252455336267164432000) | 13 => ([7, 62], 18884854245460153479296) | _ => ([], 0), order := fun | 7 => [(0, 0), (1, 1), (2, 3), (4, 7), (5, 23), (3, 55), (6, 63), (7, 127)] | 8 => [(0, 0), (1, 1), (2, 3), (3, 7), (5, 15), (6, 47), (4, 111), (7, 127), (8, 255)] | 19 => [(0, 0), (1, 1), (2, 3), (3, 7), (5, 15), (6, 47), (4, 111), (7, 127), (8, 255)] | _ => [] }
def pithlaw36_listed.F [Pan] (x0 x1 : Value) (w : World) (Q : Value → World → Prop) : Prop :=
 pN Tryz.prog (oBox 27 x1) w fun x3 w1 =>
 pN Tryz.prog (oCall 21 [x0]) w1 fun x16 w2 =>
 pN Tryz.prog (oExt x16 0) w2 fun x17 w3 =>
 pN Tryz.prog (oExt x16 1) w3 fun _ w4 =>
 pN Tryz.prog (oBi .len #[30] 3 [false] [x17]) w4 fun x20 w5 =>
 pN Tryz.prog (oCall 91 [(.slice none 0 0), x20]) w5 fun x21 w6 =>
 pN Tryz.prog (oBi .len #[30] 3 [false] [x17]) w6 fun x23 w7 =>
 ∃ (L4 : Value → Value → World → Prop) (m4 : Value → Value → World → Nat),
 L4 x21 (.int .i64 0) w7 ∧
 ∀ (_k4 : Env) (b7l4 : Value) (v24l4 : Value) (w8 : World), L4 b7l4 v24l4 w8 →
 pN Tryz.prog (oBin .lss 3 (.tmp 24) (.tmp 23) v24l4 x23) w8 fun x25 w9 =>
 pIf x25
 (∃ I20 : Value → World → Prop,
 (pN Tryz.prog (oIdx 30 x17 v24l4) w9 fun x26 w10 =>
 pN Tryz.prog (oLoad 49 x26) w10 fun x27 w11 =>
 pN Tryz.prog (oAlloc 49) w11 fun x9 w12 =>
 pN Tryz.prog (oStore 49 x9 x27) w12 fun _ w13 =>
 pN Tryz.prog (oFld 49 x9 2) w13 fun x29 w14 =>
 pN Tryz.prog (oLoad 3 x29) w14 fun x30 w15 =>
 pN Tryz.prog (oConv 3 5 x30) w15 fun x31 w16 =>
 pN Tryz.prog (oBs 47 1 [(0, x31)]) w16 fun x32 w17 =>
 pN Tryz.prog (oBi .append #[47, 47] 47 [false, false] [b7l4, x32]) w17 fun x33 w18 =>
 pDr w18 fun w19 =>
 pA Tryz.prog (oFld 49 x9 3) fun x35 =>
 pL Tryz.prog (oLoad 3 x35) w19 fun x36 =>
 pA Tryz.prog (oFld 49 x9 4) fun x38 =>
 pL Tryz.prog (oLoad 3 x38) w19 fun x39 =>
 pN Tryz.prog (oCall 91 [x33, x36]) w19 fun x37 w20 =>
 ((Sem.run Tryz.prog (oLoad 3 x38) w20 = .ok (.value x39) w20) ∧ True) ∧ (pN Tryz.prog (oCall 91 [x37, x39]) w20 fun x40 w21 =>
 (True) ∧ (pDr w21 fun w22 =>
 pA Tryz.prog (oFld 49 x9 0) fun x42 =>
 pL Tryz.prog (oLoad 9 x42) w22 fun x43 =>
 pA Tryz.prog (oBi .len #[9] 3 [false] [x43]) fun x44 =>
 pA Tryz.prog (oFld 49 x9 0) fun x46 =>
 pL Tryz.prog (oLoad 9 x46) w22 fun x47 =>
 pN Tryz.prog (oCall 91 [x40, x44]) w22 fun x45 w23 =>
 ((Sem.run Tryz.prog (oLoad 9 x46) w23 = .ok (.value x47) w23) ∧ True) ∧ (pN Tryz.prog (oBi .append #[47, 9] 47 [false, false] [x45, x47]) w23 fun x48 w24 =>
 (True) ∧ (∃ I18 : Value → World → Prop,
 (pN Tryz.prog (oFld 49 x9 2) w24 fun x49 w25 =>
 pN Tryz.prog (oLoad 3 x49) w25 fun x50 w26 =>
 pN Tryz.prog (oBin .eql 3 (.tmp 50) (.const (.int .i64 0)) x50 (.int .i64 0)) w26 fun x51 w27 =>
 pIf x51
 (pN Tryz.prog (oFld 49 x9 5) w27 fun x52 w28 =>
 pN Tryz.prog (oLoad 47 x52) w28 fun x53 w29 =>
 pN Tryz.prog (oLoad 27 x3) w29 fun x54 w30 =>
 pN Tryz.prog (oCall 50 [x53, x54]) w30 fun x55 w31 =>
 pN Tryz.prog (oBi .len #[72] 3 [false] [x55]) w31 fun x58 w32 =>
 pN Tryz.prog (oCall 91 [x48, x58]) w32 fun x59 w33 =>
 pN Tryz.prog (oBi .len #[72] 3 [false] [x55]) w33 fun x61 w34 =>
 ∃ (L13 : Value → Value → World → Prop) (m13 : Value → Value → World → Nat),
 L13 x59 (.int .i64 0) w34 ∧
 ∀ (_k13 : Env) (b7l13 : Value) (v62l13 : Value) (w35 : World), L13 b7l13 v62l13 w35 →
 pN Tryz.prog (oBin .lss 3 (.tmp 62) (.tmp 61) v62l13 x61) w35 fun x63 w36 =>
 pIf x63
 (pN Tryz.prog (oIdx 72 x55 v62l13) w36 fun x64 w37 =>
 pN Tryz.prog (oLoad 9 x64) w37 fun x65 w38 =>
 pN Tryz.prog (oConv 9 47 x65) w38 fun x67 w39 =>
 pN Tryz.prog (oBs 71 1 [(0, x67)]) w39 fun x68 w40 =>
 pN Tryz.prog (oCall 52 [x68]) w40 fun x69 w41 =>
 pN Tryz.prog (oAlloc 57) w41 fun x13 w42 =>
 pN Tryz.prog (oStore 57 x13 x69) w42 fun _ w43 =>
 pN Tryz.prog (oSl 57 x13 none none none) w43 fun x71 w44 =>
 pN Tryz.prog (oBi .append #[47, 47] 47 [false, false] [b7l13, x71]) w44 fun x72 w45 =>
 pN Tryz.prog (oBin .add 3 (.tmp 62) (.const (.int .i64 1)) v62l13 (.int .i64 1)) w45 fun x73 w46 =>
 (L13 x72 x73 w46 ∧ m13 x72 x73 w46 < m13 b7l13 v62l13 w35))
 (I18 b7l13 w36))
 (I18 x48 w27)) ∧
 ∀ (_j18 : Env) (b7c18 : Value) (w47 : World), I18 b7c18 w47 →
 pN Tryz.prog (oFld 49 x9 2) w47 fun x74 w48 =>
 pN Tryz.prog (oLoad 3 x74) w48 fun x75 w49 =>
 pN Tryz.prog (oBin .eql 3 (.tmp 75) (.const (.int .i64 2)) x75 (.int .i64 2)) w49 fun x76 w50 =>
 pIf x76
 (pDr w50 fun w51 =>
 pA Tryz.prog (oFld 49 x9 1) fun x78 =>
 pL Tryz.prog (oLoad 9 x78) w51 fun x79 =>
 pA Tryz.prog (oBi .len #[9] 3 [false] [x79]) fun x80 =>
 pA Tryz.prog (oFld 49 x9 1) fun x82 =>
 pL Tryz.prog (oLoad 9 x82) w51 fun x83 =>
 pN Tryz.prog (oCall 91 [b7c18, x80]) w51 fun x81 w52 =>
 ((Sem.run Tryz.prog (oLoad 9 x82) w52 = .ok (.value x83) w52) ∧ True) ∧ (pN Tryz.prog (oBi .append #[47, 9] 47 [false, false] [x81, x83]) w52 fun x84 w53 =>
 (True) ∧ (I20 x84 w53)))
 (I20 b7c18 w50)))))) ∧
 ∀ (_j20 : Env) (b7c20 : Value) (w54 : World), I20 b7c20 w54 →
 pN Tryz.prog (oBin .add 3 (.tmp 24) (.const (.int .i64 1)) v24l4 (.int .i64 1)) w54 fun x85 w55 =>
 (L4 b7c20 x85 w55 ∧ m4 b7c20 x85 w55 < m4 b7l4 v24l4 w8))
 (Q b7l4 w9)
theorem pithlaw36_listed.calls [Pan] {x0 x1 : Value} {w : World} {Q : Value → World → Prop} (h : pithlaw36_listed.F x0 x1 w Q) : Calls Tryz.prog 51 #[x0, x1] w (retP Q) := calls_lift mixed pithlaw36_listed.H [x0, x1] Tryz.func51 (by kernel_rfl) (by kernel_rfl) h

def pithlaw36_usual.F [Pan]  (w : World) (Q : Value → World → Prop) : Prop :=
 pN Tryz.prog (oBuild 25 [(0, (.int .i64 1)), (3, (.int .i64 4096)), (4, (.int .i64 65536))]) w fun x4 w1 =>
 pN Tryz.prog (oBuild 27 [(0, (.int .i64 64)), (1, (.int .i64 64))]) w1 fun x5 w2 =>
 pN Tryz.prog (oBuild 29 [(0, x4), (1, x5)]) w2 fun x6 w3 =>
 pN Tryz.prog (oCall 8 [x6]) w3 fun x7 w4 =>
 pN Tryz.prog (oExt x7 0) w4 fun x8 w5 =>
 pN Tryz.prog (oExt x7 1) w5 fun _ w6 =>
 Q x8 w6
theorem pithlaw36_usual.calls [Pan]  {w : World} {Q : Value → World → Prop} (h : pithlaw36_usual.F  w Q) : Calls Tryz.prog 53 #[] w (retP Q) := calls_lift mixed .z [] Tryz.func53 (by kernel_rfl) (by kernel_rfl) h

def pithlaw36_number.F [Pan] (x0 x1 : Value) (w : World) (Q : Value → World → Prop) : Prop :=
 pN Tryz.prog (oConv 3 212 x1) w fun x9 w1 =>
 pN Tryz.prog (oCall 124 [x9]) w1 fun x10 w2 =>
 pN Tryz.prog (oExt x10 0) w2 fun x11 w3 =>
 pN Tryz.prog (oExt x10 1) w3 fun _ w4 =>
 pN Tryz.prog (oBi .append #[47, 47] 47 [false, false] [x0, x11]) w4 fun x15 w5 =>
 Q x15 w5
theorem pithlaw36_number.calls [Pan] {x0 x1 : Value} {w : World} {Q : Value → World → Prop} (h : pithlaw36_number.F x0 x1 w Q) : Calls Tryz.prog 91 #[x0, x1] w (retP Q) := calls_lift mixed .z [x0, x1] Tryz.func91 (by kernel_rfl) (by kernel_rfl) h

end Go.Proofs.YtikmogfhhggafaaGreatDoor

namespace Go.Proofs.YtikmogfhhggafaaGreatDoor
open Go
theorem map_names_perm {l m : List T_api_Item} (h : l.Perm m) : (l.map (·.Name)).Nodup ↔ (m.map (·.Name)).Nodup := (h.map _).nodup_iff
theorem sort_nodup (l : List T_api_Item) : S.twice (S.sort l) = false ↔ (l.map (·.Name)).Nodup := by
  constructor
  · intro h
    exact (map_names_perm (S.sort_perm l)).1 (S.rise_nodup (S.rise_of (S.sort_up l) h))
  · intro h
    exact S.twice_nodup ((map_names_perm (S.sort_perm l)).2 h)
theorem rise_sort {G l : List T_api_Item} (hp : G.Perm l) (hr : S.Rise G) : G = S.sort l ∧ S.twice (S.sort l) = false := by
  have hu : U.Up S.before G := by
    have := hr
    exact List.Pairwise.imp (fun {a b} h => by
      cases h2 : S.before b a with
      | false => rfl
      | true => have := S.before_ord.tr _ _ _ h h2; rw [S.before_ord.irr] at this; cases this) this
  obtain ⟨h1, h2⟩ := S.sort_of hp hu
  have h3 := S.not_twice hr
  exact ⟨h2 h3, by rw [← h1]; exact h3⟩
theorem rise_ins {P R : List T_api_Item} {x : T_api_Item} (h : S.Rise (P ++ R)) (hr : ∀ r ∈ R, S.before x r = true) (hp : ∀ p, P.getLast? = some p → S.before p x = true) : S.Rise (P ++ x :: R) := by
  obtain ⟨h1, h2, h3⟩ := List.pairwise_append.1 h
  refine List.pairwise_append.2 ⟨h1, List.pairwise_cons.2 ⟨hr, h2⟩, fun a ha b hb => ?_⟩
  have hax : S.before a x = true := by
    by_cases hP : P = []
    · subst hP; cases ha
    · obtain ⟨P0, p, rfl⟩ := U.last_cut hP
      have hpx := hp p (by rw [List.getLast?_concat])
      rcases List.mem_append.1 ha with ha | ha
      · exact S.before_ord.tr _ _ _ ((List.pairwise_append.1 h1).2.2 a ha p List.mem_cons_self) hpx
      · obtain rfl : a = p := by simpa using ha
        exact hpx
  rcases List.mem_cons.1 hb with rfl | hb
  · exact hax
  · exact h3 a ha b hb
theorem same_twice {its C0 : List T_api_Item} {k : Nat} {x y : T_api_Item} (hx : its[k]? = some x) (hp : C0.Perm (its.take k)) (hy : y ∈ C0) (h : x.Name = y.Name) : S.twice (S.sort its) = true := by
  cases ht : S.twice (S.sort its) with
  | true => rfl
  | false =>
    have h1 := (sort_nodup its).1 ht
    have h2 : its = its.take (k + 1) ++ its.drop (k + 1) := (List.take_append_drop _ _).symm
    rw [h2, List.map_append, List.take_add_one, hx, List.map_append] at h1
    have h3 := (List.nodup_append.1 (List.nodup_append.1 h1).1).2.2 y.Name (List.mem_map_of_mem (hp.mem_iff.1 hy)) x.Name (by simp)
    exact absurd h.symm h3
attribute [local irreducible] oMv oV oU oCall oCallV oBi oBin oUn oLoad oStore oNil oFld oField oIdx oIndex oPick oAlloc oBox oBuild oBs oConv oMk oSl oExt oFn oIface oMap oLook oMapUp oRange oNext oEntry oInv oAssert oPanic oRes pN pA pL pDr pIf gA pGd Calls H.sum C.put
section
variable [Pan] {E w W : World} {K Q : Value → World → Prop} {LL M N N' : List HA} {c : T_api_Config} {db : Nat} {d : D.T} {its : List T_api_Item} {s sl : Sl}

theorem Lnum_ok (v : Int) (hQ : Q (.int .i64 v) w) : Calls Tryz.prog 12 #[.int .i64 v] w (retP Q) := by
  refine pithlaw36_num.calls ?_
  unfold pithlaw36_num.F
  exact hQ

abbrev kutV (k : T_api_Cuts) : C.K := ⟨k.Least, k.Most, k.Bits⟩
theorem begin_in (o : T_pithlaw36_Setup) (hc : D.okC o.C) (hk : (kutV o.f_K).legal) (hS : Sat E w M) (hQ : ∀ b w, Sat E w (Dep o.C b (D.new (kutV o.f_K)) :: M) → Q (.tuple #[.pointer (some ⟨b, 0, none⟩), .bool true]) w) :
    Calls Tryz.prog 8 #[.agg o.enc.toArray] w (retP Q) := by
  refine pithlaw36_begin.calls ?_
  unfold pithlaw36_begin.F
  refine pN_bx (z := o.enc) hS rfl ?_
  clear hS
  intro ob w hS
  repeat' (first | refine pN_la_at (n := 8) hS o.C.enc rfl rfl ?_ | refine pN_la_at (n := 3) hS [.int .i64 o.f_K.Least, .int .i64 o.f_K.Most, .int .i64 o.f_K.Bits] rfl rfl ?_ | (refine pc_depot_New (DNew_in (c := o.C) (k := kutV o.f_K) hc hk hS ?_); clear hS; intro b w hS) | (refine pc_pithlaw36_num (Lnum_ok _ ?_)) | (refine pN_eql_s ?_ ?_ <;> intro hc <;> try (exfalso; first | omega | exact hc rfl | exact hc (by assumption) | exact absurd hc (by assumption))) | refine pGd_go (by rfl) ?_ | refine pGd_no (by rfl) ?_ | refine pN_v (hk := ?_) | fail)
  exact hQ b _ hS.to
theorem begin_no (o : T_pithlaw36_Setup) (hn : ¬ (D.okC o.C ∧ (kutV o.f_K).legal)) (hS : Sat E w M) (hQ : ∀ w, Sat E w M → Q (.tuple #[.pointer none, .bool true]) w) :
    Calls Tryz.prog 8 #[.agg o.enc.toArray] w (retP Q) := by
  refine pithlaw36_begin.calls ?_
  unfold pithlaw36_begin.F
  refine pN_bx (z := o.enc) hS rfl ?_
  clear hS
  intro ob w hS
  repeat' (first | refine pN_la_at (n := 8) hS o.C.enc rfl rfl ?_ | refine pN_la_at (n := 3) hS [.int .i64 o.f_K.Least, .int .i64 o.f_K.Most, .int .i64 o.f_K.Bits] rfl rfl ?_ | (refine pc_depot_New (DNew_no (c := o.C) (k := kutV o.f_K) hn hS ?_); clear hS; intro w hS) | (refine pc_pithlaw36_num (Lnum_ok _ ?_)) | (refine pN_eql_s ?_ ?_ <;> intro hc <;> try (exfalso; first | omega | exact hc rfl | exact hc (by assumption) | exact absurd hc (by assumption))) | refine pGd_go (by rfl) ?_ | refine pN_v (hk := ?_) | fail)
  exact hQ _ hS.to

theorem lnum_ok {l : List UInt8} (hG : GloS W) (v : Int) (h0 : 0 ≤ v) (h1 : v < 9223372036854775808) (hS : Sat E w LL) [hg : Has (old W) LL N'] [hf : Fnd (rows cd_uint8 s) LL l M] (hb : l.length ≤ 140737488355319)
    (hQ : ∀ s2 w, Sat E w (rows cd_uint8 s2 (l ++ C.put v.toNat) :: M) → Q (.slice s2.a (l ++ C.put v.toNat).length s2.c) w) :
    Calls Tryz.prog 91 #[.slice s.a l.length s.c, .int .i64 v] w (retP Q) := by
  refine pithlaw36_number.calls ?_
  unfold pithlaw36_number.F
  obtain ⟨v, rfl⟩ := Int.eq_ofNat_of_zero_le h0
  rw [Int.toNat_natCast] at hQ
  have hp := L.putl v (by omega)
  repeat' (first | (refine pc_varint_Put (VPut_ok hG v (by omega) hS ?_); clear hS; intro s1 w hS) | (refine pN_app hS (by first | rfl | omega | simpa only [go_sem] using True.intro | (simp only [go_sem]; omega)) (by first | rfl | omega | simpa only [go_sem] using True.intro | (simp only [go_sem]; omega)) (by first | omega | (simp only [go_sem]; omega)) ?_; clear hS; intro s w hS) | refine pN_v (hk := ?_) | fail)
  exact hQ _ _ hS.to

set_option maxHeartbeats 2000000 in
theorem lpieces_ok {l : List UInt8} {k : C.K} (hk : k.legal) (hS : Sat E w M) [hr : Rds cd_uint8 M s l] (hl : l.length ≤ 1099511627776)
    (hQ : ∀ s2 w, Sat E w (rows cd_string s2 (C.pieces k l) :: M) → Q (.slice s2.a (C.pieces k l).length s2.c) w) :
    Calls Tryz.prog 50 #[.slice s.a l.length s.c, .agg #[.int .i64 k.least, .int .i64 k.most, .int .i64 k.bits]] w (retP Q) := by
  refine pithlaw36_pieces.calls ?_
  unfold pithlaw36_pieces.F
  refine pN_bx (z := [.int .i64 k.least, .int .i64 k.most, .int .i64 k.bits]) hS rfl ?_
  clear hS
  intro kb w hS
  have hil := endsI_len k l
  have hpl := C.pieces_len k l
  have hget := fun {j e} => @endsI_get k l j e
  repeat' (first | (refine pc_cdc_Cut (Calls.up (Cut_ok (s := s) (l := l) hk hS hl ?_)); clear hS; intro se w hS) | refine pN_la hS (by rfl) ?_ | refine pN_v (hk := ?_) | fail)
  rw [← hil]
  generalize endsI k l = I at *
  skip
  refine ⟨fun v v' v'' w => ∃ (p : Nat) (pre : List (List UInt8)) (so : Sl), v = .slice so.a pre.length so.c ∧ v' = .int .i64 p ∧ v'' = .int .i64 pre.length ∧ p ≤ l.length ∧ C.pieces k l = pre ++ C.pieces k (l.drop p) ∧ pre.flatten.length = p ∧ Sat E w (rows cd_string so pre :: rows cd_int se I :: M), fun _ _ v _ => I.length - (RowKit.intOf v).toNat,
    ⟨0, [], ⟨none, 0⟩, rfl, rfl, rfl, by omega, by rw [List.drop_zero]; rfl, rfl, ?_⟩, ?_⟩
  · have h8 : Sat E w (rows cd_string ⟨none, 0⟩ [] :: _) := hS.nil cd_string.e cd_string.size
    exact h8.to
  clear hS
  rintro _ _ _ _ w ⟨p, pre, so, rfl, rfl, rfl, hp, hpc, hpf, hS⟩
  have hcl := congrArg List.length hpc
  rw [List.length_append] at hcl
  by_cases hlt : pre.length < I.length
  · have hne : l.drop p ≠ [] := fun h => by
      rw [h, C.pieces_nil, List.length_nil] at hcl
      omega
    rw [C.pieces_cons k hne] at hpc
    have hf1 := C.fst_pos k hne
    have hf2 := C.fst_le k (l.drop p)
    have hdl : (l.drop p).length = l.length - p := List.length_drop
    rw [hdl] at hf2
    have hdd : (l.drop p).drop (C.fst k (l.drop p)) = l.drop (p + C.fst k (l.drop p)) := by rw [List.drop_drop]
    rw [hdd] at hpc
    obtain ⟨q, hq⟩ : ∃ q, q = (l.drop p).take (C.fst k (l.drop p)) := ⟨_, rfl⟩
    rw [← hq] at hpc
    have htl : q.length = C.fst k (l.drop p) := by rw [hq, List.length_take, hdl]; omega
    rw [← htl] at hpc hq hf1 hf2
    clear htl
    have hend := hget (j := pre.length) (e := p + q.length) (by rw [hpc, C.ends_at, hpf, Nat.zero_add])
    have hsub : (l.drop p).take (p + q.length - p) = q := by rw [Nat.add_sub_cancel_left]; exact hq.symm
    have e1 : p + q.length - p = q.length := by omega
    repeat' (first | (refine pN_sl2 (C := cd_uint8) (s := s) (l := l) hS p (p + q.length) rfl (by first | rfl | omega) rfl (by omega) (by omega) ?_; intro s' hp'; rw [hsub] at hp'; rw [e1]) | ((first | refine pN_lss_s ?_ ?_ | refine pN_gtr_s ?_ ?_) <;> intro hc <;> try (exfalso; omega)) | refine pIf_t ?_ | refine pIf_f ?_ | refine pGd_go (by rfl) ?_ | refine pN_ld1 ha hS ?_ | refine pN_ixk hS _ (by first | rfl | (exact (Int.toNat_of_nonneg (by omega)).symm)) (by first | rfl | omega | simpa only [go_sem] using True.intro | (simp only [go_sem]; omega)) (by assumption) fun a ha hel => ?_ | refine pN_v (hk := ?_) | fail)
    haveI hrs : Rds cd_uint8 M s' q := hp'.rd _ inferInstance
    repeat' (first | (refine pN_b1 hS (by rfl) (by decide) ?_; clear hS; intro s w hS) | (refine pN_app hS (by first | rfl | omega | simpa only [go_sem] using True.intro | (simp only [go_sem]; omega)) (by first | rfl | omega | simpa only [go_sem] using True.intro | (simp only [go_sem]; omega)) (by first | omega | (simp only [go_sem]; omega)) ?_; clear hS; intro s w hS) | refine pN_st hS (by first | rfl | omega | simpa only [go_sem] using True.intro | (simp only [go_sem]; omega)) ?_ | refine pN_v (hk := ?_) | fail)
    refine ⟨⟨p + q.length, pre ++ [q], s, by first | rfl | rw [List.length_append], rfl, by first | rfl | (rw [List.length_append]; rfl), by omega, by rw [List.append_assoc]; exact hpc, by simp [hpf], hS.to⟩, ?_⟩
    simp [RowKit.intOf] <;> omega
  · have hnil : l.drop p = [] := by
      by_cases h : l.drop p = []
      · exact h
      · have := C.pieces_cons k h
        rw [this, List.length_cons] at hcl
        omega
    rw [hnil, C.pieces_nil, List.append_nil] at hpc
    rw [hpc] at hQ
    repeat' (first | (refine pN_lss_s ?_ ?_ <;> intro hc <;> try (exfalso; omega)) | refine pIf_f ?_ | fail)
    exact hQ _ _ hS.to

set_option maxHeartbeats 4000000 in
theorem lsorted_ok (hS : Sat E w M) [hr : Rds cd_api_Item M sl its] (hl : its.length ≤ 1099511627776)
    (hyes : S.twice (S.sort its) = false → ∀ s2 w, Sat E w (rows cd_api_Item s2 (S.sort its) :: M) → Q (.tuple #[.slice s2.a (S.sort its).length s2.c, .bool true]) w)
    (hno : S.twice (S.sort its) = true → ∀ w, Sat E w M → Q (.tuple #[.slice none 0 0, .bool false]) w) :
    Calls Tryz.prog 21 #[.slice sl.a its.length sl.c] w (retP Q) := by
  refine pithlaw36_sorted.calls ?_
  unfold pithlaw36_sorted.F
  repeat' (first | refine pN_v (hk := ?_) | fail)
  refine ⟨fun v v' w => ∃ (k : Nat) (C0 : List T_api_Item) (so : Sl), v = .slice so.a C0.length so.c ∧ v' = .int .i64 k ∧ k ≤ its.length ∧ C0.Perm (its.take k) ∧ S.Rise C0 ∧ Sat E w (rows cd_api_Item so C0 :: M), fun _ v _ => its.length - (RowKit.intOf v).toNat,
    ⟨0, [], ⟨none, 0⟩, rfl, rfl, by omega, by rw [List.take_zero], List.Pairwise.nil, hS.nil cd_api_Item.e cd_api_Item.size⟩, ?_⟩
  clear hS
  rintro _ _ _ w ⟨k, C0, so, rfl, rfl, hk, hp, hri, hS⟩
  have hCl := hp.length_eq
  rw [List.length_take] at hCl
  by_cases hlt : k < its.length
  · obtain ⟨x, hx⟩ : ∃ x, its[k]? = some x := ⟨its[k], by simp [hlt]⟩
    have hCk : C0.length = k := by omega
    repeat' (first | (refine pN_lss_s ?_ ?_ <;> intro hc <;> try (exfalso; omega)) | refine pIf_t ?_ | refine pN_ld_at ha hS (by rfl) ?_ | refine pN_la hS (by rfl) ?_ | (refine pN_sa hS (by rfl) (by rfl) (by rfl) ?_; clear hS; intro w hS; try dsimp only at hS) | (refine pN_nz hS ?_; clear hS; intro a w hS) | refine pN_ixk hS _ (by first | rfl | (exact (Int.toNat_of_nonneg (by omega)).symm)) (by first | rfl | omega | simpa only [go_sem] using True.intro | (simp only [go_sem]; omega)) (by assumption) fun a ha hel => ?_ | (refine pN_b1 hS (by rfl) (by decide) ?_; clear hS; intro s w hS) | (refine pN_app hS (by first | rfl | omega | simpa only [go_sem] using True.intro | (simp only [go_sem]; omega)) (by first | rfl | omega | simpa only [go_sem] using True.intro | (simp only [go_sem]; omega)) (by first | omega | (simp only [go_sem]; omega)) ?_; clear hS; intro s w hS) | refine pN_v (hk := ?_) | fail)
    refine ⟨fun v w => ∃ P R : List T_api_Item, v = .int .i64 P.length ∧ P ++ R = C0 ∧ (∀ r ∈ R, S.before x r = true) ∧ Sat E w (rows cd_api_Item s (P ++ x :: R) :: M), fun v _ => (RowKit.intOf v).toNat,
      ⟨C0, [], by congr 1; omega, by rw [List.append_nil], fun r h => (by cases h), hS.to⟩, ?_⟩
    clear hS
    rintro _ _ w ⟨P, R, rfl, hPR, hrx, hS⟩
    have hPl := congrArg List.length hPR
    rw [List.length_append] at hPl
    have hfin : (∀ p, P.getLast? = some p → S.before p x = true) → (P ++ x :: R).Perm (its.take (k + 1)) ∧ S.Rise (P ++ x :: R) := fun h => by
      refine ⟨?_, rise_ins (by rw [hPR]; exact hri) hrx h⟩
      rw [List.take_add_one, hx]
      refine List.perm_middle.trans ?_
      rw [hPR]
      exact (hp.cons x).trans (List.perm_append_singleton x _).symm
    have hDl : (P ++ x :: R).length = (C0 ++ [x]).length := by simp only [List.length_append, List.length_cons, List.length_nil]; omega
    by_cases hP : P = []
    · subst hP
      obtain ⟨f1, f2⟩ := hfin (fun p h => by cases h)
      rw [← hDl]
      have hj0 : ((([] : List T_api_Item).length : Nat) : Int) = 0 := rfl
      rw [hj0]
      repeat' (first | (refine pA_gtr_s ?_ ?_ <;> intro hc <;> try (exfalso; omega)) | refine pIf_f ?_ | refine gA_no (by rfl) ?_ | (refine pDr_go hS ?_; clear hS; intro w hS) | refine pN_v (hk := ?_) | refine pA_v (hk := ?_) | fail)
      exact ⟨⟨k + 1, _, s, rfl, rfl, by omega, f1, f2, hS⟩, by simp [RowKit.intOf] <;> omega⟩
    · obtain ⟨P0, y, rfl⟩ := U.last_cut hP
      obtain ⟨q, hq⟩ : ∃ q, q = P0.length := ⟨_, rfl⟩
      have hj1 : (((P0 ++ [y]).length : Nat) : Int) = ((q + 1 : Nat) : Int) := by rw [List.length_append, List.length_singleton]; omega
      rw [hj1]
      have hD : (P0 ++ [y]) ++ x :: R = P0 ++ y :: (x :: R) := by simp
      rw [← hDl]
      rw [hD] at hS ⊢
      have g0 := U.get_mid P0 (x :: R) y
      have g1 := U.get_nb P0 R y x
      have hsw := U.swap_nb P0 R y x
      rw [← hq] at g0 g1 hsw
      have hlen : (P0 ++ y :: (x :: R)).length = C0.length + 1 := by rw [← hPR]; simp only [List.length_append, List.length_cons, List.length_nil]; omega
      have hqR : q + 1 + R.length = C0.length := by rw [← hPR]; simp only [List.length_append, List.length_cons, List.length_nil]; omega
      have hym : y ∈ C0 := by rw [← hPR]; simp
      obtain ⟨D, hDD⟩ : ∃ D, D = P0 ++ y :: (x :: R) := ⟨_, rfl⟩
      rw [← hDD] at hS g0 g1 hsw hlen hD ⊢
      obtain ⟨z, h4⟩ : ∃ z, (D.set (q + 1) y)[q]? = some z := ⟨(D.set (q + 1) y)[q]'(by rw [List.length_set]; omega), List.getElem?_eq_getElem _⟩
      by_cases hxy : x.Name = y.Name
      · have hle : (Op.bytesLess x.Name y.Name || x.Name == y.Name) = true := by rw [hxy]; simp
        repeat' (first | refine pA_ixk hS (q + 1) (by omega) (by omega) g1 fun ad ha hel => ?_ | refine pA_ixk hS q (by omega) (by omega) g0 fun ad ha hel => ?_ | (rw [pA_leq_l, hle]) | (refine pA_gtr_s ?_ ?_ <;> intro hc <;> try (exfalso; omega)) | (refine pA_eql_ss ?_ ?_ <;> intro hc <;> try (exfalso; first | omega | exact hc rfl | exact hc (by assumption) | exact absurd hc (by assumption))) | refine pIf_t ?_ | refine gA_go (by rfl) ?_ | refine pL_ld1 ha hS ?_ | refine pA_fa ha (by rfl) fun a ha => ?_ | (refine pDr_go hS ?_; clear hS; intro w hS) | refine pA_v (hk := ?_) | fail)
        exact hno (same_twice hx hp hym hxy) _ hS.to
      · cases hb : Op.bytesLess x.Name y.Name with
        | true =>
          have hle : (Op.bytesLess x.Name y.Name || x.Name == y.Name) = true := by rw [hb]; rfl
          repeat' (first | refine pA_ixk hS q (by omega) (by first | omega | rw [List.length_set]) h4 fun ad ha hel => ?_ | refine pA_ixk hS (q + 1) (by omega) (by omega) g1 fun ad ha hel => ?_ | refine pA_ixk hS q (by omega) (by omega) g0 fun ad ha hel => ?_ | (rw [pA_leq_l, hle]) | (refine pN_srn (x := y) hel hS (by rfl) (by rfl) (by omega) ?_; clear hS; intro w hS) | (refine pN_srn (x := x) hel hS (by rfl) (by rfl) (by rw [List.length_set]; omega) ?_; clear hS; intro w hS) | (refine pA_gtr_s ?_ ?_ <;> intro hc <;> try (exfalso; omega)) | (refine pA_eql_ss ?_ ?_ <;> intro hc <;> try (exfalso; first | omega | exact hc rfl | exact hc (by assumption) | exact absurd hc (by assumption))) | refine pIf_t ?_ | refine pIf_f ?_ | refine gA_go (by rfl) ?_ | refine pL_ld1 ha hS ?_ | refine pL_ld_at ha hS (by rfl) ?_ | refine pA_fa ha (by rfl) fun a ha => ?_ | (refine pDr_go hS ?_; clear hS; intro w hS) | refine ⟨trivial, ?_⟩ | refine pN_v (hk := ?_) | refine pA_v (hk := ?_) | fail)
          rw [hsw] at hS
          refine ⟨⟨P0, y :: R, by rw [← hq]; congr 1; omega, by rw [← hPR]; simp, fun r hr' => ?_, hS⟩, by simp [RowKit.intOf] <;> omega⟩
          rcases List.mem_cons.1 hr' with rfl | hr'
          · exact hb
          · exact hrx r hr'
        | false =>
          have hle : (Op.bytesLess x.Name y.Name || x.Name == y.Name) = false := by
            rw [hb, Bool.false_or]
            exact beq_eq_false_iff_ne.2 hxy
          have hyx : S.before y x = true := by
            cases h5 : Op.bytesLess y.Name x.Name with
            | true => exact h5
            | false => exact absurd (S.less_tri _ _ hb h5) hxy
          obtain ⟨f1, f2⟩ := hfin (fun p hp => by
            rw [List.getLast?_concat, Option.some.injEq] at hp
            subst hp
            exact hyx)
          rw [hD] at f1 f2
          repeat' (first | refine pA_ixk hS (q + 1) (by omega) (by omega) g1 fun ad ha hel => ?_ | refine pA_ixk hS q (by omega) (by omega) g0 fun ad ha hel => ?_ | (rw [pA_leq_l, hle]) | (refine pA_gtr_s ?_ ?_ <;> intro hc <;> try (exfalso; omega)) | refine pIf_f ?_ | refine gA_go (by rfl) ?_ | refine pL_ld1 ha hS ?_ | refine pA_fa ha (by rfl) fun a ha => ?_ | (refine pDr_go hS ?_; clear hS; intro w hS) | refine pN_v (hk := ?_) | refine pA_v (hk := ?_) | fail)
          exact ⟨⟨k + 1, _, s, rfl, rfl, by omega, f1, f2, hS⟩, by simp [RowKit.intOf] <;> omega⟩
  · obtain rfl : k = its.length := by omega
    rw [List.take_length] at hp
    obtain ⟨rfl, ht⟩ := rise_sort hp hri
    repeat' (first | (refine pN_lss_s ?_ ?_ <;> intro hc <;> try (exfalso; omega)) | refine pIf_f ?_ | fail)
    exact hyes ht _ _ hS
end
end Go.Proofs.YtikmogfhhggafaaGreatDoor

namespace Go.Proofs.YtikmogfhhggafaaGreatDoor
open Go
namespace S
def rightI (its : List It) : Int := if werr its ≠ 0 then werr its else if twice (sort its) = true then 9 else 0
def same (x y : It) : Bool := decide (x.Name = y.Name ∧ x.Link = y.Link ∧ x.Kind = y.Kind ∧ x.Mode = y.Mode ∧ x.Time = y.Time ∧ x.Data.2 = y.Data.2)
end S
attribute [local irreducible] oMv oV oU oCall oCallV oBi oBin oUn oLoad oStore oNil oFld oField oIdx oIndex oPick oAlloc oBox oBuild oBs oConv oMk oSl oExt oFn oIface oMap oLook oMapUp oRange oNext oEntry oInv oAssert oPanic oRes pN pA pL pDr pIf gA pGd Calls H.sum C.put
section
variable [Pan] {E w W : World} {K Q : Value → World → Prop} {LL M N N' : List HA} {c : T_api_Config} {db : Nat} {d : D.T} {its : List T_api_Item} {s sl : Sl}

theorem lright_ok (hS : Sat E w M) [hr : Rds cd_api_Item M sl its] (hd : ∀ x ∈ its, Rds cd_uint8 M x.Data.1 x.Data.2) (hb : ∀ x ∈ its, x.Name.length ≤ 1099511627776 ∧ x.Link.length ≤ 1099511627776) (hl : its.length ≤ 1099511627776)
    (hQ : ∀ w, Sat E w M → Q (.int .i64 (S.rightI its)) w) :
    Calls Tryz.prog 9 #[.slice sl.a its.length sl.c] w (retP Q) := by
  refine pithlaw36_right.calls ?_
  unfold pithlaw36_right.F
  repeat' (first | refine pN_v (hk := ?_) | fail)
  refine ⟨fun v w => ∃ k : Nat, v = .int .i64 k ∧ k ≤ its.length ∧ (∀ x ∈ its.take k, A.wrong x = 0) ∧ Sat E w M, fun v _ => its.length - (RowKit.intOf v).toNat, ⟨0, rfl, by omega, fun x hx => by simp at hx, hS⟩, ?_⟩
  clear hS
  rintro _ _ w ⟨k, rfl, hkl, hw, hS⟩
  by_cases hlt : k < its.length
  · obtain ⟨x, hx⟩ : ∃ x, its[k]? = some x := ⟨its[k], by simp [hlt]⟩
    have hm : x ∈ its := List.mem_of_getElem? hx
    haveI := hd x hm
    obtain ⟨b1, b2⟩ := hb x hm
    repeat' (first | (refine pN_lss_s ?_ ?_ <;> intro hc <;> try (exfalso; omega)) | refine pIf_t ?_ | refine pN_ld_at ha hS (by rfl) ?_ | refine pN_la hS (by rfl) ?_ | (refine pN_sa hS (by rfl) (by rfl) (by rfl) ?_; clear hS; intro w hS; try dsimp only at hS) | (refine pN_nz hS ?_; clear hS; intro a w hS) | refine pN_ixk hS _ (by first | rfl | (exact (Int.toNat_of_nonneg (by omega)).symm)) (by first | rfl | omega | simpa only [go_sem] using True.intro | (simp only [go_sem]; omega)) (by assumption) fun a ha hel => ?_ | fail)
    refine pc_tar_Put (Put_ok x (by omega) (by omega) hS (fun h0 w hS => ?_) fun h0 s1 w hS => ?_)
    · rw [S.rightI, S.werr_at hx hw h0, if_pos h0] at hQ
      generalize A.wrong x = e at *
      repeat' (first | (refine pc_pithlaw36_num (Lnum_ok _ ?_)) | (refine pN_neq_s ?_ ?_ <;> intro hc <;> try (exfalso; first | omega | exact hc rfl | exact hc (by assumption) | exact absurd hc (by assumption))) | refine pIf_t ?_ | refine pN_v (hk := ?_) | fail)
      exact hQ _ hS.to
    · repeat' (first | (refine pc_pithlaw36_num (Lnum_ok _ ?_)) | (refine pN_neq_s ?_ ?_ <;> intro hc <;> try (exfalso; first | omega | exact hc rfl | exact hc (by assumption) | exact absurd hc (by assumption))) | refine pIf_f ?_ | refine pN_v (hk := ?_) | fail)
      refine ⟨⟨k + 1, rfl, by omega, fun y hy => ?_, hS.to⟩, by simp [RowKit.intOf] <;> omega⟩
      rw [List.take_add_one, hx] at hy
      rcases List.mem_append.1 hy with hy | hy
      · exact hw y hy
      · obtain rfl : y = x := by simpa using hy
        exact h0
  · obtain rfl : k = its.length := by omega
    rw [List.take_length] at hw
    rw [S.rightI, S.werr_0 hw, if_neg (fun h => h rfl)] at hQ
    repeat' (first | (refine pN_lss_s ?_ ?_ <;> intro hc <;> try (exfalso; omega)) | refine pIf_f ?_ | fail)
    refine pc_pithlaw36_sorted (lsorted_ok hS hl (fun ht s2 w hS => ?_) fun ht w hS => ?_)
    · rw [ht, if_neg (by decide)] at hQ
      repeat' (first | refine pIf_f ?_ | refine pN_v (hk := ?_) | fail)
      exact hQ _ hS.to
    · rw [ht, if_pos rfl] at hQ
      repeat' (first | refine pIf_t ?_ | refine pN_v (hk := ?_) | fail)
      exact hQ _ hS

theorem lsame_ok (x y : T_api_Item) (hS : Sat E w M) [hx : Rds cd_uint8 M x.Data.1 x.Data.2] [hy : Rds cd_uint8 M y.Data.1 y.Data.2] (hQ : ∀ w, Sat E w M → Q (.bool (S.same x y)) w) :
    Calls Tryz.prog 15 #[.agg x.enc.toArray, .agg y.enc.toArray] w (retP Q) := by
  refine pithlaw36_same.calls ?_
  unfold pithlaw36_same.F
  have hal : S.same x y = decide (x.Name = y.Name ∧ x.Link = y.Link ∧ x.Kind = y.Kind ∧ x.Mode = y.Mode ∧ x.Time = y.Time ∧ x.Data.2 = y.Data.2) := rfl
  rw [hal] at hQ
  clear hal
  refine pN_bx (z := x.enc) hS rfl ?_
  clear hS
  intro x2 w hS
  refine pN_bx (z := y.enc) hS rfl ?_
  clear hS
  intro x3 w hS
  repeat' (first | ((first | refine pN_eql_s ?_ ?_ | refine pN_eql_ss ?_ ?_) <;> intro hc <;> try (exfalso; first | omega | exact hc rfl | exact hc (by assumption) | exact absurd hc (by assumption))) | refine pGd_go (by rfl) ?_ | refine pGd_no (by rfl) ?_ | refine pN_l hS (by first | rfl | assumption) ?_ | refine pN_st hS (by first | rfl | omega | simpa only [go_sem] using True.intro | (simp only [go_sem]; omega)) ?_ | refine pN_v (hk := ?_) | fail)
  all_goals
    have hS1 : Sat E w M := hS.to
    have h1 := hQ _ hS1
    clear hQ hS hS1 hx hy
    simpa [*] using h1
end
end Go.Proofs.YtikmogfhhggafaaGreatDoor

namespace Go.Proofs.YtikmogfhhggafaaGreatDoor
open Go
namespace S
def full (e : L.En) (s : Sl) (b : D.B) : It := ⟨e.name, e.link, e.kind, e.mode, e.time, (s, b)⟩
def plainI (x : It) : It := ⟨x.Name, x.Link, x.Kind, x.Mode, x.Time, (⟨none, 0⟩, x.Data.2)⟩
def fulls (dat : L.En → D.B) (es : List L.En) : List It := es.map fun e => full e ⟨none, 0⟩ (dat e)
end S
def itR (its : List T_api_Item) : List HA := its.map fun x => rows cd_uint8 x.Data.1 x.Data.2
theorem itR_snoc {E w : World} {M : List HA} {its : List T_api_Item} (x : T_api_Item) (hS : Sat E w (rows cd_uint8 x.Data.1 x.Data.2 :: bag (itR its) :: M)) : Sat E w (bag (itR (its ++ [x])) :: M) := by
  have h1 := (hS.perm (List.Perm.swap _ _ _)).openBag
  have e : itR its ++ (rows cd_uint8 x.Data.1 x.Data.2 :: M) = itR (its ++ [x]) ++ M := by simp [itR]
  rw [e] at h1
  exact h1.shutBag
theorem itR_rd {its : List T_api_Item} {x : T_api_Item} (h : x ∈ its) : RdP cd_uint8 (bag (itR its)) x.Data.1 x.Data.2 := ⟨fun w ⟨h1, hN, hh⟩ => by
  obtain ⟨h2, hA, hs⟩ := Sats.mem (List.mem_map.2 ⟨x, h, rfl⟩ : rows cd_uint8 x.Data.1 x.Data.2 ∈ itR its) hN
  exact RdA.own w ⟨h2, hA, fun b o e => hh b o (hs b o e)⟩⟩
attribute [local irreducible] oMv oV oU oCall oCallV oBi oBin oUn oLoad oStore oNil oFld oField oIdx oIndex oPick oAlloc oBox oBuild oBs oConv oMk oSl oExt oFn oIface oMap oLook oMapUp oRange oNext oEntry oInv oAssert oPanic oRes pN pA pL pDr pIf gA pGd Calls
section
variable [Pan] {E w W : World} {K Q : Value → World → Prop} {LL M N N' : List HA} {c : T_api_Config} {db : Nat} {d : D.T}

theorem item_ok (p : EE) (hp : p.1 = S.bare (enOf p)) (hS : Sat E w LL) [hf : Fnd (Dep c db) LL d N] [hr : Rds (cdI 58) N p.2.1 p.2.2] (hl : p.2.2.length ≤ 1099511627776) {bs : D.B} (hk : p.1.Kind = 0 → d.get p.2.2 = some bs) (hkn : p.1.Kind ≠ 0 → bs = []) (hb : bs.length ≤ 140737488355328)
    (hQ : ∀ s w, Sat E w (rows cd_uint8 s bs :: Dep c db d :: N) → Q (.tuple #[.agg (S.full (enOf p) s bs).enc.toArray, .int .i64 0]) w) :
    Calls Tryz.prog 71 #[.pointer (some ⟨db, 0, none⟩), .agg (cdE.enc p).toArray] w (retP Q) := by
  refine snap_item.calls ?_
  unfold snap_item.F
  obtain ⟨x, sx, li⟩ := p
  dsimp only at hk hkn hr hl
  have hp : x = ⟨x.Name, x.Link, x.Kind, x.Mode, x.Time, (⟨none, 0⟩, [])⟩ := hp
  obtain ⟨nm, lk, kd, md, tm, dt⟩ := x
  obtain rfl : dt = (⟨none, 0⟩, []) := by injection hp
  dsimp only at hk hkn
  have hS1 := hS.fd (Dep c db)
  clear hS hf hp
  have hS := hS1
  clear hS1
  refine pN_bx (z := cdE.enc ((⟨nm, lk, kd, md, tm, (⟨none, 0⟩, [])⟩ : T_api_Item), (sx, li))) hS rfl ?_
  clear hS
  intro eb w hS
  repeat' (first | (refine pN_nz hS ?_; clear hS; intro a w hS) | refine pN_v (hk := ?_) | fail)
  revert a
  intro x4 hS
  refine pN_la_at (n := 6) hS [.string ⟨nm.toArray⟩, .string ⟨lk.toArray⟩, .int .i64 kd, .int .i64 md, .int .i64 tm, .slice none 0 0] rfl rfl ?_
  by_cases k0 : kd = 0
  · repeat' (first | (refine pc_depot_Depot_Get (DGet_ok (c := c) (s := sx) (li := li) hS hl (fun j q hq => by have := D.get_pre (hk k0) hq; omega) (fun hno => by rw [hk k0] at hno; cases hno) ?_)) | (refine pN_neq_s ?_ ?_ <;> intro hc <;> try (exfalso; first | omega | exact hc rfl | exact hc (by assumption) | exact absurd hc (by assumption))) | refine pIf_f ?_ | refine pN_l hS (by first | rfl | assumption) ?_ | (refine pN_sa hS (by rfl) (by rfl) (by rfl) ?_; clear hS; intro w hS; try dsimp only at hS) | (refine pN_nz hS ?_; clear hS; intro a w hS) | refine pN_v (hk := ?_) | fail)
    intro q hq
    rw [hk k0] at hq
    cases hq
    clear hS
    intro sb w hS
    repeat' (first | (refine pN_neq_s ?_ ?_ <;> intro hc <;> try (exfalso; first | omega | exact hc rfl | exact hc (by assumption) | exact absurd hc (by assumption))) | refine pIf_f ?_ | refine pN_la hS (by rfl) ?_ | refine pL_ra hS (by rfl) ?_ | (refine pN_s hS (by first | exact Nat.le_of_ble_eq_true rfl | assumption) (by rfl) ?_; clear hS; intro w hS; try simp only [List.set_cons_zero, List.set_cons_succ] at hS) | (refine pN_sa hS (by rfl) (by rfl) (by rfl) ?_; clear hS; intro w hS; try dsimp only at hS) | refine pN_v (hk := ?_) | fail)
    exact hQ sb _ hS.to
  · have hbs := hkn k0
    subst hbs
    repeat' (first | (refine pN_neq_s ?_ ?_ <;> intro hc <;> try (exfalso; first | omega | exact hc rfl | exact hc (by assumption) | exact absurd hc (by assumption))) | refine pIf_t ?_ | refine pN_l hS (by first | rfl | assumption) ?_ | refine pN_la hS (by rfl) ?_ | refine pL_ra hS (by rfl) ?_ | (refine pN_sa hS (by rfl) (by rfl) (by rfl) ?_; clear hS; intro w hS; try dsimp only at hS) | (refine pN_nz hS ?_; clear hS; intro a w hS) | refine pN_v (hk := ?_) | fail)
    have h8 : Sat E w (rows cd_uint8 ⟨none, 0⟩ [] :: _) := hS.nil cd_uint8.e cd_uint8.size
    exact hQ ⟨none, 0⟩ _ h8.to

set_option maxHeartbeats 2000000 in
theorem Items_ok (hS : Sat E w LL) [hf : Fnd (Dep c db) LL d N] (n : NKey) {es : List L.En} {root : List I32} (ht : S.Tells d n.1 es root) (hrl : root.length ≤ 1099511627776) (hbl : ∀ q, d.get root = some q → q.length ≤ 1099511627776) (hel : es.length ≤ 1099511627776)
    (dat : L.En → D.B) (hd : ∀ e ∈ es, e.sums.length ≤ 1099511627776 ∧ (e.kind = 0 → d.get e.sums = some (dat e)) ∧ (e.kind ≠ 0 → dat e = []) ∧ (dat e).length ≤ 140737488355328)
    (hQ : ∀ (outs : List T_api_Item) so w, outs.map S.plainI = S.fulls dat es → Sat E w (rows cd_api_Item so outs :: bag (itR outs) :: Dep c db d :: N) → Q (.tuple #[.slice so.a outs.length so.c, .int .i64 0]) w) :
    Calls Tryz.prog 24 #[.pointer (some ⟨db, 0, none⟩), nke n] w (retP Q) := by
  refine snap_Items.calls ?_
  unfold snap_Items.F
  refine pc_snap_listed (slisted_ok (c := c) hS n ht hrl hbl ?_)
  clear hS
  intro ee se sr w hee hba hS
  have hell : ee.length = es.length := by rw [← hee, List.length_map]
  repeat' (first | (refine pN_neq_s ?_ ?_ <;> intro hc <;> try (exfalso; first | omega | exact hc rfl | exact hc (by assumption) | exact absurd hc (by assumption))) | refine pIf_f ?_ | refine pN_v (hk := ?_) | fail)
  refine ⟨fun v v' w => ∃ (j : Nat) (outs : List T_api_Item) (so : Sl), v = .slice so.a outs.length so.c ∧ v' = .int .i64 j ∧ j ≤ ee.length ∧ outs.length = j ∧ outs.map S.plainI = S.fulls dat (es.take j) ∧
    Sat E w (rows cd_api_Item so outs :: bag (itR outs) :: Dep c db d :: rows cdE se ee :: bag (eeR ee) :: N), fun _ v _ => ee.length - (RowKit.intOf v).toNat,
    ⟨0, [], ⟨none, 0⟩, rfl, rfl, by omega, rfl, rfl, ?_⟩, ?_⟩
  · have h8 : Sat E w (rows cd_api_Item ⟨none, 0⟩ [] :: _) := hS.nil cd_api_Item.e cd_api_Item.size
    have h9 : Sat E w (bag (itR []) :: rows cd_api_Item ⟨none, 0⟩ [] :: _) := h8.bag_nil
    exact h9.to
  clear hS
  rintro _ _ _ w ⟨j, outs, so, rfl, rfl, hj, hol, hpl, hS⟩
  by_cases hlt : j < ee.length
  · obtain ⟨p, hp⟩ : ∃ p, ee[j]? = some p := ⟨ee[j], by simp [hlt]⟩
    have hm := List.mem_of_getElem? hp
    have hes : es[j]? = some (enOf p) := by rw [← hee, List.getElem?_map, hp]; rfl
    obtain ⟨d1, d2, d3, d4⟩ := hd (enOf p) (List.mem_of_getElem? hes)
    have hb := hba p hm
    haveI : RdP (cdI 58) (bag (eeR ee)) p.2.1 p.2.2 := eeR_rd hm
    have hnx : S.fulls dat (es.take (j + 1)) = S.fulls dat (es.take j) ++ [S.full (enOf p) ⟨none, 0⟩ (dat (enOf p))] := by
      unfold S.fulls
      rw [List.take_add_one, hes, List.map_append]; rfl
    repeat' (first | (refine pc_snap_item (item_ok (c := c) (d := d) p hb hS d1 (bs := dat (enOf p)) d2 d3 d4 ?_); clear hS; intro si w hS) | (refine pN_lss_s ?_ ?_ <;> intro hc <;> try (exfalso; omega)) | (refine pN_neq_s ?_ ?_ <;> intro hc <;> try (exfalso; first | omega | exact hc rfl | exact hc (by assumption) | exact absurd hc (by assumption))) | refine pIf_t ?_ | refine pIf_f ?_ | refine pN_ld_at ha hS (by rfl) ?_ | refine pN_la hS (by rfl) ?_ | (refine pN_sa hS (by rfl) (by rfl) (by rfl) ?_; clear hS; intro w hS; try dsimp only at hS) | (refine pN_nz hS ?_; clear hS; intro a w hS) | refine pN_ixk hS _ (by first | rfl | (exact (Int.toNat_of_nonneg (by omega)).symm)) (by first | rfl | omega | simpa only [go_sem] using True.intro | (simp only [go_sem]; omega)) (by assumption) fun a ha hel => ?_ | (refine pN_b1 hS (by rfl) (by decide) ?_; clear hS; intro s w hS) | (refine pN_app hS (by first | rfl | omega | simpa only [go_sem] using True.intro | (simp only [go_sem]; omega)) (by first | rfl | omega | simpa only [go_sem] using True.intro | (simp only [go_sem]; omega)) (by first | omega | (simp only [go_sem]; omega)) ?_; clear hS; intro s w hS) | refine pN_v (hk := ?_) | fail)
    have hS : Sat E w (rows cd_uint8 (S.full (enOf p) si (dat (enOf p))).Data.1 (S.full (enOf p) si (dat (enOf p))).Data.2 :: bag (itR outs) :: rows cd_api_Item s (outs ++ [S.full (enOf p) si (dat (enOf p))]) :: Dep c db d :: rows cdE se ee :: bag (eeR ee) :: N) := by
      have h7 : Sat E w (rows cd_uint8 si (dat (enOf p)) :: bag (itR outs) :: rows cd_api_Item s (outs ++ [S.full (enOf p) si (dat (enOf p))]) :: Dep c db d :: rows cdE se ee :: bag (eeR ee) :: N) := hS.to
      exact h7
    have hS := itR_snoc _ hS
    refine ⟨⟨j + 1, _, s, rfl, rfl, by omega, by rw [List.length_append, hol]; rfl, ?_, hS.to⟩, by simp [RowKit.intOf] <;> omega⟩
    rw [List.map_append, hpl, hnx]
    rfl
  · obtain rfl : j = ee.length := by omega
    rw [hell, List.take_length] at hpl
    repeat' (first | (refine pN_lss_s ?_ ?_ <;> intro hc <;> try (exfalso; omega)) | refine pIf_f ?_ | fail)
    exact hQ outs so _ hpl hS.to
end
end Go.Proofs.YtikmogfhhggafaaGreatDoor

namespace Go.Proofs.YtikmogfhhggafaaGreatDoor
open Go
noncomputable instance decIt : DecidableEq T_api_Item := fun _ _ => Classical.propDecidable _
namespace S
theorem same_plain (x y : It) : same x y = decide (plainI x = plainI y) := by
  unfold same plainI
  refine decide_eq_decide.2 ?_
  simp only [T_api_Item.mk.injEq, Prod.mk.injEq, true_and]
end S
attribute [local irreducible] oMv oV oU oCall oCallV oBi oBin oUn oLoad oStore oNil oFld oField oIdx oIndex oPick oAlloc oBox oBuild oBs oConv oMk oSl oExt oFn oIface oMap oLook oMapUp oRange oNext oEntry oInv oAssert oPanic oRes pN pA pL pDr pIf gA pGd Calls S.same
section
variable [Pan] {E w W : World} {K Q : Value → World → Prop} {LL M N N' : List HA} {la lb : List T_api_Item} {sa sb : Sl}

theorem lsameAll_ok (hS : Sat E w M) [ha : Rds cd_api_Item M sa la] [hb : Rds cd_api_Item M sb lb] (hda : ∀ x ∈ la, Rds cd_uint8 M x.Data.1 x.Data.2) (hdb : ∀ x ∈ lb, Rds cd_uint8 M x.Data.1 x.Data.2) (hla : la.length ≤ 1099511627776)
    (hQ : ∀ w, Sat E w M → Q (.bool (decide (la.map S.plainI = lb.map S.plainI))) w) :
    Calls Tryz.prog 27 #[.slice sa.a la.length sa.c, .slice sb.a lb.length sb.c] w (retP Q) := by
  refine pithlaw36_sameAll.calls ?_
  unfold pithlaw36_sameAll.F
  by_cases hl : la.length = lb.length
  · repeat' (first | (refine pN_neq_s ?_ ?_ <;> intro hc <;> try (exfalso; first | omega | exact hc rfl | exact hc (by assumption) | exact absurd hc (by assumption))) | refine pIf_f ?_ | refine pN_v (hk := ?_) | fail)
    refine ⟨fun v w => ∃ j : Nat, v = .int .i64 j ∧ j ≤ la.length ∧ (la.map S.plainI).take j = (lb.map S.plainI).take j ∧ Sat E w M, fun v _ => la.length - (RowKit.intOf v).toNat, ⟨0, rfl, by omega, by rw [List.take_zero, List.take_zero], hS⟩, ?_⟩
    clear hS
    rintro _ _ w ⟨j, rfl, hj, he, hS⟩
    by_cases hlt : j < la.length
    · obtain ⟨x, hx⟩ : ∃ x, la[j]? = some x := ⟨la[j], by simp [hlt]⟩
      obtain ⟨y, hy⟩ : ∃ y, lb[j]? = some y := ⟨lb[j], by simp [show j < lb.length by omega]⟩
      haveI := hda x (List.mem_of_getElem? hx)
      haveI := hdb y (List.mem_of_getElem? hy)
      have hnx : (la.map S.plainI).take (j + 1) = (la.map S.plainI).take j ++ [S.plainI x] := by rw [List.take_add_one, List.getElem?_map, hx]; rfl
      have hny : (lb.map S.plainI).take (j + 1) = (lb.map S.plainI).take j ++ [S.plainI y] := by rw [List.take_add_one, List.getElem?_map, hy]; rfl
      have hsp := S.same_plain x y
      cases hxy : S.same x y with
      | true =>
        rw [hxy] at hsp
        have hp := of_decide_eq_true hsp.symm
        repeat' (first | (refine pc_pithlaw36_same (lsame_ok x y hS ?_); rw [hxy]; clear hS; intro w hS) | (refine pN_lss_s ?_ ?_ <;> intro hc <;> try (exfalso; omega)) | refine pIf_t ?_ | refine pIf_f ?_ | refine pL_ld_at ha hS (by rfl) ?_ | (refine pDr_go hS ?_; clear hS; intro w hS) | refine ⟨trivial, ?_⟩ | refine pA_ixk hS _ (by first | rfl | (exact (Int.toNat_of_nonneg (by omega)).symm)) (by first | rfl | omega | simpa only [go_sem] using True.intro | (simp only [go_sem]; omega)) (by assumption) fun a ha hel => ?_ | refine pN_v (hk := ?_) | refine pA_v (hk := ?_) | fail)
        exact ⟨⟨j + 1, rfl, by omega, by rw [hnx, hny, he, hp], hS⟩, by simp [RowKit.intOf] <;> omega⟩
      | false =>
        rw [hxy] at hsp
        have hp := of_decide_eq_false hsp.symm
        have hne : la.map S.plainI ≠ lb.map S.plainI := fun e => by
          have h1 := congrArg (·[j]?) e
          simp only [List.getElem?_map, hx, hy, Option.map_some, Option.some.injEq] at h1
          exact hp h1
        rw [decide_eq_false hne] at hQ
        repeat' (first | (refine pc_pithlaw36_same (lsame_ok x y hS ?_); rw [hxy]; clear hS; intro w hS) | (refine pN_lss_s ?_ ?_ <;> intro hc <;> try (exfalso; omega)) | refine pIf_t ?_ | refine pL_ld_at ha hS (by rfl) ?_ | (refine pDr_go hS ?_; clear hS; intro w hS) | refine ⟨trivial, ?_⟩ | refine pA_ixk hS _ (by first | rfl | (exact (Int.toNat_of_nonneg (by omega)).symm)) (by first | rfl | omega | simpa only [go_sem] using True.intro | (simp only [go_sem]; omega)) (by assumption) fun a ha hel => ?_ | refine pA_v (hk := ?_) | fail)
        exact hQ _ hS
    · obtain rfl : j = la.length := by omega
      have e1 : (la.map S.plainI).take la.length = la.map S.plainI := List.take_of_length_le (by rw [List.length_map]; exact Nat.le_refl _)
      have e2 : (lb.map S.plainI).take la.length = lb.map S.plainI := List.take_of_length_le (by rw [List.length_map]; omega)
      rw [e1, e2] at he
      rw [decide_eq_true he] at hQ
      repeat' (first | (refine pN_lss_s ?_ ?_ <;> intro hc <;> try (exfalso; omega)) | refine pIf_f ?_ | fail)
      exact hQ _ hS
  · have hne : la.map S.plainI ≠ lb.map S.plainI := fun e => hl (by have := congrArg List.length e; rwa [List.length_map, List.length_map] at this)
    rw [decide_eq_false hne] at hQ
    repeat' (first | (refine pN_neq_s ?_ ?_ <;> intro hc <;> try (exfalso; first | omega | exact hc rfl | exact hc (by assumption) | exact absurd hc (by assumption))) | refine pIf_t ?_ | refine pN_v (hk := ?_) | fail)
    exact hQ _ hS
end
end Go.Proofs.YtikmogfhhggafaaGreatDoor

namespace Go.Proofs.YtikmogfhhggafaaGreatDoor
open Go
namespace S
def uC : T_api_Config := ⟨1, 0, ⟨0, 0, 0⟩, 4096, 65536, 0⟩
def uK : C.K := ⟨64, 64, 0⟩
theorem uC_ok : D.okC uC := by unfold D.okC D.okP uC; decide
theorem uK_ok : uK.legal := by unfold C.K.legal uK; decide
end S
attribute [local irreducible] oMv oV oU oCall oCallV oBi oBin oUn oLoad oStore oNil oFld oField oIdx oIndex oPick oAlloc oBox oBuild oBs oConv oMk oSl oExt oFn oIface oMap oLook oMapUp oRange oNext oEntry oInv oAssert oPanic oRes pN pA pL pDr pIf gA pGd Calls
section
variable [Pan] {E w W : World} {K Q : Value → World → Prop} {LL M N N' : List HA}
theorem lusual_ok (hS : Sat E w M) (hQ : ∀ b w, Sat E w (Dep S.uC b (D.new S.uK) :: M) → Q (.pointer (some ⟨b, 0, none⟩)) w) : Calls Tryz.prog 53 #[] w (retP Q) := by
  refine pithlaw36_usual.calls ?_
  unfold pithlaw36_usual.F
  repeat' (first | (refine pc_pithlaw36_begin (begin_in (⟨S.uC, ⟨64, 64, 0⟩⟩ : T_pithlaw36_Setup) S.uC_ok S.uK_ok hS ?_); clear hS; intro b w hS) | refine pN_v (hk := ?_) | fail)
  exact hQ b _ hS
end
end Go.Proofs.YtikmogfhhggafaaGreatDoor

namespace Go.Proofs.YtikmogfhhggafaaGreatDoor
open Go
namespace S
open D (B)

variable {a b : L.En} {l m es fs : List L.En} {k : Int} {n : B}

end S
end Go.Proofs.YtikmogfhhggafaaGreatDoor

namespace Go.Proofs.YtikmogfhhggafaaGreatDoor
open Go
namespace C
theorem eat_lo (k : K) : ∀ (l : List UInt8) (s : W) (n : Nat), (eat k s n l).2 = true → k.least ≤ ((n + (eat k s n l).1 : Nat) : Int)
  | [], _, _, h => by cases h
  | x :: r, s, n, h => by
    rw [eat] at h ⊢
    split at h
    · rename_i h0
      rw [if_pos h0]
      rw [over_eq, Bool.and_eq_true] at h0
      exact of_decide_eq_true h0.1
    · rename_i h0
      rw [if_neg h0]
      have := eat_lo k r _ _ h
      show k.least ≤ ((n + ((eat k (roll s x) (n + 1) r).1 + 1) : Nat) : Int)
      omega
theorem fst_cases (k : K) (b : List UInt8) : k.least ≤ (fst k b : Int) ∨ fst k b = b.length := by
  have h := eat_lo k b 0 0
  rw [fst_eq]
  cases e : (eat k 0 0 b).2 with
  | false => exact .inr (eat_all k b 0 0 e)
  | true => exact .inl (by have := h e; rwa [Nat.zero_add] at this)
theorem pieces_one {k : K} {b : List UInt8} (h : b ≠ []) (hl : (b.length : Int) < k.least) : pieces k b = [b] := by
  have hf : fst k b = b.length := by
    rcases fst_cases k b with h1 | h1
    · have := fst_le k b
      omega
    · exact h1
  rw [pieces_cons k h, hf, List.take_length, List.drop_length, pieces_nil]
theorem pieces_64 {k : K} (hk : k.legal) (b : List UInt8) : (pieces k b).length * 64 ≤ b.length + 63 := by
  by_cases h : b = []
  · subst h; rw [pieces_nil]; simp
  · have h1 := fst_pos k h
    have h2 : 0 < b.length := List.length_pos_iff.2 h
    have h5 := fst_le k b
    have h6 := hk.1
    rw [pieces_cons k h, List.length_cons]
    rcases fst_cases k b with h4 | h4
    · have h3 := pieces_64 hk (b.drop (fst k b))
      rw [List.length_drop] at h3
      omega
    · rw [h4, List.drop_length, pieces_nil, List.length_nil]
      omega
termination_by b.length
decreasing_by
  simp only [List.length_drop]
  omega
theorem nsize_9 (v : Nat) : nsize v ≤ 9 := by unfold nsize; repeat' split <;> first | omega | skip
theorem put_9 (v : Nat) : (put v).length ≤ 9 := by
  have := nsize_9 v
  rw [put_len]
  unfold nsize at *
  repeat' split <;> first | omega | skip
end C
namespace L
theorem flat_length (l : List I32) : (flat l).length = 32 * l.length := by
  induction l with
  | nil => rfl
  | cons x l ih =>
    have e : flat (x :: l) = x.l ++ flat l := by unfold flat; rw [List.map_cons, List.flatten_cons]
    rw [e, List.length_append, ih, x.h, List.length_cons]; omega
theorem row_le {e : En} (hn : e.name.length ≤ 256) (hl : e.link.length ≤ 100) : (row e).length ≤ 400 + 32 * e.sums.length := by
  have h1 := C.put_9 e.mode.toNat
  have h2 := C.put_9 e.time.toNat
  have h3 := C.put_9 e.name.length
  have h4 := C.put_9 e.link.length
  have h5 := C.put_9 e.sums.length
  have h6 := flat_length e.sums
  unfold row tail text
  rw [List.length_cons, List.length_append, List.length_append, List.length_append, List.length_append]
  split
  · rw [List.length_append]; omega
  · split
    · rw [List.length_append]; omega
    · rw [List.length_nil]; omega
theorem rows_bound {c : Nat} : ∀ {l : List En}, (∀ e ∈ l, (row e).length ≤ c) → (rows l).length ≤ l.length * c
  | [], _ => by simp [rows]
  | e :: l, h => by
    have e1 : rows (e :: l) = row e ++ rows l := by unfold rows; rw [List.map_cons, List.flatten_cons]
    have h1 := h e List.mem_cons_self
    have h2 := rows_bound (c := c) (l := l) fun x hx => h x (List.mem_cons_of_mem _ hx)
    rw [e1, List.length_append, List.length_cons, Nat.add_mul, Nat.one_mul]; omega
end L
namespace S
theorem ids_bound {k : C.K} (hk : k.legal) {b : D.B} (hb : b.length ≤ 1048576) : (D.ids k b).length ≤ 16384 := by
  have h1 := C.pieces_64 hk b
  have h2 : (D.ids k b).length = (C.pieces k b).length := List.length_map ..
  omega
theorem list_le {k : C.K} (hk : k.legal) {l : List It} (hw : ∀ x ∈ l, A.wrong x = 0) (hd : ∀ x ∈ l, x.Data.2.length ≤ 1048576) (hl : l.length ≤ 1048576) : (list k l).length ≤ 1099511627776 := by
  have h1 := C.put_9 (l.map (en k)).length
  have h2 : (L.rows (l.map (en k))).length ≤ (l.map (en k)).length * 524688 := by
    refine L.rows_bound fun e he => ?_
    obtain ⟨x, hx, rfl⟩ := List.mem_map.1 he
    have f := fine_of (hw x hx)
    have h3 := L.row_le (e := en k x) (parted_len f.name) f.lnk
    have h4 : (en k x).sums.length ≤ 16384 := ids_bound hk (hd x hx)
    omega
  rw [List.length_map] at h1 h2
  rw [list, L.list, List.length_append, List.length_map]
  have h5 : l.length * 524688 ≤ 1048576 * 524688 := Nat.mul_le_mul_right _ hl
  omega
end S
end Go.Proofs.YtikmogfhhggafaaGreatDoor
