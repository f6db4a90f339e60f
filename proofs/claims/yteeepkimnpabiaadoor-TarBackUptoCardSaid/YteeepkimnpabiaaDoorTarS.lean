/-
  Sums of headers in plain terms: a changed byte is told.
-/
import Derived.Test.YteeepkimnpabiaaDoorTarG
namespace Go.Proofs.YteeepkimnpabiaaDoor
open Go
set_option linter.unusedSimpArgs false
set_option linter.unnecessarySimpa false
set_option linter.unusedSectionVars false
set_option linter.unusedVariables false
namespace A

theorem digit_inj {a b : Int} (ha : 0 ≤ a ∧ a < 8) (hb : 0 ≤ b ∧ b < 8) (h : (48 + byteOf a : UInt8) = 48 + byteOf b) : a = b := by
  have h1 := congrArg UInt8.toNat h
  have e : ∀ c : Int, 0 ≤ c ∧ c < 8 → ((48 + byteOf c : UInt8).toNat : Int) = 48 + c := fun c hc => by
    have h2 := byteOf_nat c
    rw [UInt8.toNat_add, h2]
    have : (48 : UInt8).toNat = 48 := rfl
    omega
  have ea := e a ha
  have eb := e b hb
  omega
theorem oct_inj (v u : Int) : ∀ n, oct v n = oct u n → v % 8 ^ n = u % 8 ^ n
  | 0, _ => by rw [Int.pow_zero]; omega
  | n + 1, h => by
    simp only [oct, List.cons.injEq] at h
    have ih := oct_inj v u n h.2
    have hd := digit_inj (a := v / 8 ^ n % 8) (b := u / 8 ^ n % 8) (by omega) (by omega) h.1
    have key : ∀ z : Int, z % 8 ^ (n + 1) = z / 8 ^ n % 8 * 8 ^ n + z % 8 ^ n := fun z => by
      have hp : (0 : Int) < 8 ^ n := Int.pow_pos (by omega)
      rw [Int.pow_succ]
      generalize (8 : Int) ^ n = p at *
      have h1 := Int.emod_def (z / p) 8
      have h2 := Int.mul_ediv_add_emod z p
      have h3 := Int.emod_def z (p * 8)
      rw [← Int.ediv_ediv_of_nonneg (Int.le_of_lt hp)] at h3
      rw [h3, h1]
      generalize z / p = q at *
      generalize q / 8 = c at *
      grind
    rw [key, key, ih, hd]
theorem oct6_inj {a b : Nat} (ha : a < 262144) (hb : b < 262144) (h : oct (a : Int) 6 = oct (b : Int) 6) : a = b := by
  have h1 := oct_inj a b 6 h
  have e : (8 : Int) ^ 6 = 262144 := by decide
  rw [e] at h1
  omega
theorem sumTo_congr {l m : List UInt8} : ∀ j, (∀ i, i < j → ¬ (148 ≤ i ∧ i < 156) → l.getD i 0 = m.getD i 0) → sumTo l j = sumTo m j
  | 0, _ => rfl
  | j + 1, h => by
    rw [sumTo, sumTo, sumTo_congr j fun i hi hn => h i (by omega) hn]
    split
    · rfl
    · rename_i hn
      rw [h j (by omega) hn]
theorem getD_set {l : List UInt8} {i j : Nat} {b : UInt8} (hi : i < l.length) : (l.set i b).getD j 0 = if i = j then b else l.getD j 0 := by
  rw [List.getD_eq_getElem?_getD, List.getD_eq_getElem?_getD, List.getElem?_set]
  split
  · rename_i h
    subst h
    try rw [if_pos hi]
    rfl
  · rfl
theorem sumTo_set {l : List UInt8} {i : Nat} {b : UInt8} (hi : i < l.length) (hn : ¬ (148 ≤ i ∧ i < 156)) : ∀ j, sumTo (l.set i b) j + (if i < j then (l.getD i 0).toNat else 0) = sumTo l j + (if i < j then b.toNat else 0)
  | 0 => rfl
  | j + 1 => by
    have ih := sumTo_set (l := l) (b := b) hi hn j
    rw [sumTo, sumTo, getD_set hi]
    by_cases hij : i = j
    · subst hij
      have a1 : ¬ i < i := by omega
      have a2 : i < i + 1 := by omega
      simp only [if_true, if_false, a1, a2, hn] at ih ⊢
      omega
    · by_cases h2 : i < j
      · have a2 : i < j + 1 := by omega
        simp only [hij, if_false, if_true, h2, a2] at ih ⊢
        omega
      · have a2 : ¬ i < j + 1 := by omega
        simp only [hij, if_false, h2, a2] at ih ⊢
        omega
/-- What a header's field of the sum should hold. -/
def Told (l : List UInt8) : Prop := (l.drop 148).take (156 - 148) = sumField l
theorem sub8_get (l : List UInt8) (k : Nat) (h : k < 8) : ((l.drop 148).take (156 - 148))[k]? = l[148 + k]? := by
  rw [List.getElem?_take, if_pos (by omega), List.getElem?_drop]
theorem sumOf_bd (l : List UInt8) : sumOf l < 262144 := by
  have := sumTo_bd l 512
  unfold sumOf
  omega
/-- One byte changed is told. -/
theorem told_set {l : List UInt8} (h : Told l) (hl : 512 ≤ l.length) {i : Nat} {b : UInt8} (hi : i < 512) (hb : l[i]? ≠ some b) : ¬ Told (l.set i b) := by
  intro h2
  unfold Told at h h2
  by_cases hn : 148 ≤ i ∧ i < 156
  · have e : sumField (l.set i b) = sumField l := by
      unfold sumField sumOf
      rw [sumTo_congr (l := l.set i b) (m := l) 512 fun j _ hj => by rw [getD_set (by omega), if_neg (by omega)]]
    rw [e, ← h] at h2
    have h3 := congrArg (fun t => t[i - 148]?) h2
    simp only [sub8_get _ _ (show i - 148 < 8 by omega)] at h3
    rw [show 148 + (i - 148) = i from by omega, List.getElem?_set, if_pos rfl, if_pos (by omega)] at h3
    exact hb h3.symm
  · have e : ((l.set i b).drop 148).take (156 - 148) = (l.drop 148).take (156 - 148) := by
      apply List.ext_getElem?
      intro k
      by_cases hk : k < 8
      · rw [sub8_get _ _ hk, sub8_get _ _ hk, List.getElem?_set, if_neg (by omega)]
      · rw [List.getElem?_take, List.getElem?_take, if_neg (by omega), if_neg (by omega)]
    rw [e, h] at h2
    have h3 := sumTo_set (l := l) (b := b) (by omega) hn 512
    rw [if_pos hi, if_pos hi] at h3
    have h4 : oct (sumOf l : Nat) 6 = oct (sumOf (l.set i b) : Nat) 6 := by
      have h5 := congrArg (List.take 6) h2
      unfold sumField at h5
      rwa [List.take_left' (oct_len _ _), List.take_left' (oct_len _ _)] at h5
    have h6 := oct6_inj (sumOf_bd l) (sumOf_bd _) h4
    unfold sumOf at h6
    have h7 : (l.getD i 0).toNat = b.toNat := by omega
    have h8 := UInt8.toNat_inj.1 h7
    refine hb ?_
    rw [List.getD_eq_getElem?_getD, List.getElem?_eq_getElem (show i < l.length by omega)] at h8
    rw [List.getElem?_eq_getElem (show i < l.length by omega)]
    exact congrArg some h8
theorem getD_app {a b : List UInt8} {j : Nat} : (a ++ b).getD j 0 = if j < a.length then a.getD j 0 else b.getD (j - a.length) 0 := by
  rw [List.getD_eq_getElem?_getD, List.getElem?_append]
  split
  · rw [List.getD_eq_getElem?_getD]
  · rw [List.getD_eq_getElem?_getD]
/-- What Put makes is right. -/
theorem told_header {x : T_api_Item} (h : Fits x) (n : Int) (more : List UInt8) : Told (header x n ++ more) := by
  have h1 := front_len h n
  have h2 := back_len h
  have h3 := sumField_len (made x n 12)
  have e : sumField (header x n ++ more) = sumField (made x n 12) := by
    unfold sumField sumOf
    rw [sumTo_congr (l := header x n ++ more) (m := made x n 12) 512 fun j hj hn => ?_]
    rw [made_12 h n, header]
    generalize sumField (made x n 12) = f at *
    rw [List.append_assoc, List.append_assoc, List.append_assoc, getD_app, getD_app (a := front x n)]
    split
    · rfl
    · rw [h1, getD_app, getD_app (a := List.replicate 8 0), h3, List.length_replicate, if_neg (by omega), if_neg (by omega), getD_app, if_pos (by omega)]
  unfold Told
  rw [e, header]
  generalize sumField (made x n 12) = f at *
  rw [List.append_assoc, List.append_assoc, List.drop_left' h1, List.take_left' h3]
theorem told_put {x : T_api_Item} (h : Fits x) : Told (putB x) := by
  rw [putB, List.append_assoc]
  exact told_header h _ _
end A
end Go.Proofs.YteeepkimnpabiaaDoor
