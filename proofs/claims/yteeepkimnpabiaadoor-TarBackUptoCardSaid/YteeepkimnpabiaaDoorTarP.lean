/-
  Headers of archives in plain terms.
-/
import Derived.Test.YteeepkimnpabiaaDoorTypes
import Derived.Test.YteeepkimnpabiaaDoorText
namespace Go.Proofs.YteeepkimnpabiaaDoor
open Go
set_option linter.unusedSimpArgs false
set_option linter.unnecessarySimpa false
set_option linter.unusedSectionVars false
set_option linter.unusedVariables false
namespace A

/-- The first slash at or behind a place. -/
def slash (l : List UInt8) (i : Nat) : Option Nat :=
  if h : i < l.length then (if l[i] = 47 then some i else slash l (i + 1)) else none
termination_by l.length - i

theorem slash_out {l : List UInt8} {i : Nat} (h : l.length ≤ i) : slash l i = none := by rw [slash, dif_neg (by omega)]
theorem slash_hit {l : List UInt8} {i : Nat} (h : l[i]? = some 47) : slash l i = some i := by
  obtain ⟨h1, h2⟩ := List.getElem?_eq_some_iff.1 h
  rw [slash, dif_pos h1, if_pos h2]
theorem slash_miss {l : List UInt8} {i : Nat} {b : UInt8} (h : l[i]? = some b) (hb : b ≠ 47) : slash l i = slash l (i + 1) := by
  obtain ⟨h1, h2⟩ := List.getElem?_eq_some_iff.1 h
  rw [slash, dif_pos h1, if_neg (by rw [h2]; exact hb)]
theorem slash_some {l : List UInt8} {i j : Nat} (h : slash l i = some j) : i ≤ j ∧ j < l.length ∧ l[j]? = some 47 := by
  by_cases hi : i < l.length
  · rw [slash, dif_pos hi] at h
    split at h
    · rename_i hb
      cases h
      exact ⟨Nat.le_refl _, hi, by rw [List.getElem?_eq_getElem hi, hb]⟩
    · have := slash_some h
      exact ⟨by omega, this.2⟩
  · rw [slash, dif_neg hi] at h
    cases h
termination_by l.length - i

/-- A name's prefix and rest; false: it can't be told. -/
def parted (l : List UInt8) : List UInt8 × List UInt8 × Bool :=
  if l = [] ∨ 0 ∈ l then ([], [], false)
  else if l.length ≤ 100 then ([], l, true)
  else match slash l (max 1 (l.length - 101)) with
    | some i => (l.take i, l.drop (i + 1), decide (i ≤ 155 ∧ i + 1 < l.length))
    | none => ([], [], false)

/-- What is wrong with an item. -/
def wrong (x : T_api_Item) : Int :=
  if x.Kind < 0 ∨ 3 ≤ x.Kind ∨ (x.Kind ≠ 2 ∧ x.Link.length ≠ 0) ∨ (x.Kind ≠ 0 ∧ 0 < x.Data.2.length) then 6
  else if (parted x.Name).2.2 = false ∨ (x.Kind = 2 ∧ (x.Link.length = 0 ∨ 100 < x.Link.length ∨ 0 ∈ x.Link)) then 8
  else if x.Mode < 0 ∨ 4096 ≤ x.Mode ∨ x.Time < 0 ∨ 8589934592 ≤ x.Time ∨ 8589934592 ≤ x.Data.2.length then 7
  else 0

/-- The last digits of a number, by eights. -/
def oct (v : Int) : Nat → List UInt8
  | 0 => []
  | n + 1 => (48 + byteOf (v / 8 ^ n % 8)) :: oct v n
theorem oct_len (v : Int) : ∀ n, (oct v n).length = n
  | 0 => rfl
  | n + 1 => by rw [oct, List.length_cons, oct_len]
/-- What it is filled with up to n. -/
def fill (s : List UInt8) (n : Nat) : List UInt8 := s ++ List.replicate (n - s.length) 0
def letter (k : Int) : UInt8 := if k = 0 then 48 else if k = 1 then 53 else 50
/-- The fields of a header: where each lies, how long it is, what is written into it. -/
def fAt : Nat → Nat
  | 0 => 0 | 1 => 100 | 2 => 108 | 3 => 116 | 4 => 124 | 5 => 136 | 6 => 156 | 7 => 157 | 8 => 257 | 9 => 329 | 10 => 337 | _ => 345
def fN : Nat → Nat
  | 0 => 100 | 1 => 8 | 2 => 8 | 3 => 8 | 4 => 12 | 5 => 12 | 6 => 1 | 7 => 100 | 8 => 8 | 9 => 8 | 10 => 8 | _ => 155
def fW (x : T_api_Item) (n : Int) : Nat → List UInt8
  | 0 => (parted x.Name).2.1
  | 1 => oct x.Mode 7
  | 2 => oct 0 7
  | 3 => oct 0 7
  | 4 => oct n 11
  | 5 => oct x.Time 11
  | 6 => [letter x.Kind]
  | 7 => x.Link
  | 8 => [117, 115, 116, 97, 114, 0, 48, 48]
  | 9 => oct 0 7
  | 10 => oct 0 7
  | _ => (parted x.Name).1
/-- The header with the first fields written. -/
def made (x : T_api_Item) (n : Int) : Nat → List UInt8
  | 0 => List.replicate 512 0
  | k + 1 => putL (made x n k) (fAt k) (fW x n k)
def front (x : T_api_Item) (n : Int) : List UInt8 :=
  fill (parted x.Name).2.1 100 ++ (oct x.Mode 7 ++ [0]) ++ (oct 0 7 ++ [0]) ++ (oct 0 7 ++ [0]) ++ (oct n 11 ++ [0]) ++ (oct x.Time 11 ++ [0])
def back (x : T_api_Item) : List UInt8 :=
  [letter x.Kind] ++ fill x.Link 100 ++ ([117, 115, 116, 97, 114, 0, 48, 48] ++ List.replicate 64 0) ++ (oct 0 7 ++ [0]) ++ (oct 0 7 ++ [0]) ++ fill (parted x.Name).1 155 ++ List.replicate 12 0
/-- What the field of the sum adds up: blanks stand for itself. -/
def sumTo (m : List UInt8) : Nat → Nat
  | 0 => 0
  | j + 1 => sumTo m j + (if 148 ≤ j ∧ j < 156 then 32 else (m.getD j 0).toNat)
theorem sumTo_bd (m : List UInt8) : ∀ j, sumTo m j ≤ 255 * j
  | 0 => Nat.le_refl _
  | j + 1 => by
    have := sumTo_bd m j
    have := (m.getD j 0).toNat_lt
    rw [sumTo]
    split <;> omega
def sumOf (l : List UInt8) : Nat := sumTo l 512
def sumField (l : List UInt8) : List UInt8 := oct (sumOf l) 6 ++ [0, 32]
def header (x : T_api_Item) (n : Int) : List UInt8 := front x n ++ sumField (made x n 12) ++ back x

/-- An item whose names fit. -/
structure Fits (x : T_api_Item) : Prop where
  rest : (parted x.Name).2.1.length ≤ 100
  pre : (parted x.Name).1.length ≤ 155
  link : x.Link.length ≤ 100

theorem front_len {x : T_api_Item} (h : Fits x) (n : Int) : (front x n).length = 148 := by
  have := h.rest
  simp [front, fill, oct_len]
  omega
theorem back_len {x : T_api_Item} (h : Fits x) : (back x).length = 356 := by
  have := h.pre
  have := h.link
  simp [back, fill, oct_len]
  omega

theorem putZ {p us : List UInt8} {m o : Nat} (h1 : p.length ≤ o) (h2 : o - p.length + us.length ≤ m) :
    putL (p ++ List.replicate m 0) o us = (p ++ List.replicate (o - p.length) 0 ++ us) ++ List.replicate (m - (o - p.length) - us.length) 0 := by
  simp only [putL, List.take_append, List.drop_append, List.take_replicate, List.drop_replicate]
  rw [List.take_of_length_le h1, List.drop_eq_nil_of_le (by omega), Nat.min_eq_left (by omega), List.nil_append]
  congr 2
  omega
/-- What is written up to a field, without the zeros behind. -/
def pre (x : T_api_Item) (n : Int) : Nat → List UInt8
  | 0 => []
  | k + 1 => pre x n k ++ List.replicate (fAt k - (pre x n k).length) 0 ++ fW x n k
theorem fW_len {x : T_api_Item} (h : Fits x) (n : Int) : ∀ k, k < 12 → (fW x n k).length ≤ fN k
  | 0, _ => h.rest
  | 1, _ => by simp [fW, fN, oct_len]
  | 2, _ => by simp [fW, fN, oct_len]
  | 3, _ => by simp [fW, fN, oct_len]
  | 4, _ => by simp [fW, fN, oct_len]
  | 5, _ => by simp [fW, fN, oct_len]
  | 6, _ => by simp [fW, fN]
  | 7, _ => h.link
  | 8, _ => by simp [fW, fN]
  | 9, _ => by simp [fW, fN, oct_len]
  | 10, _ => by simp [fW, fN, oct_len]
  | 11, _ => h.pre
  | k + 12, h => by omega
theorem fAt_next : ∀ k, k < 11 → fAt k + fN k ≤ fAt (k + 1)
  | 0, _ | 1, _ | 2, _ | 3, _ | 4, _ | 5, _ | 6, _ | 7, _ | 8, _ | 9, _ | 10, _ => by decide
  | k + 11, h => by omega
theorem fAt_end : ∀ k, k < 12 → fAt k + fN k ≤ 500
  | 0, _ | 1, _ | 2, _ | 3, _ | 4, _ | 5, _ | 6, _ | 7, _ | 8, _ | 9, _ | 10, _ | 11, _ => by decide
  | k + 12, h => by omega
theorem fN_pos : ∀ k, k < 12 → 0 < fN k
  | 0, _ | 1, _ | 2, _ | 3, _ | 4, _ | 5, _ | 6, _ | 7, _ | 8, _ | 9, _ | 10, _ | 11, _ => by decide
  | k + 12, h => by omega
theorem pre_ok {x : T_api_Item} (h : Fits x) (n : Int) : ∀ k, k < 12 → (pre x n k).length ≤ fAt k ∧ (pre x n (k + 1)).length = fAt k + (fW x n k).length
  | 0, _ => by simp [pre, fAt]
  | k + 1, hk => by
    obtain ⟨_, h2⟩ := pre_ok h n k (by omega)
    have h3 := fW_len h n k (by omega)
    have h4 := fAt_next k (by omega)
    have h5 : (pre x n (k + 1)).length ≤ fAt (k + 1) := by omega
    refine ⟨h5, ?_⟩
    rw [pre, List.length_append, List.length_append, List.length_replicate]
    omega
theorem made_pre {x : T_api_Item} (h : Fits x) (n : Int) : ∀ k, k ≤ 12 → made x n k = pre x n k ++ List.replicate (512 - (pre x n k).length) 0
  | 0, _ => rfl
  | k + 1, hk => by
    obtain ⟨h1, h2⟩ := pre_ok h n k (by omega)
    have h3 := fW_len h n k (by omega)
    have h4 := fAt_end k (by omega)
    rw [made, made_pre h n k (by omega), putZ h1 (by omega), pre]
    congr 2
    rw [List.length_append, List.length_append, List.length_replicate]
    omega
theorem made_len {x : T_api_Item} (h : Fits x) (n : Int) (k : Nat) (hk : k ≤ 12) : (made x n k).length = 512 := by
  rw [made_pre h n k hk, List.length_append, List.length_replicate]
  match k, hk with
  | 0, _ => simp [pre]
  | k + 1, hk =>
    have := (pre_ok h n k (by omega)).2
    have := fW_len h n k (by omega)
    have := fAt_end k (by omega)
    omega
theorem zsplit {a b c : Nat} (h : a = b + c) : List.replicate a (0 : UInt8) = List.replicate b 0 ++ List.replicate c 0 := by rw [List.replicate_append_replicate, h]
theorem made_12 {x : T_api_Item} (h : Fits x) (n : Int) : made x n 12 = front x n ++ List.replicate 8 0 ++ back x := by
  have hr := h.rest
  have hp := h.pre
  have hl := h.link
  have L := fun k hk => (pre_ok h n k hk).2
  rw [made_pre h n 12 (by omega), L 11 (by omega)]
  rw [pre, L 10 (by omega), pre, L 9 (by omega), pre, L 8 (by omega), pre, L 7 (by omega), pre, L 6 (by omega), pre, L 5 (by omega), pre, L 4 (by omega), pre, L 3 (by omega), pre, L 2 (by omega), pre, L 1 (by omega), pre, L 0 (by omega), pre, pre]
  simp only [fAt, fW, oct_len, List.length_cons, List.length_nil, front, back, fill]
  generalize (parted x.Name).2.1 = a at *
  generalize (parted x.Name).1 = b at *
  generalize x.Link = c at *
  have z1 : List.replicate (100 - (0 + a.length)) (0 : UInt8) = List.replicate (100 - a.length) 0 := by rw [Nat.zero_add]
  have z2 : List.replicate (257 - (157 + c.length)) (0 : UInt8) = List.replicate (100 - c.length) 0 := by rw [show 257 - (157 + c.length) = 100 - c.length from by omega]
  have z3 : List.replicate (512 - (345 + b.length)) (0 : UInt8) = List.replicate (155 - b.length) 0 ++ List.replicate 12 0 := zsplit (by omega)
  have z4 : List.replicate (156 - (136 + 11)) (0 : UInt8) = [0] ++ List.replicate 8 0 := rfl
  rw [z1, z2, z3, z4]
  simp only [List.append_assoc, List.nil_append]
  rfl
end A
end Go.Proofs.YteeepkimnpabiaaDoor
