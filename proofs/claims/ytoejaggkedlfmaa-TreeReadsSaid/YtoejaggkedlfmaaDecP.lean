/-
  The decoder, as numbers.
-/
import Derived.Test.YtoejaggkedlfmaaRPure
import Derived.Test.YtoejaggkedlfmaaProb
namespace Go.Proofs.Ytoejaggkedlfmaa
open Go
set_option linter.unusedSimpArgs false
set_option linter.unnecessarySimpa false
set_option linter.unusedSectionVars false
set_option linter.unusedVariables false

namespace D
/-- A decoder: its bytes, how many are read, the range, the code. -/
structure S where
  b : List UInt8
  k : Nat
  R : Int
  C : Int

structure Ok (s : S) : Prop where
  k : s.k ≤ s.b.length
  r0 : 16777216 ≤ s.R
  r1 : s.R < 4294967296
  c0 : 0 ≤ s.C
  c1 : s.C < s.R

/-- One byte more, where the range is small; none: no byte is left. -/
def S.widen (s : S) : Option S := if 16777216 ≤ s.R then some s else match s.b[s.k]? with
  | none => none
  | some x => some ⟨s.b, s.k + 1, s.R * 256, s.C * 256 + (x.toNat : Int)⟩
def S.bitAt (s : S) (c : Int) : Int := if s.C < c then 0 else 1
def S.cut (s : S) (c : Int) : S := if s.C < c then ⟨s.b, s.k, c, s.C⟩ else ⟨s.b, s.k, s.R - c, s.C - c⟩
/-- What a question comes to: an answer, or a refusal. -/
inductive An (α : Type)
  | ok (s : S) (v : α)
  | no (e : Int)
def S.bit (s : S) (c : Int) : An Int := match (s.cut c).widen with
  | some t => .ok t (s.bitAt c)
  | none => .no 1
/-- One bit without a probability. -/
def S.one (s : S) : S := if s.C < s.R / 2 then ⟨s.b, s.k, s.R / 2, s.C⟩ else ⟨s.b, s.k, s.R / 2, s.C - s.R / 2⟩
def S.direct (s : S) (v : Int) : Nat → An Int
  | 0 => .ok s v
  | n + 1 => if s.one.R ≤ s.one.C then .no 2 else match s.one.widen with
    | none => .no 1
    | some t => t.direct (2 * v + s.bitAt (s.R / 2)) n

/-- The code at the front. -/
def front (b : List UInt8) (i : Nat) : Int := R.num ((b.drop 1).take i)
/-- At the front. -/
def start (b : List UInt8) : An Unit := if b.length < 5 then .no 1 else if b[0]? ≠ some 0 ∨ front b 4 = 4294967295 then .no 2 else .ok ⟨b, 5, 4294967295, front b 4⟩ ()
theorem front_0 (b : List UInt8) : front b 0 = 0 := by simp [front, R.num]
theorem front_succ (b : List UInt8) (i : Nat) {x : UInt8} (h : b[i + 1]? = some x) : front b (i + 1) = front b i * 256 + (x.toNat : Int) := by
  unfold front
  have h2 : (b.drop 1)[i]? = some x := by rw [List.getElem?_drop, Nat.add_comm]; exact h
  rw [List.take_add_one, h2, Option.toList_some, R.num_snoc]
theorem front_bd (b : List UInt8) (i : Nat) (h : i ≤ 4) : 0 ≤ front b i ∧ front b i < 256 ^ i := by
  refine ⟨R.num_nonneg _, ?_⟩
  have h1 := R.num_lt ((b.drop 1).take i)
  have h2 : ((b.drop 1).take i).length ≤ i := by rw [List.length_take]; omega
  refine Int.lt_of_lt_of_le h1 ?_
  have : (256 : Nat) ^ ((b.drop 1).take i).length ≤ 256 ^ i := Nat.pow_le_pow_right (by omega) h2
  have e : ∀ k : Nat, (256 : Int) ^ k = ((256 ^ k : Nat) : Int) := fun k => (Int.natCast_pow 256 k).symm
  rw [e, e]
  exact Int.ofNat_le.2 this
theorem front_lt (b : List UInt8) (i : Nat) (h : i ≤ 3) : 0 ≤ front b i ∧ front b i < 16777216 := by
  have h1 := front_bd b i (by omega)
  have h2 : (256 : Nat) ^ i ≤ 256 ^ 3 := Nat.pow_le_pow_right (by omega) h
  have e : ∀ k : Nat, (256 : Int) ^ k = ((256 ^ k : Nat) : Int) := fun k => (Int.natCast_pow 256 k).symm
  have h3 : (256 : Int) ^ i ≤ 256 ^ 3 := by rw [e, e]; exact Int.ofNat_le.2 h2
  have h4 : (256 : Int) ^ 3 = 16777216 := by decide
  omega
theorem start_ok {b : List UInt8} {t : S} {u : Unit} (h : start b = .ok t u) : Ok t ∧ t.b = b ∧ t.k = 5 := by
  by_cases h1 : b.length < 5
  · rw [start, if_pos h1] at h
    cases h
  · by_cases h2 : b[0]? ≠ some 0 ∨ front b 4 = 4294967295
    · rw [start, if_neg h1, if_pos h2] at h
      cases h
    · rw [start, if_neg h1, if_neg h2] at h
      cases h
      have h3 := front_bd b 4 (by omega)
      have h4 : (256 : Int) ^ 4 = 4294967296 := by decide
      have h5 : front b 4 ≠ 4294967295 := fun e => h2 (.inr e)
      exact ⟨⟨by simp only; omega, by simp only; omega, by simp only; omega, h3.1, by simp only; omega⟩, rfl, rfl⟩

theorem widen_b {s t : S} (h : s.widen = some t) : t.b = s.b := by
  unfold S.widen at h
  split at h
  · cases h; rfl
  · split at h
    · cases h
    · cases h; rfl
theorem widen_ok {s t : S} (hk : s.k ≤ s.b.length) (r0 : 65536 ≤ s.R) (r1 : s.R < 4294967296) (c0 : 0 ≤ s.C) (c1 : s.C < s.R) (h : s.widen = some t) : Ok t := by
  unfold S.widen at h
  split at h
  · cases h; exact ⟨hk, by assumption, r1, c0, c1⟩
  · split at h
    · cases h
    · rename_i x hx
      cases h
      have hlt := (List.getElem?_eq_some_iff.1 hx).1
      have := x.toNat_lt
      exact ⟨by simp only; omega, by simp only; omega, by simp only; omega, by simp only; omega, by simp only; omega⟩
theorem bound_mid {r p : Int} (hr : 16777216 ≤ r) (h0 : 31 ≤ p) (h1 : p ≤ 2017) : 65536 ≤ B.bound r p ∧ 65536 ≤ r - B.bound r p := by
  unfold B.bound
  rw [B.taken_self (by omega) (by omega)]
  have a1 : r / 2048 * 31 ≤ r / 2048 * p := Int.mul_le_mul_of_nonneg_left h0 (by omega)
  have a2 : r / 2048 * p ≤ r / 2048 * 2017 := Int.mul_le_mul_of_nonneg_left h1 (by omega)
  omega
structure CutOk (s : S) (b : List UInt8) : Prop where
  b : s.b = b
  k : s.k ≤ s.b.length
  r0 : 65536 ≤ s.R
  r1 : s.R < 4294967296
  c0 : 0 ≤ s.C
  c1 : s.C < s.R
theorem Ok.cut {s : S} (h : Ok s) {c : Int} (h0 : 65536 ≤ c) (h1 : 65536 ≤ s.R - c) : CutOk (s.cut c) s.b := by
  obtain ⟨a1, a2, a3, a4, a5⟩ := h
  unfold S.cut
  split
  · exact ⟨rfl, a1, h0, by simp only; omega, a4, by simp only; omega⟩
  · exact ⟨rfl, a1, h1, by simp only; omega, by simp only; omega, by simp only; omega⟩
theorem Ok.bit {s t : S} (h : Ok s) {c v : Int} (h0 : 65536 ≤ c) (h1 : 65536 ≤ s.R - c) (e : s.bit c = .ok t v) : Ok t ∧ t.b = s.b ∧ v = s.bitAt c := by
  unfold S.bit at e
  split at e
  · rename_i t' ht
    cases e
    have hc := h.cut h0 h1
    exact ⟨widen_ok hc.k hc.r0 hc.r1 hc.c0 hc.c1 ht, (widen_b ht).trans hc.b, rfl⟩
  · cases e
theorem bitAt_01 (s : S) (c : Int) : s.bitAt c = 0 ∨ s.bitAt c = 1 := by unfold S.bitAt; split <;> simp
structure OneOk (s : S) (b : List UInt8) : Prop where
  b : s.b = b
  k : s.k ≤ s.b.length
  r0 : 8388608 ≤ s.R
  r1 : s.R < 2147483648
  c0 : 0 ≤ s.C
  c1 : s.C ≤ s.R
theorem Ok.one {s : S} (h : Ok s) : OneOk s.one s.b := by
  obtain ⟨a1, a2, a3, a4, a5⟩ := h
  unfold S.one
  split
  · exact ⟨rfl, a1, by simp only; omega, by simp only; omega, a4, by simp only; omega⟩
  · exact ⟨rfl, a1, by simp only; omega, by simp only; omega, by simp only; omega, by simp only; omega⟩
theorem OneOk.widen {s t : S} {b : List UInt8} (h : OneOk s b) (hc : s.C < s.R) (e : s.widen = some t) : Ok t ∧ t.b = b :=
  ⟨widen_ok h.k (by have := h.r0; omega) (by have := h.r1; omega) h.c0 hc e, (widen_b e).trans h.b⟩
theorem Ok.direct : ∀ (n : Nat) {s t : S} {v u : Int}, Ok s → s.direct v n = .ok t u → Ok t ∧ t.b = s.b
  | 0, s, t, v, u, h, e => by cases e; exact ⟨h, rfl⟩
  | n + 1, s, t, v, u, h, e => by
    simp only [S.direct] at e
    split at e
    · cases e
    · split at e
      · cases e
      · rename_i t' ht
        obtain ⟨h1, h2⟩ := h.one.widen (by omega) ht
        obtain ⟨h3, h4⟩ := Ok.direct n h1 e
        exact ⟨h3, h4.trans h2⟩
end D

end Go.Proofs.Ytoejaggkedlfmaa
