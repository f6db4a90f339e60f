/-
  What an encoder's bytes give a decoder: the bits that were encoded.
-/
import Derived.Test.YtoejaggkedlfmaaDecRun
namespace Go.Proofs.Ytoejaggkedlfmaa
open Go
set_option linter.unusedSimpArgs false
set_option linter.unnecessarySimpa false
set_option linter.unusedSectionVars false
set_option linter.unusedVariables false

namespace D
/-- The number that is told at the end lies in the encoder's range. -/
structure In (s f : R.S) : Prop where
  k : s.k ≤ f.k
  lo : s.N * 256 ^ (f.k - s.k) ≤ f.N
  hi : f.N < (s.N + s.R) * 256 ^ (f.k - s.k)
theorem In.self {f : R.S} (h : 0 < f.R) : In f f := ⟨Nat.le_refl _, by simp, by simp; omega⟩
theorem In.wide {s f : R.S} (h : In ⟨s.N * 256, s.R * 256, s.k + 1⟩ f) : In s f := by
  obtain ⟨h1, h2, h3⟩ := h
  have h1 : s.k + 1 ≤ f.k := h1
  have e : f.k - s.k = (f.k - (s.k + 1)) + 1 := by omega
  have e2 : ∀ x : Int, x * 256 ^ (f.k - s.k) = x * 256 * 256 ^ (f.k - (s.k + 1)) := fun x => by rw [e, Int.pow_succ, Int.mul_comm (256 ^ _) 256, ← Int.mul_assoc]
  refine ⟨by omega, by rw [e2]; exact h2, ?_⟩
  rw [e2, Int.add_mul]
  exact h3
theorem In.widen {s f : R.S} (h0 : 65536 ≤ s.R) (h : In s.widen f) : In s f := by
  by_cases hr : s.R < 16777216
  · rw [R.S.widen_go (by omega) hr] at h
    rw [R.S.widen_no (show ¬ s.R * 256 < 16777216 by omega)] at h
    exact h.wide
  · rwa [R.S.widen_no hr] at h
/-- What a decoder of so many bytes sees of the number. -/
def seen (f : R.S) (k : Nat) : Int := f.N / 256 ^ (f.k - k)
theorem In.seen {s f : R.S} (h : In s f) : s.N ≤ seen f s.k ∧ seen f s.k < s.N + s.R := by
  have p : (0 : Int) < 256 ^ (f.k - s.k) := Int.pow_pos (by omega)
  exact ⟨(Int.le_ediv_iff_mul_le p).2 h.lo, (Int.ediv_lt_iff_lt_mul p).2 h.hi⟩

/-- The bytes begin with the encoder's. -/
structure Begins (b : List UInt8) (f : R.S) : Prop where
  len : f.k + 5 ≤ b.length
  num : ∀ i, i ≤ f.k + 5 → R.num (b.take i) = f.N / 256 ^ (f.k + 5 - i)
theorem Begins.of {f : R.S} (h : R.Ok f) (more : List UInt8) : Begins (f.bytes ++ more) f := by
  have hl : f.bytes.length = f.k + 5 := R.digits_length _ _
  refine ⟨by rw [List.length_append]; omega, fun i hi => ?_⟩
  rw [List.take_append_of_le_length (by omega)]
  have h1 : R.num f.bytes = f.N := by
    rw [R.S.bytes, R.num_digits]
    have h5 := h.top
    have h6 := h.n0
    have h7 := h.r0
    have e : (256 : Int) ^ (f.k + 5) = 256 * (4294967296 * 256 ^ f.k) := by
      rw [Int.pow_add, show (256 : Int) ^ 5 = 256 * 4294967296 from by decide, Int.mul_comm, Int.mul_assoc]
    exact Int.emod_eq_of_lt h6 (by rw [e]; omega)
  have h2 := R.num_append (f.bytes.take i) (f.bytes.drop i)
  rw [List.take_append_drop, h1, List.length_drop, hl] at h2
  have h3 := R.num_nonneg (f.bytes.drop i)
  have h4 := R.num_lt (f.bytes.drop i)
  rw [List.length_drop, hl] at h4
  have p : (0 : Int) < 256 ^ (f.k + 5 - i) := Int.pow_pos (by omega)
  rw [h2, Int.add_comm, Int.add_mul_ediv_right _ _ (by omega), Int.ediv_eq_zero_of_lt h3 h4, Int.zero_add]
theorem Begins.seen {b : List UInt8} {f : R.S} (h : Begins b f) {k : Nat} (hk : k ≤ f.k) : R.num (b.take (k + 5)) = D.seen f k := by
  rw [h.num _ (by omega), D.seen, show f.k + 5 - (k + 5) = f.k - k from by omega]

/-- A decoder beside an encoder. -/
structure Fol (b : List UInt8) (f s : R.S) (d : S) : Prop where
  b : d.b = b
  k : d.k = s.k + 5
  R : d.R = s.R
  C : d.C = D.seen f s.k - s.N

theorem Fol.widen {b : List UInt8} {f s : R.S} {d : S} (hb : Begins b f) (h : Fol b f s d) (h0 : 65536 ≤ s.R) (hi : In s.widen f) : ∃ t, d.widen = some t ∧ Fol b f s.widen t := by
  obtain ⟨h1, h2, h3, h4⟩ := h
  by_cases hr : s.R < 16777216
  · have e1 : s.widen = ⟨s.N * 256, s.R * 256, s.k + 1⟩ := by
      rw [R.S.widen_go (by omega) hr, R.S.widen_no (show ¬ s.R * 256 < 16777216 by omega)]
    rw [e1] at hi ⊢
    have hk : s.k + 1 ≤ f.k := hi.k
    have hl := hb.len
    obtain ⟨x, hx⟩ : ∃ x, b[s.k + 5]? = some x := ⟨b[s.k + 5]'(by omega), by simp⟩
    have e2 := hb.seen (k := s.k) (by omega)
    have e3 := hb.seen (k := s.k + 1) hk
    rw [show s.k + 1 + 5 = (s.k + 5) + 1 from by omega, List.take_add_one, hx, Option.toList_some, R.num_snoc, e2] at e3
    refine ⟨⟨d.b, d.k + 1, d.R * 256, d.C * 256 + x.toNat⟩, ?_, ⟨h1, (show d.k + 1 = s.k + 1 + 5 by omega), by simp only [h3], ?_⟩⟩
    · rw [S.widen, if_neg (by omega), h1, h2, hx]
    · simp only [h4, ← e3]
      omega
  · rw [R.S.widen_no hr] at hi ⊢
    exact ⟨d, by rw [S.widen, if_pos (by omega)], ⟨h1, h2, h3, h4⟩⟩

/-- One bit by a probability. -/
theorem Fol.bit {b : List UInt8} {f s : R.S} {d : S} (hb : Begins b f) (h : Fol b f s d) {c : Int} (bit : Int) (hbit : bit = 0 ∨ bit = 1) (c0 : 65536 ≤ c) (c1 : 65536 ≤ s.R - c) (hi : In (s.cut c bit) f) :
    In s f ∧ ∃ t, d.bit c = .ok t bit ∧ Fol b f (s.cut c bit) t := by
  obtain ⟨h1, h2, h3, h4⟩ := h
  rcases hbit with rfl | rfl
  · rw [R.S.cut, if_pos rfl] at hi ⊢
    have hi2 := In.widen (s := ⟨s.N, c, s.k⟩) (by simp only; omega) hi
    have hs := hi2.seen
    simp only at hs
    have p : (0 : Int) < 256 ^ (f.k - s.k) := Int.pow_pos (by omega)
    have his : In s f := ⟨hi2.k, hi2.lo, Int.lt_of_lt_of_le hi2.hi (Int.mul_le_mul_of_nonneg_right (by simp only; omega) (by simp only; omega))⟩
    have hlt : d.C < c := by omega
    have hcut : d.cut c = ⟨d.b, d.k, c, d.C⟩ := by rw [S.cut, if_pos hlt]
    have hf : Fol b f ⟨s.N, c, s.k⟩ (d.cut c) := by rw [hcut]; exact ⟨h1, h2, rfl, h4⟩
    obtain ⟨t, ht, hft⟩ := hf.widen hb (by simp only; omega) hi
    refine ⟨his, t, ?_, hft⟩
    rw [S.bit, ht, S.bitAt, if_pos hlt]
  · rw [R.S.cut, if_neg (by omega)] at hi ⊢
    have hi2 := In.widen (s := ⟨s.N + c, s.R - c, s.k⟩) (by simp only; omega) hi
    have hs := hi2.seen
    simp only at hs
    have p : (0 : Int) < 256 ^ (f.k - s.k) := Int.pow_pos (by omega)
    have his : In s f := by
      refine ⟨hi2.k, Int.le_trans (Int.mul_le_mul_of_nonneg_right (show s.N ≤ s.N + c by omega) (by omega)) hi2.lo, ?_⟩
      have := hi2.hi
      simp only at this
      rwa [show s.N + c + (s.R - c) = s.N + s.R from by omega] at this
    have hge : ¬ d.C < c := by omega
    have hcut : d.cut c = ⟨d.b, d.k, d.R - c, d.C - c⟩ := by rw [S.cut, if_neg hge]
    have hf : Fol b f ⟨s.N + c, s.R - c, s.k⟩ (d.cut c) := by rw [hcut]; exact ⟨h1, h2, by simp only [h3], by simp only [h4]; omega⟩
    obtain ⟨t, ht, hft⟩ := hf.widen hb (by simp only; omega) hi
    refine ⟨his, t, ?_, hft⟩
    rw [S.bit, ht, S.bitAt, if_neg hge]
end D

end Go.Proofs.Ytoejaggkedlfmaa
