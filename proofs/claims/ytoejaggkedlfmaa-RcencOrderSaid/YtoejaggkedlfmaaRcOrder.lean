/-
  Rows of bits as nested parts of a range: the order of the bytes is the order of the rows.
-/
import Derived.Test.YtoejaggkedlfmaaRcBegun
namespace Go.Proofs.Ytoejaggkedlfmaa
open Go
set_option linter.unusedSimpArgs false
set_option linter.unusedVariables false
namespace R

theorem num_cons (b : UInt8) (l : List UInt8) : num (b :: l) = (b.toNat : Int) * 256 ^ l.length + num l := by
  have := num_append [b] l
  simpa [num] using this

theorem lex_lt : ∀ (a b : List UInt8), num a * 256 ^ b.length < num b * 256 ^ a.length → Op.bytesLess a b = true
  | a, [], h => by
    have := num_nonneg a
    have e : num [] = 0 := rfl
    rw [e, Int.zero_mul, List.length_nil, Int.pow_zero] at h
    omega
  | [], y :: b, _ => rfl
  | x :: a, y :: b, h => by
    rw [num_cons, num_cons, List.length_cons, List.length_cons, Int.pow_succ, Int.pow_succ] at h
    have ha := num_lt a
    have hb := num_lt b
    have ha0 := num_nonneg a
    have hb0 := num_nonneg b
    have ih := lex_lt a b
    generalize num a = A at *
    generalize num b = B at *
    have pa : (0 : Int) < 256 ^ a.length := Int.pow_pos (by omega)
    have pb : (0 : Int) < 256 ^ b.length := Int.pow_pos (by omega)
    generalize (256 : Int) ^ a.length = U at *
    generalize (256 : Int) ^ b.length = V at *
    rw [Op.bytesLess]
    by_cases c : x.toNat < y.toNat
    · have : x < y := c
      simp [this]
    · by_cases d : x.toNat = y.toNat
      · have : x = y := UInt8.toNat_inj.1 d
        subst this
        have h2 : A * V < B * U := by
          have e1 : (x.toNat * U + A) * (V * 256) = (x.toNat * U * V + A * V) * 256 := by grind
          have e2 : (x.toNat * V + B) * (U * 256) = (x.toNat * U * V + B * U) * 256 := by grind
          rw [e1, e2] at h
          omega
        simp [ih h2]
      · exfalso
        have h1 : ((y.toNat : Int) + 1) * V * U ≤ (x.toNat : Int) * V * U := by
          refine Int.mul_le_mul_of_nonneg_right (Int.mul_le_mul_of_nonneg_right (by omega) (by omega)) (by omega)
        have h2 : (B + 1) * U ≤ V * U := Int.mul_le_mul_of_nonneg_right (by omega) (by omega)
        have h3 : 0 ≤ A * V := Int.mul_nonneg ha0 (by omega)
        have e1 : (x.toNat * U + A) * (V * 256) = (x.toNat * V * U + A * V) * 256 := by grind
        have e2 : (y.toNat * V + B) * (U * 256) = (y.toNat * V * U + B * U) * 256 := by grind
        have e3 : ((y.toNat : Int) + 1) * V * U = y.toNat * V * U + V * U := by grind
        have e4 : (B + 1) * U = B * U + U := by grind
        rw [e1, e2] at h
        omega

theorem lex_le : ∀ (a b : List UInt8), a.length ≤ b.length → num a * 256 ^ b.length ≤ num b * 256 ^ a.length → (Op.bytesLess a b || a == b) = true
  | [], [], _, _ => rfl
  | x :: a, [], h, _ => by simp at h
  | [], y :: b, _, _ => rfl
  | x :: a, y :: b, hl, h => by
    rw [num_cons, num_cons, List.length_cons, List.length_cons, Int.pow_succ, Int.pow_succ] at h
    have ha := num_lt a
    have hb := num_lt b
    have ha0 := num_nonneg a
    have hb0 := num_nonneg b
    have ih := lex_le a b (by simpa using hl)
    generalize num a = A at *
    generalize num b = B at *
    have pa : (0 : Int) < 256 ^ a.length := Int.pow_pos (by omega)
    have pb : (0 : Int) < 256 ^ b.length := Int.pow_pos (by omega)
    generalize (256 : Int) ^ a.length = U at *
    generalize (256 : Int) ^ b.length = V at *
    rw [Op.bytesLess]
    by_cases c : x.toNat < y.toNat
    · have : x < y := c
      simp [this]
    · by_cases d : x.toNat = y.toNat
      · have : x = y := UInt8.toNat_inj.1 d
        subst this
        have h2 : A * V ≤ B * U := by
          have e1 : (x.toNat * U + A) * (V * 256) = (x.toNat * U * V + A * V) * 256 := by grind
          have e2 : (x.toNat * V + B) * (U * 256) = (x.toNat * U * V + B * U) * 256 := by grind
          rw [e1, e2] at h
          omega
        have := ih h2
        simp at this ⊢
        exact this
      · exfalso
        have h1 : ((y.toNat : Int) + 1) * V * U ≤ (x.toNat : Int) * V * U := by
          refine Int.mul_le_mul_of_nonneg_right (Int.mul_le_mul_of_nonneg_right (by omega) (by omega)) (by omega)
        have h2 : (B + 1) * U ≤ V * U := Int.mul_le_mul_of_nonneg_right (by omega) (by omega)
        have h3 : 0 ≤ A * V := Int.mul_nonneg ha0 (by omega)
        have e1 : (x.toNat * U + A) * (V * 256) = (x.toNat * V * U + A * V) * 256 := by grind
        have e2 : (y.toNat * V + B) * (U * 256) = (y.toNat * V * U + B * U) * 256 := by grind
        have e3 : ((y.toNat : Int) + 1) * V * U = y.toNat * V * U + V * U := by grind
        have e4 : (B + 1) * U = B * U + U := by grind
        rw [e1, e2] at h
        omega

/-- A part of a range. -/
def In (s t : S) : Prop := ∃ j : Nat, t.k = s.k + j ∧ s.N * 256 ^ j ≤ t.N ∧ t.N + t.R ≤ (s.N + s.R) * 256 ^ j
theorem In.refl (s : S) : In s s := ⟨0, rfl, by simp, by simp⟩
theorem In.trans {s t u : S} (h : In s t) (h' : In t u) : In s u := by
  obtain ⟨i, h1, h2, h3⟩ := h
  obtain ⟨j, h4, h5, h6⟩ := h'
  refine ⟨i + j, by omega, ?_, ?_⟩
  · rw [Int.pow_add, ← Int.mul_assoc]
    exact Int.le_trans (Int.mul_le_mul_of_nonneg_right h2 (Int.le_of_lt (Int.pow_pos (by omega)))) h5
  · rw [Int.pow_add, ← Int.mul_assoc]
    exact Int.le_trans h6 (Int.mul_le_mul_of_nonneg_right h3 (Int.le_of_lt (Int.pow_pos (by omega))))
theorem In.widen : ∀ (n : Nat) (s : S), (16777216 - s.R).toNat = n → In s s.widen := by
  intro n
  induction n using Nat.strongRecOn with
  | _ n ih =>
    intro s hn
    by_cases c : 0 < s.R ∧ s.R < 16777216
    · rw [S.widen_go c.1 c.2]
      refine In.trans ?_ (ih (16777216 - s.R * 256).toNat (by omega) ⟨s.N * 256, s.R * 256, s.k + 1⟩ rfl)
      exact ⟨1, rfl, by simp, by simp only [Int.pow_succ, Int.pow_zero]; omega⟩
    · rw [S.widen, dif_neg c]; exact In.refl s
theorem In.below {s : S} {c r : Int} (h0 : 0 ≤ c) (hr : r ≤ s.R) : In s ⟨s.N, r, s.k⟩ := ⟨0, rfl, by simp, by simp; omega⟩
theorem In.above {s : S} {c r : Int} (h0 : 0 ≤ c) (hr : c + r ≤ s.R) : In s ⟨s.N + c, r, s.k⟩ := ⟨0, rfl, by simp; omega, by simp; omega⟩

/-- The two ways of a bit. -/
theorem ways (a : LS) (h : LS.Ok a) (i : Int) (h0 : 0 ≤ i) (h1 : i ≤ 4) : ∃ c r : Int, 0 < c ∧ 0 < r ∧ c + r ≤ a.s.R ∧ In ⟨a.s.N, c, a.s.k⟩ (a.lay i false).s ∧ In ⟨a.s.N + c, r, a.s.k⟩ (a.lay i true).s := by
  have r0 := h.s.r0
  unfold LS.lay
  by_cases c : i = 4
  · rw [if_pos c, if_pos c]
    refine ⟨a.s.R / 2, a.s.R / 2, by omega, by omega, by omega, ?_, ?_⟩
    · exact In.widen _ ⟨a.s.N, a.s.R / 2, a.s.k⟩ rfl
    · exact In.widen _ ⟨a.s.N + a.s.R / 2, a.s.R / 2, a.s.k⟩ rfl
  · rw [if_neg c, if_neg c]
    have hp := h.get h0 (by omega)
    have c1 := B.bound_pos (rng := a.s.R) h.s.r0 hp.1
    have c2 := B.bound_lt (rng := a.s.R) (p := a.l.getD i.toNat 0) h.s.r0
    refine ⟨B.bound a.s.R (a.l.getD i.toNat 0), a.s.R - B.bound a.s.R (a.l.getD i.toNat 0), c1, by omega, by omega, ?_, ?_⟩
    · exact In.widen _ ⟨a.s.N, B.bound a.s.R (a.l.getD i.toNat 0), a.s.k⟩ rfl
    · exact In.widen _ ⟨a.s.N + B.bound a.s.R (a.l.getD i.toNat 0), a.s.R - B.bound a.s.R (a.l.getD i.toNat 0), a.s.k⟩ rfl
theorem In.lay (a : LS) (h : LS.Ok a) (i : Int) (h0 : 0 ≤ i) (h1 : i ≤ 4) (one : Bool) : In a.s (a.lay i one).s := by
  obtain ⟨c, r, c0, r0, hs, i0, i1⟩ := ways a h i h0 h1
  cases one
  · exact (In.below (c := 0) (by omega) (by omega)).trans i0
  · exact (In.above (by omega) hs).trans i1
theorem In.lays (a : LS) (h : LS.Ok a) (r : List (Int × Bool)) (hr : ∀ p ∈ r, 0 ≤ p.1 ∧ p.1 ≤ 4) : In a.s (a.lays r).s := by
  induction r using snoc_ind with
  | h0 => exact In.refl _
  | h1 r p ih =>
    rw [LS.lays_snoc]
    have hr' : ∀ p ∈ r, 0 ≤ p.1 ∧ p.1 ≤ 4 := fun q hq => hr q (List.mem_append_left _ hq)
    have hp := hr p (by simp)
    exact (ih hr').trans (In.lay _ (h.lays r hr').1 _ hp.1 hp.2 _)

theorem Ok.num {s : S} (h : Ok s) : num s.bytes = s.N ∧ s.bytes.length = s.k + 5 := by
  refine ⟨?_, digits_length _ _⟩
  rw [S.bytes, num_digits]
  have := h.top
  have h0 := h.n0
  have h1 := h.r0
  refine Int.emod_eq_of_lt h0 ?_
  rw [Int.pow_add]
  have : (256 : Int) ^ 5 = 1099511627776 := by decide
  rw [this]
  generalize (256 : Int) ^ s.k = W at *
  omega

theorem order_le {s t : S} (hs : Ok s) (ht : Ok t) (h : In s t) : (Op.bytesLess s.bytes t.bytes || s.bytes == t.bytes) = true := by
  obtain ⟨n1, l1⟩ := hs.num
  obtain ⟨n2, l2⟩ := ht.num
  obtain ⟨j, h1, h2, _⟩ := h
  refine lex_le _ _ (by omega) ?_
  rw [n1, n2, l1, l2, h1]
  have e : (256 : Int) ^ (s.k + j + 5) = 256 ^ j * 256 ^ (s.k + 5) := by rw [← Int.pow_add]; congr 1; omega
  rw [e, ← Int.mul_assoc]
  exact Int.mul_le_mul_of_nonneg_right h2 (Int.le_of_lt (Int.pow_pos (by omega)))

theorem order_lt {s t : S} {N k : Int} {k : Nat} {c r : Int} (hs : Ok s) (ht : Ok t) (h : In ⟨N, c, k⟩ s) (h' : In ⟨N + c, r, k⟩ t) : Op.bytesLess s.bytes t.bytes = true := by
  obtain ⟨n1, l1⟩ := hs.num
  obtain ⟨n2, l2⟩ := ht.num
  obtain ⟨i, h1, _, h2⟩ := h
  obtain ⟨j, h3, h4, _⟩ := h'
  refine lex_lt _ _ ?_
  have hr := hs.r0
  simp only at h1 h2 h3 h4
  rw [n1, n2, l1, l2, h1, h3]
  have e1 : (256 : Int) ^ (k + j + 5) = 256 ^ j * 256 ^ (k + 5) := by rw [← Int.pow_add]; congr 1; omega
  have e2 : (256 : Int) ^ (k + i + 5) = 256 ^ i * 256 ^ (k + 5) := by rw [← Int.pow_add]; congr 1; omega
  have p1 : (0 : Int) < 256 ^ i := Int.pow_pos (by omega)
  have p2 : (0 : Int) < 256 ^ j := Int.pow_pos (by omega)
  have p3 : (0 : Int) < 256 ^ (k + 5) := Int.pow_pos (by omega)
  rw [e1, e2]
  generalize (256 : Int) ^ i = U at *
  generalize (256 : Int) ^ j = V at *
  generalize (256 : Int) ^ (k + 5) = Z at *
  have q1 : s.N * V < (N + c) * U * V := Int.mul_lt_mul_of_pos_right (by omega) p2
  have q2 : (N + c) * V * U ≤ t.N * U := Int.mul_le_mul_of_nonneg_right h4 (by omega)
  have q3 : (N + c) * U * V = (N + c) * V * U := by grind
  have q4 : s.N * V < t.N * U := by omega
  have q5 : s.N * V * Z < t.N * U * Z := Int.mul_lt_mul_of_pos_right q4 p3
  have e3 : s.N * (V * Z) = s.N * V * Z := by grind
  have e4 : t.N * (U * Z) = t.N * U * Z := by grind
  rw [e3, e4]; exact q5
end R
end Go.Proofs.Ytoejaggkedlfmaa
