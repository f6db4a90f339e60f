/-
  Chapter 10 as plain data: the bytes that came, and the ring that holds the last of them.
-/
import Derived.Test.YtbgnnjfpiblkmaaDoorTypes
namespace Go.Proofs.YtbgnnjfpiblkmaaDoor
open Go
set_option linter.unusedSimpArgs false
set_option linter.unnecessarySimpa false
set_option linter.unusedSectionVars false
set_option linter.unusedVariables false
namespace Z

structure W where
  size : Int
  all : List UInt8
structure W.Ok (x : W) : Prop where
  s0 : 1 ≤ x.size
  s1 : x.size ≤ 4294967295
  n : x.all.length ≤ 4611686018427387904
def W.full (x : W) : Nat := min x.all.length x.size.toNat
def W.last (x : W) (d : Nat) : UInt8 := (x.all[x.all.length - d]?).getD 0
def W.has (x : W) (d : Int) : Prop := 1 ≤ d ∧ d ≤ x.full
instance (x : W) (d : Int) : Decidable (x.has d) := by unfold W.has; exact inferInstance

def ix (at_ n d : Nat) : Nat := if d ≤ at_ then at_ - d else at_ + n - d
/-- The ring. -/
structure Rep (size : Nat) (all ring : List UInt8) (at_ : Nat) : Prop where
  len : ring.length = min all.length size
  le : at_ ≤ ring.length
  grow : ring.length < size → at_ = ring.length
  get : ∀ d, 1 ≤ d → d ≤ ring.length → ring[ix at_ ring.length d]? = all[all.length - d]?
theorem Rep.new (size : Nat) : Rep size [] [] 0 := ⟨by simp, by simp, fun _ => rfl, fun d h1 h2 => by simp at h2; omega⟩
theorem Rep.small {size : Nat} {all ring : List UInt8} {at_ : Nat} (h : Rep size all ring at_) (hg : ring.length < size) : ring = all ∧ at_ = ring.length := by
  have h1 := h.len
  have h2 := h.grow hg
  refine ⟨List.ext_getElem? fun i => ?_, h2⟩
  by_cases hi : i < ring.length
  · have := h.get (ring.length - i) (by omega) (by omega)
    rw [ix, if_pos (by omega), h2] at this
    rw [show ring.length - (ring.length - i) = i from by omega] at this
    rw [this]; congr 1; omega
  · rw [List.getElem?_eq_none (by omega), List.getElem?_eq_none (by omega)]
theorem Rep.grown {size : Nat} {all ring : List UInt8} {at_ : Nat} (h : Rep size all ring at_) (g : List UInt8) (hg : 0 < g.length) (hl : ring.length + g.length ≤ size) : Rep size (all ++ g) (ring ++ g) (ring ++ g).length := by
  obtain ⟨rfl, _⟩ := h.small (by omega)
  refine ⟨by simp; omega, Nat.le_refl _, fun _ => rfl, fun d h1 h2 => by rw [ix, if_pos h2]⟩
/-- Where it is full: a part is written over. -/
theorem Rep.turned {all ring : List UInt8} {at_ : Nat} (h : Rep ring.length all ring at_) (g : List UInt8) (hl : at_ + g.length ≤ ring.length) : Rep ring.length (all ++ g) (ring.take at_ ++ g ++ ring.drop (at_ + g.length)) (at_ + g.length) := by
  have hlen := h.len
  have hl2 : (ring.take at_ ++ g ++ ring.drop (at_ + g.length)).length = ring.length := by simp; omega
  refine ⟨by rw [hl2]; simp; omega, by rw [hl2]; exact hl, fun h' => by rw [hl2] at h'; omega, fun d h1 h2 => ?_⟩
  rw [hl2] at h2 ⊢
  by_cases hd : d ≤ g.length
  · rw [ix, if_pos (by omega), List.append_assoc, List.getElem?_append_right (by simp; omega), List.length_take, Nat.min_eq_left (by omega), List.getElem?_append_left (by omega)]
    rw [List.getElem?_append_right (by simp; omega), List.length_append]
    congr 1; omega
  · have h3 := h.get (d - g.length) (by omega) (by omega)
    have e2 : (all ++ g)[(all ++ g).length - d]? = all[all.length - (d - g.length)]? := by
      have e3 : (all ++ g).length - d = all.length - (d - g.length) := by simp; omega
      rw [e3, List.getElem?_append_left (by omega)]
    rw [e2, ← h3]
    unfold ix
    by_cases h4 : d ≤ at_ + g.length
    · rw [if_pos h4, if_pos (by omega), List.append_assoc, List.getElem?_append_left (by simp; omega), List.getElem?_take, if_pos (by omega)]
      congr 1; omega
    · rw [if_neg h4, if_neg (by omega), List.getElem?_append_right (by simp; omega), List.getElem?_drop]
      simp only [List.length_append, List.length_take]
      congr 1; omega
theorem Rep.wrap {all ring : List UInt8} (h : Rep ring.length all ring ring.length) : Rep ring.length all ring 0 :=
  ⟨h.len, Nat.zero_le _, fun h' => by omega, fun d h1 h2 => by
    have := h.get d h1 h2
    rw [ix, if_pos h2] at this
    rw [ix, if_neg (by omega), ← this, Nat.zero_add]⟩
/-- Only the last bytes count. -/
theorem Rep.suffix {size : Nat} {all g ring : List UInt8} {at_ : Nat} {pre : List UInt8} (h : Rep size (all ++ g) ring at_) (hg : size ≤ g.length) : Rep size (all ++ (pre ++ g)) ring at_ := by
  have hl := h.len
  simp only [List.length_append] at hl
  refine ⟨by simp; omega, h.le, h.grow, fun d h1 h2 => ?_⟩
  rw [h.get d h1 h2, List.getElem?_append_right (by simp; omega), List.getElem?_append_right (by simp; omega), List.getElem?_append_right (by simp; omega)]
  congr 1
  simp; omega

/-- Bytes, each the one that came d before it. -/
def cpy (all : List UInt8) (d : Nat) : Nat → List UInt8
  | 0 => []
  | n + 1 => cpy all d n ++ [((all ++ cpy all d n)[(all ++ cpy all d n).length - d]?).getD 0]
theorem cpy_len (all : List UInt8) (d n : Nat) : (cpy all d n).length = n := by
  induction n with
  | zero => rfl
  | succ n ih => simp [cpy, ih]

end Z
end Go.Proofs.YtbgnnjfpiblkmaaDoor
