/-
  The range encoder as numbers: the low end is a whole number of any size, the program's state stands for it.
-/
import Derived.Test.YtbgnnjfpiblkmaaDoorKey
namespace Go.Proofs.YtbgnnjfpiblkmaaDoor
open Go
set_option linter.unusedSimpArgs false
set_option linter.unnecessarySimpa false
set_option linter.unusedSectionVars false
set_option linter.unusedVariables false
namespace R

/-! ### Digits -/

theorem snoc_ind {α : Type} {p : List α → Prop} (h0 : p []) (h1 : ∀ l b, p l → p (l ++ [b])) (l : List α) : p l := by
  have : ∀ m : List α, p m.reverse := by
    intro m
    induction m with
    | nil => exact h0
    | cons b m ih => rw [List.reverse_cons]; exact h1 _ _ ih
  have := this l.reverse
  rwa [List.reverse_reverse] at this

def num (l : List UInt8) : Int := l.foldl (fun n b => n * 256 + (b.toNat : Int)) 0
theorem foldl_num (l : List UInt8) : ∀ n : Int, l.foldl (fun n b => n * 256 + (b.toNat : Int)) n = n * 256 ^ l.length + num l := by
  induction l with
  | nil => intro n; simp [num]
  | cons b l ih =>
    intro n
    simp only [num, List.foldl_cons, List.length_cons]
    rw [ih, ih (0 * 256 + (b.toNat : Int)), Int.pow_succ]
    grind
theorem num_append (l m : List UInt8) : num (l ++ m) = num l * 256 ^ m.length + num m := by
  rw [num, List.foldl_append, foldl_num]; rfl
theorem num_snoc (l : List UInt8) (b : UInt8) : num (l ++ [b]) = num l * 256 + (b.toNat : Int) := by
  rw [num_append]; simp [num]
theorem num_nonneg (l : List UInt8) : 0 ≤ num l := by
  induction l using snoc_ind with
  | h0 => simp [num]
  | h1 l b ih => rw [num_snoc]; omega
theorem num_lt (l : List UInt8) : num l < 256 ^ l.length := by
  induction l using snoc_ind with
  | h0 => simp [num]
  | h1 l b ih =>
    rw [num_snoc, List.length_append, List.length_cons, List.length_nil, Int.pow_succ]
    have := b.toNat_lt
    omega

def digits (n : Int) : Nat → List UInt8
  | 0 => []
  | k + 1 => digits (n / 256) k ++ [byteOf n]
theorem digits_length (k : Nat) : ∀ n : Int, (digits n k).length = k := by
  induction k with
  | zero => intro n; rfl
  | succ k ih => intro n; simp [digits, ih]
theorem num_digits (k : Nat) : ∀ n : Int, num (digits n k) = n % 256 ^ k := by
  induction k with
  | zero => intro n; simp [digits, num, Int.emod_one]
  | succ k ih =>
    intro n
    rw [digits, num_snoc, ih, byteOf_toNat, Int.pow_succ]
    have p : (0 : Int) < 256 ^ k := Int.pow_pos (by omega)
    generalize (256 : Int) ^ k = q at p
    have h1 := Int.emod_add_mul_ediv n 256
    have h2 := Int.emod_add_mul_ediv (n / 256) q
    have h3 := Int.emod_add_mul_ediv n (q * 256)
    have h4 : n / 256 / q = n / (q * 256) := by rw [Int.ediv_ediv_of_nonneg (by omega)]; congr 1; grind
    rw [h4] at h2
    generalize n / (q * 256) = d at h2 h3
    generalize n / 256 = c at h1 h2 ⊢
    generalize c % q = e at h2 ⊢
    grind
theorem digits_num (l : List UInt8) : digits (num l) l.length = l := by
  induction l using snoc_ind with
  | h0 => rfl
  | h1 l b ih =>
    rw [List.length_append, List.length_cons, List.length_nil, digits, num_snoc]
    have := b.toNat_lt
    have h1 : (num l * 256 + (b.toNat : Int)) / 256 = num l := by omega
    have h2 : byteOf (num l * 256 + (b.toNat : Int)) = b := by
      apply UInt8.toNat_inj.1
      have := byteOf_toNat (num l * 256 + (b.toNat : Int))
      omega
    rw [h1, ih, h2]
theorem num_inj {l m : List UInt8} (hl : l.length = m.length) (h : num l = num m) : l = m := by
  rw [← digits_num l, ← digits_num m, h, hl]
theorem digits_of {l : List UInt8} {n : Int} {k : Nat} (hl : l.length = k) (h : num l = n) : l = digits n k := by
  rw [← hl, ← h, digits_num]
theorem digits_mul (n : Int) (k : Nat) : digits (n * 256) (k + 1) = digits n k ++ [0] := by
  have h1 : n * 256 / 256 = n := by omega
  have h2 : byteOf (n * 256) = 0 := by
    apply UInt8.toNat_inj.1
    have := byteOf_toNat (n * 256)
    have e : ((0 : UInt8).toNat) = 0 := rfl
    omega
  rw [digits, h1, h2]

/-! ### The document's state -/

structure S where
  N : Int
  R : Int
  k : Nat

def S.new : S := ⟨0, 4294967295, 0⟩
def S.widen (s : S) : S := if h : 0 < s.R ∧ s.R < 16777216 then S.widen ⟨s.N * 256, s.R * 256, s.k + 1⟩ else s
termination_by (16777216 - s.R).toNat
decreasing_by omega
theorem S.widen_go {s : S} (h0 : 0 < s.R) (h1 : s.R < 16777216) : s.widen = S.widen ⟨s.N * 256, s.R * 256, s.k + 1⟩ := by
  rw [S.widen, dif_pos ⟨h0, h1⟩]
theorem S.widen_no {s : S} (h1 : ¬ s.R < 16777216) : s.widen = s := by
  rw [S.widen, dif_neg (by omega)]
def S.cut (s : S) (c bit : Int) : S := (if bit = 0 then ⟨s.N, c, s.k⟩ else ⟨s.N + c, s.R - c, s.k⟩ : S).widen
/-- One bit without a probability. -/
def S.one (s : S) (bit : Int) : S := (if bit = 1 then ⟨s.N + s.R / 2, s.R / 2, s.k⟩ else ⟨s.N, s.R / 2, s.k⟩ : S).widen
/-- The n lowest bits of v, the highest first. -/
def S.direct (s : S) (v : Int) : Nat → S
  | 0 => s
  | n + 1 => S.direct (s.one (v / 2 ^ n % 2)) v n
def S.bytes (s : S) : List UInt8 := digits s.N (s.k + 5)

/-- What is known of a state. -/
structure Ok (s : S) : Prop where
  n0 : 0 ≤ s.N
  r0 : 16777216 ≤ s.R
  r1 : s.R < 4294967296
  top : s.N + s.R ≤ 4294967296 * 256 ^ s.k

theorem Ok.new : Ok S.new := ⟨by decide, by decide, by decide, by decide⟩
theorem widen_ok : ∀ (n : Nat) (s : S), (16777216 - s.R).toNat = n → 0 ≤ s.N → 0 < s.R → s.R < 4294967296 → s.N + s.R ≤ 4294967296 * 256 ^ s.k → Ok s.widen := by
  intro n
  induction n using Nat.strongRecOn with
  | _ n ih =>
    intro s hn h0 h1 h2 h3
    by_cases c : s.R < 16777216
    · rw [S.widen_go h1 c]
      refine ih (16777216 - s.R * 256).toNat (by omega) ⟨s.N * 256, s.R * 256, s.k + 1⟩ rfl (by simp only; omega) (by simp only; omega) (by simp only; omega) ?_
      simp only [Int.pow_succ]
      generalize (256 : Int) ^ s.k = W at h3 ⊢
      omega
    · rw [S.widen_no c]
      exact ⟨h0, by omega, h2, h3⟩
theorem Ok.cut {s : S} (h : Ok s) (c bit : Int) (h0 : 0 < c) (h1 : c < s.R) : Ok (s.cut c bit) := by
  obtain ⟨a1, a2, a3, a4⟩ := h
  unfold S.cut
  split
  · exact widen_ok _ _ rfl a1 h0 (by simp only; omega) (by simp only; omega)
  · exact widen_ok _ _ rfl (by simp only; omega) (by simp only; omega) (by simp only; omega) (by simp only; omega)
theorem Ok.one {s : S} (h : Ok s) (bit : Int) : Ok (s.one bit) := by
  obtain ⟨a1, a2, a3, a4⟩ := h
  unfold S.one
  split
  · exact widen_ok _ _ rfl (by simp only; omega) (by simp only; omega) (by simp only; omega) (by simp only; omega)
  · exact widen_ok _ _ rfl a1 (by simp only; omega) (by simp only; omega) (by simp only; omega)
theorem Ok.direct (v : Int) (n : Nat) : ∀ {s : S}, Ok s → Ok (s.direct v n) := by
  induction n with
  | zero => intro s h; exact h
  | succ n ih => intro s h; exact ih (h.one _)

/-! How far the shifts go -/
theorem widen_mono_n : ∀ (n : Nat) (s : S), (16777216 - s.R).toNat = n → s.k ≤ s.widen.k := by
  intro n
  induction n using Nat.strongRecOn with
  | _ n ih =>
    intro s hn
    by_cases c : 0 < s.R ∧ s.R < 16777216
    · rw [S.widen_go c.1 c.2]
      have := ih (16777216 - s.R * 256).toNat (by omega) ⟨s.N * 256, s.R * 256, s.k + 1⟩ rfl
      simp only at this
      omega
    · rw [S.widen, dif_neg c]; exact Nat.le_refl _
theorem widen_mono (s : S) : s.k ≤ s.widen.k := widen_mono_n _ s rfl
theorem widen_k : ∀ (n : Nat) (s : S), (16777216 - s.R).toNat = n → 0 < s.R → s.widen.k ≤ s.k + 3 ∧ (65536 ≤ s.R → s.widen.k ≤ s.k + 1) := by
  have step : ∀ s : S, 16777216 ≤ s.R → s.widen.k = s.k := fun s h => by rw [S.widen_no (by omega)]
  have s1 : ∀ s : S, 65536 ≤ s.R → s.widen.k ≤ s.k + 1 := fun s h => by
    by_cases c : s.R < 16777216
    · rw [S.widen_go (by omega) c, step _ (by simp only; omega)]; exact Nat.le_refl _
    · rw [step s (by omega)]; omega
  have s2 : ∀ s : S, 256 ≤ s.R → s.widen.k ≤ s.k + 2 := fun s h => by
    by_cases c : s.R < 16777216
    · rw [S.widen_go (by omega) c]; have := s1 ⟨s.N * 256, s.R * 256, s.k + 1⟩ (by simp only; omega); simp only at this; omega
    · rw [step s (by omega)]; omega
  intro n s _ h
  refine ⟨?_, s1 s⟩
  by_cases c : s.R < 16777216
  · rw [S.widen_go (by omega) c]; have := s2 ⟨s.N * 256, s.R * 256, s.k + 1⟩ (by simp only; omega); simp only at this; omega
  · rw [step s (by omega)]; omega
theorem cut_k {s : S} (h : Ok s) (c bit : Int) (h0 : 0 < c) (h1 : c < s.R) : (s.cut c bit).k ≤ s.k + 3 := by
  unfold S.cut
  split
  · exact (widen_k _ ⟨s.N, c, s.k⟩ rfl h0).1
  · exact (widen_k _ ⟨s.N + c, s.R - c, s.k⟩ rfl (by simp only; omega)).1
theorem one_k {s : S} (h : Ok s) (bit : Int) : (s.one bit).k ≤ s.k + 1 := by
  have := h.r0
  unfold S.one
  split
  · exact (widen_k _ ⟨s.N + s.R / 2, s.R / 2, s.k⟩ rfl (by simp only; omega)).2 (by simp only; omega)
  · exact (widen_k _ ⟨s.N, s.R / 2, s.k⟩ rfl (by simp only; omega)).2 (by simp only; omega)

/-! ### The program's state -/

structure E where
  low : Int
  rng : Int
  held : UInt8
  wait : Nat
  out : List UInt8

def E.new : E := ⟨0, 4294967295, 0, 0, []⟩
def E.V (e : E) : Int := ((num e.out * 256 + e.held.toNat) * 256 ^ e.wait + (256 ^ e.wait - 1)) * 4294967296 + e.low

structure Inv (e : E) : Prop where
  l0 : 0 ≤ e.low
  r0 : 0 < e.rng
  sum : e.low + e.rng < 8589934592
  held : e.held.toNat = 255 → e.low + e.rng ≤ 4294967296

def E.shift (e : E) : E :=
  if e.low < 4278190080 ∨ 4294967295 < e.low then
    ⟨e.low % 16777216 * 256, e.rng, byteOf (e.low / 16777216), 0, e.out ++ [e.held + byteOf (e.low / 4294967296)] ++ List.replicate e.wait (255 + byteOf (e.low / 4294967296))⟩
  else ⟨e.low % 16777216 * 256, e.rng, e.held, e.wait + 1, e.out⟩

theorem shift_low (e : E) : e.shift.low = e.low % 16777216 * 256 := by unfold E.shift; split <;> rfl
theorem shift_rng (e : E) : e.shift.rng = e.rng := by unfold E.shift; split <;> rfl
theorem shift_len (e : E) : e.shift.out.length + e.shift.wait = e.out.length + e.wait + 1 := by
  unfold E.shift; split <;> simp <;> omega

theorem shift_with (e : E) (r : Int) : ({ e with rng := r } : E).shift = { e.shift with rng := r } := by unfold E.shift; split <;> rfl

theorem num_replicate (b : UInt8) (n : Nat) : num (List.replicate n b) * 255 = b.toNat * (256 ^ n - 1) := by
  induction n with
  | zero => simp [num]
  | succ n ih =>
    rw [List.replicate_succ', num_snoc, Int.pow_succ]
    grind

theorem shift_V {e : E} (h : Inv e) : e.shift.V = e.V * 256 := by
  obtain ⟨h1, h2, h3, h4⟩ := h
  have hh := e.held.toNat_lt
  unfold E.shift
  have p : (0 : Int) < 256 ^ e.wait := Int.pow_pos (by omega)
  by_cases c : e.low < 4278190080 ∨ 4294967295 < e.low
  · rw [if_pos c]
    have ehb := byteOf_toNat (e.low / 16777216)
    have ec := byteOf_toNat (e.low / 4294967296)
    simp only [E.V, Int.pow_zero]
    rw [num_append, num_snoc, List.length_replicate]
    have er := num_replicate (255 + byteOf (e.low / 4294967296)) e.wait
    generalize (256 : Int) ^ e.wait = W at p er ⊢
    rcases c with c | c
    · have e0 : byteOf (e.low / 4294967296) = 0 := by
        apply UInt8.toNat_inj.1
        have e : ((0 : UInt8).toNat) = 0 := rfl
        omega
      rw [e0] at er ⊢
      have e1 : ((255 + 0 : UInt8).toNat : Int) = 255 := rfl
      have e2 : e.held + 0 = e.held := by simp
      rw [e1] at er
      rw [e2, ehb]
      have er' : num (List.replicate e.wait (255 + 0 : UInt8)) = W - 1 := by omega
      rw [er']
      have e3 : e.low / 16777216 % 256 * 4294967296 + e.low % 16777216 * 256 = e.low * 256 := by omega
      grind
    · have e0 : byteOf (e.low / 4294967296) = 1 := by
        apply UInt8.toNat_inj.1
        have e : ((1 : UInt8).toNat) = 1 := rfl
        omega
      rw [e0] at er ⊢
      have e1 : ((255 + 1 : UInt8).toNat : Int) = 0 := rfl
      rw [e1] at er
      have hne : e.held.toNat ≠ 255 := fun hc => by have := h4 hc; omega
      have e2 : ((e.held + 1).toNat : Int) = e.held.toNat + 1 := by
        rw [UInt8.toNat_add]
        have e : ((1 : UInt8).toNat) = 1 := rfl
        omega
      rw [e2, ehb]
      have er' : num (List.replicate e.wait (255 + 1 : UInt8)) = 0 := by omega
      rw [er']
      have e3 : e.low / 16777216 % 256 * 4294967296 + e.low % 16777216 * 256 = (e.low - 4294967296) * 256 := by omega
      grind
  · rw [if_neg c]
    simp only [E.V, Int.pow_succ]
    generalize (256 : Int) ^ e.wait = W at p ⊢
    have e3 : e.low % 16777216 = e.low - 4278190080 := by omega
    rw [e3]
    grind

theorem shift_inv {e : E} (h : Inv e) (r : Int) (hr0 : 0 < r) (hr1 : r ≤ e.rng * 256) (hr2 : r < 4294967296) : Inv { e.shift with rng := r } := by
  obtain ⟨h1, h2, h3, h4⟩ := h
  have hl := shift_low e
  refine ⟨by simp only [hl]; omega, hr0, by simp only [hl]; omega, fun hh => ?_⟩
  simp only [hl]
  unfold E.shift at hh
  split at hh
  · rename_i c
    simp only at hh
    have := byteOf_toNat (e.low / 16777216)
    rcases c with c | c <;> omega
  · rename_i c
    have := h4 hh
    omega

/-- The program's state stands for the document's. -/
structure Rep (e : E) (s : S) : Prop where
  inv : Inv e
  val : e.V = s.N
  rng : e.rng = s.R
  len : e.out.length + e.wait = s.k

theorem Rep.new : Rep E.new S.new := by
  refine ⟨⟨by decide, by decide, by decide, fun h => ?_⟩, by decide, rfl, rfl⟩
  cases h

theorem Rep.shift {e : E} {s : S} (h : Rep e s) (r : Int) (hr0 : 0 < r) (hr1 : r ≤ e.rng * 256) (hr2 : r < 4294967296) : Rep { e.shift with rng := r } ⟨s.N * 256, r, s.k + 1⟩ := by
  refine ⟨shift_inv h.inv r hr0 hr1 hr2, ?_, rfl, ?_⟩
  · have := shift_V h.inv
    rw [h.val] at this
    exact this
  · have := shift_len e
    rw [h.len] at this
    exact this

theorem Rep.shift0 {e : E} {s : S} (h : Rep e s) (hr : e.rng < 4294967296) : Rep e.shift ⟨s.N * 256, e.rng, s.k + 1⟩ := by
  have := h.shift e.rng h.inv.r0 (by have := h.inv.r0; omega) hr
  have e1 : { e.shift with rng := e.rng } = e.shift := by rw [← shift_rng e]
  rwa [e1] at this
def E.shifts (e : E) : Nat → E
  | 0 => e
  | n + 1 => (E.shifts e n).shift

theorem Rep.bytes {e : E} {s : S} (h : Rep e s) (hr : e.rng < 4294967296) : e.shift.shift.shift.shift.shift.out = s.bytes ∧ e.shift.shift.shift.shift.shift.out.length = s.k + 5 := by
  have st : ∀ {e : E} {s : S}, Rep e s → e.rng < 4294967296 → Rep e.shift ⟨s.N * 256, e.rng, s.k + 1⟩ := by
    intro e s h hr
    have := h.shift e.rng h.inv.r0 (by have := h.inv.r0; omega) hr
    have e1 : { e.shift with rng := e.rng } = e.shift := by rw [← shift_rng e]
    rwa [e1] at this
  have h1 := st h hr
  have r1 := shift_rng e
  have h2 := st h1 (by rw [r1]; exact hr)
  have r2 := shift_rng e.shift
  have h3 := st h2 (by rw [r2, r1]; exact hr)
  have r3 := shift_rng e.shift.shift
  have h4 := st h3 (by rw [r3, r2, r1]; exact hr)
  have r4 := shift_rng e.shift.shift.shift
  have h5 := st h4 (by rw [r4, r3, r2, r1]; exact hr)
  have l0 := h.inv.l0
  have l1 := shift_low e
  have l2 := shift_low e.shift
  have l3 := shift_low e.shift.shift
  have l4 := shift_low e.shift.shift.shift
  have l4' : e.shift.shift.shift.shift.low = 0 := by omega
  have hv := h5.val
  have hl := h5.len
  generalize e.shift.shift.shift.shift = f at l4' hv hl ⊢
  have e5 : f.shift = ⟨0, f.rng, byteOf (f.low / 16777216), 0, f.shift.out⟩ := by
    unfold E.shift
    rw [if_pos (by omega), l4']
    rfl
  rw [e5] at hv hl
  simp only [E.V, Int.pow_zero, l4'] at hv hl
  have e6 : ((byteOf (0 / 16777216)).toNat : Int) = 0 := by rw [byteOf_toNat]; rfl
  rw [e6] at hv
  have hl5 : f.shift.out.length = s.k + 5 := by omega
  refine ⟨?_, hl5⟩
  unfold S.bytes
  exact digits_of hl5 (by omega)
end R
end Go.Proofs.YtbgnnjfpiblkmaaDoor
