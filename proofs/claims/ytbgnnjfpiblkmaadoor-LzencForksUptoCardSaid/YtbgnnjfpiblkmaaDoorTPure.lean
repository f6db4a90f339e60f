/-
  Numbers as bits along a tree of probabilities, in plain terms.
-/
import Derived.Test.YtbgnnjfpiblkmaaDoorRPure
import Derived.Test.YtbgnnjfpiblkmaaDoorProb
namespace Go.Proofs.YtbgnnjfpiblkmaaDoor
open Go
set_option linter.unusedSimpArgs false
set_option linter.unnecessarySimpa false
set_option linter.unusedSectionVars false
set_option linter.unusedVariables false
namespace R
theorem two_le {m n : Nat} (h : m ≤ n) : (2 : Int) ^ m ≤ 2 ^ n := by
  have := Nat.pow_le_pow_right (n := 2) (by omega) h
  have e : ∀ k : Nat, (2 : Int) ^ k = ((2 ^ k : Nat) : Int) := fun k => by norm_cast
  rw [e, e]; omega
/-- An encoder's numbers and its row, of any length. -/
structure TS where
  s : S
  l : List Int
/-- The k-th bit of a number of n bits. -/
def bitAt (back : Bool) (n : Nat) (v : Int) (k : Nat) : Int := v / 2 ^ (if back then k else n - 1 - k) % 2
/-- The node before the k-th bit. -/
def node (bs : Nat → Int) : Nat → Int
  | 0 => 1
  | k + 1 => 2 * node bs k + bs k
def TS.bit (a : TS) (i bit : Int) : TS := ⟨a.s.cut (B.bound a.s.R (a.l.getD i.toNat 0)) bit, a.l.set i.toNat (B.next (a.l.getD i.toNat 0) bit)⟩
def TS.put (a : TS) (at_ : Int) (bs : Nat → Int) : Nat → TS
  | 0 => a
  | k + 1 => (TS.put a at_ bs k).bit (at_ + node bs k) (bs k)
def costs (l : List Int) (at_ : Int) (bs : Nat → Int) : Nat → Int
  | 0 => 0
  | k + 1 => costs l at_ bs k + B.cost (l.getD (at_ + node bs k).toNat 0) (bs k)
/-- Is there such a tree in a row of so many? -/
def There (len : Nat) (at_ n : Int) : Prop := 0 ≤ n ∧ n ≤ 16 ∧ 0 ≤ at_ ∧ at_ ≤ len ∧ 2 ^ n.toNat ≤ len - at_
def Holds (v n : Int) : Prop := 0 ≤ v ∧ v < 2 ^ n.toNat
instance (len : Nat) (at_ n : Int) : Decidable (There len at_ n) := by unfold There; infer_instance
instance (v n : Int) : Decidable (Holds v n) := by unfold Holds; infer_instance

theorem bitAt_01 (back : Bool) (n : Nat) (v : Int) (k : Nat) : 0 ≤ bitAt back n v k ∧ bitAt back n v k ≤ 1 := by
  unfold bitAt; omega
theorem node_lo {bs : Nat → Int} (hb : ∀ k, 0 ≤ bs k ∧ bs k ≤ 1) : ∀ k : Nat, (2 : Int) ^ k ≤ node bs k ∧ node bs k < 2 ^ (k + 1)
  | 0 => by simp [node]
  | k + 1 => by
    have ⟨h1, h2⟩ := node_lo hb k
    have := hb k
    simp only [Int.pow_succ, node] at h2 ⊢
    generalize (2 : Int) ^ k = W at *
    omega
theorem costing_small : ∀ i : Int, 0 ≤ i → i ≤ 127 → 0 ≤ B.costing i ∧ B.costing i ≤ 161 := by
  have h : ∀ j : Fin 128, 0 ≤ B.costing (j.val : Int) ∧ B.costing (j.val : Int) ≤ 161 := by decide +kernel
  intro i h0 h1
  have := h ⟨i.toNat, by omega⟩
  simp only [Int.toNat_of_nonneg h0] at this
  exact this
theorem _root_.Go.Proofs.YtbgnnjfpiblkmaaDoor.B.cost_small (p bit : Int) : 0 ≤ B.cost p bit ∧ B.cost p bit ≤ 161 := by
  have h1 := B.taken_lo p
  have h2 := B.taken_hi p
  unfold B.cost
  split
  · exact costing_small _ (by omega) (by omega)
  · exact costing_small _ (by omega) (by omega)
theorem costs_small (l : List Int) (at_ : Int) (bs : Nat → Int) : ∀ k : Nat, 0 ≤ costs l at_ bs k ∧ costs l at_ bs k ≤ 161 * k
  | 0 => ⟨Int.le_refl _, Int.le_refl _⟩
  | k + 1 => by
    have ⟨h1, h2⟩ := costs_small l at_ bs k
    have := B.cost_small (l.getD (at_ + node bs k).toNat 0) (bs k)
    simp only [costs]
    omega
structure TS.Ok (a : TS) : Prop where
  s : R.Ok a.s
  f : B.Fine a.l
theorem TS.Ok.bit {a : TS} (h : a.Ok) {i : Int} (h0 : 0 ≤ i) (h1 : i < a.l.length) (bit : Int) : (a.bit i bit).Ok ∧ (a.bit i bit).s.k ≤ a.s.k + 3 := by
  have hx : a.l[i.toNat]? = some (a.l.getD i.toNat 0) := by
    rw [List.getD_eq_getElem?_getD, List.getElem?_eq_getElem (show i.toNat < a.l.length by omega)]; rfl
  have hp := h.f.get hx
  have c1 := B.bound_pos (rng := a.s.R) h.s.r0 hp.1
  have c2 := B.bound_lt (rng := a.s.R) (p := a.l.getD i.toNat 0) h.s.r0
  exact ⟨⟨h.s.cut _ _ c1 c2, h.f.set _ ⟨B.next_lo _ hp.1 hp.2, B.next_hi _ hp.1 hp.2⟩⟩, cut_k h.s _ _ c1 c2⟩
theorem TS.bit_len (a : TS) (i bit : Int) : (a.bit i bit).l.length = a.l.length := by simp [TS.bit]
theorem TS.put_len (a : TS) (at_ : Int) (bs : Nat → Int) : ∀ k, (a.put at_ bs k).l.length = a.l.length
  | 0 => rfl
  | k + 1 => by rw [TS.put, TS.bit_len, TS.put_len a at_ bs k]
theorem There.place {len : Nat} {at_ n : Int} (h : There len at_ n) {bs : Nat → Int} (hb : ∀ k, 0 ≤ bs k ∧ bs k ≤ 1) {k : Nat} (hk : k < n.toNat) : 0 ≤ at_ + node bs k ∧ at_ + node bs k < len ∧ at_ < at_ + node bs k := by
  obtain ⟨h1, h2, h3, h4, h5⟩ := h
  have ⟨i1, i2⟩ := node_lo hb k
  have p : (0 : Int) < 2 ^ k := Int.pow_pos (by omega)
  have : (2 : Int) ^ (k + 1) ≤ 2 ^ n.toNat := two_le (by omega)
  omega
theorem TS.Ok.put {a : TS} (h : a.Ok) {at_ n : Int} (ht : There a.l.length at_ n) {bs : Nat → Int} (hb : ∀ k, 0 ≤ bs k ∧ bs k ≤ 1) : ∀ k : Nat, k ≤ n.toNat → (a.put at_ bs k).Ok ∧ (a.put at_ bs k).s.k ≤ a.s.k + 3 * k
  | 0, _ => ⟨h, Nat.le_refl _⟩
  | k + 1, hk => by
    have ⟨i1, i2⟩ := TS.Ok.put h ht hb k (by omega)
    have hp := ht.place hb (k := k) (by omega)
    have hl := a.put_len at_ bs k
    have ⟨j1, j2⟩ := i1.bit (i := at_ + node bs k) hp.1 (by omega) (bs k)
    exact ⟨j1, by simp only [TS.put]; omega⟩
end R
end Go.Proofs.YtbgnnjfpiblkmaaDoor
