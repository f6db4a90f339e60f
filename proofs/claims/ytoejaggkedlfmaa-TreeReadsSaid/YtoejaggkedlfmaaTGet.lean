/-
  Numbers read as bits along a tree of probabilities, in plain terms; what was put is got.
-/
import Derived.Test.YtoejaggkedlfmaaDecFol
namespace Go.Proofs.Ytoejaggkedlfmaa
open Go
set_option linter.unusedSimpArgs false
set_option linter.unnecessarySimpa false
set_option linter.unusedSectionVars false
set_option linter.unusedVariables false

namespace R
/-- The node behind some bits. -/
def nodeL (l : List Int) : Int := l.foldl (fun m b => 2 * m + b) 1
/-- Bits as a number, the highest first. -/
def horner (l : List Int) : Int := l.foldl (fun m b => 2 * m + b) 0
/-- Bits as a number, the lowest first. -/
def backv (l : List Int) : Int := l.foldr (fun b m => b + 2 * m) 0
def val (back : Bool) (l : List Int) : Int := if back then backv l else horner l
theorem nodeL_snoc (l : List Int) (b : Int) : nodeL (l ++ [b]) = 2 * nodeL l + b := by simp [nodeL]
theorem horner_snoc (l : List Int) (b : Int) : horner (l ++ [b]) = 2 * horner l + b := by simp [horner]
theorem backv_snoc (b : Int) : ∀ l : List Int, backv (l ++ [b]) = backv l + b * 2 ^ l.length
  | [] => by simp [backv]
  | x :: l => by
    have := backv_snoc b l
    simp only [backv, List.cons_append, List.foldr_cons, List.length_cons, Int.pow_succ] at this ⊢
    rw [this]
    grind
/-- Bits. -/
def Bits (l : List Int) : Prop := ∀ b ∈ l, b = 0 ∨ b = 1
theorem Bits.snoc {l : List Int} {b : Int} (h : Bits l) (hb : b = 0 ∨ b = 1) : Bits (l ++ [b]) := by
  intro x hx
  rcases List.mem_append.1 hx with hx | hx
  · exact h x hx
  · rw [List.mem_singleton.1 hx]; exact hb
theorem Bits.init {l : List Int} {b : Int} (h : Bits (l ++ [b])) : Bits l ∧ (b = 0 ∨ b = 1) := ⟨fun x hx => h x (List.mem_append_left _ hx), h b (by simp)⟩
theorem nodeL_bd {l : List Int} : Bits l → (2 : Int) ^ l.length ≤ nodeL l ∧ nodeL l < 2 ^ (l.length + 1) := by
  induction l using snoc_ind with
  | h0 => intro _; simp [nodeL]
  | h1 l b ih =>
    intro h
    obtain ⟨h1, h2⟩ := h.init
    have := ih h1
    rw [nodeL_snoc, List.length_append, List.length_cons, List.length_nil, Int.pow_succ, Int.pow_succ _ (l.length + (0 + 1))]
    rw [Int.pow_succ] at this ⊢
    generalize (2 : Int) ^ l.length = q at *
    omega
theorem horner_bd {l : List Int} : Bits l → 0 ≤ horner l ∧ horner l < 2 ^ l.length := by
  induction l using snoc_ind with
  | h0 => intro _; simp [horner]
  | h1 l b ih =>
    intro h
    obtain ⟨h1, h2⟩ := h.init
    have := ih h1
    rw [horner_snoc, List.length_append, List.length_cons, List.length_nil, Int.pow_succ]
    generalize (2 : Int) ^ l.length = q at *
    omega
theorem backv_bd {l : List Int} : Bits l → 0 ≤ backv l ∧ backv l < 2 ^ l.length := by
  induction l using snoc_ind with
  | h0 => intro _; simp [backv]
  | h1 l b ih =>
    intro h
    obtain ⟨h1, h2⟩ := h.init
    have := ih h1
    rw [backv_snoc, List.length_append, List.length_cons, List.length_nil, Int.pow_succ]
    generalize (2 : Int) ^ l.length = q at *
    rcases h2 with rfl | rfl <;> omega
/-- What a reader of so many bits has together behind some. -/
def part (back : Bool) (n : Nat) (l : List Int) : Int := if back then backv l else horner l * 2 ^ (n - l.length)
theorem part_end (back : Bool) (l : List Int) : part back l.length l = val back l := by
  unfold part val; split
  · rfl
  · rw [Nat.sub_self, Int.pow_zero, Int.mul_one]
theorem part_snoc (back : Bool) {n : Nat} {l : List Int} (h : l.length < n) (b : Int) : part back n (l ++ [b]) = part back n l + b * 2 ^ (if back then l.length else n - 1 - l.length) := by
  unfold part
  cases back
  · simp only [Bool.false_eq_true, if_false, horner_snoc, List.length_append, List.length_cons, List.length_nil]
    rw [show n - l.length = (n - 1 - l.length) + 1 from by omega, show n - (l.length + (0 + 1)) = n - 1 - l.length from by omega, Int.pow_succ]
    grind
  · simp only [if_true, backv_snoc]
end R

namespace D
/-- Bits down a tree: the decoder behind them, the bits up to the first refusal, the refusal. -/
def walk (at_ : Int) (z : A) : Nat → A × List Int × Int
  | 0 => (z, [], 0)
  | k + 1 => if (walk at_ z k).2.2 ≠ 0 then walk at_ z k
    else if ((walk at_ z k).1.1.bitQ (walk at_ z k).1.2 (at_ + R.nodeL (walk at_ z k).2.1)).2.2.2 = 0 then
      ((((walk at_ z k).1.1.bitQ (walk at_ z k).1.2 (at_ + R.nodeL (walk at_ z k).2.1)).1, ((walk at_ z k).1.1.bitQ (walk at_ z k).1.2 (at_ + R.nodeL (walk at_ z k).2.1)).2.1), (walk at_ z k).2.1 ++ [((walk at_ z k).1.1.bitQ (walk at_ z k).1.2 (at_ + R.nodeL (walk at_ z k).2.1)).2.2.1], 0)
    else ((walk at_ z k).1, (walk at_ z k).2.1, ((walk at_ z k).1.1.bitQ (walk at_ z k).1.2 (at_ + R.nodeL (walk at_ z k).2.1)).2.2.2)
theorem walk_step {at_ : Int} {z y : A} {k : Nat} {l : List Int} (h : walk at_ z k = (y, l, 0)) : walk at_ z (k + 1) =
    if (y.1.bitQ y.2 (at_ + R.nodeL l)).2.2.2 = 0 then (((y.1.bitQ y.2 (at_ + R.nodeL l)).1, (y.1.bitQ y.2 (at_ + R.nodeL l)).2.1), l ++ [(y.1.bitQ y.2 (at_ + R.nodeL l)).2.2.1], 0) else (y, l, (y.1.bitQ y.2 (at_ + R.nodeL l)).2.2.2) := by
  rw [walk, h]
  simp only [ne_eq, not_true_eq_false, if_false]
theorem walk_stuck {at_ : Int} {z : A} {k : Nat} (h : (walk at_ z k).2.2 ≠ 0) : ∀ j, walk at_ z (k + j) = walk at_ z k
  | 0 => rfl
  | j + 1 => by
    have e := walk_stuck h j
    have h2 : (walk at_ z (k + j)).2.2 ≠ 0 := by rw [e]; exact h
    rw [← Nat.add_assoc, walk, if_pos h2, e]
theorem walk_ok {at_ : Int} {z : A} (hz : AOk z) : ∀ k, AOk (walk at_ z k).1 ∧ Same (walk at_ z k).1 z ∧ R.Bits (walk at_ z k).2.1 ∧ ((walk at_ z k).2.2 = 0 → (walk at_ z k).2.1.length = k)
  | 0 => ⟨hz, ⟨rfl, rfl⟩, fun _ h => by simp [walk] at h, fun _ => rfl⟩
  | k + 1 => by
    obtain ⟨h1, h2, h3, h4⟩ := walk_ok (at_ := at_) hz k
    rw [walk]
    split
    · rename_i he
      exact ⟨h1, h2, h3, fun h => absurd h he⟩
    · rename_i he
      have hb := bitQ_ok h1.s h1.f (at_ + R.nodeL (walk at_ z k).2.1)
      split
      · rename_i h0
        refine ⟨⟨hb.1, hb.2.2.1⟩, ⟨hb.2.1.trans h2.b, hb.2.2.2.trans h2.n⟩, h3.snoc bitQ_v, fun _ => ?_⟩
        simp only [List.length_append, List.length_cons, List.length_nil, h4 (Decidable.not_not.1 he)]
      · rename_i h0
        exact ⟨h1, h2, h3, fun h => absurd h h0⟩
/-- A number got. -/
def gets (z : A) (at_ n : Int) (back : Bool) : A × Int × Int :=
  if R.There z.2.length at_ n then (if (walk at_ z n.toNat).2.2 = 0 then ((walk at_ z n.toNat).1, R.val back (walk at_ z n.toNat).2.1, 0) else ((walk at_ z n.toNat).1, 0, (walk at_ z n.toNat).2.2)) else (z, 0, 7)
theorem gets_ok {z : A} (hz : AOk z) (at_ n : Int) (back : Bool) : AOk (gets z at_ n back).1 ∧ Same (gets z at_ n back).1 z := by
  obtain ⟨h1, h2, _⟩ := walk_ok (at_ := at_) hz n.toNat
  unfold gets
  split
  · split
    · exact ⟨h1, h2⟩
    · exact ⟨h1, h2⟩
  · exact ⟨hz, ⟨rfl, rfl⟩⟩

/-- The bits that were put are got. -/
theorem nodeL_bits (bs : Nat → Int) (bl : Nat → List Int) (h0 : bl 0 = []) (h : ∀ k, bl (k + 1) = bl k ++ [bs k]) : ∀ k, R.nodeL (bl k) = R.node bs k
  | 0 => by rw [h0]; rfl
  | k + 1 => by rw [h, R.nodeL_snoc, nodeL_bits bs bl h0 h k]; rfl
def bitsOf (bs : Nat → Int) : Nat → List Int
  | 0 => []
  | k + 1 => bitsOf bs k ++ [bs k]
theorem bitsOf_len (bs : Nat → Int) : ∀ k, (bitsOf bs k).length = k
  | 0 => rfl
  | k + 1 => by rw [bitsOf, List.length_append, bitsOf_len bs k]; rfl
theorem Fol.put {b : List UInt8} {f : R.S} (hb : Begins b f) {a : R.TS} {d : S} {at_ n : Int} {bs : Nat → Int} (hbs : ∀ k, 0 ≤ bs k ∧ bs k ≤ 1) (ht : R.There a.l.length at_ n) (ho : a.Ok) (h : Fol b f a.s d) :
    ∀ k : Nat, k ≤ n.toNat → In (a.put at_ bs k).s f → In a.s f ∧ ∃ t, walk at_ (d, a.l) k = ((t, (a.put at_ bs k).l), bitsOf bs k, 0) ∧ Fol b f (a.put at_ bs k).s t
  | 0, _, hi => ⟨hi, d, rfl, h⟩
  | k + 1, hk, hi => by
    have hp := ht.place hbs (k := k) (by omega)
    have o1 := (ho.put ht hbs k (by omega)).1
    have hlen := R.TS.put_len a at_ bs k
    have hc := R.bit_mid o1 (i := at_ + R.node bs k) hp.1 (by omega)
    have hbk := hbs k
    have hb01 : bs k = 0 ∨ bs k = 1 := by omega
    simp only [R.TS.put, R.TS.bit] at hi
    obtain ⟨hi2, _⟩ := Fol.bit hb (Fol.at_ b f (a.put at_ bs k).s) (bs k) hb01 hc.1 hc.2 hi
    obtain ⟨h1, t, h2, h3⟩ := Fol.put hb hbs ht ho h k (by omega) hi2
    obtain ⟨_, t2, h4, h5⟩ := h3.bit hb (bs k) hb01 hc.1 hc.2 hi
    refine ⟨h1, t2, ?_, h5⟩
    have hn : R.nodeL (bitsOf bs k) = R.node bs k := nodeL_bits bs (bitsOf bs) rfl (fun _ => rfl) k
    have hq : t.bitQ (a.put at_ bs k).l (at_ + R.node bs k) = (t2, (a.put at_ bs k).l.set (at_ + R.node bs k).toNat (B.next ((a.put at_ bs k).l.getD (at_ + R.node bs k).toNat 0) (bs k)), bs k, 0) := by
      simp only [S.bitQ, if_pos (show 0 ≤ at_ + R.node bs k ∧ at_ + R.node bs k < (a.put at_ bs k).l.length from ⟨hp.1, by omega⟩), h3.R, h4]
    rw [walk_step h2, hn]
    simp only [hq, if_true, R.TS.put, R.TS.bit, bitsOf]
end D

namespace R
theorem val_bits (back : Bool) (n : Nat) {v : Int} (h0 : 0 ≤ v) (h1 : v < 2 ^ n) : val back (D.bitsOf (bitAt back n v) n) = v := by
  cases back
  · have key : ∀ k, k ≤ n → horner (D.bitsOf (bitAt false n v) k) = v / 2 ^ (n - k) := by
      intro k
      induction k with
      | zero =>
        intro _
        rw [Nat.sub_zero, Int.ediv_eq_zero_of_lt h0 h1]; rfl
      | succ k ih =>
        intro hk
        rw [D.bitsOf, horner_snoc, ih (by omega)]
        simp only [bitAt, Bool.false_eq_true, if_false]
        rw [show n - 1 - k = n - (k + 1) from by omega, show n - k = (n - (k + 1)) + 1 from by omega, Int.pow_succ, ← Int.ediv_ediv_of_nonneg (Int.le_of_lt (Int.pow_pos (by omega)))]
        omega
    have := key n (Nat.le_refl _)
    simp only [val, Bool.false_eq_true, if_false, this, Nat.sub_self, Int.pow_zero, Int.ediv_one]
  · have key : ∀ k, k ≤ n → backv (D.bitsOf (bitAt true n v) k) = v % 2 ^ k := by
      intro k
      induction k with
      | zero => intro _; simp [D.bitsOf, backv, Int.emod_one]
      | succ k ih =>
        intro hk
        rw [D.bitsOf, backv_snoc, ih (by omega), D.bitsOf_len, D.bits_top]
        simp only [bitAt, if_true]
        rw [Int.add_comm]
    have := key n (Nat.le_refl _)
    simp only [val, if_true, this]
    exact Int.emod_eq_of_lt h0 h1
end R

namespace D
/-- A number that was put is got. -/
theorem Fol.gets {b : List UInt8} {f : R.S} (hb : Begins b f) {a : R.TS} {d : S} {at_ n v : Int} (back : Bool) (ht : R.There a.l.length at_ n) (hv : R.Holds v n) (ho : a.Ok) (h : Fol b f a.s d) (hi : In (a.put at_ (R.bitAt back n.toNat v) n.toNat).s f) :
    In a.s f ∧ ∃ t, D.gets (d, a.l) at_ n back = ((t, (a.put at_ (R.bitAt back n.toNat v) n.toNat).l), v, 0) ∧ Fol b f (a.put at_ (R.bitAt back n.toNat v) n.toNat).s t := by
  obtain ⟨h1, t, h2, h3⟩ := Fol.put hb (R.bitAt_01 back n.toNat v) ht ho h n.toNat (Nat.le_refl _) hi
  refine ⟨h1, t, ?_, h3⟩
  rw [D.gets, if_pos ht, h2]
  simp only [if_true, R.val_bits back n.toNat hv.1 hv.2]
end D

end Go.Proofs.Ytoejaggkedlfmaa
