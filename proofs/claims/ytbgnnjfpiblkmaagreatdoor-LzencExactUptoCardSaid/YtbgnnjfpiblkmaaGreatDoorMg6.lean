/-
  Texts of one proof, one behind the other: TGet, Sim, ZRd, ZSymR, Ref13, Map, NSets, Lay171, Itoa, ZNm, Ref14, LfPithref06, Ref6, RefSets, LfPithref07, Ref7, Ref14C, ZNb.
-/
import Derived.Maps.Range
import Derived.Shelf.Strconv.Itoa0
import Derived.Shelf.Strconv.Itoa1
import Derived.Shelf.Strconv.Itoa2
import Derived.Shelf.Strconv.Itoa3
import Derived.Test.YtbgnnjfpiblkmaaGreatDoorRows
import Derived.Test.YtbgnnjfpiblkmaaGreatDoorMg5
set_option linter.unusedSimpArgs false
set_option linter.unnecessarySimpa false
set_option linter.unusedSectionVars false
set_option linter.unusedVariables false

namespace Go.Proofs.YtbgnnjfpiblkmaaGreatDoor
open Go

namespace R
def nodeL (l : List Int) : Int := l.foldl (fun m b => 2 * m + b) 1
def horner (l : List Int) : Int := l.foldl (fun m b => 2 * m + b) 0
def backv (l : List Int) : Int := l.foldr (fun b m => b + 2 * m) 0
def val (back : Bool) (l : List Int) : Int := if back then backv l else horner l
theorem nodeL_snoc (l : List Int) (b : Int) : nodeL (l ++ [b]) = 2 * nodeL l + b := by simp [nodeL]
theorem horner_snoc (l : List Int) (b : Int) : horner (l ++ [b]) = 2 * horner l + b := by simp [horner]
theorem backv_snoc (b : Int) : ∀ l : List Int, backv (l ++ [b]) = backv l + b * 2 ^ l.length
  | [] => by simp [backv]
  | x :: l => by
    have := backv_snoc b l
    simp only [backv, List.cons_append, List.foldr_cons, List.length_cons, Int.pow_succ] at this ⊢
    rw [this]
    grind
def Bits (l : List Int) : Prop := ∀ b ∈ l, b = 0 ∨ b = 1
theorem Bits.snoc {l : List Int} {b : Int} (h : Bits l) (hb : b = 0 ∨ b = 1) : Bits (l ++ [b]) := by
  intro x hx
  rcases List.mem_append.1 hx with hx | hx
  · exact h x hx
  · rw [List.mem_singleton.1 hx]; exact hb
theorem Bits.init {l : List Int} {b : Int} (h : Bits (l ++ [b])) : Bits l ∧ (b = 0 ∨ b = 1) := ⟨fun x hx => h x (List.mem_append_left _ hx), h b (by simp)⟩
theorem nodeL_bd {l : List Int} : Bits l → (2 : Int) ^ l.length ≤ nodeL l ∧ nodeL l < 2 ^ (l.length + 1) := by
  induction l using snoc_ind with
  | h0 => intro _; simp [nodeL]
  | h1 l b ih =>
    intro h
    obtain ⟨h1, h2⟩ := h.init
    have := ih h1
    rw [nodeL_snoc, List.length_append, List.length_cons, List.length_nil, Int.pow_succ, Int.pow_succ _ (l.length + (0 + 1))]
    rw [Int.pow_succ] at this ⊢
    generalize (2 : Int) ^ l.length = q at *
    omega
theorem horner_bd {l : List Int} : Bits l → 0 ≤ horner l ∧ horner l < 2 ^ l.length := by
  induction l using snoc_ind with
  | h0 => intro _; simp [horner]
  | h1 l b ih =>
    intro h
    obtain ⟨h1, h2⟩ := h.init
    have := ih h1
    rw [horner_snoc, List.length_append, List.length_cons, List.length_nil, Int.pow_succ]
    generalize (2 : Int) ^ l.length = q at *
    omega
theorem backv_bd {l : List Int} : Bits l → 0 ≤ backv l ∧ backv l < 2 ^ l.length := by
  induction l using snoc_ind with
  | h0 => intro _; simp [backv]
  | h1 l b ih =>
    intro h
    obtain ⟨h1, h2⟩ := h.init
    have := ih h1
    rw [backv_snoc, List.length_append, List.length_cons, List.length_nil, Int.pow_succ]
    generalize (2 : Int) ^ l.length = q at *
    rcases h2 with rfl | rfl <;> omega
def part (back : Bool) (n : Nat) (l : List Int) : Int := if back then backv l else horner l * 2 ^ (n - l.length)
end R

namespace D
def walk (at_ : Int) (z : A) : Nat → A × List Int × Int
  | 0 => (z, [], 0)
  | k + 1 => if (walk at_ z k).2.2 ≠ 0 then walk at_ z k
    else if ((walk at_ z k).1.1.bitQ (walk at_ z k).1.2 (at_ + R.nodeL (walk at_ z k).2.1)).2.2.2 = 0 then
      ((((walk at_ z k).1.1.bitQ (walk at_ z k).1.2 (at_ + R.nodeL (walk at_ z k).2.1)).1, ((walk at_ z k).1.1.bitQ (walk at_ z k).1.2 (at_ + R.nodeL (walk at_ z k).2.1)).2.1), (walk at_ z k).2.1 ++ [((walk at_ z k).1.1.bitQ (walk at_ z k).1.2 (at_ + R.nodeL (walk at_ z k).2.1)).2.2.1], 0)
    else ((walk at_ z k).1, (walk at_ z k).2.1, ((walk at_ z k).1.1.bitQ (walk at_ z k).1.2 (at_ + R.nodeL (walk at_ z k).2.1)).2.2.2)
theorem walk_step {at_ : Int} {z y : A} {k : Nat} {l : List Int} (h : walk at_ z k = (y, l, 0)) : walk at_ z (k + 1) =
    if (y.1.bitQ y.2 (at_ + R.nodeL l)).2.2.2 = 0 then (((y.1.bitQ y.2 (at_ + R.nodeL l)).1, (y.1.bitQ y.2 (at_ + R.nodeL l)).2.1), l ++ [(y.1.bitQ y.2 (at_ + R.nodeL l)).2.2.1], 0) else (y, l, (y.1.bitQ y.2 (at_ + R.nodeL l)).2.2.2) := by
  rw [walk, h]
  simp only [ne_eq, not_true_eq_false, if_false]
theorem nodeL_bits (bs : Nat → Int) (bl : Nat → List Int) (h0 : bl 0 = []) (h : ∀ k, bl (k + 1) = bl k ++ [bs k]) : ∀ k, R.nodeL (bl k) = R.node bs k
  | 0 => by rw [h0]; rfl
  | k + 1 => by rw [h, R.nodeL_snoc, nodeL_bits bs bl h0 h k]; rfl
def bitsOf (bs : Nat → Int) : Nat → List Int
  | 0 => []
  | k + 1 => bitsOf bs k ++ [bs k]
theorem bitsOf_len (bs : Nat → Int) : ∀ k, (bitsOf bs k).length = k
  | 0 => rfl
  | k + 1 => by rw [bitsOf, List.length_append, bitsOf_len bs k]; rfl
theorem Fol.put {b : List UInt8} {f : R.S} (hb : Begins b f) {a : R.TS} {d : S} {at_ n : Int} {bs : Nat → Int} (hbs : ∀ k, 0 ≤ bs k ∧ bs k ≤ 1) (ht : R.There a.l.length at_ n) (ho : a.Ok) (h : Fol b f a.s d) :
    ∀ k : Nat, k ≤ n.toNat → In (a.put at_ bs k).s f → In a.s f ∧ ∃ t, walk at_ (d, a.l) k = ((t, (a.put at_ bs k).l), bitsOf bs k, 0) ∧ Fol b f (a.put at_ bs k).s t
  | 0, _, hi => ⟨hi, d, rfl, h⟩
  | k + 1, hk, hi => by
    have hp := ht.place hbs (k := k) (by omega)
    have o1 := (ho.put ht hbs k (by omega)).1
    have hlen := R.TS.put_len a at_ bs k
    have hc := R.bit_mid o1 (i := at_ + R.node bs k) hp.1 (by omega)
    have hbk := hbs k
    have hb01 : bs k = 0 ∨ bs k = 1 := by omega
    simp only [R.TS.put, R.TS.bit] at hi
    obtain ⟨hi2, _⟩ := Fol.bit hb (Fol.at_ b f (a.put at_ bs k).s) (bs k) hb01 hc.1 hc.2 hi
    obtain ⟨h1, t, h2, h3⟩ := Fol.put hb hbs ht ho h k (by omega) hi2
    obtain ⟨_, t2, h4, h5⟩ := h3.bit hb (bs k) hb01 hc.1 hc.2 hi
    refine ⟨h1, t2, ?_, h5⟩
    have hn : R.nodeL (bitsOf bs k) = R.node bs k := nodeL_bits bs (bitsOf bs) rfl (fun _ => rfl) k
    have hq : t.bitQ (a.put at_ bs k).l (at_ + R.node bs k) = (t2, (a.put at_ bs k).l.set (at_ + R.node bs k).toNat (B.next ((a.put at_ bs k).l.getD (at_ + R.node bs k).toNat 0) (bs k)), bs k, 0) := by
      simp only [S.bitQ, if_pos (show 0 ≤ at_ + R.node bs k ∧ at_ + R.node bs k < (a.put at_ bs k).l.length from ⟨hp.1, by omega⟩), h3.R, h4]
    rw [walk_step h2, hn]
    simp only [hq, if_true, R.TS.put, R.TS.bit, bitsOf]
end D

namespace R
theorem val_bits (back : Bool) (n : Nat) {v : Int} (h0 : 0 ≤ v) (h1 : v < 2 ^ n) : val back (D.bitsOf (bitAt back n v) n) = v := by
  cases back
  · have key : ∀ k, k ≤ n → horner (D.bitsOf (bitAt false n v) k) = v / 2 ^ (n - k) := by
      intro k
      induction k with
      | zero =>
        intro _
        rw [Nat.sub_zero, Int.ediv_eq_zero_of_lt h0 h1]; rfl
      | succ k ih =>
        intro hk
        rw [D.bitsOf, horner_snoc, ih (by omega)]
        simp only [bitAt, Bool.false_eq_true, if_false]
        rw [show n - 1 - k = n - (k + 1) from by omega, show n - k = (n - (k + 1)) + 1 from by omega, Int.pow_succ, ← Int.ediv_ediv_of_nonneg (Int.le_of_lt (Int.pow_pos (by omega)))]
        omega
    have := key n (Nat.le_refl _)
    simp only [val, Bool.false_eq_true, if_false, this, Nat.sub_self, Int.pow_zero, Int.ediv_one]
  · have key : ∀ k, k ≤ n → backv (D.bitsOf (bitAt true n v) k) = v % 2 ^ k := by
      intro k
      induction k with
      | zero => intro _; simp [D.bitsOf, backv, Int.emod_one]
      | succ k ih =>
        intro hk
        rw [D.bitsOf, backv_snoc, ih (by omega), D.bitsOf_len, D.bits_top]
        simp only [bitAt, if_true]
        rw [Int.add_comm]
    have := key n (Nat.le_refl _)
    simp only [val, if_true, this]
    exact Int.emod_eq_of_lt h0 h1
end R

namespace D
end D

end Go.Proofs.YtbgnnjfpiblkmaaGreatDoor

namespace Go.Proofs.YtbgnnjfpiblkmaaGreatDoor
open Go

namespace D
structure Sim (n : Nat) (c d : S) : Prop where
  b : c.b = d.b.take n
  k : c.k = d.k
  R : c.R = d.R
  C : c.C = d.C
theorem Sim.widen {n : Nat} {c d t : S} (h : Sim n c d) (e : c.widen = some t) : ∃ t', d.widen = some t' ∧ Sim n t t' := by
  obtain ⟨h1, h2, h3, h4⟩ := h
  unfold S.widen at *
  rw [h3] at e
  split at e
  · rename_i hr
    cases e
    rw [if_pos hr]
    exact ⟨d, rfl, ⟨h1, h2, h3, h4⟩⟩
  · rename_i hr
    rw [if_neg hr]
    cases hx : c.b[c.k]? with
    | none => rw [hx] at e; cases e
    | some x =>
      rw [hx] at e
      cases e
      rw [h1, h2, List.getElem?_take] at hx
      split at hx
      · rw [hx]
        exact ⟨_, rfl, ⟨h1, by simp only [h2], rfl, by simp only [h4]⟩⟩
      · cases hx
theorem Sim.cut {n : Nat} {c d : S} (h : Sim n c d) (x : Int) : Sim n (c.cut x) (d.cut x) := by
  obtain ⟨h1, h2, h3, h4⟩ := h
  unfold S.cut
  rw [h4]
  split
  · exact ⟨h1, h2, rfl, rfl⟩
  · exact ⟨h1, h2, by simp only [h3], rfl⟩
theorem Sim.one {n : Nat} {c d : S} (h : Sim n c d) : Sim n c.one d.one := by
  obtain ⟨h1, h2, h3, h4⟩ := h
  unfold S.one
  rw [h4, h3]
  split
  · exact ⟨h1, h2, rfl, rfl⟩
  · exact ⟨h1, h2, rfl, rfl⟩
theorem Sim.bitAt {n : Nat} {c d : S} (h : Sim n c d) (x : Int) : c.bitAt x = d.bitAt x := by unfold S.bitAt; rw [h.C]
theorem Sim.bit {n : Nat} {c d t : S} {x v : Int} (h : Sim n c d) (e : c.bit x = .ok t v) : ∃ t', d.bit x = .ok t' v ∧ Sim n t t' := by
  unfold S.bit at *
  split at e
  · rename_i t' ht
    cases e
    obtain ⟨t2, h2, h3⟩ := (h.cut x).widen ht
    rw [h2]
    exact ⟨t2, by rw [h.bitAt x], h3⟩
  · cases e
theorem Sim.direct {n : Nat} : ∀ (m : Nat) {c d t : S} {v u : Int}, Sim n c d → c.direct v m = .ok t u → ∃ t', d.direct v m = .ok t' u ∧ Sim n t t'
  | 0, c, d, t, v, u, h, e => by cases e; exact ⟨d, rfl, h⟩
  | m + 1, c, d, t, v, u, h, e => by
    simp only [S.direct] at *
    rw [h.one.R, h.one.C] at e
    split at e
    · cases e
    · rename_i hle
      rw [if_neg hle]
      split at e
      · cases e
      · rename_i t1 ht
        obtain ⟨t2, h2, h3⟩ := h.one.widen ht
        rw [h2]
        rw [h.R, h.bitAt] at e
        exact Sim.direct m h3 e
end D

end Go.Proofs.YtbgnnjfpiblkmaaGreatDoor

namespace Go.Proofs.YtbgnnjfpiblkmaaGreatDoor
open Go
namespace Z

inductive Rd (α : Type)
  | ret (a : α)
  | bit (t : Nat) (i : Int) (k : Int → Rd α)
section
variable {α β γ : Type}
def Rd.bind : Rd α → (α → Rd β) → Rd β
  | .ret a, f => f a
  | .bit t i k, f => .bit t i fun b => (k b).bind f
def Rd.map (f : α → β) (r : Rd α) : Rd β := r.bind fun a => .ret (f a)
def Rd.Ok (p : Pr) : Rd α → Prop
  | .ret _ => True
  | .bit t i k => (t = 18 ∨ t < 18 ∧ 0 ≤ i ∧ i < tabLen p t) ∧ ∀ b, b = 0 ∨ b = 1 → (k b).Ok p
def Rd.path : Rd α → α → List PB → Prop
  | .ret a, v, l => v = a ∧ l = []
  | .bit t i k, v, l => ∃ b m, (b = 0 ∨ b = 1) ∧ l = ⟨t, i, b⟩ :: m ∧ (k b).path v m
theorem Rd.Ok.bind {p : Pr} {f : α → Rd β} : ∀ {r : Rd α}, r.Ok p → (∀ a m, r.path a m → (f a).Ok p) → (r.bind f).Ok p
  | .ret a, _, hf => hf a [] ⟨rfl, rfl⟩
  | .bit t i k, h, hf => ⟨h.1, fun b hb => (h.2 b hb).bind fun a m hp => hf a (⟨t, i, b⟩ :: m) ⟨b, m, hb, rfl, hp⟩⟩
theorem Rd.Ok.map {p : Pr} {f : α → β} {r : Rd α} (h : r.Ok p) : (r.map f).Ok p := h.bind fun _ _ _ => trivial
theorem Rd.path_bind {f : α → Rd β} {v : β} : ∀ (r : Rd α) {l : List PB}, (r.bind f).path v l ↔ ∃ a m n, r.path a m ∧ (f a).path v n ∧ l = m ++ n
  | .ret a, l => ⟨fun h => ⟨a, [], l, ⟨rfl, rfl⟩, h, rfl⟩, fun ⟨_, _, _, ⟨h1, h2⟩, h3, h4⟩ => by subst h1; subst h2; subst h4; exact h3⟩
  | .bit t i k, l => by
    constructor
    · rintro ⟨b, m, hb, rfl, h⟩
      obtain ⟨a, m1, n, h1, h2, rfl⟩ := (path_bind (k b)).1 h
      exact ⟨a, _, n, ⟨b, m1, hb, rfl, h1⟩, h2, rfl⟩
    · rintro ⟨a, _, n, ⟨b, m, hb, rfl, h1⟩, h2, rfl⟩
      exact ⟨b, m ++ n, hb, rfl, (path_bind (k b)).2 ⟨a, m, n, h1, h2, rfl⟩⟩
theorem Rd.path_map {f : α → β} {v : β} {r : Rd α} {l : List PB} : (r.map f).path v l ↔ ∃ a, r.path a l ∧ v = f a := by
  rw [Rd.map, Rd.path_bind]
  constructor
  · rintro ⟨a, m, n, h1, ⟨rfl, rfl⟩, rfl⟩
    exact ⟨a, by rwa [List.append_nil], rfl⟩
  · rintro ⟨a, h1, rfl⟩
    exact ⟨a, l, [], h1, ⟨rfl, rfl⟩, (List.append_nil l).symm⟩
theorem Rd.Ok.path {p : Pr} {v : α} : ∀ {r : Rd α} {l : List PB}, r.Ok p → r.path v l → ∀ x ∈ l, x.Ok p
  | .ret a, l, _, ⟨_, e⟩, x, hx => by subst e; cases hx
  | .bit t i k, l, h, ⟨b, m, hb, e, h1⟩, x, hx => by
    subst e
    rcases List.mem_cons.1 hx with rfl | hx
    · exact ⟨by rcases hb with rfl | rfl <;> simp, h.1⟩
    · exact (h.2 b hb).path h1 x hx

structure RS where
  d : D.S
  T : Nat → List Int
structure RS.Ok (p : Pr) (z : RS) : Prop where
  d : D.Ok z.d
  T : TabOk p z.T
def RS.ask (z : RS) (t : Nat) (i : Int) : Option (RS × Int) :=
  if t = 18 then match z.d.direct 0 1 with
    | .ok d v => some (⟨d, z.T⟩, v)
    | .no _ => none
  else match z.d.bit (B.bound z.d.R ((z.T t).getD i.toNat 0)) with
    | .ok d v => some (⟨d, upd z.T t ((z.T t).set i.toNat (B.next ((z.T t).getD i.toNat 0) v))⟩, v)
    | .no _ => none
def Rd.run : Rd α → RS → Option (RS × α)
  | .ret a, z => some (z, a)
  | .bit t i k, z => match z.ask t i with
    | none => none
    | some (y, b) => (k b).run y
theorem Rd.run_bind {f : α → Rd β} : ∀ (r : Rd α) (z : RS), (r.bind f).run z = match r.run z with
    | none => none
    | some (y, a) => (f a).run y
  | .ret a, z => rfl
  | .bit t i k, z => by
    simp only [Rd.bind, Rd.run]
    cases z.ask t i with
    | none => rfl
    | some yb => exact run_bind (k yb.2) yb.1
def Rd.get (r : Rd α) : Option RS → Option (RS × α)
  | none => none
  | some z => r.run z
def Got (r : Rd α) (z y : Option RS) (v : α) : Prop := r.get z = y.map fun s => (s, v)
theorem Got.ret (z : Option RS) (a : α) : Got (.ret a) z z a := by cases z <;> rfl
theorem Got.bind {r : Rd α} {f : α → Rd β} {z y x : Option RS} {a : α} {b : β} (h1 : Got r z y a) (h2 : Got (f a) y x b) : Got (r.bind f) z x b := by
  unfold Got at *
  cases z with
  | none =>
    cases y with
    | none => exact h2
    | some y => cases h1
  | some z =>
    show (r.bind f).run z = _
    rw [Rd.run_bind, show r.run z = r.get (some z) from rfl, h1]
    cases y with
    | none => exact h2
    | some y => exact h2
theorem Got.map {r : Rd α} {f : α → β} {z y : Option RS} {a : α} (h : Got r z y a) : Got (r.map f) z y (f a) := h.bind (Got.ret _ _)
theorem Got.bit {t : Nat} {i : Int} {k : Int → Rd α} {z y x : Option RS} {b : Int} {v : α} (h1 : Got (.bit t i .ret) z y b) (h2 : Got (k b) y x v) : Got (.bit t i k) z x v := Got.bind (r := .bit t i .ret) h1 h2
theorem ask_01 {z y : RS} {t : Nat} {i b : Int} (h : z.ask t i = some (y, b)) : b = 0 ∨ b = 1 := by
  unfold RS.ask at h
  split at h
  · split at h
    · rename_i d v e
      cases h
      simp only [D.S.direct] at e
      split at e
      · cases e
      · split at e
        · cases e
        · cases e
          have := D.bitAt_01 z.d (z.d.R / 2)
          omega
    · cases h
  · split at h
    · rename_i d v e
      cases h
      unfold D.S.bit at e
      split at e
      · cases e; exact D.bitAt_01 _ _
      · cases e
    · cases h

theorem tab_mid {p : Pr} {T : Nat → List Int} (hT : TabOk p T) {R : Int} (hR : 16777216 ≤ R) {t : Nat} {i : Int} (h : t < 18 ∧ 0 ≤ i ∧ i < tabLen p t) :
    65536 ≤ B.bound R ((T t).getD i.toNat 0) ∧ 65536 ≤ R - B.bound R ((T t).getD i.toNat 0) := by
  have hl := hT.len t h.1
  have hx : (T t)[i.toNat]? = some ((T t).getD i.toNat 0) := by
    rw [List.getD_eq_getElem?_getD, List.getElem?_eq_getElem (show i.toNat < (T t).length by omega)]; rfl
  have hp := (hT.fine t).get hx
  exact D.bound_mid hR hp.1 hp.2
theorem ask_ok {p : Pr} {z y : RS} (hz : z.Ok p) {t : Nat} {i b : Int} (ht : t = 18 ∨ t < 18 ∧ 0 ≤ i ∧ i < tabLen p t) (h : z.ask t i = some (y, b)) : y.Ok p ∧ y.d.b = z.d.b := by
  have h01 := ask_01 h
  unfold RS.ask at h
  split at h
  · split at h
    · rename_i d v e
      cases h
      obtain ⟨o1, o2⟩ := D.Ok.direct 1 hz.d e
      exact ⟨⟨o1, hz.T⟩, o2⟩
    · cases h
  · rename_i hne
    have ht := ht.resolve_left hne
    split at h
    · rename_i d v e
      cases h
      have hm := tab_mid hz.T hz.d.r0 ht
      obtain ⟨o1, o2, _⟩ := hz.d.bit hm.1 hm.2 e
      refine ⟨⟨o1, ?_⟩, o2⟩
      have hs := (step_ok (z := ⟨R.S.new, z.T⟩) ⟨R.Ok.new, hz.T⟩ (x := ⟨t, i, b⟩) ⟨by rcases h01 with rfl | rfl <;> simp, .inr ht⟩).1.T
      simp only [stepB, turn, if_neg hne, pr] at hs
      exact hs
    · cases h
theorem Rd.run_ok {p : Pr} {v : α} : ∀ {r : Rd α} {z y : RS}, r.Ok p → z.Ok p → r.run z = some (y, v) → y.Ok p ∧ y.d.b = z.d.b
  | .ret a, z, y, _, hz, h => by cases h; exact ⟨hz, rfl⟩
  | .bit t i k, z, y, hr, hz, h => by
    simp only [Rd.run] at h
    cases e : z.ask t i with
    | none => rw [e] at h; cases h
    | some xb =>
      rw [e] at h
      obtain ⟨h1, h2⟩ := ask_ok hz hr.1 e
      obtain ⟨h3, h4⟩ := run_ok (hr.2 _ (ask_01 e)) h1 h
      exact ⟨h3, h4.trans h2⟩

theorem direct_1 (d : D.S) : d.direct 0 1 = if d.one.R ≤ d.one.C then .no 2 else match d.one.widen with
    | none => .no 1
    | some t => .ok t (d.bitAt (d.R / 2)) := by
  simp only [D.S.direct]
  split
  · rfl
  · cases d.one.widen with
    | none => rfl
    | some t => simp only [Int.mul_zero, Int.zero_add]

structure Twin (b : List UInt8) (s : R.S) (d : D.S) : Prop where
  hb : d.b = b
  k : d.k = s.k + 5
  n : R.num (b.take d.k) = s.N + d.C
  R : d.R = s.R
theorem Twin.widen {b : List UInt8} {s : R.S} {d t : D.S} (h : Twin b s d) (h0 : 65536 ≤ s.R) (e : d.widen = some t) : Twin b s.widen t := by
  obtain ⟨h1, h2, h4, h3⟩ := h
  unfold D.S.widen at e
  rw [h3] at e
  split at e
  · rename_i hr
    cases e
    rw [R.S.widen_no (by omega)]
    exact ⟨h1, h2, h4, h3⟩
  · rename_i hr
    split at e
    · cases e
    · rename_i x hx
      cases e
      rw [R.S.widen_go (by omega) (by omega), R.S.widen_no (show ¬ s.R * 256 < 16777216 by omega)]
      refine ⟨h1, by simp only; omega, ?_, rfl⟩
      rw [h1] at hx
      simp only
      rw [List.take_add_one, hx, Option.toList_some, R.num_snoc, h4]
      omega
theorem Twin.bit {b : List UInt8} {s : R.S} {d t : D.S} (h : Twin b s d) {c v : Int} (c0 : 65536 ≤ c) (c1 : 65536 ≤ s.R - c) (e : d.bit c = .ok t v) : Twin b (s.cut c v) t := by
  obtain ⟨h1, h2, h4, h3⟩ := h
  unfold D.S.bit at e
  split at e
  · rename_i t' ht
    cases e
    unfold D.S.bitAt
    unfold D.S.cut at ht
    by_cases hlt : d.C < c
    · rw [if_pos hlt] at ht ⊢
      rw [R.S.cut, if_pos rfl]
      exact Twin.widen (s := ⟨s.N, c, s.k⟩) (d := ⟨d.b, d.k, c, d.C⟩) ⟨h1, h2, h4, rfl⟩ c0 ht
    · rw [if_neg hlt] at ht ⊢
      rw [R.S.cut, if_neg (by decide)]
      exact Twin.widen (s := ⟨s.N + c, s.R - c, s.k⟩) (d := ⟨d.b, d.k, d.R - c, d.C - c⟩) ⟨h1, h2, by simp only [h4]; omega, by simp only [h3]⟩ c1 ht
  · cases e
theorem Twin.one {b : List UInt8} {s : R.S} {d t : D.S} (h : Twin b s d) (h0 : 16777216 ≤ s.R) {v : Int} (e : d.direct 0 1 = .ok t v) : Twin b (s.one v) t := by
  obtain ⟨h1, h2, h4, h3⟩ := h
  rw [direct_1] at e
  split at e
  · cases e
  · split at e
    · cases e
    · rename_i t' ht
      cases e
      unfold D.S.bitAt
      unfold D.S.one at ht
      rw [h3] at ht ⊢
      by_cases hlt : d.C < s.R / 2
      · rw [if_pos hlt] at ht ⊢
        rw [R.S.one, if_neg (by decide)]
        exact Twin.widen (s := ⟨s.N, s.R / 2, s.k⟩) (d := ⟨d.b, d.k, s.R / 2, d.C⟩) ⟨h1, h2, h4, rfl⟩ (by simp only; omega) ht
      · rw [if_neg hlt] at ht ⊢
        rw [R.S.one, if_pos rfl]
        exact Twin.widen (s := ⟨s.N + s.R / 2, s.R / 2, s.k⟩) (d := ⟨d.b, d.k, s.R / 2, d.C - s.R / 2⟩) ⟨h1, h2, by simp only [h4]; omega, rfl⟩ (by simp only; omega) ht

end

end Z
end Go.Proofs.YtbgnnjfpiblkmaaGreatDoor

namespace Go.Proofs.YtbgnnjfpiblkmaaGreatDoor
open Go
namespace Z

def bitsRd (t : Nat) (at_ : Int) : Nat → List Int → Rd (List Int)
  | 0, l => .ret l
  | n + 1, l => .bit t (at_ + R.nodeL l) fun b => bitsRd t at_ n (l ++ [b])
def treeRd (back : Bool) (t : Nat) (at_ : Int) (n : Nat) : Rd Int := (bitsRd t at_ n []).map (R.val back)
def dirRd : Nat → Int → Rd Int
  | 0, v => .ret v
  | n + 1, v => .bit 18 0 fun b => dirRd n (2 * v + b)
def litGoRd (f t : Int) : Nat → Int → Bool → Rd Int
  | 0, m, _ => .ret (m - 256)
  | i + 1, m, same => .bit 6 (f + m + (if same then 256 * (1 + t / 2 ^ i % 2) else 0)) fun b => litGoRd f t i (2 * m + b) (same && decide (b = t / 2 ^ i % 2))
def litRd (p : Pr) (s : St) (x : W) : Rd Int :=
  if s.num < 7 then treeRd false 6 (context p x.all.length (lastOr x 1).toNat) 8 else litGoRd (context p x.all.length (lastOr x 1).toNat) (lastOr x s.r0).toNat 8 1 true
def lenRd (c : Nat) (p : Pr) (pos : Int) : Rd Int :=
  .bit c 0 fun b => if b = 0 then (treeRd false (c + 1) (8 * place p pos) 3).map fun v => 2 + v
    else .bit c 1 fun b => if b = 0 then (treeRd false (c + 2) (8 * place p pos) 3).map fun v => 10 + v else (treeRd false (c + 3) 0 8).map fun v => 18 + v
def distRd (n : Int) : Rd Int :=
  (treeRd false 15 (64 * min (n - 2) 3) 6).bind fun s => if s < 4 then .ret (least s)
    else if s < 14 then (treeRd true 16 (restAt s) (bitsN s)).map fun v => least s + v
    else (dirRd (bitsN s - 4) 0).bind fun h => (treeRd true 17 0 4).map fun v => least s + h * 16 + v
def repRd (p : Pr) (pos : Int) (d : Int) : Rd Y := (lenRd 11 p pos).map fun n => ⟨3, 0, n, d⟩
def symRd (p : Pr) (s : St) (x : W) : Rd Y :=
  .bit 0 (s.num * 16 + place p x.all.length) fun b => if b = 0 then (litRd p s x).map fun m => ⟨1, byteOf m, 0, 0⟩
  else .bit 2 s.num fun b => if b = 0 then (lenRd 7 p x.all.length).bind fun n => (distRd n).map fun d => ⟨2, 0, n, d⟩
  else .bit 3 s.num fun b => if b = 0 then .bit 1 (s.num * 16 + place p x.all.length) fun b => if b = 0 then .ret ⟨4, 0, 0, 0⟩ else repRd p x.all.length 0
  else .bit 4 s.num fun b => if b = 0 then repRd p x.all.length 1
  else .bit 5 s.num fun b => repRd p x.all.length (2 + b)

def pbs (t : Nat) (at_ : Int) : List Int → List Int → List PB
  | _, [] => []
  | l, b :: bs => ⟨t, at_ + R.nodeL l, b⟩ :: pbs t at_ (l ++ [b]) bs
theorem pbs_snoc (t : Nat) (at_ b : Int) : ∀ bs l, pbs t at_ l (bs ++ [b]) = pbs t at_ l bs ++ [⟨t, at_ + R.nodeL (l ++ bs), b⟩]
  | [], l => by simp [pbs]
  | c :: bs, l => by simp only [List.cons_append, pbs, pbs_snoc t at_ b bs]; simp
theorem pbs_tree (t : Nat) (at_ : Int) (bs : Nat → Int) : ∀ n, pbs t at_ [] (D.bitsOf bs n) = treeBits t at_ bs n
  | 0 => rfl
  | n + 1 => by
    rw [D.bitsOf, pbs_snoc, pbs_tree t at_ bs n, List.nil_append, D.nodeL_bits bs (D.bitsOf bs) rfl fun _ => rfl]
    simp [treeBits, List.range_succ]
theorem bitsRd_path {t : Nat} {at_ : Int} {v : List Int} : ∀ (n : Nat) {l : List Int} {m : List PB}, (bitsRd t at_ n l).path v m ↔ ∃ bs, R.Bits bs ∧ bs.length = n ∧ v = l ++ bs ∧ m = pbs t at_ l bs
  | 0, l, m => by
    constructor
    · rintro ⟨rfl, rfl⟩
      exact ⟨[], fun _ h => (by cases h), rfl, (List.append_nil _).symm, rfl⟩
    · rintro ⟨bs, _, hl, rfl, rfl⟩
      obtain rfl := List.length_eq_zero_iff.1 hl
      exact ⟨List.append_nil _, rfl⟩
  | n + 1, l, m => by
    constructor
    · rintro ⟨b, m', hb, rfl, h⟩
      obtain ⟨bs, h1, h2, rfl, rfl⟩ := (bitsRd_path n).1 h
      exact ⟨b :: bs, fun x hx => (List.mem_cons.1 hx).elim (fun e => e ▸ hb) (h1 x), by rw [List.length_cons, h2], by simp, rfl⟩
    · rintro ⟨bs, h1, h2, rfl, rfl⟩
      cases bs with
      | nil => simp at h2
      | cons b bs =>
        exact ⟨b, _, h1 b List.mem_cons_self, rfl, (bitsRd_path n).2 ⟨bs, fun x hx => h1 x (List.mem_cons_of_mem _ hx), by simpa using h2, by simp, rfl⟩⟩
theorem horner_inj : ∀ (n : Nat) {l m : List Int}, l.length = n → m.length = n → R.Bits l → R.Bits m → R.horner l = R.horner m → l = m
  | 0, l, m, h1, h2, _, _, _ => by rw [List.length_eq_zero_iff.1 h1, List.length_eq_zero_iff.1 h2]
  | n + 1, l, m, h1, h2, b1, b2, e => by
    rcases List.eq_nil_or_concat l with rfl | ⟨l, a, rfl⟩
    · simp at h1
    rcases List.eq_nil_or_concat m with rfl | ⟨m, c, rfl⟩
    · simp at h2
    simp only [List.concat_eq_append] at *
    rw [R.horner_snoc, R.horner_snoc] at e
    obtain ⟨b1, ha⟩ := b1.init
    obtain ⟨b2, hc⟩ := b2.init
    have e1 : a = c := by omega
    rw [horner_inj n (by simpa using h1) (by simpa using h2) b1 b2 (by omega), e1]
theorem backv_inj : ∀ (l m : List Int), l.length = m.length → R.Bits l → R.Bits m → R.backv l = R.backv m → l = m
  | [], [], _, _, _, _ => rfl
  | [], _ :: _, h, _, _, _ => by simp at h
  | _ :: _, [], h, _, _, _ => by simp at h
  | a :: l, c :: m, h, b1, b2, e => by
    have ha := b1 a List.mem_cons_self
    have hc := b2 c List.mem_cons_self
    have e : a + 2 * R.backv l = c + 2 * R.backv m := e
    have e1 : a = c := by omega
    rw [backv_inj l m (by simpa using h) (fun x hx => b1 x (List.mem_cons_of_mem _ hx)) (fun x hx => b2 x (List.mem_cons_of_mem _ hx)) (by omega), e1]
theorem val_inj (back : Bool) {l m : List Int} (h : l.length = m.length) (b1 : R.Bits l) (b2 : R.Bits m) (e : R.val back l = R.val back m) : l = m := by
  cases back
  · exact horner_inj _ h rfl b1 b2 e
  · exact backv_inj _ _ h b1 b2 e
theorem val_bd (back : Bool) {l : List Int} (h : R.Bits l) : 0 ≤ R.val back l ∧ R.val back l < 2 ^ l.length := by
  cases back
  · exact R.horner_bd h
  · exact R.backv_bd h
theorem bitsOf_bits {bs : Nat → Int} (h : ∀ k, 0 ≤ bs k ∧ bs k ≤ 1) : ∀ n, R.Bits (D.bitsOf bs n)
  | 0 => fun _ h => (by cases h)
  | n + 1 => (bitsOf_bits h n).snoc (by have := h n; omega)
theorem treeRd_path {back : Bool} {t : Nat} {at_ v : Int} {n : Nat} {m : List PB} : (treeRd back t at_ n).path v m ↔ 0 ≤ v ∧ v < 2 ^ n ∧ m = treeBits t at_ (R.bitAt back n v) n := by
  rw [treeRd, Rd.path_map]
  constructor
  · rintro ⟨l, h, rfl⟩
    obtain ⟨bs, h1, h2, e0, rfl⟩ := (bitsRd_path n).1 h
    rw [List.nil_append] at e0
    subst e0
    have hb := val_bd back h1
    rw [h2] at hb
    refine ⟨hb.1, hb.2, ?_⟩
    have e : l = D.bitsOf (R.bitAt back n (R.val back l)) n :=
      val_inj back (by rw [h2, D.bitsOf_len]) h1 (bitsOf_bits (R.bitAt_01 back n _) n) (R.val_bits back n hb.1 hb.2).symm
    rw [← pbs_tree, ← e]
  · rintro ⟨h0, h1, rfl⟩
    refine ⟨D.bitsOf (R.bitAt back n v) n, (bitsRd_path n).2 ⟨_, bitsOf_bits (R.bitAt_01 back n v) n, D.bitsOf_len _ _, rfl, (pbs_tree _ _ _ _).symm⟩, (R.val_bits back n h0 h1).symm⟩

theorem allBits_cons (o : Op) (l : List Op) : allBits (o :: l) = o.bits ++ allBits l := rfl
theorem allBits_append (l m : List Op) : allBits (l ++ m) = allBits l ++ allBits m := by simp [allBits]
theorem allBits_nil : allBits [] = [] := rfl
theorem bits_bit (t : Nat) (i b : Int) : (Op.bit t i b).bits = [⟨t, i, b⟩] := rfl
theorem tree_bits (t : Nat) (a : Int) (n : Nat) (v : Int) : (Op.tree t a n v).bits = treeBits t a (R.bitAt false n v) n := rfl
theorem back_bits (t : Nat) (a : Int) (n : Nat) (v : Int) : (Op.back t a n v).bits = treeBits t a (R.bitAt true n v) n := rfl

theorem lenRd_path {c : Nat} {p : Pr} {pos n : Int} {m : List PB} : (lenRd c p pos).path n m ↔ isLen n ∧ m = allBits (lenOps c p pos n) := by
  have e3 : (2 : Int) ^ 3 = 8 := by decide
  have e8 : (2 : Int) ^ 8 = 256 := by decide
  unfold isLen lenOps
  dsimp only
  constructor
  · rintro ⟨b, m', hb, rfl, h⟩
    rcases hb with rfl | rfl
    · dsimp -failIfUnchanged only at h; rw [if_pos rfl, Rd.path_map] at h
      obtain ⟨v, h, rfl⟩ := h
      obtain ⟨h0, h1, rfl⟩ := treeRd_path.1 h
      rw [e3] at h1
      rw [if_pos (by omega), show 2 + v - 2 = v from by omega]
      exact ⟨by omega, by simp only [allBits_cons, allBits_nil, bits_bit, tree_bits, List.append_nil]; rfl⟩
    · dsimp -failIfUnchanged only at h; rw [if_neg (by omega)] at h
      obtain ⟨b, m', hb, rfl, h⟩ := h
      rcases hb with rfl | rfl
      · dsimp -failIfUnchanged only at h; rw [if_pos rfl, Rd.path_map] at h
        obtain ⟨v, h, rfl⟩ := h
        obtain ⟨h0, h1, rfl⟩ := treeRd_path.1 h
        rw [e3] at h1
        rw [if_neg (by omega), if_pos (by omega), show 10 + v - 2 - 8 = v from by omega]
        exact ⟨by omega, by simp only [allBits_cons, allBits_nil, bits_bit, tree_bits, List.append_nil]; rfl⟩
      · dsimp -failIfUnchanged only at h; rw [if_neg (by omega), Rd.path_map] at h
        obtain ⟨v, h, rfl⟩ := h
        obtain ⟨h0, h1, rfl⟩ := treeRd_path.1 h
        rw [e8] at h1
        rw [if_neg (by omega), if_neg (by omega), show 18 + v - 2 - 16 = v from by omega]
        exact ⟨by omega, by simp only [allBits_cons, allBits_nil, bits_bit, tree_bits, List.append_nil]; rfl⟩
  · rintro ⟨⟨h0, h1⟩, rfl⟩
    by_cases a1 : n - 2 < 8
    · rw [if_pos a1]
      refine ⟨0, _, .inl rfl, rfl, ?_⟩
      dsimp -failIfUnchanged only; rw [if_pos rfl, Rd.path_map]
      exact ⟨n - 2, treeRd_path.2 ⟨by omega, by omega, by simp; rfl⟩, by omega⟩
    · rw [if_neg a1]
      by_cases a2 : n - 2 < 16
      · rw [if_pos a2]
        refine ⟨1, _, .inr rfl, rfl, ?_⟩
        dsimp -failIfUnchanged only; rw [if_neg (by omega)]
        refine ⟨0, _, .inl rfl, rfl, ?_⟩
        dsimp -failIfUnchanged only; rw [if_pos rfl, Rd.path_map]
        exact ⟨n - 2 - 8, treeRd_path.2 ⟨by omega, by omega, by simp; rfl⟩, by omega⟩
      · rw [if_neg a2]
        refine ⟨1, _, .inr rfl, rfl, ?_⟩
        dsimp -failIfUnchanged only; rw [if_neg (by omega)]
        refine ⟨1, _, .inr rfl, rfl, ?_⟩
        dsimp -failIfUnchanged only; rw [if_neg (by omega), Rd.path_map]
        exact ⟨n - 2 - 16, treeRd_path.2 ⟨by omega, by omega, by simp; rfl⟩, by omega⟩

theorem slots_apart : ∀ a b : Fin 64, a < b → least (a.val : Int) + 2 ^ bitsN (a.val : Int) ≤ least (b.val : Int) := by decide +kernel
end Z
end Go.Proofs.YtbgnnjfpiblkmaaGreatDoor

namespace Go.Proofs.YtbgnnjfpiblkmaaGreatDoor
open Go
attribute [local irreducible] oMv oV oU oCall oCallV oBi oBin oUn oLoad oStore oNil oFld oField oIdx oIndex oPick oAlloc oBox oBuild oBs oConv oMk oSl oExt oFn oIface oMap oLook oMapUp oRange oNext oEntry oInv oAssert oPanic oRes pN pA pL pDr pIf gA pGd

section
variable {E w W : World} {M N : List HA} {Q : Value → World → Prop} {b : Nat} {x : Z.W} {s : Z.St} {y : Z.Y}

theorem R12Slot_in (d : Int) (hd : Z.isDist d) (hQ : Q (.tuple #[.int .i64 (Z.slot d), .int .i64 0]) w) : Calls Tryz.prog 154 #[.int .i64 d] w (retP Q) := by
  refine pithref12_Slot.calls ?_
  unfold pithref12_Slot.F
  have hl := Z.slot_law hd
  obtain ⟨l0, l1, _, l3, l4⟩ := hl
  obtain ⟨h1, h2⟩ := hd
  obtain ⟨k, hk⟩ : ∃ k : Nat, Z.slot d = k := ⟨(Z.slot d).toNat, by omega⟩
  rw [hk] at hQ l3 l4
  have hpos : ∀ i : Nat, i < 64 → (0 : Int) < 2 ^ Z.bitsN i := fun i _ => Int.pow_pos (by omega)
  have hap : ∀ i j : Nat, i < j → j < 64 → Z.least i + 2 ^ Z.bitsN i ≤ Z.least j := fun i j h hj => Z.slots_apart ⟨i, by omega⟩ ⟨j, hj⟩ h
  repeat' (first | ((first | refine pN_lss_s ?_ ?_ | refine pN_gtr_s ?_ ?_) <;> intro hc <;> try (exfalso; omega)) | refine pIf_f ?_ | refine pGd_go (by rfl) ?_ | refine pN_v (hk := ?_) | fail)
  refine ⟨fun a v w' => ∃ i : Nat, a = .int .i64 ((min (i - 1) k : Nat) : Int) ∧ v = .int .i64 i ∧ i ≤ 64 ∧ w' = w, fun _ v _ => (64 - RowKit.intOf v).toNat, ⟨0, by simp, rfl, by omega, rfl⟩, ?_⟩
  rintro _ _ _ w1 ⟨i, rfl, rfl, h3, rfl⟩
  by_cases hlt : i < 64
  · by_cases hik : i ≤ k
    · have hle : Z.least i ≤ d := by
        by_cases e : i = k
        · rw [e]; exact l3
        · have a1 := hap i k (by omega) (by omega)
          have a2 := hpos i hlt
          omega
      repeat' (first | (refine pc_pithref12_Range (R12Range_in i (by omega) ?_)) | ((first | refine pN_lss_s ?_ ?_ | refine pN_leq_s ?_ ?_) <;> intro hc <;> try (exfalso; omega)) | refine pIf_t ?_ | refine pN_v (hk := ?_) | refine ⟨_, ?_, fun _ _ _ h => h⟩ | fail)
      refine ⟨⟨i + 1, ?_, rfl, hlt, rfl⟩, by simp [RowKit.intOf]; omega⟩
      rw [show min (i + 1 - 1) k = i from by omega]
    · have hle : ¬ Z.least i ≤ d := by
        have a1 := hap k i (by omega) hlt
        omega
      repeat' (first | (refine pc_pithref12_Range (R12Range_in i (by omega) ?_)) | ((first | refine pN_lss_s ?_ ?_ | refine pN_leq_s ?_ ?_) <;> intro hc <;> try (exfalso; omega)) | refine pIf_t ?_ | refine pIf_f ?_ | refine pN_v (hk := ?_) | refine ⟨_, ?_, fun _ _ _ h => h⟩ | fail)
      refine ⟨⟨i + 1, ?_, rfl, hlt, rfl⟩, by simp [RowKit.intOf]; omega⟩
      rw [show min (i + 1 - 1) k = min (i - 1) k from by omega]
  · have e : min (i - 1) k = k := by omega
    rw [e]
    repeat' (first | (refine pN_lss_s ?_ ?_ <;> intro hc <;> try (exfalso; omega)) | refine pIf_f ?_ | fail)
    exact hQ

theorem R13Dist_ok (hS : Sat E w M) (hy : Z.errY y = 0) (hQ : ∀ w, Sat E w M → Q (.int .i64 (Z.dist s y)) w) :
    Calls Tryz.prog 121 #[.agg #[.int .i64 s.num, .int .i64 s.r0, .int .i64 s.r1, .int .i64 s.r2, .int .i64 s.r3], .agg #[.int .i64 y.Kind, bv y.Byte, .int .i64 y.Len, .int .i64 y.Dist]] w (retP Q) := by
  refine pithref13_Dist.calls ?_
  unfold pithref13_Dist.F
  refine pN_bx hS (by rfl) fun x2 w hS => ?_
  refine pN_bx hS (by rfl) fun x3 w hS => ?_
  unfold Z.dist at hQ
  by_cases h2 : y.Kind = 2
  · rw [if_pos h2] at hQ
    repeat' (first | (refine pN_eql_s ?_ ?_ <;> intro hc <;> try (exfalso; first | omega | exact hc rfl | exact hc (by assumption) | exact absurd hc (by assumption))) | refine pIf_t ?_ | refine pN_l hS (by first | rfl | assumption) ?_ | refine pN_v (hk := ?_) | fail)
    exact hQ _ hS.to
  rw [if_neg h2] at hQ
  by_cases h3 : y.Kind = 3
  · rw [if_pos h3] at hQ
    have hd := Z.err_rep hy h3
    have h4 : y.Dist = 0 ∨ y.Dist = 1 ∨ y.Dist = 2 ∨ y.Dist = 3 := by omega
    rcases h4 with h4 | h4 | h4 | h4
    all_goals
      rw [h4] at hQ hS
      simp only [Z.rep0, Z.rep1, Z.rep2, Z.rep3] at hQ
      repeat' (first | (refine pN_eql_s ?_ ?_ <;> intro hc <;> try (exfalso; first | omega | exact hc rfl | exact hc (by assumption) | exact absurd hc (by assumption))) | refine pIf_t ?_ | refine pIf_f ?_ | refine pN_l hS (by first | rfl | assumption) ?_ | refine pN_v (hk := ?_) | fail)
      exact hQ _ hS.to
  rw [if_neg h3] at hQ
  repeat' (first | (refine pN_eql_s ?_ ?_ <;> intro hc <;> try (exfalso; first | omega | exact hc rfl | exact hc (by assumption) | exact absurd hc (by assumption))) | refine pIf_f ?_ | refine pN_l hS (by first | rfl | assumption) ?_ | refine pN_v (hk := ?_) | fail)
  exact hQ _ hS.to
theorem R13Size_ok (hS : Sat E w M) (hQ : ∀ w, Sat E w M → Q (.int .i64 (Z.size y)) w) :
    Calls Tryz.prog 122 #[.agg #[.int .i64 y.Kind, bv y.Byte, .int .i64 y.Len, .int .i64 y.Dist]] w (retP Q) := by
  refine pithref13_Size.calls ?_
  unfold pithref13_Size.F
  refine pN_bx hS (by rfl) fun x1 w hS => ?_
  refine pN_la hS (by rfl) ?_
  refine pc_pithref12_Formed (R12Formed_ok (y := y) hS fun w hS => ?_)
  unfold Z.size at hQ
  by_cases hy : Z.errY y = 0
  · rw [if_neg (by omega)] at hQ
    rw [hy]
    by_cases h : y.Kind = 2 ∨ y.Kind = 3
    · rw [if_pos h] at hQ
      repeat' (first | ((first | refine pN_eql_s ?_ ?_ | refine pN_neq_s ?_ ?_) <;> intro hc <;> try (exfalso; first | omega | exact hc rfl | exact hc (by assumption) | exact absurd hc (by assumption))) | refine pIf_t ?_ | refine pIf_f ?_ | refine pGd_go (by rfl) ?_ | refine pGd_no (by rfl) ?_ | refine pN_l hS (by first | rfl | assumption) ?_ | refine pN_v (hk := ?_) | fail)
      all_goals exact hQ _ hS.to
    · rw [if_neg h] at hQ
      repeat' (first | ((first | refine pN_eql_s ?_ ?_ | refine pN_neq_s ?_ ?_) <;> intro hc <;> try (exfalso; first | omega | exact hc rfl | exact hc (by assumption) | exact absurd hc (by assumption))) | refine pIf_f ?_ | refine pGd_go (by rfl) ?_ | refine pN_l hS (by first | rfl | assumption) ?_ | refine pN_v (hk := ?_) | fail)
      all_goals exact hQ _ hS.to
  · rw [if_pos hy] at hQ
    repeat' (first | (refine pN_neq_s ?_ ?_ <;> intro hc <;> try (exfalso; first | omega | exact hc rfl | exact hc (by assumption) | exact absurd hc (by assumption))) | refine pIf_t ?_ | fail)
    exact hQ _ hS.to

theorem R10Copy_at (hS : Sat E w (RWin b x :: M)) (h0 : 0 ≤ x.size) (d n : Int) (hd : x.has d) (n0 : 0 ≤ n) (hn : n ≤ 273) (hb : x.all.length + 273 ≤ 140737488355328)
    (hQ : ∀ s w, Sat E w (rows cd_uint8 s (Z.cpy x.all d.toNat n.toNat) :: RWin b ⟨x.size, x.all ++ Z.cpy x.all d.toNat n.toNat⟩ :: M) → Q (.tuple #[.slice s.a (Z.cpy x.all d.toNat n.toNat).length s.c, .int .i64 0]) w) :
    Calls Tryz.prog 120 #[pz b, .int .i64 d, .int .i64 n] w (retP Q) := by
  have d1 := hd.1
  obtain ⟨d, rfl⟩ : ∃ m : Nat, d = m := ⟨d.toNat, by omega⟩
  obtain ⟨n, rfl⟩ : ∃ m : Nat, n = m := ⟨n.toNat, by omega⟩
  simp only [Int.toNat_natCast, Z.cpy_len] at hQ
  exact R10Copy_in hS h0 d n hd (by omega) (by omega) hQ

set_option maxHeartbeats 1600000 in
theorem R13Apply_in (hS : Sat E w (RWin b x :: M)) (h0 : 0 ≤ x.size) (hr : s.Right) (hm : Z.may x s y = 0) (hn : x.all.length + 273 ≤ 140737488355328)
    (hQ : ∀ s' w, Sat E w (rows cd_uint8 s' (Z.made x s y) :: RWin b (x.put (Z.made x s y)) :: M) → Q (.tuple #[.slice s'.a (Z.made x s y).length s'.c, .agg (s.next y).cells.toArray, .int .i64 0]) w) :
    Calls Tryz.prog 73 #[pz b, .agg #[.int .i64 s.num, .int .i64 s.r0, .int .i64 s.r1, .int .i64 s.r2, .int .i64 s.r3], .agg #[.int .i64 y.Kind, bv y.Byte, .int .i64 y.Len, .int .i64 y.Dist]] w (retP Q) := by
  refine pithref13_Apply.calls ?_
  unfold pithref13_Apply.F
  have hy := Z.may_err hm
  have hsz := Z.size_bd hy
  refine pN_bx hS (by rfl) fun x4 w hS => ?_
  refine pN_bx hS (by rfl) fun x5 w hS => ?_
  refine pN_nz hS fun x7 w hS => ?_
  refine pN_la hS (by rfl) ?_
  refine pN_la hS (by rfl) ?_
  refine pc_pithref12_Next (R12Next_in hS hr hy fun w hS => ?_)
  by_cases hk : y.Kind = 1
  · have e : Z.made x s y = [y.Byte] := by rw [Z.made, if_pos hk]
    rw [e] at hQ
    repeat' (first | (refine pc_pithref10_Window_Put (R10Put_ok (l := [y.Byte]) (hS.fd (RWin b)) (by simp only [List.length_cons, List.length_nil]; omega) ?_); clear hS; intro w hS) | ((first | refine pN_eql_s ?_ ?_ | refine pN_neq_s ?_ ?_) <;> intro hc <;> try (exfalso; first | omega | exact hc rfl | exact hc (by assumption) | exact absurd hc (by assumption))) | refine pIf_t ?_ | refine pIf_f ?_ | refine pN_l hS (by first | rfl | assumption) ?_ | refine pL_la hS (by rfl) ?_ | refine pL_ra hS (by rfl) ?_ | (refine pN_sa hS (by rfl) (by rfl) (by rfl) ?_; clear hS; intro w hS; try dsimp only at hS) | (refine pDr_go hS ?_; clear hS; intro w hS) | (refine pN_nz hS ?_; clear hS; intro a w hS) | refine ⟨trivial, ?_⟩ | (refine pN_b1 hS (by rfl) (by decide) ?_; clear hS; intro s w hS) | refine pN_v (hk := ?_) | fail)
    exact hQ _ _ hS.to
  · have e : Z.made x s y = Z.cpy x.all (Z.dist s y).toNat (Z.size y).toNat := by rw [Z.made, if_neg hk]
    have hh := Z.may_has hm hk
    rw [e] at hQ
    repeat' (first | refine pL_la hS (by rfl) ?_ | exact run_la_at hS [.int .i64 y.Kind, bv y.Byte, .int .i64 y.Len, .int .i64 y.Dist] rfl rfl | (refine pc_pithref13_Dist (R13Dist_ok hS hy ?_); clear hS; intro w hS) | (refine pc_pithref13_Size (R13Size_ok (y := y) hS ?_); clear hS; intro w hS) | (refine pc_pithref10_Window_Copy (R10Copy_at (hS.fd (RWin b)) h0 _ _ hh (by omega) (by omega) (by omega) ?_); clear hS; intro s' w hS) | refine And.intro ?_ ?_ | exact trivial | ((first | refine pN_eql_s ?_ ?_ | refine pN_neq_s ?_ ?_) <;> intro hc <;> try (exfalso; first | omega | exact hc rfl | exact hc (by assumption) | exact absurd hc (by assumption))) | refine pIf_f ?_ | refine pN_l hS (by first | rfl | assumption) ?_ | refine pL_la hS (by rfl) ?_ | refine pL_ra hS (by rfl) ?_ | (refine pN_sa hS (by rfl) (by rfl) (by rfl) ?_; clear hS; intro w hS; try dsimp only at hS) | (refine pDr_go hS ?_; clear hS; intro w hS) | (refine pN_nz hS ?_; clear hS; intro a w hS) | refine pN_v (hk := ?_) | refine pA_v (hk := ?_) | fail)
    exact hQ _ _ hS.to

set_option maxHeartbeats 1600000 in
theorem R13Apply_no (hS : Sat E w (RWin b x :: M)) (h0 : 0 ≤ x.size) (hr : s.Right) (hm : Z.may x s y ≠ 0)
    (hQ : ∀ w, Sat E w (RWin b x :: M) → Q (.tuple #[.slice none 0 0, .agg #[.int .i64 0, .int .i64 0, .int .i64 0, .int .i64 0, .int .i64 0], .int .i64 (Z.may x s y)]) w) :
    Calls Tryz.prog 73 #[pz b, .agg #[.int .i64 s.num, .int .i64 s.r0, .int .i64 s.r1, .int .i64 s.r2, .int .i64 s.r3], .agg #[.int .i64 y.Kind, bv y.Byte, .int .i64 y.Len, .int .i64 y.Dist]] w (retP Q) := by
  refine pithref13_Apply.calls ?_
  unfold pithref13_Apply.F
  refine pN_bx hS (by rfl) fun x4 w hS => ?_
  refine pN_bx hS (by rfl) fun x5 w hS => ?_
  refine pN_nz hS fun x7 w hS => ?_
  refine pN_la hS (by rfl) ?_
  refine pN_la hS (by rfl) ?_
  by_cases hy : Z.errY y = 0
  · have hk : y.Kind ≠ 1 := fun hk => hm (by rw [Z.may, if_neg (by omega), if_pos hk])
    have hh : ¬ x.has (Z.dist s y) := fun hh => hm (by rw [Z.may, if_neg (by omega), if_neg hk, if_pos hh])
    have e7 : Z.may x s y = 7 := by rw [Z.may, if_neg (by omega), if_neg hk, if_neg hh]
    rw [e7] at hQ
    refine pc_pithref12_Next (R12Next_in hS hr hy fun w hS => ?_)
    repeat' (first | refine pL_la hS (by rfl) ?_ | exact run_la_at hS [.int .i64 y.Kind, bv y.Byte, .int .i64 y.Len, .int .i64 y.Dist] rfl rfl | (refine pc_pithref13_Dist (R13Dist_ok hS hy ?_); clear hS; intro w hS) | (refine pc_pithref13_Size (R13Size_ok (y := y) hS ?_); clear hS; intro w hS) | (refine pc_pithref10_Window_Copy (R10Copy_no (hS.fd (RWin b)) h0 _ _ (fun h => hh h.1) ?_); clear hS; intro w hS) | refine And.intro ?_ ?_ | exact trivial | ((first | refine pN_eql_s ?_ ?_ | refine pN_neq_s ?_ ?_) <;> intro hc <;> try (exfalso; first | omega | exact hc rfl | exact hc (by assumption) | exact absurd hc (by assumption))) | refine pIf_t ?_ | refine pIf_f ?_ | refine pN_l hS (by first | rfl | assumption) ?_ | refine pL_la hS (by rfl) ?_ | refine pL_ra hS (by rfl) ?_ | (refine pN_sa hS (by rfl) (by rfl) (by rfl) ?_; clear hS; intro w hS; try dsimp only at hS) | (refine pDr_go hS ?_; clear hS; intro w hS) | (refine pN_nz hS ?_; clear hS; intro a w hS) | refine pN_v (hk := ?_) | refine pA_v (hk := ?_) | fail)
    exact hQ _ hS.to
  · have e7 : Z.may x s y = Z.errY y := by rw [Z.may, if_pos (by omega)]
    rw [e7] at hQ
    refine pc_pithref12_Next (R12Next_no hS hr hy fun w hS => ?_)
    repeat' (first | (refine pN_neq_s ?_ ?_ <;> intro hc <;> try (exfalso; first | omega | exact hc rfl | exact hc (by assumption) | exact absurd hc (by assumption))) | refine pIf_t ?_ | refine pL_ra hS (by rfl) ?_ | (refine pN_sa hS (by rfl) (by rfl) (by rfl) ?_; clear hS; intro w hS; try dsimp only at hS) | (refine pN_nz hS ?_; clear hS; intro a w hS) | refine pN_v (hk := ?_) | fail)
    exact hQ _ hS.to
end

end Go.Proofs.YtbgnnjfpiblkmaaGreatDoor

namespace Go.Proofs.YtbgnnjfpiblkmaaGreatDoor
open Go Go.ChangeMaps Go.MapKept

class KeyC (P : Program) (kt : TypeId) {κ : Type} (ke : κ → Value) : Prop where
  inj : ∀ a b, ke a = ke b → a = b
  check : ∀ (k : κ) em w, (Instr.checkKey em 10000 kt (ke k)).run P w = .ok () w
  find : ∀ (k : κ) (es : List MapEntry) w, (∀ e ∈ es, ∃ k', e.key = ke k') →
    ((Instr.findKey kt (ke k) es).run P w = .ok none w ∧ ∀ e ∈ es, e.key ≠ ke k) ∨ ∃ j e, (Instr.findKey kt (ke k) es).run P w = .ok (some (j, e.val)) w ∧ es[j]? = some e ∧ e.key = ke k
  stays : ∀ k w, (Instr.keyThatStays (ke k) (ke k)).run P w = .ok (ke k) w

class MapT (P : Program) (t : TypeId) {κ : Type} (ke : outParam (κ → Value)) (z : outParam Value) : Prop where
  ex : ∃ kt e, P.underlying t = some (.map kt e) ∧ (∀ w, (zeroValue e).run P w = .ok z w) ∧ KeyC P kt ke

theorem KeyC.of {P : Program} {kt : TypeId} {κ : Type} {ke : κ → Value} (K : Maps.Keyed P kt) (kl : κ → Lit) (h : ∀ k, keyOf P kt (ke k) = some (kl k)) (hi : ∀ a b, ke a = ke b → a = b) : KeyC P kt ke where
  inj := hi
  check k em w := K.check w em (h k)
  find k es w hes := K.find w (h k) es fun e he => by obtain ⟨k', hk⟩ := hes e he; exact ⟨kl k', by rw [hk]; exact h k'⟩
  stays k w := K.stays w (h k)

theorem MkM.run_mk {P : Program} (t : TypeId) (w : World) : (Instr.makeMap t none).run P w = .ok (.map (some w.heap.size)) (w.alloc (.map #[] 0)) := rfl

section
variable {κ : Type} {ke : κ → Value}

def kvs (ke : κ → Value) (l : List (κ × Value)) : List (Value × Value) := l.map fun p => (ke p.1, p.2)
def eks (es : List MapEntry) : List (Value × Value) := es.map fun e => (e.key, e.val)

def mp (ke : κ → Value) (b : Nat) (l : List (κ × Value)) : HA := fun h => ∃ es clock, h b = some (.map es clock) ∧ Stamped es clock ∧ eks es.toList = kvs ke l

structure Rng (κ : Type) where
  all : List (κ × Value)
  left : List (κ × Value)
  cur : Option (κ × Value)
def mrng (ke : κ → Value) (b r : Nat) (x : Rng κ) : HA := fun h => ∃ es clock seen, h b = some (.map es clock) ∧ h r = some (.mapIter (some b) clock seen clock) ∧ Stamped es clock ∧ eks es.toList = kvs ke x.all ∧
  eks (es.toList.filter fun e => !seen.contains e.born) = kvs ke x.left ∧ ∀ p, x.cur = some p → ∃ e ∈ es.toList, seen.back? = some e.born ∧ ke p.1 = e.key ∧ p.2 = e.val

variable [DecidableEq κ]
def mget : List (κ × Value) → κ → Option Value
  | [], _ => none
  | p :: l, k => if p.1 = k then some p.2 else mget l k
def mput : List (κ × Value) → κ → Value → List (κ × Value)
  | [], k, v => [(k, v)]
  | p :: l, k, v => if p.1 = k then (k, v) :: l else p :: mput l k v

omit [DecidableEq κ] in
theorem eks_keys {es : List MapEntry} {l : List (κ × Value)} (h : eks es = kvs ke l) : ∀ e ∈ es, ∃ k', e.key = ke k' := by
  intro e he
  have : (e.key, e.val) ∈ kvs ke l := by rw [← h]; exact List.mem_map.2 ⟨e, he, rfl⟩
  obtain ⟨p, _, hp⟩ := List.mem_map.1 this
  exact ⟨p.1, (congrArg Prod.fst hp).symm⟩
theorem mget_none (hi : ∀ a b, ke a = ke b → a = b) : ∀ {es : List MapEntry} {l : List (κ × Value)} {k : κ}, eks es = kvs ke l → (∀ e ∈ es, e.key ≠ ke k) → mget l k = none
  | [], [], _, _, _ => rfl
  | [], p :: l, _, h, _ => by cases h
  | e :: es, [], _, h, _ => by cases h
  | e :: es, p :: l, k, h, hn => by
    simp only [eks, kvs, List.map_cons, List.cons.injEq, Prod.mk.injEq] at h
    have h1 := hn e List.mem_cons_self
    rw [mget, if_neg (fun e' => h1 (by rw [h.1.1, e']))]
    exact mget_none hi h.2 fun e he => hn e (List.mem_cons_of_mem _ he)
theorem mget_some (hi : ∀ a b, ke a = ke b → a = b) : ∀ {es : List MapEntry} {l : List (κ × Value)} {k : κ} {j : Nat} {e : MapEntry}, eks es = kvs ke l → (es.map (·.key)).Nodup → es[j]? = some e → e.key = ke k → mget l k = some e.val
  | [], _, _, _, _, _, _, h, _ => by simp at h
  | e :: es, [], _, _, _, h, _, _, _ => by cases h
  | e :: es, p :: l, k, 0, e', h, _, hj, hk => by
    simp only [eks, kvs, List.map_cons, List.cons.injEq, Prod.mk.injEq] at h
    simp only [List.getElem?_cons_zero, Option.some.injEq] at hj
    subst hj
    rw [mget, if_pos (hi _ _ (by rw [← h.1.1, hk])), h.1.2]
  | e :: es, p :: l, k, j + 1, e', h, hn, hj, hk => by
    simp only [eks, kvs, List.map_cons, List.cons.injEq, Prod.mk.injEq] at h
    rw [List.getElem?_cons_succ] at hj
    rw [List.map_cons, List.nodup_cons] at hn
    rw [mget, if_neg fun e' => hn.1 (List.mem_map.2 ⟨_, List.mem_of_getElem? hj, by rw [hk, h.1.1, e']⟩)]
    exact mget_some hi h.2 hn.2 hj hk
theorem mput_none (hi : ∀ a b, ke a = ke b → a = b) (v : Value) (c : Nat) : ∀ {es : List MapEntry} {l : List (κ × Value)} {k : κ}, eks es = kvs ke l → (∀ e ∈ es, e.key ≠ ke k) → eks (es ++ [⟨ke k, v, c⟩]) = kvs ke (mput l k v)
  | [], [], _, _, _ => rfl
  | [], p :: l, _, h, _ => by cases h
  | e :: es, [], _, h, _ => by cases h
  | e :: es, p :: l, k, h, hn => by
    have h' := h
    simp only [eks, kvs, List.map_cons, List.cons.injEq, Prod.mk.injEq] at h'
    have h1 := hn e List.mem_cons_self
    rw [mput, if_neg (fun e' => h1 (by rw [h'.1.1, e']))]
    have ih := mput_none hi v c h'.2 fun e he => hn e (List.mem_cons_of_mem _ he)
    simp only [eks, kvs, List.map_cons, List.cons_append, List.cons.injEq, Prod.mk.injEq] at ih ⊢
    exact ⟨h'.1, ih⟩
theorem mput_some (hi : ∀ a b, ke a = ke b → a = b) (v : Value) : ∀ {es : List MapEntry} {l : List (κ × Value)} {k : κ} {j : Nat} {e : MapEntry}, eks es = kvs ke l → (es.map (·.key)).Nodup → es[j]? = some e → e.key = ke k →
    eks (es.modify j fun e => { e with key := ke k, val := v }) = kvs ke (mput l k v)
  | [], _, _, _, _, _, _, h, _ => by simp at h
  | e :: es, [], _, _, _, h, _, _, _ => by cases h
  | e :: es, p :: l, k, 0, e', h, _, hj, hk => by
    simp only [eks, kvs, List.map_cons, List.cons.injEq, Prod.mk.injEq] at h
    simp only [List.getElem?_cons_zero, Option.some.injEq] at hj
    subst hj
    rw [mput, if_pos (hi _ _ (by rw [← h.1.1, hk]))]
    simp only [List.modify_zero_cons, eks, kvs, List.map_cons, List.cons.injEq, true_and]
    exact h.2
  | e :: es, p :: l, k, j + 1, e', h, hn, hj, hk => by
    have h' := h
    simp only [eks, kvs, List.map_cons, List.cons.injEq, Prod.mk.injEq] at h'
    rw [List.getElem?_cons_succ] at hj
    rw [List.map_cons, List.nodup_cons] at hn
    rw [mput, if_neg fun e' => hn.1 (List.mem_map.2 ⟨_, List.mem_of_getElem? hj, by rw [hk, h'.1.1, e']⟩)]
    have ih := mput_some hi v h'.2 hn.2 hj hk
    simp only [List.modify_succ_cons, eks, kvs, List.map_cons, List.cons.injEq, Prod.mk.injEq] at ih ⊢
    exact ⟨h'.1, ih⟩
end

section
variable [Pan] {P : Program} {E w : World} {K : Value → World → Prop} {J : Value → Prop} {L M : List HA} {κ : Type} [DecidableEq κ] {ke : κ → Value} {t : TypeId} {z : Value} {b r : Nat} {l : List (κ × Value)}

omit [DecidableEq κ] in
theorem mp_at (hS : Sat E w L) [h : Fnd (mp ke b) L l M] : ∃ es clock, w.heap[b]? = some (.map es clock) ∧ Stamped es clock ∧ eks es.toList = kvs ke l := by
  obtain ⟨h1, ⟨es, clock, hb, hs, he⟩, hsub⟩ := (hS.fd (mp ke b)).head
  exact ⟨es, clock, hsub _ _ hb, hs, he⟩

omit [DecidableEq κ] in
theorem pN_mkm (hS : Sat E w L) (ke : κ → Value) (hk : ∀ b w', Sat E w' (mp ke b [] :: L) → K (.map (some b)) w') : pN P (oMap t none) w K := by
  have hr : (oMap t none).run P w = .ok (.value (.map (some w.heap.size))) (w.alloc (.map #[] 0)) := run_oV_ok (MkM.run_mk t w)
  rw [pN_def, hr, rN_value]
  refine hk _ _ ((hS.alloc (.map #[] 0)).weaken fun h hb => ⟨#[], 0, hb, ⟨by simp, by simp, by simp⟩, rfl⟩)

theorem run_lkk (hS : Sat E w L) [h : Fnd (mp ke b) L l M] [hT : MapT P t ke z] (k : κ) (ok : Bool) :
    ((oLook t (.map (some b)) (ke k) ok).run P w = .ok (.value (if ok then .tuple #[z, .bool false] else z)) w ∧ mget l k = none) ∨
    ∃ v, (oLook t (.map (some b)) (ke k) ok).run P w = .ok (.value (if ok then .tuple #[v, .bool true] else v)) w ∧ mget l k = some v := by
  obtain ⟨kt, e, ht, hz, hK⟩ := hT.ex
  obtain ⟨es, clock, hb, hs, he⟩ := mp_at (ke := ke) (b := b) hS
  rcases hK.find k es.toList w (eks_keys he) with ⟨h1, h2⟩ | ⟨j, e0, h1, h2, h3⟩
  · refine .inl ⟨run_oV_ok ?_, mget_none hK.inj he h2⟩
    simp [Instr.lookup, run_underlying ht, MapKept.run_getObj_map hb, hK.check k, h1, hz, Result.andThen]
  · refine .inr ⟨e0.val, run_oV_ok ?_, mget_some hK.inj he hs.2.2 h2 h3⟩
    simp [Instr.lookup, run_underlying ht, MapKept.run_getObj_map hb, hK.check k, h1, Result.andThen]

theorem pN_lko (hS : Sat E w L) [h : Fnd (mp ke b) L l M] [hT : MapT P t ke z] (k : κ) (h1 : ∀ v, mget l k = some v → K (.tuple #[v, .bool true]) w) (h2 : mget l k = none → K (.tuple #[z, .bool false]) w) :
    pN P (oLook t (.map (some b)) (ke k) true) w K := by
  rcases run_lkk (P := P) (t := t) (ke := ke) (b := b) hS k true with ⟨h, hn⟩ | ⟨v, h, hv⟩
  · rw [pN_def, h, rN_value]; exact h2 hn
  · rw [pN_def, h, rN_value]; exact h1 v hv
theorem Sat.set_blk {b : Nat} {o o' : Obj} {A B : HA} (hS : Sat E w (A :: L)) (ha : ∀ h, A h → h b = some o) (hb : ∀ h : Hp, A h → B (fun k => if k = b then some o' else h k)) : Sat E (ChangeMaps.setBlock w b o') (B :: L) := by
  refine hS.turn rfl rfl rfl fun h1 hA s => ?_
  have hb1 := s b o (ha h1 hA)
  have hset := heap_set (o' := o') hb1
  refine ⟨fun k => if k = b then some o' else h1 k, hb h1 hA, ?_, ?_⟩
  · intro k o ek
    dsimp only at ek
    split at ek
    · rename_i hkb; subst hkb; cases ek; exact hset.1
    · rename_i hkb; exact (hset.2 k hkb).trans (s k o ek)
  · intro k o ek hn
    have hkb : k ≠ b := fun e => by subst e; rw [ha h1 hA] at hn; cases hn
    dsimp only
    rw [if_neg hkb]
    exact ⟨(hset.2 k hkb).trans ek, hn⟩

theorem pN_mup (hS : Sat E w L) [h : Fnd (mp ke b) L l M] [hT : MapT P t ke z] (k : κ) (v : Value) (hk : ∀ w', Sat E w' (mp ke b (mput l k v) :: M) → K undef w') : pN P (oMapUp t (.map (some b)) (ke k) v) w K := by
  obtain ⟨kt, e, ht, hz, hK⟩ := hT.ex
  obtain ⟨es, clock, hb, hs, he⟩ := mp_at (ke := ke) (b := b) hS
  have h0 : Sat E w ((fun h => h b = some (.map es clock)) :: M) := by
    obtain ⟨h1, ⟨es', clock', hb', _, _⟩, hsub, hr⟩ := (hS.fd (mp ke b)).sats
    have : w.heap[b]? = some (.map es' clock') := hsub _ _ hb'
    rw [hb] at this
    simp only [Option.some.injEq, Obj.map.injEq] at this
    obtain ⟨rfl, rfl⟩ := this
    exact ⟨hS.os, hS.tape, hS.output, h1, hb', hsub, hr⟩
  rcases hK.find k es.toList w (eks_keys he) with ⟨h1, h2⟩ | ⟨j, e0, h1, h2, h3⟩
  · have hr : (oMapUp t (.map (some b)) (ke k) v).run P w = .ok .skip (setBlock w b (.map (es.push ⟨ke k, v, clock⟩) (clock + 1))) := by
      simp [oMapUp, oU, Instr.mapUpdate, run_underlying ht, MapKept.run_getObj_map hb, hK.check k, h1, MapKept.run_setObj_map _ hb, Result.andThen, setBlock]
    rw [pN_def, hr]
    refine hk _ (h0.set_blk (fun h e => e) fun h e => ⟨_, _, if_pos rfl, ⟨?_, ?_, ?_⟩, ?_⟩)
    · intro x hx
      simp only [Array.toList_push, List.mem_append, List.mem_singleton] at hx
      rcases hx with hx | rfl
      · have := hs.1 x hx; omega
      · simp
    · simp only [Array.toList_push, List.map_append, List.map_cons, List.map_nil]
      refine List.nodup_append.2 ⟨hs.2.1, by simp, fun a ha c hc => ?_⟩
      simp only [List.mem_singleton] at hc
      obtain ⟨x, hx, rfl⟩ := List.mem_map.1 ha
      have := hs.1 x hx
      omega
    · simp only [Array.toList_push, List.map_append, List.map_cons, List.map_nil]
      refine List.nodup_append.2 ⟨hs.2.2, by simp, fun a ha c hc => ?_⟩
      simp only [List.mem_singleton] at hc
      obtain ⟨x, hx, rfl⟩ := List.mem_map.1 ha
      rw [hc]; exact h2 x hx
    · rw [Array.toList_push]
      exact mput_none hK.inj v clock he h2
  · have hj : (es[j]?).map (·.key) = some (ke k) := by
      rw [← Array.getElem?_toList, h2, Option.map_some, h3]
    have hr : (oMapUp t (.map (some b)) (ke k) v).run P w = .ok .skip (setBlock w b (.map (es.modify j fun e => { e with key := ke k, val := v }) clock)) := by
      simp [oMapUp, oU, Instr.mapUpdate, run_underlying ht, MapKept.run_getObj_map hb, hK.check k, h1, hj, hK.stays k, MapKept.run_setObj_map _ hb, Result.andThen, setBlock]
    rw [pN_def, hr]
    have hm : (es.modify j fun e => { e with key := ke k, val := v }).toList = es.toList.modify j fun e => { e with key := ke k, val := v } := by simp
    have hb' : ∀ {γ : Type} (f : MapEntry → γ) (hf : ∀ e : MapEntry, f { e with key := ke k, val := v } = f e) (m : List MapEntry) (j : Nat), (m.modify j fun e => { e with key := ke k, val := v }).map f = m.map f := by
      intro γ f hf m
      induction m with
      | nil => intro j; cases j <;> rfl
      | cons x m ih =>
        intro j
        cases j with
        | zero => simp [List.modify_zero_cons, hf]
        | succ j => simp [List.modify_succ_cons, ih]
    have hk' : (es.toList.modify j fun e => { e with key := ke k, val := v }).map (·.key) = es.toList.map (·.key) := by
      refine List.ext_getElem? fun i => ?_
      rw [List.getElem?_map, List.getElem?_map, List.getElem?_modify]
      by_cases hij : j = i
      · subst hij
        rw [h2]; simp [h3]
      · cases es.toList[i]? <;> simp [hij]
    refine hk _ (h0.set_blk (fun h e => e) fun h e => ⟨_, _, if_pos rfl, ⟨?_, ?_, ?_⟩, ?_⟩)
    · intro x hx
      rw [hm] at hx
      have : x.born ∈ es.toList.map (·.born) := by
        rw [← hb' (·.born) (fun _ => rfl) es.toList j]; exact List.mem_map.2 ⟨x, hx, rfl⟩
      obtain ⟨y, hy, e⟩ := List.mem_map.1 this
      rw [← e]; exact hs.1 y hy
    · rw [hm, hb' (·.born) (fun _ => rfl)]; exact hs.2.1
    · rw [hm, hk']; exact hs.2.2
    · rw [hm]; exact mput_some hK.inj v he hs.2.2 h2 h3

omit [DecidableEq κ] in
theorem pN_rng (hS : Sat E w L) [h : Fnd (mp ke b) L l M] [hT : MapT P t ke z] (hk : ∀ r w', Sat E w' (mrng ke b r ⟨l, l, none⟩ :: M) → K (.pointer (some ⟨r, 0, none⟩)) w') : pN P (oRange t (.map (some b))) w K := by
  obtain ⟨kt, e, ht, hz, hK⟩ := hT.ex
  obtain ⟨es, clock, hb, hs, he⟩ := mp_at (ke := ke) (b := b) hS
  have hr : (oRange t (.map (some b))).run P w = .ok (.value (.pointer (some ⟨w.heap.size, 0, none⟩))) (w.alloc (.mapIter (some b) clock #[] clock)) := run_oV_ok (run_range_map w t kt e b es clock ht hb)
  rw [pN_def, hr, rN_value]
  refine hk _ _ ?_
  have h1 := (hS.fd (mp ke b)).alloc (.mapIter (some b) clock #[] clock)
  obtain ⟨ha, hA, sa, hm, hM, sm, hr⟩ := h1.sats
  obtain ⟨es', clock', hb', hs', he'⟩ := hM
  have hb2 : w.heap[b]? = some (.map es' clock') := by
    have hlt : b < w.heap.size := (Array.getElem?_eq_some_iff.1 hb).1
    have := less_sub _ _ _ _ (sm _ _ hb')
    have e2 : (w.alloc (.mapIter (some b) clock #[] clock)).heap[b]? = w.heap[b]? := (MapKept.heap_alloc w _).2 b hlt
    exact e2.symm.trans this
  rw [hb] at hb2
  simp only [Option.some.injEq, Obj.map.injEq] at hb2
  obtain ⟨rfl, rfl⟩ := hb2
  refine Sat.shut (M := [blk w.heap.size (.mapIter (some b) clock #[] clock), fun h => h b = some (.map es clock)]) ⟨hS.os, hS.tape, hS.output, ha, hA, sa, hm, hb', sm, hr⟩ ?_
  rintro h ⟨h1, e1, s1, h2, e2, s2, _⟩
  refine ⟨es, clock, #[], less_sub _ _ _ _ (s2 _ _ e2), s1 _ _ e1, hs, he, ?_, fun p hp => by cases hp⟩
  have : es.toList.filter (fun e => !(#[] : Array Nat).contains e.born) = es.toList := List.filter_eq_self.2 fun x _ => by simp
  rw [this]; exact he

omit [DecidableEq κ] in
theorem mrng_end {x : Rng κ} (hS : Sat E w L) [h : Fnd (mrng ke b r) L x M] : Sat E w (mp ke b x.all :: M) :=
  (hS.fd (mrng ke b r)).weaken fun h ⟨es, clock, _, hb, _, hs, he, _⟩ => ⟨es, clock, hb, hs, he⟩

theorem map_erase {α β : Type} (f : α → β) : ∀ (l : List α) (i : Nat), (l.map f).eraseIdx i = (l.eraseIdx i).map f
  | [], _ => rfl
  | _ :: _, 0 => rfl
  | a :: l, i + 1 => by simp only [List.map_cons, List.eraseIdx_cons_succ, map_erase f l i]

theorem filter_erase : ∀ {l : List MapEntry} {i : Nat} {e : MapEntry}, (l.map (·.born)).Nodup → l[i]? = some e → l.filter (fun x => !(x.born == e.born)) = l.eraseIdx i
  | [], _, _, _, h => by simp at h
  | a :: l, 0, e, hn, h => by
    simp only [List.getElem?_cons_zero, Option.some.injEq] at h
    subst h
    rw [List.map_cons, List.nodup_cons] at hn
    rw [List.filter_cons, if_neg (by simp), List.eraseIdx_cons_zero, List.filter_eq_self]
    intro x hx
    simp only [Bool.not_eq_eq_eq_not, Bool.not_true, beq_eq_false_iff_ne, ne_eq]
    exact fun e => hn.1 (List.mem_map.2 ⟨x, hx, e⟩)
  | a :: l, i + 1, e, hn, h => by
    rw [List.getElem?_cons_succ] at h
    rw [List.map_cons, List.nodup_cons] at hn
    have hne : a.born ≠ e.born := fun e' => hn.1 (List.mem_map.2 ⟨e, List.mem_of_getElem? h, e'.symm⟩)
    rw [List.filter_cons, if_pos (by simpa using hne), List.eraseIdx_cons_succ, filter_erase hn.2 h]

omit [DecidableEq κ] in
theorem pN_nxt {x : Rng κ} {ty : TypeId} (hS : Sat E w L) [h : Fnd (mrng ke b r) L x M] (h0 : x.left = [] → K (.tuple #[.bool false]) w)
    (h1 : ∀ (i : Nat) (p : κ × Value) (w' : World), x.left[i]? = some p → Sat E w' (mrng ke b r ⟨x.all, x.left.eraseIdx i, some p⟩ :: M) → K (.tuple #[.bool true, ke p.1, p.2]) w') : pN P (oNext (.pointer (some ⟨r, 0, none⟩)) false ty) w K := by
  have hS0 := hS.fd (mrng ke b r)
  obtain ⟨hh, ⟨es, clock, seen, hb, hr, hs, he, hl, _⟩, hsub, hrest⟩ := hS0.sats
  have hbw : w.heap[b]? = some (.map es clock) := hsub _ _ hb
  have hrw : w.heap[r]? = some (.mapIter (some b) clock seen clock) := hsub _ _ hr
  have hleft : (leftOf es seen).toList = es.toList.filter fun e => !seen.contains e.born := by simp [leftOf]
  rcases run_next_at (P := P) w ty r b clock clock seen es clock hrw hbw hs.1 (Nat.le_refl _) with ⟨hz, hrun⟩ | ⟨e, hem, w1, hw1, hrun⟩
  · rw [pN_def, show (oNext (.pointer (some ⟨r, 0, none⟩)) false ty).run P w = .ok (.value (.tuple #[.bool false])) w from run_oV_ok hrun, rN_value]
    refine h0 ?_
    have e0 : (leftOf es seen).toList = [] := by rw [← List.length_eq_zero_iff]; simpa using hz
    rw [hleft] at e0
    rw [e0] at hl
    cases hx : x.left with
    | nil => rfl
    | cons a b => rw [hx] at hl; cases hl
  · rw [pN_def, show (oNext (.pointer (some ⟨r, 0, none⟩)) false ty).run P w = .ok (.value (.tuple #[.bool true, e.key, e.val])) _ from run_oV_ok hrun, rN_value]
    rw [hleft] at hem
    obtain ⟨i, hi⟩ := List.getElem?_of_mem hem
    have hi2 : (kvs ke x.left)[i]? = some (e.key, e.val) := by rw [← hl, eks, List.getElem?_map, hi]; rfl
    rw [kvs, List.getElem?_map] at hi2
    obtain ⟨p, hp, hpe⟩ := Option.map_eq_some_iff.1 hi2
    have hke : ke p.1 = e.key := congrArg Prod.fst hpe
    have hve : p.2 = e.val := congrArg Prod.snd hpe
    have hS1 : Sat E w1 ((fun h => h b = some (.map es clock) ∧ h r = some (.mapIter (some b) clock seen clock)) :: M) := by
      have : Sat E w ((fun h => h b = some (.map es clock) ∧ h r = some (.mapIter (some b) clock seen clock)) :: M) := ⟨hS.os, hS.tape, hS.output, hh, ⟨hb, hr⟩, hsub, hrest⟩
      rcases hw1 with rfl | rfl
      · exact this
      · exact this.drew
    have hS2 := hS1.set_blk (o' := .mapIter (some b) clock (seen.push e.born) clock) (B := fun h => h b = some (.map es clock) ∧ h r = some (.mapIter (some b) clock (seen.push e.born) clock)) (fun h e => e.2) (fun h e => ⟨by
      have hne : b ≠ r := fun e' => by subst e'; have := e.1.symm.trans e.2; cases this
      dsimp only
      rw [if_neg hne]; exact e.1, if_pos rfl⟩)
    have hem' : e ∈ es.toList := (List.mem_filter.1 hem).1
    rw [← hke, ← hve]
    refine h1 i p _ hp (hS2.weaken fun h hh => ⟨es, clock, seen.push e.born, hh.1, hh.2, hs, he, ?_, fun q hq => ?_⟩)
    · have hnd : ((es.toList.filter fun e => !seen.contains e.born).map (·.born)).Nodup := (List.filter_sublist.map _).nodup hs.2.1
      have e1 : (es.toList.filter fun x => !(seen.push e.born).contains x.born) = (es.toList.filter fun e => !seen.contains e.born).eraseIdx i := by
        rw [← filter_erase hnd hi, List.filter_filter]
        congr 1
        funext x
        rw [contains_push]
        cases seen.contains x.born <;> cases (x.born == e.born) <;> rfl
      rw [e1]
      simp only [eks, kvs] at hl ⊢
      rw [← map_erase, hl, map_erase]
    · simp only [Option.some.injEq] at hq
      subst hq
      exact ⟨e, hem', by simp, hke, hve⟩

theorem pN_ent {x : Rng κ} {p : κ × Value} (hS : Sat E w L) [h : Fnd (mrng ke b r) L x M] (hc : x.cur = some p) (hk : K (.tuple #[ke p.1, p.2]) w) : pN P (oEntry (.pointer (some ⟨r, 0, none⟩))) w K := by
  obtain ⟨hh, ⟨es, clock, seen, hb, hr, hs, he, hl, hcur⟩, hsub, hrest⟩ := (hS.fd (mrng ke b r)).sats
  obtain ⟨e, hem, hbk, hke, hve⟩ := hcur p hc
  have hsn : seen = seen.pop.push e.born := by
    have hne : seen.size ≠ 0 := fun h => by rw [Array.eq_empty_of_size_eq_zero h] at hbk; simp at hbk
    have h1 := Array.eq_push_pop_back!_of_size_ne_zero hne
    have h2 : seen.back! = e.born := by
      rw [Array.back!_eq_back?, hbk]; rfl
    rw [h2] at h1
    exact h1
  have hrw : w.heap[r]? = some (.mapIter (some b) clock (seen.pop.push e.born) clock) := by rw [← hsn]; exact hsub _ _ hr
  rw [pN_def, show (oEntry (.pointer (some ⟨r, 0, none⟩))).run P w = .ok (.value (.tuple #[e.key, e.val])) w from run_oV_ok (run_entry_at w r b clock seen.pop es clock e hrw (hsub _ _ hb) hem hs.2.1), rN_value, ← hke, ← hve]
  exact hk
end

end Go.Proofs.YtbgnnjfpiblkmaaGreatDoor

namespace Go.Proofs.YtbgnnjfpiblkmaaGreatDoor
open Go
abbrev Key := {l : List UInt8 // l.length ≤ 1000}
abbrev ske : Key → Value := fun l => .string ⟨l.1.toArray⟩
theorem key_str (k : Key) : keyOf Tryz.prog 9 (ske k) = some (Lit.string k.1) := by
  have h := k.2
  have h2 : (ByteArray.mk k.1.toArray).size ≤ maxLen := by rw [size_str]; unfold maxLen; omega
  simp only [keyOf, mapKey, Tryz.underlying9, ske, h2, if_true]
theorem set_same {α : Type} : ∀ {l : List α} {i : Nat} {a : α}, l[i]? = some a → l.set i a = l
  | [], _, _, h => by simp at h
  | x :: l, 0, a, h => by simp at h; subst h; rfl
  | x :: l, i + 1, a, h => by simp only [List.set_cons_succ]; rw [set_same (by simpa using h)]
structure NS where
  name : Key
  b : Nat
  l : List Int
namespace Z
def updN (f : Key → List Int) (n : Key) (l : List Int) : Key → List Int := fun k => if k = n then l else f k
def look (fr : List Int) : List NS → Key → List Int
  | [], _ => fr
  | e :: m, n => if e.name = n then e.l else look fr m n
end Z
def nsV (m : List NS) : List (Key × Value) := m.map fun e => (e.name, pz e.b)
def nsA (S : Nat → List Int → HA) (m : List NS) : List HA := m.map fun e => S e.b e.l
def NSets (S : Nat → List Int → HA) (fr : List Int) (bm : Nat) (N : Key → List Int) : HA := fun h => ∃ m : List NS, (m.map (·.name)).Nodup ∧ (∀ n, N n = Z.look fr m n) ∧ Sats (mp ske bm (nsV m) :: nsA S m) h
def NHole (S : Nat → List Int → HA) (fr : List Int) (bm : Nat) (N : Key → List Int) (n : Key) (b : Nat) : HA := fun h => ∃ (m : List NS) (i : Nat) (l : List Int), m[i]? = some ⟨n, b, l⟩ ∧ (m.map (·.name)).Nodup ∧ (∀ n, N n = Z.look fr m n) ∧ Sats (mp ske bm (nsV m) :: (nsA S m).eraseIdx i) h

namespace Z
theorem look_at {fr : List Int} : ∀ {m : List NS} {i : Nat} {e : NS}, (m.map (·.name)).Nodup → m[i]? = some e → look fr m e.name = e.l
  | [], _, _, _, h => by simp at h
  | x :: m, 0, e, _, h => by simp at h; subst h; simp [look]
  | x :: m, i + 1, e, hn, h => by
    simp only [List.map_cons, List.nodup_cons, List.getElem?_cons_succ] at hn h
    have hne : x.name ≠ e.name := fun he => hn.1 (he ▸ List.mem_map_of_mem (List.mem_of_getElem? h))
    rw [look, if_neg hne]
    exact look_at hn.2 h
theorem look_set {fr : List Int} : ∀ {m : List NS} {i : Nat} {e : NS} (l : List Int), (m.map (·.name)).Nodup → m[i]? = some e → ∀ n, look fr (m.set i ⟨e.name, e.b, l⟩) n = updN (look fr m) e.name l n
  | [], _, _, _, _, h, _ => by simp at h
  | x :: m, 0, e, l, _, h, n => by
    simp at h; subst h
    simp only [List.set_cons_zero, look, updN]
    by_cases hx : x.name = n
    · rw [if_pos hx, if_pos hx.symm]
    · rw [if_neg hx, if_neg (fun e => hx e.symm), if_neg hx]
  | x :: m, i + 1, e, l, hn, h, n => by
    simp only [List.map_cons, List.nodup_cons, List.getElem?_cons_succ] at hn h
    have hne : x.name ≠ e.name := fun he => hn.1 (he ▸ List.mem_map_of_mem (List.mem_of_getElem? h))
    have ih := look_set (fr := fr) l hn.2 h n
    simp only [List.set_cons_succ, look, ih, updN]
    by_cases hx : x.name = n
    · rw [if_pos hx, if_neg (fun e2 => hne (hx.trans e2)), if_pos hx]
    · rw [if_neg hx, if_neg hx]
theorem look_none {fr : List Int} : ∀ {m : List NS} {n : Key}, mget (nsV m) n = none → look fr m n = fr ∧ n ∉ m.map (·.name)
  | [], _, _ => ⟨rfl, by simp⟩
  | x :: m, n, h => by
    simp only [nsV, List.map_cons, mget] at h
    split at h
    · cases h
    · rename_i hx
      have ⟨h1, h2⟩ := look_none (fr := fr) (m := m) h
      refine ⟨by rw [look, if_neg hx, h1], ?_⟩
      simp only [List.map_cons, List.mem_cons, not_or]
      exact ⟨fun e => hx e.symm, h2⟩
theorem look_some : ∀ {m : List NS} {n : Key} {v : Value}, mget (nsV m) n = some v → ∃ (i : Nat) (e : NS), m[i]? = some e ∧ e.name = n ∧ v = pz e.b
  | [], _, _, h => by simp [nsV, mget] at h
  | x :: m, n, v, h => by
    simp only [nsV, List.map_cons, mget] at h
    split at h
    · rename_i hx
      exact ⟨0, x, rfl, hx, (Option.some.inj h).symm⟩
    · have ⟨i, e, h1, h2, h3⟩ := look_some (m := m) h
      exact ⟨i + 1, e, h1, h2, h3⟩
theorem mput_new : ∀ {m : List NS} {n : Key} (b : Nat) (l : List Int), n ∉ m.map (·.name) → mput (nsV m) n (pz b) = nsV (m ++ [⟨n, b, l⟩])
  | [], _, _, _, _ => rfl
  | x :: m, n, b, l, h => by
    simp only [List.map_cons, List.mem_cons, not_or] at h
    have ih := mput_new b l h.2
    simp only [nsV, List.map_cons, List.cons_append, mput] at ih ⊢
    rw [if_neg (fun e => h.1 e.symm), ih]
theorem look_new {fr : List Int} : ∀ {m : List NS} {n : Key} (b : Nat), n ∉ m.map (·.name) → ∀ k, look fr (m ++ [⟨n, b, fr⟩]) k = look fr m k
  | [], n, b, _, k => by simp only [List.nil_append, look]; split <;> rfl
  | x :: m, n, b, h, k => by
    simp only [List.map_cons, List.mem_cons, not_or] at h
    simp only [List.cons_append, look, look_new b h.2 k]
end Z
section
variable {E w : World} {M : List HA} {S : Nat → List Int → HA} {fr : List Int} {bm b c : Nat} {N : Key → List Int} {n : Key} {l : List Int}
theorem NSets.opn (hS : Sat E w (NSets S fr bm N :: M)) : ∃ m : List NS, (m.map (·.name)).Nodup ∧ (∀ n, N n = Z.look fr m n) ∧ Sat E w (mp ske bm (nsV m) :: (nsA S m ++ M)) := by
  obtain ⟨m, hS⟩ := hS.ex
  have h1 : (m.map (·.name)).Nodup ∧ ∀ n, N n = Z.look fr m n := by
    obtain ⟨h, hh, _⟩ := hS.head
    exact ⟨hh.1, hh.2.1⟩
  exact ⟨m, h1.1, h1.2, (hS.weaken fun h hh => hh.2.2).open_ (M := mp ske bm (nsV m) :: nsA S m) fun _ h => h⟩
theorem NHole.shut (hS : Sat E w (S b l :: NHole S fr bm N n b :: M)) : Sat E w (NSets S fr bm (Z.updN N n l) :: M) := by
  have hS : Sat E w (NHole S fr bm N n b :: S b l :: M) := hS.perm (List.Perm.swap _ _ _)
  obtain ⟨m, hS⟩ := hS.ex
  obtain ⟨i, hS⟩ := hS.ex
  obtain ⟨l0, hS⟩ := hS.ex
  have h1 : m[i]? = some ⟨n, b, l0⟩ ∧ (m.map (·.name)).Nodup ∧ ∀ n, N n = Z.look fr m n := by
    obtain ⟨h, hh, _⟩ := hS.head
    exact ⟨hh.1, hh.2.1, hh.2.2.1⟩
  obtain ⟨h1, h2, h3⟩ := h1
  have hi : i < m.length := (List.getElem?_eq_some_iff.1 h1).1
  have hS := (hS.weaken fun h hh => hh.2.2.2).open_ (M := mp ske bm (nsV m) :: (nsA S m).eraseIdx i) fun _ h => h
  have e1 : nsV (m.set i ⟨n, b, l⟩) = nsV m := by
    have : (nsV m)[i]? = some (n, pz b) := by rw [nsV, List.getElem?_map, h1]; rfl
    rw [nsV, List.map_set]
    exact set_same this
  have e2 : nsA S (m.set i ⟨n, b, l⟩) = (nsA S m).set i (S b l) := by rw [nsA, List.map_set]; rfl
  have e3 : (nsA S m)[i]? = some (S b l0) := by rw [nsA, List.getElem?_map, h1]; rfl
  refine Sat.shut (M := mp ske bm (nsV m) :: (nsA S m).set i (S b l)) ?_ fun h hh => ⟨m.set i ⟨n, b, l⟩, ?_, ?_, ?_⟩
  · refine hS.perm ?_
    have hp := perm_out (nsA S m) i _ e3 (S b l)
    refine List.Perm.cons _ ?_
    exact (List.perm_middle).trans (hp.append_right M)
  · rw [List.map_set]
    have : (m.map (·.name))[i]? = some n := by rw [List.getElem?_map, h1]; rfl
    rw [set_same this]; exact h2
  · intro k
    rw [Z.look_set l h2 h1 k]
    simp only [Z.updN, h3]
  · rw [e1, e2]; exact hh
theorem NSets.bagged (hS : Sat E w (NSets S fr bm N :: M)) : ∃ m : List NS, (m.map (·.name)).Nodup ∧ (∀ n, N n = Z.look fr m n) ∧ Sat E w (mp ske bm (nsV m) :: bag (nsA S m) :: M) := by
  obtain ⟨m, h1, h2, hS⟩ := NSets.opn hS
  have hS := (hS.perm (List.perm_middle (a := mp ske bm (nsV m)) (l₁ := nsA S m) (l₂ := M)).symm).shutBag
  exact ⟨m, h1, h2, hS.perm (List.Perm.swap _ _ _)⟩
theorem NHole.make {m : List NS} {i : Nat} {L : List HA} (h1 : (m.map (·.name)).Nodup) (h2 : ∀ n, N n = Z.look fr m n) (hi : m[i]? = some ⟨n, b, l⟩) (hS : Sat E w (mp ske bm (nsV m) :: bag ((nsA S m).eraseIdx i) :: L)) : Sat E w (NHole S fr bm N n b :: L) := by
  have hS := (hS.perm (List.Perm.swap _ _ _)).openBag
  have hS := hS.perm (List.perm_middle (a := mp ske bm (nsV m)) (l₁ := (nsA S m).eraseIdx i) (l₂ := L))
  exact Sat.shut (M := mp ske bm (nsV m) :: (nsA S m).eraseIdx i) hS fun h hh => ⟨m, i, l, hi, h1, h2, hh⟩
theorem NHole.of {m : List NS} {i : Nat} (h1 : (m.map (·.name)).Nodup) (h2 : ∀ n, N n = Z.look fr m n) (hi : m[i]? = some ⟨n, b, l⟩) (hS : Sat E w (mp ske bm (nsV m) :: bag (nsA S m) :: M)) : Sat E w (S b (N n) :: NHole S fr bm N n b :: M) := by
  have e3 : (nsA S m)[i]? = some (S b l) := by rw [nsA, List.getElem?_map, hi]; rfl
  have e4 : N n = l := by rw [h2]; exact Z.look_at h1 hi
  rw [e4]
  have hS := (hS.perm (List.Perm.swap _ _ _)).out i e3
  have hS : Sat E w (mp ske bm (nsV m) :: bag ((nsA S m).eraseIdx i) :: S b l :: M) := by
    refine hS.perm ?_
    refine List.Perm.trans (l₂ := S b l :: mp ske bm (nsV m) :: bag ((nsA S m).eraseIdx i) :: M) (List.Perm.cons _ (List.Perm.swap _ _ _)) ?_
    refine (List.Perm.swap _ _ _).trans (List.Perm.cons _ (List.Perm.swap _ _ _))
  exact (NHole.make h1 h2 hi hS).perm (List.Perm.swap _ _ _)
theorem NHole.new {m : List NS} (h1 : (m.map (·.name)).Nodup) (h2 : ∀ n, N n = Z.look fr m n) (hg : mget (nsV m) n = none) (hS : Sat E w (mp ske bm (mput (nsV m) n (pz b)) :: bag (nsA S m) :: S b fr :: M)) : Sat E w (S b (N n) :: NHole S fr bm N n b :: M) := by
  obtain ⟨g1, g2⟩ := Z.look_none (fr := fr) hg
  rw [Z.mput_new b fr g2] at hS
  rw [h2 n, g1]
  have hi : (m ++ [(⟨n, b, fr⟩ : NS)])[m.length]? = some ⟨n, b, fr⟩ := by simp
  have e1 : (nsA S (m ++ [(⟨n, b, fr⟩ : NS)])).eraseIdx m.length = nsA S m := by
    have : nsA S (m ++ [(⟨n, b, fr⟩ : NS)]) = nsA S m ++ [S b fr] := by simp [nsA]
    rw [this, List.eraseIdx_append_of_length_le (by simp [nsA])]
    simp [nsA]
  have h3 : ((m ++ [(⟨n, b, fr⟩ : NS)]).map (·.name)).Nodup := by
    rw [List.map_append]
    refine List.nodup_append.2 ⟨h1, by simp, fun a ha c hc => ?_⟩
    simp only [List.map_cons, List.map_nil, List.mem_singleton] at hc
    subst hc
    exact fun e => g2 (e ▸ ha)
  rw [← e1] at hS
  exact (NHole.make h3 (fun k => by rw [h2 k, Z.look_new b g2 k]) hi hS).perm (List.Perm.swap _ _ _)
end
theorem NHole.back {E w : World} {M : List HA} {S : Nat → List Int → HA} {fr : List Int} {bm b : Nat} {N : Key → List Int} {n : Key} (hS : Sat E w (S b (N n) :: NHole S fr bm N n b :: M)) : Sat E w (NSets S fr bm N :: M) := by
  have h := NHole.shut hS
  have e : Z.updN N n (N n) = N := by
    funext k
    unfold Z.updN
    split
    · rename_i h; rw [h]
    · rfl
  rw [e] at h
  exact h
end Go.Proofs.YtbgnnjfpiblkmaaGreatDoor

namespace Go.Proofs.YtbgnnjfpiblkmaaGreatDoor
open Go
def lays171_ren : Go.Shelf.Ren := ⟨fun | 171 => 150 | 243 => 176 | 246 => 198 | 283 => 208 | 284 => 209 | 285 => 210 | 286 => 211 | 129 => 197 | 317 => 215 | 318 => 216 | 319 => 217 | 320 => 218 | 337 => 223 | 338 => 224 | n => n, fun | 3 => 3 | 9 => 9 | 2 => 2 | 4 => 4 | 171 => 284 | 0 => 0 | 53 => 188 | 37 => 30 | 5 => 5 | 173 => 286 | 212 => 291 | 51 => 148 | 20 => 20 | 213 => 292 | 46 => 169 | 232 => 297 | 233 => 298 | n => n, fun | 17 => 4 | 18 => 5 | 19 => 6 | n => n⟩
theorem lays171 : Go.Proofs.Lays.n171 Tryz.prog lays171_ren := ⟨
  by kernel_rfl, Tryz.func197.trans (congrArg some (by kernel_rfl)), Tryz.func150.trans (congrArg some (by kernel_rfl)), Tryz.func176.trans (congrArg some (by kernel_rfl)), Tryz.func198.trans (congrArg some (by kernel_rfl)),
  Tryz.func208.trans (congrArg some (by kernel_rfl)), Tryz.func209.trans (congrArg some (by kernel_rfl)), Tryz.func210.trans (congrArg some (by kernel_rfl)), Tryz.func211.trans (congrArg some (by kernel_rfl)),
  Tryz.func215.trans (congrArg some (by kernel_rfl)), Tryz.func216.trans (congrArg some (by kernel_rfl)), Tryz.func217.trans (congrArg some (by kernel_rfl)), Tryz.func218.trans (congrArg some (by kernel_rfl)),
  Tryz.func223.trans (congrArg some (by kernel_rfl)), Tryz.func224.trans (congrArg some (by kernel_rfl)), Tryz.underlying0, Tryz.isAgg0, Tryz.sizeOf0, Tryz.zeroValue0, Tryz.underlying2, Tryz.isAgg2, Tryz.sizeOf2,
  Tryz.zeroValue2, Tryz.underlying3, Tryz.isAgg3, Tryz.sizeOf3, Tryz.zeroValue3, Tryz.underlying4, Tryz.isAgg4, Tryz.sizeOf4, Tryz.zeroValue4, Tryz.underlying5, Tryz.isAgg5, Tryz.sizeOf5, Tryz.zeroValue5,
  Tryz.underlying9, Tryz.isAgg9, Tryz.sizeOf9, Tryz.zeroValue9, Tryz.underlying20, Tryz.isAgg20, Tryz.sizeOf20, Tryz.zeroValue20, Tryz.underlying30, Tryz.isAgg30, Tryz.sizeOf30, Tryz.zeroValue30, Tryz.underlying169,
  Tryz.isAgg169, Tryz.sizeOf169, Tryz.zeroValue169, Tryz.underlying148, Tryz.isAgg148, Tryz.sizeOf148, Tryz.zeroValue148, Tryz.underlying188, Tryz.isAgg188, Tryz.sizeOf188, Tryz.zeroValue188, Tryz.underlying284,
  Tryz.isAgg284, Tryz.sizeOf284, Tryz.zeroValue284, Tryz.underlying286, Tryz.isAgg286, Tryz.sizeOf286, Tryz.zeroValue286, Tryz.underlying291, Tryz.isAgg291, Tryz.sizeOf291, Tryz.zeroValue291, Tryz.underlying292,
  Tryz.isAgg292, Tryz.sizeOf292, Tryz.underlying297, Tryz.isAgg297, Tryz.sizeOf297, Tryz.zeroValue297, Tryz.underlying298, Tryz.isAgg298, Tryz.sizeOf298, Tryz.zeroValue298, by kernel_rfl, by kernel_rfl,
  by kernel_rfl⟩
end Go.Proofs.YtbgnnjfpiblkmaaGreatDoor

namespace Go.Proofs.YtbgnnjfpiblkmaaGreatDoor
open Go
theorem Itoa_ok [Pan] {w : World} {Q : Value → World → Prop} (i : Nat) (hi : i < 100) (hQ : Q (.string ⟨(Lib.decDigits i).toArray⟩) w) : Calls Tryz.prog 150 #[.int .i64 i] w (retP Q) := by
  refine (Any.strconv_Itoa_small lays171 i hi w).mono ?_
  rintro e w' ⟨rfl, rfl⟩
  exact hQ
end Go.Proofs.YtbgnnjfpiblkmaaGreatDoor

namespace Go.Proofs.YtbgnnjfpiblkmaaGreatDoor
open Go
namespace Z

def restOf (i : Nat) : Nat := if i < 2 then 4 else if i < 4 then 5 else if i < 8 then 6 else if i < 12 then 7 else if i < 20 then 8 else if i < 28 then 9 else if i < 44 then 10 else if i < 60 then 11 else if i < 92 then 12 else 13
def restN (s : Nat) : Nat := if s ≤ 4 then 0 else if s = 5 then 2 else if s = 6 then 4 else if s = 7 then 8 else if s = 8 then 12 else if s = 9 then 20 else if s = 10 then 28 else if s = 11 then 44 else if s = 12 then 60 else 92
def un (t i : Nat) : Nat := match t with
  | 0 => i | 1 => 192 + i | 2 => 384 + i | 3 => 396 + i | 4 => 408 + i | 5 => 420 + i | 6 => 432 + i / 768 | 7 => 448 + i | 8 => 450 + i / 8 | 9 => 466 + i / 8 | 10 => 482 | 11 => 483 + i | 12 => 485 + i / 8 | 13 => 501 + i / 8 | 14 => 517 | 15 => 518 + i / 64 | 16 => 518 + restOf i | _ => 532
def pl (t i : Nat) : Nat := match t with
  | 0 => 0 | 1 => 0 | 2 => 0 | 3 => 0 | 4 => 0 | 5 => 0 | 6 => i % 768 | 7 => 0 | 8 => i % 8 | 9 => i % 8 | 10 => i | 11 => 0 | 12 => i % 8 | 13 => i % 8 | 14 => i | 15 => i % 64 | 16 => i - restN (restOf i) | _ => i
theorem lit_len {p : Pr} (hp : p.Ok) : tabLen p 6 ≤ 12288 := tabLen_bd hp 6
theorem rest_bd : ∀ i : Fin 128, restOf i.val ≤ 13 := by decide +kernel
theorem un_bd {p : Pr} (hp : p.Ok) {t i : Nat} (ht : t < 18) (hi : i < tabLen p t) : un t i < 533 ∧ pl t i < 768 := by
  have h6 := lit_len hp
  match t with
  | 0 => change i < 192 at hi; simp only [un, pl]; omega
  | 1 => change i < 192 at hi; simp only [un, pl]; omega
  | 2 => change i < 12 at hi; simp only [un, pl]; omega
  | 3 => change i < 12 at hi; simp only [un, pl]; omega
  | 4 => change i < 12 at hi; simp only [un, pl]; omega
  | 5 => change i < 12 at hi; simp only [un, pl]; omega
  | 6 => simp only [un, pl]; omega
  | 7 => change i < 2 at hi; simp only [un, pl]; omega
  | 8 => change i < 128 at hi; simp only [un, pl]; omega
  | 9 => change i < 128 at hi; simp only [un, pl]; omega
  | 10 => change i < 256 at hi; simp only [un, pl]; omega
  | 11 => change i < 2 at hi; simp only [un, pl]; omega
  | 12 => change i < 128 at hi; simp only [un, pl]; omega
  | 13 => change i < 128 at hi; simp only [un, pl]; omega
  | 14 => change i < 256 at hi; simp only [un, pl]; omega
  | 15 => change i < 256 at hi; simp only [un, pl]; omega
  | 16 => change i < 128 at hi; have := rest_bd ⟨i, hi⟩; simp only [un, pl] at this ⊢; omega
  | 17 => change i < 16 at hi; simp only [un, pl]; omega
  | n + 18 => omega
def tabOf (u : Nat) : Nat := if u < 192 then 0 else if u < 384 then 1 else if u < 396 then 2 else if u < 408 then 3 else if u < 420 then 4 else if u < 432 then 5 else if u < 448 then 6 else if u < 450 then 7 else if u < 466 then 8 else if u < 482 then 9 else if u < 483 then 10 else if u < 485 then 11 else if u < 501 then 12 else if u < 517 then 13 else if u < 518 then 14 else if u < 522 then 15 else if u < 532 then 16 else 17
def ixOf (u a : Nat) : Nat := match tabOf u with
  | 0 => u | 1 => u - 192 | 2 => u - 384 | 3 => u - 396 | 4 => u - 408 | 5 => u - 420 | 6 => (u - 432) * 768 + a | 7 => u - 448 | 8 => (u - 450) * 8 + a | 9 => (u - 466) * 8 + a | 10 => a | 11 => u - 483 | 12 => (u - 485) * 8 + a | 13 => (u - 501) * 8 + a | 14 => a | 15 => (u - 518) * 64 + a | 16 => restN (u - 518) + a | _ => a
theorem rest_inv : ∀ i : Fin 128, tabOf (un 16 i.val) = 16 ∧ ixOf (un 16 i.val) (pl 16 i.val) = i.val := by decide +kernel
theorem un_inv {p : Pr} (hp : p.Ok) {t i : Nat} (ht : t < 18) (hi : i < tabLen p t) : tabOf (un t i) = t ∧ ixOf (un t i) (pl t i) = i := by
  have h6 := lit_len hp
  have key : ∀ {u a t' i'}, tabOf u = t' → (tabOf u = t' → ixOf u a = i') → tabOf u = t' ∧ ixOf u a = i' := fun h1 h2 => ⟨h1, h2 h1⟩
  match t with
  | 0 => change i < 192 at hi; refine key (by simp only [un]; rw [tabOf, if_pos (by omega)]) fun h => ?_; unfold ixOf; rw [h]; simp only [un, pl]
  | 1 => change i < 192 at hi; refine key (by simp only [un]; rw [tabOf, if_neg (by omega), if_pos (by omega)]) fun h => ?_; unfold ixOf; rw [h]; simp only [un, pl]; omega
  | 2 => change i < 12 at hi; refine key (by simp only [un]; rw [tabOf, if_neg (by omega), if_neg (by omega), if_pos (by omega)]) fun h => ?_; unfold ixOf; rw [h]; simp only [un, pl]; omega
  | 3 => change i < 12 at hi; refine key (by simp only [un]; rw [tabOf, if_neg (by omega), if_neg (by omega), if_neg (by omega), if_pos (by omega)]) fun h => ?_; unfold ixOf; rw [h]; simp only [un, pl]; omega
  | 4 => change i < 12 at hi; refine key (by simp only [un]; rw [tabOf, if_neg (by omega), if_neg (by omega), if_neg (by omega), if_neg (by omega), if_pos (by omega)]) fun h => ?_; unfold ixOf; rw [h]; simp only [un, pl]; omega
  | 5 => change i < 12 at hi; refine key (by simp only [un]; rw [tabOf, if_neg (by omega), if_neg (by omega), if_neg (by omega), if_neg (by omega), if_neg (by omega), if_pos (by omega)]) fun h => ?_; unfold ixOf; rw [h]; simp only [un, pl]; omega
  | 6 => refine key (by simp only [un]; rw [tabOf, if_neg (by omega), if_neg (by omega), if_neg (by omega), if_neg (by omega), if_neg (by omega), if_neg (by omega), if_pos (by omega)]) fun h => ?_; unfold ixOf; rw [h]; simp only [un, pl]; omega
  | 7 => change i < 2 at hi; refine key (by simp only [un]; rw [tabOf, if_neg (by omega), if_neg (by omega), if_neg (by omega), if_neg (by omega), if_neg (by omega), if_neg (by omega), if_neg (by omega), if_pos (by omega)]) fun h => ?_; unfold ixOf; rw [h]; simp only [un, pl]; omega
  | 8 => change i < 128 at hi; refine key (by simp only [un]; rw [tabOf, if_neg (by omega), if_neg (by omega), if_neg (by omega), if_neg (by omega), if_neg (by omega), if_neg (by omega), if_neg (by omega), if_neg (by omega), if_pos (by omega)]) fun h => ?_; unfold ixOf; rw [h]; simp only [un, pl]; omega
  | 9 => change i < 128 at hi; refine key (by simp only [un]; rw [tabOf, if_neg (by omega), if_neg (by omega), if_neg (by omega), if_neg (by omega), if_neg (by omega), if_neg (by omega), if_neg (by omega), if_neg (by omega), if_neg (by omega), if_pos (by omega)]) fun h => ?_; unfold ixOf; rw [h]; simp only [un, pl]; omega
  | 10 => change i < 256 at hi; refine key (by simp only [un]; rw [tabOf, if_neg (by omega), if_neg (by omega), if_neg (by omega), if_neg (by omega), if_neg (by omega), if_neg (by omega), if_neg (by omega), if_neg (by omega), if_neg (by omega), if_neg (by omega), if_pos (by omega)]) fun h => ?_; unfold ixOf; rw [h]; simp only [un, pl]
  | 11 => change i < 2 at hi; refine key (by simp only [un]; rw [tabOf, if_neg (by omega), if_neg (by omega), if_neg (by omega), if_neg (by omega), if_neg (by omega), if_neg (by omega), if_neg (by omega), if_neg (by omega), if_neg (by omega), if_neg (by omega), if_neg (by omega), if_pos (by omega)]) fun h => ?_; unfold ixOf; rw [h]; simp only [un, pl]; omega
  | 12 => change i < 128 at hi; refine key (by simp only [un]; rw [tabOf, if_neg (by omega), if_neg (by omega), if_neg (by omega), if_neg (by omega), if_neg (by omega), if_neg (by omega), if_neg (by omega), if_neg (by omega), if_neg (by omega), if_neg (by omega), if_neg (by omega), if_neg (by omega), if_pos (by omega)]) fun h => ?_; unfold ixOf; rw [h]; simp only [un, pl]; omega
  | 13 => change i < 128 at hi; refine key (by simp only [un]; rw [tabOf, if_neg (by omega), if_neg (by omega), if_neg (by omega), if_neg (by omega), if_neg (by omega), if_neg (by omega), if_neg (by omega), if_neg (by omega), if_neg (by omega), if_neg (by omega), if_neg (by omega), if_neg (by omega), if_neg (by omega), if_pos (by omega)]) fun h => ?_; unfold ixOf; rw [h]; simp only [un, pl]; omega
  | 14 => change i < 256 at hi; refine key (by simp only [un]; rw [tabOf, if_neg (by omega), if_neg (by omega), if_neg (by omega), if_neg (by omega), if_neg (by omega), if_neg (by omega), if_neg (by omega), if_neg (by omega), if_neg (by omega), if_neg (by omega), if_neg (by omega), if_neg (by omega), if_neg (by omega), if_neg (by omega), if_pos (by omega)]) fun h => ?_; unfold ixOf; rw [h]; simp only [un, pl]
  | 15 => change i < 256 at hi; refine key (by simp only [un]; rw [tabOf, if_neg (by omega), if_neg (by omega), if_neg (by omega), if_neg (by omega), if_neg (by omega), if_neg (by omega), if_neg (by omega), if_neg (by omega), if_neg (by omega), if_neg (by omega), if_neg (by omega), if_neg (by omega), if_neg (by omega), if_neg (by omega), if_neg (by omega), if_pos (by omega)]) fun h => ?_; unfold ixOf; rw [h]; simp only [un, pl]; omega
  | 16 => exact rest_inv ⟨i, hi⟩
  | 17 => change i < 16 at hi; refine key (by simp only [un]; rw [tabOf, if_neg (by omega), if_neg (by omega), if_neg (by omega), if_neg (by omega), if_neg (by omega), if_neg (by omega), if_neg (by omega), if_neg (by omega), if_neg (by omega), if_neg (by omega), if_neg (by omega), if_neg (by omega), if_neg (by omega), if_neg (by omega), if_neg (by omega), if_neg (by omega), if_neg (by omega)]) fun h => ?_; unfold ixOf; rw [h]; simp only [un, pl]
  | n + 18 => omega
theorem un_inj {p : Pr} (hp : p.Ok) {t i t' i' : Nat} (ht : t < 18) (hi : i < tabLen p t) (ht' : t' < 18) (hi' : i' < tabLen p t') (h1 : un t i = un t' i') (h2 : pl t i = pl t' i') : t = t' ∧ i = i' := by
  obtain ⟨a1, a2⟩ := un_inv hp ht hi
  obtain ⟨b1, b2⟩ := un_inv hp ht' hi'
  rw [h1] at a1
  rw [h1, h2] at a2
  exact ⟨a1.symm.trans b1, a2.symm.trans b2⟩

def nm (s : List UInt8) (l : List Int) : List UInt8 := l.foldl (fun s i => s ++ [32] ++ Lib.decDigits i.toNat) s
theorem nm_snoc (s : List UInt8) (l : List Int) (i : Int) : nm s (l ++ [i]) = nm s l ++ [32] ++ Lib.decDigits i.toNat := by simp [nm]
theorem dec_len : ∀ i : Fin 100, (Lib.decDigits i.val).length ≤ 2 := by decide +kernel
theorem nm_len : ∀ (l : List Int) (s : List UInt8), (∀ i ∈ l, 0 ≤ i ∧ i < 100) → (nm s l).length ≤ s.length + 3 * l.length
  | [], s, _ => by simp [nm]
  | i :: l, s, h => by
    have h1 := nm_len l (s ++ [32] ++ Lib.decDigits i.toNat) fun j hj => h j (by simp [hj])
    have hi := h i (by simp)
    have h2 := dec_len ⟨i.toNat, by omega⟩
    show (nm (s ++ [32] ++ Lib.decDigits i.toNat) l).length ≤ _
    simp only [List.length_append, List.length_cons, List.length_nil] at h1 h2 ⊢
    omega

abbrev Pre := Nat → List UInt8
def nameU (w : Pre) (u : Nat) : List UInt8 :=
  if u < 192 then nm (w 0) [(u / 16 : Nat), (u % 16 : Nat)] else if u < 384 then nm (w 1) [((u - 192) / 16 : Nat), ((u - 192) % 16 : Nat)]
  else if u < 396 then nm (w 2) [(u - 384 : Nat)] else if u < 408 then nm (w 3) [(u - 396 : Nat)] else if u < 420 then nm (w 4) [(u - 408 : Nat)] else if u < 432 then nm (w 5) [(u - 420 : Nat)]
  else if u < 448 then nm (w 6) [(u - 432 : Nat)]
  else if u < 449 then w 7 else if u < 450 then w 8 else if u < 466 then nm (w 9) [(u - 450 : Nat)] else if u < 482 then nm (w 10) [(u - 466 : Nat)] else if u < 483 then w 11
  else if u < 484 then w 12 else if u < 485 then w 13 else if u < 501 then nm (w 14) [(u - 485 : Nat)] else if u < 517 then nm (w 15) [(u - 501 : Nat)] else if u < 518 then w 16
  else if u < 522 then nm (w 17) [(u - 518 : Nat)] else if u < 532 then nm (w 18) [(u - 518 : Nat)] else w 19
def nums : List UInt8 → List Nat → List Nat
  | [], l => l
  | c :: s, l => if c = 32 then nums s (0 :: l) else match l with
    | [] => nums s l
    | a :: l => nums s ((a * 10 + (c.toNat - 48)) :: l)
def numOf (k : Nat) (l : List Nat) : Nat := match k, l with
  | 0, [b, a] => a * 16 + b | 1, [b, a] => 192 + a * 16 + b | 2, [a] => 384 + a | 3, [a] => 396 + a | 4, [a] => 408 + a | 5, [a] => 420 + a | 6, [a] => 432 + a | 7, [] => 448 | 8, [] => 449 | 9, [a] => 450 + a | 10, [a] => 466 + a | 11, [] => 482
  | 12, [] => 483 | 13, [] => 484 | 14, [a] => 485 + a | 15, [a] => 501 + a | 16, [] => 517 | 17, [a] => 518 + a | 18, [a] => 518 + a | 19, [] => 532 | _, _ => 1000
def strip : List UInt8 → List UInt8 → Option (List UInt8)
  | [], l => some l
  | _ :: _, [] => none
  | a :: p, b :: l => if a = b then strip p l else none
def inv (w : Pre) (l : List UInt8) : Nat → Nat
  | 0 => 1000
  | k + 1 => match strip (w k) l with
    | none => inv w l k
    | some r => match r with
      | [] => if numOf k [] < 1000 then numOf k [] else inv w l k
      | c :: s => if c = 32 ∧ numOf k (nums (c :: s) []) < 1000 then numOf k (nums (c :: s) []) else inv w l k
structure PreOk (w : Pre) : Prop where
  inv : ∀ u : Fin 533, inv w (nameU w u.val) 20 = u.val
  len : ∀ u : Fin 533, (nameU w u.val).length ≤ 1000
theorem PreOk.inj {w : Pre} (h : PreOk w) {u v : Nat} (hu : u < 533) (hv : v < 533) (e : nameU w u = nameU w v) : u = v := by
  have h1 := h.inv ⟨u, hu⟩
  have h2 := h.inv ⟨v, hv⟩
  simp only at h1 h2
  rw [e] at h1
  exact h1.symm.trans h2
def keyU (w : Pre) (u : Nat) : Key := if h : (nameU w u).length ≤ 1000 then ⟨nameU w u, h⟩ else ⟨[], by simp⟩
theorem PreOk.key {w : Pre} (h : PreOk w) {u : Nat} (hu : u < 533) : (keyU w u).1 = nameU w u := by
  rw [keyU, dif_pos (h.len ⟨u, hu⟩)]

structure Rel (w : Pre) (n : Nat) (p : Pr) (N : Key → List Int) (T : Nat → List Int) : Prop where
  len : ∀ k, (N k).length = n
  fine : ∀ k, B.Fine (N k)
  get : ∀ t, t < 18 → ∀ i, i < tabLen p t → (N (keyU w (un t i)))[pl t i]? = (T t)[i]?
theorem Rel.new (w : Pre) {n : Nat} (hn : 768 ≤ n) {p : Pr} (hp : p.Ok) : Rel w n p (fun _ => List.replicate n 1024) (T0 p) :=
  ⟨fun _ => List.length_replicate, fun _ => B.Fine.new _, fun t ht i hi => by
    have := (un_bd hp ht hi).2
    rw [T0, List.getElem?_replicate, List.getElem?_replicate, if_pos (by omega), if_pos hi]⟩
theorem Rel.upd {w : Pre} (hw : PreOk w) {n : Nat} (hn : 768 ≤ n) {p : Pr} (hp : p.Ok) {N : Key → List Int} {T : Nat → List Int} (h : Rel w n p N T) (hT : ∀ t, t < 18 → (T t).length = tabLen p t) {t i : Nat} (ht : t < 18) (hi : i < tabLen p t) (v : Int) (hv : 31 ≤ v ∧ v ≤ 2017) :
    Rel w n p (updN N (keyU w (un t i)) ((N (keyU w (un t i))).set (pl t i) v)) (upd T t ((T t).set i v)) := by
  have hu := un_bd hp ht hi
  refine ⟨fun k => ?_, fun k => ?_, fun t' ht' i' hi' => ?_⟩
  · unfold updN
    split
    · rw [List.length_set]; exact h.len _
    · exact h.len k
  · unfold updN
    split
    · exact (h.fine _).set _ hv
    · exact h.fine k
  · have hu' := un_bd hp ht' hi'
    have hg := h.get t' ht' i' hi'
    unfold updN Z.upd
    by_cases hk : keyU w (un t' i') = keyU w (un t i)
    · rw [if_pos hk]
      have eu : un t' i' = un t i := hw.inj hu'.1 hu.1 (by rw [← hw.key hu'.1, ← hw.key hu.1, hk])
      rw [List.getElem?_set]
      by_cases hpl : pl t i = pl t' i'
      · obtain ⟨rfl, rfl⟩ := un_inj hp ht' hi' ht hi eu hpl.symm
        rw [if_pos hpl, if_pos (by rw [h.len]; omega), if_pos rfl, List.getElem?_set, if_pos rfl, if_pos (by rw [hT t' ht']; exact hi')]
      · rw [if_neg hpl, ← hk, hg]
        by_cases ht2 : t' = t
        · subst ht2
          rw [if_pos rfl, List.getElem?_set, if_neg]
          intro e; subst e; exact hpl rfl
        · rw [if_neg ht2]
    · rw [if_neg hk, hg]
      by_cases ht2 : t' = t
      · subst ht2
        rw [if_pos rfl, List.getElem?_set, if_neg]
        intro e; subst e; exact hk rfl
      · rw [if_neg ht2]

structure At (w : Pre) (p : Pr) (s : List UInt8) (j : Int) (t : Nat) (i : Int) : Prop where
  ht : t < 18
  i0 : 0 ≤ i
  i1 : i < tabLen p t
  hs : nameU w (un t i.toNat) = s
  hj : (pl t i.toNat : Int) = j
section
variable (w : Pre) (p : Pr)
theorem at_0 {n k : Int} (h : 0 ≤ n ∧ n < 12) (hk : 0 ≤ k ∧ k < 16) : At w p (nm (w 0) [n, k]) 0 0 (n * 16 + k) := by
  obtain ⟨a, rfl⟩ : ∃ a : Nat, n = a := ⟨n.toNat, by omega⟩
  obtain ⟨b, rfl⟩ : ∃ a : Nat, k = a := ⟨k.toNat, by omega⟩
  have e : ((a : Int) * 16 + b).toNat = a * 16 + b := by omega
  refine ⟨by decide, by omega, by show _ < ((192 : Nat) : Int); omega, ?_, by rw [e]; rfl⟩
  rw [e]
  simp only [un]
  rw [nameU, if_pos (by omega), show (a * 16 + b) / 16 = a from by omega, show (a * 16 + b) % 16 = b from by omega]
theorem at_1 {n k : Int} (h : 0 ≤ n ∧ n < 12) (hk : 0 ≤ k ∧ k < 16) : At w p (nm (w 1) [n, k]) 0 1 (n * 16 + k) := by
  obtain ⟨a, rfl⟩ : ∃ a : Nat, n = a := ⟨n.toNat, by omega⟩
  obtain ⟨b, rfl⟩ : ∃ a : Nat, k = a := ⟨k.toNat, by omega⟩
  have e : ((a : Int) * 16 + b).toNat = a * 16 + b := by omega
  refine ⟨by decide, by omega, by show _ < ((192 : Nat) : Int); omega, ?_, by rw [e]; rfl⟩
  rw [e]
  simp only [un]
  rw [nameU, if_neg (by omega), if_pos (by omega), show (192 + (a * 16 + b) - 192) / 16 = a from by omega, show (192 + (a * 16 + b) - 192) % 16 = b from by omega]
theorem at_2 {n : Int} (h : 0 ≤ n ∧ n < 12) : At w p (nm (w 2) [n]) 0 2 n := by
  obtain ⟨a, rfl⟩ : ∃ a : Nat, n = a := ⟨n.toNat, by omega⟩
  refine ⟨by decide, by omega, by show _ < ((12 : Nat) : Int); omega, ?_, rfl⟩
  rw [Int.toNat_natCast]
  simp only [un]
  rw [nameU, if_neg (by omega), if_neg (by omega), if_pos (by omega), show 384 + a - 384 = a from by omega]
theorem at_3 {n : Int} (h : 0 ≤ n ∧ n < 12) : At w p (nm (w 3) [n]) 0 3 n := by
  obtain ⟨a, rfl⟩ : ∃ a : Nat, n = a := ⟨n.toNat, by omega⟩
  refine ⟨by decide, by omega, by show _ < ((12 : Nat) : Int); omega, ?_, rfl⟩
  rw [Int.toNat_natCast]
  simp only [un]
  rw [nameU, if_neg (by omega), if_neg (by omega), if_neg (by omega), if_pos (by omega), show 396 + a - 396 = a from by omega]
theorem at_4 {n : Int} (h : 0 ≤ n ∧ n < 12) : At w p (nm (w 4) [n]) 0 4 n := by
  obtain ⟨a, rfl⟩ : ∃ a : Nat, n = a := ⟨n.toNat, by omega⟩
  refine ⟨by decide, by omega, by show _ < ((12 : Nat) : Int); omega, ?_, rfl⟩
  rw [Int.toNat_natCast]
  simp only [un]
  rw [nameU, if_neg (by omega), if_neg (by omega), if_neg (by omega), if_neg (by omega), if_pos (by omega), show 408 + a - 408 = a from by omega]
theorem at_5 {n : Int} (h : 0 ≤ n ∧ n < 12) : At w p (nm (w 5) [n]) 0 5 n := by
  obtain ⟨a, rfl⟩ : ∃ a : Nat, n = a := ⟨n.toNat, by omega⟩
  refine ⟨by decide, by omega, by show _ < ((12 : Nat) : Int); omega, ?_, rfl⟩
  rw [Int.toNat_natCast]
  simp only [un]
  rw [nameU, if_neg (by omega), if_neg (by omega), if_neg (by omega), if_neg (by omega), if_neg (by omega), if_pos (by omega), show 420 + a - 420 = a from by omega]
theorem at_6 {k j : Int} (h : 0 ≤ k ∧ 768 * k + 768 ≤ tabLen p 6) (hk : k < 16) (hj : 0 ≤ j ∧ j < 768) : At w p (nm (w 6) [k]) j 6 (768 * k + j) := by
  obtain ⟨a, rfl⟩ : ∃ a : Nat, k = a := ⟨k.toNat, by omega⟩
  obtain ⟨b, rfl⟩ : ∃ a : Nat, j = a := ⟨j.toNat, by omega⟩
  have e : (768 * (a : Int) + b).toNat = 768 * a + b := by omega
  refine ⟨by decide, by omega, by omega, ?_, ?_⟩
  · rw [e]
    simp only [un]
    rw [nameU, if_neg (by omega), if_neg (by omega), if_neg (by omega), if_neg (by omega), if_neg (by omega), if_neg (by omega), if_pos (by omega), show 432 + (768 * a + b) / 768 - 432 = a from by omega]
  · rw [e]
    simp only [pl]
    omega
theorem at_7_0 : At w p (w 7) 0 7 0 := by
  refine ⟨by decide, by omega, by show _ < ((2 : Nat) : Int); omega, ?_, rfl⟩
  show nameU w 448 = _
  rw [nameU, if_neg (by omega), if_neg (by omega), if_neg (by omega), if_neg (by omega), if_neg (by omega), if_neg (by omega), if_neg (by omega), if_pos (by omega)]
theorem at_7_1 : At w p (w 8) 0 7 1 := by
  refine ⟨by decide, by omega, by show _ < ((2 : Nat) : Int); omega, ?_, rfl⟩
  show nameU w 449 = _
  rw [nameU, if_neg (by omega), if_neg (by omega), if_neg (by omega), if_neg (by omega), if_neg (by omega), if_neg (by omega), if_neg (by omega), if_neg (by omega), if_pos (by omega)]
theorem at_8 {k j : Int} (hk : 0 ≤ k ∧ k < 16) (hj : 0 ≤ j ∧ j < 8) : At w p (nm (w 9) [k]) j 8 (8 * k + j) := by
  obtain ⟨a, rfl⟩ : ∃ a : Nat, k = a := ⟨k.toNat, by omega⟩
  obtain ⟨b, rfl⟩ : ∃ a : Nat, j = a := ⟨j.toNat, by omega⟩
  have e : (8 * (a : Int) + b).toNat = 8 * a + b := by omega
  refine ⟨by decide, by omega, by show _ < ((128 : Nat) : Int); omega, ?_, ?_⟩
  · rw [e]
    simp only [un]
    rw [nameU, if_neg (by omega), if_neg (by omega), if_neg (by omega), if_neg (by omega), if_neg (by omega), if_neg (by omega), if_neg (by omega), if_neg (by omega), if_neg (by omega), if_pos (by omega), show 450 + (8 * a + b) / 8 - 450 = a from by omega]
  · rw [e]
    simp only [pl]
    omega
theorem at_9 {k j : Int} (hk : 0 ≤ k ∧ k < 16) (hj : 0 ≤ j ∧ j < 8) : At w p (nm (w 10) [k]) j 9 (8 * k + j) := by
  obtain ⟨a, rfl⟩ : ∃ a : Nat, k = a := ⟨k.toNat, by omega⟩
  obtain ⟨b, rfl⟩ : ∃ a : Nat, j = a := ⟨j.toNat, by omega⟩
  have e : (8 * (a : Int) + b).toNat = 8 * a + b := by omega
  refine ⟨by decide, by omega, by show _ < ((128 : Nat) : Int); omega, ?_, ?_⟩
  · rw [e]
    simp only [un]
    rw [nameU, if_neg (by omega), if_neg (by omega), if_neg (by omega), if_neg (by omega), if_neg (by omega), if_neg (by omega), if_neg (by omega), if_neg (by omega), if_neg (by omega), if_neg (by omega), if_pos (by omega), show 466 + (8 * a + b) / 8 - 466 = a from by omega]
  · rw [e]
    simp only [pl]
    omega
theorem at_10 {j : Int} (hj : 0 ≤ j ∧ j < 256) : At w p (w 11) j 10 (0 + j) := by
  obtain ⟨b, rfl⟩ : ∃ a : Nat, j = a := ⟨j.toNat, by omega⟩
  rw [Int.zero_add]
  refine ⟨by decide, by omega, by show _ < ((256 : Nat) : Int); omega, ?_, ?_⟩
  · show nameU w 482 = _
    rw [nameU, if_neg (by omega), if_neg (by omega), if_neg (by omega), if_neg (by omega), if_neg (by omega), if_neg (by omega), if_neg (by omega), if_neg (by omega), if_neg (by omega), if_neg (by omega), if_neg (by omega), if_pos (by omega)]
  · rw [Int.toNat_natCast]
    simp only [pl]
theorem at_11_0 : At w p (w 12) 0 11 0 := by
  refine ⟨by decide, by omega, by show _ < ((2 : Nat) : Int); omega, ?_, rfl⟩
  show nameU w 483 = _
  rw [nameU, if_neg (by omega), if_neg (by omega), if_neg (by omega), if_neg (by omega), if_neg (by omega), if_neg (by omega), if_neg (by omega), if_neg (by omega), if_neg (by omega), if_neg (by omega), if_neg (by omega), if_neg (by omega), if_pos (by omega)]
theorem at_11_1 : At w p (w 13) 0 11 1 := by
  refine ⟨by decide, by omega, by show _ < ((2 : Nat) : Int); omega, ?_, rfl⟩
  show nameU w 484 = _
  rw [nameU, if_neg (by omega), if_neg (by omega), if_neg (by omega), if_neg (by omega), if_neg (by omega), if_neg (by omega), if_neg (by omega), if_neg (by omega), if_neg (by omega), if_neg (by omega), if_neg (by omega), if_neg (by omega), if_neg (by omega), if_pos (by omega)]
theorem at_12 {k j : Int} (hk : 0 ≤ k ∧ k < 16) (hj : 0 ≤ j ∧ j < 8) : At w p (nm (w 14) [k]) j 12 (8 * k + j) := by
  obtain ⟨a, rfl⟩ : ∃ a : Nat, k = a := ⟨k.toNat, by omega⟩
  obtain ⟨b, rfl⟩ : ∃ a : Nat, j = a := ⟨j.toNat, by omega⟩
  have e : (8 * (a : Int) + b).toNat = 8 * a + b := by omega
  refine ⟨by decide, by omega, by show _ < ((128 : Nat) : Int); omega, ?_, ?_⟩
  · rw [e]
    simp only [un]
    rw [nameU, if_neg (by omega), if_neg (by omega), if_neg (by omega), if_neg (by omega), if_neg (by omega), if_neg (by omega), if_neg (by omega), if_neg (by omega), if_neg (by omega), if_neg (by omega), if_neg (by omega), if_neg (by omega), if_neg (by omega), if_neg (by omega), if_pos (by omega), show 485 + (8 * a + b) / 8 - 485 = a from by omega]
  · rw [e]
    simp only [pl]
    omega
theorem at_13 {k j : Int} (hk : 0 ≤ k ∧ k < 16) (hj : 0 ≤ j ∧ j < 8) : At w p (nm (w 15) [k]) j 13 (8 * k + j) := by
  obtain ⟨a, rfl⟩ : ∃ a : Nat, k = a := ⟨k.toNat, by omega⟩
  obtain ⟨b, rfl⟩ : ∃ a : Nat, j = a := ⟨j.toNat, by omega⟩
  have e : (8 * (a : Int) + b).toNat = 8 * a + b := by omega
  refine ⟨by decide, by omega, by show _ < ((128 : Nat) : Int); omega, ?_, ?_⟩
  · rw [e]
    simp only [un]
    rw [nameU, if_neg (by omega), if_neg (by omega), if_neg (by omega), if_neg (by omega), if_neg (by omega), if_neg (by omega), if_neg (by omega), if_neg (by omega), if_neg (by omega), if_neg (by omega), if_neg (by omega), if_neg (by omega), if_neg (by omega), if_neg (by omega), if_neg (by omega), if_pos (by omega), show 501 + (8 * a + b) / 8 - 501 = a from by omega]
  · rw [e]
    simp only [pl]
    omega
theorem at_14 {j : Int} (hj : 0 ≤ j ∧ j < 256) : At w p (w 16) j 14 (0 + j) := by
  obtain ⟨b, rfl⟩ : ∃ a : Nat, j = a := ⟨j.toNat, by omega⟩
  rw [Int.zero_add]
  refine ⟨by decide, by omega, by show _ < ((256 : Nat) : Int); omega, ?_, ?_⟩
  · show nameU w 517 = _
    rw [nameU, if_neg (by omega), if_neg (by omega), if_neg (by omega), if_neg (by omega), if_neg (by omega), if_neg (by omega), if_neg (by omega), if_neg (by omega), if_neg (by omega), if_neg (by omega), if_neg (by omega), if_neg (by omega), if_neg (by omega), if_neg (by omega), if_neg (by omega), if_neg (by omega), if_pos (by omega)]
  · rw [Int.toNat_natCast]
    simp only [pl]
theorem at_15 {k j : Int} (hk : 0 ≤ k ∧ k < 4) (hj : 0 ≤ j ∧ j < 64) : At w p (nm (w 17) [k]) j 15 (64 * k + j) := by
  obtain ⟨a, rfl⟩ : ∃ a : Nat, k = a := ⟨k.toNat, by omega⟩
  obtain ⟨b, rfl⟩ : ∃ a : Nat, j = a := ⟨j.toNat, by omega⟩
  have e : (64 * (a : Int) + b).toNat = 64 * a + b := by omega
  refine ⟨by decide, by omega, by show _ < ((256 : Nat) : Int); omega, ?_, ?_⟩
  · rw [e]
    simp only [un]
    rw [nameU, if_neg (by omega), if_neg (by omega), if_neg (by omega), if_neg (by omega), if_neg (by omega), if_neg (by omega), if_neg (by omega), if_neg (by omega), if_neg (by omega), if_neg (by omega), if_neg (by omega), if_neg (by omega), if_neg (by omega), if_neg (by omega), if_neg (by omega), if_neg (by omega), if_neg (by omega), if_pos (by omega), show 518 + (64 * a + b) / 64 - 518 = a from by omega]
  · rw [e]
    simp only [pl]
    omega
theorem rest_of : ∀ s : Fin 10, ∀ j : Fin 32, (j.val : Int) < 2 ^ bitsN ((s.val : Int) + 4) → restOf ((restAt ((s.val : Int) + 4)).toNat + j.val) = s.val + 4 ∧ restN (s.val + 4) = (restAt ((s.val : Int) + 4)).toNat := by decide +kernel
theorem at_16 {k j : Int} (hk : 4 ≤ k ∧ k ≤ 13) (hj : 0 ≤ j ∧ j < 2 ^ bitsN k) : At w p (nm (w 18) [k]) j 16 (restAt k + j) := by
  obtain ⟨c, rfl⟩ : ∃ c : Nat, k = (c : Int) + 4 := ⟨(k - 4).toNat, by omega⟩
  obtain ⟨b, rfl⟩ : ∃ a : Nat, j = a := ⟨j.toNat, by omega⟩
  have hl := rest_law ((c : Int) + 4) hk.1 hk.2
  have h5 : (2 : Int) ^ bitsN ((c : Int) + 4) ≤ 2 ^ 5 := two_le' hl.2.2.1
  have e5 : (2 : Int) ^ 5 = 32 := by decide
  have e : (restAt ((c : Int) + 4) + (b : Int)).toNat = (restAt ((c : Int) + 4)).toNat + b := by omega
  have hr := rest_of ⟨c, by omega⟩ ⟨b, by omega⟩ hj.2
  simp only at hr
  refine ⟨by decide, by omega, by show _ < ((128 : Nat) : Int); omega, ?_, ?_⟩
  · rw [e]
    simp only [un]
    rw [hr.1, nameU, if_neg (by omega), if_neg (by omega), if_neg (by omega), if_neg (by omega), if_neg (by omega), if_neg (by omega), if_neg (by omega), if_neg (by omega), if_neg (by omega), if_neg (by omega), if_neg (by omega), if_neg (by omega), if_neg (by omega), if_neg (by omega), if_neg (by omega), if_neg (by omega), if_neg (by omega), if_neg (by omega), if_pos (by omega), show ((518 + (c + 4) - 518 : Nat) : Int) = (c : Int) + 4 from by omega]
  · rw [e]
    simp only [pl]
    rw [hr.1, hr.2]
    omega
theorem at_17 {j : Int} (hj : 0 ≤ j ∧ j < 16) : At w p (w 19) j 17 (0 + j) := by
  obtain ⟨b, rfl⟩ : ∃ a : Nat, j = a := ⟨j.toNat, by omega⟩
  rw [Int.zero_add]
  refine ⟨by decide, by omega, by show _ < ((16 : Nat) : Int); omega, ?_, ?_⟩
  · show nameU w 532 = _
    rw [nameU, if_neg (by omega), if_neg (by omega), if_neg (by omega), if_neg (by omega), if_neg (by omega), if_neg (by omega), if_neg (by omega), if_neg (by omega), if_neg (by omega), if_neg (by omega), if_neg (by omega), if_neg (by omega), if_neg (by omega), if_neg (by omega), if_neg (by omega), if_neg (by omega), if_neg (by omega), if_neg (by omega), if_neg (by omega)]
  · rw [Int.toNat_natCast]
    simp only [pl]
end
def pre14 : Pre := fun k => match k with
  | 0 => [73, 115, 77, 97, 116, 99, 104] | 1 => [73, 115, 76, 111, 110, 103] | 2 => [73, 115, 82, 101, 112] | 3 => [73, 115, 82, 101, 112, 48] | 4 => [73, 115, 82, 101, 112, 49] | 5 => [73, 115, 82, 101, 112, 50]
  | 6 => [76, 105, 116, 101, 114, 97, 108]
  | 7 => [77, 97, 116, 99, 104, 32, 67, 104, 111, 105, 99, 101] | 8 => [77, 97, 116, 99, 104, 32, 67, 104, 111, 105, 99, 101, 50] | 9 => [77, 97, 116, 99, 104, 32, 76, 111, 119] | 10 => [77, 97, 116, 99, 104, 32, 77, 105, 100] | 11 => [77, 97, 116, 99, 104, 32, 72, 105, 103, 104]
  | 12 => [82, 101, 112, 32, 67, 104, 111, 105, 99, 101] | 13 => [82, 101, 112, 32, 67, 104, 111, 105, 99, 101, 50] | 14 => [82, 101, 112, 32, 76, 111, 119] | 15 => [82, 101, 112, 32, 77, 105, 100] | 16 => [82, 101, 112, 32, 72, 105, 103, 104]
  | 17 => [83, 108, 111, 116] | 18 => [82, 101, 115, 116] | _ => [65, 108, 105, 103, 110]
theorem pre14_inv : ∀ u : Fin 533, inv pre14 (nameU pre14 u.val) 20 = u.val := by decide +kernel
theorem pre14_len : ∀ u : Fin 533, (nameU pre14 u.val).length ≤ 1000 := by decide +kernel
theorem pre14_ok : PreOk pre14 := ⟨pre14_inv, pre14_len⟩

end Z
end Go.Proofs.YtbgnnjfpiblkmaaGreatDoor

namespace Go.Proofs.YtbgnnjfpiblkmaaGreatDoor
open Go
attribute [local irreducible] oMv oV oU oCall oCallV oBi oBin oUn oLoad oStore oNil oFld oField oIdx oIndex oPick oAlloc oBox oBuild oBs oConv oMk oSl oExt oFn oIface oMap oLook oMapUp oRange oNext oEntry oInv oAssert oPanic oRes pN pA pL pDr pIf gA pGd

namespace Z
abbrev NB := T_pithref14_Bit
def nb (s : List UInt8) (bs : Nat → Int) (n : Nat) : List NB := (List.range n).map fun k => ⟨s, R.node bs k, bs k⟩
theorem nb_len (s : List UInt8) (bs : Nat → Int) (n : Nat) : (nb s bs n).length = n := by simp [nb]
theorem nb_succ (s : List UInt8) (bs : Nat → Int) (n : Nat) : nb s bs (n + 1) = nb s bs n ++ [⟨s, R.node bs n, bs n⟩] := by simp [nb, List.range_succ]
end Z

section
variable {E w : World} {M : List HA} {Q : Value → World → Prop}

theorem R14two_ok (n : Nat) (hn : n ≤ 32) (hQ : Q (.int .i64 (2 ^ n)) w) : Calls Tryz.prog 149 #[.int .i64 n] w (retP Q) := by
  refine pithref14_two.calls ?_
  unfold pithref14_two.F
  refine ⟨fun a k w' => ∃ i : Nat, a = .int .i64 (2 ^ i) ∧ k = .int .i64 i ∧ i ≤ n ∧ w' = w, fun _ k _ => (n - RowKit.intOf k).toNat, ⟨0, rfl, rfl, by omega, rfl⟩, ?_⟩
  rintro _ _ _ w1 ⟨i, rfl, rfl, h3, rfl⟩
  by_cases hlt : i < n
  · have hp : (2 : Int) ^ i ≤ 2 ^ 31 := two_le' (by omega)
    have e2 : (2 : Int) ^ 31 = 2147483648 := by decide
    have hp0 : (0 : Int) < 2 ^ i := Int.pow_pos (by omega)
    repeat' (first | (refine pN_lss_s ?_ ?_ <;> intro hc <;> try (exfalso; omega)) | refine pIf_t ?_ | refine pN_v (hk := ?_) | fail)
    refine ⟨⟨i + 1, ?_, rfl, hlt, rfl⟩, by simp [RowKit.intOf]; omega⟩
    rw [Int.pow_succ, Int.mul_comm]
  · obtain rfl : i = n := by omega
    repeat' (first | (refine pN_lss_s ?_ ?_ <;> intro hc <;> try (exfalso; omega)) | refine pIf_f ?_ | fail)
    exact hQ

theorem R14name_ok {s0 : Sl} (nme : List UInt8) (l : List Int) (hS : Sat E w M) [hl : Rds cd_int M s0 l] (hi : ∀ i ∈ l, 0 ≤ i ∧ i < 100) (hb : nme.length + 3 * l.length ≤ 1000000) (hQ : ∀ w, Sat E w M → Q (.string ⟨(Z.nm nme l).toArray⟩) w) :
    Calls Tryz.prog 108 #[.string ⟨nme.toArray⟩, .slice s0.a l.length s0.c] w (retP Q) := by
  refine pithref14_name.calls ?_
  unfold pithref14_name.F
  refine ⟨fun a k w' => ∃ i : Nat, a = .string ⟨(Z.nm nme (l.take i)).toArray⟩ ∧ k = .int .i64 i ∧ i ≤ l.length ∧ Sat E w' M, fun _ k _ => (l.length - RowKit.intOf k).toNat, ⟨0, rfl, rfl, by omega, hS⟩, ?_⟩
  clear hS
  rintro _ _ _ w1 ⟨i, rfl, rfl, h3, hS⟩
  by_cases hlt : i < l.length
  · obtain ⟨v, hv⟩ : ∃ v, l[i]? = some v := ⟨_, List.getElem?_eq_getElem hlt⟩
    have hvi := hi v (List.mem_of_getElem? hv)
    obtain ⟨v, rfl⟩ : ∃ m : Nat, v = m := ⟨v.toNat, by omega⟩
    have hlen := Z.nm_len (l.take i) nme fun j hj => hi j (List.mem_of_mem_take hj)
    rw [List.length_take] at hlen
    have hd := Z.dec_len ⟨v, by omega⟩
    simp only at hd
    have e : Z.nm nme (l.take (i + 1)) = Z.nm nme (l.take i) ++ [32] ++ Lib.decDigits v := by
      rw [List.take_add_one, hv]; exact Z.nm_snoc _ _ _
    repeat' (first | refine pN_sadd (by simp only [List.length_append, List.length_cons, List.length_nil]; omega) ?_ | (refine pc_strconv_Itoa (Itoa_ok v (by omega) ?_)) | (refine pN_lss_s ?_ ?_ <;> intro hc <;> try (exfalso; omega)) | refine pIf_t ?_ | refine pN_ld1 ha hS ?_ | refine pN_ixk hS _ (by first | rfl | (exact (Int.toNat_of_nonneg (by omega)).symm)) (by first | rfl | omega | simpa only [go_sem] using True.intro | (simp only [go_sem]; omega)) (by assumption) fun a ha hel => ?_ | refine pN_v (hk := ?_) | fail)
    refine ⟨⟨i + 1, ?_, rfl, hlt, hS⟩, by simp [RowKit.intOf]; omega⟩
    rw [e]
  · obtain rfl : i = l.length := by omega
    rw [List.take_length]
    repeat' (first | (refine pN_lss_s ?_ ?_ <;> intro hc <;> try (exfalso; omega)) | refine pIf_f ?_ | refine pN_v (hk := ?_) | fail)
    exact hQ _ hS

theorem R14tree_ok (nme : List UInt8) (n : Nat) (v : Int) (hn : n ≤ 16) (h0 : 0 ≤ v) (h1 : v < 4294967296) (hS : Sat E w M) (hQ : ∀ s w, Sat E w (rows cd_pithref14_Bit s (Z.nb nme (R.bitAt false n v) n) :: M) → Q (.slice s.a n s.c) w) :
    Calls Tryz.prog 152 #[.string ⟨nme.toArray⟩, .int .i64 n, .int .i64 v] w (retP Q) := by
  refine pithref14_tree.calls ?_
  unfold pithref14_tree.F
  obtain ⟨bs, hbs⟩ : ∃ bs, bs = R.bitAt false n v := ⟨_, rfl⟩
  have hb := R.bitAt_01 false n v
  rw [← hbs] at hQ hb
  repeat' (first | refine pN_v (hk := ?_) | fail)
  have hS : Sat E _ (rows cd_pithref14_Bit ⟨none, 0⟩ [] :: _) := hS.nil 146 3
  refine ⟨fun a b c w => ∃ (k : Nat) (s : Sl), k ≤ n ∧ a = .slice s.a (Z.nb nme bs k).length s.c ∧ b = .int .i64 (R.node bs k) ∧ c = .int .i64 ((n : Int) - 1 - k) ∧ Sat E w (rows cd_pithref14_Bit s (Z.nb nme bs k) :: M), fun _ _ c _ => (RowKit.intOf c + 1).toNat, ⟨0, ⟨none, 0⟩, by omega, rfl, rfl, by simp, hS⟩, ?_⟩
  clear hS
  rintro _ _ _ _ w ⟨k, s, hk, rfl, rfl, rfl, hS⟩
  have hlo := R.node_lo hb k
  by_cases hlt : k < n
  · have hp : (2 : Int) ^ (k + 1) ≤ 2 ^ 16 := two_le' (by omega)
    have e2 : (2 : Int) ^ 16 = 65536 := by decide
    obtain ⟨j, hj⟩ : ∃ j : Nat, (n : Int) - 1 - k = j := ⟨((n : Int) - 1 - k).toNat, by omega⟩
    have hj0 : (0 : Int) < 2 ^ j := Int.pow_pos (by omega)
    have hq0 : 0 ≤ v / 2 ^ j := Int.ediv_nonneg h0 (by omega)
    have hq1 : v / 2 ^ j ≤ v := Int.ediv_le_self _ h0
    have ebit : v / 2 ^ j % 2 = bs k := by rw [hbs, R.bitAt, if_neg (by decide), show n - 1 - k = j from by omega]
    have es := Z.nb_succ nme bs k
    have hnl := Z.nb_len nme bs k
    have hbk := hb k
    rw [hj]
    repeat' (first | (refine pc_pithref14_two (R14two_ok j (by omega) ?_)) | (refine pN_b1 (x := (⟨nme, R.node bs k, v / 2 ^ j % 2⟩ : Z.NB)) hS rfl (by decide) ?_; clear hS; intro s3 w hS) | (refine pN_geq_s ?_ ?_ <;> intro hc <;> try (exfalso; omega)) | refine pIf_t ?_ | (refine pN_app hS (by first | rfl | omega | simpa only [go_sem] using True.intro | (simp only [go_sem]; omega)) (by first | rfl | omega | simpa only [go_sem] using True.intro | (simp only [go_sem]; omega)) (by first | omega | (simp only [go_sem]; omega)) ?_; clear hS; intro s w hS) | refine pN_v (hk := ?_) | fail)
    rw [ebit, ← es] at hS
    rw [ebit, ← es]
    refine ⟨⟨k + 1, s, hlt, rfl, rfl, by congr 1; omega, hS.to⟩, by simp only [RowKit.intOf]; omega⟩
  · obtain rfl : k = n := by omega
    rw [Z.nb_len]
    repeat' (first | (refine pN_geq_s ?_ ?_ <;> intro hc <;> try (exfalso; omega)) | refine pIf_f ?_ | fail)
    exact hQ _ _ hS

theorem R14back_ok (nme : List UInt8) (n : Nat) (v : Int) (hn : n ≤ 16) (h0 : 0 ≤ v) (h1 : v < 4294967296) (hS : Sat E w M) (hQ : ∀ s w, Sat E w (rows cd_pithref14_Bit s (Z.nb nme (R.bitAt true n v) n) :: M) → Q (.slice s.a n s.c) w) :
    Calls Tryz.prog 156 #[.string ⟨nme.toArray⟩, .int .i64 n, .int .i64 v] w (retP Q) := by
  refine pithref14_back.calls ?_
  unfold pithref14_back.F
  obtain ⟨bs, hbs⟩ : ∃ bs, bs = R.bitAt true n v := ⟨_, rfl⟩
  have hb := R.bitAt_01 true n v
  rw [← hbs] at hQ hb
  have hS : Sat E _ (rows cd_pithref14_Bit ⟨none, 0⟩ [] :: _) := hS.nil 146 3
  refine ⟨fun u a b c w => ∃ (k : Nat) (s : Sl), k ≤ n ∧ u = .int .i64 (v / 2 ^ k) ∧ a = .slice s.a (Z.nb nme bs k).length s.c ∧ b = .int .i64 (R.node bs k) ∧ c = .int .i64 k ∧ Sat E w (rows cd_pithref14_Bit s (Z.nb nme bs k) :: M), fun _ _ _ c _ => ((n : Int) - RowKit.intOf c).toNat, ⟨0, ⟨none, 0⟩, by omega, by simp, rfl, rfl, rfl, hS⟩, ?_⟩
  clear hS
  rintro _ _ _ _ _ w ⟨k, s, hk, rfl, rfl, rfl, rfl, hS⟩
  have hlo := R.node_lo hb k
  by_cases hlt : k < n
  · have hp : (2 : Int) ^ (k + 1) ≤ 2 ^ 16 := two_le' (by omega)
    have e2 : (2 : Int) ^ 16 = 65536 := by decide
    have hj0 : (0 : Int) < 2 ^ k := Int.pow_pos (by omega)
    have hq0 : 0 ≤ v / 2 ^ k := Int.ediv_nonneg h0 (by omega)
    have hq1 : v / 2 ^ k ≤ v := Int.ediv_le_self _ h0
    have ebit : v / 2 ^ k % 2 = bs k := by rw [hbs, R.bitAt, if_pos rfl]
    have ediv : v / 2 ^ k / 2 = v / 2 ^ (k + 1) := by rw [Int.ediv_ediv_of_nonneg (by omega), Int.pow_succ]
    have es := Z.nb_succ nme bs k
    have hnl := Z.nb_len nme bs k
    have hbk := hb k
    repeat' (first | (refine pN_b1 (x := (⟨nme, R.node bs k, v / 2 ^ k % 2⟩ : Z.NB)) hS rfl (by decide) ?_; clear hS; intro s3 w hS) | (refine pN_lss_s ?_ ?_ <;> intro hc <;> try (exfalso; omega)) | refine pIf_t ?_ | (refine pN_app hS (by first | rfl | omega | simpa only [go_sem] using True.intro | (simp only [go_sem]; omega)) (by first | rfl | omega | simpa only [go_sem] using True.intro | (simp only [go_sem]; omega)) (by first | omega | (simp only [go_sem]; omega)) ?_; clear hS; intro s w hS) | refine pN_v (hk := ?_) | fail)
    rw [ebit, ← es] at hS
    rw [ebit, ← es, ediv]
    exact ⟨⟨k + 1, s, hlt, rfl, rfl, rfl, rfl, hS.to⟩, by simp only [RowKit.intOf]; omega⟩
  · obtain rfl : k = n := by omega
    rw [Z.nb_len]
    repeat' (first | (refine pN_lss_s ?_ ?_ <;> intro hc <;> try (exfalso; omega)) | refine pIf_f ?_ | fail)
    exact hQ _ _ hS
end

end Go.Proofs.YtbgnnjfpiblkmaaGreatDoor

namespace Go.Proofs.YtbgnnjfpiblkmaaGreatDoor
open Go
set_option maxRecDepth 100000

def pithref06_Set_At.F [Pan] (x0 x1 : Value) (w : World) (Q : Value → World → Prop) : Prop :=
 pN Tryz.prog (oBin .lss 3 (.tmp 6) (.const (.int .i64 0)) x1 (.int .i64 0)) w fun x7 w1 =>
 pGd (gB x7 false) (pN Tryz.prog (oMv x1) w1) w1 fun x9 w2 =>
 pGd (gB x7 false) (pN Tryz.prog (oMv x0) w2) w2 fun x10 w3 =>
 pGd (gB x7 false) (pN Tryz.prog (oNil x10) w3) w3 fun x11 w4 =>
 pGd (gB x7 false) (pN Tryz.prog (oFld 219 x11 1) w4) w4 fun x12 w5 =>
 pGd (gB x7 false) (pN Tryz.prog (oLoad 217 x12) w5) w5 fun x13 w6 =>
 pGd (gB x7 false) (pN Tryz.prog (oBi .len #[217] 3 [false] [x13]) w6) w6 fun x14 w7 =>
 pGd (gB x7 false) (pN Tryz.prog (oBin .geq 3 (.tmp 9) (.tmp 14) x9 x14) w7) w7 fun x15 w8 =>
 pN Tryz.prog (oPick x7 (.bool true) x15) w8 fun x16 w9 =>
 pIf x16
 (Q (.tuple #[(.int .i64 0), (.int .i64 7)]) w9)
 (pN Tryz.prog (oNil x0) w9 fun x18 w10 =>
 pN Tryz.prog (oFld 219 x18 1) w10 fun x19 w11 =>
 pN Tryz.prog (oLoad 217 x19) w11 fun x20 w12 =>
 pN Tryz.prog (oIdx 217 x20 x1) w12 fun x22 w13 =>
 pN Tryz.prog (oLoad 3 x22) w13 fun x23 w14 =>
 Q (.tuple #[x23, (.int .i64 0)]) w14)
theorem pithref06_Set_At.calls [Pan] {x0 x1 : Value} {w : World} {Q : Value → World → Prop} (h : pithref06_Set_At.F x0 x1 w Q) : Calls Tryz.prog 74 #[x0, x1] w (retP Q) := calls_lift mixed .z [x0, x1] Tryz.func74 (by kernel_rfl) (by kernel_rfl) h

def pithref06_Cost.F [Pan] (x0 x1 : Value) (w : World) (Q : Value → World → Prop) : Prop :=
 pN Tryz.prog (oCall 123 [x0]) w fun x6 w1 =>
 pN Tryz.prog (oBin .eql 3 (.tmp 7) (.const (.int .i64 0)) x1 (.int .i64 0)) w1 fun x8 w2 =>
 pIf x8
 (pN Tryz.prog (oCall 124 [x6]) w2 fun x10 w3 =>
 Q x10 w3)
 (pN Tryz.prog (oBin .sub 3 (.const (.int .i64 2047)) (.tmp 11) (.int .i64 2047) x6) w2 fun x12 w4 =>
 pN Tryz.prog (oCall 124 [x12]) w4 fun x13 w5 =>
 Q x13 w5)
theorem pithref06_Cost.calls [Pan] {x0 x1 : Value} {w : World} {Q : Value → World → Prop} (h : pithref06_Cost.F x0 x1 w Q) : Calls Tryz.prog 75 #[x0, x1] w (retP Q) := calls_lift mixed .z [x0, x1] Tryz.func75 (by kernel_rfl) (by kernel_rfl) h

def pithref06_Set_Fork.H : Hints := { cut := fun  | _ => none, loop := fun  | _ => ([], 0), order := fun | 2 => [(0, 0), (1, 1), (2, 3), (3, 7), (4, 15), (5, 31), (6, 63), (7, 127), (8, 255), (9, 511), (10, 1023), (11, 2047), (12, 4095)] | _ => [] }
def pithref06_Set_Fork.F [Pan] (x0 : Value) (w : World) (Q : Value → World → Prop) : Prop :=
 pN Tryz.prog (oNil x0) w fun x5 w1 =>
 pN Tryz.prog (oFld 219 x5 0) w1 fun x6 w2 =>
 pN Tryz.prog (oLoad 3 x6) w2 fun x7 w3 =>
 pN Tryz.prog (oBuild 219 [(0, x7)]) w3 fun x8 w4 =>
 pN Tryz.prog (oBox 219 x8) w4 fun x9 w5 =>
 pDr w5 fun w6 =>
 pA Tryz.prog (oNil x9) fun x12 =>
 pA Tryz.prog (oFld 219 x12 1) fun x13 =>
 pL Tryz.prog (oLoad 217 x13) w6 fun x14 =>
 pA Tryz.prog (oNil x0) fun x16 =>
 pA Tryz.prog (oFld 219 x16 1) fun x17 =>
 pL Tryz.prog (oLoad 217 x17) w6 fun x18 =>
 pN Tryz.prog (oBi .append #[217, 217] 217 [false, false] [x14, x18]) w6 fun x19 w7 =>
 (True) ∧ (pA Tryz.prog (oNil x9) fun x20 =>
 pA Tryz.prog (oFld 219 x20 1) fun x21 =>
 pN Tryz.prog (oStore 217 x21 x19) w7 fun _ w8 =>
 (True) ∧ (Q x9 w8))
theorem pithref06_Set_Fork.calls [Pan] {x0 : Value} {w : World} {Q : Value → World → Prop} (h : pithref06_Set_Fork.F x0 w Q) : Calls Tryz.prog 85 #[x0] w (retP Q) := calls_lift mixed pithref06_Set_Fork.H [x0] Tryz.func85 (by kernel_rfl) (by kernel_rfl) h

def pithref06_Bound.F [Pan] (x0 x1 : Value) (w : World) (Q : Value → World → Prop) : Prop :=
 pN Tryz.prog (oBin .quo 148 (.tmp 5) (.const (.int .u32 2048)) x0 (.int .u32 2048)) w fun x6 w1 =>
 pN Tryz.prog (oCall 123 [x1]) w1 fun x8 w2 =>
 pN Tryz.prog (oConv 3 148 x8) w2 fun x9 w3 =>
 pN Tryz.prog (oBin .mul 148 (.tmp 6) (.tmp 9) x6 x9) w3 fun x10 w4 =>
 Q x10 w4
theorem pithref06_Bound.calls [Pan] {x0 x1 : Value} {w : World} {Q : Value → World → Prop} (h : pithref06_Bound.F x0 x1 w Q) : Calls Tryz.prog 116 #[x0, x1] w (retP Q) := calls_lift mixed .z [x0, x1] Tryz.func116 (by kernel_rfl) (by kernel_rfl) h

def pithref06_Set_Turn.H : Hints := { cut := fun  | _ => none, loop := fun  | _ => ([], 0), order := fun | 3 => [(0, 0), (1, 1), (2, 3), (3, 7), (4, 15), (5, 31), (6, 63), (7, 127), (8, 255), (9, 511), (10, 1023), (11, 2047), (12, 4095), (13, 8191), (14, 16383), (15, 32767)] | _ => [] }
def pithref06_Set_Turn.F [Pan] (x0 x1 x2 : Value) (w : World) (Q : Value → World → Prop) : Prop :=
 pN Tryz.prog (oBin .lss 3 (.tmp 7) (.const (.int .i64 0)) x1 (.int .i64 0)) w fun x8 w1 =>
 pGd (gB x8 false) (pN Tryz.prog (oMv x1) w1) w1 fun x10 w2 =>
 pGd (gB x8 false) (pN Tryz.prog (oMv x0) w2) w2 fun x11 w3 =>
 pGd (gB x8 false) (pN Tryz.prog (oNil x11) w3) w3 fun x12 w4 =>
 pGd (gB x8 false) (pN Tryz.prog (oFld 219 x12 1) w4) w4 fun x13 w5 =>
 pGd (gB x8 false) (pN Tryz.prog (oLoad 217 x13) w5) w5 fun x14 w6 =>
 pGd (gB x8 false) (pN Tryz.prog (oBi .len #[217] 3 [false] [x14]) w6) w6 fun x15 w7 =>
 pGd (gB x8 false) (pN Tryz.prog (oBin .geq 3 (.tmp 10) (.tmp 15) x10 x15) w7) w7 fun x16 w8 =>
 pN Tryz.prog (oPick x8 (.bool true) x16) w8 fun x17 w9 =>
 pIf x17
 (Q (.int .i64 7) w9)
 (pDr w9 fun w10 =>
 pA Tryz.prog (oNil x0) fun x19 =>
 pA Tryz.prog (oFld 219 x19 1) fun x20 =>
 pL Tryz.prog (oLoad 217 x20) w10 fun x21 =>
 pA Tryz.prog (oNil x0) fun x24 =>
 pA Tryz.prog (oFld 219 x24 1) fun x25 =>
 pL Tryz.prog (oLoad 217 x25) w10 fun x26 =>
 pA Tryz.prog (oIdx 217 x26 x1) fun x28 =>
 pL Tryz.prog (oLoad 3 x28) w10 fun x29 =>
 pN Tryz.prog (oCall 157 [x29, x2]) w10 fun x31 w11 =>
 ((Sem.run Tryz.prog (oLoad 217 x20) w11 = .ok (.value x21) w11) ∧ True) ∧ (pA Tryz.prog (oIdx 217 x21 x1) fun x32 =>
 pN Tryz.prog (oStore 3 x32 x31) w11 fun _ w12 =>
 (True) ∧ (Q (.int .i64 0) w12)))
theorem pithref06_Set_Turn.calls [Pan] {x0 x1 x2 : Value} {w : World} {Q : Value → World → Prop} (h : pithref06_Set_Turn.F x0 x1 x2 w Q) : Calls Tryz.prog 117 #[x0, x1, x2] w (retP Q) := calls_lift mixed pithref06_Set_Turn.H [x0, x1, x2] Tryz.func117 (by kernel_rfl) (by kernel_rfl) h

def pithref06_New.F [Pan] (x0 : Value) (w : World) (Q : Value → World → Prop) : Prop :=
 pN Tryz.prog (oBin .lss 3 (.tmp 5) (.const (.int .i64 0)) x0 (.int .i64 0)) w fun x6 w1 =>
 pGd (gB x6 false) (pN Tryz.prog (oMv x0) w1) w1 fun x8 w2 =>
 pGd (gB x6 false) (pN Tryz.prog (oBin .gtr 3 (.tmp 8) (.const (.int .i64 1048576)) x8 (.int .i64 1048576)) w2) w2 fun x9 w3 =>
 pN Tryz.prog (oPick x6 (.bool true) x9) w3 fun x10 w4 =>
 pIf x10
 (Q (.tuple #[(.pointer none), (.int .i64 7)]) w4)
 (pN Tryz.prog (oMk 217 x0 x0) w4 fun x13 w5 =>
 pN Tryz.prog (oBuild 219 [(0, x0), (1, x13)]) w5 fun x14 w6 =>
 pN Tryz.prog (oBox 219 x14) w6 fun x15 w7 =>
 pN Tryz.prog (oCall 158 [x15]) w7 fun _ w8 =>
 Q (.tuple #[x15, (.int .i64 0)]) w8)
theorem pithref06_New.calls [Pan] {x0 : Value} {w : World} {Q : Value → World → Prop} (h : pithref06_New.F x0 w Q) : Calls Tryz.prog 118 #[x0] w (retP Q) := calls_lift mixed .z [x0] Tryz.func118 (by kernel_rfl) (by kernel_rfl) h

def pithref06_bound.F [Pan] (x0 : Value) (w : World) (Q : Value → World → Prop) : Prop :=
 pN Tryz.prog (oBin .lss 3 (.tmp 3) (.const (.int .i64 0)) x0 (.int .i64 0)) w fun x4 w1 =>
 pIf x4
 (Q (.int .i64 0) w1)
 (pN Tryz.prog (oBin .gtr 3 (.tmp 5) (.const (.int .i64 2047)) x0 (.int .i64 2047)) w1 fun x6 w2 =>
 pIf x6
 (Q (.int .i64 2047) w2)
 (Q x0 w2))
theorem pithref06_bound.calls [Pan] {x0 : Value} {w : World} {Q : Value → World → Prop} (h : pithref06_bound.F x0 w Q) : Calls Tryz.prog 123 #[x0] w (retP Q) := calls_lift mixed .z [x0] Tryz.func123 (by kernel_rfl) (by kernel_rfl) h

def pithref06_cost.H : Hints := { cut := fun  | _ => none, loop := fun | 4 => ([3, 4, 5], 33553464) | 8 => ([3, 4], 33030168) | _ => ([], 0), order := fun  | _ => [] }
def pithref06_cost.F [Pan] (x0 : Value) (w : World) (Q : Value → World → Prop) : Prop :=
 pN Tryz.prog (oBin .quo 3 (.tmp 6) (.const (.int .i64 16)) x0 (.int .i64 16)) w fun x7 w1 =>
 pN Tryz.prog (oBin .mul 3 (.const (.int .i64 16)) (.tmp 7) (.int .i64 16) x7) w1 fun x8 w2 =>
 pN Tryz.prog (oBin .add 3 (.tmp 8) (.const (.int .i64 8)) x8 (.int .i64 8)) w2 fun x9 w3 =>
 ∃ (L4 : Value → Value → Value → World → Prop) (m4 : Value → Value → Value → World → Nat),
 L4 x9 (.int .i64 0) (.int .i64 0) w3 ∧
 ∀ (_k4 : Env) (w3l4 : Value) (c4l4 : Value) (i5l4 : Value) (w4 : World), L4 w3l4 c4l4 i5l4 w4 →
 pN Tryz.prog (oBin .lss 3 (.tmp 10) (.const (.int .i64 4)) i5l4 (.int .i64 4)) w4 fun x11 w5 =>
 pIf x11
 (pN Tryz.prog (oBin .mul 3 (.tmp 14) (.tmp 15) w3l4 w3l4) w5 fun x16 w6 =>
 pN Tryz.prog (oBin .mul 3 (.const (.int .i64 2)) (.tmp 17) (.int .i64 2) c4l4) w6 fun x18 w7 =>
 ∃ (L8 : Value → Value → World → Prop) (m8 : Value → Value → World → Nat),
 L8 x16 x18 w7 ∧
 ∀ (_k8 : Env) (w3l8 : Value) (c4l8 : Value) (w8 : World), L8 w3l8 c4l8 w8 →
 pN Tryz.prog (oBin .geq 3 (.tmp 19) (.const (.int .i64 65536)) w3l8 (.int .i64 65536)) w8 fun x20 w9 =>
 pIf x20
 (pN Tryz.prog (oBin .quo 3 (.tmp 21) (.const (.int .i64 2)) w3l8 (.int .i64 2)) w9 fun x22 w10 =>
 pN Tryz.prog (oBin .add 3 (.tmp 23) (.const (.int .i64 1)) c4l8 (.int .i64 1)) w10 fun x24 w11 =>
 (L8 x22 x24 w11 ∧ m8 x22 x24 w11 < m8 w3l8 c4l8 w8))
 (pN Tryz.prog (oBin .add 3 (.tmp 12) (.const (.int .i64 1)) i5l4 (.int .i64 1)) w9 fun x13 w12 =>
 (L4 w3l8 c4l8 x13 w12 ∧ m4 w3l8 c4l8 x13 w12 < m4 w3l4 c4l4 i5l4 w4)))
 (pN Tryz.prog (oBin .sub 3 (.const (.int .i64 161)) (.tmp 25) (.int .i64 161) c4l4) w5 fun x26 w13 =>
 Q x26 w13)
theorem pithref06_cost.calls [Pan] {x0 : Value} {w : World} {Q : Value → World → Prop} (h : pithref06_cost.F x0 w Q) : Calls Tryz.prog 124 #[x0] w (retP Q) := calls_lift mixed pithref06_cost.H [x0] Tryz.func124 (by kernel_rfl) (by kernel_rfl) h

def pithref06_Next.F [Pan] (x0 x1 : Value) (w : World) (Q : Value → World → Prop) : Prop :=
 pN Tryz.prog (oCall 123 [x0]) w fun x6 w1 =>
 pN Tryz.prog (oBin .eql 3 (.tmp 7) (.const (.int .i64 0)) x1 (.int .i64 0)) w1 fun x8 w2 =>
 pIf x8
 (pN Tryz.prog (oBin .sub 3 (.const (.int .i64 2048)) (.tmp 10) (.int .i64 2048) x6) w2 fun x11 w3 =>
 pN Tryz.prog (oBin .quo 3 (.tmp 11) (.const (.int .i64 32)) x11 (.int .i64 32)) w3 fun x12 w4 =>
 pN Tryz.prog (oBin .add 3 (.tmp 9) (.tmp 12) x6 x12) w4 fun x13 w5 =>
 Q x13 w5)
 (pN Tryz.prog (oBin .quo 3 (.tmp 15) (.const (.int .i64 32)) x6 (.int .i64 32)) w2 fun x16 w6 =>
 pN Tryz.prog (oBin .sub 3 (.tmp 14) (.tmp 16) x6 x16) w6 fun x17 w7 =>
 Q x17 w7)
theorem pithref06_Next.calls [Pan] {x0 x1 : Value} {w : World} {Q : Value → World → Prop} (h : pithref06_Next.F x0 x1 w Q) : Calls Tryz.prog 157 #[x0, x1] w (retP Q) := calls_lift mixed .z [x0, x1] Tryz.func157 (by kernel_rfl) (by kernel_rfl) h

def pithref06_Set_Reset.H : Hints := { cut := fun  | _ => none, loop := fun | 1 => ([2], 262140) | _ => ([], 0), order := fun  | _ => [] }
def pithref06_Set_Reset.F [Pan] (x0 : Value) (w : World) (Q : Value → World → Prop) : Prop :=
 ∃ (L1 : Value → World → Prop) (m1 : Value → World → Nat),
 L1 (.int .i64 0) w ∧
 ∀ (_k1 : Env) (i2l1 : Value) (w1 : World), L1 i2l1 w1 →
 pN Tryz.prog (oNil x0) w1 fun x5 w2 =>
 pN Tryz.prog (oFld 219 x5 1) w2 fun x6 w3 =>
 pN Tryz.prog (oLoad 217 x6) w3 fun x7 w4 =>
 pN Tryz.prog (oBi .len #[217] 3 [false] [x7]) w4 fun x8 w5 =>
 pN Tryz.prog (oBin .lss 3 (.tmp 3) (.tmp 8) i2l1 x8) w5 fun x9 w6 =>
 pIf x9
 (pN Tryz.prog (oNil x0) w6 fun x13 w7 =>
 pN Tryz.prog (oFld 219 x13 1) w7 fun x14 w8 =>
 pN Tryz.prog (oLoad 217 x14) w8 fun x15 w9 =>
 pN Tryz.prog (oIdx 217 x15 i2l1) w9 fun x17 w10 =>
 pN Tryz.prog (oStore 3 x17 (.int .i64 1024)) w10 fun _ w11 =>
 pN Tryz.prog (oBin .add 3 (.tmp 10) (.const (.int .i64 1)) i2l1 (.int .i64 1)) w11 fun x11 w12 =>
 (L1 x11 w12 ∧ m1 x11 w12 < m1 i2l1 w1))
 (Q (.tuple #[]) w6)
theorem pithref06_Set_Reset.calls [Pan] {x0 : Value} {w : World} {Q : Value → World → Prop} (h : pithref06_Set_Reset.F x0 w Q) : Calls Tryz.prog 158 #[x0] w (retP Q) := calls_lift mixed pithref06_Set_Reset.H [x0] Tryz.func158 (by kernel_rfl) (by kernel_rfl) h

end Go.Proofs.YtbgnnjfpiblkmaaGreatDoor

namespace Go.Proofs.YtbgnnjfpiblkmaaGreatDoor
open Go
attribute [local irreducible] oMv oV oU oCall oCallV oBi oBin oUn oLoad oStore oNil oFld oField oIdx oIndex oPick oAlloc oBox oBuild oBs oConv oMk oSl oExt oFn oIface oMap oLook oMapUp oRange oNext oEntry oInv oAssert oPanic oRes pN pA pL pDr pIf gA pGd

def RSet (b : Nat) (l : List Int) : HA := fun h => ∃ s : Sl, Sats [cel b ⟨219, [.int .i64 l.length, .slice s.a l.length s.c]⟩, rows cd_int s l] h

section
variable {E w : World} {M : List HA} {Q : Value → World → Prop} {b : Nat} {l : List Int}

theorem RSet.opn (hS : Sat E w (RSet b l :: M)) : ∃ s : Sl, Sat E w (cel b ⟨219, [.int .i64 l.length, .slice s.a l.length s.c]⟩ :: rows cd_int s l :: M) := by
  obtain ⟨s, hS⟩ := hS.ex
  exact ⟨s, hS.open_ (M := [_, _]) fun _ h => h⟩
theorem RSet.shut {s : Sl} {L N : List HA} {o : Ob} (hS : Sat E w L) [h1 : Fnd (cel b) L o N] [h2 : Fnd (rows cd_int s) N l M] (ho : o = ⟨219, [.int .i64 l.length, .slice s.a l.length s.c]⟩) : Sat E w (RSet b l :: M) := by
  subst ho
  exact Sat.shut (M := [_, _]) (hS.fd2 (cel b) (rows cd_int s)) fun _ h => ⟨s, h⟩

theorem Rbound_ok (p : Int) (hQ : Q (.int .i64 (B.taken p)) w) : Calls Tryz.prog 123 #[.int .i64 p] w (retP Q) := by
  refine pithref06_bound.calls ?_
  unfold pithref06_bound.F
  unfold B.taken at hQ
  repeat' (first | ((first | refine pN_lss_s ?_ ?_ | refine pN_gtr_s ?_ ?_) <;> intro hc <;> try (exfalso; omega)) | refine pIf_t ?_ | refine pIf_f ?_ | fail)
  · rw [show max 0 (min p 2047) = 0 from by omega] at hQ; exact hQ
  · rw [show max 0 (min p 2047) = 2047 from by omega] at hQ; exact hQ
  · rw [show max 0 (min p 2047) = p from by omega] at hQ; exact hQ

theorem RNext_ok (p bit : Int) (hQ : Q (.int .i64 (B.next p bit)) w) : Calls Tryz.prog 157 #[.int .i64 p, .int .i64 bit] w (retP Q) := by
  refine pithref06_Next.calls ?_
  unfold pithref06_Next.F
  have h1 := B.taken_lo p
  have h2 := B.taken_hi p
  refine pc_pithref06_bound (Rbound_ok p ?_)
  repeat' (first | (refine pN_eql_s ?_ ?_ <;> intro hc <;> try (exfalso; first | omega | exact hc rfl | exact hc (by assumption) | exact absurd hc (by assumption))) | refine pIf_t ?_ | refine pIf_f ?_ | refine pN_v (hk := ?_) | fail)
  · rw [B.next, if_pos hc] at hQ; exact hQ
  · rw [B.next, if_neg hc] at hQ; exact hQ

theorem RBound_ok (rng p : Int) (h0 : 0 ≤ rng) (h1 : rng < 4294967296) (hQ : Q (.int .u32 (B.bound rng p)) w) : Calls Tryz.prog 116 #[.int .u32 rng, .int .i64 p] w (retP Q) := by
  refine pithref06_Bound.calls ?_
  unfold pithref06_Bound.F
  have h3 := B.taken_lo p
  have h4 := B.taken_hi p
  have h5 := B.bound_lo (rng := rng) (p := p) h0
  have h6 := B.bound_le (rng := rng) (p := p) h0
  unfold B.bound at h5 h6 hQ
  repeat' (first | refine pN_v (hk := ?_) | fail)
  refine pc_pithref06_bound (Rbound_ok p ?_)
  repeat' (first | refine pN_v (hk := ?_) | fail)
  exact hQ

theorem Rcost_ok (p : Int) (h0 : 0 ≤ p) (h1 : p ≤ 2047) (hQ : Q (.int .i64 (B.costing (p / 16))) w) : Calls Tryz.prog 124 #[.int .i64 p] w (retP Q) := by
  refine pithref06_cost.calls ?_
  unfold pithref06_cost.F
  repeat' (first | refine pN_v (hk := ?_) | fail)
  have i0 : 0 ≤ p / 16 := by omega
  have i1 : p / 16 ≤ 127 := by omega
  generalize p / 16 = i at *
  refine ⟨fun v c k w' => ∃ (x c' : Int) (j : Nat), v = .int .i64 x ∧ c = .int .i64 c' ∧ k = .int .i64 j ∧ j ≤ 4 ∧ x < 65536 ∧ 0 ≤ x ∧ 0 ≤ c' ∧ c' < 32 ^ j ∧ B.sq (4 - j) (x, c') = B.sq 4 (16 * i + 8, 0) ∧ w' = w, fun _ _ k _ => 4 - (RowKit.intOf k).toNat,
    ⟨16 * i + 8, 0, 0, rfl, rfl, rfl, by omega, by omega, by omega, by omega, by decide, rfl, rfl⟩, ?_⟩
  rintro _ _ _ _ w1 ⟨x, c, j, rfl, rfl, rfl, hj, a1, a2, a3, a4, a5, rfl⟩
  have a6 : (32 : Int) ^ j ≤ 1048576 := by
    have : j = 0 ∨ j = 1 ∨ j = 2 ∨ j = 3 ∨ j = 4 := by omega
    rcases this with rfl | rfl | rfl | rfl | rfl <;> decide
  have a7 : 0 ≤ x * x := Int.mul_nonneg a2 a2
  have a8 : x * x ≤ 65535 * 65535 := Int.mul_le_mul (by omega) (by omega) a2 (by omega)
  repeat' (first | (refine pN_lss_s ?_ ?_ <;> intro hc <;> try (exfalso; omega)) | refine pIf_t ?_ | refine pIf_f ?_ | refine pN_v (hk := ?_) | fail)
  · refine ⟨fun v k w' => ∃ (y d : Int) (f : Nat), v = .int .i64 y ∧ k = .int .i64 d ∧ f ≤ 20 ∧ 0 ≤ y ∧ y < 65536 * 2 ^ f ∧ y < 8589934592 ∧ 0 ≤ d ∧ d + f ≤ c * 2 + 20 ∧ B.halve f y d = B.halve 20 (x * x) (c * 2) ∧ w' = w1, fun v _ _ => (RowKit.intOf v).toNat,
      ⟨x * x, 2 * c, 20, rfl, rfl, by omega, a7, by
        have e : (65536 : Int) * 2 ^ 20 = 68719476736 := by decide
        omega, by omega, by omega, by omega, by rw [Int.mul_comm 2 c], rfl⟩, ?_⟩
    rintro _ _ _ w2 ⟨y, d, f, rfl, rfl, hf, b1, b2, b3, b4, b5, b6, rfl⟩
    repeat' (first | (refine pN_geq_s ?_ ?_ <;> intro hc <;> try (exfalso; omega)) | refine pIf_t ?_ | refine pIf_f ?_ | refine pN_v (hk := ?_) | fail)
    · obtain ⟨f, rfl⟩ : ∃ g, f = g + 1 := ⟨f - 1, by
        rcases Nat.eq_zero_or_pos f with rfl | h
        · simp at b2; omega
        · omega⟩
      rw [B.halve, if_pos (by omega)] at b6
      rw [Int.pow_succ] at b2
      exact ⟨⟨y / 2, d + 1, f, rfl, rfl, by omega, by omega, by omega, by omega, by omega, by omega, b6, rfl⟩, by simp [RowKit.intOf] <;> omega⟩
    · rw [B.halve_stop f d (by omega)] at b6
      refine ⟨⟨y, d, j + 1, rfl, rfl, rfl, by omega, by omega, b1, b4, ?_, ?_, rfl⟩, by simp [RowKit.intOf] <;> omega⟩
      · rw [Int.pow_succ]; omega
      · rw [← a5, show 4 - j = (4 - (j + 1)) + 1 from by omega, B.sq]
        simp only [B.square]
        rw [← b6]
  · obtain rfl : j = 4 := by omega
    have e : B.costing i = 161 - c := by
      have : B.sq 4 (16 * i + 8, 0) = (x, c) := a5.symm
      have e2 : B.costing i = 161 - (B.sq 4 (16 * i + 8, 0)).2 := rfl
      rw [e2, this]
    rw [← e]
    exact hQ

theorem RCost_ok (p bit : Int) (hQ : Q (.int .i64 (B.cost p bit)) w) : Calls Tryz.prog 75 #[.int .i64 p, .int .i64 bit] w (retP Q) := by
  refine pithref06_Cost.calls ?_
  unfold pithref06_Cost.F
  have h1 := B.taken_lo p
  have h2 := B.taken_hi p
  unfold B.cost at hQ
  refine pc_pithref06_bound (Rbound_ok p ?_)
  repeat' (first | (refine pN_eql_s ?_ ?_ <;> intro hc <;> try (exfalso; first | omega | exact hc rfl | exact hc (by assumption) | exact absurd hc (by assumption))) | refine pIf_t ?_ | refine pIf_f ?_ | refine pN_v (hk := ?_) | fail)
  · rw [if_pos (by omega)] at hQ
    refine pc_pithref06_cost (Rcost_ok _ (by omega) (by omega) ?_)
    exact hQ
  · rw [if_neg (by omega)] at hQ
    refine pc_pithref06_cost (Rcost_ok _ (by omega) (by omega) ?_)
    exact hQ

theorem RAt_ok (hS : Sat E w (RSet b l :: M)) (i : Int) (hQ : ∀ w, Sat E w (RSet b l :: M) → Q (.tuple #[.int .i64 (if 0 ≤ i ∧ i < l.length then l.getD i.toNat 0 else 0), .int .i64 (if 0 ≤ i ∧ i < l.length then 0 else 7)]) w) :
    Calls Tryz.prog 74 #[.pointer (some ⟨b, 0, none⟩), .int .i64 i] w (retP Q) := by
  refine pithref06_Set_At.calls ?_
  unfold pithref06_Set_At.F
  by_cases h : 0 ≤ i ∧ i < l.length
  · simp only [if_pos h] at hQ ⊢
    obtain ⟨s, hS⟩ := RSet.opn hS
    repeat' (first | ((first | refine pN_lss_s ?_ ?_ | refine pN_geq_s ?_ ?_) <;> intro hc <;> try (exfalso; omega)) | refine pIf_f ?_ | refine pGd_go (by rfl) ?_ | refine pN_l hS (by first | rfl | assumption) ?_ | refine pN_ld1 ha hS ?_ | refine pN_ix hS _ (by first | rfl | (exact (Int.toNat_of_nonneg (by omega)).symm)) (by first | rfl | omega | simpa only [go_sem] using True.intro | (simp only [go_sem]; omega)) (by first | omega | (simp only [go_sem]; omega)) fun a x hx ha hel => ?_ | refine pN_v (hk := ?_) | fail)
    rw [List.getD_eq_getElem?_getD, hx] at hQ
    exact hQ _ (RSet.shut (b := b) (s := s) hS rfl)
  · simp only [if_neg h] at hQ ⊢
    obtain ⟨s, hS⟩ := RSet.opn hS
    repeat' (first | ((first | refine pN_lss_s ?_ ?_ | refine pN_geq_s ?_ ?_) <;> intro hc <;> try (exfalso; omega)) | refine pIf_t ?_ | refine pGd_go (by rfl) ?_ | refine pGd_no (by rfl) ?_ | refine pN_l hS (by first | rfl | assumption) ?_ | refine pN_v (hk := ?_) | fail)
    all_goals exact hQ _ (RSet.shut (b := b) (s := s) hS rfl)

theorem RTurn_ok (hS : Sat E w (RSet b l :: M)) (i bit : Int) (hQ : ∀ w, Sat E w (RSet b (if 0 ≤ i ∧ i < l.length then l.set i.toNat (B.next (l.getD i.toNat 0) bit) else l) :: M) → Q (.int .i64 (if 0 ≤ i ∧ i < l.length then 0 else 7)) w) :
    Calls Tryz.prog 117 #[.pointer (some ⟨b, 0, none⟩), .int .i64 i, .int .i64 bit] w (retP Q) := by
  refine pithref06_Set_Turn.calls ?_
  unfold pithref06_Set_Turn.F
  by_cases h : 0 ≤ i ∧ i < l.length
  · simp only [if_pos h] at hQ ⊢
    obtain ⟨s, hS⟩ := RSet.opn hS
    repeat' (first | ((first | refine pN_lss_s ?_ ?_ | refine pN_geq_s ?_ ?_) <;> intro hc <;> try (exfalso; omega)) | refine pIf_f ?_ | refine pGd_go (by rfl) ?_ | refine pN_l hS (by first | rfl | assumption) ?_ | refine pL_l hS (by first | rfl | assumption) ?_ | refine pL_ld1 ha hS ?_ | (refine pDr_go hS ?_; clear hS; intro w hS) | refine pA_ix hS _ (by first | rfl | (exact (Int.toNat_of_nonneg (by omega)).symm)) (by first | rfl | omega | simpa only [go_sem] using True.intro | (simp only [go_sem]; omega)) (by first | omega | (simp only [go_sem]; omega)) fun a x hx ha hel => ?_ | refine pN_v (hk := ?_) | refine pA_v (hk := ?_) | fail)
    refine pc_pithref06_Next (RNext_ok _ bit ?_)
    repeat' (first | refine ⟨trivial, ?_⟩ | refine ⟨⟨(by first | exact run_l hS (by first | rfl | assumption) | exact run_st hS (by first | rfl | omega) | exact run_ld1 ha hS | exact fun _ => run_l hS (by rfl) | exact fun _ => run_st hS (by first | rfl | omega) | exact fun _ => run_ld1 ha hS | exact fun h => Bool.noConfusion h), trivial⟩, ?_⟩ | refine pA_ixk hS _ (by first | rfl | (exact (Int.toNat_of_nonneg (by omega)).symm)) (by first | rfl | omega | simpa only [go_sem] using True.intro | (simp only [go_sem]; omega)) (by assumption) fun a ha hel => ?_ | (refine pN_sr hel hS (by rfl) (by rfl) (by first | omega | (simp only [go_sem]; omega)) ?_; clear hS; intro w hS) | fail)
    have e : l.getD i.toNat 0 = x := by rw [List.getD_eq_getElem?_getD, hx]; rfl
    rw [e] at hQ
    exact hQ _ (RSet.shut (b := b) (s := s) hS (by rw [List.length_set]))
  · simp only [if_neg h] at hQ ⊢
    obtain ⟨s, hS⟩ := RSet.opn hS
    repeat' (first | ((first | refine pN_lss_s ?_ ?_ | refine pN_geq_s ?_ ?_) <;> intro hc <;> try (exfalso; omega)) | refine pIf_t ?_ | refine pGd_go (by rfl) ?_ | refine pGd_no (by rfl) ?_ | refine pN_l hS (by first | rfl | assumption) ?_ | refine pN_v (hk := ?_) | fail)
    all_goals exact hQ _ (RSet.shut (b := b) (s := s) hS rfl)

theorem RReset_ok (hS : Sat E w (RSet b l :: M)) (hQ : ∀ w, Sat E w (RSet b (List.replicate l.length 1024) :: M) → Q (.tuple #[]) w) : Calls Tryz.prog 158 #[.pointer (some ⟨b, 0, none⟩)] w (retP Q) := by
  refine pithref06_Set_Reset.calls ?_
  unfold pithref06_Set_Reset.F
  obtain ⟨s, hS⟩ := RSet.opn hS
  have hlen := rows_len (C := cd_int) s (hS.fd (rows cd_int s))
  refine ⟨fun v w => ∃ k : Nat, v = .int .i64 k ∧ k ≤ l.length ∧ Sat E w (cel b ⟨219, [.int .i64 l.length, .slice s.a l.length s.c]⟩ :: rows cd_int s (List.replicate k 1024 ++ l.drop k) :: M), fun v _ => l.length - (RowKit.intOf v).toNat, ⟨0, rfl, Nat.zero_le _, hS⟩, ?_⟩
  clear hS
  rintro _ _ w ⟨k, rfl, hk, hS⟩
  have e : (List.replicate k 1024 ++ l.drop k).length = l.length := by simp; omega
  repeat' (first | (refine pN_lss_s ?_ ?_ <;> intro hc <;> try (exfalso; omega)) | refine pIf_t ?_ | refine pIf_f ?_ | refine pN_l hS (by first | rfl | assumption) ?_ | refine pN_ix hS _ (by first | rfl | (exact (Int.toNat_of_nonneg (by omega)).symm)) (by first | rfl | omega | simpa only [go_sem] using True.intro | (simp only [go_sem]; omega)) (by first | omega | (simp only [go_sem]; omega)) fun a x hx ha hel => ?_ | (refine pN_sr hel hS (by rfl) (by rfl) (by first | omega | (simp only [go_sem]; omega)) ?_; clear hS; intro w hS) | refine pN_v (hk := ?_) | fail)
  · refine ⟨⟨k + 1, rfl, by omega, ?_⟩, by simp [RowKit.intOf]; omega⟩
    have e2 : (List.replicate k (1024 : Int) ++ l.drop k).set k 1024 = List.replicate (k + 1) 1024 ++ l.drop (k + 1) := by
      rw [List.set_append_right _ _ (by simp), List.length_replicate, Nat.sub_self, List.replicate_succ', List.append_assoc]
      have : k < l.length := by omega
      rw [List.drop_eq_getElem_cons this]
      rfl
    rw [e2] at hS
    exact hS.to
  · obtain rfl : k = l.length := by omega
    rw [List.drop_length, List.append_nil] at hS
    exact hQ _ (RSet.shut (b := b) (s := s) hS (by rw [List.length_replicate]))

theorem RNew_ok (hS : Sat E w M) (n : Int) (h0 : 0 ≤ n) (h1 : n ≤ 1048576) (hQ : ∀ b w, Sat E w (RSet b (List.replicate n.toNat 1024) :: M) → Q (.tuple #[.pointer (some ⟨b, 0, none⟩), .int .i64 0]) w) :
    Calls Tryz.prog 118 #[.int .i64 n] w (retP Q) := by
  refine pithref06_New.calls ?_
  unfold pithref06_New.F
  repeat' (first | ((first | refine pN_lss_s ?_ ?_ | refine pN_gtr_s ?_ ?_) <;> intro hc <;> try (exfalso; omega)) | refine pIf_f ?_ | refine pGd_go (by rfl) ?_ | (refine pN_bx hS (by rfl) ?_; clear hS; intro a w hS) | (refine pN_mk hS _ (by first | rfl | (exact (Int.toNat_of_nonneg (by omega)).symm)) (by first | omega | (simp only [go_sem]; omega)) ?_; clear hS; intro s w hS) | refine pN_v (hk := ?_) | fail)
  have hS : Sat E w (RSet a (List.replicate n.toNat 0) :: M) := RSet.shut (b := a) (s := s) hS (by rw [List.length_replicate, Int.toNat_of_nonneg h0])
  refine pc_pithref06_Set_Reset (RReset_ok hS fun w hS => ?_)
  rw [List.length_replicate] at hS
  exact hQ _ _ hS

end

end Go.Proofs.YtbgnnjfpiblkmaaGreatDoor

namespace Go.Proofs.YtbgnnjfpiblkmaaGreatDoor
open Go
attribute [local irreducible] oMv oV oU oCall oCallV oBi oBin oUn oLoad oStore oNil oFld oField oIdx oIndex oPick oAlloc oBox oBuild oBs oConv oMk oSl oExt oFn oIface oMap oLook oMapUp oRange oNext oEntry oInv oAssert oPanic oRes pN pA pL pDr pIf gA pGd

instance mt_sets : MapT Tryz.prog 70 ske (.pointer none) :=
  ⟨_, _, Tryz.underlying70, Tryz.zeroValue150, KeyC.of (κ := Key) (Maps.string_keyed Tryz.underlying9) (fun l => Lit.string l.1) (fun k => key_str k) (fun a b h => Subtype.ext (by simpa [ske] using h))⟩

def Z.fresh : List Int := List.replicate 768 1024
abbrev RSets (bm : Nat) (N : Key → List Int) : HA := NSets RSet Z.fresh bm N
abbrev RHole (bm : Nat) (N : Key → List Int) (n : Key) (b : Nat) : HA := NHole RSet Z.fresh bm N n b
section
variable {E w : World} {M : List HA} {Q : Value → World → Prop} {bm b c : Nat} {N : Key → List Int} {n : Key} {l : List Int}
theorem R14Set_ok {cs : List Value} (hS : Sat E w (cel c ⟨73, cs⟩ :: RSets bm N :: M)) (hv : cs[9]? = some (.map (some bm))) (hQ : ∀ b w, Sat E w (RSet b (N n) :: RHole bm N n b :: cel c ⟨73, cs⟩ :: M) → Q (pz b) w) :
    Calls Tryz.prog 72 #[pz c, .string ⟨n.1.toArray⟩] w (retP Q) := by
  refine pithref14_Coder_Set.calls ?_
  unfold pithref14_Coder_Set.F
  obtain ⟨m, h1, h2, hS⟩ := NSets.bagged (hS.perm (List.Perm.swap _ _ _))
  repeat' (first | refine pN_l hS hv ?_ | refine pN_v (hk := ?_) | fail)
  refine pN_lko (P := Tryz.prog) (t := 70) hS n (fun v hg => ?_) (fun hg => ?_)
  · obtain ⟨i, e, hi, hn, rfl⟩ := Z.look_some hg
    subst hn
    repeat' (first | refine pN_v (hk := ?_) | fail)
    refine ⟨fun v w => ∃ b, v = pz b ∧ Sat E w (RSet b (N e.name) :: RHole bm N e.name b :: cel c ⟨73, cs⟩ :: M), ?_, ?_⟩
    · repeat' (first | refine pIf_f ?_ | refine pN_v (hk := ?_) | fail)
      exact ⟨_, rfl, NHole.of (l := e.l) h1 h2 hi hS⟩
    · rintro _ _ w ⟨b, rfl, hS⟩
      exact hQ _ _ hS
  · repeat' (first | refine pN_v (hk := ?_) | fail)
    refine ⟨fun v w => ∃ b, v = pz b ∧ Sat E w (RSet b (N n) :: RHole bm N n b :: cel c ⟨73, cs⟩ :: M), ?_, ?_⟩
    · repeat' (first | (refine pc_pithref06_New (RNew_ok hS 768 (by omega) (by omega) ?_); clear hS; intro b w hS) | refine pN_l hS hv ?_ | (refine pN_mup (P := Tryz.prog) (t := 70) hS n (pz b) ?_; clear hS; intro w hS) | refine pIf_t ?_ | refine pN_v (hk := ?_) | fail)
      have hS2 : Sat E _ (mp ske bm (mput (nsV m) n (pz b)) :: bag (nsA RSet m) :: RSet b Z.fresh :: cel c ⟨73, cs⟩ :: M) := hS.perm (List.Perm.cons _ (List.Perm.swap _ _ _))
      exact ⟨_, rfl, NHole.new h1 h2 hg hS2⟩
    · rintro _ _ w ⟨b, rfl, hS⟩
      exact hQ _ _ hS
end
end Go.Proofs.YtbgnnjfpiblkmaaGreatDoor

namespace Go.Proofs.YtbgnnjfpiblkmaaGreatDoor
open Go
set_option maxRecDepth 100000

def pithref07_Encoder_Size.F [Pan] (x0 : Value) (w : World) (Q : Value → World → Prop) : Prop :=
 pN Tryz.prog (oNil x0) w fun x4 w1 =>
 pN Tryz.prog (oFld 164 x4 2) w1 fun x5 w2 =>
 pN Tryz.prog (oLoad 3 x5) w2 fun x6 w3 =>
 pN Tryz.prog (oBin .add 3 (.tmp 6) (.const (.int .i64 5)) x6 (.int .i64 5)) w3 fun x7 w4 =>
 Q x7 w4
theorem pithref07_Encoder_Size.calls [Pan] {x0 : Value} {w : World} {Q : Value → World → Prop} (h : pithref07_Encoder_Size.F x0 w Q) : Calls Tryz.prog 33 #[x0] w (retP Q) := calls_lift mixed .z [x0] Tryz.func33 (by kernel_rfl) (by kernel_rfl) h

def pithref07_New.F [Pan]  (w : World) (Q : Value → World → Prop) : Prop :=
 pN Tryz.prog (oMk 30 (.int .i64 5) (.int .i64 5)) w fun x1 w1 =>
 pN Tryz.prog (oBuild 164 [(0, x1), (1, (.int .u32 4294967295))]) w1 fun x2 w2 =>
 pN Tryz.prog (oBox 164 x2) w2 fun x3 w3 =>
 Q x3 w3
theorem pithref07_New.calls [Pan]  {w : World} {Q : Value → World → Prop} (h : pithref07_New.F  w Q) : Calls Tryz.prog 66 #[] w (retP Q) := calls_lift mixed .z [] Tryz.func66 (by kernel_rfl) (by kernel_rfl) h

def pithref07_Encoder_Direct.H : Hints := { cut := fun | 5 => some ([], 2199022206976) | 9 => some ([], 549487378432) | _ => none, loop := fun | 4 => ([7], 2199023190144) | _ => ([], 0), order := fun  | _ => [] }
def pithref07_Encoder_Direct.F [Pan] (x0 x1 x2 : Value) (w : World) (Q : Value → World → Prop) : Prop :=
 pN Tryz.prog (oBin .lss 3 (.tmp 8) (.const (.int .i64 0)) x2 (.int .i64 0)) w fun x9 w1 =>
 pGd (gB x9 false) (pN Tryz.prog (oMv x2) w1) w1 fun x11 w2 =>
 pGd (gB x9 false) (pN Tryz.prog (oBin .gtr 3 (.tmp 11) (.const (.int .i64 32)) x11 (.int .i64 32)) w2) w2 fun x12 w3 =>
 pN Tryz.prog (oPick x9 (.bool true) x12) w3 fun x13 w4 =>
 pIf x13
 (Q (.int .i64 7) w4)
 (pN Tryz.prog (oBin .sub 3 (.tmp 14) (.const (.int .i64 1)) x2 (.int .i64 1)) w4 fun x15 w5 =>
 ∃ (L4 : Value → World → Prop) (m4 : Value → World → Nat),
 L4 x15 w5 ∧
 ∀ (_k4 : Env) (i7l4 : Value) (w6 : World), L4 i7l4 w6 →
 pN Tryz.prog (oBin .geq 3 (.tmp 16) (.const (.int .i64 0)) i7l4 (.int .i64 0)) w6 fun x17 w7 =>
 pIf x17
 (∃ I5 : World → Prop,
 (pN Tryz.prog (oNil x0) w7 fun x22 w8 =>
 pN Tryz.prog (oFld 164 x22 1) w8 fun x23 w9 =>
 pN Tryz.prog (oLoad 148 x23) w9 fun x24 w10 =>
 pN Tryz.prog (oBin .quo 148 (.tmp 24) (.const (.int .u32 2)) x24 (.int .u32 2)) w10 fun x25 w11 =>
 pN Tryz.prog (oNil x0) w11 fun x26 w12 =>
 pN Tryz.prog (oFld 164 x26 1) w12 fun x27 w13 =>
 pN Tryz.prog (oStore 148 x27 x25) w13 fun _ w14 =>
 ∃ I9 : World → Prop,
 (pN Tryz.prog (oBin .shr 148 (.tmp 28) (.tmp 29) x1 i7l4) w14 fun x30 w15 =>
 pN Tryz.prog (oBin .rem 148 (.tmp 30) (.const (.int .u32 2)) x30 (.int .u32 2)) w15 fun x31 w16 =>
 pN Tryz.prog (oBin .eql 148 (.tmp 31) (.const (.int .u32 1)) x31 (.int .u32 1)) w16 fun x32 w17 =>
 pIf x32
 (pN Tryz.prog (oNil x0) w17 fun x35 w18 =>
 pN Tryz.prog (oFld 164 x35 1) w18 fun x36 w19 =>
 pN Tryz.prog (oLoad 148 x36) w19 fun x37 w20 =>
 pN Tryz.prog (oCall 113 [x0, x37]) w20 fun _ w21 =>
 I9 w21)
 (I9 w17)) ∧
 ∀ (_j9 : Env) (w22 : World), I9 w22 →
 pN Tryz.prog (oCall 114 [x0]) w22 fun _ w23 =>
 I5 w23) ∧
 ∀ (_j5 : Env) (w24 : World), I5 w24 →
 pN Tryz.prog (oBin .sub 3 (.tmp 18) (.const (.int .i64 1)) i7l4 (.int .i64 1)) w24 fun x19 w25 =>
 (L4 x19 w25 ∧ m4 x19 w25 < m4 i7l4 w6))
 (Q (.int .i64 0) w7))
theorem pithref07_Encoder_Direct.calls [Pan] {x0 x1 x2 : Value} {w : World} {Q : Value → World → Prop} (h : pithref07_Encoder_Direct.F x0 x1 x2 w Q) : Calls Tryz.prog 70 #[x0, x1, x2] w (retP Q) := calls_lift mixed pithref07_Encoder_Direct.H [x0, x1, x2] Tryz.func70 (by kernel_rfl) (by kernel_rfl) h

def pithref07_Encoder_Bit.F [Pan] (x0 x1 x2 x3 : Value) (w : World) (Q : Value → World → Prop) : Prop :=
 pN Tryz.prog (oCall 74 [x1, x2]) w fun x14 w1 =>
 pN Tryz.prog (oExt x14 0) w1 fun x15 w2 =>
 pN Tryz.prog (oExt x14 1) w2 fun x16 w3 =>
 pN Tryz.prog (oBin .neq 3 (.tmp 17) (.const (.int .i64 0)) x16 (.int .i64 0)) w3 fun x18 w4 =>
 pIf x18
 (Q (.int .i64 7) w4)
 (pN Tryz.prog (oNil x0) w4 fun x21 w5 =>
 pN Tryz.prog (oFld 164 x21 1) w5 fun x22 w6 =>
 pN Tryz.prog (oLoad 148 x22) w6 fun x23 w7 =>
 pN Tryz.prog (oCall 116 [x23, x15]) w7 fun x25 w8 =>
 pN Tryz.prog (oCall 115 [x0, x25, x3]) w8 fun _ w9 =>
 pN Tryz.prog (oCall 117 [x1, x2, x3]) w9 fun _ w10 =>
 Q (.int .i64 0) w10)
theorem pithref07_Encoder_Bit.calls [Pan] {x0 x1 x2 x3 : Value} {w : World} {Q : Value → World → Prop} (h : pithref07_Encoder_Bit.F x0 x1 x2 x3 w Q) : Calls Tryz.prog 71 #[x0, x1, x2, x3] w (retP Q) := calls_lift mixed .z [x0, x1, x2, x3] Tryz.func71 (by kernel_rfl) (by kernel_rfl) h

def pithref07_Encoder_Bytes.F [Pan] (x0 : Value) (w : World) (Q : Value → World → Prop) : Prop :=
 pN Tryz.prog (oNil x0) w fun x6 w1 =>
 pN Tryz.prog (oFld 164 x6 0) w1 fun x7 w2 =>
 pN Tryz.prog (oLoad 30 x7) w2 fun x8 w3 =>
 pN Tryz.prog (oBi .append #[30, 30] 30 [false, false] [(.slice none 0 0), x8]) w3 fun x9 w4 =>
 Q x9 w4
theorem pithref07_Encoder_Bytes.calls [Pan] {x0 : Value} {w : World} {Q : Value → World → Prop} (h : pithref07_Encoder_Bytes.F x0 w Q) : Calls Tryz.prog 77 #[x0] w (retP Q) := calls_lift mixed .z [x0] Tryz.func77 (by kernel_rfl) (by kernel_rfl) h

def pithref07_Encoder_Fork.H : Hints := { cut := fun  | _ => none, loop := fun  | _ => ([], 0), order := fun | 1 => [(0, 0), (2, 1), (3, 5), (4, 13), (5, 29), (6, 61), (7, 125), (8, 253), (9, 509), (1, 1021), (10, 1023), (11, 2047), (12, 4095)] | _ => [] }
def pithref07_Encoder_Fork.F [Pan] (x0 : Value) (w : World) (Q : Value → World → Prop) : Prop :=
 pDr w fun w1 =>
 pA Tryz.prog (oNil x0) fun x6 =>
 pA Tryz.prog (oFld 164 x6 1) fun x7 =>
 pL Tryz.prog (oLoad 148 x7) w1 fun x8 =>
 pA Tryz.prog (oNil x0) fun x10 =>
 pA Tryz.prog (oFld 164 x10 2) fun x11 =>
 pL Tryz.prog (oLoad 3 x11) w1 fun x12 =>
 pN Tryz.prog (oCall 77 [x0]) w1 fun x4 w2 =>
 ((Sem.run Tryz.prog (oLoad 3 x11) w2 = .ok (.value x12) w2) ∧ (Sem.run Tryz.prog (oLoad 148 x7) w2 = .ok (.value x8) w2) ∧ True) ∧ (pN Tryz.prog (oBuild 164 [(0, x4), (1, x8), (2, x12)]) w2 fun x13 w3 =>
 (True) ∧ (pN Tryz.prog (oBox 164 x13) w3 fun x14 w4 =>
 (True) ∧ (Q x14 w4)))
theorem pithref07_Encoder_Fork.calls [Pan] {x0 : Value} {w : World} {Q : Value → World → Prop} (h : pithref07_Encoder_Fork.F x0 w Q) : Calls Tryz.prog 84 #[x0] w (retP Q) := calls_lift mixed pithref07_Encoder_Fork.H [x0] Tryz.func84 (by kernel_rfl) (by kernel_rfl) h

def pithref07_Encoder_adds.H : Hints := { cut := fun  | _ => none, loop := fun | 2 => ([4, 5], 549755797552) | _ => ([], 0), order := fun  | _ => [] }
def pithref07_Encoder_adds.F [Pan] (x0 x1 : Value) (w : World) (Q : Value → World → Prop) : Prop :=
 pN Tryz.prog (oConv 148 188 x1) w fun x7 w1 =>
 pN Tryz.prog (oNil x0) w1 fun x9 w2 =>
 pN Tryz.prog (oFld 164 x9 0) w2 fun x10 w3 =>
 pN Tryz.prog (oLoad 30 x10) w3 fun x11 w4 =>
 pN Tryz.prog (oBi .len #[30] 3 [false] [x11]) w4 fun x12 w5 =>
 pN Tryz.prog (oBin .sub 3 (.tmp 12) (.const (.int .i64 1)) x12 (.int .i64 1)) w5 fun x13 w6 =>
 ∃ (L2 : Value → Value → World → Prop) (m2 : Value → Value → World → Nat),
 L2 x7 x13 w6 ∧
 ∀ (_k2 : Env) (c4l2 : Value) (i5l2 : Value) (w7 : World), L2 c4l2 i5l2 w7 →
 pN Tryz.prog (oBin .geq 3 (.tmp 14) (.const (.int .i64 0)) i5l2 (.int .i64 0)) w7 fun x15 w8 =>
 pIf x15
 (pN Tryz.prog (oNil x0) w8 fun x20 w9 =>
 pN Tryz.prog (oFld 164 x20 0) w9 fun x21 w10 =>
 pN Tryz.prog (oLoad 30 x21) w10 fun x22 w11 =>
 pN Tryz.prog (oIdx 30 x22 i5l2) w11 fun x24 w12 =>
 pN Tryz.prog (oLoad 5 x24) w12 fun x25 w13 =>
 pN Tryz.prog (oConv 5 188 x25) w13 fun x26 w14 =>
 pN Tryz.prog (oBin .add 188 (.tmp 18) (.tmp 26) c4l2 x26) w14 fun x27 w15 =>
 pN Tryz.prog (oNil x0) w15 fun x29 w16 =>
 pN Tryz.prog (oFld 164 x29 0) w16 fun x30 w17 =>
 pN Tryz.prog (oLoad 30 x30) w17 fun x31 w18 =>
 pN Tryz.prog (oBin .rem 188 (.tmp 33) (.const (.int .u64 256)) x27 (.int .u64 256)) w18 fun x34 w19 =>
 pN Tryz.prog (oConv 188 5 x34) w19 fun x35 w20 =>
 pN Tryz.prog (oIdx 30 x31 i5l2) w20 fun x36 w21 =>
 pN Tryz.prog (oStore 5 x36 x35) w21 fun _ w22 =>
 pN Tryz.prog (oBin .quo 188 (.tmp 37) (.const (.int .u64 256)) x27 (.int .u64 256)) w22 fun x38 w23 =>
 pN Tryz.prog (oBin .sub 3 (.tmp 16) (.const (.int .i64 1)) i5l2 (.int .i64 1)) w23 fun x17 w24 =>
 (L2 x38 x17 w24 ∧ m2 x38 x17 w24 < m2 c4l2 i5l2 w7))
 (Q (.tuple #[]) w8)
theorem pithref07_Encoder_adds.calls [Pan] {x0 x1 : Value} {w : World} {Q : Value → World → Prop} (h : pithref07_Encoder_adds.F x0 x1 w Q) : Calls Tryz.prog 113 #[x0, x1] w (retP Q) := calls_lift mixed pithref07_Encoder_adds.H [x0, x1] Tryz.func113 (by kernel_rfl) (by kernel_rfl) h

def pithref07_Encoder_widens.H : Hints := { cut := fun  | _ => none, loop := fun | 0 => ([], 2147483644) | _ => ([], 0), order := fun  | _ => [] }
def pithref07_Encoder_widens.F [Pan] (x0 : Value) (w : World) (Q : Value → World → Prop) : Prop :=
 ∃ (L0 : World → Prop) (m0 : World → Nat),
 L0 w ∧
 ∀ (_k0 : Env) (w1 : World), L0 w1 →
 pN Tryz.prog (oNil x0) w1 fun x3 w2 =>
 pN Tryz.prog (oFld 164 x3 1) w2 fun x4 w3 =>
 pN Tryz.prog (oLoad 148 x4) w3 fun x5 w4 =>
 pN Tryz.prog (oBin .lss 148 (.tmp 5) (.const (.int .u32 16777216)) x5 (.int .u32 16777216)) w4 fun x6 w5 =>
 pIf x6
 (pN Tryz.prog (oNil x0) w5 fun x9 w6 =>
 pN Tryz.prog (oFld 164 x9 1) w6 fun x10 w7 =>
 pN Tryz.prog (oLoad 148 x10) w7 fun x11 w8 =>
 pN Tryz.prog (oBin .mul 148 (.tmp 11) (.const (.int .u32 256)) x11 (.int .u32 256)) w8 fun x12 w9 =>
 pN Tryz.prog (oNil x0) w9 fun x13 w10 =>
 pN Tryz.prog (oFld 164 x13 1) w10 fun x14 w11 =>
 pN Tryz.prog (oStore 148 x14 x12) w11 fun _ w12 =>
 pN Tryz.prog (oNil x0) w12 fun x17 w13 =>
 pN Tryz.prog (oFld 164 x17 0) w13 fun x18 w14 =>
 pN Tryz.prog (oLoad 30 x18) w14 fun x19 w15 =>
 pN Tryz.prog (oBs 30 1 [(0, (bv 0))]) w15 fun x20 w16 =>
 pN Tryz.prog (oBi .append #[30, 30] 30 [false, false] [x19, x20]) w16 fun x21 w17 =>
 pN Tryz.prog (oNil x0) w17 fun x22 w18 =>
 pN Tryz.prog (oFld 164 x22 0) w18 fun x23 w19 =>
 pN Tryz.prog (oStore 30 x23 x21) w19 fun _ w20 =>
 pN Tryz.prog (oNil x0) w20 fun x25 w21 =>
 pN Tryz.prog (oFld 164 x25 2) w21 fun x26 w22 =>
 pN Tryz.prog (oLoad 3 x26) w22 fun x27 w23 =>
 pN Tryz.prog (oBin .add 3 (.tmp 27) (.const (.int .i64 1)) x27 (.int .i64 1)) w23 fun x28 w24 =>
 pN Tryz.prog (oNil x0) w24 fun x29 w25 =>
 pN Tryz.prog (oFld 164 x29 2) w25 fun x30 w26 =>
 pN Tryz.prog (oStore 3 x30 x28) w26 fun _ w27 =>
 (L0 w27 ∧ m0 w27 < m0 w1))
 (Q (.tuple #[]) w5)
theorem pithref07_Encoder_widens.calls [Pan] {x0 : Value} {w : World} {Q : Value → World → Prop} (h : pithref07_Encoder_widens.F x0 w Q) : Calls Tryz.prog 114 #[x0] w (retP Q) := calls_lift mixed pithref07_Encoder_widens.H [x0] Tryz.func114 (by kernel_rfl) (by kernel_rfl) h

def pithref07_Encoder_cut.H : Hints := { cut := fun | 4 => some ([], 16777152) | _ => none, loop := fun  | _ => ([], 0), order := fun  | _ => [] }
def pithref07_Encoder_cut.F [Pan] (x0 x1 x2 : Value) (w : World) (Q : Value → World → Prop) : Prop :=
 ∃ I4 : World → Prop,
 (pN Tryz.prog (oBin .eql 3 (.tmp 6) (.const (.int .i64 0)) x2 (.int .i64 0)) w fun x7 w1 =>
 pIf x7
 (pN Tryz.prog (oNil x0) w1 fun x10 w2 =>
 pN Tryz.prog (oFld 164 x10 1) w2 fun x11 w3 =>
 pN Tryz.prog (oStore 148 x11 x1) w3 fun _ w4 =>
 I4 w4)
 (pN Tryz.prog (oCall 113 [x0, x1]) w1 fun _ w5 =>
 pN Tryz.prog (oNil x0) w5 fun x17 w6 =>
 pN Tryz.prog (oFld 164 x17 1) w6 fun x18 w7 =>
 pN Tryz.prog (oLoad 148 x18) w7 fun x19 w8 =>
 pN Tryz.prog (oBin .sub 148 (.tmp 19) (.tmp 20) x19 x1) w8 fun x21 w9 =>
 pN Tryz.prog (oNil x0) w9 fun x22 w10 =>
 pN Tryz.prog (oFld 164 x22 1) w10 fun x23 w11 =>
 pN Tryz.prog (oStore 148 x23 x21) w11 fun _ w12 =>
 I4 w12)) ∧
 ∀ (_j4 : Env) (w13 : World), I4 w13 →
 pN Tryz.prog (oCall 114 [x0]) w13 fun _ w14 =>
 Q (.tuple #[]) w14
theorem pithref07_Encoder_cut.calls [Pan] {x0 x1 x2 : Value} {w : World} {Q : Value → World → Prop} (h : pithref07_Encoder_cut.F x0 x1 x2 w Q) : Calls Tryz.prog 115 #[x0, x1, x2] w (retP Q) := calls_lift mixed pithref07_Encoder_cut.H [x0, x1, x2] Tryz.func115 (by kernel_rfl) (by kernel_rfl) h

end Go.Proofs.YtbgnnjfpiblkmaaGreatDoor

namespace Go.Proofs.YtbgnnjfpiblkmaaGreatDoor
open Go
attribute [local irreducible] oMv oV oU oCall oCallV oBi oBin oUn oLoad oStore oNil oFld oField oIdx oIndex oPick oAlloc oBox oBuild oBs oConv oMk oSl oExt oFn oIface oMap oLook oMapUp oRange oNext oEntry oInv oAssert oPanic oRes pN pA pL pDr pIf gA pGd

namespace R
theorem digits_cons : ∀ (m : Nat) (n : Int), digits n (m + 1) = byteOf (n / 256 ^ m) :: digits n m
  | 0, n => by simp [digits]
  | m + 1, n => by
    rw [digits, digits_cons m, digits, Int.pow_succ, Int.mul_comm, ← Int.ediv_ediv_of_nonneg (by omega : (0 : Int) ≤ 256)]
    rfl
def half (N X : Int) (k m : Nat) : List UInt8 := digits (N / 256 ^ m) (k - m) ++ digits X m
theorem half_len (N X : Int) {k m : Nat} (h : m ≤ k) : (half N X k m).length = k := by
  rw [half, List.length_append, digits_length, digits_length]; omega
theorem half_zero (N X : Int) (k : Nat) : half N X k 0 = digits N k := by
  rw [half, Int.pow_zero, Int.ediv_one, digits, List.append_nil, Nat.sub_zero]
theorem half_all (N X : Int) (k : Nat) : half N X k k = digits X k := by
  rw [half, Nat.sub_self, digits, List.nil_append]
theorem half_split (N X : Int) {k m : Nat} (h : m < k) : half N X k m = digits (N / 256 ^ (m + 1)) (k - (m + 1)) ++ byteOf (N / 256 ^ m) :: digits X m := by
  rw [half, show k - m = (k - (m + 1)) + 1 from by omega, digits, Int.pow_succ, ← Int.ediv_ediv_of_nonneg (Int.le_of_lt (Int.pow_pos (by omega))), List.append_assoc]
  rfl
theorem half_get (N X : Int) {k m : Nat} (h : m < k) : (half N X k m)[k - 1 - m]? = some (byteOf (N / 256 ^ m)) := by
  rw [half_split N X h, List.getElem?_append_right (by rw [digits_length]; omega), digits_length, show k - 1 - m - (k - (m + 1)) = 0 from by omega]
  rfl
theorem half_set (N X : Int) {k m : Nat} (h : m < k) : (half N X k m).set (k - 1 - m) (byteOf (X / 256 ^ m)) = half N X k (m + 1) := by
  rw [half_split N X h, List.set_append_right _ _ (by rw [digits_length]; omega), digits_length, show k - 1 - m - (k - (m + 1)) = 0 from by omega, half, digits_cons]
  rfl
end R

def REnc (b : Nat) (st : R.S) : HA := fun h => ∃ s : Sl, Sats [cel b ⟨164, [.slice s.a (st.k + 5 : Nat) s.c, .int .u32 st.R, .int .i64 st.k]⟩, rows cd_uint8 s st.bytes] h

section
variable {E w : World} {M : List HA} {Q : Value → World → Prop} {b : Nat} {st : R.S}

theorem bytes_len (st : R.S) : st.bytes.length = st.k + 5 := R.digits_length _ _
theorem REnc.opn (hS : Sat E w (REnc b st :: M)) : ∃ s : Sl, Sat E w (cel b ⟨164, [.slice s.a st.bytes.length s.c, .int .u32 st.R, .int .i64 st.k]⟩ :: rows cd_uint8 s st.bytes :: M) := by
  obtain ⟨s, hS⟩ := hS.ex
  refine ⟨s, ?_⟩
  rw [bytes_len]
  exact hS.open_ (M := [_, _]) fun _ h => h
theorem REnc.shut {s : Sl} {L N : List HA} {o : Ob} {l : List UInt8} (hS : Sat E w L) [h1 : Fnd (cel b) L o N] [h2 : Fnd (rows cd_uint8 s) N l M] (ho : o = ⟨164, [.slice s.a l.length s.c, .int .u32 st.R, .int .i64 st.k]⟩) (hl : l = st.bytes) : Sat E w (REnc b st :: M) := by
  subst hl
  subst ho
  rw [bytes_len] at h1
  exact Sat.shut (M := [_, _]) (hS.fd2 (cel b) (rows cd_uint8 s)) fun _ h => ⟨s, h⟩

theorem RNewE_ok (hS : Sat E w M) (hQ : ∀ b w, Sat E w (REnc b R.S.new :: M) → Q (.pointer (some ⟨b, 0, none⟩)) w) : Calls Tryz.prog 66 #[] w (retP Q) := by
  refine pithref07_New.calls ?_
  unfold pithref07_New.F
  repeat' (first | (refine pN_bx hS (by rfl) ?_; clear hS; intro a w hS) | (refine pN_mk hS _ (by first | rfl | (exact (Int.toNat_of_nonneg (by omega)).symm)) (by first | omega | (simp only [go_sem]; omega)) ?_; clear hS; intro s w hS) | refine pN_v (hk := ?_) | fail)
  exact hQ _ _ (REnc.shut (b := a) (s := s) hS rfl rfl)

theorem adds_ok (hS : Sat E w (REnc b st :: M)) (hk : st.k + 10 ≤ 140737488355328) (v : Int) (v0 : 0 ≤ v) (v1 : v < 4294967296) (hQ : ∀ w, Sat E w (REnc b ⟨st.N + v, st.R, st.k⟩ :: M) → Q (.tuple #[]) w) : Calls Tryz.prog 113 #[.pointer (some ⟨b, 0, none⟩), .int .u32 v] w (retP Q) := by
  refine pithref07_Encoder_adds.calls ?_
  unfold pithref07_Encoder_adds.F
  obtain ⟨s, hS⟩ := REnc.opn hS
  have hb := bytes_len st
  repeat' (first | refine pN_l hS (by first | rfl | assumption) ?_ | refine pN_v (hk := ?_) | fail)
  refine ⟨fun c i w => ∃ (m : Nat) (x : Int), c = .int .u64 x ∧ i = .int .i64 ((st.bytes.length : Int) - 1 - m) ∧ m ≤ st.k + 5 ∧ 0 ≤ x ∧ x < 4294967296 ∧ (st.N + v) / 256 ^ m = st.N / 256 ^ m + x ∧
      Sat E w (cel b ⟨164, [.slice s.a st.bytes.length s.c, .int .u32 st.R, .int .i64 st.k]⟩ :: rows cd_uint8 s (R.half st.N (st.N + v) (st.k + 5) m) :: M), fun _ i _ => (RowKit.intOf i + 1).toNat,
    ⟨0, v, rfl, congrArg (Value.int .i64) (by omega), Nat.zero_le _, v0, v1, by simp, by rw [R.half_zero]; exact hS⟩, ?_⟩
  clear hS
  rintro _ _ _ w ⟨m, x, rfl, rfl, hm, x0, x1, hx, hS⟩
  have hl := R.half_len st.N (st.N + v) hm
  by_cases hlt : m < st.k + 5
  · have hg := R.half_get st.N (st.N + v) hlt
    have hs := R.half_set st.N (st.N + v) hlt
    have e1 : ((st.bytes.length : Int) - 1 - m).toNat = st.k + 5 - 1 - m := by omega
    rw [← e1] at hg hs
    have e3 : (st.N + v) / 256 ^ (m + 1) = st.N / 256 ^ m / 256 + (x + st.N / 256 ^ m % 256) / 256 ∧ st.N / 256 ^ (m + 1) = st.N / 256 ^ m / 256 := by
      have p : (0 : Int) ≤ 256 ^ m := Int.le_of_lt (Int.pow_pos (by omega))
      rw [Int.pow_succ, ← Int.ediv_ediv_of_nonneg p, ← Int.ediv_ediv_of_nonneg p, hx]
      omega
    have e4 : (((byteOf (st.N / 256 ^ m)).toNat : Nat) : Int) = st.N / 256 ^ m % 256 := byteOf_toNat _
    have e5 : byteOf ((x + ((byteOf (st.N / 256 ^ m)).toNat : Nat)) % 256) = byteOf ((st.N + v) / 256 ^ m) := by
      apply UInt8.toNat_inj.1
      have a1 := byteOf_toNat ((x + ((byteOf (st.N / 256 ^ m)).toNat : Nat)) % 256)
      have a2 := byteOf_toNat ((st.N + v) / 256 ^ m)
      omega
    generalize R.half st.N (st.N + v) (st.k + 5) m = l at hl hg hs hS
    repeat' (first | (refine pN_geq_s ?_ ?_ <;> intro hc <;> try (exfalso; omega)) | refine pIf_t ?_ | refine pN_tob ?_ | refine pN_ofb ?_ | refine pN_l hS (by first | rfl | assumption) ?_ | refine pN_ld1 ha hS ?_ | refine pN_ixk hS _ (by first | rfl | (exact (Int.toNat_of_nonneg (by omega)).symm)) (by first | rfl | omega | simpa only [go_sem] using True.intro | (simp only [go_sem]; omega)) (by assumption) fun a ha hel => ?_ | (refine pN_sr hel hS (by rfl) (by rfl) (by first | omega | (simp only [go_sem]; omega)) ?_; clear hS; intro w hS) | refine pN_v (hk := ?_) | fail)
    rw [e5, hs] at hS
    rw [e4]
    refine ⟨⟨m + 1, (x + st.N / 256 ^ m % 256) / 256, rfl, congrArg (Value.int .i64) (by omega), by omega, by omega, by omega, ?_, hS.to⟩, by simp [RowKit.intOf] <;> omega⟩
    rw [e3.1, e3.2]
  · obtain rfl : m = st.k + 5 := by omega
    rw [R.half_all] at hS
    repeat' (first | (refine pN_geq_s ?_ ?_ <;> intro hc <;> try (exfalso; omega)) | refine pIf_f ?_ | fail)
    exact hQ _ (REnc.shut (b := b) (s := s) (st := ⟨st.N + v, st.R, st.k⟩) hS (by rw [hb, bytes_len]) rfl)

theorem widens_ok (hS : Sat E w (REnc b st :: M)) (r0 : 0 < st.R) (r1 : st.R < 4294967296) (hk : st.k + 10 ≤ 140737488355328) (hQ : ∀ w, Sat E w (REnc b st.widen :: M) → Q (.tuple #[]) w) : Calls Tryz.prog 114 #[.pointer (some ⟨b, 0, none⟩)] w (retP Q) := by
  refine pithref07_Encoder_widens.calls ?_
  unfold pithref07_Encoder_widens.F
  have hk3 := (R.widen_k _ st rfl r0).1
  refine ⟨fun w => ∃ t : R.S, t.widen = st.widen ∧ 0 < t.R ∧ t.R < 4294967296 ∧ Sat E w (REnc b t :: M), fun w => 4294967296 - wInt b 1 w, ⟨st, rfl, r0, r1, hS⟩, ?_⟩
  clear hS
  rintro _ w ⟨t, ht, t0, t1, hS⟩
  have hm := R.widen_mono t
  rw [ht] at hm
  obtain ⟨s, hS⟩ := REnc.opn hS
  have hb := bytes_len t
  have hw := wInt_eq (b := b) (i := 1) hS rfl
  repeat' (first | (refine pN_lss_s ?_ ?_ <;> intro hc <;> try (exfalso; omega)) | refine pIf_t ?_ | refine pIf_f ?_ | refine pN_l hS (by first | rfl | assumption) ?_ | (refine pN_s hS (by first | exact Nat.le_of_ble_eq_true rfl | assumption) (by rfl) ?_; clear hS; intro w hS; try simp only [List.set_cons_zero, List.set_cons_succ] at hS) | (refine pN_b1 hS (by rfl) (by decide) ?_; clear hS; intro s w hS) | (refine pN_app hS (by first | rfl | omega | simpa only [go_sem] using True.intro | (simp only [go_sem]; omega)) (by first | rfl | omega | simpa only [go_sem] using True.intro | (simp only [go_sem]; omega)) (by first | omega | (simp only [go_sem]; omega)) ?_; clear hS; intro s w hS) | refine pN_v (hk := ?_) | fail)
  · have e := R.digits_mul t.N (t.k + 5)
    have hw2 : wInt b 1 _ = _ := wInt_eq (b := b) (i := 1) hS rfl
    have hS := REnc.shut (b := b) (s := s) (st := ⟨t.N * 256, t.R * 256, t.k + 1⟩) hS (by simp <;> rfl) (by rw [R.S.bytes, R.S.bytes]; exact e.symm)
    refine ⟨⟨⟨t.N * 256, t.R * 256, t.k + 1⟩, ?_, ?_, ?_, hS.to⟩, ?_⟩
    · rw [← ht]; exact (R.S.widen_go t0 (by omega)).symm
    · show 0 < t.R * 256; omega
    · show t.R * 256 < 4294967296; omega
    · show 4294967296 - wInt b 1 _ < 4294967296 - wInt b 1 _
      rw [hw, hw2]; omega
  · rw [R.S.widen_no (by omega)] at ht
    subst ht
    exact hQ _ (REnc.shut (b := b) (s := s) hS rfl rfl)

theorem Rcut_ok (hS : Sat E w (REnc b st :: M)) (r1 : st.R < 4294967296) (hk : st.k + 10 ≤ 140737488355328) (c bit : Int) (c0 : 0 < c) (c1 : c < st.R) (hQ : ∀ w, Sat E w (REnc b (st.cut c bit) :: M) → Q (.tuple #[]) w) :
    Calls Tryz.prog 115 #[.pointer (some ⟨b, 0, none⟩), .int .u32 c, .int .i64 bit] w (retP Q) := by
  refine pithref07_Encoder_cut.calls ?_
  unfold pithref07_Encoder_cut.F
  refine ⟨fun w => Sat E w (REnc b (if bit = 0 then ⟨st.N, c, st.k⟩ else ⟨st.N + c, st.R - c, st.k⟩ : R.S) :: M), ?_, ?_⟩
  · by_cases h : bit = 0
    · rw [if_pos h]
      obtain ⟨s, hS⟩ := REnc.opn hS
      repeat' (first | (refine pN_eql_s ?_ ?_ <;> intro hc <;> try (exfalso; first | omega | exact hc rfl | exact hc (by assumption) | exact absurd hc (by assumption))) | refine pIf_t ?_ | (refine pN_s hS (by first | exact Nat.le_of_ble_eq_true rfl | assumption) (by rfl) ?_; clear hS; intro w hS; try simp only [List.set_cons_zero, List.set_cons_succ] at hS) | refine pN_v (hk := ?_) | fail)
      exact REnc.shut (b := b) (s := s) hS rfl rfl
    · rw [if_neg h]
      repeat' (first | (refine pc_pithref07_Encoder_adds (adds_ok hS (by omega) _ (by omega) (by omega) ?_); clear hS; intro w hS; obtain ⟨s, hS⟩ := REnc.opn hS) | (refine pN_eql_s ?_ ?_ <;> intro hc <;> try (exfalso; first | omega | exact hc rfl | exact hc (by assumption) | exact absurd hc (by assumption))) | refine pIf_f ?_ | refine pN_l hS (by first | rfl | assumption) ?_ | (refine pN_s hS (by first | exact Nat.le_of_ble_eq_true rfl | assumption) (by rfl) ?_; clear hS; intro w hS; try simp only [List.set_cons_zero, List.set_cons_succ] at hS) | refine pN_v (hk := ?_) | fail)
      exact REnc.shut (b := b) (s := s) hS rfl rfl
  · clear hS
    intro _ w hS
    refine pc_pithref07_Encoder_widens (widens_ok hS ?_ ?_ ?_ fun w hS => hQ w hS)
    · split
      · exact c0
      · show 0 < st.R - c; omega
    · split
      · show c < 4294967296; omega
      · show st.R - c < 4294967296; omega
    · split
      · exact hk
      · exact hk

theorem RBit_ok {p : Nat} {l : List Int} (hS : Sat E w (REnc b st :: RSet p l :: M)) (ho : R.Ok st) (hf : B.Fine l) (hk : st.k + 10 ≤ 140737488355328) (i bit : Int)
    (hQ : ∀ w, Sat E w (REnc b (if 0 ≤ i ∧ i < l.length then st.cut (B.bound st.R (l.getD i.toNat 0)) bit else st) :: RSet p (if 0 ≤ i ∧ i < l.length then l.set i.toNat (B.next (l.getD i.toNat 0) bit) else l) :: M) → Q (.int .i64 (if 0 ≤ i ∧ i < l.length then 0 else 7)) w) :
    Calls Tryz.prog 71 #[.pointer (some ⟨b, 0, none⟩), .pointer (some ⟨p, 0, none⟩), .int .i64 i, .int .i64 bit] w (retP Q) := by
  refine pithref07_Encoder_Bit.calls ?_
  unfold pithref07_Encoder_Bit.F
  refine pc_pithref06_Set_At (RAt_ok (hS.fd (RSet p)) i fun w hS => ?_)
  have r0 := ho.r0
  have r1 := ho.r1
  by_cases h : 0 ≤ i ∧ i < l.length
  · simp only [if_pos h] at hQ ⊢
    obtain ⟨x, hx⟩ : ∃ x, l[i.toNat]? = some x := ⟨l[i.toNat]'(by omega), by simp⟩
    have e : l.getD i.toNat 0 = x := by rw [List.getD_eq_getElem?_getD, hx]; rfl
    have hxf := hf.get hx
    rw [e] at hQ ⊢
    obtain ⟨s, hS⟩ := REnc.opn (hS.fd (REnc b))
    repeat' (first | (refine pN_neq_s ?_ ?_ <;> intro hc <;> try (exfalso; first | omega | exact hc rfl | exact hc (by assumption) | exact absurd hc (by assumption))) | refine pIf_f ?_ | refine pN_l hS (by first | rfl | assumption) ?_ | refine pN_v (hk := ?_) | fail)
    refine pc_pithref06_Bound (RBound_ok _ _ (by omega) (by omega) ?_)
    have hS := REnc.shut (b := b) (s := s) hS rfl rfl
    refine pc_pithref07_Encoder_cut (Rcut_ok hS (by omega) (by omega) _ bit (B.bound_pos r0 hxf.1) (B.bound_lt r0) fun w hS => ?_)
    refine pc_pithref06_Set_Turn (RTurn_ok (hS.fd (RSet p)) i bit fun w hS => ?_)
    simp only [if_pos h, e] at hS
    exact hQ _ hS.to
  · simp only [if_neg h] at hQ ⊢
    repeat' (first | (refine pN_neq_s ?_ ?_ <;> intro hc <;> try (exfalso; first | omega | exact hc rfl | exact hc (by assumption) | exact absurd hc (by assumption))) | refine pIf_t ?_ | refine pN_v (hk := ?_) | fail)
    exact hQ _ hS.to

theorem RBit_in {p : Nat} {l : List Int} (hS : Sat E w (REnc b st :: RSet p l :: M)) (ho : R.Ok st) (hf : B.Fine l) (hk : st.k + 10 ≤ 140737488355328) (i bit : Int) {x : Int} (h0 : 0 ≤ i) (hx : l[i.toNat]? = some x)
    (hQ : ∀ w, Sat E w (REnc b (st.cut (B.bound st.R x) bit) :: RSet p (l.set i.toNat (B.next x bit)) :: M) → Q (.int .i64 0) w) :
    Calls Tryz.prog 71 #[.pointer (some ⟨b, 0, none⟩), .pointer (some ⟨p, 0, none⟩), .int .i64 i, .int .i64 bit] w (retP Q) := by
  have hlt : i.toNat < l.length := (List.getElem?_eq_some_iff.1 hx).1
  refine RBit_ok hS ho hf hk i bit fun w hS => ?_
  have e : l.getD i.toNat 0 = x := by rw [List.getD_eq_getElem?_getD, hx]; rfl
  rw [if_pos (by omega), if_pos (by omega), e] at hS
  rw [if_pos (by omega)]
  exact hQ w hS

theorem RDirect_ok (hS : Sat E w (REnc b st :: M)) (ho : R.Ok st) (hk : st.k + 50 ≤ 140737488355328) (v n : Int) (v0 : 0 ≤ v) (v1 : v < 4294967296)
    (hQ : ∀ w, Sat E w (REnc b (if 0 ≤ n ∧ n ≤ 32 then st.direct v n.toNat else st) :: M) → Q (.int .i64 (if 0 ≤ n ∧ n ≤ 32 then 0 else 7)) w) :
    Calls Tryz.prog 70 #[.pointer (some ⟨b, 0, none⟩), .int .u32 v, .int .i64 n] w (retP Q) := by
  refine pithref07_Encoder_Direct.calls ?_
  unfold pithref07_Encoder_Direct.F
  by_cases h : 0 ≤ n ∧ n ≤ 32
  · simp only [if_pos h] at hQ ⊢
    repeat' (first | ((first | refine pN_lss_s ?_ ?_ | refine pN_gtr_s ?_ ?_) <;> intro hc <;> try (exfalso; omega)) | refine pIf_f ?_ | refine pGd_go (by rfl) ?_ | refine pN_v (hk := ?_) | fail)
    obtain ⟨m, rfl⟩ : ∃ m : Nat, n = m := ⟨n.toNat, by omega⟩
    rw [Int.toNat_natCast] at hQ
    refine ⟨fun i w => ∃ (j : Nat) (t : R.S), i = .int .i64 ((j : Int) - 1) ∧ j ≤ m ∧ R.Ok t ∧ t.k + j ≤ st.k + m ∧ t.direct v j = st.direct v m ∧ Sat E w (REnc b t :: M), fun i _ => (RowKit.intOf i + 1).toNat, ⟨m, st, rfl, by omega, ho, by omega, rfl, hS.to⟩, ?_⟩
    clear hS
    rintro _ _ w ⟨j, t, rfl, hj, hot, htk, htd, hS⟩
    have r0 := hot.r0
    have r1 := hot.r1
    by_cases hj0 : j = 0
    · subst hj0
      repeat' (first | (refine pN_geq_s ?_ ?_ <;> intro hc <;> try (exfalso; omega)) | refine pIf_f ?_ | fail)
      rw [← htd] at hQ
      exact hQ _ hS
    · obtain ⟨j, rfl⟩ : ∃ i, j = i + 1 := ⟨j - 1, by omega⟩
      rw [R.S.direct] at htd
      have hok := hot.one (v / 2 ^ j % 2)
      have hok1 := R.one_k hot (v / 2 ^ j % 2)
      rw [show ((j + 1 : Nat) : Int) - 1 = j from by omega]
      repeat' (first | (refine pN_geq_s ?_ ?_ <;> intro hc <;> try (exfalso; omega)) | refine pIf_t ?_ | fail)
      refine ⟨fun w => Sat E w (REnc b (t.one (v / 2 ^ j % 2)) :: M), ?_, ?_⟩
      · obtain ⟨s, hS⟩ := REnc.opn hS
        repeat' (first | refine pN_l hS (by first | rfl | assumption) ?_ | (refine pN_s hS (by first | exact Nat.le_of_ble_eq_true rfl | assumption) (by rfl) ?_; clear hS; intro w hS; try simp only [List.set_cons_zero, List.set_cons_succ] at hS) | refine pN_v (hk := ?_) | fail)
        refine ⟨fun w => Sat E w (REnc b (if v / 2 ^ j % 2 = 1 then ⟨t.N + t.R / 2, t.R / 2, t.k⟩ else ⟨t.N, t.R / 2, t.k⟩ : R.S) :: M), ?_, ?_⟩
        · have hv0 : 0 ≤ v / 2 ^ j := Int.ediv_nonneg v0 (Int.le_of_lt (Int.pow_pos (by omega)))
          refine pN_shr_k j rfl (by show _ ≤ 32; omega) ?_
          repeat' (first | (refine pN_eql_s ?_ ?_ <;> intro hc <;> try (exfalso; first | omega | exact hc rfl | exact hc (by assumption) | exact absurd hc (by assumption))) | refine pIf_t ?_ | refine pIf_f ?_ | refine pN_l hS (by first | rfl | assumption) ?_ | refine pN_v (hk := ?_) | fail)
          · rw [if_pos (by omega)]
            have hS := REnc.shut (b := b) (s := s) (st := ⟨t.N, t.R / 2, t.k⟩) hS rfl rfl
            refine pc_pithref07_Encoder_adds (adds_ok hS (by show t.k + 10 ≤ _; omega) _ (by omega) (by omega) fun w hS => hS)
          · rw [if_neg (by omega)]
            exact REnc.shut (b := b) (s := s) hS rfl rfl
        · clear hS
          intro _ w hS
          refine pc_pithref07_Encoder_widens (widens_ok hS ?_ ?_ ?_ fun w hS => hS)
          · split <;> (show 0 < t.R / 2; omega)
          · split <;> (show t.R / 2 < 4294967296; omega)
          · split <;> (show t.k + 10 ≤ _; omega)
      · clear hS
        intro _ w hS
        repeat' (first | refine pN_v (hk := ?_) | fail)
        exact ⟨⟨j, _, rfl, by omega, hok, by omega, htd, hS⟩, by simp [RowKit.intOf] <;> omega⟩
  · simp only [if_neg h] at hQ ⊢
    repeat' (first | ((first | refine pN_lss_s ?_ ?_ | refine pN_gtr_s ?_ ?_) <;> intro hc <;> try (exfalso; omega)) | refine pIf_t ?_ | refine pGd_go (by rfl) ?_ | refine pGd_no (by rfl) ?_ | refine pN_v (hk := ?_) | fail)
    all_goals exact hQ _ hS.to

theorem RSize_ok (hS : Sat E w (REnc b st :: M)) (hk : st.k ≤ 140737488355328) (hQ : ∀ w, Sat E w (REnc b st :: M) → Q (.int .i64 (st.k + 5 : Nat)) w) :
    Calls Tryz.prog 33 #[.pointer (some ⟨b, 0, none⟩)] w (retP Q) := by
  refine pithref07_Encoder_Size.calls ?_
  unfold pithref07_Encoder_Size.F
  obtain ⟨s, hS⟩ := REnc.opn hS
  repeat' (first | refine pN_l hS (by first | rfl | assumption) ?_ | refine pN_v (hk := ?_) | fail)
  exact hQ _ (REnc.shut (b := b) (s := s) hS rfl rfl)

theorem RBytes_ok (hS : Sat E w (REnc b st :: M)) (hk : st.k + 5 ≤ 140737488355328) (hQ : ∀ s w, Sat E w (rows cd_uint8 s st.bytes :: REnc b st :: M) → Q (.slice s.a st.bytes.length s.c) w) :
    Calls Tryz.prog 77 #[.pointer (some ⟨b, 0, none⟩)] w (retP Q) := by
  refine pithref07_Encoder_Bytes.calls ?_
  unfold pithref07_Encoder_Bytes.F
  obtain ⟨s0, hS⟩ := REnc.opn hS
  have hb := bytes_len st
  repeat' (first | refine pN_l hS (by first | rfl | assumption) ?_ | (refine pN_app0 hS (by first | rfl | omega | simpa only [go_sem] using True.intro | (simp only [go_sem]; omega)) (by first | omega | (simp only [go_sem]; omega)) ?_; clear hS; intro s w hS) | refine pN_v (hk := ?_) | fail)
  exact hQ s _ (REnc.shut (b := b) (s := s0) hS rfl rfl).to
end

end Go.Proofs.YtbgnnjfpiblkmaaGreatDoor

namespace Go.Proofs.YtbgnnjfpiblkmaaGreatDoor
open Go
attribute [local irreducible] oMv oV oU oCall oCallV oBi oBin oUn oLoad oStore oNil oFld oField oIdx oIndex oPick oAlloc oBox oBuild oBs oConv oMk oSl oExt oFn oIface oMap oLook oMapUp oRange oNext oEntry oInv oAssert oPanic oRes pN pA pL pDr pIf gA pGd

abbrev coderC (p : Z.Pr) (bw : Nat) (s : Z.St) (bm be : Nat) : List Value := [.int .i64 p.lc, .int .i64 p.lp, .int .i64 p.pb, pz bw, .int .i64 s.num, .int .i64 s.r0, .int .i64 s.r1, .int .i64 s.r2, .int .i64 s.r3, .map (some bm), pz be]
abbrev Cod (c : Nat) (p : Z.Pr) (bw : Nat) (s : Z.St) (bm be : Nat) : HA := cel c ⟨73, coderC p bw s bm be⟩
section
variable {E w : World} {M : List HA} {Q : Value → World → Prop} {bm be bw c : Nat} {N : Key → List Int} {n : Key} {p : Z.Pr} {s : Z.St} {x : Z.W}
theorem R14two_at {v : Int} (n : Nat) (h : v = n) (hn : n ≤ 32) (hQ : Q (.int .i64 (2 ^ n)) w) : Calls Tryz.prog 149 #[.int .i64 v] w (retP Q) := by
  subst h; exact R14two_ok n hn hQ
theorem R14Place_ok (hS : Sat E w (Cod c p bw s bm be :: RWin bw x :: M)) (hp : p.Ok) (hQ : ∀ w, Sat E w (Cod c p bw s bm be :: RWin bw x :: M) → Q (.int .i64 (Z.place p x.all.length)) w) :
    Calls Tryz.prog 107 #[pz c] w (retP Q) := by
  refine pithref14_Coder_Place.calls ?_
  unfold pithref14_Coder_Place.F
  obtain ⟨h1, h2, h3, h4, h5⟩ := hp
  obtain ⟨k, hk⟩ : ∃ k : Nat, p.pb = k := ⟨p.pb.toNat, by omega⟩
  have hS : Sat E w (RWin bw x :: Cod c p bw s bm be :: M) := hS.perm (List.Perm.swap _ _ _)
  obtain ⟨sl, hS⟩ := RWin.opn hS
  have hS : Sat E w (cel c ⟨73, [.int .i64 p.lc, .int .i64 p.lp, .int .i64 k, pz bw, .int .i64 s.num, .int .i64 s.r0, .int .i64 s.r1, .int .i64 s.r2, .int .i64 s.r3, .map (some bm), pz be]⟩ :: cel bw ⟨193, [.int .i64 x.size, .slice sl.a x.all.length sl.c]⟩ :: rows cd_uint8 sl x.all :: M) := by
    rw [← hk]; exact hS.to
  have hp0 : (0 : Int) < 2 ^ k := Int.pow_pos (by omega)
  unfold Z.place at hQ
  rw [show p.pb.toNat = k from by omega] at hQ
  repeat' (first | (refine pc_pithref14_two (R14two_ok k (by omega) ?_)) | refine And.intro ?_ ?_ | exact trivial | exact run_l hS rfl | refine pL_l hS (by first | rfl | assumption) ?_ | (refine pDr_go hS ?_; clear hS; intro w hS) | refine pA_v (hk := ?_) | fail)
  rw [← hk] at hS
  have hS3 : Sat E _ (cel bw ⟨193, [.int .i64 x.size, .slice sl.a x.all.length sl.c]⟩ :: rows cd_uint8 sl x.all :: Cod c p bw s bm be :: M) := hS.to
  exact hQ _ ((RWin.shut (x := x) (s := sl) hS3).perm (List.Perm.swap _ _ _))
set_option maxRecDepth 8000 in
theorem R14Literal_ok {st : Z.St} (hS : Sat E w (Cod c p bw st bm be :: RWin bw x :: M)) (hp : p.Ok) (hl : x.all.length ≤ 140737488355328) (b : UInt8) (hb : b = (x.all.getLast?).getD 0)
    (hQ : ∀ w, Sat E w (Cod c p bw st bm be :: RWin bw x :: M) → Q (.string ⟨(Z.nm [76, 105, 116, 101, 114, 97, 108] [x.all.length % 2 ^ p.lp.toNat * 2 ^ p.lc.toNat + (b.toNat : Int) / 2 ^ (8 - p.lc).toNat]).toArray⟩) w) :
    Calls Tryz.prog 151 #[pz c] w (retP Q) := by
  refine pithref14_Coder_Literal.calls ?_
  unfold pithref14_Coder_Literal.F
  obtain ⟨h1, h2, h3, h4, h5⟩ := hp
  obtain ⟨kc, hkc⟩ : ∃ k : Nat, p.lc = k := ⟨p.lc.toNat, by omega⟩
  obtain ⟨kp, hkp⟩ : ∃ k : Nat, p.lp = k := ⟨p.lp.toNat, by omega⟩
  obtain ⟨k8, hk8⟩ : ∃ k : Nat, 8 - (kc : Int) = k := ⟨(8 - (kc : Int)).toNat, by omega⟩
  have hS : Sat E w (RWin bw x :: Cod c p bw st bm be :: M) := hS.perm (List.Perm.swap _ _ _)
  obtain ⟨sl, hS⟩ := RWin.opn hS
  have hS : Sat E w (cel c ⟨73, [.int .i64 kc, .int .i64 kp, .int .i64 p.pb, pz bw, .int .i64 st.num, .int .i64 st.r0, .int .i64 st.r1, .int .i64 st.r2, .int .i64 st.r3, .map (some bm), pz be]⟩ :: cel bw ⟨193, [.int .i64 x.size, .slice sl.a x.all.length sl.c]⟩ :: rows cd_uint8 sl x.all :: M) := by
    rw [← hkc, ← hkp]; exact hS.to
  refine ⟨fun v w => v = .int .i64 b.toNat ∧ Sat E w (cel c ⟨73, [.int .i64 kc, .int .i64 kp, .int .i64 p.pb, pz bw, .int .i64 st.num, .int .i64 st.r0, .int .i64 st.r1, .int .i64 st.r2, .int .i64 st.r3, .map (some bm), pz be]⟩ :: cel bw ⟨193, [.int .i64 x.size, .slice sl.a x.all.length sl.c]⟩ :: rows cd_uint8 sl x.all :: M), ?_, ?_⟩
  · by_cases h0 : x.all = []
    · have e0 : x.all.length = 0 := by rw [h0]; rfl
      repeat' (first | (refine pN_gtr_s ?_ ?_ <;> intro hc <;> try (exfalso; omega)) | refine pIf_f ?_ | refine pN_l hS (by first | rfl | assumption) ?_ | refine pN_v (hk := ?_) | fail)
      exact ⟨by rw [hb, h0]; rfl, hS⟩
    · have e0 : 0 < x.all.length := List.length_pos_iff.2 h0
      have hbc : ∀ (k : Nat) (y : UInt8), x.all[k]? = some y → k = x.all.length - 1 → y = b := fun k y g1 g2 => by
        rw [g2] at g1; rw [hb, List.getLast?_eq_getElem?, g1]; rfl
      repeat' (first | (refine pN_gtr_s ?_ ?_ <;> intro hc <;> try (exfalso; omega)) | refine pIf_t ?_ | refine pL_ofb ?_ | refine pN_l hS (by first | rfl | assumption) ?_ | refine pL_l hS (by first | rfl | assumption) ?_ | refine pL_ld1 ha hS ?_ | (refine pDr_go hS ?_; clear hS; intro w hS) | refine pA_ix hS _ (by first | rfl | (exact (Int.toNat_of_nonneg (by omega)).symm)) (by first | rfl | omega | simpa only [go_sem] using True.intro | (simp only [go_sem]; omega)) (by first | omega | (simp only [go_sem]; omega)) fun a x hx ha hel => ?_ | refine pN_v (hk := ?_) | refine pA_v (hk := ?_) | fail)
      have hbe := hbc _ _ (by assumption) (by omega)
      subst hbe
      exact ⟨rfl, hS⟩
  · clear hS
    rintro _ _ w ⟨rfl, hS⟩
    have b8 : k8 ≤ 32 := by omega
    have bp : kp ≤ 32 := by omega
    have bc : kc ≤ 32 := by omega
    have hpp : (2 : Int) ^ kp ≤ 2 ^ 4 := two_le' (by omega)
    have hpp0 : (0 : Int) < 2 ^ kp := Int.pow_pos (by omega)
    have hpc : (2 : Int) ^ kc ≤ 2 ^ 4 := two_le' (by omega)
    have hpc0 : (0 : Int) < 2 ^ kc := Int.pow_pos (by omega)
    have e4 : (2 : Int) ^ 4 = 16 := by decide
    have hp8 : (0 : Int) < 2 ^ k8 := Int.pow_pos (by omega)
    have hb0 := Int.emod_nonneg (x.all.length : Int) (show (2 : Int) ^ kp ≠ 0 by omega)
    have hb1 := Int.emod_lt_of_pos (x.all.length : Int) hpp0
    have hx0 : 0 ≤ (x.all.length : Int) % 2 ^ kp * 2 ^ kc := Int.mul_nonneg hb0 (by omega)
    have hx1 : (x.all.length : Int) % 2 ^ kp * 2 ^ kc ≤ 16 * 16 := Int.mul_le_mul (by omega) (by omega) (by omega) (by omega)
    have hy0 : 0 ≤ (b.toNat : Int) / 2 ^ k8 := Int.ediv_nonneg (by omega) (by omega)
    have hy1 : (b.toNat : Int) / 2 ^ k8 ≤ b.toNat := Int.ediv_le_self _ (by omega)
    have hbl : b.toNat < 256 := b.toNat_lt
    repeat' (first | (refine pc_pithref14_two (R14two_at k8 hk8 b8 ?_)) | (refine pc_pithref14_two (R14two_at kp rfl bp ?_)) | (refine pc_pithref14_two (R14two_at kc rfl bc ?_)) | refine And.intro ?_ ?_ | exact trivial | exact run_l hS rfl | refine pL_l hS (by first | rfl | assumption) ?_ | (refine pDr_go hS ?_; clear hS; intro w hS) | (refine pN_b1 hS (by rfl) (by decide) ?_; clear hS; intro s w hS) | refine pA_v (hk := ?_) | fail)
    have q1 : (b.toNat : Int) / 2 ^ k8 < 2 ^ kc := by
      refine Int.ediv_lt_of_lt_mul hp8 ?_
      rw [← Int.pow_add, show kc + k8 = 8 from by omega]
      have : (2 : Int) ^ 8 = 256 := by decide
      omega
    have q2 : (x.all.length : Int) % 2 ^ kp * 2 ^ kc ≤ (2 ^ kp - 1) * 2 ^ kc := Int.mul_le_mul_of_nonneg_right (by omega) (by omega)
    rw [Int.sub_mul, ← Int.pow_add, Int.one_mul] at q2
    have q3 : (2 : Int) ^ (kp + kc) ≤ 2 ^ 4 := two_le' (by omega)
    have e : ∀ v : Int, v = (x.all.length : Int) % 2 ^ kp * 2 ^ kc + (b.toNat : Int) / 2 ^ k8 → 0 ≤ v ∧ v < 100 := fun v hv => by omega
    refine pc_pithref14_name (R14name_ok [76, 105, 116, 101, 114, 97, 108] [_] hS (fun i hi => ?_) (by simp) fun w hS => ?_)
    · rw [List.mem_singleton] at hi
      exact e i hi
    · rw [show p.lp.toNat = kp from by omega, show p.lc.toNat = kc from by omega, show (8 - p.lc).toNat = k8 from by omega] at hQ
      rw [← hkc, ← hkp] at hS
      have hS3 : Sat E _ (cel bw ⟨193, [.int .i64 x.size, .slice sl.a x.all.length sl.c]⟩ :: rows cd_uint8 sl x.all :: cel c ⟨73, [.int .i64 p.lc, .int .i64 p.lp, .int .i64 p.pb, pz bw, .int .i64 st.num, .int .i64 st.r0, .int .i64 st.r1, .int .i64 st.r2, .int .i64 st.r3, .map (some bm), pz be]⟩ :: M) := hS.to
      exact hQ _ ((RWin.shut (x := x) (s := sl) hS3).perm (List.Perm.swap _ _ _))
end
end Go.Proofs.YtbgnnjfpiblkmaaGreatDoor

namespace Go.Proofs.YtbgnnjfpiblkmaaGreatDoor
open Go
namespace Z

def nbOf (w : Pre) (x : PB) : NB := if x.t = 18 then ⟨[], 0, x.b⟩ else ⟨nameU w (un x.t x.i.toNat), pl x.t x.i.toNat, x.b⟩
theorem nb_bit (w : Pre) {t : Nat} (ht : t ≠ 18) (i b : Int) : nbOf w ⟨t, i, b⟩ = ⟨nameU w (un t i.toNat), pl t i.toNat, b⟩ := if_neg ht
theorem nb_tree (w : Pre) {s : List UInt8} {bs : Nat → Int} (hb : ∀ k, 0 ≤ bs k ∧ bs k ≤ 1) {n t : Nat} {a : Int} (ht : t ≠ 18) (h : ∀ j : Int, 1 ≤ j → j < 2 ^ n → nameU w (un t (a + j).toNat) = s ∧ (pl t (a + j).toNat : Int) = j) : nb s bs n = (treeBits t a bs n).map (nbOf w) := by
  rw [nb, treeBits, List.map_map]
  refine List.map_congr_left fun k hk => ?_
  have hk := List.mem_range.1 hk
  have h1 := R.node_lo hb k
  have h3 : (2 : Int) ^ (k + 1) ≤ 2 ^ n := two_le' (by omega)
  obtain ⟨e1, e2⟩ := h (R.node bs k) (by omega) (by omega)
  rw [Function.comp_apply, nb_bit w ht, e1, e2]

theorem At.nb {w : Pre} {p : Pr} {s : List UInt8} {j : Int} {t : Nat} {i : Int} (h : At w p s j t i) (b : Int) : nbOf w ⟨t, i, b⟩ = ⟨s, j, b⟩ := by
  have := h.ht
  rw [nb_bit w (by omega), h.hs, h.hj]
theorem nb_at (w : Pre) {p : Pr} {s : List UInt8} {bs : Nat → Int} (hb : ∀ k, 0 ≤ bs k ∧ bs k ≤ 1) {n t : Nat} {a : Int} (ht : t ≠ 18) (h : ∀ j : Int, 1 ≤ j → j < 2 ^ n → At w p s j t (a + j)) : (treeBits t a bs n).map (nbOf w) = nb s bs n :=
  (nb_tree w hb ht fun j h0 h1 => ⟨(h j h0 h1).hs, (h j h0 h1).hj⟩).symm

end Z
end Go.Proofs.YtbgnnjfpiblkmaaGreatDoor
