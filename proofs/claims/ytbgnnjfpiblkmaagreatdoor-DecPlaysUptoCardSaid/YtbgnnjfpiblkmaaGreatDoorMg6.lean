/-
  Texts of one proof, one behind the other: Sim, ZRd, ZSymR, Ref13, Map, NSets, Lay171, Itoa, ZNm, Ref14, LfPithref06, Ref6, RefSets, LfPithref07, Ref7, Ref14C, ZNb, Ref14D, ZNs, Ref14E, LfLzenc, LfTree, LfRcenc, Rcenc, Tree, LzCode, LzSym, LzSym2, LzSink, Lz, Ref14F, Ref14G, ZDec, ZRdQ, ZNq.
-/
import Derived.Maps.Range
import Derived.Shelf.Strconv.Itoa0
import Derived.Shelf.Strconv.Itoa1
import Derived.Shelf.Strconv.Itoa2
import Derived.Shelf.Strconv.Itoa3
import Derived.Test.YtbgnnjfpiblkmaaGreatDoorRows
import Derived.Test.YtbgnnjfpiblkmaaGreatDoorMg5
set_option linter.unusedSimpArgs false
set_option linter.unnecessarySimpa false
set_option linter.unusedSectionVars false
set_option linter.unusedVariables false

namespace Go.Proofs.YtbgnnjfpiblkmaaGreatDoor
open Go

namespace D
structure Sim (n : Nat) (c d : S) : Prop where
  b : c.b = d.b.take n
  k : c.k = d.k
  R : c.R = d.R
  C : c.C = d.C
theorem Sim.widen {n : Nat} {c d t : S} (h : Sim n c d) (e : c.widen = some t) : ∃ t', d.widen = some t' ∧ Sim n t t' := by
  obtain ⟨h1, h2, h3, h4⟩ := h
  unfold S.widen at *
  rw [h3] at e
  split at e
  · rename_i hr
    cases e
    rw [if_pos hr]
    exact ⟨d, rfl, ⟨h1, h2, h3, h4⟩⟩
  · rename_i hr
    rw [if_neg hr]
    cases hx : c.b[c.k]? with
    | none => rw [hx] at e; cases e
    | some x =>
      rw [hx] at e
      cases e
      rw [h1, h2, List.getElem?_take] at hx
      split at hx
      · rw [hx]
        exact ⟨_, rfl, ⟨h1, by simp only [h2], rfl, by simp only [h4]⟩⟩
      · cases hx
theorem Sim.cut {n : Nat} {c d : S} (h : Sim n c d) (x : Int) : Sim n (c.cut x) (d.cut x) := by
  obtain ⟨h1, h2, h3, h4⟩ := h
  unfold S.cut
  rw [h4]
  split
  · exact ⟨h1, h2, rfl, rfl⟩
  · exact ⟨h1, h2, by simp only [h3], rfl⟩
theorem Sim.one {n : Nat} {c d : S} (h : Sim n c d) : Sim n c.one d.one := by
  obtain ⟨h1, h2, h3, h4⟩ := h
  unfold S.one
  rw [h4, h3]
  split
  · exact ⟨h1, h2, rfl, rfl⟩
  · exact ⟨h1, h2, rfl, rfl⟩
theorem Sim.bitAt {n : Nat} {c d : S} (h : Sim n c d) (x : Int) : c.bitAt x = d.bitAt x := by unfold S.bitAt; rw [h.C]
theorem Sim.bit {n : Nat} {c d t : S} {x v : Int} (h : Sim n c d) (e : c.bit x = .ok t v) : ∃ t', d.bit x = .ok t' v ∧ Sim n t t' := by
  unfold S.bit at *
  split at e
  · rename_i t' ht
    cases e
    obtain ⟨t2, h2, h3⟩ := (h.cut x).widen ht
    rw [h2]
    exact ⟨t2, by rw [h.bitAt x], h3⟩
  · cases e
theorem Sim.direct {n : Nat} : ∀ (m : Nat) {c d t : S} {v u : Int}, Sim n c d → c.direct v m = .ok t u → ∃ t', d.direct v m = .ok t' u ∧ Sim n t t'
  | 0, c, d, t, v, u, h, e => by cases e; exact ⟨d, rfl, h⟩
  | m + 1, c, d, t, v, u, h, e => by
    simp only [S.direct] at *
    rw [h.one.R, h.one.C] at e
    split at e
    · cases e
    · rename_i hle
      rw [if_neg hle]
      split at e
      · cases e
      · rename_i t1 ht
        obtain ⟨t2, h2, h3⟩ := h.one.widen ht
        rw [h2]
        rw [h.R, h.bitAt] at e
        exact Sim.direct m h3 e
end D

end Go.Proofs.YtbgnnjfpiblkmaaGreatDoor

namespace Go.Proofs.YtbgnnjfpiblkmaaGreatDoor
open Go
namespace Z

inductive Rd (α : Type)
  | ret (a : α)
  | bit (t : Nat) (i : Int) (k : Int → Rd α)
section
variable {α β γ : Type}
def Rd.bind : Rd α → (α → Rd β) → Rd β
  | .ret a, f => f a
  | .bit t i k, f => .bit t i fun b => (k b).bind f
def Rd.map (f : α → β) (r : Rd α) : Rd β := r.bind fun a => .ret (f a)
def Rd.Ok (p : Pr) : Rd α → Prop
  | .ret _ => True
  | .bit t i k => (t = 18 ∨ t < 18 ∧ 0 ≤ i ∧ i < tabLen p t) ∧ ∀ b, b = 0 ∨ b = 1 → (k b).Ok p
def Rd.path : Rd α → α → List PB → Prop
  | .ret a, v, l => v = a ∧ l = []
  | .bit t i k, v, l => ∃ b m, (b = 0 ∨ b = 1) ∧ l = ⟨t, i, b⟩ :: m ∧ (k b).path v m
theorem Rd.Ok.bind {p : Pr} {f : α → Rd β} : ∀ {r : Rd α}, r.Ok p → (∀ a m, r.path a m → (f a).Ok p) → (r.bind f).Ok p
  | .ret a, _, hf => hf a [] ⟨rfl, rfl⟩
  | .bit t i k, h, hf => ⟨h.1, fun b hb => (h.2 b hb).bind fun a m hp => hf a (⟨t, i, b⟩ :: m) ⟨b, m, hb, rfl, hp⟩⟩
theorem Rd.Ok.map {p : Pr} {f : α → β} {r : Rd α} (h : r.Ok p) : (r.map f).Ok p := h.bind fun _ _ _ => trivial
theorem Rd.path_bind {f : α → Rd β} {v : β} : ∀ (r : Rd α) {l : List PB}, (r.bind f).path v l ↔ ∃ a m n, r.path a m ∧ (f a).path v n ∧ l = m ++ n
  | .ret a, l => ⟨fun h => ⟨a, [], l, ⟨rfl, rfl⟩, h, rfl⟩, fun ⟨_, _, _, ⟨h1, h2⟩, h3, h4⟩ => by subst h1; subst h2; subst h4; exact h3⟩
  | .bit t i k, l => by
    constructor
    · rintro ⟨b, m, hb, rfl, h⟩
      obtain ⟨a, m1, n, h1, h2, rfl⟩ := (path_bind (k b)).1 h
      exact ⟨a, _, n, ⟨b, m1, hb, rfl, h1⟩, h2, rfl⟩
    · rintro ⟨a, _, n, ⟨b, m, hb, rfl, h1⟩, h2, rfl⟩
      exact ⟨b, m ++ n, hb, rfl, (path_bind (k b)).2 ⟨a, m, n, h1, h2, rfl⟩⟩
theorem Rd.path_map {f : α → β} {v : β} {r : Rd α} {l : List PB} : (r.map f).path v l ↔ ∃ a, r.path a l ∧ v = f a := by
  rw [Rd.map, Rd.path_bind]
  constructor
  · rintro ⟨a, m, n, h1, ⟨rfl, rfl⟩, rfl⟩
    exact ⟨a, by rwa [List.append_nil], rfl⟩
  · rintro ⟨a, h1, rfl⟩
    exact ⟨a, l, [], h1, ⟨rfl, rfl⟩, (List.append_nil l).symm⟩
theorem Rd.Ok.path {p : Pr} {v : α} : ∀ {r : Rd α} {l : List PB}, r.Ok p → r.path v l → ∀ x ∈ l, x.Ok p
  | .ret a, l, _, ⟨_, e⟩, x, hx => by subst e; cases hx
  | .bit t i k, l, h, ⟨b, m, hb, e, h1⟩, x, hx => by
    subst e
    rcases List.mem_cons.1 hx with rfl | hx
    · exact ⟨by rcases hb with rfl | rfl <;> simp, h.1⟩
    · exact (h.2 b hb).path h1 x hx

structure RS where
  d : D.S
  T : Nat → List Int
structure RS.Ok (p : Pr) (z : RS) : Prop where
  d : D.Ok z.d
  T : TabOk p z.T
def RS.ask (z : RS) (t : Nat) (i : Int) : Option (RS × Int) :=
  if t = 18 then match z.d.direct 0 1 with
    | .ok d v => some (⟨d, z.T⟩, v)
    | .no _ => none
  else match z.d.bit (B.bound z.d.R ((z.T t).getD i.toNat 0)) with
    | .ok d v => some (⟨d, upd z.T t ((z.T t).set i.toNat (B.next ((z.T t).getD i.toNat 0) v))⟩, v)
    | .no _ => none
def Rd.run : Rd α → RS → Option (RS × α)
  | .ret a, z => some (z, a)
  | .bit t i k, z => match z.ask t i with
    | none => none
    | some (y, b) => (k b).run y
theorem Rd.run_bind {f : α → Rd β} : ∀ (r : Rd α) (z : RS), (r.bind f).run z = match r.run z with
    | none => none
    | some (y, a) => (f a).run y
  | .ret a, z => rfl
  | .bit t i k, z => by
    simp only [Rd.bind, Rd.run]
    cases z.ask t i with
    | none => rfl
    | some yb => exact run_bind (k yb.2) yb.1
def Rd.get (r : Rd α) : Option RS → Option (RS × α)
  | none => none
  | some z => r.run z
def Got (r : Rd α) (z y : Option RS) (v : α) : Prop := r.get z = y.map fun s => (s, v)
theorem Got.ret (z : Option RS) (a : α) : Got (.ret a) z z a := by cases z <;> rfl
theorem Got.bind {r : Rd α} {f : α → Rd β} {z y x : Option RS} {a : α} {b : β} (h1 : Got r z y a) (h2 : Got (f a) y x b) : Got (r.bind f) z x b := by
  unfold Got at *
  cases z with
  | none =>
    cases y with
    | none => exact h2
    | some y => cases h1
  | some z =>
    show (r.bind f).run z = _
    rw [Rd.run_bind, show r.run z = r.get (some z) from rfl, h1]
    cases y with
    | none => exact h2
    | some y => exact h2
theorem Got.map {r : Rd α} {f : α → β} {z y : Option RS} {a : α} (h : Got r z y a) : Got (r.map f) z y (f a) := h.bind (Got.ret _ _)
theorem Got.bit {t : Nat} {i : Int} {k : Int → Rd α} {z y x : Option RS} {b : Int} {v : α} (h1 : Got (.bit t i .ret) z y b) (h2 : Got (k b) y x v) : Got (.bit t i k) z x v := Got.bind (r := .bit t i .ret) h1 h2
theorem ask_01 {z y : RS} {t : Nat} {i b : Int} (h : z.ask t i = some (y, b)) : b = 0 ∨ b = 1 := by
  unfold RS.ask at h
  split at h
  · split at h
    · rename_i d v e
      cases h
      simp only [D.S.direct] at e
      split at e
      · cases e
      · split at e
        · cases e
        · cases e
          have := D.bitAt_01 z.d (z.d.R / 2)
          omega
    · cases h
  · split at h
    · rename_i d v e
      cases h
      unfold D.S.bit at e
      split at e
      · cases e; exact D.bitAt_01 _ _
      · cases e
    · cases h

theorem tab_mid {p : Pr} {T : Nat → List Int} (hT : TabOk p T) {R : Int} (hR : 16777216 ≤ R) {t : Nat} {i : Int} (h : t < 18 ∧ 0 ≤ i ∧ i < tabLen p t) :
    65536 ≤ B.bound R ((T t).getD i.toNat 0) ∧ 65536 ≤ R - B.bound R ((T t).getD i.toNat 0) := by
  have hl := hT.len t h.1
  have hx : (T t)[i.toNat]? = some ((T t).getD i.toNat 0) := by
    rw [List.getD_eq_getElem?_getD, List.getElem?_eq_getElem (show i.toNat < (T t).length by omega)]; rfl
  have hp := (hT.fine t).get hx
  exact D.bound_mid hR hp.1 hp.2
theorem ask_ok {p : Pr} {z y : RS} (hz : z.Ok p) {t : Nat} {i b : Int} (ht : t = 18 ∨ t < 18 ∧ 0 ≤ i ∧ i < tabLen p t) (h : z.ask t i = some (y, b)) : y.Ok p ∧ y.d.b = z.d.b := by
  have h01 := ask_01 h
  unfold RS.ask at h
  split at h
  · split at h
    · rename_i d v e
      cases h
      obtain ⟨o1, o2⟩ := D.Ok.direct 1 hz.d e
      exact ⟨⟨o1, hz.T⟩, o2⟩
    · cases h
  · rename_i hne
    have ht := ht.resolve_left hne
    split at h
    · rename_i d v e
      cases h
      have hm := tab_mid hz.T hz.d.r0 ht
      obtain ⟨o1, o2, _⟩ := hz.d.bit hm.1 hm.2 e
      refine ⟨⟨o1, ?_⟩, o2⟩
      have hs := (step_ok (z := ⟨R.S.new, z.T⟩) ⟨R.Ok.new, hz.T⟩ (x := ⟨t, i, b⟩) ⟨by rcases h01 with rfl | rfl <;> simp, .inr ht⟩).1.T
      simp only [stepB, turn, if_neg hne, pr] at hs
      exact hs
    · cases h
theorem Rd.run_ok {p : Pr} {v : α} : ∀ {r : Rd α} {z y : RS}, r.Ok p → z.Ok p → r.run z = some (y, v) → y.Ok p ∧ y.d.b = z.d.b
  | .ret a, z, y, _, hz, h => by cases h; exact ⟨hz, rfl⟩
  | .bit t i k, z, y, hr, hz, h => by
    simp only [Rd.run] at h
    cases e : z.ask t i with
    | none => rw [e] at h; cases h
    | some xb =>
      rw [e] at h
      obtain ⟨h1, h2⟩ := ask_ok hz hr.1 e
      obtain ⟨h3, h4⟩ := run_ok (hr.2 _ (ask_01 e)) h1 h
      exact ⟨h3, h4.trans h2⟩

theorem direct_1 (d : D.S) : d.direct 0 1 = if d.one.R ≤ d.one.C then .no 2 else match d.one.widen with
    | none => .no 1
    | some t => .ok t (d.bitAt (d.R / 2)) := by
  simp only [D.S.direct]
  split
  · rfl
  · cases d.one.widen with
    | none => rfl
    | some t => simp only [Int.mul_zero, Int.zero_add]

structure Twin (b : List UInt8) (s : R.S) (d : D.S) : Prop where
  hb : d.b = b
  k : d.k = s.k + 5
  n : R.num (b.take d.k) = s.N + d.C
  R : d.R = s.R
theorem Twin.widen {b : List UInt8} {s : R.S} {d t : D.S} (h : Twin b s d) (h0 : 65536 ≤ s.R) (e : d.widen = some t) : Twin b s.widen t := by
  obtain ⟨h1, h2, h4, h3⟩ := h
  unfold D.S.widen at e
  rw [h3] at e
  split at e
  · rename_i hr
    cases e
    rw [R.S.widen_no (by omega)]
    exact ⟨h1, h2, h4, h3⟩
  · rename_i hr
    split at e
    · cases e
    · rename_i x hx
      cases e
      rw [R.S.widen_go (by omega) (by omega), R.S.widen_no (show ¬ s.R * 256 < 16777216 by omega)]
      refine ⟨h1, by simp only; omega, ?_, rfl⟩
      rw [h1] at hx
      simp only
      rw [List.take_add_one, hx, Option.toList_some, R.num_snoc, h4]
      omega
theorem Twin.bit {b : List UInt8} {s : R.S} {d t : D.S} (h : Twin b s d) {c v : Int} (c0 : 65536 ≤ c) (c1 : 65536 ≤ s.R - c) (e : d.bit c = .ok t v) : Twin b (s.cut c v) t := by
  obtain ⟨h1, h2, h4, h3⟩ := h
  unfold D.S.bit at e
  split at e
  · rename_i t' ht
    cases e
    unfold D.S.bitAt
    unfold D.S.cut at ht
    by_cases hlt : d.C < c
    · rw [if_pos hlt] at ht ⊢
      rw [R.S.cut, if_pos rfl]
      exact Twin.widen (s := ⟨s.N, c, s.k⟩) (d := ⟨d.b, d.k, c, d.C⟩) ⟨h1, h2, h4, rfl⟩ c0 ht
    · rw [if_neg hlt] at ht ⊢
      rw [R.S.cut, if_neg (by decide)]
      exact Twin.widen (s := ⟨s.N + c, s.R - c, s.k⟩) (d := ⟨d.b, d.k, d.R - c, d.C - c⟩) ⟨h1, h2, by simp only [h4]; omega, by simp only [h3]⟩ c1 ht
  · cases e
theorem Twin.one {b : List UInt8} {s : R.S} {d t : D.S} (h : Twin b s d) (h0 : 16777216 ≤ s.R) {v : Int} (e : d.direct 0 1 = .ok t v) : Twin b (s.one v) t := by
  obtain ⟨h1, h2, h4, h3⟩ := h
  rw [direct_1] at e
  split at e
  · cases e
  · split at e
    · cases e
    · rename_i t' ht
      cases e
      unfold D.S.bitAt
      unfold D.S.one at ht
      rw [h3] at ht ⊢
      by_cases hlt : d.C < s.R / 2
      · rw [if_pos hlt] at ht ⊢
        rw [R.S.one, if_neg (by decide)]
        exact Twin.widen (s := ⟨s.N, s.R / 2, s.k⟩) (d := ⟨d.b, d.k, s.R / 2, d.C⟩) ⟨h1, h2, h4, rfl⟩ (by simp only; omega) ht
      · rw [if_neg hlt] at ht ⊢
        rw [R.S.one, if_pos rfl]
        exact Twin.widen (s := ⟨s.N + s.R / 2, s.R / 2, s.k⟩) (d := ⟨d.b, d.k, s.R / 2, d.C - s.R / 2⟩) ⟨h1, h2, by simp only [h4]; omega, rfl⟩ (by simp only; omega) ht

end

end Z
end Go.Proofs.YtbgnnjfpiblkmaaGreatDoor

namespace Go.Proofs.YtbgnnjfpiblkmaaGreatDoor
open Go
namespace Z

def bitsRd (t : Nat) (at_ : Int) : Nat → List Int → Rd (List Int)
  | 0, l => .ret l
  | n + 1, l => .bit t (at_ + R.nodeL l) fun b => bitsRd t at_ n (l ++ [b])
def treeRd (back : Bool) (t : Nat) (at_ : Int) (n : Nat) : Rd Int := (bitsRd t at_ n []).map (R.val back)
def dirRd : Nat → Int → Rd Int
  | 0, v => .ret v
  | n + 1, v => .bit 18 0 fun b => dirRd n (2 * v + b)
def litGoRd (f t : Int) : Nat → Int → Bool → Rd Int
  | 0, m, _ => .ret (m - 256)
  | i + 1, m, same => .bit 6 (f + m + (if same then 256 * (1 + t / 2 ^ i % 2) else 0)) fun b => litGoRd f t i (2 * m + b) (same && decide (b = t / 2 ^ i % 2))
def litRd (p : Pr) (s : St) (x : W) : Rd Int :=
  if s.num < 7 then treeRd false 6 (context p x.all.length (lastOr x 1).toNat) 8 else litGoRd (context p x.all.length (lastOr x 1).toNat) (lastOr x s.r0).toNat 8 1 true
def lenRd (c : Nat) (p : Pr) (pos : Int) : Rd Int :=
  .bit c 0 fun b => if b = 0 then (treeRd false (c + 1) (8 * place p pos) 3).map fun v => 2 + v
    else .bit c 1 fun b => if b = 0 then (treeRd false (c + 2) (8 * place p pos) 3).map fun v => 10 + v else (treeRd false (c + 3) 0 8).map fun v => 18 + v
def distRd (n : Int) : Rd Int :=
  (treeRd false 15 (64 * min (n - 2) 3) 6).bind fun s => if s < 4 then .ret (least s)
    else if s < 14 then (treeRd true 16 (restAt s) (bitsN s)).map fun v => least s + v
    else (dirRd (bitsN s - 4) 0).bind fun h => (treeRd true 17 0 4).map fun v => least s + h * 16 + v
def repRd (p : Pr) (pos : Int) (d : Int) : Rd Y := (lenRd 11 p pos).map fun n => ⟨3, 0, n, d⟩
def symRd (p : Pr) (s : St) (x : W) : Rd Y :=
  .bit 0 (s.num * 16 + place p x.all.length) fun b => if b = 0 then (litRd p s x).map fun m => ⟨1, byteOf m, 0, 0⟩
  else .bit 2 s.num fun b => if b = 0 then (lenRd 7 p x.all.length).bind fun n => (distRd n).map fun d => ⟨2, 0, n, d⟩
  else .bit 3 s.num fun b => if b = 0 then .bit 1 (s.num * 16 + place p x.all.length) fun b => if b = 0 then .ret ⟨4, 0, 0, 0⟩ else repRd p x.all.length 0
  else .bit 4 s.num fun b => if b = 0 then repRd p x.all.length 1
  else .bit 5 s.num fun b => repRd p x.all.length (2 + b)

def pbs (t : Nat) (at_ : Int) : List Int → List Int → List PB
  | _, [] => []
  | l, b :: bs => ⟨t, at_ + R.nodeL l, b⟩ :: pbs t at_ (l ++ [b]) bs
theorem pbs_snoc (t : Nat) (at_ b : Int) : ∀ bs l, pbs t at_ l (bs ++ [b]) = pbs t at_ l bs ++ [⟨t, at_ + R.nodeL (l ++ bs), b⟩]
  | [], l => by simp [pbs]
  | c :: bs, l => by simp only [List.cons_append, pbs, pbs_snoc t at_ b bs]; simp
theorem pbs_tree (t : Nat) (at_ : Int) (bs : Nat → Int) : ∀ n, pbs t at_ [] (D.bitsOf bs n) = treeBits t at_ bs n
  | 0 => rfl
  | n + 1 => by
    rw [D.bitsOf, pbs_snoc, pbs_tree t at_ bs n, List.nil_append, D.nodeL_bits bs (D.bitsOf bs) rfl fun _ => rfl]
    simp [treeBits, List.range_succ]
theorem bitsRd_path {t : Nat} {at_ : Int} {v : List Int} : ∀ (n : Nat) {l : List Int} {m : List PB}, (bitsRd t at_ n l).path v m ↔ ∃ bs, R.Bits bs ∧ bs.length = n ∧ v = l ++ bs ∧ m = pbs t at_ l bs
  | 0, l, m => by
    constructor
    · rintro ⟨rfl, rfl⟩
      exact ⟨[], fun _ h => (by cases h), rfl, (List.append_nil _).symm, rfl⟩
    · rintro ⟨bs, _, hl, rfl, rfl⟩
      obtain rfl := List.length_eq_zero_iff.1 hl
      exact ⟨List.append_nil _, rfl⟩
  | n + 1, l, m => by
    constructor
    · rintro ⟨b, m', hb, rfl, h⟩
      obtain ⟨bs, h1, h2, rfl, rfl⟩ := (bitsRd_path n).1 h
      exact ⟨b :: bs, fun x hx => (List.mem_cons.1 hx).elim (fun e => e ▸ hb) (h1 x), by rw [List.length_cons, h2], by simp, rfl⟩
    · rintro ⟨bs, h1, h2, rfl, rfl⟩
      cases bs with
      | nil => simp at h2
      | cons b bs =>
        exact ⟨b, _, h1 b List.mem_cons_self, rfl, (bitsRd_path n).2 ⟨bs, fun x hx => h1 x (List.mem_cons_of_mem _ hx), by simpa using h2, by simp, rfl⟩⟩
theorem horner_inj : ∀ (n : Nat) {l m : List Int}, l.length = n → m.length = n → R.Bits l → R.Bits m → R.horner l = R.horner m → l = m
  | 0, l, m, h1, h2, _, _, _ => by rw [List.length_eq_zero_iff.1 h1, List.length_eq_zero_iff.1 h2]
  | n + 1, l, m, h1, h2, b1, b2, e => by
    rcases List.eq_nil_or_concat l with rfl | ⟨l, a, rfl⟩
    · simp at h1
    rcases List.eq_nil_or_concat m with rfl | ⟨m, c, rfl⟩
    · simp at h2
    simp only [List.concat_eq_append] at *
    rw [R.horner_snoc, R.horner_snoc] at e
    obtain ⟨b1, ha⟩ := b1.init
    obtain ⟨b2, hc⟩ := b2.init
    have e1 : a = c := by omega
    rw [horner_inj n (by simpa using h1) (by simpa using h2) b1 b2 (by omega), e1]
theorem backv_inj : ∀ (l m : List Int), l.length = m.length → R.Bits l → R.Bits m → R.backv l = R.backv m → l = m
  | [], [], _, _, _, _ => rfl
  | [], _ :: _, h, _, _, _ => by simp at h
  | _ :: _, [], h, _, _, _ => by simp at h
  | a :: l, c :: m, h, b1, b2, e => by
    have ha := b1 a List.mem_cons_self
    have hc := b2 c List.mem_cons_self
    have e : a + 2 * R.backv l = c + 2 * R.backv m := e
    have e1 : a = c := by omega
    rw [backv_inj l m (by simpa using h) (fun x hx => b1 x (List.mem_cons_of_mem _ hx)) (fun x hx => b2 x (List.mem_cons_of_mem _ hx)) (by omega), e1]
theorem val_inj (back : Bool) {l m : List Int} (h : l.length = m.length) (b1 : R.Bits l) (b2 : R.Bits m) (e : R.val back l = R.val back m) : l = m := by
  cases back
  · exact horner_inj _ h rfl b1 b2 e
  · exact backv_inj _ _ h b1 b2 e
theorem val_bd (back : Bool) {l : List Int} (h : R.Bits l) : 0 ≤ R.val back l ∧ R.val back l < 2 ^ l.length := by
  cases back
  · exact R.horner_bd h
  · exact R.backv_bd h
theorem bitsOf_bits {bs : Nat → Int} (h : ∀ k, 0 ≤ bs k ∧ bs k ≤ 1) : ∀ n, R.Bits (D.bitsOf bs n)
  | 0 => fun _ h => (by cases h)
  | n + 1 => (bitsOf_bits h n).snoc (by have := h n; omega)
theorem treeRd_path {back : Bool} {t : Nat} {at_ v : Int} {n : Nat} {m : List PB} : (treeRd back t at_ n).path v m ↔ 0 ≤ v ∧ v < 2 ^ n ∧ m = treeBits t at_ (R.bitAt back n v) n := by
  rw [treeRd, Rd.path_map]
  constructor
  · rintro ⟨l, h, rfl⟩
    obtain ⟨bs, h1, h2, e0, rfl⟩ := (bitsRd_path n).1 h
    rw [List.nil_append] at e0
    subst e0
    have hb := val_bd back h1
    rw [h2] at hb
    refine ⟨hb.1, hb.2, ?_⟩
    have e : l = D.bitsOf (R.bitAt back n (R.val back l)) n :=
      val_inj back (by rw [h2, D.bitsOf_len]) h1 (bitsOf_bits (R.bitAt_01 back n _) n) (R.val_bits back n hb.1 hb.2).symm
    rw [← pbs_tree, ← e]
  · rintro ⟨h0, h1, rfl⟩
    refine ⟨D.bitsOf (R.bitAt back n v) n, (bitsRd_path n).2 ⟨_, bitsOf_bits (R.bitAt_01 back n v) n, D.bitsOf_len _ _, rfl, (pbs_tree _ _ _ _).symm⟩, (R.val_bits back n h0 h1).symm⟩

theorem allBits_cons (o : Op) (l : List Op) : allBits (o :: l) = o.bits ++ allBits l := rfl
theorem allBits_nil : allBits [] = [] := rfl
theorem bits_bit (t : Nat) (i b : Int) : (Op.bit t i b).bits = [⟨t, i, b⟩] := rfl
theorem tree_bits (t : Nat) (a : Int) (n : Nat) (v : Int) : (Op.tree t a n v).bits = treeBits t a (R.bitAt false n v) n := rfl
theorem lenRd_path {c : Nat} {p : Pr} {pos n : Int} {m : List PB} : (lenRd c p pos).path n m ↔ isLen n ∧ m = allBits (lenOps c p pos n) := by
  have e3 : (2 : Int) ^ 3 = 8 := by decide
  have e8 : (2 : Int) ^ 8 = 256 := by decide
  unfold isLen lenOps
  dsimp only
  constructor
  · rintro ⟨b, m', hb, rfl, h⟩
    rcases hb with rfl | rfl
    · dsimp -failIfUnchanged only at h; rw [if_pos rfl, Rd.path_map] at h
      obtain ⟨v, h, rfl⟩ := h
      obtain ⟨h0, h1, rfl⟩ := treeRd_path.1 h
      rw [e3] at h1
      rw [if_pos (by omega), show 2 + v - 2 = v from by omega]
      exact ⟨by omega, by simp only [allBits_cons, allBits_nil, bits_bit, tree_bits, List.append_nil]; rfl⟩
    · dsimp -failIfUnchanged only at h; rw [if_neg (by omega)] at h
      obtain ⟨b, m', hb, rfl, h⟩ := h
      rcases hb with rfl | rfl
      · dsimp -failIfUnchanged only at h; rw [if_pos rfl, Rd.path_map] at h
        obtain ⟨v, h, rfl⟩ := h
        obtain ⟨h0, h1, rfl⟩ := treeRd_path.1 h
        rw [e3] at h1
        rw [if_neg (by omega), if_pos (by omega), show 10 + v - 2 - 8 = v from by omega]
        exact ⟨by omega, by simp only [allBits_cons, allBits_nil, bits_bit, tree_bits, List.append_nil]; rfl⟩
      · dsimp -failIfUnchanged only at h; rw [if_neg (by omega), Rd.path_map] at h
        obtain ⟨v, h, rfl⟩ := h
        obtain ⟨h0, h1, rfl⟩ := treeRd_path.1 h
        rw [e8] at h1
        rw [if_neg (by omega), if_neg (by omega), show 18 + v - 2 - 16 = v from by omega]
        exact ⟨by omega, by simp only [allBits_cons, allBits_nil, bits_bit, tree_bits, List.append_nil]; rfl⟩
  · rintro ⟨⟨h0, h1⟩, rfl⟩
    by_cases a1 : n - 2 < 8
    · rw [if_pos a1]
      refine ⟨0, _, .inl rfl, rfl, ?_⟩
      dsimp -failIfUnchanged only; rw [if_pos rfl, Rd.path_map]
      exact ⟨n - 2, treeRd_path.2 ⟨by omega, by omega, by simp; rfl⟩, by omega⟩
    · rw [if_neg a1]
      by_cases a2 : n - 2 < 16
      · rw [if_pos a2]
        refine ⟨1, _, .inr rfl, rfl, ?_⟩
        dsimp -failIfUnchanged only; rw [if_neg (by omega)]
        refine ⟨0, _, .inl rfl, rfl, ?_⟩
        dsimp -failIfUnchanged only; rw [if_pos rfl, Rd.path_map]
        exact ⟨n - 2 - 8, treeRd_path.2 ⟨by omega, by omega, by simp; rfl⟩, by omega⟩
      · rw [if_neg a2]
        refine ⟨1, _, .inr rfl, rfl, ?_⟩
        dsimp -failIfUnchanged only; rw [if_neg (by omega)]
        refine ⟨1, _, .inr rfl, rfl, ?_⟩
        dsimp -failIfUnchanged only; rw [if_neg (by omega), Rd.path_map]
        exact ⟨n - 2 - 16, treeRd_path.2 ⟨by omega, by omega, by simp; rfl⟩, by omega⟩

end Z
end Go.Proofs.YtbgnnjfpiblkmaaGreatDoor

namespace Go.Proofs.YtbgnnjfpiblkmaaGreatDoor
open Go
attribute [local irreducible] oMv oV oU oCall oCallV oBi oBin oUn oLoad oStore oNil oFld oField oIdx oIndex oPick oAlloc oBox oBuild oBs oConv oMk oSl oExt oFn oIface oMap oLook oMapUp oRange oNext oEntry oInv oAssert oPanic oRes pN pA pL pDr pIf gA pGd

section
variable {E w W : World} {M N : List HA} {Q : Value → World → Prop} {b : Nat} {x : Z.W} {s : Z.St} {y : Z.Y}

theorem R13Dist_ok (hS : Sat E w M) (hy : Z.errY y = 0) (hQ : ∀ w, Sat E w M → Q (.int .i64 (Z.dist s y)) w) :
    Calls Tryz.prog 121 #[.agg #[.int .i64 s.num, .int .i64 s.r0, .int .i64 s.r1, .int .i64 s.r2, .int .i64 s.r3], .agg #[.int .i64 y.Kind, bv y.Byte, .int .i64 y.Len, .int .i64 y.Dist]] w (retP Q) := by
  refine pithref13_Dist.calls ?_
  unfold pithref13_Dist.F
  refine pN_bx hS (by rfl) fun x2 w hS => ?_
  refine pN_bx hS (by rfl) fun x3 w hS => ?_
  unfold Z.dist at hQ
  by_cases h2 : y.Kind = 2
  · rw [if_pos h2] at hQ
    repeat' (first | (refine pN_eql_s ?_ ?_ <;> intro hc <;> try (exfalso; first | omega | exact hc rfl | exact hc (by assumption) | exact absurd hc (by assumption))) | refine pIf_t ?_ | refine pN_l hS (by first | rfl | assumption) ?_ | refine pN_v (hk := ?_) | fail)
    exact hQ _ hS.to
  rw [if_neg h2] at hQ
  by_cases h3 : y.Kind = 3
  · rw [if_pos h3] at hQ
    have hd := Z.err_rep hy h3
    have h4 : y.Dist = 0 ∨ y.Dist = 1 ∨ y.Dist = 2 ∨ y.Dist = 3 := by omega
    rcases h4 with h4 | h4 | h4 | h4
    all_goals
      rw [h4] at hQ hS
      simp only [Z.rep0, Z.rep1, Z.rep2, Z.rep3] at hQ
      repeat' (first | (refine pN_eql_s ?_ ?_ <;> intro hc <;> try (exfalso; first | omega | exact hc rfl | exact hc (by assumption) | exact absurd hc (by assumption))) | refine pIf_t ?_ | refine pIf_f ?_ | refine pN_l hS (by first | rfl | assumption) ?_ | refine pN_v (hk := ?_) | fail)
      exact hQ _ hS.to
  rw [if_neg h3] at hQ
  repeat' (first | (refine pN_eql_s ?_ ?_ <;> intro hc <;> try (exfalso; first | omega | exact hc rfl | exact hc (by assumption) | exact absurd hc (by assumption))) | refine pIf_f ?_ | refine pN_l hS (by first | rfl | assumption) ?_ | refine pN_v (hk := ?_) | fail)
  exact hQ _ hS.to
theorem R13Size_ok (hS : Sat E w M) (hQ : ∀ w, Sat E w M → Q (.int .i64 (Z.size y)) w) :
    Calls Tryz.prog 122 #[.agg #[.int .i64 y.Kind, bv y.Byte, .int .i64 y.Len, .int .i64 y.Dist]] w (retP Q) := by
  refine pithref13_Size.calls ?_
  unfold pithref13_Size.F
  refine pN_bx hS (by rfl) fun x1 w hS => ?_
  refine pN_la hS (by rfl) ?_
  refine pc_pithref12_Formed (R12Formed_ok (y := y) hS fun w hS => ?_)
  unfold Z.size at hQ
  by_cases hy : Z.errY y = 0
  · rw [if_neg (by omega)] at hQ
    rw [hy]
    by_cases h : y.Kind = 2 ∨ y.Kind = 3
    · rw [if_pos h] at hQ
      repeat' (first | ((first | refine pN_eql_s ?_ ?_ | refine pN_neq_s ?_ ?_) <;> intro hc <;> try (exfalso; first | omega | exact hc rfl | exact hc (by assumption) | exact absurd hc (by assumption))) | refine pIf_t ?_ | refine pIf_f ?_ | refine pGd_go (by rfl) ?_ | refine pGd_no (by rfl) ?_ | refine pN_l hS (by first | rfl | assumption) ?_ | refine pN_v (hk := ?_) | fail)
      all_goals exact hQ _ hS.to
    · rw [if_neg h] at hQ
      repeat' (first | ((first | refine pN_eql_s ?_ ?_ | refine pN_neq_s ?_ ?_) <;> intro hc <;> try (exfalso; first | omega | exact hc rfl | exact hc (by assumption) | exact absurd hc (by assumption))) | refine pIf_f ?_ | refine pGd_go (by rfl) ?_ | refine pN_l hS (by first | rfl | assumption) ?_ | refine pN_v (hk := ?_) | fail)
      all_goals exact hQ _ hS.to
  · rw [if_pos hy] at hQ
    repeat' (first | (refine pN_neq_s ?_ ?_ <;> intro hc <;> try (exfalso; first | omega | exact hc rfl | exact hc (by assumption) | exact absurd hc (by assumption))) | refine pIf_t ?_ | fail)
    exact hQ _ hS.to

theorem R10Copy_at (hS : Sat E w (RWin b x :: M)) (h0 : 0 ≤ x.size) (d n : Int) (hd : x.has d) (n0 : 0 ≤ n) (hn : n ≤ 273) (hb : x.all.length + 273 ≤ 140737488355328)
    (hQ : ∀ s w, Sat E w (rows cd_uint8 s (Z.cpy x.all d.toNat n.toNat) :: RWin b ⟨x.size, x.all ++ Z.cpy x.all d.toNat n.toNat⟩ :: M) → Q (.tuple #[.slice s.a (Z.cpy x.all d.toNat n.toNat).length s.c, .int .i64 0]) w) :
    Calls Tryz.prog 120 #[pz b, .int .i64 d, .int .i64 n] w (retP Q) := by
  have d1 := hd.1
  obtain ⟨d, rfl⟩ : ∃ m : Nat, d = m := ⟨d.toNat, by omega⟩
  obtain ⟨n, rfl⟩ : ∃ m : Nat, n = m := ⟨n.toNat, by omega⟩
  simp only [Int.toNat_natCast, Z.cpy_len] at hQ
  exact R10Copy_in hS h0 d n hd (by omega) (by omega) hQ

set_option maxHeartbeats 1600000 in
theorem R13Apply_in (hS : Sat E w (RWin b x :: M)) (h0 : 0 ≤ x.size) (hr : s.Right) (hm : Z.may x s y = 0) (hn : x.all.length + 273 ≤ 140737488355328)
    (hQ : ∀ s' w, Sat E w (rows cd_uint8 s' (Z.made x s y) :: RWin b (x.put (Z.made x s y)) :: M) → Q (.tuple #[.slice s'.a (Z.made x s y).length s'.c, .agg (s.next y).cells.toArray, .int .i64 0]) w) :
    Calls Tryz.prog 73 #[pz b, .agg #[.int .i64 s.num, .int .i64 s.r0, .int .i64 s.r1, .int .i64 s.r2, .int .i64 s.r3], .agg #[.int .i64 y.Kind, bv y.Byte, .int .i64 y.Len, .int .i64 y.Dist]] w (retP Q) := by
  refine pithref13_Apply.calls ?_
  unfold pithref13_Apply.F
  have hy := Z.may_err hm
  have hsz := Z.size_bd hy
  refine pN_bx hS (by rfl) fun x4 w hS => ?_
  refine pN_bx hS (by rfl) fun x5 w hS => ?_
  refine pN_nz hS fun x7 w hS => ?_
  refine pN_la hS (by rfl) ?_
  refine pN_la hS (by rfl) ?_
  refine pc_pithref12_Next (R12Next_in hS hr hy fun w hS => ?_)
  by_cases hk : y.Kind = 1
  · have e : Z.made x s y = [y.Byte] := by rw [Z.made, if_pos hk]
    rw [e] at hQ
    repeat' (first | (refine pc_pithref10_Window_Put (R10Put_ok (l := [y.Byte]) (hS.fd (RWin b)) (by simp only [List.length_cons, List.length_nil]; omega) ?_); clear hS; intro w hS) | ((first | refine pN_eql_s ?_ ?_ | refine pN_neq_s ?_ ?_) <;> intro hc <;> try (exfalso; first | omega | exact hc rfl | exact hc (by assumption) | exact absurd hc (by assumption))) | refine pIf_t ?_ | refine pIf_f ?_ | refine pN_l hS (by first | rfl | assumption) ?_ | refine pL_la hS (by rfl) ?_ | refine pL_ra hS (by rfl) ?_ | (refine pN_sa hS (by rfl) (by rfl) (by rfl) ?_; clear hS; intro w hS; try dsimp only at hS) | (refine pDr_go hS ?_; clear hS; intro w hS) | (refine pN_nz hS ?_; clear hS; intro a w hS) | refine ⟨trivial, ?_⟩ | (refine pN_b1 hS (by rfl) (by decide) ?_; clear hS; intro s w hS) | refine pN_v (hk := ?_) | fail)
    exact hQ _ _ hS.to
  · have e : Z.made x s y = Z.cpy x.all (Z.dist s y).toNat (Z.size y).toNat := by rw [Z.made, if_neg hk]
    have hh := Z.may_has hm hk
    rw [e] at hQ
    repeat' (first | refine pL_la hS (by rfl) ?_ | exact run_la_at hS [.int .i64 y.Kind, bv y.Byte, .int .i64 y.Len, .int .i64 y.Dist] rfl rfl | (refine pc_pithref13_Dist (R13Dist_ok hS hy ?_); clear hS; intro w hS) | (refine pc_pithref13_Size (R13Size_ok (y := y) hS ?_); clear hS; intro w hS) | (refine pc_pithref10_Window_Copy (R10Copy_at (hS.fd (RWin b)) h0 _ _ hh (by omega) (by omega) (by omega) ?_); clear hS; intro s' w hS) | refine And.intro ?_ ?_ | exact trivial | ((first | refine pN_eql_s ?_ ?_ | refine pN_neq_s ?_ ?_) <;> intro hc <;> try (exfalso; first | omega | exact hc rfl | exact hc (by assumption) | exact absurd hc (by assumption))) | refine pIf_f ?_ | refine pN_l hS (by first | rfl | assumption) ?_ | refine pL_la hS (by rfl) ?_ | refine pL_ra hS (by rfl) ?_ | (refine pN_sa hS (by rfl) (by rfl) (by rfl) ?_; clear hS; intro w hS; try dsimp only at hS) | (refine pDr_go hS ?_; clear hS; intro w hS) | (refine pN_nz hS ?_; clear hS; intro a w hS) | refine pN_v (hk := ?_) | refine pA_v (hk := ?_) | fail)
    exact hQ _ _ hS.to

set_option maxHeartbeats 1600000 in
theorem R13Apply_no (hS : Sat E w (RWin b x :: M)) (h0 : 0 ≤ x.size) (hr : s.Right) (hm : Z.may x s y ≠ 0)
    (hQ : ∀ w, Sat E w (RWin b x :: M) → Q (.tuple #[.slice none 0 0, .agg #[.int .i64 0, .int .i64 0, .int .i64 0, .int .i64 0, .int .i64 0], .int .i64 (Z.may x s y)]) w) :
    Calls Tryz.prog 73 #[pz b, .agg #[.int .i64 s.num, .int .i64 s.r0, .int .i64 s.r1, .int .i64 s.r2, .int .i64 s.r3], .agg #[.int .i64 y.Kind, bv y.Byte, .int .i64 y.Len, .int .i64 y.Dist]] w (retP Q) := by
  refine pithref13_Apply.calls ?_
  unfold pithref13_Apply.F
  refine pN_bx hS (by rfl) fun x4 w hS => ?_
  refine pN_bx hS (by rfl) fun x5 w hS => ?_
  refine pN_nz hS fun x7 w hS => ?_
  refine pN_la hS (by rfl) ?_
  refine pN_la hS (by rfl) ?_
  by_cases hy : Z.errY y = 0
  · have hk : y.Kind ≠ 1 := fun hk => hm (by rw [Z.may, if_neg (by omega), if_pos hk])
    have hh : ¬ x.has (Z.dist s y) := fun hh => hm (by rw [Z.may, if_neg (by omega), if_neg hk, if_pos hh])
    have e7 : Z.may x s y = 7 := by rw [Z.may, if_neg (by omega), if_neg hk, if_neg hh]
    rw [e7] at hQ
    refine pc_pithref12_Next (R12Next_in hS hr hy fun w hS => ?_)
    repeat' (first | refine pL_la hS (by rfl) ?_ | exact run_la_at hS [.int .i64 y.Kind, bv y.Byte, .int .i64 y.Len, .int .i64 y.Dist] rfl rfl | (refine pc_pithref13_Dist (R13Dist_ok hS hy ?_); clear hS; intro w hS) | (refine pc_pithref13_Size (R13Size_ok (y := y) hS ?_); clear hS; intro w hS) | (refine pc_pithref10_Window_Copy (R10Copy_no (hS.fd (RWin b)) h0 _ _ (fun h => hh h.1) ?_); clear hS; intro w hS) | refine And.intro ?_ ?_ | exact trivial | ((first | refine pN_eql_s ?_ ?_ | refine pN_neq_s ?_ ?_) <;> intro hc <;> try (exfalso; first | omega | exact hc rfl | exact hc (by assumption) | exact absurd hc (by assumption))) | refine pIf_t ?_ | refine pIf_f ?_ | refine pN_l hS (by first | rfl | assumption) ?_ | refine pL_la hS (by rfl) ?_ | refine pL_ra hS (by rfl) ?_ | (refine pN_sa hS (by rfl) (by rfl) (by rfl) ?_; clear hS; intro w hS; try dsimp only at hS) | (refine pDr_go hS ?_; clear hS; intro w hS) | (refine pN_nz hS ?_; clear hS; intro a w hS) | refine pN_v (hk := ?_) | refine pA_v (hk := ?_) | fail)
    exact hQ _ hS.to
  · have e7 : Z.may x s y = Z.errY y := by rw [Z.may, if_pos (by omega)]
    rw [e7] at hQ
    refine pc_pithref12_Next (R12Next_no hS hr hy fun w hS => ?_)
    repeat' (first | (refine pN_neq_s ?_ ?_ <;> intro hc <;> try (exfalso; first | omega | exact hc rfl | exact hc (by assumption) | exact absurd hc (by assumption))) | refine pIf_t ?_ | refine pL_ra hS (by rfl) ?_ | (refine pN_sa hS (by rfl) (by rfl) (by rfl) ?_; clear hS; intro w hS; try dsimp only at hS) | (refine pN_nz hS ?_; clear hS; intro a w hS) | refine pN_v (hk := ?_) | fail)
    exact hQ _ hS.to
end

end Go.Proofs.YtbgnnjfpiblkmaaGreatDoor

namespace Go.Proofs.YtbgnnjfpiblkmaaGreatDoor
open Go Go.ChangeMaps Go.MapKept

class KeyC (P : Program) (kt : TypeId) {κ : Type} (ke : κ → Value) : Prop where
  inj : ∀ a b, ke a = ke b → a = b
  check : ∀ (k : κ) em w, (Instr.checkKey em 10000 kt (ke k)).run P w = .ok () w
  find : ∀ (k : κ) (es : List MapEntry) w, (∀ e ∈ es, ∃ k', e.key = ke k') →
    ((Instr.findKey kt (ke k) es).run P w = .ok none w ∧ ∀ e ∈ es, e.key ≠ ke k) ∨ ∃ j e, (Instr.findKey kt (ke k) es).run P w = .ok (some (j, e.val)) w ∧ es[j]? = some e ∧ e.key = ke k
  stays : ∀ k w, (Instr.keyThatStays (ke k) (ke k)).run P w = .ok (ke k) w

class MapT (P : Program) (t : TypeId) {κ : Type} (ke : outParam (κ → Value)) (z : outParam Value) : Prop where
  ex : ∃ kt e, P.underlying t = some (.map kt e) ∧ (∀ w, (zeroValue e).run P w = .ok z w) ∧ KeyC P kt ke

theorem KeyC.of {P : Program} {kt : TypeId} {κ : Type} {ke : κ → Value} (K : Maps.Keyed P kt) (kl : κ → Lit) (h : ∀ k, keyOf P kt (ke k) = some (kl k)) (hi : ∀ a b, ke a = ke b → a = b) : KeyC P kt ke where
  inj := hi
  check k em w := K.check w em (h k)
  find k es w hes := K.find w (h k) es fun e he => by obtain ⟨k', hk⟩ := hes e he; exact ⟨kl k', by rw [hk]; exact h k'⟩
  stays k w := K.stays w (h k)

theorem MkM.run_mk {P : Program} (t : TypeId) (w : World) : (Instr.makeMap t none).run P w = .ok (.map (some w.heap.size)) (w.alloc (.map #[] 0)) := rfl

section
variable {κ : Type} {ke : κ → Value}

def kvs (ke : κ → Value) (l : List (κ × Value)) : List (Value × Value) := l.map fun p => (ke p.1, p.2)
def eks (es : List MapEntry) : List (Value × Value) := es.map fun e => (e.key, e.val)

def mp (ke : κ → Value) (b : Nat) (l : List (κ × Value)) : HA := fun h => ∃ es clock, h b = some (.map es clock) ∧ Stamped es clock ∧ eks es.toList = kvs ke l

variable [DecidableEq κ]
def mget : List (κ × Value) → κ → Option Value
  | [], _ => none
  | p :: l, k => if p.1 = k then some p.2 else mget l k
def mput : List (κ × Value) → κ → Value → List (κ × Value)
  | [], k, v => [(k, v)]
  | p :: l, k, v => if p.1 = k then (k, v) :: l else p :: mput l k v

omit [DecidableEq κ] in
theorem eks_keys {es : List MapEntry} {l : List (κ × Value)} (h : eks es = kvs ke l) : ∀ e ∈ es, ∃ k', e.key = ke k' := by
  intro e he
  have : (e.key, e.val) ∈ kvs ke l := by rw [← h]; exact List.mem_map.2 ⟨e, he, rfl⟩
  obtain ⟨p, _, hp⟩ := List.mem_map.1 this
  exact ⟨p.1, (congrArg Prod.fst hp).symm⟩
theorem mget_none (hi : ∀ a b, ke a = ke b → a = b) : ∀ {es : List MapEntry} {l : List (κ × Value)} {k : κ}, eks es = kvs ke l → (∀ e ∈ es, e.key ≠ ke k) → mget l k = none
  | [], [], _, _, _ => rfl
  | [], p :: l, _, h, _ => by cases h
  | e :: es, [], _, h, _ => by cases h
  | e :: es, p :: l, k, h, hn => by
    simp only [eks, kvs, List.map_cons, List.cons.injEq, Prod.mk.injEq] at h
    have h1 := hn e List.mem_cons_self
    rw [mget, if_neg (fun e' => h1 (by rw [h.1.1, e']))]
    exact mget_none hi h.2 fun e he => hn e (List.mem_cons_of_mem _ he)
theorem mget_some (hi : ∀ a b, ke a = ke b → a = b) : ∀ {es : List MapEntry} {l : List (κ × Value)} {k : κ} {j : Nat} {e : MapEntry}, eks es = kvs ke l → (es.map (·.key)).Nodup → es[j]? = some e → e.key = ke k → mget l k = some e.val
  | [], _, _, _, _, _, _, h, _ => by simp at h
  | e :: es, [], _, _, _, h, _, _, _ => by cases h
  | e :: es, p :: l, k, 0, e', h, _, hj, hk => by
    simp only [eks, kvs, List.map_cons, List.cons.injEq, Prod.mk.injEq] at h
    simp only [List.getElem?_cons_zero, Option.some.injEq] at hj
    subst hj
    rw [mget, if_pos (hi _ _ (by rw [← h.1.1, hk])), h.1.2]
  | e :: es, p :: l, k, j + 1, e', h, hn, hj, hk => by
    simp only [eks, kvs, List.map_cons, List.cons.injEq, Prod.mk.injEq] at h
    rw [List.getElem?_cons_succ] at hj
    rw [List.map_cons, List.nodup_cons] at hn
    rw [mget, if_neg fun e' => hn.1 (List.mem_map.2 ⟨_, List.mem_of_getElem? hj, by rw [hk, h.1.1, e']⟩)]
    exact mget_some hi h.2 hn.2 hj hk
theorem mput_none (hi : ∀ a b, ke a = ke b → a = b) (v : Value) (c : Nat) : ∀ {es : List MapEntry} {l : List (κ × Value)} {k : κ}, eks es = kvs ke l → (∀ e ∈ es, e.key ≠ ke k) → eks (es ++ [⟨ke k, v, c⟩]) = kvs ke (mput l k v)
  | [], [], _, _, _ => rfl
  | [], p :: l, _, h, _ => by cases h
  | e :: es, [], _, h, _ => by cases h
  | e :: es, p :: l, k, h, hn => by
    have h' := h
    simp only [eks, kvs, List.map_cons, List.cons.injEq, Prod.mk.injEq] at h'
    have h1 := hn e List.mem_cons_self
    rw [mput, if_neg (fun e' => h1 (by rw [h'.1.1, e']))]
    have ih := mput_none hi v c h'.2 fun e he => hn e (List.mem_cons_of_mem _ he)
    simp only [eks, kvs, List.map_cons, List.cons_append, List.cons.injEq, Prod.mk.injEq] at ih ⊢
    exact ⟨h'.1, ih⟩
theorem mput_some (hi : ∀ a b, ke a = ke b → a = b) (v : Value) : ∀ {es : List MapEntry} {l : List (κ × Value)} {k : κ} {j : Nat} {e : MapEntry}, eks es = kvs ke l → (es.map (·.key)).Nodup → es[j]? = some e → e.key = ke k →
    eks (es.modify j fun e => { e with key := ke k, val := v }) = kvs ke (mput l k v)
  | [], _, _, _, _, _, _, h, _ => by simp at h
  | e :: es, [], _, _, _, h, _, _, _ => by cases h
  | e :: es, p :: l, k, 0, e', h, _, hj, hk => by
    simp only [eks, kvs, List.map_cons, List.cons.injEq, Prod.mk.injEq] at h
    simp only [List.getElem?_cons_zero, Option.some.injEq] at hj
    subst hj
    rw [mput, if_pos (hi _ _ (by rw [← h.1.1, hk]))]
    simp only [List.modify_zero_cons, eks, kvs, List.map_cons, List.cons.injEq, true_and]
    exact h.2
  | e :: es, p :: l, k, j + 1, e', h, hn, hj, hk => by
    have h' := h
    simp only [eks, kvs, List.map_cons, List.cons.injEq, Prod.mk.injEq] at h'
    rw [List.getElem?_cons_succ] at hj
    rw [List.map_cons, List.nodup_cons] at hn
    rw [mput, if_neg fun e' => hn.1 (List.mem_map.2 ⟨_, List.mem_of_getElem? hj, by rw [hk, h'.1.1, e']⟩)]
    have ih := mput_some hi v h'.2 hn.2 hj hk
    simp only [List.modify_succ_cons, eks, kvs, List.map_cons, List.cons.injEq, Prod.mk.injEq] at ih ⊢
    exact ⟨h'.1, ih⟩
end

section
variable [Pan] {P : Program} {E w : World} {K : Value → World → Prop} {J : Value → Prop} {L M : List HA} {κ : Type} [DecidableEq κ] {ke : κ → Value} {t : TypeId} {z : Value} {b r : Nat} {l : List (κ × Value)}

omit [DecidableEq κ] in
theorem mp_at (hS : Sat E w L) [h : Fnd (mp ke b) L l M] : ∃ es clock, w.heap[b]? = some (.map es clock) ∧ Stamped es clock ∧ eks es.toList = kvs ke l := by
  obtain ⟨h1, ⟨es, clock, hb, hs, he⟩, hsub⟩ := (hS.fd (mp ke b)).head
  exact ⟨es, clock, hsub _ _ hb, hs, he⟩

omit [DecidableEq κ] in
theorem pN_mkm (hS : Sat E w L) (ke : κ → Value) (hk : ∀ b w', Sat E w' (mp ke b [] :: L) → K (.map (some b)) w') : pN P (oMap t none) w K := by
  have hr : (oMap t none).run P w = .ok (.value (.map (some w.heap.size))) (w.alloc (.map #[] 0)) := run_oV_ok (MkM.run_mk t w)
  rw [pN_def, hr, rN_value]
  refine hk _ _ ((hS.alloc (.map #[] 0)).weaken fun h hb => ⟨#[], 0, hb, ⟨by simp, by simp, by simp⟩, rfl⟩)

theorem run_lkk (hS : Sat E w L) [h : Fnd (mp ke b) L l M] [hT : MapT P t ke z] (k : κ) (ok : Bool) :
    ((oLook t (.map (some b)) (ke k) ok).run P w = .ok (.value (if ok then .tuple #[z, .bool false] else z)) w ∧ mget l k = none) ∨
    ∃ v, (oLook t (.map (some b)) (ke k) ok).run P w = .ok (.value (if ok then .tuple #[v, .bool true] else v)) w ∧ mget l k = some v := by
  obtain ⟨kt, e, ht, hz, hK⟩ := hT.ex
  obtain ⟨es, clock, hb, hs, he⟩ := mp_at (ke := ke) (b := b) hS
  rcases hK.find k es.toList w (eks_keys he) with ⟨h1, h2⟩ | ⟨j, e0, h1, h2, h3⟩
  · refine .inl ⟨run_oV_ok ?_, mget_none hK.inj he h2⟩
    simp [Instr.lookup, run_underlying ht, MapKept.run_getObj_map hb, hK.check k, h1, hz, Result.andThen]
  · refine .inr ⟨e0.val, run_oV_ok ?_, mget_some hK.inj he hs.2.2 h2 h3⟩
    simp [Instr.lookup, run_underlying ht, MapKept.run_getObj_map hb, hK.check k, h1, Result.andThen]

theorem pN_lko (hS : Sat E w L) [h : Fnd (mp ke b) L l M] [hT : MapT P t ke z] (k : κ) (h1 : ∀ v, mget l k = some v → K (.tuple #[v, .bool true]) w) (h2 : mget l k = none → K (.tuple #[z, .bool false]) w) :
    pN P (oLook t (.map (some b)) (ke k) true) w K := by
  rcases run_lkk (P := P) (t := t) (ke := ke) (b := b) hS k true with ⟨h, hn⟩ | ⟨v, h, hv⟩
  · rw [pN_def, h, rN_value]; exact h2 hn
  · rw [pN_def, h, rN_value]; exact h1 v hv
theorem Sat.set_blk {b : Nat} {o o' : Obj} {A B : HA} (hS : Sat E w (A :: L)) (ha : ∀ h, A h → h b = some o) (hb : ∀ h : Hp, A h → B (fun k => if k = b then some o' else h k)) : Sat E (ChangeMaps.setBlock w b o') (B :: L) := by
  refine hS.turn rfl rfl rfl fun h1 hA s => ?_
  have hb1 := s b o (ha h1 hA)
  have hset := heap_set (o' := o') hb1
  refine ⟨fun k => if k = b then some o' else h1 k, hb h1 hA, ?_, ?_⟩
  · intro k o ek
    dsimp only at ek
    split at ek
    · rename_i hkb; subst hkb; cases ek; exact hset.1
    · rename_i hkb; exact (hset.2 k hkb).trans (s k o ek)
  · intro k o ek hn
    have hkb : k ≠ b := fun e => by subst e; rw [ha h1 hA] at hn; cases hn
    dsimp only
    rw [if_neg hkb]
    exact ⟨(hset.2 k hkb).trans ek, hn⟩

theorem pN_mup (hS : Sat E w L) [h : Fnd (mp ke b) L l M] [hT : MapT P t ke z] (k : κ) (v : Value) (hk : ∀ w', Sat E w' (mp ke b (mput l k v) :: M) → K undef w') : pN P (oMapUp t (.map (some b)) (ke k) v) w K := by
  obtain ⟨kt, e, ht, hz, hK⟩ := hT.ex
  obtain ⟨es, clock, hb, hs, he⟩ := mp_at (ke := ke) (b := b) hS
  have h0 : Sat E w ((fun h => h b = some (.map es clock)) :: M) := by
    obtain ⟨h1, ⟨es', clock', hb', _, _⟩, hsub, hr⟩ := (hS.fd (mp ke b)).sats
    have : w.heap[b]? = some (.map es' clock') := hsub _ _ hb'
    rw [hb] at this
    simp only [Option.some.injEq, Obj.map.injEq] at this
    obtain ⟨rfl, rfl⟩ := this
    exact ⟨hS.os, hS.tape, hS.output, h1, hb', hsub, hr⟩
  rcases hK.find k es.toList w (eks_keys he) with ⟨h1, h2⟩ | ⟨j, e0, h1, h2, h3⟩
  · have hr : (oMapUp t (.map (some b)) (ke k) v).run P w = .ok .skip (setBlock w b (.map (es.push ⟨ke k, v, clock⟩) (clock + 1))) := by
      simp [oMapUp, oU, Instr.mapUpdate, run_underlying ht, MapKept.run_getObj_map hb, hK.check k, h1, MapKept.run_setObj_map _ hb, Result.andThen, setBlock]
    rw [pN_def, hr]
    refine hk _ (h0.set_blk (fun h e => e) fun h e => ⟨_, _, if_pos rfl, ⟨?_, ?_, ?_⟩, ?_⟩)
    · intro x hx
      simp only [Array.toList_push, List.mem_append, List.mem_singleton] at hx
      rcases hx with hx | rfl
      · have := hs.1 x hx; omega
      · simp
    · simp only [Array.toList_push, List.map_append, List.map_cons, List.map_nil]
      refine List.nodup_append.2 ⟨hs.2.1, by simp, fun a ha c hc => ?_⟩
      simp only [List.mem_singleton] at hc
      obtain ⟨x, hx, rfl⟩ := List.mem_map.1 ha
      have := hs.1 x hx
      omega
    · simp only [Array.toList_push, List.map_append, List.map_cons, List.map_nil]
      refine List.nodup_append.2 ⟨hs.2.2, by simp, fun a ha c hc => ?_⟩
      simp only [List.mem_singleton] at hc
      obtain ⟨x, hx, rfl⟩ := List.mem_map.1 ha
      rw [hc]; exact h2 x hx
    · rw [Array.toList_push]
      exact mput_none hK.inj v clock he h2
  · have hj : (es[j]?).map (·.key) = some (ke k) := by
      rw [← Array.getElem?_toList, h2, Option.map_some, h3]
    have hr : (oMapUp t (.map (some b)) (ke k) v).run P w = .ok .skip (setBlock w b (.map (es.modify j fun e => { e with key := ke k, val := v }) clock)) := by
      simp [oMapUp, oU, Instr.mapUpdate, run_underlying ht, MapKept.run_getObj_map hb, hK.check k, h1, hj, hK.stays k, MapKept.run_setObj_map _ hb, Result.andThen, setBlock]
    rw [pN_def, hr]
    have hm : (es.modify j fun e => { e with key := ke k, val := v }).toList = es.toList.modify j fun e => { e with key := ke k, val := v } := by simp
    have hb' : ∀ {γ : Type} (f : MapEntry → γ) (hf : ∀ e : MapEntry, f { e with key := ke k, val := v } = f e) (m : List MapEntry) (j : Nat), (m.modify j fun e => { e with key := ke k, val := v }).map f = m.map f := by
      intro γ f hf m
      induction m with
      | nil => intro j; cases j <;> rfl
      | cons x m ih =>
        intro j
        cases j with
        | zero => simp [List.modify_zero_cons, hf]
        | succ j => simp [List.modify_succ_cons, ih]
    have hk' : (es.toList.modify j fun e => { e with key := ke k, val := v }).map (·.key) = es.toList.map (·.key) := by
      refine List.ext_getElem? fun i => ?_
      rw [List.getElem?_map, List.getElem?_map, List.getElem?_modify]
      by_cases hij : j = i
      · subst hij
        rw [h2]; simp [h3]
      · cases es.toList[i]? <;> simp [hij]
    refine hk _ (h0.set_blk (fun h e => e) fun h e => ⟨_, _, if_pos rfl, ⟨?_, ?_, ?_⟩, ?_⟩)
    · intro x hx
      rw [hm] at hx
      have : x.born ∈ es.toList.map (·.born) := by
        rw [← hb' (·.born) (fun _ => rfl) es.toList j]; exact List.mem_map.2 ⟨x, hx, rfl⟩
      obtain ⟨y, hy, e⟩ := List.mem_map.1 this
      rw [← e]; exact hs.1 y hy
    · rw [hm, hb' (·.born) (fun _ => rfl)]; exact hs.2.1
    · rw [hm, hk']; exact hs.2.2
    · rw [hm]; exact mput_some hK.inj v he hs.2.2 h2 h3

end

end Go.Proofs.YtbgnnjfpiblkmaaGreatDoor

namespace Go.Proofs.YtbgnnjfpiblkmaaGreatDoor
open Go
abbrev Key := {l : List UInt8 // l.length ≤ 1000}
abbrev ske : Key → Value := fun l => .string ⟨l.1.toArray⟩
theorem key_str (k : Key) : keyOf Tryz.prog 9 (ske k) = some (Lit.string k.1) := by
  have h := k.2
  have h2 : (ByteArray.mk k.1.toArray).size ≤ maxLen := by rw [size_str]; unfold maxLen; omega
  simp only [keyOf, mapKey, Tryz.underlying9, ske, h2, if_true]
theorem set_same {α : Type} : ∀ {l : List α} {i : Nat} {a : α}, l[i]? = some a → l.set i a = l
  | [], _, _, h => by simp at h
  | x :: l, 0, a, h => by simp at h; subst h; rfl
  | x :: l, i + 1, a, h => by simp only [List.set_cons_succ]; rw [set_same (by simpa using h)]
structure NS where
  name : Key
  b : Nat
  l : List Int
namespace Z
def updN (f : Key → List Int) (n : Key) (l : List Int) : Key → List Int := fun k => if k = n then l else f k
def look (fr : List Int) : List NS → Key → List Int
  | [], _ => fr
  | e :: m, n => if e.name = n then e.l else look fr m n
end Z
def nsV (m : List NS) : List (Key × Value) := m.map fun e => (e.name, pz e.b)
def nsA (S : Nat → List Int → HA) (m : List NS) : List HA := m.map fun e => S e.b e.l
def NSets (S : Nat → List Int → HA) (fr : List Int) (bm : Nat) (N : Key → List Int) : HA := fun h => ∃ m : List NS, (m.map (·.name)).Nodup ∧ (∀ n, N n = Z.look fr m n) ∧ Sats (mp ske bm (nsV m) :: nsA S m) h
def NHole (S : Nat → List Int → HA) (fr : List Int) (bm : Nat) (N : Key → List Int) (n : Key) (b : Nat) : HA := fun h => ∃ (m : List NS) (i : Nat) (l : List Int), m[i]? = some ⟨n, b, l⟩ ∧ (m.map (·.name)).Nodup ∧ (∀ n, N n = Z.look fr m n) ∧ Sats (mp ske bm (nsV m) :: (nsA S m).eraseIdx i) h

namespace Z
theorem look_at {fr : List Int} : ∀ {m : List NS} {i : Nat} {e : NS}, (m.map (·.name)).Nodup → m[i]? = some e → look fr m e.name = e.l
  | [], _, _, _, h => by simp at h
  | x :: m, 0, e, _, h => by simp at h; subst h; simp [look]
  | x :: m, i + 1, e, hn, h => by
    simp only [List.map_cons, List.nodup_cons, List.getElem?_cons_succ] at hn h
    have hne : x.name ≠ e.name := fun he => hn.1 (he ▸ List.mem_map_of_mem (List.mem_of_getElem? h))
    rw [look, if_neg hne]
    exact look_at hn.2 h
theorem look_set {fr : List Int} : ∀ {m : List NS} {i : Nat} {e : NS} (l : List Int), (m.map (·.name)).Nodup → m[i]? = some e → ∀ n, look fr (m.set i ⟨e.name, e.b, l⟩) n = updN (look fr m) e.name l n
  | [], _, _, _, _, h, _ => by simp at h
  | x :: m, 0, e, l, _, h, n => by
    simp at h; subst h
    simp only [List.set_cons_zero, look, updN]
    by_cases hx : x.name = n
    · rw [if_pos hx, if_pos hx.symm]
    · rw [if_neg hx, if_neg (fun e => hx e.symm), if_neg hx]
  | x :: m, i + 1, e, l, hn, h, n => by
    simp only [List.map_cons, List.nodup_cons, List.getElem?_cons_succ] at hn h
    have hne : x.name ≠ e.name := fun he => hn.1 (he ▸ List.mem_map_of_mem (List.mem_of_getElem? h))
    have ih := look_set (fr := fr) l hn.2 h n
    simp only [List.set_cons_succ, look, ih, updN]
    by_cases hx : x.name = n
    · rw [if_pos hx, if_neg (fun e2 => hne (hx.trans e2)), if_pos hx]
    · rw [if_neg hx, if_neg hx]
theorem look_none {fr : List Int} : ∀ {m : List NS} {n : Key}, mget (nsV m) n = none → look fr m n = fr ∧ n ∉ m.map (·.name)
  | [], _, _ => ⟨rfl, by simp⟩
  | x :: m, n, h => by
    simp only [nsV, List.map_cons, mget] at h
    split at h
    · cases h
    · rename_i hx
      have ⟨h1, h2⟩ := look_none (fr := fr) (m := m) h
      refine ⟨by rw [look, if_neg hx, h1], ?_⟩
      simp only [List.map_cons, List.mem_cons, not_or]
      exact ⟨fun e => hx e.symm, h2⟩
theorem look_some : ∀ {m : List NS} {n : Key} {v : Value}, mget (nsV m) n = some v → ∃ (i : Nat) (e : NS), m[i]? = some e ∧ e.name = n ∧ v = pz e.b
  | [], _, _, h => by simp [nsV, mget] at h
  | x :: m, n, v, h => by
    simp only [nsV, List.map_cons, mget] at h
    split at h
    · rename_i hx
      exact ⟨0, x, rfl, hx, (Option.some.inj h).symm⟩
    · have ⟨i, e, h1, h2, h3⟩ := look_some (m := m) h
      exact ⟨i + 1, e, h1, h2, h3⟩
theorem mput_new : ∀ {m : List NS} {n : Key} (b : Nat) (l : List Int), n ∉ m.map (·.name) → mput (nsV m) n (pz b) = nsV (m ++ [⟨n, b, l⟩])
  | [], _, _, _, _ => rfl
  | x :: m, n, b, l, h => by
    simp only [List.map_cons, List.mem_cons, not_or] at h
    have ih := mput_new b l h.2
    simp only [nsV, List.map_cons, List.cons_append, mput] at ih ⊢
    rw [if_neg (fun e => h.1 e.symm), ih]
theorem look_new {fr : List Int} : ∀ {m : List NS} {n : Key} (b : Nat), n ∉ m.map (·.name) → ∀ k, look fr (m ++ [⟨n, b, fr⟩]) k = look fr m k
  | [], n, b, _, k => by simp only [List.nil_append, look]; split <;> rfl
  | x :: m, n, b, h, k => by
    simp only [List.map_cons, List.mem_cons, not_or] at h
    simp only [List.cons_append, look, look_new b h.2 k]
end Z
section
variable {E w : World} {M : List HA} {S : Nat → List Int → HA} {fr : List Int} {bm b c : Nat} {N : Key → List Int} {n : Key} {l : List Int}
theorem NSets.opn (hS : Sat E w (NSets S fr bm N :: M)) : ∃ m : List NS, (m.map (·.name)).Nodup ∧ (∀ n, N n = Z.look fr m n) ∧ Sat E w (mp ske bm (nsV m) :: (nsA S m ++ M)) := by
  obtain ⟨m, hS⟩ := hS.ex
  have h1 : (m.map (·.name)).Nodup ∧ ∀ n, N n = Z.look fr m n := by
    obtain ⟨h, hh, _⟩ := hS.head
    exact ⟨hh.1, hh.2.1⟩
  exact ⟨m, h1.1, h1.2, (hS.weaken fun h hh => hh.2.2).open_ (M := mp ske bm (nsV m) :: nsA S m) fun _ h => h⟩
theorem NHole.shut (hS : Sat E w (S b l :: NHole S fr bm N n b :: M)) : Sat E w (NSets S fr bm (Z.updN N n l) :: M) := by
  have hS : Sat E w (NHole S fr bm N n b :: S b l :: M) := hS.perm (List.Perm.swap _ _ _)
  obtain ⟨m, hS⟩ := hS.ex
  obtain ⟨i, hS⟩ := hS.ex
  obtain ⟨l0, hS⟩ := hS.ex
  have h1 : m[i]? = some ⟨n, b, l0⟩ ∧ (m.map (·.name)).Nodup ∧ ∀ n, N n = Z.look fr m n := by
    obtain ⟨h, hh, _⟩ := hS.head
    exact ⟨hh.1, hh.2.1, hh.2.2.1⟩
  obtain ⟨h1, h2, h3⟩ := h1
  have hi : i < m.length := (List.getElem?_eq_some_iff.1 h1).1
  have hS := (hS.weaken fun h hh => hh.2.2.2).open_ (M := mp ske bm (nsV m) :: (nsA S m).eraseIdx i) fun _ h => h
  have e1 : nsV (m.set i ⟨n, b, l⟩) = nsV m := by
    have : (nsV m)[i]? = some (n, pz b) := by rw [nsV, List.getElem?_map, h1]; rfl
    rw [nsV, List.map_set]
    exact set_same this
  have e2 : nsA S (m.set i ⟨n, b, l⟩) = (nsA S m).set i (S b l) := by rw [nsA, List.map_set]; rfl
  have e3 : (nsA S m)[i]? = some (S b l0) := by rw [nsA, List.getElem?_map, h1]; rfl
  refine Sat.shut (M := mp ske bm (nsV m) :: (nsA S m).set i (S b l)) ?_ fun h hh => ⟨m.set i ⟨n, b, l⟩, ?_, ?_, ?_⟩
  · refine hS.perm ?_
    have hp := perm_out (nsA S m) i _ e3 (S b l)
    refine List.Perm.cons _ ?_
    exact (List.perm_middle).trans (hp.append_right M)
  · rw [List.map_set]
    have : (m.map (·.name))[i]? = some n := by rw [List.getElem?_map, h1]; rfl
    rw [set_same this]; exact h2
  · intro k
    rw [Z.look_set l h2 h1 k]
    simp only [Z.updN, h3]
  · rw [e1, e2]; exact hh
theorem NSets.bagged (hS : Sat E w (NSets S fr bm N :: M)) : ∃ m : List NS, (m.map (·.name)).Nodup ∧ (∀ n, N n = Z.look fr m n) ∧ Sat E w (mp ske bm (nsV m) :: bag (nsA S m) :: M) := by
  obtain ⟨m, h1, h2, hS⟩ := NSets.opn hS
  have hS := (hS.perm (List.perm_middle (a := mp ske bm (nsV m)) (l₁ := nsA S m) (l₂ := M)).symm).shutBag
  exact ⟨m, h1, h2, hS.perm (List.Perm.swap _ _ _)⟩
theorem NHole.make {m : List NS} {i : Nat} {L : List HA} (h1 : (m.map (·.name)).Nodup) (h2 : ∀ n, N n = Z.look fr m n) (hi : m[i]? = some ⟨n, b, l⟩) (hS : Sat E w (mp ske bm (nsV m) :: bag ((nsA S m).eraseIdx i) :: L)) : Sat E w (NHole S fr bm N n b :: L) := by
  have hS := (hS.perm (List.Perm.swap _ _ _)).openBag
  have hS := hS.perm (List.perm_middle (a := mp ske bm (nsV m)) (l₁ := (nsA S m).eraseIdx i) (l₂ := L))
  exact Sat.shut (M := mp ske bm (nsV m) :: (nsA S m).eraseIdx i) hS fun h hh => ⟨m, i, l, hi, h1, h2, hh⟩
theorem NHole.of {m : List NS} {i : Nat} (h1 : (m.map (·.name)).Nodup) (h2 : ∀ n, N n = Z.look fr m n) (hi : m[i]? = some ⟨n, b, l⟩) (hS : Sat E w (mp ske bm (nsV m) :: bag (nsA S m) :: M)) : Sat E w (S b (N n) :: NHole S fr bm N n b :: M) := by
  have e3 : (nsA S m)[i]? = some (S b l) := by rw [nsA, List.getElem?_map, hi]; rfl
  have e4 : N n = l := by rw [h2]; exact Z.look_at h1 hi
  rw [e4]
  have hS := (hS.perm (List.Perm.swap _ _ _)).out i e3
  have hS : Sat E w (mp ske bm (nsV m) :: bag ((nsA S m).eraseIdx i) :: S b l :: M) := by
    refine hS.perm ?_
    refine List.Perm.trans (l₂ := S b l :: mp ske bm (nsV m) :: bag ((nsA S m).eraseIdx i) :: M) (List.Perm.cons _ (List.Perm.swap _ _ _)) ?_
    refine (List.Perm.swap _ _ _).trans (List.Perm.cons _ (List.Perm.swap _ _ _))
  exact (NHole.make h1 h2 hi hS).perm (List.Perm.swap _ _ _)
theorem NHole.new {m : List NS} (h1 : (m.map (·.name)).Nodup) (h2 : ∀ n, N n = Z.look fr m n) (hg : mget (nsV m) n = none) (hS : Sat E w (mp ske bm (mput (nsV m) n (pz b)) :: bag (nsA S m) :: S b fr :: M)) : Sat E w (S b (N n) :: NHole S fr bm N n b :: M) := by
  obtain ⟨g1, g2⟩ := Z.look_none (fr := fr) hg
  rw [Z.mput_new b fr g2] at hS
  rw [h2 n, g1]
  have hi : (m ++ [(⟨n, b, fr⟩ : NS)])[m.length]? = some ⟨n, b, fr⟩ := by simp
  have e1 : (nsA S (m ++ [(⟨n, b, fr⟩ : NS)])).eraseIdx m.length = nsA S m := by
    have : nsA S (m ++ [(⟨n, b, fr⟩ : NS)]) = nsA S m ++ [S b fr] := by simp [nsA]
    rw [this, List.eraseIdx_append_of_length_le (by simp [nsA])]
    simp [nsA]
  have h3 : ((m ++ [(⟨n, b, fr⟩ : NS)]).map (·.name)).Nodup := by
    rw [List.map_append]
    refine List.nodup_append.2 ⟨h1, by simp, fun a ha c hc => ?_⟩
    simp only [List.map_cons, List.map_nil, List.mem_singleton] at hc
    subst hc
    exact fun e => g2 (e ▸ ha)
  rw [← e1] at hS
  exact (NHole.make h3 (fun k => by rw [h2 k, Z.look_new b g2 k]) hi hS).perm (List.Perm.swap _ _ _)
end
theorem NHole.back {E w : World} {M : List HA} {S : Nat → List Int → HA} {fr : List Int} {bm b : Nat} {N : Key → List Int} {n : Key} (hS : Sat E w (S b (N n) :: NHole S fr bm N n b :: M)) : Sat E w (NSets S fr bm N :: M) := by
  have h := NHole.shut hS
  have e : Z.updN N n (N n) = N := by
    funext k
    unfold Z.updN
    split
    · rename_i h; rw [h]
    · rfl
  rw [e] at h
  exact h
end Go.Proofs.YtbgnnjfpiblkmaaGreatDoor

namespace Go.Proofs.YtbgnnjfpiblkmaaGreatDoor
open Go
def lays171_ren : Go.Shelf.Ren := ⟨fun | 171 => 150 | 243 => 176 | 246 => 198 | 283 => 208 | 284 => 209 | 285 => 210 | 286 => 211 | 129 => 197 | 317 => 215 | 318 => 216 | 319 => 217 | 320 => 218 | 337 => 223 | 338 => 224 | n => n, fun | 3 => 3 | 9 => 9 | 2 => 2 | 4 => 4 | 171 => 284 | 0 => 0 | 53 => 188 | 37 => 30 | 5 => 5 | 173 => 286 | 212 => 291 | 51 => 148 | 20 => 20 | 213 => 292 | 46 => 169 | 232 => 297 | 233 => 298 | n => n, fun | 17 => 4 | 18 => 5 | 19 => 6 | n => n⟩
theorem lays171 : Go.Proofs.Lays.n171 Tryz.prog lays171_ren := ⟨
  by kernel_rfl, Tryz.func197.trans (congrArg some (by kernel_rfl)), Tryz.func150.trans (congrArg some (by kernel_rfl)), Tryz.func176.trans (congrArg some (by kernel_rfl)), Tryz.func198.trans (congrArg some (by kernel_rfl)),
  Tryz.func208.trans (congrArg some (by kernel_rfl)), Tryz.func209.trans (congrArg some (by kernel_rfl)), Tryz.func210.trans (congrArg some (by kernel_rfl)), Tryz.func211.trans (congrArg some (by kernel_rfl)),
  Tryz.func215.trans (congrArg some (by kernel_rfl)), Tryz.func216.trans (congrArg some (by kernel_rfl)), Tryz.func217.trans (congrArg some (by kernel_rfl)), Tryz.func218.trans (congrArg some (by kernel_rfl)),
  Tryz.func223.trans (congrArg some (by kernel_rfl)), Tryz.func224.trans (congrArg some (by kernel_rfl)), Tryz.underlying0, Tryz.isAgg0, Tryz.sizeOf0, Tryz.zeroValue0, Tryz.underlying2, Tryz.isAgg2, Tryz.sizeOf2,
  Tryz.zeroValue2, Tryz.underlying3, Tryz.isAgg3, Tryz.sizeOf3, Tryz.zeroValue3, Tryz.underlying4, Tryz.isAgg4, Tryz.sizeOf4, Tryz.zeroValue4, Tryz.underlying5, Tryz.isAgg5, Tryz.sizeOf5, Tryz.zeroValue5,
  Tryz.underlying9, Tryz.isAgg9, Tryz.sizeOf9, Tryz.zeroValue9, Tryz.underlying20, Tryz.isAgg20, Tryz.sizeOf20, Tryz.zeroValue20, Tryz.underlying30, Tryz.isAgg30, Tryz.sizeOf30, Tryz.zeroValue30, Tryz.underlying169,
  Tryz.isAgg169, Tryz.sizeOf169, Tryz.zeroValue169, Tryz.underlying148, Tryz.isAgg148, Tryz.sizeOf148, Tryz.zeroValue148, Tryz.underlying188, Tryz.isAgg188, Tryz.sizeOf188, Tryz.zeroValue188, Tryz.underlying284,
  Tryz.isAgg284, Tryz.sizeOf284, Tryz.zeroValue284, Tryz.underlying286, Tryz.isAgg286, Tryz.sizeOf286, Tryz.zeroValue286, Tryz.underlying291, Tryz.isAgg291, Tryz.sizeOf291, Tryz.zeroValue291, Tryz.underlying292,
  Tryz.isAgg292, Tryz.sizeOf292, Tryz.underlying297, Tryz.isAgg297, Tryz.sizeOf297, Tryz.zeroValue297, Tryz.underlying298, Tryz.isAgg298, Tryz.sizeOf298, Tryz.zeroValue298, by kernel_rfl, by kernel_rfl,
  by kernel_rfl⟩
end Go.Proofs.YtbgnnjfpiblkmaaGreatDoor

namespace Go.Proofs.YtbgnnjfpiblkmaaGreatDoor
open Go
theorem Itoa_ok [Pan] {w : World} {Q : Value → World → Prop} (i : Nat) (hi : i < 100) (hQ : Q (.string ⟨(Lib.decDigits i).toArray⟩) w) : Calls Tryz.prog 150 #[.int .i64 i] w (retP Q) := by
  refine (Any.strconv_Itoa_small lays171 i hi w).mono ?_
  rintro e w' ⟨rfl, rfl⟩
  exact hQ
end Go.Proofs.YtbgnnjfpiblkmaaGreatDoor

namespace Go.Proofs.YtbgnnjfpiblkmaaGreatDoor
open Go
namespace Z

def restOf (i : Nat) : Nat := if i < 2 then 4 else if i < 4 then 5 else if i < 8 then 6 else if i < 12 then 7 else if i < 20 then 8 else if i < 28 then 9 else if i < 44 then 10 else if i < 60 then 11 else if i < 92 then 12 else 13
def restN (s : Nat) : Nat := if s ≤ 4 then 0 else if s = 5 then 2 else if s = 6 then 4 else if s = 7 then 8 else if s = 8 then 12 else if s = 9 then 20 else if s = 10 then 28 else if s = 11 then 44 else if s = 12 then 60 else 92
def un (t i : Nat) : Nat := match t with
  | 0 => i | 1 => 192 + i | 2 => 384 + i | 3 => 396 + i | 4 => 408 + i | 5 => 420 + i | 6 => 432 + i / 768 | 7 => 448 + i | 8 => 450 + i / 8 | 9 => 466 + i / 8 | 10 => 482 | 11 => 483 + i | 12 => 485 + i / 8 | 13 => 501 + i / 8 | 14 => 517 | 15 => 518 + i / 64 | 16 => 518 + restOf i | _ => 532
def pl (t i : Nat) : Nat := match t with
  | 0 => 0 | 1 => 0 | 2 => 0 | 3 => 0 | 4 => 0 | 5 => 0 | 6 => i % 768 | 7 => 0 | 8 => i % 8 | 9 => i % 8 | 10 => i | 11 => 0 | 12 => i % 8 | 13 => i % 8 | 14 => i | 15 => i % 64 | 16 => i - restN (restOf i) | _ => i
theorem lit_len {p : Pr} (hp : p.Ok) : tabLen p 6 ≤ 12288 := tabLen_bd hp 6
theorem rest_bd : ∀ i : Fin 128, restOf i.val ≤ 13 := by decide +kernel
theorem un_bd {p : Pr} (hp : p.Ok) {t i : Nat} (ht : t < 18) (hi : i < tabLen p t) : un t i < 533 ∧ pl t i < 768 := by
  have h6 := lit_len hp
  match t with
  | 0 => change i < 192 at hi; simp only [un, pl]; omega
  | 1 => change i < 192 at hi; simp only [un, pl]; omega
  | 2 => change i < 12 at hi; simp only [un, pl]; omega
  | 3 => change i < 12 at hi; simp only [un, pl]; omega
  | 4 => change i < 12 at hi; simp only [un, pl]; omega
  | 5 => change i < 12 at hi; simp only [un, pl]; omega
  | 6 => simp only [un, pl]; omega
  | 7 => change i < 2 at hi; simp only [un, pl]; omega
  | 8 => change i < 128 at hi; simp only [un, pl]; omega
  | 9 => change i < 128 at hi; simp only [un, pl]; omega
  | 10 => change i < 256 at hi; simp only [un, pl]; omega
  | 11 => change i < 2 at hi; simp only [un, pl]; omega
  | 12 => change i < 128 at hi; simp only [un, pl]; omega
  | 13 => change i < 128 at hi; simp only [un, pl]; omega
  | 14 => change i < 256 at hi; simp only [un, pl]; omega
  | 15 => change i < 256 at hi; simp only [un, pl]; omega
  | 16 => change i < 128 at hi; have := rest_bd ⟨i, hi⟩; simp only [un, pl] at this ⊢; omega
  | 17 => change i < 16 at hi; simp only [un, pl]; omega
  | n + 18 => omega
def tabOf (u : Nat) : Nat := if u < 192 then 0 else if u < 384 then 1 else if u < 396 then 2 else if u < 408 then 3 else if u < 420 then 4 else if u < 432 then 5 else if u < 448 then 6 else if u < 450 then 7 else if u < 466 then 8 else if u < 482 then 9 else if u < 483 then 10 else if u < 485 then 11 else if u < 501 then 12 else if u < 517 then 13 else if u < 518 then 14 else if u < 522 then 15 else if u < 532 then 16 else 17
def ixOf (u a : Nat) : Nat := match tabOf u with
  | 0 => u | 1 => u - 192 | 2 => u - 384 | 3 => u - 396 | 4 => u - 408 | 5 => u - 420 | 6 => (u - 432) * 768 + a | 7 => u - 448 | 8 => (u - 450) * 8 + a | 9 => (u - 466) * 8 + a | 10 => a | 11 => u - 483 | 12 => (u - 485) * 8 + a | 13 => (u - 501) * 8 + a | 14 => a | 15 => (u - 518) * 64 + a | 16 => restN (u - 518) + a | _ => a
theorem rest_inv : ∀ i : Fin 128, tabOf (un 16 i.val) = 16 ∧ ixOf (un 16 i.val) (pl 16 i.val) = i.val := by decide +kernel
theorem un_inv {p : Pr} (hp : p.Ok) {t i : Nat} (ht : t < 18) (hi : i < tabLen p t) : tabOf (un t i) = t ∧ ixOf (un t i) (pl t i) = i := by
  have h6 := lit_len hp
  have key : ∀ {u a t' i'}, tabOf u = t' → (tabOf u = t' → ixOf u a = i') → tabOf u = t' ∧ ixOf u a = i' := fun h1 h2 => ⟨h1, h2 h1⟩
  match t with
  | 0 => change i < 192 at hi; refine key (by simp only [un]; rw [tabOf, if_pos (by omega)]) fun h => ?_; unfold ixOf; rw [h]; simp only [un, pl]
  | 1 => change i < 192 at hi; refine key (by simp only [un]; rw [tabOf, if_neg (by omega), if_pos (by omega)]) fun h => ?_; unfold ixOf; rw [h]; simp only [un, pl]; omega
  | 2 => change i < 12 at hi; refine key (by simp only [un]; rw [tabOf, if_neg (by omega), if_neg (by omega), if_pos (by omega)]) fun h => ?_; unfold ixOf; rw [h]; simp only [un, pl]; omega
  | 3 => change i < 12 at hi; refine key (by simp only [un]; rw [tabOf, if_neg (by omega), if_neg (by omega), if_neg (by omega), if_pos (by omega)]) fun h => ?_; unfold ixOf; rw [h]; simp only [un, pl]; omega
  | 4 => change i < 12 at hi; refine key (by simp only [un]; rw [tabOf, if_neg (by omega), if_neg (by omega), if_neg (by omega), if_neg (by omega), if_pos (by omega)]) fun h => ?_; unfold ixOf; rw [h]; simp only [un, pl]; omega
  | 5 => change i < 12 at hi; refine key (by simp only [un]; rw [tabOf, if_neg (by omega), if_neg (by omega), if_neg (by omega), if_neg (by omega), if_neg (by omega), if_pos (by omega)]) fun h => ?_; unfold ixOf; rw [h]; simp only [un, pl]; omega
  | 6 => refine key (by simp only [un]; rw [tabOf, if_neg (by omega), if_neg (by omega), if_neg (by omega), if_neg (by omega), if_neg (by omega), if_neg (by omega), if_pos (by omega)]) fun h => ?_; unfold ixOf; rw [h]; simp only [un, pl]; omega
  | 7 => change i < 2 at hi; refine key (by simp only [un]; rw [tabOf, if_neg (by omega), if_neg (by omega), if_neg (by omega), if_neg (by omega), if_neg (by omega), if_neg (by omega), if_neg (by omega), if_pos (by omega)]) fun h => ?_; unfold ixOf; rw [h]; simp only [un, pl]; omega
  | 8 => change i < 128 at hi; refine key (by simp only [un]; rw [tabOf, if_neg (by omega), if_neg (by omega), if_neg (by omega), if_neg (by omega), if_neg (by omega), if_neg (by omega), if_neg (by omega), if_neg (by omega), if_pos (by omega)]) fun h => ?_; unfold ixOf; rw [h]; simp only [un, pl]; omega
  | 9 => change i < 128 at hi; refine key (by simp only [un]; rw [tabOf, if_neg (by omega), if_neg (by omega), if_neg (by omega), if_neg (by omega), if_neg (by omega), if_neg (by omega), if_neg (by omega), if_neg (by omega), if_neg (by omega), if_pos (by omega)]) fun h => ?_; unfold ixOf; rw [h]; simp only [un, pl]; omega
  | 10 => change i < 256 at hi; refine key (by simp only [un]; rw [tabOf, if_neg (by omega), if_neg (by omega), if_neg (by omega), if_neg (by omega), if_neg (by omega), if_neg (by omega), if_neg (by omega), if_neg (by omega), if_neg (by omega), if_neg (by omega), if_pos (by omega)]) fun h => ?_; unfold ixOf; rw [h]; simp only [un, pl]
  | 11 => change i < 2 at hi; refine key (by simp only [un]; rw [tabOf, if_neg (by omega), if_neg (by omega), if_neg (by omega), if_neg (by omega), if_neg (by omega), if_neg (by omega), if_neg (by omega), if_neg (by omega), if_neg (by omega), if_neg (by omega), if_neg (by omega), if_pos (by omega)]) fun h => ?_; unfold ixOf; rw [h]; simp only [un, pl]; omega
  | 12 => change i < 128 at hi; refine key (by simp only [un]; rw [tabOf, if_neg (by omega), if_neg (by omega), if_neg (by omega), if_neg (by omega), if_neg (by omega), if_neg (by omega), if_neg (by omega), if_neg (by omega), if_neg (by omega), if_neg (by omega), if_neg (by omega), if_neg (by omega), if_pos (by omega)]) fun h => ?_; unfold ixOf; rw [h]; simp only [un, pl]; omega
  | 13 => change i < 128 at hi; refine key (by simp only [un]; rw [tabOf, if_neg (by omega), if_neg (by omega), if_neg (by omega), if_neg (by omega), if_neg (by omega), if_neg (by omega), if_neg (by omega), if_neg (by omega), if_neg (by omega), if_neg (by omega), if_neg (by omega), if_neg (by omega), if_neg (by omega), if_pos (by omega)]) fun h => ?_; unfold ixOf; rw [h]; simp only [un, pl]; omega
  | 14 => change i < 256 at hi; refine key (by simp only [un]; rw [tabOf, if_neg (by omega), if_neg (by omega), if_neg (by omega), if_neg (by omega), if_neg (by omega), if_neg (by omega), if_neg (by omega), if_neg (by omega), if_neg (by omega), if_neg (by omega), if_neg (by omega), if_neg (by omega), if_neg (by omega), if_neg (by omega), if_pos (by omega)]) fun h => ?_; unfold ixOf; rw [h]; simp only [un, pl]
  | 15 => change i < 256 at hi; refine key (by simp only [un]; rw [tabOf, if_neg (by omega), if_neg (by omega), if_neg (by omega), if_neg (by omega), if_neg (by omega), if_neg (by omega), if_neg (by omega), if_neg (by omega), if_neg (by omega), if_neg (by omega), if_neg (by omega), if_neg (by omega), if_neg (by omega), if_neg (by omega), if_neg (by omega), if_pos (by omega)]) fun h => ?_; unfold ixOf; rw [h]; simp only [un, pl]; omega
  | 16 => exact rest_inv ⟨i, hi⟩
  | 17 => change i < 16 at hi; refine key (by simp only [un]; rw [tabOf, if_neg (by omega), if_neg (by omega), if_neg (by omega), if_neg (by omega), if_neg (by omega), if_neg (by omega), if_neg (by omega), if_neg (by omega), if_neg (by omega), if_neg (by omega), if_neg (by omega), if_neg (by omega), if_neg (by omega), if_neg (by omega), if_neg (by omega), if_neg (by omega), if_neg (by omega)]) fun h => ?_; unfold ixOf; rw [h]; simp only [un, pl]
  | n + 18 => omega
theorem un_inj {p : Pr} (hp : p.Ok) {t i t' i' : Nat} (ht : t < 18) (hi : i < tabLen p t) (ht' : t' < 18) (hi' : i' < tabLen p t') (h1 : un t i = un t' i') (h2 : pl t i = pl t' i') : t = t' ∧ i = i' := by
  obtain ⟨a1, a2⟩ := un_inv hp ht hi
  obtain ⟨b1, b2⟩ := un_inv hp ht' hi'
  rw [h1] at a1
  rw [h1, h2] at a2
  exact ⟨a1.symm.trans b1, a2.symm.trans b2⟩

def nm (s : List UInt8) (l : List Int) : List UInt8 := l.foldl (fun s i => s ++ [32] ++ Lib.decDigits i.toNat) s
theorem nm_snoc (s : List UInt8) (l : List Int) (i : Int) : nm s (l ++ [i]) = nm s l ++ [32] ++ Lib.decDigits i.toNat := by simp [nm]
theorem dec_len : ∀ i : Fin 100, (Lib.decDigits i.val).length ≤ 2 := by decide +kernel
theorem nm_len : ∀ (l : List Int) (s : List UInt8), (∀ i ∈ l, 0 ≤ i ∧ i < 100) → (nm s l).length ≤ s.length + 3 * l.length
  | [], s, _ => by simp [nm]
  | i :: l, s, h => by
    have h1 := nm_len l (s ++ [32] ++ Lib.decDigits i.toNat) fun j hj => h j (by simp [hj])
    have hi := h i (by simp)
    have h2 := dec_len ⟨i.toNat, by omega⟩
    show (nm (s ++ [32] ++ Lib.decDigits i.toNat) l).length ≤ _
    simp only [List.length_append, List.length_cons, List.length_nil] at h1 h2 ⊢
    omega

abbrev Pre := Nat → List UInt8
def nameU (w : Pre) (u : Nat) : List UInt8 :=
  if u < 192 then nm (w 0) [(u / 16 : Nat), (u % 16 : Nat)] else if u < 384 then nm (w 1) [((u - 192) / 16 : Nat), ((u - 192) % 16 : Nat)]
  else if u < 396 then nm (w 2) [(u - 384 : Nat)] else if u < 408 then nm (w 3) [(u - 396 : Nat)] else if u < 420 then nm (w 4) [(u - 408 : Nat)] else if u < 432 then nm (w 5) [(u - 420 : Nat)]
  else if u < 448 then nm (w 6) [(u - 432 : Nat)]
  else if u < 449 then w 7 else if u < 450 then w 8 else if u < 466 then nm (w 9) [(u - 450 : Nat)] else if u < 482 then nm (w 10) [(u - 466 : Nat)] else if u < 483 then w 11
  else if u < 484 then w 12 else if u < 485 then w 13 else if u < 501 then nm (w 14) [(u - 485 : Nat)] else if u < 517 then nm (w 15) [(u - 501 : Nat)] else if u < 518 then w 16
  else if u < 522 then nm (w 17) [(u - 518 : Nat)] else if u < 532 then nm (w 18) [(u - 518 : Nat)] else w 19
def nums : List UInt8 → List Nat → List Nat
  | [], l => l
  | c :: s, l => if c = 32 then nums s (0 :: l) else match l with
    | [] => nums s l
    | a :: l => nums s ((a * 10 + (c.toNat - 48)) :: l)
def numOf (k : Nat) (l : List Nat) : Nat := match k, l with
  | 0, [b, a] => a * 16 + b | 1, [b, a] => 192 + a * 16 + b | 2, [a] => 384 + a | 3, [a] => 396 + a | 4, [a] => 408 + a | 5, [a] => 420 + a | 6, [a] => 432 + a | 7, [] => 448 | 8, [] => 449 | 9, [a] => 450 + a | 10, [a] => 466 + a | 11, [] => 482
  | 12, [] => 483 | 13, [] => 484 | 14, [a] => 485 + a | 15, [a] => 501 + a | 16, [] => 517 | 17, [a] => 518 + a | 18, [a] => 518 + a | 19, [] => 532 | _, _ => 1000
def strip : List UInt8 → List UInt8 → Option (List UInt8)
  | [], l => some l
  | _ :: _, [] => none
  | a :: p, b :: l => if a = b then strip p l else none
def inv (w : Pre) (l : List UInt8) : Nat → Nat
  | 0 => 1000
  | k + 1 => match strip (w k) l with
    | none => inv w l k
    | some r => match r with
      | [] => if numOf k [] < 1000 then numOf k [] else inv w l k
      | c :: s => if c = 32 ∧ numOf k (nums (c :: s) []) < 1000 then numOf k (nums (c :: s) []) else inv w l k
structure PreOk (w : Pre) : Prop where
  inv : ∀ u : Fin 533, inv w (nameU w u.val) 20 = u.val
  len : ∀ u : Fin 533, (nameU w u.val).length ≤ 1000
theorem PreOk.inj {w : Pre} (h : PreOk w) {u v : Nat} (hu : u < 533) (hv : v < 533) (e : nameU w u = nameU w v) : u = v := by
  have h1 := h.inv ⟨u, hu⟩
  have h2 := h.inv ⟨v, hv⟩
  simp only at h1 h2
  rw [e] at h1
  exact h1.symm.trans h2
def keyU (w : Pre) (u : Nat) : Key := if h : (nameU w u).length ≤ 1000 then ⟨nameU w u, h⟩ else ⟨[], by simp⟩
theorem PreOk.key {w : Pre} (h : PreOk w) {u : Nat} (hu : u < 533) : (keyU w u).1 = nameU w u := by
  rw [keyU, dif_pos (h.len ⟨u, hu⟩)]

structure Rel (w : Pre) (n : Nat) (p : Pr) (N : Key → List Int) (T : Nat → List Int) : Prop where
  len : ∀ k, (N k).length = n
  fine : ∀ k, B.Fine (N k)
  get : ∀ t, t < 18 → ∀ i, i < tabLen p t → (N (keyU w (un t i)))[pl t i]? = (T t)[i]?
theorem Rel.new (w : Pre) {n : Nat} (hn : 768 ≤ n) {p : Pr} (hp : p.Ok) : Rel w n p (fun _ => List.replicate n 1024) (T0 p) :=
  ⟨fun _ => List.length_replicate, fun _ => B.Fine.new _, fun t ht i hi => by
    have := (un_bd hp ht hi).2
    rw [T0, List.getElem?_replicate, List.getElem?_replicate, if_pos (by omega), if_pos hi]⟩
theorem Rel.upd {w : Pre} (hw : PreOk w) {n : Nat} (hn : 768 ≤ n) {p : Pr} (hp : p.Ok) {N : Key → List Int} {T : Nat → List Int} (h : Rel w n p N T) (hT : ∀ t, t < 18 → (T t).length = tabLen p t) {t i : Nat} (ht : t < 18) (hi : i < tabLen p t) (v : Int) (hv : 31 ≤ v ∧ v ≤ 2017) :
    Rel w n p (updN N (keyU w (un t i)) ((N (keyU w (un t i))).set (pl t i) v)) (upd T t ((T t).set i v)) := by
  have hu := un_bd hp ht hi
  refine ⟨fun k => ?_, fun k => ?_, fun t' ht' i' hi' => ?_⟩
  · unfold updN
    split
    · rw [List.length_set]; exact h.len _
    · exact h.len k
  · unfold updN
    split
    · exact (h.fine _).set _ hv
    · exact h.fine k
  · have hu' := un_bd hp ht' hi'
    have hg := h.get t' ht' i' hi'
    unfold updN Z.upd
    by_cases hk : keyU w (un t' i') = keyU w (un t i)
    · rw [if_pos hk]
      have eu : un t' i' = un t i := hw.inj hu'.1 hu.1 (by rw [← hw.key hu'.1, ← hw.key hu.1, hk])
      rw [List.getElem?_set]
      by_cases hpl : pl t i = pl t' i'
      · obtain ⟨rfl, rfl⟩ := un_inj hp ht' hi' ht hi eu hpl.symm
        rw [if_pos hpl, if_pos (by rw [h.len]; omega), if_pos rfl, List.getElem?_set, if_pos rfl, if_pos (by rw [hT t' ht']; exact hi')]
      · rw [if_neg hpl, ← hk, hg]
        by_cases ht2 : t' = t
        · subst ht2
          rw [if_pos rfl, List.getElem?_set, if_neg]
          intro e; subst e; exact hpl rfl
        · rw [if_neg ht2]
    · rw [if_neg hk, hg]
      by_cases ht2 : t' = t
      · subst ht2
        rw [if_pos rfl, List.getElem?_set, if_neg]
        intro e; subst e; exact hk rfl
      · rw [if_neg ht2]

structure At (w : Pre) (p : Pr) (s : List UInt8) (j : Int) (t : Nat) (i : Int) : Prop where
  ht : t < 18
  i0 : 0 ≤ i
  i1 : i < tabLen p t
  hs : nameU w (un t i.toNat) = s
  hj : (pl t i.toNat : Int) = j
section
variable (w : Pre) (p : Pr)
theorem at_0 {n k : Int} (h : 0 ≤ n ∧ n < 12) (hk : 0 ≤ k ∧ k < 16) : At w p (nm (w 0) [n, k]) 0 0 (n * 16 + k) := by
  obtain ⟨a, rfl⟩ : ∃ a : Nat, n = a := ⟨n.toNat, by omega⟩
  obtain ⟨b, rfl⟩ : ∃ a : Nat, k = a := ⟨k.toNat, by omega⟩
  have e : ((a : Int) * 16 + b).toNat = a * 16 + b := by omega
  refine ⟨by decide, by omega, by show _ < ((192 : Nat) : Int); omega, ?_, by rw [e]; rfl⟩
  rw [e]
  simp only [un]
  rw [nameU, if_pos (by omega), show (a * 16 + b) / 16 = a from by omega, show (a * 16 + b) % 16 = b from by omega]
theorem at_1 {n k : Int} (h : 0 ≤ n ∧ n < 12) (hk : 0 ≤ k ∧ k < 16) : At w p (nm (w 1) [n, k]) 0 1 (n * 16 + k) := by
  obtain ⟨a, rfl⟩ : ∃ a : Nat, n = a := ⟨n.toNat, by omega⟩
  obtain ⟨b, rfl⟩ : ∃ a : Nat, k = a := ⟨k.toNat, by omega⟩
  have e : ((a : Int) * 16 + b).toNat = a * 16 + b := by omega
  refine ⟨by decide, by omega, by show _ < ((192 : Nat) : Int); omega, ?_, by rw [e]; rfl⟩
  rw [e]
  simp only [un]
  rw [nameU, if_neg (by omega), if_pos (by omega), show (192 + (a * 16 + b) - 192) / 16 = a from by omega, show (192 + (a * 16 + b) - 192) % 16 = b from by omega]
theorem at_2 {n : Int} (h : 0 ≤ n ∧ n < 12) : At w p (nm (w 2) [n]) 0 2 n := by
  obtain ⟨a, rfl⟩ : ∃ a : Nat, n = a := ⟨n.toNat, by omega⟩
  refine ⟨by decide, by omega, by show _ < ((12 : Nat) : Int); omega, ?_, rfl⟩
  rw [Int.toNat_natCast]
  simp only [un]
  rw [nameU, if_neg (by omega), if_neg (by omega), if_pos (by omega), show 384 + a - 384 = a from by omega]
theorem at_3 {n : Int} (h : 0 ≤ n ∧ n < 12) : At w p (nm (w 3) [n]) 0 3 n := by
  obtain ⟨a, rfl⟩ : ∃ a : Nat, n = a := ⟨n.toNat, by omega⟩
  refine ⟨by decide, by omega, by show _ < ((12 : Nat) : Int); omega, ?_, rfl⟩
  rw [Int.toNat_natCast]
  simp only [un]
  rw [nameU, if_neg (by omega), if_neg (by omega), if_neg (by omega), if_pos (by omega), show 396 + a - 396 = a from by omega]
theorem at_4 {n : Int} (h : 0 ≤ n ∧ n < 12) : At w p (nm (w 4) [n]) 0 4 n := by
  obtain ⟨a, rfl⟩ : ∃ a : Nat, n = a := ⟨n.toNat, by omega⟩
  refine ⟨by decide, by omega, by show _ < ((12 : Nat) : Int); omega, ?_, rfl⟩
  rw [Int.toNat_natCast]
  simp only [un]
  rw [nameU, if_neg (by omega), if_neg (by omega), if_neg (by omega), if_neg (by omega), if_pos (by omega), show 408 + a - 408 = a from by omega]
theorem at_5 {n : Int} (h : 0 ≤ n ∧ n < 12) : At w p (nm (w 5) [n]) 0 5 n := by
  obtain ⟨a, rfl⟩ : ∃ a : Nat, n = a := ⟨n.toNat, by omega⟩
  refine ⟨by decide, by omega, by show _ < ((12 : Nat) : Int); omega, ?_, rfl⟩
  rw [Int.toNat_natCast]
  simp only [un]
  rw [nameU, if_neg (by omega), if_neg (by omega), if_neg (by omega), if_neg (by omega), if_neg (by omega), if_pos (by omega), show 420 + a - 420 = a from by omega]
theorem at_6 {k j : Int} (h : 0 ≤ k ∧ 768 * k + 768 ≤ tabLen p 6) (hk : k < 16) (hj : 0 ≤ j ∧ j < 768) : At w p (nm (w 6) [k]) j 6 (768 * k + j) := by
  obtain ⟨a, rfl⟩ : ∃ a : Nat, k = a := ⟨k.toNat, by omega⟩
  obtain ⟨b, rfl⟩ : ∃ a : Nat, j = a := ⟨j.toNat, by omega⟩
  have e : (768 * (a : Int) + b).toNat = 768 * a + b := by omega
  refine ⟨by decide, by omega, by omega, ?_, ?_⟩
  · rw [e]
    simp only [un]
    rw [nameU, if_neg (by omega), if_neg (by omega), if_neg (by omega), if_neg (by omega), if_neg (by omega), if_neg (by omega), if_pos (by omega), show 432 + (768 * a + b) / 768 - 432 = a from by omega]
  · rw [e]
    simp only [pl]
    omega
theorem at_7_0 : At w p (w 7) 0 7 0 := by
  refine ⟨by decide, by omega, by show _ < ((2 : Nat) : Int); omega, ?_, rfl⟩
  show nameU w 448 = _
  rw [nameU, if_neg (by omega), if_neg (by omega), if_neg (by omega), if_neg (by omega), if_neg (by omega), if_neg (by omega), if_neg (by omega), if_pos (by omega)]
theorem at_7_1 : At w p (w 8) 0 7 1 := by
  refine ⟨by decide, by omega, by show _ < ((2 : Nat) : Int); omega, ?_, rfl⟩
  show nameU w 449 = _
  rw [nameU, if_neg (by omega), if_neg (by omega), if_neg (by omega), if_neg (by omega), if_neg (by omega), if_neg (by omega), if_neg (by omega), if_neg (by omega), if_pos (by omega)]
theorem at_8 {k j : Int} (hk : 0 ≤ k ∧ k < 16) (hj : 0 ≤ j ∧ j < 8) : At w p (nm (w 9) [k]) j 8 (8 * k + j) := by
  obtain ⟨a, rfl⟩ : ∃ a : Nat, k = a := ⟨k.toNat, by omega⟩
  obtain ⟨b, rfl⟩ : ∃ a : Nat, j = a := ⟨j.toNat, by omega⟩
  have e : (8 * (a : Int) + b).toNat = 8 * a + b := by omega
  refine ⟨by decide, by omega, by show _ < ((128 : Nat) : Int); omega, ?_, ?_⟩
  · rw [e]
    simp only [un]
    rw [nameU, if_neg (by omega), if_neg (by omega), if_neg (by omega), if_neg (by omega), if_neg (by omega), if_neg (by omega), if_neg (by omega), if_neg (by omega), if_neg (by omega), if_pos (by omega), show 450 + (8 * a + b) / 8 - 450 = a from by omega]
  · rw [e]
    simp only [pl]
    omega
theorem at_9 {k j : Int} (hk : 0 ≤ k ∧ k < 16) (hj : 0 ≤ j ∧ j < 8) : At w p (nm (w 10) [k]) j 9 (8 * k + j) := by
  obtain ⟨a, rfl⟩ : ∃ a : Nat, k = a := ⟨k.toNat, by omega⟩
  obtain ⟨b, rfl⟩ : ∃ a : Nat, j = a := ⟨j.toNat, by omega⟩
  have e : (8 * (a : Int) + b).toNat = 8 * a + b := by omega
  refine ⟨by decide, by omega, by show _ < ((128 : Nat) : Int); omega, ?_, ?_⟩
  · rw [e]
    simp only [un]
    rw [nameU, if_neg (by omega), if_neg (by omega), if_neg (by omega), if_neg (by omega), if_neg (by omega), if_neg (by omega), if_neg (by omega), if_neg (by omega), if_neg (by omega), if_neg (by omega), if_pos (by omega), show 466 + (8 * a + b) / 8 - 466 = a from by omega]
  · rw [e]
    simp only [pl]
    omega
theorem at_10 {j : Int} (hj : 0 ≤ j ∧ j < 256) : At w p (w 11) j 10 (0 + j) := by
  obtain ⟨b, rfl⟩ : ∃ a : Nat, j = a := ⟨j.toNat, by omega⟩
  rw [Int.zero_add]
  refine ⟨by decide, by omega, by show _ < ((256 : Nat) : Int); omega, ?_, ?_⟩
  · show nameU w 482 = _
    rw [nameU, if_neg (by omega), if_neg (by omega), if_neg (by omega), if_neg (by omega), if_neg (by omega), if_neg (by omega), if_neg (by omega), if_neg (by omega), if_neg (by omega), if_neg (by omega), if_neg (by omega), if_pos (by omega)]
  · rw [Int.toNat_natCast]
    simp only [pl]
theorem at_11_0 : At w p (w 12) 0 11 0 := by
  refine ⟨by decide, by omega, by show _ < ((2 : Nat) : Int); omega, ?_, rfl⟩
  show nameU w 483 = _
  rw [nameU, if_neg (by omega), if_neg (by omega), if_neg (by omega), if_neg (by omega), if_neg (by omega), if_neg (by omega), if_neg (by omega), if_neg (by omega), if_neg (by omega), if_neg (by omega), if_neg (by omega), if_neg (by omega), if_pos (by omega)]
theorem at_11_1 : At w p (w 13) 0 11 1 := by
  refine ⟨by decide, by omega, by show _ < ((2 : Nat) : Int); omega, ?_, rfl⟩
  show nameU w 484 = _
  rw [nameU, if_neg (by omega), if_neg (by omega), if_neg (by omega), if_neg (by omega), if_neg (by omega), if_neg (by omega), if_neg (by omega), if_neg (by omega), if_neg (by omega), if_neg (by omega), if_neg (by omega), if_neg (by omega), if_neg (by omega), if_pos (by omega)]
theorem at_12 {k j : Int} (hk : 0 ≤ k ∧ k < 16) (hj : 0 ≤ j ∧ j < 8) : At w p (nm (w 14) [k]) j 12 (8 * k + j) := by
  obtain ⟨a, rfl⟩ : ∃ a : Nat, k = a := ⟨k.toNat, by omega⟩
  obtain ⟨b, rfl⟩ : ∃ a : Nat, j = a := ⟨j.toNat, by omega⟩
  have e : (8 * (a : Int) + b).toNat = 8 * a + b := by omega
  refine ⟨by decide, by omega, by show _ < ((128 : Nat) : Int); omega, ?_, ?_⟩
  · rw [e]
    simp only [un]
    rw [nameU, if_neg (by omega), if_neg (by omega), if_neg (by omega), if_neg (by omega), if_neg (by omega), if_neg (by omega), if_neg (by omega), if_neg (by omega), if_neg (by omega), if_neg (by omega), if_neg (by omega), if_neg (by omega), if_neg (by omega), if_neg (by omega), if_pos (by omega), show 485 + (8 * a + b) / 8 - 485 = a from by omega]
  · rw [e]
    simp only [pl]
    omega
theorem at_13 {k j : Int} (hk : 0 ≤ k ∧ k < 16) (hj : 0 ≤ j ∧ j < 8) : At w p (nm (w 15) [k]) j 13 (8 * k + j) := by
  obtain ⟨a, rfl⟩ : ∃ a : Nat, k = a := ⟨k.toNat, by omega⟩
  obtain ⟨b, rfl⟩ : ∃ a : Nat, j = a := ⟨j.toNat, by omega⟩
  have e : (8 * (a : Int) + b).toNat = 8 * a + b := by omega
  refine ⟨by decide, by omega, by show _ < ((128 : Nat) : Int); omega, ?_, ?_⟩
  · rw [e]
    simp only [un]
    rw [nameU, if_neg (by omega), if_neg (by omega), if_neg (by omega), if_neg (by omega), if_neg (by omega), if_neg (by omega), if_neg (by omega), if_neg (by omega), if_neg (by omega), if_neg (by omega), if_neg (by omega), if_neg (by omega), if_neg (by omega), if_neg (by omega), if_neg (by omega), if_pos (by omega), show 501 + (8 * a + b) / 8 - 501 = a from by omega]
  · rw [e]
    simp only [pl]
    omega
theorem at_14 {j : Int} (hj : 0 ≤ j ∧ j < 256) : At w p (w 16) j 14 (0 + j) := by
  obtain ⟨b, rfl⟩ : ∃ a : Nat, j = a := ⟨j.toNat, by omega⟩
  rw [Int.zero_add]
  refine ⟨by decide, by omega, by show _ < ((256 : Nat) : Int); omega, ?_, ?_⟩
  · show nameU w 517 = _
    rw [nameU, if_neg (by omega), if_neg (by omega), if_neg (by omega), if_neg (by omega), if_neg (by omega), if_neg (by omega), if_neg (by omega), if_neg (by omega), if_neg (by omega), if_neg (by omega), if_neg (by omega), if_neg (by omega), if_neg (by omega), if_neg (by omega), if_neg (by omega), if_neg (by omega), if_pos (by omega)]
  · rw [Int.toNat_natCast]
    simp only [pl]
theorem at_15 {k j : Int} (hk : 0 ≤ k ∧ k < 4) (hj : 0 ≤ j ∧ j < 64) : At w p (nm (w 17) [k]) j 15 (64 * k + j) := by
  obtain ⟨a, rfl⟩ : ∃ a : Nat, k = a := ⟨k.toNat, by omega⟩
  obtain ⟨b, rfl⟩ : ∃ a : Nat, j = a := ⟨j.toNat, by omega⟩
  have e : (64 * (a : Int) + b).toNat = 64 * a + b := by omega
  refine ⟨by decide, by omega, by show _ < ((256 : Nat) : Int); omega, ?_, ?_⟩
  · rw [e]
    simp only [un]
    rw [nameU, if_neg (by omega), if_neg (by omega), if_neg (by omega), if_neg (by omega), if_neg (by omega), if_neg (by omega), if_neg (by omega), if_neg (by omega), if_neg (by omega), if_neg (by omega), if_neg (by omega), if_neg (by omega), if_neg (by omega), if_neg (by omega), if_neg (by omega), if_neg (by omega), if_neg (by omega), if_pos (by omega), show 518 + (64 * a + b) / 64 - 518 = a from by omega]
  · rw [e]
    simp only [pl]
    omega
theorem rest_of : ∀ s : Fin 10, ∀ j : Fin 32, (j.val : Int) < 2 ^ bitsN ((s.val : Int) + 4) → restOf ((restAt ((s.val : Int) + 4)).toNat + j.val) = s.val + 4 ∧ restN (s.val + 4) = (restAt ((s.val : Int) + 4)).toNat := by decide +kernel
theorem at_16 {k j : Int} (hk : 4 ≤ k ∧ k ≤ 13) (hj : 0 ≤ j ∧ j < 2 ^ bitsN k) : At w p (nm (w 18) [k]) j 16 (restAt k + j) := by
  obtain ⟨c, rfl⟩ : ∃ c : Nat, k = (c : Int) + 4 := ⟨(k - 4).toNat, by omega⟩
  obtain ⟨b, rfl⟩ : ∃ a : Nat, j = a := ⟨j.toNat, by omega⟩
  have hl := rest_law ((c : Int) + 4) hk.1 hk.2
  have h5 : (2 : Int) ^ bitsN ((c : Int) + 4) ≤ 2 ^ 5 := two_le' hl.2.2.1
  have e5 : (2 : Int) ^ 5 = 32 := by decide
  have e : (restAt ((c : Int) + 4) + (b : Int)).toNat = (restAt ((c : Int) + 4)).toNat + b := by omega
  have hr := rest_of ⟨c, by omega⟩ ⟨b, by omega⟩ hj.2
  simp only at hr
  refine ⟨by decide, by omega, by show _ < ((128 : Nat) : Int); omega, ?_, ?_⟩
  · rw [e]
    simp only [un]
    rw [hr.1, nameU, if_neg (by omega), if_neg (by omega), if_neg (by omega), if_neg (by omega), if_neg (by omega), if_neg (by omega), if_neg (by omega), if_neg (by omega), if_neg (by omega), if_neg (by omega), if_neg (by omega), if_neg (by omega), if_neg (by omega), if_neg (by omega), if_neg (by omega), if_neg (by omega), if_neg (by omega), if_neg (by omega), if_pos (by omega), show ((518 + (c + 4) - 518 : Nat) : Int) = (c : Int) + 4 from by omega]
  · rw [e]
    simp only [pl]
    rw [hr.1, hr.2]
    omega
theorem at_17 {j : Int} (hj : 0 ≤ j ∧ j < 16) : At w p (w 19) j 17 (0 + j) := by
  obtain ⟨b, rfl⟩ : ∃ a : Nat, j = a := ⟨j.toNat, by omega⟩
  rw [Int.zero_add]
  refine ⟨by decide, by omega, by show _ < ((16 : Nat) : Int); omega, ?_, ?_⟩
  · show nameU w 532 = _
    rw [nameU, if_neg (by omega), if_neg (by omega), if_neg (by omega), if_neg (by omega), if_neg (by omega), if_neg (by omega), if_neg (by omega), if_neg (by omega), if_neg (by omega), if_neg (by omega), if_neg (by omega), if_neg (by omega), if_neg (by omega), if_neg (by omega), if_neg (by omega), if_neg (by omega), if_neg (by omega), if_neg (by omega), if_neg (by omega)]
  · rw [Int.toNat_natCast]
    simp only [pl]
end
def pre14 : Pre := fun k => match k with
  | 0 => [73, 115, 77, 97, 116, 99, 104] | 1 => [73, 115, 76, 111, 110, 103] | 2 => [73, 115, 82, 101, 112] | 3 => [73, 115, 82, 101, 112, 48] | 4 => [73, 115, 82, 101, 112, 49] | 5 => [73, 115, 82, 101, 112, 50]
  | 6 => [76, 105, 116, 101, 114, 97, 108]
  | 7 => [77, 97, 116, 99, 104, 32, 67, 104, 111, 105, 99, 101] | 8 => [77, 97, 116, 99, 104, 32, 67, 104, 111, 105, 99, 101, 50] | 9 => [77, 97, 116, 99, 104, 32, 76, 111, 119] | 10 => [77, 97, 116, 99, 104, 32, 77, 105, 100] | 11 => [77, 97, 116, 99, 104, 32, 72, 105, 103, 104]
  | 12 => [82, 101, 112, 32, 67, 104, 111, 105, 99, 101] | 13 => [82, 101, 112, 32, 67, 104, 111, 105, 99, 101, 50] | 14 => [82, 101, 112, 32, 76, 111, 119] | 15 => [82, 101, 112, 32, 77, 105, 100] | 16 => [82, 101, 112, 32, 72, 105, 103, 104]
  | 17 => [83, 108, 111, 116] | 18 => [82, 101, 115, 116] | _ => [65, 108, 105, 103, 110]
theorem pre14_inv : ∀ u : Fin 533, inv pre14 (nameU pre14 u.val) 20 = u.val := by decide +kernel
theorem pre14_len : ∀ u : Fin 533, (nameU pre14 u.val).length ≤ 1000 := by decide +kernel
theorem pre14_ok : PreOk pre14 := ⟨pre14_inv, pre14_len⟩

end Z
end Go.Proofs.YtbgnnjfpiblkmaaGreatDoor

namespace Go.Proofs.YtbgnnjfpiblkmaaGreatDoor
open Go
attribute [local irreducible] oMv oV oU oCall oCallV oBi oBin oUn oLoad oStore oNil oFld oField oIdx oIndex oPick oAlloc oBox oBuild oBs oConv oMk oSl oExt oFn oIface oMap oLook oMapUp oRange oNext oEntry oInv oAssert oPanic oRes pN pA pL pDr pIf gA pGd

namespace Z
end Z

section
variable {E w : World} {M : List HA} {Q : Value → World → Prop}

theorem R14two_ok (n : Nat) (hn : n ≤ 32) (hQ : Q (.int .i64 (2 ^ n)) w) : Calls Tryz.prog 149 #[.int .i64 n] w (retP Q) := by
  refine pithref14_two.calls ?_
  unfold pithref14_two.F
  refine ⟨fun a k w' => ∃ i : Nat, a = .int .i64 (2 ^ i) ∧ k = .int .i64 i ∧ i ≤ n ∧ w' = w, fun _ k _ => (n - RowKit.intOf k).toNat, ⟨0, rfl, rfl, by omega, rfl⟩, ?_⟩
  rintro _ _ _ w1 ⟨i, rfl, rfl, h3, rfl⟩
  by_cases hlt : i < n
  · have hp : (2 : Int) ^ i ≤ 2 ^ 31 := two_le' (by omega)
    have e2 : (2 : Int) ^ 31 = 2147483648 := by decide
    have hp0 : (0 : Int) < 2 ^ i := Int.pow_pos (by omega)
    repeat' (first | (refine pN_lss_s ?_ ?_ <;> intro hc <;> try (exfalso; omega)) | refine pIf_t ?_ | refine pN_v (hk := ?_) | fail)
    refine ⟨⟨i + 1, ?_, rfl, hlt, rfl⟩, by simp [RowKit.intOf]; omega⟩
    rw [Int.pow_succ, Int.mul_comm]
  · obtain rfl : i = n := by omega
    repeat' (first | (refine pN_lss_s ?_ ?_ <;> intro hc <;> try (exfalso; omega)) | refine pIf_f ?_ | fail)
    exact hQ

theorem R14name_ok {s0 : Sl} (nme : List UInt8) (l : List Int) (hS : Sat E w M) [hl : Rds cd_int M s0 l] (hi : ∀ i ∈ l, 0 ≤ i ∧ i < 100) (hb : nme.length + 3 * l.length ≤ 1000000) (hQ : ∀ w, Sat E w M → Q (.string ⟨(Z.nm nme l).toArray⟩) w) :
    Calls Tryz.prog 108 #[.string ⟨nme.toArray⟩, .slice s0.a l.length s0.c] w (retP Q) := by
  refine pithref14_name.calls ?_
  unfold pithref14_name.F
  refine ⟨fun a k w' => ∃ i : Nat, a = .string ⟨(Z.nm nme (l.take i)).toArray⟩ ∧ k = .int .i64 i ∧ i ≤ l.length ∧ Sat E w' M, fun _ k _ => (l.length - RowKit.intOf k).toNat, ⟨0, rfl, rfl, by omega, hS⟩, ?_⟩
  clear hS
  rintro _ _ _ w1 ⟨i, rfl, rfl, h3, hS⟩
  by_cases hlt : i < l.length
  · obtain ⟨v, hv⟩ : ∃ v, l[i]? = some v := ⟨_, List.getElem?_eq_getElem hlt⟩
    have hvi := hi v (List.mem_of_getElem? hv)
    obtain ⟨v, rfl⟩ : ∃ m : Nat, v = m := ⟨v.toNat, by omega⟩
    have hlen := Z.nm_len (l.take i) nme fun j hj => hi j (List.mem_of_mem_take hj)
    rw [List.length_take] at hlen
    have hd := Z.dec_len ⟨v, by omega⟩
    simp only at hd
    have e : Z.nm nme (l.take (i + 1)) = Z.nm nme (l.take i) ++ [32] ++ Lib.decDigits v := by
      rw [List.take_add_one, hv]; exact Z.nm_snoc _ _ _
    repeat' (first | refine pN_sadd (by simp only [List.length_append, List.length_cons, List.length_nil]; omega) ?_ | (refine pc_strconv_Itoa (Itoa_ok v (by omega) ?_)) | (refine pN_lss_s ?_ ?_ <;> intro hc <;> try (exfalso; omega)) | refine pIf_t ?_ | refine pN_ld1 ha hS ?_ | refine pN_ixk hS _ (by first | rfl | (exact (Int.toNat_of_nonneg (by omega)).symm)) (by first | rfl | omega | simpa only [go_sem] using True.intro | (simp only [go_sem]; omega)) (by assumption) fun a ha hel => ?_ | refine pN_v (hk := ?_) | fail)
    refine ⟨⟨i + 1, ?_, rfl, hlt, hS⟩, by simp [RowKit.intOf]; omega⟩
    rw [e]
  · obtain rfl : i = l.length := by omega
    rw [List.take_length]
    repeat' (first | (refine pN_lss_s ?_ ?_ <;> intro hc <;> try (exfalso; omega)) | refine pIf_f ?_ | refine pN_v (hk := ?_) | fail)
    exact hQ _ hS

end

end Go.Proofs.YtbgnnjfpiblkmaaGreatDoor

namespace Go.Proofs.YtbgnnjfpiblkmaaGreatDoor
open Go
set_option maxRecDepth 100000

def pithref06_Set_At.F [Pan] (x0 x1 : Value) (w : World) (Q : Value → World → Prop) : Prop :=
 pN Tryz.prog (oBin .lss 3 (.tmp 6) (.const (.int .i64 0)) x1 (.int .i64 0)) w fun x7 w1 =>
 pGd (gB x7 false) (pN Tryz.prog (oMv x1) w1) w1 fun x9 w2 =>
 pGd (gB x7 false) (pN Tryz.prog (oMv x0) w2) w2 fun x10 w3 =>
 pGd (gB x7 false) (pN Tryz.prog (oNil x10) w3) w3 fun x11 w4 =>
 pGd (gB x7 false) (pN Tryz.prog (oFld 219 x11 1) w4) w4 fun x12 w5 =>
 pGd (gB x7 false) (pN Tryz.prog (oLoad 217 x12) w5) w5 fun x13 w6 =>
 pGd (gB x7 false) (pN Tryz.prog (oBi .len #[217] 3 [false] [x13]) w6) w6 fun x14 w7 =>
 pGd (gB x7 false) (pN Tryz.prog (oBin .geq 3 (.tmp 9) (.tmp 14) x9 x14) w7) w7 fun x15 w8 =>
 pN Tryz.prog (oPick x7 (.bool true) x15) w8 fun x16 w9 =>
 pIf x16
 (Q (.tuple #[(.int .i64 0), (.int .i64 7)]) w9)
 (pN Tryz.prog (oNil x0) w9 fun x18 w10 =>
 pN Tryz.prog (oFld 219 x18 1) w10 fun x19 w11 =>
 pN Tryz.prog (oLoad 217 x19) w11 fun x20 w12 =>
 pN Tryz.prog (oIdx 217 x20 x1) w12 fun x22 w13 =>
 pN Tryz.prog (oLoad 3 x22) w13 fun x23 w14 =>
 Q (.tuple #[x23, (.int .i64 0)]) w14)
theorem pithref06_Set_At.calls [Pan] {x0 x1 : Value} {w : World} {Q : Value → World → Prop} (h : pithref06_Set_At.F x0 x1 w Q) : Calls Tryz.prog 74 #[x0, x1] w (retP Q) := calls_lift mixed .z [x0, x1] Tryz.func74 (by kernel_rfl) (by kernel_rfl) h

def pithref06_Bound.F [Pan] (x0 x1 : Value) (w : World) (Q : Value → World → Prop) : Prop :=
 pN Tryz.prog (oBin .quo 148 (.tmp 5) (.const (.int .u32 2048)) x0 (.int .u32 2048)) w fun x6 w1 =>
 pN Tryz.prog (oCall 123 [x1]) w1 fun x8 w2 =>
 pN Tryz.prog (oConv 3 148 x8) w2 fun x9 w3 =>
 pN Tryz.prog (oBin .mul 148 (.tmp 6) (.tmp 9) x6 x9) w3 fun x10 w4 =>
 Q x10 w4
theorem pithref06_Bound.calls [Pan] {x0 x1 : Value} {w : World} {Q : Value → World → Prop} (h : pithref06_Bound.F x0 x1 w Q) : Calls Tryz.prog 116 #[x0, x1] w (retP Q) := calls_lift mixed .z [x0, x1] Tryz.func116 (by kernel_rfl) (by kernel_rfl) h

def pithref06_Set_Turn.H : Hints := { cut := fun  | _ => none, loop := fun  | _ => ([], 0), order := fun | 3 => [(0, 0), (1, 1), (2, 3), (3, 7), (4, 15), (5, 31), (6, 63), (7, 127), (8, 255), (9, 511), (10, 1023), (11, 2047), (12, 4095), (13, 8191), (14, 16383), (15, 32767)] | _ => [] }
def pithref06_Set_Turn.F [Pan] (x0 x1 x2 : Value) (w : World) (Q : Value → World → Prop) : Prop :=
 pN Tryz.prog (oBin .lss 3 (.tmp 7) (.const (.int .i64 0)) x1 (.int .i64 0)) w fun x8 w1 =>
 pGd (gB x8 false) (pN Tryz.prog (oMv x1) w1) w1 fun x10 w2 =>
 pGd (gB x8 false) (pN Tryz.prog (oMv x0) w2) w2 fun x11 w3 =>
 pGd (gB x8 false) (pN Tryz.prog (oNil x11) w3) w3 fun x12 w4 =>
 pGd (gB x8 false) (pN Tryz.prog (oFld 219 x12 1) w4) w4 fun x13 w5 =>
 pGd (gB x8 false) (pN Tryz.prog (oLoad 217 x13) w5) w5 fun x14 w6 =>
 pGd (gB x8 false) (pN Tryz.prog (oBi .len #[217] 3 [false] [x14]) w6) w6 fun x15 w7 =>
 pGd (gB x8 false) (pN Tryz.prog (oBin .geq 3 (.tmp 10) (.tmp 15) x10 x15) w7) w7 fun x16 w8 =>
 pN Tryz.prog (oPick x8 (.bool true) x16) w8 fun x17 w9 =>
 pIf x17
 (Q (.int .i64 7) w9)
 (pDr w9 fun w10 =>
 pA Tryz.prog (oNil x0) fun x19 =>
 pA Tryz.prog (oFld 219 x19 1) fun x20 =>
 pL Tryz.prog (oLoad 217 x20) w10 fun x21 =>
 pA Tryz.prog (oNil x0) fun x24 =>
 pA Tryz.prog (oFld 219 x24 1) fun x25 =>
 pL Tryz.prog (oLoad 217 x25) w10 fun x26 =>
 pA Tryz.prog (oIdx 217 x26 x1) fun x28 =>
 pL Tryz.prog (oLoad 3 x28) w10 fun x29 =>
 pN Tryz.prog (oCall 157 [x29, x2]) w10 fun x31 w11 =>
 ((Sem.run Tryz.prog (oLoad 217 x20) w11 = .ok (.value x21) w11) ∧ True) ∧ (pA Tryz.prog (oIdx 217 x21 x1) fun x32 =>
 pN Tryz.prog (oStore 3 x32 x31) w11 fun _ w12 =>
 (True) ∧ (Q (.int .i64 0) w12)))
theorem pithref06_Set_Turn.calls [Pan] {x0 x1 x2 : Value} {w : World} {Q : Value → World → Prop} (h : pithref06_Set_Turn.F x0 x1 x2 w Q) : Calls Tryz.prog 117 #[x0, x1, x2] w (retP Q) := calls_lift mixed pithref06_Set_Turn.H [x0, x1, x2] Tryz.func117 (by kernel_rfl) (by kernel_rfl) h

def pithref06_New.F [Pan] (x0 : Value) (w : World) (Q : Value → World → Prop) : Prop :=
 pN Tryz.prog (oBin .lss 3 (.tmp 5) (.const (.int .i64 0)) x0 (.int .i64 0)) w fun x6 w1 =>
 pGd (gB x6 false) (pN Tryz.prog (oMv x0) w1) w1 fun x8 w2 =>
 pGd (gB x6 false) (pN Tryz.prog (oBin .gtr 3 (.tmp 8) (.const (.int .i64 1048576)) x8 (.int .i64 1048576)) w2) w2 fun x9 w3 =>
 pN Tryz.prog (oPick x6 (.bool true) x9) w3 fun x10 w4 =>
 pIf x10
 (Q (.tuple #[(.pointer none), (.int .i64 7)]) w4)
 (pN Tryz.prog (oMk 217 x0 x0) w4 fun x13 w5 =>
 pN Tryz.prog (oBuild 219 [(0, x0), (1, x13)]) w5 fun x14 w6 =>
 pN Tryz.prog (oBox 219 x14) w6 fun x15 w7 =>
 pN Tryz.prog (oCall 158 [x15]) w7 fun _ w8 =>
 Q (.tuple #[x15, (.int .i64 0)]) w8)
theorem pithref06_New.calls [Pan] {x0 : Value} {w : World} {Q : Value → World → Prop} (h : pithref06_New.F x0 w Q) : Calls Tryz.prog 118 #[x0] w (retP Q) := calls_lift mixed .z [x0] Tryz.func118 (by kernel_rfl) (by kernel_rfl) h

def pithref06_bound.F [Pan] (x0 : Value) (w : World) (Q : Value → World → Prop) : Prop :=
 pN Tryz.prog (oBin .lss 3 (.tmp 3) (.const (.int .i64 0)) x0 (.int .i64 0)) w fun x4 w1 =>
 pIf x4
 (Q (.int .i64 0) w1)
 (pN Tryz.prog (oBin .gtr 3 (.tmp 5) (.const (.int .i64 2047)) x0 (.int .i64 2047)) w1 fun x6 w2 =>
 pIf x6
 (Q (.int .i64 2047) w2)
 (Q x0 w2))
theorem pithref06_bound.calls [Pan] {x0 : Value} {w : World} {Q : Value → World → Prop} (h : pithref06_bound.F x0 w Q) : Calls Tryz.prog 123 #[x0] w (retP Q) := calls_lift mixed .z [x0] Tryz.func123 (by kernel_rfl) (by kernel_rfl) h

def pithref06_Next.F [Pan] (x0 x1 : Value) (w : World) (Q : Value → World → Prop) : Prop :=
 pN Tryz.prog (oCall 123 [x0]) w fun x6 w1 =>
 pN Tryz.prog (oBin .eql 3 (.tmp 7) (.const (.int .i64 0)) x1 (.int .i64 0)) w1 fun x8 w2 =>
 pIf x8
 (pN Tryz.prog (oBin .sub 3 (.const (.int .i64 2048)) (.tmp 10) (.int .i64 2048) x6) w2 fun x11 w3 =>
 pN Tryz.prog (oBin .quo 3 (.tmp 11) (.const (.int .i64 32)) x11 (.int .i64 32)) w3 fun x12 w4 =>
 pN Tryz.prog (oBin .add 3 (.tmp 9) (.tmp 12) x6 x12) w4 fun x13 w5 =>
 Q x13 w5)
 (pN Tryz.prog (oBin .quo 3 (.tmp 15) (.const (.int .i64 32)) x6 (.int .i64 32)) w2 fun x16 w6 =>
 pN Tryz.prog (oBin .sub 3 (.tmp 14) (.tmp 16) x6 x16) w6 fun x17 w7 =>
 Q x17 w7)
theorem pithref06_Next.calls [Pan] {x0 x1 : Value} {w : World} {Q : Value → World → Prop} (h : pithref06_Next.F x0 x1 w Q) : Calls Tryz.prog 157 #[x0, x1] w (retP Q) := calls_lift mixed .z [x0, x1] Tryz.func157 (by kernel_rfl) (by kernel_rfl) h

def pithref06_Set_Reset.H : Hints := { cut := fun  | _ => none, loop := fun | 1 => ([2], 262140) | _ => ([], 0), order := fun  | _ => [] }
def pithref06_Set_Reset.F [Pan] (x0 : Value) (w : World) (Q : Value → World → Prop) : Prop :=
 ∃ (L1 : Value → World → Prop) (m1 : Value → World → Nat),
 L1 (.int .i64 0) w ∧
 ∀ (_k1 : Env) (i2l1 : Value) (w1 : World), L1 i2l1 w1 →
 pN Tryz.prog (oNil x0) w1 fun x5 w2 =>
 pN Tryz.prog (oFld 219 x5 1) w2 fun x6 w3 =>
 pN Tryz.prog (oLoad 217 x6) w3 fun x7 w4 =>
 pN Tryz.prog (oBi .len #[217] 3 [false] [x7]) w4 fun x8 w5 =>
 pN Tryz.prog (oBin .lss 3 (.tmp 3) (.tmp 8) i2l1 x8) w5 fun x9 w6 =>
 pIf x9
 (pN Tryz.prog (oNil x0) w6 fun x13 w7 =>
 pN Tryz.prog (oFld 219 x13 1) w7 fun x14 w8 =>
 pN Tryz.prog (oLoad 217 x14) w8 fun x15 w9 =>
 pN Tryz.prog (oIdx 217 x15 i2l1) w9 fun x17 w10 =>
 pN Tryz.prog (oStore 3 x17 (.int .i64 1024)) w10 fun _ w11 =>
 pN Tryz.prog (oBin .add 3 (.tmp 10) (.const (.int .i64 1)) i2l1 (.int .i64 1)) w11 fun x11 w12 =>
 (L1 x11 w12 ∧ m1 x11 w12 < m1 i2l1 w1))
 (Q (.tuple #[]) w6)
theorem pithref06_Set_Reset.calls [Pan] {x0 : Value} {w : World} {Q : Value → World → Prop} (h : pithref06_Set_Reset.F x0 w Q) : Calls Tryz.prog 158 #[x0] w (retP Q) := calls_lift mixed pithref06_Set_Reset.H [x0] Tryz.func158 (by kernel_rfl) (by kernel_rfl) h

end Go.Proofs.YtbgnnjfpiblkmaaGreatDoor

namespace Go.Proofs.YtbgnnjfpiblkmaaGreatDoor
open Go
attribute [local irreducible] oMv oV oU oCall oCallV oBi oBin oUn oLoad oStore oNil oFld oField oIdx oIndex oPick oAlloc oBox oBuild oBs oConv oMk oSl oExt oFn oIface oMap oLook oMapUp oRange oNext oEntry oInv oAssert oPanic oRes pN pA pL pDr pIf gA pGd

def RSet (b : Nat) (l : List Int) : HA := fun h => ∃ s : Sl, Sats [cel b ⟨219, [.int .i64 l.length, .slice s.a l.length s.c]⟩, rows cd_int s l] h

section
variable {E w : World} {M : List HA} {Q : Value → World → Prop} {b : Nat} {l : List Int}

theorem RSet.opn (hS : Sat E w (RSet b l :: M)) : ∃ s : Sl, Sat E w (cel b ⟨219, [.int .i64 l.length, .slice s.a l.length s.c]⟩ :: rows cd_int s l :: M) := by
  obtain ⟨s, hS⟩ := hS.ex
  exact ⟨s, hS.open_ (M := [_, _]) fun _ h => h⟩
theorem RSet.shut {s : Sl} {L N : List HA} {o : Ob} (hS : Sat E w L) [h1 : Fnd (cel b) L o N] [h2 : Fnd (rows cd_int s) N l M] (ho : o = ⟨219, [.int .i64 l.length, .slice s.a l.length s.c]⟩) : Sat E w (RSet b l :: M) := by
  subst ho
  exact Sat.shut (M := [_, _]) (hS.fd2 (cel b) (rows cd_int s)) fun _ h => ⟨s, h⟩

theorem Rbound_ok (p : Int) (hQ : Q (.int .i64 (B.taken p)) w) : Calls Tryz.prog 123 #[.int .i64 p] w (retP Q) := by
  refine pithref06_bound.calls ?_
  unfold pithref06_bound.F
  unfold B.taken at hQ
  repeat' (first | ((first | refine pN_lss_s ?_ ?_ | refine pN_gtr_s ?_ ?_) <;> intro hc <;> try (exfalso; omega)) | refine pIf_t ?_ | refine pIf_f ?_ | fail)
  · rw [show max 0 (min p 2047) = 0 from by omega] at hQ; exact hQ
  · rw [show max 0 (min p 2047) = 2047 from by omega] at hQ; exact hQ
  · rw [show max 0 (min p 2047) = p from by omega] at hQ; exact hQ

theorem RNext_ok (p bit : Int) (hQ : Q (.int .i64 (B.next p bit)) w) : Calls Tryz.prog 157 #[.int .i64 p, .int .i64 bit] w (retP Q) := by
  refine pithref06_Next.calls ?_
  unfold pithref06_Next.F
  have h1 := B.taken_lo p
  have h2 := B.taken_hi p
  refine pc_pithref06_bound (Rbound_ok p ?_)
  repeat' (first | (refine pN_eql_s ?_ ?_ <;> intro hc <;> try (exfalso; first | omega | exact hc rfl | exact hc (by assumption) | exact absurd hc (by assumption))) | refine pIf_t ?_ | refine pIf_f ?_ | refine pN_v (hk := ?_) | fail)
  · rw [B.next, if_pos hc] at hQ; exact hQ
  · rw [B.next, if_neg hc] at hQ; exact hQ

theorem RBound_ok (rng p : Int) (h0 : 0 ≤ rng) (h1 : rng < 4294967296) (hQ : Q (.int .u32 (B.bound rng p)) w) : Calls Tryz.prog 116 #[.int .u32 rng, .int .i64 p] w (retP Q) := by
  refine pithref06_Bound.calls ?_
  unfold pithref06_Bound.F
  have h3 := B.taken_lo p
  have h4 := B.taken_hi p
  have h5 := B.bound_lo (rng := rng) (p := p) h0
  have h6 := B.bound_le (rng := rng) (p := p) h0
  unfold B.bound at h5 h6 hQ
  repeat' (first | refine pN_v (hk := ?_) | fail)
  refine pc_pithref06_bound (Rbound_ok p ?_)
  repeat' (first | refine pN_v (hk := ?_) | fail)
  exact hQ

theorem RAt_ok (hS : Sat E w (RSet b l :: M)) (i : Int) (hQ : ∀ w, Sat E w (RSet b l :: M) → Q (.tuple #[.int .i64 (if 0 ≤ i ∧ i < l.length then l.getD i.toNat 0 else 0), .int .i64 (if 0 ≤ i ∧ i < l.length then 0 else 7)]) w) :
    Calls Tryz.prog 74 #[.pointer (some ⟨b, 0, none⟩), .int .i64 i] w (retP Q) := by
  refine pithref06_Set_At.calls ?_
  unfold pithref06_Set_At.F
  by_cases h : 0 ≤ i ∧ i < l.length
  · simp only [if_pos h] at hQ ⊢
    obtain ⟨s, hS⟩ := RSet.opn hS
    repeat' (first | ((first | refine pN_lss_s ?_ ?_ | refine pN_geq_s ?_ ?_) <;> intro hc <;> try (exfalso; omega)) | refine pIf_f ?_ | refine pGd_go (by rfl) ?_ | refine pN_l hS (by first | rfl | assumption) ?_ | refine pN_ld1 ha hS ?_ | refine pN_ix hS _ (by first | rfl | (exact (Int.toNat_of_nonneg (by omega)).symm)) (by first | rfl | omega | simpa only [go_sem] using True.intro | (simp only [go_sem]; omega)) (by first | omega | (simp only [go_sem]; omega)) fun a x hx ha hel => ?_ | refine pN_v (hk := ?_) | fail)
    rw [List.getD_eq_getElem?_getD, hx] at hQ
    exact hQ _ (RSet.shut (b := b) (s := s) hS rfl)
  · simp only [if_neg h] at hQ ⊢
    obtain ⟨s, hS⟩ := RSet.opn hS
    repeat' (first | ((first | refine pN_lss_s ?_ ?_ | refine pN_geq_s ?_ ?_) <;> intro hc <;> try (exfalso; omega)) | refine pIf_t ?_ | refine pGd_go (by rfl) ?_ | refine pGd_no (by rfl) ?_ | refine pN_l hS (by first | rfl | assumption) ?_ | refine pN_v (hk := ?_) | fail)
    all_goals exact hQ _ (RSet.shut (b := b) (s := s) hS rfl)

theorem RTurn_ok (hS : Sat E w (RSet b l :: M)) (i bit : Int) (hQ : ∀ w, Sat E w (RSet b (if 0 ≤ i ∧ i < l.length then l.set i.toNat (B.next (l.getD i.toNat 0) bit) else l) :: M) → Q (.int .i64 (if 0 ≤ i ∧ i < l.length then 0 else 7)) w) :
    Calls Tryz.prog 117 #[.pointer (some ⟨b, 0, none⟩), .int .i64 i, .int .i64 bit] w (retP Q) := by
  refine pithref06_Set_Turn.calls ?_
  unfold pithref06_Set_Turn.F
  by_cases h : 0 ≤ i ∧ i < l.length
  · simp only [if_pos h] at hQ ⊢
    obtain ⟨s, hS⟩ := RSet.opn hS
    repeat' (first | ((first | refine pN_lss_s ?_ ?_ | refine pN_geq_s ?_ ?_) <;> intro hc <;> try (exfalso; omega)) | refine pIf_f ?_ | refine pGd_go (by rfl) ?_ | refine pN_l hS (by first | rfl | assumption) ?_ | refine pL_l hS (by first | rfl | assumption) ?_ | refine pL_ld1 ha hS ?_ | (refine pDr_go hS ?_; clear hS; intro w hS) | refine pA_ix hS _ (by first | rfl | (exact (Int.toNat_of_nonneg (by omega)).symm)) (by first | rfl | omega | simpa only [go_sem] using True.intro | (simp only [go_sem]; omega)) (by first | omega | (simp only [go_sem]; omega)) fun a x hx ha hel => ?_ | refine pN_v (hk := ?_) | refine pA_v (hk := ?_) | fail)
    refine pc_pithref06_Next (RNext_ok _ bit ?_)
    repeat' (first | refine ⟨trivial, ?_⟩ | refine ⟨⟨(by first | exact run_l hS (by first | rfl | assumption) | exact run_st hS (by first | rfl | omega) | exact run_ld1 ha hS | exact fun _ => run_l hS (by rfl) | exact fun _ => run_st hS (by first | rfl | omega) | exact fun _ => run_ld1 ha hS | exact fun h => Bool.noConfusion h), trivial⟩, ?_⟩ | refine pA_ixk hS _ (by first | rfl | (exact (Int.toNat_of_nonneg (by omega)).symm)) (by first | rfl | omega | simpa only [go_sem] using True.intro | (simp only [go_sem]; omega)) (by assumption) fun a ha hel => ?_ | (refine pN_sr hel hS (by rfl) (by rfl) (by first | omega | (simp only [go_sem]; omega)) ?_; clear hS; intro w hS) | fail)
    have e : l.getD i.toNat 0 = x := by rw [List.getD_eq_getElem?_getD, hx]; rfl
    rw [e] at hQ
    exact hQ _ (RSet.shut (b := b) (s := s) hS (by rw [List.length_set]))
  · simp only [if_neg h] at hQ ⊢
    obtain ⟨s, hS⟩ := RSet.opn hS
    repeat' (first | ((first | refine pN_lss_s ?_ ?_ | refine pN_geq_s ?_ ?_) <;> intro hc <;> try (exfalso; omega)) | refine pIf_t ?_ | refine pGd_go (by rfl) ?_ | refine pGd_no (by rfl) ?_ | refine pN_l hS (by first | rfl | assumption) ?_ | refine pN_v (hk := ?_) | fail)
    all_goals exact hQ _ (RSet.shut (b := b) (s := s) hS rfl)

theorem RReset_ok (hS : Sat E w (RSet b l :: M)) (hQ : ∀ w, Sat E w (RSet b (List.replicate l.length 1024) :: M) → Q (.tuple #[]) w) : Calls Tryz.prog 158 #[.pointer (some ⟨b, 0, none⟩)] w (retP Q) := by
  refine pithref06_Set_Reset.calls ?_
  unfold pithref06_Set_Reset.F
  obtain ⟨s, hS⟩ := RSet.opn hS
  have hlen := rows_len (C := cd_int) s (hS.fd (rows cd_int s))
  refine ⟨fun v w => ∃ k : Nat, v = .int .i64 k ∧ k ≤ l.length ∧ Sat E w (cel b ⟨219, [.int .i64 l.length, .slice s.a l.length s.c]⟩ :: rows cd_int s (List.replicate k 1024 ++ l.drop k) :: M), fun v _ => l.length - (RowKit.intOf v).toNat, ⟨0, rfl, Nat.zero_le _, hS⟩, ?_⟩
  clear hS
  rintro _ _ w ⟨k, rfl, hk, hS⟩
  have e : (List.replicate k 1024 ++ l.drop k).length = l.length := by simp; omega
  repeat' (first | (refine pN_lss_s ?_ ?_ <;> intro hc <;> try (exfalso; omega)) | refine pIf_t ?_ | refine pIf_f ?_ | refine pN_l hS (by first | rfl | assumption) ?_ | refine pN_ix hS _ (by first | rfl | (exact (Int.toNat_of_nonneg (by omega)).symm)) (by first | rfl | omega | simpa only [go_sem] using True.intro | (simp only [go_sem]; omega)) (by first | omega | (simp only [go_sem]; omega)) fun a x hx ha hel => ?_ | (refine pN_sr hel hS (by rfl) (by rfl) (by first | omega | (simp only [go_sem]; omega)) ?_; clear hS; intro w hS) | refine pN_v (hk := ?_) | fail)
  · refine ⟨⟨k + 1, rfl, by omega, ?_⟩, by simp [RowKit.intOf]; omega⟩
    have e2 : (List.replicate k (1024 : Int) ++ l.drop k).set k 1024 = List.replicate (k + 1) 1024 ++ l.drop (k + 1) := by
      rw [List.set_append_right _ _ (by simp), List.length_replicate, Nat.sub_self, List.replicate_succ', List.append_assoc]
      have : k < l.length := by omega
      rw [List.drop_eq_getElem_cons this]
      rfl
    rw [e2] at hS
    exact hS.to
  · obtain rfl : k = l.length := by omega
    rw [List.drop_length, List.append_nil] at hS
    exact hQ _ (RSet.shut (b := b) (s := s) hS (by rw [List.length_replicate]))

theorem RNew_ok (hS : Sat E w M) (n : Int) (h0 : 0 ≤ n) (h1 : n ≤ 1048576) (hQ : ∀ b w, Sat E w (RSet b (List.replicate n.toNat 1024) :: M) → Q (.tuple #[.pointer (some ⟨b, 0, none⟩), .int .i64 0]) w) :
    Calls Tryz.prog 118 #[.int .i64 n] w (retP Q) := by
  refine pithref06_New.calls ?_
  unfold pithref06_New.F
  repeat' (first | ((first | refine pN_lss_s ?_ ?_ | refine pN_gtr_s ?_ ?_) <;> intro hc <;> try (exfalso; omega)) | refine pIf_f ?_ | refine pGd_go (by rfl) ?_ | (refine pN_bx hS (by rfl) ?_; clear hS; intro a w hS) | (refine pN_mk hS _ (by first | rfl | (exact (Int.toNat_of_nonneg (by omega)).symm)) (by first | omega | (simp only [go_sem]; omega)) ?_; clear hS; intro s w hS) | refine pN_v (hk := ?_) | fail)
  have hS : Sat E w (RSet a (List.replicate n.toNat 0) :: M) := RSet.shut (b := a) (s := s) hS (by rw [List.length_replicate, Int.toNat_of_nonneg h0])
  refine pc_pithref06_Set_Reset (RReset_ok hS fun w hS => ?_)
  rw [List.length_replicate] at hS
  exact hQ _ _ hS

end

end Go.Proofs.YtbgnnjfpiblkmaaGreatDoor

namespace Go.Proofs.YtbgnnjfpiblkmaaGreatDoor
open Go
attribute [local irreducible] oMv oV oU oCall oCallV oBi oBin oUn oLoad oStore oNil oFld oField oIdx oIndex oPick oAlloc oBox oBuild oBs oConv oMk oSl oExt oFn oIface oMap oLook oMapUp oRange oNext oEntry oInv oAssert oPanic oRes pN pA pL pDr pIf gA pGd

instance mt_sets : MapT Tryz.prog 70 ske (.pointer none) :=
  ⟨_, _, Tryz.underlying70, Tryz.zeroValue150, KeyC.of (κ := Key) (Maps.string_keyed Tryz.underlying9) (fun l => Lit.string l.1) (fun k => key_str k) (fun a b h => Subtype.ext (by simpa [ske] using h))⟩

def Z.fresh : List Int := List.replicate 768 1024
abbrev RSets (bm : Nat) (N : Key → List Int) : HA := NSets RSet Z.fresh bm N
abbrev RHole (bm : Nat) (N : Key → List Int) (n : Key) (b : Nat) : HA := NHole RSet Z.fresh bm N n b
section
variable {E w : World} {M : List HA} {Q : Value → World → Prop} {bm b c : Nat} {N : Key → List Int} {n : Key} {l : List Int}
theorem R14Set_ok {cs : List Value} (hS : Sat E w (cel c ⟨73, cs⟩ :: RSets bm N :: M)) (hv : cs[9]? = some (.map (some bm))) (hQ : ∀ b w, Sat E w (RSet b (N n) :: RHole bm N n b :: cel c ⟨73, cs⟩ :: M) → Q (pz b) w) :
    Calls Tryz.prog 72 #[pz c, .string ⟨n.1.toArray⟩] w (retP Q) := by
  refine pithref14_Coder_Set.calls ?_
  unfold pithref14_Coder_Set.F
  obtain ⟨m, h1, h2, hS⟩ := NSets.bagged (hS.perm (List.Perm.swap _ _ _))
  repeat' (first | refine pN_l hS hv ?_ | refine pN_v (hk := ?_) | fail)
  refine pN_lko (P := Tryz.prog) (t := 70) hS n (fun v hg => ?_) (fun hg => ?_)
  · obtain ⟨i, e, hi, hn, rfl⟩ := Z.look_some hg
    subst hn
    repeat' (first | refine pN_v (hk := ?_) | fail)
    refine ⟨fun v w => ∃ b, v = pz b ∧ Sat E w (RSet b (N e.name) :: RHole bm N e.name b :: cel c ⟨73, cs⟩ :: M), ?_, ?_⟩
    · repeat' (first | refine pIf_f ?_ | refine pN_v (hk := ?_) | fail)
      exact ⟨_, rfl, NHole.of (l := e.l) h1 h2 hi hS⟩
    · rintro _ _ w ⟨b, rfl, hS⟩
      exact hQ _ _ hS
  · repeat' (first | refine pN_v (hk := ?_) | fail)
    refine ⟨fun v w => ∃ b, v = pz b ∧ Sat E w (RSet b (N n) :: RHole bm N n b :: cel c ⟨73, cs⟩ :: M), ?_, ?_⟩
    · repeat' (first | (refine pc_pithref06_New (RNew_ok hS 768 (by omega) (by omega) ?_); clear hS; intro b w hS) | refine pN_l hS hv ?_ | (refine pN_mup (P := Tryz.prog) (t := 70) hS n (pz b) ?_; clear hS; intro w hS) | refine pIf_t ?_ | refine pN_v (hk := ?_) | fail)
      have hS2 : Sat E _ (mp ske bm (mput (nsV m) n (pz b)) :: bag (nsA RSet m) :: RSet b Z.fresh :: cel c ⟨73, cs⟩ :: M) := hS.perm (List.Perm.cons _ (List.Perm.swap _ _ _))
      exact ⟨_, rfl, NHole.new h1 h2 hg hS2⟩
    · rintro _ _ w ⟨b, rfl, hS⟩
      exact hQ _ _ hS
end
end Go.Proofs.YtbgnnjfpiblkmaaGreatDoor

namespace Go.Proofs.YtbgnnjfpiblkmaaGreatDoor
open Go
set_option maxRecDepth 100000

def pithref07_New.F [Pan]  (w : World) (Q : Value → World → Prop) : Prop :=
 pN Tryz.prog (oMk 30 (.int .i64 5) (.int .i64 5)) w fun x1 w1 =>
 pN Tryz.prog (oBuild 164 [(0, x1), (1, (.int .u32 4294967295))]) w1 fun x2 w2 =>
 pN Tryz.prog (oBox 164 x2) w2 fun x3 w3 =>
 Q x3 w3
theorem pithref07_New.calls [Pan]  {w : World} {Q : Value → World → Prop} (h : pithref07_New.F  w Q) : Calls Tryz.prog 66 #[] w (retP Q) := calls_lift mixed .z [] Tryz.func66 (by kernel_rfl) (by kernel_rfl) h

end Go.Proofs.YtbgnnjfpiblkmaaGreatDoor

namespace Go.Proofs.YtbgnnjfpiblkmaaGreatDoor
open Go
attribute [local irreducible] oMv oV oU oCall oCallV oBi oBin oUn oLoad oStore oNil oFld oField oIdx oIndex oPick oAlloc oBox oBuild oBs oConv oMk oSl oExt oFn oIface oMap oLook oMapUp oRange oNext oEntry oInv oAssert oPanic oRes pN pA pL pDr pIf gA pGd

namespace R
end R

def REnc (b : Nat) (st : R.S) : HA := fun h => ∃ s : Sl, Sats [cel b ⟨164, [.slice s.a (st.k + 5 : Nat) s.c, .int .u32 st.R, .int .i64 st.k]⟩, rows cd_uint8 s st.bytes] h

section
variable {E w : World} {M : List HA} {Q : Value → World → Prop} {b : Nat} {st : R.S}

theorem bytes_len (st : R.S) : st.bytes.length = st.k + 5 := R.digits_length _ _
theorem REnc.opn (hS : Sat E w (REnc b st :: M)) : ∃ s : Sl, Sat E w (cel b ⟨164, [.slice s.a st.bytes.length s.c, .int .u32 st.R, .int .i64 st.k]⟩ :: rows cd_uint8 s st.bytes :: M) := by
  obtain ⟨s, hS⟩ := hS.ex
  refine ⟨s, ?_⟩
  rw [bytes_len]
  exact hS.open_ (M := [_, _]) fun _ h => h
theorem REnc.shut {s : Sl} {L N : List HA} {o : Ob} {l : List UInt8} (hS : Sat E w L) [h1 : Fnd (cel b) L o N] [h2 : Fnd (rows cd_uint8 s) N l M] (ho : o = ⟨164, [.slice s.a l.length s.c, .int .u32 st.R, .int .i64 st.k]⟩) (hl : l = st.bytes) : Sat E w (REnc b st :: M) := by
  subst hl
  subst ho
  rw [bytes_len] at h1
  exact Sat.shut (M := [_, _]) (hS.fd2 (cel b) (rows cd_uint8 s)) fun _ h => ⟨s, h⟩

theorem RNewE_ok (hS : Sat E w M) (hQ : ∀ b w, Sat E w (REnc b R.S.new :: M) → Q (.pointer (some ⟨b, 0, none⟩)) w) : Calls Tryz.prog 66 #[] w (retP Q) := by
  refine pithref07_New.calls ?_
  unfold pithref07_New.F
  repeat' (first | (refine pN_bx hS (by rfl) ?_; clear hS; intro a w hS) | (refine pN_mk hS _ (by first | rfl | (exact (Int.toNat_of_nonneg (by omega)).symm)) (by first | omega | (simp only [go_sem]; omega)) ?_; clear hS; intro s w hS) | refine pN_v (hk := ?_) | fail)
  exact hQ _ _ (REnc.shut (b := a) (s := s) hS rfl rfl)

end

end Go.Proofs.YtbgnnjfpiblkmaaGreatDoor

namespace Go.Proofs.YtbgnnjfpiblkmaaGreatDoor
open Go
attribute [local irreducible] oMv oV oU oCall oCallV oBi oBin oUn oLoad oStore oNil oFld oField oIdx oIndex oPick oAlloc oBox oBuild oBs oConv oMk oSl oExt oFn oIface oMap oLook oMapUp oRange oNext oEntry oInv oAssert oPanic oRes pN pA pL pDr pIf gA pGd

abbrev coderC (p : Z.Pr) (bw : Nat) (s : Z.St) (bm be : Nat) : List Value := [.int .i64 p.lc, .int .i64 p.lp, .int .i64 p.pb, pz bw, .int .i64 s.num, .int .i64 s.r0, .int .i64 s.r1, .int .i64 s.r2, .int .i64 s.r3, .map (some bm), pz be]
abbrev Cod (c : Nat) (p : Z.Pr) (bw : Nat) (s : Z.St) (bm be : Nat) : HA := cel c ⟨73, coderC p bw s bm be⟩
section
variable {E w : World} {M : List HA} {Q : Value → World → Prop} {bm be bw c : Nat} {N : Key → List Int} {n : Key} {p : Z.Pr} {s : Z.St} {x : Z.W}
theorem R14two_at {v : Int} (n : Nat) (h : v = n) (hn : n ≤ 32) (hQ : Q (.int .i64 (2 ^ n)) w) : Calls Tryz.prog 149 #[.int .i64 v] w (retP Q) := by
  subst h; exact R14two_ok n hn hQ
theorem R14Place_ok (hS : Sat E w (Cod c p bw s bm be :: RWin bw x :: M)) (hp : p.Ok) (hQ : ∀ w, Sat E w (Cod c p bw s bm be :: RWin bw x :: M) → Q (.int .i64 (Z.place p x.all.length)) w) :
    Calls Tryz.prog 107 #[pz c] w (retP Q) := by
  refine pithref14_Coder_Place.calls ?_
  unfold pithref14_Coder_Place.F
  obtain ⟨h1, h2, h3, h4, h5⟩ := hp
  obtain ⟨k, hk⟩ : ∃ k : Nat, p.pb = k := ⟨p.pb.toNat, by omega⟩
  have hS : Sat E w (RWin bw x :: Cod c p bw s bm be :: M) := hS.perm (List.Perm.swap _ _ _)
  obtain ⟨sl, hS⟩ := RWin.opn hS
  have hS : Sat E w (cel c ⟨73, [.int .i64 p.lc, .int .i64 p.lp, .int .i64 k, pz bw, .int .i64 s.num, .int .i64 s.r0, .int .i64 s.r1, .int .i64 s.r2, .int .i64 s.r3, .map (some bm), pz be]⟩ :: cel bw ⟨193, [.int .i64 x.size, .slice sl.a x.all.length sl.c]⟩ :: rows cd_uint8 sl x.all :: M) := by
    rw [← hk]; exact hS.to
  have hp0 : (0 : Int) < 2 ^ k := Int.pow_pos (by omega)
  unfold Z.place at hQ
  rw [show p.pb.toNat = k from by omega] at hQ
  repeat' (first | (refine pc_pithref14_two (R14two_ok k (by omega) ?_)) | refine And.intro ?_ ?_ | exact trivial | exact run_l hS rfl | refine pL_l hS (by first | rfl | assumption) ?_ | (refine pDr_go hS ?_; clear hS; intro w hS) | refine pA_v (hk := ?_) | fail)
  rw [← hk] at hS
  have hS3 : Sat E _ (cel bw ⟨193, [.int .i64 x.size, .slice sl.a x.all.length sl.c]⟩ :: rows cd_uint8 sl x.all :: Cod c p bw s bm be :: M) := hS.to
  exact hQ _ ((RWin.shut (x := x) (s := sl) hS3).perm (List.Perm.swap _ _ _))
set_option maxRecDepth 8000 in
theorem R14Literal_ok {st : Z.St} (hS : Sat E w (Cod c p bw st bm be :: RWin bw x :: M)) (hp : p.Ok) (hl : x.all.length ≤ 140737488355328) (b : UInt8) (hb : b = (x.all.getLast?).getD 0)
    (hQ : ∀ w, Sat E w (Cod c p bw st bm be :: RWin bw x :: M) → Q (.string ⟨(Z.nm [76, 105, 116, 101, 114, 97, 108] [x.all.length % 2 ^ p.lp.toNat * 2 ^ p.lc.toNat + (b.toNat : Int) / 2 ^ (8 - p.lc).toNat]).toArray⟩) w) :
    Calls Tryz.prog 151 #[pz c] w (retP Q) := by
  refine pithref14_Coder_Literal.calls ?_
  unfold pithref14_Coder_Literal.F
  obtain ⟨h1, h2, h3, h4, h5⟩ := hp
  obtain ⟨kc, hkc⟩ : ∃ k : Nat, p.lc = k := ⟨p.lc.toNat, by omega⟩
  obtain ⟨kp, hkp⟩ : ∃ k : Nat, p.lp = k := ⟨p.lp.toNat, by omega⟩
  obtain ⟨k8, hk8⟩ : ∃ k : Nat, 8 - (kc : Int) = k := ⟨(8 - (kc : Int)).toNat, by omega⟩
  have hS : Sat E w (RWin bw x :: Cod c p bw st bm be :: M) := hS.perm (List.Perm.swap _ _ _)
  obtain ⟨sl, hS⟩ := RWin.opn hS
  have hS : Sat E w (cel c ⟨73, [.int .i64 kc, .int .i64 kp, .int .i64 p.pb, pz bw, .int .i64 st.num, .int .i64 st.r0, .int .i64 st.r1, .int .i64 st.r2, .int .i64 st.r3, .map (some bm), pz be]⟩ :: cel bw ⟨193, [.int .i64 x.size, .slice sl.a x.all.length sl.c]⟩ :: rows cd_uint8 sl x.all :: M) := by
    rw [← hkc, ← hkp]; exact hS.to
  refine ⟨fun v w => v = .int .i64 b.toNat ∧ Sat E w (cel c ⟨73, [.int .i64 kc, .int .i64 kp, .int .i64 p.pb, pz bw, .int .i64 st.num, .int .i64 st.r0, .int .i64 st.r1, .int .i64 st.r2, .int .i64 st.r3, .map (some bm), pz be]⟩ :: cel bw ⟨193, [.int .i64 x.size, .slice sl.a x.all.length sl.c]⟩ :: rows cd_uint8 sl x.all :: M), ?_, ?_⟩
  · by_cases h0 : x.all = []
    · have e0 : x.all.length = 0 := by rw [h0]; rfl
      repeat' (first | (refine pN_gtr_s ?_ ?_ <;> intro hc <;> try (exfalso; omega)) | refine pIf_f ?_ | refine pN_l hS (by first | rfl | assumption) ?_ | refine pN_v (hk := ?_) | fail)
      exact ⟨by rw [hb, h0]; rfl, hS⟩
    · have e0 : 0 < x.all.length := List.length_pos_iff.2 h0
      have hbc : ∀ (k : Nat) (y : UInt8), x.all[k]? = some y → k = x.all.length - 1 → y = b := fun k y g1 g2 => by
        rw [g2] at g1; rw [hb, List.getLast?_eq_getElem?, g1]; rfl
      repeat' (first | (refine pN_gtr_s ?_ ?_ <;> intro hc <;> try (exfalso; omega)) | refine pIf_t ?_ | refine pL_ofb ?_ | refine pN_l hS (by first | rfl | assumption) ?_ | refine pL_l hS (by first | rfl | assumption) ?_ | refine pL_ld1 ha hS ?_ | (refine pDr_go hS ?_; clear hS; intro w hS) | refine pA_ix hS _ (by first | rfl | (exact (Int.toNat_of_nonneg (by omega)).symm)) (by first | rfl | omega | simpa only [go_sem] using True.intro | (simp only [go_sem]; omega)) (by first | omega | (simp only [go_sem]; omega)) fun a x hx ha hel => ?_ | refine pN_v (hk := ?_) | refine pA_v (hk := ?_) | fail)
      have hbe := hbc _ _ (by assumption) (by omega)
      subst hbe
      exact ⟨rfl, hS⟩
  · clear hS
    rintro _ _ w ⟨rfl, hS⟩
    have b8 : k8 ≤ 32 := by omega
    have bp : kp ≤ 32 := by omega
    have bc : kc ≤ 32 := by omega
    have hpp : (2 : Int) ^ kp ≤ 2 ^ 4 := two_le' (by omega)
    have hpp0 : (0 : Int) < 2 ^ kp := Int.pow_pos (by omega)
    have hpc : (2 : Int) ^ kc ≤ 2 ^ 4 := two_le' (by omega)
    have hpc0 : (0 : Int) < 2 ^ kc := Int.pow_pos (by omega)
    have e4 : (2 : Int) ^ 4 = 16 := by decide
    have hp8 : (0 : Int) < 2 ^ k8 := Int.pow_pos (by omega)
    have hb0 := Int.emod_nonneg (x.all.length : Int) (show (2 : Int) ^ kp ≠ 0 by omega)
    have hb1 := Int.emod_lt_of_pos (x.all.length : Int) hpp0
    have hx0 : 0 ≤ (x.all.length : Int) % 2 ^ kp * 2 ^ kc := Int.mul_nonneg hb0 (by omega)
    have hx1 : (x.all.length : Int) % 2 ^ kp * 2 ^ kc ≤ 16 * 16 := Int.mul_le_mul (by omega) (by omega) (by omega) (by omega)
    have hy0 : 0 ≤ (b.toNat : Int) / 2 ^ k8 := Int.ediv_nonneg (by omega) (by omega)
    have hy1 : (b.toNat : Int) / 2 ^ k8 ≤ b.toNat := Int.ediv_le_self _ (by omega)
    have hbl : b.toNat < 256 := b.toNat_lt
    repeat' (first | (refine pc_pithref14_two (R14two_at k8 hk8 b8 ?_)) | (refine pc_pithref14_two (R14two_at kp rfl bp ?_)) | (refine pc_pithref14_two (R14two_at kc rfl bc ?_)) | refine And.intro ?_ ?_ | exact trivial | exact run_l hS rfl | refine pL_l hS (by first | rfl | assumption) ?_ | (refine pDr_go hS ?_; clear hS; intro w hS) | (refine pN_b1 hS (by rfl) (by decide) ?_; clear hS; intro s w hS) | refine pA_v (hk := ?_) | fail)
    have q1 : (b.toNat : Int) / 2 ^ k8 < 2 ^ kc := by
      refine Int.ediv_lt_of_lt_mul hp8 ?_
      rw [← Int.pow_add, show kc + k8 = 8 from by omega]
      have : (2 : Int) ^ 8 = 256 := by decide
      omega
    have q2 : (x.all.length : Int) % 2 ^ kp * 2 ^ kc ≤ (2 ^ kp - 1) * 2 ^ kc := Int.mul_le_mul_of_nonneg_right (by omega) (by omega)
    rw [Int.sub_mul, ← Int.pow_add, Int.one_mul] at q2
    have q3 : (2 : Int) ^ (kp + kc) ≤ 2 ^ 4 := two_le' (by omega)
    have e : ∀ v : Int, v = (x.all.length : Int) % 2 ^ kp * 2 ^ kc + (b.toNat : Int) / 2 ^ k8 → 0 ≤ v ∧ v < 100 := fun v hv => by omega
    refine pc_pithref14_name (R14name_ok [76, 105, 116, 101, 114, 97, 108] [_] hS (fun i hi => ?_) (by simp) fun w hS => ?_)
    · rw [List.mem_singleton] at hi
      exact e i hi
    · rw [show p.lp.toNat = kp from by omega, show p.lc.toNat = kc from by omega, show (8 - p.lc).toNat = k8 from by omega] at hQ
      rw [← hkc, ← hkp] at hS
      have hS3 : Sat E _ (cel bw ⟨193, [.int .i64 x.size, .slice sl.a x.all.length sl.c]⟩ :: rows cd_uint8 sl x.all :: cel c ⟨73, [.int .i64 p.lc, .int .i64 p.lp, .int .i64 p.pb, pz bw, .int .i64 st.num, .int .i64 st.r0, .int .i64 st.r1, .int .i64 st.r2, .int .i64 st.r3, .map (some bm), pz be]⟩ :: M) := hS.to
      exact hQ _ ((RWin.shut (x := x) (s := sl) hS3).perm (List.Perm.swap _ _ _))
end
end Go.Proofs.YtbgnnjfpiblkmaaGreatDoor

namespace Go.Proofs.YtbgnnjfpiblkmaaGreatDoor
open Go
namespace Z

end Z
end Go.Proofs.YtbgnnjfpiblkmaaGreatDoor

namespace Go.Proofs.YtbgnnjfpiblkmaaGreatDoor
open Go
attribute [local irreducible] oMv oV oU oCall oCallV oBi oBin oUn oLoad oStore oNil oFld oField oIdx oIndex oPick oAlloc oBox oBuild oBs oConv oMk oSl oExt oFn oIface oMap oLook oMapUp oRange oNext oEntry oInv oAssert oPanic oRes pN pA pL pDr pIf gA pGd

namespace Z
theorem lastOr_1 {x : W} (h0 : 1 ≤ x.size) : lastOr x 1 = (x.all.getLast?).getD 0 := by
  unfold lastOr
  rw [List.getLast?_eq_getElem?]
  by_cases hh : x.has 1
  · rw [if_pos hh]
    rfl
  · rw [if_neg hh]
    have : x.all.length = 0 := by unfold W.has W.full at hh; omega
    rw [List.getElem?_eq_none (by omega)]
    rfl
end Z

section
variable {E w : World} {M : List HA} {Q : Value → World → Prop} {bm be bw c : Nat} {N : Key → List Int} {n : Key} {p : Z.Pr} {s : Z.St} {x : Z.W}

end
end Go.Proofs.YtbgnnjfpiblkmaaGreatDoor

namespace Go.Proofs.YtbgnnjfpiblkmaaGreatDoor
open Go
namespace Z
end Z
end Go.Proofs.YtbgnnjfpiblkmaaGreatDoor

namespace Go.Proofs.YtbgnnjfpiblkmaaGreatDoor
open Go
attribute [local irreducible] oMv oV oU oCall oCallV oBi oBin oUn oLoad oStore oNil oFld oField oIdx oIndex oPick oAlloc oBox oBuild oBs oConv oMk oSl oExt oFn oIface oMap oLook oMapUp oRange oNext oEntry oInv oAssert oPanic oRes pN pA pL pDr pIf gA pGd Calls

section
variable {E w : World} {M : List HA} {Q : Value → World → Prop} {bm be bw c : Nat} {N : Key → List Int} {n : Key} {p : Z.Pr} {s : Z.St} {x : Z.W} {y : Z.Y}

end
end Go.Proofs.YtbgnnjfpiblkmaaGreatDoor

namespace Go.Proofs.YtbgnnjfpiblkmaaGreatDoor
open Go
end Go.Proofs.YtbgnnjfpiblkmaaGreatDoor

namespace Go.Proofs.YtbgnnjfpiblkmaaGreatDoor
open Go
set_option maxRecDepth 100000

def tree_Get.F [Pan] (x0 x1 x2 x3 : Value) (w : World) (Q : Value → World → Prop) : Prop :=
 pN Tryz.prog (oCall 212 [x0, x1, x2, x3, (.bool false)]) w fun x14 w1 =>
 pN Tryz.prog (oExt x14 0) w1 fun x15 w2 =>
 pN Tryz.prog (oExt x14 1) w2 fun x16 w3 =>
 Q (.tuple #[x15, x16]) w3
theorem tree_Get.calls [Pan] {x0 x1 x2 x3 : Value} {w : World} {Q : Value → World → Prop} (h : tree_Get.F x0 x1 x2 x3 w Q) : Calls Tryz.prog 202 #[x0, x1, x2, x3] w (retP Q) := calls_lift mixed .z [x0, x1, x2, x3] Tryz.func202 (by kernel_rfl) (by kernel_rfl) h

def tree_GetBack.F [Pan] (x0 x1 x2 x3 : Value) (w : World) (Q : Value → World → Prop) : Prop :=
 pN Tryz.prog (oCall 212 [x0, x1, x2, x3, (.bool true)]) w fun x14 w1 =>
 pN Tryz.prog (oExt x14 0) w1 fun x15 w2 =>
 pN Tryz.prog (oExt x14 1) w2 fun x16 w3 =>
 Q (.tuple #[x15, x16]) w3
theorem tree_GetBack.calls [Pan] {x0 x1 x2 x3 : Value} {w : World} {Q : Value → World → Prop} (h : tree_GetBack.F x0 x1 x2 x3 w Q) : Calls Tryz.prog 203 #[x0, x1, x2, x3] w (retP Q) := calls_lift mixed .z [x0, x1, x2, x3] Tryz.func203 (by kernel_rfl) (by kernel_rfl) h

def tree_get.F [Pan] (x0 x1 x2 x3 x4 : Value) (w : World) (Q : Value → World → Prop) : Prop :=
 pN Tryz.prog (oBox 76 x0) w fun x5 w1 =>
 pN Tryz.prog (oBox 137 x1) w1 fun x6 w2 =>
 pN Tryz.prog (oBox 3 x3) w2 fun x8 w3 =>
 pN Tryz.prog (oBox 4 x4) w3 fun x9 w4 =>
 pN Tryz.prog (oLoad 137 x6) w4 fun x14 w5 =>
 pN Tryz.prog (oLoad 3 x8) w5 fun x16 w6 =>
 pN Tryz.prog (oCall 219 [x14, x2, x16]) w6 fun x17 w7 =>
 pN Tryz.prog (oUn .not x17) w7 fun x18 w8 =>
 pIf x18
 (Q (.tuple #[(.int .i64 0), (.int .i64 7)]) w8)
 (pN Tryz.prog (oAlloc 3) w8 fun x12 w9 =>
 pN Tryz.prog (oStore 3 x12 (.int .i64 0)) w9 fun _ w10 =>
 pN Tryz.prog (oLoad 3 x8) w10 fun x20 w11 =>
 pN Tryz.prog (oFn (.func 221) [] [x5, x6, x12, x9, x8]) w11 fun x21 w12 =>
 pN Tryz.prog (oCall 220 [x2, x20, x21]) w12 fun x22 w13 =>
 pN Tryz.prog (oBin .neq 38 (.tmp 23) (.const (.int .i64 0)) x22 (.int .i64 0)) w13 fun x24 w14 =>
 pIf x24
 (Q (.tuple #[(.int .i64 0), x22]) w14)
 (pN Tryz.prog (oLoad 3 x12) w14 fun x26 w15 =>
 Q (.tuple #[x26, (.int .i64 0)]) w15))
theorem tree_get.calls [Pan] {x0 x1 x2 x3 x4 : Value} {w : World} {Q : Value → World → Prop} (h : tree_get.F x0 x1 x2 x3 x4 w Q) : Calls Tryz.prog 212 #[x0, x1, x2, x3, x4] w (retP Q) := calls_lift mixed .z [x0, x1, x2, x3, x4] Tryz.func212 (by kernel_rfl) (by kernel_rfl) h

def tree_there.H : Hints := { cut := fun  | _ => none, loop := fun  | _ => ([], 0), order := fun | 1 => [(0, 0), (1, 1), (2, 3), (3, 7), (4, 15), (5, 31), (6, 63), (7, 127), (8, 255), (9, 511), (10, 1023), (11, 2047), (12, 4095), (13, 8191), (14, 16383), (15, 32767), (16, 65535), (17, 131071), (18, 262143), (19, 524287), (21, 1048575), (20, 3145727), (22, 4194303), (23, 8388607), (24, 16777215), (25, 33554431)] | _ => [] }
def tree_there.F [Pan] (x0 x1 x2 : Value) (w : World) (Q : Value → World → Prop) : Prop :=
 pDr w fun w1 =>
 pA Tryz.prog (oBin .geq 3 (.tmp 7) (.const (.int .i64 0)) x2 (.int .i64 0)) fun x8 =>
 gA (gB x8 true) (pA Tryz.prog (oMv x2)) fun x10 =>
 gA (gB x8 true) (pA Tryz.prog (oBin .leq 3 (.tmp 10) (.const (.int .i64 16)) x10 (.int .i64 16))) fun x11 =>
 pA Tryz.prog (oPick x8 x11 (.bool false)) fun x12 =>
 gA (gB x12 true) (pA Tryz.prog (oMv x1)) fun x14 =>
 gA (gB x12 true) (pA Tryz.prog (oBin .geq 3 (.tmp 14) (.const (.int .i64 0)) x14 (.int .i64 0))) fun x15 =>
 pA Tryz.prog (oPick x12 x15 (.bool false)) fun x16 =>
 gA (gB x16 true) (pA Tryz.prog (oMv x1)) fun x18 =>
 gA (gB x16 true) (pA Tryz.prog (oMv x0)) fun x19 =>
 pGd (gB x16 true) (pN Tryz.prog (oCall 225 [x19]) w1) w1 fun x20 w2 =>
 (True) ∧ (gA (gB x16 true) (pA Tryz.prog (oBin .leq 3 (.tmp 18) (.tmp 20) x18 x20)) fun x21 =>
 pA Tryz.prog (oPick x16 x21 (.bool false)) fun x22 =>
 gA (gB x22 true) (pA Tryz.prog (oMv x2)) fun x24 =>
 gA (gB x22 true) (pA Tryz.prog (oBin .shl 3 (.const (.int .i64 1)) (.tmp 24) (.int .i64 1) x24)) fun x25 =>
 gA (gB x22 true) (pA Tryz.prog (oMv x0)) fun x26 =>
 gA (gB x22 true) (pA Tryz.prog (oMv x1)) fun x28 =>
 pGd (gB x22 true) (pN Tryz.prog (oCall 225 [x26]) w2) w2 fun x27 w3 =>
 (True) ∧ (gA (gB x22 true) (pA Tryz.prog (oBin .sub 3 (.tmp 27) (.tmp 28) x27 x28)) fun x29 =>
 gA (gB x22 true) (pA Tryz.prog (oBin .leq 3 (.tmp 25) (.tmp 29) x25 x29)) fun x30 =>
 pA Tryz.prog (oPick x22 x30 (.bool false)) fun x31 =>
 Q x31 w3))
theorem tree_there.calls [Pan] {x0 x1 x2 : Value} {w : World} {Q : Value → World → Prop} (h : tree_there.F x0 x1 x2 w Q) : Calls Tryz.prog 219 #[x0, x1, x2] w (retP Q) := calls_lift mixed tree_there.H [x0, x1, x2] Tryz.func219 (by kernel_rfl) (by kernel_rfl) h

def tree_down.H : Hints := { cut := fun  | _ => none, loop := fun | 3 => ([7, 12], 4294965184) | _ => ([], 0), order := fun  | _ => [] }
def tree_down.F [Pan] (x0 x1 x2 : Value) (w : World) (Q : Value → World → Prop) : Prop :=
 ∃ (L3 : Value → Value → World → Prop) (m3 : Value → Value → World → Nat),
 L3 (.int .i64 1) (.int .i64 0) w ∧
 ∀ (_k3 : Env) (m7l3 : Value) (v12l3 : Value) (w1 : World), L3 m7l3 v12l3 w1 →
 pN Tryz.prog (oBin .lss 3 (.tmp 12) (.tmp 11) v12l3 x1) w1 fun x13 w2 =>
 pIf x13
 (pN Tryz.prog (oBin .add 3 (.tmp 17) (.tmp 18) x0 m7l3) w2 fun x19 w3 =>
 pN Tryz.prog (oCallV x2 [x19, v12l3]) w3 fun x21 w4 =>
 pN Tryz.prog (oExt x21 0) w4 fun x22 w5 =>
 pN Tryz.prog (oExt x21 1) w5 fun x23 w6 =>
 pN Tryz.prog (oBin .neq 38 (.tmp 24) (.const (.int .i64 0)) x23 (.int .i64 0)) w6 fun x25 w7 =>
 pIf x25
 (Q x23 w7)
 (pN Tryz.prog (oBin .mul 3 (.const (.int .i64 2)) (.tmp 27) (.int .i64 2) m7l3) w7 fun x28 w8 =>
 pN Tryz.prog (oBin .add 3 (.tmp 28) (.tmp 29) x28 x22) w8 fun x30 w9 =>
 pN Tryz.prog (oBin .add 3 (.tmp 12) (.const (.int .i64 1)) v12l3 (.int .i64 1)) w9 fun x31 w10 =>
 (L3 x30 x31 w10 ∧ m3 x30 x31 w10 < m3 m7l3 v12l3 w1)))
 (Q (.int .i64 0) w2)
theorem tree_down.calls [Pan] {x0 x1 x2 : Value} {w : World} {Q : Value → World → Prop} (h : tree_down.F x0 x1 x2 w Q) : Calls Tryz.prog 220 #[x0, x1, x2] w (retP Q) := calls_lift mixed tree_down.H [x0, x1, x2] Tryz.func220 (by kernel_rfl) (by kernel_rfl) h

def tree_get_c1.H : Hints := { cut := fun  | _ => none, loop := fun  | _ => ([], 0), order := fun | 2 => [(0, 0), (1, 1), (2, 3), (3, 7), (4, 15), (5, 31), (6, 63), (7, 127), (8, 255)] | _ => [] }
def tree_get_c1.F [Pan] (x0 x1 x2 x3 x4 x5 x6 : Value) (w : World) (Q : Value → World → Prop) : Prop :=
 pN Tryz.prog (oLoad 76 x2) w fun x14 w1 =>
 pN Tryz.prog (oLoad 137 x3) w1 fun x15 w2 =>
 pN Tryz.prog (oCall 163 [x14, x15, x0]) w2 fun x17 w3 =>
 pN Tryz.prog (oExt x17 0) w3 fun x18 w4 =>
 pN Tryz.prog (oExt x17 1) w4 fun x19 w5 =>
 pDr w5 fun w6 =>
 pL Tryz.prog (oLoad 3 x4) w6 fun x20 =>
 pL Tryz.prog (oLoad 4 x5) w6 fun x22 =>
 pL Tryz.prog (oLoad 3 x6) w6 fun x23 =>
 pN Tryz.prog (oCall 222 [x22, x23, x1]) w6 fun x25 w7 =>
 ((Sem.run Tryz.prog (oLoad 3 x4) w7 = .ok (.value x20) w7) ∧ True) ∧ (pA Tryz.prog (oBin .shl 3 (.tmp 21) (.tmp 25) x18 x25) fun x26 =>
 pA Tryz.prog (oBin .or 3 (.tmp 20) (.tmp 26) x20 x26) fun x27 =>
 pN Tryz.prog (oStore 3 x4 x27) w7 fun _ w8 =>
 (True) ∧ (Q (.tuple #[x18, x19]) w8))
theorem tree_get_c1.calls [Pan] {x0 x1 x2 x3 x4 x5 x6 : Value} {w : World} {Q : Value → World → Prop} (h : tree_get_c1.F x0 x1 x2 x3 x4 x5 x6 w Q) : Calls Tryz.prog 221 #[x0, x1, x2, x3, x4, x5, x6] w (retP Q) := calls_lift mixed tree_get_c1.H [x0, x1, x2, x3, x4, x5, x6] Tryz.func221 (by kernel_rfl) (by kernel_rfl) h

def tree_order.F [Pan] (x0 x1 x2 : Value) (w : World) (Q : Value → World → Prop) : Prop :=
 pIf x0
 (Q x2 w)
 (pN Tryz.prog (oBin .sub 3 (.tmp 9) (.const (.int .i64 1)) x1 (.int .i64 1)) w fun x10 w1 =>
 pN Tryz.prog (oBin .sub 3 (.tmp 10) (.tmp 11) x10 x2) w1 fun x12 w2 =>
 Q x12 w2)
theorem tree_order.calls [Pan] {x0 x1 x2 : Value} {w : World} {Q : Value → World → Prop} (h : tree_order.F x0 x1 x2 w Q) : Calls Tryz.prog 222 #[x0, x1, x2] w (retP Q) := calls_lift mixed .z [x0, x1, x2] Tryz.func222 (by kernel_rfl) (by kernel_rfl) h

end Go.Proofs.YtbgnnjfpiblkmaaGreatDoor

namespace Go.Proofs.YtbgnnjfpiblkmaaGreatDoor
open Go
end Go.Proofs.YtbgnnjfpiblkmaaGreatDoor

namespace Go.Proofs.YtbgnnjfpiblkmaaGreatDoor
open Go
attribute [local irreducible] oMv oV oU oCall oCallV oBi oBin oUn oLoad oStore oNil oFld oField oIdx oIndex oPick oAlloc oBox oBuild oBs oConv oMk oSl oExt oFn oIface oMap oLook oMapUp oRange oNext oEntry oInv oAssert oPanic oRes pN pA pL pDr pIf gA pGd

def EncE (b : Nat) (e : R.E) : HA := fun h => ∃ s : Sl, Sats [cel b ⟨190, [.int .u64 e.low, .int .u32 e.rng, bv e.held, .int .i64 e.wait, .slice s.a e.out.length s.c]⟩, rows cd_uint8 s e.out] h
def Enc (b : Nat) (s : R.S) : HA := fun h => ∃ e : R.E, R.Rep e s ∧ R.Ok s ∧ EncE b e h

section
variable {E w : World} {M : List HA} {Q : Value → World → Prop} {b : Nat} {e : R.E} {st : R.S}

theorem EncE.opn (hS : Sat E w (EncE b e :: M)) : ∃ s : Sl, Sat E w (cel b ⟨190, [.int .u64 e.low, .int .u32 e.rng, bv e.held, .int .i64 e.wait, .slice s.a e.out.length s.c]⟩ :: rows cd_uint8 s e.out :: M) := by
  obtain ⟨s, hS⟩ := hS.ex
  exact ⟨s, hS.open_ (M := [_, _]) fun _ h => h⟩
theorem EncE.shut {s : Sl} {L N : List HA} {o : Ob} {out : List UInt8} (hS : Sat E w L) (e : R.E) [h1 : Fnd (cel b) L o N] [h2 : Fnd (rows cd_uint8 s) N out M] (ho : o = ⟨190, [.int .u64 e.low, .int .u32 e.rng, bv e.held, .int .i64 e.wait, .slice s.a e.out.length s.c]⟩) (he : out = e.out) : Sat E w (EncE b e :: M) := by
  subst ho he
  exact Sat.shut (M := [_, _]) (hS.fd2 (cel b) (rows cd_uint8 s)) fun _ h => ⟨s, h⟩
theorem Enc.opn (hS : Sat E w (Enc b st :: M)) : ∃ e, R.Rep e st ∧ R.Ok st ∧ Sat E w (EncE b e :: M) := by
  obtain ⟨e, ⟨h1, h2⟩, hS⟩ := hS.opn (p := fun e => R.Rep e st ∧ R.Ok st) (B := fun e => EncE b e) fun hp ⟨e, h1, h2, h3⟩ => ⟨e, ⟨h1, h2⟩, h3⟩
  exact ⟨e, h1, h2, hS⟩
theorem Enc.shut (hS : Sat E w (EncE b e :: M)) (h1 : R.Rep e st) (h2 : R.Ok st) : Sat E w (Enc b st :: M) := hS.weaken fun _ h => ⟨e, h1, h2, h⟩

end

end Go.Proofs.YtbgnnjfpiblkmaaGreatDoor

namespace Go.Proofs.YtbgnnjfpiblkmaaGreatDoor
open Go
attribute [local irreducible] oMv oV oU oCall oCallV oBi oBin oUn oLoad oStore oNil oFld oField oIdx oIndex oPick oAlloc oBox oBuild oBs oConv oMk oSl oExt oFn oIface oMap oLook oMapUp oRange oNext oEntry oInv oAssert oPanic oRes pN pA pL pDr pIf gA pGd

section
variable {E w : World} {M : List HA} {Q : Value → World → Prop} {b p : Nat} {s : R.S} {l : List Int}

theorem order_ok (back : Bool) (n k : Nat) (hk : k < n) (hn : n ≤ 16) (hQ : Q (.int .i64 (if back then k else n - 1 - k : Nat)) w) : Calls Tryz.prog 222 #[.bool back, .int .i64 n, .int .i64 k] w (retP Q) := by
  refine tree_order.calls ?_
  unfold tree_order.F
  cases back
  · repeat' (first | refine pIf_f ?_ | refine pN_v (hk := ?_) | fail)
    have e : (n : Int) - 1 - k = ((n - 1 - k : Nat) : Int) := by omega
    rw [e]; exact hQ
  · repeat' (first | refine pIf_t ?_ | fail)
    exact hQ

theorem there_ok (hS : Sat E w (PSet p l :: M)) (at_ n : Int) (hQ : ∀ w, Sat E w (PSet p l :: M) → Q (.bool (decide (R.There l.length at_ n))) w) : Calls Tryz.prog 219 #[.pointer (some ⟨p, 0, none⟩), .int .i64 at_, .int .i64 n] w (retP Q) := by
  refine tree_there.calls ?_
  unfold tree_there.F
  obtain ⟨sl, hS'⟩ := PSet.opn hS
  have hlen := rows_len (C := cd_int) sl hS'
  have shl : ∀ (w : World) (J : Value → Prop), 0 ≤ n → n ≤ 16 → J (.int .i64 (2 ^ n.toNat)) → pA Tryz.prog (oBin .shl 3 (.const (.int .i64 1)) (.tmp 24) (.int .i64 1) (.int .i64 n)) J := by
    intro w J h0 h1 h
    refine pA_shl_k n.toNat (Int.toNat_of_nonneg h0).symm (by show _ ≤ 64; omega) ?_
    have e : (1 : Int) * 2 ^ n.toNat = 2 ^ n.toNat := Int.one_mul _
    have h2 : (2 : Int) ^ n.toNat ≤ 2 ^ 16 := R.two_le (by omega)
    have h3 : (0 : Int) < 2 ^ n.toNat := Int.pow_pos (by omega)
    have e2 : (2 : Int) ^ 16 = 65536 := by decide
    rw [e, wrap_i64 (by omega)]
    exact h
  have fin : ∀ w b, (b = true ↔ R.There l.length at_ n) → Sat E w (PSet p l :: M) → Q (.bool b) w := by
    intro w b hb hS
    have := hQ w hS
    by_cases h : R.There l.length at_ n
    · rw [decide_eq_true h] at this
      rw [hb.2 h]; exact this
    · rw [decide_eq_false h] at this
      have : b = false := by
        cases b
        · rfl
        · exact absurd (hb.1 rfl) h
      rw [this]; assumption
  repeat' (first | (refine pc_prob_Set_Len (Len_ok (hS.fd (PSet p)) ?_); clear hS; intro w hS) | refine shl w _ (by omega) (by omega) ?_ | ((first | refine pA_leq_s ?_ ?_ | refine pA_geq_s ?_ ?_) <;> intro hc <;> try (exfalso; omega)) | refine gA_go (by rfl) ?_ | refine gA_no (by rfl) ?_ | refine pGd_go (by rfl) ?_ | refine pGd_no (by rfl) ?_ | (refine pDr_go hS ?_; clear hS; intro w hS) | refine ⟨trivial, ?_⟩ | refine pA_v (hk := ?_) | fail)
  all_goals
    refine fin _ _ ?_ hS
    unfold R.There
    first
      | (refine ⟨fun _ => (by omega), fun _ => rfl⟩)
      | (refine ⟨fun h => (by cases h), fun h => (by omega)⟩)

end

end Go.Proofs.YtbgnnjfpiblkmaaGreatDoor

namespace Go.Proofs.YtbgnnjfpiblkmaaGreatDoor
open Go

attribute [local irreducible] oMv oV oU oCall oCallV oBi oBin oUn oLoad oStore oNil oFld oField oIdx oIndex oPick oAlloc oBox oBuild oBs oConv oMk oSl oExt oFn oIface oMap oLook oMapUp oRange oNext oEntry oInv oAssert oPanic oRes pN pA pL pDr pIf gA pGd

abbrev encCells (t wd en : Nat) : List Value := [pz t, pz wd, pz en]

section
variable {E w W : World} {M N : List HA} {Q : Value → World → Prop} {p : Z.Pr} {s : Z.St} {x : Z.W} {b t wd en : Nat} {q : Nat → Nat} {c : Value} {X : List Z.Op → HA} {l : List Z.Op}

end

end Go.Proofs.YtbgnnjfpiblkmaaGreatDoor

namespace Go.Proofs.YtbgnnjfpiblkmaaGreatDoor
open Go

set_option maxRecDepth 100000
section
variable {w : World} {K : Value → World → Prop}
end
theorem Sat.fd3 {E w : World} {L M N O : List HA} {σ τ υ : Type} (hS : Sat E w L) (F : σ → HA) (G : τ → HA) (H : υ → HA) {a : σ} {b : τ} {c : υ} [h1 : Fnd F L a M] [h2 : Fnd G M b N] [h3 : Fnd H N c O] : Sat E w (F a :: G b :: H c :: O) := hS.perm (h1.perm.trans ((h2.perm.trans (h3.perm.cons _)).cons _))
theorem Sat.fd4 {E w : World} {L M N O R : List HA} {σ τ υ φ : Type} (hS : Sat E w L) (F : σ → HA) (G : τ → HA) (H : υ → HA) (I : φ → HA) {a : σ} {b : τ} {c : υ} {d : φ} [h1 : Fnd F L a M] [h2 : Fnd G M b N] [h3 : Fnd H N c O] [h4 : Fnd I O d R] : Sat E w (F a :: G b :: H c :: I d :: R) := hS.perm (h1.perm.trans ((h2.perm.trans ((h3.perm.trans (h4.perm.cons _)).cons _)).cons _))
attribute [local irreducible] oMv oV oU oCall oCallV oBi oBin oUn oLoad oStore oNil oFld oField oIdx oIndex oPick oAlloc oBox oBuild oBs oConv oMk oSl oExt oFn oIface oMap oLook oMapUp oRange oNext oEntry oInv oAssert oPanic oRes pN pA pL pDr pIf gA pGd

section
variable {E w W : World} {M N : List HA} {Q : Value → World → Prop} {p : Z.Pr} {s : Z.St} {x : Z.W} {b t wd en : Nat} {q : Nat → Nat} {c : Value} {X : List Z.Op → HA} {l : List Z.Op}

end

end Go.Proofs.YtbgnnjfpiblkmaaGreatDoor

namespace Go.Proofs.YtbgnnjfpiblkmaaGreatDoor
open Go
attribute [local irreducible] oMv oV oU oCall oCallV oBi oBin oUn oLoad oStore oNil oFld oField oIdx oIndex oPick oAlloc oBox oBuild oBs oConv oMk oSl oExt oFn oIface oMap oLook oMapUp oRange oNext oEntry oInv oAssert oPanic oRes pN pA pL pDr pIf gA pGd

section
variable {E w W : World} {M N : List HA} {Q : Value → World → Prop} {p : Z.Pr} {s : Z.St} {x : Z.W} {b t wd en : Nat} {q : Nat → Nat} {c : Value} {X : List Z.Op → HA} {l : List Z.Op}

end

end Go.Proofs.YtbgnnjfpiblkmaaGreatDoor

namespace Go.Proofs.YtbgnnjfpiblkmaaGreatDoor
open Go
namespace Z
end Z

def codX (p : Z.Pr) (en : Nat) (q : Nat → Nat) (z : Z.ES) (l : List Z.Op) : HA := fun h => (∀ o ∈ l, o.Ok p) ∧ Sats [Enc en (Z.runO z l).s, tabs q (Z.runO z l).T] h
def cstX (p : Z.Pr) (a : Nat) (q : Nat → Nat) (T : Nat → List Int) (l : List Z.Op) : HA := fun h => (∀ o ∈ l, o.Ok p) ∧ Sats [cel a ⟨155, [.int .i64 (Z.costO T l)]⟩, tabs q T] h

section
variable {E w : World} {M : List HA} {p : Z.Pr} {en a : Nat} {q : Nat → Nat} {z : Z.ES} {T : Nat → List Int} {l : List Z.Op}
theorem codX.opn (hS : Sat E w (codX p en q z l :: M)) : (∀ o ∈ l, o.Ok p) ∧ Sat E w (Enc en (Z.runO z l).s :: tabs q (Z.runO z l).T :: M) := by
  obtain ⟨h1, ⟨hA, _⟩, _⟩ := hS.head
  exact ⟨hA, hS.open_ (M := [_, _]) fun _ h => h.2⟩
theorem codX.shut {m : List Z.Op} (hm : ∀ o ∈ m, o.Ok p) {s : R.S} {T : Nat → List Int} (hS : Sat E w (Enc en s :: tabs q T :: M)) (hs : Z.runO z m = ⟨s, T⟩) : Sat E w (codX p en q z m :: M) := by
  refine Sat.shut (M := [_, _]) hS fun _ h => ⟨hm, ?_⟩
  rw [hs]; exact h
theorem cstX.opn (hS : Sat E w (cstX p a q T l :: M)) : (∀ o ∈ l, o.Ok p) ∧ Sat E w (cel a ⟨155, [.int .i64 (Z.costO T l)]⟩ :: tabs q T :: M) := by
  obtain ⟨h1, ⟨hA, _⟩, _⟩ := hS.head
  exact ⟨hA, hS.open_ (M := [_, _]) fun _ h => h.2⟩
theorem cstX.shut {m : List Z.Op} (hm : ∀ o ∈ m, o.Ok p) {v : Int} (hS : Sat E w (cel a ⟨155, [.int .i64 v]⟩ :: tabs q T :: M)) (hv : v = Z.costO T m) : Sat E w (cstX p a q T m :: M) := by
  subst hv
  exact Sat.shut (M := [_, _]) hS fun _ h => ⟨hm, h⟩
end
attribute [local irreducible] oMv oV oU oCall oCallV oBi oBin oUn oLoad oStore oNil oFld oField oIdx oIndex oPick oAlloc oBox oBuild oBs oConv oMk oSl oExt oFn oIface oMap oLook oMapUp oRange oNext oEntry oInv oAssert oPanic oRes pN pA pL pDr pIf gA pGd

section
variable {E w : World} {M : List HA} {p : Z.Pr} {en a : Nat} {q : Nat → Nat} {z : Z.ES} {T : Nat → List Int} {l : List Z.Op} {K : Value → World → Prop}

end

end Go.Proofs.YtbgnnjfpiblkmaaGreatDoor

namespace Go.Proofs.YtbgnnjfpiblkmaaGreatDoor
open Go
namespace Z
structure EZ where
  p : Pr
  st : St
  T : Nat → List Int
  x : W
  s : R.S
structure EZ.Ok (e : EZ) : Prop where
  p : e.p.Ok
  st : e.st.Right
  T : TabOk e.p e.T
  s : R.Ok e.s
def EZ.may (e : EZ) (y : Y) : Int := Z.may e.x e.st y
def EZ.ops (e : EZ) (y : Y) : List Op := symOps e.p e.st e.x y
def EZ.es (e : EZ) (y : Y) : ES := runO ⟨e.s, e.T⟩ (e.ops y)
def EZ.put1 (e : EZ) (y : Y) : EZ := ⟨e.p, e.st.next y, (e.es y).T, e.x.put (made e.x e.st y), (e.es y).s⟩
def EZ.put (e : EZ) (y : Y) : EZ := if e.may y = 0 then e.put1 y else e
def EZ.cost (e : EZ) (y : Y) : Int := if e.may y = 0 then costO e.T (e.ops y) else 0
def EZ.new (p : Pr) (dict : Int) : EZ := ⟨p, St.new, T0 p, ⟨dict, []⟩, R.S.new⟩
def EZ.cut (e : EZ) : EZ := ⟨e.p, e.st, e.T, e.x, R.S.new⟩
def EZ.clear (e : EZ) : EZ := ⟨e.p, St.new, T0 e.p, ⟨e.x.size, []⟩, e.s⟩
def EZ.reset (e : EZ) (p : Pr) : EZ := if p.Ok then ⟨p, St.new, T0 p, e.x, e.s⟩ else e
def EZ.raw (e : EZ) (b : List UInt8) : EZ := ⟨e.p, e.st, e.T, e.x.put b, e.s⟩
theorem EZ.Ok.new {p : Pr} (h : p.Ok) (d : Int) : (EZ.new p d).Ok := ⟨h, St.Right.new, TabOk.new p, R.Ok.new⟩
theorem EZ.Ok.put1 {e : EZ} (h : e.Ok) {y : Y} (hm : e.may y = 0) : (e.put1 y).Ok ∧ (e.put1 y).s.k ≤ e.s.k + 26 := by
  have hy := may_err hm
  have ho := symOps_ok h.p h.st e.x hy
  have h1 := ops_ok (z := ⟨e.s, e.T⟩) ⟨h.s, h.T⟩ ho.ok
  have hw := ho.wt
  exact ⟨⟨h.p, h.st.next hy, h1.1.T, h1.1.s⟩, Nat.le_trans h1.2 (Nat.add_le_add_left hw _)⟩
theorem EZ.Ok.put {e : EZ} (h : e.Ok) (y : Y) : (e.put y).Ok ∧ (e.put y).s.k ≤ e.s.k + 26 := by
  unfold EZ.put
  split
  · exact h.put1 (by assumption)
  · exact ⟨h, by omega⟩
theorem EZ.put_len {e : EZ} (y : Y) : (e.put y).x.all.length ≤ e.x.all.length + 273 := by
  unfold EZ.put
  split
  · rename_i hm
    have hy := may_err hm
    have := made_len (x := e.x) (s := e.st) hy
    have := size_bd hy
    simp only [EZ.put1, List.length_append]
    omega
  · omega
theorem EZ.Ok.cut {e : EZ} (h : e.Ok) : e.cut.Ok := ⟨h.p, h.st, h.T, R.Ok.new⟩
theorem EZ.Ok.clear {e : EZ} (h : e.Ok) : e.clear.Ok := ⟨h.p, St.Right.new, TabOk.new _, h.s⟩
theorem EZ.Ok.reset {e : EZ} (h : e.Ok) (p : Pr) : (e.reset p).Ok := by
  unfold EZ.reset
  split
  · exact ⟨by assumption, St.Right.new, TabOk.new _, h.s⟩
  · exact h
theorem EZ.Ok.raw {e : EZ} (h : e.Ok) (b : List UInt8) : (e.raw b).Ok := ⟨h.p, h.st, h.T, h.s⟩
end Z
attribute [local irreducible] oMv oV oU oCall oCallV oBi oBin oUn oLoad oStore oNil oFld oField oIdx oIndex oPick oAlloc oBox oBuild oBs oConv oMk oSl oExt oFn oIface oMap oLook oMapUp oRange oNext oEntry oInv oAssert oPanic oRes pN pA pL pDr pIf gA pGd

section
variable {E w W : World} {M N : List HA} {Q : Value → World → Prop} {p : Z.Pr} {s : Z.St} {x : Z.W} {b t wd en : Nat} {q : Nat → Nat} {y : Z.Y}

end

end Go.Proofs.YtbgnnjfpiblkmaaGreatDoor

namespace Go.Proofs.YtbgnnjfpiblkmaaGreatDoor
open Go
namespace Z
end Z
def RT (be bm : Nat) (p : Z.Pr) (z : Z.ES) : HA := fun h => ∃ N : Key → List Int, (z.Ok p ∧ Z.Rel Z.pre14 768 p N z.T) ∧ Sats [REnc be z.s, RSets bm N] h
section
variable {E w : World} {M : List HA} {be bm : Nat} {p : Z.Pr} {z : Z.ES} {N : Key → List Int}
theorem RT.opn (hS : Sat E w (RT be bm p z :: M)) : ∃ N, z.Ok p ∧ Z.Rel Z.pre14 768 p N z.T ∧ Sat E w (REnc be z.s :: RSets bm N :: M) := by
  obtain ⟨N, hS⟩ := hS.ex
  obtain ⟨h1, ⟨hA, _⟩, _⟩ := hS.head
  exact ⟨N, hA.1, hA.2, hS.open_ (M := [_, _]) fun _ h => h.2⟩
theorem RT.shut (hS : Sat E w (REnc be z.s :: RSets bm N :: M)) (h1 : z.Ok p) (h2 : Z.Rel Z.pre14 768 p N z.T) : Sat E w (RT be bm p z :: M) :=
  Sat.shut (M := [_, _]) hS fun _ h => ⟨N, ⟨h1, h2⟩, h⟩
end
theorem cel_cnv {E w : World} {M : List HA} {t : Nat} {o o' : Ob} (h : o = o') (hS : Sat E w (cel t o :: M)) : Sat E w (cel t o' :: M) := h ▸ hS
attribute [local irreducible] oMv oV oU oCall oCallV oBi oBin oUn oLoad oStore oNil oFld oField oIdx oIndex oPick oAlloc oBox oBuild oBs oConv oMk oSl oExt oFn oIface oMap oLook oMapUp oRange oNext oEntry oInv oAssert oPanic oRes pN pA pL pDr pIf gA pGd Calls

section
variable {E w : World} {M : List HA} {Q : Value → World → Prop} {bm be bw c b : Nat} {N : Key → List Int} {n : Key} {l : List Int} {p : Z.Pr} {s : Z.St} {x : Z.W} {y : Z.Y} {z : Z.ES} {u : Z.PB}
theorem R14Set_at {cs : List Value} {nme : List UInt8} (hn : n.1 = nme) (hS : Sat E w (cel c ⟨73, cs⟩ :: RSets bm N :: M)) (hv : cs[9]? = some (.map (some bm))) (hQ : ∀ b w, Sat E w (RSet b (N n) :: RHole bm N n b :: cel c ⟨73, cs⟩ :: M) → Q (pz b) w) :
    Calls Tryz.prog 72 #[pz c, .string ⟨nme.toArray⟩] w (retP Q) := by
  subst hn; exact R14Set_ok hS hv hQ
theorem RT.turn (hp : p.Ok) (ho : z.Ok p) (hr : Z.Rel Z.pre14 768 p N z.T) (hu : u.Ok p) (ht : u.t ≠ 18) (hn : n = Z.keyU Z.pre14 (Z.un u.t u.i.toNat))
    (hS : Sat E w (REnc be (z.s.cut (B.bound z.s.R (Z.pr z.T u)) u.b) :: RSet b ((N n).set (Z.pl u.t u.i.toNat) (B.next (Z.pr z.T u) u.b)) :: RHole bm N n b :: M)) : Sat E w (RT be bm p (Z.stepB z u) :: M) := by
  subst hn
  have hx := hu.t.resolve_left ht
  have hS := NHole.shut (hS.perm ((List.Perm.swap _ _ _).trans ((List.Perm.swap _ _ _).cons _)))
  have h1 := (Z.step_ok ho hu).1
  have e1 : (Z.stepB z u).s = z.s.cut (B.bound z.s.R (Z.pr z.T u)) u.b := by rw [Z.stepB, if_neg ht]
  have e2 : (Z.stepB z u).T = Z.upd z.T u.t ((z.T u.t).set u.i.toNat (B.next (Z.pr z.T u) u.b)) := by simp only [Z.stepB, Z.turn, if_neg ht]
  rw [← e1] at hS
  refine RT.shut (hS.perm (List.Perm.swap _ _ _)) h1 ?_
  rw [e2]
  have hTg : (z.T u.t)[u.i.toNat]? = some (Z.pr z.T u) := by
    have hl := ho.T.len u.t hx.1
    rw [Z.pr, List.getD_eq_getElem?_getD, List.getElem?_eq_getElem (show u.i.toNat < (z.T u.t).length by omega)]; rfl
  have hpb := (ho.T.fine u.t).get hTg
  exact hr.upd Z.pre14_ok (Nat.le_refl _) hp ho.T.len hx.1 (by omega) _ ⟨B.next_lo _ hpb.1 hpb.2, B.next_hi _ hpb.1 hpb.2⟩
end

section
variable {E w : World} {M : List HA} {Q : Value → World → Prop} {bm be bw c b : Nat} {p : Z.Pr} {s : Z.St} {x : Z.W} {y : Z.Y} {z : Z.ES}
end
end Go.Proofs.YtbgnnjfpiblkmaaGreatDoor

namespace Go.Proofs.YtbgnnjfpiblkmaaGreatDoor
open Go

namespace Z
end Z
theorem NSets.make {E w : World} {M : List HA} {S : Nat → List Int → HA} {fr : List Int} {bm : Nat} {N : Key → List Int} {m : List NS} (h1 : (m.map (·.name)).Nodup) (h2 : ∀ n, N n = Z.look fr m n) (hS : Sat E w (mp ske bm (nsV m) :: bag (nsA S m) :: M)) : Sat E w (NSets S fr bm N :: M) := by
  have hS := (hS.perm (List.Perm.swap _ _ _)).openBag
  have hS := hS.perm (List.perm_middle (a := mp ske bm (nsV m)) (l₁ := nsA S m) (l₂ := M))
  exact Sat.shut (M := mp ske bm (nsV m) :: nsA S m) hS fun h hh => ⟨m, h1, h2, hh⟩
theorem NSets.fresh {E w : World} {M : List HA} {S : Nat → List Int → HA} {fr : List Int} {bm : Nat} (hS : Sat E w (mp ske bm [] :: M)) : Sat E w (NSets S fr bm (fun _ => fr) :: M) :=
  Sat.shut (M := [_]) hS fun h hh => ⟨[], List.nodup_nil, fun _ => rfl, hh⟩

def RCod (c : Nat) (e : Z.EZ) : HA := fun h => ∃ k : Nat × Nat × Nat, (e.Ok ∧ 1 ≤ e.x.size) ∧ Sats [Cod c e.p k.1 e.st k.2.1 k.2.2, RWin k.1 e.x, RT k.2.2 k.2.1 e.p ⟨e.s, e.T⟩] h
section
variable {E w : World} {M : List HA} {c bw bm be : Nat} {e : Z.EZ}
theorem RCod.opn (hS : Sat E w (RCod c e :: M)) : e.Ok ∧ 1 ≤ e.x.size ∧ ∃ bw bm be, Sat E w (Cod c e.p bw e.st bm be :: RWin bw e.x :: RT be bm e.p ⟨e.s, e.T⟩ :: M) := by
  obtain ⟨k, hS⟩ := hS.ex
  obtain ⟨h1, ⟨hA, _⟩, _⟩ := hS.head
  exact ⟨hA.1, hA.2, k.1, k.2.1, k.2.2, hS.open_ (M := [_, _, _]) fun _ h => h.2⟩
theorem RCod.shut (hS : Sat E w (Cod c e.p bw e.st bm be :: RWin bw e.x :: RT be bm e.p ⟨e.s, e.T⟩ :: M)) (h1 : e.Ok) (h2 : 1 ≤ e.x.size) : Sat E w (RCod c e :: M) :=
  Sat.shut (M := [_, _, _]) hS fun _ h => ⟨(bw, bm, be), ⟨h1, h2⟩, h⟩
end
attribute [local irreducible] oMv oV oU oCall oCallV oBi oBin oUn oLoad oStore oNil oFld oField oIdx oIndex oPick oAlloc oBox oBuild oBs oConv oMk oSl oExt oFn oIface oMap oLook oMapUp oRange oNext oEntry oInv oAssert oPanic oRes pN pA pL pDr pIf gA pGd Calls

section
variable {E w : World} {M : List HA} {Q : Value → World → Prop} {bm be bw c b : Nat} {l : List Int} {st : R.S} {e : Z.EZ} {y : Z.Y} {p : Z.Pr}
theorem new_rel {p : Z.Pr} (hp : p.Ok) : Z.Rel Z.pre14 768 p (fun _ => Z.fresh) (Z.T0 p) := Z.Rel.new Z.pre14 (Nat.le_refl _) hp

theorem R14New_in (hS : Sat E w M) (hp : p.Ok) (d : Int) (h0 : 1 ≤ d) (h1 : d ≤ 4294967295) (hQ : ∀ b w, Sat E w (RCod b (Z.EZ.new p d) :: M) → Q (.tuple #[pz b, .int .i64 0]) w) :
    Calls Tryz.prog 14 #[.agg #[.int .i64 p.lc, .int .i64 p.lp, .int .i64 p.pb], .int .i64 d] w (retP Q) := by
  refine pithref14_New.calls ?_
  unfold pithref14_New.F
  repeat' (first | (refine pc_pithref12_PropsByte (R12PropsByte_in p hp hS ?_); clear hS; intro w hS) | (refine pc_pithref10_New (R10New_in hS d h0 h1 ?_); clear hS; intro bw w hS) | (refine pc_pithref12_New (R12New_ok hS ?_); clear hS; intro w hS) | (refine pc_pithref07_New (RNewE_ok hS ?_); clear hS; intro be w hS) | (refine pN_mkm hS ske ?_; clear hS; intro bm w hS) | refine And.intro ?_ ?_ | exact trivial | exact run_la_at hS [.int .i64 p.lc, .int .i64 p.lp, .int .i64 p.pb] rfl rfl | (refine pN_neq_s ?_ ?_ <;> intro hc <;> try (exfalso; first | omega | exact hc rfl | exact hc (by assumption) | exact absurd hc (by assumption))) | refine pIf_f ?_ | refine pN_la hS (by rfl) ?_ | refine pL_la hS (by rfl) ?_ | (refine pN_s hS (by first | exact Nat.le_of_ble_eq_true rfl | assumption) (by rfl) ?_; clear hS; intro w hS; try simp only [List.set_cons_zero, List.set_cons_succ] at hS) | (refine pDr_go hS ?_; clear hS; intro w hS) | (refine pN_bx hS (by rfl) ?_; clear hS; intro a w hS) | refine pN_v (hk := ?_) | fail)
  have hS := NSets.fresh (S := RSet) (fr := Z.fresh) (hS.fd (mp ske bm))
  have hS := RT.shut (p := p) (z := ⟨R.S.new, Z.T0 p⟩) (hS.fd2 (REnc be) (NSets RSet Z.fresh bm)) ⟨R.Ok.new, Z.TabOk.new p⟩ (new_rel hp)
  have hS := cel_cnv (t := a) (o' := ⟨73, coderC p bw Z.St.new bm be⟩) rfl (hS.fd (cel a))
  exact hQ _ _ (RCod.shut (e := ⟨p, Z.St.new, Z.T0 p, ⟨d, []⟩, R.S.new⟩) (bw := bw) (bm := bm) (be := be) hS.to (Z.EZ.Ok.new hp d) h0)
theorem R14New_no (hS : Sat E w M) (d : Int) (hpb : -9223372036854775808 ≤ p.lc ∧ p.lc < 9223372036854775808) (h : ¬ (p.Ok ∧ 1 ≤ d ∧ d ≤ 4294967295)) (hQ : ∀ w, Sat E w M → Q (.tuple #[.pointer none, .int .i64 (if p.Ok then 7 else 6)]) w) :
    Calls Tryz.prog 14 #[.agg #[.int .i64 p.lc, .int .i64 p.lp, .int .i64 p.pb], .int .i64 d] w (retP Q) := by
  refine pithref14_New.calls ?_
  unfold pithref14_New.F
  by_cases hp : p.Ok
  · rw [if_pos hp] at hQ
    repeat' (first | (refine pc_pithref12_PropsByte (R12PropsByte_in p hp hS ?_); clear hS; intro w hS) | (refine pc_pithref10_New (R10New_no hS d (fun hd => h ⟨hp, hd⟩) ?_); clear hS; intro w hS) | (refine pN_neq_s ?_ ?_ <;> intro hc <;> try (exfalso; first | omega | exact hc rfl | exact hc (by assumption) | exact absurd hc (by assumption))) | refine pIf_t ?_ | refine pIf_f ?_ | refine pN_la hS (by rfl) ?_ | (refine pN_bx hS (by rfl) ?_; clear hS; intro a w hS) | refine pN_v (hk := ?_) | fail)
    exact hQ _ hS.to
  · rw [if_neg hp] at hQ
    repeat' (first | (refine pc_pithref12_PropsByte (R12PropsByte_no p hp hpb hS ?_); clear hS; intro w hS) | (refine pN_neq_s ?_ ?_ <;> intro hc <;> try (exfalso; first | omega | exact hc rfl | exact hc (by assumption) | exact absurd hc (by assumption))) | refine pIf_t ?_ | refine pN_la hS (by rfl) ?_ | (refine pN_bx hS (by rfl) ?_; clear hS; intro a w hS) | refine pN_v (hk := ?_) | fail)
    exact hQ _ hS.to
theorem R14Reset_in {p : Z.Pr} (hp : p.Ok) (hS : Sat E w (RCod c e :: M)) (hQ : ∀ w, Sat E w (RCod c (e.reset p) :: M) → Q (.int .i64 0) w) :
    Calls Tryz.prog 27 #[pz c, .agg #[.int .i64 p.lc, .int .i64 p.lp, .int .i64 p.pb]] w (retP Q) := by
  refine pithref14_Coder_Reset.calls ?_
  unfold pithref14_Coder_Reset.F
  obtain ⟨he, h1, bw, bm, be, hS⟩ := RCod.opn hS
  obtain ⟨N, ho, hr, hS⟩ := RT.opn (hS.fd (RT be bm e.p))
  have er : e.reset p = ⟨p, Z.St.new, Z.T0 p, e.x, e.s⟩ := by rw [Z.EZ.reset, if_pos hp]
  have he2 := he.reset p
  rw [er] at hQ he2
  repeat' (first | (refine pc_pithref12_PropsByte (R12PropsByte_in p hp hS ?_); clear hS; intro w hS) | (refine pc_pithref12_New (R12New_ok hS ?_); clear hS; intro w hS) | (refine pN_mkm hS ske ?_; clear hS; intro bm2 w hS) | refine pN_la_at (n := 3) hS [.int .i64 p.lc, .int .i64 p.lp, .int .i64 p.pb] rfl rfl ?_ | (refine pN_sa_at (us := [.int .i64 p.lc, .int .i64 p.lp, .int .i64 p.pb]) hS rfl (Nat.le_of_ble_eq_true rfl) rfl ?_; clear hS; intro w hS) | (refine pN_sa_at (us := Z.St.new.cells) hS rfl (Nat.le_of_ble_eq_true rfl) rfl ?_; clear hS; intro w hS) | (refine pN_neq_s ?_ ?_ <;> intro hc <;> try (exfalso; first | omega | exact hc rfl | exact hc (by assumption) | exact absurd hc (by assumption))) | refine pIf_f ?_ | (refine pN_s hS (by first | exact Nat.le_of_ble_eq_true rfl | assumption) (by rfl) ?_; clear hS; intro w hS; try simp only [List.set_cons_zero, List.set_cons_succ] at hS) | (refine pN_bx hS (by rfl) ?_; clear hS; intro a w hS) | refine pN_v (hk := ?_) | fail)
  have hS := cel_cnv (t := c) (o' := ⟨73, coderC p bw Z.St.new bm2 be⟩) rfl (hS.fd (cel c))
  have hS := NSets.fresh (S := RSet) (fr := Z.fresh) (hS.fd (mp ske bm2))
  have hS := RT.shut (p := p) (z := ⟨e.s, Z.T0 p⟩) (hS.fd2 (REnc be) (NSets RSet Z.fresh bm2)) ⟨he.s, Z.TabOk.new p⟩ (new_rel hp)
  exact hQ _ (RCod.shut (e := ⟨p, Z.St.new, Z.T0 p, e.x, e.s⟩) (bw := bw) (bm := bm2) (be := be) hS.to he2 h1)
theorem R14Reset_no {p : Z.Pr} (hp : ¬ p.Ok) (hpb : -9223372036854775808 ≤ p.lc ∧ p.lc < 9223372036854775808) (hS : Sat E w (RCod c e :: M)) (hQ : ∀ w, Sat E w (RCod c e :: M) → Q (.int .i64 6) w) :
    Calls Tryz.prog 27 #[pz c, .agg #[.int .i64 p.lc, .int .i64 p.lp, .int .i64 p.pb]] w (retP Q) := by
  refine pithref14_Coder_Reset.calls ?_
  unfold pithref14_Coder_Reset.F
  repeat' (first | (refine pc_pithref12_PropsByte (R12PropsByte_no p hp hpb hS ?_); clear hS; intro w hS) | (refine pN_neq_s ?_ ?_ <;> intro hc <;> try (exfalso; first | omega | exact hc rfl | exact hc (by assumption) | exact absurd hc (by assumption))) | refine pIf_t ?_ | refine pN_la hS (by rfl) ?_ | (refine pN_bx hS (by rfl) ?_; clear hS; intro a w hS) | refine pN_v (hk := ?_) | fail)
  exact hQ _ hS.to
theorem R14Clear_ok (hS : Sat E w (RCod c e :: M)) (hQ : ∀ w, Sat E w (RCod c e.clear :: M) → Q (.tuple #[]) w) :
    Calls Tryz.prog 29 #[pz c] w (retP Q) := by
  refine pithref14_Coder_Clear.calls ?_
  unfold pithref14_Coder_Clear.F
  obtain ⟨he, h1, bw, bm, be, hS⟩ := RCod.opn hS
  repeat' (first | refine pN_la_at (n := 3) hS [.int .i64 e.p.lc, .int .i64 e.p.lp, .int .i64 e.p.pb] rfl rfl ?_ | refine pN_v (hk := ?_) | fail)
  have hS := RCod.shut (e := e) (bw := bw) (bm := bm) (be := be) hS he h1
  refine pc_pithref14_Coder_Reset (R14Reset_in (p := e.p) he.p hS fun w hS => ?_)
  have er : e.reset e.p = ⟨e.p, Z.St.new, Z.T0 e.p, e.x, e.s⟩ := by rw [Z.EZ.reset, if_pos he.p]
  have he2 := he.reset e.p
  rw [er] at hS he2
  obtain ⟨_, h1, bw, bm, be, hS⟩ := RCod.opn hS
  dsimp only at hS h1
  repeat' (first | (refine pc_pithref10_Window_Clear (R10Clear_ok (hS.fd (RWin bw)) ?_); clear hS; intro w hS) | refine pN_l hS (by first | rfl | assumption) ?_ | refine pN_v (hk := ?_) | fail)
  exact hQ _ (RCod.shut (e := ⟨e.p, Z.St.new, Z.T0 e.p, ⟨e.x.size, []⟩, e.s⟩) (bw := bw) (bm := bm) (be := be) hS.to he.clear h1)

end
end Go.Proofs.YtbgnnjfpiblkmaaGreatDoor

namespace Go.Proofs.YtbgnnjfpiblkmaaGreatDoor
open Go
namespace Z

theorem bitsRd_ok {p : Pr} {t : Nat} {at_ : Int} {N : Nat} (ht : t < 18) (h0 : 0 ≤ at_) (h1 : at_ + 2 ^ N ≤ tabLen p t) : ∀ (n : Nat) {l : List Int}, R.Bits l → l.length + n = N → (bitsRd t at_ n l).Ok p
  | 0, _, _, _ => trivial
  | n + 1, l, hb, hl => by
    have hn := R.nodeL_bd hb
    have p1 : (2 : Int) ^ (l.length + 1) ≤ 2 ^ N := two_le' (by omega)
    have p2 : (0 : Int) < 2 ^ l.length := Int.pow_pos (by omega)
    exact ⟨.inr ⟨ht, by omega, by omega⟩, fun b h => bitsRd_ok ht h0 h1 n (hb.snoc h) (by rw [List.length_append, List.length_cons, List.length_nil]; omega)⟩
theorem treeRd_ok {p : Pr} {back : Bool} {t : Nat} {at_ : Int} {n : Nat} (ht : t < 18) (h0 : 0 ≤ at_) (h1 : at_ + 2 ^ n ≤ tabLen p t) : (treeRd back t at_ n).Ok p :=
  (bitsRd_ok ht h0 h1 n (fun _ h => by cases h) (by simp)).map
theorem dirRd_ok {p : Pr} : ∀ (n : Nat) {v : Int}, (dirRd n v).Ok p
  | 0, _ => trivial
  | n + 1, _ => ⟨.inl rfl, fun _ _ => dirRd_ok n⟩
theorem litGoRd_ok {p : Pr} {f t : Int} (hf : 0 ≤ f ∧ f + 768 ≤ tabLen p 6) : ∀ (i : Nat) {m : Int} {same : Bool}, i ≤ 8 → 1 ≤ m → m < 2 ^ (9 - i) → (litGoRd f t i m same).Ok p
  | 0, _, _, _, _, _ => trivial
  | i + 1, m, same, hi, h1, h2 => by
    have e : 9 - i = (9 - (i + 1)) + 1 := by omega
    have hm : m < 256 := by
      have : (2 : Int) ^ (9 - (i + 1)) ≤ 2 ^ 8 := two_le' (by omega)
      have e8 : (2 : Int) ^ 8 = 256 := by decide
      omega
    refine ⟨.inr ⟨by decide, by split <;> omega, by split <;> omega⟩, fun b hb => litGoRd_ok hf i (by omega) (by omega) ?_⟩
    rw [e, Int.pow_succ]
    omega
theorem litRd_ok {p : Pr} (hp : p.Ok) (s : St) (x : W) : (litRd p s x).Ok p := by
  have hl := (lastOr x 1).toNat_lt
  have hc := context_bd hp x.all.length (lastOr x 1).toNat (by omega) (by omega)
  have e8 : (2 : Int) ^ 8 = 256 := by decide
  unfold litRd
  split
  · exact treeRd_ok (by decide) hc.1 (by omega)
  · exact litGoRd_ok hc 8 (by omega) (by omega) (by decide)
theorem lenRd_ok {p : Pr} (hp : p.Ok) {c : Nat} (hc : c = 7 ∨ c = 11) (pos : Int) : (lenRd c p pos).Ok p := by
  obtain ⟨t0, t1, t2, t3⟩ := tab_c p c hc
  have hpl := place_bd hp pos
  have e3 : (2 : Int) ^ 3 = 8 := by decide
  have e8 : (2 : Int) ^ 8 = 256 := by decide
  refine ⟨.inr ⟨by omega, by omega, by omega⟩, fun b hb => ?_⟩
  rcases hb with rfl | rfl
  · exact (treeRd_ok (by omega) (by omega) (by omega)).map
  · refine ⟨.inr ⟨by omega, by omega, by omega⟩, fun b hb => ?_⟩
    rcases hb with rfl | rfl
    · exact (treeRd_ok (by omega) (by omega) (by omega)).map
    · exact (treeRd_ok (by omega) (by omega) (by omega)).map
theorem distRd_ok (p : Pr) {n : Int} (hn : isLen n) : (distRd n).Ok p := by
  obtain ⟨n1, n2⟩ := hn
  have e6 : (2 : Int) ^ 6 = 64 := by decide
  have e4 : (2 : Int) ^ 4 = 16 := by decide
  have t15 : tabLen p 15 = 256 := rfl
  have t16 : tabLen p 16 = 128 := rfl
  have t17 : tabLen p 17 = 16 := rfl
  refine (treeRd_ok (by decide) (by omega) (by omega)).bind fun s m hs => ?_
  obtain ⟨s0, s1, _⟩ := treeRd_path.1 hs
  rw [e6] at s1
  split
  · trivial
  · split
    · have hr := rest_law s (by omega) (by omega)
      exact (treeRd_ok (by decide) hr.1 (by omega)).map
    · exact (dirRd_ok _).bind fun h m hm => (treeRd_ok (by decide) (by omega) (by omega)).map
theorem symRd_ok {p : Pr} (hp : p.Ok) {s : St} (hs : s.Right) (x : W) : (symRd p s x).Ok p := by
  have hn := hs.num
  have hpl := place_bd hp x.all.length
  have t0 : tabLen p 0 = 192 := rfl
  have t1 : tabLen p 1 = 192 := rfl
  have t2 : tabLen p 2 = 12 := rfl
  have t3 : tabLen p 3 = 12 := rfl
  have t4 : tabLen p 4 = 12 := rfl
  have t5 : tabLen p 5 = 12 := rfl
  refine ⟨.inr ⟨by decide, by omega, by omega⟩, fun b _ => ?_⟩
  dsimp only
  split
  · exact (litRd_ok hp s x).map
  refine ⟨.inr ⟨by decide, by omega, by omega⟩, fun b _ => ?_⟩
  dsimp only
  split
  · exact (lenRd_ok hp (.inl rfl) _).bind fun n m hm => (distRd_ok p (lenRd_path.1 hm).1).map
  refine ⟨.inr ⟨by decide, by omega, by omega⟩, fun b _ => ?_⟩
  dsimp only
  split
  · refine ⟨.inr ⟨by decide, by omega, by omega⟩, fun b _ => ?_⟩
    dsimp only
    split
    · trivial
    · exact (lenRd_ok hp (.inr rfl) _).map
  refine ⟨.inr ⟨by decide, by omega, by omega⟩, fun b _ => ?_⟩
  dsimp only
  split
  · exact (lenRd_ok hp (.inr rfl) _).map
  refine ⟨.inr ⟨by decide, by omega, by omega⟩, fun b _ => ?_⟩
  exact (lenRd_ok hp (.inr rfl) _).map

structure DZ where
  p : Pr
  st : St
  T : Nat → List Int
  x : W
structure DZ.Ok (e : DZ) : Prop where
  p : e.p.Ok
  st : e.st.Right
  T : TabOk e.p e.T
def DZ.new (p : Pr) (dict : Int) : DZ := ⟨p, St.new, T0 p, ⟨dict, []⟩⟩
def DZ.clear (e : DZ) : DZ := ⟨e.p, St.new, T0 e.p, ⟨e.x.size, []⟩⟩
def DZ.reset (e : DZ) (p : Pr) : DZ := if p.Ok then ⟨p, St.new, T0 p, e.x⟩ else e
def DZ.raw (e : DZ) (b : List UInt8) : DZ := ⟨e.p, e.st, e.T, e.x.put b⟩
theorem DZ.Ok.new {p : Pr} (h : p.Ok) (d : Int) : (DZ.new p d).Ok := ⟨h, St.Right.new, TabOk.new p⟩
theorem DZ.Ok.clear {e : DZ} (h : e.Ok) : e.clear.Ok := ⟨h.p, St.Right.new, TabOk.new _⟩
theorem DZ.Ok.reset {e : DZ} (h : e.Ok) (p : Pr) : (e.reset p).Ok := by
  unfold DZ.reset
  split
  · exact ⟨by assumption, St.Right.new, TabOk.new _⟩
  · exact h
theorem DZ.Ok.raw {e : DZ} (h : e.Ok) (b : List UInt8) : (e.raw b).Ok := ⟨h.p, h.st, h.T⟩

structure LS where
  st : St
  x : W
  z : RS
  out : List UInt8
  l : List Y
def LS.step (s : LS) (z : RS) (y : Y) : LS := ⟨s.st.next y, s.x.put (made s.x s.st y), z, s.out ++ made s.x s.st y, s.l ++ [y]⟩
def stepD (p : Pr) (n : Int) (s : LS) : Option LS :=
  match (symRd p s.st s.x).run s.z with
  | none => none
  | some (z, y) => if may s.x s.st y = 0 ∧ size y ≤ n - s.out.length then some (s.step z y) else none
def loopD (p : Pr) (n : Int) : Nat → LS → Option LS
  | 0, s => if (s.out.length : Int) < n then none else some s
  | f + 1, s => if (s.out.length : Int) < n then match stepD p n s with
    | none => none
    | some t => loopD p n f t
    else some s
def DZ.ls (e : DZ) (d : D.S) : LS := ⟨e.st, e.x, ⟨d, e.T⟩, [], []⟩
def DZ.take (e : DZ) (b : List UInt8) (n : Int) : Option (DZ × List Y × List UInt8) :=
  match D.start b with
  | .no _ => none
  | .ok d _ => match loopD e.p n n.toNat (e.ls d) with
    | none => none
    | some t => if t.z.d.k = t.z.d.b.length ∧ t.z.d.C = 0 then some (⟨e.p, t.st, t.z.T, t.x⟩, t.l, t.out) else none

structure LS.Ok (p : Pr) (s : LS) : Prop where
  st : s.st.Right
  z : s.z.Ok p
theorem stepD_some {p : Pr} {n : Int} {s t : LS} (h : stepD p n s = some t) : ∃ z y, (symRd p s.st s.x).run s.z = some (z, y) ∧ may s.x s.st y = 0 ∧ size y ≤ n - s.out.length ∧ t = s.step z y := by
  unfold stepD at h
  split at h
  · cases h
  · rename_i z y e
    split at h
    · rename_i hc
      exact ⟨z, y, e, hc.1, hc.2, by cases h; rfl⟩
    · cases h
theorem LS.Ok.step {p : Pr} (hp : p.Ok) {n : Int} {s t : LS} (hs : s.Ok p) (h : stepD p n s = some t) : t.Ok p ∧ t.z.d.b = s.z.d.b := by
  obtain ⟨z, y, h1, h2, _, rfl⟩ := stepD_some h
  obtain ⟨h3, h4⟩ := Rd.run_ok (symRd_ok hp hs.st s.x) hs.z h1
  exact ⟨⟨hs.st.next (may_err h2), h3⟩, h4⟩
theorem LS.step_len {p : Pr} {n : Int} {s t : LS} (h : stepD p n s = some t) : (s.out.length : Int) + 1 ≤ t.out.length ∧ (t.out.length : Int) ≤ n ∧ (t.out.length : Int) ≤ s.out.length + 273 ∧ t.x.all.length + s.out.length = s.x.all.length + t.out.length ∧ t.x.size = s.x.size ∧ t.l.length = s.l.length + 1 := by
  obtain ⟨z, y, h1, h2, h3, rfl⟩ := stepD_some h
  have hy := may_err h2
  have hm := made_len (x := s.x) (s := s.st) hy
  have hb := size_bd hy
  simp only [LS.step, W.put, List.length_append, List.length_cons, List.length_nil]
  and_intros <;> first | trivial | omega

def EZ.dz (e : EZ) : DZ := ⟨e.p, e.st, e.T, e.x⟩

theorem Twin.start {b : List UInt8} {d : D.S} (h : D.start b = .ok d ()) : Twin b R.S.new d := by
  obtain ⟨h1, h2, h3⟩ := D.start_ok h
  unfold D.start at h
  split at h
  · cases h
  · rename_i h5
    split at h
    · cases h
    · rename_i hc
      cases h
      refine ⟨rfl, rfl, ?_, rfl⟩
      have hb0 : b[0]? = some 0 := by
        rw [not_or] at hc
        exact Decidable.not_not.1 hc.1
      have hsplit : b.take 5 = 0 :: (b.drop 1).take 4 := by
        cases b with
        | nil => simp at hb0
        | cons x l => simp at hb0; subst hb0; rfl
      have hn := R.num_append [0] ((b.drop 1).take 4)
      simp only
      rw [hsplit]
      rw [List.singleton_append] at hn
      rw [hn, show R.num [0] = 0 from rfl, Int.zero_mul]
      rfl
end Z
end Go.Proofs.YtbgnnjfpiblkmaaGreatDoor

namespace Go.Proofs.YtbgnnjfpiblkmaaGreatDoor
open Go
namespace Z

theorem bit_no {d : D.S} {c e : Int} (h : d.bit c = .no e) : e ≠ 0 := by
  unfold D.S.bit at h
  split at h
  · cases h
  · cases h; decide
theorem direct_no : ∀ (n : Nat) {d : D.S} {v e : Int}, d.direct v n = .no e → e ≠ 0
  | 0, d, v, e, h => by cases h
  | n + 1, d, v, e, h => by
    simp only [D.S.direct] at h
    split at h
    · cases h; decide
    · split at h
      · cases h; decide
      · exact direct_no n h
theorem ask_bitQ {z : RS} {t : Nat} {i : Int} (hne : t ≠ 18) (h : 0 ≤ i ∧ i < (z.T t).length) :
    z.ask t i = if (z.d.bitQ (z.T t) i).2.2.2 = 0 then some (⟨(z.d.bitQ (z.T t) i).1, upd z.T t (z.d.bitQ (z.T t) i).2.1⟩, (z.d.bitQ (z.T t) i).2.2.1) else none := by
  unfold RS.ask D.S.bitQ
  rw [if_neg hne, if_pos h]
  cases e : z.d.bit (B.bound z.d.R ((z.T t).getD i.toNat 0)) with
  | ok d v => simp
  | no e' =>
    have := bit_no e
    simp [this]
theorem dirRd_run : ∀ (n : Nat) {s : RS} {v : Int}, (dirRd n v).run s = match s.d.direct v n with
    | .ok d u => some (⟨d, s.T⟩, u)
    | .no _ => none
  | 0, s, v => rfl
  | n + 1, s, v => by
    simp only [dirRd, Rd.run, RS.ask, if_true, direct_1, D.S.direct]
    by_cases h : s.d.one.R ≤ s.d.one.C
    · simp only [if_pos h]
    · simp only [if_neg h]
      cases e : s.d.one.widen with
      | none => rfl
      | some d =>
        simp only [Int.mul_zero, Int.zero_add]
        exact dirRd_run n (s := ⟨d, s.T⟩) (v := 2 * v + s.d.bitAt (s.d.R / 2))
theorem dirQ_run {s : RS} {n : Nat} (hn : n ≤ 32) : (dirRd n 0).run s = if (s.d.dirQ n).2.2 = 0 then some (⟨(s.d.dirQ n).1, s.T⟩, (s.d.dirQ n).2.1) else none := by
  rw [dirRd_run]
  unfold D.S.dirQ
  rw [if_pos (show 0 ≤ (n : Int) ∧ (n : Int) ≤ 32 by omega), Int.toNat_natCast]
  cases e : s.d.direct 0 n with
  | ok d u => simp
  | no e' =>
    have := direct_no n e
    simp [this]
theorem walk_run {p : Pr} {s : RS} (hs : s.Ok p) {t : Nat} (ht : t < 18) {at_ : Int} {n : Nat} (hth : R.There (tabLen p t) at_ n) : ∀ k, k ≤ n →
    (bitsRd t at_ n []).run s = if (D.walk at_ (s.d, s.T t) k).2.2 = 0 then (bitsRd t at_ (n - k) (D.walk at_ (s.d, s.T t) k).2.1).run ⟨(D.walk at_ (s.d, s.T t) k).1.1, upd s.T t (D.walk at_ (s.d, s.T t) k).1.2⟩ else none
  | 0, _ => by
    simp only [D.walk, if_true, Nat.sub_zero, upd_same]
  | k + 1, hk => by
    rw [walk_run hs ht hth k (by omega)]
    have hz : D.AOk (s.d, s.T t) := ⟨hs.d, hs.T.fine t⟩
    obtain ⟨w1, w2, w3, w4⟩ := D.walk_ok (at_ := at_) hz k
    by_cases h0 : (D.walk at_ (s.d, s.T t) k).2.2 = 0
    · have hst := D.walk_step (at_ := at_) (z := (s.d, s.T t)) (y := (D.walk at_ (s.d, s.T t) k).1) (k := k) (l := (D.walk at_ (s.d, s.T t) k).2.1) (by rw [← h0])
      rw [if_pos h0, hst]
      generalize D.walk at_ (s.d, s.T t) k = W at *
      obtain ⟨⟨d, l⟩, bs, e⟩ := W
      dsimp only at *
      have hlen := w4 h0
      have hnd := R.nodeL_bd w3
      have hl := hs.T.len t ht
      have hl2 : l.length = (s.T t).length := w2.n
      obtain ⟨n0, n1, a0, a1, a2⟩ := hth
      rw [Int.toNat_natCast] at a2
      have p1 : (2 : Int) ^ (bs.length + 1) ≤ 2 ^ n := two_le' (by omega)
      have p2 : (0 : Int) < 2 ^ bs.length := Int.pow_pos (by omega)
      rw [show n - k = (n - (k + 1)) + 1 from by omega]
      have hr := ask_bitQ (z := ⟨d, upd s.T t l⟩) (t := t) (i := at_ + R.nodeL bs) (by omega) (by simp only [upd_self]; omega)
      simp only [bitsRd, Rd.run]
      rw [hr]
      simp only [upd_self, upd_upd]
      by_cases hb : (d.bitQ l (at_ + R.nodeL bs)).2.2.2 = 0
      · simp only [if_pos hb, if_true]
      · simp only [if_neg hb]
    · have hst := D.walk_stuck (at_ := at_) (z := (s.d, s.T t)) (k := k) h0 1
      rw [hst, if_neg h0, if_neg h0]
theorem gets_run {p : Pr} {s : RS} (hs : s.Ok p) {back : Bool} {t : Nat} (ht : t < 18) {at_ : Int} {n : Nat} (hth : R.There (tabLen p t) at_ n) :
    (treeRd back t at_ n).run s = if (D.gets (s.d, s.T t) at_ n back).2.2 = 0 then some (⟨(D.gets (s.d, s.T t) at_ n back).1.1, upd s.T t (D.gets (s.d, s.T t) at_ n back).1.2⟩, (D.gets (s.d, s.T t) at_ n back).2.1) else none := by
  have hl := hs.T.len t ht
  have h1 := walk_run hs ht hth n (Nat.le_refl _)
  rw [Nat.sub_self] at h1
  have hth2 : R.There (s.T t).length at_ n := by rw [hl]; exact hth
  rw [treeRd, Rd.map, Rd.run_bind, h1]
  unfold D.gets
  simp only [if_pos hth2, Int.toNat_natCast]
  by_cases h0 : (D.walk at_ (s.d, s.T t) n).2.2 = 0
  · simp only [if_pos h0, bitsRd, Rd.run, if_true]
  · simp only [if_neg h0]
theorem gets_bd {p : Pr} {s : RS} (hs : s.Ok p) {back : Bool} {t : Nat} (ht : t < 18) {at_ : Int} {n : Nat} (hth : R.There (tabLen p t) at_ n) :
    0 ≤ (D.gets (s.d, s.T t) at_ n back).2.1 ∧ (D.gets (s.d, s.T t) at_ n back).2.1 < 2 ^ n ∧ ((D.gets (s.d, s.T t) at_ n back).2.2 ≠ 0 → (D.gets (s.d, s.T t) at_ n back).2.1 = 0) := by
  have hl := hs.T.len t ht
  have hz : D.AOk (s.d, s.T t) := ⟨hs.d, hs.T.fine t⟩
  obtain ⟨w1, w2, w3, w4⟩ := D.walk_ok (at_ := at_) hz n
  have p0 : (0 : Int) < 2 ^ n := Int.pow_pos (by omega)
  unfold D.gets
  rw [if_pos (by rw [hl]; exact hth), Int.toNat_natCast]
  by_cases h0 : (D.walk at_ (s.d, s.T t) n).2.2 = 0
  · have hb := val_bd back w3
    rw [w4 h0] at hb
    simp only [if_pos h0]
    exact ⟨hb.1, hb.2, fun h => absurd rfl h⟩
  · simp only [if_neg h0]
    exact ⟨Int.le_refl _, p0, fun _ => trivial⟩
end Z
end Go.Proofs.YtbgnnjfpiblkmaaGreatDoor

namespace Go.Proofs.YtbgnnjfpiblkmaaGreatDoor
open Go
namespace Z
theorem ask_rel {w : Pre} (hw : PreOk w) {n : Nat} (hn : 768 ≤ n) {p : Pr} (hp : p.Ok) {N : Key → List Int} {y : RS} (hy : y.Ok p) (hr : Rel w n p N y.T) {t : Nat} {i : Int} (ht : t < 18) (h0 : 0 ≤ i) (h1 : i < tabLen p t)
    {U : D.S × List Int × Int × Int} (hU : U = y.d.bitQ (N (keyU w (un t i.toNat))) (pl t i.toNat)) :
    ∃ y' : RS, y'.Ok p ∧ y'.d.b = y.d.b ∧ y'.d = U.1 ∧ Rel w n p (updN N (keyU w (un t i.toNat)) U.2.1) y'.T ∧ (U.2.2.1 = 0 ∨ U.2.2.1 = 1) ∧ y.ask t i = if U.2.2.2 = 0 then some (y', U.2.2.1) else none := by
  have hlen := hy.T.len t ht
  have hu := un_bd hp ht (i := i.toNat) (by omega)
  have hN := hr.get t ht i.toNat (by omega)
  have hNl := hr.len (keyU w (un t i.toNat))
  have hTg : (y.T t)[i.toNat]? = some ((y.T t).getD i.toNat 0) := by
    rw [List.getD_eq_getElem?_getD, List.getElem?_eq_getElem (show i.toNat < (y.T t).length by omega)]; rfl
  rw [hTg] at hN
  have hg : (N (keyU w (un t i.toNat))).getD (pl t i.toNat) 0 = (y.T t).getD i.toNat 0 := by rw [List.getD_eq_getElem?_getD, hN]; rfl
  have hok := D.bitQ_ok hy.d (hr.fine (keyU w (un t i.toNat))) (pl t i.toNat)
  have h01 := D.bitQ_v (st := y.d) (l := N (keyU w (un t i.toNat))) (i := pl t i.toNat)
  have hask := ask_bitQ (z := y) (t := t) (i := i) (by omega) (by omega)
  have hpb := (hy.T.fine t).get hTg
  rw [hask]
  rw [← hU] at hok h01
  unfold D.S.bitQ at hU ⊢
  rw [if_pos (show (0 : Int) ≤ (pl t i.toNat : Int) ∧ (pl t i.toNat : Int) < ((N (keyU w (un t i.toNat))).length : Int) by omega), Int.toNat_natCast, hg] at hU
  rw [if_pos (show 0 ≤ i ∧ i < ((y.T t).length : Int) by omega)]
  cases e : y.d.bit (B.bound y.d.R ((y.T t).getD i.toNat 0)) with
  | ok d v =>
    rw [e] at hU
    subst hU
    have hv : 31 ≤ B.next ((y.T t).getD i.toNat 0) v ∧ B.next ((y.T t).getD i.toNat 0) v ≤ 2017 := ⟨B.next_lo _ hpb.1 hpb.2, B.next_hi _ hpb.1 hpb.2⟩
    refine ⟨⟨d, upd y.T t ((y.T t).set i.toNat (B.next ((y.T t).getD i.toNat 0) v))⟩, ⟨hok.1, ⟨fun k hk => ?_, fun k => ?_⟩⟩, hok.2.1, rfl, hr.upd hw hn hp hy.T.len ht (by omega) _ hv, h01, rfl⟩
    · show (upd y.T t _ k).length = _
      unfold upd
      split
      · rename_i hkt; rw [hkt, List.length_set, hlen]
      · exact hy.T.len k hk
    · show B.Fine (upd y.T t _ k)
      unfold upd
      split
      · exact (hy.T.fine t).set _ hv
      · exact hy.T.fine k
  | no e' =>
    rw [e] at hU
    subst hU
    have hne := bit_no e
    have eN : updN N (keyU w (un t i.toNat)) (N (keyU w (un t i.toNat))) = N := by
      funext k
      unfold updN
      split
      · rename_i h; rw [h]
      · rfl
    refine ⟨y, hy, rfl, rfl, by rw [eN]; exact hr, h01, ?_⟩
    simp only [if_neg hne]
end Z
end Go.Proofs.YtbgnnjfpiblkmaaGreatDoor
