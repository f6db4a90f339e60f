/-
  Questions asked of a decoder, one behind the other, as numbers.
-/
import Derived.Test.YtoejaggkedlfmaaRcdecExact
namespace Go.Proofs.Ytoejaggkedlfmaa
open Go
set_option linter.unusedSimpArgs false
set_option linter.unnecessarySimpa false
set_option linter.unusedSectionVars false
set_option linter.unusedVariables false

namespace D
/-- A decoder and a row. -/
abbrev A := S × List Int
def ask (a : A) (q : T_pithlaw08_Ask) : Option (A × Int) :=
  if q.Direct = true then (if (a.1.dirQ q.N).2.2 = 0 then some (((a.1.dirQ q.N).1, a.2), (a.1.dirQ q.N).2.1) else none)
  else (if (a.1.bitQ a.2 q.I).2.2.2 = 0 then some (((a.1.bitQ a.2 q.I).1, (a.1.bitQ a.2 q.I).2.1), (a.1.bitQ a.2 q.I).2.2.1) else none)
/-- The answers up to the first refusal; what is behind them. -/
def run (a : A) : List T_pithlaw08_Ask → List Int × A
  | [] => ([], a)
  | q :: qs => match ask a q with
    | none => ([], a)
    | some (z, v) => (v :: (run z qs).1, (run z qs).2)

theorem dirQ_no {st : S} {n : Int} (h : (st.dirQ n).2.2 ≠ 0) : (st.dirQ n).1 = st := by
  unfold S.dirQ at *
  split
  · rename_i hn
    simp only [if_pos hn] at h
    split
    · rename_i t v e
      simp only [e] at h
      exact absurd rfl h
    · rfl
  · rfl
theorem bitQ_no {st : S} {l : List Int} {i : Int} (h : (st.bitQ l i).2.2.2 ≠ 0) : (st.bitQ l i).1 = st ∧ (st.bitQ l i).2.1 = l := by
  unfold S.bitQ at *
  split
  · rename_i hn
    simp only [if_pos hn] at h
    split
    · rename_i t v e
      simp only [e] at h
      exact absurd rfl h
    · exact ⟨rfl, rfl⟩
  · exact ⟨rfl, rfl⟩
theorem bitQ_v {st : S} {l : List Int} {i : Int} : (st.bitQ l i).2.2.1 = 0 ∨ (st.bitQ l i).2.2.1 = 1 := by
  unfold S.bitQ
  split
  · split
    · rename_i t v e
      unfold S.bit at e
      split at e
      · cases e; exact bitAt_01 _ _
      · cases e
    · exact .inl rfl
  · exact .inl rfl

structure AOk (a : A) : Prop where
  s : Ok a.1
  f : B.Fine a.2
structure Same (z a : A) : Prop where
  b : z.1.b = a.1.b
  n : z.2.length = a.2.length
theorem AOk.ask {a z : A} {q : T_pithlaw08_Ask} {v : Int} (h : AOk a) (e : ask a q = some (z, v)) : AOk z ∧ Same z a := by
  unfold D.ask at e
  split at e
  · split at e
    · cases e
      have := dirQ_ok h.s q.N
      exact ⟨⟨this.1, h.f⟩, ⟨this.2, rfl⟩⟩
    · cases e
  · split at e
    · cases e
      have := bitQ_ok h.s h.f q.I
      exact ⟨⟨this.1, this.2.2.1⟩, ⟨this.2.1, this.2.2.2⟩⟩
    · cases e
theorem AOk.run : ∀ (qs : List T_pithlaw08_Ask) {a : A}, AOk a → AOk (run a qs).2 ∧ Same (run a qs).2 a
  | [], a, h => ⟨h, ⟨rfl, rfl⟩⟩
  | q :: qs, a, h => by
    simp only [D.run]
    split
    · exact ⟨h, ⟨rfl, rfl⟩⟩
    · rename_i z v e
      obtain ⟨h1, h2⟩ := h.ask e
      obtain ⟨h3, h4⟩ := AOk.run qs h1
      exact ⟨h3, ⟨h4.b.trans h2.b, h4.n.trans h2.n⟩⟩
theorem run_len : ∀ (qs : List T_pithlaw08_Ask) (a : A), (run a qs).1.length ≤ qs.length
  | [], a => Nat.le_refl _
  | q :: qs, a => by
    simp only [D.run]
    split
    · exact Nat.zero_le _
    · rename_i z v e
      have := run_len qs z
      simp only [List.length_cons]
      omega
/-- The first question that is not answered is refused by what is behind the answers. -/
theorem run_end : ∀ (qs : List T_pithlaw08_Ask) (a : A) {q : T_pithlaw08_Ask}, qs[(run a qs).1.length]? = some q → ask (run a qs).2 q = none
  | [], a, q, h => by simp at h
  | q0 :: qs, a, q, h => by
    simp only [D.run] at *
    cases e : ask a q0 with
    | none =>
      simp only [e] at h ⊢
      simp at h
      subst h
      exact e
    | some zv =>
      obtain ⟨z, v⟩ := zv
      simp only [e] at h ⊢
      exact run_end qs z (by simpa using h)

/-! A beginning of the bytes -/
structure Sim (n : Nat) (c d : S) : Prop where
  b : c.b = d.b.take n
  k : c.k = d.k
  R : c.R = d.R
  C : c.C = d.C
theorem Sim.widen {n : Nat} {c d t : S} (h : Sim n c d) (e : c.widen = some t) : ∃ t', d.widen = some t' ∧ Sim n t t' := by
  obtain ⟨h1, h2, h3, h4⟩ := h
  unfold S.widen at *
  rw [h3] at e
  split at e
  · rename_i hr
    cases e
    rw [if_pos hr]
    exact ⟨d, rfl, ⟨h1, h2, h3, h4⟩⟩
  · rename_i hr
    rw [if_neg hr]
    cases hx : c.b[c.k]? with
    | none => rw [hx] at e; cases e
    | some x =>
      rw [hx] at e
      cases e
      rw [h1, h2, List.getElem?_take] at hx
      split at hx
      · rw [hx]
        exact ⟨_, rfl, ⟨h1, by simp only [h2], rfl, by simp only [h4]⟩⟩
      · cases hx
theorem Sim.cut {n : Nat} {c d : S} (h : Sim n c d) (x : Int) : Sim n (c.cut x) (d.cut x) := by
  obtain ⟨h1, h2, h3, h4⟩ := h
  unfold S.cut
  rw [h4]
  split
  · exact ⟨h1, h2, rfl, rfl⟩
  · exact ⟨h1, h2, by simp only [h3], rfl⟩
theorem Sim.one {n : Nat} {c d : S} (h : Sim n c d) : Sim n c.one d.one := by
  obtain ⟨h1, h2, h3, h4⟩ := h
  unfold S.one
  rw [h4, h3]
  split
  · exact ⟨h1, h2, rfl, rfl⟩
  · exact ⟨h1, h2, rfl, rfl⟩
theorem Sim.bitAt {n : Nat} {c d : S} (h : Sim n c d) (x : Int) : c.bitAt x = d.bitAt x := by unfold S.bitAt; rw [h.C]
theorem Sim.bit {n : Nat} {c d t : S} {x v : Int} (h : Sim n c d) (e : c.bit x = .ok t v) : ∃ t', d.bit x = .ok t' v ∧ Sim n t t' := by
  unfold S.bit at *
  split at e
  · rename_i t' ht
    cases e
    obtain ⟨t2, h2, h3⟩ := (h.cut x).widen ht
    rw [h2]
    exact ⟨t2, by rw [h.bitAt x], h3⟩
  · cases e
theorem Sim.direct {n : Nat} : ∀ (m : Nat) {c d t : S} {v u : Int}, Sim n c d → c.direct v m = .ok t u → ∃ t', d.direct v m = .ok t' u ∧ Sim n t t'
  | 0, c, d, t, v, u, h, e => by cases e; exact ⟨d, rfl, h⟩
  | m + 1, c, d, t, v, u, h, e => by
    simp only [S.direct] at *
    rw [h.one.R, h.one.C] at e
    split at e
    · cases e
    · rename_i hle
      rw [if_neg hle]
      split at e
      · cases e
      · rename_i t1 ht
        obtain ⟨t2, h2, h3⟩ := h.one.widen ht
        rw [h2]
        rw [h.R, h.bitAt] at e
        exact Sim.direct m h3 e
theorem Sim.ask {n : Nat} {c d z : A} {q : T_pithlaw08_Ask} {v : Int} (h : Sim n c.1 d.1) (hl : c.2 = d.2) (e : ask c q = some (z, v)) : ∃ z', ask d q = some (z', v) ∧ Sim n z.1 z'.1 ∧ z.2 = z'.2 := by
  unfold D.ask at *
  split at e
  · rename_i hd
    rw [if_pos hd]
    split at e
    · rename_i h0
      cases e
      unfold S.dirQ at h0 ⊢
      split at h0
      · rename_i hn
        simp only [if_pos hn]
        cases e1 : c.1.direct 0 q.N.toNat with
        | ok t u =>
          obtain ⟨t', h2, h3⟩ := h.direct _ e1
          simp only [h2, if_true]
          exact ⟨_, rfl, h3, hl⟩
        | no e' =>
          simp only [e1] at h0
          rcases D.direct_e _ _ _ _ e1 with rfl | rfl <;> cases h0
      · cases h0
    · cases e
  · rename_i hd
    rw [if_neg hd]
    split at e
    · rename_i h0
      cases e
      unfold S.bitQ at h0 ⊢
      rw [← hl, ← h.R]
      split at h0
      · rename_i hn
        simp only [if_pos hn]
        cases e1 : c.1.bit (B.bound c.1.R (c.2.getD q.I.toNat 0)) with
        | ok t u =>
          obtain ⟨t', h2, h3⟩ := h.bit e1
          simp only [h2, if_true]
          exact ⟨_, rfl, h3, rfl⟩
        | no e' =>
          simp only [e1] at h0
          subst h0
          unfold S.bit at e1
          split at e1 <;> cases e1
      · cases h0
    · cases e
theorem Sim.run {n : Nat} : ∀ (qs : List T_pithlaw08_Ask) {c d : A}, Sim n c.1 d.1 → c.2 = d.2 → ∃ r, (run d qs).1 = (run c qs).1 ++ r
  | [], c, d, h, hl => ⟨_, rfl⟩
  | q :: qs, c, d, h, hl => by
    simp only [D.run]
    cases e : D.ask c q with
    | none => exact ⟨_, rfl⟩
    | some zv =>
      obtain ⟨z, v⟩ := zv
      obtain ⟨z', e2, h3, h4⟩ := Sim.ask h hl e
      obtain ⟨r, hr⟩ := Sim.run qs h3 h4
      rw [e2]
      exact ⟨r, by simp only [hr, List.cons_append]⟩
/-- The front of a beginning. -/
theorem start_take {b : List UInt8} {n : Nat} (hn : 5 ≤ (b.take n).length) : front (b.take n) 4 = front b 4 ∧ (b.take n)[0]? = b[0]? := by
  rw [List.length_take] at hn
  constructor
  · unfold front
    rw [List.drop_take, List.take_take, Nat.min_eq_left (by omega)]
  · rw [List.getElem?_take, if_pos (by omega)]
theorem start_sim {b : List UInt8} {n : Nat} {t : S} (h : start (b.take n) = .ok t ()) : ∃ t', start b = .ok t' () ∧ Sim n t t' := by
  have hlen : ¬ (b.take n).length < 5 := fun h5 => by rw [start, if_pos h5] at h; cases h
  obtain ⟨h1, h2⟩ := start_take (b := b) (n := n) (by omega)
  have hb : ¬ b.length < 5 := by rw [List.length_take] at hlen; omega
  rw [start, if_neg hlen, h1, h2] at h
  rw [start, if_neg hb]
  split at h
  · cases h
  · rename_i hc
    cases h
    rw [if_neg hc]
    exact ⟨_, rfl, ⟨rfl, rfl, rfl, rfl⟩⟩
theorem start_no {b : List UInt8} {n : Nat} (hlen : ¬ (b.take n).length < 5) {e : Int} (h : start (b.take n) = .no e) : start b = .no e ∧ e = 2 := by
  obtain ⟨h1, h2⟩ := start_take (b := b) (n := n) (by omega)
  have hb : ¬ b.length < 5 := by rw [List.length_take] at hlen; omega
  rw [start, if_neg hlen, h1, h2] at h
  rw [start, if_neg hb]
  split at h
  · rename_i hc
    cases h
    rw [if_pos hc]
    exact ⟨rfl, rfl⟩
  · cases h
end D

end Go.Proofs.Ytoejaggkedlfmaa
