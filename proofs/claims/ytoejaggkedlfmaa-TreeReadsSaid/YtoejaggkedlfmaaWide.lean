/-
  append, its bound on bytes widened to what the growing picks.
-/
import Derived.Test.YtoejaggkedlfmaaKey
import Derived.Deep.DeepAppendWide
namespace Go.Proofs.Ytoejaggkedlfmaa
open Go
set_option linter.unusedSimpArgs false
set_option linter.unnecessarySimpa false
set_option linter.unusedSectionVars false
set_option linter.unusedVariables false
section
variable [Pan] {P : Program} {t e : TypeId} {z : Value} {size bytes : Nat} {v : Value} {E w : World} {L M : List HA} {K : Value → World → Prop}

theorem pN_append_wide (ht : SlT P t e z size bytes) {ty : TypeId} {cs : List Bool} {n m : Nat} {xs news : List Value} {src : Value} (hS : Sat E w (own e size v n xs :: L)) (hr : Rd w size src m news) (h1 : ∀ u ∈ news, u.oneCell' = true)
    (hb : ((n + m) + (n + m) / 4 + 192) * bytes ≤ 281474976710656) (h63 : n + m ≤ 9223372036854775807)
    (h : ∀ v' w', Sat E w' (own e size v' (n + m) (xs ++ news) :: L) → K v' w') : pN P (oBi .append #[t, t] ty cs [v, src]) w K := by
  obtain ⟨i, hi, hz, hs, hby⟩ := ht.info
  obtain ⟨hl, ao, cap, rfl, hmc, hnil, hc⟩ := hr
  have hown := hS.own_at 0 rfl
  rw [pN_def]
  cases ao with
  | none =>
    obtain ⟨rfl, rfl⟩ := hnil rfl
    have hrun := run_append_owned_none (P := P) w 0 t ty e i size ht.under hi v n xs hown
    have : news = [] := List.length_eq_zero_iff.1 (by simpa using hl)
    subst this
    have e : (oBi .append #[t, t] ty cs [v, .slice none 0 0]).run P w = .ok (.value v) w := run_oV_ok hrun
    rw [e]
    exact h _ _ (by simpa using hS)
  | some a =>
    obtain ⟨v', w', hrun, hown', hgr, hni⟩ := run_append_own_wide (P := P) w 0 t ty e i z size bytes ht.under hi hz hs hby ht.zsize ht.pos v n xs hown a m cap news hl (hc a rfl) h1 (by unfold maxLen; omega) hb (Nat.zero_le _)
    have hblk : v'.ownBlock = v.ownBlock ∨ v'.ownBlock = some w.heap.size := by
      subst hs hby
      rcases hown.2 with ⟨rfl, rfl⟩ | ⟨g, c, cur, rfl, _, hg, _, _, hcs, _⟩
      · by_cases hm : m = 0
        · left
          rw [hni.2 ⟨rfl, hm⟩]
        · right
          have hx : xs = [] := List.eq_nil_of_length_eq_zero (by simpa using hown.1)
          have hr := run_append_nil (P := P) w t ty e i z ht.under hi hz a m cap news hl (hc a rfl) (by omega) (by omega) (by have hb := hb; simp only [Nat.zero_add] at hb; exact Nat.le_trans (Nat.mul_le_mul_right _ (by omega)) hb)
          have := hr.symm.trans hrun
          injection this with h1 h2
          rw [← h1]; rfl
      · by_cases hroom : n + m ≤ c
        · left
          have hfit : n * i.size + news.length ≤ cur.size := by rw [hl, hcs, ← Nat.add_mul]; exact Nat.mul_le_mul_right _ hroom
          have hr := run_append_room (P := P) w t ty e i ht.under hi g n c cur hg a m cap news hl (hc a rfl) h1 hroom hfit
          have := hr.symm.trans hrun
          injection this with h1 h2
          rw [← h1]; rfl
        · right
          have holds : ∀ j u, xs[j]? = some u → w.cell? ((⟨g, 0, none⟩ : Addr).add j) = some u := hown.cells (g := g) rfl
          have hr := run_append_grow (P := P) w t ty e i z ht.under hi hz ⟨g, 0, none⟩ n c xs hown.1 holds a m cap news hl (hc a rfl) (by omega) (by omega) (growslice_fits_wide (by omega) hb)
          have := hr.symm.trans hrun
          injection this with h1 h2
          rw [← h1]; rfl
    have e : (oBi .append #[t, t] ty cs [v, .slice (some a) m cap]).run P w = .ok (.value v') w' := run_oV_ok hrun
    rw [e]
    exact h _ _ (hS.grown hgr hown' hblk)
end

section
variable [Pan] {P : Program} {t ty : TypeId} {α : Type} {C : Cd α} {E w : World} {L M : List HA} {s s2 : Sl} {l m : List α} {n n2 : Nat} {K : Value → World → Prop}
theorem pN_appw {cs : List Bool} (hS : Sat E w L) [hw : Row P t α C] [hf : Fnd (rows C s) L l M] [hr : Rds C L s2 m] {z : Nat} [hz : Bt C z] (hn : n = l.length) (hn2 : n2 = m.length) (hb : ((l.length + m.length) + (l.length + m.length) / 4 + 192) * z ≤ 281474976710656)
    (hk : ∀ s' w', Sat E w' (rows C s' (l ++ m) :: M) → K (.slice s'.a (l ++ m).length s'.c) w') : pN P (oBi .append #[t, t] ty cs [.slice s.a n s.c, .slice s2.a n2 s2.c]) w K := by
  subst hn hn2
  rw [← hz.eq] at hb
  have h0 := hS.fd (rows C s)
  have hrd := hS.rds (C := C) (s := s2)
  have hp := hw.bpos
  have h63 : l.length + m.length ≤ 9223372036854775807 := by
    have : (l.length + m.length + (l.length + m.length) / 4 + 192) * 1 ≤ (l.length + m.length + (l.length + m.length) / 4 + 192) * C.bytes := Nat.mul_le_mul_left _ hp
    omega
  refine pN_append_wide Row.slt h0 hrd (C.flat_one m) hb h63 fun v' w' h1 => ?_
  obtain ⟨s', rfl⟩ := own_sl h1
  rw [← C.flat_append, ← List.length_append] at h1
  rw [← List.length_append]
  exact hk s' w' h1
theorem pN_appw0 {cs : List Bool} (hS : Sat E w L) [hw : Row P t α C] [hr : Rds C L s2 m] {z : Nat} [hz : Bt C z] (hn2 : n2 = m.length) (hb : (m.length + m.length / 4 + 192) * z ≤ 281474976710656)
    (hk : ∀ s' w', Sat E w' (rows C s' m :: L) → K (.slice s'.a m.length s'.c) w') : pN P (oBi .append #[t, t] ty cs [.slice none 0 0, .slice s2.a n2 s2.c]) w K := by
  have h0 : Sat E w (rows C ⟨none, 0⟩ [] :: L) := hS.nil C.e C.size
  haveI : Rds C (rows C ⟨none, 0⟩ [] :: L) s2 m := ⟨fun E w hS => hr.rd E w hS.drop⟩
  refine pN_appw (s := ⟨none, 0⟩) (l := []) h0 rfl hn2 (by simpa using hb) fun s' w' h => ?_
  rw [List.nil_append] at h ⊢
  exact hk s' w' h
end

end Go.Proofs.Ytoejaggkedlfmaa
