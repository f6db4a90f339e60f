/-
  The operations that touch memory, for the second walk, over parts of memory. No program is named here.
-/
import Derived.Test.YtbgnnjfpiblkmaaDoorHeap
import Derived.Laws.BytesString
import Derived.Deep.MidRow
namespace Go.Proofs.YtbgnnjfpiblkmaaDoor
open Go
set_option linter.unusedSimpArgs false
set_option linter.unnecessarySimpa false
set_option linter.unusedSectionVars false
set_option linter.unusedVariables false

section
variable [Pan] {P : Program} {E w w' : World} {K : Value → World → Prop} {v : Value} {L : List HA}

theorem cell_of_blk {b : Nat} {cs : Array Value} {e : TypeId} {fz : Nat × Nat} (hb : w.heap[b]? = some (.cells cs e fz)) (i : Nat) : w.cell? ⟨b, i, none⟩ = cs[i]? := by
  simp [World.cell?, hb]

/-! ### Loads -/

theorem run_load {t : TypeId} {a : Addr} (ht : ∀ w, (isAgg t).run P w = .ok false w) (hc : w.cell? a = some v) : (oLoad t (.pointer (some a))).run P w = .ok (.value v) w := by
  refine run_oV_ok ?_
  simp only [Instr.loadAt, Instr.sureAddr, pure_bind, loadVar, Sem.run_bind, ht, Result.andThen_ok]
  simp [load, Sem.run, hc]

theorem run_load_agg {t : TypeId} {a : Addr} {cs : List Value} (ht : ∀ w, (isAgg t).run P w = .ok true w) (hs : ∀ w, (sizeOf t).run P w = .ok cs.length w)
    (hc : ∀ (j : Nat) (u : Value), cs[j]? = some u → w.cell? (a.add j) = some u) : (oLoad t (.pointer (some a))).run P w = .ok (.value (.agg cs.toArray)) w := by
  refine run_oV_ok ?_
  simp only [Instr.loadAt, Instr.sureAddr, pure_bind, loadVar, Sem.run_bind, ht, hs, Result.andThen_ok, if_true, run_loadCells_list w a cs hc]
  rfl

theorem pN_ld {t : TypeId} {a : Addr} (ht : ∀ w, (isAgg t).run P w = .ok false w) (hc : w.cell? a = some v) (h : K v w) : pN P (oLoad t (.pointer (some a))) w K := by
  rw [pN_def, run_load ht hc]; exact h
theorem pL_ld {t : TypeId} {a : Addr} {K : Value → Prop} (ht : ∀ w, (isAgg t).run P w = .ok false w) (hc : w.cell? a = some v) (h : K v) : pL P (oLoad t (.pointer (some a))) w K :=
  ⟨v, run_load ht hc, h⟩
theorem pN_ld_agg {t : TypeId} {a : Addr} {cs : List Value} (ht : ∀ w, (isAgg t).run P w = .ok true w) (hs : ∀ w, (sizeOf t).run P w = .ok cs.length w)
    (hc : ∀ (j : Nat) (u : Value), cs[j]? = some u → w.cell? (a.add j) = some u) (h : K (.agg cs.toArray) w) : pN P (oLoad t (.pointer (some a))) w K := by
  rw [pN_def, run_load_agg ht hs hc]; exact h

/-! ### Stores -/

theorem run_storeAt {t : TypeId} {a : Addr} {u : Value} (hs : ∀ w, (sizeOf t).run P w = .ok 1 w) (hv : v.oneCell' = true) (hc : w.cell? a = some u) (hf : w.frozen? a = false) :
    (oStore t (.pointer (some a)) v).run P w = .ok .skip (w.setCell a v) := by
  refine run_oU_ok ?_
  have h1 : v.cells = #[v] := by cases v <;> first | rfl | cases hv
  simp only [Instr.storeAt, Instr.sureAddr, pure_bind, storeVar, Sem.run_bind, hs, Result.andThen_ok, h1]
  simp only [List.size_toArray, List.length_cons, List.length_nil, Nat.zero_add, ne_eq, not_true_eq_false, if_false, storeCells, Sem.run_bind, Addr.add_zero', run_store P w a v .plain hv, hc, hf]
  rfl

theorem pN_st_blk {t : TypeId} {b : Nat} {cs : Array Value} {e : TypeId} {i : Nat} (hS : Sat E w (blk b (.cells cs e (0, 0)) :: L)) (hs : ∀ w, (sizeOf t).run P w = .ok 1 w) (hv : v.oneCell' = true) (hi : i < cs.size)
    (h : ∀ w', Sat E w' (blk b (.cells (cs.setIfInBounds i v) e (0, 0)) :: L) → K undef w') : pN P (oStore t (.pointer (some ⟨b, i, none⟩)) v) w K := by
  have hb := hS.blk_at 0 rfl
  rw [pN_def, run_storeAt (u := cs[i]) hs hv (by rw [cell_of_blk hb]; simp [hi]) (by simp [World.frozen?, hb])]
  exact h _ (hS.store i v)

/-- A store into a slice's own row. -/
theorem Sat.own_set {e : TypeId} {g n cap i : Nat} {xs : List Value} {size : Nat} (hS : Sat E w (own e size (.slice (some ⟨g, 0, none⟩) n cap) n xs :: L)) (hi : i < xs.length) (u : Value) :
    Sat E (w.setCell ⟨g, i, none⟩ u) (own e size (.slice (some ⟨g, 0, none⟩) n cap) n (xs.set i u) :: L) ∧ w.cell? ⟨g, i, none⟩ = xs[i]? ∧ w.frozen? ⟨g, i, none⟩ = false := by
  have hrow := hS.own_at 0 rfl
  obtain ⟨hl, h | ⟨g', cap', cur, hv, _, hg, hnc, hm, hsz, htk⟩⟩ := hrow
  · cases h.1
  · simp only [Value.slice.injEq, Option.some.injEq, Addr.mk.injEq, and_true, true_and] at hv
    obtain ⟨rfl, rfl⟩ := hv
    have hcur : i < cur.size := by
      have := congrArg List.length htk
      simp only [List.length_take, Array.length_toList] at this
      omega
    refine ⟨?_, ?_, by simp [World.frozen?, hg]⟩
    · refine hS.turn rfl rfl rfl fun h1 hA s => ?_
      obtain ⟨_, h | ⟨g', cap', cur', hv', hg', _⟩⟩ := hA
      · cases h.1
      · simp only [Value.slice.injEq, Option.some.injEq, Addr.mk.injEq, and_true, true_and] at hv'
        obtain ⟨rfl, rfl⟩ := hv'
        have hcc : cur' = cur := by
          have := s _ _ hg'
          rw [hg] at this
          simpa using this.symm
        subst hcc
        refine ⟨fun k => if k = g then some (.cells (cur'.setIfInBounds i u) e (0, 0)) else h1 k, ⟨by simpa using hl, .inr ⟨g, cap, cur'.setIfInBounds i u, rfl, by simp, hnc, hm, by simpa using hsz, ?_⟩⟩, ?_, ?_⟩
        · rw [← htk]
          rw [Array.toList_setIfInBounds, List.take_set]
        · intro k o ek
          simp only [World.setCell, Array.getElem?_modify]
          by_cases hkb : k = g
          · subst hkb
            simp only [if_true] at ek ⊢
            rw [hg]
            simpa using ek
          · simp only [if_neg hkb] at ek
            rw [if_neg (fun e => hkb e.symm)]
            exact s k o ek
        · intro k o ek hn
          have hkb : k ≠ g := fun e => by subst e; rw [hg'] at hn; cases hn
          simp only [World.setCell, Array.getElem?_modify]
          rw [if_neg (fun e => hkb e.symm)]
          exact ⟨ek, by simp only [if_neg hkb]; exact hn⟩
    · rw [cell_of_blk hg, ← htk]
      rw [List.getElem?_take]
      have hin : i < n * size := by omega
      simp [hin]

theorem pN_st_own {t e : TypeId} {g n cap i : Nat} {xs : List Value} {size : Nat} (hS : Sat E w (own e size (.slice (some ⟨g, 0, none⟩) n cap) n xs :: L)) (hs : ∀ w, (sizeOf t).run P w = .ok 1 w) (hv : v.oneCell' = true) (hi : i < xs.length)
    (h : ∀ w', Sat E w' (own e size (.slice (some ⟨g, 0, none⟩) n cap) n (xs.set i v) :: L) → K undef w') : pN P (oStore t (.pointer (some ⟨g, i, none⟩)) v) w K := by
  obtain ⟨h1, h2, h3⟩ := hS.own_set hi v
  rw [pN_def, run_storeAt (u := xs[i]) hs hv (by rw [h2]; simp [hi]) h3]
  exact h _ h1

/-! ### What a slice reads as -/

omit [Pan] in
def Rd (w : World) (size : Nat) (v : Value) (n : Nat) (xs : List Value) : Prop :=
  xs.length = n * size ∧ ∃ ao cap, v = .slice ao n cap ∧ n ≤ cap ∧ (ao = none → n = 0 ∧ cap = 0) ∧ ∀ a, ao = some a → ∀ (j : Nat) (u : Value), xs[j]? = some u → w.cell? (a.add j) = some u

theorem Rd.of_own {e : TypeId} {size : Nat} {n : Nat} {xs : List Value} (h : w.ownsRow 0 e size v n xs) : Rd w size v n xs := by
  obtain ⟨hl, ⟨rfl, rfl⟩ | ⟨g, cap, cur, rfl, _, hg, hnc, _, hsz, htk⟩⟩ := h
  · exact ⟨hl, none, 0, rfl, Nat.le_refl _, fun _ => ⟨rfl, rfl⟩, fun a ha => (by cases ha)⟩
  · refine ⟨hl, some ⟨g, 0, none⟩, cap, rfl, hnc, fun ha => (by cases ha), fun a ha j u hu => ?_⟩
    cases ha
    rw [Addr.add_lit, Nat.zero_add, cell_of_blk hg]
    rw [← htk, List.getElem?_take] at hu
    split at hu
    · rw [← hu]; simp
    · cases hu

omit [Pan] in
/-- A slice out of one part of memory reads so in every world where the part is. -/
def RdA (A : HA) (size : Nat) (v : Value) (n : Nat) (xs : List Value) : Prop := ∀ w, (∃ h1, A h1 ∧ ∀ (b : Nat) (o : Obj), h1 b = some o → w.heap[b]? = some o) → Rd w size v n xs

theorem RdA.own {e : TypeId} {size : Nat} {n : Nat} {xs : List Value} : RdA (own e size v n xs) size v n xs := by
  intro w ⟨h1, hA, s⟩
  exact .of_own (own_row hA s)

theorem RdA.old {W : World} {size : Nat} {n : Nat} {xs : List Value} (h : Rd W size v n xs) : RdA (old W) size v n xs := by
  intro w ⟨h1, hA, s⟩
  obtain ⟨hl, ao, cap, hv, hnc, hnil, hc⟩ := h
  refine ⟨hl, ao, cap, hv, hnc, hnil, fun a ha j u hu => ?_⟩
  have := hc a ha j u hu
  rw [← this]
  refine World.cell?_of_block ?_
  simp only [World.cell?] at this
  cases hb : W.heap[(a.add j).block]? with
  | none => rw [hb] at this; cases this
  | some o => exact s _ _ ((hA _).trans hb)

theorem Sat.rd {A : HA} {size : Nat} {n : Nat} {xs : List Value} (hS : Sat E w L) (i : Nat) (hi : L[i]? = some A) (h : RdA A size v n xs) : Rd w size v n xs := h w (hS.get i hi)

/-- An element's address, with what is there. -/
theorem pN_idx {t e : TypeId} {n : Nat} {xs : List Value} {k : IntKind} {i : Int} (ht : P.underlying t = some (.slice e)) (hs : ∀ w, (sizeOf e).run P w = .ok 1 w) (hr : Rd w 1 v n xs) (h0 : 0 ≤ i) (h1 : i < n)
    (h : ∀ a, w.cell? a = some (xs.getD i.toNat undef) → K (.pointer (some a)) w) : pN P (oIdx t v (.int k i)) w K := by
  obtain ⟨hl, ao, cap, rfl, hnc, hnil, hc⟩ := hr
  have hit : i.toNat < n := by omega
  cases ao with
  | none => have := (hnil rfl).1; omega
  | some a =>
    rw [pN_def]
    have hr : (oIdx t (.slice (some a) n cap) (.int k i)).run P w = .ok (.value (.pointer (some (a.add i.toNat)))) w := by
      refine run_oV_ok ?_
      simp [Instr.indexAt, run_underlying ht, asIntOf, hs, h0, h1]
    rw [hr]
    refine h _ (hc a rfl _ _ ?_)
    simp [List.getD, hl, hit]

theorem pA_idx {t e : TypeId} {n : Nat} {xs : List Value} {k : IntKind} {i : Int} {K : Value → Prop} (ht : P.underlying t = some (.slice e)) (hs : ∀ w, (sizeOf e).run P w = .ok 1 w) (hr : Rd w 1 v n xs) (h0 : 0 ≤ i) (h1 : i < n)
    (h : ∀ a, w.cell? a = some (xs.getD i.toNat undef) → K (.pointer (some a))) : pA P (oIdx t v (.int k i)) K := by
  obtain ⟨hl, ao, cap, rfl, hnc, hnil, hc⟩ := hr
  have hit : i.toNat < n := by omega
  cases ao with
  | none => have := (hnil rfl).1; omega
  | some a =>
    refine ⟨.pointer (some (a.add i.toNat)), fun w => ?_, h _ (hc a rfl _ _ ?_)⟩
    · refine run_oV_ok ?_
      simp [Instr.indexAt, run_underlying ht, asIntOf, hs, h0, h1]
    · simp [List.getD, hl, hit]

/-- The same where the slice owns its row: to be written. -/
theorem pN_idx_own {t e : TypeId} {n : Nat} {xs : List Value} {k : IntKind} {i : Int} (ht : P.underlying t = some (.slice e)) (hs : ∀ w, (sizeOf e).run P w = .ok 1 w) (hr : w.ownsRow 0 e 1 v n xs) (h0 : 0 ≤ i) (h1 : i < n)
    (h : ∀ g cap, v = .slice (some ⟨g, 0, none⟩) n cap → K (.pointer (some ⟨g, i.toNat, none⟩)) w) : pN P (oIdx t v (.int k i)) w K := by
  obtain ⟨hl, ⟨rfl, rfl⟩ | ⟨g, cap, cur, rfl, _⟩⟩ := hr
  · omega
  · rw [pN_def]
    have hr : (oIdx t (.slice (some ⟨g, 0, none⟩) n cap) (.int k i)).run P w = .ok (.value (.pointer (some ⟨g, i.toNat, none⟩))) w := by
      refine run_oV_ok ?_
      simp [Instr.indexAt, run_underlying ht, asIntOf, hs, h0, h1, Addr.add_lit]
    rw [hr]
    exact h _ _ rfl

end

end Go.Proofs.YtbgnnjfpiblkmaaDoor
