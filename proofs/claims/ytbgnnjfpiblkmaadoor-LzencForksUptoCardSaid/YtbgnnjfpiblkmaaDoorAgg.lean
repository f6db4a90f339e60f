/-
  Values of several cells: elements of slices, variables, results. No program is named here.
-/
import Derived.Test.YtbgnnjfpiblkmaaDoorSlice
import Derived.DataElems
import Derived.Laws.CopyRow
namespace Go.Proofs.YtbgnnjfpiblkmaaDoor
open Go
set_option linter.unusedSimpArgs false
set_option linter.unnecessarySimpa false
set_option linter.unusedSectionVars false
set_option linter.unusedVariables false

section
variable [Pan] {P : Program} {E w w' : World} {K : Value → World → Prop} {J : Value → Prop} {L : List HA} {A : HA} {t e : TypeId} {z v : Value} {size bytes n : Nat} {xs : List Value} {k : IntKind}

theorem pN_idx_n (ht : P.underlying t = some (.slice e)) (hs : ∀ w, (sizeOf e).run P w = .ok size w) (hr : Rd w size v n xs) {i : Int} (h0 : 0 ≤ i) (h1 : i < n)
    (h : ∀ a, (∀ (j : Nat) (u : Value), ((xs.drop (i.toNat * size)).take size)[j]? = some u → w.cell? (a.add j) = some u) → K (.pointer (some a)) w) : pN P (oIdx t v (.int k i)) w K := by
  obtain ⟨hl, ao, cap, rfl, hnc, hnil, hc⟩ := hr
  cases ao with
  | none => have := (hnil rfl).1; omega
  | some a =>
    rw [pN_def]
    have hr : (oIdx t (.slice (some a) n cap) (.int k i)).run P w = .ok (.value (.pointer (some (a.add (i.toNat * size))))) w := by
      refine run_oV_ok ?_
      simp [Instr.indexAt, run_underlying ht, asIntOf, hs, h0, h1]
    rw [hr]
    refine h _ fun j u hu => ?_
    rw [Addr.add_add]
    refine hc a rfl _ _ ?_
    rw [List.getElem?_take] at hu
    split at hu
    · rwa [List.getElem?_drop] at hu
    · cases hu

theorem pN_idx_own_n (ht : P.underlying t = some (.slice e)) (hs : ∀ w, (sizeOf e).run P w = .ok size w) (hr : w.ownsRow 0 e size v n xs) {i : Int} (h0 : 0 ≤ i) (h1 : i < n)
    (h : ∀ g cap, v = .slice (some ⟨g, 0, none⟩) n cap → K (.pointer (some ⟨g, i.toNat * size, none⟩)) w) : pN P (oIdx t v (.int k i)) w K := by
  obtain ⟨hl, ⟨rfl, rfl⟩ | ⟨g, cap, cur, rfl, _⟩⟩ := hr
  · omega
  · rw [pN_def]
    have hr : (oIdx t (.slice (some ⟨g, 0, none⟩) n cap) (.int k i)).run P w = .ok (.value (.pointer (some ⟨g, i.toNat * size, none⟩))) w := by
      refine run_oV_ok ?_
      simp [Instr.indexAt, run_underlying ht, asIntOf, hs, h0, h1, Addr.add_lit]
    rw [hr]
    exact h _ _ rfl

theorem Rd.one (h : Rd w size v n xs) : v.oneCell' = true := by
  obtain ⟨_, _, _, rfl, _⟩ := h
  rfl

/-- What several cells of a block are. -/
theorem cells_of_blk {b o : Nat} {cs : Array Value} {fz : Nat × Nat} (hb : w.heap[b]? = some (.cells cs e fz)) (m : Nat) : ∀ (j : Nat) (u : Value), ((cs.toList.drop o).take m)[j]? = some u → w.cell? ((⟨b, o, none⟩ : Addr).add j) = some u := by
  intro j u hu
  rw [Addr.add_lit, cell_of_blk hb]
  rw [List.getElem?_take] at hu
  split at hu
  · rw [List.getElem?_drop] at hu
    simpa using hu
  · cases hu

/-- A variable of several cells, loaded whole. -/
theorem pN_ld_all {t : TypeId} {b m : Nat} {cs : Array Value} {fz : Nat × Nat} (ht : ∀ w, (isAgg t).run P w = .ok true w) (hs : ∀ w, (sizeOf t).run P w = .ok m w) (hm : m = cs.size) (hb : w.heap[b]? = some (.cells cs e fz)) (h : K (.agg cs) w) :
    pN P (oLoad t (.pointer (some ⟨b, 0, none⟩))) w K := by
  subst hm
  refine pN_ld_agg (cs := cs.toList) ht (by simpa using hs) ?_ (by simpa using h)
  have := cells_of_blk (o := 0) hb cs.size
  simpa [List.take_of_length_le] using this

theorem pL_res_all {t : TypeId} {b m : Nat} {cs : Array Value} {fz : Nat × Nat} (ht : ∀ w, (isAgg t).run P w = .ok true w) (hs : ∀ w, (sizeOf t).run P w = .ok m w) (hm : m = cs.size) (hb : w.heap[b]? = some (.cells cs e fz)) (h : J (.agg cs)) :
    pL P (oRes t (.pointer (some ⟨b, 0, none⟩))) w J := by
  subst hm
  have hc := cells_of_blk (o := 0) hb cs.size
  have hl := run_loadCells_list (P := P) w ⟨b, 0, none⟩ cs.toList (by simpa [List.take_of_length_le] using hc)
  refine ⟨.agg cs, ?_, h⟩
  refine run_oV_ok ?_
  have hs' : ∀ w, (sizeOf t).run P w = .ok cs.toList.length w := by simpa using hs
  simp only [asAddr, pure_bind, loadVar, Sem.run_bind, ht, hs', Result.andThen_ok, if_true, hl]
  rfl

/-- A cell of a block, told by its list. -/
theorem Sat.cellv {b : Nat} {cs : Array Value} {fz : Nat × Nat} {u : Value} (hs : Sat E w L) (i : Nat) (hi : L[i]? = some (blk b (.cells cs e fz))) (j : Nat) (hu : cs.toList[j]? = some u) : w.cell? ⟨b, j, none⟩ = some u := by
  rw [hs.cell i hi j]
  simpa using hu

/-- An element of several cells, loaded. -/
theorem pN_ld_n {t : TypeId} {a : Addr} {cs : List Value} {m : Nat} (ht : ∀ w, (isAgg t).run P w = .ok true w) (hs : ∀ w, (sizeOf t).run P w = .ok m w) (hm : m = cs.length)
    (hc : ∀ (j : Nat) (u : Value), cs[j]? = some u → w.cell? (a.add j) = some u) (h : K (.agg cs.toArray) w) : pN P (oLoad t (.pointer (some a))) w K := by
  subst hm
  exact pN_ld_agg ht hs hc h

/-- A block written anew. -/
theorem Sat.row {b : Nat} {cs : Array Value} (hs : Sat E w (blk b (.cells cs e (0, 0)) :: L)) (cs' : Array Value) : Sat E (w.setRow b cs') (blk b (.cells cs' e (0, 0)) :: L) := by
  have hb := hs.blk_at 0 rfl
  refine hs.turn rfl rfl rfl fun h1 hA s => ?_
  refine ⟨fun k => if k = b then some (.cells cs' e (0, 0)) else h1 k, by simp [blk], ?_, ?_⟩
  · intro k o ek
    by_cases hkb : k = b
    · subst hkb
      simp only [if_true] at ek
      rw [← ek]
      exact setRow_heap w k cs cs' e _ hb
    · simp only [if_neg hkb] at ek
      simp only [World.setRow, Array.getElem?_modify]
      rw [if_neg (fun e => hkb e.symm)]
      exact s k o ek
  · intro k o ek hn
    have hkb : k ≠ b := fun e => by subst e; rw [hA] at hn; cases hn
    simp only [World.setRow, Array.getElem?_modify]
    rw [if_neg (fun e => hkb e.symm), if_neg hkb]
    exact ⟨ek, hn⟩

theorem run_storeAt_n {t : TypeId} {b o : Nat} {cs us : Array Value} (hb : w.heap[b]? = some (.cells cs e (0, 0))) (hs : ∀ w, (sizeOf t).run P w = .ok us.size w) (h1 : ∀ u ∈ us.toList, u.oneCell' = true) (hi : o + us.size ≤ cs.size) :
    (oStore t (.pointer (some ⟨b, o, none⟩)) (.agg us)).run P w = .ok .skip (w.setRow b (cs.toList.take o ++ us.toList ++ cs.toList.drop (o + us.size)).toArray) := by
  refine run_oU_ok ?_
  have hst := run_storeCells_at P b o e us.toList 0 cs w hb (by simpa using hi) h1
  simp only [Instr.storeAt, Instr.sureAddr, pure_bind, storeVar, Sem.run_bind, hs, Result.andThen_ok, Value.cells]
  simp only [ne_eq, not_true_eq_false, if_false]
  simpa using hst

theorem pN_st_part {t : TypeId} {b o : Nat} {cs us : Array Value} (hS : Sat E w (blk b (.cells cs e (0, 0)) :: L)) {m : Nat} (hs : ∀ w, (sizeOf t).run P w = .ok m w) (hm : m = us.size) (h1 : ∀ u ∈ us.toList, u.oneCell' = true) (hi : o + us.size ≤ cs.size)
    (h : ∀ w', Sat E w' (blk b (.cells (cs.toList.take o ++ us.toList ++ cs.toList.drop (o + us.size)).toArray e (0, 0)) :: L) → K undef w') : pN P (oStore t (.pointer (some ⟨b, o, none⟩)) (.agg us)) w K := by
  subst hm
  rw [pN_def, run_storeAt_n (hS.blk_at 0 rfl) hs h1 hi]
  exact h _ (hS.row _)

theorem pN_st_all {t : TypeId} {b : Nat} {cs us : Array Value} (hS : Sat E w (blk b (.cells cs e (0, 0)) :: L)) {m : Nat} (hs : ∀ w, (sizeOf t).run P w = .ok m w) (hm : m = us.size) (h1 : ∀ u ∈ us.toList, u.oneCell' = true) (hi : us.size = cs.size)
    (h : ∀ w', Sat E w' (blk b (.cells us e (0, 0)) :: L) → K undef w') : pN P (oStore t (.pointer (some ⟨b, 0, none⟩)) (.agg us)) w K := by
  subst hm
  refine pN_st_part hS hs rfl h1 (by omega) fun w' hS' => h w' ?_
  simpa [hi, List.drop_of_length_le] using hS'

/-- A slice's own row as a block, and back. -/
theorem Sat.own_blk {g cap : Nat} (hs : Sat E w (own e size (.slice (some ⟨g, 0, none⟩) n cap) n xs :: L)) :
    ∃ cur : Array Value, (xs.length = n * size ∧ n ≤ cap ∧ cap ≤ maxLen ∧ cur.size = cap * size ∧ cur.toList.take (n * size) = xs) ∧ Sat E w (blk g (.cells cur e (0, 0)) :: L) := by
  refine hs.opn fun hp ho => ?_
  obtain ⟨hl, h | ⟨g', cap', cur, hv, hg, h1, h2, h3, h4⟩⟩ := ho
  · cases h.1
  · simp only [Value.slice.injEq, Option.some.injEq, Addr.mk.injEq, and_true, true_and] at hv
    obtain ⟨rfl, rfl⟩ := hv
    exact ⟨cur, ⟨hl, h1, h2, h3, h4⟩, hg⟩

theorem blk_own {g cap : Nat} {cur : Array Value} (h1 : n ≤ cap) (h2 : cap ≤ maxLen) (h3 : cur.size = cap * size) {hp : Hp} (h : blk g (.cells cur e (0, 0)) hp) : own e size (.slice (some ⟨g, 0, none⟩) n cap) n (cur.toList.take (n * size)) hp := by
  have : n * size ≤ cap * size := Nat.mul_le_mul_right _ h1
  exact ⟨by simp; omega, .inr ⟨g, cap, cur, rfl, h, h1, h2, h3, rfl⟩⟩

/-- A store of an element of several cells into a slice's own row. -/
theorem pN_st_own_n {t : TypeId} {g cap i : Nat} {us : Array Value} (hS : Sat E w (own e size (.slice (some ⟨g, 0, none⟩) n cap) n xs :: L)) {m : Nat} (hs : ∀ w, (sizeOf t).run P w = .ok m w) (hm : m = us.size) (hz : us.size = size) (h1 : ∀ u ∈ us.toList, u.oneCell' = true) (hi : i < n)
    (h : ∀ w', Sat E w' (own e size (.slice (some ⟨g, 0, none⟩) n cap) n (xs.take (i * size) ++ us.toList ++ xs.drop (i * size + size)) :: L) → K undef w') :
    pN P (oStore t (.pointer (some ⟨g, i * size, none⟩)) (.agg us)) w K := by
  subst hm
  obtain ⟨cur, ⟨hl, hnc, hm, hsz, htk⟩, hS1⟩ := hS.own_blk
  have e1 : i * size + size ≤ n * size := by
    have := Nat.mul_le_mul_right size (show i + 1 ≤ n from hi)
    rwa [Nat.add_mul, Nat.one_mul] at this
  have e2 : n * size ≤ cap * size := Nat.mul_le_mul_right _ hnc
  refine pN_st_part hS1 hs rfl h1 (by omega) fun w' hS' => h w' (hS'.weaken fun hp hb => ?_)
  have hlen : (cur.toList.take (i * size) ++ us.toList ++ cur.toList.drop (i * size + us.size)).toArray.size = cap * size := by
    simp only [List.size_toArray, List.length_append, List.length_take, List.length_drop, Array.length_toList]
    omega
  have := blk_own (size := size) hnc hm hlen hb
  have e3 : (cur.toList.take (i * size) ++ us.toList ++ cur.toList.drop (i * size + us.size)).toArray.toList.take (n * size) = xs.take (i * size) ++ us.toList ++ xs.drop (i * size + size) := by
    rw [← htk, hz]
    simp only [List.take_append, List.length_take, List.length_append, Array.length_toList, hz]
    rw [List.take_take, List.take_take, List.take_of_length_le (l := us.toList) (by simp; omega)]
    rw [Nat.min_eq_right (show i * size ≤ n * size by omega), Nat.min_eq_left (show i * size ≤ cur.size by omega), List.drop_take]
    rw [Nat.min_eq_left (show i * size ≤ n * size by omega)]
  rwa [e3] at this

/-- A shorter slice of the same row. -/
theorem own_short {g cap m : Nat} (hm : m ≤ n) {hp : Hp} (h : own e size (.slice (some ⟨g, 0, none⟩) n cap) n xs hp) : own e size (.slice (some ⟨g, 0, none⟩) m cap) m (xs.take (m * size)) hp := by
  obtain ⟨hl, h | ⟨g', cap', cur, hv, hg, h1, h2, h3, h4⟩⟩ := h
  · cases h.1
  · have e1 : m * size ≤ n * size := Nat.mul_le_mul_right _ hm
    simp only [Value.slice.injEq, Option.some.injEq, Addr.mk.injEq, and_true, true_and] at hv
    obtain ⟨rfl, rfl⟩ := hv
    refine ⟨by simp; omega, .inr ⟨g, cap, cur, rfl, hg, by omega, h2, h3, ?_⟩⟩
    rw [← h4, List.take_take, Nat.min_eq_left e1]

/-- The first elements of an own row, as a slice that owns it. -/
theorem Sat.own_sub {f : Value} {m : Nat} (hs : Sat E w (own e size f m xs :: L)) (h : n ≤ m) : Sat E w (own e size (subV f 0 n size) n (xs.take (n * size)) :: L) := by
  refine hs.weaken fun hp ho => ?_
  have ho' := ho
  obtain ⟨hl, ⟨rfl, rfl⟩ | ⟨g, cap, cur, rfl, hg, h1, h2, h3, h4⟩⟩ := ho
  · obtain rfl : n = 0 := by omega
    have : subV (.slice none 0 0) 0 0 size = .slice none 0 0 := by simp [subV, sliced]
    rw [this]
    exact ⟨by simp, .inl ⟨rfl, rfl⟩⟩
  · have : subV (.slice (some ⟨g, 0, none⟩) m cap) 0 n size = .slice (some ⟨g, 0, none⟩) n cap := by simp [subV, sliced, Addr.add]
    rw [this]
    exact own_short h ho'

theorem Rd.nil : Rd w size (.slice none 0 0) 0 [] := ⟨by simp, none, 0, rfl, Nat.le_refl _, fun _ => ⟨rfl, rfl⟩, fun _ h => (by cases h)⟩

/-- The elements of a row of values of several cells. -/
theorem flat_at {α : Type} (f : α → List Value) (s : Nat) (hf : ∀ a, (f a).length = s) : ∀ (l : List α) (i : Nat) (a : α), l[i]? = some a → (((l.map f).flatten.drop (i * s)).take s) = f a
  | [], i, a, h => by simp at h
  | b :: l, 0, a, h => by
    simp at h; subst h
    simp [List.take_append, hf, List.take_of_length_le]
  | b :: l, i + 1, a, h => by
    simp only [List.getElem?_cons_succ] at h
    rw [List.map_cons, List.flatten_cons, Nat.add_mul, Nat.one_mul, List.drop_append, List.drop_of_length_le (by rw [hf]; omega), List.nil_append, hf, Nat.add_sub_cancel]
    exact flat_at f s hf l i a h
theorem flat_length {α : Type} (f : α → List Value) (s : Nat) (hf : ∀ a, (f a).length = s) : ∀ (l : List α), ((l.map f).flatten).length = l.length * s
  | [] => by simp
  | b :: l => by rw [List.map_cons, List.flatten_cons, List.length_append, hf, flat_length f s hf l, List.length_cons, Nat.add_mul, Nat.one_mul]; omega
theorem flat_set {α : Type} (f : α → List Value) (s : Nat) (hf : ∀ a, (f a).length = s) : ∀ (l : List α) (i : Nat) (a : α), i < l.length → ((l.map f).flatten.take (i * s)) ++ f a ++ ((l.map f).flatten.drop (i * s + s)) = ((l.set i a).map f).flatten
  | [], i, a, h => by simp at h
  | b :: l, 0, a, _ => by
    simp [List.drop_append, hf, List.drop_of_length_le]
  | b :: l, i + 1, a, h => by
    have ih := flat_set f s hf l i a (by simpa using h)
    rw [List.map_cons, List.flatten_cons, List.set_cons_succ, List.map_cons, List.flatten_cons, ← ih, Nat.add_mul, Nat.one_mul]
    rw [List.take_append, List.drop_append, List.take_of_length_le (by rw [hf]; omega), List.drop_of_length_le (by rw [hf]; omega), hf, List.nil_append, Nat.add_sub_cancel, show i * s + s + s - s = i * s + s from by omega]
    simp only [List.append_assoc]
end

/-! ### Many parts -/

section
variable {E w : World} {L M : List HA} {A B : HA}

/-- Many parts as one. -/
def bag (M : List HA) : HA := fun h => Sats M h

theorem Sat.shutBag (hs : Sat E w (M ++ L)) : Sat E w (bag M :: L) := hs.shut fun _ h => h
theorem Sat.openBag (hs : Sat E w (bag M :: L)) : Sat E w (M ++ L) := hs.open_ fun _ h => h

theorem perm_out : ∀ (M : List HA) (i : Nat) (A : HA), M[i]? = some A → ∀ B, (B :: M.eraseIdx i).Perm (M.set i B)
  | [], i, A, h, _ => by simp at h
  | C :: M, 0, A, h, B => by simp
  | C :: M, i + 1, A, h, B => by
    simp only [List.eraseIdx_cons_succ, List.set_cons_succ]
    exact (List.Perm.swap _ _ _).trans ((perm_out M i A (by simpa using h) B).cons _)

/-- One of many parts taken out, and one put back in its place. -/
theorem Sat.out (hs : Sat E w (bag M :: L)) (i : Nat) (h : M[i]? = some A) : Sat E w (A :: bag (M.eraseIdx i) :: L) := by
  have h1 := hs.openBag
  have h2 : Sat E w (A :: (M.eraseIdx i ++ L)) := h1.perm ((perm_front M i A h).append_right L)
  refine (Sat.front (i := 1) (A := A) (Sat.shutBag (M := M.eraseIdx i) (L := A :: L) ?_) rfl)
  exact h2.perm (List.perm_middle.symm)
theorem Sat.into {i : Nat} (hs : Sat E w (B :: bag (M.eraseIdx i) :: L)) (h : M[i]? = some A) : Sat E w (bag (M.set i B) :: L) := by
  have h1 : Sat E w (bag (M.eraseIdx i) :: B :: L) := hs.front 1 rfl
  have h2 := h1.openBag
  have h3 : Sat E w (B :: M.eraseIdx i ++ L) := h2.perm List.perm_middle
  exact Sat.shutBag (h3.perm ((perm_out M i A h B).append_right L))
theorem Sat.bag_cons (hs : Sat E w (A :: bag M :: L)) : Sat E w (bag (A :: M) :: L) := by
  have h1 : Sat E w (bag M :: A :: L) := hs.front 1 rfl
  exact Sat.shutBag (M := A :: M) (h1.openBag.perm List.perm_middle)
theorem Sat.bag_snoc (hs : Sat E w (A :: bag M :: L)) : Sat E w (bag (M ++ [A]) :: L) := by
  have h1 : Sat E w (bag M :: A :: L) := hs.front 1 rfl
  refine Sat.shutBag (M := M ++ [A]) ?_
  simpa using h1.openBag
theorem Sat.bag_nil (hs : Sat E w L) : Sat E w (bag [] :: L) := Sat.shutBag (M := []) hs
/-- What one of many parts holds. -/
theorem Sat.bag_get (hs : Sat E w (bag M :: L)) (i : Nat) (h : M[i]? = some A) : Sat E w [A] := by
  have := hs.out i h
  obtain ⟨h1, hA, s, _⟩ := this.sats
  exact ⟨this.os, this.tape, this.output, h1, hA, s, trivial⟩
end

end Go.Proofs.YtbgnnjfpiblkmaaDoor
