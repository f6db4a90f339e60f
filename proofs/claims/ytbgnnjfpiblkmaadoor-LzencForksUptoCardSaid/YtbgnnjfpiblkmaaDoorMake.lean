/-
  The operations that make memory, for the second walk, over parts of memory. No program is named here.
-/
import Derived.Test.YtbgnnjfpiblkmaaDoorMem
import Derived.Laws.AppendOwnNone
namespace Go.Proofs.YtbgnnjfpiblkmaaDoor
open Go
set_option linter.unusedSimpArgs false
set_option linter.unnecessarySimpa false
set_option linter.unusedSectionVars false
set_option linter.unusedVariables false

/-- A slice type with its element type: the element's zero, its cells, its bytes. -/
structure SlT (P : Program) (t e : TypeId) (z : Value) (size bytes : Nat) : Prop where
  under : P.underlying t = some (.slice e)
  info : ∃ i, P.info? e = some i ∧ i.zero = some z ∧ i.size = size ∧ i.bytes = bytes
  zsize : z.cells.size = size
  pos : 0 < size

theorem SlT.sizeOf {P : Program} {t e : TypeId} {z : Value} {size bytes : Nat} (h : SlT P t e z size bytes) (w : World) : (sizeOf e).run P w = .ok size w := by
  obtain ⟨i, hi, _, hs, _⟩ := h.info
  simp [Go.sizeOf, typeInfo, hi, hs]

section
variable [Pan] {P : Program} {E w w' : World} {K : Value → World → Prop} {v : Value} {L : List HA} {t e : TypeId} {z : Value} {size bytes : Nat}

/-- make of a length. -/
theorem pN_make (ht : SlT P t e z size bytes) {k k' : IntKind} {n : Nat} (hb : bytes * n ≤ 281474976710656) (h63 : n ≤ 9223372036854775807) (hS : Sat E w L)
    (h : ∀ v w', Sat E w' (own e size v n (madeCells z.cells (n * size)).toList :: L) → K v w') : pN P (oMk t (.int k n) (.int k' n)) w K := by
  obtain ⟨i, hi, hz, hs, hby⟩ := ht.info
  have hr := run_make (P := P) w t e i z ht.under hi hz k k' n n (by omega) (Int.le_refl _) (by rw [hby]; omega) (by omega)
  simp only [Int.toNat_natCast, hs] at hr
  rw [pN_def, oMk, run_oV_ok hr]
  refine h _ _ ?_
  refine (hS.alloc _).weaken fun h1 hA => ?_
  refine ⟨by simp [size_madeCells], .inr ⟨_, n, _, rfl, hA, Nat.le_refl _, by unfold maxLen; omega, size_madeCells _ _, ?_⟩⟩
  rw [List.take_of_length_le]
  simp [size_madeCells]

/-- make of a length nought and a capacity. -/
theorem pN_make0 (ht : SlT P t e z size bytes) {k k' : IntKind} {n : Nat} (hb : bytes * n ≤ 281474976710656) (h63 : n ≤ 9223372036854775807) (hS : Sat E w L)
    (h : ∀ v w', Sat E w' (own e size v 0 [] :: L) → K v w') : pN P (oMk t (.int k 0) (.int k' n)) w K := by
  obtain ⟨i, hi, hz, hs, hby⟩ := ht.info
  have hr := run_make (P := P) w t e i z ht.under hi hz k k' 0 n (by omega) (by omega) (by rw [hby]; omega) (by omega)
  simp only [Int.toNat_natCast, hs] at hr
  rw [pN_def, oMk, run_oV_ok hr]
  refine h _ _ ?_
  refine (hS.alloc _).weaken fun h1 hA => ?_
  exact ⟨by simp, .inr ⟨_, n, _, rfl, hA, Nat.zero_le _, by unfold maxLen; omega, size_madeCells _ _, by simp⟩⟩

/-- append of what a slice reads as. -/
theorem pN_append (ht : SlT P t e z size bytes) {ty : TypeId} {cs : List Bool} {n m : Nat} {xs news : List Value} {src : Value} (hS : Sat E w (own e size v n xs :: L)) (hr : Rd w size src m news) (h1 : ∀ u ∈ news, u.oneCell' = true)
    (hb : (n + m) * bytes ≤ 140737488355328) (h63 : n + m ≤ 9223372036854775807)
    (h : ∀ v' w', Sat E w' (own e size v' (n + m) (xs ++ news) :: L) → K v' w') : pN P (oBi .append #[t, t] ty cs [v, src]) w K := by
  obtain ⟨i, hi, hz, hs, hby⟩ := ht.info
  obtain ⟨hl, ao, cap, rfl, hmc, hnil, hc⟩ := hr
  have hown := hS.own_at 0 rfl
  rw [pN_def]
  cases ao with
  | none =>
    obtain ⟨rfl, rfl⟩ := hnil rfl
    have hrun := run_append_owned_none (P := P) w 0 t ty e i size ht.under hi v n xs hown
    have : news = [] := List.length_eq_zero_iff.1 (by simpa using hl)
    subst this
    have e : (oBi .append #[t, t] ty cs [v, .slice none 0 0]).run P w = .ok (.value v) w := run_oV_ok hrun
    rw [e]
    exact h _ _ (by simpa using hS)
  | some a =>
    obtain ⟨v', w', hrun, hown', hgr, _, hblk⟩ := run_append_own_at (P := P) w 0 t ty e i z size bytes ht.under hi hz hs hby ht.zsize ht.pos v n xs hown a m cap news hl (hc a rfl) h1 (by unfold maxLen; omega) hb (Nat.zero_le _)
    have e : (oBi .append #[t, t] ty cs [v, .slice (some a) m cap]).run P w = .ok (.value v') w' := run_oV_ok hrun
    rw [e]
    exact h _ _ (hS.grown hgr hown' hblk)

/-- A literal of some elements: the cells that it fills are given. -/
theorem pN_bs (ht : SlT P t e z size bytes) {n : Nat} {ps : List (Nat × Value)} {cells : Array Value} (hn : 0 < n) (hsz : n * size ≤ 16777216) (hf : Instr.fill (fun i => some (i * size, size)) (madeCells z.cells (n * size)) ps = some cells) (hc : cells.size = n * size) (hS : Sat E w L)
    (h : ∀ v w', Sat E w' (own e size v n cells.toList :: L) → K v w') : pN P (oBs t n ps) w K := by
  obtain ⟨i, hi, hz, hs, hby⟩ := ht.info
  have hpos := ht.pos
  have h0 : ¬ n * size = 0 := by
    have := Nat.mul_pos hn hpos
    omega
  have hle : ¬ 16777216 < n * size := by omega
  have hr : (oBs t n ps).run P w = .ok (.value (.slice (some ⟨w.heap.size, 0, none⟩) n n)) (w.alloc (.cells cells e)) := by
    refine run_oV_ok ?_
    simp only [madeCells] at hf
    simp [Instr.buildSlice, run_underlying ht.under, Go.sizeOf, typeInfo, hi, hs, hle, h0, zeroValue, hz, hf, newRow]
  rw [pN_def, hr]
  refine h _ _ ?_
  refine (hS.alloc _).weaken fun h1 hA => ?_
  have hm : n ≤ maxLen := by
    have : n * 1 ≤ n * size := Nat.mul_le_mul_left n hpos
    unfold maxLen; omega
  exact ⟨by simpa using hc, .inr ⟨_, n, cells, rfl, hA, Nat.le_refl _, hm, hc, by rw [List.take_of_length_le]; simp [hc]⟩⟩

theorem pN_bs0 (ht : SlT P t e z size bytes) (hS : Sat E w L)
    (h : ∀ v w', Sat E w' (own e size v 0 [] :: L) → K v w') : pN P (oBs t 0 []) w K := by
  obtain ⟨i, hi, hz, hs, hby⟩ := ht.info
  have hr : (oBs t 0 []).run P w = .ok (.value (.slice (some ⟨w.heap.size, 0, none⟩) 0 0)) (w.alloc (.cells #[] e)) := by
    refine run_oV_ok ?_
    simp [Instr.buildSlice, run_underlying ht.under, Go.sizeOf, typeInfo, hi, Instr.fill, newRow, Array.range_zero']
  rw [pN_def, hr]
  refine h _ _ ?_
  refine (hS.alloc _).weaken fun h1 hA => ?_
  exact ⟨by simp, .inr ⟨_, 0, #[], rfl, hA, Nat.le_refl _, by unfold maxLen; omega, by simp, by simp⟩⟩

/-- A literal of one element of one cell. -/
theorem pN_bs1 (ht : SlT P t e z 1 bytes) {u : Value} (hu : u.oneCell' = true) (hS : Sat E w L)
    (h : ∀ v w', Sat E w' (own e 1 v 1 [u] :: L) → K v w') : pN P (oBs t 1 [(0, u)]) w K := by
  have hcl : u.cells = #[u] := by cases u <;> first | rfl | cases hu
  have hz := ht.zsize
  refine pN_bs ht (cells := #[u]) (by omega) (by omega) ?_ (by simp) hS (by simpa using h)
  have hr : ∀ f : Nat → Value, (Array.range 1).map f = #[f 0] := fun f => Array.ext (by simp) fun i h1 _ => (by
    have : i = 0 := by simpa using h1
    subst this
    simp)
  simp [Instr.fill, hcl, madeCells, hr]

/-- A new variable. -/
theorem pN_box {b : TypeId} {u : Value} (hS : Sat E w L) (h : ∀ a w', Sat E w' (blk a (.cells u.cells b (0, 0)) :: L) → K (.pointer (some ⟨a, 0, none⟩)) w') : pN P (oBox b u) w K := by
  have hr : (oBox b u).run P w = .ok (.value (.pointer (some ⟨w.heap.size, 0, none⟩))) (w.alloc (.cells u.cells b)) := by
    refine run_oV_ok ?_
    simp [Instr.box, newVar, newRow]
  rw [pN_def, hr]
  exact h _ _ (hS.alloc _)

theorem pN_alloc {b : TypeId} {u : Value} (hz : ∀ w, (zeroValue b).run P w = .ok u w) (hS : Sat E w L) (h : ∀ a w', Sat E w' (blk a (.cells u.cells b (0, 0)) :: L) → K (.pointer (some ⟨a, 0, none⟩)) w') : pN P (oAlloc b) w K := by
  have hr : (oAlloc b).run P w = .ok (.value (.pointer (some ⟨w.heap.size, 0, none⟩))) (w.alloc (.cells u.cells b)) := by
    refine run_oV_ok ?_
    simp [Instr.alloc, hz, newVar, newRow]
  rw [pN_def, hr]
  exact h _ _ (hS.alloc _)

/-! ### Bytes -/

omit [Pan] in
def bv (b : UInt8) : Value := .int .u8 (b.toNat : Int)
omit [Pan] in
def bvs (l : List UInt8) : List Value := l.map bv

theorem bvs_length (l : List UInt8) : (bvs l).length = l.length := by simp [bvs]
theorem bv_one (b : UInt8) : (bv b).oneCell' = true := rfl
theorem bvs_one (l : List UInt8) : ∀ u ∈ bvs l, u.oneCell' = true := by
  intro u hu
  simp only [bvs, List.mem_map] at hu
  obtain ⟨b, _, rfl⟩ := hu
  rfl
theorem bvs_append (l m : List UInt8) : bvs (l ++ m) = bvs l ++ bvs m := by simp [bvs]

/-- Bytes as a string. -/
theorem run_str {s d e : TypeId} (hs : P.underlying s = some (.slice e)) (he : P.underlying e = some (.int .u8)) (hd : P.underlying d = some .string) {l : List UInt8} (hr : Rd w 1 v l.length (bvs l)) :
    (oConv s d v).run P w = .ok (.value (.string ⟨l.toArray⟩)) w := by
  obtain ⟨hl, ao, cap, rfl, hmc, hnil, hc⟩ := hr
  have hfold : ∀ (l : List UInt8) (r : ByteArray), (l.map fun b => (b.toNat : Int)).foldl (fun r n => r.push (UInt8.ofNat n.toNat)) r = ⟨r.data ++ l.toArray⟩ := by
    intro l
    induction l with
    | nil => intro r; simp
    | cons b l ih =>
      intro r
      simp only [List.map_cons, List.foldl_cons, ih]
      congr 1
      simp [ByteArray.push]
  refine run_oV_ok ?_
  cases ao with
  | none =>
    have := (hnil rfl).1
    have : l = [] := List.length_eq_zero_iff.1 this
    subst this
    simp [convert, run_underlying hs, run_underlying he, run_underlying hd, Conv.bytesToString]
    rfl
  | some a =>
    have hcells : (loadCells a l.length).run P w = .ok ((l.map fun b => (b.toNat : Int)).map (Value.int .u8)).toArray w := by
      have := run_loadCells_list (P := P) w a (bvs l) (fun j u hu => hc a rfl j u hu)
      rw [bvs_length] at this
      rw [this]
      simp [bvs, bv, Function.comp_def]
    have := run_bytesToString (P := P) w a l.length cap _ hcells
    simp only [convert, Sem.run_bind, run_underlying hs, run_underlying he, run_underlying hd, Result.andThen_ok]
    rw [this, hfold]
    simp [ByteArray.empty, ByteArray.emptyWithCapacity]
    rfl

end

end Go.Proofs.YtbgnnjfpiblkmaaDoor
