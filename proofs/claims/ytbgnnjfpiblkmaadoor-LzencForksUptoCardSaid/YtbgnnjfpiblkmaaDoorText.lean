/-
  Strings in the walk: length, index, parts, sums, conversions; copy into a part of a row; append of zeros; the first place of a byte. No program is named here.
-/
import Derived.Test.YtbgnnjfpiblkmaaDoorKey
import Derived.Lib.AppendZerosOnto
import Derived.Lib.BytesEntry
import Derived.Laws.IdiomStrings
namespace Go.Proofs.YtbgnnjfpiblkmaaDoor
open Go
set_option linter.unusedSimpArgs false
set_option linter.unnecessarySimpa false
set_option linter.unusedSectionVars false
set_option linter.unusedVariables false

/-- A string type. -/
class StrY (P : Program) (t : TypeId) : Prop where
  un : P.underlying t = some .string

section
variable [Pan] {P : Program} {E w : World} {K : Value → World → Prop} {J : Value → Prop} {L M : List HA} {v : Value} {t ty : TypeId} {l r : List UInt8} {k k' : IntKind} {i : Int} {cs : List Bool}

omit [Pan] in
theorem size_str (l : List UInt8) : (ByteArray.mk l.toArray).size = l.length := by simp [ByteArray.size]
omit [Pan] in
theorem run_len_s [h : StrY P t] (w : World) : (oBi .len #[t] ty cs [.string ⟨l.toArray⟩]).run P w = .ok (.value (.int .i64 l.length)) w := by
  have := run_len_string (P := P) w t ty ⟨l.toArray⟩ h.un
  rw [size_str] at this
  exact run_oV_ok this
theorem pN_slen [h : StrY P t] (hk : K (.int .i64 l.length) w) : pN P (oBi .len #[t] ty cs [.string ⟨l.toArray⟩]) w K := by
  rw [pN_def, run_len_s, rN_value]; exact hk
theorem pA_slen [h : StrY P t] (hk : J (.int .i64 l.length)) : pA P (oBi .len #[t] ty cs [.string ⟨l.toArray⟩]) J :=
  ⟨_, fun w => run_len_s w, hk⟩

omit [Pan] in
theorem run_sidx [h : StrY P t] (j : Nat) (hj : i = (j : Int)) {b : UInt8} (hb : l[j]? = some b) (w : World) : (oIndex t (.string ⟨l.toArray⟩) (.int k i)).run P w = .ok (.value (bv b)) w := by
  subst hj
  obtain ⟨hl, hb⟩ := List.getElem?_eq_some_iff.1 hb
  refine run_oV_ok ?_
  rw [run_index_string w t _ _ _ h.un, dif_pos ⟨by omega, by rw [size_str]; omega⟩]
  unfold bv
  rw [← hb]
  simp [ByteArray.getElem_eq_getElem_data]
theorem pN_sidx [h : StrY P t] (j : Nat) (hj : i = (j : Int)) {b : UInt8} (hb : l[j]? = some b) (hk : K (bv b) w) : pN P (oIndex t (.string ⟨l.toArray⟩) (.int k i)) w K := by
  rw [pN_def, run_sidx j hj hb, rN_value]; exact hk
theorem pA_sidx [h : StrY P t] (j : Nat) (hj : i = (j : Int)) {b : UInt8} (hb : l[j]? = some b) (hk : J (bv b)) : pA P (oIndex t (.string ⟨l.toArray⟩) (.int k i)) J :=
  ⟨_, fun w => run_sidx j hj hb w, hk⟩

omit [Pan] in
theorem extract_str (l : List UInt8) (a b : Nat) : (ByteArray.mk l.toArray).extract a b = ⟨((l.drop a).take (b - a)).toArray⟩ := by
  apply ByteArray.ext
  rw [ByteArray.data_extract, List.extract_toArray]
omit [Pan] in
theorem run_ssl [h : StrY P t] (lo hi : Option Value) (a b : Nat) (hlo : lo = none ∧ a = 0 ∨ ∃ k, lo = some (.int k (a : Int))) (hhi : hi = none ∧ b = l.length ∨ ∃ k, hi = some (.int k (b : Int))) (hab : a ≤ b) (hb : b ≤ l.length) (w : World) :
    (oSl t (.string ⟨l.toArray⟩) lo hi none).run P w = .ok (.value (.string ⟨((l.drop a).take (b - a)).toArray⟩)) w := by
  refine run_oV_ok ?_
  rw [run_sliceAt_string w t _ _ _ _ h.un]
  have hs : ∀ (k : IntKind) (n y : Nat) (code : BoundsCode), n ≤ y → (Instr.sliceBound (.int k (n : Int)) y code).run P w = .ok n w := fun k n y code hn => by
    rw [run_sliceBound_if, if_pos (by omega), Int.toNat_natCast]
  have hsz := size_str l
  rcases hlo with ⟨rfl, rfl⟩ | ⟨k1, rfl⟩ <;> rcases hhi with ⟨rfl, rfl⟩ | ⟨k2, rfl⟩ <;>
    simp only [Instr.slice, Instr.sliceBounds, Sem.run_bind, run_underlying h.un, Result.andThen_ok, Option.isSome_none, Bool.false_eq_true, if_false, Sem.run_pure, hsz, hs _ _ _ _ hab, hs _ _ _ _ hb, hs _ _ _ _ (Nat.le_trans hab hb), pure_bind] <;>
    rw [extract_str]
theorem pN_ssl2 [h : StrY P t] {i1 i2 : Int} (a b : Nat) (h1 : i1 = (a : Int)) (h2 : i2 = (b : Int)) (hab : a ≤ b) (hb : b ≤ l.length) (hk : K (.string ⟨((l.drop a).take (b - a)).toArray⟩) w) : pN P (oSl t (.string ⟨l.toArray⟩) (some (.int k i1)) (some (.int k' i2)) none) w K := by
  subst h1 h2
  rw [pN_def, run_ssl _ _ a b (.inr ⟨_, rfl⟩) (.inr ⟨_, rfl⟩) hab hb, rN_value]; exact hk
theorem pN_ssl1 [h : StrY P t] {i1 : Int} (a : Nat) (h1 : i1 = (a : Int)) (ha : a ≤ l.length) (hk : K (.string ⟨(l.drop a).toArray⟩) w) : pN P (oSl t (.string ⟨l.toArray⟩) (some (.int k i1)) none none) w K := by
  subst h1
  rw [pN_def, run_ssl _ _ a l.length (.inr ⟨_, rfl⟩) (.inl ⟨rfl, rfl⟩) ha (Nat.le_refl _), rN_value, List.take_of_length_le (by simp)]; exact hk
theorem pN_sslh [h : StrY P t] {i2 : Int} (b : Nat) (h2 : i2 = (b : Int)) (hb : b ≤ l.length) (hk : K (.string ⟨(l.take b).toArray⟩) w) : pN P (oSl t (.string ⟨l.toArray⟩) none (some (.int k i2)) none) w K := by
  subst h2
  rw [pN_def, run_ssl _ _ 0 b (.inl ⟨rfl, rfl⟩) (.inr ⟨_, rfl⟩) (Nat.zero_le _) hb, rN_value]; exact hk
theorem pA_ssl2 [h : StrY P t] {i1 i2 : Int} (a b : Nat) (h1 : i1 = (a : Int)) (h2 : i2 = (b : Int)) (hab : a ≤ b) (hb : b ≤ l.length) (hk : J (.string ⟨((l.drop a).take (b - a)).toArray⟩)) : pA P (oSl t (.string ⟨l.toArray⟩) (some (.int k i1)) (some (.int k' i2)) none) J := by
  subst h1 h2
  exact ⟨_, fun w => run_ssl _ _ a b (.inr ⟨_, rfl⟩) (.inr ⟨_, rfl⟩) hab hb w, hk⟩
theorem pA_ssl1 [h : StrY P t] {i1 : Int} (a : Nat) (h1 : i1 = (a : Int)) (ha : a ≤ l.length) (hk : J (.string ⟨(l.drop a).toArray⟩)) : pA P (oSl t (.string ⟨l.toArray⟩) (some (.int k i1)) none none) J := by
  subst h1
  refine ⟨_, fun w => run_ssl _ _ a l.length (.inr ⟨_, rfl⟩) (.inl ⟨rfl, rfl⟩) ha (Nat.le_refl _) w, ?_⟩
  rw [List.take_of_length_le (by simp)]; exact hk
theorem pA_sslh [h : StrY P t] {i2 : Int} (b : Nat) (h2 : i2 = (b : Int)) (hb : b ≤ l.length) (hk : J (.string ⟨(l.take b).toArray⟩)) : pA P (oSl t (.string ⟨l.toArray⟩) none (some (.int k i2)) none) J := by
  subst h2
  exact ⟨_, fun w => run_ssl _ _ 0 b (.inl ⟨rfl, rfl⟩) (.inr ⟨_, rfl⟩) (Nat.zero_le _) hb w, hk⟩

omit [Pan] in
theorem run_sadd {xo yo : Operand} (hb : l.length + r.length ≤ 9223372036854775807) (w : World) : (oBin .add t xo yo (.string ⟨l.toArray⟩) (.string ⟨r.toArray⟩)).run P w = .ok (.value (.string ⟨(l ++ r).toArray⟩)) w := by
  refine run_bin_of t xo yo (by unfold eqGuard; rfl) ?_
  have e : (ByteArray.mk l.toArray) ++ (ByteArray.mk r.toArray) = ⟨(l ++ r).toArray⟩ := by
    apply ByteArray.ext
    simp
  have hm : ¬ (((ByteArray.mk l.toArray).size + (ByteArray.mk r.toArray).size : Nat) : Int) > IntKind.i64.max := by
    rw [size_str, size_str]
    simp [IntKind.max, IntKind.signed, IntKind.bits]
    omega
  simp only [binOp, Op.stringOp]
  rw [if_neg hm, e]
  rfl
theorem pN_sadd {xo yo : Operand} (hb : l.length + r.length ≤ 9223372036854775807) (hk : K (.string ⟨(l ++ r).toArray⟩) w) : pN P (oBin .add t xo yo (.string ⟨l.toArray⟩) (.string ⟨r.toArray⟩)) w K := by
  rw [pN_def, run_sadd hb, rN_value]; exact hk
theorem pA_sadd {xo yo : Operand} (hb : l.length + r.length ≤ 9223372036854775807) (hk : J (.string ⟨(l ++ r).toArray⟩)) : pA P (oBin .add t xo yo (.string ⟨l.toArray⟩) (.string ⟨r.toArray⟩)) J :=
  ⟨_, fun w => run_sadd hb w, hk⟩
end

/-! ### Rows that are only read: what a conversion makes -/

/-- A row that may be marked. -/
def rowM {α : Type} (C : Cd α) (s : Sl) (l : List α) : HA := fun h => ∃ g cap cur fr, s = ⟨some ⟨g, 0, none⟩, cap⟩ ∧ h g = some (.cells cur C.e fr) ∧ l.length ≤ cap ∧ cur.toList.take (l.length * C.size) = C.flat l

section
variable [Pan] {P : Program} {E w : World} {K : Value → World → Prop} {J : Value → Prop} {L M : List HA} {v : Value} {t ty d : TypeId} {l r : List UInt8} {α : Type} {C : Cd α} {s : Sl}

omit [Pan] in
theorem cell_of_cells {g j : Nat} {cur : Array Value} {e : TypeId} {fr : Nat × Nat} (h : w.heap[g]? = some (.cells cur e fr)) : w.cell? ⟨g, j, none⟩ = cur[j]? := by
  simp [World.cell?, h]
instance RdP.rowM {l : List α} : RdP C (rowM C s l) s l := ⟨fun w ⟨h1, ⟨g, cap, cur, fr, hs, hg, hc, ht⟩, hh⟩ => by
  subst hs
  refine ⟨C.flat_len l, some ⟨g, 0, none⟩, cap, rfl, hc, fun h => (by cases h), fun a ha j u hu => ?_⟩
  cases ha
  rw [← ht, List.getElem?_take] at hu
  split at hu
  · rw [Addr.add_lit, Nat.zero_add, cell_of_cells (hh _ _ hg)]
    simpa using hu
  · cases hu⟩

omit [Pan] in
/-- Conversions of a string to bytes. -/
class StrB (P : Program) (d t : TypeId) (B : outParam (Cd UInt8)) : Prop where
  ss : P.underlying d = some .string
  tt : P.underlying t = some (.slice B.e)
  ee : P.underlying B.e = some (.int .u8)
  size : B.size = 1
  enc : ∀ b, B.enc b = [bv b]
theorem pN_tobs {B : Cd UInt8} (hS : Sat E w L) [h : StrB P d t B] (hl : l.length ≤ maxLen) (hk : ∀ s w', Sat E w' (rowM B s l :: L) → K (.slice s.a l.length s.c) w') : pN P (oConv d t (.string ⟨l.toArray⟩)) w K := by
  have hr := run_bytes_of_string (P := P) w d t B.e ⟨l.toArray⟩ h.ss h.tt h.ee
  rw [size_str] at hr
  rw [pN_def, show (oConv d t (.string ⟨l.toArray⟩)).run P w = _ from run_oV_ok hr, rN_value]
  refine hk ⟨some ⟨w.heap.size, 0, none⟩, grownCap w l.length 0 B.e⟩ _ ?_
  have h1 := (hS.drew).alloc (.cells (bytesRow ⟨l.toArray⟩ (grownCap w l.length 0 B.e)) B.e ((bytesRow ⟨l.toArray⟩ (grownCap w l.length 0 B.e)).size, (bytesRow ⟨l.toArray⟩ (grownCap w l.length 0 B.e)).size + 1))
  refine h1.weaken fun hp hb => ⟨_, _, _, _, rfl, hb, grownCap_ge w l.length 0 B.e, ?_⟩
  rw [h.size, Nat.mul_one, B.flat_single bv h.enc]
  simp only [bytesRow, Array.toList_append, Array.toList_map]
  have e : (List.map (fun b => Value.int .u8 (b.toNat : Int)) l) = l.map bv := rfl
  rw [e, List.take_left' (by simp)]
end

/-! ### Append of zeros -/

section
variable [Pan] {P : Program} {E w : World} {K : Value → World → Prop} {L M : List HA} {v : Value} {t tn ty : TypeId} {α : Type} {C : Cd α} {s : Sl} {l : List α}

omit [Pan] in
theorem zeroCells_flat [hw : Row P t α C] (j : Nat) : (Builtin.zeroCells (Classical.choose hw.st).cells j).toList = C.flat (List.replicate j C.zero) := by
  have h := flat_made (P := P) (t := t) (C := C) j
  rw [← h]
  have hz := (Row.slt (P := P) (t := t) (C := C)).zsize
  simp only [Builtin.zeroCells, madeCells, hz]

omit [Pan] in
theorem run_appz {e : TypeId} {z : Value} {size bytes : Nat} (ht : SlT P t e z size bytes) {kn : IntKind} (hn : P.underlying tn = some (.int kn)) (v : Value) (n : Nat) (xs : List Value) (hown : w.ownsRow 0 e size v n xs) (m : Nat) (k : IntKind)
    (h1 : ∀ u ∈ (Builtin.zeroCells z.cells m).toList, u.oneCell' = true) (h63 : n + m ≤ maxLen) (hb : (n + m) * bytes ≤ 140737488355328) :
    ∃ v' w', (Builtin.append_ #[t, tn] ty #[v, .int k (m : Int)]).run P w = .ok v' w' ∧ w'.ownsRow 0 e size v' (n + m) (xs ++ (Builtin.zeroCells z.cells m).toList) ∧ w.grownBy w' v.ownBlock ∧ (v'.ownBlock = v.ownBlock ∨ v'.ownBlock = some w.heap.size) := by
  obtain ⟨i, hi, hz, hs, hby⟩ := ht.info
  have hzs := ht.zsize
  have hpos := ht.pos
  subst hs hby
  have hsmall : n + m ≤ 9223372036854775807 := by simp only [maxLen] at h63; omega
  have hzl : (Builtin.zeroCells z.cells m).toList.length = m * i.size := by rw [Array.length_toList, size_zeroCells, hzs]
  have hlen : (xs ++ (Builtin.zeroCells z.cells m).toList).length = (n + m) * i.size := by rw [List.length_append, hown.1, hzl, Nat.add_mul]
  have hmb : m * i.bytes ≤ 281474976710656 := by
    have : m * i.bytes ≤ (n + m) * i.bytes := Nat.mul_le_mul_right _ (by omega)
    omega
  have grown : ∀ (old : Nat), old < n + m → ∀ (row : Option Nat),
      (w.drew.alloc (.cells (xs.toArray ++ Builtin.zeroCells z.cells m ++ Builtin.zeroCells z.cells (grownCap w (n + m) old e - (n + m))) e)).ownsRow 0 e i.size
        (.slice (some ⟨w.heap.size, 0, none⟩) (n + m) (grownCap w (n + m) old e)) (n + m) (xs ++ (Builtin.zeroCells z.cells m).toList) ∧
      w.grownBy (w.drew.alloc (.cells (xs.toArray ++ Builtin.zeroCells z.cells m ++ Builtin.zeroCells z.cells (grownCap w (n + m) old e - (n + m))) e)) row := by
    intro old ho row
    have hge := grownCap_ge w (n + m) old e
    have hcm : grownCap w (n + m) old e ≤ maxLen := grownCap_le_maxLen w (n + m) old e h63
    refine ⟨⟨hlen, .inr ⟨w.heap.size, _, _, rfl, Nat.zero_le _, heap_alloc_new w.drew _, hge, hcm, ?_, ?_⟩⟩, ⟨rfl, rfl, rfl, by simp, fun k hk _ => heap_alloc_old w.drew _ hk⟩⟩
    · simp only [Array.size_append, List.size_toArray, size_zeroCells, hzs, hown.1, ← Nat.add_mul]
      congr 1
      omega
    · simp only [Array.toList_append, List.append_assoc]
      rw [← List.append_assoc, ← hlen]
      exact List.take_left
  have hw : IntKind.i64.wrap (m : Int) = m := by rw [IntKind.wrap_i64]; omega
  have hneg : ¬ ((m : Int) < 0) := by omega
  have h48i : ¬ (281474976710656 < (m : Int) * (i.bytes : Int)) := by
    rw [← Int.natCast_mul]
    omega
  rcases hown.2 with ⟨rfl, rfl⟩ | ⟨g, cap, cur, rfl, hbg, hg, hnc, hcm, hcs, htake⟩
  · have hx : xs = [] := List.eq_nil_of_length_eq_zero (by simpa using hown.1)
    subst hx
    by_cases hm : m = 0
    · subst hm
      refine ⟨.slice none 0 0, w, ?_, ?_, ⟨rfl, rfl, rfl, Nat.le_refl _, fun _ _ _ => rfl⟩, Or.inl rfl⟩
      · have hw0 : IntKind.i64.wrap 0 = 0 := by decide
        simp [Builtin.append_, run_underlying ht.under, run_underlying hn, sizeOf, typeInfo, hi, asInt, asIntOf, hw0]
      · have := World.ownsRow_nil w 0 e i.size
        have e0 : (Builtin.zeroCells z.cells 0).toList = [] := List.length_eq_zero_iff.1 (by rw [hzl, Nat.zero_mul])
        rw [e0]
        exact this
    · have hr := Lib.run_append_nil_zeros (P := P) (ty := ty) w t tn e i z k kn ht.under hn hi hz m (by omega) hpos (by omega) hmb
      have hgr := grown 0 (by omega) (Value.ownBlock (.slice none 0 0))
      simp only [Nat.zero_add, List.nil_append, Array.empty_append] at hgr ⊢
      exact ⟨_, _, hr, hgr.1, hgr.2, Or.inr rfl⟩
  · by_cases hroom : n + m ≤ cap
    · have hfit : n * i.size + (Builtin.zeroCells z.cells m).toList.length ≤ cur.size := by rw [hzl, hcs, ← Nat.add_mul]; exact Nat.mul_le_mul_right _ hroom
      have hst := run_storeCells_at P g (n * i.size) e (Builtin.zeroCells z.cells m).toList 0 cur w hg (by simpa using hfit) h1
      simp only [Nat.add_zero] at hst
      have hr : (Builtin.append_ #[t, tn] ty #[.slice (some ⟨g, 0, none⟩) n cap, .int k (m : Int)]).run P w =
          .ok (.slice (some ⟨g, 0, none⟩) (n + m) cap) (w.setRow g (cur.toList.take (n * i.size) ++ (Builtin.zeroCells z.cells m).toList ++ cur.toList.drop (n * i.size + (Builtin.zeroCells z.cells m).toList.length)).toArray) := by
        by_cases hm : m * i.size = 0
        · have e0 : (Builtin.zeroCells z.cells m).toList = [] := List.length_eq_zero_iff.1 (by rw [hzl, hm])
          rw [e0] at hst ⊢
          simp [Builtin.append_, run_underlying ht.under, run_underlying hn, sizeOf, typeInfo, hi, asInt, asIntOf, hw, hneg, h48i, hm, hroom, Addr.add_lit]
          simp at hst
          simp [hst]
        · simp [Builtin.append_, run_underlying ht.under, run_underlying hn, sizeOf, typeInfo, zeroValue, hi, hz, asInt, asIntOf, hw, hneg, h48i, hm, hroom, Addr.add_lit]
          simp at hst
          simp [hst]
      refine ⟨_, _, hr, ⟨hlen, .inr ⟨g, cap, _, rfl, hbg, setRow_heap w g cur _ e _ hg, hroom, hcm, ?_, ?_⟩⟩, ⟨rfl, rfl, rfl, by simp, fun k _ hk => setRow_other w g k _ (fun e => hk (by simp [Value.ownBlock, e]))⟩, Or.inl rfl⟩
      · simp only [List.size_toArray, List.length_append, List.length_take, List.length_drop, Array.length_toList]
        rw [Array.length_toList] at hfit
        omega
      · rw [htake, ← hlen]
        exact List.take_left
    · have hm : 0 < m := by omega
      have holds : ∀ j u, xs[j]? = some u → w.cell? ((⟨g, 0, none⟩ : Addr).add j) = some u := hown.cells (g := g) rfl
      have hf := run_firstCells_some (P := P) w.drew i.size n ⟨g, 0, none⟩ n cap xs hown.1 holds
      have hr := Lib.run_append_grow_zeros (P := P) (ty := ty) w t tn e i z k kn ht.under hn hi hz (some ⟨g, 0, none⟩) n cap xs hf m hm hpos (by omega) (by omega) hmb (growslice_fits (by omega) hb)
      have hgr := grown cap (by omega) (Value.ownBlock (.slice (some ⟨g, 0, none⟩) n cap))
      exact ⟨_, _, hr, hgr.1, hgr.2, Or.inr rfl⟩

omit [Pan] in
/-- Integer types. -/
class IntY (P : Program) (t : TypeId) (k : outParam IntKind) : Prop where
  un : P.underlying t = some (.int k)
theorem pN_appz {kn k : IntKind} {n : Nat} {i : Int} {cs : List Bool} (hS : Sat E w L) [hw : Row P t α C] [hi : IntY P tn kn] [hf : Fnd (rows C s) L l M] {z : Nat} [hz : Bt C z] (m : Nat) (hj : i = (m : Int)) (hn : n = l.length) (hb : (l.length + m) * z ≤ 140737488355328)
    (hk : ∀ s' w', Sat E w' (rows C s' (l ++ List.replicate m C.zero) :: M) → K (.slice s'.a (l ++ List.replicate m C.zero).length s'.c) w') : pN P (oBi .append #[t, tn] ty cs [.slice s.a n s.c, .int k i]) w K := by
  subst hn hj
  rw [← hz.eq] at hb
  have h0 := hS.fd (rows C s)
  have hzc := zeroCells_flat (P := P) (t := t) (C := C) m
  obtain ⟨v', w', hr, ho, hg, hbk⟩ := run_appz (P := P) (ty := ty) (Row.slt (P := P) (t := t) (C := C)) hi.un (.slice s.a l.length s.c) l.length (C.flat l) (h0.own_at 0 rfl) m k (by rw [hzc]; exact C.flat_one _)
    (by have := room63 hw.bpos hb; unfold maxLen; omega) hb
  rw [hzc, ← C.flat_append] at ho
  have h2 := h0.grown hg ho hbk
  obtain ⟨s', rfl⟩ := own_sl h2
  rw [pN_def, show (oBi .append #[t, tn] ty cs [.slice s.a l.length s.c, .int k (m : Int)]).run P w = _ from run_oV_ok hr, rN_value]
  have e : l.length + m = (l ++ List.replicate m C.zero).length := by simp
  rw [e] at h2 ⊢
  exact hk s' w' h2
end

/-! ### Copy into a part of a row -/

section
variable [Pan] {P : Program} {E w : World} {K : Value → World → Prop} {L M : List HA} {v : Value} {t tt ty : TypeId} {α : Type} {C : Cd α} {s s2 : Sl} {l r : List α}

omit [Pan] in
theorem El.sub {o j : Nat} {a : Addr} (h : El C (s.sub o C.size) j a) (hc : o < s.c) : El C s (o + j) a := by
  obtain ⟨b, hb, rfl⟩ := h
  have hne : ¬ s.c = o := by omega
  simp only [Sl.sub, if_neg hne] at hb
  cases hs : s.a with
  | none => rw [hs] at hb; cases hb
  | some b0 =>
    rw [hs] at hb
    simp only [Option.map_some, Option.some.injEq] at hb
    subst hb
    exact ⟨b0, hs, by rw [Addr.add_add, Nat.add_mul]⟩

/-- Elements put over others. -/
def putL {α : Type} (l : List α) (o : Nat) (us : List α) : List α := l.take o ++ us ++ l.drop (o + us.length)
omit [Pan] in
theorem putL_len (l : List α) (o : Nat) (us : List α) (h : o + us.length ≤ l.length) : (putL l o us).length = l.length := by simp [putL]; omega

theorem pN_cp_gen {bytes : Nat} {z : Value} {e : TypeId} {size g n cap o dn dc m : Nat} {xs us : List Value} {src : Value} {sT : TypeId} {cs : List Bool} (ht : SlT P t e z size bytes) (hS : Sat E w (own e size (.slice (some ⟨g, 0, none⟩) n cap) n xs :: L))
    (hm : (Builtin.lenOf src).run P w = .ok m w) (hc : (Builtin.firstCells size (Nat.min m dn) src).run P w = .ok us.toArray w) (hus : us.length = Nat.min m dn * size) (h1 : ∀ u ∈ us, u.oneCell' = true) (hfit : o * size + us.length ≤ xs.length)
    (hk : ∀ w', Sat E w' (own e size (.slice (some ⟨g, 0, none⟩) n cap) n (xs.take (o * size) ++ us ++ xs.drop (o * size + us.length)) :: L) → K (.int .i64 (Nat.min m dn : Nat)) w') :
    pN P (oBi .copy #[t, sT] ty cs [.slice (some ⟨g, o * size, none⟩) dn dc, src]) w K := by
  obtain ⟨i, hi, hz, hs, hby⟩ := ht.info
  obtain ⟨cur, ⟨hl, hnc, hcm, hsz, htk⟩, hS1⟩ := hS.own_blk
  have hxl : xs.length ≤ cur.size := by
    rw [hl, hsz]; exact Nat.mul_le_mul_right _ hnc
  have hst := run_storeCells_at P g (o * size) e us 0 cur w (hS1.blk_at 0 rfl) (by omega) h1
  rw [Nat.add_zero] at hst
  have hr : (Builtin.copy_ #[t, sT] ty #[.slice (some ⟨g, o * size, none⟩) dn dc, src]).run P w = .ok (.int .i64 (Nat.min m dn : Nat)) (w.setRow g (cur.toList.take (o * size) ++ us ++ cur.toList.drop (o * size + us.length)).toArray) := by
    have hsz' : (Go.sizeOf e).run P w = .ok size w := by simp [Go.sizeOf, typeInfo, hi, hs]
    simp only [Builtin.copy_, List.getElem?_toArray, List.getElem?_cons_zero, List.getElem?_cons_succ, Sem.run_bind, run_underlying ht.under, Result.andThen_ok, hm, hsz', hc, hst]
    rfl
  have hr2 : (oBi .copy #[t, sT] ty cs [.slice (some ⟨g, o * size, none⟩) dn dc, src]).run P w = .ok (.value (.int .i64 (Nat.min m dn : Nat))) (w.setRow g (cur.toList.take (o * size) ++ us ++ cur.toList.drop (o * size + us.length)).toArray) := run_oV_ok hr
  rw [pN_def, hr2, rN_value]
  refine hk _ ((hS1.row _).weaken fun hp hb => ?_)
  have h3 := blk_own (n := n) (size := size) hnc hcm (cur := (cur.toList.take (o * size) ++ us ++ cur.toList.drop (o * size + us.length)).toArray) (by simp; omega) hb
  have e : ((cur.toList.take (o * size) ++ us ++ cur.toList.drop (o * size + us.length)).toArray).toList.take (n * size) = xs.take (o * size) ++ us ++ xs.drop (o * size + us.length) := by
    rw [← htk] at hfit ⊢
    have h5 : n * size ≤ cur.size := by rw [hsz]; exact Nat.mul_le_mul_right _ hnc
    simp only [List.length_take, Array.length_toList] at hfit
    simp only [List.take_append, List.take_take, List.drop_take, List.length_take, List.length_append, Array.length_toList]
    have a1 : min (n * size) (o * size) = o * size := by omega
    have a2 : min (o * size) (n * size) = o * size := by omega
    have a3 : min (o * size) cur.size = o * size := by omega
    rw [a1, a2, a3, List.take_of_length_le (l := us) (by omega)]
  rw [e] at h3
  exact h3

omit [Pan] in
theorem sub_addr {o g : Nat} (hg : s.a = some ⟨g, 0, none⟩) (hc : o < s.c) (size : Nat) : (s.sub o size).a = some ⟨g, o * size, none⟩ := by
  simp only [Sl.sub, if_neg (show ¬ s.c = o by omega), hg, Option.map_some, Addr.add_lit, Nat.zero_add]
omit [Pan] in
theorem rows_at {l : List α} (hS : Sat E w L) [hf : Fnd (rows C s) L l M] (h : 0 < l.length) : ∃ g, s.a = some ⟨g, 0, none⟩ ∧ l.length ≤ s.c := by
  obtain ⟨_, ⟨h1, h2⟩ | ⟨g, cap, cur, h1, _, _, h3, _⟩⟩ := (hS.fd (rows C s)).own_at 0 rfl
  · omega
  · simp only [Value.slice.injEq, true_and] at h1
    exact ⟨g, h1.1, by rw [h1.2]; exact h3⟩

/-- copy of elements that can be read into a part of a row of its own. -/
theorem pN_cp {cs : List Bool} {dn n2 dc : Nat} (hS : Sat E w L) [hw : Row P t α C] [hf : Fnd (rows C s) L l M] [hr : Rds C L s2 r] (o : Nat) (hn : o + dn ≤ l.length) (h0 : 0 < dn) (hn2 : n2 = r.length)
    (hk : ∀ w', Sat E w' (rows C s (putL l o (r.take dn)) :: M) → K (.int .i64 (min r.length dn : Nat)) w') : pN P (oBi .copy #[t, t] ty cs [.slice (s.sub o C.size).a dn dc, .slice s2.a n2 s2.c]) w K := by
  subst hn2
  have hS0 := hS.fd (rows C s)
  obtain ⟨g, hg, hc⟩ := rows_at (C := C) (s := s) hS (by omega)
  have hrd := hS.rds (C := C) (s := s2)
  rw [sub_addr hg (by omega)]
  have hsl := Row.slt (P := P) (t := t) (C := C)
  have hfl := C.flat_len l
  have hfr := C.flat_len (r.take dn)
  unfold rows at hS0
  rw [hg] at hS0
  have hmin : r.length.min dn = (r.take dn).length := by simp [Nat.min_comm] <;> rfl
  refine pN_cp_gen (m := r.length) (us := C.flat (r.take dn)) hsl hS0 (by simp [Builtin.lenOf]) ?_ (by rw [hfr, hmin]) (C.flat_one _) ?_ fun w' h3 => ?_
  · obtain ⟨hl2, ao, cap, hv, hcap, hnil, hcell⟩ := hrd
    simp only [Value.slice.injEq, true_and] at hv
    obtain ⟨hv1, hv2⟩ := hv
    rw [hv1]
    cases ao with
    | none =>
      have : r = [] := List.length_eq_zero_iff.1 (hnil rfl).1
      subst this
      simp [Builtin.firstCells, Cd.flat]
    | some a =>
      have := run_loadCells_list (P := P) w a (C.flat (r.take dn)) (fun j u hu => hcell a rfl j u (by
        rw [← C.flat_take, List.getElem?_take] at hu
        split at hu
        · exact hu
        · cases hu))
      rw [hfr, ← hmin] at this
      simpa [Builtin.firstCells] using this
  · rw [hfr, hfl, ← Nat.add_mul]
    exact Nat.mul_le_mul_right _ (by simp; omega)
  · have e : (C.flat l).take (o * C.size) ++ C.flat (r.take dn) ++ (C.flat l).drop (o * C.size + (C.flat (r.take dn)).length) = C.flat (putL l o (r.take dn)) := by
      rw [hfr, ← Nat.add_mul, C.flat_take, C.flat_drop, putL, C.flat_append, C.flat_append]
    rw [e] at h3
    have hlen := putL_len l o (r.take dn) (by simp; omega)
    have h4 := hk w' (by unfold rows; rw [hg, hlen]; exact h3)
    exact h4

/-- copy of a string's bytes into a part of a row of its own. -/
theorem pN_cps {l r : List UInt8} {C : Cd UInt8} {cs : List Bool} {dn dc : Nat} {st : TypeId} (hS : Sat E w L) [hw : Row P t UInt8 C] [hf : Fnd (rows C s) L l M] (hb : ∀ b, C.enc b = [bv b]) (o : Nat) (hn : o + dn ≤ l.length) (h0 : 0 < dn)
    (hk : ∀ w', Sat E w' (rows C s (putL l o (r.take dn)) :: M) → K (.int .i64 (min r.length dn : Nat)) w') : pN P (oBi .copy #[t, st] ty cs [.slice (s.sub o C.size).a dn dc, .string ⟨r.toArray⟩]) w K := by
  have hS0 := hS.fd (rows C s)
  obtain ⟨g, hg, hc⟩ := rows_at (C := C) (s := s) hS (by omega)
  rw [sub_addr hg (by omega)]
  have hsl := Row.slt (P := P) (t := t) (C := C)
  have hz : C.size = 1 := by rw [← C.len 0, hb]; rfl
  have hfl := C.flat_len l
  have hfr := C.flat_len (r.take dn)
  unfold rows at hS0
  rw [hg] at hS0
  have hmin : r.length.min dn = (r.take dn).length := by simp [Nat.min_comm] <;> rfl
  refine pN_cp_gen (m := r.length) (us := C.flat (r.take dn)) hsl hS0 (by simp [Builtin.lenOf, size_str]) ?_ (by rw [hfr, hmin]) (C.flat_one _) ?_ fun w' h3 => ?_
  · rw [C.flat_single bv hb, hmin]
    simp only [Builtin.firstCells, Sem.run_pure, extract_str, List.drop_zero, Nat.sub_zero]
    congr 2
    have : (r.take (r.take dn).length) = r.take dn := by rw [List.length_take, List.take_eq_take_iff]; omega
    rw [this]
    simp [bv]
    rfl
  · rw [hfr, hfl, ← Nat.add_mul]
    exact Nat.mul_le_mul_right _ (by simp; omega)
  · have e : (C.flat l).take (o * C.size) ++ C.flat (r.take dn) ++ (C.flat l).drop (o * C.size + (C.flat (r.take dn)).length) = C.flat (putL l o (r.take dn)) := by
      rw [hfr, ← Nat.add_mul, C.flat_take, C.flat_drop, putL, C.flat_append, C.flat_append]
    rw [e] at h3
    have hlen := putL_len l o (r.take dn) (by simp; omega)
    exact hk w' (by unfold rows; rw [hg, hlen]; exact h3)
end

/-! ### Parts of slices, their places told -/

section
variable [Pan] {P : Program} {E w : World} {K : Value → World → Prop} {J : Value → Prop} {L M : List HA} {t : TypeId} {α : Type} {C : Cd α} {s : Sl} {l : List α} {n : Nat} {k1 k2 : IntKind} {i1 i2 : Int}

theorem pN_sl2w (hS : Sat E w L) [Row P t α C] [h : Rds C L s l] (lo hi : Nat) (h1 : i1 = (lo : Int)) (h2 : i2 = (hi : Int)) (hn : n = l.length) (hlo : lo ≤ hi) (hhi : hi ≤ l.length)
    (hk : Rds C L (s.sub lo C.size) ((l.drop lo).take (hi - lo)) → K (.slice (s.sub lo C.size).a (hi - lo) (s.sub lo C.size).c) w) : pN P (oSl t (.slice s.a n s.c) (some (.int k1 i1)) (some (.int k2 i2)) none) w K := by
  subst h1 h2 hn
  refine pN_sl (Row.slt (C := C)) (hS.rds (C := C) (s := s)) (by omega) (by omega) (by omega) ?_
  rw [Int.toNat_natCast, Int.toNat_natCast, subV_sl]
  exact hk (Rds.sub lo hi hlo hhi)
theorem pN_sl1w (hS : Sat E w L) [Row P t α C] [h : Rds C L s l] (lo : Nat) (h1 : i1 = (lo : Int)) (hn : n = l.length) (hlo : lo ≤ l.length)
    (hk : Rds C L (s.sub lo C.size) (l.drop lo) → K (.slice (s.sub lo C.size).a (l.length - lo) (s.sub lo C.size).c) w) : pN P (oSl t (.slice s.a n s.c) (some (.int k1 i1)) none none) w K := by
  subst h1 hn
  refine pN_sl_l (Row.slt (C := C)) (hS.rds (C := C) (s := s)) (by omega) (by omega) ?_
  rw [Int.toNat_natCast, subV_sl]
  refine hk ?_
  have := Rds.sub (C := C) (L := L) (s := s) (l := l) lo l.length hlo (Nat.le_refl _)
  rwa [List.take_of_length_le (by simp)] at this
theorem pN_slhw (hS : Sat E w L) [Row P t α C] [h : Rds C L s l] (hi : Nat) (h2 : i2 = (hi : Int)) (hn : n = l.length) (hhi : hi ≤ l.length)
    (hk : Rds C L (s.sub 0 C.size) (l.take hi) → K (.slice (s.sub 0 C.size).a hi (s.sub 0 C.size).c) w) : pN P (oSl t (.slice s.a n s.c) none (some (.int k2 i2)) none) w K := by
  subst h2 hn
  refine pN_sl_h (Row.slt (C := C)) (hS.rds (C := C) (s := s)) (by omega) (by omega) ?_
  rw [Int.toNat_natCast, subV_sl]
  refine hk ?_
  have := Rds.sub (C := C) (L := L) (s := s) (l := l) 0 hi (Nat.zero_le _) hhi
  rwa [List.drop_zero, Nat.sub_zero] at this
theorem pA_sl2w (hS : Sat E w L) [Row P t α C] [h : Rds C L s l] (lo hi : Nat) (h1 : i1 = (lo : Int)) (h2 : i2 = (hi : Int)) (hn : n = l.length) (hlo : lo ≤ hi) (hhi : hi ≤ l.length)
    (hk : Rds C L (s.sub lo C.size) ((l.drop lo).take (hi - lo)) → J (.slice (s.sub lo C.size).a (hi - lo) (s.sub lo C.size).c)) : pA P (oSl t (.slice s.a n s.c) (some (.int k1 i1)) (some (.int k2 i2)) none) J := by
  subst h1 h2 hn
  refine pA_sl (Row.slt (C := C)) (hS.rds (C := C) (s := s)) (by omega) (by omega) (by omega) ?_
  rw [Int.toNat_natCast, Int.toNat_natCast, subV_sl]
  exact hk (Rds.sub lo hi hlo hhi)
theorem pA_sl1w (hS : Sat E w L) [Row P t α C] [h : Rds C L s l] (lo : Nat) (h1 : i1 = (lo : Int)) (hn : n = l.length) (hlo : lo ≤ l.length)
    (hk : Rds C L (s.sub lo C.size) (l.drop lo) → J (.slice (s.sub lo C.size).a (l.length - lo) (s.sub lo C.size).c)) : pA P (oSl t (.slice s.a n s.c) (some (.int k1 i1)) none none) J := by
  subst h1 hn
  refine pA_sl_l (Row.slt (C := C)) (hS.rds (C := C) (s := s)) (by omega) (by omega) ?_
  rw [Int.toNat_natCast, subV_sl]
  refine hk ?_
  have := Rds.sub (C := C) (L := L) (s := s) (l := l) lo l.length hlo (Nat.le_refl _)
  rwa [List.take_of_length_le (by simp)] at this
theorem pA_slhw (hS : Sat E w L) [Row P t α C] [h : Rds C L s l] (hi : Nat) (h2 : i2 = (hi : Int)) (hn : n = l.length) (hhi : hi ≤ l.length)
    (hk : Rds C L (s.sub 0 C.size) (l.take hi) → J (.slice (s.sub 0 C.size).a hi (s.sub 0 C.size).c)) : pA P (oSl t (.slice s.a n s.c) none (some (.int k2 i2)) none) J := by
  subst h2 hn
  refine pA_sl_h (Row.slt (C := C)) (hS.rds (C := C) (s := s)) (by omega) (by omega) ?_
  rw [Int.toNat_natCast, subV_sl]
  refine hk ?_
  have := Rds.sub (C := C) (L := L) (s := s) (l := l) 0 hi (Nat.zero_le _) hhi
  rwa [List.drop_zero, Nat.sub_zero] at this
end

/-! ### Slices and functions against nil -/

section
variable [Pan] {P : Program} {E w : World} {K : Value → World → Prop} {J : Value → Prop} {L M : List HA} {t : TypeId} {α : Type} {C : Cd α} {xo yo : Operand} {n c m d : Nat} {p : Option Addr}

omit [Pan] in
theorem run_eql_slc {e : TypeId} (h : P.underlying t = some (.slice e)) (w : World) : (oBin .eql t xo yo (.slice p n c) (.slice none m d)).run P w = .ok (.value (.bool p.isNone)) w := by
  cases p <;> exact run_eql_of t xo yo rfl rfl fun d => by
    simp only [Op.equalIn, Sem.run_bind, run_underlying h, Result.andThen_ok]
    rfl
omit [Pan] in
theorem run_neq_slc {e : TypeId} (h : P.underlying t = some (.slice e)) (w : World) : (oBin .neq t xo yo (.slice p n c) (.slice none m d)).run P w = .ok (.value (.bool !p.isNone)) w := by
  cases p <;> exact run_neq_of t xo yo rfl rfl fun d => by
    simp only [Op.equalIn, Sem.run_bind, run_underlying h, Result.andThen_ok]
    rfl
theorem pN_eql_slc [hw : Row P t α C] (hk : K (.bool p.isNone) w) : pN P (oBin .eql t xo yo (.slice p n c) (.slice none m d)) w K := by
  rw [pN_def, run_eql_slc (Row.slt (P := P) (t := t) (C := C)).under, rN_value]; exact hk
theorem pN_neq_slc [hw : Row P t α C] (hk : K (.bool !p.isNone) w) : pN P (oBin .neq t xo yo (.slice p n c) (.slice none m d)) w K := by
  rw [pN_def, run_neq_slc (Row.slt (P := P) (t := t) (C := C)).under, rN_value]; exact hk

omit [Pan] in
/-- Function types. -/
class FnY (P : Program) (t : TypeId) : Prop where
  un : ∃ a b c, P.underlying t = some (.func a b c)
omit [Pan] in
theorem run_eql_fn [h : FnY P t] {f : Fn} {x y : Array Value} (w : World) : (oBin .eql t xo yo (.func f x y) .nilFunc).run P w = .ok (.value (.bool false)) w := by
  obtain ⟨a, b, c, h⟩ := h.un
  exact run_eql_of (r := false) t xo yo rfl rfl fun d => by
    simp only [Op.equalIn, Sem.run_bind, run_underlying h, Result.andThen_ok]
    rfl
omit [Pan] in
theorem run_eql_nilfn [h : FnY P t] (w : World) : (oBin .eql t xo yo .nilFunc .nilFunc).run P w = .ok (.value (.bool true)) w := by
  obtain ⟨a, b, c, h⟩ := h.un
  exact run_eql_of (r := true) t xo yo rfl rfl fun d => by
    simp only [Op.equalIn, Sem.run_bind, run_underlying h, Result.andThen_ok]
    rfl
omit [Pan] in
theorem run_neq_fn [h : FnY P t] {f : Fn} {x y : Array Value} (w : World) : (oBin .neq t xo yo (.func f x y) .nilFunc).run P w = .ok (.value (.bool true)) w := by
  obtain ⟨a, b, c, h⟩ := h.un
  exact run_neq_of (r := false) t xo yo rfl rfl fun d => by
    simp only [Op.equalIn, Sem.run_bind, run_underlying h, Result.andThen_ok]
    rfl
omit [Pan] in
theorem run_neq_nilfn [h : FnY P t] (w : World) : (oBin .neq t xo yo .nilFunc .nilFunc).run P w = .ok (.value (.bool false)) w := by
  obtain ⟨a, b, c, h⟩ := h.un
  exact run_neq_of (r := true) t xo yo rfl rfl fun d => by
    simp only [Op.equalIn, Sem.run_bind, run_underlying h, Result.andThen_ok]
    rfl
theorem pN_eql_fn [h : FnY P t] {f : Fn} {x y : Array Value} (hk : K (.bool false) w) : pN P (oBin .eql t xo yo (.func f x y) .nilFunc) w K := by
  rw [pN_def, run_eql_fn, rN_value]; exact hk
theorem pN_eql_nilfn [h : FnY P t] (hk : K (.bool true) w) : pN P (oBin .eql t xo yo .nilFunc .nilFunc) w K := by
  rw [pN_def, run_eql_nilfn, rN_value]; exact hk
theorem pN_neq_fn [h : FnY P t] {f : Fn} {x y : Array Value} (hk : K (.bool true) w) : pN P (oBin .neq t xo yo (.func f x y) .nilFunc) w K := by
  rw [pN_def, run_neq_fn, rN_value]; exact hk
theorem pN_neq_nilfn [h : FnY P t] (hk : K (.bool false) w) : pN P (oBin .neq t xo yo .nilFunc .nilFunc) w K := by
  rw [pN_def, run_neq_nilfn, rN_value]; exact hk
end

/-! ### Bytes that are marked: the conversion of a literal's bytes -/

section
variable [Pan] {P : Program} {E w : World} {K : Value → World → Prop} {L M : List HA} {t e : TypeId} {C : Cd UInt8} {s : Sl} {l : List UInt8}

omit [Pan] in
theorem freeze_heap (w : World) (b n : Nat) (cs : Array Value) (e : TypeId) (h : w.heap[b]? = some (.cells cs e (0, 0))) : (w.freeze ⟨b, n, none⟩ 1).heap[b]? = some (.cells cs e (n, n + 1)) := by
  simp [World.freeze, Array.getElem?_modify, h]
omit [Pan] in
theorem freeze_other (w : World) (b n k : Nat) (hk : k ≠ b) : (w.freeze ⟨b, n, none⟩ 1).heap[k]? = w.heap[k]? := by
  simp [World.freeze, Array.getElem?_modify, hk.symm]
omit [Pan] in
theorem Sat.frz {b : Nat} {cs : Array Value} (hs : Sat E w (blk b (.cells cs e (0, 0)) :: L)) (n : Nat) : Sat E (w.freeze ⟨b, n, none⟩ 1) (blk b (.cells cs e (n, n + 1)) :: L) := by
  have hb := hs.blk_at 0 rfl
  refine hs.turn (by simp [World.freeze]) (by simp [World.freeze]) (by simp [World.freeze]) fun h1 hA s => ?_
  refine ⟨fun k => if k = b then some (.cells cs e (n, n + 1)) else h1 k, by simp [blk], ?_, ?_⟩
  · intro k o ek
    by_cases hkb : k = b
    · subst hkb
      simp only [if_true] at ek
      rw [← ek]
      exact freeze_heap w k n cs e hb
    · simp only [if_neg hkb] at ek
      rw [freeze_other w b n k hkb]
      exact s k o ek
  · intro k o ek hn
    have hkb : k ≠ b := fun e => by subst e; rw [hA] at hn; cases hn
    rw [freeze_other w b n k hkb]
    refine ⟨ek, ?_⟩
    show (if k = b then some (Obj.cells cs e (n, n + 1)) else h1 k) = none
    rw [if_neg hkb]
    exact hn
theorem pN_mks (hS : Sat E w L) [hw : Row P t UInt8 C] [hf : Fnd (rows C s) L l M] (h0 : 0 < l.length) (he : P.underlying C.e = some (.int .u8)) (hz : C.size = 1)
    (hk : ∀ w', Sat E w' (rowM C s l :: M) → K (.slice s.a l.length s.c) w') : pN P (oConv t t (.slice s.a l.length s.c)) w K := by
  have hS0 := hS.fd (rows C s)
  obtain ⟨g, hg, hc⟩ := rows_at (C := C) (s := s) hS h0
  have hun := (Row.slt (P := P) (t := t) (C := C)).under
  unfold rows at hS0
  rw [hg] at hS0
  obtain ⟨cur, ⟨hl, hnc, hcm, hsz, htk⟩, hS1⟩ := hS0.own_blk
  have hb := hS1.blk_at 0 rfl
  have hsh : w.shape? g = some (C.e, cur.size) := by simp [World.shape?, hb]
  have hr : (convert t t (.slice (some ⟨g, 0, none⟩) l.length s.c)).run P w = .ok (.slice (some ⟨g, 0, none⟩) l.length s.c) (w.freeze ⟨g, cur.size, none⟩ 1) := by
    simp [convert, run_underlying hun, run_underlying he, markStringish, hsh]
  have hr2 : (oConv t t (.slice (some ⟨g, 0, none⟩) l.length s.c)).run P w = .ok (.value (.slice (some ⟨g, 0, none⟩) l.length s.c)) (w.freeze ⟨g, cur.size, none⟩ 1) := run_oV_ok hr
  rw [hg, pN_def, hr2, rN_value]
  rw [hg] at hk
  refine hk _ ((hS1.frz cur.size).weaken fun hp hb => ?_)
  refine ⟨g, s.c, cur, _, ?_, hb, hnc, htk⟩
  obtain ⟨sa, sc⟩ := s
  simp only at hg
  rw [hg]
end

end Go.Proofs.YtbgnnjfpiblkmaaDoor
