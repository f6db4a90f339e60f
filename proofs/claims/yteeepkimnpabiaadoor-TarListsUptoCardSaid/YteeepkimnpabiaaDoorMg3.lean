/-
  Texts of one proof, one behind the other: Text, TarP, LfBytes, LfStrings, LfStringslite, TarL, LfTar, TarO, TarW.
-/
import Derived.Lib.AppendZerosOnto
import Derived.Lib.BytesEntry
import Derived.Laws.IdiomStrings
import Derived.Test.YteeepkimnpabiaaDoorRows
import Derived.Lib.IndexLaws
import Derived.Test.YteeepkimnpabiaaDoorMg2
namespace Go.Proofs.YteeepkimnpabiaaDoor
open Go
set_option linter.unusedSimpArgs false
set_option linter.unnecessarySimpa false
set_option linter.unusedSectionVars false
set_option linter.unusedVariables false

/-- A string type. -/
class StrY (P : Program) (t : TypeId) : Prop where
  un : P.underlying t = some .string

section
variable [Pan] {P : Program} {E w : World} {K : Value → World → Prop} {J : Value → Prop} {L M : List HA} {v : Value} {t ty : TypeId} {l r : List UInt8} {k k' : IntKind} {i : Int} {cs : List Bool}

omit [Pan] in
theorem size_str (l : List UInt8) : (ByteArray.mk l.toArray).size = l.length := by simp [ByteArray.size]
omit [Pan] in
theorem run_len_s [h : StrY P t] (w : World) : (oBi .len #[t] ty cs [.string ⟨l.toArray⟩]).run P w = .ok (.value (.int .i64 l.length)) w := by
  have := run_len_string (P := P) w t ty ⟨l.toArray⟩ h.un
  rw [size_str] at this
  exact run_oV_ok this
theorem pN_slen [h : StrY P t] (hk : K (.int .i64 l.length) w) : pN P (oBi .len #[t] ty cs [.string ⟨l.toArray⟩]) w K := by
  rw [pN_def, run_len_s, rN_value]; exact hk
theorem pA_slen [h : StrY P t] (hk : J (.int .i64 l.length)) : pA P (oBi .len #[t] ty cs [.string ⟨l.toArray⟩]) J :=
  ⟨_, fun w => run_len_s w, hk⟩

omit [Pan] in
theorem run_sidx [h : StrY P t] (j : Nat) (hj : i = (j : Int)) {b : UInt8} (hb : l[j]? = some b) (w : World) : (oIndex t (.string ⟨l.toArray⟩) (.int k i)).run P w = .ok (.value (bv b)) w := by
  subst hj
  obtain ⟨hl, hb⟩ := List.getElem?_eq_some_iff.1 hb
  refine run_oV_ok ?_
  rw [run_index_string w t _ _ _ h.un, dif_pos ⟨by omega, by rw [size_str]; omega⟩]
  unfold bv
  rw [← hb]
  simp [ByteArray.getElem_eq_getElem_data]
theorem pN_sidx [h : StrY P t] (j : Nat) (hj : i = (j : Int)) {b : UInt8} (hb : l[j]? = some b) (hk : K (bv b) w) : pN P (oIndex t (.string ⟨l.toArray⟩) (.int k i)) w K := by
  rw [pN_def, run_sidx j hj hb, rN_value]; exact hk
theorem pA_sidx [h : StrY P t] (j : Nat) (hj : i = (j : Int)) {b : UInt8} (hb : l[j]? = some b) (hk : J (bv b)) : pA P (oIndex t (.string ⟨l.toArray⟩) (.int k i)) J :=
  ⟨_, fun w => run_sidx j hj hb w, hk⟩

omit [Pan] in
theorem extract_str (l : List UInt8) (a b : Nat) : (ByteArray.mk l.toArray).extract a b = ⟨((l.drop a).take (b - a)).toArray⟩ := by
  apply ByteArray.ext
  rw [ByteArray.data_extract, List.extract_toArray]
omit [Pan] in
theorem run_ssl [h : StrY P t] (lo hi : Option Value) (a b : Nat) (hlo : lo = none ∧ a = 0 ∨ ∃ k, lo = some (.int k (a : Int))) (hhi : hi = none ∧ b = l.length ∨ ∃ k, hi = some (.int k (b : Int))) (hab : a ≤ b) (hb : b ≤ l.length) (w : World) :
    (oSl t (.string ⟨l.toArray⟩) lo hi none).run P w = .ok (.value (.string ⟨((l.drop a).take (b - a)).toArray⟩)) w := by
  refine run_oV_ok ?_
  rw [run_sliceAt_string w t _ _ _ _ h.un]
  have hs : ∀ (k : IntKind) (n y : Nat) (code : BoundsCode), n ≤ y → (Instr.sliceBound (.int k (n : Int)) y code).run P w = .ok n w := fun k n y code hn => by
    rw [run_sliceBound_if, if_pos (by omega), Int.toNat_natCast]
  have hsz := size_str l
  rcases hlo with ⟨rfl, rfl⟩ | ⟨k1, rfl⟩ <;> rcases hhi with ⟨rfl, rfl⟩ | ⟨k2, rfl⟩ <;>
    simp only [Instr.slice, Instr.sliceBounds, Sem.run_bind, run_underlying h.un, Result.andThen_ok, Option.isSome_none, Bool.false_eq_true, if_false, Sem.run_pure, hsz, hs _ _ _ _ hab, hs _ _ _ _ hb, hs _ _ _ _ (Nat.le_trans hab hb), pure_bind] <;>
    rw [extract_str]
theorem pN_ssl2 [h : StrY P t] {i1 i2 : Int} (a b : Nat) (h1 : i1 = (a : Int)) (h2 : i2 = (b : Int)) (hab : a ≤ b) (hb : b ≤ l.length) (hk : K (.string ⟨((l.drop a).take (b - a)).toArray⟩) w) : pN P (oSl t (.string ⟨l.toArray⟩) (some (.int k i1)) (some (.int k' i2)) none) w K := by
  subst h1 h2
  rw [pN_def, run_ssl _ _ a b (.inr ⟨_, rfl⟩) (.inr ⟨_, rfl⟩) hab hb, rN_value]; exact hk
theorem pN_ssl1 [h : StrY P t] {i1 : Int} (a : Nat) (h1 : i1 = (a : Int)) (ha : a ≤ l.length) (hk : K (.string ⟨(l.drop a).toArray⟩) w) : pN P (oSl t (.string ⟨l.toArray⟩) (some (.int k i1)) none none) w K := by
  subst h1
  rw [pN_def, run_ssl _ _ a l.length (.inr ⟨_, rfl⟩) (.inl ⟨rfl, rfl⟩) ha (Nat.le_refl _), rN_value, List.take_of_length_le (by simp)]; exact hk
theorem pN_sslh [h : StrY P t] {i2 : Int} (b : Nat) (h2 : i2 = (b : Int)) (hb : b ≤ l.length) (hk : K (.string ⟨(l.take b).toArray⟩) w) : pN P (oSl t (.string ⟨l.toArray⟩) none (some (.int k i2)) none) w K := by
  subst h2
  rw [pN_def, run_ssl _ _ 0 b (.inl ⟨rfl, rfl⟩) (.inr ⟨_, rfl⟩) (Nat.zero_le _) hb, rN_value]; exact hk
theorem pA_ssl2 [h : StrY P t] {i1 i2 : Int} (a b : Nat) (h1 : i1 = (a : Int)) (h2 : i2 = (b : Int)) (hab : a ≤ b) (hb : b ≤ l.length) (hk : J (.string ⟨((l.drop a).take (b - a)).toArray⟩)) : pA P (oSl t (.string ⟨l.toArray⟩) (some (.int k i1)) (some (.int k' i2)) none) J := by
  subst h1 h2
  exact ⟨_, fun w => run_ssl _ _ a b (.inr ⟨_, rfl⟩) (.inr ⟨_, rfl⟩) hab hb w, hk⟩
theorem pA_ssl1 [h : StrY P t] {i1 : Int} (a : Nat) (h1 : i1 = (a : Int)) (ha : a ≤ l.length) (hk : J (.string ⟨(l.drop a).toArray⟩)) : pA P (oSl t (.string ⟨l.toArray⟩) (some (.int k i1)) none none) J := by
  subst h1
  refine ⟨_, fun w => run_ssl _ _ a l.length (.inr ⟨_, rfl⟩) (.inl ⟨rfl, rfl⟩) ha (Nat.le_refl _) w, ?_⟩
  rw [List.take_of_length_le (by simp)]; exact hk
theorem pA_sslh [h : StrY P t] {i2 : Int} (b : Nat) (h2 : i2 = (b : Int)) (hb : b ≤ l.length) (hk : J (.string ⟨(l.take b).toArray⟩)) : pA P (oSl t (.string ⟨l.toArray⟩) none (some (.int k i2)) none) J := by
  subst h2
  exact ⟨_, fun w => run_ssl _ _ 0 b (.inl ⟨rfl, rfl⟩) (.inr ⟨_, rfl⟩) (Nat.zero_le _) hb w, hk⟩

omit [Pan] in
theorem run_sadd {xo yo : Operand} (hb : l.length + r.length ≤ 9223372036854775807) (w : World) : (oBin .add t xo yo (.string ⟨l.toArray⟩) (.string ⟨r.toArray⟩)).run P w = .ok (.value (.string ⟨(l ++ r).toArray⟩)) w := by
  refine run_bin_of t xo yo (by unfold eqGuard; rfl) ?_
  have e : (ByteArray.mk l.toArray) ++ (ByteArray.mk r.toArray) = ⟨(l ++ r).toArray⟩ := by
    apply ByteArray.ext
    simp
  have hm : ¬ (((ByteArray.mk l.toArray).size + (ByteArray.mk r.toArray).size : Nat) : Int) > IntKind.i64.max := by
    rw [size_str, size_str]
    simp [IntKind.max, IntKind.signed, IntKind.bits]
    omega
  simp only [binOp, Op.stringOp]
  rw [if_neg hm, e]
  rfl
theorem pN_sadd {xo yo : Operand} (hb : l.length + r.length ≤ 9223372036854775807) (hk : K (.string ⟨(l ++ r).toArray⟩) w) : pN P (oBin .add t xo yo (.string ⟨l.toArray⟩) (.string ⟨r.toArray⟩)) w K := by
  rw [pN_def, run_sadd hb, rN_value]; exact hk
theorem pA_sadd {xo yo : Operand} (hb : l.length + r.length ≤ 9223372036854775807) (hk : J (.string ⟨(l ++ r).toArray⟩)) : pA P (oBin .add t xo yo (.string ⟨l.toArray⟩) (.string ⟨r.toArray⟩)) J :=
  ⟨_, fun w => run_sadd hb w, hk⟩
end

/-! ### Rows that are only read: what a conversion makes -/

/-- A row that may be marked. -/
def rowM {α : Type} (C : Cd α) (s : Sl) (l : List α) : HA := fun h => ∃ g cap cur fr, s = ⟨some ⟨g, 0, none⟩, cap⟩ ∧ h g = some (.cells cur C.e fr) ∧ l.length ≤ cap ∧ cur.toList.take (l.length * C.size) = C.flat l

section
variable [Pan] {P : Program} {E w : World} {K : Value → World → Prop} {J : Value → Prop} {L M : List HA} {v : Value} {t ty d : TypeId} {l r : List UInt8} {α : Type} {C : Cd α} {s : Sl}

omit [Pan] in
theorem cell_of_cells {g j : Nat} {cur : Array Value} {e : TypeId} {fr : Nat × Nat} (h : w.heap[g]? = some (.cells cur e fr)) : w.cell? ⟨g, j, none⟩ = cur[j]? := by
  simp [World.cell?, h]
instance RdP.rowM {l : List α} : RdP C (rowM C s l) s l := ⟨fun w ⟨h1, ⟨g, cap, cur, fr, hs, hg, hc, ht⟩, hh⟩ => by
  subst hs
  refine ⟨C.flat_len l, some ⟨g, 0, none⟩, cap, rfl, hc, fun h => (by cases h), fun a ha j u hu => ?_⟩
  cases ha
  rw [← ht, List.getElem?_take] at hu
  split at hu
  · rw [Addr.add_lit, Nat.zero_add, cell_of_cells (hh _ _ hg)]
    simpa using hu
  · cases hu⟩

omit [Pan] in
/-- Conversions of a string to bytes. -/
class StrB (P : Program) (d t : TypeId) (B : outParam (Cd UInt8)) : Prop where
  ss : P.underlying d = some .string
  tt : P.underlying t = some (.slice B.e)
  ee : P.underlying B.e = some (.int .u8)
  size : B.size = 1
  enc : ∀ b, B.enc b = [bv b]
theorem pN_tobs {B : Cd UInt8} (hS : Sat E w L) [h : StrB P d t B] (hl : l.length ≤ maxLen) (hk : ∀ s w', Sat E w' (rowM B s l :: L) → K (.slice s.a l.length s.c) w') : pN P (oConv d t (.string ⟨l.toArray⟩)) w K := by
  have hr := run_bytes_of_string (P := P) w d t B.e ⟨l.toArray⟩ h.ss h.tt h.ee
  rw [size_str] at hr
  rw [pN_def, show (oConv d t (.string ⟨l.toArray⟩)).run P w = _ from run_oV_ok hr, rN_value]
  refine hk ⟨some ⟨w.heap.size, 0, none⟩, grownCap w l.length 0 B.e⟩ _ ?_
  have h1 := (hS.drew).alloc (.cells (bytesRow ⟨l.toArray⟩ (grownCap w l.length 0 B.e)) B.e ((bytesRow ⟨l.toArray⟩ (grownCap w l.length 0 B.e)).size, (bytesRow ⟨l.toArray⟩ (grownCap w l.length 0 B.e)).size + 1))
  refine h1.weaken fun hp hb => ⟨_, _, _, _, rfl, hb, grownCap_ge w l.length 0 B.e, ?_⟩
  rw [h.size, Nat.mul_one, B.flat_single bv h.enc]
  simp only [bytesRow, Array.toList_append, Array.toList_map]
  have e : (List.map (fun b => Value.int .u8 (b.toNat : Int)) l) = l.map bv := rfl
  rw [e, List.take_left' (by simp)]
end

/-! ### Append of zeros -/

section
variable [Pan] {P : Program} {E w : World} {K : Value → World → Prop} {L M : List HA} {v : Value} {t tn ty : TypeId} {α : Type} {C : Cd α} {s : Sl} {l : List α}

omit [Pan] in
theorem zeroCells_flat [hw : Row P t α C] (j : Nat) : (Builtin.zeroCells (Classical.choose hw.st).cells j).toList = C.flat (List.replicate j C.zero) := by
  have h := flat_made (P := P) (t := t) (C := C) j
  rw [← h]
  have hz := (Row.slt (P := P) (t := t) (C := C)).zsize
  simp only [Builtin.zeroCells, madeCells, hz]

omit [Pan] in
theorem run_appz {e : TypeId} {z : Value} {size bytes : Nat} (ht : SlT P t e z size bytes) {kn : IntKind} (hn : P.underlying tn = some (.int kn)) (v : Value) (n : Nat) (xs : List Value) (hown : w.ownsRow 0 e size v n xs) (m : Nat) (k : IntKind)
    (h1 : ∀ u ∈ (Builtin.zeroCells z.cells m).toList, u.oneCell' = true) (h63 : n + m ≤ maxLen) (hb : (n + m) * bytes ≤ 140737488355328) :
    ∃ v' w', (Builtin.append_ #[t, tn] ty #[v, .int k (m : Int)]).run P w = .ok v' w' ∧ w'.ownsRow 0 e size v' (n + m) (xs ++ (Builtin.zeroCells z.cells m).toList) ∧ w.grownBy w' v.ownBlock ∧ (v'.ownBlock = v.ownBlock ∨ v'.ownBlock = some w.heap.size) := by
  obtain ⟨i, hi, hz, hs, hby⟩ := ht.info
  have hzs := ht.zsize
  have hpos := ht.pos
  subst hs hby
  have hsmall : n + m ≤ 9223372036854775807 := by simp only [maxLen] at h63; omega
  have hzl : (Builtin.zeroCells z.cells m).toList.length = m * i.size := by rw [Array.length_toList, size_zeroCells, hzs]
  have hlen : (xs ++ (Builtin.zeroCells z.cells m).toList).length = (n + m) * i.size := by rw [List.length_append, hown.1, hzl, Nat.add_mul]
  have hmb : m * i.bytes ≤ 281474976710656 := by
    have : m * i.bytes ≤ (n + m) * i.bytes := Nat.mul_le_mul_right _ (by omega)
    omega
  have grown : ∀ (old : Nat), old < n + m → ∀ (row : Option Nat),
      (w.drew.alloc (.cells (xs.toArray ++ Builtin.zeroCells z.cells m ++ Builtin.zeroCells z.cells (grownCap w (n + m) old e - (n + m))) e)).ownsRow 0 e i.size
        (.slice (some ⟨w.heap.size, 0, none⟩) (n + m) (grownCap w (n + m) old e)) (n + m) (xs ++ (Builtin.zeroCells z.cells m).toList) ∧
      w.grownBy (w.drew.alloc (.cells (xs.toArray ++ Builtin.zeroCells z.cells m ++ Builtin.zeroCells z.cells (grownCap w (n + m) old e - (n + m))) e)) row := by
    intro old ho row
    have hge := grownCap_ge w (n + m) old e
    have hcm : grownCap w (n + m) old e ≤ maxLen := grownCap_le_maxLen w (n + m) old e h63
    refine ⟨⟨hlen, .inr ⟨w.heap.size, _, _, rfl, Nat.zero_le _, heap_alloc_new w.drew _, hge, hcm, ?_, ?_⟩⟩, ⟨rfl, rfl, rfl, by simp, fun k hk _ => heap_alloc_old w.drew _ hk⟩⟩
    · simp only [Array.size_append, List.size_toArray, size_zeroCells, hzs, hown.1, ← Nat.add_mul]
      congr 1
      omega
    · simp only [Array.toList_append, List.append_assoc]
      rw [← List.append_assoc, ← hlen]
      exact List.take_left
  have hw : IntKind.i64.wrap (m : Int) = m := by rw [IntKind.wrap_i64]; omega
  have hneg : ¬ ((m : Int) < 0) := by omega
  have h48i : ¬ (281474976710656 < (m : Int) * (i.bytes : Int)) := by
    rw [← Int.natCast_mul]
    omega
  rcases hown.2 with ⟨rfl, rfl⟩ | ⟨g, cap, cur, rfl, hbg, hg, hnc, hcm, hcs, htake⟩
  · have hx : xs = [] := List.eq_nil_of_length_eq_zero (by simpa using hown.1)
    subst hx
    by_cases hm : m = 0
    · subst hm
      refine ⟨.slice none 0 0, w, ?_, ?_, ⟨rfl, rfl, rfl, Nat.le_refl _, fun _ _ _ => rfl⟩, Or.inl rfl⟩
      · have hw0 : IntKind.i64.wrap 0 = 0 := by decide
        simp [Builtin.append_, run_underlying ht.under, run_underlying hn, sizeOf, typeInfo, hi, asInt, asIntOf, hw0]
      · have := World.ownsRow_nil w 0 e i.size
        have e0 : (Builtin.zeroCells z.cells 0).toList = [] := List.length_eq_zero_iff.1 (by rw [hzl, Nat.zero_mul])
        rw [e0]
        exact this
    · have hr := Lib.run_append_nil_zeros (P := P) (ty := ty) w t tn e i z k kn ht.under hn hi hz m (by omega) hpos (by omega) hmb
      have hgr := grown 0 (by omega) (Value.ownBlock (.slice none 0 0))
      simp only [Nat.zero_add, List.nil_append, Array.empty_append] at hgr ⊢
      exact ⟨_, _, hr, hgr.1, hgr.2, Or.inr rfl⟩
  · by_cases hroom : n + m ≤ cap
    · have hfit : n * i.size + (Builtin.zeroCells z.cells m).toList.length ≤ cur.size := by rw [hzl, hcs, ← Nat.add_mul]; exact Nat.mul_le_mul_right _ hroom
      have hst := run_storeCells_at P g (n * i.size) e (Builtin.zeroCells z.cells m).toList 0 cur w hg (by simpa using hfit) h1
      simp only [Nat.add_zero] at hst
      have hr : (Builtin.append_ #[t, tn] ty #[.slice (some ⟨g, 0, none⟩) n cap, .int k (m : Int)]).run P w =
          .ok (.slice (some ⟨g, 0, none⟩) (n + m) cap) (w.setRow g (cur.toList.take (n * i.size) ++ (Builtin.zeroCells z.cells m).toList ++ cur.toList.drop (n * i.size + (Builtin.zeroCells z.cells m).toList.length)).toArray) := by
        by_cases hm : m * i.size = 0
        · have e0 : (Builtin.zeroCells z.cells m).toList = [] := List.length_eq_zero_iff.1 (by rw [hzl, hm])
          rw [e0] at hst ⊢
          simp [Builtin.append_, run_underlying ht.under, run_underlying hn, sizeOf, typeInfo, hi, asInt, asIntOf, hw, hneg, h48i, hm, hroom, Addr.add_lit]
          simp at hst
          simp [hst]
        · simp [Builtin.append_, run_underlying ht.under, run_underlying hn, sizeOf, typeInfo, zeroValue, hi, hz, asInt, asIntOf, hw, hneg, h48i, hm, hroom, Addr.add_lit]
          simp at hst
          simp [hst]
      refine ⟨_, _, hr, ⟨hlen, .inr ⟨g, cap, _, rfl, hbg, setRow_heap w g cur _ e _ hg, hroom, hcm, ?_, ?_⟩⟩, ⟨rfl, rfl, rfl, by simp, fun k _ hk => setRow_other w g k _ (fun e => hk (by simp [Value.ownBlock, e]))⟩, Or.inl rfl⟩
      · simp only [List.size_toArray, List.length_append, List.length_take, List.length_drop, Array.length_toList]
        rw [Array.length_toList] at hfit
        omega
      · rw [htake, ← hlen]
        exact List.take_left
    · have hm : 0 < m := by omega
      have holds : ∀ j u, xs[j]? = some u → w.cell? ((⟨g, 0, none⟩ : Addr).add j) = some u := hown.cells (g := g) rfl
      have hf := run_firstCells_some (P := P) w.drew i.size n ⟨g, 0, none⟩ n cap xs hown.1 holds
      have hr := Lib.run_append_grow_zeros (P := P) (ty := ty) w t tn e i z k kn ht.under hn hi hz (some ⟨g, 0, none⟩) n cap xs hf m hm hpos (by omega) (by omega) hmb (growslice_fits (by omega) hb)
      have hgr := grown cap (by omega) (Value.ownBlock (.slice (some ⟨g, 0, none⟩) n cap))
      exact ⟨_, _, hr, hgr.1, hgr.2, Or.inr rfl⟩

omit [Pan] in
/-- Integer types. -/
class IntY (P : Program) (t : TypeId) (k : outParam IntKind) : Prop where
  un : P.underlying t = some (.int k)
theorem pN_appz {kn k : IntKind} {n : Nat} {i : Int} {cs : List Bool} (hS : Sat E w L) [hw : Row P t α C] [hi : IntY P tn kn] [hf : Fnd (rows C s) L l M] {z : Nat} [hz : Bt C z] (m : Nat) (hj : i = (m : Int)) (hn : n = l.length) (hb : (l.length + m) * z ≤ 140737488355328)
    (hk : ∀ s' w', Sat E w' (rows C s' (l ++ List.replicate m C.zero) :: M) → K (.slice s'.a (l ++ List.replicate m C.zero).length s'.c) w') : pN P (oBi .append #[t, tn] ty cs [.slice s.a n s.c, .int k i]) w K := by
  subst hn hj
  rw [← hz.eq] at hb
  have h0 := hS.fd (rows C s)
  have hzc := zeroCells_flat (P := P) (t := t) (C := C) m
  obtain ⟨v', w', hr, ho, hg, hbk⟩ := run_appz (P := P) (ty := ty) (Row.slt (P := P) (t := t) (C := C)) hi.un (.slice s.a l.length s.c) l.length (C.flat l) (h0.own_at 0 rfl) m k (by rw [hzc]; exact C.flat_one _)
    (by have := room63 hw.bpos hb; unfold maxLen; omega) hb
  rw [hzc, ← C.flat_append] at ho
  have h2 := h0.grown hg ho hbk
  obtain ⟨s', rfl⟩ := own_sl h2
  rw [pN_def, show (oBi .append #[t, tn] ty cs [.slice s.a l.length s.c, .int k (m : Int)]).run P w = _ from run_oV_ok hr, rN_value]
  have e : l.length + m = (l ++ List.replicate m C.zero).length := by simp
  rw [e] at h2 ⊢
  exact hk s' w' h2
end

/-! ### Copy into a part of a row -/

section
variable [Pan] {P : Program} {E w : World} {K : Value → World → Prop} {L M : List HA} {v : Value} {t tt ty : TypeId} {α : Type} {C : Cd α} {s s2 : Sl} {l r : List α}

omit [Pan] in
theorem El.sub {o j : Nat} {a : Addr} (h : El C (s.sub o C.size) j a) (hc : o < s.c) : El C s (o + j) a := by
  obtain ⟨b, hb, rfl⟩ := h
  have hne : ¬ s.c = o := by omega
  simp only [Sl.sub, if_neg hne] at hb
  cases hs : s.a with
  | none => rw [hs] at hb; cases hb
  | some b0 =>
    rw [hs] at hb
    simp only [Option.map_some, Option.some.injEq] at hb
    subst hb
    exact ⟨b0, hs, by rw [Addr.add_add, Nat.add_mul]⟩

/-- Elements put over others. -/
def putL {α : Type} (l : List α) (o : Nat) (us : List α) : List α := l.take o ++ us ++ l.drop (o + us.length)
omit [Pan] in
theorem putL_len (l : List α) (o : Nat) (us : List α) (h : o + us.length ≤ l.length) : (putL l o us).length = l.length := by simp [putL]; omega

theorem pN_cp_gen {bytes : Nat} {z : Value} {e : TypeId} {size g n cap o dn dc m : Nat} {xs us : List Value} {src : Value} {sT : TypeId} {cs : List Bool} (ht : SlT P t e z size bytes) (hS : Sat E w (own e size (.slice (some ⟨g, 0, none⟩) n cap) n xs :: L))
    (hm : (Builtin.lenOf src).run P w = .ok m w) (hc : (Builtin.firstCells size (Nat.min m dn) src).run P w = .ok us.toArray w) (hus : us.length = Nat.min m dn * size) (h1 : ∀ u ∈ us, u.oneCell' = true) (hfit : o * size + us.length ≤ xs.length)
    (hk : ∀ w', Sat E w' (own e size (.slice (some ⟨g, 0, none⟩) n cap) n (xs.take (o * size) ++ us ++ xs.drop (o * size + us.length)) :: L) → K (.int .i64 (Nat.min m dn : Nat)) w') :
    pN P (oBi .copy #[t, sT] ty cs [.slice (some ⟨g, o * size, none⟩) dn dc, src]) w K := by
  obtain ⟨i, hi, hz, hs, hby⟩ := ht.info
  obtain ⟨cur, ⟨hl, hnc, hcm, hsz, htk⟩, hS1⟩ := hS.own_blk
  have hxl : xs.length ≤ cur.size := by
    rw [hl, hsz]; exact Nat.mul_le_mul_right _ hnc
  have hst := run_storeCells_at P g (o * size) e us 0 cur w (hS1.blk_at 0 rfl) (by omega) h1
  rw [Nat.add_zero] at hst
  have hr : (Builtin.copy_ #[t, sT] ty #[.slice (some ⟨g, o * size, none⟩) dn dc, src]).run P w = .ok (.int .i64 (Nat.min m dn : Nat)) (w.setRow g (cur.toList.take (o * size) ++ us ++ cur.toList.drop (o * size + us.length)).toArray) := by
    have hsz' : (Go.sizeOf e).run P w = .ok size w := by simp [Go.sizeOf, typeInfo, hi, hs]
    simp only [Builtin.copy_, List.getElem?_toArray, List.getElem?_cons_zero, List.getElem?_cons_succ, Sem.run_bind, run_underlying ht.under, Result.andThen_ok, hm, hsz', hc, hst]
    rfl
  have hr2 : (oBi .copy #[t, sT] ty cs [.slice (some ⟨g, o * size, none⟩) dn dc, src]).run P w = .ok (.value (.int .i64 (Nat.min m dn : Nat))) (w.setRow g (cur.toList.take (o * size) ++ us ++ cur.toList.drop (o * size + us.length)).toArray) := run_oV_ok hr
  rw [pN_def, hr2, rN_value]
  refine hk _ ((hS1.row _).weaken fun hp hb => ?_)
  have h3 := blk_own (n := n) (size := size) hnc hcm (cur := (cur.toList.take (o * size) ++ us ++ cur.toList.drop (o * size + us.length)).toArray) (by simp; omega) hb
  have e : ((cur.toList.take (o * size) ++ us ++ cur.toList.drop (o * size + us.length)).toArray).toList.take (n * size) = xs.take (o * size) ++ us ++ xs.drop (o * size + us.length) := by
    rw [← htk] at hfit ⊢
    have h5 : n * size ≤ cur.size := by rw [hsz]; exact Nat.mul_le_mul_right _ hnc
    simp only [List.length_take, Array.length_toList] at hfit
    simp only [List.take_append, List.take_take, List.drop_take, List.length_take, List.length_append, Array.length_toList]
    have a1 : min (n * size) (o * size) = o * size := by omega
    have a2 : min (o * size) (n * size) = o * size := by omega
    have a3 : min (o * size) cur.size = o * size := by omega
    rw [a1, a2, a3, List.take_of_length_le (l := us) (by omega)]
  rw [e] at h3
  exact h3

omit [Pan] in
theorem sub_addr {o g : Nat} (hg : s.a = some ⟨g, 0, none⟩) (hc : o < s.c) (size : Nat) : (s.sub o size).a = some ⟨g, o * size, none⟩ := by
  simp only [Sl.sub, if_neg (show ¬ s.c = o by omega), hg, Option.map_some, Addr.add_lit, Nat.zero_add]
omit [Pan] in
theorem rows_at {l : List α} (hS : Sat E w L) [hf : Fnd (rows C s) L l M] (h : 0 < l.length) : ∃ g, s.a = some ⟨g, 0, none⟩ ∧ l.length ≤ s.c := by
  obtain ⟨_, ⟨h1, h2⟩ | ⟨g, cap, cur, h1, _, _, h3, _⟩⟩ := (hS.fd (rows C s)).own_at 0 rfl
  · omega
  · simp only [Value.slice.injEq, true_and] at h1
    exact ⟨g, h1.1, by rw [h1.2]; exact h3⟩

/-- copy of elements that can be read into a part of a row of its own. -/
theorem pN_cp {cs : List Bool} {dn n2 dc : Nat} (hS : Sat E w L) [hw : Row P t α C] [hf : Fnd (rows C s) L l M] [hr : Rds C L s2 r] (o : Nat) (hn : o + dn ≤ l.length) (h0 : 0 < dn) (hn2 : n2 = r.length)
    (hk : ∀ w', Sat E w' (rows C s (putL l o (r.take dn)) :: M) → K (.int .i64 (min r.length dn : Nat)) w') : pN P (oBi .copy #[t, t] ty cs [.slice (s.sub o C.size).a dn dc, .slice s2.a n2 s2.c]) w K := by
  subst hn2
  have hS0 := hS.fd (rows C s)
  obtain ⟨g, hg, hc⟩ := rows_at (C := C) (s := s) hS (by omega)
  have hrd := hS.rds (C := C) (s := s2)
  rw [sub_addr hg (by omega)]
  have hsl := Row.slt (P := P) (t := t) (C := C)
  have hfl := C.flat_len l
  have hfr := C.flat_len (r.take dn)
  unfold rows at hS0
  rw [hg] at hS0
  have hmin : r.length.min dn = (r.take dn).length := by simp [Nat.min_comm] <;> rfl
  refine pN_cp_gen (m := r.length) (us := C.flat (r.take dn)) hsl hS0 (by simp [Builtin.lenOf]) ?_ (by rw [hfr, hmin]) (C.flat_one _) ?_ fun w' h3 => ?_
  · obtain ⟨hl2, ao, cap, hv, hcap, hnil, hcell⟩ := hrd
    simp only [Value.slice.injEq, true_and] at hv
    obtain ⟨hv1, hv2⟩ := hv
    rw [hv1]
    cases ao with
    | none =>
      have : r = [] := List.length_eq_zero_iff.1 (hnil rfl).1
      subst this
      simp [Builtin.firstCells, Cd.flat]
    | some a =>
      have := run_loadCells_list (P := P) w a (C.flat (r.take dn)) (fun j u hu => hcell a rfl j u (by
        rw [← C.flat_take, List.getElem?_take] at hu
        split at hu
        · exact hu
        · cases hu))
      rw [hfr, ← hmin] at this
      simpa [Builtin.firstCells] using this
  · rw [hfr, hfl, ← Nat.add_mul]
    exact Nat.mul_le_mul_right _ (by simp; omega)
  · have e : (C.flat l).take (o * C.size) ++ C.flat (r.take dn) ++ (C.flat l).drop (o * C.size + (C.flat (r.take dn)).length) = C.flat (putL l o (r.take dn)) := by
      rw [hfr, ← Nat.add_mul, C.flat_take, C.flat_drop, putL, C.flat_append, C.flat_append]
    rw [e] at h3
    have hlen := putL_len l o (r.take dn) (by simp; omega)
    have h4 := hk w' (by unfold rows; rw [hg, hlen]; exact h3)
    exact h4

/-- copy of a string's bytes into a part of a row of its own. -/
theorem pN_cps {l r : List UInt8} {C : Cd UInt8} {cs : List Bool} {dn dc : Nat} {st : TypeId} (hS : Sat E w L) [hw : Row P t UInt8 C] [hf : Fnd (rows C s) L l M] (hb : ∀ b, C.enc b = [bv b]) (o : Nat) (hn : o + dn ≤ l.length) (h0 : 0 < dn)
    (hk : ∀ w', Sat E w' (rows C s (putL l o (r.take dn)) :: M) → K (.int .i64 (min r.length dn : Nat)) w') : pN P (oBi .copy #[t, st] ty cs [.slice (s.sub o C.size).a dn dc, .string ⟨r.toArray⟩]) w K := by
  have hS0 := hS.fd (rows C s)
  obtain ⟨g, hg, hc⟩ := rows_at (C := C) (s := s) hS (by omega)
  rw [sub_addr hg (by omega)]
  have hsl := Row.slt (P := P) (t := t) (C := C)
  have hz : C.size = 1 := by rw [← C.len 0, hb]; rfl
  have hfl := C.flat_len l
  have hfr := C.flat_len (r.take dn)
  unfold rows at hS0
  rw [hg] at hS0
  have hmin : r.length.min dn = (r.take dn).length := by simp [Nat.min_comm] <;> rfl
  refine pN_cp_gen (m := r.length) (us := C.flat (r.take dn)) hsl hS0 (by simp [Builtin.lenOf, size_str]) ?_ (by rw [hfr, hmin]) (C.flat_one _) ?_ fun w' h3 => ?_
  · rw [C.flat_single bv hb, hmin]
    simp only [Builtin.firstCells, Sem.run_pure, extract_str, List.drop_zero, Nat.sub_zero]
    congr 2
    have : (r.take (r.take dn).length) = r.take dn := by rw [List.length_take, List.take_eq_take_iff]; omega
    rw [this]
    simp [bv]
    rfl
  · rw [hfr, hfl, ← Nat.add_mul]
    exact Nat.mul_le_mul_right _ (by simp; omega)
  · have e : (C.flat l).take (o * C.size) ++ C.flat (r.take dn) ++ (C.flat l).drop (o * C.size + (C.flat (r.take dn)).length) = C.flat (putL l o (r.take dn)) := by
      rw [hfr, ← Nat.add_mul, C.flat_take, C.flat_drop, putL, C.flat_append, C.flat_append]
    rw [e] at h3
    have hlen := putL_len l o (r.take dn) (by simp; omega)
    exact hk w' (by unfold rows; rw [hg, hlen]; exact h3)
end

/-! ### Parts of slices, their places told -/

section
variable [Pan] {P : Program} {E w : World} {K : Value → World → Prop} {J : Value → Prop} {L M : List HA} {t : TypeId} {α : Type} {C : Cd α} {s : Sl} {l : List α} {n : Nat} {k1 k2 : IntKind} {i1 i2 : Int}

theorem pN_sl2w (hS : Sat E w L) [Row P t α C] [h : Rds C L s l] (lo hi : Nat) (h1 : i1 = (lo : Int)) (h2 : i2 = (hi : Int)) (hn : n = l.length) (hlo : lo ≤ hi) (hhi : hi ≤ l.length)
    (hk : Rds C L (s.sub lo C.size) ((l.drop lo).take (hi - lo)) → K (.slice (s.sub lo C.size).a (hi - lo) (s.sub lo C.size).c) w) : pN P (oSl t (.slice s.a n s.c) (some (.int k1 i1)) (some (.int k2 i2)) none) w K := by
  subst h1 h2 hn
  refine pN_sl (Row.slt (C := C)) (hS.rds (C := C) (s := s)) (by omega) (by omega) (by omega) ?_
  rw [Int.toNat_natCast, Int.toNat_natCast, subV_sl]
  exact hk (Rds.sub lo hi hlo hhi)
theorem pN_sl1w (hS : Sat E w L) [Row P t α C] [h : Rds C L s l] (lo : Nat) (h1 : i1 = (lo : Int)) (hn : n = l.length) (hlo : lo ≤ l.length)
    (hk : Rds C L (s.sub lo C.size) (l.drop lo) → K (.slice (s.sub lo C.size).a (l.length - lo) (s.sub lo C.size).c) w) : pN P (oSl t (.slice s.a n s.c) (some (.int k1 i1)) none none) w K := by
  subst h1 hn
  refine pN_sl_l (Row.slt (C := C)) (hS.rds (C := C) (s := s)) (by omega) (by omega) ?_
  rw [Int.toNat_natCast, subV_sl]
  refine hk ?_
  have := Rds.sub (C := C) (L := L) (s := s) (l := l) lo l.length hlo (Nat.le_refl _)
  rwa [List.take_of_length_le (by simp)] at this
theorem pN_slhw (hS : Sat E w L) [Row P t α C] [h : Rds C L s l] (hi : Nat) (h2 : i2 = (hi : Int)) (hn : n = l.length) (hhi : hi ≤ l.length)
    (hk : Rds C L (s.sub 0 C.size) (l.take hi) → K (.slice (s.sub 0 C.size).a hi (s.sub 0 C.size).c) w) : pN P (oSl t (.slice s.a n s.c) none (some (.int k2 i2)) none) w K := by
  subst h2 hn
  refine pN_sl_h (Row.slt (C := C)) (hS.rds (C := C) (s := s)) (by omega) (by omega) ?_
  rw [Int.toNat_natCast, subV_sl]
  refine hk ?_
  have := Rds.sub (C := C) (L := L) (s := s) (l := l) 0 hi (Nat.zero_le _) hhi
  rwa [List.drop_zero, Nat.sub_zero] at this
theorem pA_sl2w (hS : Sat E w L) [Row P t α C] [h : Rds C L s l] (lo hi : Nat) (h1 : i1 = (lo : Int)) (h2 : i2 = (hi : Int)) (hn : n = l.length) (hlo : lo ≤ hi) (hhi : hi ≤ l.length)
    (hk : Rds C L (s.sub lo C.size) ((l.drop lo).take (hi - lo)) → J (.slice (s.sub lo C.size).a (hi - lo) (s.sub lo C.size).c)) : pA P (oSl t (.slice s.a n s.c) (some (.int k1 i1)) (some (.int k2 i2)) none) J := by
  subst h1 h2 hn
  refine pA_sl (Row.slt (C := C)) (hS.rds (C := C) (s := s)) (by omega) (by omega) (by omega) ?_
  rw [Int.toNat_natCast, Int.toNat_natCast, subV_sl]
  exact hk (Rds.sub lo hi hlo hhi)
theorem pA_sl1w (hS : Sat E w L) [Row P t α C] [h : Rds C L s l] (lo : Nat) (h1 : i1 = (lo : Int)) (hn : n = l.length) (hlo : lo ≤ l.length)
    (hk : Rds C L (s.sub lo C.size) (l.drop lo) → J (.slice (s.sub lo C.size).a (l.length - lo) (s.sub lo C.size).c)) : pA P (oSl t (.slice s.a n s.c) (some (.int k1 i1)) none none) J := by
  subst h1 hn
  refine pA_sl_l (Row.slt (C := C)) (hS.rds (C := C) (s := s)) (by omega) (by omega) ?_
  rw [Int.toNat_natCast, subV_sl]
  refine hk ?_
  have := Rds.sub (C := C) (L := L) (s := s) (l := l) lo l.length hlo (Nat.le_refl _)
  rwa [List.take_of_length_le (by simp)] at this
theorem pA_slhw (hS : Sat E w L) [Row P t α C] [h : Rds C L s l] (hi : Nat) (h2 : i2 = (hi : Int)) (hn : n = l.length) (hhi : hi ≤ l.length)
    (hk : Rds C L (s.sub 0 C.size) (l.take hi) → J (.slice (s.sub 0 C.size).a hi (s.sub 0 C.size).c)) : pA P (oSl t (.slice s.a n s.c) none (some (.int k2 i2)) none) J := by
  subst h2 hn
  refine pA_sl_h (Row.slt (C := C)) (hS.rds (C := C) (s := s)) (by omega) (by omega) ?_
  rw [Int.toNat_natCast, subV_sl]
  refine hk ?_
  have := Rds.sub (C := C) (L := L) (s := s) (l := l) 0 hi (Nat.zero_le _) hhi
  rwa [List.drop_zero, Nat.sub_zero] at this
end

/-! ### Slices and functions against nil -/

section
variable [Pan] {P : Program} {E w : World} {K : Value → World → Prop} {J : Value → Prop} {L M : List HA} {t : TypeId} {α : Type} {C : Cd α} {xo yo : Operand} {n c m d : Nat} {p : Option Addr}

omit [Pan] in
theorem run_eql_slc {e : TypeId} (h : P.underlying t = some (.slice e)) (w : World) : (oBin .eql t xo yo (.slice p n c) (.slice none m d)).run P w = .ok (.value (.bool p.isNone)) w := by
  cases p <;> exact run_eql_of t xo yo rfl rfl fun d => by
    simp only [Op.equalIn, Sem.run_bind, run_underlying h, Result.andThen_ok]
    rfl
omit [Pan] in
theorem run_neq_slc {e : TypeId} (h : P.underlying t = some (.slice e)) (w : World) : (oBin .neq t xo yo (.slice p n c) (.slice none m d)).run P w = .ok (.value (.bool !p.isNone)) w := by
  cases p <;> exact run_neq_of t xo yo rfl rfl fun d => by
    simp only [Op.equalIn, Sem.run_bind, run_underlying h, Result.andThen_ok]
    rfl
theorem pN_eql_slc [hw : Row P t α C] (hk : K (.bool p.isNone) w) : pN P (oBin .eql t xo yo (.slice p n c) (.slice none m d)) w K := by
  rw [pN_def, run_eql_slc (Row.slt (P := P) (t := t) (C := C)).under, rN_value]; exact hk
theorem pN_neq_slc [hw : Row P t α C] (hk : K (.bool !p.isNone) w) : pN P (oBin .neq t xo yo (.slice p n c) (.slice none m d)) w K := by
  rw [pN_def, run_neq_slc (Row.slt (P := P) (t := t) (C := C)).under, rN_value]; exact hk

omit [Pan] in
/-- Function types. -/
class FnY (P : Program) (t : TypeId) : Prop where
  un : ∃ a b c, P.underlying t = some (.func a b c)
omit [Pan] in
theorem run_eql_fn [h : FnY P t] {f : Fn} {x y : Array Value} (w : World) : (oBin .eql t xo yo (.func f x y) .nilFunc).run P w = .ok (.value (.bool false)) w := by
  obtain ⟨a, b, c, h⟩ := h.un
  exact run_eql_of (r := false) t xo yo rfl rfl fun d => by
    simp only [Op.equalIn, Sem.run_bind, run_underlying h, Result.andThen_ok]
    rfl
omit [Pan] in
theorem run_eql_nilfn [h : FnY P t] (w : World) : (oBin .eql t xo yo .nilFunc .nilFunc).run P w = .ok (.value (.bool true)) w := by
  obtain ⟨a, b, c, h⟩ := h.un
  exact run_eql_of (r := true) t xo yo rfl rfl fun d => by
    simp only [Op.equalIn, Sem.run_bind, run_underlying h, Result.andThen_ok]
    rfl
omit [Pan] in
theorem run_neq_fn [h : FnY P t] {f : Fn} {x y : Array Value} (w : World) : (oBin .neq t xo yo (.func f x y) .nilFunc).run P w = .ok (.value (.bool true)) w := by
  obtain ⟨a, b, c, h⟩ := h.un
  exact run_neq_of (r := false) t xo yo rfl rfl fun d => by
    simp only [Op.equalIn, Sem.run_bind, run_underlying h, Result.andThen_ok]
    rfl
omit [Pan] in
theorem run_neq_nilfn [h : FnY P t] (w : World) : (oBin .neq t xo yo .nilFunc .nilFunc).run P w = .ok (.value (.bool false)) w := by
  obtain ⟨a, b, c, h⟩ := h.un
  exact run_neq_of (r := true) t xo yo rfl rfl fun d => by
    simp only [Op.equalIn, Sem.run_bind, run_underlying h, Result.andThen_ok]
    rfl
theorem pN_eql_fn [h : FnY P t] {f : Fn} {x y : Array Value} (hk : K (.bool false) w) : pN P (oBin .eql t xo yo (.func f x y) .nilFunc) w K := by
  rw [pN_def, run_eql_fn, rN_value]; exact hk
theorem pN_eql_nilfn [h : FnY P t] (hk : K (.bool true) w) : pN P (oBin .eql t xo yo .nilFunc .nilFunc) w K := by
  rw [pN_def, run_eql_nilfn, rN_value]; exact hk
theorem pN_neq_fn [h : FnY P t] {f : Fn} {x y : Array Value} (hk : K (.bool true) w) : pN P (oBin .neq t xo yo (.func f x y) .nilFunc) w K := by
  rw [pN_def, run_neq_fn, rN_value]; exact hk
theorem pN_neq_nilfn [h : FnY P t] (hk : K (.bool false) w) : pN P (oBin .neq t xo yo .nilFunc .nilFunc) w K := by
  rw [pN_def, run_neq_nilfn, rN_value]; exact hk
end

/-! ### Bytes that are marked: the conversion of a literal's bytes -/

section
variable [Pan] {P : Program} {E w : World} {K : Value → World → Prop} {L M : List HA} {t e : TypeId} {C : Cd UInt8} {s : Sl} {l : List UInt8}

omit [Pan] in
theorem freeze_heap (w : World) (b n : Nat) (cs : Array Value) (e : TypeId) (h : w.heap[b]? = some (.cells cs e (0, 0))) : (w.freeze ⟨b, n, none⟩ 1).heap[b]? = some (.cells cs e (n, n + 1)) := by
  simp [World.freeze, Array.getElem?_modify, h]
omit [Pan] in
theorem freeze_other (w : World) (b n k : Nat) (hk : k ≠ b) : (w.freeze ⟨b, n, none⟩ 1).heap[k]? = w.heap[k]? := by
  simp [World.freeze, Array.getElem?_modify, hk.symm]
omit [Pan] in
theorem Sat.frz {b : Nat} {cs : Array Value} (hs : Sat E w (blk b (.cells cs e (0, 0)) :: L)) (n : Nat) : Sat E (w.freeze ⟨b, n, none⟩ 1) (blk b (.cells cs e (n, n + 1)) :: L) := by
  have hb := hs.blk_at 0 rfl
  refine hs.turn (by simp [World.freeze]) (by simp [World.freeze]) (by simp [World.freeze]) fun h1 hA s => ?_
  refine ⟨fun k => if k = b then some (.cells cs e (n, n + 1)) else h1 k, by simp [blk], ?_, ?_⟩
  · intro k o ek
    by_cases hkb : k = b
    · subst hkb
      simp only [if_true] at ek
      rw [← ek]
      exact freeze_heap w k n cs e hb
    · simp only [if_neg hkb] at ek
      rw [freeze_other w b n k hkb]
      exact s k o ek
  · intro k o ek hn
    have hkb : k ≠ b := fun e => by subst e; rw [hA] at hn; cases hn
    rw [freeze_other w b n k hkb]
    refine ⟨ek, ?_⟩
    show (if k = b then some (Obj.cells cs e (n, n + 1)) else h1 k) = none
    rw [if_neg hkb]
    exact hn
theorem pN_mks (hS : Sat E w L) [hw : Row P t UInt8 C] [hf : Fnd (rows C s) L l M] (h0 : 0 < l.length) (he : P.underlying C.e = some (.int .u8)) (hz : C.size = 1)
    (hk : ∀ w', Sat E w' (rowM C s l :: M) → K (.slice s.a l.length s.c) w') : pN P (oConv t t (.slice s.a l.length s.c)) w K := by
  have hS0 := hS.fd (rows C s)
  obtain ⟨g, hg, hc⟩ := rows_at (C := C) (s := s) hS h0
  have hun := (Row.slt (P := P) (t := t) (C := C)).under
  unfold rows at hS0
  rw [hg] at hS0
  obtain ⟨cur, ⟨hl, hnc, hcm, hsz, htk⟩, hS1⟩ := hS0.own_blk
  have hb := hS1.blk_at 0 rfl
  have hsh : w.shape? g = some (C.e, cur.size) := by simp [World.shape?, hb]
  have hr : (convert t t (.slice (some ⟨g, 0, none⟩) l.length s.c)).run P w = .ok (.slice (some ⟨g, 0, none⟩) l.length s.c) (w.freeze ⟨g, cur.size, none⟩ 1) := by
    simp [convert, run_underlying hun, run_underlying he, markStringish, hsh]
  have hr2 : (oConv t t (.slice (some ⟨g, 0, none⟩) l.length s.c)).run P w = .ok (.value (.slice (some ⟨g, 0, none⟩) l.length s.c)) (w.freeze ⟨g, cur.size, none⟩ 1) := run_oV_ok hr
  rw [hg, pN_def, hr2, rN_value]
  rw [hg] at hk
  refine hk _ ((hS1.frz cur.size).weaken fun hp hb => ?_)
  refine ⟨g, s.c, cur, _, ?_, hb, hnc, htk⟩
  obtain ⟨sa, sc⟩ := s
  simp only at hg
  rw [hg]
end

end Go.Proofs.YteeepkimnpabiaaDoor

namespace Go.Proofs.YteeepkimnpabiaaDoor
open Go
set_option linter.unusedSimpArgs false
set_option linter.unnecessarySimpa false
set_option linter.unusedSectionVars false
set_option linter.unusedVariables false
namespace A

/-- The first slash at or behind a place. -/
def slash (l : List UInt8) (i : Nat) : Option Nat :=
  if h : i < l.length then (if l[i] = 47 then some i else slash l (i + 1)) else none
termination_by l.length - i

theorem slash_out {l : List UInt8} {i : Nat} (h : l.length ≤ i) : slash l i = none := by rw [slash, dif_neg (by omega)]
theorem slash_hit {l : List UInt8} {i : Nat} (h : l[i]? = some 47) : slash l i = some i := by
  obtain ⟨h1, h2⟩ := List.getElem?_eq_some_iff.1 h
  rw [slash, dif_pos h1, if_pos h2]
theorem slash_miss {l : List UInt8} {i : Nat} {b : UInt8} (h : l[i]? = some b) (hb : b ≠ 47) : slash l i = slash l (i + 1) := by
  obtain ⟨h1, h2⟩ := List.getElem?_eq_some_iff.1 h
  rw [slash, dif_pos h1, if_neg (by rw [h2]; exact hb)]
theorem slash_some {l : List UInt8} {i j : Nat} (h : slash l i = some j) : i ≤ j ∧ j < l.length ∧ l[j]? = some 47 := by
  by_cases hi : i < l.length
  · rw [slash, dif_pos hi] at h
    split at h
    · rename_i hb
      cases h
      exact ⟨Nat.le_refl _, hi, by rw [List.getElem?_eq_getElem hi, hb]⟩
    · have := slash_some h
      exact ⟨by omega, this.2⟩
  · rw [slash, dif_neg hi] at h
    cases h
termination_by l.length - i

/-- A name's prefix and rest; false: it can't be told. -/
def parted (l : List UInt8) : List UInt8 × List UInt8 × Bool :=
  if l = [] ∨ 0 ∈ l then ([], [], false)
  else if l.length ≤ 100 then ([], l, true)
  else match slash l (max 1 (l.length - 101)) with
    | some i => (l.take i, l.drop (i + 1), decide (i ≤ 155 ∧ i + 1 < l.length))
    | none => ([], [], false)

/-- What is wrong with an item. -/
def wrong (x : T_api_Item) : Int :=
  if x.Kind < 0 ∨ 3 ≤ x.Kind ∨ (x.Kind ≠ 2 ∧ x.Link.length ≠ 0) ∨ (x.Kind ≠ 0 ∧ 0 < x.Data.2.length) then 6
  else if (parted x.Name).2.2 = false ∨ (x.Kind = 2 ∧ (x.Link.length = 0 ∨ 100 < x.Link.length ∨ 0 ∈ x.Link)) then 8
  else if x.Mode < 0 ∨ 4096 ≤ x.Mode ∨ x.Time < 0 ∨ 8589934592 ≤ x.Time ∨ 8589934592 ≤ x.Data.2.length then 7
  else 0

/-- The last digits of a number, by eights. -/
def oct (v : Int) : Nat → List UInt8
  | 0 => []
  | n + 1 => (48 + byteOf (v / 8 ^ n % 8)) :: oct v n
theorem oct_len (v : Int) : ∀ n, (oct v n).length = n
  | 0 => rfl
  | n + 1 => by rw [oct, List.length_cons, oct_len]
/-- What it is filled with up to n. -/
def fill (s : List UInt8) (n : Nat) : List UInt8 := s ++ List.replicate (n - s.length) 0
def letter (k : Int) : UInt8 := if k = 0 then 48 else if k = 1 then 53 else 50
/-- The fields of a header: where each lies, how long it is, what is written into it. -/
def fAt : Nat → Nat
  | 0 => 0 | 1 => 100 | 2 => 108 | 3 => 116 | 4 => 124 | 5 => 136 | 6 => 156 | 7 => 157 | 8 => 257 | 9 => 329 | 10 => 337 | _ => 345
def fN : Nat → Nat
  | 0 => 100 | 1 => 8 | 2 => 8 | 3 => 8 | 4 => 12 | 5 => 12 | 6 => 1 | 7 => 100 | 8 => 8 | 9 => 8 | 10 => 8 | _ => 155
def fW (x : T_api_Item) (n : Int) : Nat → List UInt8
  | 0 => (parted x.Name).2.1
  | 1 => oct x.Mode 7
  | 2 => oct 0 7
  | 3 => oct 0 7
  | 4 => oct n 11
  | 5 => oct x.Time 11
  | 6 => [letter x.Kind]
  | 7 => x.Link
  | 8 => [117, 115, 116, 97, 114, 0, 48, 48]
  | 9 => oct 0 7
  | 10 => oct 0 7
  | _ => (parted x.Name).1
/-- The header with the first fields written. -/
def made (x : T_api_Item) (n : Int) : Nat → List UInt8
  | 0 => List.replicate 512 0
  | k + 1 => putL (made x n k) (fAt k) (fW x n k)
def front (x : T_api_Item) (n : Int) : List UInt8 :=
  fill (parted x.Name).2.1 100 ++ (oct x.Mode 7 ++ [0]) ++ (oct 0 7 ++ [0]) ++ (oct 0 7 ++ [0]) ++ (oct n 11 ++ [0]) ++ (oct x.Time 11 ++ [0])
def back (x : T_api_Item) : List UInt8 :=
  [letter x.Kind] ++ fill x.Link 100 ++ ([117, 115, 116, 97, 114, 0, 48, 48] ++ List.replicate 64 0) ++ (oct 0 7 ++ [0]) ++ (oct 0 7 ++ [0]) ++ fill (parted x.Name).1 155 ++ List.replicate 12 0
/-- What the field of the sum adds up: blanks stand for itself. -/
def sumTo (m : List UInt8) : Nat → Nat
  | 0 => 0
  | j + 1 => sumTo m j + (if 148 ≤ j ∧ j < 156 then 32 else (m.getD j 0).toNat)
theorem sumTo_bd (m : List UInt8) : ∀ j, sumTo m j ≤ 255 * j
  | 0 => Nat.le_refl _
  | j + 1 => by
    have := sumTo_bd m j
    have := (m.getD j 0).toNat_lt
    rw [sumTo]
    split <;> omega
def sumOf (l : List UInt8) : Nat := sumTo l 512
def sumField (l : List UInt8) : List UInt8 := oct (sumOf l) 6 ++ [0, 32]
def header (x : T_api_Item) (n : Int) : List UInt8 := front x n ++ sumField (made x n 12) ++ back x

/-- An item whose names fit. -/
structure Fits (x : T_api_Item) : Prop where
  rest : (parted x.Name).2.1.length ≤ 100
  pre : (parted x.Name).1.length ≤ 155
  link : x.Link.length ≤ 100

theorem front_len {x : T_api_Item} (h : Fits x) (n : Int) : (front x n).length = 148 := by
  have := h.rest
  simp [front, fill, oct_len]
  omega
theorem back_len {x : T_api_Item} (h : Fits x) : (back x).length = 356 := by
  have := h.pre
  have := h.link
  simp [back, fill, oct_len]
  omega

theorem putZ {p us : List UInt8} {m o : Nat} (h1 : p.length ≤ o) (h2 : o - p.length + us.length ≤ m) :
    putL (p ++ List.replicate m 0) o us = (p ++ List.replicate (o - p.length) 0 ++ us) ++ List.replicate (m - (o - p.length) - us.length) 0 := by
  simp only [putL, List.take_append, List.drop_append, List.take_replicate, List.drop_replicate]
  rw [List.take_of_length_le h1, List.drop_eq_nil_of_le (by omega), Nat.min_eq_left (by omega), List.nil_append]
  congr 2
  omega
/-- What is written up to a field, without the zeros behind. -/
def pre (x : T_api_Item) (n : Int) : Nat → List UInt8
  | 0 => []
  | k + 1 => pre x n k ++ List.replicate (fAt k - (pre x n k).length) 0 ++ fW x n k
theorem fW_len {x : T_api_Item} (h : Fits x) (n : Int) : ∀ k, k < 12 → (fW x n k).length ≤ fN k
  | 0, _ => h.rest
  | 1, _ => by simp [fW, fN, oct_len]
  | 2, _ => by simp [fW, fN, oct_len]
  | 3, _ => by simp [fW, fN, oct_len]
  | 4, _ => by simp [fW, fN, oct_len]
  | 5, _ => by simp [fW, fN, oct_len]
  | 6, _ => by simp [fW, fN]
  | 7, _ => h.link
  | 8, _ => by simp [fW, fN]
  | 9, _ => by simp [fW, fN, oct_len]
  | 10, _ => by simp [fW, fN, oct_len]
  | 11, _ => h.pre
  | k + 12, h => by omega
theorem fAt_next : ∀ k, k < 11 → fAt k + fN k ≤ fAt (k + 1)
  | 0, _ | 1, _ | 2, _ | 3, _ | 4, _ | 5, _ | 6, _ | 7, _ | 8, _ | 9, _ | 10, _ => by decide
  | k + 11, h => by omega
theorem fAt_end : ∀ k, k < 12 → fAt k + fN k ≤ 500
  | 0, _ | 1, _ | 2, _ | 3, _ | 4, _ | 5, _ | 6, _ | 7, _ | 8, _ | 9, _ | 10, _ | 11, _ => by decide
  | k + 12, h => by omega
theorem fN_pos : ∀ k, k < 12 → 0 < fN k
  | 0, _ | 1, _ | 2, _ | 3, _ | 4, _ | 5, _ | 6, _ | 7, _ | 8, _ | 9, _ | 10, _ | 11, _ => by decide
  | k + 12, h => by omega
theorem pre_ok {x : T_api_Item} (h : Fits x) (n : Int) : ∀ k, k < 12 → (pre x n k).length ≤ fAt k ∧ (pre x n (k + 1)).length = fAt k + (fW x n k).length
  | 0, _ => by simp [pre, fAt]
  | k + 1, hk => by
    obtain ⟨_, h2⟩ := pre_ok h n k (by omega)
    have h3 := fW_len h n k (by omega)
    have h4 := fAt_next k (by omega)
    have h5 : (pre x n (k + 1)).length ≤ fAt (k + 1) := by omega
    refine ⟨h5, ?_⟩
    rw [pre, List.length_append, List.length_append, List.length_replicate]
    omega
theorem made_pre {x : T_api_Item} (h : Fits x) (n : Int) : ∀ k, k ≤ 12 → made x n k = pre x n k ++ List.replicate (512 - (pre x n k).length) 0
  | 0, _ => rfl
  | k + 1, hk => by
    obtain ⟨h1, h2⟩ := pre_ok h n k (by omega)
    have h3 := fW_len h n k (by omega)
    have h4 := fAt_end k (by omega)
    rw [made, made_pre h n k (by omega), putZ h1 (by omega), pre]
    congr 2
    rw [List.length_append, List.length_append, List.length_replicate]
    omega
theorem made_len {x : T_api_Item} (h : Fits x) (n : Int) (k : Nat) (hk : k ≤ 12) : (made x n k).length = 512 := by
  rw [made_pre h n k hk, List.length_append, List.length_replicate]
  match k, hk with
  | 0, _ => simp [pre]
  | k + 1, hk =>
    have := (pre_ok h n k (by omega)).2
    have := fW_len h n k (by omega)
    have := fAt_end k (by omega)
    omega
theorem zsplit {a b c : Nat} (h : a = b + c) : List.replicate a (0 : UInt8) = List.replicate b 0 ++ List.replicate c 0 := by rw [List.replicate_append_replicate, h]
theorem made_12 {x : T_api_Item} (h : Fits x) (n : Int) : made x n 12 = front x n ++ List.replicate 8 0 ++ back x := by
  have hr := h.rest
  have hp := h.pre
  have hl := h.link
  have L := fun k hk => (pre_ok h n k hk).2
  rw [made_pre h n 12 (by omega), L 11 (by omega)]
  rw [pre, L 10 (by omega), pre, L 9 (by omega), pre, L 8 (by omega), pre, L 7 (by omega), pre, L 6 (by omega), pre, L 5 (by omega), pre, L 4 (by omega), pre, L 3 (by omega), pre, L 2 (by omega), pre, L 1 (by omega), pre, L 0 (by omega), pre, pre]
  simp only [fAt, fW, oct_len, List.length_cons, List.length_nil, front, back, fill]
  generalize (parted x.Name).2.1 = a at *
  generalize (parted x.Name).1 = b at *
  generalize x.Link = c at *
  have z1 : List.replicate (100 - (0 + a.length)) (0 : UInt8) = List.replicate (100 - a.length) 0 := by rw [Nat.zero_add]
  have z2 : List.replicate (257 - (157 + c.length)) (0 : UInt8) = List.replicate (100 - c.length) 0 := by rw [show 257 - (157 + c.length) = 100 - c.length from by omega]
  have z3 : List.replicate (512 - (345 + b.length)) (0 : UInt8) = List.replicate (155 - b.length) 0 ++ List.replicate 12 0 := zsplit (by omega)
  have z4 : List.replicate (156 - (136 + 11)) (0 : UInt8) = [0] ++ List.replicate 8 0 := rfl
  rw [z1, z2, z3, z4]
  simp only [List.append_assoc, List.nil_append]
  rfl
end A
end Go.Proofs.YteeepkimnpabiaaDoor

namespace Go.Proofs.YteeepkimnpabiaaDoor
open Go
set_option linter.unusedSimpArgs false
set_option linter.unnecessarySimpa false
set_option linter.unusedSectionVars false
set_option linter.unusedVariables false
set_option maxRecDepth 100000

/-! bytes_Equal: bytes.Equal; temporaries: 0:a 1:b 2:a 3:b -/
def bytes_Equal.H : Hints := { cut := fun  | _ => none, loop := fun  | _ => ([], 0), order := fun  | _ => [] }
def bytes_Equal.F [Pan] (x0 : Value) (x1 : Value) (w : World) (Q : Value → World → Prop) : Prop :=
 pN Tryd.prog (oConv 22 9 x0) w fun x6 w1 =>
 pN Tryd.prog (oConv 22 9 x1) w1 fun x8 w2 =>
 pN Tryd.prog (oBin .eql 9 (.tmp 6) (.tmp 8) x6 x8) w2 fun x9 w3 =>
 Q x9 w3
noncomputable def bytes_Equal.c : Code := match Tryd.f29.body with | some c => c | none => .skip
theorem bytes_Equal.eq [Pan] (x0 : Value) (x1 : Value) (w : World) (Q : Value → World → Prop) : cw Tryd.prog bytes_Equal.H bytes_Equal.c (endQ Tryd.prog Tryd.f29.results.toList Q) (argsE [x0, x1]) w = bytes_Equal.F x0 x1 w Q := by kernel_rfl
theorem bytes_Equal.calls [Pan] {x0 : Value} {x1 : Value} {w : World} {Q : Value → World → Prop} (h : bytes_Equal.F x0 x1 w Q) : Calls Tryd.prog 29 #[x0, x1] w (retP Q) :=
  calls_of_cw (H := bytes_Equal.H) (c := bytes_Equal.c) (args := [x0, x1]) mixed Tryd.func29 (by kernel_rfl) (by kernel_rfl) (Nat.le_of_ble_eq_true (by kernel_rfl)) ((bytes_Equal.eq x0 x1 w Q).mpr h)

/-! bytes_Clone: bytes.Clone; temporaries: 0:b 1:b -/
def bytes_Clone.H : Hints := { cut := fun  | _ => none, loop := fun  | _ => ([], 0), order := fun  | _ => [] }
def bytes_Clone.F [Pan] (x0 : Value) (w : World) (Q : Value → World → Prop) : Prop :=
 pN Tryd.prog (oBin .eql 22 (.tmp 3) (.const (.slice none 0 0)) x0 (.slice none 0 0)) w fun x4 w1 =>
 pIf x4
 (Q (.slice none 0 0) w1)
 (pN Tryd.prog (oBs 22 0 []) w1 fun x5 w2 =>
 pN Tryd.prog (oBi .append #[22, 22] 22 [false, false] [x5, x0]) w2 fun x7 w3 =>
 Q x7 w3)
noncomputable def bytes_Clone.c : Code := match Tryd.f41.body with | some c => c | none => .skip
theorem bytes_Clone.eq [Pan] (x0 : Value) (w : World) (Q : Value → World → Prop) : cw Tryd.prog bytes_Clone.H bytes_Clone.c (endQ Tryd.prog Tryd.f41.results.toList Q) (argsE [x0]) w = bytes_Clone.F x0 w Q := by kernel_rfl
theorem bytes_Clone.calls [Pan] {x0 : Value} {w : World} {Q : Value → World → Prop} (h : bytes_Clone.F x0 w Q) : Calls Tryd.prog 41 #[x0] w (retP Q) :=
  calls_of_cw (H := bytes_Clone.H) (c := bytes_Clone.c) (args := [x0]) mixed Tryd.func41 (by kernel_rfl) (by kernel_rfl) (Nat.le_of_ble_eq_true (by kernel_rfl)) ((bytes_Clone.eq x0 w Q).mpr h)

/-! bytes_TrimLeft: bytes.TrimLeft; temporaries: 0:s 1:cutset 2:s 3:cutset 5:as 6:ok -/
def bytes_TrimLeft.H : Hints := { cut := fun  | _ => none, loop := fun  | _ => ([], 0), order := fun  | _ => [] }
def bytes_TrimLeft.F [Pan] (x0 : Value) (x1 : Value) (w : World) (Q : Value → World → Prop) : Prop :=
 pN Tryd.prog (oBi .len #[22] 3 [false] [x0]) w fun x8 w1 =>
 pN Tryd.prog (oBin .eql 3 (.tmp 8) (.const (.int .i64 0)) x8 (.int .i64 0)) w1 fun x9 w2 =>
 pIf x9
 (Q (.slice none 0 0) w2)
 (pN Tryd.prog (oBin .eql 9 (.tmp 10) (.const (.string ⟨#[]⟩)) x1 (.string ⟨#[]⟩)) w2 fun x11 w3 =>
 pIf x11
 (Q x0 w3)
 (pN Tryd.prog (oBi .len #[9] 3 [false] [x1]) w3 fun x14 w4 =>
 pN Tryd.prog (oBin .eql 3 (.tmp 14) (.const (.int .i64 1)) x14 (.int .i64 1)) w4 fun x15 w5 =>
 pGd (gB x15 true) (pN Tryd.prog (oMv x1) w5) w5 fun x17 w6 =>
 pGd (gB x15 true) (pN Tryd.prog (oIndex 9 x17 (.int .i64 0)) w6) w6 fun x18 w7 =>
 pGd (gB x15 true) (pN Tryd.prog (oBin .lss 5 (.tmp 18) (.const (.int .u8 128)) x18 (bv 128)) w7) w7 fun x19 w8 =>
 pN Tryd.prog (oPick x15 x19 (.bool false)) w8 fun x20 w9 =>
 pIf x20
 (pN Tryd.prog (oIndex 9 x1 (.int .i64 0)) w9 fun x23 w10 =>
 pN Tryd.prog (oCall 72 [x0, x23]) w10 fun x24 w11 =>
 Q x24 w11)
 (pN Tryd.prog (oCall 73 [x1]) w9 fun x27 w12 =>
 pN Tryd.prog (oExt x27 0) w12 fun x28 w13 =>
 pN Tryd.prog (oExt x27 1) w13 fun x29 w14 =>
 pN Tryd.prog (oAlloc 100) w14 fun x5 w15 =>
 pN Tryd.prog (oStore 100 x5 x28) w15 fun _ w16 =>
 pIf x29
 (pN Tryd.prog (oCall 74 [x0, x5]) w16 fun x32 w17 =>
 Q x32 w17)
 (pN Tryd.prog (oCall 75 [x0, x1]) w16 fun x35 w18 =>
 Q x35 w18))))
noncomputable def bytes_TrimLeft.c : Code := match Tryd.f64.body with | some c => c | none => .skip
theorem bytes_TrimLeft.eq [Pan] (x0 : Value) (x1 : Value) (w : World) (Q : Value → World → Prop) : cw Tryd.prog bytes_TrimLeft.H bytes_TrimLeft.c (endQ Tryd.prog Tryd.f64.results.toList Q) (argsE [x0, x1]) w = bytes_TrimLeft.F x0 x1 w Q := by kernel_rfl
theorem bytes_TrimLeft.calls [Pan] {x0 : Value} {x1 : Value} {w : World} {Q : Value → World → Prop} (h : bytes_TrimLeft.F x0 x1 w Q) : Calls Tryd.prog 64 #[x0, x1] w (retP Q) :=
  calls_of_cw (H := bytes_TrimLeft.H) (c := bytes_TrimLeft.c) (args := [x0, x1]) mixed Tryd.func64 (by kernel_rfl) (by kernel_rfl) (Nat.le_of_ble_eq_true (by kernel_rfl)) ((bytes_TrimLeft.eq x0 x1 w Q).mpr h)

/-! bytes_Cut: bytes.Cut; temporaries: 0:s 1:sep 2:s 3:sep 4:before 5:after 6:found 7:i -/
def bytes_Cut.H : Hints := { cut := fun  | _ => none, loop := fun  | _ => ([], 0), order := fun | 3 => [(0, 0), (1, 1), (2, 3), (3, 7), (4, 15), (5, 31), (6, 63), (7, 127), (8, 255), (9, 511), (10, 1023), (11, 2047)] | _ => [] }
def bytes_Cut.F [Pan] (x0 : Value) (x1 : Value) (w : World) (Q : Value → World → Prop) : Prop :=
 pN Tryd.prog (oCall 77 [x0, x1]) w fun x10 w1 =>
 pN Tryd.prog (oBin .geq 3 (.tmp 11) (.const (.int .i64 0)) x10 (.int .i64 0)) w1 fun x12 w2 =>
 pIf x12
 (pDr w2 fun w3 =>
 pA Tryd.prog (oSl 22 x0 none (some x10) none) fun x15 =>
 pA Tryd.prog (oBi .len #[22] 3 [false] [x1]) fun x19 =>
 pA Tryd.prog (oBin .add 3 (.tmp 17) (.tmp 19) x10 x19) fun x20 =>
 pA Tryd.prog (oSl 22 x0 (some x20) none none) fun x21 =>
 Q (.tuple #[x15, x21, (.bool true)]) w3)
 (Q (.tuple #[x0, (.slice none 0 0), (.bool false)]) w2)
noncomputable def bytes_Cut.c : Code := match Tryd.f71.body with | some c => c | none => .skip
theorem bytes_Cut.eq [Pan] (x0 : Value) (x1 : Value) (w : World) (Q : Value → World → Prop) : cw Tryd.prog bytes_Cut.H bytes_Cut.c (endQ Tryd.prog Tryd.f71.results.toList Q) (argsE [x0, x1]) w = bytes_Cut.F x0 x1 w Q := by kernel_rfl
theorem bytes_Cut.calls [Pan] {x0 : Value} {x1 : Value} {w : World} {Q : Value → World → Prop} (h : bytes_Cut.F x0 x1 w Q) : Calls Tryd.prog 71 #[x0, x1] w (retP Q) :=
  calls_of_cw (H := bytes_Cut.H) (c := bytes_Cut.c) (args := [x0, x1]) mixed Tryd.func71 (by kernel_rfl) (by kernel_rfl) (Nat.le_of_ble_eq_true (by kernel_rfl)) ((bytes_Cut.eq x0 x1 w Q).mpr h)

/-! bytes_trimLeftByte: bytes.trimLeftByte; temporaries: 0:s 1:c 2:s 3:c -/
def bytes_trimLeftByte.H : Hints := { cut := fun  | _ => none, loop := fun | 1 => ([0], 131041) | _ => ([], 0), order := fun  | _ => [] }
def bytes_trimLeftByte.F [Pan] (x0 : Value) (x1 : Value) (w : World) (Q : Value → World → Prop) : Prop :=
 ∃ (L1 : Value → World → Prop) (m1 : Value → World → Nat),
 L1 x0 w ∧
 ∀ (_k1 : Env) (s0l1 : Value) (w1 : World), L1 s0l1 w1 →
 pN Tryd.prog (oBi .len #[22] 3 [false] [s0l1]) w1 fun x6 w2 =>
 pN Tryd.prog (oBin .gtr 3 (.tmp 6) (.const (.int .i64 0)) x6 (.int .i64 0)) w2 fun x7 w3 =>
 pGd (gB x7 true) (pN Tryd.prog (oMv s0l1) w3) w3 fun x9 w4 =>
 pGd (gB x7 true) (pN Tryd.prog (oIdx 22 x9 (.int .i64 0)) w4) w4 fun x10 w5 =>
 pGd (gB x7 true) (pN Tryd.prog (oLoad 5 x10) w5) w5 fun x11 w6 =>
 pGd (gB x7 true) (pN Tryd.prog (oMv x1) w6) w6 fun x12 w7 =>
 pGd (gB x7 true) (pN Tryd.prog (oBin .eql 5 (.tmp 11) (.tmp 12) x11 x12) w7) w7 fun x13 w8 =>
 pN Tryd.prog (oPick x7 x13 (.bool false)) w8 fun x14 w9 =>
 pIf x14
 (pN Tryd.prog (oSl 22 s0l1 (some (.int .i64 1)) none none) w9 fun x16 w10 =>
 (L1 x16 w10 ∧ m1 x16 w10 < m1 s0l1 w1))
 (pN Tryd.prog (oBi .len #[22] 3 [false] [s0l1]) w9 fun x18 w11 =>
 pN Tryd.prog (oBin .eql 3 (.tmp 18) (.const (.int .i64 0)) x18 (.int .i64 0)) w11 fun x19 w12 =>
 pIf x19
 (Q (.slice none 0 0) w12)
 (Q s0l1 w12))
noncomputable def bytes_trimLeftByte.c : Code := match Tryd.f72.body with | some c => c | none => .skip
theorem bytes_trimLeftByte.eq [Pan] (x0 : Value) (x1 : Value) (w : World) (Q : Value → World → Prop) : cw Tryd.prog bytes_trimLeftByte.H bytes_trimLeftByte.c (endQ Tryd.prog Tryd.f72.results.toList Q) (argsE [x0, x1]) w = bytes_trimLeftByte.F x0 x1 w Q := by kernel_rfl
theorem bytes_trimLeftByte.calls [Pan] {x0 : Value} {x1 : Value} {w : World} {Q : Value → World → Prop} (h : bytes_trimLeftByte.F x0 x1 w Q) : Calls Tryd.prog 72 #[x0, x1] w (retP Q) :=
  calls_of_cw (H := bytes_trimLeftByte.H) (c := bytes_trimLeftByte.c) (args := [x0, x1]) mixed Tryd.func72 (by kernel_rfl) (by kernel_rfl) (Nat.le_of_ble_eq_true (by kernel_rfl)) ((bytes_trimLeftByte.eq x0 x1 w Q).mpr h)

/-! bytes_makeASCIISet: bytes.makeASCIISet; temporaries: 0:chars 1:chars 2:as 3:ok 4:i 5:c -/
def bytes_makeASCIISet.H : Hints := { cut := fun  | _ => none, loop := fun | 2 => ([4], 1048568) | _ => ([], 0), order := fun  | _ => [] }
def bytes_makeASCIISet.F [Pan] (x0 : Value) (w : World) (Q : Value → World → Prop) : Prop :=
 pN Tryd.prog (oAlloc 100) w fun x2 w1 =>
 ∃ (L2 : Value → World → Prop) (m2 : Value → World → Nat),
 L2 (.int .i64 0) w1 ∧
 ∀ (_k2 : Env) (i4l2 : Value) (w2 : World), L2 i4l2 w2 →
 pN Tryd.prog (oBi .len #[9] 3 [false] [x0]) w2 fun x8 w3 =>
 pN Tryd.prog (oBin .lss 3 (.tmp 6) (.tmp 8) i4l2 x8) w3 fun x9 w4 =>
 pIf x9
 (pN Tryd.prog (oIndex 9 x0 i4l2) w4 fun x14 w5 =>
 pN Tryd.prog (oBin .geq 5 (.tmp 15) (.const (.int .u8 128)) x14 (bv 128)) w5 fun x16 w6 =>
 pIf x16
 (pN Tryd.prog (oLoad 100 x2) w6 fun x17 w7 =>
 pN Tryd.prog (oStore 100 x2 x17) w7 fun _ w8 =>
 pL Tryd.prog (oRes 100 x2) w8 fun r2 =>
 Q (.tuple #[r2, (.bool false)]) w8)
 (pN Tryd.prog (oIdx 100 x2 x14) w6 fun x19 w9 =>
 pN Tryd.prog (oStore 4 x19 (.bool true)) w9 fun _ w10 =>
 pN Tryd.prog (oBin .add 3 (.tmp 10) (.const (.int .i64 1)) i4l2 (.int .i64 1)) w10 fun x11 w11 =>
 (L2 x11 w11 ∧ m2 x11 w11 < m2 i4l2 w2)))
 (pN Tryd.prog (oLoad 100 x2) w4 fun x20 w12 =>
 pN Tryd.prog (oStore 100 x2 x20) w12 fun _ w13 =>
 pL Tryd.prog (oRes 100 x2) w13 fun r2 =>
 Q (.tuple #[r2, (.bool true)]) w13)
noncomputable def bytes_makeASCIISet.c : Code := match Tryd.f73.body with | some c => c | none => .skip
theorem bytes_makeASCIISet.eq [Pan] (x0 : Value) (w : World) (Q : Value → World → Prop) : cw Tryd.prog bytes_makeASCIISet.H bytes_makeASCIISet.c (endQ Tryd.prog Tryd.f73.results.toList Q) (argsE [x0]) w = bytes_makeASCIISet.F x0 w Q := by kernel_rfl
theorem bytes_makeASCIISet.calls [Pan] {x0 : Value} {w : World} {Q : Value → World → Prop} (h : bytes_makeASCIISet.F x0 w Q) : Calls Tryd.prog 73 #[x0] w (retP Q) :=
  calls_of_cw (H := bytes_makeASCIISet.H) (c := bytes_makeASCIISet.c) (args := [x0]) mixed Tryd.func73 (by kernel_rfl) (by kernel_rfl) (Nat.le_of_ble_eq_true (by kernel_rfl)) ((bytes_makeASCIISet.eq x0 w Q).mpr h)

/-! bytes_trimLeftASCII: bytes.trimLeftASCII; temporaries: 0:s 1:as 2:s 3:as -/
def bytes_trimLeftASCII.H : Hints := { cut := fun | 4 => some ([0], 65505) | _ => none, loop := fun | 1 => ([0], 65505) | _ => ([], 0), order := fun  | _ => [] }
def bytes_trimLeftASCII.F [Pan] (x0 : Value) (x1 : Value) (w : World) (Q : Value → World → Prop) : Prop :=
 ∃ I4 : Value → World → Prop,
 (∃ (L1 : Value → World → Prop) (m1 : Value → World → Nat),
 L1 x0 w ∧
 ∀ (_k1 : Env) (s0l1 : Value) (w1 : World), L1 s0l1 w1 →
 pN Tryd.prog (oBi .len #[22] 3 [false] [s0l1]) w1 fun x6 w2 =>
 pN Tryd.prog (oBin .gtr 3 (.tmp 6) (.const (.int .i64 0)) x6 (.int .i64 0)) w2 fun x7 w3 =>
 pIf x7
 (pN Tryd.prog (oIdx 22 s0l1 (.int .i64 0)) w3 fun x10 w4 =>
 pN Tryd.prog (oLoad 5 x10) w4 fun x11 w5 =>
 pN Tryd.prog (oCall 78 [x1, x11]) w5 fun x12 w6 =>
 pN Tryd.prog (oUn .not x12) w6 fun x13 w7 =>
 pIf x13
 (I4 s0l1 w7)
 (pN Tryd.prog (oSl 22 s0l1 (some (.int .i64 1)) none none) w7 fun x15 w8 =>
 (L1 x15 w8 ∧ m1 x15 w8 < m1 s0l1 w1)))
 (I4 s0l1 w3)) ∧
 ∀ (_j4 : Env) (s0c4 : Value) (w9 : World), I4 s0c4 w9 →
 pN Tryd.prog (oBi .len #[22] 3 [false] [s0c4]) w9 fun x17 w10 =>
 pN Tryd.prog (oBin .eql 3 (.tmp 17) (.const (.int .i64 0)) x17 (.int .i64 0)) w10 fun x18 w11 =>
 pIf x18
 (Q (.slice none 0 0) w11)
 (Q s0c4 w11)
noncomputable def bytes_trimLeftASCII.c : Code := match Tryd.f74.body with | some c => c | none => .skip
theorem bytes_trimLeftASCII.eq [Pan] (x0 : Value) (x1 : Value) (w : World) (Q : Value → World → Prop) : cw Tryd.prog bytes_trimLeftASCII.H bytes_trimLeftASCII.c (endQ Tryd.prog Tryd.f74.results.toList Q) (argsE [x0, x1]) w = bytes_trimLeftASCII.F x0 x1 w Q := by kernel_rfl
theorem bytes_trimLeftASCII.calls [Pan] {x0 : Value} {x1 : Value} {w : World} {Q : Value → World → Prop} (h : bytes_trimLeftASCII.F x0 x1 w Q) : Calls Tryd.prog 74 #[x0, x1] w (retP Q) :=
  calls_of_cw (H := bytes_trimLeftASCII.H) (c := bytes_trimLeftASCII.c) (args := [x0, x1]) mixed Tryd.func74 (by kernel_rfl) (by kernel_rfl) (Nat.le_of_ble_eq_true (by kernel_rfl)) ((bytes_trimLeftASCII.eq x0 x1 w Q).mpr h)

/-! bytes_trimLeftUnicode: bytes.trimLeftUnicode; temporaries: 0:s 1:cutset 2:s 3:cutset 5:r 6:n -/
def bytes_trimLeftUnicode.H : Hints := { cut := fun | 5 => some ([0], 4194273) | _ => none, loop := fun | 1 => ([0], 4194273) | _ => ([], 0), order := fun  | _ => [] }
def bytes_trimLeftUnicode.F [Pan] (x0 : Value) (x1 : Value) (w : World) (Q : Value → World → Prop) : Prop :=
 ∃ I5 : Value → World → Prop,
 (∃ (L1 : Value → World → Prop) (m1 : Value → World → Nat),
 L1 x0 w ∧
 ∀ (_k1 : Env) (s0l1 : Value) (w1 : World), L1 s0l1 w1 →
 pN Tryd.prog (oBi .len #[22] 3 [false] [s0l1]) w1 fun x8 w2 =>
 pN Tryd.prog (oBin .gtr 3 (.tmp 8) (.const (.int .i64 0)) x8 (.int .i64 0)) w2 fun x9 w3 =>
 pIf x9
 (pN Tryd.prog (oCall 79 [s0l1]) w3 fun x12 w4 =>
 pN Tryd.prog (oExt x12 0) w4 fun x13 w5 =>
 pN Tryd.prog (oExt x12 1) w5 fun x14 w6 =>
 pN Tryd.prog (oCall 80 [x1, x13]) w6 fun x17 w7 =>
 pN Tryd.prog (oUn .not x17) w7 fun x18 w8 =>
 pIf x18
 (I5 s0l1 w8)
 (pN Tryd.prog (oSl 22 s0l1 (some x14) none none) w8 fun x21 w9 =>
 (L1 x21 w9 ∧ m1 x21 w9 < m1 s0l1 w1)))
 (I5 s0l1 w3)) ∧
 ∀ (_j5 : Env) (s0c5 : Value) (w10 : World), I5 s0c5 w10 →
 pN Tryd.prog (oBi .len #[22] 3 [false] [s0c5]) w10 fun x23 w11 =>
 pN Tryd.prog (oBin .eql 3 (.tmp 23) (.const (.int .i64 0)) x23 (.int .i64 0)) w11 fun x24 w12 =>
 pIf x24
 (Q (.slice none 0 0) w12)
 (Q s0c5 w12)
noncomputable def bytes_trimLeftUnicode.c : Code := match Tryd.f75.body with | some c => c | none => .skip
theorem bytes_trimLeftUnicode.eq [Pan] (x0 : Value) (x1 : Value) (w : World) (Q : Value → World → Prop) : cw Tryd.prog bytes_trimLeftUnicode.H bytes_trimLeftUnicode.c (endQ Tryd.prog Tryd.f75.results.toList Q) (argsE [x0, x1]) w = bytes_trimLeftUnicode.F x0 x1 w Q := by kernel_rfl
theorem bytes_trimLeftUnicode.calls [Pan] {x0 : Value} {x1 : Value} {w : World} {Q : Value → World → Prop} (h : bytes_trimLeftUnicode.F x0 x1 w Q) : Calls Tryd.prog 75 #[x0, x1] w (retP Q) :=
  calls_of_cw (H := bytes_trimLeftUnicode.H) (c := bytes_trimLeftUnicode.c) (args := [x0, x1]) mixed Tryd.func75 (by kernel_rfl) (by kernel_rfl) (Nat.le_of_ble_eq_true (by kernel_rfl)) ((bytes_trimLeftUnicode.eq x0 x1 w Q).mpr h)

/-! bytes_Index: bytes.Index; temporaries: 0:s 1:sep 2:s 3:sep 5:n 6:c0 7:c1 8:i 9:t 10:fails 11:o 12:r 13:c0 14:c1 15:i 16:fails 17:t 18:o 19:j -/
def bytes_Index.H : Hints := { cut := fun | 26 => some ([8], 618968839051069420038261008) | 46 => some ([15], 365374712434438275468948035187874734652686368768) | 55 => some ([], 1606938044258990275454849806409402355875579094280260174053392) | _ => none, loop := fun | 20 => ([8, 10], 42535295865117307785347873339294620944) | 41 => ([15, 16], 1606938044258990275454849806409402355875579094280260174053392) | _ => ([], 0), order := fun  | _ => [] }
def bytes_Index.F [Pan] (x0 : Value) (x1 : Value) (w : World) (Q : Value → World → Prop) : Prop :=
 pN Tryd.prog (oBi .len #[22] 3 [false] [x1]) w fun x21 w1 =>
 pN Tryd.prog (oBin .eql 3 (.tmp 23) (.const (.int .i64 0)) x21 (.int .i64 0)) w1 fun x24 w2 =>
 pIf x24
 (Q (.int .i64 0) w2)
 (pN Tryd.prog (oBin .eql 3 (.tmp 26) (.const (.int .i64 1)) x21 (.int .i64 1)) w2 fun x27 w3 =>
 pIf x27
 (pN Tryd.prog (oIdx 22 x1 (.int .i64 0)) w3 fun x30 w4 =>
 pN Tryd.prog (oLoad 5 x30) w4 fun x31 w5 =>
 pN Tryd.prog (oCall 81 [x0, x31]) w5 fun x32 w6 =>
 Q x32 w6)
 (pN Tryd.prog (oBi .len #[22] 3 [false] [x0]) w3 fun x36 w7 =>
 pN Tryd.prog (oBin .eql 3 (.tmp 34) (.tmp 36) x21 x36) w7 fun x37 w8 =>
 pIf x37
 (pN Tryd.prog (oCall 29 [x1, x0]) w8 fun x40 w9 =>
 pIf x40
 (Q (.int .i64 0) w9)
 (Q (.int .i64 (-1)) w9))
 (pN Tryd.prog (oBi .len #[22] 3 [false] [x0]) w8 fun x44 w10 =>
 pN Tryd.prog (oBin .gtr 3 (.tmp 42) (.tmp 44) x21 x44) w10 fun x45 w11 =>
 pIf x45
 (Q (.int .i64 (-1)) w11)
 (pN Tryd.prog (oLoad 3 (.pointer (some ⟨0, 0, none⟩))) w11 fun x48 w12 =>
 pN Tryd.prog (oBin .leq 3 (.tmp 47) (.tmp 48) x21 x48) w12 fun x49 w13 =>
 pIf x49
 (pN Tryd.prog (oBi .len #[22] 3 [false] [x0]) w13 fun x51 w14 =>
 pN Tryd.prog (oBin .leq 3 (.tmp 51) (.const (.int .i64 64)) x51 (.int .i64 64)) w14 fun x52 w15 =>
 pIf x52
 (pN Tryd.prog (oCall 82 [x0, x1]) w15 fun x55 w16 =>
 Q x55 w16)
 (pN Tryd.prog (oIdx 22 x1 (.int .i64 0)) w15 fun x57 w17 =>
 pN Tryd.prog (oLoad 5 x57) w17 fun x58 w18 =>
 pN Tryd.prog (oIdx 22 x1 (.int .i64 1)) w18 fun x60 w19 =>
 pN Tryd.prog (oLoad 5 x60) w19 fun x61 w20 =>
 pN Tryd.prog (oBi .len #[22] 3 [false] [x0]) w20 fun x63 w21 =>
 pN Tryd.prog (oBin .sub 3 (.tmp 63) (.tmp 64) x63 x21) w21 fun x65 w22 =>
 pN Tryd.prog (oBin .add 3 (.tmp 65) (.const (.int .i64 1)) x65 (.int .i64 1)) w22 fun x66 w23 =>
 ∃ (L20 : Value → Value → World → Prop) (m20 : Value → Value → World → Nat),
 L20 (.int .i64 0) (.int .i64 0) w23 ∧
 ∀ (_k20 : Env) (i8l20 : Value) (fails10l20 : Value) (w24 : World), L20 i8l20 fails10l20 w24 →
 pN Tryd.prog (oBin .lss 3 (.tmp 67) (.tmp 68) i8l20 x66) w24 fun x69 w25 =>
 pIf x69
 (∃ I26 : Value → World → Prop,
 (pN Tryd.prog (oIdx 22 x0 i8l20) w25 fun x72 w26 =>
 pN Tryd.prog (oLoad 5 x72) w26 fun x73 w27 =>
 pN Tryd.prog (oBin .neq 5 (.tmp 73) (.tmp 74) x73 x58) w27 fun x75 w28 =>
 pIf x75
 (pN Tryd.prog (oBin .add 3 (.tmp 77) (.const (.int .i64 1)) i8l20 (.int .i64 1)) w28 fun x78 w29 =>
 pN Tryd.prog (oSl 22 x0 (some x78) (some x66) none) w29 fun x80 w30 =>
 pN Tryd.prog (oCall 81 [x80, x58]) w30 fun x82 w31 =>
 pN Tryd.prog (oBin .lss 3 (.tmp 83) (.const (.int .i64 0)) x82 (.int .i64 0)) w31 fun x84 w32 =>
 pIf x84
 (Q (.int .i64 (-1)) w32)
 (pN Tryd.prog (oBin .add 3 (.tmp 86) (.const (.int .i64 1)) x82 (.int .i64 1)) w32 fun x87 w33 =>
 pN Tryd.prog (oBin .add 3 (.tmp 85) (.tmp 87) i8l20 x87) w33 fun x88 w34 =>
 I26 x88 w34))
 (I26 i8l20 w28)) ∧
 ∀ (_j26 : Env) (i8c26 : Value) (w35 : World), I26 i8c26 w35 →
 pN Tryd.prog (oBin .add 3 (.tmp 90) (.const (.int .i64 1)) i8c26 (.int .i64 1)) w35 fun x91 w36 =>
 pN Tryd.prog (oIdx 22 x0 x91) w36 fun x92 w37 =>
 pN Tryd.prog (oLoad 5 x92) w37 fun x93 w38 =>
 pN Tryd.prog (oBin .eql 5 (.tmp 93) (.tmp 94) x93 x61) w38 fun x95 w39 =>
 pGd (gB x95 true) (pN Tryd.prog (oMv x0) w39) w39 fun x97 w40 =>
 pGd (gB x95 true) (pN Tryd.prog (oMv i8c26) w40) w40 fun x98 w41 =>
 pGd (gB x95 true) (pN Tryd.prog (oMv i8c26) w41) w41 fun x99 w42 =>
 pGd (gB x95 true) (pN Tryd.prog (oMv x21) w42) w42 fun x100 w43 =>
 pGd (gB x95 true) (pN Tryd.prog (oBin .add 3 (.tmp 99) (.tmp 100) x99 x100) w43) w43 fun x101 w44 =>
 pGd (gB x95 true) (pN Tryd.prog (oSl 22 x97 (some x98) (some x101) none) w44) w44 fun x102 w45 =>
 pGd (gB x95 true) (pN Tryd.prog (oMv x1) w45) w45 fun x103 w46 =>
 pGd (gB x95 true) (pN Tryd.prog (oCall 29 [x102, x103]) w46) w46 fun x104 w47 =>
 pN Tryd.prog (oPick x95 x104 (.bool false)) w47 fun x105 w48 =>
 pIf x105
 (Q i8c26 w48)
 (pN Tryd.prog (oBin .add 3 (.tmp 107) (.const (.int .i64 1)) fails10l20 (.int .i64 1)) w48 fun x108 w49 =>
 pN Tryd.prog (oBin .add 3 (.tmp 109) (.const (.int .i64 1)) i8c26 (.int .i64 1)) w49 fun x110 w50 =>
 pN Tryd.prog (oCall 83 [x110]) w50 fun x113 w51 =>
 pN Tryd.prog (oBin .gtr 3 (.tmp 111) (.tmp 113) x108 x113) w51 fun x114 w52 =>
 pIf x114
 (pN Tryd.prog (oSl 22 x0 (some x110) none none) w52 fun x117 w53 =>
 pN Tryd.prog (oCall 82 [x117, x1]) w53 fun x119 w54 =>
 pN Tryd.prog (oBin .geq 3 (.tmp 120) (.const (.int .i64 0)) x119 (.int .i64 0)) w54 fun x121 w55 =>
 pIf x121
 (pN Tryd.prog (oBin .add 3 (.tmp 122) (.tmp 123) x119 x110) w55 fun x124 w56 =>
 Q x124 w56)
 (Q (.int .i64 (-1)) w55))
 ((L20 x110 x108 w52 ∧ m20 x110 x108 w52 < m20 i8l20 fails10l20 w24))))
 (Q (.int .i64 (-1)) w25)))
 (pN Tryd.prog (oIdx 22 x1 (.int .i64 0)) w13 fun x126 w57 =>
 pN Tryd.prog (oLoad 5 x126) w57 fun x127 w58 =>
 pN Tryd.prog (oIdx 22 x1 (.int .i64 1)) w58 fun x129 w59 =>
 pN Tryd.prog (oLoad 5 x129) w59 fun x130 w60 =>
 pN Tryd.prog (oBi .len #[22] 3 [false] [x0]) w60 fun x132 w61 =>
 pN Tryd.prog (oBin .sub 3 (.tmp 132) (.tmp 133) x132 x21) w61 fun x134 w62 =>
 pN Tryd.prog (oBin .add 3 (.tmp 134) (.const (.int .i64 1)) x134 (.int .i64 1)) w62 fun x135 w63 =>
 ∃ I55 : World → Prop,
 (∃ (L41 : Value → Value → World → Prop) (m41 : Value → Value → World → Nat),
 L41 (.int .i64 0) (.int .i64 0) w63 ∧
 ∀ (_k41 : Env) (i15l41 : Value) (fails16l41 : Value) (w64 : World), L41 i15l41 fails16l41 w64 →
 pN Tryd.prog (oBin .lss 3 (.tmp 136) (.tmp 137) i15l41 x135) w64 fun x138 w65 =>
 pIf x138
 (∃ I46 : Value → World → Prop,
 (pN Tryd.prog (oIdx 22 x0 i15l41) w65 fun x141 w66 =>
 pN Tryd.prog (oLoad 5 x141) w66 fun x142 w67 =>
 pN Tryd.prog (oBin .neq 5 (.tmp 142) (.tmp 143) x142 x127) w67 fun x144 w68 =>
 pIf x144
 (pN Tryd.prog (oBin .add 3 (.tmp 146) (.const (.int .i64 1)) i15l41 (.int .i64 1)) w68 fun x147 w69 =>
 pN Tryd.prog (oSl 22 x0 (some x147) (some x135) none) w69 fun x149 w70 =>
 pN Tryd.prog (oCall 81 [x149, x127]) w70 fun x151 w71 =>
 pN Tryd.prog (oBin .lss 3 (.tmp 152) (.const (.int .i64 0)) x151 (.int .i64 0)) w71 fun x153 w72 =>
 pIf x153
 (I55 w72)
 (pN Tryd.prog (oBin .add 3 (.tmp 155) (.const (.int .i64 1)) x151 (.int .i64 1)) w72 fun x156 w73 =>
 pN Tryd.prog (oBin .add 3 (.tmp 154) (.tmp 156) i15l41 x156) w73 fun x157 w74 =>
 I46 x157 w74))
 (I46 i15l41 w68)) ∧
 ∀ (_j46 : Env) (i15c46 : Value) (w75 : World), I46 i15c46 w75 →
 pN Tryd.prog (oBin .add 3 (.tmp 159) (.const (.int .i64 1)) i15c46 (.int .i64 1)) w75 fun x160 w76 =>
 pN Tryd.prog (oIdx 22 x0 x160) w76 fun x161 w77 =>
 pN Tryd.prog (oLoad 5 x161) w77 fun x162 w78 =>
 pN Tryd.prog (oBin .eql 5 (.tmp 162) (.tmp 163) x162 x130) w78 fun x164 w79 =>
 pGd (gB x164 true) (pN Tryd.prog (oMv x0) w79) w79 fun x166 w80 =>
 pGd (gB x164 true) (pN Tryd.prog (oMv i15c46) w80) w80 fun x167 w81 =>
 pGd (gB x164 true) (pN Tryd.prog (oMv i15c46) w81) w81 fun x168 w82 =>
 pGd (gB x164 true) (pN Tryd.prog (oMv x21) w82) w82 fun x169 w83 =>
 pGd (gB x164 true) (pN Tryd.prog (oBin .add 3 (.tmp 168) (.tmp 169) x168 x169) w83) w83 fun x170 w84 =>
 pGd (gB x164 true) (pN Tryd.prog (oSl 22 x166 (some x167) (some x170) none) w84) w84 fun x171 w85 =>
 pGd (gB x164 true) (pN Tryd.prog (oMv x1) w85) w85 fun x172 w86 =>
 pGd (gB x164 true) (pN Tryd.prog (oCall 29 [x171, x172]) w86) w86 fun x173 w87 =>
 pN Tryd.prog (oPick x164 x173 (.bool false)) w87 fun x174 w88 =>
 pIf x174
 (Q i15c46 w88)
 (pN Tryd.prog (oBin .add 3 (.tmp 176) (.const (.int .i64 1)) i15c46 (.int .i64 1)) w88 fun x177 w89 =>
 pN Tryd.prog (oBin .add 3 (.tmp 178) (.const (.int .i64 1)) fails16l41 (.int .i64 1)) w89 fun x179 w90 =>
 pN Tryd.prog (oBin .shr 3 (.tmp 181) (.const (.int .u64 4)) x177 (.int .u64 4)) w90 fun x182 w91 =>
 pN Tryd.prog (oBin .add 3 (.const (.int .i64 4)) (.tmp 182) (.int .i64 4) x182) w91 fun x183 w92 =>
 pN Tryd.prog (oBin .geq 3 (.tmp 180) (.tmp 183) x179 x183) w92 fun x184 w93 =>
 pGd (gB x184 true) (pN Tryd.prog (oMv x177) w93) w93 fun x186 w94 =>
 pGd (gB x184 true) (pN Tryd.prog (oMv x135) w94) w94 fun x187 w95 =>
 pGd (gB x184 true) (pN Tryd.prog (oBin .lss 3 (.tmp 186) (.tmp 187) x186 x187) w95) w95 fun x188 w96 =>
 pN Tryd.prog (oPick x184 x188 (.bool false)) w96 fun x189 w97 =>
 pIf x189
 (pN Tryd.prog (oSl 22 x0 (some x177) none none) w97 fun x192 w98 =>
 pN Tryd.prog (oCall 84 [x192, x1]) w98 fun x194 w99 =>
 pN Tryd.prog (oBin .lss 3 (.tmp 195) (.const (.int .i64 0)) x194 (.int .i64 0)) w99 fun x196 w100 =>
 pIf x196
 (Q (.int .i64 (-1)) w100)
 (pN Tryd.prog (oBin .add 3 (.tmp 197) (.tmp 198) x177 x194) w100 fun x199 w101 =>
 Q x199 w101))
 ((L41 x177 x179 w97 ∧ m41 x177 x179 w97 < m41 i15l41 fails16l41 w64))))
 (I55 w65)) ∧
 ∀ (_j55 : Env) (w102 : World), I55 w102 →
 Q (.int .i64 (-1)) w102)))))
noncomputable def bytes_Index.c : Code := match Tryd.f77.body with | some c => c | none => .skip
theorem bytes_Index.eq [Pan] (x0 : Value) (x1 : Value) (w : World) (Q : Value → World → Prop) : cw Tryd.prog bytes_Index.H bytes_Index.c (endQ Tryd.prog Tryd.f77.results.toList Q) (argsE [x0, x1]) w = bytes_Index.F x0 x1 w Q := by kernel_rfl
theorem bytes_Index.calls [Pan] {x0 : Value} {x1 : Value} {w : World} {Q : Value → World → Prop} (h : bytes_Index.F x0 x1 w Q) : Calls Tryd.prog 77 #[x0, x1] w (retP Q) :=
  calls_of_cw (H := bytes_Index.H) (c := bytes_Index.c) (args := [x0, x1]) mixed Tryd.func77 (by kernel_rfl) (by kernel_rfl) (Nat.le_of_ble_eq_true (by kernel_rfl)) ((bytes_Index.eq x0 x1 w Q).mpr h)

/-! bytes_asciiSet_contains: (*bytes.asciiSet).contains; temporaries: 0:as 1:c 2:as 3:c -/
def bytes_asciiSet_contains.H : Hints := { cut := fun  | _ => none, loop := fun  | _ => ([], 0), order := fun  | _ => [] }
def bytes_asciiSet_contains.F [Pan] (x0 : Value) (x1 : Value) (w : World) (Q : Value → World → Prop) : Prop :=
 pN Tryd.prog (oNil x0) w fun x7 w1 =>
 pN Tryd.prog (oIdx 100 x7 x1) w1 fun x8 w2 =>
 pN Tryd.prog (oLoad 4 x8) w2 fun x9 w3 =>
 Q x9 w3
noncomputable def bytes_asciiSet_contains.c : Code := match Tryd.f78.body with | some c => c | none => .skip
theorem bytes_asciiSet_contains.eq [Pan] (x0 : Value) (x1 : Value) (w : World) (Q : Value → World → Prop) : cw Tryd.prog bytes_asciiSet_contains.H bytes_asciiSet_contains.c (endQ Tryd.prog Tryd.f78.results.toList Q) (argsE [x0, x1]) w = bytes_asciiSet_contains.F x0 x1 w Q := by kernel_rfl
theorem bytes_asciiSet_contains.calls [Pan] {x0 : Value} {x1 : Value} {w : World} {Q : Value → World → Prop} (h : bytes_asciiSet_contains.F x0 x1 w Q) : Calls Tryd.prog 78 #[x0, x1] w (retP Q) :=
  calls_of_cw (H := bytes_asciiSet_contains.H) (c := bytes_asciiSet_contains.c) (args := [x0, x1]) mixed Tryd.func78 (by kernel_rfl) (by kernel_rfl) (Nat.le_of_ble_eq_true (by kernel_rfl)) ((bytes_asciiSet_contains.eq x0 x1 w Q).mpr h)

/-! bytes_containsRune: bytes.containsRune; temporaries: 0:s 1:r 2:s 3:r 5:_ 6:c -/
def bytes_containsRune.H : Hints := { cut := fun  | _ => none, loop := fun | 2 => ([], 32336) | _ => ([], 0), order := fun  | _ => [] }
def bytes_containsRune.F [Pan] (x0 : Value) (x1 : Value) (w : World) (Q : Value → World → Prop) : Prop :=
 pN Tryd.prog (oRange 9 x0) w fun x8 w1 =>
 ∃ (L2 : World → Prop) (m2 : World → Nat),
 L2 w1 ∧
 ∀ (_k2 : Env) (w2 : World), L2 w2 →
 pN Tryd.prog (oNext x8 true 0) w2 fun x9 w3 =>
 pN Tryd.prog (oExt x9 0) w3 fun x10 w4 =>
 pIf x10
 (pN Tryd.prog (oExt x9 2) w4 fun x11 w5 =>
 pN Tryd.prog (oBin .eql 21 (.tmp 12) (.tmp 13) x11 x1) w5 fun x14 w6 =>
 pIf x14
 (Q (.bool true) w6)
 ((L2 w6 ∧ m2 w6 < m2 w2)))
 (Q (.bool false) w4)
noncomputable def bytes_containsRune.c : Code := match Tryd.f80.body with | some c => c | none => .skip
theorem bytes_containsRune.eq [Pan] (x0 : Value) (x1 : Value) (w : World) (Q : Value → World → Prop) : cw Tryd.prog bytes_containsRune.H bytes_containsRune.c (endQ Tryd.prog Tryd.f80.results.toList Q) (argsE [x0, x1]) w = bytes_containsRune.F x0 x1 w Q := by kernel_rfl
theorem bytes_containsRune.calls [Pan] {x0 : Value} {x1 : Value} {w : World} {Q : Value → World → Prop} (h : bytes_containsRune.F x0 x1 w Q) : Calls Tryd.prog 80 #[x0, x1] w (retP Q) :=
  calls_of_cw (H := bytes_containsRune.H) (c := bytes_containsRune.c) (args := [x0, x1]) mixed Tryd.func80 (by kernel_rfl) (by kernel_rfl) (Nat.le_of_ble_eq_true (by kernel_rfl)) ((bytes_containsRune.eq x0 x1 w Q).mpr h)

/-! bytes_IndexByte: bytes.IndexByte; temporaries: 0:b 1:c 2:b 3:c -/
def bytes_IndexByte.H : Hints := { cut := fun  | _ => none, loop := fun  | _ => ([], 0), order := fun  | _ => [] }
def bytes_IndexByte.F [Pan] (x0 : Value) (x1 : Value) (w : World) (Q : Value → World → Prop) : Prop :=
 pN Tryd.prog (oCall 86 [x0, x1]) w fun x7 w1 =>
 Q x7 w1
noncomputable def bytes_IndexByte.c : Code := match Tryd.f81.body with | some c => c | none => .skip
theorem bytes_IndexByte.eq [Pan] (x0 : Value) (x1 : Value) (w : World) (Q : Value → World → Prop) : cw Tryd.prog bytes_IndexByte.H bytes_IndexByte.c (endQ Tryd.prog Tryd.f81.results.toList Q) (argsE [x0, x1]) w = bytes_IndexByte.F x0 x1 w Q := by kernel_rfl
theorem bytes_IndexByte.calls [Pan] {x0 : Value} {x1 : Value} {w : World} {Q : Value → World → Prop} (h : bytes_IndexByte.F x0 x1 w Q) : Calls Tryd.prog 81 #[x0, x1] w (retP Q) :=
  calls_of_cw (H := bytes_IndexByte.H) (c := bytes_IndexByte.c) (args := [x0, x1]) mixed Tryd.func81 (by kernel_rfl) (by kernel_rfl) (Nat.le_of_ble_eq_true (by kernel_rfl)) ((bytes_IndexByte.eq x0 x1 w Q).mpr h)

end Go.Proofs.YteeepkimnpabiaaDoor

namespace Go.Proofs.YteeepkimnpabiaaDoor
open Go
set_option linter.unusedSimpArgs false
set_option linter.unnecessarySimpa false
set_option linter.unusedSectionVars false
set_option linter.unusedVariables false
set_option maxRecDepth 100000

/-! strings_IndexByte: strings.IndexByte; temporaries: 0:s 1:c 2:s 3:c -/
def strings_IndexByte.H : Hints := { cut := fun  | _ => none, loop := fun  | _ => ([], 0), order := fun  | _ => [] }
def strings_IndexByte.F [Pan] (x0 : Value) (x1 : Value) (w : World) (Q : Value → World → Prop) : Prop :=
 pN Tryd.prog (oCall 70 [x0, x1]) w fun x7 w1 =>
 Q x7 w1
noncomputable def strings_IndexByte.c : Code := match Tryd.f44.body with | some c => c | none => .skip
theorem strings_IndexByte.eq [Pan] (x0 : Value) (x1 : Value) (w : World) (Q : Value → World → Prop) : cw Tryd.prog strings_IndexByte.H strings_IndexByte.c (endQ Tryd.prog Tryd.f44.results.toList Q) (argsE [x0, x1]) w = strings_IndexByte.F x0 x1 w Q := by kernel_rfl
theorem strings_IndexByte.calls [Pan] {x0 : Value} {x1 : Value} {w : World} {Q : Value → World → Prop} (h : strings_IndexByte.F x0 x1 w Q) : Calls Tryd.prog 44 #[x0, x1] w (retP Q) :=
  calls_of_cw (H := strings_IndexByte.H) (c := strings_IndexByte.c) (args := [x0, x1]) mixed Tryd.func44 (by kernel_rfl) (by kernel_rfl) (Nat.le_of_ble_eq_true (by kernel_rfl)) ((strings_IndexByte.eq x0 x1 w Q).mpr h)

end Go.Proofs.YteeepkimnpabiaaDoor

namespace Go.Proofs.YteeepkimnpabiaaDoor
open Go
set_option linter.unusedSimpArgs false
set_option linter.unnecessarySimpa false
set_option linter.unusedSectionVars false
set_option linter.unusedVariables false
set_option maxRecDepth 100000

/-! internal_stringslite_IndexByte: internal/stringslite.IndexByte; temporaries: 0:s 1:c 2:s 3:c -/
def internal_stringslite_IndexByte.H : Hints := { cut := fun  | _ => none, loop := fun  | _ => ([], 0), order := fun  | _ => [] }
def internal_stringslite_IndexByte.F [Pan] (x0 : Value) (x1 : Value) (w : World) (Q : Value → World → Prop) : Prop :=
 pN Tryd.prog (oCall 76 [x0, x1]) w fun x7 w1 =>
 Q x7 w1
noncomputable def internal_stringslite_IndexByte.c : Code := match Tryd.f70.body with | some c => c | none => .skip
theorem internal_stringslite_IndexByte.eq [Pan] (x0 : Value) (x1 : Value) (w : World) (Q : Value → World → Prop) : cw Tryd.prog internal_stringslite_IndexByte.H internal_stringslite_IndexByte.c (endQ Tryd.prog Tryd.f70.results.toList Q) (argsE [x0, x1]) w = internal_stringslite_IndexByte.F x0 x1 w Q := by kernel_rfl
theorem internal_stringslite_IndexByte.calls [Pan] {x0 : Value} {x1 : Value} {w : World} {Q : Value → World → Prop} (h : internal_stringslite_IndexByte.F x0 x1 w Q) : Calls Tryd.prog 70 #[x0, x1] w (retP Q) :=
  calls_of_cw (H := internal_stringslite_IndexByte.H) (c := internal_stringslite_IndexByte.c) (args := [x0, x1]) mixed Tryd.func70 (by kernel_rfl) (by kernel_rfl) (Nat.le_of_ble_eq_true (by kernel_rfl)) ((internal_stringslite_IndexByte.eq x0 x1 w Q).mpr h)

end Go.Proofs.YteeepkimnpabiaaDoor

namespace Go.Proofs.YteeepkimnpabiaaDoor
open Go
set_option linter.unusedSimpArgs false
set_option linter.unnecessarySimpa false
set_option linter.unusedSectionVars false
set_option linter.unusedVariables false

instance stry : StrY Tryd.prog 9 := ⟨Tryd.underlying9⟩
instance strb : StrB Tryd.prog 9 22 cd_uint8 := ⟨Tryd.underlying9, Tryd.underlying22, Tryd.underlying5, rfl, fun _ => rfl⟩
instance inty : IntY Tryd.prog 3 .i64 := ⟨Tryd.underlying3⟩

namespace A
/-- The first place of a byte, or -1. -/
abbrev ixb (l : List UInt8) (c : UInt8) : Int := Lib.indexByte l c
theorem ixb_ge (l : List UInt8) (c : UInt8) : -1 ≤ ixb l c := Lib.indexByte_ge l c
theorem ixb_mem {l : List UInt8} {c : UInt8} : 0 ≤ ixb l c ↔ c ∈ l := by
  constructor
  · intro h
    obtain ⟨o, ho⟩ : ∃ o : Nat, ixb l c = o := ⟨(ixb l c).toNat, by omega⟩
    exact List.mem_of_getElem? (Lib.indexByte_some ho).1
  · intro h
    refine Decidable.byContradiction fun hn => ?_
    have h1 : ixb l c = -1 := by have := ixb_ge l c; omega
    obtain ⟨k, hk⟩ := List.mem_iff_getElem?.1 h
    exact Lib.indexByte_none h1 k hk
/-- What stands ahead of the first zero. -/
def text : List UInt8 → List UInt8
  | [] => []
  | b :: l => if b = 0 then [] else b :: text l
theorem text_none : ∀ {l : List UInt8}, 0 ∉ l → text l = l
  | [], _ => rfl
  | b :: l, h => by
    rw [text, if_neg (fun e => h (by rw [e]; exact List.mem_cons_self)), text_none (fun hm => h (List.mem_cons_of_mem _ hm))]
theorem text_at : ∀ {l : List UInt8} {o : Nat}, l[o]? = some 0 → (∀ k, k < o → l[k]? ≠ some 0) → text l = l.take o
  | [], o, h, _ => by simp at h
  | b :: l, 0, h, _ => by
    simp at h
    rw [text, if_pos h, List.take_zero]
  | b :: l, o + 1, h, hn => by
    have h0 : b ≠ 0 := fun e => hn 0 (by omega) (by simp [e])
    rw [text, if_neg h0, text_at (l := l) (o := o) (by simpa using h) (fun k hk => by have := hn (k + 1) (by omega); simpa using this), List.take_succ_cons]
/-- What is left without the zeros in front. -/
def trim : List UInt8 → List UInt8
  | [] => []
  | b :: l => if b = 0 then trim l else b :: l
theorem trim_nil : ∀ {l : List UInt8}, trim l = [] ↔ ∀ b ∈ l, b = 0
  | [] => by simp [trim]
  | b :: l => by
    rw [trim]
    split
    · rename_i h
      rw [trim_nil]
      simp [h]
    · rename_i h
      simp [h]
end A

section
variable [Pan] {E w : World} {K Q : Value → World → Prop} {L M : List HA} {l r : List UInt8} {s s2 : Sl}

omit [Pan] in
theorem u8_toNat (c : UInt8) : ((c.toNat : Int)).toNat.toUInt8 = c := by simp
theorem pN_ibs (c : UInt8) (hk : K (.int .i64 (A.ixb l c)) w) : pN Tryd.prog (oCall 76 [.string ⟨l.toArray⟩, bv c]) w K := by
  have h := run_callFunc_extern (P := Tryd.prog) Tryd.func76 (by kernel_rfl) (by kernel_rfl) (by kernel_rfl) (e := Extern.BytealgIndexByte.indexByte) (by kernel_rfl) #[.string ⟨l.toArray⟩, .int .u8 c.toNat] w
  rw [Lib.run_indexByteString, u8_toNat] at h
  have h2 : (oCall 76 [.string ⟨l.toArray⟩, bv c]).run Tryd.prog w = .ok (.value (.int .i64 (A.ixb l c))) w := h
  rw [pN_def, h2, rN_value]
  exact hk
omit [Pan] in
theorem bytesOf_bytes (l : List UInt8) : Lib.bytesOf (l.map fun b => (b.toNat : Int)) = l := by
  simp only [Lib.bytesOf, List.map_map]
  conv => rhs; rw [← List.map_id l]
  apply List.map_congr_left
  intro b _
  exact u8_toNat b
omit [Pan] in
theorem run_ixb {s : Sl} (hr : Rd w 1 (.slice s.a l.length s.c) l.length (bvs l)) (c : UInt8) : (Extern.BytealgIndexByte.indexByte #[.slice s.a l.length s.c, .int .u8 c.toNat]).run Tryd.prog w = .ok (.int .i64 (A.ixb l c)) w := by
  obtain ⟨hl, ao, cap, hv, hcap, hnil, hc⟩ := hr
  simp only [Value.slice.injEq, true_and] at hv
  obtain ⟨hv1, hv2⟩ := hv
  have hs := Lib.run_indexByteString (P := Tryd.prog) ⟨l.toArray⟩ (c.toNat : Int) w
  rw [u8_toNat] at hs
  rw [hv1]
  cases ao with
  | none =>
    have : l = [] := List.length_eq_zero_iff.1 (hnil rfl).1
    subst this
    exact Lib.run_indexByteNil (P := Tryd.prog) _ _ _ _
  | some a =>
    have hld := Lib.run_loadBytesX (P := Tryd.prog) w (l.map fun b => (b.toNat : Int)) a .empty (fun j x hj => by
      refine hc a rfl j _ ?_
      rw [List.getElem?_map] at hj
      obtain ⟨b, hb, rfl⟩ := Option.map_eq_some_iff.1 hj
      rw [bvs, List.getElem?_map, hb]
      rfl)
    rw [List.length_map, bytesOf_bytes] at hld
    have he : (⟨ByteArray.empty.data ++ l.toArray⟩ : ByteArray) = ⟨l.toArray⟩ := by
      apply ByteArray.ext
      show (#[] : Array UInt8) ++ l.toArray = l.toArray
      simp
    rw [he] at hld
    change Sem.run Tryd.prog (do
      let b ← Extern.Bytes.bytesOf (.slice (some a) l.length s.c)
      let c ← Extern.Bytes.asByte (.int .u8 c.toNat)
      match (List.range b.size).find? fun i => b[i]! == c with
      | some i => pure (goInt i)
      | none => pure (goInt (-1))) w = _
    change Sem.run Tryd.prog (do
      let b ← Extern.Bytes.bytesOf (.string ⟨l.toArray⟩)
      let c ← Extern.Bytes.asByte (.int .u8 c.toNat)
      match (List.range b.size).find? fun i => b[i]! == c with
      | some i => pure (goInt i)
      | none => pure (goInt (-1))) w = _ at hs
    simp only [Extern.Bytes.bytesOf, Sem.run_bind, Sem.run_pure, hld, Result.andThen] at hs ⊢
    exact hs
theorem pN_ib (c : UInt8) (hS : Sat E w L) [hr : Rds cd_uint8 L s l] (hk : K (.int .i64 (A.ixb l c)) w) : pN Tryd.prog (oCall 86 [.slice s.a l.length s.c, bv c]) w K := by
  have h := run_callFunc_extern (P := Tryd.prog) Tryd.func86 (by kernel_rfl) (by kernel_rfl) (by kernel_rfl) (e := Extern.BytealgIndexByte.indexByte) (by kernel_rfl) #[.slice s.a l.length s.c, .int .u8 c.toNat] w
  have hrd := hS.rds (C := cd_uint8) (s := s)
  rw [flat_uint8] at hrd
  rw [run_ixb hrd] at h
  have h2 : (oCall 86 [.slice s.a l.length s.c, bv c]).run Tryd.prog w = .ok (.value (.int .i64 (A.ixb l c))) w := h
  rw [pN_def, h2, rN_value]
  exact hk

attribute [local irreducible] oMv oV oU oCall oCallV oBi oBin oUn oLoad oStore oNil oFld oField oIdx oIndex oPick oAlloc oBox oBuild oBs oConv oMk oSl oExt oFn oIface oMap oLook oMapUp oRange oNext oAssert oPanic oRes pN pA pL pDr pIf gA pGd Calls
theorem sIndexByte_ok (c : UInt8) (hQ : Q (.int .i64 (A.ixb l c)) w) : Calls Tryd.prog 44 #[.string ⟨l.toArray⟩, bv c] w (retP Q) := by
  refine strings_IndexByte.calls ?_
  unfold strings_IndexByte.F
  refine pc_internal_stringslite_IndexByte ?_
  refine internal_stringslite_IndexByte.calls ?_
  unfold internal_stringslite_IndexByte.F
  exact pN_ibs c hQ
theorem bIndexByte_ok (c : UInt8) (hS : Sat E w L) [hr : Rds cd_uint8 L s l] (hQ : Q (.int .i64 (A.ixb l c)) w) : Calls Tryd.prog 81 #[.slice s.a l.length s.c, bv c] w (retP Q) := by
  refine bytes_IndexByte.calls ?_
  unfold bytes_IndexByte.F
  exact pN_ib c hS hQ
theorem Equal_ok (hS : Sat E w L) [hr : Rds cd_uint8 L s l] [hr2 : Rds cd_uint8 L s2 r] (hQ : Q (.bool (decide (l = r))) w) : Calls Tryd.prog 29 #[.slice s.a l.length s.c, .slice s2.a r.length s2.c] w (retP Q) := by
  refine bytes_Equal.calls ?_
  unfold bytes_Equal.F
  by_cases h : l = r
  · rw [decide_eq_true h] at hQ
    repeat' (first | (refine pN_eql_ss ?_ ?_ <;> intro hc <;> try (exfalso; first | omega | exact hc rfl | exact hc (by assumption) | exact absurd hc (by assumption))) | refine pN_st hS (by first | rfl | omega | simpa only [go_sem] using True.intro | (simp only [go_sem]; omega)) ?_ | fail)
    exact hQ
  · rw [decide_eq_false h] at hQ
    repeat' (first | (refine pN_eql_ss ?_ ?_ <;> intro hc <;> try (exfalso; first | omega | exact hc rfl | exact hc (by assumption) | exact absurd hc (by assumption))) | refine pN_st hS (by first | rfl | omega | simpa only [go_sem] using True.intro | (simp only [go_sem]; omega)) ?_ | fail)
    exact hQ

theorem bIndex1_ok (c : UInt8) (hS : Sat E w L) [hr : Rds cd_uint8 L s l] [hr2 : Rds cd_uint8 L s2 [c]] (hQ : Q (.int .i64 (A.ixb l c)) w) : Calls Tryd.prog 77 #[.slice s.a l.length s.c, .slice s2.a 1 s2.c] w (retP Q) := by
  refine bytes_Index.calls ?_
  unfold bytes_Index.F
  have hx : [c][0]? = some c := rfl
  have h1 : 1 = [c].length := rfl
  repeat' (first | (refine pc_bytes_IndexByte (bIndexByte_ok c hS ?_)) | (refine pN_eql_s ?_ ?_ <;> intro hc <;> try (exfalso; first | omega | exact hc rfl | exact hc (by assumption) | exact absurd hc (by assumption))) | refine pIf_t ?_ | refine pIf_f ?_ | refine pN_ld1 ha hS ?_ | refine pN_ixk hS _ (by first | rfl | (exact (Int.toNat_of_nonneg (by omega)).symm)) (by first | rfl | omega | simpa only [go_sem] using True.intro | (simp only [go_sem]; omega)) (by assumption) fun a ha hel => ?_ | refine pN_via (by (intro K; simp (disch := omega) only [go_sem, pN_min, pN_max, w_u32, w_u64, Option.isNone_some, Option.isNone_none]; (try simp only [wrap_u32, wrap_u64]); rfl)) ?_ | fail)
  exact hQ
theorem Cut0_ok (hS : Sat E w L) [hr : Rds cd_uint8 L s l] [hr2 : Rds cd_uint8 L s2 [0]] (hl : l.length ≤ 140737488355328) (hQ : ∀ (s3 : Sl) (v1 v2 : Value) (w : World), Sat E w L → Rds cd_uint8 L s3 (A.text l) → Q (.tuple #[.slice s3.a (A.text l).length s3.c, v1, v2]) w) :
    Calls Tryd.prog 71 #[.slice s.a l.length s.c, .slice s2.a 1 s2.c] w (retP Q) := by
  refine bytes_Cut.calls ?_
  unfold bytes_Cut.F
  have hge := A.ixb_ge l 0
  refine pc_bytes_Index (bIndex1_ok 0 hS ?_)
  by_cases h : 0 ≤ A.ixb l 0
  · obtain ⟨o, ho⟩ : ∃ o : Nat, A.ixb l 0 = o := ⟨(A.ixb l 0).toNat, by omega⟩
    obtain ⟨h1, h2⟩ := Lib.indexByte_some ho
    have hol := (List.getElem?_eq_some_iff.1 h1).1
    rw [ho]
    have ht := A.text_at h1 h2
    have htl : (l.take o).length = o := by rw [List.length_take]; omega
    repeat' (first | (refine pA_slhw hS o rfl rfl (by omega) ?_; intro hp) | (refine pA_sl1w hS (o + 1) (by omega) rfl (by omega) ?_; intro hp2) | (refine pN_geq_s ?_ ?_ <;> intro hc <;> try (exfalso; omega)) | refine pIf_t ?_ | (refine pDr_go hS ?_; clear hS; intro w hS) | refine pA_via (by (intro K; simp (disch := omega) only [go_sem, pN_min, pN_max, w_u32, w_u64, Option.isNone_some, Option.isNone_none]; (try simp only [wrap_u32, wrap_u64]); rfl)) ?_ | fail)
    rw [ht] at hQ
    rw [htl] at hQ
    exact hQ _ _ _ _ hS hp
  · repeat' (first | (refine pN_geq_s ?_ ?_ <;> intro hc <;> try (exfalso; omega)) | refine pIf_f ?_ | fail)
    have ht := A.text_none (l := l) fun hm => h (A.ixb_mem.2 hm)
    rw [ht] at hQ
    exact hQ _ _ _ _ hS hr
theorem Clone_ok (hS : Sat E w L) [hr : Rds cd_uint8 L s l] (hl : l.length ≤ 140737488355328) (hQ : ∀ s' w', Sat E w' (rows cd_uint8 s' l :: L) → Q (.slice s'.a l.length s'.c) w') : Calls Tryd.prog 41 #[.slice s.a l.length s.c] w (retP Q) := by
  refine bytes_Clone.calls ?_
  unfold bytes_Clone.F
  have hrd := hS.rds (C := cd_uint8) (s := s)
  obtain ⟨_, ao, cap, hv, hcap, hnil, hc⟩ := hrd
  simp only [Value.slice.injEq, true_and] at hv
  obtain ⟨hv1, hv2⟩ := hv
  cases ao with
  | none =>
    have : l = [] := List.length_eq_zero_iff.1 (hnil rfl).1
    subst this
    rw [hv1]
    repeat' (first | refine pN_eql_slc ?_ | refine pIf_t ?_ | fail)
    exact hQ ⟨none, 0⟩ _ (hS.nil 5 1)
  | some a =>
    have hd : s.a.isNone = false := by rw [hv1]; rfl
    refine pN_eql_slc ?_
    rw [hd]
    repeat' (first | refine pIf_f ?_ | (refine pN_b0 hS ?_; clear hS; intro s w hS) | (refine pN_app hS (by first | rfl | omega | simpa only [go_sem] using True.intro | (simp only [go_sem]; omega)) (by first | rfl | omega | simpa only [go_sem] using True.intro | (simp only [go_sem]; omega)) (by first | omega | (simp only [go_sem]; omega)) ?_; clear hS; intro s w hS) | fail)
    exact hQ _ _ hS
theorem trimLeftByte_ok (hS : Sat E w L) [hr : Rds cd_uint8 L s l] (hQ : ∀ s', Rds cd_uint8 L s' (A.trim l) → Q (.slice s'.a (A.trim l).length s'.c) w) : Calls Tryd.prog 72 #[.slice s.a l.length s.c, bv 0] w (retP Q) := by
  refine bytes_trimLeftByte.calls ?_
  unfold bytes_trimLeftByte.F
  refine ⟨fun v w' => ∃ (s2 : Sl) (l2 : List UInt8), v = .slice s2.a l2.length s2.c ∧ A.trim l2 = A.trim l ∧ Rds cd_uint8 L s2 l2 ∧ w' = w, fun v _ => (match v with | .slice _ n _ => n | _ => 0), ⟨s, l, rfl, rfl, hr, rfl⟩, ?_⟩
  rintro _ _ _ ⟨s2, l2, rfl, ht, hr2, rfl⟩
  cases l2 with
  | nil =>
    rw [← ht] at hQ
    repeat' (first | (refine pN_gtr_s ?_ ?_ <;> intro hc <;> try (exfalso; omega)) | (refine pN_eql_s ?_ ?_ <;> intro hc <;> try (exfalso; first | omega | exact hc rfl | exact hc (by assumption) | exact absurd hc (by assumption))) | refine pIf_t ?_ | refine pIf_f ?_ | refine pGd_no (by rfl) ?_ | refine pN_via (by (intro K; simp (disch := omega) only [go_sem, pN_min, pN_max, w_u32, w_u64, Option.isNone_some, Option.isNone_none]; (try simp only [wrap_u32, wrap_u64]); rfl)) ?_ | fail)
    exact hQ ⟨none, 0⟩ Rds.nil
  | cons b l2 =>
    have hb : (b :: l2)[0]? = some b := rfl
    have hlen : (b :: l2).length = l2.length + 1 := rfl
    by_cases h0 : b = 0
    · subst h0
      repeat' (first | (refine pN_sl1w hS 1 rfl rfl (by omega) ?_; intro hp) | (refine pN_gtr_s ?_ ?_ <;> intro hc <;> try (exfalso; omega)) | (refine pN_eql_s ?_ ?_ <;> intro hc <;> try (exfalso; first | omega | exact hc rfl | exact hc (by assumption) | exact absurd hc (by assumption))) | refine pIf_t ?_ | refine pGd_go (by rfl) ?_ | refine pN_ld1 ha hS ?_ | refine pN_ixk hS _ (by first | rfl | (exact (Int.toNat_of_nonneg (by omega)).symm)) (by first | rfl | omega | simpa only [go_sem] using True.intro | (simp only [go_sem]; omega)) (by assumption) fun a ha hel => ?_ | refine pN_via (by (intro K; simp (disch := omega) only [go_sem, pN_min, pN_max, w_u32, w_u64, Option.isNone_some, Option.isNone_none]; (try simp only [wrap_u32, wrap_u64]); rfl)) ?_ | fail)
      exact ⟨⟨_, l2, rfl, by rw [← ht]; rfl, hp, rfl⟩, by simp⟩
    · have h1 : ¬ (b.toNat : Int) = ((0 : UInt8).toNat : Int) := fun e => h0 (UInt8.toNat_inj.1 (by omega))
      rw [A.trim, if_neg h0] at ht
      repeat' (first | (refine pN_gtr_s ?_ ?_ <;> intro hc <;> try (exfalso; omega)) | (refine pN_eql_s ?_ ?_ <;> intro hc <;> try (exfalso; first | omega | exact hc rfl | exact hc (by assumption) | exact absurd hc (by assumption))) | refine pIf_f ?_ | refine pGd_go (by rfl) ?_ | refine pN_ld1 ha hS ?_ | refine pN_ixk hS _ (by first | rfl | (exact (Int.toNat_of_nonneg (by omega)).symm)) (by first | rfl | omega | simpa only [go_sem] using True.intro | (simp only [go_sem]; omega)) (by assumption) fun a ha hel => ?_ | refine pN_via (by (intro K; simp (disch := omega) only [go_sem, pN_min, pN_max, w_u32, w_u64, Option.isNone_some, Option.isNone_none]; (try simp only [wrap_u32, wrap_u64]); rfl)) ?_ | fail)
      rw [← ht] at hQ
      exact hQ _ hr2
theorem TrimLeft0_ok (hS : Sat E w L) [hr : Rds cd_uint8 L s l] (hQ : ∀ s', Rds cd_uint8 L s' (A.trim l) → Q (.slice s'.a (A.trim l).length s'.c) w) : Calls Tryd.prog 64 #[.slice s.a l.length s.c, .string ⟨#[0]⟩] w (retP Q) := by
  refine bytes_TrimLeft.calls ?_
  unfold bytes_TrimLeft.F
  cases l with
  | nil =>
    repeat' (first | (refine pN_eql_s ?_ ?_ <;> intro hc <;> try (exfalso; first | omega | exact hc rfl | exact hc (by assumption) | exact absurd hc (by assumption))) | refine pIf_t ?_ | refine pN_via (by (intro K; simp (disch := omega) only [go_sem, pN_min, pN_max, w_u32, w_u64, Option.isNone_some, Option.isNone_none]; (try simp only [wrap_u32, wrap_u64]); rfl)) ?_ | fail)
    exact hQ ⟨none, 0⟩ Rds.nil
  | cons b l =>
    have hlen : (b :: l).length = l.length + 1 := rfl
    have e : (.string ⟨#[0]⟩ : Value) = .string ⟨List.toArray [0]⟩ := rfl
    have e0 : (.string ⟨#[]⟩ : Value) = .string ⟨List.toArray []⟩ := rfl
    rw [e, e0]
    have hx : [(0 : UInt8)][0]? = some 0 := rfl
    repeat' (first | refine pN_slen ?_ | refine pN_sidx _ (by first | rfl | (exact (Int.toNat_of_nonneg (by omega)).symm)) (by first | assumption | rfl) ?_ | (refine pc_bytes_trimLeftByte (trimLeftByte_ok hS ?_); intro s' hp) | (refine pN_lss_s ?_ ?_ <;> intro hc <;> try (exfalso; omega)) | ((first | refine pN_eql_s ?_ ?_ | refine pN_eql_ss ?_ ?_) <;> intro hc <;> try (exfalso; first | omega | exact hc rfl | exact hc (by assumption) | exact absurd hc (by assumption))) | refine pIf_t ?_ | refine pIf_f ?_ | refine pGd_go (by rfl) ?_ | refine pN_via (by (intro K; simp (disch := omega) only [go_sem, pN_min, pN_max, w_u32, w_u64, Option.isNone_some, Option.isNone_none]; (try simp only [wrap_u32, wrap_u64]); rfl)) ?_ | fail)
    all_goals first
      | exact hQ _ hp
      | exact absurd hc (by decide)
      | exact absurd (show ((0 : UInt8).toNat : Int) < ((128 : UInt8).toNat : Int) by decide) hc
end

end Go.Proofs.YteeepkimnpabiaaDoor

namespace Go.Proofs.YteeepkimnpabiaaDoor
open Go
set_option linter.unusedSimpArgs false
set_option linter.unnecessarySimpa false
set_option linter.unusedSectionVars false
set_option linter.unusedVariables false
set_option maxRecDepth 100000

/-! tar_Put: pith/tar.Put; temporaries: 0:x 1:x 4:err 5:b -/
def tar_Put.H : Hints := { cut := fun  | _ => none, loop := fun  | _ => ([], 0), order := fun | 4 => [(0, 0), (1, 1), (2, 3), (3, 7), (7, 15), (8, 143), (4, 399), (5, 415), (6, 447), (9, 511), (10, 1023)] | _ => [] }
def tar_Put.F [Pan] (x0 : Value) (w : World) (Q : Value → World → Prop) : Prop :=
 pN Tryd.prog (oBox 24 x0) w fun x1 w1 =>
 pN Tryd.prog (oLoad 24 x1) w1 fun x6 w2 =>
 pN Tryd.prog (oCall 26 [x6]) w2 fun x7 w3 =>
 pN Tryd.prog (oBin .neq 25 (.tmp 8) (.const (.int .i64 0)) x7 (.int .i64 0)) w3 fun x9 w4 =>
 pIf x9
 (Q (.tuple #[(.slice none 0 0), x7]) w4)
 (pDr w4 fun w5 =>
 pL Tryd.prog (oLoad 24 x1) w5 fun x11 =>
 pA Tryd.prog (oFld 24 x1 5) fun x12 =>
 pL Tryd.prog (oLoad 22 x12) w5 fun x13 =>
 pA Tryd.prog (oBi .len #[22] 3 [false] [x13]) fun x14 =>
 pA Tryd.prog (oFld 24 x1 5) fun x18 =>
 pL Tryd.prog (oLoad 22 x18) w5 fun x19 =>
 pN Tryd.prog (oBuild 65 [(0, x11), (1, x14)]) w5 fun x15 w6 =>
 ((Sem.run Tryd.prog (oLoad 22 x18) w6 = .ok (.value x19) w6) ∧ True) ∧ (pN Tryd.prog (oBox 65 x15) w6 fun x16 w7 =>
 ((Sem.run Tryd.prog (oLoad 22 x18) w7 = .ok (.value x19) w7) ∧ True) ∧ (pN Tryd.prog (oCall 27 [x16]) w7 fun x17 w8 =>
 ((Sem.run Tryd.prog (oLoad 22 x18) w8 = .ok (.value x19) w8) ∧ True) ∧ (pN Tryd.prog (oBi .append #[22, 22] 22 [false, false] [x17, x19]) w8 fun x20 w9 =>
 (True) ∧ (pN Tryd.prog (oBi .len #[22] 3 [false] [x20]) w9 fun x23 w10 =>
 pN Tryd.prog (oCall 28 [x23]) w10 fun x24 w11 =>
 pN Tryd.prog (oBi .append #[22, 3] 22 [false, false] [x20, x24]) w11 fun x25 w12 =>
 Q (.tuple #[x25, (.int .i64 0)]) w12)))))
noncomputable def tar_Put.c : Code := match Tryd.f8.body with | some c => c | none => .skip
theorem tar_Put.eq [Pan] (x0 : Value) (w : World) (Q : Value → World → Prop) : cw Tryd.prog tar_Put.H tar_Put.c (endQ Tryd.prog Tryd.f8.results.toList Q) (argsE [x0]) w = tar_Put.F x0 w Q := by kernel_rfl
theorem tar_Put.calls [Pan] {x0 : Value} {w : World} {Q : Value → World → Prop} (h : tar_Put.F x0 w Q) : Calls Tryd.prog 8 #[x0] w (retP Q) :=
  calls_of_cw (H := tar_Put.H) (c := tar_Put.c) (args := [x0]) mixed Tryd.func8 (by kernel_rfl) (by kernel_rfl) (Nat.le_of_ble_eq_true (by kernel_rfl)) ((tar_Put.eq x0 w Q).mpr h)

/-! tar_Get: pith/tar.Get; temporaries: 0:b 1:b 5:h 6:_ 7:f 8:n -/
def tar_Get.H : Hints := { cut := fun | 11 => some ([], 2199006478464) | _ => none, loop := fun | 7 => ([22], 4398042316928) | _ => ([], 0), order := fun | 3 => [(0, 0), (1, 1), (2, 3), (3, 7), (4, 15), (5, 31)] | 10 => [(0, 0), (1, 1), (2, 3), (3, 7), (4, 15), (5, 31), (6, 63), (7, 127), (8, 255), (9, 511), (10, 1023), (11, 2047)] | 12 => [(0, 0), (1, 1), (2, 3), (3, 7), (4, 15), (5, 31), (6, 63), (7, 127), (8, 255), (9, 511), (10, 1023), (11, 2047), (12, 4095), (13, 8191), (14, 16383), (15, 32767), (17, 65535), (18, 196607), (16, 458751), (19, 524287), (20, 1048575), (21, 2097151)] | 14 => [(0, 0), (1, 1), (2, 3), (3, 7), (4, 15), (5, 31), (6, 63)] | _ => [] }
def tar_Get.F [Pan] (x0 : Value) (w : World) (Q : Value → World → Prop) : Prop :=
 pN Tryd.prog (oAlloc 24) w fun x2 w1 =>
 pN Tryd.prog (oBi .len #[22] 3 [false] [x0]) w1 fun x10 w2 =>
 pN Tryd.prog (oBin .lss 3 (.tmp 10) (.const (.int .i64 512)) x10 (.int .i64 512)) w2 fun x11 w3 =>
 pIf x11
 (pN Tryd.prog (oBuild 24 []) w3 fun x12 w4 =>
 pN Tryd.prog (oStore 24 x2 x12) w4 fun _ w5 =>
 pL Tryd.prog (oRes 24 x2) w5 fun r2 =>
 Q (.tuple #[r2, (.int .i64 0), (.int .i64 1)]) w5)
 (pDr w3 fun w6 =>
 pA Tryd.prog (oSl 22 x0 (some (.int .i64 148)) (some (.int .i64 156)) none) fun x14 =>
 pN Tryd.prog (oCall 30 [x0]) w6 fun x16 w7 =>
 (True) ∧ (pN Tryd.prog (oCall 29 [x14, x16]) w7 fun x17 w8 =>
 (True) ∧ (pA Tryd.prog (oUn .not x17) fun x18 =>
 pIf x18
 (pN Tryd.prog (oBuild 24 []) w8 fun x19 w9 =>
 pN Tryd.prog (oStore 24 x2 x19) w9 fun _ w10 =>
 pL Tryd.prog (oRes 24 x2) w10 fun r2 =>
 Q (.tuple #[r2, (.int .i64 0), (.int .i64 3)]) w10)
 (pN Tryd.prog (oAlloc 65) w8 fun x5 w11 =>
 pN Tryd.prog (oCall 31 []) w11 fun x20 w12 =>
 pN Tryd.prog (oBi .len #[69] 3 [false] [x20]) w12 fun x21 w13 =>
 ∃ (L7 : Value → World → Prop) (m7 : Value → World → Nat),
 L7 (.int .i64 0) w13 ∧
 ∀ (_k7 : Env) (v22l7 : Value) (w14 : World), L7 v22l7 w14 →
 pN Tryd.prog (oBin .lss 3 (.tmp 22) (.tmp 21) v22l7 x21) w14 fun x23 w15 =>
 pIf x23
 (∃ I11 : World → Prop,
 (pN Tryd.prog (oIdx 69 x20 v22l7) w15 fun x24 w16 =>
 pN Tryd.prog (oLoad 73 x24) w16 fun x25 w17 =>
 pN Tryd.prog (oAlloc 73) w17 fun x7 w18 =>
 pN Tryd.prog (oStore 73 x7 x25) w18 fun _ w19 =>
 pN Tryd.prog (oFld 73 x7 3) w19 fun x26 w20 =>
 pN Tryd.prog (oLoad 71 x26) w20 fun x27 w21 =>
 pN Tryd.prog (oBin .neq 71 (.tmp 27) (.const .nilFunc) x27 .nilFunc) w21 fun x28 w22 =>
 pIf x28
 (pDr w22 fun w23 =>
 pA Tryd.prog (oFld 73 x7 3) fun x29 =>
 pL Tryd.prog (oLoad 71 x29) w23 fun x30 =>
 pA Tryd.prog (oFld 73 x7 0) fun x32 =>
 pL Tryd.prog (oLoad 3 x32) w23 fun x33 =>
 pA Tryd.prog (oFld 73 x7 0) fun x34 =>
 pL Tryd.prog (oLoad 3 x34) w23 fun x35 =>
 pA Tryd.prog (oFld 73 x7 1) fun x36 =>
 pL Tryd.prog (oLoad 3 x36) w23 fun x37 =>
 pA Tryd.prog (oBin .add 3 (.tmp 35) (.tmp 37) x35 x37) fun x38 =>
 pA Tryd.prog (oSl 22 x0 (some x33) (some x38) none) fun x39 =>
 pN Tryd.prog (oCallV x30 [x39, x5]) w23 fun _ w24 =>
 (True) ∧ (I11 w24))
 (I11 w22)) ∧
 ∀ (_j11 : Env) (w25 : World), I11 w25 →
 pN Tryd.prog (oBin .add 3 (.tmp 22) (.const (.int .i64 1)) v22l7 (.int .i64 1)) w25 fun x41 w26 =>
 (L7 x41 w26 ∧ m7 x41 w26 < m7 v22l7 w14))
 (pDr w15 fun w27 =>
 pA Tryd.prog (oFld 65 x5 0) fun x42 =>
 pL Tryd.prog (oLoad 24 x42) w27 fun x43 =>
 pN Tryd.prog (oCall 26 [x43]) w27 fun x44 w28 =>
 (True) ∧ (pA Tryd.prog (oBin .neq 25 (.tmp 44) (.const (.int .i64 0)) x44 (.int .i64 0)) fun x45 =>
 gA (gB x45 false) (pA Tryd.prog (oFld 65 x5 0)) fun x47 =>
 gA (gB x45 false) (pA Tryd.prog (oFld 24 x47 2)) fun x48 =>
 gA (gB x45 false) (pL Tryd.prog (oLoad 3 x48) w28) fun x49 =>
 gA (gB x45 false) (pA Tryd.prog (oBin .neq 3 (.tmp 49) (.const (.int .i64 0)) x49 (.int .i64 0))) fun x50 =>
 gA (gB x45 false) (pA Tryd.prog (oMv x50)) fun x51 =>
 gA (gB x51 true) (pA Tryd.prog (oFld 65 x5 1)) fun x52 =>
 gA (gB x51 true) (pL Tryd.prog (oLoad 3 x52) w28) fun x53 =>
 gA (gB x51 true) (pA Tryd.prog (oBin .gtr 3 (.tmp 53) (.const (.int .i64 0)) x53 (.int .i64 0))) fun x54 =>
 gA (gB x45 false) (pA Tryd.prog (oPick x51 x54 (.bool false))) fun x55 =>
 pA Tryd.prog (oPick x45 (.bool true) x55) fun x56 =>
 gA (gB x56 false) (pA Tryd.prog (oMv x0)) fun x59 =>
 gA (gB x56 false) (pA Tryd.prog (oSl 22 x59 none (some (.int .i64 512)) none)) fun x60 =>
 pGd (gB x56 false) (pN Tryd.prog (oCall 27 [x5]) w28) w28 fun x58 w29 =>
 (True) ∧ (pGd (gB x56 false) (pN Tryd.prog (oCall 29 [x58, x60]) w29) w29 fun x61 w30 =>
 (True) ∧ (gA (gB x56 false) (pA Tryd.prog (oUn .not x61)) fun x62 =>
 pA Tryd.prog (oPick x56 (.bool true) x62) fun x63 =>
 pIf x63
 (pN Tryd.prog (oBuild 24 []) w30 fun x64 w31 =>
 pN Tryd.prog (oStore 24 x2 x64) w31 fun _ w32 =>
 pL Tryd.prog (oRes 24 x2) w32 fun r2 =>
 Q (.tuple #[r2, (.int .i64 0), (.int .i64 2)]) w32)
 (pDr w30 fun w33 =>
 pA Tryd.prog (oFld 65 x5 1) fun x65 =>
 pL Tryd.prog (oLoad 3 x65) w33 fun x66 =>
 pA Tryd.prog (oFld 65 x5 1) fun x67 =>
 pL Tryd.prog (oLoad 3 x67) w33 fun x68 =>
 pN Tryd.prog (oCall 28 [x68]) w33 fun x69 w34 =>
 ((Sem.run Tryd.prog (oLoad 3 x65) w34 = .ok (.value x66) w34) ∧ True) ∧ (pA Tryd.prog (oBin .add 3 (.tmp 66) (.tmp 69) x66 x69) fun x70 =>
 pN Tryd.prog (oBi .len #[22] 3 [false] [x0]) w34 fun x73 w35 =>
 pN Tryd.prog (oBin .sub 3 (.tmp 73) (.const (.int .i64 512)) x73 (.int .i64 512)) w35 fun x74 w36 =>
 pN Tryd.prog (oBin .gtr 3 (.tmp 71) (.tmp 74) x70 x74) w36 fun x75 w37 =>
 pIf x75
 (pN Tryd.prog (oBuild 24 []) w37 fun x76 w38 =>
 pN Tryd.prog (oStore 24 x2 x76) w38 fun _ w39 =>
 pL Tryd.prog (oRes 24 x2) w39 fun r2 =>
 Q (.tuple #[r2, (.int .i64 0), (.int .i64 1)]) w39)
 (pN Tryd.prog (oBin .add 3 (.tmp 77) (.const (.int .i64 512)) x70 (.int .i64 512)) w37 fun x78 w40 =>
 pN Tryd.prog (oFld 65 x5 1) w40 fun x80 w41 =>
 pN Tryd.prog (oLoad 3 x80) w41 fun x81 w42 =>
 pN Tryd.prog (oBin .add 3 (.const (.int .i64 512)) (.tmp 81) (.int .i64 512) x81) w42 fun x82 w43 =>
 pN Tryd.prog (oSl 22 x0 (some x82) (some x78) none) w43 fun x84 w44 =>
 pN Tryd.prog (oCall 32 [x84]) w44 fun x85 w45 =>
 pN Tryd.prog (oUn .not x85) w45 fun x86 w46 =>
 pIf x86
 (pN Tryd.prog (oBuild 24 []) w46 fun x87 w47 =>
 pN Tryd.prog (oStore 24 x2 x87) w47 fun _ w48 =>
 pL Tryd.prog (oRes 24 x2) w48 fun r2 =>
 Q (.tuple #[r2, (.int .i64 0), (.int .i64 2)]) w48)
 (pN Tryd.prog (oFld 65 x5 1) w46 fun x89 w49 =>
 pN Tryd.prog (oLoad 3 x89) w49 fun x90 w50 =>
 pN Tryd.prog (oBin .add 3 (.const (.int .i64 512)) (.tmp 90) (.int .i64 512) x90) w50 fun x91 w51 =>
 pN Tryd.prog (oSl 22 x0 (some (.int .i64 512)) (some x91) none) w51 fun x92 w52 =>
 pN Tryd.prog (oBi .append #[22, 22] 22 [true, false] [(.slice none 0 0), x92]) w52 fun x93 w53 =>
 pN Tryd.prog (oFld 65 x5 0) w53 fun x94 w54 =>
 pN Tryd.prog (oFld 24 x94 5) w54 fun x95 w55 =>
 pN Tryd.prog (oStore 22 x95 x93) w55 fun _ w56 =>
 pN Tryd.prog (oFld 65 x5 0) w56 fun x96 w57 =>
 pN Tryd.prog (oLoad 24 x96) w57 fun x97 w58 =>
 pN Tryd.prog (oStore 24 x2 x97) w58 fun _ w59 =>
 pL Tryd.prog (oRes 24 x2) w59 fun r2 =>
 Q (.tuple #[r2, x78, (.int .i64 0)]) w59))))))))))))
noncomputable def tar_Get.c : Code := match Tryd.f11.body with | some c => c | none => .skip
theorem tar_Get.eq [Pan] (x0 : Value) (w : World) (Q : Value → World → Prop) : cw Tryd.prog tar_Get.H tar_Get.c (endQ Tryd.prog Tryd.f11.results.toList Q) (argsE [x0]) w = tar_Get.F x0 w Q := by kernel_rfl
theorem tar_Get.calls [Pan] {x0 : Value} {w : World} {Q : Value → World → Prop} (h : tar_Get.F x0 w Q) : Calls Tryd.prog 11 #[x0] w (retP Q) :=
  calls_of_cw (H := tar_Get.H) (c := tar_Get.c) (args := [x0]) mixed Tryd.func11 (by kernel_rfl) (by kernel_rfl) (Nat.le_of_ble_eq_true (by kernel_rfl)) ((tar_Get.eq x0 w Q).mpr h)

/-! tar_Write: pith/tar.Write; temporaries: 0:l 1:l 4:out 5:_ 6:x 7:b 8:err -/
def tar_Write.H : Hints := { cut := fun  | _ => none, loop := fun | 3 => ([4, 11], 134216156) | _ => ([], 0), order := fun  | _ => [] }
def tar_Write.F [Pan] (x0 : Value) (w : World) (Q : Value → World → Prop) : Prop :=
 pN Tryd.prog (oBi .len #[34] 3 [false] [x0]) w fun x10 w1 =>
 ∃ (L3 : Value → Value → World → Prop) (m3 : Value → Value → World → Nat),
 L3 (.slice none 0 0) (.int .i64 0) w1 ∧
 ∀ (_k3 : Env) (out4l3 : Value) (v11l3 : Value) (w2 : World), L3 out4l3 v11l3 w2 →
 pN Tryd.prog (oBin .lss 3 (.tmp 11) (.tmp 10) v11l3 x10) w2 fun x12 w3 =>
 pIf x12
 (pN Tryd.prog (oIdx 34 x0 v11l3) w3 fun x13 w4 =>
 pN Tryd.prog (oLoad 24 x13) w4 fun x14 w5 =>
 pN Tryd.prog (oAlloc 24) w5 fun x6 w6 =>
 pN Tryd.prog (oStore 24 x6 x14) w6 fun _ w7 =>
 pN Tryd.prog (oLoad 24 x6) w7 fun x16 w8 =>
 pN Tryd.prog (oCall 8 [x16]) w8 fun x17 w9 =>
 pN Tryd.prog (oExt x17 0) w9 fun x18 w10 =>
 pN Tryd.prog (oExt x17 1) w10 fun x19 w11 =>
 pN Tryd.prog (oBin .neq 25 (.tmp 20) (.const (.int .i64 0)) x19 (.int .i64 0)) w11 fun x21 w12 =>
 pIf x21
 (Q (.tuple #[(.slice none 0 0), x19]) w12)
 (pN Tryd.prog (oBi .append #[22, 22] 22 [false, false] [out4l3, x18]) w12 fun x25 w13 =>
 pN Tryd.prog (oBin .add 3 (.tmp 11) (.const (.int .i64 1)) v11l3 (.int .i64 1)) w13 fun x26 w14 =>
 (L3 x25 x26 w14 ∧ m3 x25 x26 w14 < m3 out4l3 v11l3 w2)))
 (pN Tryd.prog (oBi .append #[22, 3] 22 [false, true] [out4l3, (.int .i64 1024)]) w3 fun x28 w15 =>
 Q (.tuple #[x28, (.int .i64 0)]) w15)
noncomputable def tar_Write.c : Code := match Tryd.f15.body with | some c => c | none => .skip
theorem tar_Write.eq [Pan] (x0 : Value) (w : World) (Q : Value → World → Prop) : cw Tryd.prog tar_Write.H tar_Write.c (endQ Tryd.prog Tryd.f15.results.toList Q) (argsE [x0]) w = tar_Write.F x0 w Q := by kernel_rfl
theorem tar_Write.calls [Pan] {x0 : Value} {w : World} {Q : Value → World → Prop} (h : tar_Write.F x0 w Q) : Calls Tryd.prog 15 #[x0] w (retP Q) :=
  calls_of_cw (H := tar_Write.H) (c := tar_Write.c) (args := [x0]) mixed Tryd.func15 (by kernel_rfl) (by kernel_rfl) (Nat.le_of_ble_eq_true (by kernel_rfl)) ((tar_Write.eq x0 w Q).mpr h)

/-! tar_Items: pith/tar.Items; temporaries: 0:b 1:b -/
def tar_Items.H : Hints := { cut := fun  | _ => none, loop := fun  | _ => ([], 0), order := fun  | _ => [] }
def tar_Items.F [Pan] (x0 : Value) (w : World) (Q : Value → World → Prop) : Prop :=
 pN Tryd.prog (oBox 22 x0) w fun x1 w1 =>
 pN Tryd.prog (oLoad 22 x1) w1 fun x3 w2 =>
 pN Tryd.prog (oCall 41 [x3]) w2 fun x4 w3 =>
 pN Tryd.prog (oStore 22 x1 x4) w3 fun _ w4 =>
 pN Tryd.prog (oFn (.func 42) [] [x1]) w4 fun x5 w5 =>
 Q x5 w5
noncomputable def tar_Items.c : Code := match Tryd.f23.body with | some c => c | none => .skip
theorem tar_Items.eq [Pan] (x0 : Value) (w : World) (Q : Value → World → Prop) : cw Tryd.prog tar_Items.H tar_Items.c (endQ Tryd.prog Tryd.f23.results.toList Q) (argsE [x0]) w = tar_Items.F x0 w Q := by kernel_rfl
theorem tar_Items.calls [Pan] {x0 : Value} {w : World} {Q : Value → World → Prop} (h : tar_Items.F x0 w Q) : Calls Tryd.prog 23 #[x0] w (retP Q) :=
  calls_of_cw (H := tar_Items.H) (c := tar_Items.c) (args := [x0]) mixed Tryd.func23 (by kernel_rfl) (by kernel_rfl) (Nat.le_of_ble_eq_true (by kernel_rfl)) ((tar_Items.eq x0 w Q).mpr h)

/-! tar_wrong: pith/tar.wrong; temporaries: 0:x 1:x 3:_ 4:_ 5:named 6:link -/
def tar_wrong.H : Hints := { cut := fun | 6 => some ([17], 4398046380032) | 9 => some ([42], 9223367638808264704) | 13 => some ([63], 19342803890462029940523008) | 14 => some ([], 19342813113834066795167748) | _ => none, loop := fun  | _ => ([], 0), order := fun  | _ => [] }
def tar_wrong.F [Pan] (x0 : Value) (w : World) (Q : Value → World → Prop) : Prop :=
 pN Tryd.prog (oBox 24 x0) w fun x1 w1 =>
 pN Tryd.prog (oFld 24 x1 0) w1 fun x8 w2 =>
 pN Tryd.prog (oLoad 9 x8) w2 fun x9 w3 =>
 pN Tryd.prog (oCall 43 [x9]) w3 fun x10 w4 =>
 pN Tryd.prog (oExt x10 0) w4 fun _ w5 =>
 pN Tryd.prog (oExt x10 1) w5 fun _ w6 =>
 pN Tryd.prog (oExt x10 2) w6 fun x13 w7 =>
 pN Tryd.prog (oFld 24 x1 2) w7 fun x14 w8 =>
 pN Tryd.prog (oLoad 3 x14) w8 fun x15 w9 =>
 pN Tryd.prog (oBin .eql 3 (.tmp 15) (.const (.int .i64 2)) x15 (.int .i64 2)) w9 fun x16 w10 =>
 ∃ I14 : World → Prop,
 (∃ I6 : Value → World → Prop,
 (pN Tryd.prog (oFld 24 x1 2) w10 fun x18 w11 =>
 pN Tryd.prog (oLoad 3 x18) w11 fun x19 w12 =>
 pN Tryd.prog (oBin .lss 3 (.tmp 19) (.const (.int .i64 0)) x19 (.int .i64 0)) w12 fun x20 w13 =>
 pGd (gB x20 false) (pN Tryd.prog (oFld 24 x1 2) w13) w13 fun x22 w14 =>
 pGd (gB x20 false) (pN Tryd.prog (oLoad 3 x22) w14) w14 fun x23 w15 =>
 pGd (gB x20 false) (pN Tryd.prog (oBin .geq 3 (.tmp 23) (.const (.int .i64 3)) x23 (.int .i64 3)) w15) w15 fun x24 w16 =>
 pN Tryd.prog (oPick x20 (.bool true) x24) w16 fun x25 w17 =>
 pIf x25
 (I6 x25 w17)
 (pN Tryd.prog (oUn .not x16) w17 fun x27 w18 =>
 pGd (gB x27 true) (pN Tryd.prog (oFld 24 x1 1) w18) w18 fun x29 w19 =>
 pGd (gB x27 true) (pN Tryd.prog (oLoad 9 x29) w19) w19 fun x30 w20 =>
 pGd (gB x27 true) (pN Tryd.prog (oBin .neq 9 (.tmp 30) (.const (.string ⟨#[]⟩)) x30 (.string ⟨#[]⟩)) w20) w20 fun x31 w21 =>
 pN Tryd.prog (oPick x27 x31 (.bool false)) w21 fun x32 w22 =>
 pIf x32
 (I6 x32 w22)
 (pN Tryd.prog (oFld 24 x1 2) w22 fun x33 w23 =>
 pN Tryd.prog (oLoad 3 x33) w23 fun x34 w24 =>
 pN Tryd.prog (oBin .neq 3 (.tmp 34) (.const (.int .i64 0)) x34 (.int .i64 0)) w24 fun x35 w25 =>
 pGd (gB x35 true) (pN Tryd.prog (oFld 24 x1 5) w25) w25 fun x37 w26 =>
 pGd (gB x35 true) (pN Tryd.prog (oLoad 22 x37) w26) w26 fun x38 w27 =>
 pGd (gB x35 true) (pN Tryd.prog (oBi .len #[22] 3 [false] [x38]) w27) w27 fun x39 w28 =>
 pGd (gB x35 true) (pN Tryd.prog (oBin .gtr 3 (.tmp 39) (.const (.int .i64 0)) x39 (.int .i64 0)) w28) w28 fun x40 w29 =>
 pN Tryd.prog (oPick x35 x40 (.bool false)) w29 fun x41 w30 =>
 I6 x41 w30))) ∧
 ∀ (_j6 : Env) (v17c6 : Value) (w31 : World), I6 v17c6 w31 →
 pIf v17c6
 (Q (.int .i64 6) w31)
 (∃ I9 : Value → World → Prop,
 (pN Tryd.prog (oUn .not x13) w31 fun x44 w32 =>
 pIf x44
 (I9 x44 w32)
 (pGd (gB x16 true) (pN Tryd.prog (oFld 24 x1 1) w32) w32 fun x47 w33 =>
 pGd (gB x16 true) (pN Tryd.prog (oLoad 9 x47) w33) w33 fun x48 w34 =>
 pGd (gB x16 true) (pN Tryd.prog (oBin .eql 9 (.tmp 48) (.const (.string ⟨#[]⟩)) x48 (.string ⟨#[]⟩)) w34) w34 fun x49 w35 =>
 pGd (gB x16 true) (pN Tryd.prog (oMv x49) w35) w35 fun x50 w36 =>
 pGd (gB x50 false) (pN Tryd.prog (oFld 24 x1 1) w36) w36 fun x51 w37 =>
 pGd (gB x50 false) (pN Tryd.prog (oLoad 9 x51) w37) w37 fun x52 w38 =>
 pGd (gB x50 false) (pN Tryd.prog (oBi .len #[9] 3 [false] [x52]) w38) w38 fun x53 w39 =>
 pGd (gB x50 false) (pN Tryd.prog (oBin .gtr 3 (.tmp 53) (.const (.int .i64 100)) x53 (.int .i64 100)) w39) w39 fun x54 w40 =>
 pGd (gB x16 true) (pN Tryd.prog (oPick x50 (.bool true) x54) w40) w40 fun x55 w41 =>
 pGd (gB x16 true) (pN Tryd.prog (oMv x55) w41) w41 fun x56 w42 =>
 pGd (gB x56 false) (pN Tryd.prog (oFld 24 x1 1) w42) w42 fun x57 w43 =>
 pGd (gB x56 false) (pN Tryd.prog (oLoad 9 x57) w43) w43 fun x58 w44 =>
 pGd (gB x56 false) (pN Tryd.prog (oCall 44 [x58, (bv 0)]) w44) w44 fun x59 w45 =>
 pGd (gB x56 false) (pN Tryd.prog (oBin .geq 3 (.tmp 59) (.const (.int .i64 0)) x59 (.int .i64 0)) w45) w45 fun x60 w46 =>
 pGd (gB x16 true) (pN Tryd.prog (oPick x56 (.bool true) x60) w46) w46 fun x61 w47 =>
 pN Tryd.prog (oPick x16 x61 (.bool false)) w47 fun x62 w48 =>
 I9 x62 w48)) ∧
 ∀ (_j9 : Env) (v42c9 : Value) (w49 : World), I9 v42c9 w49 →
 pIf v42c9
 (Q (.int .i64 8) w49)
 (∃ I13 : Value → World → Prop,
 (pN Tryd.prog (oFld 24 x1 3) w49 fun x64 w50 =>
 pN Tryd.prog (oLoad 3 x64) w50 fun x65 w51 =>
 pN Tryd.prog (oBin .lss 3 (.tmp 65) (.const (.int .i64 0)) x65 (.int .i64 0)) w51 fun x66 w52 =>
 pGd (gB x66 false) (pN Tryd.prog (oFld 24 x1 3) w52) w52 fun x68 w53 =>
 pGd (gB x66 false) (pN Tryd.prog (oLoad 3 x68) w53) w53 fun x69 w54 =>
 pGd (gB x66 false) (pN Tryd.prog (oBin .geq 3 (.tmp 69) (.const (.int .i64 4096)) x69 (.int .i64 4096)) w54) w54 fun x70 w55 =>
 pN Tryd.prog (oPick x66 (.bool true) x70) w55 fun x71 w56 =>
 pIf x71
 (I13 x71 w56)
 (pN Tryd.prog (oFld 24 x1 4) w56 fun x72 w57 =>
 pN Tryd.prog (oLoad 3 x72) w57 fun x73 w58 =>
 pN Tryd.prog (oBin .lss 3 (.tmp 73) (.const (.int .i64 0)) x73 (.int .i64 0)) w58 fun x74 w59 =>
 pGd (gB x74 false) (pN Tryd.prog (oFld 24 x1 4) w59) w59 fun x76 w60 =>
 pGd (gB x74 false) (pN Tryd.prog (oLoad 3 x76) w60) w60 fun x77 w61 =>
 pGd (gB x74 false) (pN Tryd.prog (oBin .geq 3 (.tmp 77) (.const (.int .i64 8589934592)) x77 (.int .i64 8589934592)) w61) w61 fun x78 w62 =>
 pN Tryd.prog (oPick x74 (.bool true) x78) w62 fun x79 w63 =>
 pIf x79
 (I13 x79 w63)
 (pN Tryd.prog (oFld 24 x1 5) w63 fun x80 w64 =>
 pN Tryd.prog (oLoad 22 x80) w64 fun x81 w65 =>
 pN Tryd.prog (oBi .len #[22] 3 [false] [x81]) w65 fun x82 w66 =>
 pN Tryd.prog (oBin .geq 3 (.tmp 82) (.const (.int .i64 8589934592)) x82 (.int .i64 8589934592)) w66 fun x83 w67 =>
 I13 x83 w67))) ∧
 ∀ (_j13 : Env) (v63c13 : Value) (w68 : World), I13 v63c13 w68 →
 pIf v63c13
 (Q (.int .i64 7) w68)
 (I14 w68)))) ∧
 ∀ (_j14 : Env) (w69 : World), I14 w69 →
 Q (.int .i64 0) w69
noncomputable def tar_wrong.c : Code := match Tryd.f26.body with | some c => c | none => .skip
theorem tar_wrong.eq [Pan] (x0 : Value) (w : World) (Q : Value → World → Prop) : cw Tryd.prog tar_wrong.H tar_wrong.c (endQ Tryd.prog Tryd.f26.results.toList Q) (argsE [x0]) w = tar_wrong.F x0 w Q := by kernel_rfl
theorem tar_wrong.calls [Pan] {x0 : Value} {w : World} {Q : Value → World → Prop} (h : tar_wrong.F x0 w Q) : Calls Tryd.prog 26 #[x0] w (retP Q) :=
  calls_of_cw (H := tar_wrong.H) (c := tar_wrong.c) (args := [x0]) mixed Tryd.func26 (by kernel_rfl) (by kernel_rfl) (Nat.le_of_ble_eq_true (by kernel_rfl)) ((tar_wrong.eq x0 w Q).mpr h)

/-! tar_header: pith/tar.header; temporaries: 0:h 1:h 3:b 4:_ 5:f -/
def tar_header.H : Hints := { cut := fun  | _ => none, loop := fun | 3 => ([9], 134217248) | _ => ([], 0), order := fun | 5 => [(0, 0), (1, 1), (2, 3), (3, 7), (4, 15), (5, 31), (6, 63), (7, 127), (8, 255), (9, 511), (10, 1023), (11, 2047), (12, 4095)] | 7 => [(0, 0), (1, 1), (2, 3), (3, 7), (4, 15)] | _ => [] }
def tar_header.F [Pan] (x0 : Value) (w : World) (Q : Value → World → Prop) : Prop :=
 pN Tryd.prog (oMk 22 (.int .i64 512) (.int .i64 512)) w fun x6 w1 =>
 pN Tryd.prog (oCall 31 []) w1 fun x7 w2 =>
 pN Tryd.prog (oBi .len #[69] 3 [false] [x7]) w2 fun x8 w3 =>
 ∃ (L3 : Value → World → Prop) (m3 : Value → World → Nat),
 L3 (.int .i64 0) w3 ∧
 ∀ (_k3 : Env) (v9l3 : Value) (w4 : World), L3 v9l3 w4 →
 pN Tryd.prog (oBin .lss 3 (.tmp 9) (.tmp 8) v9l3 x8) w4 fun x10 w5 =>
 pIf x10
 (pN Tryd.prog (oIdx 69 x7 v9l3) w5 fun x11 w6 =>
 pN Tryd.prog (oLoad 73 x11) w6 fun x12 w7 =>
 pN Tryd.prog (oAlloc 73) w7 fun x5 w8 =>
 pN Tryd.prog (oStore 73 x5 x12) w8 fun _ w9 =>
 pDr w9 fun w10 =>
 pA Tryd.prog (oFld 73 x5 2) fun x13 =>
 pL Tryd.prog (oLoad 71 x13) w10 fun x14 =>
 pA Tryd.prog (oFld 73 x5 0) fun x16 =>
 pL Tryd.prog (oLoad 3 x16) w10 fun x17 =>
 pA Tryd.prog (oFld 73 x5 0) fun x18 =>
 pL Tryd.prog (oLoad 3 x18) w10 fun x19 =>
 pA Tryd.prog (oFld 73 x5 1) fun x20 =>
 pL Tryd.prog (oLoad 3 x20) w10 fun x21 =>
 pA Tryd.prog (oBin .add 3 (.tmp 19) (.tmp 21) x19 x21) fun x22 =>
 pA Tryd.prog (oSl 22 x6 (some x17) (some x22) none) fun x23 =>
 pN Tryd.prog (oCallV x14 [x23, x0]) w10 fun _ w11 =>
 (True) ∧ (pN Tryd.prog (oBin .add 3 (.tmp 9) (.const (.int .i64 1)) v9l3 (.int .i64 1)) w11 fun x26 w12 =>
 (L3 x26 w12 ∧ m3 x26 w12 < m3 v9l3 w4)))
 (pDr w5 fun w13 =>
 pA Tryd.prog (oSl 22 x6 (some (.int .i64 148)) none none) fun x28 =>
 pN Tryd.prog (oCall 30 [x6]) w13 fun x30 w14 =>
 (True) ∧ (pN Tryd.prog (oBi .copy #[22, 22] 3 [false, false] [x28, x30]) w14 fun _ w15 =>
 (True) ∧ (Q x6 w15)))
noncomputable def tar_header.c : Code := match Tryd.f27.body with | some c => c | none => .skip
theorem tar_header.eq [Pan] (x0 : Value) (w : World) (Q : Value → World → Prop) : cw Tryd.prog tar_header.H tar_header.c (endQ Tryd.prog Tryd.f27.results.toList Q) (argsE [x0]) w = tar_header.F x0 w Q := by kernel_rfl
theorem tar_header.calls [Pan] {x0 : Value} {w : World} {Q : Value → World → Prop} (h : tar_header.F x0 w Q) : Calls Tryd.prog 27 #[x0] w (retP Q) :=
  calls_of_cw (H := tar_header.H) (c := tar_header.c) (args := [x0]) mixed Tryd.func27 (by kernel_rfl) (by kernel_rfl) (Nat.le_of_ble_eq_true (by kernel_rfl)) ((tar_header.eq x0 w Q).mpr h)

/-! tar_pad: pith/tar.pad; temporaries: 0:n 1:n -/
def tar_pad.H : Hints := { cut := fun  | _ => none, loop := fun  | _ => ([], 0), order := fun  | _ => [] }
def tar_pad.F [Pan] (x0 : Value) (w : World) (Q : Value → World → Prop) : Prop :=
 pN Tryd.prog (oBin .rem 3 (.tmp 3) (.const (.int .i64 512)) x0 (.int .i64 512)) w fun x4 w1 =>
 pN Tryd.prog (oBin .sub 3 (.const (.int .i64 512)) (.tmp 4) (.int .i64 512) x4) w1 fun x5 w2 =>
 pN Tryd.prog (oBin .rem 3 (.tmp 5) (.const (.int .i64 512)) x5 (.int .i64 512)) w2 fun x6 w3 =>
 Q x6 w3
noncomputable def tar_pad.c : Code := match Tryd.f28.body with | some c => c | none => .skip
theorem tar_pad.eq [Pan] (x0 : Value) (w : World) (Q : Value → World → Prop) : cw Tryd.prog tar_pad.H tar_pad.c (endQ Tryd.prog Tryd.f28.results.toList Q) (argsE [x0]) w = tar_pad.F x0 w Q := by kernel_rfl
theorem tar_pad.calls [Pan] {x0 : Value} {w : World} {Q : Value → World → Prop} (h : tar_pad.F x0 w Q) : Calls Tryd.prog 28 #[x0] w (retP Q) :=
  calls_of_cw (H := tar_pad.H) (c := tar_pad.c) (args := [x0]) mixed Tryd.func28 (by kernel_rfl) (by kernel_rfl) (Nat.le_of_ble_eq_true (by kernel_rfl)) ((tar_pad.eq x0 w Q).mpr h)

/-! tar_sum: pith/tar.sum; temporaries: 0:b 1:b 3:n 4:i 5:c 6:f -/
def tar_sum.H : Hints := { cut := fun | 7 => some ([5], 2064416) | 8 => some ([3], 33550392) | _ => none, loop := fun | 3 => ([3, 10], 67107896) | _ => ([], 0), order := fun  | _ => [] }
def tar_sum.F [Pan] (x0 : Value) (w : World) (Q : Value → World → Prop) : Prop :=
 pN Tryd.prog (oSl 22 x0 none (some (.int .i64 512)) none) w fun x8 w1 =>
 pN Tryd.prog (oBi .len #[22] 3 [false] [x8]) w1 fun x9 w2 =>
 ∃ (L3 : Value → Value → World → Prop) (m3 : Value → Value → World → Nat),
 L3 (.int .i64 0) (.int .i64 0) w2 ∧
 ∀ (_k3 : Env) (n3l3 : Value) (v10l3 : Value) (w3 : World), L3 n3l3 v10l3 w3 →
 pN Tryd.prog (oBin .lss 3 (.tmp 10) (.tmp 9) v10l3 x9) w3 fun x11 w4 =>
 pIf x11
 (∃ I8 : Value → World → Prop,
 (pN Tryd.prog (oIdx 22 x8 v10l3) w4 fun x13 w5 =>
 pN Tryd.prog (oLoad 5 x13) w5 fun x14 w6 =>
 ∃ I7 : Value → World → Prop,
 (pN Tryd.prog (oBin .geq 3 (.tmp 15) (.const (.int .i64 148)) v10l3 (.int .i64 148)) w6 fun x16 w7 =>
 pGd (gB x16 true) (pN Tryd.prog (oMv v10l3) w7) w7 fun x18 w8 =>
 pGd (gB x16 true) (pN Tryd.prog (oBin .lss 3 (.tmp 18) (.const (.int .i64 156)) x18 (.int .i64 156)) w8) w8 fun x19 w9 =>
 pN Tryd.prog (oPick x16 x19 (.bool false)) w9 fun x20 w10 =>
 pIf x20
 (I7 (bv 32) w10)
 (I7 x14 w10)) ∧
 ∀ (_j7 : Env) (c5c7 : Value) (w11 : World), I7 c5c7 w11 →
 pN Tryd.prog (oConv 5 3 c5c7) w11 fun x23 w12 =>
 pN Tryd.prog (oBin .add 3 (.tmp 21) (.tmp 23) n3l3 x23) w12 fun x24 w13 =>
 I8 x24 w13) ∧
 ∀ (_j8 : Env) (n3c8 : Value) (w14 : World), I8 n3c8 w14 →
 pN Tryd.prog (oBin .add 3 (.tmp 10) (.const (.int .i64 1)) v10l3 (.int .i64 1)) w14 fun x25 w15 =>
 (L3 n3c8 x25 w15 ∧ m3 n3c8 x25 w15 < m3 n3l3 v10l3 w3))
 (pN Tryd.prog (oMk 22 (.int .i64 8) (.int .i64 8)) w4 fun x26 w16 =>
 pN Tryd.prog (oSl 22 x26 none (some (.int .i64 7)) none) w16 fun x28 w17 =>
 pN Tryd.prog (oCall 45 [x28, n3l3]) w17 fun _ w18 =>
 pN Tryd.prog (oIdx 22 x26 (.int .i64 7)) w18 fun x32 w19 =>
 pN Tryd.prog (oStore 5 x32 (bv 32)) w19 fun _ w20 =>
 Q x26 w20)
noncomputable def tar_sum.c : Code := match Tryd.f30.body with | some c => c | none => .skip
theorem tar_sum.eq [Pan] (x0 : Value) (w : World) (Q : Value → World → Prop) : cw Tryd.prog tar_sum.H tar_sum.c (endQ Tryd.prog Tryd.f30.results.toList Q) (argsE [x0]) w = tar_sum.F x0 w Q := by kernel_rfl
theorem tar_sum.calls [Pan] {x0 : Value} {w : World} {Q : Value → World → Prop} (h : tar_sum.F x0 w Q) : Calls Tryd.prog 30 #[x0] w (retP Q) :=
  calls_of_cw (H := tar_sum.H) (c := tar_sum.c) (args := [x0]) mixed Tryd.func30 (by kernel_rfl) (by kernel_rfl) (Nat.le_of_ble_eq_true (by kernel_rfl)) ((tar_sum.eq x0 w Q).mpr h)

/-! tar_fields: pith/tar.fields; temporaries:  -/
def tar_fields.H : Hints := { cut := fun  | _ => none, loop := fun  | _ => ([], 0), order := fun  | _ => [] }
def tar_fields.F [Pan]  (w : World) (Q : Value → World → Prop) : Prop :=
 pN Tryd.prog (oBuild 73 [(0, (.int .i64 0)), (1, (.int .i64 100)), (2, (.func (.func 46) #[] #[])), (3, (.func (.func 47) #[] #[]))]) w fun x1 w1 =>
 pN Tryd.prog (oBuild 73 [(0, (.int .i64 100)), (1, (.int .i64 8)), (2, (.func (.func 49) #[] #[])), (3, (.func (.func 50) #[] #[]))]) w1 fun x2 w2 =>
 pN Tryd.prog (oBuild 73 [(0, (.int .i64 108)), (1, (.int .i64 8)), (2, (.func (.func 52) #[] #[])), (3, .nilFunc)]) w2 fun x3 w3 =>
 pN Tryd.prog (oBuild 73 [(0, (.int .i64 116)), (1, (.int .i64 8)), (2, (.func (.func 52) #[] #[])), (3, .nilFunc)]) w3 fun x4 w4 =>
 pN Tryd.prog (oBuild 73 [(0, (.int .i64 124)), (1, (.int .i64 12)), (2, (.func (.func 53) #[] #[])), (3, (.func (.func 54) #[] #[]))]) w4 fun x5 w5 =>
 pN Tryd.prog (oBuild 73 [(0, (.int .i64 136)), (1, (.int .i64 12)), (2, (.func (.func 55) #[] #[])), (3, (.func (.func 56) #[] #[]))]) w5 fun x6 w6 =>
 pN Tryd.prog (oBuild 73 [(0, (.int .i64 156)), (1, (.int .i64 1)), (2, (.func (.func 57) #[] #[])), (3, (.func (.func 58) #[] #[]))]) w6 fun x7 w7 =>
 pN Tryd.prog (oBuild 73 [(0, (.int .i64 157)), (1, (.int .i64 100)), (2, (.func (.func 59) #[] #[])), (3, (.func (.func 60) #[] #[]))]) w7 fun x8 w8 =>
 pN Tryd.prog (oBuild 73 [(0, (.int .i64 257)), (1, (.int .i64 8)), (2, (.func (.func 61) #[] #[])), (3, .nilFunc)]) w8 fun x9 w9 =>
 pN Tryd.prog (oBuild 73 [(0, (.int .i64 329)), (1, (.int .i64 8)), (2, (.func (.func 52) #[] #[])), (3, .nilFunc)]) w9 fun x10 w10 =>
 pN Tryd.prog (oBuild 73 [(0, (.int .i64 337)), (1, (.int .i64 8)), (2, (.func (.func 52) #[] #[])), (3, .nilFunc)]) w10 fun x11 w11 =>
 pN Tryd.prog (oBuild 73 [(0, (.int .i64 345)), (1, (.int .i64 155)), (2, (.func (.func 62) #[] #[])), (3, (.func (.func 63) #[] #[]))]) w11 fun x12 w12 =>
 pN Tryd.prog (oBs 69 12 [(0, x1), (1, x2), (2, x3), (3, x4), (4, x5), (5, x6), (6, x7), (7, x8), (8, x9), (9, x10), (10, x11), (11, x12)]) w12 fun x13 w13 =>
 Q x13 w13
noncomputable def tar_fields.c : Code := match Tryd.f31.body with | some c => c | none => .skip
theorem tar_fields.eq [Pan]  (w : World) (Q : Value → World → Prop) : cw Tryd.prog tar_fields.H tar_fields.c (endQ Tryd.prog Tryd.f31.results.toList Q) (argsE []) w = tar_fields.F  w Q := by kernel_rfl
theorem tar_fields.calls [Pan]  {w : World} {Q : Value → World → Prop} (h : tar_fields.F  w Q) : Calls Tryd.prog 31 #[] w (retP Q) :=
  calls_of_cw (H := tar_fields.H) (c := tar_fields.c) (args := []) mixed Tryd.func31 (by kernel_rfl) (by kernel_rfl) (Nat.le_of_ble_eq_true (by kernel_rfl)) ((tar_fields.eq  w Q).mpr h)

/-! tar_zero: pith/tar.zero; temporaries: 0:b 1:b -/
def tar_zero.H : Hints := { cut := fun  | _ => none, loop := fun  | _ => ([], 0), order := fun  | _ => [] }
def tar_zero.F [Pan] (x0 : Value) (w : World) (Q : Value → World → Prop) : Prop :=
 pN Tryd.prog (oCall 64 [x0, (.string ⟨#[0]⟩)]) w fun x4 w1 =>
 pN Tryd.prog (oBi .len #[22] 3 [false] [x4]) w1 fun x5 w2 =>
 pN Tryd.prog (oBin .eql 3 (.tmp 5) (.const (.int .i64 0)) x5 (.int .i64 0)) w2 fun x6 w3 =>
 Q x6 w3
noncomputable def tar_zero.c : Code := match Tryd.f32.body with | some c => c | none => .skip
theorem tar_zero.eq [Pan] (x0 : Value) (w : World) (Q : Value → World → Prop) : cw Tryd.prog tar_zero.H tar_zero.c (endQ Tryd.prog Tryd.f32.results.toList Q) (argsE [x0]) w = tar_zero.F x0 w Q := by kernel_rfl
theorem tar_zero.calls [Pan] {x0 : Value} {w : World} {Q : Value → World → Prop} (h : tar_zero.F x0 w Q) : Calls Tryd.prog 32 #[x0] w (retP Q) :=
  calls_of_cw (H := tar_zero.H) (c := tar_zero.c) (args := [x0]) mixed Tryd.func32 (by kernel_rfl) (by kernel_rfl) (Nat.le_of_ble_eq_true (by kernel_rfl)) ((tar_zero.eq x0 w Q).mpr h)

/-! tar_Items_c1: pith/tar.Items$1; temporaries: 0:yield 2:yield 3:left 4:x 5:n 6:err -/
def tar_Items_c1.H : Hints := { cut := fun  | _ => none, loop := fun | 1 => ([3], 34359738232) | _ => ([], 0), order := fun  | _ => [] }
def tar_Items_c1.F [Pan] (x0 : Value) (x1 : Value) (w : World) (Q : Value → World → Prop) : Prop :=
 pN Tryd.prog (oLoad 22 x1) w fun x7 w1 =>
 ∃ (L1 : Value → World → Prop) (m1 : Value → World → Nat),
 L1 x7 w1 ∧
 ∀ (_k1 : Env) (left3l1 : Value) (w2 : World), L1 left3l1 w2 →
 pN Tryd.prog (oBi .len #[22] 3 [false] [left3l1]) w2 fun x9 w3 =>
 pN Tryd.prog (oBin .geq 3 (.tmp 9) (.const (.int .i64 512)) x9 (.int .i64 512)) w3 fun x10 w4 =>
 pGd (gB x10 true) (pN Tryd.prog (oMv left3l1) w4) w4 fun x12 w5 =>
 pGd (gB x10 true) (pN Tryd.prog (oSl 22 x12 none (some (.int .i64 512)) none) w5) w5 fun x13 w6 =>
 pGd (gB x10 true) (pN Tryd.prog (oCall 32 [x13]) w6) w6 fun x14 w7 =>
 pGd (gB x10 true) (pN Tryd.prog (oUn .not x14) w7) w7 fun x15 w8 =>
 pN Tryd.prog (oPick x10 x15 (.bool false)) w8 fun x16 w9 =>
 pIf x16
 (pN Tryd.prog (oCall 11 [left3l1]) w9 fun x19 w10 =>
 pN Tryd.prog (oExt x19 0) w10 fun x20 w11 =>
 pN Tryd.prog (oExt x19 1) w11 fun x21 w12 =>
 pN Tryd.prog (oExt x19 2) w12 fun x22 w13 =>
 pN Tryd.prog (oAlloc 24) w13 fun x4 w14 =>
 pN Tryd.prog (oStore 24 x4 x20) w14 fun _ w15 =>
 pN Tryd.prog (oLoad 24 x4) w15 fun x24 w16 =>
 pN Tryd.prog (oCallV x0 [x24, x22]) w16 fun x26 w17 =>
 pN Tryd.prog (oUn .not x26) w17 fun x27 w18 =>
 pGd (gB x27 false) (pN Tryd.prog (oMv x22) w18) w18 fun x29 w19 =>
 pGd (gB x27 false) (pN Tryd.prog (oBin .neq 25 (.tmp 29) (.const (.int .i64 0)) x29 (.int .i64 0)) w19) w19 fun x30 w20 =>
 pN Tryd.prog (oPick x27 (.bool true) x30) w20 fun x31 w21 =>
 pIf x31
 (Q (.tuple #[]) w21)
 (pN Tryd.prog (oSl 22 left3l1 (some x21) none none) w21 fun x34 w22 =>
 (L1 x34 w22 ∧ m1 x34 w22 < m1 left3l1 w2)))
 (pN Tryd.prog (oBi .len #[22] 3 [false] [left3l1]) w9 fun x37 w23 =>
 pN Tryd.prog (oBin .lss 3 (.tmp 37) (.const (.int .i64 1024)) x37 (.int .i64 1024)) w23 fun x38 w24 =>
 pIf x38
 (pN Tryd.prog (oBuild 24 []) w24 fun x40 w25 =>
 pN Tryd.prog (oCallV x0 [x40, (.int .i64 1)]) w25 fun _ w26 =>
 Q (.tuple #[]) w26)
 (pN Tryd.prog (oBi .len #[22] 3 [false] [left3l1]) w24 fun x44 w27 =>
 pN Tryd.prog (oBin .gtr 3 (.tmp 44) (.const (.int .i64 1024)) x44 (.int .i64 1024)) w27 fun x45 w28 =>
 pGd (gB x45 false) (pN Tryd.prog (oMv left3l1) w28) w28 fun x47 w29 =>
 pGd (gB x45 false) (pN Tryd.prog (oCall 32 [x47]) w29) w29 fun x48 w30 =>
 pGd (gB x45 false) (pN Tryd.prog (oUn .not x48) w30) w30 fun x49 w31 =>
 pN Tryd.prog (oPick x45 (.bool true) x49) w31 fun x50 w32 =>
 pIf x50
 (pN Tryd.prog (oBuild 24 []) w32 fun x52 w33 =>
 pN Tryd.prog (oCallV x0 [x52, (.int .i64 2)]) w33 fun _ w34 =>
 Q (.tuple #[]) w34)
 (Q (.tuple #[]) w32)))
noncomputable def tar_Items_c1.c : Code := match Tryd.f42.body with | some c => c | none => .skip
theorem tar_Items_c1.eq [Pan] (x0 : Value) (x1 : Value) (w : World) (Q : Value → World → Prop) : cw Tryd.prog tar_Items_c1.H tar_Items_c1.c (endQ Tryd.prog Tryd.f42.results.toList Q) (argsE [x0, x1]) w = tar_Items_c1.F x0 x1 w Q := by kernel_rfl
theorem tar_Items_c1.calls [Pan] {x0 : Value} {x1 : Value} {w : World} {Q : Value → World → Prop} (h : tar_Items_c1.F x0 x1 w Q) : Calls Tryd.prog 42 #[x0, x1] w (retP Q) :=
  calls_of_cw (H := tar_Items_c1.H) (c := tar_Items_c1.c) (args := [x0, x1]) mixed Tryd.func42 (by kernel_rfl) (by kernel_rfl) (Nat.le_of_ble_eq_true (by kernel_rfl)) ((tar_Items_c1.eq x0 x1 w Q).mpr h)

/-! tar_parted: pith/tar.parted; temporaries: 0:name 1:name 5:i -/
def tar_parted.H : Hints := { cut := fun  | _ => none, loop := fun | 6 => ([5], 281474972516412) | _ => ([], 0), order := fun | 9 => [(0, 0), (1, 1), (2, 3), (3, 7), (4, 15), (5, 31), (6, 63), (7, 127), (8, 255), (9, 511), (10, 1023), (11, 2047), (12, 4095), (13, 8191), (14, 16383), (15, 32767), (16, 65535), (17, 131071), (18, 262143)] | _ => [] }
def tar_parted.F [Pan] (x0 : Value) (w : World) (Q : Value → World → Prop) : Prop :=
 pN Tryd.prog (oBin .eql 9 (.tmp 6) (.const (.string ⟨#[]⟩)) x0 (.string ⟨#[]⟩)) w fun x7 w1 =>
 pGd (gB x7 false) (pN Tryd.prog (oMv x0) w1) w1 fun x9 w2 =>
 pGd (gB x7 false) (pN Tryd.prog (oCall 44 [x9, (bv 0)]) w2) w2 fun x10 w3 =>
 pGd (gB x7 false) (pN Tryd.prog (oBin .geq 3 (.tmp 10) (.const (.int .i64 0)) x10 (.int .i64 0)) w3) w3 fun x11 w4 =>
 pN Tryd.prog (oPick x7 (.bool true) x11) w4 fun x12 w5 =>
 pIf x12
 (Q (.tuple #[(.string ⟨#[]⟩), (.string ⟨#[]⟩), (.bool false)]) w5)
 (pN Tryd.prog (oBi .len #[9] 3 [false] [x0]) w5 fun x14 w6 =>
 pN Tryd.prog (oBin .leq 3 (.tmp 14) (.const (.int .i64 100)) x14 (.int .i64 100)) w6 fun x15 w7 =>
 pIf x15
 (Q (.tuple #[(.string ⟨#[]⟩), x0, (.bool true)]) w7)
 (pN Tryd.prog (oBi .len #[9] 3 [false] [x0]) w7 fun x18 w8 =>
 pN Tryd.prog (oBin .sub 3 (.tmp 18) (.const (.int .i64 1)) x18 (.int .i64 1)) w8 fun x19 w9 =>
 pN Tryd.prog (oBin .sub 3 (.tmp 19) (.const (.int .i64 100)) x19 (.int .i64 100)) w9 fun x20 w10 =>
 pN Tryd.prog (oBi .max #[3, 3] 3 [true, false] [(.int .i64 1), x20]) w10 fun x21 w11 =>
 ∃ (L6 : Value → World → Prop) (m6 : Value → World → Nat),
 L6 x21 w11 ∧
 ∀ (_k6 : Env) (i5l6 : Value) (w12 : World), L6 i5l6 w12 →
 pN Tryd.prog (oBi .len #[9] 3 [false] [x0]) w12 fun x24 w13 =>
 pN Tryd.prog (oBin .lss 3 (.tmp 22) (.tmp 24) i5l6 x24) w13 fun x25 w14 =>
 pIf x25
 (pN Tryd.prog (oIndex 9 x0 i5l6) w14 fun x30 w15 =>
 pN Tryd.prog (oBin .eql 5 (.tmp 30) (.const (.int .u8 47)) x30 (bv 47)) w15 fun x31 w16 =>
 pIf x31
 (pDr w16 fun w17 =>
 pA Tryd.prog (oSl 9 x0 none (some i5l6) none) fun x34 =>
 pA Tryd.prog (oBin .add 3 (.tmp 36) (.const (.int .i64 1)) i5l6 (.int .i64 1)) fun x37 =>
 pA Tryd.prog (oSl 9 x0 (some x37) none none) fun x38 =>
 pA Tryd.prog (oBin .leq 3 (.tmp 39) (.const (.int .i64 155)) i5l6 (.int .i64 155)) fun x40 =>
 gA (gB x40 true) (pA Tryd.prog (oMv i5l6)) fun x42 =>
 gA (gB x40 true) (pA Tryd.prog (oBin .add 3 (.tmp 42) (.const (.int .i64 1)) x42 (.int .i64 1))) fun x43 =>
 gA (gB x40 true) (pA Tryd.prog (oMv x0)) fun x44 =>
 gA (gB x40 true) (pA Tryd.prog (oBi .len #[9] 3 [false] [x44])) fun x45 =>
 gA (gB x40 true) (pA Tryd.prog (oBin .lss 3 (.tmp 43) (.tmp 45) x43 x45)) fun x46 =>
 pA Tryd.prog (oPick x40 x46 (.bool false)) fun x47 =>
 Q (.tuple #[x34, x38, x47]) w17)
 (pN Tryd.prog (oBin .add 3 (.tmp 26) (.const (.int .i64 1)) i5l6 (.int .i64 1)) w16 fun x27 w18 =>
 (L6 x27 w18 ∧ m6 x27 w18 < m6 i5l6 w12)))
 (Q (.tuple #[(.string ⟨#[]⟩), (.string ⟨#[]⟩), (.bool false)]) w14)))
noncomputable def tar_parted.c : Code := match Tryd.f43.body with | some c => c | none => .skip
theorem tar_parted.eq [Pan] (x0 : Value) (w : World) (Q : Value → World → Prop) : cw Tryd.prog tar_parted.H tar_parted.c (endQ Tryd.prog Tryd.f43.results.toList Q) (argsE [x0]) w = tar_parted.F x0 w Q := by kernel_rfl
theorem tar_parted.calls [Pan] {x0 : Value} {w : World} {Q : Value → World → Prop} (h : tar_parted.F x0 w Q) : Calls Tryd.prog 43 #[x0] w (retP Q) :=
  calls_of_cw (H := tar_parted.H) (c := tar_parted.c) (args := [x0]) mixed Tryd.func43 (by kernel_rfl) (by kernel_rfl) (Nat.le_of_ble_eq_true (by kernel_rfl)) ((tar_parted.eq x0 w Q).mpr h)

/-! tar_octal: pith/tar.octal; temporaries: 0:b 1:v 2:b 3:v 4:i -/
def tar_octal.H : Hints := { cut := fun  | _ => none, loop := fun | 1 => ([1, 4], 2096914) | _ => ([], 0), order := fun  | _ => [] }
def tar_octal.F [Pan] (x0 : Value) (x1 : Value) (w : World) (Q : Value → World → Prop) : Prop :=
 pN Tryd.prog (oBi .len #[22] 3 [false] [x0]) w fun x6 w1 =>
 pN Tryd.prog (oBin .sub 3 (.tmp 6) (.const (.int .i64 2)) x6 (.int .i64 2)) w1 fun x7 w2 =>
 ∃ (L1 : Value → Value → World → Prop) (m1 : Value → Value → World → Nat),
 L1 x1 x7 w2 ∧
 ∀ (_k1 : Env) (v1l1 : Value) (i4l1 : Value) (w3 : World), L1 v1l1 i4l1 w3 →
 pN Tryd.prog (oBin .geq 3 (.tmp 8) (.const (.int .i64 0)) i4l1 (.int .i64 0)) w3 fun x9 w4 =>
 pIf x9
 (pN Tryd.prog (oBin .and 3 (.tmp 14) (.const (.int .i64 7)) v1l1 (.int .i64 7)) w4 fun x15 w5 =>
 pN Tryd.prog (oConv 3 5 x15) w5 fun x16 w6 =>
 pN Tryd.prog (oBin .add 5 (.const (.int .u8 48)) (.tmp 16) (bv 48) x16) w6 fun x17 w7 =>
 pN Tryd.prog (oIdx 22 x0 i4l1) w7 fun x18 w8 =>
 pN Tryd.prog (oStore 5 x18 x17) w8 fun _ w9 =>
 pN Tryd.prog (oBin .shr 3 (.tmp 19) (.const (.int .u64 3)) v1l1 (.int .u64 3)) w9 fun x20 w10 =>
 pN Tryd.prog (oBin .sub 3 (.tmp 10) (.const (.int .i64 1)) i4l1 (.int .i64 1)) w10 fun x11 w11 =>
 (L1 x20 x11 w11 ∧ m1 x20 x11 w11 < m1 v1l1 i4l1 w3))
 (Q (.tuple #[]) w4)
noncomputable def tar_octal.c : Code := match Tryd.f45.body with | some c => c | none => .skip
theorem tar_octal.eq [Pan] (x0 : Value) (x1 : Value) (w : World) (Q : Value → World → Prop) : cw Tryd.prog tar_octal.H tar_octal.c (endQ Tryd.prog Tryd.f45.results.toList Q) (argsE [x0, x1]) w = tar_octal.F x0 x1 w Q := by kernel_rfl
theorem tar_octal.calls [Pan] {x0 : Value} {x1 : Value} {w : World} {Q : Value → World → Prop} (h : tar_octal.F x0 x1 w Q) : Calls Tryd.prog 45 #[x0, x1] w (retP Q) :=
  calls_of_cw (H := tar_octal.H) (c := tar_octal.c) (args := [x0, x1]) mixed Tryd.func45 (by kernel_rfl) (by kernel_rfl) (Nat.le_of_ble_eq_true (by kernel_rfl)) ((tar_octal.eq x0 x1 w Q).mpr h)

/-! tar_fields_c1: pith/tar.fields$1; temporaries: 0:b 1:h 2:b 3:h 4:_ 5:r 6:_ -/
def tar_fields_c1.H : Hints := { cut := fun  | _ => none, loop := fun  | _ => ([], 0), order := fun  | _ => [] }
def tar_fields_c1.F [Pan] (x0 : Value) (x1 : Value) (w : World) (Q : Value → World → Prop) : Prop :=
 pN Tryd.prog (oNil x1) w fun x9 w1 =>
 pN Tryd.prog (oFld 65 x9 0) w1 fun x10 w2 =>
 pN Tryd.prog (oFld 24 x10 0) w2 fun x11 w3 =>
 pN Tryd.prog (oLoad 9 x11) w3 fun x12 w4 =>
 pN Tryd.prog (oCall 43 [x12]) w4 fun x13 w5 =>
 pN Tryd.prog (oExt x13 0) w5 fun _ w6 =>
 pN Tryd.prog (oExt x13 1) w6 fun x15 w7 =>
 pN Tryd.prog (oExt x13 2) w7 fun _ w8 =>
 pN Tryd.prog (oBi .copy #[22, 9] 3 [false, false] [x0, x15]) w8 fun _ w9 =>
 Q (.tuple #[]) w9
noncomputable def tar_fields_c1.c : Code := match Tryd.f46.body with | some c => c | none => .skip
theorem tar_fields_c1.eq [Pan] (x0 : Value) (x1 : Value) (w : World) (Q : Value → World → Prop) : cw Tryd.prog tar_fields_c1.H tar_fields_c1.c (endQ Tryd.prog Tryd.f46.results.toList Q) (argsE [x0, x1]) w = tar_fields_c1.F x0 x1 w Q := by kernel_rfl
theorem tar_fields_c1.calls [Pan] {x0 : Value} {x1 : Value} {w : World} {Q : Value → World → Prop} (h : tar_fields_c1.F x0 x1 w Q) : Calls Tryd.prog 46 #[x0, x1] w (retP Q) :=
  calls_of_cw (H := tar_fields_c1.H) (c := tar_fields_c1.c) (args := [x0, x1]) mixed Tryd.func46 (by kernel_rfl) (by kernel_rfl) (Nat.le_of_ble_eq_true (by kernel_rfl)) ((tar_fields_c1.eq x0 x1 w Q).mpr h)

/-! tar_fields_c2: pith/tar.fields$2; temporaries: 0:b 1:h 2:b 3:h -/
def tar_fields_c2.H : Hints := { cut := fun  | _ => none, loop := fun  | _ => ([], 0), order := fun  | _ => [] }
def tar_fields_c2.F [Pan] (x0 : Value) (x1 : Value) (w : World) (Q : Value → World → Prop) : Prop :=
 pN Tryd.prog (oCall 48 [x0]) w fun x6 w1 =>
 pN Tryd.prog (oNil x1) w1 fun x7 w2 =>
 pN Tryd.prog (oFld 65 x7 0) w2 fun x8 w3 =>
 pN Tryd.prog (oFld 24 x8 0) w3 fun x9 w4 =>
 pN Tryd.prog (oStore 9 x9 x6) w4 fun _ w5 =>
 Q (.tuple #[]) w5
noncomputable def tar_fields_c2.c : Code := match Tryd.f47.body with | some c => c | none => .skip
theorem tar_fields_c2.eq [Pan] (x0 : Value) (x1 : Value) (w : World) (Q : Value → World → Prop) : cw Tryd.prog tar_fields_c2.H tar_fields_c2.c (endQ Tryd.prog Tryd.f47.results.toList Q) (argsE [x0, x1]) w = tar_fields_c2.F x0 x1 w Q := by kernel_rfl
theorem tar_fields_c2.calls [Pan] {x0 : Value} {x1 : Value} {w : World} {Q : Value → World → Prop} (h : tar_fields_c2.F x0 x1 w Q) : Calls Tryd.prog 47 #[x0, x1] w (retP Q) :=
  calls_of_cw (H := tar_fields_c2.H) (c := tar_fields_c2.c) (args := [x0, x1]) mixed Tryd.func47 (by kernel_rfl) (by kernel_rfl) (Nat.le_of_ble_eq_true (by kernel_rfl)) ((tar_fields_c2.eq x0 x1 w Q).mpr h)

/-! tar_text: pith/tar.text; temporaries: 0:b 1:b 3:s 4:_ 5:_ -/
def tar_text.H : Hints := { cut := fun  | _ => none, loop := fun  | _ => ([], 0), order := fun  | _ => [] }
def tar_text.F [Pan] (x0 : Value) (w : World) (Q : Value → World → Prop) : Prop :=
 pN Tryd.prog (oBs 22 1 [(0, (bv 0))]) w fun x8 w1 =>
 pN Tryd.prog (oCall 71 [x0, x8]) w1 fun x9 w2 =>
 pN Tryd.prog (oExt x9 0) w2 fun x10 w3 =>
 pN Tryd.prog (oExt x9 1) w3 fun _ w4 =>
 pN Tryd.prog (oExt x9 2) w4 fun _ w5 =>
 pN Tryd.prog (oConv 22 9 x10) w5 fun x14 w6 =>
 Q x14 w6
noncomputable def tar_text.c : Code := match Tryd.f48.body with | some c => c | none => .skip
theorem tar_text.eq [Pan] (x0 : Value) (w : World) (Q : Value → World → Prop) : cw Tryd.prog tar_text.H tar_text.c (endQ Tryd.prog Tryd.f48.results.toList Q) (argsE [x0]) w = tar_text.F x0 w Q := by kernel_rfl
theorem tar_text.calls [Pan] {x0 : Value} {w : World} {Q : Value → World → Prop} (h : tar_text.F x0 w Q) : Calls Tryd.prog 48 #[x0] w (retP Q) :=
  calls_of_cw (H := tar_text.H) (c := tar_text.c) (args := [x0]) mixed Tryd.func48 (by kernel_rfl) (by kernel_rfl) (Nat.le_of_ble_eq_true (by kernel_rfl)) ((tar_text.eq x0 w Q).mpr h)

/-! tar_fields_c3: pith/tar.fields$3; temporaries: 0:b 1:h 2:b 3:h -/
def tar_fields_c3.H : Hints := { cut := fun  | _ => none, loop := fun  | _ => ([], 0), order := fun  | _ => [] }
def tar_fields_c3.F [Pan] (x0 : Value) (x1 : Value) (w : World) (Q : Value → World → Prop) : Prop :=
 pN Tryd.prog (oNil x1) w fun x6 w1 =>
 pN Tryd.prog (oFld 65 x6 0) w1 fun x7 w2 =>
 pN Tryd.prog (oFld 24 x7 3) w2 fun x8 w3 =>
 pN Tryd.prog (oLoad 3 x8) w3 fun x9 w4 =>
 pN Tryd.prog (oCall 45 [x0, x9]) w4 fun _ w5 =>
 Q (.tuple #[]) w5
noncomputable def tar_fields_c3.c : Code := match Tryd.f49.body with | some c => c | none => .skip
theorem tar_fields_c3.eq [Pan] (x0 : Value) (x1 : Value) (w : World) (Q : Value → World → Prop) : cw Tryd.prog tar_fields_c3.H tar_fields_c3.c (endQ Tryd.prog Tryd.f49.results.toList Q) (argsE [x0, x1]) w = tar_fields_c3.F x0 x1 w Q := by kernel_rfl
theorem tar_fields_c3.calls [Pan] {x0 : Value} {x1 : Value} {w : World} {Q : Value → World → Prop} (h : tar_fields_c3.F x0 x1 w Q) : Calls Tryd.prog 49 #[x0, x1] w (retP Q) :=
  calls_of_cw (H := tar_fields_c3.H) (c := tar_fields_c3.c) (args := [x0, x1]) mixed Tryd.func49 (by kernel_rfl) (by kernel_rfl) (Nat.le_of_ble_eq_true (by kernel_rfl)) ((tar_fields_c3.eq x0 x1 w Q).mpr h)

/-! tar_fields_c4: pith/tar.fields$4; temporaries: 0:b 1:h 2:b 3:h -/
def tar_fields_c4.H : Hints := { cut := fun  | _ => none, loop := fun  | _ => ([], 0), order := fun  | _ => [] }
def tar_fields_c4.F [Pan] (x0 : Value) (x1 : Value) (w : World) (Q : Value → World → Prop) : Prop :=
 pN Tryd.prog (oCall 51 [x0]) w fun x6 w1 =>
 pN Tryd.prog (oNil x1) w1 fun x7 w2 =>
 pN Tryd.prog (oFld 65 x7 0) w2 fun x8 w3 =>
 pN Tryd.prog (oFld 24 x8 3) w3 fun x9 w4 =>
 pN Tryd.prog (oStore 3 x9 x6) w4 fun _ w5 =>
 Q (.tuple #[]) w5
noncomputable def tar_fields_c4.c : Code := match Tryd.f50.body with | some c => c | none => .skip
theorem tar_fields_c4.eq [Pan] (x0 : Value) (x1 : Value) (w : World) (Q : Value → World → Prop) : cw Tryd.prog tar_fields_c4.H tar_fields_c4.c (endQ Tryd.prog Tryd.f50.results.toList Q) (argsE [x0, x1]) w = tar_fields_c4.F x0 x1 w Q := by kernel_rfl
theorem tar_fields_c4.calls [Pan] {x0 : Value} {x1 : Value} {w : World} {Q : Value → World → Prop} (h : tar_fields_c4.F x0 x1 w Q) : Calls Tryd.prog 50 #[x0, x1] w (retP Q) :=
  calls_of_cw (H := tar_fields_c4.H) (c := tar_fields_c4.c) (args := [x0, x1]) mixed Tryd.func50 (by kernel_rfl) (by kernel_rfl) (Nat.le_of_ble_eq_true (by kernel_rfl)) ((tar_fields_c4.eq x0 x1 w Q).mpr h)

/-! tar_number: pith/tar.number; temporaries: 0:b 1:b 3:v 4:_ 5:c -/
def tar_number.H : Hints := { cut := fun  | _ => none, loop := fun | 3 => ([3, 12], 8384552) | _ => ([], 0), order := fun  | _ => [] }
def tar_number.F [Pan] (x0 : Value) (w : World) (Q : Value → World → Prop) : Prop :=
 pN Tryd.prog (oBi .len #[22] 3 [false] [x0]) w fun x8 w1 =>
 pN Tryd.prog (oBin .sub 3 (.tmp 8) (.const (.int .i64 1)) x8 (.int .i64 1)) w1 fun x9 w2 =>
 pN Tryd.prog (oSl 22 x0 none (some x9) none) w2 fun x10 w3 =>
 pN Tryd.prog (oBi .len #[22] 3 [false] [x10]) w3 fun x11 w4 =>
 ∃ (L3 : Value → Value → World → Prop) (m3 : Value → Value → World → Nat),
 L3 (.int .i64 0) (.int .i64 0) w4 ∧
 ∀ (_k3 : Env) (v3l3 : Value) (v12l3 : Value) (w5 : World), L3 v3l3 v12l3 w5 →
 pN Tryd.prog (oBin .lss 3 (.tmp 12) (.tmp 11) v12l3 x11) w5 fun x13 w6 =>
 pIf x13
 (pN Tryd.prog (oIdx 22 x10 v12l3) w6 fun x14 w7 =>
 pN Tryd.prog (oLoad 5 x14) w7 fun x15 w8 =>
 pN Tryd.prog (oBin .shl 3 (.tmp 16) (.const (.int .u64 3)) v3l3 (.int .u64 3)) w8 fun x17 w9 =>
 pN Tryd.prog (oBin .and 5 (.tmp 18) (.const (.int .u8 7)) x15 (bv 7)) w9 fun x19 w10 =>
 pN Tryd.prog (oConv 5 3 x19) w10 fun x20 w11 =>
 pN Tryd.prog (oBin .or 3 (.tmp 17) (.tmp 20) x17 x20) w11 fun x21 w12 =>
 pN Tryd.prog (oBin .add 3 (.tmp 12) (.const (.int .i64 1)) v12l3 (.int .i64 1)) w12 fun x22 w13 =>
 (L3 x21 x22 w13 ∧ m3 x21 x22 w13 < m3 v3l3 v12l3 w5))
 (Q v3l3 w6)
noncomputable def tar_number.c : Code := match Tryd.f51.body with | some c => c | none => .skip
theorem tar_number.eq [Pan] (x0 : Value) (w : World) (Q : Value → World → Prop) : cw Tryd.prog tar_number.H tar_number.c (endQ Tryd.prog Tryd.f51.results.toList Q) (argsE [x0]) w = tar_number.F x0 w Q := by kernel_rfl
theorem tar_number.calls [Pan] {x0 : Value} {w : World} {Q : Value → World → Prop} (h : tar_number.F x0 w Q) : Calls Tryd.prog 51 #[x0] w (retP Q) :=
  calls_of_cw (H := tar_number.H) (c := tar_number.c) (args := [x0]) mixed Tryd.func51 (by kernel_rfl) (by kernel_rfl) (Nat.le_of_ble_eq_true (by kernel_rfl)) ((tar_number.eq x0 w Q).mpr h)

/-! tar_none: pith/tar.none; temporaries: 0:b 1:_ 2:b 3:_ -/
def tar_none.H : Hints := { cut := fun  | _ => none, loop := fun  | _ => ([], 0), order := fun  | _ => [] }
def tar_none.F [Pan] (x0 : Value) (x1 : Value) (w : World) (Q : Value → World → Prop) : Prop :=
 pN Tryd.prog (oCall 45 [x0, (.int .i64 0)]) w fun _ w1 =>
 Q (.tuple #[]) w1
noncomputable def tar_none.c : Code := match Tryd.f52.body with | some c => c | none => .skip
theorem tar_none.eq [Pan] (x0 : Value) (x1 : Value) (w : World) (Q : Value → World → Prop) : cw Tryd.prog tar_none.H tar_none.c (endQ Tryd.prog Tryd.f52.results.toList Q) (argsE [x0, x1]) w = tar_none.F x0 x1 w Q := by kernel_rfl
theorem tar_none.calls [Pan] {x0 : Value} {x1 : Value} {w : World} {Q : Value → World → Prop} (h : tar_none.F x0 x1 w Q) : Calls Tryd.prog 52 #[x0, x1] w (retP Q) :=
  calls_of_cw (H := tar_none.H) (c := tar_none.c) (args := [x0, x1]) mixed Tryd.func52 (by kernel_rfl) (by kernel_rfl) (Nat.le_of_ble_eq_true (by kernel_rfl)) ((tar_none.eq x0 x1 w Q).mpr h)

/-! tar_fields_c5: pith/tar.fields$5; temporaries: 0:b 1:h 2:b 3:h -/
def tar_fields_c5.H : Hints := { cut := fun  | _ => none, loop := fun  | _ => ([], 0), order := fun  | _ => [] }
def tar_fields_c5.F [Pan] (x0 : Value) (x1 : Value) (w : World) (Q : Value → World → Prop) : Prop :=
 pN Tryd.prog (oNil x1) w fun x6 w1 =>
 pN Tryd.prog (oFld 65 x6 1) w1 fun x7 w2 =>
 pN Tryd.prog (oLoad 3 x7) w2 fun x8 w3 =>
 pN Tryd.prog (oCall 45 [x0, x8]) w3 fun _ w4 =>
 Q (.tuple #[]) w4
noncomputable def tar_fields_c5.c : Code := match Tryd.f53.body with | some c => c | none => .skip
theorem tar_fields_c5.eq [Pan] (x0 : Value) (x1 : Value) (w : World) (Q : Value → World → Prop) : cw Tryd.prog tar_fields_c5.H tar_fields_c5.c (endQ Tryd.prog Tryd.f53.results.toList Q) (argsE [x0, x1]) w = tar_fields_c5.F x0 x1 w Q := by kernel_rfl
theorem tar_fields_c5.calls [Pan] {x0 : Value} {x1 : Value} {w : World} {Q : Value → World → Prop} (h : tar_fields_c5.F x0 x1 w Q) : Calls Tryd.prog 53 #[x0, x1] w (retP Q) :=
  calls_of_cw (H := tar_fields_c5.H) (c := tar_fields_c5.c) (args := [x0, x1]) mixed Tryd.func53 (by kernel_rfl) (by kernel_rfl) (Nat.le_of_ble_eq_true (by kernel_rfl)) ((tar_fields_c5.eq x0 x1 w Q).mpr h)

/-! tar_fields_c6: pith/tar.fields$6; temporaries: 0:b 1:h 2:b 3:h -/
def tar_fields_c6.H : Hints := { cut := fun  | _ => none, loop := fun  | _ => ([], 0), order := fun  | _ => [] }
def tar_fields_c6.F [Pan] (x0 : Value) (x1 : Value) (w : World) (Q : Value → World → Prop) : Prop :=
 pN Tryd.prog (oCall 51 [x0]) w fun x6 w1 =>
 pN Tryd.prog (oNil x1) w1 fun x7 w2 =>
 pN Tryd.prog (oFld 65 x7 1) w2 fun x8 w3 =>
 pN Tryd.prog (oStore 3 x8 x6) w3 fun _ w4 =>
 Q (.tuple #[]) w4
noncomputable def tar_fields_c6.c : Code := match Tryd.f54.body with | some c => c | none => .skip
theorem tar_fields_c6.eq [Pan] (x0 : Value) (x1 : Value) (w : World) (Q : Value → World → Prop) : cw Tryd.prog tar_fields_c6.H tar_fields_c6.c (endQ Tryd.prog Tryd.f54.results.toList Q) (argsE [x0, x1]) w = tar_fields_c6.F x0 x1 w Q := by kernel_rfl
theorem tar_fields_c6.calls [Pan] {x0 : Value} {x1 : Value} {w : World} {Q : Value → World → Prop} (h : tar_fields_c6.F x0 x1 w Q) : Calls Tryd.prog 54 #[x0, x1] w (retP Q) :=
  calls_of_cw (H := tar_fields_c6.H) (c := tar_fields_c6.c) (args := [x0, x1]) mixed Tryd.func54 (by kernel_rfl) (by kernel_rfl) (Nat.le_of_ble_eq_true (by kernel_rfl)) ((tar_fields_c6.eq x0 x1 w Q).mpr h)

/-! tar_fields_c7: pith/tar.fields$7; temporaries: 0:b 1:h 2:b 3:h -/
def tar_fields_c7.H : Hints := { cut := fun  | _ => none, loop := fun  | _ => ([], 0), order := fun  | _ => [] }
def tar_fields_c7.F [Pan] (x0 : Value) (x1 : Value) (w : World) (Q : Value → World → Prop) : Prop :=
 pN Tryd.prog (oNil x1) w fun x6 w1 =>
 pN Tryd.prog (oFld 65 x6 0) w1 fun x7 w2 =>
 pN Tryd.prog (oFld 24 x7 4) w2 fun x8 w3 =>
 pN Tryd.prog (oLoad 3 x8) w3 fun x9 w4 =>
 pN Tryd.prog (oCall 45 [x0, x9]) w4 fun _ w5 =>
 Q (.tuple #[]) w5
noncomputable def tar_fields_c7.c : Code := match Tryd.f55.body with | some c => c | none => .skip
theorem tar_fields_c7.eq [Pan] (x0 : Value) (x1 : Value) (w : World) (Q : Value → World → Prop) : cw Tryd.prog tar_fields_c7.H tar_fields_c7.c (endQ Tryd.prog Tryd.f55.results.toList Q) (argsE [x0, x1]) w = tar_fields_c7.F x0 x1 w Q := by kernel_rfl
theorem tar_fields_c7.calls [Pan] {x0 : Value} {x1 : Value} {w : World} {Q : Value → World → Prop} (h : tar_fields_c7.F x0 x1 w Q) : Calls Tryd.prog 55 #[x0, x1] w (retP Q) :=
  calls_of_cw (H := tar_fields_c7.H) (c := tar_fields_c7.c) (args := [x0, x1]) mixed Tryd.func55 (by kernel_rfl) (by kernel_rfl) (Nat.le_of_ble_eq_true (by kernel_rfl)) ((tar_fields_c7.eq x0 x1 w Q).mpr h)

/-! tar_fields_c8: pith/tar.fields$8; temporaries: 0:b 1:h 2:b 3:h -/
def tar_fields_c8.H : Hints := { cut := fun  | _ => none, loop := fun  | _ => ([], 0), order := fun  | _ => [] }
def tar_fields_c8.F [Pan] (x0 : Value) (x1 : Value) (w : World) (Q : Value → World → Prop) : Prop :=
 pN Tryd.prog (oCall 51 [x0]) w fun x6 w1 =>
 pN Tryd.prog (oNil x1) w1 fun x7 w2 =>
 pN Tryd.prog (oFld 65 x7 0) w2 fun x8 w3 =>
 pN Tryd.prog (oFld 24 x8 4) w3 fun x9 w4 =>
 pN Tryd.prog (oStore 3 x9 x6) w4 fun _ w5 =>
 Q (.tuple #[]) w5
noncomputable def tar_fields_c8.c : Code := match Tryd.f56.body with | some c => c | none => .skip
theorem tar_fields_c8.eq [Pan] (x0 : Value) (x1 : Value) (w : World) (Q : Value → World → Prop) : cw Tryd.prog tar_fields_c8.H tar_fields_c8.c (endQ Tryd.prog Tryd.f56.results.toList Q) (argsE [x0, x1]) w = tar_fields_c8.F x0 x1 w Q := by kernel_rfl
theorem tar_fields_c8.calls [Pan] {x0 : Value} {x1 : Value} {w : World} {Q : Value → World → Prop} (h : tar_fields_c8.F x0 x1 w Q) : Calls Tryd.prog 56 #[x0, x1] w (retP Q) :=
  calls_of_cw (H := tar_fields_c8.H) (c := tar_fields_c8.c) (args := [x0, x1]) mixed Tryd.func56 (by kernel_rfl) (by kernel_rfl) (Nat.le_of_ble_eq_true (by kernel_rfl)) ((tar_fields_c8.eq x0 x1 w Q).mpr h)

/-! tar_fields_c9: pith/tar.fields$9; temporaries: 0:b 1:h 2:b 3:h -/
def tar_fields_c9.H : Hints := { cut := fun  | _ => none, loop := fun  | _ => ([], 0), order := fun  | _ => [] }
def tar_fields_c9.F [Pan] (x0 : Value) (x1 : Value) (w : World) (Q : Value → World → Prop) : Prop :=
 pN Tryd.prog (oNil x1) w fun x6 w1 =>
 pN Tryd.prog (oFld 65 x6 0) w1 fun x7 w2 =>
 pN Tryd.prog (oFld 24 x7 2) w2 fun x8 w3 =>
 pN Tryd.prog (oLoad 3 x8) w3 fun x9 w4 =>
 pN Tryd.prog (oIndex 9 (.string ⟨#[48, 53, 50]⟩) x9) w4 fun x10 w5 =>
 pN Tryd.prog (oIdx 22 x0 (.int .i64 0)) w5 fun x11 w6 =>
 pN Tryd.prog (oStore 5 x11 x10) w6 fun _ w7 =>
 Q (.tuple #[]) w7
noncomputable def tar_fields_c9.c : Code := match Tryd.f57.body with | some c => c | none => .skip
theorem tar_fields_c9.eq [Pan] (x0 : Value) (x1 : Value) (w : World) (Q : Value → World → Prop) : cw Tryd.prog tar_fields_c9.H tar_fields_c9.c (endQ Tryd.prog Tryd.f57.results.toList Q) (argsE [x0, x1]) w = tar_fields_c9.F x0 x1 w Q := by kernel_rfl
theorem tar_fields_c9.calls [Pan] {x0 : Value} {x1 : Value} {w : World} {Q : Value → World → Prop} (h : tar_fields_c9.F x0 x1 w Q) : Calls Tryd.prog 57 #[x0, x1] w (retP Q) :=
  calls_of_cw (H := tar_fields_c9.H) (c := tar_fields_c9.c) (args := [x0, x1]) mixed Tryd.func57 (by kernel_rfl) (by kernel_rfl) (Nat.le_of_ble_eq_true (by kernel_rfl)) ((tar_fields_c9.eq x0 x1 w Q).mpr h)

/-! tar_fields_c10: pith/tar.fields$10; temporaries: 0:b 1:h 2:b 3:h -/
def tar_fields_c10.H : Hints := { cut := fun  | _ => none, loop := fun  | _ => ([], 0), order := fun  | _ => [] }
def tar_fields_c10.F [Pan] (x0 : Value) (x1 : Value) (w : World) (Q : Value → World → Prop) : Prop :=
 pN Tryd.prog (oIdx 22 x0 (.int .i64 0)) w fun x6 w1 =>
 pN Tryd.prog (oLoad 5 x6) w1 fun x7 w2 =>
 pN Tryd.prog (oCall 44 [(.string ⟨#[48, 53, 50]⟩), x7]) w2 fun x8 w3 =>
 pN Tryd.prog (oNil x1) w3 fun x9 w4 =>
 pN Tryd.prog (oFld 65 x9 0) w4 fun x10 w5 =>
 pN Tryd.prog (oFld 24 x10 2) w5 fun x11 w6 =>
 pN Tryd.prog (oStore 3 x11 x8) w6 fun _ w7 =>
 Q (.tuple #[]) w7
noncomputable def tar_fields_c10.c : Code := match Tryd.f58.body with | some c => c | none => .skip
theorem tar_fields_c10.eq [Pan] (x0 : Value) (x1 : Value) (w : World) (Q : Value → World → Prop) : cw Tryd.prog tar_fields_c10.H tar_fields_c10.c (endQ Tryd.prog Tryd.f58.results.toList Q) (argsE [x0, x1]) w = tar_fields_c10.F x0 x1 w Q := by kernel_rfl
theorem tar_fields_c10.calls [Pan] {x0 : Value} {x1 : Value} {w : World} {Q : Value → World → Prop} (h : tar_fields_c10.F x0 x1 w Q) : Calls Tryd.prog 58 #[x0, x1] w (retP Q) :=
  calls_of_cw (H := tar_fields_c10.H) (c := tar_fields_c10.c) (args := [x0, x1]) mixed Tryd.func58 (by kernel_rfl) (by kernel_rfl) (Nat.le_of_ble_eq_true (by kernel_rfl)) ((tar_fields_c10.eq x0 x1 w Q).mpr h)

/-! tar_fields_c11: pith/tar.fields$11; temporaries: 0:b 1:h 2:b 3:h -/
def tar_fields_c11.H : Hints := { cut := fun  | _ => none, loop := fun  | _ => ([], 0), order := fun  | _ => [] }
def tar_fields_c11.F [Pan] (x0 : Value) (x1 : Value) (w : World) (Q : Value → World → Prop) : Prop :=
 pN Tryd.prog (oNil x1) w fun x6 w1 =>
 pN Tryd.prog (oFld 65 x6 0) w1 fun x7 w2 =>
 pN Tryd.prog (oFld 24 x7 1) w2 fun x8 w3 =>
 pN Tryd.prog (oLoad 9 x8) w3 fun x9 w4 =>
 pN Tryd.prog (oBi .copy #[22, 9] 3 [false, false] [x0, x9]) w4 fun _ w5 =>
 Q (.tuple #[]) w5
noncomputable def tar_fields_c11.c : Code := match Tryd.f59.body with | some c => c | none => .skip
theorem tar_fields_c11.eq [Pan] (x0 : Value) (x1 : Value) (w : World) (Q : Value → World → Prop) : cw Tryd.prog tar_fields_c11.H tar_fields_c11.c (endQ Tryd.prog Tryd.f59.results.toList Q) (argsE [x0, x1]) w = tar_fields_c11.F x0 x1 w Q := by kernel_rfl
theorem tar_fields_c11.calls [Pan] {x0 : Value} {x1 : Value} {w : World} {Q : Value → World → Prop} (h : tar_fields_c11.F x0 x1 w Q) : Calls Tryd.prog 59 #[x0, x1] w (retP Q) :=
  calls_of_cw (H := tar_fields_c11.H) (c := tar_fields_c11.c) (args := [x0, x1]) mixed Tryd.func59 (by kernel_rfl) (by kernel_rfl) (Nat.le_of_ble_eq_true (by kernel_rfl)) ((tar_fields_c11.eq x0 x1 w Q).mpr h)

/-! tar_fields_c12: pith/tar.fields$12; temporaries: 0:b 1:h 2:b 3:h -/
def tar_fields_c12.H : Hints := { cut := fun  | _ => none, loop := fun  | _ => ([], 0), order := fun  | _ => [] }
def tar_fields_c12.F [Pan] (x0 : Value) (x1 : Value) (w : World) (Q : Value → World → Prop) : Prop :=
 pN Tryd.prog (oCall 48 [x0]) w fun x6 w1 =>
 pN Tryd.prog (oNil x1) w1 fun x7 w2 =>
 pN Tryd.prog (oFld 65 x7 0) w2 fun x8 w3 =>
 pN Tryd.prog (oFld 24 x8 1) w3 fun x9 w4 =>
 pN Tryd.prog (oStore 9 x9 x6) w4 fun _ w5 =>
 Q (.tuple #[]) w5
noncomputable def tar_fields_c12.c : Code := match Tryd.f60.body with | some c => c | none => .skip
theorem tar_fields_c12.eq [Pan] (x0 : Value) (x1 : Value) (w : World) (Q : Value → World → Prop) : cw Tryd.prog tar_fields_c12.H tar_fields_c12.c (endQ Tryd.prog Tryd.f60.results.toList Q) (argsE [x0, x1]) w = tar_fields_c12.F x0 x1 w Q := by kernel_rfl
theorem tar_fields_c12.calls [Pan] {x0 : Value} {x1 : Value} {w : World} {Q : Value → World → Prop} (h : tar_fields_c12.F x0 x1 w Q) : Calls Tryd.prog 60 #[x0, x1] w (retP Q) :=
  calls_of_cw (H := tar_fields_c12.H) (c := tar_fields_c12.c) (args := [x0, x1]) mixed Tryd.func60 (by kernel_rfl) (by kernel_rfl) (Nat.le_of_ble_eq_true (by kernel_rfl)) ((tar_fields_c12.eq x0 x1 w Q).mpr h)

/-! tar_fields_c13: pith/tar.fields$13; temporaries: 0:b 1:_ 2:b 3:_ -/
def tar_fields_c13.H : Hints := { cut := fun  | _ => none, loop := fun  | _ => ([], 0), order := fun  | _ => [] }
def tar_fields_c13.F [Pan] (x0 : Value) (x1 : Value) (w : World) (Q : Value → World → Prop) : Prop :=
 pN Tryd.prog (oBi .copy #[22, 9] 3 [false, true] [x0, (.string ⟨#[117, 115, 116, 97, 114, 0, 48, 48]⟩)]) w fun _ w1 =>
 Q (.tuple #[]) w1
noncomputable def tar_fields_c13.c : Code := match Tryd.f61.body with | some c => c | none => .skip
theorem tar_fields_c13.eq [Pan] (x0 : Value) (x1 : Value) (w : World) (Q : Value → World → Prop) : cw Tryd.prog tar_fields_c13.H tar_fields_c13.c (endQ Tryd.prog Tryd.f61.results.toList Q) (argsE [x0, x1]) w = tar_fields_c13.F x0 x1 w Q := by kernel_rfl
theorem tar_fields_c13.calls [Pan] {x0 : Value} {x1 : Value} {w : World} {Q : Value → World → Prop} (h : tar_fields_c13.F x0 x1 w Q) : Calls Tryd.prog 61 #[x0, x1] w (retP Q) :=
  calls_of_cw (H := tar_fields_c13.H) (c := tar_fields_c13.c) (args := [x0, x1]) mixed Tryd.func61 (by kernel_rfl) (by kernel_rfl) (Nat.le_of_ble_eq_true (by kernel_rfl)) ((tar_fields_c13.eq x0 x1 w Q).mpr h)

/-! tar_fields_c14: pith/tar.fields$14; temporaries: 0:b 1:h 2:b 3:h 4:p 5:_ 6:_ -/
def tar_fields_c14.H : Hints := { cut := fun  | _ => none, loop := fun  | _ => ([], 0), order := fun  | _ => [] }
def tar_fields_c14.F [Pan] (x0 : Value) (x1 : Value) (w : World) (Q : Value → World → Prop) : Prop :=
 pN Tryd.prog (oNil x1) w fun x9 w1 =>
 pN Tryd.prog (oFld 65 x9 0) w1 fun x10 w2 =>
 pN Tryd.prog (oFld 24 x10 0) w2 fun x11 w3 =>
 pN Tryd.prog (oLoad 9 x11) w3 fun x12 w4 =>
 pN Tryd.prog (oCall 43 [x12]) w4 fun x13 w5 =>
 pN Tryd.prog (oExt x13 0) w5 fun x14 w6 =>
 pN Tryd.prog (oExt x13 1) w6 fun _ w7 =>
 pN Tryd.prog (oExt x13 2) w7 fun _ w8 =>
 pN Tryd.prog (oBi .copy #[22, 9] 3 [false, false] [x0, x14]) w8 fun _ w9 =>
 Q (.tuple #[]) w9
noncomputable def tar_fields_c14.c : Code := match Tryd.f62.body with | some c => c | none => .skip
theorem tar_fields_c14.eq [Pan] (x0 : Value) (x1 : Value) (w : World) (Q : Value → World → Prop) : cw Tryd.prog tar_fields_c14.H tar_fields_c14.c (endQ Tryd.prog Tryd.f62.results.toList Q) (argsE [x0, x1]) w = tar_fields_c14.F x0 x1 w Q := by kernel_rfl
theorem tar_fields_c14.calls [Pan] {x0 : Value} {x1 : Value} {w : World} {Q : Value → World → Prop} (h : tar_fields_c14.F x0 x1 w Q) : Calls Tryd.prog 62 #[x0, x1] w (retP Q) :=
  calls_of_cw (H := tar_fields_c14.H) (c := tar_fields_c14.c) (args := [x0, x1]) mixed Tryd.func62 (by kernel_rfl) (by kernel_rfl) (Nat.le_of_ble_eq_true (by kernel_rfl)) ((tar_fields_c14.eq x0 x1 w Q).mpr h)

/-! tar_fields_c15: pith/tar.fields$15; temporaries: 0:b 1:h 2:b 3:h 4:p -/
def tar_fields_c15.H : Hints := { cut := fun  | _ => none, loop := fun  | _ => ([], 0), order := fun  | _ => [] }
def tar_fields_c15.F [Pan] (x0 : Value) (x1 : Value) (w : World) (Q : Value → World → Prop) : Prop :=
 pN Tryd.prog (oCall 48 [x0]) w fun x6 w1 =>
 pN Tryd.prog (oBin .neq 9 (.tmp 7) (.const (.string ⟨#[]⟩)) x6 (.string ⟨#[]⟩)) w1 fun x8 w2 =>
 pIf x8
 (pN Tryd.prog (oBin .add 9 (.tmp 10) (.const (.string ⟨#[47]⟩)) x6 (.string ⟨#[47]⟩)) w2 fun x11 w3 =>
 pN Tryd.prog (oNil x1) w3 fun x13 w4 =>
 pN Tryd.prog (oFld 65 x13 0) w4 fun x14 w5 =>
 pN Tryd.prog (oFld 24 x14 0) w5 fun x15 w6 =>
 pN Tryd.prog (oLoad 9 x15) w6 fun x16 w7 =>
 pN Tryd.prog (oBin .add 9 (.tmp 11) (.tmp 16) x11 x16) w7 fun x17 w8 =>
 pN Tryd.prog (oNil x1) w8 fun x18 w9 =>
 pN Tryd.prog (oFld 65 x18 0) w9 fun x19 w10 =>
 pN Tryd.prog (oFld 24 x19 0) w10 fun x20 w11 =>
 pN Tryd.prog (oStore 9 x20 x17) w11 fun _ w12 =>
 Q (.tuple #[]) w12)
 (Q (.tuple #[]) w2)
noncomputable def tar_fields_c15.c : Code := match Tryd.f63.body with | some c => c | none => .skip
theorem tar_fields_c15.eq [Pan] (x0 : Value) (x1 : Value) (w : World) (Q : Value → World → Prop) : cw Tryd.prog tar_fields_c15.H tar_fields_c15.c (endQ Tryd.prog Tryd.f63.results.toList Q) (argsE [x0, x1]) w = tar_fields_c15.F x0 x1 w Q := by kernel_rfl
theorem tar_fields_c15.calls [Pan] {x0 : Value} {x1 : Value} {w : World} {Q : Value → World → Prop} (h : tar_fields_c15.F x0 x1 w Q) : Calls Tryd.prog 63 #[x0, x1] w (retP Q) :=
  calls_of_cw (H := tar_fields_c15.H) (c := tar_fields_c15.c) (args := [x0, x1]) mixed Tryd.func63 (by kernel_rfl) (by kernel_rfl) (Nat.le_of_ble_eq_true (by kernel_rfl)) ((tar_fields_c15.eq x0 x1 w Q).mpr h)

end Go.Proofs.YteeepkimnpabiaaDoor

namespace Go.Proofs.YteeepkimnpabiaaDoor
open Go
set_option linter.unusedSimpArgs false
set_option linter.unnecessarySimpa false
set_option linter.unusedSectionVars false
set_option linter.unusedVariables false
attribute [local irreducible] oMv oV oU oCall oCallV oBi oBin oUn oLoad oStore oNil oFld oField oIdx oIndex oPick oAlloc oBox oBuild oBs oConv oMk oSl oExt oFn oIface oMap oLook oMapUp oRange oNext oAssert oPanic oRes pN pA pL pDr pIf gA pGd Calls

namespace A
theorem oct_at (v : Int) (j : Nat) : oct v (j + 1) = (48 + byteOf (v / 8 ^ j % 8)) :: oct v j := rfl
/-- A number out of digits. -/
def num : List UInt8 → Int := fun l => l.foldl (fun v c => 8 * v + c.toNat % 8) 0
theorem num_snoc (l : List UInt8) (c : UInt8) : num (l ++ [c]) = 8 * num l + c.toNat % 8 := by simp [num]
theorem num_bd : ∀ (n : Nat) (l : List UInt8), l.length = n → 0 ≤ num l ∧ num l < 8 ^ n
  | 0, l, h => by rw [List.length_eq_zero_iff.1 h]; simp [num]
  | n + 1, l, h => by
    obtain ⟨m, c, rfl⟩ : ∃ m c, l = m ++ [c] := ⟨l.dropLast, l.getLast (by intro e; rw [e] at h; simp at h), (List.dropLast_concat_getLast _).symm⟩
    have := num_bd n m (by simpa using h)
    rw [num_snoc, Int.pow_succ]
    generalize (8 : Int) ^ n = q at *
    omega
end A

theorem putL_set {α : Type} (l us : List α) (k : Nat) (d : α) (h : k + 1 + us.length ≤ l.length) : (putL l (k + 1) us).set k d = putL l k (d :: us) := by
  simp only [putL, List.length_cons]
  rw [List.append_assoc, List.set_append_left _ _ (by simp; omega), List.set_eq_take_append_cons_drop, if_pos (by simp; omega), List.take_take, List.drop_take, Nat.sub_self, List.take_zero, Nat.min_eq_left (by omega)]
  simp [Nat.add_assoc, Nat.add_comm 1]

theorem and7_nat (x : UInt8) : (x &&& 7).toNat = x.toNat % 8 := by
  rw [UInt8.toNat_and]
  exact Nat.and_two_pow_sub_one_eq_mod x.toNat 3
theorem or8 (a b : Nat) (hb : b < 8) (ha : 8 * a + b < 9223372036854775808) : ((BitVec.ofInt 64 ((a : Int) * 8) ||| BitVec.ofInt 64 (b : Int)).toNat : Int) = 8 * a + b := by
  have e1 : BitVec.ofInt 64 ((a : Int) * 8) = BitVec.ofNat 64 (8 * a) := by
    rw [show ((a : Int) * 8) = ((8 * a : Nat) : Int) from by omega, BitVec.ofInt_natCast]
  have e2 : BitVec.ofInt 64 (b : Int) = BitVec.ofNat 64 b := BitVec.ofInt_natCast ..
  rw [e1, e2, BitVec.toNat_or, BitVec.toNat_ofNat, BitVec.toNat_ofNat, Nat.mod_eq_of_lt (by omega), Nat.mod_eq_of_lt (by omega)]
  have := Nat.two_pow_add_eq_or_of_lt (i := 3) (b := b) (by omega) a
  rw [show (8 : Nat) = 2 ^ 3 from rfl, ← this]
  omega

section
variable [Pan] {E w : World} {K Q : Value → World → Prop} {L M : List HA} {l r : List UInt8} {s s2 : Sl}

set_option maxHeartbeats 1000000 in
theorem octal_ok (hS : Sat E w (rows cd_uint8 s l :: M)) (o n : Nat) (h0 : 0 < n) (ho : o + n ≤ l.length) (hl : l.length ≤ 140737488355328) (v : Int)
    (hQ : ∀ w, Sat E w (rows cd_uint8 s (putL l o (A.oct v (n - 1))) :: M) → Q (.tuple #[]) w) :
    Calls Tryd.prog 45 #[.slice (s.sub o cd_uint8.size).a n (s.sub o cd_uint8.size).c, .int .i64 v] w (retP Q) := by
  refine tar_octal.calls ?_
  unfold tar_octal.F
  obtain ⟨g, hg, hc⟩ := rows_at (C := cd_uint8) (s := s) hS (by omega)
  repeat' (first | refine pN_via (by (intro K; simp (disch := omega) only [go_sem, pN_min, pN_max, w_u32, w_u64, Option.isNone_some, Option.isNone_none]; (try simp only [wrap_u32, wrap_u64]); rfl)) ?_ | fail)
  refine ⟨fun a i w => ∃ j : Nat, j ≤ n - 1 ∧ a = .int .i64 (v / 8 ^ j) ∧ i = .int .i64 ((n : Int) - 2 - j) ∧ Sat E w (rows cd_uint8 s (putL l (o + (n - 1 - j)) (A.oct v j)) :: M), fun _ i _ => (RowKit.intOf i + 1).toNat,
    ⟨0, Nat.zero_le _, by rw [Int.pow_zero, Int.ediv_one], by simp, by simpa [putL, A.oct] using hS⟩, ?_⟩
  clear hS
  rintro _ _ _ w ⟨j, hj, rfl, rfl, hS⟩
  have hlen : (putL l (o + (n - 1 - j)) (A.oct v j)).length = l.length := putL_len _ _ _ (by rw [A.oct_len]; omega)
  by_cases hlt : j < n - 1
  · obtain ⟨i, hi⟩ : ∃ i : Nat, (n : Int) - 2 - j = i := ⟨n - 2 - j, by omega⟩
    rw [hi]
    have hin : i = n - 2 - j := by omega
    subst hin
    haveI hr0 : Rds cd_uint8 (rows cd_uint8 s (putL l (o + (n - 1 - j)) (A.oct v j)) :: M) s (putL l (o + (n - 1 - j)) (A.oct v j)) := inferInstance
    haveI hr1 := Rds.sub (C := cd_uint8) (h := hr0) o (o + n) (by omega) (by omega)
    have hl1 : (((putL l (o + (n - 1 - j)) (A.oct v j)).drop o).take (o + n - o)).length = n := by rw [List.length_take, List.length_drop]; omega
    have e8 : v / 8 ^ j / 8 = v / 8 ^ (j + 1) := by rw [Int.pow_succ, Int.ediv_ediv_of_nonneg (Int.pow_nonneg (by omega))]
    have ek : o + (n - 1 - j) = (o + (n - 2 - j)) + 1 := by omega
    repeat' (first | (refine pN_geq_s ?_ ?_ <;> intro hc <;> try (exfalso; omega)) | refine pIf_t ?_ | refine pN_tob ?_ | refine pN_ix hS _ (by first | rfl | (exact (Int.toNat_of_nonneg (by omega)).symm)) (by first | rfl | omega | simpa only [go_sem] using True.intro | (simp only [go_sem]; omega)) (by first | omega | (simp only [go_sem]; omega)) fun a x hx ha hel => ?_ | refine pN_via (by (intro K; simp (disch := omega) only [go_sem, pN_min, pN_max, w_u32, w_u64, Option.isNone_some, Option.isNone_none]; (try simp only [wrap_u32, wrap_u64]); rfl)) ?_ | fail)
    refine pN_sr (hel.sub (by omega)) hS rfl rfl (by omega) ?_
    clear hS
    intro w hS
    rw [ek, putL_set _ _ _ _ (by rw [A.oct_len]; omega), ← A.oct_at] at hS
    repeat' (first | refine pN_via (by (intro K; simp (disch := omega) only [go_sem, pN_min, pN_max, w_u32, w_u64, Option.isNone_some, Option.isNone_none]; (try simp only [wrap_u32, wrap_u64]); rfl)) ?_ | fail)
    rw [e8]
    exact ⟨⟨j + 1, by omega, rfl, congrArg (Value.int .i64) (by omega), by rw [show o + (n - 1 - (j + 1)) = o + (n - 2 - j) from by omega]; exact hS⟩, by simp [RowKit.intOf] <;> omega⟩
  · repeat' (first | (refine pN_geq_s ?_ ?_ <;> intro hc <;> try (exfalso; omega)) | refine pIf_f ?_ | fail)
    obtain rfl : j = n - 1 := by omega
    rw [Nat.sub_self, Nat.add_zero] at hS
    exact hQ _ hS
theorem pN_and7 {t : TypeId} {xo yo : Operand} (x : UInt8) (hk : K (bv (x &&& 7)) w) : pN Tryd.prog (oBin .and t xo yo (bv x) (bv 7)) w K := by
  have h7 : bv 7 = .int .u8 7 := rfl
  rw [h7]
  unfold bv at hk ⊢
  rw [and7_nat] at hk
  rw [pN_andn (k := .u8) 3 7 8 rfl rfl (by decide) (w_u8 (by omega))]
  simpa using hk
theorem pN_or8 {t : TypeId} {xo yo : Operand} (a : Int) (b : Nat) (ha : 0 ≤ a) (hb : b < 8) (h : 8 * a + b < 9223372036854775808) (hk : K (.int .i64 (8 * a + b)) w) : pN Tryd.prog (oBin .or t xo yo (.int .i64 (a * 8)) (.int .i64 (b : Int))) w K := by
  obtain ⟨a, rfl⟩ : ∃ n : Nat, a = n := ⟨a.toNat, by omega⟩
  rw [pN_or]
  have key : ∀ z : Int, z = 8 * (a : Int) + b → K (.int .i64 (IntKind.i64.wrap z)) w := fun z e => by
    rw [e, wrap_i64 (by omega)]; exact hk
  exact key _ (or8 a b hb (by omega))

theorem none_ok (h : Value) (hS : Sat E w (rows cd_uint8 s l :: M)) (o n : Nat) (h0 : 0 < n) (ho : o + n ≤ l.length) (hl : l.length ≤ 140737488355328)
    (hQ : ∀ w, Sat E w (rows cd_uint8 s (putL l o (A.oct 0 (n - 1))) :: M) → Q (.tuple #[]) w) :
    Calls Tryd.prog 52 #[.slice (s.sub o cd_uint8.size).a n (s.sub o cd_uint8.size).c, h] w (retP Q) := by
  refine tar_none.calls ?_
  unfold tar_none.F
  exact pc_tar_octal (octal_ok hS o n h0 ho hl 0 hQ)

theorem number_ok (hS : Sat E w L) [hr : Rds cd_uint8 L s l] (h0 : 0 < l.length) (hl : l.length ≤ 20) (hQ : Q (.int .i64 (A.num (l.take (l.length - 1)))) w) :
    Calls Tryd.prog 51 #[.slice s.a l.length s.c] w (retP Q) := by
  refine tar_number.calls ?_
  unfold tar_number.F
  have htl : (l.take (l.length - 1)).length = l.length - 1 := by rw [List.length_take]; omega
  generalize hm : l.take (l.length - 1) = m at *
  repeat' (first | (refine pN_slhw hS (l.length - 1) (by omega) rfl (by omega) ?_; intro hp) | refine pN_via (by (intro K; simp (disch := omega) only [go_sem, pN_min, pN_max, w_u32, w_u64, Option.isNone_some, Option.isNone_none]; (try simp only [wrap_u32, wrap_u64]); rfl)) ?_ | fail)
  rw [hm] at hp
  refine ⟨fun a i w' => ∃ j : Nat, j ≤ m.length ∧ a = .int .i64 (A.num (m.take j)) ∧ i = .int .i64 j ∧ w' = w, fun _ i _ => m.length - (RowKit.intOf i).toNat, ⟨0, Nat.zero_le _, rfl, rfl, rfl⟩, ?_⟩
  rintro _ _ _ _ ⟨j, hj, rfl, rfl, rfl⟩
  by_cases hlt : j < m.length
  · obtain ⟨x, hx⟩ : ∃ x, m[j]? = some x := ⟨m[j]'hlt, by simp⟩
    have hb := A.num_bd j (m.take j) (by rw [List.length_take]; omega)
    have hp8 : (8 : Int) ^ j ≤ 8 ^ 19 := by
      norm_cast
      exact Nat.pow_le_pow_right (by omega) (by omega)
    have e19 : (8 : Int) ^ 19 = 144115188075855872 := by decide
    have ex : m.take (j + 1) = m.take j ++ [x] := by
      rw [List.take_add_one, hx]
      rfl
    repeat' (first | (refine pN_lss_s ?_ ?_ <;> intro hc <;> try (exfalso; omega)) | refine pIf_t ?_ | refine pN_ld1 ha hS ?_ | refine pN_ixk hS _ (by first | rfl | (exact (Int.toNat_of_nonneg (by omega)).symm)) (by first | rfl | omega | simpa only [go_sem] using True.intro | (simp only [go_sem]; omega)) (by assumption) fun a ha hel => ?_ | refine pN_via (by (intro K; simp (disch := omega) only [go_sem, pN_min, pN_max, w_u32, w_u64, Option.isNone_some, Option.isNone_none]; (try simp only [wrap_u32, wrap_u64]); rfl)) ?_ | fail)
    refine pN_and7 x ?_
    repeat' (first | refine pN_ofb ?_ | fail)
    rw [and7_nat]
    refine pN_or8 _ _ hb.1 (by omega) (by omega) ?_
    repeat' (first | refine pN_via (by (intro K; simp (disch := omega) only [go_sem, pN_min, pN_max, w_u32, w_u64, Option.isNone_some, Option.isNone_none]; (try simp only [wrap_u32, wrap_u64]); rfl)) ?_ | fail)
    exact ⟨⟨j + 1, by omega, by rw [ex, A.num_snoc]; simp, rfl, rfl⟩, by simp [RowKit.intOf] <;> omega⟩
  · repeat' (first | (refine pN_lss_s ?_ ?_ <;> intro hc <;> try (exfalso; omega)) | refine pIf_f ?_ | fail)
    obtain rfl : j = m.length := by omega
    rw [List.take_length]
    exact hQ

theorem text_ok (hS : Sat E w L) [hr : Rds cd_uint8 L s l] (hl : l.length ≤ 140737488355328) (hQ : ∀ w, Sat E w L → Q (.string ⟨(A.text l).toArray⟩) w) :
    Calls Tryd.prog 48 #[.slice s.a l.length s.c] w (retP Q) := by
  refine tar_text.calls ?_
  unfold tar_text.F
  repeat' (first | (refine pN_b1 hS (by rfl) (by decide) ?_; clear hS; intro s w hS) | fail)
  refine pc_bytes_Cut (Cut0_ok hS hl ?_)
  clear hS
  intro s3 v1 v2 w hS hp
  repeat' (first | refine pN_st hS (by first | rfl | omega | simpa only [go_sem] using True.intro | (simp only [go_sem]; omega)) ?_ | refine pN_via (by (intro K; simp (disch := omega) only [go_sem, pN_min, pN_max, w_u32, w_u64, Option.isNone_some, Option.isNone_none]; (try simp only [wrap_u32, wrap_u64]); rfl)) ?_ | fail)
  exact hQ _ hS.to

theorem pad_ok (n : Nat) (hn : n ≤ 281474976710656) (hQ : Q (.int .i64 ((512 - n % 512) % 512 : Nat)) w) : Calls Tryd.prog 28 #[.int .i64 n] w (retP Q) := by
  refine tar_pad.calls ?_
  unfold tar_pad.F
  repeat' (first | refine pN_via (by (intro K; simp (disch := omega) only [go_sem, pN_min, pN_max, w_u32, w_u64, Option.isNone_some, Option.isNone_none]; (try simp only [wrap_u32, wrap_u64]); rfl)) ?_ | fail)
  have e : ((512 - n % 512) % 512 : Nat) = (512 - (n : Int) % 512) % 512 := by omega
  rw [e] at hQ
  exact hQ

theorem zero_ok (hS : Sat E w L) [hr : Rds cd_uint8 L s l] (hQ : Q (.bool (decide (∀ b ∈ l, b = 0))) w) : Calls Tryd.prog 32 #[.slice s.a l.length s.c] w (retP Q) := by
  refine tar_zero.calls ?_
  unfold tar_zero.F
  refine pc_bytes_TrimLeft (TrimLeft0_ok hS fun s' hp => ?_)
  by_cases h : ∀ b ∈ l, b = 0
  · rw [decide_eq_true h] at hQ
    rw [A.trim_nil.2 h]
    repeat' (first | (refine pN_eql_s ?_ ?_ <;> intro hc <;> try (exfalso; first | omega | exact hc rfl | exact hc (by assumption) | exact absurd hc (by assumption))) | refine pN_via (by (intro K; simp (disch := omega) only [go_sem, pN_min, pN_max, w_u32, w_u64, Option.isNone_some, Option.isNone_none]; (try simp only [wrap_u32, wrap_u64]); rfl)) ?_ | fail)
    exact hQ
  · rw [decide_eq_false h] at hQ
    have h0 : (A.trim l).length ≠ 0 := fun e => h (A.trim_nil.1 (List.length_eq_zero_iff.1 e))
    repeat' (first | (refine pN_eql_s ?_ ?_ <;> intro hc <;> try (exfalso; first | omega | exact hc rfl | exact hc (by assumption) | exact absurd hc (by assumption))) | refine pN_via (by (intro K; simp (disch := omega) only [go_sem, pN_min, pN_max, w_u32, w_u64, Option.isNone_some, Option.isNone_none]; (try simp only [wrap_u32, wrap_u64]); rfl)) ?_ | fail)
    exact hQ

set_option maxHeartbeats 1000000 in
theorem sum_ok (hS : Sat E w L) [hr : Rds cd_uint8 L s l] (hl : 512 ≤ l.length) (hl2 : l.length ≤ 140737488355328) (hQ : ∀ s' w, Sat E w (rows cd_uint8 s' (A.sumField l) :: L) → Q (.slice s'.a 8 s'.c) w) :
    Calls Tryd.prog 30 #[.slice s.a l.length s.c] w (retP Q) := by
  refine tar_sum.calls ?_
  unfold tar_sum.F
  have htl : (l.take 512).length = 512 := by rw [List.length_take]; omega
  generalize hm : l.take 512 = m at *
  repeat' (first | (refine pN_slhw hS 512 rfl rfl (by omega) ?_; intro hp) | refine pN_via (by (intro K; simp (disch := omega) only [go_sem, pN_min, pN_max, w_u32, w_u64, Option.isNone_some, Option.isNone_none]; (try simp only [wrap_u32, wrap_u64]); rfl)) ?_ | fail)
  rw [hm] at hp
  have hS0 := hS
  refine ⟨fun a i w' => ∃ j : Nat, j ≤ 512 ∧ a = .int .i64 (A.sumTo l j : Nat) ∧ i = .int .i64 j ∧ Sat E w' L, fun _ i _ => 512 - (RowKit.intOf i).toNat, ⟨0, Nat.zero_le _, rfl, rfl, hS⟩, ?_⟩
  clear hS hS0
  rintro _ _ _ w ⟨j, hj, rfl, rfl, hS⟩
  by_cases hlt : j < 512
  · obtain ⟨x, hx⟩ : ∃ x, m[j]? = some x := ⟨m[j]'(by omega), by simp⟩
    have hsb := A.sumTo_bd l j
    have hxl : l[j]? = some x := by
      rw [← hm, List.getElem?_take, if_pos hlt] at hx
      exact hx
    have hxd : l.getD j 0 = x := by rw [List.getD_eq_getElem?_getD, hxl]; rfl
    have hx256 := x.toNat_lt
    repeat' (first | (refine pN_lss_s ?_ ?_ <;> intro hc <;> try (exfalso; omega)) | refine pIf_t ?_ | fail)
    refine ⟨fun v w' => v = .int .i64 (A.sumTo l (j + 1) : Nat) ∧ Sat E w' L, ?_, ?_⟩
    rotate_left 1
    · clear hS
      rintro _ _ w ⟨rfl, hS⟩
      repeat' (first | refine pN_via (by (intro K; simp (disch := omega) only [go_sem, pN_min, pN_max, w_u32, w_u64, Option.isNone_some, Option.isNone_none]; (try simp only [wrap_u32, wrap_u64]); rfl)) ?_ | fail)
      exact ⟨⟨j + 1, by omega, rfl, rfl, hS⟩, by simp [RowKit.intOf] <;> omega⟩
    repeat' (first | refine pN_ld1 ha hS ?_ | refine pN_ixk hS _ (by first | rfl | (exact (Int.toNat_of_nonneg (by omega)).symm)) (by first | rfl | omega | simpa only [go_sem] using True.intro | (simp only [go_sem]; omega)) (by assumption) fun a ha hel => ?_ | fail)
    refine ⟨fun v w' => v = bv (if 148 ≤ j ∧ j < 156 then 32 else x) ∧ Sat E w' L, ?_, ?_⟩
    · by_cases h1 : 148 ≤ j
      · by_cases h2 : j < 156
        · rw [if_pos ⟨h1, h2⟩]
          repeat' (first | ((first | refine pN_lss_s ?_ ?_ | refine pN_geq_s ?_ ?_) <;> intro hc <;> try (exfalso; omega)) | refine pIf_t ?_ | refine pGd_go (by rfl) ?_ | refine pN_via (by (intro K; simp (disch := omega) only [go_sem, pN_min, pN_max, w_u32, w_u64, Option.isNone_some, Option.isNone_none]; (try simp only [wrap_u32, wrap_u64]); rfl)) ?_ | fail)
          exact ⟨rfl, hS⟩
        · rw [if_neg (by omega)]
          repeat' (first | ((first | refine pN_lss_s ?_ ?_ | refine pN_geq_s ?_ ?_) <;> intro hc <;> try (exfalso; omega)) | refine pIf_f ?_ | refine pGd_go (by rfl) ?_ | refine pN_via (by (intro K; simp (disch := omega) only [go_sem, pN_min, pN_max, w_u32, w_u64, Option.isNone_some, Option.isNone_none]; (try simp only [wrap_u32, wrap_u64]); rfl)) ?_ | fail)
          exact ⟨rfl, hS⟩
      · rw [if_neg (by omega)]
        repeat' (first | (refine pN_geq_s ?_ ?_ <;> intro hc <;> try (exfalso; omega)) | refine pIf_f ?_ | refine pGd_no (by rfl) ?_ | refine pN_via (by (intro K; simp (disch := omega) only [go_sem, pN_min, pN_max, w_u32, w_u64, Option.isNone_some, Option.isNone_none]; (try simp only [wrap_u32, wrap_u64]); rfl)) ?_ | fail)
        exact ⟨rfl, hS⟩
    clear hS
    rintro _ _ w ⟨rfl, hS⟩
    have e : A.sumTo l (j + 1) = A.sumTo l j + (if 148 ≤ j ∧ j < 156 then 32 else x).toNat := by
      rw [A.sumTo, hxd]
      split <;> rfl
    have hy := (if 148 ≤ j ∧ j < 156 then 32 else x : UInt8).toNat_lt
    rw [e]
    generalize (if 148 ≤ j ∧ j < 156 then 32 else x : UInt8) = y at *
    repeat' (first | refine pN_ofb ?_ | refine pN_via (by (intro K; simp (disch := omega) only [go_sem, pN_min, pN_max, w_u32, w_u64, Option.isNone_some, Option.isNone_none]; (try simp only [wrap_u32, wrap_u64]); rfl)) ?_ | fail)
    exact ⟨congrArg (Value.int .i64) (by omega), hS⟩
  · obtain rfl : j = 512 := by omega
    repeat' (first | (refine pN_lss_s ?_ ?_ <;> intro hc <;> try (exfalso; omega)) | refine pIf_f ?_ | (refine pN_mk hS _ (by first | rfl | (exact (Int.toNat_of_nonneg (by omega)).symm)) (by first | omega | (simp only [go_sem]; omega)) ?_; clear hS; intro s w hS) | fail)
    have hS : Sat E w (rows cd_uint8 s (List.replicate 8 0) :: L) := hS
    refine pN_slhw hS 7 rfl rfl (by decide) ?_
    intro _
    refine pc_tar_octal (octal_ok hS 0 7 (by omega) (by simp) (by simp) _ ?_)
    clear hS
    intro w hS
    have hu := A.oct_len (A.sumTo l 512) 6
    have e : putL (List.replicate 8 (0 : UInt8)) 0 (A.oct (A.sumTo l 512) (7 - 1)) = A.oct (A.sumTo l 512) 6 ++ [0, 0] := by
      rw [show (7 - 1 : Nat) = 6 from rfl, putL, hu]
      rfl
    rw [e] at hS
    have hl8 : (A.oct (A.sumTo l 512) 6 ++ [0, 0]).length = 8 := by rw [List.length_append, hu]; rfl
    have e2 : (A.oct (A.sumTo l 512) 6 ++ [0, 0]).set 7 32 = A.sumField l := by
      rw [List.set_append_right _ _ (by omega), hu]
      rfl
    repeat' (first | refine pN_ix hS _ (by first | rfl | (exact (Int.toNat_of_nonneg (by omega)).symm)) (by first | rfl | omega | simpa only [go_sem] using True.intro | (simp only [go_sem]; omega)) (by first | omega | (simp only [go_sem]; omega)) fun a x hx ha hel => ?_ | (refine pN_sr hel hS (by rfl) (by rfl) (by first | omega | (simp only [go_sem]; omega)) ?_; clear hS; intro w hS) | fail)
    have hl9 : (A.sumField l).length = 8 := by rw [← e2, List.length_set, hl8]
    rw [e2] at hS
    exact hQ _ _ hS

theorem parted_ok (hl : l.length ≤ 140737488355328) (hQ : ∀ w, Sat E w L → Q (.tuple #[.string ⟨(A.parted l).1.toArray⟩, .string ⟨(A.parted l).2.1.toArray⟩, .bool (A.parted l).2.2]) w) (hS : Sat E w L) :
    Calls Tryd.prog 43 #[.string ⟨l.toArray⟩] w (retP Q) := by
  refine tar_parted.calls ?_
  unfold tar_parted.F
  have e0 : (.string ⟨#[]⟩ : Value) = .string ⟨List.toArray []⟩ := rfl
  rw [e0]
  by_cases h1 : l = [] ∨ 0 ∈ l
  · have hp : A.parted l = ([], [], false) := by rw [A.parted, if_pos h1]
    rw [hp] at hQ
    have h2 : ¬ l = [] → 0 ≤ A.ixb l 0 := fun hn => A.ixb_mem.2 (h1.resolve_left hn)
    repeat' (first | (refine pc_strings_IndexByte (sIndexByte_ok 0 ?_); have h3 := h2 (by assumption)) | (refine pN_geq_s ?_ ?_ <;> intro hc <;> try (exfalso; omega)) | (refine pN_eql_ss ?_ ?_ <;> intro hc <;> try (exfalso; first | omega | exact hc rfl | exact hc (by assumption) | exact absurd hc (by assumption))) | refine pIf_t ?_ | refine pGd_go (by rfl) ?_ | refine pGd_no (by rfl) ?_ | refine pN_via (by (intro K; simp (disch := omega) only [go_sem, pN_min, pN_max, w_u32, w_u64, Option.isNone_some, Option.isNone_none]; (try simp only [wrap_u32, wrap_u64]); rfl)) ?_ | fail)
    all_goals exact hQ _ hS
  have h2 : ¬ l = [] := fun e => h1 (.inl e)
  have h3 : ¬ 0 ≤ A.ixb l 0 := fun e => h1 (.inr (A.ixb_mem.1 e))
  by_cases h4 : l.length ≤ 100
  · have hp : A.parted l = ([], l, true) := by rw [A.parted, if_neg h1, if_pos h4]
    rw [hp] at hQ
    repeat' (first | (refine pc_strings_IndexByte (sIndexByte_ok 0 ?_)) | refine pN_slen ?_ | ((first | refine pN_leq_s ?_ ?_ | refine pN_geq_s ?_ ?_) <;> intro hc <;> try (exfalso; omega)) | (refine pN_eql_ss ?_ ?_ <;> intro hc <;> try (exfalso; first | omega | exact hc rfl | exact hc (by assumption) | exact absurd hc (by assumption))) | refine pIf_t ?_ | refine pIf_f ?_ | refine pGd_go (by rfl) ?_ | refine pN_via (by (intro K; simp (disch := omega) only [go_sem, pN_min, pN_max, w_u32, w_u64, Option.isNone_some, Option.isNone_none]; (try simp only [wrap_u32, wrap_u64]); rfl)) ?_ | fail)
    all_goals exact hQ _ hS
  have hpn : A.slash l (max 1 (l.length - 101)) = none → A.parted l = ([], [], false) := fun e => by rw [A.parted, if_neg h1, if_neg h4, e]
  have hps : ∀ i, A.slash l (max 1 (l.length - 101)) = some i → A.parted l = (l.take i, l.drop (i + 1), decide (i ≤ 155 ∧ i + 1 < l.length)) := fun i e => by rw [A.parted, if_neg h1, if_neg h4, e]
  generalize hm0 : max 1 (l.length - 101) = m0 at *
  have hm1 : (max 1 ((l.length : Int) - 1 - 100)) = (m0 : Int) := by omega
  repeat' (first | (refine pc_strings_IndexByte (sIndexByte_ok 0 ?_)) | refine pN_slen ?_ | ((first | refine pN_leq_s ?_ ?_ | refine pN_geq_s ?_ ?_) <;> intro hc <;> try (exfalso; omega)) | (refine pN_eql_ss ?_ ?_ <;> intro hc <;> try (exfalso; first | omega | exact hc rfl | exact hc (by assumption) | exact absurd hc (by assumption))) | refine pIf_f ?_ | refine pGd_go (by rfl) ?_ | refine pN_via (by (intro K; simp (disch := omega) only [go_sem, pN_min, pN_max, w_u32, w_u64, Option.isNone_some, Option.isNone_none]; (try simp only [wrap_u32, wrap_u64]); rfl)) ?_ | fail)
  rw [hm1]
  refine ⟨fun v w' => ∃ i : Nat, v = .int .i64 i ∧ m0 ≤ i ∧ A.slash l m0 = A.slash l i ∧ Sat E w' L, fun v _ => l.length - (RowKit.intOf v).toNat, ⟨m0, rfl, Nat.le_refl _, rfl, hS⟩, ?_⟩
  clear hS
  rintro _ _ w ⟨i, rfl, hi, hsl, hS⟩
  by_cases hlt : i < l.length
  · obtain ⟨x, hx⟩ : ∃ x, l[i]? = some x := ⟨l[i]'hlt, by simp⟩
    by_cases h47 : x = 47
    · subst h47
      rw [A.slash_hit hx] at hsl
      rw [hps _ hsl] at hQ
      by_cases h5 : i ≤ 155
      · by_cases h6 : i + 1 < l.length
        · rw [decide_eq_true ⟨h5, h6⟩] at hQ
          repeat' (first | refine pN_slen ?_ | refine pA_slen ?_ | refine pN_sidx _ (by first | rfl | (exact (Int.toNat_of_nonneg (by omega)).symm)) (by first | assumption | rfl) ?_ | refine pA_ssl1 _ (by first | rfl | (exact (Int.toNat_of_nonneg (by omega)).symm)) (by first | omega | (simp only [go_sem]; omega)) ?_ | refine pA_sslh _ (by first | rfl | (exact (Int.toNat_of_nonneg (by omega)).symm)) (by first | omega | (simp only [go_sem]; omega)) ?_ | ((first | refine pN_lss_s ?_ ?_ | refine pA_lss_s ?_ ?_ | refine pA_leq_s ?_ ?_) <;> intro hc <;> try (exfalso; omega)) | (refine pN_eql_s ?_ ?_ <;> intro hc <;> try (exfalso; first | omega | exact hc rfl | exact hc (by assumption) | exact absurd hc (by assumption))) | refine pIf_t ?_ | refine gA_go (by rfl) ?_ | (refine pDr_go hS ?_; clear hS; intro w hS) | refine pA_via (by (intro K; simp (disch := omega) only [go_sem, pN_min, pN_max, w_u32, w_u64, Option.isNone_some, Option.isNone_none]; (try simp only [wrap_u32, wrap_u64]); rfl)) ?_ | fail)
          exact hQ _ hS
        · rw [decide_eq_false (fun h => h6 h.2)] at hQ
          repeat' (first | refine pN_slen ?_ | refine pA_slen ?_ | refine pN_sidx _ (by first | rfl | (exact (Int.toNat_of_nonneg (by omega)).symm)) (by first | assumption | rfl) ?_ | refine pA_ssl1 _ (by first | rfl | (exact (Int.toNat_of_nonneg (by omega)).symm)) (by first | omega | (simp only [go_sem]; omega)) ?_ | refine pA_sslh _ (by first | rfl | (exact (Int.toNat_of_nonneg (by omega)).symm)) (by first | omega | (simp only [go_sem]; omega)) ?_ | ((first | refine pN_lss_s ?_ ?_ | refine pA_lss_s ?_ ?_ | refine pA_leq_s ?_ ?_) <;> intro hc <;> try (exfalso; omega)) | (refine pN_eql_s ?_ ?_ <;> intro hc <;> try (exfalso; first | omega | exact hc rfl | exact hc (by assumption) | exact absurd hc (by assumption))) | refine pIf_t ?_ | refine gA_go (by rfl) ?_ | (refine pDr_go hS ?_; clear hS; intro w hS) | refine pA_via (by (intro K; simp (disch := omega) only [go_sem, pN_min, pN_max, w_u32, w_u64, Option.isNone_some, Option.isNone_none]; (try simp only [wrap_u32, wrap_u64]); rfl)) ?_ | fail)
          exact hQ _ hS
      · rw [decide_eq_false (fun h => h5 h.1)] at hQ
        repeat' (first | refine pN_slen ?_ | refine pN_sidx _ (by first | rfl | (exact (Int.toNat_of_nonneg (by omega)).symm)) (by first | assumption | rfl) ?_ | refine pA_ssl1 _ (by first | rfl | (exact (Int.toNat_of_nonneg (by omega)).symm)) (by first | omega | (simp only [go_sem]; omega)) ?_ | refine pA_sslh _ (by first | rfl | (exact (Int.toNat_of_nonneg (by omega)).symm)) (by first | omega | (simp only [go_sem]; omega)) ?_ | ((first | refine pN_lss_s ?_ ?_ | refine pA_leq_s ?_ ?_) <;> intro hc <;> try (exfalso; omega)) | (refine pN_eql_s ?_ ?_ <;> intro hc <;> try (exfalso; first | omega | exact hc rfl | exact hc (by assumption) | exact absurd hc (by assumption))) | refine pIf_t ?_ | refine gA_no (by rfl) ?_ | (refine pDr_go hS ?_; clear hS; intro w hS) | refine pA_via (by (intro K; simp (disch := omega) only [go_sem, pN_min, pN_max, w_u32, w_u64, Option.isNone_some, Option.isNone_none]; (try simp only [wrap_u32, wrap_u64]); rfl)) ?_ | fail)
        exact hQ _ hS
    · have h48 : ¬ (x.toNat : Int) = ((47 : UInt8).toNat : Int) := fun e => h47 (UInt8.toNat_inj.1 (by omega))
      rw [A.slash_miss hx h47] at hsl
      repeat' (first | refine pN_slen ?_ | refine pN_sidx _ (by first | rfl | (exact (Int.toNat_of_nonneg (by omega)).symm)) (by first | assumption | rfl) ?_ | (refine pN_lss_s ?_ ?_ <;> intro hc <;> try (exfalso; omega)) | (refine pN_eql_s ?_ ?_ <;> intro hc <;> try (exfalso; first | omega | exact hc rfl | exact hc (by assumption) | exact absurd hc (by assumption))) | refine pIf_t ?_ | refine pIf_f ?_ | refine pN_via (by (intro K; simp (disch := omega) only [go_sem, pN_min, pN_max, w_u32, w_u64, Option.isNone_some, Option.isNone_none]; (try simp only [wrap_u32, wrap_u64]); rfl)) ?_ | fail)
      exact ⟨⟨i + 1, rfl, by omega, hsl, hS⟩, by simp [RowKit.intOf] <;> omega⟩
  · rw [A.slash_out (l := l) (i := i) (by omega)] at hsl
    rw [hpn hsl] at hQ
    repeat' (first | refine pN_slen ?_ | (refine pN_lss_s ?_ ?_ <;> intro hc <;> try (exfalso; omega)) | refine pIf_f ?_ | fail)
    exact hQ _ hS
end

end Go.Proofs.YteeepkimnpabiaaDoor

namespace Go.Proofs.YteeepkimnpabiaaDoor
open Go
set_option linter.unusedSimpArgs false
set_option linter.unnecessarySimpa false
set_option linter.unusedSectionVars false
set_option linter.unusedVariables false
attribute [local irreducible] oMv oV oU oCall oCallV oBi oBin oUn oLoad oStore oNil oFld oField oIdx oIndex oPick oAlloc oBox oBuild oBs oConv oMk oSl oExt oFn oIface oMap oLook oMapUp oRange oNext oAssert oPanic oRes pN pA pL pDr pIf gA pGd Calls

section
variable [Pan] {E w : World} {K Q : Value → World → Prop} {L M : List HA} {l r : List UInt8} {s s2 : Sl}

set_option maxHeartbeats 2000000 in
theorem wrong_ok (x : T_api_Item) (hn : x.Name.length ≤ 140737488355328) (hk : x.Link.length ≤ 140737488355328) (hS : Sat E w L) (hQ : ∀ w, Sat E w L → Q (.int .i64 (A.wrong x)) w) :
    Calls Tryd.prog 26 #[.agg x.enc.toArray] w (retP Q) := by
  refine tar_wrong.calls ?_
  unfold tar_wrong.F
  obtain ⟨name, link, kind, mode, time, data⟩ := x
  obtain ⟨w6, w8, w7, w0⟩ : (kind < 0 ∨ 3 ≤ kind ∨ (kind ≠ 2 ∧ link.length ≠ 0) ∨ (kind ≠ 0 ∧ 0 < data.2.length) → A.wrong ⟨name, link, kind, mode, time, data⟩ = 6) ∧
      (¬ (kind < 0 ∨ 3 ≤ kind ∨ (kind ≠ 2 ∧ link.length ≠ 0) ∨ (kind ≠ 0 ∧ 0 < data.2.length)) → ((A.parted name).2.2 = false ∨ (kind = 2 ∧ (link.length = 0 ∨ 100 < link.length ∨ 0 ∈ link))) → A.wrong ⟨name, link, kind, mode, time, data⟩ = 8) ∧
      (¬ (kind < 0 ∨ 3 ≤ kind ∨ (kind ≠ 2 ∧ link.length ≠ 0) ∨ (kind ≠ 0 ∧ 0 < data.2.length)) → ¬ ((A.parted name).2.2 = false ∨ (kind = 2 ∧ (link.length = 0 ∨ 100 < link.length ∨ 0 ∈ link))) → (mode < 0 ∨ 4096 ≤ mode ∨ time < 0 ∨ 8589934592 ≤ time ∨ 8589934592 ≤ data.2.length) → A.wrong ⟨name, link, kind, mode, time, data⟩ = 7) ∧
      (¬ (kind < 0 ∨ 3 ≤ kind ∨ (kind ≠ 2 ∧ link.length ≠ 0) ∨ (kind ≠ 0 ∧ 0 < data.2.length)) → ¬ ((A.parted name).2.2 = false ∨ (kind = 2 ∧ (link.length = 0 ∨ 100 < link.length ∨ 0 ∈ link))) → ¬ (mode < 0 ∨ 4096 ≤ mode ∨ time < 0 ∨ 8589934592 ≤ time ∨ 8589934592 ≤ data.2.length) → A.wrong ⟨name, link, kind, mode, time, data⟩ = 0) :=
    ⟨fun h => by rw [A.wrong, if_pos h], fun h h2 => by rw [A.wrong, if_neg h, if_pos h2], fun h h2 h3 => by rw [A.wrong, if_neg h, if_neg h2, if_pos h3], fun h h2 h3 => by rw [A.wrong, if_neg h, if_neg h2, if_neg h3]⟩
  dsimp only [T_api_Item.enc] at hn hk ⊢
  generalize A.wrong ⟨name, link, kind, mode, time, data⟩ = res at *
  have e0 : (.string ⟨#[]⟩ : Value) = .string ⟨List.toArray []⟩ := rfl
  rw [e0]
  have hlk : (link = [] ∧ link.length = 0) ∨ (¬ link = [] ∧ 0 < link.length) := by
    rcases link with _ | ⟨b, t⟩ <;> simp
  have hm : (0 ∈ link ∧ 0 ≤ A.ixb link 0) ∨ (¬ 0 ∈ link ∧ ¬ 0 ≤ A.ixb link 0) := by
    by_cases h : 0 ∈ link
    · exact .inl ⟨h, A.ixb_mem.2 h⟩
    · exact .inr ⟨h, fun e => h (A.ixb_mem.1 e)⟩
  have hnb : (A.parted name).2.2 = true ∨ (A.parted name).2.2 = false := by cases (A.parted name).2.2 <;> simp
  refine pN_bx hS (by rfl) ?_
  clear hS
  intro a w hS
  repeat' (first | (refine pc_tar_parted (parted_ok (L := _ :: L) hn ?_ hS); clear hS; intro w hS) | (refine pN_eql_s ?_ ?_ <;> intro hc <;> try (exfalso; first | omega | exact hc rfl | exact hc (by assumption) | exact absurd hc (by assumption))) | refine pN_l hS (by first | rfl | assumption) ?_ | refine pN_via (by (intro K; simp (disch := omega) only [go_sem, pN_min, pN_max, w_u32, w_u64, Option.isNone_some, Option.isNone_none]; (try simp only [wrap_u32, wrap_u64]); rfl)) ?_ | fail)
  all_goals
    have hS : Sat E w (cel a ⟨24, [.string ⟨name.toArray⟩, .string ⟨link.toArray⟩, .int .i64 kind, .int .i64 mode, .int .i64 time, .slice data.1.a data.2.length data.1.c]⟩ :: L) := hS
    refine ⟨fun w' => res = 0 ∧ Sat E w' L, ?_, ?_⟩
    rotate_left 1
    · clear hS
      rintro _ w ⟨rfl, hS⟩
      exact hQ _ hS
    refine ⟨fun v w' => v = .bool (decide (kind < 0 ∨ 3 ≤ kind ∨ (kind ≠ 2 ∧ link.length ≠ 0) ∨ (kind ≠ 0 ∧ 0 < data.2.length))) ∧ Sat E w' (cel a ⟨24, [.string ⟨name.toArray⟩, .string ⟨link.toArray⟩, .int .i64 kind, .int .i64 mode, .int .i64 time, .slice data.1.a data.2.length data.1.c]⟩ :: L), ?_, ?_⟩
    · rcases hlk with ⟨hl0, hll⟩ | ⟨hl0, hll⟩
      all_goals
        repeat' (first | ((first | refine pN_lss_s ?_ ?_ | refine pN_gtr_s ?_ ?_ | refine pN_geq_s ?_ ?_) <;> intro hc <;> try (exfalso; omega)) | ((first | refine pN_neq_s ?_ ?_ | refine pN_neq_ss ?_ ?_) <;> intro hc <;> try (exfalso; first | omega | exact hc rfl | exact hc (by assumption) | exact absurd hc (by assumption))) | refine pIf_t ?_ | refine pIf_f ?_ | refine pGd_go (by rfl) ?_ | refine pGd_no (by rfl) ?_ | refine pN_l hS (by first | rfl | assumption) ?_ | refine pN_via (by (intro K; simp (disch := omega) only [go_sem, pN_min, pN_max, w_u32, w_u64, Option.isNone_some, Option.isNone_none]; (try simp only [wrap_u32, wrap_u64]); rfl)) ?_ | fail)
        all_goals first
          | exact ⟨congrArg Value.bool (decide_eq_true (by omega)).symm, hS⟩
          | exact ⟨congrArg Value.bool (decide_eq_false (by omega)).symm, hS⟩
    clear hS
    rintro _ _ w ⟨rfl, hS⟩
    by_cases C1 : kind < 0 ∨ 3 ≤ kind ∨ (kind ≠ 2 ∧ link.length ≠ 0) ∨ (kind ≠ 0 ∧ 0 < data.2.length)
    · rw [decide_eq_true C1]
      refine pIf_t ?_
      have := w6 C1
      subst this
      exact hQ _ hS.to
    rw [decide_eq_false C1]
    refine pIf_f ?_
    refine ⟨fun v w' => v = .bool (decide ((A.parted name).2.2 = false ∨ (kind = 2 ∧ (link.length = 0 ∨ 100 < link.length ∨ 0 ∈ link)))) ∧ Sat E w' (cel a ⟨24, [.string ⟨name.toArray⟩, .string ⟨link.toArray⟩, .int .i64 kind, .int .i64 mode, .int .i64 time, .slice data.1.a data.2.length data.1.c]⟩ :: L), ?_, ?_⟩
    · rcases hnb with hb | hb
      · rw [hb]
        rcases hlk with ⟨hl0, hll⟩ | ⟨hl0, hll⟩
        all_goals rcases hm with ⟨hm0, hmi⟩ | ⟨hm0, hmi⟩
        all_goals simp only [hm0, or_true, or_false, and_true, Bool.true_eq_false, false_or]
        all_goals
          repeat' (first | (refine pc_strings_IndexByte (sIndexByte_ok 0 ?_)) | refine pN_slen ?_ | ((first | refine pN_gtr_s ?_ ?_ | refine pN_geq_s ?_ ?_) <;> intro hc <;> try (exfalso; omega)) | (refine pN_eql_ss ?_ ?_ <;> intro hc <;> try (exfalso; first | omega | exact hc rfl | exact hc (by assumption) | exact absurd hc (by assumption))) | refine pIf_f ?_ | refine pGd_go (by rfl) ?_ | refine pGd_no (by rfl) ?_ | refine pN_l hS (by first | rfl | assumption) ?_ | refine pN_via (by (intro K; simp (disch := omega) only [go_sem, pN_min, pN_max, w_u32, w_u64, Option.isNone_some, Option.isNone_none]; (try simp only [wrap_u32, wrap_u64]); rfl)) ?_ | fail)
          all_goals first
            | exact ⟨congrArg Value.bool (decide_eq_true (by omega)).symm, hS⟩
            | exact ⟨congrArg Value.bool (decide_eq_false (by omega)).symm, hS⟩
      · rw [hb]
        repeat' (first | refine pIf_t ?_ | refine pN_via (by (intro K; simp (disch := omega) only [go_sem, pN_min, pN_max, w_u32, w_u64, Option.isNone_some, Option.isNone_none]; (try simp only [wrap_u32, wrap_u64]); rfl)) ?_ | fail)
        exact ⟨congrArg Value.bool (decide_eq_true (.inl rfl)).symm, hS⟩
    clear hS
    rintro _ _ w ⟨rfl, hS⟩
    by_cases C2 : (A.parted name).2.2 = false ∨ (kind = 2 ∧ (link.length = 0 ∨ 100 < link.length ∨ 0 ∈ link))
    · rw [decide_eq_true C2]
      refine pIf_t ?_
      have := w8 C1 C2
      subst this
      exact hQ _ hS.to
    rw [decide_eq_false C2]
    refine pIf_f ?_
    refine ⟨fun v w' => v = .bool (decide (mode < 0 ∨ 4096 ≤ mode ∨ time < 0 ∨ 8589934592 ≤ time ∨ 8589934592 ≤ data.2.length)) ∧ Sat E w' (cel a ⟨24, [.string ⟨name.toArray⟩, .string ⟨link.toArray⟩, .int .i64 kind, .int .i64 mode, .int .i64 time, .slice data.1.a data.2.length data.1.c]⟩ :: L), ?_, ?_⟩
    · repeat' (first | ((first | refine pN_lss_s ?_ ?_ | refine pN_geq_s ?_ ?_) <;> intro hc <;> try (exfalso; omega)) | refine pIf_t ?_ | refine pIf_f ?_ | refine pGd_go (by rfl) ?_ | refine pGd_no (by rfl) ?_ | refine pN_l hS (by first | rfl | assumption) ?_ | refine pN_via (by (intro K; simp (disch := omega) only [go_sem, pN_min, pN_max, w_u32, w_u64, Option.isNone_some, Option.isNone_none]; (try simp only [wrap_u32, wrap_u64]); rfl)) ?_ | fail)
      all_goals first
        | exact ⟨congrArg Value.bool (decide_eq_true (by omega)).symm, hS⟩
        | exact ⟨congrArg Value.bool (decide_eq_false (by omega)).symm, hS⟩
    clear hS
    rintro _ _ w ⟨rfl, hS⟩
    by_cases C3 : mode < 0 ∨ 4096 ≤ mode ∨ time < 0 ∨ 8589934592 ≤ time ∨ 8589934592 ≤ data.2.length
    · rw [decide_eq_true C3]
      refine pIf_t ?_
      have := w7 C1 C2 C3
      subst this
      exact hQ _ hS.to
    · rw [decide_eq_false C3]
      refine pIf_f ?_
      exact ⟨w0 C1 C2 C3, hS.to⟩
end

end Go.Proofs.YteeepkimnpabiaaDoor
