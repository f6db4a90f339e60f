/-
  Bytes in the walk; arrays behind pointers; parts opened. No program is named here.
-/
import Derived.Test.YtbgnnjfpiblkmaaDoorWalk
namespace Go.Proofs.YtbgnnjfpiblkmaaDoor
open Go
set_option linter.unusedSimpArgs false
set_option linter.unnecessarySimpa false
set_option linter.unusedSectionVars false
set_option linter.unusedVariables false

section
variable [Pan] {P : Program} {E w w' : World} {K : Value → World → Prop} {J : Value → Prop} {L : List HA} {A : HA}

theorem bv_wadd (a b : UInt8) : IntKind.u8.wrap ((a.toNat : Int) + (b.toNat : Int)) = ((a + b).toNat : Int) := by
  rw [wrap_u8, UInt8.toNat_add]; omega
theorem bv_wsub (a b : UInt8) : IntKind.u8.wrap ((a.toNat : Int) - (b.toNat : Int)) = ((a - b).toNat : Int) := by
  rw [wrap_u8, UInt8.toNat_sub]
  have := a.toNat_lt
  have := b.toNat_lt
  omega
theorem bv_wneg (b : UInt8) : IntKind.u8.wrap (0 - (b.toNat : Int)) = ((-b).toNat : Int) := by
  have h := bv_wsub 0 b
  simpa using h

theorem pN_add_bv (t : TypeId) (xo yo : Operand) (a b : UInt8) : pN P (oBin .add t xo yo (bv a) (bv b)) w K = K (bv (a + b)) w := by
  unfold bv; rw [pN_add, bv_wadd]
theorem pA_add_bv (t : TypeId) (xo yo : Operand) (a b : UInt8) : pA P (oBin .add t xo yo (bv a) (bv b)) J = J (bv (a + b)) := by
  unfold bv; rw [pA_add, bv_wadd]
theorem pN_sub_bv (t : TypeId) (xo yo : Operand) (a b : UInt8) : pN P (oBin .sub t xo yo (bv a) (bv b)) w K = K (bv (a - b)) w := by
  unfold bv; rw [pN_sub, bv_wsub]
theorem pA_sub_bv (t : TypeId) (xo yo : Operand) (a b : UInt8) : pA P (oBin .sub t xo yo (bv a) (bv b)) J = J (bv (a - b)) := by
  unfold bv; rw [pA_sub, bv_wsub]
theorem pN_neg_bv (b : UInt8) : pN P (oUn .neg (bv b)) w K = K (bv (-b)) w := by
  unfold bv; rw [pN_neg, bv_wneg]
theorem bv_beq (a b : UInt8) : ((a.toNat : Int) == (b.toNat : Int)) = (a == b) := by
  rw [Bool.eq_iff_iff, beq_iff_eq, beq_iff_eq]
  constructor
  · intro h; exact UInt8.toNat_inj.1 (by omega)
  · intro h; rw [h]
theorem pN_neq_bv (t : TypeId) (xo yo : Operand) (a b : UInt8) : pN P (oBin .neq t xo yo (bv a) (bv b)) w K = K (.bool (a != b)) w := by
  unfold bv; rw [pN_neq]; simp only [bne, bv_beq]
theorem pA_neq_bv (t : TypeId) (xo yo : Operand) (a b : UInt8) : pA P (oBin .neq t xo yo (bv a) (bv b)) J = J (.bool (a != b)) := by
  unfold bv; rw [pA_neq]; simp only [bne, bv_beq]
theorem pN_eql_bv (t : TypeId) (xo yo : Operand) (a b : UInt8) : pN P (oBin .eql t xo yo (bv a) (bv b)) w K = K (.bool (a == b)) w := by
  unfold bv; rw [pN_eql]; simp only [bv_beq]
theorem pA_eql_bv (t : TypeId) (xo yo : Operand) (a b : UInt8) : pA P (oBin .eql t xo yo (bv a) (bv b)) J = J (.bool (a == b)) := by
  unfold bv; rw [pA_eql]; simp only [bv_beq]

attribute [go_sem] pN_add_bv pA_add_bv pN_sub_bv pA_sub_bv pN_neg_bv pN_neq_bv pA_neq_bv pN_eql_bv pA_eql_bv

/-- An element of an array behind a pointer. -/
theorem run_aidx {t e : TypeId} {n : Nat} (ht : P.underlying t = some (.array n e)) (hs : ∀ w, (sizeOf e).run P w = .ok 1 w) (b o : Nat) (k : IntKind) (i : Int) (h0 : 0 ≤ i) (h1 : i < n) (w : World) :
    (oIdx t (.pointer (some ⟨b, o, none⟩)) (.int k i)).run P w = .ok (.value (.pointer (some ⟨b, o + i.toNat, none⟩))) w := by
  refine run_oV_ok ?_
  simp [Instr.indexAt, run_underlying ht, asIntOf, hs, h0, h1, Instr.sureAddr, Addr.add_lit]
theorem pN_aidx {t e : TypeId} {n : Nat} (ht : P.underlying t = some (.array n e)) (hs : ∀ w, (sizeOf e).run P w = .ok 1 w) (b o : Nat) (k : IntKind) (i : Int) (h0 : 0 ≤ i) (h1 : i < n) :
    pN P (oIdx t (.pointer (some ⟨b, o, none⟩)) (.int k i)) w K = K (.pointer (some ⟨b, o + i.toNat, none⟩)) w := by rw [pN_def, run_aidx ht hs b o k i h0 h1, rN_value]
theorem pA_aidx {t e : TypeId} {n : Nat} (ht : P.underlying t = some (.array n e)) (hs : ∀ w, (sizeOf e).run P w = .ok 1 w) (b o : Nat) (k : IntKind) (i : Int) (h0 : 0 ≤ i) (h1 : i < n) :
    pA P (oIdx t (.pointer (some ⟨b, o, none⟩)) (.int k i)) J = J (.pointer (some ⟨b, o + i.toNat, none⟩)) := by rw [pA_def, funext (run_aidx ht hs b o k i h0 h1), rA_value]

theorem madeCells_list (z : Value) (n : Nat) : (madeCells #[z] n).toList = List.replicate n z := by
  apply List.ext_getElem
  · simp [size_madeCells]
  · intro i h1 h2
    simp [madeCells, Nat.mod_one]

/-- A part opened: what it is of, and what it holds. -/
theorem Sat.opn {α : Type} {p : α → Prop} {B : α → HA} (hs : Sat E w (A :: L)) (h : ∀ hp, A hp → ∃ x, p x ∧ B x hp) : ∃ x, p x ∧ Sat E w (B x :: L) := by
  obtain ⟨h1, hA, s, hr⟩ := hs.sats
  obtain ⟨x, hx, hB⟩ := h h1 hA
  exact ⟨x, hx, hs.os, hs.tape, hs.output, h1, hB, s, hr⟩

theorem Sat.cell {b : Nat} {cs : Array Value} {e : TypeId} {fz : Nat × Nat} (hs : Sat E w L) (i : Nat) (hi : L[i]? = some (blk b (.cells cs e fz))) (j : Nat) : w.cell? ⟨b, j, none⟩ = cs[j]? :=
  cell_of_blk (hs.blk_at i hi) j

theorem Rd.len {v : Value} {n : Nat} {l : List UInt8} (hr : Rd w 1 v n (bvs l)) : Rd w 1 v l.length (bvs l) := by
  have : n = l.length := by have := hr.1; rw [bvs_length] at this; omega
  rw [← this]; exact hr

theorem str_list (l : List UInt8) : (ByteArray.mk l.toArray).toList = l := by rw [ByteArray.toList_eq]

theorem pN_eql_l (t : TypeId) (xo yo : Operand) (l m : List UInt8) : pN P (oBin .eql t xo yo (.string ⟨l.toArray⟩) (.string ⟨m.toArray⟩)) w K = K (.bool (l == m)) w := by
  rw [pN_eql_str, str_list, str_list]
theorem pN_neq_l (t : TypeId) (xo yo : Operand) (l m : List UInt8) : pN P (oBin .neq t xo yo (.string ⟨l.toArray⟩) (.string ⟨m.toArray⟩)) w K = K (.bool (!(l == m))) w := by
  rw [pN_neq_str, str_list, str_list]
theorem pA_eql_l (t : TypeId) (xo yo : Operand) (l m : List UInt8) : pA P (oBin .eql t xo yo (.string ⟨l.toArray⟩) (.string ⟨m.toArray⟩)) J = J (.bool (l == m)) := by
  rw [pA_eql_str, str_list, str_list]
theorem pA_neq_l (t : TypeId) (xo yo : Operand) (l m : List UInt8) : pA P (oBin .neq t xo yo (.string ⟨l.toArray⟩) (.string ⟨m.toArray⟩)) J = J (.bool (!(l == m))) := by
  rw [pA_neq_str, str_list, str_list]
attribute [go_sem] pN_eql_l pN_neq_l pA_eql_l pA_neq_l

theorem bv0 : Value.int .u8 0 = bv 0 := rfl
theorem bvs_set (l : List UInt8) (i : Nat) (v : UInt8) : (bvs l).set i (bv v) = bvs (l.set i v) := by simp [bvs, List.map_set]
theorem bvs_getD0 (l : List UInt8) (i : Nat) (h : i < l.length) : (bvs l).getD i undef = bv (l.getD i 0) := by
  simp [bvs, h]

theorem bvs_getD (l : List UInt8) (i : Nat) (h : i < l.length) : (bvs l).getD i undef = bv (l[i]) := by
  simp [bvs, h]
end

end Go.Proofs.YtbgnnjfpiblkmaaDoor
