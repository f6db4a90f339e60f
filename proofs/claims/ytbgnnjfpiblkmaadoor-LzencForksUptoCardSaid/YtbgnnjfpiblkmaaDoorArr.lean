/-
  Arrays inside a variable: parts of them as slices, copy within one variable. No program is named here.
-/
import Derived.Test.YtbgnnjfpiblkmaaDoorPart
namespace Go.Proofs.YtbgnnjfpiblkmaaDoor
open Go
set_option linter.unusedSimpArgs false
set_option linter.unnecessarySimpa false
set_option linter.unusedSectionVars false
set_option linter.unusedVariables false

section
variable [Pan] {P : Program} {E w : World} {K : Value → World → Prop} {J : Value → Prop} {L M : List HA} {v : Value} {t e : TypeId} {o : Ob} {b i j n : Nat} {k : IntKind} {x : Int}

/-- An array type of elements of one cell. -/
class Ar (P : Program) (t : TypeId) (n : outParam Nat) : Prop where
  ex : ∃ e, P.underlying t = some (.array n e) ∧ (∀ w, (sizeOf e).run P w = .ok 1 w) ∧ ∀ w, (isAgg e).run P w = .ok false w

theorem run_aix [h : Ar P t n] {cs : List Value} (j : Nat) (hx : x = (j : Int)) (hj : j < n) (hv : cs[j]? = some v) (w : World) : (oIndex t (.agg cs.toArray) (.int k x)).run P w = .ok (.value v) w := by
  obtain ⟨e, ht, hs, ha⟩ := h.ex
  subst hx
  refine run_oV_ok ?_
  have h1 : (j : Int) < n := by omega
  simp [Instr.index, run_underlying ht, asIntOf, hs, hj, part, ha, hv]
theorem pN_aix [h : Ar P t n] {cs : List Value} (j : Nat) (hx : x = (j : Int)) (hj : j < n) (hv : cs[j]? = some v) (hk : K v w) : pN P (oIndex t (.agg cs.toArray) (.int k x)) w K := by
  rw [pN_def, run_aix j hx hj hv, rN_value]; exact hk

theorem run_aslo [h : Ar P t n] (lo : Nat) (hx : x = (lo : Int)) (hl : lo < n) (w : World) :
    (oSl t (.pointer (some ⟨b, i, none⟩)) (some (.int k x)) none none).run P w = .ok (.value (.slice (some ⟨b, i + lo, none⟩) (n - lo) (n - lo))) w := by
  obtain ⟨e, ht, hs, _⟩ := h.ex
  subst hx
  refine run_oV_ok ?_
  have h1 : (0 : Int) ≤ lo ∧ (lo : Int) ≤ n := by omega
  have h2 : ¬ n = lo := by omega
  have h3 : lo ≤ n := by omega
  simp [Instr.sliceAt, run_underlying ht, Instr.sureAddr, Instr.sliceBounds, Instr.sliceBound, asIntOf, h3, hs, h2, Addr.add_lit]
theorem run_ashi [h : Ar P t n] (hi : Nat) (hx : x = (hi : Int)) (hl : hi ≤ n) (h0 : 0 < n) (w : World) :
    (oSl t (.pointer (some ⟨b, i, none⟩)) none (some (.int k x)) none).run P w = .ok (.value (.slice (some ⟨b, i, none⟩) hi n)) w := by
  obtain ⟨e, ht, hs, _⟩ := h.ex
  subst hx
  refine run_oV_ok ?_
  have h2 : ¬ n = 0 := by omega
  simp [Instr.sliceAt, run_underlying ht, Instr.sureAddr, Instr.sliceBounds, Instr.sliceBound, asIntOf, hl, hs, h2, Addr.add_lit]
theorem pA_aslo [h : Ar P t n] (lo : Nat) (hx : x = (lo : Int)) (hl : lo < n) (hk : J (.slice (some ⟨b, i + lo, none⟩) (n - lo) (n - lo))) : pA P (oSl t (.pointer (some ⟨b, i, none⟩)) (some (.int k x)) none none) J :=
  ⟨_, run_aslo lo hx hl, hk⟩
theorem pA_ashi [h : Ar P t n] (hi : Nat) (hx : x = (hi : Int)) (hl : hi ≤ n) (h0 : 0 < n) (hk : J (.slice (some ⟨b, i, none⟩) hi n)) : pA P (oSl t (.pointer (some ⟨b, i, none⟩)) none (some (.int k x)) none) J :=
  ⟨_, run_ashi hi hx hl h0, hk⟩

/-- copy of elements of one cell within a variable. -/
theorem pN_cpc {dn dc sn sc : Nat} {ty sT : TypeId} {cs : List Bool} (hS : Sat E w L) [h : Fnd (cel b) L o M] {z : Value} {bytes : Nat} (ht : SlT P t e z 1 bytes) (us : List Value) (hus : (o.cs.drop j).take (min sn dn) = us) (hl : us.length = min sn dn) (h1 : us.all (·.oneCell') = true) (hi : i + us.length ≤ o.cs.length)
    (hk : ∀ w', Sat E w' (cel b ⟨o.e, o.cs.take i ++ us ++ o.cs.drop (i + us.length)⟩ :: M) → K (.int .i64 (min sn dn : Nat)) w') : pN P (oBi .copy #[t, sT] ty cs [.slice (some ⟨b, i, none⟩) dn dc, .slice (some ⟨b, j, none⟩) sn sc]) w K := by
  obtain ⟨i', hi', hz, hs, hby⟩ := ht.info
  have hS1 := hS.fd (cel b)
  have hb := cel_at (b := b) hS
  have hc := cells_of_blk (o := j) hb us.length
  rw [List.toList_toArray] at hc
  have hld := run_loadCells_list (P := P) w ⟨b, j, none⟩ us (fun q u hu => hc q u (by rw [hl, hus]; exact hu))
  have hst := run_storeCells_at P b i o.e us 0 o.cs.toArray w hb (by simpa using hi) (fun u hu => List.all_eq_true.1 h1 u hu)
  rw [Nat.add_zero] at hst
  have hsz' : (Go.sizeOf e).run P w = .ok 1 w := by simp [Go.sizeOf, typeInfo, hi', hs]
  have hm : (Builtin.lenOf (.slice (some ⟨b, j, none⟩) sn sc)).run P w = .ok sn w := by simp [Builtin.lenOf]
  have hf : (Builtin.firstCells 1 (Nat.min sn dn) (.slice (some ⟨b, j, none⟩) sn sc)).run P w = .ok us.toArray w := by
    rw [hl] at hld
    simpa [Builtin.firstCells] using hld
  have hr : (Builtin.copy_ #[t, sT] ty #[.slice (some ⟨b, i, none⟩) dn dc, .slice (some ⟨b, j, none⟩) sn sc]).run P w = .ok (.int .i64 (Nat.min sn dn : Nat)) (w.setRow b (o.cs.take i ++ us ++ o.cs.drop (i + us.length)).toArray) := by
    simp only [Builtin.copy_, List.getElem?_toArray, List.getElem?_cons_zero, List.getElem?_cons_succ, Sem.run_bind, run_underlying ht.under, Result.andThen_ok, hm, hsz', hf, hst]
    rfl
  have hr2 : (oBi .copy #[t, sT] ty cs [.slice (some ⟨b, i, none⟩) dn dc, .slice (some ⟨b, j, none⟩) sn sc]).run P w = .ok (.value (.int .i64 (Nat.min sn dn : Nat))) (w.setRow b (o.cs.take i ++ us ++ o.cs.drop (i + us.length)).toArray) := run_oV_ok hr
  rw [pN_def, hr2, rN_value]
  exact hk _ (hS1.row _)
end

end Go.Proofs.YtbgnnjfpiblkmaaDoor
