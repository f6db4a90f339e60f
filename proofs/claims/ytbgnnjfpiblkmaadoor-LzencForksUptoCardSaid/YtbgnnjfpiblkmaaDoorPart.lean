/-
  Parts of a variable of several cells; deferred calls. No program is named here.
-/
import Derived.Test.YtbgnnjfpiblkmaaDoorKey
import Derived.Test.YtbgnnjfpiblkmaaDoorDefer
namespace Go.Proofs.YtbgnnjfpiblkmaaDoor
open Go
set_option linter.unusedSimpArgs false
set_option linter.unnecessarySimpa false
set_option linter.unusedSectionVars false
set_option linter.unusedVariables false

section
variable [Pan] {P : Program} {E w : World} {K : Value → World → Prop} {J : Value → Prop} {L M : List HA} {v : Value} {t : TypeId} {o : Ob} {b i n : Nat}

theorem run_la_at (hS : Sat E w L) [h : Fnd (cel b) L o M] [Ag P t n] (cs : List Value) (hc : (o.cs.drop i).take n = cs) (hn : n = cs.length) : (oLoad t (.pointer (some ⟨b, i, none⟩))).run P w = .ok (.value (.agg cs.toArray)) w := by
  have hl := cells_of_blk (o := i) (cel_at (b := b) hS) n
  rw [List.toList_toArray, hc] at hl
  exact run_load_agg Ag.ag (by rw [← hn]; exact Ag.sz) hl
theorem pN_la_at (hS : Sat E w L) [h : Fnd (cel b) L o M] [Ag P t n] (cs : List Value) (hc : (o.cs.drop i).take n = cs) (hn : n = cs.length) (hk : K (.agg cs.toArray) w) : pN P (oLoad t (.pointer (some ⟨b, i, none⟩))) w K := by
  rw [pN_def, run_la_at hS cs hc hn, rN_value]; exact hk
theorem pL_la_at (hS : Sat E w L) [h : Fnd (cel b) L o M] [Ag P t n] (cs : List Value) (hc : (o.cs.drop i).take n = cs) (hn : n = cs.length) (hk : J (.agg cs.toArray)) : pL P (oLoad t (.pointer (some ⟨b, i, none⟩))) w J :=
  ⟨_, run_la_at hS cs hc hn, hk⟩
theorem pN_sa_at {us : List Value} (hS : Sat E w L) [h : Fnd (cel b) L o M] [Ag P t n] (hn : n = us.length) (hi : i + us.length ≤ o.cs.length) (h1 : us.all (·.oneCell') = true)
    (hk : ∀ w', Sat E w' (cel b ⟨o.e, o.cs.take i ++ us ++ o.cs.drop (i + us.length)⟩ :: M) → K undef w') : pN P (oStore t (.pointer (some ⟨b, i, none⟩)) (.agg us.toArray)) w K := by
  refine pN_st_part (hS.fd (cel b)) Ag.sz (by simpa using hn) (by simpa using List.all_eq_true.1 h1) (by simpa using hi) fun w' hS' => hk w' ?_
  simpa [cel] using hS'

/-- A closure deferred. -/
theorem pDf_fn {fn : Fn} {first cap args : List Value} {K : Deferred → Prop} (hk : K { target := .fn fn cap.toArray, args := first.toArray ++ args.toArray }) : pDf P (oDf (.func fn first.toArray cap.toArray) args) w K := ⟨_, rfl, hk⟩

theorem dE_of {f : FuncId} {cap args : List Value} {u u2 : FrameMode} {K : World → Prop} {Q : Value → World → Prop} (hi : ∀ (args : Array Value) (w : World), (callFunc f args).run P w = .ok (.enter f args) w) (hu : settle u2 = .returning) (hk : ∀ r w, Q r w → K w)
    (h : CallsD P f (args ++ cap).toArray u w fun e u' w' => u' = u2 ∧ ∃ r, e = .returned r ∧ Q r w') : dE P { target := .fn (.func f) cap.toArray, args := #[] ++ args.toArray } u w K := by
  refine ⟨.func f, cap.toArray, f, (args ++ cap).toArray, rfl, ?_, h.mono fun e u' w' he => ?_⟩
  · show (callFunc f _).run P w = _
    rw [hi]
    simp
  · obtain ⟨rfl, r, rfl, hq⟩ := he
    exact ⟨⟨r, rfl⟩, hu, hk _ _ hq⟩
end

/-- A panic. -/
theorem pN_panic [Z : Pan] {P : Program} {w : World} {K : Value → World → Prop} {t : TypeId} {v : Value} (hr : (oPanic (.iface t v)).run P w = .halt (.panic (.iface t v)) w) (h : Z.z [{ v := .iface t v, recovered := false }] w) : pN P (oPanic (.iface t v)) w K := by
  rw [pN_def, hr]
  exact h

/-- or of a number and what lies below it. -/
theorem or_low (n : Nat) (a b : Int) (j : Nat) (ha : 0 ≤ a) (hb : 0 ≤ b) (hb2 : b < 2 ^ j) (h : a * 2 ^ j + b < 2 ^ n) : ((BitVec.ofInt n (a * 2 ^ j) ||| BitVec.ofInt n b).toNat : Int) = a * 2 ^ j + b := by
  obtain ⟨a, rfl⟩ := Int.eq_ofNat_of_zero_le ha
  obtain ⟨b, rfl⟩ := Int.eq_ofNat_of_zero_le hb
  have hb3 : b < 2 ^ j := by exact_mod_cast hb2
  have h2 : a * 2 ^ j + b < 2 ^ n := by exact_mod_cast h
  have e1 : ((a : Int) * 2 ^ j) = ((a * 2 ^ j : Nat) : Int) := by push_cast; rfl
  have e2 : (BitVec.ofInt n ((a * 2 ^ j : Nat) : Int)).toNat = a * 2 ^ j := by
    rw [BitVec.toNat_ofInt]
    norm_cast
    rw [Int.toNat_natCast]
    exact Nat.mod_eq_of_lt (by omega)
  have e3 : (BitVec.ofInt n (b : Int)).toNat = b := by
    rw [BitVec.toNat_ofInt]
    norm_cast
    rw [Int.toNat_natCast]
    exact Nat.mod_eq_of_lt (by omega)
  rw [e1, BitVec.toNat_or, e2, e3, Nat.mul_comm a, ← Nat.two_pow_add_eq_or_of_lt hb3]
  push_cast
  rfl

end Go.Proofs.YtbgnnjfpiblkmaaDoor
