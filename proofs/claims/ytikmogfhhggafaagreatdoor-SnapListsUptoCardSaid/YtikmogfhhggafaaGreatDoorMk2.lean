/-
  Texts of one proof, one behind the other: Key, Wide, Keep, Defer, Facts, Open.
-/
import Derived.Deep.DeepAppendWide
import Derived.Recover
import Derived.Test.YtikmogfhhggafaaGreatDoorRows
import Derived.ProofKit
import Derived.OpenShut
import Derived.ShutString
import Derived.ChangeOld
import Derived.SizedLaws
import Derived.Deep.Slices
import Derived.Deep.CondSized
import Derived.Test.YtikmogfhhggafaaGreatDoorMk1
set_option linter.unusedSimpArgs false
set_option linter.unnecessarySimpa false
set_option linter.unusedSectionVars false
set_option linter.unusedVariables false

namespace Go.Proofs.YtikmogfhhggafaaGreatDoor
open Go

attribute [go_sem] List.length_set List.length_append List.length_replicate List.length_map List.length_cons List.length_nil List.length_take List.length_drop

class Fnd {σ : Type} (F : σ → HA) (L : List HA) (s : outParam σ) (M : outParam (List HA)) : Prop where
  perm : L.Perm (F s :: M)

instance (priority := 1100) Fnd.here {σ : Type} {F : σ → HA} {s : σ} {L : List HA} : Fnd F (F s :: L) s L := ⟨.refl _⟩
instance (priority := 1000) Fnd.there {σ : Type} {F : σ → HA} {A : HA} {s : σ} {L M : List HA} [h : Fnd F L s M] : Fnd F (A :: L) s (A :: M) :=
  ⟨(h.perm.cons A).trans (List.Perm.swap _ _ _)⟩

class Has (A : HA) (L : List HA) (M : outParam (List HA)) : Prop where
  perm : L.Perm (A :: M)
instance (priority := 1100) Has.here {A : HA} {L : List HA} : Has A (A :: L) L := ⟨.refl _⟩
instance (priority := 1000) Has.there {A B : HA} {L M : List HA} [h : Has A L M] : Has A (B :: L) (B :: M) := ⟨(h.perm.cons B).trans (List.Perm.swap _ _ _)⟩

class Arr (L N : List HA) : Prop where
  arr : ∀ h, Sats L h → Sats N h

instance (priority := 1200) Arr.same {L : List HA} : Arr L L := ⟨fun _ h => h⟩
instance (priority := 1100) Arr.nil {L : List HA} : Arr L [] := ⟨fun _ _ => trivial⟩
instance (priority := 1050) Arr.next {A : HA} {L M N : List HA} [h : Has A L M] [k : Arr M N] : Arr L (A :: N) :=
  ⟨fun _ hs => Sats.cons_mono k.arr (hs.perm h.perm)⟩
instance (priority := 100) Arr.let_go {A : HA} {L N : List HA} [k : Arr L N] : Arr (A :: L) N :=
  ⟨fun hp hs => k.arr hp (by obtain ⟨h1, _, s, hr⟩ := hs; exact hr.mono (less_sub _ _))⟩

section
variable {E w w' : World} {A B : HA} {L M N : List HA}

theorem Sat.fd {σ : Type} (hS : Sat E w L) (F : σ → HA) {s : σ} [h : Fnd F L s M] : Sat E w (F s :: M) := hS.perm h.perm
theorem Sat.fd2 {σ τ : Type} (hS : Sat E w L) (F : σ → HA) (G : τ → HA) {s : σ} {t : τ} [h : Fnd F L s M] [k : Fnd G M t N] : Sat E w (F s :: G t :: N) := hS.perm (h.perm.trans (k.perm.cons _))
theorem Sat.to (hS : Sat E w L) [h : Arr L N] : Sat E w N := ⟨hS.os, hS.tape, hS.output, h.arr _ hS.sats⟩
end

structure Ob where
  e : TypeId
  cs : List Value

def cel (b : Nat) (o : Ob) : HA := blk b (.cells o.cs.toArray o.e (0, 0))

class Sc (P : Program) (t : TypeId) : Prop where
  na : ∀ w, (isAgg t).run P w = .ok false w
  sz : ∀ w, (sizeOf t).run P w = .ok 1 w

class Ag (P : Program) (t : TypeId) (n : outParam Nat) : Prop where
  ag : ∀ w, (isAgg t).run P w = .ok true w
  sz : ∀ w, (sizeOf t).run P w = .ok n w

def At (w : World) (a : Addr) (cs : List Value) : Prop := ∀ (j : Nat) (u : Value), cs[j]? = some u → w.cell? (a.add j) = some u

section
variable [Pan] {P : Program} {E w : World} {K : Value → World → Prop} {J : Value → Prop} {L M : List HA} {v : Value} {t : TypeId} {o : Ob} {b i : Nat}

theorem cel_at (hS : Sat E w L) [h : Fnd (cel b) L o M] : w.heap[b]? = some (.cells o.cs.toArray o.e (0, 0)) := (hS.fd (cel b)).blk_at 0 rfl

theorem cel_cell (hS : Sat E w L) [h : Fnd (cel b) L o M] (hv : o.cs[i]? = some v) : w.cell? ⟨b, i, none⟩ = some v := by
  rw [cell_of_blk (cel_at (b := b) hS)]; simpa using hv

theorem run_l (hS : Sat E w L) [h : Fnd (cel b) L o M] [Sc P t] (hv : o.cs[i]? = some v) : (oLoad t (.pointer (some ⟨b, i, none⟩))).run P w = .ok (.value v) w :=
  run_load Sc.na (cel_cell (b := b) hS hv)
theorem pN_l (hS : Sat E w L) [h : Fnd (cel b) L o M] [Sc P t] (hv : o.cs[i]? = some v) (hk : K v w) : pN P (oLoad t (.pointer (some ⟨b, i, none⟩))) w K :=
  pN_ld Sc.na (cel_cell (b := b) hS hv) hk
theorem pL_l (hS : Sat E w L) [h : Fnd (cel b) L o M] [Sc P t] (hv : o.cs[i]? = some v) (hk : J v) : pL P (oLoad t (.pointer (some ⟨b, i, none⟩))) w J :=
  pL_ld Sc.na (cel_cell (b := b) hS hv) hk

theorem pN_s (hS : Sat E w L) [h : Fnd (cel b) L o M] [Sc P t] (hi : i < o.cs.length) (hv : v.oneCell' = true)
    (hk : ∀ w', Sat E w' (cel b ⟨o.e, o.cs.set i v⟩ :: M) → K undef w') : pN P (oStore t (.pointer (some ⟨b, i, none⟩)) v) w K := by
  refine pN_st_blk (hS.fd (cel b)) Sc.sz hv (by simpa using hi) fun w' hS' => hk w' ?_
  simpa [cel] using hS'

theorem pN_la {n : Nat} (hS : Sat E w L) [h : Fnd (cel b) L o M] [Ag P t n] (hn : n = o.cs.length) (hk : K (.agg o.cs.toArray) w) : pN P (oLoad t (.pointer (some ⟨b, 0, none⟩))) w K :=
  pN_ld_all Ag.ag Ag.sz (by simpa using hn) (cel_at (b := b) hS) hk
theorem pL_ra {n : Nat} (hS : Sat E w L) [h : Fnd (cel b) L o M] [Ag P t n] (hn : n = o.cs.length) (hk : J (.agg o.cs.toArray)) : pL P (oRes t (.pointer (some ⟨b, 0, none⟩))) w J :=
  pL_res_all Ag.ag Ag.sz (by simpa using hn) (cel_at (b := b) hS) hk
theorem pL_la {n : Nat} (hS : Sat E w L) [h : Fnd (cel b) L o M] [Ag P t n] (hn : n = o.cs.length) (hk : J (.agg o.cs.toArray)) : pL P (oLoad t (.pointer (some ⟨b, 0, none⟩))) w J := by
  subst hn
  have hc := cells_of_blk (o := 0) (cel_at (b := b) hS) o.cs.length
  exact ⟨_, run_load_agg (cs := o.cs) Ag.ag Ag.sz (by simpa [List.take_of_length_le] using hc), hk⟩
theorem pL_r (hS : Sat E w L) [h : Fnd (cel b) L o M] [Sc P t] (hv : o.cs[i]? = some v) (hk : J v) : pL P (oRes t (.pointer (some ⟨b, i, none⟩))) w J := by
  refine ⟨v, ?_, hk⟩
  have hr := run_load (P := P) (w := w) (t := t) Sc.na (cel_cell (b := b) hS hv)
  exact hr
theorem pN_sa {n : Nat} {us : List Value} (hS : Sat E w L) [h : Fnd (cel b) L o M] [Ag P t n] (hn : n = us.length) (ho : us.length = o.cs.length) (h1 : us.all (·.oneCell') = true)
    (hk : ∀ w', Sat E w' (cel b ⟨o.e, us⟩ :: M) → K undef w') : pN P (oStore t (.pointer (some ⟨b, 0, none⟩)) (.agg us.toArray)) w K :=
  pN_st_all (hS.fd (cel b)) Ag.sz (by simpa using hn) (by simpa using List.all_eq_true.1 h1) (by simpa using ho) hk

theorem pN_nw {u : Value} {z : List Value} (hS : Sat E w L) (hz : ∀ w, (zeroValue t).run P w = .ok u w) (hc : u.cells = z.toArray)
    (hk : ∀ a w', Sat E w' (cel a ⟨t, z⟩ :: L) → K (.pointer (some ⟨a, 0, none⟩)) w') : pN P (oAlloc t) w K :=
  pN_alloc hz hS fun a w' h => hk a w' (by rw [hc] at h; exact h)
theorem pN_bx {u : Value} {z : List Value} (hS : Sat E w L) (hc : u.cells = z.toArray)
    (hk : ∀ a w', Sat E w' (cel a ⟨t, z⟩ :: L) → K (.pointer (some ⟨a, 0, none⟩)) w') : pN P (oBox t u) w K :=
  pN_box hS fun a w' h => hk a w' (by rw [hc] at h; exact h)

omit [Pan] in
class Zv (P : Program) (t : TypeId) (z : outParam (List Value)) : Prop where
  zv : ∃ u : Value, (∀ w, (zeroValue t).run P w = .ok u w) ∧ u.cells = z.toArray
theorem pN_nz {z : List Value} (hS : Sat E w L) [h : Zv P t z] (hk : ∀ a w', Sat E w' (cel a ⟨t, z⟩ :: L) → K (.pointer (some ⟨a, 0, none⟩)) w') : pN P (oAlloc t) w K := by
  obtain ⟨u, h1, h2⟩ := h.zv
  exact pN_nw hS h1 h2 hk

theorem pDr_go {K : World → Prop} (hS : Sat E w L) (hk : ∀ w', Sat E w' L → K w') : pDr w K := hk _ hS.drew
end

structure Sl where
  a : Option Addr
  c : Nat

structure Cd (α : Type) where
  e : TypeId
  size : Nat
  bytes : Nat
  zero : α
  enc : α → List Value
  len : ∀ a, (enc a).length = size
  one : ∀ a, ∀ u ∈ enc a, u.oneCell' = true

def Cd.flat {α : Type} (C : Cd α) (l : List α) : List Value := (l.map C.enc).flatten

theorem Cd.flat_single {α : Type} (C : Cd α) (f : α → Value) (h : ∀ b, C.enc b = [f b]) (l : List α) : C.flat l = l.map f := by
  induction l with
  | nil => rfl
  | cons x l ih => simp only [Cd.flat, List.map_cons, List.flatten_cons, h] at ih ⊢; rw [ih]; rfl
theorem Cd.flat_nil {α : Type} (C : Cd α) : C.flat [] = [] := rfl
theorem Cd.flat_append {α : Type} (C : Cd α) (l m : List α) : C.flat (l ++ m) = C.flat l ++ C.flat m := by simp [Cd.flat]
theorem Cd.flat_len {α : Type} (C : Cd α) (l : List α) : (C.flat l).length = l.length * C.size := flat_length _ _ C.len l
theorem Cd.flat_get {α : Type} (C : Cd α) (l : List α) (i : Nat) (x : α) (h : l[i]? = some x) : ((C.flat l).drop (i * C.size)).take C.size = C.enc x := flat_at _ _ C.len l i x h
theorem Cd.flat_put {α : Type} (C : Cd α) (l : List α) (i : Nat) (x : α) (h : i < l.length) : (C.flat l).take (i * C.size) ++ C.enc x ++ (C.flat l).drop (i * C.size + C.size) = C.flat (l.set i x) := flat_set _ _ C.len l i x h
theorem Cd.flat_one {α : Type} (C : Cd α) (l : List α) : ∀ u ∈ C.flat l, u.oneCell' = true := by
  intro u hu
  simp only [Cd.flat, List.mem_flatten, List.mem_map] at hu
  obtain ⟨m, ⟨a, _, rfl⟩, hu⟩ := hu
  exact C.one a u hu
theorem Cd.flat_take {α : Type} (C : Cd α) (l : List α) (n : Nat) : (C.flat l).take (n * C.size) = C.flat (l.take n) := by
  induction l generalizing n with
  | nil => simp [Cd.flat]
  | cons x l ih =>
    cases n with
    | zero => simp [Cd.flat]
    | succ n =>
      have e : (n + 1) * C.size = C.size + n * C.size := by rw [Nat.add_mul, Nat.one_mul, Nat.add_comm]
      simp only [Cd.flat, List.map_cons, List.flatten_cons, List.take_succ_cons] at ih ⊢
      rw [List.take_append, C.len, e, Nat.add_sub_cancel_left, ih, List.take_of_length_le (by rw [C.len]; omega)]
theorem Cd.flat_drop {α : Type} (C : Cd α) (l : List α) (n : Nat) : (C.flat l).drop (n * C.size) = C.flat (l.drop n) := by
  induction l generalizing n with
  | nil => simp [Cd.flat]
  | cons x l ih =>
    cases n with
    | zero => simp [Cd.flat]
    | succ n =>
      have e : (n + 1) * C.size = C.size + n * C.size := by rw [Nat.add_mul, Nat.one_mul, Nat.add_comm]
      simp only [Cd.flat, List.map_cons, List.flatten_cons, List.drop_succ_cons] at ih ⊢
      rw [List.drop_append, C.len, e, Nat.add_sub_cancel_left, ih, List.drop_of_length_le (by rw [C.len]; omega), List.nil_append]

def rows {α : Type} (C : Cd α) (s : Sl) (l : List α) : HA := own C.e C.size (.slice s.a l.length s.c) l.length (C.flat l)

class Row (P : Program) (t : TypeId) (α : outParam Type) (C : outParam (Cd α)) : Prop where
  st : ∃ z, SlT P t C.e z C.size C.bytes ∧ z.cells.toList = C.enc C.zero
  bpos : 0 < C.bytes

class Bt {α : Type} (C : Cd α) (z : outParam Nat) : Prop where
  eq : C.bytes = z

class RdP {α : Type} (C : Cd α) (A : HA) (s : Sl) (l : outParam (List α)) : Prop where
  rd : RdA A C.size (.slice s.a l.length s.c) l.length (C.flat l)
class Rds {α : Type} (C : Cd α) (L : List HA) (s : Sl) (l : outParam (List α)) : Prop where
  rd : ∀ E w, Sat E w L → Rd w C.size (.slice s.a l.length s.c) l.length (C.flat l)

section
variable {α : Type} {C : Cd α} {E w : World} {A B : HA} {L M : List HA} {s : Sl} {l : List α}

instance RdP.rows : RdP C (rows C s l) s l := ⟨RdA.own⟩
instance (priority := 1100) Rds.here [h : RdP C A s l] : Rds C (A :: L) s l := ⟨fun _ _ hS => hS.rd 0 rfl h.rd⟩
instance (priority := 1000) Rds.there [h : Rds C L s l] : Rds C (A :: L) s l := ⟨fun E w hS => h.rd E w hS.drop⟩
instance Rds.nil : Rds C L ⟨none, 0⟩ ([] : List α) := ⟨fun _ _ _ => Rd.nil⟩

theorem Sat.rds (hS : Sat E w L) [h : Rds C L s l] : Rd w C.size (.slice s.a l.length s.c) l.length (C.flat l) := h.rd E w hS

def Sl.sub (s : Sl) (lo size : Nat) : Sl := ⟨if s.c = lo then s.a else s.a.map (·.add (lo * size)), s.c - lo⟩

theorem subV_sl (s : Sl) (n lo hi size : Nat) : subV (.slice s.a n s.c) lo hi size = .slice (s.sub lo size).a (hi - lo) (s.sub lo size).c := rfl
end

section
variable [Pan] {P : Program} {E w : World} {K : Value → World → Prop} {J : Value → Prop} {L M : List HA} {v : Value} {m : Sem Next} {A B : Prop}

theorem pN_via (h : ∀ K : Value → World → Prop, pN P m w K = K v w) (hk : K v w) : pN P m w K := by rw [h]; exact hk
theorem pIf_t (h : A) : pIf (.bool true) A B := h
theorem pIf_f (h : B) : pIf (.bool false) A B := h
theorem gA_go {b : Bool} {x : (Value → Prop) → Prop} (hb : b = true) (h : x J) : gA b x J := by subst hb; exact h
theorem gA_no {b : Bool} {x : (Value → Prop) → Prop} (hb : b = false) (h : J undef) : gA b x J := by subst hb; exact h
theorem pGd_go {b : Bool} {x : (Value → World → Prop) → Prop} (hb : b = true) (h : x K) : pGd b x w K := by subst hb; exact h
theorem pGd_no {b : Bool} {x : (Value → World → Prop) → Prop} (hb : b = false) (h : K undef w) : pGd b x w K := by subst hb; exact h

section
variable {t : TypeId} {xo yo : Operand} {k : IntKind} {a b : Int} {x y : UInt8} {l r : List UInt8}
theorem pN_lss_s (ht : a < b → K (.bool true) w) (hf : ¬ a < b → K (.bool false) w) : pN P (oBin .lss t xo yo (.int k a) (.int k b)) w K := by
  rw [pN_lss]; by_cases h : a < b
  · rw [decide_eq_true h]; exact ht h
  · rw [decide_eq_false h]; exact hf h
theorem pA_lss_s (ht : a < b → J (.bool true)) (hf : ¬ a < b → J (.bool false)) : pA P (oBin .lss t xo yo (.int k a) (.int k b)) J := by
  rw [pA_lss]; by_cases h : a < b
  · rw [decide_eq_true h]; exact ht h
  · rw [decide_eq_false h]; exact hf h
theorem pN_lss_sb (ht : x < y → K (.bool true) w) (hf : ¬ x < y → K (.bool false) w) : pN P (oBin .lss t xo yo (bv x) (bv y)) w K := by
  refine pN_lss_s (fun h => ht ?_) (fun h => hf ?_)
  · rw [UInt8.lt_iff_toNat_lt] <;> omega
  · rw [UInt8.lt_iff_toNat_lt] <;> omega
theorem pN_leq_s (ht : a ≤ b → K (.bool true) w) (hf : ¬ a ≤ b → K (.bool false) w) : pN P (oBin .leq t xo yo (.int k a) (.int k b)) w K := by
  rw [pN_leq]; by_cases h : a ≤ b
  · rw [decide_eq_true h]; exact ht h
  · rw [decide_eq_false h]; exact hf h
theorem pA_leq_s (ht : a ≤ b → J (.bool true)) (hf : ¬ a ≤ b → J (.bool false)) : pA P (oBin .leq t xo yo (.int k a) (.int k b)) J := by
  rw [pA_leq]; by_cases h : a ≤ b
  · rw [decide_eq_true h]; exact ht h
  · rw [decide_eq_false h]; exact hf h
theorem pN_gtr_s (ht : b < a → K (.bool true) w) (hf : ¬ b < a → K (.bool false) w) : pN P (oBin .gtr t xo yo (.int k a) (.int k b)) w K := by
  rw [pN_gtr]; by_cases h : b < a
  · rw [decide_eq_true h]; exact ht h
  · rw [decide_eq_false h]; exact hf h
theorem pA_gtr_s (ht : b < a → J (.bool true)) (hf : ¬ b < a → J (.bool false)) : pA P (oBin .gtr t xo yo (.int k a) (.int k b)) J := by
  rw [pA_gtr]; by_cases h : b < a
  · rw [decide_eq_true h]; exact ht h
  · rw [decide_eq_false h]; exact hf h
theorem pN_geq_s (ht : b ≤ a → K (.bool true) w) (hf : ¬ b ≤ a → K (.bool false) w) : pN P (oBin .geq t xo yo (.int k a) (.int k b)) w K := by
  rw [pN_geq]; by_cases h : b ≤ a
  · rw [decide_eq_true h]; exact ht h
  · rw [decide_eq_false h]; exact hf h
theorem pA_geq_s (ht : b ≤ a → J (.bool true)) (hf : ¬ b ≤ a → J (.bool false)) : pA P (oBin .geq t xo yo (.int k a) (.int k b)) J := by
  rw [pA_geq]; by_cases h : b ≤ a
  · rw [decide_eq_true h]; exact ht h
  · rw [decide_eq_false h]; exact hf h
theorem pN_eql_s (ht : a = b → K (.bool true) w) (hf : ¬ a = b → K (.bool false) w) : pN P (oBin .eql t xo yo (.int k a) (.int k b)) w K := by
  rw [pN_eql]; by_cases h : a = b
  · have e : (a == b) = true := beq_iff_eq.2 h
    simp only [bne, e]; exact ht h
  · have e : (a == b) = false := beq_eq_false_iff_ne.2 h
    simp only [bne, e]; exact hf h
theorem pA_eql_s (ht : a = b → J (.bool true)) (hf : ¬ a = b → J (.bool false)) : pA P (oBin .eql t xo yo (.int k a) (.int k b)) J := by
  rw [pA_eql]; by_cases h : a = b
  · have e : (a == b) = true := beq_iff_eq.2 h
    simp only [bne, e]; exact ht h
  · have e : (a == b) = false := beq_eq_false_iff_ne.2 h
    simp only [bne, e]; exact hf h
theorem pN_eql_sb (ht : x = y → K (.bool true) w) (hf : ¬ x = y → K (.bool false) w) : pN P (oBin .eql t xo yo (bv x) (bv y)) w K := by
  rw [pN_eql_bv]; by_cases h : x = y
  · have e : (x == y) = true := beq_iff_eq.2 h
    simp only [bne, e]; exact ht h
  · have e : (x == y) = false := beq_eq_false_iff_ne.2 h
    simp only [bne, e]; exact hf h
theorem pN_eql_ss (ht : l = r → K (.bool true) w) (hf : ¬ l = r → K (.bool false) w) : pN P (oBin .eql t xo yo (.string ⟨List.toArray l⟩) (.string ⟨List.toArray r⟩)) w K := by
  rw [pN_eql_l]; by_cases h : l = r
  · have e : (l == r) = true := beq_iff_eq.2 h
    simp only [e]; exact ht h
  · have e : (l == r) = false := beq_eq_false_iff_ne.2 h
    simp only [e]; exact hf h
theorem pA_eql_ss (ht : l = r → J (.bool true)) (hf : ¬ l = r → J (.bool false)) : pA P (oBin .eql t xo yo (.string ⟨List.toArray l⟩) (.string ⟨List.toArray r⟩)) J := by
  rw [pA_eql_l]; by_cases h : l = r
  · have e : (l == r) = true := beq_iff_eq.2 h
    simp only [e]; exact ht h
  · have e : (l == r) = false := beq_eq_false_iff_ne.2 h
    simp only [e]; exact hf h
theorem pN_neq_s (ht : a = b → K (.bool false) w) (hf : ¬ a = b → K (.bool true) w) : pN P (oBin .neq t xo yo (.int k a) (.int k b)) w K := by
  rw [pN_neq]; by_cases h : a = b
  · have e : (a == b) = true := beq_iff_eq.2 h
    simp only [bne, e]; exact ht h
  · have e : (a == b) = false := beq_eq_false_iff_ne.2 h
    simp only [bne, e]; exact hf h
theorem pN_neq_ss (ht : l = r → K (.bool false) w) (hf : ¬ l = r → K (.bool true) w) : pN P (oBin .neq t xo yo (.string ⟨List.toArray l⟩) (.string ⟨List.toArray r⟩)) w K := by
  rw [pN_neq_l]; by_cases h : l = r
  · have e : (l == r) = true := beq_iff_eq.2 h
    simp only [e]; exact ht h
  · have e : (l == r) = false := beq_eq_false_iff_ne.2 h
    simp only [e]; exact hf h
theorem pA_neq_ss (ht : l = r → J (.bool false)) (hf : ¬ l = r → J (.bool true)) : pA P (oBin .neq t xo yo (.string ⟨List.toArray l⟩) (.string ⟨List.toArray r⟩)) J := by
  rw [pA_neq_l]; by_cases h : l = r
  · have e : (l == r) = true := beq_iff_eq.2 h
    simp only [e]; exact ht h
  · have e : (l == r) = false := beq_eq_false_iff_ne.2 h
    simp only [e]; exact hf h

theorem run_lss_l (w : World) : (oBin .lss t xo yo (.string ⟨List.toArray l⟩) (.string ⟨List.toArray r⟩)).run P w = .ok (.value (.bool (Op.bytesLess l r))) w := by
  refine run_bin_of t xo yo (by unfold eqGuard; rfl) ?_
  simp [binOp, Op.stringOp, str_list]
theorem run_leq_l (w : World) : (oBin .leq t xo yo (.string ⟨List.toArray l⟩) (.string ⟨List.toArray r⟩)).run P w = .ok (.value (.bool (Op.bytesLess l r || l == r))) w := by
  refine run_bin_of t xo yo (by unfold eqGuard; rfl) ?_
  simp [binOp, Op.stringOp, str_list]
theorem pN_lss_l : pN P (oBin .lss t xo yo (.string ⟨List.toArray l⟩) (.string ⟨List.toArray r⟩)) w K = K (.bool (Op.bytesLess l r)) w := by rw [pN_def, run_lss_l, rN_value]
theorem pA_lss_l : pA P (oBin .lss t xo yo (.string ⟨List.toArray l⟩) (.string ⟨List.toArray r⟩)) J = J (.bool (Op.bytesLess l r)) := by rw [pA_def, funext (fun w => run_lss_l w), rA_value]
theorem pN_leq_l : pN P (oBin .leq t xo yo (.string ⟨List.toArray l⟩) (.string ⟨List.toArray r⟩)) w K = K (.bool (Op.bytesLess l r || l == r)) w := by rw [pN_def, run_leq_l, rN_value]
theorem pA_leq_l : pA P (oBin .leq t xo yo (.string ⟨List.toArray l⟩) (.string ⟨List.toArray r⟩)) J = J (.bool (Op.bytesLess l r || l == r)) := by rw [pA_def, funext (fun w => run_leq_l w), rA_value]
attribute [go_sem] pN_lss_l pA_lss_l pN_leq_l pA_leq_l

theorem pN_shrn {k' : IntKind} (n : Nat) (b c : Int) (hb : b = (n : Int)) (hc : c = 2 ^ n) (hn : n ≤ k.bits) : pN P (oBin .shr t xo yo (.int k a) (.int k' b)) w K = K (.int k (a / c)) w := by
  subst hb
  rw [pN_shr _ _ _ _ _ _ _ (by omega), Int.toNat_natCast, Nat.min_eq_left hn, ← hc, Int.fdiv_eq_ediv_of_nonneg _ (by rw [hc]; exact Int.pow_nonneg (by omega))]
theorem pA_shrn {k' : IntKind} (n : Nat) (b c : Int) (hb : b = (n : Int)) (hc : c = 2 ^ n) (hn : n ≤ k.bits) : pA P (oBin .shr t xo yo (.int k a) (.int k' b)) J = J (.int k (a / c)) := by
  subst hb
  rw [pA_shr _ _ _ _ _ _ _ (by omega), Int.toNat_natCast, Nat.min_eq_left hn, ← hc, Int.fdiv_eq_ediv_of_nonneg _ (by rw [hc]; exact Int.pow_nonneg (by omega))]
theorem pN_shln {k' : IntKind} (n : Nat) (b c : Int) (hb : b = (n : Int)) (hc : c = 2 ^ n) (hn : n ≤ k.bits) : pN P (oBin .shl t xo yo (.int k a) (.int k' b)) w K = K (.int k (k.wrap (a * c))) w := by
  subst hb
  rw [pN_shl _ _ _ _ _ _ _ (by omega), Int.toNat_natCast, Nat.min_eq_left hn, ← hc]
theorem pA_shln {k' : IntKind} (n : Nat) (b c : Int) (hb : b = (n : Int)) (hc : c = 2 ^ n) (hn : n ≤ k.bits) : pA P (oBin .shl t xo yo (.int k a) (.int k' b)) J = J (.int k (k.wrap (a * c))) := by
  subst hb
  rw [pA_shl _ _ _ _ _ _ _ (by omega), Int.toNat_natCast, Nat.min_eq_left hn, ← hc]

theorem pN_shr_k {k' : IntKind} (j : Nat) (hb : b = (j : Int)) (hj : j ≤ k.bits) (hk : K (.int k (a / 2 ^ j)) w) : pN P (oBin .shr t xo yo (.int k a) (.int k' b)) w K := by
  rw [pN_shrn j b (2 ^ j) hb rfl hj]; exact hk
theorem pN_shl_k {k' : IntKind} (j : Nat) (hb : b = (j : Int)) (hj : j ≤ k.bits) (hk : K (.int k (k.wrap (a * 2 ^ j))) w) : pN P (oBin .shl t xo yo (.int k a) (.int k' b)) w K := by
  rw [pN_shln j b (2 ^ j) hb rfl hj]; exact hk
theorem and_mask (n : Nat) (a : Int) (j : Nat) (hj : j < n) : ((BitVec.ofInt n a &&& BitVec.ofInt n ((2 : Int) ^ j - 1)).toNat : Int) = a % 2 ^ j := by
  have h1 : (BitVec.ofInt n ((2 : Int) ^ j - 1)).toNat = 2 ^ j - 1 := by
    rw [BitVec.toNat_ofInt]
    have p1 : (2 : Nat) ^ j < 2 ^ n := Nat.pow_lt_pow_right (by omega) hj
    have p0 : 0 < (2 : Nat) ^ j := Nat.two_pow_pos j
    have e1 : ((2 : Int) ^ j - 1) = ((2 ^ j - 1 : Nat) : Int) := by
      rw [Int.natCast_sub (by omega)]; norm_cast
    rw [e1]
    norm_cast
    rw [Int.toNat_natCast]
    exact Nat.mod_eq_of_lt (by omega)
  rw [BitVec.toNat_and, h1, Nat.and_two_pow_sub_one_eq_mod, BitVec.toNat_ofInt]
  have p2 : (0 : Int) < 2 ^ n := Int.pow_pos (by omega)
  rw [Int.natCast_emod, Int.toNat_of_nonneg (Int.emod_nonneg _ (by norm_cast at p2 ⊢; omega))]
  norm_cast
  refine Int.emod_emod_of_dvd _ ?_
  norm_cast
  exact Nat.pow_dvd_pow 2 (by omega)
theorem pN_andn (j : Nat) (b c : Int) (hb : b = 2 ^ j - 1) (hc : c = 2 ^ j) (hj : j < k.bits) (hw : k.wrap (a % c) = a % c) : pN P (oBin .and t xo yo (.int k a) (.int k b)) w K = K (.int k (a % c)) w := by
  subst hb
  rw [pN_and, and_mask _ _ _ hj, ← hc, hw]
theorem pA_andn (j : Nat) (b c : Int) (hb : b = 2 ^ j - 1) (hc : c = 2 ^ j) (hj : j < k.bits) (hw : k.wrap (a % c) = a % c) : pA P (oBin .and t xo yo (.int k a) (.int k b)) J = J (.int k (a % c)) := by
  subst hb
  rw [pA_and, and_mask _ _ _ hj, ← hc, hw]
end

theorem w_u32 {n : Int} (h : 0 ≤ n ∧ n < 4294967296) : IntKind.u32.wrap n = n := by rw [wrap_u32]; omega
theorem w_u64 {n : Int} (h : 0 ≤ n ∧ n < 18446744073709551616) : IntKind.u64.wrap n = n := by rw [wrap_u64]; omega
theorem pN_min {t1 t2 ty : TypeId} {k : IntKind} {a b : Int} {cs : List Bool} : pN P (oBi .min #[t1, t2] ty cs [.int k a, .int k b]) w K = K (.int k (min a b)) w := by
  have : (oBi .min #[t1, t2] ty cs [.int k a, .int k b]).run P w = .ok (.value (.int k (min a b))) w := by
    by_cases h : b < a
    · have e : min a b = b := by omega
      simp [oBi, builtin, Builtin.min_, Builtin.min2, h, e]
    · have e : min a b = a := by omega
      simp [oBi, builtin, Builtin.min_, Builtin.min2, h, e]
  rw [pN_def, this, rN_value]
theorem pN_max {t1 t2 ty : TypeId} {k : IntKind} {a b : Int} {cs : List Bool} : pN P (oBi .max #[t1, t2] ty cs [.int k a, .int k b]) w K = K (.int k (max a b)) w := by
  have : (oBi .max #[t1, t2] ty cs [.int k a, .int k b]).run P w = .ok (.value (.int k (max a b))) w := by
    by_cases h : a < b
    · have e : max a b = b := by omega
      simp [oBi, builtin, Builtin.max_, Builtin.max2, h, e]
    · have e : max a b = a := by omega
      simp [oBi, builtin, Builtin.max_, Builtin.max2, h, e]
  rw [pN_def, this, rN_value]

omit [Pan] in
def byteOf (n : Int) : UInt8 := UInt8.ofNat (n % 256).toNat
theorem byteOf_toNat (n : Int) : ((byteOf n).toNat : Int) = n % 256 := by
  simp only [byteOf, UInt8.toNat_ofNat']
  omega
omit [Pan] in
class ToB (P : Program) (s d : TypeId) : Prop where
  eq : ∀ w (k : IntKind) (n : Int), (oConv s d (.int k n)).run P w = .ok (.value (.int .u8 (IntKind.u8.wrap n))) w
omit [Pan] in
class OfB (P : Program) (s d : TypeId) (kd : outParam IntKind) : Prop where
  eq : ∀ w (k : IntKind) (n : Int), (oConv s d (.int k n)).run P w = .ok (.value (.int kd (kd.wrap n))) w
  small : ∀ n : Int, 0 ≤ n → n < 256 → kd.wrap n = n
theorem pN_tob {s d : TypeId} [h : ToB P s d] {k : IntKind} {n : Int} (hk : K (bv (byteOf n)) w) : pN P (oConv s d (.int k n)) w K := by
  rw [pN_def, h.eq, rN_value]
  unfold bv at hk
  rw [byteOf_toNat] at hk
  rw [wrap_u8]
  exact hk
theorem pN_ofb {s d : TypeId} {kd : IntKind} [h : OfB P s d kd] {b : UInt8} (hk : K (.int kd b.toNat) w) : pN P (oConv s d (bv b)) w K := by
  have := b.toNat_lt
  unfold bv
  rw [pN_def, h.eq, rN_value, h.small _ (by omega) (by omega)]
  exact hk
end

def El {α : Type} (C : Cd α) (s : Sl) (j : Nat) (a : Addr) : Prop := ∃ b, s.a = some b ∧ a = b.add (j * C.size)

structure EA {α : Type} (C : Cd α) (s : Sl) (l : List α) (a : Addr) (cs : List Value) : Prop where
  at_ : ∀ E w M, Rds C M s l → Sat E w M → At w a cs

class FA (P : Program) (t : TypeId) (f : Nat) (off : outParam Nat) : Prop where
  run : ∀ (a : Addr) (w : World), (oFld t (.pointer (some a)) f).run P w = .ok (.value (.pointer (some (a.add off)))) w

section
variable [Pan] {P : Program} {E w : World} {K : Value → World → Prop} {J : Value → Prop} {L M : List HA} {v : Value} {α : Type} {C : Cd α} {t ty : TypeId} {s s2 : Sl} {l m : List α} {n n2 : Nat} {k k' : IntKind} {i : Int}

theorem Row.slt [h : Row P t α C] : SlT P t C.e (Classical.choose h.st) C.size C.bytes := (Classical.choose_spec h.st).1
theorem Row.zero [h : Row P t α C] : (Classical.choose h.st).cells.toList = C.enc C.zero := (Classical.choose_spec h.st).2

theorem run_ix (hS : Sat E w L) [h : Row P t α C] [hr : Rds C L s l] (j : Nat) (hj : i = (j : Int)) (hn : n = l.length) (hlt : j < l.length) :
    ∃ a x, (∀ w', (oIdx t (.slice s.a n s.c) (.int k i)).run P w' = .ok (.value (.pointer (some a))) w') ∧ l[j]? = some x ∧ EA C s l a (C.enc x) ∧ El C s j a := by
  subst hj hn
  have hr := hS.rds (C := C) (s := s)
  obtain ⟨hl, ao, cap, hv, hnc, hnil, hc⟩ := hr
  simp only [Value.slice.injEq, true_and] at hv
  obtain ⟨rfl, rfl⟩ := hv
  have ht := Row.slt (P := P) (t := t) (C := C)
  cases ha : s.a with
  | none => have := (hnil ha).1; omega
  | some b =>
    refine ⟨b.add (j * C.size), l[j], fun w' => ?_, by simp [hlt], ⟨fun E' w' M h' hS' => ?_⟩, b, ha, rfl⟩
    · refine run_oV_ok ?_
      have h2 : (0 : Int) ≤ j ∧ (j : Int) < l.length := by omega
      simp [Instr.indexAt, run_underlying ht.under, asIntOf, ht.sizeOf, hlt]
    · intro j' u hu
      have hr := hS'.rds (C := C) (s := s)
      obtain ⟨_, ao, cap, hv, _, _, hc⟩ := hr
      simp only [Value.slice.injEq, true_and] at hv
      obtain ⟨rfl, rfl⟩ := hv
      rw [Addr.add_add]
      refine hc b ha _ _ ?_
      rw [← C.flat_get l j l[j] (by simp [hlt])] at hu
      rw [List.getElem?_take] at hu
      split at hu
      · rwa [List.getElem?_drop] at hu
      · cases hu

theorem pN_ix (hS : Sat E w L) [Row P t α C] [hr : Rds C L s l] (j : Nat) (hj : i = (j : Int)) (hn : n = l.length) (hlt : j < l.length)
    (hk : ∀ a x, l[j]? = some x → EA C s l a (C.enc x) → El C s j a → K (.pointer (some a)) w) : pN P (oIdx t (.slice s.a n s.c) (.int k i)) w K := by
  obtain ⟨a, x, h1, h2, h3, h4⟩ := run_ix (P := P) (t := t) (k := k) (s := s) hS j hj hn hlt
  rw [pN_def, h1, rN_value]
  exact hk a x h2 h3 h4
theorem pA_ix (hS : Sat E w L) [Row P t α C] [hr : Rds C L s l] (j : Nat) (hj : i = (j : Int)) (hn : n = l.length) (hlt : j < l.length)
    (hk : ∀ a x, l[j]? = some x → EA C s l a (C.enc x) → El C s j a → J (.pointer (some a))) : pA P (oIdx t (.slice s.a n s.c) (.int k i)) J := by
  obtain ⟨a, x, h1, h2, h3, h4⟩ := run_ix (P := P) (t := t) (k := k) (s := s) hS j hj hn hlt
  exact ⟨_, h1, hk a x h2 h3 h4⟩

theorem pN_ixk {x : α} (hS : Sat E w L) [Row P t α C] [hr : Rds C L s l] (j : Nat) (hj : i = (j : Int)) (hn : n = l.length) (hx : l[j]? = some x)
    (hk : ∀ a, EA C s l a (C.enc x) → El C s j a → K (.pointer (some a)) w) : pN P (oIdx t (.slice s.a n s.c) (.int k i)) w K :=
  pN_ix hS j hj hn (List.getElem?_eq_some_iff.1 hx).1 fun a y h1 h2 h3 => by
    rw [hx, Option.some.injEq] at h1
    subst h1
    exact hk a h2 h3
theorem pA_ixk {x : α} (hS : Sat E w L) [Row P t α C] [hr : Rds C L s l] (j : Nat) (hj : i = (j : Int)) (hn : n = l.length) (hx : l[j]? = some x)
    (hk : ∀ a, EA C s l a (C.enc x) → El C s j a → J (.pointer (some a))) : pA P (oIdx t (.slice s.a n s.c) (.int k i)) J :=
  pA_ix hS j hj hn (List.getElem?_eq_some_iff.1 hx).1 fun a y h1 h2 h3 => by
    rw [hx, Option.some.injEq] at h1
    subst h1
    exact hk a h2 h3

theorem pN_ld_at {z : Nat} {a : Addr} {cs : List Value} (ha : EA C s l a cs) (hS : Sat E w L) [hr : Rds C L s l] [Ag P t z] (hn : z = cs.length) (hk : K (.agg cs.toArray) w) : pN P (oLoad t (.pointer (some a))) w K :=
  pN_ld_n Ag.ag Ag.sz hn (ha.at_ E w L hr hS) hk
theorem pL_ld_at {z : Nat} {a : Addr} {cs : List Value} (ha : EA C s l a cs) (hS : Sat E w L) [hr : Rds C L s l] [Ag P t z] (hn : z = cs.length) (hk : J (.agg cs.toArray)) : pL P (oLoad t (.pointer (some a))) w J := by
  subst hn
  exact ⟨_, run_load_agg Ag.ag Ag.sz (ha.at_ E w L hr hS), hk⟩
theorem run_ld1 {a : Addr} (ha : EA C s l a [v]) (hS : Sat E w L) [hr : Rds C L s l] [Sc P t] : (oLoad t (.pointer (some a))).run P w = .ok (.value v) w := by
  refine run_load Sc.na ?_
  have := ha.at_ E w L hr hS 0 v rfl
  rwa [Addr.add_zero'] at this
theorem pN_ld1 {a : Addr} (ha : EA C s l a [v]) (hS : Sat E w L) [hr : Rds C L s l] [Sc P t] (hk : K v w) : pN P (oLoad t (.pointer (some a))) w K := by
  rw [pN_def, run_ld1 ha hS, rN_value]; exact hk
theorem pL_ld1 {a : Addr} (ha : EA C s l a [v]) (hS : Sat E w L) [hr : Rds C L s l] [Sc P t] (hk : J v) : pL P (oLoad t (.pointer (some a))) w J :=
  ⟨v, run_ld1 ha hS, hk⟩
theorem EA.fld {a : Addr} {cs : List Value} (ha : EA C s l a cs) (off : Nat) (hv : cs[off]? = some v) : EA C s l (a.add off) [v] := ⟨fun E w M h hS j u hu => by
  have h1 := ha.at_ E w M h hS
  cases j with
  | zero =>
    simp only [List.getElem?_cons_zero, Option.some.injEq] at hu
    subst hu
    rw [Addr.add_zero']
    exact h1 off _ hv
  | succ j => simp at hu⟩
theorem pN_fa {a : Addr} {cs : List Value} {f off : Nat} (ha : EA C s l a cs) [hf : FA P t f off] (hv : cs[off]? = some v) (hk : ∀ a, EA C s l a [v] → K (.pointer (some a)) w) : pN P (oFld t (.pointer (some a)) f) w K := by
  rw [pN_def, hf.run, rN_value]; exact hk _ (ha.fld off hv)
theorem pA_fa {a : Addr} {cs : List Value} {f off : Nat} (ha : EA C s l a cs) [hf : FA P t f off] (hv : cs[off]? = some v) (hk : ∀ a, EA C s l a [v] → J (.pointer (some a))) : pA P (oFld t (.pointer (some a)) f) J :=
  ⟨_, hf.run a, hk _ (ha.fld off hv)⟩

theorem pN_srn {j : Nat} {a : Addr} {x : α} {us : Array Value} (hel : El C s j a) (hS : Sat E w L) [hf : Fnd (rows C s) L l M] {z : Nat} [Ag P t z] (hz : z = C.size) (hx : C.enc x = us.toList) (hj : j < l.length)
    (hk : ∀ w', Sat E w' (rows C s (l.set j x) :: M) → K undef w') : pN P (oStore t (.pointer (some a)) (.agg us)) w K := by
  have h0 := hS.fd (rows C s)
  obtain ⟨b, hb, rfl⟩ := hel
  have hlen := C.len x
  rw [hx, Array.length_toList] at hlen
  have hro := h0.own_at 0 rfl
  obtain ⟨_, ⟨h, _⟩ | ⟨g, cap, cur, hv, _⟩⟩ := hro
  · simp only [Value.slice.injEq] at h
    rw [hb] at h
    cases h.1
  · simp only [Value.slice.injEq, true_and] at hv
    obtain ⟨h1, h2⟩ := hv
    rw [hb, Option.some.injEq] at h1
    subst h1 h2
    unfold rows at h0
    rw [hb] at h0
    rw [Addr.add_lit, Nat.zero_add]
    refine pN_st_own_n h0 Ag.sz (hz.trans hlen.symm) hlen (by rw [← hx]; exact C.one x) hj fun w' h3 => hk w' ?_
    unfold rows
    rw [hb, List.length_set, ← C.flat_put l j x hj, hx]
    exact h3
theorem pN_sr {j : Nat} {a : Addr} {x : α} (hel : El C s j a) (hS : Sat E w L) [hf : Fnd (rows C s) L l M] [Sc P t] (hz : C.size = 1) (hx : C.enc x = [v]) (hj : j < l.length)
    (hk : ∀ w', Sat E w' (rows C s (l.set j x) :: M) → K undef w') : pN P (oStore t (.pointer (some a)) v) w K := by
  have h0 := hS.fd (rows C s)
  obtain ⟨b, hb, rfl⟩ := hel
  have h1' := C.one x v (by rw [hx]; exact List.mem_singleton.2 rfl)
  have hro := h0.own_at 0 rfl
  obtain ⟨_, ⟨h, _⟩ | ⟨g, cap, cur, hv, _⟩⟩ := hro
  · simp only [Value.slice.injEq] at h
    rw [hb] at h
    cases h.1
  · simp only [Value.slice.injEq, true_and] at hv
    obtain ⟨h1, h2⟩ := hv
    rw [hb, Option.some.injEq] at h1
    subst h1 h2
    unfold rows at h0
    rw [hb] at h0
    rw [Addr.add_lit, Nat.zero_add, hz, Nat.mul_one]
    have hfl := C.flat_len l
    rw [hz, Nat.mul_one] at hfl
    refine pN_st_own h0 Sc.sz h1' (by omega) fun w' h3 => hk w' ?_
    unfold rows
    have hp := C.flat_put l j x hj
    rw [hz, Nat.mul_one, hx] at hp
    rw [hb, List.length_set, ← hp]
    rw [List.set_eq_take_append_cons_drop, if_pos (by omega)] at h3
    simpa using h3

theorem own_sl {e : TypeId} {size : Nat} {xs : List Value} (hS : Sat E w (own e size v n xs :: L)) : ∃ s : Sl, v = .slice s.a n s.c := by
  obtain ⟨_, ⟨rfl, rfl⟩ | ⟨g, cap, cur, rfl, _⟩⟩ := hS.own_at 0 rfl
  · exact ⟨⟨none, 0⟩, rfl⟩
  · exact ⟨⟨_, _⟩, rfl⟩

theorem room63 {a b : Nat} (hb : 0 < b) (h : a * b ≤ 140737488355328) : a ≤ 9223372036854775807 := by
  have : a * 1 ≤ a * b := Nat.mul_le_mul_left a hb
  omega

theorem pN_app {cs : List Bool} (hS : Sat E w L) [hw : Row P t α C] [hf : Fnd (rows C s) L l M] [hr : Rds C L s2 m] {z : Nat} [hz : Bt C z] (hn : n = l.length) (hn2 : n2 = m.length) (hb : (l.length + m.length) * z ≤ 140737488355328)
    (hk : ∀ s' w', Sat E w' (rows C s' (l ++ m) :: M) → K (.slice s'.a (l ++ m).length s'.c) w') : pN P (oBi .append #[t, t] ty cs [.slice s.a n s.c, .slice s2.a n2 s2.c]) w K := by
  subst hn hn2
  rw [← hz.eq] at hb
  have h0 := hS.fd (rows C s)
  have hrd := hS.rds (C := C) (s := s2)
  refine pN_append Row.slt h0 hrd (C.flat_one m) hb (room63 hw.bpos hb) fun v' w' h1 => ?_
  obtain ⟨s', rfl⟩ := own_sl h1
  rw [← C.flat_append, ← List.length_append] at h1
  rw [← List.length_append]
  exact hk s' w' h1
theorem fill_size (off : Nat) : ∀ (us : List Value) (k : Nat) (cells : Array Value), ((us.zipIdx k).foldl (fun cs (c, j) => cs.setIfInBounds (off + j) c) cells).size = cells.size
  | [], _, _ => rfl
  | u :: us, k, cells => by
    rw [List.zipIdx_cons, List.foldl_cons, fill_size off us (k + 1)]
    simp
theorem fill_one (off : Nat) : ∀ (us : List Value) (k : Nat) (cells : Array Value), off + k + us.length ≤ cells.size → ∀ i : Nat,
    ((us.zipIdx k).foldl (fun cs (c, j) => cs.setIfInBounds (off + j) c) cells)[i]? = if off + k ≤ i ∧ i < off + k + us.length then us[i - (off + k)]? else cells[i]?
  | [], k, cells, _, i => by rw [if_neg (by simp only [List.length_nil]; omega)]; rfl
  | u :: us, k, cells, h, i => by
    simp only [List.length_cons] at h
    rw [List.zipIdx_cons, List.foldl_cons]
    dsimp only
    rw [fill_one off us (k + 1) _ (by (try simp only [Array.size_setIfInBounds]); omega)]
    by_cases h1 : off + (k + 1) ≤ i ∧ i < off + (k + 1) + us.length
    · rw [if_pos h1, if_pos (by (try simp only [List.length_cons]); omega)]
      rw [show i - (off + k) = (i - (off + (k + 1))) + 1 from by omega, List.getElem?_cons_succ]
    · rw [if_neg h1, Array.getElem?_setIfInBounds]
      by_cases h2 : off + k = i
      · rw [if_pos h2, if_pos (by (try simp only [List.length_cons]); omega)]
        subst h2
        have : off + k < cells.size := by omega
        simp [this]
      · rw [if_neg h2, if_neg (by (try simp only [List.length_cons]); omega)]

theorem fill_lit (size : Nat) : ∀ (us : List Value) (xs : List (List Value)) (k : Nat) (cells : Array Value), us.map (fun u => u.cells.toList) = xs → (∀ x ∈ xs, x.length = size) → (k + us.length) * size ≤ cells.size →
    ∃ r : Array Value, Instr.fill (fun i => some (i * size, size)) cells ((us.zipIdx k).map fun p => (p.2, p.1)) = some r ∧ r.size = cells.size ∧
      ∀ i : Nat, r[i]? = if k * size ≤ i ∧ i < (k + us.length) * size then xs.flatten[i - k * size]? else cells[i]?
  | [], xs, k, cells, hx, _, _ => ⟨cells, rfl, rfl, fun i => by rw [if_neg (by simp only [List.length_nil, Nat.add_zero]; omega)]⟩
  | u :: us, xs, k, cells, hx, hs, hl => by
    subst hx
    have hu : u.cells.size = size := by have := hs u.cells.toList (by simp); simpa using this
    have e1 : (k + 1) * size = k * size + size := by rw [Nat.add_mul, Nat.one_mul]
    have e5 : (k + 1 + us.length) * size = k * size + size + us.length * size := by rw [Nat.add_mul, Nat.add_mul, Nat.one_mul]
    have e6 : (k + (u :: us).length) * size = k * size + size + us.length * size := by rw [List.length_cons, Nat.add_mul, Nat.add_mul, Nat.one_mul]; omega
    rw [e6] at hl
    have hf := fill_one (k * size) u.cells.toList 0 cells (by simp only [Array.length_toList]; omega)
    have hz := fill_size (k * size) u.cells.toList 0 cells
    generalize hc : (u.cells.toList.zipIdx 0).foldl (fun cs (c, j) => cs.setIfInBounds (k * size + j) c) cells = cells' at hf hz
    obtain ⟨r, h1, h2, h3⟩ := fill_lit size us _ (k + 1) cells' rfl (fun x hx => hs x (by simp only [List.map_cons, List.mem_cons]; exact .inr hx)) (by rw [e5]; omega)
    refine ⟨r, ?_, h2.trans hz, fun i => ?_⟩
    · rw [List.zipIdx_cons, List.map_cons]
      simp only [Instr.fill]
      rw [if_neg (by simp [hu]; omega), ← h1, ← hc]
      congr 1
      rw [← Array.foldl_toList]
      simp
    · rw [h3, hf, e1, e5, e6]
      simp only [Array.length_toList, hu, Nat.add_zero, List.map_cons, List.flatten_cons]
      by_cases c1 : k * size + size ≤ i ∧ i < k * size + size + us.length * size
      · rw [if_pos c1, if_pos (by omega), List.getElem?_append_right (by simp only [Array.length_toList, hu]; omega)]
        simp only [Array.length_toList, hu]
        congr 1
        omega
      · rw [if_neg c1]
        by_cases c2 : k * size ≤ i ∧ i < k * size + size
        · rw [if_pos c2, if_pos (by omega), List.getElem?_append_left (by simp only [Array.length_toList, hu]; omega)]
        · rw [if_neg c2, if_neg (by omega)]

theorem pN_bl {ps : List (Nat × Value)} (us : List Value) (xs : List α) (hp : ps = us.zipIdx.map fun p => (p.2, p.1)) (hn : n = us.length) (hx : us.map (fun u => u.cells.toList) = xs.map C.enc) (h0 : 0 < us.length) (hS : Sat E w L) [hw : Row P t α C] (hz : us.length * C.size ≤ 16777216)
    (hk : ∀ s' w', Sat E w' (rows C s' xs :: L) → K (.slice s'.a xs.length s'.c) w') : pN P (oBs t n ps) w K := by
  subst hp hn
  have ht := Row.slt (P := P) (t := t) (C := C)
  have hlen : us.length = xs.length := by simpa using congrArg List.length hx
  obtain ⟨r, h1, h2, hg⟩ := fill_lit C.size us _ 0 (madeCells (Classical.choose hw.st).cells (us.length * C.size)) hx (by intro x hx; obtain ⟨a, _, rfl⟩ := List.mem_map.1 hx; exact C.len a) (by rw [size_madeCells, Nat.zero_add]; exact Nat.le_refl _)
  rw [size_madeCells] at h2
  have h3 : r.toList = C.flat xs := by
    apply List.ext_getElem?
    intro i
    rw [Array.getElem?_toList, hg, Nat.zero_mul, Nat.zero_add, Nat.sub_zero]
    by_cases hi : i < us.length * C.size
    · rw [if_pos ⟨Nat.zero_le _, hi⟩]; rfl
    · rw [if_neg (by omega), Array.getElem?_eq_none (by rw [size_madeCells]; omega), List.getElem?_eq_none (by rw [C.flat_len, ← hlen]; omega)]
  refine pN_bs ht (cells := r) h0 hz h1 (by
    have := congrArg List.length h3
    rw [Array.length_toList, C.flat_len] at this
    rw [this, hlen]) hS fun v' w' h4 => ?_
  obtain ⟨s', rfl⟩ := own_sl h4
  rw [hlen, h3] at h4
  rw [hlen]
  exact hk s' w' h4
theorem pN_b1 {u : Value} {x : α} (hS : Sat E w L) [Row P t α C] (hx : C.enc x = u.cells.toList) (hz : C.size ≤ 16777216)
    (hk : ∀ s' w', Sat E w' (rows C s' [x] :: L) → K (.slice s'.a 1 s'.c) w') : pN P (oBs t 1 [(0, u)]) w K :=
  pN_bl [u] [x] rfl rfl (by simp [hx]) (by simp) hS (by simpa using hz) hk
theorem pN_b0 (hS : Sat E w L) [Row P t α C] (hk : ∀ s' w', Sat E w' (rows C s' [] :: L) → K (.slice s'.a 0 s'.c) w') : pN P (oBs t 0 []) w K := by
  refine pN_bs0 (Row.slt (C := C)) hS fun v' w' h1 => ?_
  obtain ⟨s', rfl⟩ := own_sl h1
  exact hk s' w' h1

theorem flat_made [hw : Row P t α C] (j : Nat) : (madeCells (Classical.choose hw.st).cells (j * C.size)).toList = C.flat (List.replicate j C.zero) := by
  have hz := Row.zero (P := P) (t := t) (C := C)
  have hl := C.len C.zero
  have hzs : (Classical.choose hw.st).cells.size = C.size := by rw [← Array.length_toList, hz, hl]
  apply List.ext_getElem?
  intro i
  by_cases hi : i < j * C.size
  · have hpos : 0 < C.size := by
      rcases Nat.eq_zero_or_pos C.size with h0 | h0
      · rw [h0] at hi; omega
      · exact h0
    have hr : i % C.size < C.size := Nat.mod_lt _ hpos
    have hq : i / C.size < j := by rw [Nat.div_lt_iff_lt_mul hpos]; exact hi
    have e1 : i / C.size * C.size + i % C.size = i := by rw [Nat.mul_comm]; exact Nat.div_add_mod _ _
    have e2 := C.flat_get (List.replicate j C.zero) (i / C.size) C.zero (by simp [hq])
    have e3 : (C.flat (List.replicate j C.zero))[i]? = (C.enc C.zero)[i % C.size]? := by
      rw [← e2, List.getElem?_take, if_pos hr, List.getElem?_drop, e1]
    rw [e3]
    have e4 : (Classical.choose hw.st).cells.toList[i % C.size]? = (C.enc C.zero)[i % C.size]? := by rw [hz]
    rw [← e4]
    generalize (Classical.choose hw.st).cells = zz at hzs
    have e5 : i < (Array.range (j * C.size)).size := by simpa using hi
    simp [madeCells, hi, hzs, hr]
  · rw [List.getElem?_eq_none (by rw [Array.length_toList, size_madeCells]; omega), List.getElem?_eq_none (by rw [C.flat_len, List.length_replicate]; omega)]
theorem pN_mk {z : Nat} (hS : Sat E w L) [hw : Row P t α C] [hz : Bt C z] (j : Nat) (hj : i = (j : Int)) (hb : z * j ≤ 281474976710656)
    (hk : ∀ s' w', Sat E w' (rows C s' (List.replicate j C.zero) :: L) → K (.slice s'.a j s'.c) w') : pN P (oMk t (.int k i) (.int k' i)) w K := by
  subst hj
  rw [← hz.eq] at hb
  refine pN_make (Row.slt (C := C)) hb (by
    have : 1 * j ≤ C.bytes * j := Nat.mul_le_mul_right j hw.bpos
    omega) hS fun v' w' h1 => ?_
  obtain ⟨s', rfl⟩ := own_sl h1
  refine hk s' w' ?_
  unfold rows
  rw [List.length_replicate, ← flat_made (P := P) (t := t)]
  exact h1
theorem Rds.sub [h : Rds C L s l] (a b : Nat) (h1 : a ≤ b) (h2 : b ≤ l.length) : Rds C L (s.sub a C.size) ((l.drop a).take (b - a)) := ⟨fun E w hS => by
  have := (h.rd E w hS).sub a b h1 h2
  rw [subV_sl, C.flat_drop, C.flat_take] at this
  rw [show ((l.drop a).take (b - a)).length = b - a from by simp only [List.length_take, List.length_drop]; omega]
  exact this⟩

omit [Pan] in
class Part {α : Type} (C : Cd α) (s : Sl) (l : List α) (s' : Sl) (l' : List α) : Prop where
  rd : ∀ L, Rds C L s l → Rds C L s' l'

variable {k1 k2 : IntKind} {i1 i2 : Int} {lo hi : Nat}
theorem pN_sl2 (hS : Sat E w L) [Row P t α C] [h : Rds C L s l] (lo hi : Nat) (h1 : i1 = (lo : Int)) (h2 : i2 = (hi : Int)) (hn : n = l.length) (hlo : lo ≤ hi) (hhi : hi ≤ l.length)
    (hk : ∀ s', Part C s l s' ((l.drop lo).take (hi - lo)) → K (.slice s'.a (hi - lo) s'.c) w) : pN P (oSl t (.slice s.a n s.c) (some (.int k1 i1)) (some (.int k2 i2)) none) w K := by
  subst h1 h2 hn
  refine pN_sl (Row.slt (C := C)) (hS.rds (C := C) (s := s)) (by omega) (by omega) (by omega) ?_
  rw [Int.toNat_natCast, Int.toNat_natCast, subV_sl]
  exact hk _ ⟨fun L h => Rds.sub lo hi hlo hhi⟩
theorem pN_sl1 (hS : Sat E w L) [Row P t α C] [h : Rds C L s l] (lo : Nat) (h1 : i1 = (lo : Int)) (hn : n = l.length) (hlo : lo ≤ l.length)
    (hk : ∀ s', Part C s l s' (l.drop lo) → K (.slice s'.a (l.length - lo) s'.c) w) : pN P (oSl t (.slice s.a n s.c) (some (.int k1 i1)) none none) w K := by
  subst h1 hn
  refine pN_sl_l (Row.slt (C := C)) (hS.rds (C := C) (s := s)) (by omega) (by omega) ?_
  rw [Int.toNat_natCast, subV_sl]
  refine hk _ ⟨fun L h => ?_⟩
  have := Rds.sub (C := C) (L := L) (s := s) (l := l) lo l.length hlo (Nat.le_refl _)
  rwa [List.take_of_length_le (by simp)] at this
theorem pN_slh (hS : Sat E w L) [Row P t α C] [h : Rds C L s l] (hi : Nat) (h2 : i2 = (hi : Int)) (hn : n = l.length) (hhi : hi ≤ l.length)
    (hk : ∀ s', Part C s l s' (l.take hi) → K (.slice s'.a hi s'.c) w) : pN P (oSl t (.slice s.a n s.c) none (some (.int k2 i2)) none) w K := by
  subst h2 hn
  refine pN_sl_h (Row.slt (C := C)) (hS.rds (C := C) (s := s)) (by omega) (by omega) ?_
  rw [Int.toNat_natCast, subV_sl]
  refine hk _ ⟨fun L h => ?_⟩
  have := Rds.sub (C := C) (L := L) (s := s) (l := l) 0 hi (Nat.zero_le _) hhi
  rwa [List.drop_zero, Nat.sub_zero] at this
omit [Pan] in
class StrT (P : Program) (t d : TypeId) (B : outParam (Cd UInt8)) : Prop where
  e : ∃ e, P.underlying t = some (.slice e) ∧ P.underlying e = some (.int .u8)
  d : P.underlying d = some .string
  size : B.size = 1
  enc : ∀ b, B.enc b = [bv b]
theorem StrT.flat {d : TypeId} {B : Cd UInt8} [h : StrT P t d B] (l : List UInt8) : B.flat l = bvs l := B.flat_single bv h.enc l

theorem run_st {d : TypeId} {B : Cd UInt8} {l : List UInt8} (hS : Sat E w L) [h : StrT P t d B] [hr : Rds B L s l] (hn : n = l.length) : (oConv t d (.slice s.a n s.c)).run P w = .ok (.value (.string ⟨l.toArray⟩)) w := by
  subst hn
  obtain ⟨e, h1, h2⟩ := h.e
  have := hS.rds (C := B) (s := s)
  rw [h.size, StrT.flat (P := P) (t := t) (d := d)] at this
  exact run_str h1 h2 h.d this
theorem pN_st {d : TypeId} {B : Cd UInt8} {l : List UInt8} (hS : Sat E w L) [h : StrT P t d B] [hr : Rds B L s l] (hn : n = l.length) (hk : K (.string ⟨l.toArray⟩) w) : pN P (oConv t d (.slice s.a n s.c)) w K := by
  rw [pN_def, run_st hS hn, rN_value]; exact hk
theorem pL_st {d : TypeId} {B : Cd UInt8} {l : List UInt8} (hS : Sat E w L) [h : StrT P t d B] [hr : Rds B L s l] (hn : n = l.length) (hk : J (.string ⟨l.toArray⟩)) : pL P (oConv t d (.slice s.a n s.c)) w J :=
  ⟨_, run_st hS hn, hk⟩
end

section
variable [Pan] {P : Program} {w : World} {K : Value → World → Prop}
theorem pN_fn {fn : Fn} {first cap : List Value} (hk : K (.func fn first.toArray cap.toArray) w) : pN P (oFn fn first cap) w K := by
  have : (oFn fn first cap).run P w = .ok (.value (.func fn first.toArray cap.toArray)) w := run_oV_ok rfl
  rw [pN_def, this, rN_value]; exact hk
theorem pN_callV {f : FuncId} {cap args : List Value} (hc : ∀ (args : Array Value) (w : World), (callFunc f args).run P w = .ok (.enter f args) w)
    (h : Calls P f (args ++ cap).toArray w (retP K)) : pN P (oCallV (.func (.func f) [].toArray cap.toArray) args) w K := by
  have : (oCallV (.func (.func f) [].toArray cap.toArray) args).run P w = .ok (.enter f (args ++ cap).toArray) w := by
    have e : oCallV (.func (.func f) [].toArray cap.toArray) args = callFunc f ((#[] ++ args.toArray) ++ cap.toArray) := rfl
    rw [e, hc]
    simp
  rw [pN_def, this, rN_enter]
  exact h
end
section
variable [Pan] {P : Program} {w : World} {K : Value → World → Prop} {J : Value → Prop} {v : Value} {m : Sem Next}
theorem pN_v (h : ∀ K : Value → World → Prop, pN P m w K = K v w := by
      intro K; simp (disch := omega) only [go_sem, pN_min, pN_max, w_u32, w_u64, Option.isNone_some, Option.isNone_none]; (try simp only [wrap_u32, wrap_u64]); rfl) (hk : K v w) : pN P m w K := by rw [h]; exact hk
theorem pA_v (h : ∀ K : Value → Prop, pA P m K = K v := by
      intro K; simp (disch := omega) only [go_sem, pN_min, pN_max, w_u32, w_u64, Option.isNone_some, Option.isNone_none]; (try simp only [wrap_u32, wrap_u64]); rfl) (hk : J v) : pA P m J := by rw [h]; exact hk
end
end Go.Proofs.YtikmogfhhggafaaGreatDoor

namespace Go.Proofs.YtikmogfhhggafaaGreatDoor
open Go
section
variable [Pan] {P : Program} {t e : TypeId} {z : Value} {size bytes : Nat} {v : Value} {E w : World} {L M : List HA} {K : Value → World → Prop}

theorem pN_append_wide (ht : SlT P t e z size bytes) {ty : TypeId} {cs : List Bool} {n m : Nat} {xs news : List Value} {src : Value} (hS : Sat E w (own e size v n xs :: L)) (hr : Rd w size src m news) (h1 : ∀ u ∈ news, u.oneCell' = true)
    (hb : ((n + m) + (n + m) / 4 + 192) * bytes ≤ 281474976710656) (h63 : n + m ≤ 9223372036854775807)
    (h : ∀ v' w', Sat E w' (own e size v' (n + m) (xs ++ news) :: L) → K v' w') : pN P (oBi .append #[t, t] ty cs [v, src]) w K := by
  obtain ⟨i, hi, hz, hs, hby⟩ := ht.info
  obtain ⟨hl, ao, cap, rfl, hmc, hnil, hc⟩ := hr
  have hown := hS.own_at 0 rfl
  rw [pN_def]
  cases ao with
  | none =>
    obtain ⟨rfl, rfl⟩ := hnil rfl
    have hrun := run_append_owned_none (P := P) w 0 t ty e i size ht.under hi v n xs hown
    have : news = [] := List.length_eq_zero_iff.1 (by simpa using hl)
    subst this
    have e : (oBi .append #[t, t] ty cs [v, .slice none 0 0]).run P w = .ok (.value v) w := run_oV_ok hrun
    rw [e]
    exact h _ _ (by simpa using hS)
  | some a =>
    obtain ⟨v', w', hrun, hown', hgr, hni⟩ := run_append_own_wide (P := P) w 0 t ty e i z size bytes ht.under hi hz hs hby ht.zsize ht.pos v n xs hown a m cap news hl (hc a rfl) h1 (by unfold maxLen; omega) hb (Nat.zero_le _)
    have hblk : v'.ownBlock = v.ownBlock ∨ v'.ownBlock = some w.heap.size := by
      subst hs hby
      rcases hown.2 with ⟨rfl, rfl⟩ | ⟨g, c, cur, rfl, _, hg, _, _, hcs, _⟩
      · by_cases hm : m = 0
        · left
          rw [hni.2 ⟨rfl, hm⟩]
        · right
          have hx : xs = [] := List.eq_nil_of_length_eq_zero (by simpa using hown.1)
          have hr := run_append_nil (P := P) w t ty e i z ht.under hi hz a m cap news hl (hc a rfl) (by omega) (by omega) (by have hb := hb; simp only [Nat.zero_add] at hb; exact Nat.le_trans (Nat.mul_le_mul_right _ (by omega)) hb)
          have := hr.symm.trans hrun
          injection this with h1 h2
          rw [← h1]; rfl
      · by_cases hroom : n + m ≤ c
        · left
          have hfit : n * i.size + news.length ≤ cur.size := by rw [hl, hcs, ← Nat.add_mul]; exact Nat.mul_le_mul_right _ hroom
          have hr := run_append_room (P := P) w t ty e i ht.under hi g n c cur hg a m cap news hl (hc a rfl) h1 hroom hfit
          have := hr.symm.trans hrun
          injection this with h1 h2
          rw [← h1]; rfl
        · right
          have holds : ∀ j u, xs[j]? = some u → w.cell? ((⟨g, 0, none⟩ : Addr).add j) = some u := hown.cells (g := g) rfl
          have hr := run_append_grow (P := P) w t ty e i z ht.under hi hz ⟨g, 0, none⟩ n c xs hown.1 holds a m cap news hl (hc a rfl) (by omega) (by omega) (growslice_fits_wide (by omega) hb)
          have := hr.symm.trans hrun
          injection this with h1 h2
          rw [← h1]; rfl
    have e : (oBi .append #[t, t] ty cs [v, .slice (some a) m cap]).run P w = .ok (.value v') w' := run_oV_ok hrun
    rw [e]
    exact h _ _ (hS.grown hgr hown' hblk)
end

section
variable [Pan] {P : Program} {t ty : TypeId} {α : Type} {C : Cd α} {E w : World} {L M : List HA} {s s2 : Sl} {l m : List α} {n n2 : Nat} {K : Value → World → Prop}
end

end Go.Proofs.YtikmogfhhggafaaGreatDoor

namespace Go.Proofs.YtikmogfhhggafaaGreatDoor
open Go
section
variable [Pan] {P : Program} {t e : TypeId} {z : Value} {size bytes : Nat} {v : Value} {E w : World} {L M : List HA} {K : Value → World → Prop}

theorem RdA.bag {N : List HA} {A : HA} {n : Nat} {xs : List Value} (h : A ∈ N) (hr : RdA A size v n xs) : RdA (bag N) size v n xs := fun w ⟨h1, hN, hh⟩ => by
  obtain ⟨h2, hA, hs⟩ := Sats.mem h hN
  exact hr w ⟨h2, hA, fun b o e => hh b o (hs b o e)⟩

theorem pN_append_keep (ht : SlT P t e z size bytes) {ty : TypeId} {cs : List Bool} {n m : Nat} {xs news : List Value} {src : Value} (hS : Sat E w (own e size v n xs :: L)) (hr : Rd w size src m news) (h1 : ∀ u ∈ news, u.oneCell' = true)
    (hb : ((n + m) + (n + m) / 4 + 192) * bytes ≤ 281474976710656) (h63 : n + m ≤ 9223372036854775807)
    (h : ∀ (G : HA) v' w', (∃ s : Sl, v' = .slice s.a (n + m) s.c) → RdA G size v n xs → RdA G size v' (n + m) (xs ++ news) → Sat E w' (G :: L) → K v' w') : pN P (oBi .append #[t, t] ty cs [v, src]) w K := by
  obtain ⟨i, hi, hz, hs, hby⟩ := ht.info
  have hown := hS.own_at 0 rfl
  obtain ⟨hl, ao, cap, rfl, hmc, hnil, hc⟩ := id hr
  rcases hown.2 with ⟨rfl, rfl⟩ | ⟨g, c, cur, rfl, _, hg, hnc, hmx, hcs, hct⟩
  · have hx : xs = [] := List.eq_nil_of_length_eq_zero (by simpa using hown.1)
    subst hx
    refine pN_append_wide ht hS hr h1 hb h63 fun v' w' hS => ?_
    have hv : ∃ s : Sl, v' = .slice s.a (0 + m) s.c := by
      rcases (hS.own_at 0 rfl).2 with ⟨rfl, h0⟩ | ⟨g, c, _, rfl, _⟩
      · exact ⟨⟨none, 0⟩, by rw [h0]⟩
      · exact ⟨⟨some ⟨g, 0, none⟩, c⟩, rfl⟩
    exact h _ v' w' hv (fun w _ => Rd.nil) RdA.own hS
  rw [pN_def]
  cases ao with
  | none =>
    obtain ⟨rfl, rfl⟩ := hnil rfl
    have hrun := run_append_owned_none (P := P) w 0 t ty e i size ht.under hi _ n xs hown
    have : news = [] := List.length_eq_zero_iff.1 (by simpa using hl)
    subst this
    have e1 : (oBi .append #[t, t] ty cs [.slice (some ⟨g, 0, none⟩) n c, .slice none 0 0]).run P w = .ok (.value (.slice (some ⟨g, 0, none⟩) n c)) w := run_oV_ok hrun
    rw [e1]
    exact h (own e size (.slice (some ⟨g, 0, none⟩) n c) n xs) _ _ ⟨⟨some ⟨g, 0, none⟩, c⟩, rfl⟩ RdA.own (by rw [List.append_nil]; exact RdA.own) hS
  | some a =>
    obtain ⟨v', w', hrun, hown', hgr, hni⟩ := run_append_own_wide (P := P) w 0 t ty e i z size bytes ht.under hi hz hs hby ht.zsize ht.pos _ n xs hown a m cap news hl (hc a rfl) h1 (by unfold maxLen; omega) hb (Nat.zero_le _)
    subst hs hby
    have e1 : (oBi .append #[t, t] ty cs [.slice (some ⟨g, 0, none⟩) n c, .slice (some a) m cap]).run P w = .ok (.value v') w' := run_oV_ok hrun
    rw [e1]
    by_cases hroom : n + m ≤ c
    · have hfit : n * i.size + news.length ≤ cur.size := by rw [hl, hcs, ← Nat.add_mul]; exact Nat.mul_le_mul_right _ hroom
      have hr2 := run_append_room (P := P) w t ty e i ht.under hi g n c cur hg a m cap news hl (hc a rfl) h1 hroom hfit
      have := hr2.symm.trans hrun
      injection this with h2 h3
      subst h2
      refine h _ _ _ ⟨⟨some ⟨g, 0, none⟩, c⟩, rfl⟩ (fun w2 hw => ?_) RdA.own (hS.grown hgr hown' (.inl rfl))
      obtain ⟨_, ao, cap2, e2, g1, g2, g3⟩ := RdA.own w2 hw
      injection e2 with e3 e4 e5
      subst e3 e5
      refine ⟨hown.1, _, c, rfl, hnc, fun h => (by cases h), fun a ha j u hu => g3 a ha j u ?_⟩
      rw [List.getElem?_append_left (List.getElem?_eq_some_iff.1 hu).1]
      exact hu
    · have holds : ∀ j u, xs[j]? = some u → w.cell? ((⟨g, 0, none⟩ : Addr).add j) = some u := hown.cells (g := g) rfl
      have hr2 := run_append_grow (P := P) w t ty e i z ht.under hi hz ⟨g, 0, none⟩ n c xs hown.1 holds a m cap news hl (hc a rfl) (by omega) (by omega) (growslice_fits_wide (by omega) hb)
      have := hr2.symm.trans hrun
      injection this with h2 h3
      have hS2 : Sat E w.drew (own e i.size (.slice (some ⟨g, 0, none⟩) n c) n xs :: L) := ⟨hS.os, hS.tape, hS.output, hS.sats⟩
      have hS3 := hS2.alloc (.cells (xs.toArray ++ news.toArray ++ Builtin.zeroCells z.cells (grownCap w (n + m) c e - (n + m))) e)
      rw [h3] at hS3
      have hS4 : Sat E w' (own e i.size v' (n + m) (xs ++ news) :: own e i.size (.slice (some ⟨g, 0, none⟩) n c) n xs :: L) := by
        refine hS3.weaken fun h1 hA => ?_
        rcases hown'.2 with ⟨h5, h0⟩ | ⟨g', c', cur', e5, _, hg', q1, q2, q3, q4⟩
        · rw [← h2] at h5
          cases h5
        · have hb : w.heap.size = g' := by
            rw [← h2] at e5
            injection e5 with e6
            injection e6 with e6
            injection e6 with e6
          subst hb
          have hA : h1 w.heap.size = some (.cells (xs.toArray ++ news.toArray ++ Builtin.zeroCells z.cells (grownCap w (n + m) c e - (n + m))) e) := hA
          have hg2 : w'.heap[w.heap.size]? = some (.cells (xs.toArray ++ news.toArray ++ Builtin.zeroCells z.cells (grownCap w (n + m) c e - (n + m))) e) := by
            rw [← h3]
            show (w.heap.push _)[w.heap.size]? = _
            exact Array.getElem?_push_size
          rw [← hg2, hg'] at hA
          exact ⟨hown'.1, .inr ⟨_, c', cur', e5, hA, q1, q2, q3, q4⟩⟩
      exact h (bag [_, _]) _ _ ⟨⟨some ⟨w.heap.size, 0, none⟩, _⟩, h2.symm⟩ (RdA.bag (List.mem_cons_of_mem _ (List.mem_cons_self ..)) RdA.own) (RdA.bag (List.mem_cons_self ..) RdA.own) (Sat.shutBag (M := [_, _]) hS4)
end

section
variable [Pan] {P : Program} {t ty : TypeId} {α : Type} {C : Cd α} {E w : World} {L M : List HA} {s s2 : Sl} {l m : List α} {n n2 : Nat} {K : Value → World → Prop}
theorem pN_appk {cs : List Bool} (hS : Sat E w L) [hw : Row P t α C] [hf : Fnd (rows C s) L l M] [hr : Rds C L s2 m] {z : Nat} [hz : Bt C z] (hn : n = l.length) (hn2 : n2 = m.length) (hb : ((l.length + m.length) + (l.length + m.length) / 4 + 192) * z ≤ 281474976710656)
    (hk : ∀ (G : HA) s' w', RdP C G s l → RdP C G s' (l ++ m) → Sat E w' (G :: M) → K (.slice s'.a (l ++ m).length s'.c) w') : pN P (oBi .append #[t, t] ty cs [.slice s.a n s.c, .slice s2.a n2 s2.c]) w K := by
  subst hn hn2
  rw [← hz.eq] at hb
  have h0 := hS.fd (rows C s)
  have hrd := hS.rds (C := C) (s := s2)
  have hp := hw.bpos
  have h63 : l.length + m.length ≤ 9223372036854775807 := by
    have : (l.length + m.length + (l.length + m.length) / 4 + 192) * 1 ≤ (l.length + m.length + (l.length + m.length) / 4 + 192) * C.bytes := Nat.mul_le_mul_left _ hp
    omega
  refine pN_append_keep Row.slt h0 hrd (C.flat_one m) hb h63 fun G v' w' hv r1 r2 hS => ?_
  obtain ⟨s', rfl⟩ := hv
  rw [← C.flat_append, ← List.length_append] at r2
  rw [← List.length_append]
  exact hk G s' w' ⟨r1⟩ ⟨r2⟩ hS
end
end Go.Proofs.YtikmogfhhggafaaGreatDoor

namespace Go.Proofs.YtikmogfhhggafaaGreatDoor
open Go

section
variable {P : Program} {ops : Array Oper} {QS : Exit → Act → List Frame → World → Prop} {md : Region.Mode}

def recList : List Oper → Nat → Value → List Oper
  | [], _, _ => []
  | o :: l, 0, v => { o with op := .assign (.const v) } :: l
  | o :: l, n + 1, v => o :: recList l n v
def recOps (ops : Array Oper) (r : Nat) (v : Value) : Array Oper := (recList ops.toList r v).toArray

structure RecAt (P : Program) (ops : Array Oper) (r : Nat) : Prop where
  is : ∃ o, ops[r]? = some o ∧ (∀ ρ w, (execOp ρ o).run P w = .ok .recover w) ∧ o.guard = none ∧ o.after = #[]

end

section
variable {P : Program} {H : Hints} {v : Value}

theorem wpS_mono {c : Code} {Q Q' : Exit → Act → List Frame → World → Prop} {a : Act} {cs : List Frame} {w : World} (h : c.wpS P Q a cs w) (hq : ∀ e a cs w, Q e a cs w → Q' e a cs w) : c.wpS P Q' a cs w :=
  fun b k hb hr => let ⟨e, a', cs', w', q, r⟩ := h b k hb hr; ⟨e, a', cs', w', hq _ _ _ _ q, r⟩

def recCode (rid r : Nat) (v : Value) : Code → Code
  | .region id ops b => match Nat.beq id rid with
    | true => .region id (recOps ops r v) b
    | false => .region id ops b
  | .seq x y => .seq (recCode rid r v x) (recCode rid r v y)
  | c => c

def recB (ops : Array Oper) (r : Nat) : Bool :=
  match nthO ops.toList r with
  | some o => match o.op, o.guard, o.after.toList with
    | .call { callee := .builtin .recover, args := a, .. }, none, [] => Nat.beq a.size 0
    | _, _, _ => false
  | none => false

theorem recB_at {ops : Array Oper} {r : Nat} (h : recB ops r = true) : RecAt P ops r := by
  unfold recB at h
  rw [nthO_eq, Array.getElem?_toList] at h
  split at h
  · rename_i o ho
    split at h
    · rename_i a ats hop hg haft
      have ha := Nat.eq_of_beq_eq_true h
      refine ⟨o, ho, fun ρ w => ?_, hg, by simpa using haft⟩
      obtain ⟨dst, op, type, pos, after, guard⟩ := o
      subst hop
      have ha2 : a = #[] := by simpa using ha
      subst ha2
      rfl
    · cases h
  · cases h
end

def pDf (P : Program) (m : Sem Next) (w : World) (K : Deferred → Prop) : Prop := ∃ d, m.run P w = .ok (.defer d) w ∧ K d

def dE (P : Program) (d : Deferred) (u : FrameMode) (w : World) (K : World → Prop) : Prop :=
  ∃ fv cap f args, d.target = .fn fv cap ∧ (invoke d.target d.args).run P w = .ok (.enter f args) w ∧ CallsD P f args u w fun e u' w' => (∃ v, e = .returned v) ∧ settle u' = .returning ∧ K w'

def rgD [Pan] (P : Program) (ops : Array Oper) : List Oper → Env → World → (Deferred → Env → World → Prop) → Prop
  | [], _, _, _ => False
  | [o], ρ, w, K => pDf P (execE ρ o) w fun d => K d (ρ.put o.dst undef) w
  | o :: rest, ρ, w, K => opW P ops o ρ w fun v w' => rgD P ops rest (ρ.put o.dst v) w' K

def isDf : List Oper → Bool
  | [] => false
  | [o] => match o.op, o.guard with
    | .defer _, none => true
    | _, _ => false
  | _ :: r => isDf r

def cwZ (P : Program) (H : Hints) (rs : List ResultVar) (K : Value → World → Prop) (y : Code) (d : Deferred) (ρ : Env) (w : World) : Prop :=
  ∃ Z : Pan, (∀ ch w', Z.z ch w' → dE P d (.panicking ch) w' fun w'' => resW P rs [] ρ w'' K) ∧
    @cw Z P H y (fun e ρ' w' => match e with
      | .normal => dE P d .returning w' fun w'' => resW P rs [] ρ' w'' K
      | .ret => dE P d .returning w' fun w'' => resW P rs [] ρ' w'' K
      | _ => False) ρ w

def cwD [Pan] (P : Program) (H : Hints) (rs : List ResultVar) (K : Value → World → Prop) : Code → Env → World → Prop
  | .seq x y, ρ, w => match x with
    | .region _ ops false => match isDf ops.toList with
      | true => rgD P ops ops.toList ρ w fun d ρ' w' => cwZ P H rs K y d ρ' w'
      | false => rgW P ops ops.toList ρ w fun ρ' w' => cwD P H rs K y ρ' w'
    | x => match (firstRg y).bind H.cut with
      | none => cw P H x (thenE (fun ρ' w' => cwD P H rs K y ρ' w') (endQ P rs K)) ρ w
      | some (live, mods) => cutW (fun Q' => cw P H x Q' ρ w) (fun ρ' w' => cwD P H rs K y ρ' w') live mods (endQ P rs K) ρ
  | _, _, _ => False

def rsIn (lo : Nat) : List ResultVar → Bool
  | [] => true
  | .tmp t :: r => Nat.blt t lo && rsIn lo r
  | .cell a _ :: r => Nat.blt a lo && rsIn lo r

def servedD (H : Hints) (n lo : Nat) : Code → Bool
  | .seq x y => match x with
    | .region _ ops false => ((opWrites ops.toList).all fun t => Nat.blt t n) && match isDf ops.toList with
      | true => served H ⟨n, lo, [], fun _ => undef⟩ y
      | false => servedD H n lo y
    | x => served H (Frm.new n) x && servedD H n lo y && (match (firstRg y).bind H.cut with
      | none => true
      | some (_, mods) => (writes x).all fun t => mods.testBit t)
  | _ => false

theorem served_frm {H : Hints} {n m : Frm} (h1 : n.n = m.n) (h2 : n.lo = m.lo) : ∀ c : Code, served H n c = served H m c := by
  intro c
  induction c with
  | region id ops b => cases b <;> simp only [served, h1, h2]
  | seq x y ihx ihy => simp only [served, ihx, ihy]
  | cond c x y ihx ihy => simp only [served, ihx, ihy]
  | block id c ih => simp only [served, ih]
  | loop c ih => simp only [served, ih]
  | _ => rfl

section
variable [Pan] {P : Program} {H : Hints}

theorem rgD_wp {n : Frm} {ops : Array Oper} (l : List Oper) : ∀ {a : Act} {ρ : Env} {w : World} {K : Deferred → Env → World → Prop} {Q : Exit → Act → World → Prop}, isDf l = true → 
    (∀ c a w, PZ n a c w → Q (.panic c) a w) → (∀ t ∈ opWrites l, n.lo ≤ t ∧ t < n.n) → Fits n a ρ → rgD P ops l ρ w K →
    (∀ d a' ρ' w', Fits { n with ds := d :: n.ds } a' ρ' → K d ρ' w' → Q .normal a' w') → wpList P ops Q l a w := by
  induction l with
  | nil => intro a ρ w K Q hd; cases hd
  | cons o rest ih =>
    intro a ρ w K Q hdf hQ hw hf h hK
    have hd : ∀ t, o.dst = some t → n.lo ≤ t ∧ t < n.n := fun t ht => hw t (by simp [opWrites, ht])
    cases rest with
    | nil =>
      obtain ⟨d, hr, h⟩ := h
      have hg : o.guard = none := by
        simp only [isDf] at hdf
        split at hdf
        · assumption
        · cases hdf
      refine wpList_plain hg fun K' hK' => ?_
      unfold Oper.wp
      rw [hf.eval, ← execE_eq, hr]
      simp only [Oper.upon]
      refine hK' _ _ ?_
      refine hK d _ _ w ?_ h
      have hf2 := hf.put hd undef
      refine ⟨by rw [← hf2.size]; cases o.dst <;> rfl, ?_, fun t => ?_, fun t ht => hf2.low t ht⟩
      · cases o.dst <;> simp [Act.put, hf.defers]
      · rw [← hf2.get t]
        cases o.dst <;> rfl
    | cons o2 rest =>
      have hrest : ∀ t ∈ opWrites (o2 :: rest), n.lo ≤ t ∧ t < n.n := fun t ht => hw t (by
        rw [opWrites]; split
        · exact List.mem_cons_of_mem _ ht
        · exact ht)
      have hgo : ∀ v w', rgD P ops (o2 :: rest) (ρ.put o.dst v) w' K → wpList P ops Q (o2 :: rest) (a.put o.dst v) w' := fun v w' hr =>
        ih (by simpa only [isDf] using hdf) hQ hrest (hf.put hd v) hr hK
      simp only [rgD] at h
      cases hg : o.guard with
      | none => exact wpList_plain hg fun K' hK' => pN_wp hf (fun c w h => hQ c a w h) (opW_none hg h) fun v w' hr => hK' _ _ (hgo v w' hr)
      | some g =>
        obtain ⟨j, want⟩ := g
        simp only [opW, hg] at h
        refine wpList_step fun K' hK' => ?_
        simp only [Region.wanted, hg, hf.yielded ops]
        simp only [pGd] at h
        split
        · rename_i hy
          rw [if_pos hy] at h
          exact pN_wp hf (fun c w h => hQ c a w h) h fun v w' hr => hK' _ _ (hgo v w' hr)
        · rename_i hy
          rw [if_neg hy] at h
          exact hK' _ _ (hgo _ _ h)

theorem resW_congr {lo : Nat} {ρ ρ' : Env} (hl : ∀ t, t < lo → ρ' t = ρ t) {w : World} {K : Value → World → Prop} : ∀ (rs : List ResultVar) (acc : List Value), rsIn lo rs = true → resW P rs acc ρ w K → resW P rs acc ρ' w K
  | [], acc, _, h => h
  | .tmp t :: r, acc, hr, h => by
    simp only [rsIn, Bool.and_eq_true, Nat.blt_eq] at hr
    simp only [resW] at h ⊢
    rw [hl t hr.1]
    exact resW_congr hl r _ hr.2 h
  | .cell a t :: r, acc, hr, h => by
    simp only [rsIn, Bool.and_eq_true, Nat.blt_eq] at hr
    simp only [resW] at h ⊢
    rw [hl a hr.1]
    obtain ⟨v, h1, h2⟩ := h
    exact ⟨v, h1, resW_congr hl r _ hr.2 h2⟩

theorem leaves_end {fn : Func} {n : Frm} {a : Act} {ρ : Env} {w : World} {K : Value → World → Prop} (hf : Fits n a ρ) (h : resW P fn.results.toList [] ρ w K) : Leaves P fn a.tmps (retP K) [] .returning w := by
  obtain ⟨vs, hr, hK⟩ := resW_run _ _ h
  exact ⟨_, results_one hf fn w P vs hr, by simpa [retP] using hK⟩

theorem leaves_dE {fn : Func} {a : Act} {ρ : Env} {w : World} {K : Value → World → Prop} {u : FrameMode} (hu : u ≠ .run) {d : Deferred} {lo : Nat} (hrs : rsIn lo fn.results.toList = true) (hl : ∀ t, t < lo → a.tmps.getD t undef = ρ t)
    (h : dE P d u w fun w'' => resW P fn.results.toList [] ρ w'' K) : Leaves P fn a.tmps (retP K) [d] u w := by
  obtain ⟨fv, cap, f, args, ht, hi, h⟩ := h
  refine ⟨hu, fv, cap, f, args, ht, hi, h.mono fun e u' w' he => ?_⟩
  obtain ⟨⟨v, rfl⟩, hs, hK⟩ := he
  show Leaves P fn a.tmps (retP K) [] (settle u') w'
  rw [hs]
  have hf : Fits ⟨a.tmps.size, 0, a.defers, fun _ => undef⟩ a (fun t => a.tmps.getD t undef) := ⟨rfl, rfl, fun _ => rfl, fun t ht => absurd ht (Nat.not_lt_zero t)⟩
  exact leaves_end hf (resW_congr hl _ _ hrs hK)

omit [Pan] in
theorem cwZ_wp (hm : P.follows .mixedOrders = true) {fn : Func} {lo : Nat} {K : Value → World → Prop} {R : Ending → World → Prop} {y : Code} {d : Deferred} {ρ : Env} {a : Act} {w : World}
    (hL : ∀ (u : FrameMode) (a : Act) (ρ : Env) (w : World), u ≠ .run → (∀ t, t < lo → a.tmps.getD t undef = ρ t) → (dE P d u w fun w'' => resW P fn.results.toList [] ρ w'' K) → Leaves P fn a.tmps R [d] u w)
    (hs : served H ⟨fn.ntmps, lo, [], fun _ => undef⟩ y = true) (hf : Fits { Frm.new fn.ntmps with ds := [d] } a ρ) (hz : cwZ P H fn.results.toList K y d ρ w) : y.wp P (bodyPostD P fn R) a w := by
  obtain ⟨Z, hz1, hz2⟩ := hz
  have hfF : Fits ⟨fn.ntmps, lo, [d], ρ⟩ a ρ := ⟨hf.size, hf.defers, hf.get, fun _ _ => rfl⟩
  have s2 : served H ⟨fn.ntmps, lo, [d], ρ⟩ y = true := (served_frm (H := H) (n := ⟨fn.ntmps, lo, [d], ρ⟩) (m := ⟨fn.ntmps, lo, [], fun _ => undef⟩) rfl rfl y).trans hs
  refine wp_mono (@cw_wp Z P hm H _ y _ _ _ _ s2 hfF hz2) fun e a'' w'' hq => ?_
  cases e with
  | panic c =>
    show Leaves P fn a''.tmps R a''.defers (.panicking c) w''
    rw [hq.defers]
    exact hL _ _ _ _ (by simp) hq.low (hz1 _ _ hq.z)
  | outgrown => exact hq.elim
  | goto l => exact hq.elim
  | exit id => exact hq.2.choose_spec.2.elim
  | normal =>
    obtain ⟨_, ρ2, hf2, hq⟩ := hq
    show Leaves P fn a''.tmps R a''.defers .returning w''
    rw [hf2.defers]
    exact hL _ _ _ _ (by simp) (fun t _ => hf2.get t) hq
  | ret =>
    obtain ⟨_, ρ2, hf2, hq⟩ := hq
    show Leaves P fn a''.tmps R a''.defers .returning w''
    rw [hf2.defers]
    exact hL _ _ _ _ (by simp) (fun t _ => hf2.get t) hq

theorem cwD_wp (hm : P.follows .mixedOrders = true) {fn : Func} {lo : Nat} {K : Value → World → Prop} (hrs : rsIn lo fn.results.toList = true) : ∀ (c : Code) {ρ : Env} {w : World} {a : Act},
    servedD H fn.ntmps lo c = true → Fits (Frm.new fn.ntmps) a ρ → cwD P H fn.results.toList K c ρ w → c.wp P (bodyPostD P fn (retP K)) a w := by
  intro c
  induction c with
  | seq x y _ ihy =>
    intro ρ w a hs hf h
    refine wp_seq ?_
    have fin : ∀ {e : Exit} {a' : Act} {w' : World} {ws : List Nat} {Q : Env → World → Prop} (_ : @UpQ _ (Frm.new fn.ntmps) a ws (thenE Q (endQ P fn.results.toList K)) e a' w') (_ : e ≠ .normal), bodyPostD P fn (retP K) e a' w' := by
      intro e a' w' ws Q hq hne
      cases e with
      | normal => exact absurd rfl hne
      | panic c => 
        show Leaves P fn a'.tmps (retP K) a'.defers (.panicking c) w'
        rw [hq.defers]
        exact hq.z
      | outgrown => exact hq.elim
      | goto l => exact hq.elim
      | exit id => exact hq.2.choose_spec.2.elim
      | ret =>
        obtain ⟨_, ρ', hf', hq'⟩ := hq
        show Leaves P fn a'.tmps (retP K) a'.defers .returning w'
        rw [hf'.defers]
        exact leaves_end hf' hq'
    have pn : ∀ c a' w', PZ (Frm.new fn.ntmps) a' c w' → bodyPostD P fn (retP K) (.panic c) a' w' := fun c a' w' hq => by
      show Leaves P fn a'.tmps (retP K) a'.defers (.panicking c) w'
      rw [hq.defers]
      exact hq.z
    have gen : served H (Frm.new fn.ntmps) x = true → servedD H fn.ntmps lo y = true → (match (firstRg y).bind H.cut with
        | none => true
        | some (_, mods) => (writes x).all fun t => mods.testBit t) = true → (match (firstRg y).bind H.cut with
        | none => cw P H x (thenE (fun ρ' w' => cwD P H fn.results.toList K y ρ' w') (endQ P fn.results.toList K)) ρ w
        | some (live, mods) => cutW (fun Q' => cw P H x Q' ρ w) (fun ρ' w' => cwD P H fn.results.toList K y ρ' w') live mods (endQ P fn.results.toList K) ρ) →
        x.wp P (Exit.then (y.wp P (bodyPostD P fn (retP K))) (bodyPostD P fn (retP K))) a w := by
      intro s1 s2 s3 h
      split at h
      · refine wp_mono (cw_wp hm x s1 hf h) fun e a' w' hq => ?_
        cases e with
        | normal =>
          obtain ⟨_, ρ', hf', hq'⟩ := hq
          exact ihy s2 hf' hq'
        | panic c => exact fin hq (by simp)
        | outgrown => exact fin hq (by simp)
        | goto l => exact fin hq (by simp)
        | exit id => exact fin hq (by simp)
        | ret => exact fin hq (by simp)
      · rename_i live mods hcut
        rw [hcut] at s3
        simp only [List.all_eq_true] at s3
        have hmods : ∀ t, mods.testBit t = false → t ∉ writes x := by
          intro t ht hm
          rw [s3 t hm] at ht; cases ht
        obtain ⟨I, hx, hy⟩ := h
        refine wp_mono (cw_wp hm x s1 hf hx) fun e a' w' hq => ?_
        cases e with
        | normal =>
          obtain ⟨hk, ρ', hf', hq'⟩ := hq
          have hy' := allV_get (hy ρ') (live.map ρ') (by simp) w' hq'
          have hme : mkE ρ mods ρ' live (live.map ρ') = ρ' := mkE_self ρ ρ' _ (fun t ht => by rw [← hf'.get t, hk t (hmods t ht), hf.get t]) live
          dsimp only at hy'
          rw [hme] at hy'
          exact ihy s2 hf' hy'
        | panic c => exact fin (Q := fun ρ' w' => apP live.length I (live.map ρ') w') hq (by simp)
        | outgrown => exact fin (Q := fun ρ' w' => apP live.length I (live.map ρ') w') hq (by simp)
        | goto l => exact fin (Q := fun ρ' w' => apP live.length I (live.map ρ') w') hq (by simp)
        | exit id => exact fin (Q := fun ρ' w' => apP live.length I (live.map ρ') w') hq (by simp)
        | ret => exact fin (Q := fun ρ' w' => apP live.length I (live.map ρ') w') hq (by simp)
    cases x with
    | region id ops b =>
      cases b with
      | false =>
        simp only [servedD, Bool.and_eq_true, List.all_eq_true] at hs
        simp only [cwD] at h
        have hlt : ∀ t ∈ opWrites ops.toList, (Frm.new fn.ntmps).lo ≤ t ∧ t < (Frm.new fn.ntmps).n := fun t ht => ⟨Nat.zero_le _, by simpa [Nat.blt_eq] using hs.1 t ht⟩
        cases hdf : isDf ops.toList with
        | true =>
          rw [hdf] at h hs
          refine wp_region_list (rgD_wp ops.toList hdf (fun c a w h => pn c a w h) hlt hf h fun d a' ρ' w' hf' hz => ?_)
          exact cwZ_wp hm (R := retP K) (fun u a ρ w hu hl h => leaves_dE hu hrs hl h) hs.2 hf' hz
        | false =>
          rw [hdf] at h hs
          refine wp_region_list (rgW_wp ops.toList (fun c a w h => pn c a w h) hlt hf h fun a' ρ' w' _ hf' hq => ?_)
          exact ihy hs.2 hf' hq
      | true =>
        simp only [servedD, Bool.and_eq_true] at hs
        simp only [cwD] at h
        exact gen hs.1.1 hs.1.2 hs.2 h
    | _ =>
      simp only [servedD, Bool.and_eq_true] at hs
      simp only [cwD] at h
      exact gen hs.1.1 hs.1.2 hs.2 h
  | _ => intro ρ w a hs; simp [servedD] at hs

theorem calls_of_cwD (hm : P.follows .mixedOrders = true) {f : FuncId} {fn : Func} {c : Code} {args : List Value} {w : World} {K : Value → World → Prop} (lo : Nat)
    (hfn : P.funcs[f]? = some fn) (hb : fn.body = some c) (hs : servedD H fn.ntmps lo c = true) (hrs : rsIn lo fn.results.toList = true) (ha : args.length ≤ fn.ntmps)
    (h : cwD P H fn.results.toList K c (argsE args) w) : Calls P f args.toArray w (retP K) :=
  calls_of_wp_defers hfn hb (cwD_wp hm hrs c hs (fits_new fn.ntmps args ha) h)
end

end Go.Proofs.YtikmogfhhggafaaGreatDoor

namespace Go.Proofs.YtikmogfhhggafaaGreatDoor
open Go

theorem mixed : Tryz.prog.follows .mixedOrders = true := by kernel_rfl
section
variable [Pan] {w : World} {K : Value → World → Prop} {J : Value → Prop}

theorem pN_conv_int_uint8 (k : IntKind) (n : Int) : pN Tryz.prog (oConv 3 5 (.int k n)) w K = K (.int .u8 (IntKind.wrap .u8 n)) w := pN_conv k n Tryz.underlying3 Tryz.underlying5
theorem pA_conv_int_uint8 (k : IntKind) (n : Int) : pA Tryz.prog (oConv 3 5 (.int k n)) J = J (.int .u8 (IntKind.wrap .u8 n)) := pA_conv k n Tryz.underlying3 Tryz.underlying5
theorem pL_conv_int_uint8 (k : IntKind) (n : Int) : pL Tryz.prog (oConv 3 5 (.int k n)) w J = J (.int .u8 (IntKind.wrap .u8 n)) := pL_conv k n Tryz.underlying3 Tryz.underlying5
theorem pN_conv_int_uint (k : IntKind) (n : Int) : pN Tryz.prog (oConv 3 97 (.int k n)) w K = K (.int .u64 (IntKind.wrap .u64 n)) w := pN_conv k n Tryz.underlying3 Tryz.underlying97
theorem pA_conv_int_uint (k : IntKind) (n : Int) : pA Tryz.prog (oConv 3 97 (.int k n)) J = J (.int .u64 (IntKind.wrap .u64 n)) := pA_conv k n Tryz.underlying3 Tryz.underlying97
theorem pL_conv_int_uint (k : IntKind) (n : Int) : pL Tryz.prog (oConv 3 97 (.int k n)) w J = J (.int .u64 (IntKind.wrap .u64 n)) := pL_conv k n Tryz.underlying3 Tryz.underlying97
theorem pN_conv_int_uint64 (k : IntKind) (n : Int) : pN Tryz.prog (oConv 3 212 (.int k n)) w K = K (.int .u64 (IntKind.wrap .u64 n)) w := pN_conv k n Tryz.underlying3 Tryz.underlying212
theorem pA_conv_int_uint64 (k : IntKind) (n : Int) : pA Tryz.prog (oConv 3 212 (.int k n)) J = J (.int .u64 (IntKind.wrap .u64 n)) := pA_conv k n Tryz.underlying3 Tryz.underlying212
theorem pL_conv_int_uint64 (k : IntKind) (n : Int) : pL Tryz.prog (oConv 3 212 (.int k n)) w J = J (.int .u64 (IntKind.wrap .u64 n)) := pL_conv k n Tryz.underlying3 Tryz.underlying212
theorem pN_conv_int_slices_xorshift (k : IntKind) (n : Int) : pN Tryz.prog (oConv 3 265 (.int k n)) w K = K (.int .u64 (IntKind.wrap .u64 n)) w := pN_conv k n Tryz.underlying3 Tryz.underlying265
theorem pA_conv_int_slices_xorshift (k : IntKind) (n : Int) : pA Tryz.prog (oConv 3 265 (.int k n)) J = J (.int .u64 (IntKind.wrap .u64 n)) := pA_conv k n Tryz.underlying3 Tryz.underlying265
theorem pL_conv_int_slices_xorshift (k : IntKind) (n : Int) : pL Tryz.prog (oConv 3 265 (.int k n)) w J = J (.int .u64 (IntKind.wrap .u64 n)) := pL_conv k n Tryz.underlying3 Tryz.underlying265
theorem pN_conv_uint8_int (k : IntKind) (n : Int) : pN Tryz.prog (oConv 5 3 (.int k n)) w K = K (.int .i64 (IntKind.wrap .i64 n)) w := pN_conv k n Tryz.underlying5 Tryz.underlying3
theorem pA_conv_uint8_int (k : IntKind) (n : Int) : pA Tryz.prog (oConv 5 3 (.int k n)) J = J (.int .i64 (IntKind.wrap .i64 n)) := pA_conv k n Tryz.underlying5 Tryz.underlying3
theorem pL_conv_uint8_int (k : IntKind) (n : Int) : pL Tryz.prog (oConv 5 3 (.int k n)) w J = J (.int .i64 (IntKind.wrap .i64 n)) := pL_conv k n Tryz.underlying5 Tryz.underlying3
theorem pN_conv_uint8_uint64 (k : IntKind) (n : Int) : pN Tryz.prog (oConv 5 212 (.int k n)) w K = K (.int .u64 (IntKind.wrap .u64 n)) w := pN_conv k n Tryz.underlying5 Tryz.underlying212
theorem pA_conv_uint8_uint64 (k : IntKind) (n : Int) : pA Tryz.prog (oConv 5 212 (.int k n)) J = J (.int .u64 (IntKind.wrap .u64 n)) := pA_conv k n Tryz.underlying5 Tryz.underlying212
theorem pL_conv_uint8_uint64 (k : IntKind) (n : Int) : pL Tryz.prog (oConv 5 212 (.int k n)) w J = J (.int .u64 (IntKind.wrap .u64 n)) := pL_conv k n Tryz.underlying5 Tryz.underlying212
theorem pN_conv_uint8_uint32 (k : IntKind) (n : Int) : pN Tryz.prog (oConv 5 213 (.int k n)) w K = K (.int .u32 (IntKind.wrap .u32 n)) w := pN_conv k n Tryz.underlying5 Tryz.underlying213
theorem pA_conv_uint8_uint32 (k : IntKind) (n : Int) : pA Tryz.prog (oConv 5 213 (.int k n)) J = J (.int .u32 (IntKind.wrap .u32 n)) := pA_conv k n Tryz.underlying5 Tryz.underlying213
theorem pL_conv_uint8_uint32 (k : IntKind) (n : Int) : pL Tryz.prog (oConv 5 213 (.int k n)) w J = J (.int .u32 (IntKind.wrap .u32 n)) := pL_conv k n Tryz.underlying5 Tryz.underlying213
theorem pN_conv_uint_int (k : IntKind) (n : Int) : pN Tryz.prog (oConv 97 3 (.int k n)) w K = K (.int .i64 (IntKind.wrap .i64 n)) w := pN_conv k n Tryz.underlying97 Tryz.underlying3
theorem pA_conv_uint_int (k : IntKind) (n : Int) : pA Tryz.prog (oConv 97 3 (.int k n)) J = J (.int .i64 (IntKind.wrap .i64 n)) := pA_conv k n Tryz.underlying97 Tryz.underlying3
theorem pL_conv_uint_int (k : IntKind) (n : Int) : pL Tryz.prog (oConv 97 3 (.int k n)) w J = J (.int .i64 (IntKind.wrap .i64 n)) := pL_conv k n Tryz.underlying97 Tryz.underlying3
theorem pN_conv_uint_uint32 (k : IntKind) (n : Int) : pN Tryz.prog (oConv 97 213 (.int k n)) w K = K (.int .u32 (IntKind.wrap .u32 n)) w := pN_conv k n Tryz.underlying97 Tryz.underlying213
theorem pA_conv_uint_uint32 (k : IntKind) (n : Int) : pA Tryz.prog (oConv 97 213 (.int k n)) J = J (.int .u32 (IntKind.wrap .u32 n)) := pA_conv k n Tryz.underlying97 Tryz.underlying213
theorem pL_conv_uint_uint32 (k : IntKind) (n : Int) : pL Tryz.prog (oConv 97 213 (.int k n)) w J = J (.int .u32 (IntKind.wrap .u32 n)) := pL_conv k n Tryz.underlying97 Tryz.underlying213
theorem pN_conv_uint64_int (k : IntKind) (n : Int) : pN Tryz.prog (oConv 212 3 (.int k n)) w K = K (.int .i64 (IntKind.wrap .i64 n)) w := pN_conv k n Tryz.underlying212 Tryz.underlying3
theorem pA_conv_uint64_int (k : IntKind) (n : Int) : pA Tryz.prog (oConv 212 3 (.int k n)) J = J (.int .i64 (IntKind.wrap .i64 n)) := pA_conv k n Tryz.underlying212 Tryz.underlying3
theorem pL_conv_uint64_int (k : IntKind) (n : Int) : pL Tryz.prog (oConv 212 3 (.int k n)) w J = J (.int .i64 (IntKind.wrap .i64 n)) := pL_conv k n Tryz.underlying212 Tryz.underlying3
theorem pN_conv_uint64_uint8 (k : IntKind) (n : Int) : pN Tryz.prog (oConv 212 5 (.int k n)) w K = K (.int .u8 (IntKind.wrap .u8 n)) w := pN_conv k n Tryz.underlying212 Tryz.underlying5
theorem pA_conv_uint64_uint8 (k : IntKind) (n : Int) : pA Tryz.prog (oConv 212 5 (.int k n)) J = J (.int .u8 (IntKind.wrap .u8 n)) := pA_conv k n Tryz.underlying212 Tryz.underlying5
theorem pL_conv_uint64_uint8 (k : IntKind) (n : Int) : pL Tryz.prog (oConv 212 5 (.int k n)) w J = J (.int .u8 (IntKind.wrap .u8 n)) := pL_conv k n Tryz.underlying212 Tryz.underlying5
theorem pN_conv_uint32_uint8 (k : IntKind) (n : Int) : pN Tryz.prog (oConv 213 5 (.int k n)) w K = K (.int .u8 (IntKind.wrap .u8 n)) w := pN_conv k n Tryz.underlying213 Tryz.underlying5
theorem pA_conv_uint32_uint8 (k : IntKind) (n : Int) : pA Tryz.prog (oConv 213 5 (.int k n)) J = J (.int .u8 (IntKind.wrap .u8 n)) := pA_conv k n Tryz.underlying213 Tryz.underlying5
theorem pL_conv_uint32_uint8 (k : IntKind) (n : Int) : pL Tryz.prog (oConv 213 5 (.int k n)) w J = J (.int .u8 (IntKind.wrap .u8 n)) := pL_conv k n Tryz.underlying213 Tryz.underlying5
theorem pN_len_sl_api_Item (ty : TypeId) (ao : Option Addr) (n c : Nat) (cs : List Bool) : pN Tryz.prog (oBi .len #[30] ty cs [.slice ao n c]) w K = K (.int .i64 n) w := pN_len 30 ty ao n c cs Tryz.underlying30
theorem pA_len_sl_api_Item (ty : TypeId) (ao : Option Addr) (n c : Nat) (cs : List Bool) : pA Tryz.prog (oBi .len #[30] ty cs [.slice ao n c]) J = J (.int .i64 n) := pA_len 30 ty ao n c cs Tryz.underlying30
theorem pN_len_sl_api_Change (ty : TypeId) (ao : Option Addr) (n c : Nat) (cs : List Bool) : pN Tryz.prog (oBi .len #[40] ty cs [.slice ao n c]) w K = K (.int .i64 n) w := pN_len 40 ty ao n c cs Tryz.underlying40
theorem pA_len_sl_api_Change (ty : TypeId) (ao : Option Addr) (n c : Nat) (cs : List Bool) : pA Tryz.prog (oBi .len #[40] ty cs [.slice ao n c]) J = J (.int .i64 n) := pA_len 40 ty ao n c cs Tryz.underlying40
theorem pN_len_sl_int (ty : TypeId) (ao : Option Addr) (n c : Nat) (cs : List Bool) : pN Tryz.prog (oBi .len #[46] ty cs [.slice ao n c]) w K = K (.int .i64 n) w := pN_len 46 ty ao n c cs Tryz.underlying46
theorem pA_len_sl_int (ty : TypeId) (ao : Option Addr) (n c : Nat) (cs : List Bool) : pA Tryz.prog (oBi .len #[46] ty cs [.slice ao n c]) J = J (.int .i64 n) := pA_len 46 ty ao n c cs Tryz.underlying46
theorem pN_len_sl_uint8 (ty : TypeId) (ao : Option Addr) (n c : Nat) (cs : List Bool) : pN Tryz.prog (oBi .len #[47] ty cs [.slice ao n c]) w K = K (.int .i64 n) w := pN_len 47 ty ao n c cs Tryz.underlying47
theorem pA_len_sl_uint8 (ty : TypeId) (ao : Option Addr) (n c : Nat) (cs : List Bool) : pA Tryz.prog (oBi .len #[47] ty cs [.slice ao n c]) J = J (.int .i64 n) := pA_len 47 ty ao n c cs Tryz.underlying47
theorem pN_len_sl_api_ID (ty : TypeId) (ao : Option Addr) (n c : Nat) (cs : List Bool) : pN Tryz.prog (oBi .len #[52] ty cs [.slice ao n c]) w K = K (.int .i64 n) w := pN_len 52 ty ao n c cs Tryz.underlying52
theorem pA_len_sl_api_ID (ty : TypeId) (ao : Option Addr) (n c : Nat) (cs : List Bool) : pA Tryz.prog (oBi .len #[52] ty cs [.slice ao n c]) J = J (.int .i64 n) := pA_len 52 ty ao n c cs Tryz.underlying52
theorem pN_len_sl_sl_uint8 (ty : TypeId) (ao : Option Addr) (n c : Nat) (cs : List Bool) : pN Tryz.prog (oBi .len #[71] ty cs [.slice ao n c]) w K = K (.int .i64 n) w := pN_len 71 ty ao n c cs Tryz.underlying71
theorem pA_len_sl_sl_uint8 (ty : TypeId) (ao : Option Addr) (n c : Nat) (cs : List Bool) : pA Tryz.prog (oBi .len #[71] ty cs [.slice ao n c]) J = J (.int .i64 n) := pA_len 71 ty ao n c cs Tryz.underlying71
theorem pN_len_sl_string (ty : TypeId) (ao : Option Addr) (n c : Nat) (cs : List Bool) : pN Tryz.prog (oBi .len #[72] ty cs [.slice ao n c]) w K = K (.int .i64 n) w := pN_len 72 ty ao n c cs Tryz.underlying72
theorem pA_len_sl_string (ty : TypeId) (ao : Option Addr) (n c : Nat) (cs : List Bool) : pA Tryz.prog (oBi .len #[72] ty cs [.slice ao n c]) J = J (.int .i64 n) := pA_len 72 ty ao n c cs Tryz.underlying72
theorem pN_len_sl_sl_api_Item (ty : TypeId) (ao : Option Addr) (n c : Nat) (cs : List Bool) : pN Tryz.prog (oBi .len #[104] ty cs [.slice ao n c]) w K = K (.int .i64 n) w := pN_len 104 ty ao n c cs Tryz.underlying104
theorem pA_len_sl_sl_api_Item (ty : TypeId) (ao : Option Addr) (n c : Nat) (cs : List Bool) : pA Tryz.prog (oBi .len #[104] ty cs [.slice ao n c]) J = J (.int .i64 n) := pA_len 104 ty ao n c cs Tryz.underlying104
theorem pN_len_sl_snap_entry (ty : TypeId) (ao : Option Addr) (n c : Nat) (cs : List Bool) : pN Tryz.prog (oBi .len #[116] ty cs [.slice ao n c]) w K = K (.int .i64 n) w := pN_len 116 ty ao n c cs Tryz.underlying116
theorem pA_len_sl_snap_entry (ty : TypeId) (ao : Option Addr) (n c : Nat) (cs : List Bool) : pA Tryz.prog (oBi .len #[116] ty cs [.slice ao n c]) J = J (.int .i64 n) := pA_len 116 ty ao n c cs Tryz.underlying116
theorem pN_len_sl_tar_field (ty : TypeId) (ao : Option Addr) (n c : Nat) (cs : List Bool) : pN Tryz.prog (oBi .len #[206] ty cs [.slice ao n c]) w K = K (.int .i64 n) w := pN_len 206 ty ao n c cs Tryz.underlying206
theorem pA_len_sl_tar_field (ty : TypeId) (ao : Option Addr) (n c : Nat) (cs : List Bool) : pA Tryz.prog (oBi .len #[206] ty cs [.slice ao n c]) J = J (.int .i64 n) := pA_len 206 ty ao n c cs Tryz.underlying206
theorem pN_aidx_arr32_uint8 (b o : Nat) (k : IntKind) (i : Int) (h0 : 0 ≤ i) (h1 : i < 32) : pN Tryz.prog (oIdx 57 (.pointer (some ⟨b, o, none⟩)) (.int k i)) w K = K (.pointer (some ⟨b, o + i.toNat, none⟩)) w := pN_aidx Tryz.underlying57 Tryz.sizeOf5 b o k i h0 h1
theorem pA_aidx_arr32_uint8 (b o : Nat) (k : IntKind) (i : Int) (h0 : 0 ≤ i) (h1 : i < 32) : pA Tryz.prog (oIdx 57 (.pointer (some ⟨b, o, none⟩)) (.int k i)) J = J (.pointer (some ⟨b, o + i.toNat, none⟩)) := pA_aidx Tryz.underlying57 Tryz.sizeOf5 b o k i h0 h1
theorem pN_aidx_arr8_uint32 (b o : Nat) (k : IntKind) (i : Int) (h0 : 0 ≤ i) (h1 : i < 8) : pN Tryz.prog (oIdx 214 (.pointer (some ⟨b, o, none⟩)) (.int k i)) w K = K (.pointer (some ⟨b, o + i.toNat, none⟩)) w := pN_aidx Tryz.underlying214 Tryz.sizeOf213 b o k i h0 h1
theorem pA_aidx_arr8_uint32 (b o : Nat) (k : IntKind) (i : Int) (h0 : 0 ≤ i) (h1 : i < 8) : pA Tryz.prog (oIdx 214 (.pointer (some ⟨b, o, none⟩)) (.int k i)) J = J (.pointer (some ⟨b, o + i.toNat, none⟩)) := pA_aidx Tryz.underlying214 Tryz.sizeOf213 b o k i h0 h1
theorem pN_aidx_arr64_uint8 (b o : Nat) (k : IntKind) (i : Int) (h0 : 0 ≤ i) (h1 : i < 64) : pN Tryz.prog (oIdx 215 (.pointer (some ⟨b, o, none⟩)) (.int k i)) w K = K (.pointer (some ⟨b, o + i.toNat, none⟩)) w := pN_aidx Tryz.underlying215 Tryz.sizeOf5 b o k i h0 h1
theorem pA_aidx_arr64_uint8 (b o : Nat) (k : IntKind) (i : Int) (h0 : 0 ≤ i) (h1 : i < 64) : pA Tryz.prog (oIdx 215 (.pointer (some ⟨b, o, none⟩)) (.int k i)) J = J (.pointer (some ⟨b, o + i.toNat, none⟩)) := pA_aidx Tryz.underlying215 Tryz.sizeOf5 b o k i h0 h1
theorem pN_aidx_arr64_uint32 (b o : Nat) (k : IntKind) (i : Int) (h0 : 0 ≤ i) (h1 : i < 64) : pN Tryz.prog (oIdx 257 (.pointer (some ⟨b, o, none⟩)) (.int k i)) w K = K (.pointer (some ⟨b, o + i.toNat, none⟩)) w := pN_aidx Tryz.underlying257 Tryz.sizeOf213 b o k i h0 h1
theorem pA_aidx_arr64_uint32 (b o : Nat) (k : IntKind) (i : Int) (h0 : 0 ≤ i) (h1 : i < 64) : pA Tryz.prog (oIdx 257 (.pointer (some ⟨b, o, none⟩)) (.int k i)) J = J (.pointer (some ⟨b, o + i.toNat, none⟩)) := pA_aidx Tryz.underlying257 Tryz.sizeOf213 b o k i h0 h1
theorem pN_eql_p_depot_Depot (xo yo : Operand) (p : Option Addr) : pN Tryz.prog (oBin .eql 31 xo yo (.pointer p) (.pointer none)) w K = K (.bool (p.isNone)) w := pN_eql_ptr 31 xo yo p Tryz.underlying31
theorem pA_eql_p_depot_Depot (xo yo : Operand) (p : Option Addr) : pA Tryz.prog (oBin .eql 31 xo yo (.pointer p) (.pointer none)) J = J (.bool (p.isNone)) := pA_eql_ptr 31 xo yo p Tryz.underlying31
theorem pN_neq_p_depot_Depot (xo yo : Operand) (p : Option Addr) : pN Tryz.prog (oBin .neq 31 xo yo (.pointer p) (.pointer none)) w K = K (.bool (!p.isNone)) w := pN_neq_ptr 31 xo yo p Tryz.underlying31
theorem pA_neq_p_depot_Depot (xo yo : Operand) (p : Option Addr) : pA Tryz.prog (oBin .neq 31 xo yo (.pointer p) (.pointer none)) J = J (.bool (!p.isNone)) := pA_neq_ptr 31 xo yo p Tryz.underlying31
theorem pN_eqlb_bool (xo yo : Operand) (p q : Bool) : pN Tryz.prog (oBin .eql 4 xo yo (.bool p) (.bool q)) w K = K (.bool (p == q)) w := pN_eql_bool 4 xo yo p q Tryz.underlying4
theorem pA_eqlb_bool (xo yo : Operand) (p q : Bool) : pA Tryz.prog (oBin .eql 4 xo yo (.bool p) (.bool q)) J = J (.bool (p == q)) := pA_eql_bool 4 xo yo p q Tryz.underlying4
theorem pN_neqb_bool (xo yo : Operand) (p q : Bool) : pN Tryz.prog (oBin .neq 4 xo yo (.bool p) (.bool q)) w K = K (.bool (p != q)) w := pN_neq_bool 4 xo yo p q Tryz.underlying4
theorem pA_neqb_bool (xo yo : Operand) (p q : Bool) : pA Tryz.prog (oBin .neq 4 xo yo (.bool p) (.bool q)) J = J (.bool (p != q)) := pA_neq_bool 4 xo yo p q Tryz.underlying4
theorem run_fld_api_Props_LC (b o : Nat) (w : World) : (oFld 23 (.pointer (some ⟨b, o, none⟩)) 0).run Tryz.prog w = .ok (.value (.pointer (some ⟨b, o, none⟩))) w := by kernel_rfl
theorem pN_fld_api_Props_LC (b o : Nat) : pN Tryz.prog (oFld 23 (.pointer (some ⟨b, o, none⟩)) 0) w K = K (.pointer (some ⟨b, o, none⟩)) w := by rw [pN_def, run_fld_api_Props_LC, rN_value]
theorem pA_fld_api_Props_LC (b o : Nat) : pA Tryz.prog (oFld 23 (.pointer (some ⟨b, o, none⟩)) 0) J = J (.pointer (some ⟨b, o, none⟩)) := by rw [pA_def, funext (run_fld_api_Props_LC b o), rA_value]
theorem run_fld_api_Props_LP (b o : Nat) (w : World) : (oFld 23 (.pointer (some ⟨b, o, none⟩)) 1).run Tryz.prog w = .ok (.value (.pointer (some ⟨b, o + 1, none⟩))) w := by kernel_rfl
theorem pN_fld_api_Props_LP (b o : Nat) : pN Tryz.prog (oFld 23 (.pointer (some ⟨b, o, none⟩)) 1) w K = K (.pointer (some ⟨b, o + 1, none⟩)) w := by rw [pN_def, run_fld_api_Props_LP, rN_value]
theorem pA_fld_api_Props_LP (b o : Nat) : pA Tryz.prog (oFld 23 (.pointer (some ⟨b, o, none⟩)) 1) J = J (.pointer (some ⟨b, o + 1, none⟩)) := by rw [pA_def, funext (run_fld_api_Props_LP b o), rA_value]
theorem run_fld_api_Props_PB (b o : Nat) (w : World) : (oFld 23 (.pointer (some ⟨b, o, none⟩)) 2).run Tryz.prog w = .ok (.value (.pointer (some ⟨b, o + 2, none⟩))) w := by kernel_rfl
theorem pN_fld_api_Props_PB (b o : Nat) : pN Tryz.prog (oFld 23 (.pointer (some ⟨b, o, none⟩)) 2) w K = K (.pointer (some ⟨b, o + 2, none⟩)) w := by rw [pN_def, run_fld_api_Props_PB, rN_value]
theorem pA_fld_api_Props_PB (b o : Nat) : pA Tryz.prog (oFld 23 (.pointer (some ⟨b, o, none⟩)) 2) J = J (.pointer (some ⟨b, o + 2, none⟩)) := by rw [pA_def, funext (run_fld_api_Props_PB b o), rA_value]
theorem run_fld_api_Config_Check (b o : Nat) (w : World) : (oFld 25 (.pointer (some ⟨b, o, none⟩)) 0).run Tryz.prog w = .ok (.value (.pointer (some ⟨b, o, none⟩))) w := by kernel_rfl
theorem pN_fld_api_Config_Check (b o : Nat) : pN Tryz.prog (oFld 25 (.pointer (some ⟨b, o, none⟩)) 0) w K = K (.pointer (some ⟨b, o, none⟩)) w := by rw [pN_def, run_fld_api_Config_Check, rN_value]
theorem pA_fld_api_Config_Check (b o : Nat) : pA Tryz.prog (oFld 25 (.pointer (some ⟨b, o, none⟩)) 0) J = J (.pointer (some ⟨b, o, none⟩)) := by rw [pA_def, funext (run_fld_api_Config_Check b o), rA_value]
theorem run_fld_api_Config_Delta (b o : Nat) (w : World) : (oFld 25 (.pointer (some ⟨b, o, none⟩)) 1).run Tryz.prog w = .ok (.value (.pointer (some ⟨b, o + 1, none⟩))) w := by kernel_rfl
theorem pN_fld_api_Config_Delta (b o : Nat) : pN Tryz.prog (oFld 25 (.pointer (some ⟨b, o, none⟩)) 1) w K = K (.pointer (some ⟨b, o + 1, none⟩)) w := by rw [pN_def, run_fld_api_Config_Delta, rN_value]
theorem pA_fld_api_Config_Delta (b o : Nat) : pA Tryz.prog (oFld 25 (.pointer (some ⟨b, o, none⟩)) 1) J = J (.pointer (some ⟨b, o + 1, none⟩)) := by rw [pA_def, funext (run_fld_api_Config_Delta b o), rA_value]
theorem run_fld_api_Config_Props (b o : Nat) (w : World) : (oFld 25 (.pointer (some ⟨b, o, none⟩)) 2).run Tryz.prog w = .ok (.value (.pointer (some ⟨b, o + 2, none⟩))) w := by kernel_rfl
theorem pN_fld_api_Config_Props (b o : Nat) : pN Tryz.prog (oFld 25 (.pointer (some ⟨b, o, none⟩)) 2) w K = K (.pointer (some ⟨b, o + 2, none⟩)) w := by rw [pN_def, run_fld_api_Config_Props, rN_value]
theorem pA_fld_api_Config_Props (b o : Nat) : pA Tryz.prog (oFld 25 (.pointer (some ⟨b, o, none⟩)) 2) J = J (.pointer (some ⟨b, o + 2, none⟩)) := by rw [pA_def, funext (run_fld_api_Config_Props b o), rA_value]
theorem run_fld_api_Config_Dict (b o : Nat) (w : World) : (oFld 25 (.pointer (some ⟨b, o, none⟩)) 3).run Tryz.prog w = .ok (.value (.pointer (some ⟨b, o + 5, none⟩))) w := by kernel_rfl
theorem pN_fld_api_Config_Dict (b o : Nat) : pN Tryz.prog (oFld 25 (.pointer (some ⟨b, o, none⟩)) 3) w K = K (.pointer (some ⟨b, o + 5, none⟩)) w := by rw [pN_def, run_fld_api_Config_Dict, rN_value]
theorem pA_fld_api_Config_Dict (b o : Nat) : pA Tryz.prog (oFld 25 (.pointer (some ⟨b, o, none⟩)) 3) J = J (.pointer (some ⟨b, o + 5, none⟩)) := by rw [pA_def, funext (run_fld_api_Config_Dict b o), rA_value]
theorem run_fld_api_Config_Block (b o : Nat) (w : World) : (oFld 25 (.pointer (some ⟨b, o, none⟩)) 4).run Tryz.prog w = .ok (.value (.pointer (some ⟨b, o + 6, none⟩))) w := by kernel_rfl
theorem pN_fld_api_Config_Block (b o : Nat) : pN Tryz.prog (oFld 25 (.pointer (some ⟨b, o, none⟩)) 4) w K = K (.pointer (some ⟨b, o + 6, none⟩)) w := by rw [pN_def, run_fld_api_Config_Block, rN_value]
theorem pA_fld_api_Config_Block (b o : Nat) : pA Tryz.prog (oFld 25 (.pointer (some ⟨b, o, none⟩)) 4) J = J (.pointer (some ⟨b, o + 6, none⟩)) := by rw [pA_def, funext (run_fld_api_Config_Block b o), rA_value]
theorem run_fld_api_Config_Mode (b o : Nat) (w : World) : (oFld 25 (.pointer (some ⟨b, o, none⟩)) 5).run Tryz.prog w = .ok (.value (.pointer (some ⟨b, o + 7, none⟩))) w := by kernel_rfl
theorem pN_fld_api_Config_Mode (b o : Nat) : pN Tryz.prog (oFld 25 (.pointer (some ⟨b, o, none⟩)) 5) w K = K (.pointer (some ⟨b, o + 7, none⟩)) w := by rw [pN_def, run_fld_api_Config_Mode, rN_value]
theorem pA_fld_api_Config_Mode (b o : Nat) : pA Tryz.prog (oFld 25 (.pointer (some ⟨b, o, none⟩)) 5) J = J (.pointer (some ⟨b, o + 7, none⟩)) := by rw [pA_def, funext (run_fld_api_Config_Mode b o), rA_value]
theorem run_fld_api_Cuts_Least (b o : Nat) (w : World) : (oFld 27 (.pointer (some ⟨b, o, none⟩)) 0).run Tryz.prog w = .ok (.value (.pointer (some ⟨b, o, none⟩))) w := by kernel_rfl
theorem pN_fld_api_Cuts_Least (b o : Nat) : pN Tryz.prog (oFld 27 (.pointer (some ⟨b, o, none⟩)) 0) w K = K (.pointer (some ⟨b, o, none⟩)) w := by rw [pN_def, run_fld_api_Cuts_Least, rN_value]
theorem pA_fld_api_Cuts_Least (b o : Nat) : pA Tryz.prog (oFld 27 (.pointer (some ⟨b, o, none⟩)) 0) J = J (.pointer (some ⟨b, o, none⟩)) := by rw [pA_def, funext (run_fld_api_Cuts_Least b o), rA_value]
theorem run_fld_api_Cuts_Most (b o : Nat) (w : World) : (oFld 27 (.pointer (some ⟨b, o, none⟩)) 1).run Tryz.prog w = .ok (.value (.pointer (some ⟨b, o + 1, none⟩))) w := by kernel_rfl
theorem pN_fld_api_Cuts_Most (b o : Nat) : pN Tryz.prog (oFld 27 (.pointer (some ⟨b, o, none⟩)) 1) w K = K (.pointer (some ⟨b, o + 1, none⟩)) w := by rw [pN_def, run_fld_api_Cuts_Most, rN_value]
theorem pA_fld_api_Cuts_Most (b o : Nat) : pA Tryz.prog (oFld 27 (.pointer (some ⟨b, o, none⟩)) 1) J = J (.pointer (some ⟨b, o + 1, none⟩)) := by rw [pA_def, funext (run_fld_api_Cuts_Most b o), rA_value]
theorem run_fld_api_Cuts_Bits (b o : Nat) (w : World) : (oFld 27 (.pointer (some ⟨b, o, none⟩)) 2).run Tryz.prog w = .ok (.value (.pointer (some ⟨b, o + 2, none⟩))) w := by kernel_rfl
theorem pN_fld_api_Cuts_Bits (b o : Nat) : pN Tryz.prog (oFld 27 (.pointer (some ⟨b, o, none⟩)) 2) w K = K (.pointer (some ⟨b, o + 2, none⟩)) w := by rw [pN_def, run_fld_api_Cuts_Bits, rN_value]
theorem pA_fld_api_Cuts_Bits (b o : Nat) : pA Tryz.prog (oFld 27 (.pointer (some ⟨b, o, none⟩)) 2) J = J (.pointer (some ⟨b, o + 2, none⟩)) := by rw [pA_def, funext (run_fld_api_Cuts_Bits b o), rA_value]
theorem run_fld_pithlaw36_Setup_C (b o : Nat) (w : World) : (oFld 29 (.pointer (some ⟨b, o, none⟩)) 0).run Tryz.prog w = .ok (.value (.pointer (some ⟨b, o, none⟩))) w := by kernel_rfl
theorem pN_fld_pithlaw36_Setup_C (b o : Nat) : pN Tryz.prog (oFld 29 (.pointer (some ⟨b, o, none⟩)) 0) w K = K (.pointer (some ⟨b, o, none⟩)) w := by rw [pN_def, run_fld_pithlaw36_Setup_C, rN_value]
theorem pA_fld_pithlaw36_Setup_C (b o : Nat) : pA Tryz.prog (oFld 29 (.pointer (some ⟨b, o, none⟩)) 0) J = J (.pointer (some ⟨b, o, none⟩)) := by rw [pA_def, funext (run_fld_pithlaw36_Setup_C b o), rA_value]
theorem run_fld_pithlaw36_Setup_K (b o : Nat) (w : World) : (oFld 29 (.pointer (some ⟨b, o, none⟩)) 1).run Tryz.prog w = .ok (.value (.pointer (some ⟨b, o + 8, none⟩))) w := by kernel_rfl
theorem pN_fld_pithlaw36_Setup_K (b o : Nat) : pN Tryz.prog (oFld 29 (.pointer (some ⟨b, o, none⟩)) 1) w K = K (.pointer (some ⟨b, o + 8, none⟩)) w := by rw [pN_def, run_fld_pithlaw36_Setup_K, rN_value]
theorem pA_fld_pithlaw36_Setup_K (b o : Nat) : pA Tryz.prog (oFld 29 (.pointer (some ⟨b, o, none⟩)) 1) J = J (.pointer (some ⟨b, o + 8, none⟩)) := by rw [pA_def, funext (run_fld_pithlaw36_Setup_K b o), rA_value]
theorem run_fld_api_Item_Name (b o : Nat) (w : World) : (oFld 49 (.pointer (some ⟨b, o, none⟩)) 0).run Tryz.prog w = .ok (.value (.pointer (some ⟨b, o, none⟩))) w := by kernel_rfl
theorem pN_fld_api_Item_Name (b o : Nat) : pN Tryz.prog (oFld 49 (.pointer (some ⟨b, o, none⟩)) 0) w K = K (.pointer (some ⟨b, o, none⟩)) w := by rw [pN_def, run_fld_api_Item_Name, rN_value]
theorem pA_fld_api_Item_Name (b o : Nat) : pA Tryz.prog (oFld 49 (.pointer (some ⟨b, o, none⟩)) 0) J = J (.pointer (some ⟨b, o, none⟩)) := by rw [pA_def, funext (run_fld_api_Item_Name b o), rA_value]
theorem run_fld_api_Item_Link (b o : Nat) (w : World) : (oFld 49 (.pointer (some ⟨b, o, none⟩)) 1).run Tryz.prog w = .ok (.value (.pointer (some ⟨b, o + 1, none⟩))) w := by kernel_rfl
theorem pN_fld_api_Item_Link (b o : Nat) : pN Tryz.prog (oFld 49 (.pointer (some ⟨b, o, none⟩)) 1) w K = K (.pointer (some ⟨b, o + 1, none⟩)) w := by rw [pN_def, run_fld_api_Item_Link, rN_value]
theorem pA_fld_api_Item_Link (b o : Nat) : pA Tryz.prog (oFld 49 (.pointer (some ⟨b, o, none⟩)) 1) J = J (.pointer (some ⟨b, o + 1, none⟩)) := by rw [pA_def, funext (run_fld_api_Item_Link b o), rA_value]
theorem run_fld_api_Item_Kind (b o : Nat) (w : World) : (oFld 49 (.pointer (some ⟨b, o, none⟩)) 2).run Tryz.prog w = .ok (.value (.pointer (some ⟨b, o + 2, none⟩))) w := by kernel_rfl
theorem pN_fld_api_Item_Kind (b o : Nat) : pN Tryz.prog (oFld 49 (.pointer (some ⟨b, o, none⟩)) 2) w K = K (.pointer (some ⟨b, o + 2, none⟩)) w := by rw [pN_def, run_fld_api_Item_Kind, rN_value]
theorem pA_fld_api_Item_Kind (b o : Nat) : pA Tryz.prog (oFld 49 (.pointer (some ⟨b, o, none⟩)) 2) J = J (.pointer (some ⟨b, o + 2, none⟩)) := by rw [pA_def, funext (run_fld_api_Item_Kind b o), rA_value]
theorem run_fld_api_Item_Mode (b o : Nat) (w : World) : (oFld 49 (.pointer (some ⟨b, o, none⟩)) 3).run Tryz.prog w = .ok (.value (.pointer (some ⟨b, o + 3, none⟩))) w := by kernel_rfl
theorem pN_fld_api_Item_Mode (b o : Nat) : pN Tryz.prog (oFld 49 (.pointer (some ⟨b, o, none⟩)) 3) w K = K (.pointer (some ⟨b, o + 3, none⟩)) w := by rw [pN_def, run_fld_api_Item_Mode, rN_value]
theorem pA_fld_api_Item_Mode (b o : Nat) : pA Tryz.prog (oFld 49 (.pointer (some ⟨b, o, none⟩)) 3) J = J (.pointer (some ⟨b, o + 3, none⟩)) := by rw [pA_def, funext (run_fld_api_Item_Mode b o), rA_value]
theorem run_fld_api_Item_Time (b o : Nat) (w : World) : (oFld 49 (.pointer (some ⟨b, o, none⟩)) 4).run Tryz.prog w = .ok (.value (.pointer (some ⟨b, o + 4, none⟩))) w := by kernel_rfl
theorem pN_fld_api_Item_Time (b o : Nat) : pN Tryz.prog (oFld 49 (.pointer (some ⟨b, o, none⟩)) 4) w K = K (.pointer (some ⟨b, o + 4, none⟩)) w := by rw [pN_def, run_fld_api_Item_Time, rN_value]
theorem pA_fld_api_Item_Time (b o : Nat) : pA Tryz.prog (oFld 49 (.pointer (some ⟨b, o, none⟩)) 4) J = J (.pointer (some ⟨b, o + 4, none⟩)) := by rw [pA_def, funext (run_fld_api_Item_Time b o), rA_value]
theorem run_fld_api_Item_Data (b o : Nat) (w : World) : (oFld 49 (.pointer (some ⟨b, o, none⟩)) 5).run Tryz.prog w = .ok (.value (.pointer (some ⟨b, o + 5, none⟩))) w := by kernel_rfl
theorem pN_fld_api_Item_Data (b o : Nat) : pN Tryz.prog (oFld 49 (.pointer (some ⟨b, o, none⟩)) 5) w K = K (.pointer (some ⟨b, o + 5, none⟩)) w := by rw [pN_def, run_fld_api_Item_Data, rN_value]
theorem pA_fld_api_Item_Data (b o : Nat) : pA Tryz.prog (oFld 49 (.pointer (some ⟨b, o, none⟩)) 5) J = J (.pointer (some ⟨b, o + 5, none⟩)) := by rw [pA_def, funext (run_fld_api_Item_Data b o), rA_value]
theorem run_fld_snap_entry_Item (b o : Nat) (w : World) : (oFld 118 (.pointer (some ⟨b, o, none⟩)) 0).run Tryz.prog w = .ok (.value (.pointer (some ⟨b, o, none⟩))) w := by kernel_rfl
theorem pN_fld_snap_entry_Item (b o : Nat) : pN Tryz.prog (oFld 118 (.pointer (some ⟨b, o, none⟩)) 0) w K = K (.pointer (some ⟨b, o, none⟩)) w := by rw [pN_def, run_fld_snap_entry_Item, rN_value]
theorem pA_fld_snap_entry_Item (b o : Nat) : pA Tryz.prog (oFld 118 (.pointer (some ⟨b, o, none⟩)) 0) J = J (.pointer (some ⟨b, o, none⟩)) := by rw [pA_def, funext (run_fld_snap_entry_Item b o), rA_value]
theorem run_fld_snap_entry_sums (b o : Nat) (w : World) : (oFld 118 (.pointer (some ⟨b, o, none⟩)) 1).run Tryz.prog w = .ok (.value (.pointer (some ⟨b, o + 6, none⟩))) w := by kernel_rfl
theorem pN_fld_snap_entry_sums (b o : Nat) : pN Tryz.prog (oFld 118 (.pointer (some ⟨b, o, none⟩)) 1) w K = K (.pointer (some ⟨b, o + 6, none⟩)) w := by rw [pN_def, run_fld_snap_entry_sums, rN_value]
theorem pA_fld_snap_entry_sums (b o : Nat) : pA Tryz.prog (oFld 118 (.pointer (some ⟨b, o, none⟩)) 1) J = J (.pointer (some ⟨b, o + 6, none⟩)) := by rw [pA_def, funext (run_fld_snap_entry_sums b o), rA_value]
theorem run_fld_depot_Depot_k (b o : Nat) (w : World) : (oFld 129 (.pointer (some ⟨b, o, none⟩)) 1).run Tryz.prog w = .ok (.value (.pointer (some ⟨b, o + 8, none⟩))) w := by kernel_rfl
theorem pN_fld_depot_Depot_k (b o : Nat) : pN Tryz.prog (oFld 129 (.pointer (some ⟨b, o, none⟩)) 1) w K = K (.pointer (some ⟨b, o + 8, none⟩)) w := by rw [pN_def, run_fld_depot_Depot_k, rN_value]
theorem pA_fld_depot_Depot_k (b o : Nat) : pA Tryz.prog (oFld 129 (.pointer (some ⟨b, o, none⟩)) 1) J = J (.pointer (some ⟨b, o + 8, none⟩)) := by rw [pA_def, funext (run_fld_depot_Depot_k b o), rA_value]
theorem run_fld_depot_Depot_pieces (b o : Nat) (w : World) : (oFld 129 (.pointer (some ⟨b, o, none⟩)) 2).run Tryz.prog w = .ok (.value (.pointer (some ⟨b, o + 11, none⟩))) w := by kernel_rfl
theorem pN_fld_depot_Depot_pieces (b o : Nat) : pN Tryz.prog (oFld 129 (.pointer (some ⟨b, o, none⟩)) 2) w K = K (.pointer (some ⟨b, o + 11, none⟩)) w := by rw [pN_def, run_fld_depot_Depot_pieces, rN_value]
theorem pA_fld_depot_Depot_pieces (b o : Nat) : pA Tryz.prog (oFld 129 (.pointer (some ⟨b, o, none⟩)) 2) J = J (.pointer (some ⟨b, o + 11, none⟩)) := by rw [pA_def, funext (run_fld_depot_Depot_pieces b o), rA_value]
theorem run_fld_depot_Depot_names (b o : Nat) (w : World) : (oFld 129 (.pointer (some ⟨b, o, none⟩)) 3).run Tryz.prog w = .ok (.value (.pointer (some ⟨b, o + 12, none⟩))) w := by kernel_rfl
theorem pN_fld_depot_Depot_names (b o : Nat) : pN Tryz.prog (oFld 129 (.pointer (some ⟨b, o, none⟩)) 3) w K = K (.pointer (some ⟨b, o + 12, none⟩)) w := by rw [pN_def, run_fld_depot_Depot_names, rN_value]
theorem pA_fld_depot_Depot_names (b o : Nat) : pA Tryz.prog (oFld 129 (.pointer (some ⟨b, o, none⟩)) 3) J = J (.pointer (some ⟨b, o + 12, none⟩)) := by rw [pA_def, funext (run_fld_depot_Depot_names b o), rA_value]
theorem run_fld_tar_head_Item (b o : Nat) (w : World) : (oFld 165 (.pointer (some ⟨b, o, none⟩)) 0).run Tryz.prog w = .ok (.value (.pointer (some ⟨b, o, none⟩))) w := by kernel_rfl
theorem pN_fld_tar_head_Item (b o : Nat) : pN Tryz.prog (oFld 165 (.pointer (some ⟨b, o, none⟩)) 0) w K = K (.pointer (some ⟨b, o, none⟩)) w := by rw [pN_def, run_fld_tar_head_Item, rN_value]
theorem pA_fld_tar_head_Item (b o : Nat) : pA Tryz.prog (oFld 165 (.pointer (some ⟨b, o, none⟩)) 0) J = J (.pointer (some ⟨b, o, none⟩)) := by rw [pA_def, funext (run_fld_tar_head_Item b o), rA_value]
theorem run_fld_tar_head_size (b o : Nat) (w : World) : (oFld 165 (.pointer (some ⟨b, o, none⟩)) 1).run Tryz.prog w = .ok (.value (.pointer (some ⟨b, o + 6, none⟩))) w := by kernel_rfl
theorem pN_fld_tar_head_size (b o : Nat) : pN Tryz.prog (oFld 165 (.pointer (some ⟨b, o, none⟩)) 1) w K = K (.pointer (some ⟨b, o + 6, none⟩)) w := by rw [pN_def, run_fld_tar_head_size, rN_value]
theorem pA_fld_tar_head_size (b o : Nat) : pA Tryz.prog (oFld 165 (.pointer (some ⟨b, o, none⟩)) 1) J = J (.pointer (some ⟨b, o + 6, none⟩)) := by rw [pA_def, funext (run_fld_tar_head_size b o), rA_value]
theorem run_fld_tar_field_at (b o : Nat) (w : World) : (oFld 210 (.pointer (some ⟨b, o, none⟩)) 0).run Tryz.prog w = .ok (.value (.pointer (some ⟨b, o, none⟩))) w := by kernel_rfl
theorem pN_fld_tar_field_at (b o : Nat) : pN Tryz.prog (oFld 210 (.pointer (some ⟨b, o, none⟩)) 0) w K = K (.pointer (some ⟨b, o, none⟩)) w := by rw [pN_def, run_fld_tar_field_at, rN_value]
theorem pA_fld_tar_field_at (b o : Nat) : pA Tryz.prog (oFld 210 (.pointer (some ⟨b, o, none⟩)) 0) J = J (.pointer (some ⟨b, o, none⟩)) := by rw [pA_def, funext (run_fld_tar_field_at b o), rA_value]
theorem run_fld_tar_field_n (b o : Nat) (w : World) : (oFld 210 (.pointer (some ⟨b, o, none⟩)) 1).run Tryz.prog w = .ok (.value (.pointer (some ⟨b, o + 1, none⟩))) w := by kernel_rfl
theorem pN_fld_tar_field_n (b o : Nat) : pN Tryz.prog (oFld 210 (.pointer (some ⟨b, o, none⟩)) 1) w K = K (.pointer (some ⟨b, o + 1, none⟩)) w := by rw [pN_def, run_fld_tar_field_n, rN_value]
theorem pA_fld_tar_field_n (b o : Nat) : pA Tryz.prog (oFld 210 (.pointer (some ⟨b, o, none⟩)) 1) J = J (.pointer (some ⟨b, o + 1, none⟩)) := by rw [pA_def, funext (run_fld_tar_field_n b o), rA_value]
theorem run_fld_tar_field_write (b o : Nat) (w : World) : (oFld 210 (.pointer (some ⟨b, o, none⟩)) 2).run Tryz.prog w = .ok (.value (.pointer (some ⟨b, o + 2, none⟩))) w := by kernel_rfl
theorem pN_fld_tar_field_write (b o : Nat) : pN Tryz.prog (oFld 210 (.pointer (some ⟨b, o, none⟩)) 2) w K = K (.pointer (some ⟨b, o + 2, none⟩)) w := by rw [pN_def, run_fld_tar_field_write, rN_value]
theorem pA_fld_tar_field_write (b o : Nat) : pA Tryz.prog (oFld 210 (.pointer (some ⟨b, o, none⟩)) 2) J = J (.pointer (some ⟨b, o + 2, none⟩)) := by rw [pA_def, funext (run_fld_tar_field_write b o), rA_value]
theorem run_fld_sha_Hash_state (b o : Nat) (w : World) : (oFld 217 (.pointer (some ⟨b, o, none⟩)) 0).run Tryz.prog w = .ok (.value (.pointer (some ⟨b, o, none⟩))) w := by kernel_rfl
theorem pN_fld_sha_Hash_state (b o : Nat) : pN Tryz.prog (oFld 217 (.pointer (some ⟨b, o, none⟩)) 0) w K = K (.pointer (some ⟨b, o, none⟩)) w := by rw [pN_def, run_fld_sha_Hash_state, rN_value]
theorem pA_fld_sha_Hash_state (b o : Nat) : pA Tryz.prog (oFld 217 (.pointer (some ⟨b, o, none⟩)) 0) J = J (.pointer (some ⟨b, o, none⟩)) := by rw [pA_def, funext (run_fld_sha_Hash_state b o), rA_value]
theorem run_fld_sha_Hash_block (b o : Nat) (w : World) : (oFld 217 (.pointer (some ⟨b, o, none⟩)) 1).run Tryz.prog w = .ok (.value (.pointer (some ⟨b, o + 8, none⟩))) w := by kernel_rfl
theorem pN_fld_sha_Hash_block (b o : Nat) : pN Tryz.prog (oFld 217 (.pointer (some ⟨b, o, none⟩)) 1) w K = K (.pointer (some ⟨b, o + 8, none⟩)) w := by rw [pN_def, run_fld_sha_Hash_block, rN_value]
theorem pA_fld_sha_Hash_block (b o : Nat) : pA Tryz.prog (oFld 217 (.pointer (some ⟨b, o, none⟩)) 1) J = J (.pointer (some ⟨b, o + 8, none⟩)) := by rw [pA_def, funext (run_fld_sha_Hash_block b o), rA_value]
theorem run_fld_sha_Hash_n (b o : Nat) (w : World) : (oFld 217 (.pointer (some ⟨b, o, none⟩)) 2).run Tryz.prog w = .ok (.value (.pointer (some ⟨b, o + 72, none⟩))) w := by kernel_rfl
theorem pN_fld_sha_Hash_n (b o : Nat) : pN Tryz.prog (oFld 217 (.pointer (some ⟨b, o, none⟩)) 2) w K = K (.pointer (some ⟨b, o + 72, none⟩)) w := by rw [pN_def, run_fld_sha_Hash_n, rN_value]
theorem pA_fld_sha_Hash_n (b o : Nat) : pA Tryz.prog (oFld 217 (.pointer (some ⟨b, o, none⟩)) 2) J = J (.pointer (some ⟨b, o + 72, none⟩)) := by rw [pA_def, funext (run_fld_sha_Hash_n b o), rA_value]
theorem run_fld_snap_reader_b (b o : Nat) (w : World) : (oFld 224 (.pointer (some ⟨b, o, none⟩)) 0).run Tryz.prog w = .ok (.value (.pointer (some ⟨b, o, none⟩))) w := by kernel_rfl
theorem pN_fld_snap_reader_b (b o : Nat) : pN Tryz.prog (oFld 224 (.pointer (some ⟨b, o, none⟩)) 0) w K = K (.pointer (some ⟨b, o, none⟩)) w := by rw [pN_def, run_fld_snap_reader_b, rN_value]
theorem pA_fld_snap_reader_b (b o : Nat) : pA Tryz.prog (oFld 224 (.pointer (some ⟨b, o, none⟩)) 0) J = J (.pointer (some ⟨b, o, none⟩)) := by rw [pA_def, funext (run_fld_snap_reader_b b o), rA_value]
theorem run_fld_cdc_roll_c (b o : Nat) (w : World) : (oFld 230 (.pointer (some ⟨b, o, none⟩)) 0).run Tryz.prog w = .ok (.value (.pointer (some ⟨b, o, none⟩))) w := by kernel_rfl
theorem pN_fld_cdc_roll_c (b o : Nat) : pN Tryz.prog (oFld 230 (.pointer (some ⟨b, o, none⟩)) 0) w K = K (.pointer (some ⟨b, o, none⟩)) w := by rw [pN_def, run_fld_cdc_roll_c, rN_value]
theorem pA_fld_cdc_roll_c (b o : Nat) : pA Tryz.prog (oFld 230 (.pointer (some ⟨b, o, none⟩)) 0) J = J (.pointer (some ⟨b, o, none⟩)) := by rw [pA_def, funext (run_fld_cdc_roll_c b o), rA_value]
theorem run_fld_cdc_roll_sum (b o : Nat) (w : World) : (oFld 230 (.pointer (some ⟨b, o, none⟩)) 1).run Tryz.prog w = .ok (.value (.pointer (some ⟨b, o + 3, none⟩))) w := by kernel_rfl
theorem pN_fld_cdc_roll_sum (b o : Nat) : pN Tryz.prog (oFld 230 (.pointer (some ⟨b, o, none⟩)) 1) w K = K (.pointer (some ⟨b, o + 3, none⟩)) w := by rw [pN_def, run_fld_cdc_roll_sum, rN_value]
theorem pA_fld_cdc_roll_sum (b o : Nat) : pA Tryz.prog (oFld 230 (.pointer (some ⟨b, o, none⟩)) 1) J = J (.pointer (some ⟨b, o + 3, none⟩)) := by rw [pA_def, funext (run_fld_cdc_roll_sum b o), rA_value]
theorem run_fld_cdc_roll_n (b o : Nat) (w : World) : (oFld 230 (.pointer (some ⟨b, o, none⟩)) 2).run Tryz.prog w = .ok (.value (.pointer (some ⟨b, o + 4, none⟩))) w := by kernel_rfl
theorem pN_fld_cdc_roll_n (b o : Nat) : pN Tryz.prog (oFld 230 (.pointer (some ⟨b, o, none⟩)) 2) w K = K (.pointer (some ⟨b, o + 4, none⟩)) w := by rw [pN_def, run_fld_cdc_roll_n, rN_value]
theorem pA_fld_cdc_roll_n (b o : Nat) : pA Tryz.prog (oFld 230 (.pointer (some ⟨b, o, none⟩)) 2) J = J (.pointer (some ⟨b, o + 4, none⟩)) := by rw [pA_def, funext (run_fld_cdc_roll_n b o), rA_value]
theorem call_pithlaw36_SnapLists_c1 (args : Array Value) (w : World) : (callFunc 26 args).run Tryz.prog w = .ok (.enter 26 args) w := Tryz.call26 args w
theorem call_snap_itemName (args : Array Value) (w : World) : (callFunc 58 args).run Tryz.prog w = .ok (.enter 58 args) w := Tryz.call58 args w
theorem call_snap_Find_c1 (args : Array Value) (w : World) : (callFunc 73 args).run Tryz.prog w = .ok (.enter 73 args) w := Tryz.call73 args w
theorem call_snap_byName_api_Item__c1 (args : Array Value) (w : World) : (callFunc 97 args).run Tryz.prog w = .ok (.enter 97 args) w := Tryz.call97 args w
theorem call_snap_read_c1 (args : Array Value) (w : World) : (callFunc 129 args).run Tryz.prog w = .ok (.enter 129 args) w := Tryz.call129 args w
theorem call_cdc_ends_c1 (args : Array Value) (w : World) : (callFunc 133 args).run Tryz.prog w = .ok (.enter 133 args) w := Tryz.call133 args w
theorem call_tar_fields_c1 (args : Array Value) (w : World) : (callFunc 155 args).run Tryz.prog w = .ok (.enter 155 args) w := Tryz.call155 args w
theorem call_tar_fields_c3 (args : Array Value) (w : World) : (callFunc 158 args).run Tryz.prog w = .ok (.enter 158 args) w := Tryz.call158 args w
theorem call_tar_none (args : Array Value) (w : World) : (callFunc 162 args).run Tryz.prog w = .ok (.enter 162 args) w := Tryz.call162 args w
theorem call_tar_fields_c5 (args : Array Value) (w : World) : (callFunc 163 args).run Tryz.prog w = .ok (.enter 163 args) w := Tryz.call163 args w
theorem call_tar_fields_c7 (args : Array Value) (w : World) : (callFunc 165 args).run Tryz.prog w = .ok (.enter 165 args) w := Tryz.call165 args w
theorem call_tar_fields_c9 (args : Array Value) (w : World) : (callFunc 167 args).run Tryz.prog w = .ok (.enter 167 args) w := Tryz.call167 args w
theorem call_tar_fields_c11 (args : Array Value) (w : World) : (callFunc 169 args).run Tryz.prog w = .ok (.enter 169 args) w := Tryz.call169 args w
theorem call_tar_fields_c13 (args : Array Value) (w : World) : (callFunc 171 args).run Tryz.prog w = .ok (.enter 171 args) w := Tryz.call171 args w
theorem call_tar_fields_c14 (args : Array Value) (w : World) : (callFunc 172 args).run Tryz.prog w = .ok (.enter 172 args) w := Tryz.call172 args w
attribute [local irreducible] pN oCall oCallV
theorem pc_pithlaw36_begin {args : List Value} (h : Calls Tryz.prog 8 args.toArray w (retP K)) : pN Tryz.prog (oCall 8 args) w K := pN_callQ (f := 8) Tryz.call8 h
theorem pc_pithlaw36_right {args : List Value} (h : Calls Tryz.prog 9 args.toArray w (retP K)) : pN Tryz.prog (oCall 9 args) w K := pN_callQ (f := 9) Tryz.call9 h
theorem pc_pithlaw36_collide {args : List Value} (h : Calls Tryz.prog 10 args.toArray w (retP K)) : pN Tryz.prog (oCall 10 args) w K := pN_callQ (f := 10) Tryz.call10 h
theorem pc_pithlaw36_known {args : List Value} (h : Calls Tryz.prog 11 args.toArray w (retP K)) : pN Tryz.prog (oCall 11 args) w K := pN_callQ (f := 11) Tryz.call11 h
theorem pc_pithlaw36_num {args : List Value} (h : Calls Tryz.prog 12 args.toArray w (retP K)) : pN Tryz.prog (oCall 12 args) w K := pN_callQ (f := 12) Tryz.call12 h
theorem pc_snap_Save {args : List Value} (h : Calls Tryz.prog 13 args.toArray w (retP K)) : pN Tryz.prog (oCall 13 args) w K := pN_callQ (f := 13) Tryz.call13 h
theorem pc_snap_Diff {args : List Value} (h : Calls Tryz.prog 14 args.toArray w (retP K)) : pN Tryz.prog (oCall 14 args) w K := pN_callQ (f := 14) Tryz.call14 h
theorem pc_pithlaw36_same {args : List Value} (h : Calls Tryz.prog 15 args.toArray w (retP K)) : pN Tryz.prog (oCall 15 args) w K := pN_callQ (f := 15) Tryz.call15 h
theorem pc_depot_Depot_Put {args : List Value} (h : Calls Tryz.prog 16 args.toArray w (retP K)) : pN Tryz.prog (oCall 16 args) w K := pN_callQ (f := 16) Tryz.call16 h
theorem pc_snap_Needs {args : List Value} (h : Calls Tryz.prog 17 args.toArray w (retP K)) : pN Tryz.prog (oCall 17 args) w K := pN_callQ (f := 17) Tryz.call17 h
theorem pc_depot_Depot_Has {args : List Value} (h : Calls Tryz.prog 18 args.toArray w (retP K)) : pN Tryz.prog (oCall 18 args) w K := pN_callQ (f := 18) Tryz.call18 h
theorem pc_pithlaw36_sorted {args : List Value} (h : Calls Tryz.prog 21 args.toArray w (retP K)) : pN Tryz.prog (oCall 21 args) w K := pN_callQ (f := 21) Tryz.call21 h
theorem pc_pithlaw36_sameIDs {args : List Value} (h : Calls Tryz.prog 22 args.toArray w (retP K)) : pN Tryz.prog (oCall 22 args) w K := pN_callQ (f := 22) Tryz.call22 h
theorem pc_snap_Items {args : List Value} (h : Calls Tryz.prog 24 args.toArray w (retP K)) : pN Tryz.prog (oCall 24 args) w K := pN_callQ (f := 24) Tryz.call24 h
theorem pc_tar_Write {args : List Value} (h : Calls Tryz.prog 25 args.toArray w (retP K)) : pN Tryz.prog (oCall 25 args) w K := pN_callQ (f := 25) Tryz.call25 h
theorem pc_pithlaw36_sameAll {args : List Value} (h : Calls Tryz.prog 27 args.toArray w (retP K)) : pN Tryz.prog (oCall 27 args) w K := pN_callQ (f := 27) Tryz.call27 h
theorem pc_snap_Find {args : List Value} (h : Calls Tryz.prog 28 args.toArray w (retP K)) : pN Tryz.prog (oCall 28 args) w K := pN_callQ (f := 28) Tryz.call28 h
theorem pc_snap_Tar {args : List Value} (h : Calls Tryz.prog 29 args.toArray w (retP K)) : pN Tryz.prog (oCall 29 args) w K := pN_callQ (f := 29) Tryz.call29 h
theorem pc_snap_List {args : List Value} (h : Calls Tryz.prog 30 args.toArray w (retP K)) : pN Tryz.prog (oCall 30 args) w K := pN_callQ (f := 30) Tryz.call30 h
theorem pc_pithlaw36_tail {args : List Value} (h : Calls Tryz.prog 31 args.toArray w (retP K)) : pN Tryz.prog (oCall 31 args) w K := pN_callQ (f := 31) Tryz.call31 h
theorem pc_pithlaw36_sameChanges {args : List Value} (h : Calls Tryz.prog 32 args.toArray w (retP K)) : pN Tryz.prog (oCall 32 args) w K := pN_callQ (f := 32) Tryz.call32 h
theorem pc_pithlaw36_sameNames {args : List Value} (h : Calls Tryz.prog 33 args.toArray w (retP K)) : pN Tryz.prog (oCall 33 args) w K := pN_callQ (f := 33) Tryz.call33 h
theorem pc_depot_New {args : List Value} (h : Calls Tryz.prog 48 args.toArray w (retP K)) : pN Tryz.prog (oCall 48 args) w K := pN_callQ (f := 48) Tryz.call48 h
theorem pc_tar_Put {args : List Value} (h : Calls Tryz.prog 49 args.toArray w (retP K)) : pN Tryz.prog (oCall 49 args) w K := pN_callQ (f := 49) Tryz.call49 h
theorem pc_pithlaw36_pieces {args : List Value} (h : Calls Tryz.prog 50 args.toArray w (retP K)) : pN Tryz.prog (oCall 50 args) w K := pN_callQ (f := 50) Tryz.call50 h
theorem pc_pithlaw36_listed {args : List Value} (h : Calls Tryz.prog 51 args.toArray w (retP K)) : pN Tryz.prog (oCall 51 args) w K := pN_callQ (f := 51) Tryz.call51 h
theorem pc_sha_Sum {args : List Value} (h : Calls Tryz.prog 52 args.toArray w (retP K)) : pN Tryz.prog (oCall 52 args) w K := pN_callQ (f := 52) Tryz.call52 h
theorem pc_pithlaw36_usual {args : List Value} (h : Calls Tryz.prog 53 args.toArray w (retP K)) : pN Tryz.prog (oCall 53 args) w K := pN_callQ (f := 53) Tryz.call53 h
theorem pc_depot_Depot_Root {args : List Value} (h : Calls Tryz.prog 54 args.toArray w (retP K)) : pN Tryz.prog (oCall 54 args) w K := pN_callQ (f := 54) Tryz.call54 h
theorem pc_depot_Depot_Get {args : List Value} (h : Calls Tryz.prog 55 args.toArray w (retP K)) : pN Tryz.prog (oCall 55 args) w K := pN_callQ (f := 55) Tryz.call55 h
theorem pc_depot_Legal {args : List Value} (h : Calls Tryz.prog 56 args.toArray w (retP K)) : pN Tryz.prog (oCall 56 args) w K := pN_callQ (f := 56) Tryz.call56 h
theorem pc_snap_byName_api_Item_ {args : List Value} (h : Calls Tryz.prog 57 args.toArray w (retP K)) : pN Tryz.prog (oCall 57 args) w K := pN_callQ (f := 57) Tryz.call57 h
theorem pc_depot_Depot_Set {args : List Value} (h : Calls Tryz.prog 59 args.toArray w (retP K)) : pN Tryz.prog (oCall 59 args) w K := pN_callQ (f := 59) Tryz.call59 h
theorem pc_snap_write {args : List Value} (h : Calls Tryz.prog 60 args.toArray w (retP K)) : pN Tryz.prog (oCall 60 args) w K := pN_callQ (f := 60) Tryz.call60 h
theorem pc_snap_listed {args : List Value} (h : Calls Tryz.prog 61 args.toArray w (retP K)) : pN Tryz.prog (oCall 61 args) w K := pN_callQ (f := 61) Tryz.call61 h
theorem pc_snap_alike {args : List Value} (h : Calls Tryz.prog 62 args.toArray w (retP K)) : pN Tryz.prog (oCall 62 args) w K := pN_callQ (f := 62) Tryz.call62 h
theorem pc_cdc_Cut {args : List Value} (h : Calls Tryz.prog 63 args.toArray w (retP K)) : pN Tryz.prog (oCall 63 args) w K := pN_callQ (f := 63) Tryz.call63 h
theorem pc_slices_Clone___byte_byte_ {args : List Value} (h : Calls Tryz.prog 64 args.toArray w (retP K)) : pN Tryz.prog (oCall 64 args) w K := pN_callQ (f := 64) Tryz.call64 h
theorem pc_slices_Clone___api_ID_api_ID_ {args : List Value} (h : Calls Tryz.prog 65 args.toArray w (retP K)) : pN Tryz.prog (oCall 65 args) w K := pN_callQ (f := 65) Tryz.call65 h
theorem pc_slices_SortFunc___api_ID_api_ID_ {args : List Value} (h : Calls Tryz.prog 66 args.toArray w (retP K)) : pN Tryz.prog (oCall 66 args) w K := pN_callQ (f := 66) Tryz.call66 h
theorem pc_bytes_Compare {args : List Value} (h : Calls Tryz.prog 68 args.toArray w (retP K)) : pN Tryz.prog (oCall 68 args) w K := pN_callQ (f := 68) Tryz.call68 h
theorem pc_slices_Compact___api_ID_api_ID_ {args : List Value} (h : Calls Tryz.prog 69 args.toArray w (retP K)) : pN Tryz.prog (oCall 69 args) w K := pN_callQ (f := 69) Tryz.call69 h
theorem pc_snap_item {args : List Value} (h : Calls Tryz.prog 71 args.toArray w (retP K)) : pN Tryz.prog (oCall 71 args) w K := pN_callQ (f := 71) Tryz.call71 h
theorem pc_slices_IndexFunc___snap_entry_snap_entry_ {args : List Value} (h : Calls Tryz.prog 72 args.toArray w (retP K)) : pN Tryz.prog (oCall 72 args) w K := pN_callQ (f := 72) Tryz.call72 h
theorem pc_depot_Depot_Names {args : List Value} (h : Calls Tryz.prog 74 args.toArray w (retP K)) : pN Tryz.prog (oCall 74 args) w K := pN_callQ (f := 74) Tryz.call74 h
theorem pc_chain_Legal {args : List Value} (h : Calls Tryz.prog 86 args.toArray w (retP K)) : pN Tryz.prog (oCall 86 args) w K := pN_callQ (f := 86) Tryz.call86 h
theorem pc_cdc_Legal {args : List Value} (h : Calls Tryz.prog 87 args.toArray w (retP K)) : pN Tryz.prog (oCall 87 args) w K := pN_callQ (f := 87) Tryz.call87 h
theorem pc_tar_wrong {args : List Value} (h : Calls Tryz.prog 88 args.toArray w (retP K)) : pN Tryz.prog (oCall 88 args) w K := pN_callQ (f := 88) Tryz.call88 h
theorem pc_tar_header {args : List Value} (h : Calls Tryz.prog 89 args.toArray w (retP K)) : pN Tryz.prog (oCall 89 args) w K := pN_callQ (f := 89) Tryz.call89 h
theorem pc_tar_pad {args : List Value} (h : Calls Tryz.prog 90 args.toArray w (retP K)) : pN Tryz.prog (oCall 90 args) w K := pN_callQ (f := 90) Tryz.call90 h
theorem pc_pithlaw36_number {args : List Value} (h : Calls Tryz.prog 91 args.toArray w (retP K)) : pN Tryz.prog (oCall 91 args) w K := pN_callQ (f := 91) Tryz.call91 h
theorem pc_sha_New {args : List Value} (h : Calls Tryz.prog 92 args.toArray w (retP K)) : pN Tryz.prog (oCall 92 args) w K := pN_callQ (f := 92) Tryz.call92 h
theorem pc_sha_Hash_Write {args : List Value} (h : Calls Tryz.prog 93 args.toArray w (retP K)) : pN Tryz.prog (oCall 93 args) w K := pN_callQ (f := 93) Tryz.call93 h
theorem pc_sha_Hash_Sum {args : List Value} (h : Calls Tryz.prog 94 args.toArray w (retP K)) : pN Tryz.prog (oCall 94 args) w K := pN_callQ (f := 94) Tryz.call94 h
theorem pc_slices_Clone___api_Item_api_Item_ {args : List Value} (h : Calls Tryz.prog 95 args.toArray w (retP K)) : pN Tryz.prog (oCall 95 args) w K := pN_callQ (f := 95) Tryz.call95 h
theorem pc_slices_SortStableFunc___api_Item_api_Item_ {args : List Value} (h : Calls Tryz.prog 96 args.toArray w (retP K)) : pN Tryz.prog (oCall 96 args) w K := pN_callQ (f := 96) Tryz.call96 h
theorem pc_strings_Compare {args : List Value} (h : Calls Tryz.prog 98 args.toArray w (retP K)) : pN Tryz.prog (oCall 98 args) w K := pN_callQ (f := 98) Tryz.call98 h
theorem pc_snap_number {args : List Value} (h : Calls Tryz.prog 99 args.toArray w (retP K)) : pN Tryz.prog (oCall 99 args) w K := pN_callQ (f := 99) Tryz.call99 h
theorem pc_snap_text {args : List Value} (h : Calls Tryz.prog 100 args.toArray w (retP K)) : pN Tryz.prog (oCall 100 args) w K := pN_callQ (f := 100) Tryz.call100 h
theorem pc_snap_read {args : List Value} (h : Calls Tryz.prog 101 args.toArray w (retP K)) : pN Tryz.prog (oCall 101 args) w K := pN_callQ (f := 101) Tryz.call101 h
theorem pc_slices_Equal___api_ID_api_ID_ {args : List Value} (h : Calls Tryz.prog 102 args.toArray w (retP K)) : pN Tryz.prog (oCall 102 args) w K := pN_callQ (f := 102) Tryz.call102 h
theorem pc_cdc_ends {args : List Value} (h : Calls Tryz.prog 103 args.toArray w (retP K)) : pN Tryz.prog (oCall 103 args) w K := pN_callQ (f := 103) Tryz.call103 h
theorem pc_slices_Sort___string_string_ {args : List Value} (h : Calls Tryz.prog 107 args.toArray w (retP K)) : pN Tryz.prog (oCall 107 args) w K := pN_callQ (f := 107) Tryz.call107 h
theorem pc_state_PropsByte {args : List Value} (h : Calls Tryz.prog 119 args.toArray w (retP K)) : pN Tryz.prog (oCall 119 args) w K := pN_callQ (f := 119) Tryz.call119 h
theorem pc_tar_parted {args : List Value} (h : Calls Tryz.prog 120 args.toArray w (retP K)) : pN Tryz.prog (oCall 120 args) w K := pN_callQ (f := 120) Tryz.call120 h
theorem pc_strings_IndexByte {args : List Value} (h : Calls Tryz.prog 121 args.toArray w (retP K)) : pN Tryz.prog (oCall 121 args) w K := pN_callQ (f := 121) Tryz.call121 h
theorem pc_tar_fields {args : List Value} (h : Calls Tryz.prog 122 args.toArray w (retP K)) : pN Tryz.prog (oCall 122 args) w K := pN_callQ (f := 122) Tryz.call122 h
theorem pc_tar_sum {args : List Value} (h : Calls Tryz.prog 123 args.toArray w (retP K)) : pN Tryz.prog (oCall 123 args) w K := pN_callQ (f := 123) Tryz.call123 h
theorem pc_varint_Put {args : List Value} (h : Calls Tryz.prog 124 args.toArray w (retP K)) : pN Tryz.prog (oCall 124 args) w K := pN_callQ (f := 124) Tryz.call124 h
theorem pc_sha_Step {args : List Value} (h : Calls Tryz.prog 125 args.toArray w (retP K)) : pN Tryz.prog (oCall 125 args) w K := pN_callQ (f := 125) Tryz.call125 h
theorem pc_sha_Pad {args : List Value} (h : Calls Tryz.prog 126 args.toArray w (retP K)) : pN Tryz.prog (oCall 126 args) w K := pN_callQ (f := 126) Tryz.call126 h
theorem pc_slices_stableCmpFunc_api_Item_ {args : List Value} (h : Calls Tryz.prog 127 args.toArray w (retP K)) : pN Tryz.prog (oCall 127 args) w K := pN_callQ (f := 127) Tryz.call127 h
theorem pc_snap_reader_number {args : List Value} (h : Calls Tryz.prog 130 args.toArray w (retP K)) : pN Tryz.prog (oCall 130 args) w K := pN_callQ (f := 130) Tryz.call130 h
theorem pc_snap_reader_entry {args : List Value} (h : Calls Tryz.prog 131 args.toArray w (retP K)) : pN Tryz.prog (oCall 131 args) w K := pN_callQ (f := 131) Tryz.call131 h
theorem pc_snap_form {args : List Value} (h : Calls Tryz.prog 132 args.toArray w (retP K)) : pN Tryz.prog (oCall 132 args) w K := pN_callQ (f := 132) Tryz.call132 h
theorem pc_cdc_roll_eat {args : List Value} (h : Calls Tryz.prog 134 args.toArray w (retP K)) : pN Tryz.prog (oCall 134 args) w K := pN_callQ (f := 134) Tryz.call134 h
theorem pc_internal_stringslite_IndexByte {args : List Value} (h : Calls Tryz.prog 154 args.toArray w (retP K)) : pN Tryz.prog (oCall 154 args) w K := pN_callQ (f := 154) Tryz.call154 h
theorem pc_tar_octal {args : List Value} (h : Calls Tryz.prog 159 args.toArray w (retP K)) : pN Tryz.prog (oCall 159 args) w K := pN_callQ (f := 159) Tryz.call159 h
theorem pc_varint_Size {args : List Value} (h : Calls Tryz.prog 174 args.toArray w (retP K)) : pN Tryz.prog (oCall 174 args) w K := pN_callQ (f := 174) Tryz.call174 h
theorem pc_math_bits_RotateLeft32 {args : List Value} (h : Calls Tryz.prog 175 args.toArray w (retP K)) : pN Tryz.prog (oCall 175 args) w K := pN_callQ (f := 175) Tryz.call175 h
theorem pc_slices_insertionSortCmpFunc_api_Item_ {args : List Value} (h : Calls Tryz.prog 176 args.toArray w (retP K)) : pN Tryz.prog (oCall 176 args) w K := pN_callQ (f := 176) Tryz.call176 h
theorem pc_slices_symMergeCmpFunc_api_Item_ {args : List Value} (h : Calls Tryz.prog 177 args.toArray w (retP K)) : pN Tryz.prog (oCall 177 args) w K := pN_callQ (f := 177) Tryz.call177 h
theorem pc_varint_Get {args : List Value} (h : Calls Tryz.prog 179 args.toArray w (retP K)) : pN Tryz.prog (oCall 179 args) w K := pN_callQ (f := 179) Tryz.call179 h
theorem pc_snap_reader_take {args : List Value} (h : Calls Tryz.prog 180 args.toArray w (retP K)) : pN Tryz.prog (oCall 180 args) w K := pN_callQ (f := 180) Tryz.call180 h
theorem pc_snap_reader_text {args : List Value} (h : Calls Tryz.prog 181 args.toArray w (retP K)) : pN Tryz.prog (oCall 181 args) w K := pN_callQ (f := 181) Tryz.call181 h
theorem pc_cdc_Gear {args : List Value} (h : Calls Tryz.prog 182 args.toArray w (retP K)) : pN Tryz.prog (oCall 182 args) w K := pN_callQ (f := 182) Tryz.call182 h
theorem pc_slices_rotateCmpFunc_api_Item_ {args : List Value} (h : Calls Tryz.prog 207 args.toArray w (retP K)) : pN Tryz.prog (oCall 207 args) w K := pN_callQ (f := 207) Tryz.call207 h
theorem pc_slices_swapRangeCmpFunc_api_Item_ {args : List Value} (h : Calls Tryz.prog 219 args.toArray w (retP K)) : pN Tryz.prog (oCall 219 args) w K := pN_callQ (f := 219) Tryz.call219 h
end

attribute [go_sem] pN_conv_int_uint8 pA_conv_int_uint8 pL_conv_int_uint8 pN_conv_int_uint pA_conv_int_uint pL_conv_int_uint pN_conv_int_uint64 pA_conv_int_uint64 pL_conv_int_uint64 pN_conv_int_slices_xorshift pA_conv_int_slices_xorshift pL_conv_int_slices_xorshift pN_conv_uint8_int pA_conv_uint8_int pL_conv_uint8_int pN_conv_uint8_uint64 pA_conv_uint8_uint64 pL_conv_uint8_uint64 pN_conv_uint8_uint32 pA_conv_uint8_uint32 pL_conv_uint8_uint32 pN_conv_uint_int pA_conv_uint_int pL_conv_uint_int pN_conv_uint_uint32 pA_conv_uint_uint32 pL_conv_uint_uint32 pN_conv_uint64_int pA_conv_uint64_int pL_conv_uint64_int pN_conv_uint64_uint8 pA_conv_uint64_uint8 pL_conv_uint64_uint8 pN_conv_uint32_uint8 pA_conv_uint32_uint8 pL_conv_uint32_uint8 pN_len_sl_api_Item pA_len_sl_api_Item pN_len_sl_api_Change pA_len_sl_api_Change pN_len_sl_int pA_len_sl_int pN_len_sl_uint8 pA_len_sl_uint8 pN_len_sl_api_ID pA_len_sl_api_ID pN_len_sl_sl_uint8 pA_len_sl_sl_uint8 pN_len_sl_string pA_len_sl_string pN_len_sl_sl_api_Item pA_len_sl_sl_api_Item pN_len_sl_snap_entry pA_len_sl_snap_entry pN_len_sl_tar_field pA_len_sl_tar_field pN_aidx_arr32_uint8 pA_aidx_arr32_uint8 pN_aidx_arr8_uint32 pA_aidx_arr8_uint32 pN_aidx_arr64_uint8 pA_aidx_arr64_uint8 pN_aidx_arr64_uint32 pA_aidx_arr64_uint32 pN_eql_p_depot_Depot pA_eql_p_depot_Depot pN_neq_p_depot_Depot pA_neq_p_depot_Depot pN_eqlb_bool pA_eqlb_bool pN_neqb_bool pA_neqb_bool pN_fld_api_Props_LC pA_fld_api_Props_LC pN_fld_api_Props_LP pA_fld_api_Props_LP pN_fld_api_Props_PB pA_fld_api_Props_PB pN_fld_api_Config_Check pA_fld_api_Config_Check pN_fld_api_Config_Delta pA_fld_api_Config_Delta pN_fld_api_Config_Props pA_fld_api_Config_Props pN_fld_api_Config_Dict pA_fld_api_Config_Dict pN_fld_api_Config_Block pA_fld_api_Config_Block pN_fld_api_Config_Mode pA_fld_api_Config_Mode pN_fld_api_Cuts_Least pA_fld_api_Cuts_Least pN_fld_api_Cuts_Most pA_fld_api_Cuts_Most pN_fld_api_Cuts_Bits pA_fld_api_Cuts_Bits pN_fld_pithlaw36_Setup_C pA_fld_pithlaw36_Setup_C pN_fld_pithlaw36_Setup_K pA_fld_pithlaw36_Setup_K pN_fld_api_Item_Name pA_fld_api_Item_Name pN_fld_api_Item_Link pA_fld_api_Item_Link pN_fld_api_Item_Kind pA_fld_api_Item_Kind pN_fld_api_Item_Mode pA_fld_api_Item_Mode pN_fld_api_Item_Time pA_fld_api_Item_Time pN_fld_api_Item_Data pA_fld_api_Item_Data pN_fld_snap_entry_Item pA_fld_snap_entry_Item pN_fld_snap_entry_sums pA_fld_snap_entry_sums pN_fld_depot_Depot_k pA_fld_depot_Depot_k pN_fld_depot_Depot_pieces pA_fld_depot_Depot_pieces pN_fld_depot_Depot_names pA_fld_depot_Depot_names pN_fld_tar_head_Item pA_fld_tar_head_Item pN_fld_tar_head_size pA_fld_tar_head_size pN_fld_tar_field_at pA_fld_tar_field_at pN_fld_tar_field_n pA_fld_tar_field_n pN_fld_tar_field_write pA_fld_tar_field_write pN_fld_sha_Hash_state pA_fld_sha_Hash_state pN_fld_sha_Hash_block pA_fld_sha_Hash_block pN_fld_sha_Hash_n pA_fld_sha_Hash_n pN_fld_snap_reader_b pA_fld_snap_reader_b pN_fld_cdc_roll_c pA_fld_cdc_roll_c pN_fld_cdc_roll_sum pA_fld_cdc_roll_sum pN_fld_cdc_roll_n pA_fld_cdc_roll_n

end Go.Proofs.YtikmogfhhggafaaGreatDoor

namespace Go.Proofs.YtikmogfhhggafaaGreatDoor
open Go Go.RowKit Go.ChangeShapes Go.Deep

theorem bulk_pos {H : Type} (d : DataW H) : 1 ≤ Rows.uptoBulk d := by
  cases d with
  | lit l => cases l <;> simp [Rows.uptoBulk]
  | _ => simp [Rows.uptoBulk]
theorem bulk_mem {H : Type} {d : DataW H} : ∀ {l : List (DataW H)}, d ∈ l → Rows.uptoBulk d ≤ Rows.uptoBulkAll l
  | [], h => by cases h
  | x :: r, h => by
    simp only [Rows.uptoBulkAll]
    rcases List.mem_cons.1 h with rfl | h
    · omega
    · have := bulk_mem h; omega
theorem bulk_length {H : Type} : ∀ (l : List (DataW H)), l.length ≤ Rows.uptoBulkAll l
  | [] => by simp [Rows.uptoBulkAll]
  | x :: r => by have := bulk_pos x; have := bulk_length r; simp only [Rows.uptoBulkAll, List.length_cons]; omega
theorem bulk_small {H : Type} {ds : List (DataW H)} (h : Rows.uptoSmall H ds = true) : ∀ d ∈ ds, Rows.uptoBulk d ≤ 1048576 := by
  intro d hd
  have h1 : Rows.uptoBulkAll ds ≤ 1048576 := of_decide_eq_true h
  have := bulk_mem hd
  omega

theorem weights_all {H : Type} {P : Program} {e : TypeId} {d : DataW H} {n : Nat} : ∀ {l : List (DataW H)}, d ∈ l → n ∈ d.weights P e → n ∈ DataW.weightsAll P e l
  | [], h, _ => by cases h
  | x :: r, h, hn => by
    simp only [DataW.weightsAll, List.mem_append]
    rcases List.mem_cons.1 h with rfl | h
    · exact .inl hn
    · exact .inr (weights_all h hn)

structure Opn (P : Program) (W : World) (t : TypeId) {β : Type} (enc : β → List Value) (ok : β → Nat → Prop) : Prop where
  get : ∀ {H : Type} (en : TypeId × Value → H) (fuel : Nat) (cs : List Value) (x : DataW H × List MemPlace),
    DataW.trod en P W 0 (fun _ => true) true fuel t cs = some x → (∀ n ∈ x.1.weights P t, n ≤ reachBytes) → ∃ b, cs = enc b ∧ ok b (Rows.uptoBulk x.1)

section
variable {P : Program} {W : World} {t : TypeId}

theorem trod_pos {H : Type} {en : TypeId × Value → H} {fuel : Nat} {cs : List Value} {x : DataW H × List MemPlace} (h : DataW.trod en P W 0 (fun _ => true) true fuel t cs = some x) : ∃ n, fuel = n + 1 := by
  cases fuel with
  | zero => simp [DataW.trod] at h
  | succ n => exact ⟨n, rfl⟩

theorem opn_int {k : IntKind} (ht : P.underlying t = some (.int k)) : Opn P W t (fun n : Int => [.int k n]) (fun n _ => (Lit.int k n).wf = true) := by
  refine ⟨fun {H} en fuel cs x hx _ => ?_⟩
  obtain ⟨n, rfl⟩ := trod_pos hx
  unfold DataW.trod at hx
  rw [ht] at hx
  split at hx <;> simp_all
theorem Opn.mono {β : Type} {enc : β → List Value} {ok ok' : β → Nat → Prop} (h : Opn P W t enc ok) (hm : ∀ b k, ok b k → ok' b k) : Opn P W t enc ok' := by
  refine ⟨fun {H} en fuel cs x hx hw => ?_⟩
  obtain ⟨b, hb, hk⟩ := h.get en fuel cs x hx hw
  exact ⟨b, hb, hm _ _ hk⟩
theorem opn_i64 (ht : P.underlying t = some (.int .i64)) : Opn P W t (fun n : Int => [.int .i64 n]) (fun n _ => -9223372036854775808 ≤ n ∧ n < 9223372036854775808) :=
  Opn.mono (opn_int ht) fun n _ h => by
    simp [Lit.wf, IntKind.min, IntKind.max, IntKind.signed, IntKind.bits] at h
    omega
theorem opn_u8 (ht : P.underlying t = some (.int .u8)) : Opn P W t (fun n : UInt8 => [bv n]) (fun _ _ => True) := by
  refine ⟨fun {H} en fuel cs x hx hw => ?_⟩
  obtain ⟨n, rfl, h⟩ := (opn_int ht).get en fuel cs x hx hw
  simp [Lit.wf, IntKind.min, IntKind.max, IntKind.signed, IntKind.bits] at h
  refine ⟨UInt8.ofNat n.toNat, ?_, trivial⟩
  unfold bv
  simp only [UInt8.toNat_ofNat', List.cons.injEq, Value.int.injEq, true_and, and_true]
  omega
theorem opn_str (ht : P.underlying t = some .string) : Opn P W t (fun l : List UInt8 => [.string ⟨l.toArray⟩]) (fun l k => l.length ≤ reachBytes ∧ l.length + 1 ≤ k) := by
  refine ⟨fun {H} en fuel cs x hx hw => ?_⟩
  obtain ⟨n, rfl⟩ := trod_pos hx
  unfold DataW.trod at hx
  rw [ht] at hx
  split at hx <;> simp_all
  obtain ⟨_, rfl⟩ := hx
  rename_i s _
  refine ⟨s.data.toList, by simp, ?_, ?_⟩
  · simpa [DataW.weights] using hw
  · simp [Rows.uptoBulk]

theorem opn_slice {β : Type} {C : Cd β} {ok : β → Nat → Prop} (ht : P.underlying t = some (.slice C.e)) (hs : P.cellsOf C.e = C.size) (hb : P.bytesOf C.e = C.bytes) (h : Opn P W C.e C.enc ok) :
    Opn P W t (fun p : Sl × List β => [.slice p.1.a p.2.length p.1.c])
      (fun p k => RdP C (old W) p.1 p.2 ∧ p.2.length * C.bytes ≤ reachBytes ∧ p.2.length + 1 ≤ k ∧ ∀ b ∈ p.2, ∃ k', k' ≤ k ∧ ok b k') := by
  refine ⟨fun {H} en fuel cs x hx hw => ?_⟩
  rcases open_slice ht hx with ⟨rfl, rfl⟩ | ⟨a, len, cap, m, n, D, Pl, rfl, _, hl, hm, hmm, rfl, hel⟩
  · exact ⟨(⟨none, 0⟩, []), rfl, ⟨RdA.old Rd.nil⟩, by simp, by simp [Rows.uptoBulk], by simp⟩
  · simp only [if_true] at hmm
    subst hmm
    have hwt : ∀ i, i < len → ∀ n ∈ (D i).weights P C.e, n ≤ reachBytes := by
      intro i hi n hn
      refine hw n ?_
      simp only [DataW.weights, ht, List.mem_cons, List.mem_append]
      exact .inr (.inl (weights_all (List.mem_map.2 ⟨i, by simpa using hi, rfl⟩) hn))
    have hD : ∀ i, i < len → ∃ b, (W.cells? 0 (a.add (i * C.size)) C.size = some (C.enc b)) ∧ ok b (Rows.uptoBulk (D i)) := by
      intro i hi
      obtain ⟨cs', h1, h2⟩ := hel i (by omega)
      rw [hs] at h1
      obtain ⟨b, rfl, hk⟩ := h.get en n cs' _ h2 (hwt i hi)
      exact ⟨b, h1, hk⟩
    have hinh : Inhabited β := ⟨C.zero⟩
    obtain ⟨V, hV⟩ := choose_lt hD
    have hlen : ((List.range len).map V).length = len := by simp
    have hget : ∀ i, i < len → ((List.range len).map V)[i]? = some (V i) := by intro i hi; simp [hi]
    refine ⟨(⟨some a, m⟩, (List.range len).map V), by simp, ⟨RdA.old ?_⟩, ?_, ?_, ?_⟩
    · refine ⟨C.flat_len _, some a, m, rfl, by rw [hlen]; exact hl, fun h => by simp at h, fun a' ha j u hu => ?_⟩
      cases ha
      have hj : j < (C.flat ((List.range len).map V)).length := (List.getElem?_eq_some_iff.1 hu).1
      rw [C.flat_len, hlen] at hj
      have hpos : 0 < C.size := by
        rcases Nat.eq_zero_or_pos C.size with h0 | h0
        · rw [h0] at hj; omega
        · exact h0
      have hi : j / C.size < len := by
        rw [Nat.div_lt_iff_lt_mul hpos]; exact hj
      have hr : j % C.size < C.size := Nat.mod_lt _ hpos
      have e1 : j / C.size * C.size + j % C.size = j := by rw [Nat.mul_comm]; exact Nat.div_add_mod _ _
      have e2 := C.flat_get _ _ _ (hget _ hi)
      have e3 : (C.enc (V (j / C.size)))[j % C.size]? = some u := by
        rw [← e2, List.getElem?_take, if_pos hr, List.getElem?_drop, e1]
        exact hu
      obtain ⟨_, _, h3⟩ := World.cells?_some (hV _ hi).1
      have := h3 _ hr
      rw [Addr.add_add, e1] at this
      rw [this]; exact e3
    · simp only [hlen]
      have := hw ((((List.range len).map D).length + ((List.range (m - len)).map fun j => D (len + j)).length) * P.bytesOf C.e) (by
        simp only [DataW.weights, ht]
        exact List.mem_cons_self)
      simp only [List.length_map, List.length_range, hb] at this
      exact Nat.le_trans (Nat.mul_le_mul_right _ (Nat.le_add_right _ _)) this
    · simp only [hlen, Rows.uptoBulk]
      have := bulk_length ((List.range len).map D)
      simp only [List.length_map, List.length_range] at this
      omega
    · intro b hb
      simp only [List.mem_map, List.mem_range] at hb
      obtain ⟨i, hi, rfl⟩ := hb
      refine ⟨_, ?_, (hV i hi).2⟩
      have := bulk_mem (List.mem_map.2 ⟨i, by simpa using hi, rfl⟩ : D i ∈ (List.range len).map D)
      simp only [Rows.uptoBulk]
      omega

theorem opn_field {fs : Array Field} {H : Type} {en : TypeId × Value → H} {n : Nat} {cs : List Value} {xs : List (DataW H × List MemPlace)} (ht : P.underlying t = some (.struct fs))
    (hw : ∀ n ∈ (DataW.agg (xs.map (·.1))).weights P t, n ≤ reachBytes)
    (hf : ∀ (i : Nat) (f : Field), fs[i]? = some f → DataW.trod en P W 0 (fun _ => true) true n f.type ((cs.drop f.offset).take (P.cellsOf f.type)) = xs[i]?)
    (i ft off sz : Nat) (hi' : ∃ f, fs[i]? = some f ∧ f.type = ft ∧ f.offset = off) (hc : P.cellsOf ft = sz) (hl : i < xs.length) {β : Type} {enc : β → List Value} {ok : β → Nat → Prop} (h : Opn P W ft enc ok) :
    ∃ b, (cs.drop off).take sz = enc b ∧ ∃ k', k' ≤ Rows.uptoBulk (DataW.agg (xs.map (·.1))) ∧ ok b k' := by
  obtain ⟨f, hi, rfl, rfl⟩ := hi'
  subst hc
  have h1 := hf i f hi
  rw [List.getElem?_eq_getElem hl] at h1
  obtain ⟨b, hb, hk⟩ := h.get en n _ _ h1 fun m hm => hw m (by
    simp only [DataW.weights, ht]
    exact DataW.weights_mem_each (j := i) (t := f.type) (d := xs[i].1) (by simp [hi]) (by simp [hl]) m hm)
  refine ⟨b, hb, _, ?_, hk⟩
  have := bulk_mem (List.mem_map.2 ⟨xs[i], List.getElem_mem hl, rfl⟩ : xs[i].1 ∈ xs.map (·.1))
  simp only [Rows.uptoBulk]
  omega

theorem opn_arg {β : Type} {enc : β → List Value} {ok : β → Nat → Prop} (h : Opn P W t enc ok) {H : Type} {en : TypeId × Value → H} {v : Value} {d : DataW H} {p : List MemPlace} (hd : DataW.Trod en P W 0 (fun _ => true) true t v d p)
    (hw : ∀ n ∈ d.weights P t, n ≤ reachBytes) : ∃ b, v.cells.toList = enc b ∧ ok b (Rows.uptoBulk d) := by
  obtain ⟨fuel, hf⟩ := hd
  exact h.get en fuel _ _ hf hw
end

theorem walk_end {P : Program} {f : FuncId} {args : Array Value} {W : World} (h : Calls P f args W (retP fun v w => v = .bool true ∧ Sat W w [old W])) : Calls P f args W fun e W' => e = .returned (.bool true) ∧ Below W.heap.size W W' :=
  h.mono fun e w he => by
    cases e with
    | returned v => obtain ⟨rfl, hS⟩ := he; exact ⟨rfl, hS.below 0 rfl⟩
    | panicked c => exact he.elim
    | outgrown => exact he.elim

theorem cells_one {v u : Value} (h : v.cells.toList = [u]) (hv : v.oneCell' = true) : v = u := by
  cases v <;> first | (simp [Value.cells] at h; exact h) | cases hv
theorem cells_agg {cs : Array Value} {l : List Value} (h : (Value.agg cs).cells.toList = l) : Value.agg cs = .agg l.toArray := by
  simp only [Value.cells] at h
  rw [← h]

end Go.Proofs.YtikmogfhhggafaaGreatDoor
