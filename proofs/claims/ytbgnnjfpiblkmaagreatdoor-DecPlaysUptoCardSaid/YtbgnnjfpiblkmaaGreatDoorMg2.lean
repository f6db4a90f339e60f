/-
  Texts of one proof, one behind the other: Key, Defer, Facts.
-/
import Derived.Recover
import Derived.Test.YtbgnnjfpiblkmaaGreatDoorRows
import Derived.Test.YtbgnnjfpiblkmaaGreatDoorMg1
set_option linter.unusedSimpArgs false
set_option linter.unnecessarySimpa false
set_option linter.unusedSectionVars false
set_option linter.unusedVariables false

namespace Go.Proofs.YtbgnnjfpiblkmaaGreatDoor
open Go

attribute [go_sem] List.length_set List.length_append List.length_replicate List.length_map List.length_cons List.length_nil List.length_take List.length_drop

class Fnd {σ : Type} (F : σ → HA) (L : List HA) (s : outParam σ) (M : outParam (List HA)) : Prop where
  perm : L.Perm (F s :: M)

instance (priority := 1100) Fnd.here {σ : Type} {F : σ → HA} {s : σ} {L : List HA} : Fnd F (F s :: L) s L := ⟨.refl _⟩
instance (priority := 1000) Fnd.there {σ : Type} {F : σ → HA} {A : HA} {s : σ} {L M : List HA} [h : Fnd F L s M] : Fnd F (A :: L) s (A :: M) :=
  ⟨(h.perm.cons A).trans (List.Perm.swap _ _ _)⟩

class Has (A : HA) (L : List HA) (M : outParam (List HA)) : Prop where
  perm : L.Perm (A :: M)
instance (priority := 1100) Has.here {A : HA} {L : List HA} : Has A (A :: L) L := ⟨.refl _⟩
instance (priority := 1000) Has.there {A B : HA} {L M : List HA} [h : Has A L M] : Has A (B :: L) (B :: M) := ⟨(h.perm.cons B).trans (List.Perm.swap _ _ _)⟩

class Arr (L N : List HA) : Prop where
  arr : ∀ h, Sats L h → Sats N h

instance (priority := 1200) Arr.same {L : List HA} : Arr L L := ⟨fun _ h => h⟩
instance (priority := 1100) Arr.nil {L : List HA} : Arr L [] := ⟨fun _ _ => trivial⟩
instance (priority := 1050) Arr.next {A : HA} {L M N : List HA} [h : Has A L M] [k : Arr M N] : Arr L (A :: N) :=
  ⟨fun _ hs => Sats.cons_mono k.arr (hs.perm h.perm)⟩
instance (priority := 100) Arr.let_go {A : HA} {L N : List HA} [k : Arr L N] : Arr (A :: L) N :=
  ⟨fun hp hs => k.arr hp (by obtain ⟨h1, _, s, hr⟩ := hs; exact hr.mono (less_sub _ _))⟩

section
variable {E w w' : World} {A B : HA} {L M N : List HA}

theorem Sat.fd {σ : Type} (hS : Sat E w L) (F : σ → HA) {s : σ} [h : Fnd F L s M] : Sat E w (F s :: M) := hS.perm h.perm
theorem Sat.fd2 {σ τ : Type} (hS : Sat E w L) (F : σ → HA) (G : τ → HA) {s : σ} {t : τ} [h : Fnd F L s M] [k : Fnd G M t N] : Sat E w (F s :: G t :: N) := hS.perm (h.perm.trans (k.perm.cons _))
theorem Sat.to (hS : Sat E w L) [h : Arr L N] : Sat E w N := ⟨hS.os, hS.tape, hS.output, h.arr _ hS.sats⟩
end

structure Ob where
  e : TypeId
  cs : List Value

def cel (b : Nat) (o : Ob) : HA := blk b (.cells o.cs.toArray o.e (0, 0))

class Sc (P : Program) (t : TypeId) : Prop where
  na : ∀ w, (isAgg t).run P w = .ok false w
  sz : ∀ w, (sizeOf t).run P w = .ok 1 w

class Ag (P : Program) (t : TypeId) (n : outParam Nat) : Prop where
  ag : ∀ w, (isAgg t).run P w = .ok true w
  sz : ∀ w, (sizeOf t).run P w = .ok n w

def At (w : World) (a : Addr) (cs : List Value) : Prop := ∀ (j : Nat) (u : Value), cs[j]? = some u → w.cell? (a.add j) = some u

section
variable [Pan] {P : Program} {E w : World} {K : Value → World → Prop} {J : Value → Prop} {L M : List HA} {v : Value} {t : TypeId} {o : Ob} {b i : Nat}

theorem cel_at (hS : Sat E w L) [h : Fnd (cel b) L o M] : w.heap[b]? = some (.cells o.cs.toArray o.e (0, 0)) := (hS.fd (cel b)).blk_at 0 rfl

theorem cel_cell (hS : Sat E w L) [h : Fnd (cel b) L o M] (hv : o.cs[i]? = some v) : w.cell? ⟨b, i, none⟩ = some v := by
  rw [cell_of_blk (cel_at (b := b) hS)]; simpa using hv

theorem run_l (hS : Sat E w L) [h : Fnd (cel b) L o M] [Sc P t] (hv : o.cs[i]? = some v) : (oLoad t (.pointer (some ⟨b, i, none⟩))).run P w = .ok (.value v) w :=
  run_load Sc.na (cel_cell (b := b) hS hv)
theorem pN_l (hS : Sat E w L) [h : Fnd (cel b) L o M] [Sc P t] (hv : o.cs[i]? = some v) (hk : K v w) : pN P (oLoad t (.pointer (some ⟨b, i, none⟩))) w K :=
  pN_ld Sc.na (cel_cell (b := b) hS hv) hk
theorem pL_l (hS : Sat E w L) [h : Fnd (cel b) L o M] [Sc P t] (hv : o.cs[i]? = some v) (hk : J v) : pL P (oLoad t (.pointer (some ⟨b, i, none⟩))) w J :=
  pL_ld Sc.na (cel_cell (b := b) hS hv) hk

theorem pN_s (hS : Sat E w L) [h : Fnd (cel b) L o M] [Sc P t] (hi : i < o.cs.length) (hv : v.oneCell' = true)
    (hk : ∀ w', Sat E w' (cel b ⟨o.e, o.cs.set i v⟩ :: M) → K undef w') : pN P (oStore t (.pointer (some ⟨b, i, none⟩)) v) w K := by
  refine pN_st_blk (hS.fd (cel b)) Sc.sz hv (by simpa using hi) fun w' hS' => hk w' ?_
  simpa [cel] using hS'

theorem pN_la {n : Nat} (hS : Sat E w L) [h : Fnd (cel b) L o M] [Ag P t n] (hn : n = o.cs.length) (hk : K (.agg o.cs.toArray) w) : pN P (oLoad t (.pointer (some ⟨b, 0, none⟩))) w K :=
  pN_ld_all Ag.ag Ag.sz (by simpa using hn) (cel_at (b := b) hS) hk
theorem pL_ra {n : Nat} (hS : Sat E w L) [h : Fnd (cel b) L o M] [Ag P t n] (hn : n = o.cs.length) (hk : J (.agg o.cs.toArray)) : pL P (oRes t (.pointer (some ⟨b, 0, none⟩))) w J :=
  pL_res_all Ag.ag Ag.sz (by simpa using hn) (cel_at (b := b) hS) hk
theorem pL_la {n : Nat} (hS : Sat E w L) [h : Fnd (cel b) L o M] [Ag P t n] (hn : n = o.cs.length) (hk : J (.agg o.cs.toArray)) : pL P (oLoad t (.pointer (some ⟨b, 0, none⟩))) w J := by
  subst hn
  have hc := cells_of_blk (o := 0) (cel_at (b := b) hS) o.cs.length
  exact ⟨_, run_load_agg (cs := o.cs) Ag.ag Ag.sz (by simpa [List.take_of_length_le] using hc), hk⟩
theorem pL_r (hS : Sat E w L) [h : Fnd (cel b) L o M] [Sc P t] (hv : o.cs[i]? = some v) (hk : J v) : pL P (oRes t (.pointer (some ⟨b, i, none⟩))) w J := by
  refine ⟨v, ?_, hk⟩
  have hr := run_load (P := P) (w := w) (t := t) Sc.na (cel_cell (b := b) hS hv)
  exact hr
theorem pN_sa {n : Nat} {us : List Value} (hS : Sat E w L) [h : Fnd (cel b) L o M] [Ag P t n] (hn : n = us.length) (ho : us.length = o.cs.length) (h1 : us.all (·.oneCell') = true)
    (hk : ∀ w', Sat E w' (cel b ⟨o.e, us⟩ :: M) → K undef w') : pN P (oStore t (.pointer (some ⟨b, 0, none⟩)) (.agg us.toArray)) w K :=
  pN_st_all (hS.fd (cel b)) Ag.sz (by simpa using hn) (by simpa using List.all_eq_true.1 h1) (by simpa using ho) hk

theorem pN_nw {u : Value} {z : List Value} (hS : Sat E w L) (hz : ∀ w, (zeroValue t).run P w = .ok u w) (hc : u.cells = z.toArray)
    (hk : ∀ a w', Sat E w' (cel a ⟨t, z⟩ :: L) → K (.pointer (some ⟨a, 0, none⟩)) w') : pN P (oAlloc t) w K :=
  pN_alloc hz hS fun a w' h => hk a w' (by rw [hc] at h; exact h)
theorem pN_bx {u : Value} {z : List Value} (hS : Sat E w L) (hc : u.cells = z.toArray)
    (hk : ∀ a w', Sat E w' (cel a ⟨t, z⟩ :: L) → K (.pointer (some ⟨a, 0, none⟩)) w') : pN P (oBox t u) w K :=
  pN_box hS fun a w' h => hk a w' (by rw [hc] at h; exact h)

omit [Pan] in
class Zv (P : Program) (t : TypeId) (z : outParam (List Value)) : Prop where
  zv : ∃ u : Value, (∀ w, (zeroValue t).run P w = .ok u w) ∧ u.cells = z.toArray
theorem pN_nz {z : List Value} (hS : Sat E w L) [h : Zv P t z] (hk : ∀ a w', Sat E w' (cel a ⟨t, z⟩ :: L) → K (.pointer (some ⟨a, 0, none⟩)) w') : pN P (oAlloc t) w K := by
  obtain ⟨u, h1, h2⟩ := h.zv
  exact pN_nw hS h1 h2 hk

theorem pDr_go {K : World → Prop} (hS : Sat E w L) (hk : ∀ w', Sat E w' L → K w') : pDr w K := hk _ hS.drew
end

structure Sl where
  a : Option Addr
  c : Nat

structure Cd (α : Type) where
  e : TypeId
  size : Nat
  bytes : Nat
  zero : α
  enc : α → List Value
  len : ∀ a, (enc a).length = size
  one : ∀ a, ∀ u ∈ enc a, u.oneCell' = true

def Cd.flat {α : Type} (C : Cd α) (l : List α) : List Value := (l.map C.enc).flatten

theorem Cd.flat_single {α : Type} (C : Cd α) (f : α → Value) (h : ∀ b, C.enc b = [f b]) (l : List α) : C.flat l = l.map f := by
  induction l with
  | nil => rfl
  | cons x l ih => simp only [Cd.flat, List.map_cons, List.flatten_cons, h] at ih ⊢; rw [ih]; rfl
theorem Cd.flat_append {α : Type} (C : Cd α) (l m : List α) : C.flat (l ++ m) = C.flat l ++ C.flat m := by simp [Cd.flat]
theorem Cd.flat_len {α : Type} (C : Cd α) (l : List α) : (C.flat l).length = l.length * C.size := flat_length _ _ C.len l
theorem Cd.flat_get {α : Type} (C : Cd α) (l : List α) (i : Nat) (x : α) (h : l[i]? = some x) : ((C.flat l).drop (i * C.size)).take C.size = C.enc x := flat_at _ _ C.len l i x h
theorem Cd.flat_put {α : Type} (C : Cd α) (l : List α) (i : Nat) (x : α) (h : i < l.length) : (C.flat l).take (i * C.size) ++ C.enc x ++ (C.flat l).drop (i * C.size + C.size) = C.flat (l.set i x) := flat_set _ _ C.len l i x h
theorem Cd.flat_one {α : Type} (C : Cd α) (l : List α) : ∀ u ∈ C.flat l, u.oneCell' = true := by
  intro u hu
  simp only [Cd.flat, List.mem_flatten, List.mem_map] at hu
  obtain ⟨m, ⟨a, _, rfl⟩, hu⟩ := hu
  exact C.one a u hu
theorem Cd.flat_take {α : Type} (C : Cd α) (l : List α) (n : Nat) : (C.flat l).take (n * C.size) = C.flat (l.take n) := by
  induction l generalizing n with
  | nil => simp [Cd.flat]
  | cons x l ih =>
    cases n with
    | zero => simp [Cd.flat]
    | succ n =>
      have e : (n + 1) * C.size = C.size + n * C.size := by rw [Nat.add_mul, Nat.one_mul, Nat.add_comm]
      simp only [Cd.flat, List.map_cons, List.flatten_cons, List.take_succ_cons] at ih ⊢
      rw [List.take_append, C.len, e, Nat.add_sub_cancel_left, ih, List.take_of_length_le (by rw [C.len]; omega)]
theorem Cd.flat_drop {α : Type} (C : Cd α) (l : List α) (n : Nat) : (C.flat l).drop (n * C.size) = C.flat (l.drop n) := by
  induction l generalizing n with
  | nil => simp [Cd.flat]
  | cons x l ih =>
    cases n with
    | zero => simp [Cd.flat]
    | succ n =>
      have e : (n + 1) * C.size = C.size + n * C.size := by rw [Nat.add_mul, Nat.one_mul, Nat.add_comm]
      simp only [Cd.flat, List.map_cons, List.flatten_cons, List.drop_succ_cons] at ih ⊢
      rw [List.drop_append, C.len, e, Nat.add_sub_cancel_left, ih, List.drop_of_length_le (by rw [C.len]; omega), List.nil_append]

def rows {α : Type} (C : Cd α) (s : Sl) (l : List α) : HA := own C.e C.size (.slice s.a l.length s.c) l.length (C.flat l)

class Row (P : Program) (t : TypeId) (α : outParam Type) (C : outParam (Cd α)) : Prop where
  st : ∃ z, SlT P t C.e z C.size C.bytes ∧ z.cells.toList = C.enc C.zero
  bpos : 0 < C.bytes

class Bt {α : Type} (C : Cd α) (z : outParam Nat) : Prop where
  eq : C.bytes = z

class RdP {α : Type} (C : Cd α) (A : HA) (s : Sl) (l : outParam (List α)) : Prop where
  rd : RdA A C.size (.slice s.a l.length s.c) l.length (C.flat l)
class Rds {α : Type} (C : Cd α) (L : List HA) (s : Sl) (l : outParam (List α)) : Prop where
  rd : ∀ E w, Sat E w L → Rd w C.size (.slice s.a l.length s.c) l.length (C.flat l)

section
variable {α : Type} {C : Cd α} {E w : World} {A B : HA} {L M : List HA} {s : Sl} {l : List α}

instance RdP.rows : RdP C (rows C s l) s l := ⟨RdA.own⟩
instance (priority := 1100) Rds.here [h : RdP C A s l] : Rds C (A :: L) s l := ⟨fun _ _ hS => hS.rd 0 rfl h.rd⟩
instance (priority := 1000) Rds.there [h : Rds C L s l] : Rds C (A :: L) s l := ⟨fun E w hS => h.rd E w hS.drop⟩
instance Rds.nil : Rds C L ⟨none, 0⟩ ([] : List α) := ⟨fun _ _ _ => Rd.nil⟩

theorem Sat.rds (hS : Sat E w L) [h : Rds C L s l] : Rd w C.size (.slice s.a l.length s.c) l.length (C.flat l) := h.rd E w hS

def Sl.sub (s : Sl) (lo size : Nat) : Sl := ⟨if s.c = lo then s.a else s.a.map (·.add (lo * size)), s.c - lo⟩

theorem subV_sl (s : Sl) (n lo hi size : Nat) : subV (.slice s.a n s.c) lo hi size = .slice (s.sub lo size).a (hi - lo) (s.sub lo size).c := rfl
end

section
variable [Pan] {P : Program} {E w : World} {K : Value → World → Prop} {J : Value → Prop} {L M : List HA} {v : Value} {m : Sem Next} {A B : Prop}

theorem pN_via (h : ∀ K : Value → World → Prop, pN P m w K = K v w) (hk : K v w) : pN P m w K := by rw [h]; exact hk
theorem pIf_t (h : A) : pIf (.bool true) A B := h
theorem pIf_f (h : B) : pIf (.bool false) A B := h
theorem gA_go {b : Bool} {x : (Value → Prop) → Prop} (hb : b = true) (h : x J) : gA b x J := by subst hb; exact h
theorem gA_no {b : Bool} {x : (Value → Prop) → Prop} (hb : b = false) (h : J undef) : gA b x J := by subst hb; exact h
theorem pGd_go {b : Bool} {x : (Value → World → Prop) → Prop} (hb : b = true) (h : x K) : pGd b x w K := by subst hb; exact h
theorem pGd_no {b : Bool} {x : (Value → World → Prop) → Prop} (hb : b = false) (h : K undef w) : pGd b x w K := by subst hb; exact h

section
variable {t : TypeId} {xo yo : Operand} {k : IntKind} {a b : Int} {x y : UInt8} {l r : List UInt8}
theorem pN_lss_s (ht : a < b → K (.bool true) w) (hf : ¬ a < b → K (.bool false) w) : pN P (oBin .lss t xo yo (.int k a) (.int k b)) w K := by
  rw [pN_lss]; by_cases h : a < b
  · rw [decide_eq_true h]; exact ht h
  · rw [decide_eq_false h]; exact hf h
theorem pA_lss_s (ht : a < b → J (.bool true)) (hf : ¬ a < b → J (.bool false)) : pA P (oBin .lss t xo yo (.int k a) (.int k b)) J := by
  rw [pA_lss]; by_cases h : a < b
  · rw [decide_eq_true h]; exact ht h
  · rw [decide_eq_false h]; exact hf h
theorem pN_leq_s (ht : a ≤ b → K (.bool true) w) (hf : ¬ a ≤ b → K (.bool false) w) : pN P (oBin .leq t xo yo (.int k a) (.int k b)) w K := by
  rw [pN_leq]; by_cases h : a ≤ b
  · rw [decide_eq_true h]; exact ht h
  · rw [decide_eq_false h]; exact hf h
theorem pA_leq_s (ht : a ≤ b → J (.bool true)) (hf : ¬ a ≤ b → J (.bool false)) : pA P (oBin .leq t xo yo (.int k a) (.int k b)) J := by
  rw [pA_leq]; by_cases h : a ≤ b
  · rw [decide_eq_true h]; exact ht h
  · rw [decide_eq_false h]; exact hf h
theorem pN_gtr_s (ht : b < a → K (.bool true) w) (hf : ¬ b < a → K (.bool false) w) : pN P (oBin .gtr t xo yo (.int k a) (.int k b)) w K := by
  rw [pN_gtr]; by_cases h : b < a
  · rw [decide_eq_true h]; exact ht h
  · rw [decide_eq_false h]; exact hf h
theorem pN_geq_s (ht : b ≤ a → K (.bool true) w) (hf : ¬ b ≤ a → K (.bool false) w) : pN P (oBin .geq t xo yo (.int k a) (.int k b)) w K := by
  rw [pN_geq]; by_cases h : b ≤ a
  · rw [decide_eq_true h]; exact ht h
  · rw [decide_eq_false h]; exact hf h
theorem pA_geq_s (ht : b ≤ a → J (.bool true)) (hf : ¬ b ≤ a → J (.bool false)) : pA P (oBin .geq t xo yo (.int k a) (.int k b)) J := by
  rw [pA_geq]; by_cases h : b ≤ a
  · rw [decide_eq_true h]; exact ht h
  · rw [decide_eq_false h]; exact hf h
theorem pN_eql_s (ht : a = b → K (.bool true) w) (hf : ¬ a = b → K (.bool false) w) : pN P (oBin .eql t xo yo (.int k a) (.int k b)) w K := by
  rw [pN_eql]; by_cases h : a = b
  · have e : (a == b) = true := beq_iff_eq.2 h
    simp only [bne, e]; exact ht h
  · have e : (a == b) = false := beq_eq_false_iff_ne.2 h
    simp only [bne, e]; exact hf h
theorem pA_eql_s (ht : a = b → J (.bool true)) (hf : ¬ a = b → J (.bool false)) : pA P (oBin .eql t xo yo (.int k a) (.int k b)) J := by
  rw [pA_eql]; by_cases h : a = b
  · have e : (a == b) = true := beq_iff_eq.2 h
    simp only [bne, e]; exact ht h
  · have e : (a == b) = false := beq_eq_false_iff_ne.2 h
    simp only [bne, e]; exact hf h
theorem pN_eql_ss (ht : l = r → K (.bool true) w) (hf : ¬ l = r → K (.bool false) w) : pN P (oBin .eql t xo yo (.string ⟨List.toArray l⟩) (.string ⟨List.toArray r⟩)) w K := by
  rw [pN_eql_l]; by_cases h : l = r
  · have e : (l == r) = true := beq_iff_eq.2 h
    simp only [e]; exact ht h
  · have e : (l == r) = false := beq_eq_false_iff_ne.2 h
    simp only [e]; exact hf h
theorem pA_eql_ss (ht : l = r → J (.bool true)) (hf : ¬ l = r → J (.bool false)) : pA P (oBin .eql t xo yo (.string ⟨List.toArray l⟩) (.string ⟨List.toArray r⟩)) J := by
  rw [pA_eql_l]; by_cases h : l = r
  · have e : (l == r) = true := beq_iff_eq.2 h
    simp only [e]; exact ht h
  · have e : (l == r) = false := beq_eq_false_iff_ne.2 h
    simp only [e]; exact hf h
theorem pN_neq_s (ht : a = b → K (.bool false) w) (hf : ¬ a = b → K (.bool true) w) : pN P (oBin .neq t xo yo (.int k a) (.int k b)) w K := by
  rw [pN_neq]; by_cases h : a = b
  · have e : (a == b) = true := beq_iff_eq.2 h
    simp only [bne, e]; exact ht h
  · have e : (a == b) = false := beq_eq_false_iff_ne.2 h
    simp only [bne, e]; exact hf h
theorem pA_neq_s (ht : a = b → J (.bool false)) (hf : ¬ a = b → J (.bool true)) : pA P (oBin .neq t xo yo (.int k a) (.int k b)) J := by
  rw [pA_neq]; by_cases h : a = b
  · have e : (a == b) = true := beq_iff_eq.2 h
    simp only [bne, e]; exact ht h
  · have e : (a == b) = false := beq_eq_false_iff_ne.2 h
    simp only [bne, e]; exact hf h
theorem pN_neq_ss (ht : l = r → K (.bool false) w) (hf : ¬ l = r → K (.bool true) w) : pN P (oBin .neq t xo yo (.string ⟨List.toArray l⟩) (.string ⟨List.toArray r⟩)) w K := by
  rw [pN_neq_l]; by_cases h : l = r
  · have e : (l == r) = true := beq_iff_eq.2 h
    simp only [e]; exact ht h
  · have e : (l == r) = false := beq_eq_false_iff_ne.2 h
    simp only [e]; exact hf h
theorem run_lss_l (w : World) : (oBin .lss t xo yo (.string ⟨List.toArray l⟩) (.string ⟨List.toArray r⟩)).run P w = .ok (.value (.bool (Op.bytesLess l r))) w := by
  refine run_bin_of t xo yo (by unfold eqGuard; rfl) ?_
  simp [binOp, Op.stringOp, str_list]
theorem run_leq_l (w : World) : (oBin .leq t xo yo (.string ⟨List.toArray l⟩) (.string ⟨List.toArray r⟩)).run P w = .ok (.value (.bool (Op.bytesLess l r || l == r))) w := by
  refine run_bin_of t xo yo (by unfold eqGuard; rfl) ?_
  simp [binOp, Op.stringOp, str_list]
theorem pN_lss_l : pN P (oBin .lss t xo yo (.string ⟨List.toArray l⟩) (.string ⟨List.toArray r⟩)) w K = K (.bool (Op.bytesLess l r)) w := by rw [pN_def, run_lss_l, rN_value]
theorem pA_lss_l : pA P (oBin .lss t xo yo (.string ⟨List.toArray l⟩) (.string ⟨List.toArray r⟩)) J = J (.bool (Op.bytesLess l r)) := by rw [pA_def, funext (fun w => run_lss_l w), rA_value]
theorem pN_leq_l : pN P (oBin .leq t xo yo (.string ⟨List.toArray l⟩) (.string ⟨List.toArray r⟩)) w K = K (.bool (Op.bytesLess l r || l == r)) w := by rw [pN_def, run_leq_l, rN_value]
theorem pA_leq_l : pA P (oBin .leq t xo yo (.string ⟨List.toArray l⟩) (.string ⟨List.toArray r⟩)) J = J (.bool (Op.bytesLess l r || l == r)) := by rw [pA_def, funext (fun w => run_leq_l w), rA_value]
attribute [go_sem] pN_lss_l pA_lss_l pN_leq_l pA_leq_l

theorem pN_shrn {k' : IntKind} (n : Nat) (b c : Int) (hb : b = (n : Int)) (hc : c = 2 ^ n) (hn : n ≤ k.bits) : pN P (oBin .shr t xo yo (.int k a) (.int k' b)) w K = K (.int k (a / c)) w := by
  subst hb
  rw [pN_shr _ _ _ _ _ _ _ (by omega), Int.toNat_natCast, Nat.min_eq_left hn, ← hc, Int.fdiv_eq_ediv_of_nonneg _ (by rw [hc]; exact Int.pow_nonneg (by omega))]
theorem pA_shrn {k' : IntKind} (n : Nat) (b c : Int) (hb : b = (n : Int)) (hc : c = 2 ^ n) (hn : n ≤ k.bits) : pA P (oBin .shr t xo yo (.int k a) (.int k' b)) J = J (.int k (a / c)) := by
  subst hb
  rw [pA_shr _ _ _ _ _ _ _ (by omega), Int.toNat_natCast, Nat.min_eq_left hn, ← hc, Int.fdiv_eq_ediv_of_nonneg _ (by rw [hc]; exact Int.pow_nonneg (by omega))]
theorem pN_shln {k' : IntKind} (n : Nat) (b c : Int) (hb : b = (n : Int)) (hc : c = 2 ^ n) (hn : n ≤ k.bits) : pN P (oBin .shl t xo yo (.int k a) (.int k' b)) w K = K (.int k (k.wrap (a * c))) w := by
  subst hb
  rw [pN_shl _ _ _ _ _ _ _ (by omega), Int.toNat_natCast, Nat.min_eq_left hn, ← hc]
theorem pA_shln {k' : IntKind} (n : Nat) (b c : Int) (hb : b = (n : Int)) (hc : c = 2 ^ n) (hn : n ≤ k.bits) : pA P (oBin .shl t xo yo (.int k a) (.int k' b)) J = J (.int k (k.wrap (a * c))) := by
  subst hb
  rw [pA_shl _ _ _ _ _ _ _ (by omega), Int.toNat_natCast, Nat.min_eq_left hn, ← hc]

theorem pN_shr_k {k' : IntKind} (j : Nat) (hb : b = (j : Int)) (hj : j ≤ k.bits) (hk : K (.int k (a / 2 ^ j)) w) : pN P (oBin .shr t xo yo (.int k a) (.int k' b)) w K := by
  rw [pN_shrn j b (2 ^ j) hb rfl hj]; exact hk
theorem pA_shr_k {k' : IntKind} (j : Nat) (hb : b = (j : Int)) (hj : j ≤ k.bits) (hk : J (.int k (a / 2 ^ j))) : pA P (oBin .shr t xo yo (.int k a) (.int k' b)) J := by
  rw [pA_shrn j b (2 ^ j) hb rfl hj]; exact hk
theorem pN_shl_k {k' : IntKind} (j : Nat) (hb : b = (j : Int)) (hj : j ≤ k.bits) (hk : K (.int k (k.wrap (a * 2 ^ j))) w) : pN P (oBin .shl t xo yo (.int k a) (.int k' b)) w K := by
  rw [pN_shln j b (2 ^ j) hb rfl hj]; exact hk
theorem pA_shl_k {k' : IntKind} (j : Nat) (hb : b = (j : Int)) (hj : j ≤ k.bits) (hk : J (.int k (k.wrap (a * 2 ^ j)))) : pA P (oBin .shl t xo yo (.int k a) (.int k' b)) J := by
  rw [pA_shln j b (2 ^ j) hb rfl hj]; exact hk

theorem and_mask (n : Nat) (a : Int) (j : Nat) (hj : j < n) : ((BitVec.ofInt n a &&& BitVec.ofInt n ((2 : Int) ^ j - 1)).toNat : Int) = a % 2 ^ j := by
  have h1 : (BitVec.ofInt n ((2 : Int) ^ j - 1)).toNat = 2 ^ j - 1 := by
    rw [BitVec.toNat_ofInt]
    have p1 : (2 : Nat) ^ j < 2 ^ n := Nat.pow_lt_pow_right (by omega) hj
    have p0 : 0 < (2 : Nat) ^ j := Nat.two_pow_pos j
    have e1 : ((2 : Int) ^ j - 1) = ((2 ^ j - 1 : Nat) : Int) := by
      rw [Int.natCast_sub (by omega)]; norm_cast
    rw [e1]
    norm_cast
    rw [Int.toNat_natCast]
    exact Nat.mod_eq_of_lt (by omega)
  rw [BitVec.toNat_and, h1, Nat.and_two_pow_sub_one_eq_mod, BitVec.toNat_ofInt]
  have p2 : (0 : Int) < 2 ^ n := Int.pow_pos (by omega)
  rw [Int.natCast_emod, Int.toNat_of_nonneg (Int.emod_nonneg _ (by norm_cast at p2 ⊢; omega))]
  norm_cast
  refine Int.emod_emod_of_dvd _ ?_
  norm_cast
  exact Nat.pow_dvd_pow 2 (by omega)
theorem pN_andn (j : Nat) (b c : Int) (hb : b = 2 ^ j - 1) (hc : c = 2 ^ j) (hj : j < k.bits) (hw : k.wrap (a % c) = a % c) : pN P (oBin .and t xo yo (.int k a) (.int k b)) w K = K (.int k (a % c)) w := by
  subst hb
  rw [pN_and, and_mask _ _ _ hj, ← hc, hw]
theorem pA_andn (j : Nat) (b c : Int) (hb : b = 2 ^ j - 1) (hc : c = 2 ^ j) (hj : j < k.bits) (hw : k.wrap (a % c) = a % c) : pA P (oBin .and t xo yo (.int k a) (.int k b)) J = J (.int k (a % c)) := by
  subst hb
  rw [pA_and, and_mask _ _ _ hj, ← hc, hw]
end

theorem w_u32 {n : Int} (h : 0 ≤ n ∧ n < 4294967296) : IntKind.u32.wrap n = n := by rw [wrap_u32]; omega
theorem w_u64 {n : Int} (h : 0 ≤ n ∧ n < 18446744073709551616) : IntKind.u64.wrap n = n := by rw [wrap_u64]; omega
theorem pN_min {t1 t2 ty : TypeId} {k : IntKind} {a b : Int} {cs : List Bool} : pN P (oBi .min #[t1, t2] ty cs [.int k a, .int k b]) w K = K (.int k (min a b)) w := by
  have : (oBi .min #[t1, t2] ty cs [.int k a, .int k b]).run P w = .ok (.value (.int k (min a b))) w := by
    by_cases h : b < a
    · have e : min a b = b := by omega
      simp [oBi, builtin, Builtin.min_, Builtin.min2, h, e]
    · have e : min a b = a := by omega
      simp [oBi, builtin, Builtin.min_, Builtin.min2, h, e]
  rw [pN_def, this, rN_value]
theorem pN_max {t1 t2 ty : TypeId} {k : IntKind} {a b : Int} {cs : List Bool} : pN P (oBi .max #[t1, t2] ty cs [.int k a, .int k b]) w K = K (.int k (max a b)) w := by
  have : (oBi .max #[t1, t2] ty cs [.int k a, .int k b]).run P w = .ok (.value (.int k (max a b))) w := by
    by_cases h : a < b
    · have e : max a b = b := by omega
      simp [oBi, builtin, Builtin.max_, Builtin.max2, h, e]
    · have e : max a b = a := by omega
      simp [oBi, builtin, Builtin.max_, Builtin.max2, h, e]
  rw [pN_def, this, rN_value]

omit [Pan] in
def byteOf (n : Int) : UInt8 := UInt8.ofNat (n % 256).toNat
theorem byteOf_toNat (n : Int) : ((byteOf n).toNat : Int) = n % 256 := by
  simp only [byteOf, UInt8.toNat_ofNat']
  omega
omit [Pan] in
class ToB (P : Program) (s d : TypeId) : Prop where
  eq : ∀ w (k : IntKind) (n : Int), (oConv s d (.int k n)).run P w = .ok (.value (.int .u8 (IntKind.u8.wrap n))) w
omit [Pan] in
class OfB (P : Program) (s d : TypeId) (kd : outParam IntKind) : Prop where
  eq : ∀ w (k : IntKind) (n : Int), (oConv s d (.int k n)).run P w = .ok (.value (.int kd (kd.wrap n))) w
  small : ∀ n : Int, 0 ≤ n → n < 256 → kd.wrap n = n
theorem pN_tob {s d : TypeId} [h : ToB P s d] {k : IntKind} {n : Int} (hk : K (bv (byteOf n)) w) : pN P (oConv s d (.int k n)) w K := by
  rw [pN_def, h.eq, rN_value]
  unfold bv at hk
  rw [byteOf_toNat] at hk
  rw [wrap_u8]
  exact hk
theorem pN_ofb {s d : TypeId} {kd : IntKind} [h : OfB P s d kd] {b : UInt8} (hk : K (.int kd b.toNat) w) : pN P (oConv s d (bv b)) w K := by
  have := b.toNat_lt
  unfold bv
  rw [pN_def, h.eq, rN_value, h.small _ (by omega) (by omega)]
  exact hk
theorem pL_ofb {s d : TypeId} {kd : IntKind} [h : OfB P s d kd] {b : UInt8} (hk : J (.int kd b.toNat)) : pL P (oConv s d (bv b)) w J := by
  have := b.toNat_lt
  unfold bv
  refine ⟨_, h.eq w .u8 b.toNat, ?_⟩
  rw [h.small _ (by omega) (by omega)]
  exact hk
end

def El {α : Type} (C : Cd α) (s : Sl) (j : Nat) (a : Addr) : Prop := ∃ b, s.a = some b ∧ a = b.add (j * C.size)

structure EA {α : Type} (C : Cd α) (s : Sl) (l : List α) (a : Addr) (cs : List Value) : Prop where
  at_ : ∀ E w M, Rds C M s l → Sat E w M → At w a cs

class FA (P : Program) (t : TypeId) (f : Nat) (off : outParam Nat) : Prop where
  run : ∀ (a : Addr) (w : World), (oFld t (.pointer (some a)) f).run P w = .ok (.value (.pointer (some (a.add off)))) w

section
variable [Pan] {P : Program} {E w : World} {K : Value → World → Prop} {J : Value → Prop} {L M : List HA} {v : Value} {α : Type} {C : Cd α} {t ty : TypeId} {s s2 : Sl} {l m : List α} {n n2 : Nat} {k k' : IntKind} {i : Int}

theorem Row.slt [h : Row P t α C] : SlT P t C.e (Classical.choose h.st) C.size C.bytes := (Classical.choose_spec h.st).1
theorem Row.zero [h : Row P t α C] : (Classical.choose h.st).cells.toList = C.enc C.zero := (Classical.choose_spec h.st).2

theorem run_ix (hS : Sat E w L) [h : Row P t α C] [hr : Rds C L s l] (j : Nat) (hj : i = (j : Int)) (hn : n = l.length) (hlt : j < l.length) :
    ∃ a x, (∀ w', (oIdx t (.slice s.a n s.c) (.int k i)).run P w' = .ok (.value (.pointer (some a))) w') ∧ l[j]? = some x ∧ EA C s l a (C.enc x) ∧ El C s j a := by
  subst hj hn
  have hr := hS.rds (C := C) (s := s)
  obtain ⟨hl, ao, cap, hv, hnc, hnil, hc⟩ := hr
  simp only [Value.slice.injEq, true_and] at hv
  obtain ⟨rfl, rfl⟩ := hv
  have ht := Row.slt (P := P) (t := t) (C := C)
  cases ha : s.a with
  | none => have := (hnil ha).1; omega
  | some b =>
    refine ⟨b.add (j * C.size), l[j], fun w' => ?_, by simp [hlt], ⟨fun E' w' M h' hS' => ?_⟩, b, ha, rfl⟩
    · refine run_oV_ok ?_
      have h2 : (0 : Int) ≤ j ∧ (j : Int) < l.length := by omega
      simp [Instr.indexAt, run_underlying ht.under, asIntOf, ht.sizeOf, hlt]
    · intro j' u hu
      have hr := hS'.rds (C := C) (s := s)
      obtain ⟨_, ao, cap, hv, _, _, hc⟩ := hr
      simp only [Value.slice.injEq, true_and] at hv
      obtain ⟨rfl, rfl⟩ := hv
      rw [Addr.add_add]
      refine hc b ha _ _ ?_
      rw [← C.flat_get l j l[j] (by simp [hlt])] at hu
      rw [List.getElem?_take] at hu
      split at hu
      · rwa [List.getElem?_drop] at hu
      · cases hu

theorem pN_ix (hS : Sat E w L) [Row P t α C] [hr : Rds C L s l] (j : Nat) (hj : i = (j : Int)) (hn : n = l.length) (hlt : j < l.length)
    (hk : ∀ a x, l[j]? = some x → EA C s l a (C.enc x) → El C s j a → K (.pointer (some a)) w) : pN P (oIdx t (.slice s.a n s.c) (.int k i)) w K := by
  obtain ⟨a, x, h1, h2, h3, h4⟩ := run_ix (P := P) (t := t) (k := k) (s := s) hS j hj hn hlt
  rw [pN_def, h1, rN_value]
  exact hk a x h2 h3 h4
theorem pA_ix (hS : Sat E w L) [Row P t α C] [hr : Rds C L s l] (j : Nat) (hj : i = (j : Int)) (hn : n = l.length) (hlt : j < l.length)
    (hk : ∀ a x, l[j]? = some x → EA C s l a (C.enc x) → El C s j a → J (.pointer (some a))) : pA P (oIdx t (.slice s.a n s.c) (.int k i)) J := by
  obtain ⟨a, x, h1, h2, h3, h4⟩ := run_ix (P := P) (t := t) (k := k) (s := s) hS j hj hn hlt
  exact ⟨_, h1, hk a x h2 h3 h4⟩

theorem pN_ixk {x : α} (hS : Sat E w L) [Row P t α C] [hr : Rds C L s l] (j : Nat) (hj : i = (j : Int)) (hn : n = l.length) (hx : l[j]? = some x)
    (hk : ∀ a, EA C s l a (C.enc x) → El C s j a → K (.pointer (some a)) w) : pN P (oIdx t (.slice s.a n s.c) (.int k i)) w K :=
  pN_ix hS j hj hn (List.getElem?_eq_some_iff.1 hx).1 fun a y h1 h2 h3 => by
    rw [hx, Option.some.injEq] at h1
    subst h1
    exact hk a h2 h3
theorem pA_ixk {x : α} (hS : Sat E w L) [Row P t α C] [hr : Rds C L s l] (j : Nat) (hj : i = (j : Int)) (hn : n = l.length) (hx : l[j]? = some x)
    (hk : ∀ a, EA C s l a (C.enc x) → El C s j a → J (.pointer (some a))) : pA P (oIdx t (.slice s.a n s.c) (.int k i)) J :=
  pA_ix hS j hj hn (List.getElem?_eq_some_iff.1 hx).1 fun a y h1 h2 h3 => by
    rw [hx, Option.some.injEq] at h1
    subst h1
    exact hk a h2 h3

theorem pN_ld_at {z : Nat} {a : Addr} {cs : List Value} (ha : EA C s l a cs) (hS : Sat E w L) [hr : Rds C L s l] [Ag P t z] (hn : z = cs.length) (hk : K (.agg cs.toArray) w) : pN P (oLoad t (.pointer (some a))) w K :=
  pN_ld_n Ag.ag Ag.sz hn (ha.at_ E w L hr hS) hk
theorem pL_ld_at {z : Nat} {a : Addr} {cs : List Value} (ha : EA C s l a cs) (hS : Sat E w L) [hr : Rds C L s l] [Ag P t z] (hn : z = cs.length) (hk : J (.agg cs.toArray)) : pL P (oLoad t (.pointer (some a))) w J := by
  subst hn
  exact ⟨_, run_load_agg Ag.ag Ag.sz (ha.at_ E w L hr hS), hk⟩
theorem run_ld1 {a : Addr} (ha : EA C s l a [v]) (hS : Sat E w L) [hr : Rds C L s l] [Sc P t] : (oLoad t (.pointer (some a))).run P w = .ok (.value v) w := by
  refine run_load Sc.na ?_
  have := ha.at_ E w L hr hS 0 v rfl
  rwa [Addr.add_zero'] at this
theorem pN_ld1 {a : Addr} (ha : EA C s l a [v]) (hS : Sat E w L) [hr : Rds C L s l] [Sc P t] (hk : K v w) : pN P (oLoad t (.pointer (some a))) w K := by
  rw [pN_def, run_ld1 ha hS, rN_value]; exact hk
theorem pL_ld1 {a : Addr} (ha : EA C s l a [v]) (hS : Sat E w L) [hr : Rds C L s l] [Sc P t] (hk : J v) : pL P (oLoad t (.pointer (some a))) w J :=
  ⟨v, run_ld1 ha hS, hk⟩
theorem pN_srn {j : Nat} {a : Addr} {x : α} {us : Array Value} (hel : El C s j a) (hS : Sat E w L) [hf : Fnd (rows C s) L l M] {z : Nat} [Ag P t z] (hz : z = C.size) (hx : C.enc x = us.toList) (hj : j < l.length)
    (hk : ∀ w', Sat E w' (rows C s (l.set j x) :: M) → K undef w') : pN P (oStore t (.pointer (some a)) (.agg us)) w K := by
  have h0 := hS.fd (rows C s)
  obtain ⟨b, hb, rfl⟩ := hel
  have hlen := C.len x
  rw [hx, Array.length_toList] at hlen
  have hro := h0.own_at 0 rfl
  obtain ⟨_, ⟨h, _⟩ | ⟨g, cap, cur, hv, _⟩⟩ := hro
  · simp only [Value.slice.injEq] at h
    rw [hb] at h
    cases h.1
  · simp only [Value.slice.injEq, true_and] at hv
    obtain ⟨h1, h2⟩ := hv
    rw [hb, Option.some.injEq] at h1
    subst h1 h2
    unfold rows at h0
    rw [hb] at h0
    rw [Addr.add_lit, Nat.zero_add]
    refine pN_st_own_n h0 Ag.sz (hz.trans hlen.symm) hlen (by rw [← hx]; exact C.one x) hj fun w' h3 => hk w' ?_
    unfold rows
    rw [hb, List.length_set, ← C.flat_put l j x hj, hx]
    exact h3
theorem pN_sr {j : Nat} {a : Addr} {x : α} (hel : El C s j a) (hS : Sat E w L) [hf : Fnd (rows C s) L l M] [Sc P t] (hz : C.size = 1) (hx : C.enc x = [v]) (hj : j < l.length)
    (hk : ∀ w', Sat E w' (rows C s (l.set j x) :: M) → K undef w') : pN P (oStore t (.pointer (some a)) v) w K := by
  have h0 := hS.fd (rows C s)
  obtain ⟨b, hb, rfl⟩ := hel
  have h1' := C.one x v (by rw [hx]; exact List.mem_singleton.2 rfl)
  have hro := h0.own_at 0 rfl
  obtain ⟨_, ⟨h, _⟩ | ⟨g, cap, cur, hv, _⟩⟩ := hro
  · simp only [Value.slice.injEq] at h
    rw [hb] at h
    cases h.1
  · simp only [Value.slice.injEq, true_and] at hv
    obtain ⟨h1, h2⟩ := hv
    rw [hb, Option.some.injEq] at h1
    subst h1 h2
    unfold rows at h0
    rw [hb] at h0
    rw [Addr.add_lit, Nat.zero_add, hz, Nat.mul_one]
    have hfl := C.flat_len l
    rw [hz, Nat.mul_one] at hfl
    refine pN_st_own h0 Sc.sz h1' (by omega) fun w' h3 => hk w' ?_
    unfold rows
    have hp := C.flat_put l j x hj
    rw [hz, Nat.mul_one, hx] at hp
    rw [hb, List.length_set, ← hp]
    rw [List.set_eq_take_append_cons_drop, if_pos (by omega)] at h3
    simpa using h3

theorem own_sl {e : TypeId} {size : Nat} {xs : List Value} (hS : Sat E w (own e size v n xs :: L)) : ∃ s : Sl, v = .slice s.a n s.c := by
  obtain ⟨_, ⟨rfl, rfl⟩ | ⟨g, cap, cur, rfl, _⟩⟩ := hS.own_at 0 rfl
  · exact ⟨⟨none, 0⟩, rfl⟩
  · exact ⟨⟨_, _⟩, rfl⟩

theorem rows_len (s : Sl) (hS : Sat E w L) [h : Fnd (rows C s) L l M] : l.length ≤ 9223372036854775807 := by
  obtain ⟨_, ⟨_, h⟩ | ⟨g, cap, cur, _, _, _, h1, h2, _⟩⟩ := (hS.fd (rows C s)).own_at 0 rfl
  · omega
  · unfold maxLen at h2; omega

theorem room63 {a b : Nat} (hb : 0 < b) (h : a * b ≤ 140737488355328) : a ≤ 9223372036854775807 := by
  have : a * 1 ≤ a * b := Nat.mul_le_mul_left a hb
  omega

theorem pN_app {cs : List Bool} (hS : Sat E w L) [hw : Row P t α C] [hf : Fnd (rows C s) L l M] [hr : Rds C L s2 m] {z : Nat} [hz : Bt C z] (hn : n = l.length) (hn2 : n2 = m.length) (hb : (l.length + m.length) * z ≤ 140737488355328)
    (hk : ∀ s' w', Sat E w' (rows C s' (l ++ m) :: M) → K (.slice s'.a (l ++ m).length s'.c) w') : pN P (oBi .append #[t, t] ty cs [.slice s.a n s.c, .slice s2.a n2 s2.c]) w K := by
  subst hn hn2
  rw [← hz.eq] at hb
  have h0 := hS.fd (rows C s)
  have hrd := hS.rds (C := C) (s := s2)
  refine pN_append Row.slt h0 hrd (C.flat_one m) hb (room63 hw.bpos hb) fun v' w' h1 => ?_
  obtain ⟨s', rfl⟩ := own_sl h1
  rw [← C.flat_append, ← List.length_append] at h1
  rw [← List.length_append]
  exact hk s' w' h1
theorem pN_app0 {cs : List Bool} (hS : Sat E w L) [hw : Row P t α C] [hr : Rds C L s2 m] {z : Nat} [hz : Bt C z] (hn2 : n2 = m.length) (hb : m.length * z ≤ 140737488355328)
    (hk : ∀ s' w', Sat E w' (rows C s' m :: L) → K (.slice s'.a m.length s'.c) w') : pN P (oBi .append #[t, t] ty cs [.slice none 0 0, .slice s2.a n2 s2.c]) w K := by
  rw [← hz.eq] at hb
  have hrd := hS.rds (C := C) (s := s2)
  subst hn2
  have h0 := hS.nil C.e C.size
  refine pN_append Row.slt h0 hrd (C.flat_one m) (by rw [Nat.zero_add]; exact hb) (room63 hw.bpos (by rw [Nat.zero_add]; exact hb)) fun v' w' h1 => ?_
  rw [Nat.zero_add, List.nil_append] at h1
  obtain ⟨s', rfl⟩ := own_sl h1
  exact hk s' w' h1

theorem fill_size (off : Nat) : ∀ (us : List Value) (k : Nat) (cells : Array Value), ((us.zipIdx k).foldl (fun cs (c, j) => cs.setIfInBounds (off + j) c) cells).size = cells.size
  | [], _, _ => rfl
  | u :: us, k, cells => by
    rw [List.zipIdx_cons, List.foldl_cons, fill_size off us (k + 1)]
    simp
theorem fill_one (off : Nat) : ∀ (us : List Value) (k : Nat) (cells : Array Value), off + k + us.length ≤ cells.size → ∀ i : Nat,
    ((us.zipIdx k).foldl (fun cs (c, j) => cs.setIfInBounds (off + j) c) cells)[i]? = if off + k ≤ i ∧ i < off + k + us.length then us[i - (off + k)]? else cells[i]?
  | [], k, cells, _, i => by rw [if_neg (by simp only [List.length_nil]; omega)]; rfl
  | u :: us, k, cells, h, i => by
    simp only [List.length_cons] at h
    rw [List.zipIdx_cons, List.foldl_cons]
    dsimp only
    rw [fill_one off us (k + 1) _ (by (try simp only [Array.size_setIfInBounds]); omega)]
    by_cases h1 : off + (k + 1) ≤ i ∧ i < off + (k + 1) + us.length
    · rw [if_pos h1, if_pos (by (try simp only [List.length_cons]); omega)]
      rw [show i - (off + k) = (i - (off + (k + 1))) + 1 from by omega, List.getElem?_cons_succ]
    · rw [if_neg h1, Array.getElem?_setIfInBounds]
      by_cases h2 : off + k = i
      · rw [if_pos h2, if_pos (by (try simp only [List.length_cons]); omega)]
        subst h2
        have : off + k < cells.size := by omega
        simp [this]
      · rw [if_neg h2, if_neg (by (try simp only [List.length_cons]); omega)]

theorem fill_lit (size : Nat) : ∀ (us : List Value) (xs : List (List Value)) (k : Nat) (cells : Array Value), us.map (fun u => u.cells.toList) = xs → (∀ x ∈ xs, x.length = size) → (k + us.length) * size ≤ cells.size →
    ∃ r : Array Value, Instr.fill (fun i => some (i * size, size)) cells ((us.zipIdx k).map fun p => (p.2, p.1)) = some r ∧ r.size = cells.size ∧
      ∀ i : Nat, r[i]? = if k * size ≤ i ∧ i < (k + us.length) * size then xs.flatten[i - k * size]? else cells[i]?
  | [], xs, k, cells, hx, _, _ => ⟨cells, rfl, rfl, fun i => by rw [if_neg (by simp only [List.length_nil, Nat.add_zero]; omega)]⟩
  | u :: us, xs, k, cells, hx, hs, hl => by
    subst hx
    have hu : u.cells.size = size := by have := hs u.cells.toList (by simp); simpa using this
    have e1 : (k + 1) * size = k * size + size := by rw [Nat.add_mul, Nat.one_mul]
    have e5 : (k + 1 + us.length) * size = k * size + size + us.length * size := by rw [Nat.add_mul, Nat.add_mul, Nat.one_mul]
    have e6 : (k + (u :: us).length) * size = k * size + size + us.length * size := by rw [List.length_cons, Nat.add_mul, Nat.add_mul, Nat.one_mul]; omega
    rw [e6] at hl
    have hf := fill_one (k * size) u.cells.toList 0 cells (by simp only [Array.length_toList]; omega)
    have hz := fill_size (k * size) u.cells.toList 0 cells
    generalize hc : (u.cells.toList.zipIdx 0).foldl (fun cs (c, j) => cs.setIfInBounds (k * size + j) c) cells = cells' at hf hz
    obtain ⟨r, h1, h2, h3⟩ := fill_lit size us _ (k + 1) cells' rfl (fun x hx => hs x (by simp only [List.map_cons, List.mem_cons]; exact .inr hx)) (by rw [e5]; omega)
    refine ⟨r, ?_, h2.trans hz, fun i => ?_⟩
    · rw [List.zipIdx_cons, List.map_cons]
      simp only [Instr.fill]
      rw [if_neg (by simp [hu]; omega), ← h1, ← hc]
      congr 1
      rw [← Array.foldl_toList]
      simp
    · rw [h3, hf, e1, e5, e6]
      simp only [Array.length_toList, hu, Nat.add_zero, List.map_cons, List.flatten_cons]
      by_cases c1 : k * size + size ≤ i ∧ i < k * size + size + us.length * size
      · rw [if_pos c1, if_pos (by omega), List.getElem?_append_right (by simp only [Array.length_toList, hu]; omega)]
        simp only [Array.length_toList, hu]
        congr 1
        omega
      · rw [if_neg c1]
        by_cases c2 : k * size ≤ i ∧ i < k * size + size
        · rw [if_pos c2, if_pos (by omega), List.getElem?_append_left (by simp only [Array.length_toList, hu]; omega)]
        · rw [if_neg c2, if_neg (by omega)]

theorem pN_bl {ps : List (Nat × Value)} (us : List Value) (xs : List α) (hp : ps = us.zipIdx.map fun p => (p.2, p.1)) (hn : n = us.length) (hx : us.map (fun u => u.cells.toList) = xs.map C.enc) (h0 : 0 < us.length) (hS : Sat E w L) [hw : Row P t α C] (hz : us.length * C.size ≤ 16777216)
    (hk : ∀ s' w', Sat E w' (rows C s' xs :: L) → K (.slice s'.a xs.length s'.c) w') : pN P (oBs t n ps) w K := by
  subst hp hn
  have ht := Row.slt (P := P) (t := t) (C := C)
  have hlen : us.length = xs.length := by simpa using congrArg List.length hx
  obtain ⟨r, h1, h2, hg⟩ := fill_lit C.size us _ 0 (madeCells (Classical.choose hw.st).cells (us.length * C.size)) hx (by intro x hx; obtain ⟨a, _, rfl⟩ := List.mem_map.1 hx; exact C.len a) (by rw [size_madeCells, Nat.zero_add]; exact Nat.le_refl _)
  rw [size_madeCells] at h2
  have h3 : r.toList = C.flat xs := by
    apply List.ext_getElem?
    intro i
    rw [Array.getElem?_toList, hg, Nat.zero_mul, Nat.zero_add, Nat.sub_zero]
    by_cases hi : i < us.length * C.size
    · rw [if_pos ⟨Nat.zero_le _, hi⟩]; rfl
    · rw [if_neg (by omega), Array.getElem?_eq_none (by rw [size_madeCells]; omega), List.getElem?_eq_none (by rw [C.flat_len, ← hlen]; omega)]
  refine pN_bs ht (cells := r) h0 hz h1 (by
    have := congrArg List.length h3
    rw [Array.length_toList, C.flat_len] at this
    rw [this, hlen]) hS fun v' w' h4 => ?_
  obtain ⟨s', rfl⟩ := own_sl h4
  rw [hlen, h3] at h4
  rw [hlen]
  exact hk s' w' h4
theorem pN_b1 {u : Value} {x : α} (hS : Sat E w L) [Row P t α C] (hx : C.enc x = u.cells.toList) (hz : C.size ≤ 16777216)
    (hk : ∀ s' w', Sat E w' (rows C s' [x] :: L) → K (.slice s'.a 1 s'.c) w') : pN P (oBs t 1 [(0, u)]) w K :=
  pN_bl [u] [x] rfl rfl (by simp [hx]) (by simp) hS (by simpa using hz) hk
theorem pN_b0 (hS : Sat E w L) [Row P t α C] (hk : ∀ s' w', Sat E w' (rows C s' [] :: L) → K (.slice s'.a 0 s'.c) w') : pN P (oBs t 0 []) w K := by
  refine pN_bs0 (Row.slt (C := C)) hS fun v' w' h1 => ?_
  obtain ⟨s', rfl⟩ := own_sl h1
  exact hk s' w' h1

theorem flat_made [hw : Row P t α C] (j : Nat) : (madeCells (Classical.choose hw.st).cells (j * C.size)).toList = C.flat (List.replicate j C.zero) := by
  have hz := Row.zero (P := P) (t := t) (C := C)
  have hl := C.len C.zero
  have hzs : (Classical.choose hw.st).cells.size = C.size := by rw [← Array.length_toList, hz, hl]
  apply List.ext_getElem?
  intro i
  by_cases hi : i < j * C.size
  · have hpos : 0 < C.size := by
      rcases Nat.eq_zero_or_pos C.size with h0 | h0
      · rw [h0] at hi; omega
      · exact h0
    have hr : i % C.size < C.size := Nat.mod_lt _ hpos
    have hq : i / C.size < j := by rw [Nat.div_lt_iff_lt_mul hpos]; exact hi
    have e1 : i / C.size * C.size + i % C.size = i := by rw [Nat.mul_comm]; exact Nat.div_add_mod _ _
    have e2 := C.flat_get (List.replicate j C.zero) (i / C.size) C.zero (by simp [hq])
    have e3 : (C.flat (List.replicate j C.zero))[i]? = (C.enc C.zero)[i % C.size]? := by
      rw [← e2, List.getElem?_take, if_pos hr, List.getElem?_drop, e1]
    rw [e3]
    have e4 : (Classical.choose hw.st).cells.toList[i % C.size]? = (C.enc C.zero)[i % C.size]? := by rw [hz]
    rw [← e4]
    generalize (Classical.choose hw.st).cells = zz at hzs
    have e5 : i < (Array.range (j * C.size)).size := by simpa using hi
    simp [madeCells, hi, hzs, hr]
  · rw [List.getElem?_eq_none (by rw [Array.length_toList, size_madeCells]; omega), List.getElem?_eq_none (by rw [C.flat_len, List.length_replicate]; omega)]
theorem pN_mk {z : Nat} (hS : Sat E w L) [hw : Row P t α C] [hz : Bt C z] (j : Nat) (hj : i = (j : Int)) (hb : z * j ≤ 281474976710656)
    (hk : ∀ s' w', Sat E w' (rows C s' (List.replicate j C.zero) :: L) → K (.slice s'.a j s'.c) w') : pN P (oMk t (.int k i) (.int k' i)) w K := by
  subst hj
  rw [← hz.eq] at hb
  refine pN_make (Row.slt (C := C)) hb (by
    have : 1 * j ≤ C.bytes * j := Nat.mul_le_mul_right j hw.bpos
    omega) hS fun v' w' h1 => ?_
  obtain ⟨s', rfl⟩ := own_sl h1
  refine hk s' w' ?_
  unfold rows
  rw [List.length_replicate, ← flat_made (P := P) (t := t)]
  exact h1
theorem pN_mk0 {z : Nat} (hS : Sat E w L) [hw : Row P t α C] [hz : Bt C z] (j : Nat) (hj : i = (j : Int)) (hb : z * j ≤ 281474976710656)
    (hk : ∀ s' w', Sat E w' (rows C s' [] :: L) → K (.slice s'.a 0 s'.c) w') : pN P (oMk t (.int k 0) (.int k' i)) w K := by
  subst hj
  rw [← hz.eq] at hb
  refine pN_make0 (Row.slt (C := C)) hb (by
    have : 1 * j ≤ C.bytes * j := Nat.mul_le_mul_right j hw.bpos
    omega) hS fun v' w' h1 => ?_
  obtain ⟨s', rfl⟩ := own_sl h1
  exact hk s' w' h1

theorem Rds.sub [h : Rds C L s l] (a b : Nat) (h1 : a ≤ b) (h2 : b ≤ l.length) : Rds C L (s.sub a C.size) ((l.drop a).take (b - a)) := ⟨fun E w hS => by
  have := (h.rd E w hS).sub a b h1 h2
  rw [subV_sl, C.flat_drop, C.flat_take] at this
  rw [show ((l.drop a).take (b - a)).length = b - a from by simp only [List.length_take, List.length_drop]; omega]
  exact this⟩

omit [Pan] in
class Part {α : Type} (C : Cd α) (s : Sl) (l : List α) (s' : Sl) (l' : List α) : Prop where
  rd : ∀ L, Rds C L s l → Rds C L s' l'

variable {k1 k2 : IntKind} {i1 i2 : Int} {lo hi : Nat}
theorem pN_sl2 (hS : Sat E w L) [Row P t α C] [h : Rds C L s l] (lo hi : Nat) (h1 : i1 = (lo : Int)) (h2 : i2 = (hi : Int)) (hn : n = l.length) (hlo : lo ≤ hi) (hhi : hi ≤ l.length)
    (hk : ∀ s', Part C s l s' ((l.drop lo).take (hi - lo)) → K (.slice s'.a (hi - lo) s'.c) w) : pN P (oSl t (.slice s.a n s.c) (some (.int k1 i1)) (some (.int k2 i2)) none) w K := by
  subst h1 h2 hn
  refine pN_sl (Row.slt (C := C)) (hS.rds (C := C) (s := s)) (by omega) (by omega) (by omega) ?_
  rw [Int.toNat_natCast, Int.toNat_natCast, subV_sl]
  exact hk _ ⟨fun L h => Rds.sub lo hi hlo hhi⟩
theorem pN_sl1 (hS : Sat E w L) [Row P t α C] [h : Rds C L s l] (lo : Nat) (h1 : i1 = (lo : Int)) (hn : n = l.length) (hlo : lo ≤ l.length)
    (hk : ∀ s', Part C s l s' (l.drop lo) → K (.slice s'.a (l.length - lo) s'.c) w) : pN P (oSl t (.slice s.a n s.c) (some (.int k1 i1)) none none) w K := by
  subst h1 hn
  refine pN_sl_l (Row.slt (C := C)) (hS.rds (C := C) (s := s)) (by omega) (by omega) ?_
  rw [Int.toNat_natCast, subV_sl]
  refine hk _ ⟨fun L h => ?_⟩
  have := Rds.sub (C := C) (L := L) (s := s) (l := l) lo l.length hlo (Nat.le_refl _)
  rwa [List.take_of_length_le (by simp)] at this
omit [Pan] in
class StrT (P : Program) (t d : TypeId) (B : outParam (Cd UInt8)) : Prop where
  e : ∃ e, P.underlying t = some (.slice e) ∧ P.underlying e = some (.int .u8)
  d : P.underlying d = some .string
  size : B.size = 1
  enc : ∀ b, B.enc b = [bv b]
theorem StrT.flat {d : TypeId} {B : Cd UInt8} [h : StrT P t d B] (l : List UInt8) : B.flat l = bvs l := B.flat_single bv h.enc l

theorem run_st {d : TypeId} {B : Cd UInt8} {l : List UInt8} (hS : Sat E w L) [h : StrT P t d B] [hr : Rds B L s l] (hn : n = l.length) : (oConv t d (.slice s.a n s.c)).run P w = .ok (.value (.string ⟨l.toArray⟩)) w := by
  subst hn
  obtain ⟨e, h1, h2⟩ := h.e
  have := hS.rds (C := B) (s := s)
  rw [h.size, StrT.flat (P := P) (t := t) (d := d)] at this
  exact run_str h1 h2 h.d this
theorem pN_st {d : TypeId} {B : Cd UInt8} {l : List UInt8} (hS : Sat E w L) [h : StrT P t d B] [hr : Rds B L s l] (hn : n = l.length) (hk : K (.string ⟨l.toArray⟩) w) : pN P (oConv t d (.slice s.a n s.c)) w K := by
  rw [pN_def, run_st hS hn, rN_value]; exact hk
theorem pL_st {d : TypeId} {B : Cd UInt8} {l : List UInt8} (hS : Sat E w L) [h : StrT P t d B] [hr : Rds B L s l] (hn : n = l.length) (hk : J (.string ⟨l.toArray⟩)) : pL P (oConv t d (.slice s.a n s.c)) w J :=
  ⟨_, run_st hS hn, hk⟩
end

section
variable [Pan] {P : Program} {w : World} {K : Value → World → Prop}
theorem pN_fn {fn : Fn} {first cap : List Value} (hk : K (.func fn first.toArray cap.toArray) w) : pN P (oFn fn first cap) w K := by
  have : (oFn fn first cap).run P w = .ok (.value (.func fn first.toArray cap.toArray)) w := run_oV_ok rfl
  rw [pN_def, this, rN_value]; exact hk
theorem pN_callV {f : FuncId} {cap args : List Value} (hc : ∀ (args : Array Value) (w : World), (callFunc f args).run P w = .ok (.enter f args) w)
    (h : Calls P f (args ++ cap).toArray w (retP K)) : pN P (oCallV (.func (.func f) [].toArray cap.toArray) args) w K := by
  have : (oCallV (.func (.func f) [].toArray cap.toArray) args).run P w = .ok (.enter f (args ++ cap).toArray) w := by
    have e : oCallV (.func (.func f) [].toArray cap.toArray) args = callFunc f ((#[] ++ args.toArray) ++ cap.toArray) := rfl
    rw [e, hc]
    simp
  rw [pN_def, this, rN_enter]
  exact h
end
section
variable [Pan] {P : Program} {w : World} {K : Value → World → Prop} {J : Value → Prop} {v : Value} {m : Sem Next}
theorem pN_v (h : ∀ K : Value → World → Prop, pN P m w K = K v w := by
      intro K; simp (disch := omega) only [go_sem, pN_min, pN_max, w_u32, w_u64, Option.isNone_some, Option.isNone_none]; (try simp only [wrap_u32, wrap_u64]); rfl) (hk : K v w) : pN P m w K := by rw [h]; exact hk
theorem pA_v (h : ∀ K : Value → Prop, pA P m K = K v := by
      intro K; simp (disch := omega) only [go_sem, pN_min, pN_max, w_u32, w_u64, Option.isNone_some, Option.isNone_none]; (try simp only [wrap_u32, wrap_u64]); rfl) (hk : J v) : pA P m J := by rw [h]; exact hk
end
end Go.Proofs.YtbgnnjfpiblkmaaGreatDoor

namespace Go.Proofs.YtbgnnjfpiblkmaaGreatDoor
open Go

section
variable {P : Program} {ops : Array Oper} {QS : Exit → Act → List Frame → World → Prop} {md : Region.Mode}

def wpOpS (P : Program) (ops : Array Oper) (Q : Exit → Act → List Frame → World → Prop) (i : Nat) (K : Act → List Frame → World → Prop) (a : Act) (cs : List Frame) (w : World) : Prop :=
  match ops[i]? with
  | none => K a cs w
  | some o =>
    if Region.wanted o (yielded ops a.tmps) then
      match (execOp a.eval o).run P w with
      | .ok .recover w' =>
        match recoverD cs with
        | some (v, cs') => K (a.put o.dst v) cs' w'
        | none => K (a.put o.dst .nilIface) cs w'
      | r => o.upon P a (fun a' w' => K a' cs w') (fun e a' w' => Q e a' cs w') r
    else K (a.put o.dst undef) cs w

theorem wpOpsS_cons (i : Nat) (rest : List Nat) (a : Act) (cs : List Frame) (w : World) : wpOpsS P ops QS (i :: rest) a cs w = wpOpS P ops QS i (wpOpsS P ops QS rest) a cs w := by
  cases h : ops[i]? with
  | none => simp [wpOpsS, wpOpS, h]
  | some o => simp only [wpOpsS, wpOpS, h] <;> rfl

theorem upon_mono2 {o : Oper} {a : Act} {r : Result Next} {K K' : Act → World → Prop} {Q Q' : Exit → Act → World → Prop} (h : ∀ a w, K a w → K' a w) (hp : ∀ c a w, Q (.panic c) a w → Q' (.panic c) a w) (ho : LetsOut Q → LetsOut Q')
    (hh : o.upon P a K Q r) : o.upon P a K' Q' r := by
  cases r with
  | ok n w' =>
    cases n <;> simp only [Oper.upon] at hh ⊢ <;>
      first
        | exact h _ _ hh
        | exact Calls.mono hh (fun e w'' he => by cases e <;> first | exact h _ _ he | exact hp _ _ _ he | exact ho he)
        | exact Rows.mono hh (fun _ _ he => h _ _ he)
  | halt x w' => cases x <;> simp only [Oper.upon] at hh ⊢ <;> exact hp _ _ _ hh

theorem wpOpS_mono {i : Nat} {a : Act} {cs : List Frame} {w : World} {K K' : Act → List Frame → World → Prop} (h : ∀ a cs w, K a cs w → K' a cs w)
    (hh : wpOpS P ops QS i K a cs w) : wpOpS P ops QS i K' a cs w := by
  unfold wpOpS at *
  split
  · exact h _ _ _ (by simpa [*] using hh)
  · rename_i o ho
    simp only [ho] at hh
    split
    · rename_i hw
      simp only [hw, if_true] at hh
      split
      · rename_i w' hr
        simp only [hr] at hh
        split
        · rename_i v cs' hc; simp only [hc] at hh; exact h _ _ _ hh
        · rename_i hc; simp only [hc] at hh; exact h _ _ _ hh
      · rename_i r hnot
        split at hh
        · rename_i w' hr; exact absurd hr (hnot w')
        · exact upon_mono2 (fun a w => h a cs w) (fun c a w h => h) (fun h => h) hh
    · rename_i hw; simp only [hw] at hh; exact h _ _ _ hh

def wpAnyS (P : Program) (md : Region.Mode) (ops : Array Oper) (Q : Exit → Act → List Frame → World → Prop) : Nat → Array Bool → Act → List Frame → World → Prop
  | 0, listed, a, cs, w => Region.ready md ops listed = [] ∧ Q .normal a cs w
  | fuel + 1, listed, a, cs, w =>
    (Region.ready md ops listed = [] → Q .normal a cs w) ∧
    ∀ i ∈ Region.ready md ops listed, wpOpS P ops Q i (wpAnyS P md ops Q fuel (listed.setIfInBounds i true)) a cs w

theorem wpAnyS_sound : ∀ (fuel t : Nat) (listed : Array Bool) (a : Act) (cs : List Frame) (w : World), wpAnyS P md ops QS fuel listed a cs w →
    wpOpsS P ops QS (Region.linearise.go md ops fuel t listed []) a cs w := by
  intro fuel
  induction fuel with
  | zero => intro t listed a cs w h; simpa [Region.linearise.go, wpOpsS] using h.2
  | succ fuel ih =>
    intro t listed a cs w h
    obtain ⟨h₀, h₁⟩ := h
    simp only [Region.linearise.go]
    change wpOpsS P ops QS (match (Region.ready md ops listed)[t % (Region.ready md ops listed).length]? with
      | some i => Region.linearise.go md ops fuel (t / (Region.ready md ops listed).length) (listed.setIfInBounds i true) [i]
      | none => [].reverse) a cs w
    cases hi : (Region.ready md ops listed)[t % (Region.ready md ops listed).length]? with
    | none =>
      have hnil : Region.ready md ops listed = [] := by
        cases hr : Region.ready md ops listed with
        | nil => rfl
        | cons x xs =>
          rw [hr] at hi
          have hlt : t % (x :: xs).length < (x :: xs).length := Nat.mod_lt _ (by simp)
          simp at hi
          simp at hlt
          omega
      simpa [wpOpsS] using h₀ hnil
    | some i =>
      simp only []
      rw [linearise_go_acc, List.reverse_singleton, List.singleton_append, wpOpsS_cons]
      exact wpOpS_mono (fun a cs w => ih _ _ a cs w) (h₁ i (List.mem_of_getElem? hi))

theorem wpS_region_any {id : Nat} {a : Act} {cs : List Frame} {w : World} (hm : P.follows .mixedOrders = true)
    (h : wpAnyS P .any ops QS ops.size (Array.replicate ops.size false) a cs { w with drawn := w.drawn + 1 }) : (Code.region id ops true).wpS P QS a cs w := by
  intro b k hb hr
  have h1 := wpAnyS_sound ops.size (w.tape w.drawn (.order b.fn id)) _ a cs _ h
  obtain ⟨e, a', cs', w', q, r⟩ := wp_opsS _ a cs _ h1 b k hb hr
  refine ⟨e, a', cs', w', q, .of_steps (.one ?_) r⟩
  have := step_region_draw (P := P) (b := b) (a := a) (k := k) (cs := cs) (w := w) (ops := ops) (id := id)
  simp only [Region.schedule, hm, Bool.true_or, if_true] at this
  exact this

def recList : List Oper → Nat → Value → List Oper
  | [], _, _ => []
  | o :: l, 0, v => { o with op := .assign (.const v) } :: l
  | o :: l, n + 1, v => o :: recList l n v
def recOps (ops : Array Oper) (r : Nat) (v : Value) : Array Oper := (recList ops.toList r v).toArray

theorem recList_get : ∀ (l : List Oper) (r : Nat) (v : Value) (i : Nat), (recList l r v)[i]? = if i = r then (l[i]?).map (fun o => { o with op := .assign (.const v) }) else l[i]?
  | [], r, v, i => by simp [recList]
  | o :: l, 0, v, i => by cases i <;> simp [recList]
  | o :: l, r + 1, v, i => by
    cases i with
    | zero => simp [recList]
    | succ i => simp [recList, recList_get l r v i]
theorem recList_length : ∀ (l : List Oper) (r : Nat) (v : Value), (recList l r v).length = l.length
  | [], _, _ => rfl
  | o :: l, 0, v => rfl
  | o :: l, r + 1, v => by simp [recList, recList_length l r v]
theorem recOps_get (ops : Array Oper) (r : Nat) (v : Value) (i : Nat) : (recOps ops r v)[i]? = if i = r then (ops[i]?).map (fun o => { o with op := .assign (.const v) }) else ops[i]? := by
  simp only [recOps, List.getElem?_toArray, recList_get, Array.getElem?_toList]
theorem recOps_size (ops : Array Oper) (r : Nat) (v : Value) : (recOps ops r v).size = ops.size := by simp [recOps, recList_length]
theorem recOps_map {α : Type} (f : Oper → α) (hf : ∀ o v, f { o with op := .assign (.const v) } = f o) (ops : Array Oper) (r : Nat) (v : Value) (i : Nat) : ((recOps ops r v)[i]?).map f = (ops[i]?).map f := by
  rw [recOps_get]
  split
  · cases ops[i]? with
    | none => rfl
    | some o => simp [hf o v]
  · rfl
theorem recOps_ready (ops : Array Oper) (r : Nat) (v : Value) (listed : Array Bool) : Region.ready md (recOps ops r v) listed = Region.ready md ops listed := by
  unfold Region.ready
  rw [recOps_size]
  congr 1
  funext i
  rw [recOps_map (fun o => o.after.all fun e => !Region.binds md e || listed.getD e.on false) (fun _ _ => rfl)]
theorem recOps_yielded (ops : Array Oper) (r : Nat) (v : Value) (tmps : Array Value) : yielded (recOps ops r v) tmps = yielded ops tmps := by
  funext j
  unfold yielded
  have h : ((recOps ops r v)[j]?).bind (·.dst) = (ops[j]?).bind (·.dst) := by
    rw [recOps_get]
    split
    · cases ops[j]? <;> rfl
    · rfl
  rw [h]

structure RecAt (P : Program) (ops : Array Oper) (r : Nat) : Prop where
  is : ∃ o, ops[r]? = some o ∧ (∀ ρ w, (execOp ρ o).run P w = .ok .recover w) ∧ o.guard = none ∧ o.after = #[]

theorem wpAnyS_of (r : Nat) (v : Value) (cs cs2 : List Frame) (hr : RecAt P ops r) (hv : recoverD cs = some (v, cs2) ∨ (recoverD cs = none ∧ v = .nilIface ∧ cs2 = cs)) {Q : Exit → Act → World → Prop} (hQ : ∀ c a w, ¬ Q (.panic c) a w) (hO : ¬ LetsOut Q) :
    ∀ (fuel : Nat) (listed : Array Bool) (a : Act) (w : World), listed.size = ops.size → wpAny P .any (recOps ops r v) Q fuel listed a w →
      wpAnyS P .any ops (fun e a' cs' w' => cs' = cs2 ∧ Q e a' w') fuel listed a (if listed.getD r false = true then cs2 else cs) w := by
  obtain ⟨o, ho, hrun, hg, haft⟩ := hr.is
  have hrlt : r < ops.size := (Array.getElem?_eq_some_iff.1 ho).1
  have done : ∀ listed : Array Bool, listed.size = ops.size → Region.ready .any ops listed = [] → listed.getD r false = true := by
    intro listed hs h0
    have h1 : r ∉ Region.ready .any ops listed := by rw [h0]; exact List.not_mem_nil
    rw [mem_ready] at h1
    cases hl : listed.getD r true with
    | true => simpa [hs, hrlt] using hl
    | false => exact absurd ⟨hl, o, ho, fun e he => by rw [haft] at he; simp at he⟩ h1
  intro fuel
  induction fuel with
  | zero =>
    intro listed a w hs h
    obtain ⟨h0, h1⟩ := h
    rw [recOps_ready] at h0
    exact ⟨h0, by rw [if_pos (done listed hs h0)], h1⟩
  | succ fuel ih =>
    intro listed a w hs h
    obtain ⟨h0, h1⟩ := h
    rw [recOps_ready] at h0 h1
    refine ⟨fun h2 => ⟨by rw [if_pos (done listed hs h2)], h0 h2⟩, fun i hi => ?_⟩
    have hw := h1 i hi
    have hs' : (listed.setIfInBounds i true).size = ops.size := by simpa using hs
    obtain ⟨hun, oi, hoi, _⟩ := mem_ready.1 hi
    by_cases hir : i = r
    · subst hir
      have hl : listed.getD i false = false := by simpa [hs, hrlt] using hun
      have hl2 : (listed.setIfInBounds i true).getD i false = true := by simp [hs, hrlt]
      rw [hl]
      unfold wpOp at hw
      rw [recOps_get, if_pos rfl, ho] at hw
      simp only [Option.map_some, Region.wanted, hg, if_true] at hw
      have hw := hw.resolve_right fun h => hO h.2
      simp only [Oper.wp, Oper.upon, execOp] at hw
      have hw : wpAny P .any (recOps ops i v) Q fuel (listed.setIfInBounds i true) (a.put o.dst v) w := hw
      have H := ih _ _ _ hs' hw
      rw [hl2] at H
      unfold wpOpS
      simp only [ho, Region.wanted, hg, if_true, hrun, Bool.false_eq_true, if_false]
      rcases hv with hv | ⟨hv, rfl, rfl⟩
      · simp only [hv]; exact H
      · simp only [hv]; simpa using H
    · have hl2 : (listed.setIfInBounds i true).getD r false = listed.getD r false := getD_set_ne false hir
      unfold wpOp at hw
      rw [recOps_get, if_neg hir, hoi, recOps_yielded] at hw
      simp only at hw
      unfold wpOpS
      simp only [hoi]
      split
      · rename_i hwt
        simp only [hwt, if_true] at hw
        have hw := hw.resolve_right fun h => hO h.2
        unfold Oper.wp at hw
        split
        · rename_i w' hrr
          rw [hrr] at hw
          exact hw.elim
        · refine upon_mono2 (fun a w h => ?_) (fun c a w h => absurd h (hQ c a w)) (fun h => absurd h hO) hw
          have H := ih _ a w hs' h
          rw [hl2] at H
          exact H
      · rename_i hwt
        simp only [hwt] at hw
        have H := ih _ _ _ hs' hw
        rw [hl2] at H
        exact H
end

section
variable {P : Program} {H : Hints} {v : Value}

theorem wpS_mono {c : Code} {Q Q' : Exit → Act → List Frame → World → Prop} {a : Act} {cs : List Frame} {w : World} (h : c.wpS P Q a cs w) (hq : ∀ e a cs w, Q e a cs w → Q' e a cs w) : c.wpS P Q' a cs w :=
  fun b k hb hr => let ⟨e, a', cs', w', q, r⟩ := h b k hb hr; ⟨e, a', cs', w', hq _ _ _ _ q, r⟩

inductive RSp (P : Program) (H : Hints) (v : Value) : Code → Code → Prop
  | here (id : Nat) (ops : Array Oper) (r : Nat) : RecAt P ops r → RSp P H v (.region id ops true) (.region id (recOps ops r v) true)
  | left (x x' y : Code) : RSp P H v x x' → (firstRg y).bind H.cut = none → RSp P H v (.seq x y) (.seq x' y)
  | right (id : Nat) (ops : Array Oper) (b : Bool) (y y' : Code) : RSp P H v y y' → (firstRg y').bind H.cut = none → RSp P H v (.seq (.region id ops b) y) (.seq (.region id ops b) y')

def recCode (rid r : Nat) (v : Value) : Code → Code
  | .region id ops b => match Nat.beq id rid with
    | true => .region id (recOps ops r v) b
    | false => .region id ops b
  | .seq x y => .seq (recCode rid r v x) (recCode rid r v y)
  | c => c

def recB (ops : Array Oper) (r : Nat) : Bool :=
  match nthO ops.toList r with
  | some o => match o.op, o.guard, o.after.toList with
    | .call { callee := .builtin .recover, args := a, .. }, none, [] => Nat.beq a.size 0
    | _, _, _ => false
  | none => false

def rspB (H : Hints) (rid r : Nat) : Code → Bool
  | .seq (.region id ops b) y => ((firstRg y).bind H.cut).isNone && match Nat.beq id rid with
    | true => b && recB ops r && noRg rid y
    | false => rspB H rid r y
  | _ => false
where noRg (rid : Nat) : Code → Bool
  | .region id _ _ => !Nat.beq id rid
  | .seq x y => noRg rid x && noRg rid y
  | _ => true

theorem recB_at {ops : Array Oper} {r : Nat} (h : recB ops r = true) : RecAt P ops r := by
  unfold recB at h
  rw [nthO_eq, Array.getElem?_toList] at h
  split at h
  · rename_i o ho
    split at h
    · rename_i a ats hop hg haft
      have ha := Nat.eq_of_beq_eq_true h
      refine ⟨o, ho, fun ρ w => ?_, hg, by simpa using haft⟩
      obtain ⟨dst, op, type, pos, after, guard⟩ := o
      subst hop
      have ha2 : a = #[] := by simpa using ha
      subst ha2
      rfl
    · cases h
  · cases h
theorem recCode_no (rid r : Nat) (v : Value) : ∀ y : Code, rspB.noRg rid y = true → recCode rid r v y = y := by
  intro y
  induction y with
  | region id ops b =>
    intro h
    simp only [rspB.noRg, Bool.not_eq_true'] at h
    simp only [recCode, h]
  | seq x y ihx ihy =>
    intro h
    simp only [rspB.noRg, Bool.and_eq_true] at h
    simp only [recCode, ihx h.1, ihy h.2]
  | _ => intro _; rfl
theorem firstRg_rec (rid r : Nat) (v : Value) : ∀ y : Code, firstRg (recCode rid r v y) = firstRg y := by
  intro y
  induction y with
  | region id ops b => simp only [recCode]; split <;> rfl
  | seq x y ihx ihy => simp only [recCode, firstRg, ihx, ihy]
  | _ => rfl
theorem rsp_of (P : Program) (H : Hints) (rid r : Nat) (v : Value) : ∀ {c : Code}, rspB H rid r c = true → RSp P H v c (recCode rid r v c) := by
  intro c
  induction c with
  | seq x y _ ihy =>
    intro h
    cases x with
    | region id ops b =>
      simp only [rspB, Bool.and_eq_true, Option.isNone_iff_eq_none] at h
      obtain ⟨hcut, h⟩ := h
      cases hid : Nat.beq id rid with
      | true =>
        simp only [hid, Bool.and_eq_true] at h
        obtain ⟨⟨rfl, h1⟩, h2⟩ := h
        simp only [recCode, hid, recCode_no rid r v y h2]
        exact .left _ _ _ (.here id ops r (recB_at h1)) hcut
      | false =>
        simp only [hid] at h
        simp only [recCode, hid]
        exact .right _ _ _ _ _ (ihy h) (by rw [firstRg_rec]; exact hcut)
    | _ => simp [rspB] at h
  | _ => intro h; simp [rspB] at h

theorem cw_wpS (hm : P.follows .mixedOrders = true) {n : Frm} {cs cs2 : List Frame} (hv : recoverD cs = some (v, cs2) ∨ (recoverD cs = none ∧ v = .nilIface ∧ cs2 = cs)) {c c' : Code} (hc : RSp P H v c c') :
    ∀ {Q : PQ} {ρ : Env} {w : World} {a : Act}, served H n c' = true → Fits n a ρ → @cw Pan.no P H c' Q ρ w →
      c.wpS P (fun e a' cs' w' => cs' = cs2 ∧ @UpQ Pan.no n a (writes c') Q e a' w') a cs w := by
  induction hc with
  | here id ops r hr =>
    intro Q ρ w a hs hf h
    have hO : ¬ LetsOut (@UpQ Pan.no n a (writes (.region id (recOps ops r v) true)) Q) := fun ⟨_, _, h⟩ => h
    refine wpS_region_any hm ?_
    have key : wpAny P .any (recOps ops r v) (@UpQ Pan.no n a (writes (.region id (recOps ops r v) true)) Q) ops.size (Array.replicate ops.size false) a { w with drawn := w.drawn + 1 } := by
      simp only [served, Bool.and_eq_true] at hs
      obtain ⟨⟨hs1, hs2⟩, hs3⟩ := hs
      simp only [List.all_eq_true] at hs1
      simp only [cw, pDr] at h
      have hsz := recOps_size ops r v
      rw [← hsz]
      refine wpAny_of_T _ _ [] _ _ ?_
      have hcl : Clo (recOps ops r v) (Array.replicate (recOps ops r v).size false) := by
        intro j o ho hl
        have hlt := (Array.getElem?_eq_some_iff.1 ho).1
        simp [hlt] at hl
      have hlt : ∀ t ∈ opWrites (recOps ops r v).toList, n.lo ≤ t ∧ t < n.n := fun t ht => by
        have := hs1 t ht
        simp only [Bool.and_eq_true, Nat.blt_eq, Nat.ble_eq] at this
        exact ⟨this.2, this.1⟩
      cases ho : H.order id with
      | nil =>
        rw [ho] at h
        exact dw_any (P := P) hs2 hlt (Q := @UpQ Pan.no n a (writes (.region id (recOps ops r v) true)) Q) (fun c a w => Iff.rfl) a
          (fun a' ρ' w' hk hf' hq => ⟨hk, ρ', hf', hq⟩) (recOps ops r v).size _ [] ρ a _ hcl hf (fun _ _ => rfl) (fun p hp => by cases hp) h
      | cons p rr =>
        rw [ho] at h hs3
        simp only [Bool.and_eq_true] at hs3
        obtain ⟨⟨hok, hlen⟩, hed⟩ := hs3
        have hlen := Nat.eq_of_beq_eq_true hlen
        simp only [Array.length_toList] at hok hlen hed
        have hb : ∀ (j : Nat) (o : Oper), (recOps ops r v)[j]? = some o → ∀ e ∈ o.after, Region.binds .any e = true → e.on < (recOps ops r v).size := by
          intro j o hj e he _
          simp only [List.all_eq_true] at hed
          have := hed o (by simpa using Array.mem_of_getElem? hj) e (by simpa using he)
          simpa [Nat.blt_eq] using this
        have hrel : RelM (recOps ops r v).size 0 (Array.replicate (recOps ops r v).size false) := ⟨by simp, fun j hj => by simp [hj]⟩
        have H := dwS_any (P := P) hs2 hlt hb (Q := @UpQ Pan.no n a (writes (.region id (recOps ops r v) true)) Q) (fun c a w => Iff.rfl) a
          (fun a' ρ' w' hk hf' hq => ⟨hk, ρ', hf', hq⟩) (p :: rr) 0 _ [] ρ a _ hrel hok hcl hf (fun _ _ => rfl) (fun p hp => by cases hp) h
        rw [hlen] at H
        exact H
    have H := wpAnyS_of r v cs cs2 hr hv (fun c a w h => h.z) hO ops.size _ a _ (by simp) key
    have e : (Array.replicate ops.size false).getD r false = false := by
      simp only [Array.getD_eq_getD_getElem?, Array.getElem?_replicate]
      split <;> rfl
    rw [e] at H
    simpa using H
  | left x x' y hx hcut ih =>
    intro Q ρ w a hs hf h
    simp only [served, Bool.and_eq_true, hcut] at hs
    simp only [cw, hcut] at h
    refine wpS_seq (wpS_mono (ih hs.1.1 hf h) fun e a' cs' w' hq => ?_)
    obtain ⟨rfl, hq⟩ := hq
    cases e with
    | panic c => exact ⟨rfl, hq⟩
    | outgrown => exact hq.elim
    | goto l => exact hq.elim
    | normal =>
      obtain ⟨hk, ρ', hf', hq'⟩ := hq
      refine wpS_mono (wpS_of_wp (wp_mono (cw_wp (n := n) hm y hs.1.2 hf' hq') fun e a'' w'' h => (⟨rfl, UpQ.next hk e a'' w'' h⟩ : cs' = cs' ∧ _))) fun e a cs w h => h
    | exit id => exact ⟨rfl, UpQ.mono (ws := writes x') (Q := Q) (by simp [writes]; intro t ht; exact .inl ht) (fun _ _ _ h => h) (.exit id) a' w' hq⟩
    | ret => exact ⟨rfl, UpQ.mono (ws := writes x') (Q := Q) (by simp [writes]; intro t ht; exact .inl ht) (fun _ _ _ h => h) .ret a' w' hq⟩
  | right id ops b y y' hy hcut ih =>
    intro Q ρ w a hs hf h
    simp only [served, Bool.and_eq_true, hcut] at hs
    simp only [cw, hcut] at h
    have h1 := cw_wp (n := n) hm (.region id ops b) (by cases b <;> simpa [served] using hs.1.1) hf (Q := fun e ρ' w' => match e with
      | .normal => @cw Pan.no P H y' Q ρ' w'
      | _ => False) (by cases b <;> simpa only [cw] using h)
    refine wpS_seq (wpS_of_wp (wp_mono h1 fun e a' w' hq => ?_))
    cases e with
    | panic c => exact hq.z.elim
    | outgrown => exact hq.elim
    | goto l => exact hq.elim
    | exit id => exact hq.2.choose_spec.2.elim
    | ret => exact hq.2.choose_spec.2.elim
    | normal =>
      obtain ⟨hk, ρ', hf', hq'⟩ := hq
      exact wpS_mono (ih hs.1.2 hf' hq') fun e a'' cs' w'' h => ⟨h.1, UpQ.next hk e a'' w'' h.2⟩

theorem callsD_of_cw (hm : P.follows .mixedOrders = true) {f : FuncId} {fn : Func} {c c' : Code} {args : List Value} {w : World} {K : Value → World → Prop} {u u2 : FrameMode}
    (hu : (∃ older, u = .panicking ({ v := v, recovered := false } :: older) ∧ u2 = .panicking ({ v := v, recovered := true } :: older)) ∨ (u = .returning ∧ v = .nilIface ∧ u2 = .returning))
    (hfn : P.funcs[f]? = some fn) (hb : fn.body = some c) (hc : RSp P H v c c') (hs : served H (Frm.new fn.ntmps) c' = true) (ha : args.length ≤ fn.ntmps)
    (h : @cw Pan.no P H c' (endQ P fn.results.toList K) (argsE args) w) : CallsD P f args.toArray u w fun e u' w' => u' = u2 ∧ ∃ r, e = .returned r ∧ K r w' := by
  refine callsD_of_wpS hfn hb fun c₀ cs hu₀ => ?_
  have hf := fits_new fn.ntmps args ha
  have hv : recoverD (c₀ :: cs) = some (v, { c₀ with mode := u2 } :: cs) ∨ (recoverD (c₀ :: cs) = none ∧ v = .nilIface ∧ { c₀ with mode := u2 } :: cs = c₀ :: cs) := by
    rcases hu with ⟨older, rfl, rfl⟩ | ⟨rfl, rfl, rfl⟩
    · left; simp [recoverD, hu₀]
    · right
      refine ⟨by simp [recoverD, hu₀], rfl, ?_⟩
      rw [← hu₀]
  refine wpS_mono (cw_wpS hm hv hc hs hf h) fun e a' cs' w' hq => ?_
  obtain ⟨rfl, hq⟩ := hq
  cases e with
  | panic c => exact hq.z.elim
  | outgrown => exact hq.elim
  | goto l => exact hq.elim
  | exit id => obtain ⟨_, ρ', _, hq⟩ := hq; exact hq.elim
  | normal =>
    obtain ⟨_, ρ', hf', hq⟩ := hq
    obtain ⟨vs, hr, hK⟩ := resW_run _ _ hq
    exact ⟨hf'.defers, u2, rfl, _, results_one hf' fn w' P vs hr, rfl, _, rfl, by simpa using hK⟩
  | ret =>
    obtain ⟨_, ρ', hf', hq⟩ := hq
    obtain ⟨vs, hr, hK⟩ := resW_run _ _ hq
    exact ⟨hf'.defers, u2, rfl, _, results_one hf' fn w' P vs hr, rfl, _, rfl, by simpa using hK⟩
end

def pDf (P : Program) (m : Sem Next) (w : World) (K : Deferred → Prop) : Prop := ∃ d, m.run P w = .ok (.defer d) w ∧ K d

def dE (P : Program) (d : Deferred) (u : FrameMode) (w : World) (K : World → Prop) : Prop :=
  ∃ fv cap f args, d.target = .fn fv cap ∧ (invoke d.target d.args).run P w = .ok (.enter f args) w ∧ CallsD P f args u w fun e u' w' => (∃ v, e = .returned v) ∧ settle u' = .returning ∧ K w'

def rgD [Pan] (P : Program) (ops : Array Oper) : List Oper → Env → World → (Deferred → Env → World → Prop) → Prop
  | [], _, _, _ => False
  | [o], ρ, w, K => pDf P (execE ρ o) w fun d => K d (ρ.put o.dst undef) w
  | o :: rest, ρ, w, K => opW P ops o ρ w fun v w' => rgD P ops rest (ρ.put o.dst v) w' K

def isDf : List Oper → Bool
  | [] => false
  | [o] => match o.op, o.guard with
    | .defer _, none => true
    | _, _ => false
  | _ :: r => isDf r

def cwZ (P : Program) (H : Hints) (rs : List ResultVar) (K : Value → World → Prop) (y : Code) (d : Deferred) (ρ : Env) (w : World) : Prop :=
  ∃ Z : Pan, (∀ ch w', Z.z ch w' → dE P d (.panicking ch) w' fun w'' => resW P rs [] ρ w'' K) ∧
    @cw Z P H y (fun e ρ' w' => match e with
      | .normal => dE P d .returning w' fun w'' => resW P rs [] ρ' w'' K
      | .ret => dE P d .returning w' fun w'' => resW P rs [] ρ' w'' K
      | _ => False) ρ w

def cwD [Pan] (P : Program) (H : Hints) (rs : List ResultVar) (K : Value → World → Prop) : Code → Env → World → Prop
  | .seq x y, ρ, w => match x with
    | .region _ ops false => match isDf ops.toList with
      | true => rgD P ops ops.toList ρ w fun d ρ' w' => cwZ P H rs K y d ρ' w'
      | false => rgW P ops ops.toList ρ w fun ρ' w' => cwD P H rs K y ρ' w'
    | x => match (firstRg y).bind H.cut with
      | none => cw P H x (thenE (fun ρ' w' => cwD P H rs K y ρ' w') (endQ P rs K)) ρ w
      | some (live, mods) => cutW (fun Q' => cw P H x Q' ρ w) (fun ρ' w' => cwD P H rs K y ρ' w') live mods (endQ P rs K) ρ
  | _, _, _ => False

def rsIn (lo : Nat) : List ResultVar → Bool
  | [] => true
  | .tmp t :: r => Nat.blt t lo && rsIn lo r
  | .cell a _ :: r => Nat.blt a lo && rsIn lo r

def servedD (H : Hints) (n lo : Nat) : Code → Bool
  | .seq x y => match x with
    | .region _ ops false => ((opWrites ops.toList).all fun t => Nat.blt t n) && match isDf ops.toList with
      | true => served H ⟨n, lo, [], fun _ => undef⟩ y
      | false => servedD H n lo y
    | x => served H (Frm.new n) x && servedD H n lo y && (match (firstRg y).bind H.cut with
      | none => true
      | some (_, mods) => (writes x).all fun t => mods.testBit t)
  | _ => false

theorem served_frm {H : Hints} {n m : Frm} (h1 : n.n = m.n) (h2 : n.lo = m.lo) : ∀ c : Code, served H n c = served H m c := by
  intro c
  induction c with
  | region id ops b => cases b <;> simp only [served, h1, h2]
  | seq x y ihx ihy => simp only [served, ihx, ihy]
  | cond c x y ihx ihy => simp only [served, ihx, ihy]
  | block id c ih => simp only [served, ih]
  | loop c ih => simp only [served, ih]
  | _ => rfl

section
variable [Pan] {P : Program} {H : Hints}

theorem rgD_wp {n : Frm} {ops : Array Oper} (l : List Oper) : ∀ {a : Act} {ρ : Env} {w : World} {K : Deferred → Env → World → Prop} {Q : Exit → Act → World → Prop}, isDf l = true → 
    (∀ c a w, PZ n a c w → Q (.panic c) a w) → (∀ t ∈ opWrites l, n.lo ≤ t ∧ t < n.n) → Fits n a ρ → rgD P ops l ρ w K →
    (∀ d a' ρ' w', Fits { n with ds := d :: n.ds } a' ρ' → K d ρ' w' → Q .normal a' w') → wpList P ops Q l a w := by
  induction l with
  | nil => intro a ρ w K Q hd; cases hd
  | cons o rest ih =>
    intro a ρ w K Q hdf hQ hw hf h hK
    have hd : ∀ t, o.dst = some t → n.lo ≤ t ∧ t < n.n := fun t ht => hw t (by simp [opWrites, ht])
    cases rest with
    | nil =>
      obtain ⟨d, hr, h⟩ := h
      have hg : o.guard = none := by
        simp only [isDf] at hdf
        split at hdf
        · assumption
        · cases hdf
      refine wpList_plain hg fun K' hK' => ?_
      unfold Oper.wp
      rw [hf.eval, ← execE_eq, hr]
      simp only [Oper.upon]
      refine hK' _ _ ?_
      refine hK d _ _ w ?_ h
      have hf2 := hf.put hd undef
      refine ⟨by rw [← hf2.size]; cases o.dst <;> rfl, ?_, fun t => ?_, fun t ht => hf2.low t ht⟩
      · cases o.dst <;> simp [Act.put, hf.defers]
      · rw [← hf2.get t]
        cases o.dst <;> rfl
    | cons o2 rest =>
      have hrest : ∀ t ∈ opWrites (o2 :: rest), n.lo ≤ t ∧ t < n.n := fun t ht => hw t (by
        rw [opWrites]; split
        · exact List.mem_cons_of_mem _ ht
        · exact ht)
      have hgo : ∀ v w', rgD P ops (o2 :: rest) (ρ.put o.dst v) w' K → wpList P ops Q (o2 :: rest) (a.put o.dst v) w' := fun v w' hr =>
        ih (by simpa only [isDf] using hdf) hQ hrest (hf.put hd v) hr hK
      simp only [rgD] at h
      cases hg : o.guard with
      | none => exact wpList_plain hg fun K' hK' => pN_wp hf (fun c w h => hQ c a w h) (opW_none hg h) fun v w' hr => hK' _ _ (hgo v w' hr)
      | some g =>
        obtain ⟨j, want⟩ := g
        simp only [opW, hg] at h
        refine wpList_step fun K' hK' => ?_
        simp only [Region.wanted, hg, hf.yielded ops]
        simp only [pGd] at h
        split
        · rename_i hy
          rw [if_pos hy] at h
          exact pN_wp hf (fun c w h => hQ c a w h) h fun v w' hr => hK' _ _ (hgo v w' hr)
        · rename_i hy
          rw [if_neg hy] at h
          exact hK' _ _ (hgo _ _ h)

theorem resW_congr {lo : Nat} {ρ ρ' : Env} (hl : ∀ t, t < lo → ρ' t = ρ t) {w : World} {K : Value → World → Prop} : ∀ (rs : List ResultVar) (acc : List Value), rsIn lo rs = true → resW P rs acc ρ w K → resW P rs acc ρ' w K
  | [], acc, _, h => h
  | .tmp t :: r, acc, hr, h => by
    simp only [rsIn, Bool.and_eq_true, Nat.blt_eq] at hr
    simp only [resW] at h ⊢
    rw [hl t hr.1]
    exact resW_congr hl r _ hr.2 h
  | .cell a t :: r, acc, hr, h => by
    simp only [rsIn, Bool.and_eq_true, Nat.blt_eq] at hr
    simp only [resW] at h ⊢
    rw [hl a hr.1]
    obtain ⟨v, h1, h2⟩ := h
    exact ⟨v, h1, resW_congr hl r _ hr.2 h2⟩

theorem leaves_end {fn : Func} {n : Frm} {a : Act} {ρ : Env} {w : World} {K : Value → World → Prop} (hf : Fits n a ρ) (h : resW P fn.results.toList [] ρ w K) : Leaves P fn a.tmps (retP K) [] .returning w := by
  obtain ⟨vs, hr, hK⟩ := resW_run _ _ h
  exact ⟨_, results_one hf fn w P vs hr, by simpa [retP] using hK⟩

theorem leaves_dE {fn : Func} {a : Act} {ρ : Env} {w : World} {K : Value → World → Prop} {u : FrameMode} (hu : u ≠ .run) {d : Deferred} {lo : Nat} (hrs : rsIn lo fn.results.toList = true) (hl : ∀ t, t < lo → a.tmps.getD t undef = ρ t)
    (h : dE P d u w fun w'' => resW P fn.results.toList [] ρ w'' K) : Leaves P fn a.tmps (retP K) [d] u w := by
  obtain ⟨fv, cap, f, args, ht, hi, h⟩ := h
  refine ⟨hu, fv, cap, f, args, ht, hi, h.mono fun e u' w' he => ?_⟩
  obtain ⟨⟨v, rfl⟩, hs, hK⟩ := he
  show Leaves P fn a.tmps (retP K) [] (settle u') w'
  rw [hs]
  have hf : Fits ⟨a.tmps.size, 0, a.defers, fun _ => undef⟩ a (fun t => a.tmps.getD t undef) := ⟨rfl, rfl, fun _ => rfl, fun t ht => absurd ht (Nat.not_lt_zero t)⟩
  exact leaves_end hf (resW_congr hl _ _ hrs hK)

omit [Pan] in
theorem cwZ_wp (hm : P.follows .mixedOrders = true) {fn : Func} {lo : Nat} {K : Value → World → Prop} {R : Ending → World → Prop} {y : Code} {d : Deferred} {ρ : Env} {a : Act} {w : World}
    (hL : ∀ (u : FrameMode) (a : Act) (ρ : Env) (w : World), u ≠ .run → (∀ t, t < lo → a.tmps.getD t undef = ρ t) → (dE P d u w fun w'' => resW P fn.results.toList [] ρ w'' K) → Leaves P fn a.tmps R [d] u w)
    (hs : served H ⟨fn.ntmps, lo, [], fun _ => undef⟩ y = true) (hf : Fits { Frm.new fn.ntmps with ds := [d] } a ρ) (hz : cwZ P H fn.results.toList K y d ρ w) : y.wp P (bodyPostD P fn R) a w := by
  obtain ⟨Z, hz1, hz2⟩ := hz
  have hfF : Fits ⟨fn.ntmps, lo, [d], ρ⟩ a ρ := ⟨hf.size, hf.defers, hf.get, fun _ _ => rfl⟩
  have s2 : served H ⟨fn.ntmps, lo, [d], ρ⟩ y = true := (served_frm (H := H) (n := ⟨fn.ntmps, lo, [d], ρ⟩) (m := ⟨fn.ntmps, lo, [], fun _ => undef⟩) rfl rfl y).trans hs
  refine wp_mono (@cw_wp Z P hm H _ y _ _ _ _ s2 hfF hz2) fun e a'' w'' hq => ?_
  cases e with
  | panic c =>
    show Leaves P fn a''.tmps R a''.defers (.panicking c) w''
    rw [hq.defers]
    exact hL _ _ _ _ (by simp) hq.low (hz1 _ _ hq.z)
  | outgrown => exact hq.elim
  | goto l => exact hq.elim
  | exit id => exact hq.2.choose_spec.2.elim
  | normal =>
    obtain ⟨_, ρ2, hf2, hq⟩ := hq
    show Leaves P fn a''.tmps R a''.defers .returning w''
    rw [hf2.defers]
    exact hL _ _ _ _ (by simp) (fun t _ => hf2.get t) hq
  | ret =>
    obtain ⟨_, ρ2, hf2, hq⟩ := hq
    show Leaves P fn a''.tmps R a''.defers .returning w''
    rw [hf2.defers]
    exact hL _ _ _ _ (by simp) (fun t _ => hf2.get t) hq

theorem cwD_wp (hm : P.follows .mixedOrders = true) {fn : Func} {lo : Nat} {K : Value → World → Prop} (hrs : rsIn lo fn.results.toList = true) : ∀ (c : Code) {ρ : Env} {w : World} {a : Act},
    servedD H fn.ntmps lo c = true → Fits (Frm.new fn.ntmps) a ρ → cwD P H fn.results.toList K c ρ w → c.wp P (bodyPostD P fn (retP K)) a w := by
  intro c
  induction c with
  | seq x y _ ihy =>
    intro ρ w a hs hf h
    refine wp_seq ?_
    have fin : ∀ {e : Exit} {a' : Act} {w' : World} {ws : List Nat} {Q : Env → World → Prop} (_ : @UpQ _ (Frm.new fn.ntmps) a ws (thenE Q (endQ P fn.results.toList K)) e a' w') (_ : e ≠ .normal), bodyPostD P fn (retP K) e a' w' := by
      intro e a' w' ws Q hq hne
      cases e with
      | normal => exact absurd rfl hne
      | panic c => 
        show Leaves P fn a'.tmps (retP K) a'.defers (.panicking c) w'
        rw [hq.defers]
        exact hq.z
      | outgrown => exact hq.elim
      | goto l => exact hq.elim
      | exit id => exact hq.2.choose_spec.2.elim
      | ret =>
        obtain ⟨_, ρ', hf', hq'⟩ := hq
        show Leaves P fn a'.tmps (retP K) a'.defers .returning w'
        rw [hf'.defers]
        exact leaves_end hf' hq'
    have pn : ∀ c a' w', PZ (Frm.new fn.ntmps) a' c w' → bodyPostD P fn (retP K) (.panic c) a' w' := fun c a' w' hq => by
      show Leaves P fn a'.tmps (retP K) a'.defers (.panicking c) w'
      rw [hq.defers]
      exact hq.z
    have gen : served H (Frm.new fn.ntmps) x = true → servedD H fn.ntmps lo y = true → (match (firstRg y).bind H.cut with
        | none => true
        | some (_, mods) => (writes x).all fun t => mods.testBit t) = true → (match (firstRg y).bind H.cut with
        | none => cw P H x (thenE (fun ρ' w' => cwD P H fn.results.toList K y ρ' w') (endQ P fn.results.toList K)) ρ w
        | some (live, mods) => cutW (fun Q' => cw P H x Q' ρ w) (fun ρ' w' => cwD P H fn.results.toList K y ρ' w') live mods (endQ P fn.results.toList K) ρ) →
        x.wp P (Exit.then (y.wp P (bodyPostD P fn (retP K))) (bodyPostD P fn (retP K))) a w := by
      intro s1 s2 s3 h
      split at h
      · refine wp_mono (cw_wp hm x s1 hf h) fun e a' w' hq => ?_
        cases e with
        | normal =>
          obtain ⟨_, ρ', hf', hq'⟩ := hq
          exact ihy s2 hf' hq'
        | panic c => exact fin hq (by simp)
        | outgrown => exact fin hq (by simp)
        | goto l => exact fin hq (by simp)
        | exit id => exact fin hq (by simp)
        | ret => exact fin hq (by simp)
      · rename_i live mods hcut
        rw [hcut] at s3
        simp only [List.all_eq_true] at s3
        have hmods : ∀ t, mods.testBit t = false → t ∉ writes x := by
          intro t ht hm
          rw [s3 t hm] at ht; cases ht
        obtain ⟨I, hx, hy⟩ := h
        refine wp_mono (cw_wp hm x s1 hf hx) fun e a' w' hq => ?_
        cases e with
        | normal =>
          obtain ⟨hk, ρ', hf', hq'⟩ := hq
          have hy' := allV_get (hy ρ') (live.map ρ') (by simp) w' hq'
          have hme : mkE ρ mods ρ' live (live.map ρ') = ρ' := mkE_self ρ ρ' _ (fun t ht => by rw [← hf'.get t, hk t (hmods t ht), hf.get t]) live
          dsimp only at hy'
          rw [hme] at hy'
          exact ihy s2 hf' hy'
        | panic c => exact fin (Q := fun ρ' w' => apP live.length I (live.map ρ') w') hq (by simp)
        | outgrown => exact fin (Q := fun ρ' w' => apP live.length I (live.map ρ') w') hq (by simp)
        | goto l => exact fin (Q := fun ρ' w' => apP live.length I (live.map ρ') w') hq (by simp)
        | exit id => exact fin (Q := fun ρ' w' => apP live.length I (live.map ρ') w') hq (by simp)
        | ret => exact fin (Q := fun ρ' w' => apP live.length I (live.map ρ') w') hq (by simp)
    cases x with
    | region id ops b =>
      cases b with
      | false =>
        simp only [servedD, Bool.and_eq_true, List.all_eq_true] at hs
        simp only [cwD] at h
        have hlt : ∀ t ∈ opWrites ops.toList, (Frm.new fn.ntmps).lo ≤ t ∧ t < (Frm.new fn.ntmps).n := fun t ht => ⟨Nat.zero_le _, by simpa [Nat.blt_eq] using hs.1 t ht⟩
        cases hdf : isDf ops.toList with
        | true =>
          rw [hdf] at h hs
          refine wp_region_list (rgD_wp ops.toList hdf (fun c a w h => pn c a w h) hlt hf h fun d a' ρ' w' hf' hz => ?_)
          exact cwZ_wp hm (R := retP K) (fun u a ρ w hu hl h => leaves_dE hu hrs hl h) hs.2 hf' hz
        | false =>
          rw [hdf] at h hs
          refine wp_region_list (rgW_wp ops.toList (fun c a w h => pn c a w h) hlt hf h fun a' ρ' w' _ hf' hq => ?_)
          exact ihy hs.2 hf' hq
      | true =>
        simp only [servedD, Bool.and_eq_true] at hs
        simp only [cwD] at h
        exact gen hs.1.1 hs.1.2 hs.2 h
    | _ =>
      simp only [servedD, Bool.and_eq_true] at hs
      simp only [cwD] at h
      exact gen hs.1.1 hs.1.2 hs.2 h
  | _ => intro ρ w a hs; simp [servedD] at hs

theorem calls_of_cwD (hm : P.follows .mixedOrders = true) {f : FuncId} {fn : Func} {c : Code} {args : List Value} {w : World} {K : Value → World → Prop} (lo : Nat)
    (hfn : P.funcs[f]? = some fn) (hb : fn.body = some c) (hs : servedD H fn.ntmps lo c = true) (hrs : rsIn lo fn.results.toList = true) (ha : args.length ≤ fn.ntmps)
    (h : cwD P H fn.results.toList K c (argsE args) w) : Calls P f args.toArray w (retP K) :=
  calls_of_wp_defers hfn hb (cwD_wp hm hrs c hs (fits_new fn.ntmps args ha) h)
end

end Go.Proofs.YtbgnnjfpiblkmaaGreatDoor

namespace Go.Proofs.YtbgnnjfpiblkmaaGreatDoor
open Go

theorem mixed : Tryz.prog.follows .mixedOrders = true := by kernel_rfl
section
variable [Pan] {w : World} {K : Value → World → Prop} {J : Value → Prop}

theorem st_sl_int : SlT Tryz.prog 217 3 (.int .i64 0) 1 8 := ⟨Tryz.underlying217, info_parts (by kernel_rfl), rfl, by decide⟩
theorem pN_conv_int_uint8 (k : IntKind) (n : Int) : pN Tryz.prog (oConv 3 5 (.int k n)) w K = K (.int .u8 (IntKind.wrap .u8 n)) w := pN_conv k n Tryz.underlying3 Tryz.underlying5
theorem pA_conv_int_uint8 (k : IntKind) (n : Int) : pA Tryz.prog (oConv 3 5 (.int k n)) J = J (.int .u8 (IntKind.wrap .u8 n)) := pA_conv k n Tryz.underlying3 Tryz.underlying5
theorem pL_conv_int_uint8 (k : IntKind) (n : Int) : pL Tryz.prog (oConv 3 5 (.int k n)) w J = J (.int .u8 (IntKind.wrap .u8 n)) := pL_conv k n Tryz.underlying3 Tryz.underlying5
theorem pN_conv_int_uint32 (k : IntKind) (n : Int) : pN Tryz.prog (oConv 3 148 (.int k n)) w K = K (.int .u32 (IntKind.wrap .u32 n)) w := pN_conv k n Tryz.underlying3 Tryz.underlying148
theorem pA_conv_int_uint32 (k : IntKind) (n : Int) : pA Tryz.prog (oConv 3 148 (.int k n)) J = J (.int .u32 (IntKind.wrap .u32 n)) := pA_conv k n Tryz.underlying3 Tryz.underlying148
theorem pL_conv_int_uint32 (k : IntKind) (n : Int) : pL Tryz.prog (oConv 3 148 (.int k n)) w J = J (.int .u32 (IntKind.wrap .u32 n)) := pL_conv k n Tryz.underlying3 Tryz.underlying148
theorem pN_conv_uint8_int (k : IntKind) (n : Int) : pN Tryz.prog (oConv 5 3 (.int k n)) w K = K (.int .i64 (IntKind.wrap .i64 n)) w := pN_conv k n Tryz.underlying5 Tryz.underlying3
theorem pA_conv_uint8_int (k : IntKind) (n : Int) : pA Tryz.prog (oConv 5 3 (.int k n)) J = J (.int .i64 (IntKind.wrap .i64 n)) := pA_conv k n Tryz.underlying5 Tryz.underlying3
theorem pL_conv_uint8_int (k : IntKind) (n : Int) : pL Tryz.prog (oConv 5 3 (.int k n)) w J = J (.int .i64 (IntKind.wrap .i64 n)) := pL_conv k n Tryz.underlying5 Tryz.underlying3
theorem pN_conv_uint8_uint32 (k : IntKind) (n : Int) : pN Tryz.prog (oConv 5 148 (.int k n)) w K = K (.int .u32 (IntKind.wrap .u32 n)) w := pN_conv k n Tryz.underlying5 Tryz.underlying148
theorem pA_conv_uint8_uint32 (k : IntKind) (n : Int) : pA Tryz.prog (oConv 5 148 (.int k n)) J = J (.int .u32 (IntKind.wrap .u32 n)) := pA_conv k n Tryz.underlying5 Tryz.underlying148
theorem pL_conv_uint8_uint32 (k : IntKind) (n : Int) : pL Tryz.prog (oConv 5 148 (.int k n)) w J = J (.int .u32 (IntKind.wrap .u32 n)) := pL_conv k n Tryz.underlying5 Tryz.underlying148
theorem pN_conv_uint32_int (k : IntKind) (n : Int) : pN Tryz.prog (oConv 148 3 (.int k n)) w K = K (.int .i64 (IntKind.wrap .i64 n)) w := pN_conv k n Tryz.underlying148 Tryz.underlying3
theorem pA_conv_uint32_int (k : IntKind) (n : Int) : pA Tryz.prog (oConv 148 3 (.int k n)) J = J (.int .i64 (IntKind.wrap .i64 n)) := pA_conv k n Tryz.underlying148 Tryz.underlying3
theorem pL_conv_uint32_int (k : IntKind) (n : Int) : pL Tryz.prog (oConv 148 3 (.int k n)) w J = J (.int .i64 (IntKind.wrap .i64 n)) := pL_conv k n Tryz.underlying148 Tryz.underlying3
theorem pN_conv_uint_uint32 (k : IntKind) (n : Int) : pN Tryz.prog (oConv 169 148 (.int k n)) w K = K (.int .u32 (IntKind.wrap .u32 n)) w := pN_conv k n Tryz.underlying169 Tryz.underlying148
theorem pA_conv_uint_uint32 (k : IntKind) (n : Int) : pA Tryz.prog (oConv 169 148 (.int k n)) J = J (.int .u32 (IntKind.wrap .u32 n)) := pA_conv k n Tryz.underlying169 Tryz.underlying148
theorem pL_conv_uint_uint32 (k : IntKind) (n : Int) : pL Tryz.prog (oConv 169 148 (.int k n)) w J = J (.int .u32 (IntKind.wrap .u32 n)) := pL_conv k n Tryz.underlying169 Tryz.underlying148
theorem pN_conv_uint64_uint8 (k : IntKind) (n : Int) : pN Tryz.prog (oConv 188 5 (.int k n)) w K = K (.int .u8 (IntKind.wrap .u8 n)) w := pN_conv k n Tryz.underlying188 Tryz.underlying5
theorem pA_conv_uint64_uint8 (k : IntKind) (n : Int) : pA Tryz.prog (oConv 188 5 (.int k n)) J = J (.int .u8 (IntKind.wrap .u8 n)) := pA_conv k n Tryz.underlying188 Tryz.underlying5
theorem pL_conv_uint64_uint8 (k : IntKind) (n : Int) : pL Tryz.prog (oConv 188 5 (.int k n)) w J = J (.int .u8 (IntKind.wrap .u8 n)) := pL_conv k n Tryz.underlying188 Tryz.underlying5
theorem pN_len_sl_pithlaw15_Op (ty : TypeId) (ao : Option Addr) (n c : Nat) (cs : List Bool) : pN Tryz.prog (oBi .len #[24] ty cs [.slice ao n c]) w K = K (.int .i64 n) w := pN_len 24 ty ao n c cs Tryz.underlying24
theorem pA_len_sl_pithlaw15_Op (ty : TypeId) (ao : Option Addr) (n c : Nat) (cs : List Bool) : pA Tryz.prog (oBi .len #[24] ty cs [.slice ao n c]) J = J (.int .i64 n) := pA_len 24 ty ao n c cs Tryz.underlying24
theorem pN_len_sl_uint8 (ty : TypeId) (ao : Option Addr) (n c : Nat) (cs : List Bool) : pN Tryz.prog (oBi .len #[30] ty cs [.slice ao n c]) w K = K (.int .i64 n) w := pN_len 30 ty ao n c cs Tryz.underlying30
theorem pA_len_sl_uint8 (ty : TypeId) (ao : Option Addr) (n c : Nat) (cs : List Bool) : pA Tryz.prog (oBi .len #[30] ty cs [.slice ao n c]) J = J (.int .i64 n) := pA_len 30 ty ao n c cs Tryz.underlying30
theorem pN_len_sl_api_Symbol (ty : TypeId) (ao : Option Addr) (n c : Nat) (cs : List Bool) : pN Tryz.prog (oBi .len #[80] ty cs [.slice ao n c]) w K = K (.int .i64 n) w := pN_len 80 ty ao n c cs Tryz.underlying80
theorem pA_len_sl_api_Symbol (ty : TypeId) (ao : Option Addr) (n c : Nat) (cs : List Bool) : pA Tryz.prog (oBi .len #[80] ty cs [.slice ao n c]) J = J (.int .i64 n) := pA_len 80 ty ao n c cs Tryz.underlying80
theorem pN_len_sl_pithlaw15_Page (ty : TypeId) (ao : Option Addr) (n c : Nat) (cs : List Bool) : pN Tryz.prog (oBi .len #[117] ty cs [.slice ao n c]) w K = K (.int .i64 n) w := pN_len 117 ty ao n c cs Tryz.underlying117
theorem pA_len_sl_pithlaw15_Page (ty : TypeId) (ao : Option Addr) (n c : Nat) (cs : List Bool) : pA Tryz.prog (oBi .len #[117] ty cs [.slice ao n c]) J = J (.int .i64 n) := pA_len 117 ty ao n c cs Tryz.underlying117
theorem pN_len_sl_int (ty : TypeId) (ao : Option Addr) (n c : Nat) (cs : List Bool) : pN Tryz.prog (oBi .len #[217] ty cs [.slice ao n c]) w K = K (.int .i64 n) w := pN_len 217 ty ao n c cs Tryz.underlying217
theorem pA_len_sl_int (ty : TypeId) (ao : Option Addr) (n c : Nat) (cs : List Bool) : pA Tryz.prog (oBi .len #[217] ty cs [.slice ao n c]) J = J (.int .i64 n) := pA_len 217 ty ao n c cs Tryz.underlying217
theorem pN_aidx_arr4_int (b o : Nat) (k : IntKind) (i : Int) (h0 : 0 ≤ i) (h1 : i < 4) : pN Tryz.prog (oIdx 67 (.pointer (some ⟨b, o, none⟩)) (.int k i)) w K = K (.pointer (some ⟨b, o + i.toNat, none⟩)) w := pN_aidx Tryz.underlying67 Tryz.sizeOf3 b o k i h0 h1
theorem pA_aidx_arr4_int (b o : Nat) (k : IntKind) (i : Int) (h0 : 0 ≤ i) (h1 : i < 4) : pA Tryz.prog (oIdx 67 (.pointer (some ⟨b, o, none⟩)) (.int k i)) J = J (.pointer (some ⟨b, o + i.toNat, none⟩)) := pA_aidx Tryz.underlying67 Tryz.sizeOf3 b o k i h0 h1
theorem pN_aidx_arr12_int (b o : Nat) (k : IntKind) (i : Int) (h0 : 0 ≤ i) (h1 : i < 12) : pN Tryz.prog (oIdx 234 (.pointer (some ⟨b, o, none⟩)) (.int k i)) w K = K (.pointer (some ⟨b, o + i.toNat, none⟩)) w := pN_aidx Tryz.underlying234 Tryz.sizeOf3 b o k i h0 h1
theorem pA_aidx_arr12_int (b o : Nat) (k : IntKind) (i : Int) (h0 : 0 ≤ i) (h1 : i < 12) : pA Tryz.prog (oIdx 234 (.pointer (some ⟨b, o, none⟩)) (.int k i)) J = J (.pointer (some ⟨b, o + i.toNat, none⟩)) := pA_aidx Tryz.underlying234 Tryz.sizeOf3 b o k i h0 h1
theorem pN_aidx_arr32_uint8 (b o : Nat) (k : IntKind) (i : Int) (h0 : 0 ≤ i) (h1 : i < 32) : pN Tryz.prog (oIdx 297 (.pointer (some ⟨b, o, none⟩)) (.int k i)) w K = K (.pointer (some ⟨b, o + i.toNat, none⟩)) w := pN_aidx Tryz.underlying297 Tryz.sizeOf5 b o k i h0 h1
theorem pA_aidx_arr32_uint8 (b o : Nat) (k : IntKind) (i : Int) (h0 : 0 ≤ i) (h1 : i < 32) : pA Tryz.prog (oIdx 297 (.pointer (some ⟨b, o, none⟩)) (.int k i)) J = J (.pointer (some ⟨b, o + i.toNat, none⟩)) := pA_aidx Tryz.underlying297 Tryz.sizeOf5 b o k i h0 h1
theorem pN_aidx_arr64_uint8 (b o : Nat) (k : IntKind) (i : Int) (h0 : 0 ≤ i) (h1 : i < 64) : pN Tryz.prog (oIdx 298 (.pointer (some ⟨b, o, none⟩)) (.int k i)) w K = K (.pointer (some ⟨b, o + i.toNat, none⟩)) w := pN_aidx Tryz.underlying298 Tryz.sizeOf5 b o k i h0 h1
theorem pA_aidx_arr64_uint8 (b o : Nat) (k : IntKind) (i : Int) (h0 : 0 ≤ i) (h1 : i < 64) : pA Tryz.prog (oIdx 298 (.pointer (some ⟨b, o, none⟩)) (.int k i)) J = J (.pointer (some ⟨b, o + i.toNat, none⟩)) := pA_aidx Tryz.underlying298 Tryz.sizeOf5 b o k i h0 h1
theorem pN_eql_p_pithlaw15_pair (xo yo : Operand) (p : Option Addr) : pN Tryz.prog (oBin .eql 25 xo yo (.pointer p) (.pointer none)) w K = K (.bool (p.isNone)) w := pN_eql_ptr 25 xo yo p Tryz.underlying25
theorem pA_eql_p_pithlaw15_pair (xo yo : Operand) (p : Option Addr) : pA Tryz.prog (oBin .eql 25 xo yo (.pointer p) (.pointer none)) J = J (.bool (p.isNone)) := pA_eql_ptr 25 xo yo p Tryz.underlying25
theorem pN_neq_p_pithlaw15_pair (xo yo : Operand) (p : Option Addr) : pN Tryz.prog (oBin .neq 25 xo yo (.pointer p) (.pointer none)) w K = K (.bool (!p.isNone)) w := pN_neq_ptr 25 xo yo p Tryz.underlying25
theorem pA_neq_p_pithlaw15_pair (xo yo : Operand) (p : Option Addr) : pA Tryz.prog (oBin .neq 25 xo yo (.pointer p) (.pointer none)) J = J (.bool (!p.isNone)) := pA_neq_ptr 25 xo yo p Tryz.underlying25
theorem pN_eql_p_lzdec_Decoder (xo yo : Operand) (p : Option Addr) : pN Tryz.prog (oBin .eql 85 xo yo (.pointer p) (.pointer none)) w K = K (.bool (p.isNone)) w := pN_eql_ptr 85 xo yo p Tryz.underlying85
theorem pA_eql_p_lzdec_Decoder (xo yo : Operand) (p : Option Addr) : pA Tryz.prog (oBin .eql 85 xo yo (.pointer p) (.pointer none)) J = J (.bool (p.isNone)) := pA_eql_ptr 85 xo yo p Tryz.underlying85
theorem pN_neq_p_lzdec_Decoder (xo yo : Operand) (p : Option Addr) : pN Tryz.prog (oBin .neq 85 xo yo (.pointer p) (.pointer none)) w K = K (.bool (!p.isNone)) w := pN_neq_ptr 85 xo yo p Tryz.underlying85
theorem pA_neq_p_lzdec_Decoder (xo yo : Operand) (p : Option Addr) : pA Tryz.prog (oBin .neq 85 xo yo (.pointer p) (.pointer none)) J = J (.bool (!p.isNone)) := pA_neq_ptr 85 xo yo p Tryz.underlying85
theorem pN_eql_p_pithref15_Decoder (xo yo : Operand) (p : Option Addr) : pN Tryz.prog (oBin .eql 114 xo yo (.pointer p) (.pointer none)) w K = K (.bool (p.isNone)) w := pN_eql_ptr 114 xo yo p Tryz.underlying114
theorem pA_eql_p_pithref15_Decoder (xo yo : Operand) (p : Option Addr) : pA Tryz.prog (oBin .eql 114 xo yo (.pointer p) (.pointer none)) J = J (.bool (p.isNone)) := pA_eql_ptr 114 xo yo p Tryz.underlying114
theorem pN_neq_p_pithref15_Decoder (xo yo : Operand) (p : Option Addr) : pN Tryz.prog (oBin .neq 114 xo yo (.pointer p) (.pointer none)) w K = K (.bool (!p.isNone)) w := pN_neq_ptr 114 xo yo p Tryz.underlying114
theorem pA_neq_p_pithref15_Decoder (xo yo : Operand) (p : Option Addr) : pA Tryz.prog (oBin .neq 114 xo yo (.pointer p) (.pointer none)) J = J (.bool (!p.isNone)) := pA_neq_ptr 114 xo yo p Tryz.underlying114
theorem pN_eql_p_lzdec_reader (xo yo : Operand) (p : Option Addr) : pN Tryz.prog (oBin .eql 230 xo yo (.pointer p) (.pointer none)) w K = K (.bool (p.isNone)) w := pN_eql_ptr 230 xo yo p Tryz.underlying230
theorem pA_eql_p_lzdec_reader (xo yo : Operand) (p : Option Addr) : pA Tryz.prog (oBin .eql 230 xo yo (.pointer p) (.pointer none)) J = J (.bool (p.isNone)) := pA_eql_ptr 230 xo yo p Tryz.underlying230
theorem pN_neq_p_lzdec_reader (xo yo : Operand) (p : Option Addr) : pN Tryz.prog (oBin .neq 230 xo yo (.pointer p) (.pointer none)) w K = K (.bool (!p.isNone)) w := pN_neq_ptr 230 xo yo p Tryz.underlying230
theorem pA_neq_p_lzdec_reader (xo yo : Operand) (p : Option Addr) : pA Tryz.prog (oBin .neq 230 xo yo (.pointer p) (.pointer none)) J = J (.bool (!p.isNone)) := pA_neq_ptr 230 xo yo p Tryz.underlying230
theorem pN_eqlb_bool (xo yo : Operand) (p q : Bool) : pN Tryz.prog (oBin .eql 4 xo yo (.bool p) (.bool q)) w K = K (.bool (p == q)) w := pN_eql_bool 4 xo yo p q Tryz.underlying4
theorem pA_eqlb_bool (xo yo : Operand) (p q : Bool) : pA Tryz.prog (oBin .eql 4 xo yo (.bool p) (.bool q)) J = J (.bool (p == q)) := pA_eql_bool 4 xo yo p q Tryz.underlying4
theorem pN_neqb_bool (xo yo : Operand) (p q : Bool) : pN Tryz.prog (oBin .neq 4 xo yo (.bool p) (.bool q)) w K = K (.bool (p != q)) w := pN_neq_bool 4 xo yo p q Tryz.underlying4
theorem pA_neqb_bool (xo yo : Operand) (p q : Bool) : pA Tryz.prog (oBin .neq 4 xo yo (.bool p) (.bool q)) J = J (.bool (p != q)) := pA_neq_bool 4 xo yo p q Tryz.underlying4
theorem run_fld_api_Props_LC (b o : Nat) (w : World) : (oFld 23 (.pointer (some ⟨b, o, none⟩)) 0).run Tryz.prog w = .ok (.value (.pointer (some ⟨b, o, none⟩))) w := by kernel_rfl
theorem pN_fld_api_Props_LC (b o : Nat) : pN Tryz.prog (oFld 23 (.pointer (some ⟨b, o, none⟩)) 0) w K = K (.pointer (some ⟨b, o, none⟩)) w := by rw [pN_def, run_fld_api_Props_LC, rN_value]
theorem pA_fld_api_Props_LC (b o : Nat) : pA Tryz.prog (oFld 23 (.pointer (some ⟨b, o, none⟩)) 0) J = J (.pointer (some ⟨b, o, none⟩)) := by rw [pA_def, funext (run_fld_api_Props_LC b o), rA_value]
theorem run_fld_api_Props_LP (b o : Nat) (w : World) : (oFld 23 (.pointer (some ⟨b, o, none⟩)) 1).run Tryz.prog w = .ok (.value (.pointer (some ⟨b, o + 1, none⟩))) w := by kernel_rfl
theorem pN_fld_api_Props_LP (b o : Nat) : pN Tryz.prog (oFld 23 (.pointer (some ⟨b, o, none⟩)) 1) w K = K (.pointer (some ⟨b, o + 1, none⟩)) w := by rw [pN_def, run_fld_api_Props_LP, rN_value]
theorem pA_fld_api_Props_LP (b o : Nat) : pA Tryz.prog (oFld 23 (.pointer (some ⟨b, o, none⟩)) 1) J = J (.pointer (some ⟨b, o + 1, none⟩)) := by rw [pA_def, funext (run_fld_api_Props_LP b o), rA_value]
theorem run_fld_api_Props_PB (b o : Nat) (w : World) : (oFld 23 (.pointer (some ⟨b, o, none⟩)) 2).run Tryz.prog w = .ok (.value (.pointer (some ⟨b, o + 2, none⟩))) w := by kernel_rfl
theorem pN_fld_api_Props_PB (b o : Nat) : pN Tryz.prog (oFld 23 (.pointer (some ⟨b, o, none⟩)) 2) w K = K (.pointer (some ⟨b, o + 2, none⟩)) w := by rw [pN_def, run_fld_api_Props_PB, rN_value]
theorem pA_fld_api_Props_PB (b o : Nat) : pA Tryz.prog (oFld 23 (.pointer (some ⟨b, o, none⟩)) 2) J = J (.pointer (some ⟨b, o + 2, none⟩)) := by rw [pA_def, funext (run_fld_api_Props_PB b o), rA_value]
theorem run_fld_pithlaw15_Op_Kind (b o : Nat) (w : World) : (oFld 32 (.pointer (some ⟨b, o, none⟩)) 0).run Tryz.prog w = .ok (.value (.pointer (some ⟨b, o, none⟩))) w := by kernel_rfl
theorem pN_fld_pithlaw15_Op_Kind (b o : Nat) : pN Tryz.prog (oFld 32 (.pointer (some ⟨b, o, none⟩)) 0) w K = K (.pointer (some ⟨b, o, none⟩)) w := by rw [pN_def, run_fld_pithlaw15_Op_Kind, rN_value]
theorem pA_fld_pithlaw15_Op_Kind (b o : Nat) : pA Tryz.prog (oFld 32 (.pointer (some ⟨b, o, none⟩)) 0) J = J (.pointer (some ⟨b, o, none⟩)) := by rw [pA_def, funext (run_fld_pithlaw15_Op_Kind b o), rA_value]
theorem run_fld_pithlaw15_Op_B (b o : Nat) (w : World) : (oFld 32 (.pointer (some ⟨b, o, none⟩)) 1).run Tryz.prog w = .ok (.value (.pointer (some ⟨b, o + 1, none⟩))) w := by kernel_rfl
theorem pN_fld_pithlaw15_Op_B (b o : Nat) : pN Tryz.prog (oFld 32 (.pointer (some ⟨b, o, none⟩)) 1) w K = K (.pointer (some ⟨b, o + 1, none⟩)) w := by rw [pN_def, run_fld_pithlaw15_Op_B, rN_value]
theorem pA_fld_pithlaw15_Op_B (b o : Nat) : pA Tryz.prog (oFld 32 (.pointer (some ⟨b, o, none⟩)) 1) J = J (.pointer (some ⟨b, o + 1, none⟩)) := by rw [pA_def, funext (run_fld_pithlaw15_Op_B b o), rA_value]
theorem run_fld_pithlaw15_Op_N (b o : Nat) (w : World) : (oFld 32 (.pointer (some ⟨b, o, none⟩)) 2).run Tryz.prog w = .ok (.value (.pointer (some ⟨b, o + 2, none⟩))) w := by kernel_rfl
theorem pN_fld_pithlaw15_Op_N (b o : Nat) : pN Tryz.prog (oFld 32 (.pointer (some ⟨b, o, none⟩)) 2) w K = K (.pointer (some ⟨b, o + 2, none⟩)) w := by rw [pN_def, run_fld_pithlaw15_Op_N, rN_value]
theorem pA_fld_pithlaw15_Op_N (b o : Nat) : pA Tryz.prog (oFld 32 (.pointer (some ⟨b, o, none⟩)) 2) J = J (.pointer (some ⟨b, o + 2, none⟩)) := by rw [pA_def, funext (run_fld_pithlaw15_Op_N b o), rA_value]
theorem run_fld_pithlaw15_Op_Props (b o : Nat) (w : World) : (oFld 32 (.pointer (some ⟨b, o, none⟩)) 3).run Tryz.prog w = .ok (.value (.pointer (some ⟨b, o + 3, none⟩))) w := by kernel_rfl
theorem pN_fld_pithlaw15_Op_Props (b o : Nat) : pN Tryz.prog (oFld 32 (.pointer (some ⟨b, o, none⟩)) 3) w K = K (.pointer (some ⟨b, o + 3, none⟩)) w := by rw [pN_def, run_fld_pithlaw15_Op_Props, rN_value]
theorem pA_fld_pithlaw15_Op_Props (b o : Nat) : pA Tryz.prog (oFld 32 (.pointer (some ⟨b, o, none⟩)) 3) J = J (.pointer (some ⟨b, o + 3, none⟩)) := by rw [pA_def, funext (run_fld_pithlaw15_Op_Props b o), rA_value]
theorem run_fld_api_Symbol_Kind (b o : Nat) (w : World) : (oFld 48 (.pointer (some ⟨b, o, none⟩)) 0).run Tryz.prog w = .ok (.value (.pointer (some ⟨b, o, none⟩))) w := by kernel_rfl
theorem pN_fld_api_Symbol_Kind (b o : Nat) : pN Tryz.prog (oFld 48 (.pointer (some ⟨b, o, none⟩)) 0) w K = K (.pointer (some ⟨b, o, none⟩)) w := by rw [pN_def, run_fld_api_Symbol_Kind, rN_value]
theorem pA_fld_api_Symbol_Kind (b o : Nat) : pA Tryz.prog (oFld 48 (.pointer (some ⟨b, o, none⟩)) 0) J = J (.pointer (some ⟨b, o, none⟩)) := by rw [pA_def, funext (run_fld_api_Symbol_Kind b o), rA_value]
theorem run_fld_api_Symbol_Byte (b o : Nat) (w : World) : (oFld 48 (.pointer (some ⟨b, o, none⟩)) 1).run Tryz.prog w = .ok (.value (.pointer (some ⟨b, o + 1, none⟩))) w := by kernel_rfl
theorem pN_fld_api_Symbol_Byte (b o : Nat) : pN Tryz.prog (oFld 48 (.pointer (some ⟨b, o, none⟩)) 1) w K = K (.pointer (some ⟨b, o + 1, none⟩)) w := by rw [pN_def, run_fld_api_Symbol_Byte, rN_value]
theorem pA_fld_api_Symbol_Byte (b o : Nat) : pA Tryz.prog (oFld 48 (.pointer (some ⟨b, o, none⟩)) 1) J = J (.pointer (some ⟨b, o + 1, none⟩)) := by rw [pA_def, funext (run_fld_api_Symbol_Byte b o), rA_value]
theorem run_fld_api_Symbol_Len (b o : Nat) (w : World) : (oFld 48 (.pointer (some ⟨b, o, none⟩)) 2).run Tryz.prog w = .ok (.value (.pointer (some ⟨b, o + 2, none⟩))) w := by kernel_rfl
theorem pN_fld_api_Symbol_Len (b o : Nat) : pN Tryz.prog (oFld 48 (.pointer (some ⟨b, o, none⟩)) 2) w K = K (.pointer (some ⟨b, o + 2, none⟩)) w := by rw [pN_def, run_fld_api_Symbol_Len, rN_value]
theorem pA_fld_api_Symbol_Len (b o : Nat) : pA Tryz.prog (oFld 48 (.pointer (some ⟨b, o, none⟩)) 2) J = J (.pointer (some ⟨b, o + 2, none⟩)) := by rw [pA_def, funext (run_fld_api_Symbol_Len b o), rA_value]
theorem run_fld_api_Symbol_Dist (b o : Nat) (w : World) : (oFld 48 (.pointer (some ⟨b, o, none⟩)) 3).run Tryz.prog w = .ok (.value (.pointer (some ⟨b, o + 3, none⟩))) w := by kernel_rfl
theorem pN_fld_api_Symbol_Dist (b o : Nat) : pN Tryz.prog (oFld 48 (.pointer (some ⟨b, o, none⟩)) 3) w K = K (.pointer (some ⟨b, o + 3, none⟩)) w := by rw [pN_def, run_fld_api_Symbol_Dist, rN_value]
theorem pA_fld_api_Symbol_Dist (b o : Nat) : pA Tryz.prog (oFld 48 (.pointer (some ⟨b, o, none⟩)) 3) J = J (.pointer (some ⟨b, o + 3, none⟩)) := by rw [pA_def, funext (run_fld_api_Symbol_Dist b o), rA_value]
theorem run_fld_pithref12_State_Num (b o : Nat) (w : World) : (oFld 69 (.pointer (some ⟨b, o, none⟩)) 0).run Tryz.prog w = .ok (.value (.pointer (some ⟨b, o, none⟩))) w := by kernel_rfl
theorem pN_fld_pithref12_State_Num (b o : Nat) : pN Tryz.prog (oFld 69 (.pointer (some ⟨b, o, none⟩)) 0) w K = K (.pointer (some ⟨b, o, none⟩)) w := by rw [pN_def, run_fld_pithref12_State_Num, rN_value]
theorem pA_fld_pithref12_State_Num (b o : Nat) : pA Tryz.prog (oFld 69 (.pointer (some ⟨b, o, none⟩)) 0) J = J (.pointer (some ⟨b, o, none⟩)) := by rw [pA_def, funext (run_fld_pithref12_State_Num b o), rA_value]
theorem run_fld_pithref12_State_Reps (b o : Nat) (w : World) : (oFld 69 (.pointer (some ⟨b, o, none⟩)) 1).run Tryz.prog w = .ok (.value (.pointer (some ⟨b, o + 1, none⟩))) w := by kernel_rfl
theorem pN_fld_pithref12_State_Reps (b o : Nat) : pN Tryz.prog (oFld 69 (.pointer (some ⟨b, o, none⟩)) 1) w K = K (.pointer (some ⟨b, o + 1, none⟩)) w := by rw [pN_def, run_fld_pithref12_State_Reps, rN_value]
theorem pA_fld_pithref12_State_Reps (b o : Nat) : pA Tryz.prog (oFld 69 (.pointer (some ⟨b, o, none⟩)) 1) J = J (.pointer (some ⟨b, o + 1, none⟩)) := by rw [pA_def, funext (run_fld_pithref12_State_Reps b o), rA_value]
theorem run_fld_pithref14_Coder_Props (b o : Nat) (w : World) : (oFld 73 (.pointer (some ⟨b, o, none⟩)) 0).run Tryz.prog w = .ok (.value (.pointer (some ⟨b, o, none⟩))) w := by kernel_rfl
theorem pN_fld_pithref14_Coder_Props (b o : Nat) : pN Tryz.prog (oFld 73 (.pointer (some ⟨b, o, none⟩)) 0) w K = K (.pointer (some ⟨b, o, none⟩)) w := by rw [pN_def, run_fld_pithref14_Coder_Props, rN_value]
theorem pA_fld_pithref14_Coder_Props (b o : Nat) : pA Tryz.prog (oFld 73 (.pointer (some ⟨b, o, none⟩)) 0) J = J (.pointer (some ⟨b, o, none⟩)) := by rw [pA_def, funext (run_fld_pithref14_Coder_Props b o), rA_value]
theorem run_fld_pithref14_Coder_W (b o : Nat) (w : World) : (oFld 73 (.pointer (some ⟨b, o, none⟩)) 1).run Tryz.prog w = .ok (.value (.pointer (some ⟨b, o + 3, none⟩))) w := by kernel_rfl
theorem pN_fld_pithref14_Coder_W (b o : Nat) : pN Tryz.prog (oFld 73 (.pointer (some ⟨b, o, none⟩)) 1) w K = K (.pointer (some ⟨b, o + 3, none⟩)) w := by rw [pN_def, run_fld_pithref14_Coder_W, rN_value]
theorem pA_fld_pithref14_Coder_W (b o : Nat) : pA Tryz.prog (oFld 73 (.pointer (some ⟨b, o, none⟩)) 1) J = J (.pointer (some ⟨b, o + 3, none⟩)) := by rw [pA_def, funext (run_fld_pithref14_Coder_W b o), rA_value]
theorem run_fld_pithref14_Coder_S (b o : Nat) (w : World) : (oFld 73 (.pointer (some ⟨b, o, none⟩)) 2).run Tryz.prog w = .ok (.value (.pointer (some ⟨b, o + 4, none⟩))) w := by kernel_rfl
theorem pN_fld_pithref14_Coder_S (b o : Nat) : pN Tryz.prog (oFld 73 (.pointer (some ⟨b, o, none⟩)) 2) w K = K (.pointer (some ⟨b, o + 4, none⟩)) w := by rw [pN_def, run_fld_pithref14_Coder_S, rN_value]
theorem pA_fld_pithref14_Coder_S (b o : Nat) : pA Tryz.prog (oFld 73 (.pointer (some ⟨b, o, none⟩)) 2) J = J (.pointer (some ⟨b, o + 4, none⟩)) := by rw [pA_def, funext (run_fld_pithref14_Coder_S b o), rA_value]
theorem run_fld_pithref14_Coder_Sets (b o : Nat) (w : World) : (oFld 73 (.pointer (some ⟨b, o, none⟩)) 3).run Tryz.prog w = .ok (.value (.pointer (some ⟨b, o + 9, none⟩))) w := by kernel_rfl
theorem pN_fld_pithref14_Coder_Sets (b o : Nat) : pN Tryz.prog (oFld 73 (.pointer (some ⟨b, o, none⟩)) 3) w K = K (.pointer (some ⟨b, o + 9, none⟩)) w := by rw [pN_def, run_fld_pithref14_Coder_Sets, rN_value]
theorem pA_fld_pithref14_Coder_Sets (b o : Nat) : pA Tryz.prog (oFld 73 (.pointer (some ⟨b, o, none⟩)) 3) J = J (.pointer (some ⟨b, o + 9, none⟩)) := by rw [pA_def, funext (run_fld_pithref14_Coder_Sets b o), rA_value]
theorem run_fld_state_State_Num (b o : Nat) (w : World) : (oFld 100 (.pointer (some ⟨b, o, none⟩)) 0).run Tryz.prog w = .ok (.value (.pointer (some ⟨b, o, none⟩))) w := by kernel_rfl
theorem pN_fld_state_State_Num (b o : Nat) : pN Tryz.prog (oFld 100 (.pointer (some ⟨b, o, none⟩)) 0) w K = K (.pointer (some ⟨b, o, none⟩)) w := by rw [pN_def, run_fld_state_State_Num, rN_value]
theorem pA_fld_state_State_Num (b o : Nat) : pA Tryz.prog (oFld 100 (.pointer (some ⟨b, o, none⟩)) 0) J = J (.pointer (some ⟨b, o, none⟩)) := by rw [pA_def, funext (run_fld_state_State_Num b o), rA_value]
theorem run_fld_state_State_Reps (b o : Nat) (w : World) : (oFld 100 (.pointer (some ⟨b, o, none⟩)) 1).run Tryz.prog w = .ok (.value (.pointer (some ⟨b, o + 1, none⟩))) w := by kernel_rfl
theorem pN_fld_state_State_Reps (b o : Nat) : pN Tryz.prog (oFld 100 (.pointer (some ⟨b, o, none⟩)) 1) w K = K (.pointer (some ⟨b, o + 1, none⟩)) w := by rw [pN_def, run_fld_state_State_Reps, rN_value]
theorem pA_fld_state_State_Reps (b o : Nat) : pA Tryz.prog (oFld 100 (.pointer (some ⟨b, o, none⟩)) 1) J = J (.pointer (some ⟨b, o + 1, none⟩)) := by rw [pA_def, funext (run_fld_state_State_Reps b o), rA_value]
theorem run_fld_pithlaw15_pair_d (b o : Nat) (w : World) : (oFld 119 (.pointer (some ⟨b, o, none⟩)) 0).run Tryz.prog w = .ok (.value (.pointer (some ⟨b, o, none⟩))) w := by kernel_rfl
theorem pN_fld_pithlaw15_pair_d (b o : Nat) : pN Tryz.prog (oFld 119 (.pointer (some ⟨b, o, none⟩)) 0) w K = K (.pointer (some ⟨b, o, none⟩)) w := by rw [pN_def, run_fld_pithlaw15_pair_d, rN_value]
theorem pA_fld_pithlaw15_pair_d (b o : Nat) : pA Tryz.prog (oFld 119 (.pointer (some ⟨b, o, none⟩)) 0) J = J (.pointer (some ⟨b, o, none⟩)) := by rw [pA_def, funext (run_fld_pithlaw15_pair_d b o), rA_value]
theorem run_fld_pithlaw15_pair_r (b o : Nat) (w : World) : (oFld 119 (.pointer (some ⟨b, o, none⟩)) 1).run Tryz.prog w = .ok (.value (.pointer (some ⟨b, o + 1, none⟩))) w := by kernel_rfl
theorem pN_fld_pithlaw15_pair_r (b o : Nat) : pN Tryz.prog (oFld 119 (.pointer (some ⟨b, o, none⟩)) 1) w K = K (.pointer (some ⟨b, o + 1, none⟩)) w := by rw [pN_def, run_fld_pithlaw15_pair_r, rN_value]
theorem pA_fld_pithlaw15_pair_r (b o : Nat) : pA Tryz.prog (oFld 119 (.pointer (some ⟨b, o, none⟩)) 1) J = J (.pointer (some ⟨b, o + 1, none⟩)) := by rw [pA_def, funext (run_fld_pithlaw15_pair_r b o), rA_value]
theorem run_fld_pithlaw15_pair_book (b o : Nat) (w : World) : (oFld 119 (.pointer (some ⟨b, o, none⟩)) 2).run Tryz.prog w = .ok (.value (.pointer (some ⟨b, o + 2, none⟩))) w := by kernel_rfl
theorem pN_fld_pithlaw15_pair_book (b o : Nat) : pN Tryz.prog (oFld 119 (.pointer (some ⟨b, o, none⟩)) 2) w K = K (.pointer (some ⟨b, o + 2, none⟩)) w := by rw [pN_def, run_fld_pithlaw15_pair_book, rN_value]
theorem pA_fld_pithlaw15_pair_book (b o : Nat) : pA Tryz.prog (oFld 119 (.pointer (some ⟨b, o, none⟩)) 2) J = J (.pointer (some ⟨b, o + 2, none⟩)) := by rw [pA_def, funext (run_fld_pithlaw15_pair_book b o), rA_value]
theorem run_fld_pithlaw15_Page_Symbols (b o : Nat) (w : World) : (oFld 122 (.pointer (some ⟨b, o, none⟩)) 0).run Tryz.prog w = .ok (.value (.pointer (some ⟨b, o, none⟩))) w := by kernel_rfl
theorem pN_fld_pithlaw15_Page_Symbols (b o : Nat) : pN Tryz.prog (oFld 122 (.pointer (some ⟨b, o, none⟩)) 0) w K = K (.pointer (some ⟨b, o, none⟩)) w := by rw [pN_def, run_fld_pithlaw15_Page_Symbols, rN_value]
theorem pA_fld_pithlaw15_Page_Symbols (b o : Nat) : pA Tryz.prog (oFld 122 (.pointer (some ⟨b, o, none⟩)) 0) J = J (.pointer (some ⟨b, o, none⟩)) := by rw [pA_def, funext (run_fld_pithlaw15_Page_Symbols b o), rA_value]
theorem run_fld_pithlaw15_Page_More (b o : Nat) (w : World) : (oFld 122 (.pointer (some ⟨b, o, none⟩)) 1).run Tryz.prog w = .ok (.value (.pointer (some ⟨b, o + 1, none⟩))) w := by kernel_rfl
theorem pN_fld_pithlaw15_Page_More (b o : Nat) : pN Tryz.prog (oFld 122 (.pointer (some ⟨b, o, none⟩)) 1) w K = K (.pointer (some ⟨b, o + 1, none⟩)) w := by rw [pN_def, run_fld_pithlaw15_Page_More, rN_value]
theorem pA_fld_pithlaw15_Page_More (b o : Nat) : pA Tryz.prog (oFld 122 (.pointer (some ⟨b, o, none⟩)) 1) J = J (.pointer (some ⟨b, o + 1, none⟩)) := by rw [pA_def, funext (run_fld_pithlaw15_Page_More b o), rA_value]
theorem run_fld_pithlaw15_Page_Bytes (b o : Nat) (w : World) : (oFld 122 (.pointer (some ⟨b, o, none⟩)) 2).run Tryz.prog w = .ok (.value (.pointer (some ⟨b, o + 2, none⟩))) w := by kernel_rfl
theorem pN_fld_pithlaw15_Page_Bytes (b o : Nat) : pN Tryz.prog (oFld 122 (.pointer (some ⟨b, o, none⟩)) 2) w K = K (.pointer (some ⟨b, o + 2, none⟩)) w := by rw [pN_def, run_fld_pithlaw15_Page_Bytes, rN_value]
theorem pA_fld_pithlaw15_Page_Bytes (b o : Nat) : pA Tryz.prog (oFld 122 (.pointer (some ⟨b, o, none⟩)) 2) J = J (.pointer (some ⟨b, o + 2, none⟩)) := by rw [pA_def, funext (run_fld_pithlaw15_Page_Bytes b o), rA_value]
theorem run_fld_pithlaw15_Page_On (b o : Nat) (w : World) : (oFld 122 (.pointer (some ⟨b, o, none⟩)) 3).run Tryz.prog w = .ok (.value (.pointer (some ⟨b, o + 3, none⟩))) w := by kernel_rfl
theorem pN_fld_pithlaw15_Page_On (b o : Nat) : pN Tryz.prog (oFld 122 (.pointer (some ⟨b, o, none⟩)) 3) w K = K (.pointer (some ⟨b, o + 3, none⟩)) w := by rw [pN_def, run_fld_pithlaw15_Page_On, rN_value]
theorem pA_fld_pithlaw15_Page_On (b o : Nat) : pA Tryz.prog (oFld 122 (.pointer (some ⟨b, o, none⟩)) 3) J = J (.pointer (some ⟨b, o + 3, none⟩)) := by rw [pA_def, funext (run_fld_pithlaw15_Page_On b o), rA_value]
theorem run_fld_pithlaw15_Page_Mark (b o : Nat) (w : World) : (oFld 122 (.pointer (some ⟨b, o, none⟩)) 4).run Tryz.prog w = .ok (.value (.pointer (some ⟨b, o + 4, none⟩))) w := by kernel_rfl
theorem pN_fld_pithlaw15_Page_Mark (b o : Nat) : pN Tryz.prog (oFld 122 (.pointer (some ⟨b, o, none⟩)) 4) w K = K (.pointer (some ⟨b, o + 4, none⟩)) w := by rw [pN_def, run_fld_pithlaw15_Page_Mark, rN_value]
theorem pA_fld_pithlaw15_Page_Mark (b o : Nat) : pA Tryz.prog (oFld 122 (.pointer (some ⟨b, o, none⟩)) 4) J = J (.pointer (some ⟨b, o + 4, none⟩)) := by rw [pA_def, funext (run_fld_pithlaw15_Page_Mark b o), rA_value]
theorem run_fld_model_Lengths_Choice (b o : Nat) (w : World) : (oFld 139 (.pointer (some ⟨b, o, none⟩)) 0).run Tryz.prog w = .ok (.value (.pointer (some ⟨b, o, none⟩))) w := by kernel_rfl
theorem pN_fld_model_Lengths_Choice (b o : Nat) : pN Tryz.prog (oFld 139 (.pointer (some ⟨b, o, none⟩)) 0) w K = K (.pointer (some ⟨b, o, none⟩)) w := by rw [pN_def, run_fld_model_Lengths_Choice, rN_value]
theorem pA_fld_model_Lengths_Choice (b o : Nat) : pA Tryz.prog (oFld 139 (.pointer (some ⟨b, o, none⟩)) 0) J = J (.pointer (some ⟨b, o, none⟩)) := by rw [pA_def, funext (run_fld_model_Lengths_Choice b o), rA_value]
theorem run_fld_model_Lengths_Low (b o : Nat) (w : World) : (oFld 139 (.pointer (some ⟨b, o, none⟩)) 1).run Tryz.prog w = .ok (.value (.pointer (some ⟨b, o + 1, none⟩))) w := by kernel_rfl
theorem pN_fld_model_Lengths_Low (b o : Nat) : pN Tryz.prog (oFld 139 (.pointer (some ⟨b, o, none⟩)) 1) w K = K (.pointer (some ⟨b, o + 1, none⟩)) w := by rw [pN_def, run_fld_model_Lengths_Low, rN_value]
theorem pA_fld_model_Lengths_Low (b o : Nat) : pA Tryz.prog (oFld 139 (.pointer (some ⟨b, o, none⟩)) 1) J = J (.pointer (some ⟨b, o + 1, none⟩)) := by rw [pA_def, funext (run_fld_model_Lengths_Low b o), rA_value]
theorem run_fld_model_Lengths_Mid (b o : Nat) (w : World) : (oFld 139 (.pointer (some ⟨b, o, none⟩)) 2).run Tryz.prog w = .ok (.value (.pointer (some ⟨b, o + 2, none⟩))) w := by kernel_rfl
theorem pN_fld_model_Lengths_Mid (b o : Nat) : pN Tryz.prog (oFld 139 (.pointer (some ⟨b, o, none⟩)) 2) w K = K (.pointer (some ⟨b, o + 2, none⟩)) w := by rw [pN_def, run_fld_model_Lengths_Mid, rN_value]
theorem pA_fld_model_Lengths_Mid (b o : Nat) : pA Tryz.prog (oFld 139 (.pointer (some ⟨b, o, none⟩)) 2) J = J (.pointer (some ⟨b, o + 2, none⟩)) := by rw [pA_def, funext (run_fld_model_Lengths_Mid b o), rA_value]
theorem run_fld_model_Lengths_High (b o : Nat) (w : World) : (oFld 139 (.pointer (some ⟨b, o, none⟩)) 3).run Tryz.prog w = .ok (.value (.pointer (some ⟨b, o + 3, none⟩))) w := by kernel_rfl
theorem pN_fld_model_Lengths_High (b o : Nat) : pN Tryz.prog (oFld 139 (.pointer (some ⟨b, o, none⟩)) 3) w K = K (.pointer (some ⟨b, o + 3, none⟩)) w := by rw [pN_def, run_fld_model_Lengths_High, rN_value]
theorem pA_fld_model_Lengths_High (b o : Nat) : pA Tryz.prog (oFld 139 (.pointer (some ⟨b, o, none⟩)) 3) J = J (.pointer (some ⟨b, o + 3, none⟩)) := by rw [pA_def, funext (run_fld_model_Lengths_High b o), rA_value]
theorem run_fld_model_Tables_Props (b o : Nat) (w : World) : (oFld 141 (.pointer (some ⟨b, o, none⟩)) 0).run Tryz.prog w = .ok (.value (.pointer (some ⟨b, o, none⟩))) w := by kernel_rfl
theorem pN_fld_model_Tables_Props (b o : Nat) : pN Tryz.prog (oFld 141 (.pointer (some ⟨b, o, none⟩)) 0) w K = K (.pointer (some ⟨b, o, none⟩)) w := by rw [pN_def, run_fld_model_Tables_Props, rN_value]
theorem pA_fld_model_Tables_Props (b o : Nat) : pA Tryz.prog (oFld 141 (.pointer (some ⟨b, o, none⟩)) 0) J = J (.pointer (some ⟨b, o, none⟩)) := by rw [pA_def, funext (run_fld_model_Tables_Props b o), rA_value]
theorem run_fld_model_Tables_State (b o : Nat) (w : World) : (oFld 141 (.pointer (some ⟨b, o, none⟩)) 1).run Tryz.prog w = .ok (.value (.pointer (some ⟨b, o + 3, none⟩))) w := by kernel_rfl
theorem pN_fld_model_Tables_State (b o : Nat) : pN Tryz.prog (oFld 141 (.pointer (some ⟨b, o, none⟩)) 1) w K = K (.pointer (some ⟨b, o + 3, none⟩)) w := by rw [pN_def, run_fld_model_Tables_State, rN_value]
theorem pA_fld_model_Tables_State (b o : Nat) : pA Tryz.prog (oFld 141 (.pointer (some ⟨b, o, none⟩)) 1) J = J (.pointer (some ⟨b, o + 3, none⟩)) := by rw [pA_def, funext (run_fld_model_Tables_State b o), rA_value]
theorem run_fld_model_Tables_IsMatch (b o : Nat) (w : World) : (oFld 141 (.pointer (some ⟨b, o, none⟩)) 2).run Tryz.prog w = .ok (.value (.pointer (some ⟨b, o + 8, none⟩))) w := by kernel_rfl
theorem pN_fld_model_Tables_IsMatch (b o : Nat) : pN Tryz.prog (oFld 141 (.pointer (some ⟨b, o, none⟩)) 2) w K = K (.pointer (some ⟨b, o + 8, none⟩)) w := by rw [pN_def, run_fld_model_Tables_IsMatch, rN_value]
theorem pA_fld_model_Tables_IsMatch (b o : Nat) : pA Tryz.prog (oFld 141 (.pointer (some ⟨b, o, none⟩)) 2) J = J (.pointer (some ⟨b, o + 8, none⟩)) := by rw [pA_def, funext (run_fld_model_Tables_IsMatch b o), rA_value]
theorem run_fld_model_Tables_IsLong (b o : Nat) (w : World) : (oFld 141 (.pointer (some ⟨b, o, none⟩)) 3).run Tryz.prog w = .ok (.value (.pointer (some ⟨b, o + 9, none⟩))) w := by kernel_rfl
theorem pN_fld_model_Tables_IsLong (b o : Nat) : pN Tryz.prog (oFld 141 (.pointer (some ⟨b, o, none⟩)) 3) w K = K (.pointer (some ⟨b, o + 9, none⟩)) w := by rw [pN_def, run_fld_model_Tables_IsLong, rN_value]
theorem pA_fld_model_Tables_IsLong (b o : Nat) : pA Tryz.prog (oFld 141 (.pointer (some ⟨b, o, none⟩)) 3) J = J (.pointer (some ⟨b, o + 9, none⟩)) := by rw [pA_def, funext (run_fld_model_Tables_IsLong b o), rA_value]
theorem run_fld_model_Tables_IsRep (b o : Nat) (w : World) : (oFld 141 (.pointer (some ⟨b, o, none⟩)) 4).run Tryz.prog w = .ok (.value (.pointer (some ⟨b, o + 10, none⟩))) w := by kernel_rfl
theorem pN_fld_model_Tables_IsRep (b o : Nat) : pN Tryz.prog (oFld 141 (.pointer (some ⟨b, o, none⟩)) 4) w K = K (.pointer (some ⟨b, o + 10, none⟩)) w := by rw [pN_def, run_fld_model_Tables_IsRep, rN_value]
theorem pA_fld_model_Tables_IsRep (b o : Nat) : pA Tryz.prog (oFld 141 (.pointer (some ⟨b, o, none⟩)) 4) J = J (.pointer (some ⟨b, o + 10, none⟩)) := by rw [pA_def, funext (run_fld_model_Tables_IsRep b o), rA_value]
theorem run_fld_model_Tables_IsRep0 (b o : Nat) (w : World) : (oFld 141 (.pointer (some ⟨b, o, none⟩)) 5).run Tryz.prog w = .ok (.value (.pointer (some ⟨b, o + 11, none⟩))) w := by kernel_rfl
theorem pN_fld_model_Tables_IsRep0 (b o : Nat) : pN Tryz.prog (oFld 141 (.pointer (some ⟨b, o, none⟩)) 5) w K = K (.pointer (some ⟨b, o + 11, none⟩)) w := by rw [pN_def, run_fld_model_Tables_IsRep0, rN_value]
theorem pA_fld_model_Tables_IsRep0 (b o : Nat) : pA Tryz.prog (oFld 141 (.pointer (some ⟨b, o, none⟩)) 5) J = J (.pointer (some ⟨b, o + 11, none⟩)) := by rw [pA_def, funext (run_fld_model_Tables_IsRep0 b o), rA_value]
theorem run_fld_model_Tables_IsRep1 (b o : Nat) (w : World) : (oFld 141 (.pointer (some ⟨b, o, none⟩)) 6).run Tryz.prog w = .ok (.value (.pointer (some ⟨b, o + 12, none⟩))) w := by kernel_rfl
theorem pN_fld_model_Tables_IsRep1 (b o : Nat) : pN Tryz.prog (oFld 141 (.pointer (some ⟨b, o, none⟩)) 6) w K = K (.pointer (some ⟨b, o + 12, none⟩)) w := by rw [pN_def, run_fld_model_Tables_IsRep1, rN_value]
theorem pA_fld_model_Tables_IsRep1 (b o : Nat) : pA Tryz.prog (oFld 141 (.pointer (some ⟨b, o, none⟩)) 6) J = J (.pointer (some ⟨b, o + 12, none⟩)) := by rw [pA_def, funext (run_fld_model_Tables_IsRep1 b o), rA_value]
theorem run_fld_model_Tables_IsRep2 (b o : Nat) (w : World) : (oFld 141 (.pointer (some ⟨b, o, none⟩)) 7).run Tryz.prog w = .ok (.value (.pointer (some ⟨b, o + 13, none⟩))) w := by kernel_rfl
theorem pN_fld_model_Tables_IsRep2 (b o : Nat) : pN Tryz.prog (oFld 141 (.pointer (some ⟨b, o, none⟩)) 7) w K = K (.pointer (some ⟨b, o + 13, none⟩)) w := by rw [pN_def, run_fld_model_Tables_IsRep2, rN_value]
theorem pA_fld_model_Tables_IsRep2 (b o : Nat) : pA Tryz.prog (oFld 141 (.pointer (some ⟨b, o, none⟩)) 7) J = J (.pointer (some ⟨b, o + 13, none⟩)) := by rw [pA_def, funext (run_fld_model_Tables_IsRep2 b o), rA_value]
theorem run_fld_model_Tables_Literal (b o : Nat) (w : World) : (oFld 141 (.pointer (some ⟨b, o, none⟩)) 8).run Tryz.prog w = .ok (.value (.pointer (some ⟨b, o + 14, none⟩))) w := by kernel_rfl
theorem pN_fld_model_Tables_Literal (b o : Nat) : pN Tryz.prog (oFld 141 (.pointer (some ⟨b, o, none⟩)) 8) w K = K (.pointer (some ⟨b, o + 14, none⟩)) w := by rw [pN_def, run_fld_model_Tables_Literal, rN_value]
theorem pA_fld_model_Tables_Literal (b o : Nat) : pA Tryz.prog (oFld 141 (.pointer (some ⟨b, o, none⟩)) 8) J = J (.pointer (some ⟨b, o + 14, none⟩)) := by rw [pA_def, funext (run_fld_model_Tables_Literal b o), rA_value]
theorem run_fld_model_Tables_Match (b o : Nat) (w : World) : (oFld 141 (.pointer (some ⟨b, o, none⟩)) 9).run Tryz.prog w = .ok (.value (.pointer (some ⟨b, o + 15, none⟩))) w := by kernel_rfl
theorem pN_fld_model_Tables_Match (b o : Nat) : pN Tryz.prog (oFld 141 (.pointer (some ⟨b, o, none⟩)) 9) w K = K (.pointer (some ⟨b, o + 15, none⟩)) w := by rw [pN_def, run_fld_model_Tables_Match, rN_value]
theorem pA_fld_model_Tables_Match (b o : Nat) : pA Tryz.prog (oFld 141 (.pointer (some ⟨b, o, none⟩)) 9) J = J (.pointer (some ⟨b, o + 15, none⟩)) := by rw [pA_def, funext (run_fld_model_Tables_Match b o), rA_value]
theorem run_fld_model_Tables_Rep (b o : Nat) (w : World) : (oFld 141 (.pointer (some ⟨b, o, none⟩)) 10).run Tryz.prog w = .ok (.value (.pointer (some ⟨b, o + 19, none⟩))) w := by kernel_rfl
theorem pN_fld_model_Tables_Rep (b o : Nat) : pN Tryz.prog (oFld 141 (.pointer (some ⟨b, o, none⟩)) 10) w K = K (.pointer (some ⟨b, o + 19, none⟩)) w := by rw [pN_def, run_fld_model_Tables_Rep, rN_value]
theorem pA_fld_model_Tables_Rep (b o : Nat) : pA Tryz.prog (oFld 141 (.pointer (some ⟨b, o, none⟩)) 10) J = J (.pointer (some ⟨b, o + 19, none⟩)) := by rw [pA_def, funext (run_fld_model_Tables_Rep b o), rA_value]
theorem run_fld_model_Tables_Slot (b o : Nat) (w : World) : (oFld 141 (.pointer (some ⟨b, o, none⟩)) 11).run Tryz.prog w = .ok (.value (.pointer (some ⟨b, o + 23, none⟩))) w := by kernel_rfl
theorem pN_fld_model_Tables_Slot (b o : Nat) : pN Tryz.prog (oFld 141 (.pointer (some ⟨b, o, none⟩)) 11) w K = K (.pointer (some ⟨b, o + 23, none⟩)) w := by rw [pN_def, run_fld_model_Tables_Slot, rN_value]
theorem pA_fld_model_Tables_Slot (b o : Nat) : pA Tryz.prog (oFld 141 (.pointer (some ⟨b, o, none⟩)) 11) J = J (.pointer (some ⟨b, o + 23, none⟩)) := by rw [pA_def, funext (run_fld_model_Tables_Slot b o), rA_value]
theorem run_fld_model_Tables_Rest (b o : Nat) (w : World) : (oFld 141 (.pointer (some ⟨b, o, none⟩)) 12).run Tryz.prog w = .ok (.value (.pointer (some ⟨b, o + 24, none⟩))) w := by kernel_rfl
theorem pN_fld_model_Tables_Rest (b o : Nat) : pN Tryz.prog (oFld 141 (.pointer (some ⟨b, o, none⟩)) 12) w K = K (.pointer (some ⟨b, o + 24, none⟩)) w := by rw [pN_def, run_fld_model_Tables_Rest, rN_value]
theorem pA_fld_model_Tables_Rest (b o : Nat) : pA Tryz.prog (oFld 141 (.pointer (some ⟨b, o, none⟩)) 12) J = J (.pointer (some ⟨b, o + 24, none⟩)) := by rw [pA_def, funext (run_fld_model_Tables_Rest b o), rA_value]
theorem run_fld_model_Tables_Align (b o : Nat) (w : World) : (oFld 141 (.pointer (some ⟨b, o, none⟩)) 13).run Tryz.prog w = .ok (.value (.pointer (some ⟨b, o + 25, none⟩))) w := by kernel_rfl
theorem pN_fld_model_Tables_Align (b o : Nat) : pN Tryz.prog (oFld 141 (.pointer (some ⟨b, o, none⟩)) 13) w K = K (.pointer (some ⟨b, o + 25, none⟩)) w := by rw [pN_def, run_fld_model_Tables_Align, rN_value]
theorem pA_fld_model_Tables_Align (b o : Nat) : pA Tryz.prog (oFld 141 (.pointer (some ⟨b, o, none⟩)) 13) J = J (.pointer (some ⟨b, o + 25, none⟩)) := by rw [pA_def, funext (run_fld_model_Tables_Align b o), rA_value]
theorem run_fld_lzdec_Decoder_Tables (b o : Nat) (w : World) : (oFld 171 (.pointer (some ⟨b, o, none⟩)) 0).run Tryz.prog w = .ok (.value (.pointer (some ⟨b, o, none⟩))) w := by kernel_rfl
theorem pN_fld_lzdec_Decoder_Tables (b o : Nat) : pN Tryz.prog (oFld 171 (.pointer (some ⟨b, o, none⟩)) 0) w K = K (.pointer (some ⟨b, o, none⟩)) w := by rw [pN_def, run_fld_lzdec_Decoder_Tables, rN_value]
theorem pA_fld_lzdec_Decoder_Tables (b o : Nat) : pA Tryz.prog (oFld 171 (.pointer (some ⟨b, o, none⟩)) 0) J = J (.pointer (some ⟨b, o, none⟩)) := by rw [pA_def, funext (run_fld_lzdec_Decoder_Tables b o), rA_value]
theorem run_fld_lzdec_Decoder_w (b o : Nat) (w : World) : (oFld 171 (.pointer (some ⟨b, o, none⟩)) 1).run Tryz.prog w = .ok (.value (.pointer (some ⟨b, o + 1, none⟩))) w := by kernel_rfl
theorem pN_fld_lzdec_Decoder_w (b o : Nat) : pN Tryz.prog (oFld 171 (.pointer (some ⟨b, o, none⟩)) 1) w K = K (.pointer (some ⟨b, o + 1, none⟩)) w := by rw [pN_def, run_fld_lzdec_Decoder_w, rN_value]
theorem pA_fld_lzdec_Decoder_w (b o : Nat) : pA Tryz.prog (oFld 171 (.pointer (some ⟨b, o, none⟩)) 1) J = J (.pointer (some ⟨b, o + 1, none⟩)) := by rw [pA_def, funext (run_fld_lzdec_Decoder_w b o), rA_value]
theorem run_fld_lzdec_Decoder_spent (b o : Nat) (w : World) : (oFld 171 (.pointer (some ⟨b, o, none⟩)) 2).run Tryz.prog w = .ok (.value (.pointer (some ⟨b, o + 2, none⟩))) w := by kernel_rfl
theorem pN_fld_lzdec_Decoder_spent (b o : Nat) : pN Tryz.prog (oFld 171 (.pointer (some ⟨b, o, none⟩)) 2) w K = K (.pointer (some ⟨b, o + 2, none⟩)) w := by rw [pN_def, run_fld_lzdec_Decoder_spent, rN_value]
theorem pA_fld_lzdec_Decoder_spent (b o : Nat) : pA Tryz.prog (oFld 171 (.pointer (some ⟨b, o, none⟩)) 2) J = J (.pointer (some ⟨b, o + 2, none⟩)) := by rw [pA_def, funext (run_fld_lzdec_Decoder_spent b o), rA_value]
theorem run_fld_window_Window_size (b o : Nat) (w : World) : (oFld 175 (.pointer (some ⟨b, o, none⟩)) 0).run Tryz.prog w = .ok (.value (.pointer (some ⟨b, o, none⟩))) w := by kernel_rfl
theorem pN_fld_window_Window_size (b o : Nat) : pN Tryz.prog (oFld 175 (.pointer (some ⟨b, o, none⟩)) 0) w K = K (.pointer (some ⟨b, o, none⟩)) w := by rw [pN_def, run_fld_window_Window_size, rN_value]
theorem pA_fld_window_Window_size (b o : Nat) : pA Tryz.prog (oFld 175 (.pointer (some ⟨b, o, none⟩)) 0) J = J (.pointer (some ⟨b, o, none⟩)) := by rw [pA_def, funext (run_fld_window_Window_size b o), rA_value]
theorem run_fld_window_Window_ring (b o : Nat) (w : World) : (oFld 175 (.pointer (some ⟨b, o, none⟩)) 1).run Tryz.prog w = .ok (.value (.pointer (some ⟨b, o + 1, none⟩))) w := by kernel_rfl
theorem pN_fld_window_Window_ring (b o : Nat) : pN Tryz.prog (oFld 175 (.pointer (some ⟨b, o, none⟩)) 1) w K = K (.pointer (some ⟨b, o + 1, none⟩)) w := by rw [pN_def, run_fld_window_Window_ring, rN_value]
theorem pA_fld_window_Window_ring (b o : Nat) : pA Tryz.prog (oFld 175 (.pointer (some ⟨b, o, none⟩)) 1) J = J (.pointer (some ⟨b, o + 1, none⟩)) := by rw [pA_def, funext (run_fld_window_Window_ring b o), rA_value]
theorem run_fld_window_Window_at (b o : Nat) (w : World) : (oFld 175 (.pointer (some ⟨b, o, none⟩)) 2).run Tryz.prog w = .ok (.value (.pointer (some ⟨b, o + 2, none⟩))) w := by kernel_rfl
theorem pN_fld_window_Window_at (b o : Nat) : pN Tryz.prog (oFld 175 (.pointer (some ⟨b, o, none⟩)) 2) w K = K (.pointer (some ⟨b, o + 2, none⟩)) w := by rw [pN_def, run_fld_window_Window_at, rN_value]
theorem pA_fld_window_Window_at (b o : Nat) : pA Tryz.prog (oFld 175 (.pointer (some ⟨b, o, none⟩)) 2) J = J (.pointer (some ⟨b, o + 2, none⟩)) := by rw [pA_def, funext (run_fld_window_Window_at b o), rA_value]
theorem run_fld_window_Window_pos (b o : Nat) (w : World) : (oFld 175 (.pointer (some ⟨b, o, none⟩)) 3).run Tryz.prog w = .ok (.value (.pointer (some ⟨b, o + 3, none⟩))) w := by kernel_rfl
theorem pN_fld_window_Window_pos (b o : Nat) : pN Tryz.prog (oFld 175 (.pointer (some ⟨b, o, none⟩)) 3) w K = K (.pointer (some ⟨b, o + 3, none⟩)) w := by rw [pN_def, run_fld_window_Window_pos, rN_value]
theorem pA_fld_window_Window_pos (b o : Nat) : pA Tryz.prog (oFld 175 (.pointer (some ⟨b, o, none⟩)) 3) J = J (.pointer (some ⟨b, o + 3, none⟩)) := by rw [pA_def, funext (run_fld_window_Window_pos b o), rA_value]
theorem run_fld_pithref15_Decoder_C (b o : Nat) (w : World) : (oFld 182 (.pointer (some ⟨b, o, none⟩)) 0).run Tryz.prog w = .ok (.value (.pointer (some ⟨b, o, none⟩))) w := by kernel_rfl
theorem pN_fld_pithref15_Decoder_C (b o : Nat) : pN Tryz.prog (oFld 182 (.pointer (some ⟨b, o, none⟩)) 0) w K = K (.pointer (some ⟨b, o, none⟩)) w := by rw [pN_def, run_fld_pithref15_Decoder_C, rN_value]
theorem pA_fld_pithref15_Decoder_C (b o : Nat) : pA Tryz.prog (oFld 182 (.pointer (some ⟨b, o, none⟩)) 0) J = J (.pointer (some ⟨b, o, none⟩)) := by rw [pA_def, funext (run_fld_pithref15_Decoder_C b o), rA_value]
theorem run_fld_pithref15_Decoder_D (b o : Nat) (w : World) : (oFld 182 (.pointer (some ⟨b, o, none⟩)) 1).run Tryz.prog w = .ok (.value (.pointer (some ⟨b, o + 1, none⟩))) w := by kernel_rfl
theorem pN_fld_pithref15_Decoder_D (b o : Nat) : pN Tryz.prog (oFld 182 (.pointer (some ⟨b, o, none⟩)) 1) w K = K (.pointer (some ⟨b, o + 1, none⟩)) w := by rw [pN_def, run_fld_pithref15_Decoder_D, rN_value]
theorem pA_fld_pithref15_Decoder_D (b o : Nat) : pA Tryz.prog (oFld 182 (.pointer (some ⟨b, o, none⟩)) 1) J = J (.pointer (some ⟨b, o + 1, none⟩)) := by rw [pA_def, funext (run_fld_pithref15_Decoder_D b o), rA_value]
theorem run_fld_pithref15_Decoder_Bad (b o : Nat) (w : World) : (oFld 182 (.pointer (some ⟨b, o, none⟩)) 2).run Tryz.prog w = .ok (.value (.pointer (some ⟨b, o + 2, none⟩))) w := by kernel_rfl
theorem pN_fld_pithref15_Decoder_Bad (b o : Nat) : pN Tryz.prog (oFld 182 (.pointer (some ⟨b, o, none⟩)) 2) w K = K (.pointer (some ⟨b, o + 2, none⟩)) w := by rw [pN_def, run_fld_pithref15_Decoder_Bad, rN_value]
theorem pA_fld_pithref15_Decoder_Bad (b o : Nat) : pA Tryz.prog (oFld 182 (.pointer (some ⟨b, o, none⟩)) 2) J = J (.pointer (some ⟨b, o + 2, none⟩)) := by rw [pA_def, funext (run_fld_pithref15_Decoder_Bad b o), rA_value]
theorem run_fld_pithref15_Decoder_Spent (b o : Nat) (w : World) : (oFld 182 (.pointer (some ⟨b, o, none⟩)) 3).run Tryz.prog w = .ok (.value (.pointer (some ⟨b, o + 3, none⟩))) w := by kernel_rfl
theorem pN_fld_pithref15_Decoder_Spent (b o : Nat) : pN Tryz.prog (oFld 182 (.pointer (some ⟨b, o, none⟩)) 3) w K = K (.pointer (some ⟨b, o + 3, none⟩)) w := by rw [pN_def, run_fld_pithref15_Decoder_Spent, rN_value]
theorem pA_fld_pithref15_Decoder_Spent (b o : Nat) : pA Tryz.prog (oFld 182 (.pointer (some ⟨b, o, none⟩)) 3) J = J (.pointer (some ⟨b, o + 3, none⟩)) := by rw [pA_def, funext (run_fld_pithref15_Decoder_Spent b o), rA_value]
theorem run_fld_pithref10_Window_Size (b o : Nat) (w : World) : (oFld 193 (.pointer (some ⟨b, o, none⟩)) 0).run Tryz.prog w = .ok (.value (.pointer (some ⟨b, o, none⟩))) w := by kernel_rfl
theorem pN_fld_pithref10_Window_Size (b o : Nat) : pN Tryz.prog (oFld 193 (.pointer (some ⟨b, o, none⟩)) 0) w K = K (.pointer (some ⟨b, o, none⟩)) w := by rw [pN_def, run_fld_pithref10_Window_Size, rN_value]
theorem pA_fld_pithref10_Window_Size (b o : Nat) : pA Tryz.prog (oFld 193 (.pointer (some ⟨b, o, none⟩)) 0) J = J (.pointer (some ⟨b, o, none⟩)) := by rw [pA_def, funext (run_fld_pithref10_Window_Size b o), rA_value]
theorem run_fld_pithref10_Window_All (b o : Nat) (w : World) : (oFld 193 (.pointer (some ⟨b, o, none⟩)) 1).run Tryz.prog w = .ok (.value (.pointer (some ⟨b, o + 1, none⟩))) w := by kernel_rfl
theorem pN_fld_pithref10_Window_All (b o : Nat) : pN Tryz.prog (oFld 193 (.pointer (some ⟨b, o, none⟩)) 1) w K = K (.pointer (some ⟨b, o + 1, none⟩)) w := by rw [pN_def, run_fld_pithref10_Window_All, rN_value]
theorem pA_fld_pithref10_Window_All (b o : Nat) : pA Tryz.prog (oFld 193 (.pointer (some ⟨b, o, none⟩)) 1) J = J (.pointer (some ⟨b, o + 1, none⟩)) := by rw [pA_def, funext (run_fld_pithref10_Window_All b o), rA_value]
theorem run_fld_pithref06_Set_P (b o : Nat) (w : World) : (oFld 219 (.pointer (some ⟨b, o, none⟩)) 1).run Tryz.prog w = .ok (.value (.pointer (some ⟨b, o + 1, none⟩))) w := by kernel_rfl
theorem pN_fld_pithref06_Set_P (b o : Nat) : pN Tryz.prog (oFld 219 (.pointer (some ⟨b, o, none⟩)) 1) w K = K (.pointer (some ⟨b, o + 1, none⟩)) w := by rw [pN_def, run_fld_pithref06_Set_P, rN_value]
theorem pA_fld_pithref06_Set_P (b o : Nat) : pA Tryz.prog (oFld 219 (.pointer (some ⟨b, o, none⟩)) 1) J = J (.pointer (some ⟨b, o + 1, none⟩)) := by rw [pA_def, funext (run_fld_pithref06_Set_P b o), rA_value]
theorem run_fld_rcdec_place_read (b o : Nat) (w : World) : (oFld 224 (.pointer (some ⟨b, o, none⟩)) 0).run Tryz.prog w = .ok (.value (.pointer (some ⟨b, o, none⟩))) w := by kernel_rfl
theorem pN_fld_rcdec_place_read (b o : Nat) : pN Tryz.prog (oFld 224 (.pointer (some ⟨b, o, none⟩)) 0) w K = K (.pointer (some ⟨b, o, none⟩)) w := by rw [pN_def, run_fld_rcdec_place_read, rN_value]
theorem pA_fld_rcdec_place_read (b o : Nat) : pA Tryz.prog (oFld 224 (.pointer (some ⟨b, o, none⟩)) 0) J = J (.pointer (some ⟨b, o, none⟩)) := by rw [pA_def, funext (run_fld_rcdec_place_read b o), rA_value]
theorem run_fld_rcdec_place_rng (b o : Nat) (w : World) : (oFld 224 (.pointer (some ⟨b, o, none⟩)) 1).run Tryz.prog w = .ok (.value (.pointer (some ⟨b, o + 1, none⟩))) w := by kernel_rfl
theorem pN_fld_rcdec_place_rng (b o : Nat) : pN Tryz.prog (oFld 224 (.pointer (some ⟨b, o, none⟩)) 1) w K = K (.pointer (some ⟨b, o + 1, none⟩)) w := by rw [pN_def, run_fld_rcdec_place_rng, rN_value]
theorem pA_fld_rcdec_place_rng (b o : Nat) : pA Tryz.prog (oFld 224 (.pointer (some ⟨b, o, none⟩)) 1) J = J (.pointer (some ⟨b, o + 1, none⟩)) := by rw [pA_def, funext (run_fld_rcdec_place_rng b o), rA_value]
theorem run_fld_rcdec_place_now (b o : Nat) (w : World) : (oFld 224 (.pointer (some ⟨b, o, none⟩)) 2).run Tryz.prog w = .ok (.value (.pointer (some ⟨b, o + 2, none⟩))) w := by kernel_rfl
theorem pN_fld_rcdec_place_now (b o : Nat) : pN Tryz.prog (oFld 224 (.pointer (some ⟨b, o, none⟩)) 2) w K = K (.pointer (some ⟨b, o + 2, none⟩)) w := by rw [pN_def, run_fld_rcdec_place_now, rN_value]
theorem pA_fld_rcdec_place_now (b o : Nat) : pA Tryz.prog (oFld 224 (.pointer (some ⟨b, o, none⟩)) 2) J = J (.pointer (some ⟨b, o + 2, none⟩)) := by rw [pA_def, funext (run_fld_rcdec_place_now b o), rA_value]
theorem run_fld_rcdec_Decoder_b (b o : Nat) (w : World) : (oFld 226 (.pointer (some ⟨b, o, none⟩)) 0).run Tryz.prog w = .ok (.value (.pointer (some ⟨b, o, none⟩))) w := by kernel_rfl
theorem pN_fld_rcdec_Decoder_b (b o : Nat) : pN Tryz.prog (oFld 226 (.pointer (some ⟨b, o, none⟩)) 0) w K = K (.pointer (some ⟨b, o, none⟩)) w := by rw [pN_def, run_fld_rcdec_Decoder_b, rN_value]
theorem pA_fld_rcdec_Decoder_b (b o : Nat) : pA Tryz.prog (oFld 226 (.pointer (some ⟨b, o, none⟩)) 0) J = J (.pointer (some ⟨b, o, none⟩)) := by rw [pA_def, funext (run_fld_rcdec_Decoder_b b o), rA_value]
theorem run_fld_rcdec_Decoder_place (b o : Nat) (w : World) : (oFld 226 (.pointer (some ⟨b, o, none⟩)) 1).run Tryz.prog w = .ok (.value (.pointer (some ⟨b, o + 1, none⟩))) w := by kernel_rfl
theorem pN_fld_rcdec_Decoder_place (b o : Nat) : pN Tryz.prog (oFld 226 (.pointer (some ⟨b, o, none⟩)) 1) w K = K (.pointer (some ⟨b, o + 1, none⟩)) w := by rw [pN_def, run_fld_rcdec_Decoder_place, rN_value]
theorem pA_fld_rcdec_Decoder_place (b o : Nat) : pA Tryz.prog (oFld 226 (.pointer (some ⟨b, o, none⟩)) 1) J = J (.pointer (some ⟨b, o + 1, none⟩)) := by rw [pA_def, funext (run_fld_rcdec_Decoder_place b o), rA_value]
theorem run_fld_lzdec_reader_Decoder (b o : Nat) (w : World) : (oFld 233 (.pointer (some ⟨b, o, none⟩)) 0).run Tryz.prog w = .ok (.value (.pointer (some ⟨b, o, none⟩))) w := by kernel_rfl
theorem pN_fld_lzdec_reader_Decoder (b o : Nat) : pN Tryz.prog (oFld 233 (.pointer (some ⟨b, o, none⟩)) 0) w K = K (.pointer (some ⟨b, o, none⟩)) w := by rw [pN_def, run_fld_lzdec_reader_Decoder, rN_value]
theorem pA_fld_lzdec_reader_Decoder (b o : Nat) : pA Tryz.prog (oFld 233 (.pointer (some ⟨b, o, none⟩)) 0) J = J (.pointer (some ⟨b, o, none⟩)) := by rw [pA_def, funext (run_fld_lzdec_reader_Decoder b o), rA_value]
theorem run_fld_lzdec_reader_d (b o : Nat) (w : World) : (oFld 233 (.pointer (some ⟨b, o, none⟩)) 1).run Tryz.prog w = .ok (.value (.pointer (some ⟨b, o + 1, none⟩))) w := by kernel_rfl
theorem pN_fld_lzdec_reader_d (b o : Nat) : pN Tryz.prog (oFld 233 (.pointer (some ⟨b, o, none⟩)) 1) w K = K (.pointer (some ⟨b, o + 1, none⟩)) w := by rw [pN_def, run_fld_lzdec_reader_d, rN_value]
theorem pA_fld_lzdec_reader_d (b o : Nat) : pA Tryz.prog (oFld 233 (.pointer (some ⟨b, o, none⟩)) 1) J = J (.pointer (some ⟨b, o + 1, none⟩)) := by rw [pA_def, funext (run_fld_lzdec_reader_d b o), rA_value]
theorem run_fld_lzdec_reader_failed (b o : Nat) (w : World) : (oFld 233 (.pointer (some ⟨b, o, none⟩)) 2).run Tryz.prog w = .ok (.value (.pointer (some ⟨b, o + 2, none⟩))) w := by kernel_rfl
theorem pN_fld_lzdec_reader_failed (b o : Nat) : pN Tryz.prog (oFld 233 (.pointer (some ⟨b, o, none⟩)) 2) w K = K (.pointer (some ⟨b, o + 2, none⟩)) w := by rw [pN_def, run_fld_lzdec_reader_failed, rN_value]
theorem pA_fld_lzdec_reader_failed (b o : Nat) : pA Tryz.prog (oFld 233 (.pointer (some ⟨b, o, none⟩)) 2) J = J (.pointer (some ⟨b, o + 2, none⟩)) := by rw [pA_def, funext (run_fld_lzdec_reader_failed b o), rA_value]
theorem run_fld_prob_Set_p (b o : Nat) (w : World) : (oFld 254 (.pointer (some ⟨b, o, none⟩)) 0).run Tryz.prog w = .ok (.value (.pointer (some ⟨b, o, none⟩))) w := by kernel_rfl
theorem pN_fld_prob_Set_p (b o : Nat) : pN Tryz.prog (oFld 254 (.pointer (some ⟨b, o, none⟩)) 0) w K = K (.pointer (some ⟨b, o, none⟩)) w := by rw [pN_def, run_fld_prob_Set_p, rN_value]
theorem pA_fld_prob_Set_p (b o : Nat) : pA Tryz.prog (oFld 254 (.pointer (some ⟨b, o, none⟩)) 0) J = J (.pointer (some ⟨b, o, none⟩)) := by rw [pA_def, funext (run_fld_prob_Set_p b o), rA_value]
theorem run_fld_pithref08_Decoder_B (b o : Nat) (w : World) : (oFld 272 (.pointer (some ⟨b, o, none⟩)) 0).run Tryz.prog w = .ok (.value (.pointer (some ⟨b, o, none⟩))) w := by kernel_rfl
theorem pN_fld_pithref08_Decoder_B (b o : Nat) : pN Tryz.prog (oFld 272 (.pointer (some ⟨b, o, none⟩)) 0) w K = K (.pointer (some ⟨b, o, none⟩)) w := by rw [pN_def, run_fld_pithref08_Decoder_B, rN_value]
theorem pA_fld_pithref08_Decoder_B (b o : Nat) : pA Tryz.prog (oFld 272 (.pointer (some ⟨b, o, none⟩)) 0) J = J (.pointer (some ⟨b, o, none⟩)) := by rw [pA_def, funext (run_fld_pithref08_Decoder_B b o), rA_value]
theorem run_fld_pithref08_Decoder_Read (b o : Nat) (w : World) : (oFld 272 (.pointer (some ⟨b, o, none⟩)) 1).run Tryz.prog w = .ok (.value (.pointer (some ⟨b, o + 1, none⟩))) w := by kernel_rfl
theorem pN_fld_pithref08_Decoder_Read (b o : Nat) : pN Tryz.prog (oFld 272 (.pointer (some ⟨b, o, none⟩)) 1) w K = K (.pointer (some ⟨b, o + 1, none⟩)) w := by rw [pN_def, run_fld_pithref08_Decoder_Read, rN_value]
theorem pA_fld_pithref08_Decoder_Read (b o : Nat) : pA Tryz.prog (oFld 272 (.pointer (some ⟨b, o, none⟩)) 1) J = J (.pointer (some ⟨b, o + 1, none⟩)) := by rw [pA_def, funext (run_fld_pithref08_Decoder_Read b o), rA_value]
theorem run_fld_pithref08_Decoder_R (b o : Nat) (w : World) : (oFld 272 (.pointer (some ⟨b, o, none⟩)) 2).run Tryz.prog w = .ok (.value (.pointer (some ⟨b, o + 2, none⟩))) w := by kernel_rfl
theorem pN_fld_pithref08_Decoder_R (b o : Nat) : pN Tryz.prog (oFld 272 (.pointer (some ⟨b, o, none⟩)) 2) w K = K (.pointer (some ⟨b, o + 2, none⟩)) w := by rw [pN_def, run_fld_pithref08_Decoder_R, rN_value]
theorem pA_fld_pithref08_Decoder_R (b o : Nat) : pA Tryz.prog (oFld 272 (.pointer (some ⟨b, o, none⟩)) 2) J = J (.pointer (some ⟨b, o + 2, none⟩)) := by rw [pA_def, funext (run_fld_pithref08_Decoder_R b o), rA_value]
theorem run_fld_pithref08_Decoder_C (b o : Nat) (w : World) : (oFld 272 (.pointer (some ⟨b, o, none⟩)) 3).run Tryz.prog w = .ok (.value (.pointer (some ⟨b, o + 3, none⟩))) w := by kernel_rfl
theorem pN_fld_pithref08_Decoder_C (b o : Nat) : pN Tryz.prog (oFld 272 (.pointer (some ⟨b, o, none⟩)) 3) w K = K (.pointer (some ⟨b, o + 3, none⟩)) w := by rw [pN_def, run_fld_pithref08_Decoder_C, rN_value]
theorem pA_fld_pithref08_Decoder_C (b o : Nat) : pA Tryz.prog (oFld 272 (.pointer (some ⟨b, o, none⟩)) 3) J = J (.pointer (some ⟨b, o + 3, none⟩)) := by rw [pA_def, funext (run_fld_pithref08_Decoder_C b o), rA_value]
theorem call_rcdec_Decoder_Bit_c1 (args : Array Value) (w : World) : (callFunc 180 args).run Tryz.prog w = .ok (.enter 180 args) w := Tryz.call180 args w
theorem call_rcdec_Decoder_Direct_c1 (args : Array Value) (w : World) : (callFunc 186 args).run Tryz.prog w = .ok (.enter 186 args) w := Tryz.call186 args w
theorem call_tree_get_c1 (args : Array Value) (w : World) : (callFunc 221 args).run Tryz.prog w = .ok (.enter 221 args) w := Tryz.call221 args w
attribute [local irreducible] pN oCall oCallV
theorem pc_pithlaw15_begun {args : List Value} (h : Calls Tryz.prog 9 args.toArray w (retP K)) : pN Tryz.prog (oCall 9 args) w K := pN_callQ (f := 9) Tryz.call9 h
theorem pc_pithlaw15_fixed {args : List Value} (h : Calls Tryz.prog 10 args.toArray w (retP K)) : pN Tryz.prog (oCall 10 args) w K := pN_callQ (f := 10) Tryz.call10 h
theorem pc_pithlaw15_pair_step {args : List Value} (h : Calls Tryz.prog 11 args.toArray w (retP K)) : pN Tryz.prog (oCall 11 args) w K := pN_callQ (f := 11) Tryz.call11 h
theorem pc_pithlaw15_pair_kept {args : List Value} (h : Calls Tryz.prog 12 args.toArray w (retP K)) : pN Tryz.prog (oCall 12 args) w K := pN_callQ (f := 12) Tryz.call12 h
theorem pc_pithref14_New {args : List Value} (h : Calls Tryz.prog 14 args.toArray w (retP K)) : pN Tryz.prog (oCall 14 args) w K := pN_callQ (f := 14) Tryz.call14 h
theorem pc_pithref14_Coder_Reset {args : List Value} (h : Calls Tryz.prog 27 args.toArray w (retP K)) : pN Tryz.prog (oCall 27 args) w K := pN_callQ (f := 27) Tryz.call27 h
theorem pc_pithref14_Coder_Clear {args : List Value} (h : Calls Tryz.prog 29 args.toArray w (retP K)) : pN Tryz.prog (oCall 29 args) w K := pN_callQ (f := 29) Tryz.call29 h
theorem pc_lzdec_Decoder_Take {args : List Value} (h : Calls Tryz.prog 39 args.toArray w (retP K)) : pN Tryz.prog (oCall 39 args) w K := pN_callQ (f := 39) Tryz.call39 h
theorem pc_lzdec_New {args : List Value} (h : Calls Tryz.prog 41 args.toArray w (retP K)) : pN Tryz.prog (oCall 41 args) w K := pN_callQ (f := 41) Tryz.call41 h
theorem pc_window_New {args : List Value} (h : Calls Tryz.prog 42 args.toArray w (retP K)) : pN Tryz.prog (oCall 42 args) w K := pN_callQ (f := 42) Tryz.call42 h
theorem pc_state_New {args : List Value} (h : Calls Tryz.prog 43 args.toArray w (retP K)) : pN Tryz.prog (oCall 43 args) w K := pN_callQ (f := 43) Tryz.call43 h
theorem pc_state_PropsByte {args : List Value} (h : Calls Tryz.prog 45 args.toArray w (retP K)) : pN Tryz.prog (oCall 45 args) w K := pN_callQ (f := 45) Tryz.call45 h
theorem pc_window_Window_Put {args : List Value} (h : Calls Tryz.prog 46 args.toArray w (retP K)) : pN Tryz.prog (oCall 46 args) w K := pN_callQ (f := 46) Tryz.call46 h
theorem pc_window_Window_Clear {args : List Value} (h : Calls Tryz.prog 47 args.toArray w (retP K)) : pN Tryz.prog (oCall 47 args) w K := pN_callQ (f := 47) Tryz.call47 h
theorem pc_symbol_Apply {args : List Value} (h : Calls Tryz.prog 48 args.toArray w (retP K)) : pN Tryz.prog (oCall 48 args) w K := pN_callQ (f := 48) Tryz.call48 h
theorem pc_lzdec_Decoder_Raw {args : List Value} (h : Calls Tryz.prog 51 args.toArray w (retP K)) : pN Tryz.prog (oCall 51 args) w K := pN_callQ (f := 51) Tryz.call51 h
theorem pc_lzdec_Decoder_Reset {args : List Value} (h : Calls Tryz.prog 52 args.toArray w (retP K)) : pN Tryz.prog (oCall 52 args) w K := pN_callQ (f := 52) Tryz.call52 h
theorem pc_lzdec_Decoder_Clear {args : List Value} (h : Calls Tryz.prog 53 args.toArray w (retP K)) : pN Tryz.prog (oCall 53 args) w K := pN_callQ (f := 53) Tryz.call53 h
theorem pc_pithref15_New {args : List Value} (h : Calls Tryz.prog 54 args.toArray w (retP K)) : pN Tryz.prog (oCall 54 args) w K := pN_callQ (f := 54) Tryz.call54 h
theorem pc_pithlaw15_pair_takes {args : List Value} (h : Calls Tryz.prog 55 args.toArray w (retP K)) : pN Tryz.prog (oCall 55 args) w K := pN_callQ (f := 55) Tryz.call55 h
theorem pc_pithlaw15_room {args : List Value} (h : Calls Tryz.prog 56 args.toArray w (retP K)) : pN Tryz.prog (oCall 56 args) w K := pN_callQ (f := 56) Tryz.call56 h
theorem pc_pithref15_Decoder_Raw {args : List Value} (h : Calls Tryz.prog 57 args.toArray w (retP K)) : pN Tryz.prog (oCall 57 args) w K := pN_callQ (f := 57) Tryz.call57 h
theorem pc_pithlaw15_held {args : List Value} (h : Calls Tryz.prog 58 args.toArray w (retP K)) : pN Tryz.prog (oCall 58 args) w K := pN_callQ (f := 58) Tryz.call58 h
theorem pc_pithref15_Decoder_Reset {args : List Value} (h : Calls Tryz.prog 59 args.toArray w (retP K)) : pN Tryz.prog (oCall 59 args) w K := pN_callQ (f := 59) Tryz.call59 h
theorem pc_pithref15_Decoder_Clear {args : List Value} (h : Calls Tryz.prog 60 args.toArray w (retP K)) : pN Tryz.prog (oCall 60 args) w K := pN_callQ (f := 60) Tryz.call60 h
theorem pc_model_New {args : List Value} (h : Calls Tryz.prog 61 args.toArray w (retP K)) : pN Tryz.prog (oCall 61 args) w K := pN_callQ (f := 61) Tryz.call61 h
theorem pc_pithref12_PropsByte {args : List Value} (h : Calls Tryz.prog 63 args.toArray w (retP K)) : pN Tryz.prog (oCall 63 args) w K := pN_callQ (f := 63) Tryz.call63 h
theorem pc_pithref10_New {args : List Value} (h : Calls Tryz.prog 64 args.toArray w (retP K)) : pN Tryz.prog (oCall 64 args) w K := pN_callQ (f := 64) Tryz.call64 h
theorem pc_pithref12_New {args : List Value} (h : Calls Tryz.prog 65 args.toArray w (retP K)) : pN Tryz.prog (oCall 65 args) w K := pN_callQ (f := 65) Tryz.call65 h
theorem pc_pithref07_New {args : List Value} (h : Calls Tryz.prog 66 args.toArray w (retP K)) : pN Tryz.prog (oCall 66 args) w K := pN_callQ (f := 66) Tryz.call66 h
theorem pc_pithref14_Coder_Set {args : List Value} (h : Calls Tryz.prog 72 args.toArray w (retP K)) : pN Tryz.prog (oCall 72 args) w K := pN_callQ (f := 72) Tryz.call72 h
theorem pc_pithref13_Apply {args : List Value} (h : Calls Tryz.prog 73 args.toArray w (retP K)) : pN Tryz.prog (oCall 73 args) w K := pN_callQ (f := 73) Tryz.call73 h
theorem pc_pithref06_Set_At {args : List Value} (h : Calls Tryz.prog 74 args.toArray w (retP K)) : pN Tryz.prog (oCall 74 args) w K := pN_callQ (f := 74) Tryz.call74 h
theorem pc_pithref10_Window_Put {args : List Value} (h : Calls Tryz.prog 78 args.toArray w (retP K)) : pN Tryz.prog (oCall 78 args) w K := pN_callQ (f := 78) Tryz.call78 h
theorem pc_pithref10_Window_Clear {args : List Value} (h : Calls Tryz.prog 79 args.toArray w (retP K)) : pN Tryz.prog (oCall 79 args) w K := pN_callQ (f := 79) Tryz.call79 h
theorem pc_rcdec_New {args : List Value} (h : Calls Tryz.prog 87 args.toArray w (retP K)) : pN Tryz.prog (oCall 87 args) w K := pN_callQ (f := 87) Tryz.call87 h
theorem pc_rcdec_Decoder_Done {args : List Value} (h : Calls Tryz.prog 90 args.toArray w (retP K)) : pN Tryz.prog (oCall 90 args) w K := pN_callQ (f := 90) Tryz.call90 h
theorem pc_lzdec_Decoder_all {args : List Value} (h : Calls Tryz.prog 91 args.toArray w (retP K)) : pN Tryz.prog (oCall 91 args) w K := pN_callQ (f := 91) Tryz.call91 h
theorem pc_state_State_Next {args : List Value} (h : Calls Tryz.prog 92 args.toArray w (retP K)) : pN Tryz.prog (oCall 92 args) w K := pN_callQ (f := 92) Tryz.call92 h
theorem pc_window_Window_Copy {args : List Value} (h : Calls Tryz.prog 93 args.toArray w (retP K)) : pN Tryz.prog (oCall 93 args) w K := pN_callQ (f := 93) Tryz.call93 h
theorem pc_symbol_Size {args : List Value} (h : Calls Tryz.prog 94 args.toArray w (retP K)) : pN Tryz.prog (oCall 94 args) w K := pN_callQ (f := 94) Tryz.call94 h
theorem pc_pithref15_Decoder_Take {args : List Value} (h : Calls Tryz.prog 95 args.toArray w (retP K)) : pN Tryz.prog (oCall 95 args) w K := pN_callQ (f := 95) Tryz.call95 h
theorem pc_pithlaw15_sames {args : List Value} (h : Calls Tryz.prog 96 args.toArray w (retP K)) : pN Tryz.prog (oCall 96 args) w K := pN_callQ (f := 96) Tryz.call96 h
theorem pc_pithlaw15_pair_keep {args : List Value} (h : Calls Tryz.prog 97 args.toArray w (retP K)) : pN Tryz.prog (oCall 97 args) w K := pN_callQ (f := 97) Tryz.call97 h
theorem pc_model_row {args : List Value} (h : Calls Tryz.prog 98 args.toArray w (retP K)) : pN Tryz.prog (oCall 98 args) w K := pN_callQ (f := 98) Tryz.call98 h
theorem pc_model_lengths {args : List Value} (h : Calls Tryz.prog 99 args.toArray w (retP K)) : pN Tryz.prog (oCall 99 args) w K := pN_callQ (f := 99) Tryz.call99 h
theorem pc_pithref12_Allowed {args : List Value} (h : Calls Tryz.prog 100 args.toArray w (retP K)) : pN Tryz.prog (oCall 100 args) w K := pN_callQ (f := 100) Tryz.call100 h
theorem pc_window_Window_Last {args : List Value} (h : Calls Tryz.prog 101 args.toArray w (retP K)) : pN Tryz.prog (oCall 101 args) w K := pN_callQ (f := 101) Tryz.call101 h
theorem pc_model_Tables_At {args : List Value} (h : Calls Tryz.prog 102 args.toArray w (retP K)) : pN Tryz.prog (oCall 102 args) w K := pN_callQ (f := 102) Tryz.call102 h
theorem pc_window_Window_Pos {args : List Value} (h : Calls Tryz.prog 103 args.toArray w (retP K)) : pN Tryz.prog (oCall 103 args) w K := pN_callQ (f := 103) Tryz.call103 h
theorem pc_pithref14_Coder_Place {args : List Value} (h : Calls Tryz.prog 107 args.toArray w (retP K)) : pN Tryz.prog (oCall 107 args) w K := pN_callQ (f := 107) Tryz.call107 h
theorem pc_pithref14_name {args : List Value} (h : Calls Tryz.prog 108 args.toArray w (retP K)) : pN Tryz.prog (oCall 108 args) w K := pN_callQ (f := 108) Tryz.call108 h
theorem pc_pithref06_Bound {args : List Value} (h : Calls Tryz.prog 116 args.toArray w (retP K)) : pN Tryz.prog (oCall 116 args) w K := pN_callQ (f := 116) Tryz.call116 h
theorem pc_pithref06_Set_Turn {args : List Value} (h : Calls Tryz.prog 117 args.toArray w (retP K)) : pN Tryz.prog (oCall 117 args) w K := pN_callQ (f := 117) Tryz.call117 h
theorem pc_pithref06_New {args : List Value} (h : Calls Tryz.prog 118 args.toArray w (retP K)) : pN Tryz.prog (oCall 118 args) w K := pN_callQ (f := 118) Tryz.call118 h
theorem pc_pithref12_Next {args : List Value} (h : Calls Tryz.prog 119 args.toArray w (retP K)) : pN Tryz.prog (oCall 119 args) w K := pN_callQ (f := 119) Tryz.call119 h
theorem pc_pithref10_Window_Copy {args : List Value} (h : Calls Tryz.prog 120 args.toArray w (retP K)) : pN Tryz.prog (oCall 120 args) w K := pN_callQ (f := 120) Tryz.call120 h
theorem pc_pithref13_Dist {args : List Value} (h : Calls Tryz.prog 121 args.toArray w (retP K)) : pN Tryz.prog (oCall 121 args) w K := pN_callQ (f := 121) Tryz.call121 h
theorem pc_pithref13_Size {args : List Value} (h : Calls Tryz.prog 122 args.toArray w (retP K)) : pN Tryz.prog (oCall 122 args) w K := pN_callQ (f := 122) Tryz.call122 h
theorem pc_pithref06_bound {args : List Value} (h : Calls Tryz.prog 123 args.toArray w (retP K)) : pN Tryz.prog (oCall 123 args) w K := pN_callQ (f := 123) Tryz.call123 h
theorem pc_lzdec_newReader {args : List Value} (h : Calls Tryz.prog 133 args.toArray w (retP K)) : pN Tryz.prog (oCall 133 args) w K := pN_callQ (f := 133) Tryz.call133 h
theorem pc_lzdec_reader_symbol {args : List Value} (h : Calls Tryz.prog 134 args.toArray w (retP K)) : pN Tryz.prog (oCall 134 args) w K := pN_callQ (f := 134) Tryz.call134 h
theorem pc_state_State_right {args : List Value} (h : Calls Tryz.prog 135 args.toArray w (retP K)) : pN Tryz.prog (oCall 135 args) w K := pN_callQ (f := 135) Tryz.call135 h
theorem pc_state_isLen {args : List Value} (h : Calls Tryz.prog 136 args.toArray w (retP K)) : pN Tryz.prog (oCall 136 args) w K := pN_callQ (f := 136) Tryz.call136 h
theorem pc_state_isDist {args : List Value} (h : Calls Tryz.prog 137 args.toArray w (retP K)) : pN Tryz.prog (oCall 137 args) w K := pN_callQ (f := 137) Tryz.call137 h
theorem pc_window_Window_in {args : List Value} (h : Calls Tryz.prog 138 args.toArray w (retP K)) : pN Tryz.prog (oCall 138 args) w K := pN_callQ (f := 138) Tryz.call138 h
theorem pc_window_Window_back {args : List Value} (h : Calls Tryz.prog 139 args.toArray w (retP K)) : pN Tryz.prog (oCall 139 args) w K := pN_callQ (f := 139) Tryz.call139 h
theorem pc_pithref15_Decoder_symbols {args : List Value} (h : Calls Tryz.prog 140 args.toArray w (retP K)) : pN Tryz.prog (oCall 140 args) w K := pN_callQ (f := 140) Tryz.call140 h
theorem pc_prob_New {args : List Value} (h : Calls Tryz.prog 141 args.toArray w (retP K)) : pN Tryz.prog (oCall 141 args) w K := pN_callQ (f := 141) Tryz.call141 h
theorem pc_model_Tables_PlaceState {args : List Value} (h : Calls Tryz.prog 142 args.toArray w (retP K)) : pN Tryz.prog (oCall 142 args) w K := pN_callQ (f := 142) Tryz.call142 h
theorem pc_model_Tables_Context {args : List Value} (h : Calls Tryz.prog 143 args.toArray w (retP K)) : pN Tryz.prog (oCall 143 args) w K := pN_callQ (f := 143) Tryz.call143 h
theorem pc_state_State_Literal {args : List Value} (h : Calls Tryz.prog 144 args.toArray w (retP K)) : pN Tryz.prog (oCall 144 args) w K := pN_callQ (f := 144) Tryz.call144 h
theorem pc_state_Range {args : List Value} (h : Calls Tryz.prog 146 args.toArray w (retP K)) : pN Tryz.prog (oCall 146 args) w K := pN_callQ (f := 146) Tryz.call146 h
theorem pc_model_Late {args : List Value} (h : Calls Tryz.prog 147 args.toArray w (retP K)) : pN Tryz.prog (oCall 147 args) w K := pN_callQ (f := 147) Tryz.call147 h
theorem pc_model_RestAt {args : List Value} (h : Calls Tryz.prog 148 args.toArray w (retP K)) : pN Tryz.prog (oCall 148 args) w K := pN_callQ (f := 148) Tryz.call148 h
theorem pc_pithref14_two {args : List Value} (h : Calls Tryz.prog 149 args.toArray w (retP K)) : pN Tryz.prog (oCall 149 args) w K := pN_callQ (f := 149) Tryz.call149 h
theorem pc_strconv_Itoa {args : List Value} (h : Calls Tryz.prog 150 args.toArray w (retP K)) : pN Tryz.prog (oCall 150 args) w K := pN_callQ (f := 150) Tryz.call150 h
theorem pc_pithref14_Coder_Literal {args : List Value} (h : Calls Tryz.prog 151 args.toArray w (retP K)) : pN Tryz.prog (oCall 151 args) w K := pN_callQ (f := 151) Tryz.call151 h
theorem pc_pithref10_Window_Last {args : List Value} (h : Calls Tryz.prog 153 args.toArray w (retP K)) : pN Tryz.prog (oCall 153 args) w K := pN_callQ (f := 153) Tryz.call153 h
theorem pc_pithref12_Range {args : List Value} (h : Calls Tryz.prog 155 args.toArray w (retP K)) : pN Tryz.prog (oCall 155 args) w K := pN_callQ (f := 155) Tryz.call155 h
theorem pc_pithref06_Next {args : List Value} (h : Calls Tryz.prog 157 args.toArray w (retP K)) : pN Tryz.prog (oCall 157 args) w K := pN_callQ (f := 157) Tryz.call157 h
theorem pc_pithref06_Set_Reset {args : List Value} (h : Calls Tryz.prog 158 args.toArray w (retP K)) : pN Tryz.prog (oCall 158 args) w K := pN_callQ (f := 158) Tryz.call158 h
theorem pc_pithref12_Right {args : List Value} (h : Calls Tryz.prog 159 args.toArray w (retP K)) : pN Tryz.prog (oCall 159 args) w K := pN_callQ (f := 159) Tryz.call159 h
theorem pc_pithref12_Formed {args : List Value} (h : Calls Tryz.prog 160 args.toArray w (retP K)) : pN Tryz.prog (oCall 160 args) w K := pN_callQ (f := 160) Tryz.call160 h
theorem pc_pithref12_moved {args : List Value} (h : Calls Tryz.prog 161 args.toArray w (retP K)) : pN Tryz.prog (oCall 161 args) w K := pN_callQ (f := 161) Tryz.call161 h
theorem pc_pithref10_Window_Has {args : List Value} (h : Calls Tryz.prog 162 args.toArray w (retP K)) : pN Tryz.prog (oCall 162 args) w K := pN_callQ (f := 162) Tryz.call162 h
theorem pc_rcdec_Decoder_Bit {args : List Value} (h : Calls Tryz.prog 163 args.toArray w (retP K)) : pN Tryz.prog (oCall 163 args) w K := pN_callQ (f := 163) Tryz.call163 h
theorem pc_rcdec_Decoder_Direct {args : List Value} (h : Calls Tryz.prog 166 args.toArray w (retP K)) : pN Tryz.prog (oCall 166 args) w K := pN_callQ (f := 166) Tryz.call166 h
theorem pc_lzdec_reader_bit {args : List Value} (h : Calls Tryz.prog 167 args.toArray w (retP K)) : pN Tryz.prog (oCall 167 args) w K := pN_callQ (f := 167) Tryz.call167 h
theorem pc_lzdec_reader_literal {args : List Value} (h : Calls Tryz.prog 168 args.toArray w (retP K)) : pN Tryz.prog (oCall 168 args) w K := pN_callQ (f := 168) Tryz.call168 h
theorem pc_lzdec_reader_length {args : List Value} (h : Calls Tryz.prog 169 args.toArray w (retP K)) : pN Tryz.prog (oCall 169 args) w K := pN_callQ (f := 169) Tryz.call169 h
theorem pc_lzdec_reader_distance {args : List Value} (h : Calls Tryz.prog 170 args.toArray w (retP K)) : pN Tryz.prog (oCall 170 args) w K := pN_callQ (f := 170) Tryz.call170 h
theorem pc_pithref08_New {args : List Value} (h : Calls Tryz.prog 171 args.toArray w (retP K)) : pN Tryz.prog (oCall 171 args) w K := pN_callQ (f := 171) Tryz.call171 h
theorem pc_pithref15_Decoder_symbol {args : List Value} (h : Calls Tryz.prog 172 args.toArray w (retP K)) : pN Tryz.prog (oCall 172 args) w K := pN_callQ (f := 172) Tryz.call172 h
theorem pc_pithref08_Decoder_Done {args : List Value} (h : Calls Tryz.prog 173 args.toArray w (retP K)) : pN Tryz.prog (oCall 173 args) w K := pN_callQ (f := 173) Tryz.call173 h
theorem pc_prob_Set_Reset {args : List Value} (h : Calls Tryz.prog 174 args.toArray w (retP K)) : pN Tryz.prog (oCall 174 args) w K := pN_callQ (f := 174) Tryz.call174 h
theorem pc_pithref12_bits {args : List Value} (h : Calls Tryz.prog 177 args.toArray w (retP K)) : pN Tryz.prog (oCall 177 args) w K := pN_callQ (f := 177) Tryz.call177 h
theorem pc_pithref10_Window_Full {args : List Value} (h : Calls Tryz.prog 178 args.toArray w (retP K)) : pN Tryz.prog (oCall 178 args) w K := pN_callQ (f := 178) Tryz.call178 h
theorem pc_prob_Set_At {args : List Value} (h : Calls Tryz.prog 179 args.toArray w (retP K)) : pN Tryz.prog (oCall 179 args) w K := pN_callQ (f := 179) Tryz.call179 h
theorem pc_rcdec_Decoder_back {args : List Value} (h : Calls Tryz.prog 181 args.toArray w (retP K)) : pN Tryz.prog (oCall 181 args) w K := pN_callQ (f := 181) Tryz.call181 h
theorem pc_prob_Set_Turn {args : List Value} (h : Calls Tryz.prog 182 args.toArray w (retP K)) : pN Tryz.prog (oCall 182 args) w K := pN_callQ (f := 182) Tryz.call182 h
theorem pc_rcdec_Decoder_upper {args : List Value} (h : Calls Tryz.prog 183 args.toArray w (retP K)) : pN Tryz.prog (oCall 183 args) w K := pN_callQ (f := 183) Tryz.call183 h
theorem pc_prob_Bound {args : List Value} (h : Calls Tryz.prog 184 args.toArray w (retP K)) : pN Tryz.prog (oCall 184 args) w K := pN_callQ (f := 184) Tryz.call184 h
theorem pc_rcdec_Decoder_widen {args : List Value} (h : Calls Tryz.prog 185 args.toArray w (retP K)) : pN Tryz.prog (oCall 185 args) w K := pN_callQ (f := 185) Tryz.call185 h
theorem pc_lzdec_reader_got {args : List Value} (h : Calls Tryz.prog 187 args.toArray w (retP K)) : pN Tryz.prog (oCall 187 args) w K := pN_callQ (f := 187) Tryz.call187 h
theorem pc_lzdec_reader_tree {args : List Value} (h : Calls Tryz.prog 188 args.toArray w (retP K)) : pN Tryz.prog (oCall 188 args) w K := pN_callQ (f := 188) Tryz.call188 h
theorem pc_lzdec_reader_back {args : List Value} (h : Calls Tryz.prog 189 args.toArray w (retP K)) : pN Tryz.prog (oCall 189 args) w K := pN_callQ (f := 189) Tryz.call189 h
theorem pc_lzdec_reader_direct {args : List Value} (h : Calls Tryz.prog 190 args.toArray w (retP K)) : pN Tryz.prog (oCall 190 args) w K := pN_callQ (f := 190) Tryz.call190 h
theorem pc_pithref15_Decoder_bit {args : List Value} (h : Calls Tryz.prog 191 args.toArray w (retP K)) : pN Tryz.prog (oCall 191 args) w K := pN_callQ (f := 191) Tryz.call191 h
theorem pc_pithref15_set {args : List Value} (h : Calls Tryz.prog 192 args.toArray w (retP K)) : pN Tryz.prog (oCall 192 args) w K := pN_callQ (f := 192) Tryz.call192 h
theorem pc_pithref15_Decoder_literal {args : List Value} (h : Calls Tryz.prog 193 args.toArray w (retP K)) : pN Tryz.prog (oCall 193 args) w K := pN_callQ (f := 193) Tryz.call193 h
theorem pc_pithref15_Decoder_length {args : List Value} (h : Calls Tryz.prog 194 args.toArray w (retP K)) : pN Tryz.prog (oCall 194 args) w K := pN_callQ (f := 194) Tryz.call194 h
theorem pc_pithref15_Decoder_distance {args : List Value} (h : Calls Tryz.prog 195 args.toArray w (retP K)) : pN Tryz.prog (oCall 195 args) w K := pN_callQ (f := 195) Tryz.call195 h
theorem pc_prob_Set_has {args : List Value} (h : Calls Tryz.prog 199 args.toArray w (retP K)) : pN Tryz.prog (oCall 199 args) w K := pN_callQ (f := 199) Tryz.call199 h
theorem pc_prob_Next {args : List Value} (h : Calls Tryz.prog 200 args.toArray w (retP K)) : pN Tryz.prog (oCall 200 args) w K := pN_callQ (f := 200) Tryz.call200 h
theorem pc_prob_taken {args : List Value} (h : Calls Tryz.prog 201 args.toArray w (retP K)) : pN Tryz.prog (oCall 201 args) w K := pN_callQ (f := 201) Tryz.call201 h
theorem pc_tree_Get {args : List Value} (h : Calls Tryz.prog 202 args.toArray w (retP K)) : pN Tryz.prog (oCall 202 args) w K := pN_callQ (f := 202) Tryz.call202 h
theorem pc_tree_GetBack {args : List Value} (h : Calls Tryz.prog 203 args.toArray w (retP K)) : pN Tryz.prog (oCall 203 args) w K := pN_callQ (f := 203) Tryz.call203 h
theorem pc_pithref08_Decoder_Bit {args : List Value} (h : Calls Tryz.prog 204 args.toArray w (retP K)) : pN Tryz.prog (oCall 204 args) w K := pN_callQ (f := 204) Tryz.call204 h
theorem pc_pithref15_Decoder_tree {args : List Value} (h : Calls Tryz.prog 205 args.toArray w (retP K)) : pN Tryz.prog (oCall 205 args) w K := pN_callQ (f := 205) Tryz.call205 h
theorem pc_pithref15_Decoder_back {args : List Value} (h : Calls Tryz.prog 206 args.toArray w (retP K)) : pN Tryz.prog (oCall 206 args) w K := pN_callQ (f := 206) Tryz.call206 h
theorem pc_pithref08_Decoder_Direct {args : List Value} (h : Calls Tryz.prog 207 args.toArray w (retP K)) : pN Tryz.prog (oCall 207 args) w K := pN_callQ (f := 207) Tryz.call207 h
theorem pc_tree_get {args : List Value} (h : Calls Tryz.prog 212 args.toArray w (retP K)) : pN Tryz.prog (oCall 212 args) w K := pN_callQ (f := 212) Tryz.call212 h
theorem pc_pithref08_Decoder_Fork {args : List Value} (h : Calls Tryz.prog 213 args.toArray w (retP K)) : pN Tryz.prog (oCall 213 args) w K := pN_callQ (f := 213) Tryz.call213 h
theorem pc_pithref08_Decoder_widen {args : List Value} (h : Calls Tryz.prog 214 args.toArray w (retP K)) : pN Tryz.prog (oCall 214 args) w K := pN_callQ (f := 214) Tryz.call214 h
theorem pc_tree_there {args : List Value} (h : Calls Tryz.prog 219 args.toArray w (retP K)) : pN Tryz.prog (oCall 219 args) w K := pN_callQ (f := 219) Tryz.call219 h
theorem pc_tree_down {args : List Value} (h : Calls Tryz.prog 220 args.toArray w (retP K)) : pN Tryz.prog (oCall 220 args) w K := pN_callQ (f := 220) Tryz.call220 h
theorem pv_tree_get_c1 {cap args : List Value} (h : Calls Tryz.prog 221 (args ++ cap).toArray w (retP K)) : pN Tryz.prog (oCallV (.func (.func 221) [].toArray cap.toArray) args) w K := pN_callV (f := 221) (fun a w => call_tree_get_c1 a w) h
theorem pc_tree_order {args : List Value} (h : Calls Tryz.prog 222 args.toArray w (retP K)) : pN Tryz.prog (oCall 222 args) w K := pN_callQ (f := 222) Tryz.call222 h
theorem pc_prob_Set_Len {args : List Value} (h : Calls Tryz.prog 225 args.toArray w (retP K)) : pN Tryz.prog (oCall 225 args) w K := pN_callQ (f := 225) Tryz.call225 h
end

attribute [go_sem] pN_conv_int_uint8 pA_conv_int_uint8 pL_conv_int_uint8 pN_conv_int_uint32 pA_conv_int_uint32 pL_conv_int_uint32 pN_conv_uint8_int pA_conv_uint8_int pL_conv_uint8_int pN_conv_uint8_uint32 pA_conv_uint8_uint32 pL_conv_uint8_uint32 pN_conv_uint32_int pA_conv_uint32_int pL_conv_uint32_int pN_conv_uint_uint32 pA_conv_uint_uint32 pL_conv_uint_uint32 pN_conv_uint64_uint8 pA_conv_uint64_uint8 pL_conv_uint64_uint8 pN_len_sl_pithlaw15_Op pA_len_sl_pithlaw15_Op pN_len_sl_uint8 pA_len_sl_uint8 pN_len_sl_api_Symbol pA_len_sl_api_Symbol pN_len_sl_pithlaw15_Page pA_len_sl_pithlaw15_Page pN_len_sl_int pA_len_sl_int pN_aidx_arr4_int pA_aidx_arr4_int pN_aidx_arr12_int pA_aidx_arr12_int pN_aidx_arr32_uint8 pA_aidx_arr32_uint8 pN_aidx_arr64_uint8 pA_aidx_arr64_uint8 pN_eql_p_pithlaw15_pair pA_eql_p_pithlaw15_pair pN_neq_p_pithlaw15_pair pA_neq_p_pithlaw15_pair pN_eql_p_lzdec_Decoder pA_eql_p_lzdec_Decoder pN_neq_p_lzdec_Decoder pA_neq_p_lzdec_Decoder pN_eql_p_pithref15_Decoder pA_eql_p_pithref15_Decoder pN_neq_p_pithref15_Decoder pA_neq_p_pithref15_Decoder pN_eql_p_lzdec_reader pA_eql_p_lzdec_reader pN_neq_p_lzdec_reader pA_neq_p_lzdec_reader pN_eqlb_bool pA_eqlb_bool pN_neqb_bool pA_neqb_bool pN_fld_api_Props_LC pA_fld_api_Props_LC pN_fld_api_Props_LP pA_fld_api_Props_LP pN_fld_api_Props_PB pA_fld_api_Props_PB pN_fld_pithlaw15_Op_Kind pA_fld_pithlaw15_Op_Kind pN_fld_pithlaw15_Op_B pA_fld_pithlaw15_Op_B pN_fld_pithlaw15_Op_N pA_fld_pithlaw15_Op_N pN_fld_pithlaw15_Op_Props pA_fld_pithlaw15_Op_Props pN_fld_api_Symbol_Kind pA_fld_api_Symbol_Kind pN_fld_api_Symbol_Byte pA_fld_api_Symbol_Byte pN_fld_api_Symbol_Len pA_fld_api_Symbol_Len pN_fld_api_Symbol_Dist pA_fld_api_Symbol_Dist pN_fld_pithref12_State_Num pA_fld_pithref12_State_Num pN_fld_pithref12_State_Reps pA_fld_pithref12_State_Reps pN_fld_pithref14_Coder_Props pA_fld_pithref14_Coder_Props pN_fld_pithref14_Coder_W pA_fld_pithref14_Coder_W pN_fld_pithref14_Coder_S pA_fld_pithref14_Coder_S pN_fld_pithref14_Coder_Sets pA_fld_pithref14_Coder_Sets pN_fld_state_State_Num pA_fld_state_State_Num pN_fld_state_State_Reps pA_fld_state_State_Reps pN_fld_pithlaw15_pair_d pA_fld_pithlaw15_pair_d pN_fld_pithlaw15_pair_r pA_fld_pithlaw15_pair_r pN_fld_pithlaw15_pair_book pA_fld_pithlaw15_pair_book pN_fld_pithlaw15_Page_Symbols pA_fld_pithlaw15_Page_Symbols pN_fld_pithlaw15_Page_More pA_fld_pithlaw15_Page_More pN_fld_pithlaw15_Page_Bytes pA_fld_pithlaw15_Page_Bytes pN_fld_pithlaw15_Page_On pA_fld_pithlaw15_Page_On pN_fld_pithlaw15_Page_Mark pA_fld_pithlaw15_Page_Mark pN_fld_model_Lengths_Choice pA_fld_model_Lengths_Choice pN_fld_model_Lengths_Low pA_fld_model_Lengths_Low pN_fld_model_Lengths_Mid pA_fld_model_Lengths_Mid pN_fld_model_Lengths_High pA_fld_model_Lengths_High pN_fld_model_Tables_Props pA_fld_model_Tables_Props pN_fld_model_Tables_State pA_fld_model_Tables_State pN_fld_model_Tables_IsMatch pA_fld_model_Tables_IsMatch pN_fld_model_Tables_IsLong pA_fld_model_Tables_IsLong pN_fld_model_Tables_IsRep pA_fld_model_Tables_IsRep pN_fld_model_Tables_IsRep0 pA_fld_model_Tables_IsRep0 pN_fld_model_Tables_IsRep1 pA_fld_model_Tables_IsRep1 pN_fld_model_Tables_IsRep2 pA_fld_model_Tables_IsRep2 pN_fld_model_Tables_Literal pA_fld_model_Tables_Literal pN_fld_model_Tables_Match pA_fld_model_Tables_Match pN_fld_model_Tables_Rep pA_fld_model_Tables_Rep pN_fld_model_Tables_Slot pA_fld_model_Tables_Slot pN_fld_model_Tables_Rest pA_fld_model_Tables_Rest pN_fld_model_Tables_Align pA_fld_model_Tables_Align pN_fld_lzdec_Decoder_Tables pA_fld_lzdec_Decoder_Tables pN_fld_lzdec_Decoder_w pA_fld_lzdec_Decoder_w pN_fld_lzdec_Decoder_spent pA_fld_lzdec_Decoder_spent pN_fld_window_Window_size pA_fld_window_Window_size pN_fld_window_Window_ring pA_fld_window_Window_ring pN_fld_window_Window_at pA_fld_window_Window_at pN_fld_window_Window_pos pA_fld_window_Window_pos pN_fld_pithref15_Decoder_C pA_fld_pithref15_Decoder_C pN_fld_pithref15_Decoder_D pA_fld_pithref15_Decoder_D pN_fld_pithref15_Decoder_Bad pA_fld_pithref15_Decoder_Bad pN_fld_pithref15_Decoder_Spent pA_fld_pithref15_Decoder_Spent pN_fld_pithref10_Window_Size pA_fld_pithref10_Window_Size pN_fld_pithref10_Window_All pA_fld_pithref10_Window_All pN_fld_pithref06_Set_P pA_fld_pithref06_Set_P pN_fld_rcdec_place_read pA_fld_rcdec_place_read pN_fld_rcdec_place_rng pA_fld_rcdec_place_rng pN_fld_rcdec_place_now pA_fld_rcdec_place_now pN_fld_rcdec_Decoder_b pA_fld_rcdec_Decoder_b pN_fld_rcdec_Decoder_place pA_fld_rcdec_Decoder_place pN_fld_lzdec_reader_Decoder pA_fld_lzdec_reader_Decoder pN_fld_lzdec_reader_d pA_fld_lzdec_reader_d pN_fld_lzdec_reader_failed pA_fld_lzdec_reader_failed pN_fld_prob_Set_p pA_fld_prob_Set_p pN_fld_pithref08_Decoder_B pA_fld_pithref08_Decoder_B pN_fld_pithref08_Decoder_Read pA_fld_pithref08_Decoder_Read pN_fld_pithref08_Decoder_R pA_fld_pithref08_Decoder_R pN_fld_pithref08_Decoder_C pA_fld_pithref08_Decoder_C

end Go.Proofs.YtbgnnjfpiblkmaaGreatDoor
