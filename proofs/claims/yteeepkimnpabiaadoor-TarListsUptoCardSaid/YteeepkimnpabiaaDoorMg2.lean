/-
  Texts of one proof, one behind the other: Key, Defer, Facts, Open, Types.
-/
import Derived.Recover
import Derived.Test.YteeepkimnpabiaaDoorRows
import Derived.ProofKit
import Derived.OpenShut
import Derived.ShutString
import Derived.ChangeOld
import Derived.SizedLaws
import Derived.Deep.Slices
import Derived.Deep.CondSized
import Derived.Test.YteeepkimnpabiaaDoorMg1
namespace Go.Proofs.YteeepkimnpabiaaDoor
open Go
set_option linter.unusedSimpArgs false
set_option linter.unnecessarySimpa false
set_option linter.unusedSectionVars false
set_option linter.unusedVariables false

attribute [go_sem] List.length_set List.length_append List.length_replicate List.length_map List.length_cons List.length_nil List.length_take List.length_drop

/-! ### Finding -/

/-- The part 'F s' of a list, and the others. -/
class Fnd {σ : Type} (F : σ → HA) (L : List HA) (s : outParam σ) (M : outParam (List HA)) : Prop where
  perm : L.Perm (F s :: M)

instance (priority := 1100) Fnd.here {σ : Type} {F : σ → HA} {s : σ} {L : List HA} : Fnd F (F s :: L) s L := ⟨.refl _⟩
instance (priority := 1000) Fnd.there {σ : Type} {F : σ → HA} {A : HA} {s : σ} {L M : List HA} [h : Fnd F L s M] : Fnd F (A :: L) s (A :: M) :=
  ⟨(h.perm.cons A).trans (List.Perm.swap _ _ _)⟩

/-- A part itself. -/
class Has (A : HA) (L : List HA) (M : outParam (List HA)) : Prop where
  perm : L.Perm (A :: M)
instance (priority := 1100) Has.here {A : HA} {L : List HA} : Has A (A :: L) L := ⟨.refl _⟩
instance (priority := 1000) Has.there {A B : HA} {L M : List HA} [h : Has A L M] : Has A (B :: L) (B :: M) := ⟨(h.perm.cons B).trans (List.Perm.swap _ _ _)⟩

/-- One list of parts out of another: in any order; what is not asked is let go. -/
class Arr (L N : List HA) : Prop where
  arr : ∀ h, Sats L h → Sats N h

instance (priority := 1200) Arr.same {L : List HA} : Arr L L := ⟨fun _ h => h⟩
instance (priority := 1100) Arr.nil {L : List HA} : Arr L [] := ⟨fun _ _ => trivial⟩
instance (priority := 1050) Arr.next {A : HA} {L M N : List HA} [h : Has A L M] [k : Arr M N] : Arr L (A :: N) :=
  ⟨fun _ hs => Sats.cons_mono k.arr (hs.perm h.perm)⟩
instance (priority := 100) Arr.let_go {A : HA} {L N : List HA} [k : Arr L N] : Arr (A :: L) N :=
  ⟨fun hp hs => k.arr hp (by obtain ⟨h1, _, s, hr⟩ := hs; exact hr.mono (less_sub _ _))⟩

section
variable {E w w' : World} {A B : HA} {L M N : List HA}

theorem Sat.fd {σ : Type} (hS : Sat E w L) (F : σ → HA) {s : σ} [h : Fnd F L s M] : Sat E w (F s :: M) := hS.perm h.perm
theorem Sat.fd2 {σ τ : Type} (hS : Sat E w L) (F : σ → HA) (G : τ → HA) {s : σ} {t : τ} [h : Fnd F L s M] [k : Fnd G M t N] : Sat E w (F s :: G t :: N) := hS.perm (h.perm.trans (k.perm.cons _))
theorem Sat.to (hS : Sat E w L) [h : Arr L N] : Sat E w N := ⟨hS.os, hS.tape, hS.output, h.arr _ hS.sats⟩
end

/-! ### Variables -/

/-- What a block holds: its element type, its cells. -/
structure Ob where
  e : TypeId
  cs : List Value

def cel (b : Nat) (o : Ob) : HA := blk b (.cells o.cs.toArray o.e (0, 0))

/-- Types of one cell. -/
class Sc (P : Program) (t : TypeId) : Prop where
  na : ∀ w, (isAgg t).run P w = .ok false w
  sz : ∀ w, (sizeOf t).run P w = .ok 1 w

/-- Types of several cells. -/
class Ag (P : Program) (t : TypeId) (n : outParam Nat) : Prop where
  ag : ∀ w, (isAgg t).run P w = .ok true w
  sz : ∀ w, (sizeOf t).run P w = .ok n w

/-- What is at an address. -/
def At (w : World) (a : Addr) (cs : List Value) : Prop := ∀ (j : Nat) (u : Value), cs[j]? = some u → w.cell? (a.add j) = some u

section
variable [Pan] {P : Program} {E w : World} {K : Value → World → Prop} {J : Value → Prop} {L M : List HA} {v : Value} {t : TypeId} {o : Ob} {b i : Nat}

theorem cel_at (hS : Sat E w L) [h : Fnd (cel b) L o M] : w.heap[b]? = some (.cells o.cs.toArray o.e (0, 0)) := (hS.fd (cel b)).blk_at 0 rfl

theorem cel_cell (hS : Sat E w L) [h : Fnd (cel b) L o M] (hv : o.cs[i]? = some v) : w.cell? ⟨b, i, none⟩ = some v := by
  rw [cell_of_blk (cel_at (b := b) hS)]; simpa using hv

theorem run_l (hS : Sat E w L) [h : Fnd (cel b) L o M] [Sc P t] (hv : o.cs[i]? = some v) : (oLoad t (.pointer (some ⟨b, i, none⟩))).run P w = .ok (.value v) w :=
  run_load Sc.na (cel_cell (b := b) hS hv)
theorem pN_l (hS : Sat E w L) [h : Fnd (cel b) L o M] [Sc P t] (hv : o.cs[i]? = some v) (hk : K v w) : pN P (oLoad t (.pointer (some ⟨b, i, none⟩))) w K :=
  pN_ld Sc.na (cel_cell (b := b) hS hv) hk
theorem pL_l (hS : Sat E w L) [h : Fnd (cel b) L o M] [Sc P t] (hv : o.cs[i]? = some v) (hk : J v) : pL P (oLoad t (.pointer (some ⟨b, i, none⟩))) w J :=
  pL_ld Sc.na (cel_cell (b := b) hS hv) hk

theorem pN_s (hS : Sat E w L) [h : Fnd (cel b) L o M] [Sc P t] (hi : i < o.cs.length) (hv : v.oneCell' = true)
    (hk : ∀ w', Sat E w' (cel b ⟨o.e, o.cs.set i v⟩ :: M) → K undef w') : pN P (oStore t (.pointer (some ⟨b, i, none⟩)) v) w K := by
  refine pN_st_blk (hS.fd (cel b)) Sc.sz hv (by simpa using hi) fun w' hS' => hk w' ?_
  simpa [cel] using hS'

/-- A variable of several cells: loaded, stored whole. -/
theorem pN_la {n : Nat} (hS : Sat E w L) [h : Fnd (cel b) L o M] [Ag P t n] (hn : n = o.cs.length) (hk : K (.agg o.cs.toArray) w) : pN P (oLoad t (.pointer (some ⟨b, 0, none⟩))) w K :=
  pN_ld_all Ag.ag Ag.sz (by simpa using hn) (cel_at (b := b) hS) hk
theorem pL_ra {n : Nat} (hS : Sat E w L) [h : Fnd (cel b) L o M] [Ag P t n] (hn : n = o.cs.length) (hk : J (.agg o.cs.toArray)) : pL P (oRes t (.pointer (some ⟨b, 0, none⟩))) w J :=
  pL_res_all Ag.ag Ag.sz (by simpa using hn) (cel_at (b := b) hS) hk
theorem pL_la {n : Nat} (hS : Sat E w L) [h : Fnd (cel b) L o M] [Ag P t n] (hn : n = o.cs.length) (hk : J (.agg o.cs.toArray)) : pL P (oLoad t (.pointer (some ⟨b, 0, none⟩))) w J := by
  subst hn
  have hc := cells_of_blk (o := 0) (cel_at (b := b) hS) o.cs.length
  exact ⟨_, run_load_agg (cs := o.cs) Ag.ag Ag.sz (by simpa [List.take_of_length_le] using hc), hk⟩
theorem pL_r (hS : Sat E w L) [h : Fnd (cel b) L o M] [Sc P t] (hv : o.cs[i]? = some v) (hk : J v) : pL P (oRes t (.pointer (some ⟨b, i, none⟩))) w J := by
  refine ⟨v, ?_, hk⟩
  have hr := run_load (P := P) (w := w) (t := t) Sc.na (cel_cell (b := b) hS hv)
  exact hr
theorem pN_sa {n : Nat} {us : List Value} (hS : Sat E w L) [h : Fnd (cel b) L o M] [Ag P t n] (hn : n = us.length) (ho : us.length = o.cs.length) (h1 : us.all (·.oneCell') = true)
    (hk : ∀ w', Sat E w' (cel b ⟨o.e, us⟩ :: M) → K undef w') : pN P (oStore t (.pointer (some ⟨b, 0, none⟩)) (.agg us.toArray)) w K :=
  pN_st_all (hS.fd (cel b)) Ag.sz (by simpa using hn) (by simpa using List.all_eq_true.1 h1) (by simpa using ho) hk

theorem pN_nw {u : Value} {z : List Value} (hS : Sat E w L) (hz : ∀ w, (zeroValue t).run P w = .ok u w) (hc : u.cells = z.toArray)
    (hk : ∀ a w', Sat E w' (cel a ⟨t, z⟩ :: L) → K (.pointer (some ⟨a, 0, none⟩)) w') : pN P (oAlloc t) w K :=
  pN_alloc hz hS fun a w' h => hk a w' (by rw [hc] at h; exact h)
theorem pN_bx {u : Value} {z : List Value} (hS : Sat E w L) (hc : u.cells = z.toArray)
    (hk : ∀ a w', Sat E w' (cel a ⟨t, z⟩ :: L) → K (.pointer (some ⟨a, 0, none⟩)) w') : pN P (oBox t u) w K :=
  pN_box hS fun a w' h => hk a w' (by rw [hc] at h; exact h)

omit [Pan] in
/-- Types with a zero value. -/
class Zv (P : Program) (t : TypeId) (z : outParam (List Value)) : Prop where
  zv : ∃ u : Value, (∀ w, (zeroValue t).run P w = .ok u w) ∧ u.cells = z.toArray
theorem pN_nz {z : List Value} (hS : Sat E w L) [h : Zv P t z] (hk : ∀ a w', Sat E w' (cel a ⟨t, z⟩ :: L) → K (.pointer (some ⟨a, 0, none⟩)) w') : pN P (oAlloc t) w K := by
  obtain ⟨u, h1, h2⟩ := h.zv
  exact pN_nw hS h1 h2 hk

omit [Pan] in
/-- A number that a world holds, for a measure. -/
def wInt (b i : Nat) (w : World) : Nat := match w.cell? ⟨b, i, none⟩ with
  | some (.int _ n) => n.toNat
  | _ => 0
theorem wInt_eq {k : IntKind} {n : Int} (hS : Sat E w L) [h : Fnd (cel b) L o M] (hv : o.cs[i]? = some (.int k n)) : wInt b i w = n.toNat := by
  unfold wInt
  rw [cel_cell hS hv]

theorem pDr_go {K : World → Prop} (hS : Sat E w L) (hk : ∀ w', Sat E w' L → K w') : pDr w K := hk _ hS.drew
end

/-! ### Rows -/

/-- Where a slice begins, and its room. -/
structure Sl where
  a : Option Addr
  c : Nat

/-- How elements lie in cells. -/
structure Cd (α : Type) where
  e : TypeId
  size : Nat
  bytes : Nat
  zero : α
  enc : α → List Value
  len : ∀ a, (enc a).length = size
  one : ∀ a, ∀ u ∈ enc a, u.oneCell' = true

def Cd.flat {α : Type} (C : Cd α) (l : List α) : List Value := (l.map C.enc).flatten

theorem Cd.flat_single {α : Type} (C : Cd α) (f : α → Value) (h : ∀ b, C.enc b = [f b]) (l : List α) : C.flat l = l.map f := by
  induction l with
  | nil => rfl
  | cons x l ih => simp only [Cd.flat, List.map_cons, List.flatten_cons, h] at ih ⊢; rw [ih]; rfl
theorem Cd.flat_nil {α : Type} (C : Cd α) : C.flat [] = [] := rfl
theorem Cd.flat_append {α : Type} (C : Cd α) (l m : List α) : C.flat (l ++ m) = C.flat l ++ C.flat m := by simp [Cd.flat]
theorem Cd.flat_len {α : Type} (C : Cd α) (l : List α) : (C.flat l).length = l.length * C.size := flat_length _ _ C.len l
theorem Cd.flat_get {α : Type} (C : Cd α) (l : List α) (i : Nat) (x : α) (h : l[i]? = some x) : ((C.flat l).drop (i * C.size)).take C.size = C.enc x := flat_at _ _ C.len l i x h
theorem Cd.flat_put {α : Type} (C : Cd α) (l : List α) (i : Nat) (x : α) (h : i < l.length) : (C.flat l).take (i * C.size) ++ C.enc x ++ (C.flat l).drop (i * C.size + C.size) = C.flat (l.set i x) := flat_set _ _ C.len l i x h
theorem Cd.flat_one {α : Type} (C : Cd α) (l : List α) : ∀ u ∈ C.flat l, u.oneCell' = true := by
  intro u hu
  simp only [Cd.flat, List.mem_flatten, List.mem_map] at hu
  obtain ⟨m, ⟨a, _, rfl⟩, hu⟩ := hu
  exact C.one a u hu
theorem Cd.flat_take {α : Type} (C : Cd α) (l : List α) (n : Nat) : (C.flat l).take (n * C.size) = C.flat (l.take n) := by
  induction l generalizing n with
  | nil => simp [Cd.flat]
  | cons x l ih =>
    cases n with
    | zero => simp [Cd.flat]
    | succ n =>
      have e : (n + 1) * C.size = C.size + n * C.size := by rw [Nat.add_mul, Nat.one_mul, Nat.add_comm]
      simp only [Cd.flat, List.map_cons, List.flatten_cons, List.take_succ_cons] at ih ⊢
      rw [List.take_append, C.len, e, Nat.add_sub_cancel_left, ih, List.take_of_length_le (by rw [C.len]; omega)]
theorem Cd.flat_drop {α : Type} (C : Cd α) (l : List α) (n : Nat) : (C.flat l).drop (n * C.size) = C.flat (l.drop n) := by
  induction l generalizing n with
  | nil => simp [Cd.flat]
  | cons x l ih =>
    cases n with
    | zero => simp [Cd.flat]
    | succ n =>
      have e : (n + 1) * C.size = C.size + n * C.size := by rw [Nat.add_mul, Nat.one_mul, Nat.add_comm]
      simp only [Cd.flat, List.map_cons, List.flatten_cons, List.drop_succ_cons] at ih ⊢
      rw [List.drop_append, C.len, e, Nat.add_sub_cancel_left, ih, List.drop_of_length_le (by rw [C.len]; omega), List.nil_append]

/-- A row of its own. -/
def rows {α : Type} (C : Cd α) (s : Sl) (l : List α) : HA := own C.e C.size (.slice s.a l.length s.c) l.length (C.flat l)

/-- A slice type. -/
class Row (P : Program) (t : TypeId) (α : outParam Type) (C : outParam (Cd α)) : Prop where
  st : ∃ z, SlT P t C.e z C.size C.bytes ∧ z.cells.toList = C.enc C.zero
  bpos : 0 < C.bytes

/-- An element's bytes. -/
class Bt {α : Type} (C : Cd α) (z : outParam Nat) : Prop where
  eq : C.bytes = z

/-- What can be read by a slice out of one part; out of a list of parts. -/
class RdP {α : Type} (C : Cd α) (A : HA) (s : Sl) (l : outParam (List α)) : Prop where
  rd : RdA A C.size (.slice s.a l.length s.c) l.length (C.flat l)
class Rds {α : Type} (C : Cd α) (L : List HA) (s : Sl) (l : outParam (List α)) : Prop where
  rd : ∀ E w, Sat E w L → Rd w C.size (.slice s.a l.length s.c) l.length (C.flat l)

section
variable {α : Type} {C : Cd α} {E w : World} {A B : HA} {L M : List HA} {s : Sl} {l : List α}

instance RdP.rows : RdP C (rows C s l) s l := ⟨RdA.own⟩
instance (priority := 1100) Rds.here [h : RdP C A s l] : Rds C (A :: L) s l := ⟨fun _ _ hS => hS.rd 0 rfl h.rd⟩
instance (priority := 1000) Rds.there [h : Rds C L s l] : Rds C (A :: L) s l := ⟨fun E w hS => h.rd E w hS.drop⟩
instance Rds.nil : Rds C L ⟨none, 0⟩ ([] : List α) := ⟨fun _ _ _ => Rd.nil⟩

theorem Sat.rds (hS : Sat E w L) [h : Rds C L s l] : Rd w C.size (.slice s.a l.length s.c) l.length (C.flat l) := h.rd E w hS

/-- A part of a slice. -/
def Sl.sub (s : Sl) (lo size : Nat) : Sl := ⟨if s.c = lo then s.a else s.a.map (·.add (lo * size)), s.c - lo⟩

theorem subV_sl (s : Sl) (n lo hi size : Nat) : subV (.slice s.a n s.c) lo hi size = .slice (s.sub lo size).a (hi - lo) (s.sub lo size).c := rfl
end

/-! ### The walk's steps -/

section
variable [Pan] {P : Program} {E w : World} {K : Value → World → Prop} {J : Value → Prop} {L M : List HA} {v : Value} {m : Sem Next} {A B : Prop}

theorem pN_via (h : ∀ K : Value → World → Prop, pN P m w K = K v w) (hk : K v w) : pN P m w K := by rw [h]; exact hk
theorem pA_via (h : ∀ J : Value → Prop, pA P m J = J v) (hk : J v) : pA P m J := by rw [h]; exact hk
theorem pL_via (h : ∀ J : Value → Prop, pL P m w J = J v) (hk : J v) : pL P m w J := by rw [h]; exact hk
theorem pIf_t (h : A) : pIf (.bool true) A B := h
theorem pIf_f (h : B) : pIf (.bool false) A B := h
theorem pIf_not {b : Bool} (h : pIf (.bool b) B A) : pIf (.bool !b) A B := by cases b <;> exact h
theorem gA_go {b : Bool} {x : (Value → Prop) → Prop} (hb : b = true) (h : x J) : gA b x J := by subst hb; exact h
theorem gA_no {b : Bool} {x : (Value → Prop) → Prop} (hb : b = false) (h : J undef) : gA b x J := by subst hb; exact h
theorem pGd_go {b : Bool} {x : (Value → World → Prop) → Prop} (hb : b = true) (h : x K) : pGd b x w K := by subst hb; exact h
theorem pGd_no {b : Bool} {x : (Value → World → Prop) → Prop} (hb : b = false) (h : K undef w) : pGd b x w K := by subst hb; exact h

section
variable {t : TypeId} {xo yo : Operand} {k : IntKind} {a b : Int} {x y : UInt8} {l r : List UInt8}
theorem pN_lss_s (ht : a < b → K (.bool true) w) (hf : ¬ a < b → K (.bool false) w) : pN P (oBin .lss t xo yo (.int k a) (.int k b)) w K := by
  rw [pN_lss]; by_cases h : a < b
  · rw [decide_eq_true h]; exact ht h
  · rw [decide_eq_false h]; exact hf h
theorem pA_lss_s (ht : a < b → J (.bool true)) (hf : ¬ a < b → J (.bool false)) : pA P (oBin .lss t xo yo (.int k a) (.int k b)) J := by
  rw [pA_lss]; by_cases h : a < b
  · rw [decide_eq_true h]; exact ht h
  · rw [decide_eq_false h]; exact hf h
theorem pN_lss_sb (ht : x < y → K (.bool true) w) (hf : ¬ x < y → K (.bool false) w) : pN P (oBin .lss t xo yo (bv x) (bv y)) w K := by
  refine pN_lss_s (fun h => ht ?_) (fun h => hf ?_)
  · rw [UInt8.lt_iff_toNat_lt] <;> omega
  · rw [UInt8.lt_iff_toNat_lt] <;> omega
theorem pN_leq_s (ht : a ≤ b → K (.bool true) w) (hf : ¬ a ≤ b → K (.bool false) w) : pN P (oBin .leq t xo yo (.int k a) (.int k b)) w K := by
  rw [pN_leq]; by_cases h : a ≤ b
  · rw [decide_eq_true h]; exact ht h
  · rw [decide_eq_false h]; exact hf h
theorem pA_leq_s (ht : a ≤ b → J (.bool true)) (hf : ¬ a ≤ b → J (.bool false)) : pA P (oBin .leq t xo yo (.int k a) (.int k b)) J := by
  rw [pA_leq]; by_cases h : a ≤ b
  · rw [decide_eq_true h]; exact ht h
  · rw [decide_eq_false h]; exact hf h
theorem pN_leq_sb (ht : x ≤ y → K (.bool true) w) (hf : ¬ x ≤ y → K (.bool false) w) : pN P (oBin .leq t xo yo (bv x) (bv y)) w K := by
  refine pN_leq_s (fun h => ht ?_) (fun h => hf ?_)
  · rw [UInt8.le_iff_toNat_le] <;> omega
  · rw [UInt8.le_iff_toNat_le] <;> omega
theorem pN_gtr_s (ht : b < a → K (.bool true) w) (hf : ¬ b < a → K (.bool false) w) : pN P (oBin .gtr t xo yo (.int k a) (.int k b)) w K := by
  rw [pN_gtr]; by_cases h : b < a
  · rw [decide_eq_true h]; exact ht h
  · rw [decide_eq_false h]; exact hf h
theorem pA_gtr_s (ht : b < a → J (.bool true)) (hf : ¬ b < a → J (.bool false)) : pA P (oBin .gtr t xo yo (.int k a) (.int k b)) J := by
  rw [pA_gtr]; by_cases h : b < a
  · rw [decide_eq_true h]; exact ht h
  · rw [decide_eq_false h]; exact hf h
theorem pN_gtr_sb (ht : y < x → K (.bool true) w) (hf : ¬ y < x → K (.bool false) w) : pN P (oBin .gtr t xo yo (bv x) (bv y)) w K := by
  refine pN_gtr_s (fun h => ht ?_) (fun h => hf ?_)
  · rw [UInt8.lt_iff_toNat_lt] <;> omega
  · rw [UInt8.lt_iff_toNat_lt] <;> omega
theorem pN_geq_s (ht : b ≤ a → K (.bool true) w) (hf : ¬ b ≤ a → K (.bool false) w) : pN P (oBin .geq t xo yo (.int k a) (.int k b)) w K := by
  rw [pN_geq]; by_cases h : b ≤ a
  · rw [decide_eq_true h]; exact ht h
  · rw [decide_eq_false h]; exact hf h
theorem pA_geq_s (ht : b ≤ a → J (.bool true)) (hf : ¬ b ≤ a → J (.bool false)) : pA P (oBin .geq t xo yo (.int k a) (.int k b)) J := by
  rw [pA_geq]; by_cases h : b ≤ a
  · rw [decide_eq_true h]; exact ht h
  · rw [decide_eq_false h]; exact hf h
theorem pN_geq_sb (ht : y ≤ x → K (.bool true) w) (hf : ¬ y ≤ x → K (.bool false) w) : pN P (oBin .geq t xo yo (bv x) (bv y)) w K := by
  refine pN_geq_s (fun h => ht ?_) (fun h => hf ?_)
  · rw [UInt8.le_iff_toNat_le] <;> omega
  · rw [UInt8.le_iff_toNat_le] <;> omega
theorem pN_eql_s (ht : a = b → K (.bool true) w) (hf : ¬ a = b → K (.bool false) w) : pN P (oBin .eql t xo yo (.int k a) (.int k b)) w K := by
  rw [pN_eql]; by_cases h : a = b
  · have e : (a == b) = true := beq_iff_eq.2 h
    simp only [bne, e]; exact ht h
  · have e : (a == b) = false := beq_eq_false_iff_ne.2 h
    simp only [bne, e]; exact hf h
theorem pA_eql_s (ht : a = b → J (.bool true)) (hf : ¬ a = b → J (.bool false)) : pA P (oBin .eql t xo yo (.int k a) (.int k b)) J := by
  rw [pA_eql]; by_cases h : a = b
  · have e : (a == b) = true := beq_iff_eq.2 h
    simp only [bne, e]; exact ht h
  · have e : (a == b) = false := beq_eq_false_iff_ne.2 h
    simp only [bne, e]; exact hf h
theorem pN_eql_sb (ht : x = y → K (.bool true) w) (hf : ¬ x = y → K (.bool false) w) : pN P (oBin .eql t xo yo (bv x) (bv y)) w K := by
  rw [pN_eql_bv]; by_cases h : x = y
  · have e : (x == y) = true := beq_iff_eq.2 h
    simp only [bne, e]; exact ht h
  · have e : (x == y) = false := beq_eq_false_iff_ne.2 h
    simp only [bne, e]; exact hf h
theorem pA_eql_sb (ht : x = y → J (.bool true)) (hf : ¬ x = y → J (.bool false)) : pA P (oBin .eql t xo yo (bv x) (bv y)) J := by
  rw [pA_eql_bv]; by_cases h : x = y
  · have e : (x == y) = true := beq_iff_eq.2 h
    simp only [bne, e]; exact ht h
  · have e : (x == y) = false := beq_eq_false_iff_ne.2 h
    simp only [bne, e]; exact hf h
theorem pN_eql_ss (ht : l = r → K (.bool true) w) (hf : ¬ l = r → K (.bool false) w) : pN P (oBin .eql t xo yo (.string ⟨List.toArray l⟩) (.string ⟨List.toArray r⟩)) w K := by
  rw [pN_eql_l]; by_cases h : l = r
  · have e : (l == r) = true := beq_iff_eq.2 h
    simp only [e]; exact ht h
  · have e : (l == r) = false := beq_eq_false_iff_ne.2 h
    simp only [e]; exact hf h
theorem pA_eql_ss (ht : l = r → J (.bool true)) (hf : ¬ l = r → J (.bool false)) : pA P (oBin .eql t xo yo (.string ⟨List.toArray l⟩) (.string ⟨List.toArray r⟩)) J := by
  rw [pA_eql_l]; by_cases h : l = r
  · have e : (l == r) = true := beq_iff_eq.2 h
    simp only [e]; exact ht h
  · have e : (l == r) = false := beq_eq_false_iff_ne.2 h
    simp only [e]; exact hf h
theorem pN_neq_s (ht : a = b → K (.bool false) w) (hf : ¬ a = b → K (.bool true) w) : pN P (oBin .neq t xo yo (.int k a) (.int k b)) w K := by
  rw [pN_neq]; by_cases h : a = b
  · have e : (a == b) = true := beq_iff_eq.2 h
    simp only [bne, e]; exact ht h
  · have e : (a == b) = false := beq_eq_false_iff_ne.2 h
    simp only [bne, e]; exact hf h
theorem pA_neq_s (ht : a = b → J (.bool false)) (hf : ¬ a = b → J (.bool true)) : pA P (oBin .neq t xo yo (.int k a) (.int k b)) J := by
  rw [pA_neq]; by_cases h : a = b
  · have e : (a == b) = true := beq_iff_eq.2 h
    simp only [bne, e]; exact ht h
  · have e : (a == b) = false := beq_eq_false_iff_ne.2 h
    simp only [bne, e]; exact hf h
theorem pN_neq_sb (ht : x = y → K (.bool false) w) (hf : ¬ x = y → K (.bool true) w) : pN P (oBin .neq t xo yo (bv x) (bv y)) w K := by
  rw [pN_neq_bv]; by_cases h : x = y
  · have e : (x == y) = true := beq_iff_eq.2 h
    simp only [bne, e]; exact ht h
  · have e : (x == y) = false := beq_eq_false_iff_ne.2 h
    simp only [bne, e]; exact hf h
theorem pA_neq_sb (ht : x = y → J (.bool false)) (hf : ¬ x = y → J (.bool true)) : pA P (oBin .neq t xo yo (bv x) (bv y)) J := by
  rw [pA_neq_bv]; by_cases h : x = y
  · have e : (x == y) = true := beq_iff_eq.2 h
    simp only [bne, e]; exact ht h
  · have e : (x == y) = false := beq_eq_false_iff_ne.2 h
    simp only [bne, e]; exact hf h
theorem pN_neq_ss (ht : l = r → K (.bool false) w) (hf : ¬ l = r → K (.bool true) w) : pN P (oBin .neq t xo yo (.string ⟨List.toArray l⟩) (.string ⟨List.toArray r⟩)) w K := by
  rw [pN_neq_l]; by_cases h : l = r
  · have e : (l == r) = true := beq_iff_eq.2 h
    simp only [e]; exact ht h
  · have e : (l == r) = false := beq_eq_false_iff_ne.2 h
    simp only [e]; exact hf h
theorem pA_neq_ss (ht : l = r → J (.bool false)) (hf : ¬ l = r → J (.bool true)) : pA P (oBin .neq t xo yo (.string ⟨List.toArray l⟩) (.string ⟨List.toArray r⟩)) J := by
  rw [pA_neq_l]; by_cases h : l = r
  · have e : (l == r) = true := beq_iff_eq.2 h
    simp only [e]; exact ht h
  · have e : (l == r) = false := beq_eq_false_iff_ne.2 h
    simp only [e]; exact hf h

theorem run_lss_l (w : World) : (oBin .lss t xo yo (.string ⟨List.toArray l⟩) (.string ⟨List.toArray r⟩)).run P w = .ok (.value (.bool (Op.bytesLess l r))) w := by
  refine run_bin_of t xo yo (by unfold eqGuard; rfl) ?_
  simp [binOp, Op.stringOp, str_list]
theorem run_leq_l (w : World) : (oBin .leq t xo yo (.string ⟨List.toArray l⟩) (.string ⟨List.toArray r⟩)).run P w = .ok (.value (.bool (Op.bytesLess l r || l == r))) w := by
  refine run_bin_of t xo yo (by unfold eqGuard; rfl) ?_
  simp [binOp, Op.stringOp, str_list]
theorem pN_lss_l : pN P (oBin .lss t xo yo (.string ⟨List.toArray l⟩) (.string ⟨List.toArray r⟩)) w K = K (.bool (Op.bytesLess l r)) w := by rw [pN_def, run_lss_l, rN_value]
theorem pA_lss_l : pA P (oBin .lss t xo yo (.string ⟨List.toArray l⟩) (.string ⟨List.toArray r⟩)) J = J (.bool (Op.bytesLess l r)) := by rw [pA_def, funext (fun w => run_lss_l w), rA_value]
theorem pN_leq_l : pN P (oBin .leq t xo yo (.string ⟨List.toArray l⟩) (.string ⟨List.toArray r⟩)) w K = K (.bool (Op.bytesLess l r || l == r)) w := by rw [pN_def, run_leq_l, rN_value]
theorem pA_leq_l : pA P (oBin .leq t xo yo (.string ⟨List.toArray l⟩) (.string ⟨List.toArray r⟩)) J = J (.bool (Op.bytesLess l r || l == r)) := by rw [pA_def, funext (fun w => run_leq_l w), rA_value]
attribute [go_sem] pN_lss_l pA_lss_l pN_leq_l pA_leq_l

/-! Shifts and masks by numerals -/

theorem pN_shrn {k' : IntKind} (n : Nat) (b c : Int) (hb : b = (n : Int)) (hc : c = 2 ^ n) (hn : n ≤ k.bits) : pN P (oBin .shr t xo yo (.int k a) (.int k' b)) w K = K (.int k (a / c)) w := by
  subst hb
  rw [pN_shr _ _ _ _ _ _ _ (by omega), Int.toNat_natCast, Nat.min_eq_left hn, ← hc, Int.fdiv_eq_ediv_of_nonneg _ (by rw [hc]; exact Int.pow_nonneg (by omega))]
theorem pA_shrn {k' : IntKind} (n : Nat) (b c : Int) (hb : b = (n : Int)) (hc : c = 2 ^ n) (hn : n ≤ k.bits) : pA P (oBin .shr t xo yo (.int k a) (.int k' b)) J = J (.int k (a / c)) := by
  subst hb
  rw [pA_shr _ _ _ _ _ _ _ (by omega), Int.toNat_natCast, Nat.min_eq_left hn, ← hc, Int.fdiv_eq_ediv_of_nonneg _ (by rw [hc]; exact Int.pow_nonneg (by omega))]
theorem pN_shln {k' : IntKind} (n : Nat) (b c : Int) (hb : b = (n : Int)) (hc : c = 2 ^ n) (hn : n ≤ k.bits) : pN P (oBin .shl t xo yo (.int k a) (.int k' b)) w K = K (.int k (k.wrap (a * c))) w := by
  subst hb
  rw [pN_shl _ _ _ _ _ _ _ (by omega), Int.toNat_natCast, Nat.min_eq_left hn, ← hc]
theorem pA_shln {k' : IntKind} (n : Nat) (b c : Int) (hb : b = (n : Int)) (hc : c = 2 ^ n) (hn : n ≤ k.bits) : pA P (oBin .shl t xo yo (.int k a) (.int k' b)) J = J (.int k (k.wrap (a * c))) := by
  subst hb
  rw [pA_shl _ _ _ _ _ _ _ (by omega), Int.toNat_natCast, Nat.min_eq_left hn, ← hc]

theorem pN_shr_k {k' : IntKind} (j : Nat) (hb : b = (j : Int)) (hj : j ≤ k.bits) (hk : K (.int k (a / 2 ^ j)) w) : pN P (oBin .shr t xo yo (.int k a) (.int k' b)) w K := by
  rw [pN_shrn j b (2 ^ j) hb rfl hj]; exact hk
theorem pA_shr_k {k' : IntKind} (j : Nat) (hb : b = (j : Int)) (hj : j ≤ k.bits) (hk : J (.int k (a / 2 ^ j))) : pA P (oBin .shr t xo yo (.int k a) (.int k' b)) J := by
  rw [pA_shrn j b (2 ^ j) hb rfl hj]; exact hk
theorem pN_shl_k {k' : IntKind} (j : Nat) (hb : b = (j : Int)) (hj : j ≤ k.bits) (hk : K (.int k (k.wrap (a * 2 ^ j))) w) : pN P (oBin .shl t xo yo (.int k a) (.int k' b)) w K := by
  rw [pN_shln j b (2 ^ j) hb rfl hj]; exact hk
theorem pA_shl_k {k' : IntKind} (j : Nat) (hb : b = (j : Int)) (hj : j ≤ k.bits) (hk : J (.int k (k.wrap (a * 2 ^ j)))) : pA P (oBin .shl t xo yo (.int k a) (.int k' b)) J := by
  rw [pA_shln j b (2 ^ j) hb rfl hj]; exact hk

theorem and_mask (n : Nat) (a : Int) (j : Nat) (hj : j < n) : ((BitVec.ofInt n a &&& BitVec.ofInt n ((2 : Int) ^ j - 1)).toNat : Int) = a % 2 ^ j := by
  have h1 : (BitVec.ofInt n ((2 : Int) ^ j - 1)).toNat = 2 ^ j - 1 := by
    rw [BitVec.toNat_ofInt]
    have p1 : (2 : Nat) ^ j < 2 ^ n := Nat.pow_lt_pow_right (by omega) hj
    have p0 : 0 < (2 : Nat) ^ j := Nat.two_pow_pos j
    have e1 : ((2 : Int) ^ j - 1) = ((2 ^ j - 1 : Nat) : Int) := by
      rw [Int.natCast_sub (by omega)]; norm_cast
    rw [e1]
    norm_cast
    rw [Int.toNat_natCast]
    exact Nat.mod_eq_of_lt (by omega)
  rw [BitVec.toNat_and, h1, Nat.and_two_pow_sub_one_eq_mod, BitVec.toNat_ofInt]
  have p2 : (0 : Int) < 2 ^ n := Int.pow_pos (by omega)
  rw [Int.natCast_emod, Int.toNat_of_nonneg (Int.emod_nonneg _ (by norm_cast at p2 ⊢; omega))]
  norm_cast
  refine Int.emod_emod_of_dvd _ ?_
  norm_cast
  exact Nat.pow_dvd_pow 2 (by omega)
theorem pN_andn (j : Nat) (b c : Int) (hb : b = 2 ^ j - 1) (hc : c = 2 ^ j) (hj : j < k.bits) (hw : k.wrap (a % c) = a % c) : pN P (oBin .and t xo yo (.int k a) (.int k b)) w K = K (.int k (a % c)) w := by
  subst hb
  rw [pN_and, and_mask _ _ _ hj, ← hc, hw]
theorem pA_andn (j : Nat) (b c : Int) (hb : b = 2 ^ j - 1) (hc : c = 2 ^ j) (hj : j < k.bits) (hw : k.wrap (a % c) = a % c) : pA P (oBin .and t xo yo (.int k a) (.int k b)) J = J (.int k (a % c)) := by
  subst hb
  rw [pA_and, and_mask _ _ _ hj, ← hc, hw]
end

theorem w_u32 {n : Int} (h : 0 ≤ n ∧ n < 4294967296) : IntKind.u32.wrap n = n := by rw [wrap_u32]; omega
theorem w_u64 {n : Int} (h : 0 ≤ n ∧ n < 18446744073709551616) : IntKind.u64.wrap n = n := by rw [wrap_u64]; omega
theorem w_u8 {n : Int} (h : 0 ≤ n ∧ n < 256) : IntKind.u8.wrap n = n := by rw [wrap_u8]; omega

/-- min and max of two. -/
theorem pN_min {t1 t2 ty : TypeId} {k : IntKind} {a b : Int} {cs : List Bool} : pN P (oBi .min #[t1, t2] ty cs [.int k a, .int k b]) w K = K (.int k (min a b)) w := by
  have : (oBi .min #[t1, t2] ty cs [.int k a, .int k b]).run P w = .ok (.value (.int k (min a b))) w := by
    by_cases h : b < a
    · have e : min a b = b := by omega
      simp [oBi, builtin, Builtin.min_, Builtin.min2, h, e]
    · have e : min a b = a := by omega
      simp [oBi, builtin, Builtin.min_, Builtin.min2, h, e]
  rw [pN_def, this, rN_value]
theorem pN_max {t1 t2 ty : TypeId} {k : IntKind} {a b : Int} {cs : List Bool} : pN P (oBi .max #[t1, t2] ty cs [.int k a, .int k b]) w K = K (.int k (max a b)) w := by
  have : (oBi .max #[t1, t2] ty cs [.int k a, .int k b]).run P w = .ok (.value (.int k (max a b))) w := by
    by_cases h : a < b
    · have e : max a b = b := by omega
      simp [oBi, builtin, Builtin.max_, Builtin.max2, h, e]
    · have e : max a b = a := by omega
      simp [oBi, builtin, Builtin.max_, Builtin.max2, h, e]
  rw [pN_def, this, rN_value]

/-! Bytes out of numbers -/

omit [Pan] in
def byteOf (n : Int) : UInt8 := UInt8.ofNat (n % 256).toNat
theorem byteOf_toNat (n : Int) : ((byteOf n).toNat : Int) = n % 256 := by
  simp only [byteOf, UInt8.toNat_ofNat']
  omega
theorem byteOf_nat (n : Int) : (byteOf n).toNat = (n % 256).toNat := by
  simp only [byteOf, UInt8.toNat_ofNat']
  omega
theorem byteOf_self (b : UInt8) : byteOf (b.toNat : Int) = b := by
  apply UInt8.toNat_inj.1
  have := byteOf_toNat (b.toNat : Int)
  have := b.toNat_lt
  omega
omit [Pan] in
class ToB (P : Program) (s d : TypeId) : Prop where
  eq : ∀ w (k : IntKind) (n : Int), (oConv s d (.int k n)).run P w = .ok (.value (.int .u8 (IntKind.u8.wrap n))) w
omit [Pan] in
class OfB (P : Program) (s d : TypeId) (kd : outParam IntKind) : Prop where
  eq : ∀ w (k : IntKind) (n : Int), (oConv s d (.int k n)).run P w = .ok (.value (.int kd (kd.wrap n))) w
  small : ∀ n : Int, 0 ≤ n → n < 256 → kd.wrap n = n
theorem pN_tob {s d : TypeId} [h : ToB P s d] {k : IntKind} {n : Int} (hk : K (bv (byteOf n)) w) : pN P (oConv s d (.int k n)) w K := by
  rw [pN_def, h.eq, rN_value]
  unfold bv at hk
  rw [byteOf_toNat] at hk
  rw [wrap_u8]
  exact hk
theorem pL_tob {s d : TypeId} [h : ToB P s d] {k : IntKind} {n : Int} (hk : J (bv (byteOf n))) : pL P (oConv s d (.int k n)) w J := by
  unfold bv at hk
  rw [byteOf_toNat] at hk
  refine ⟨_, h.eq w k n, ?_⟩
  rw [wrap_u8]
  exact hk
theorem pN_ofb {s d : TypeId} {kd : IntKind} [h : OfB P s d kd] {b : UInt8} (hk : K (.int kd b.toNat) w) : pN P (oConv s d (bv b)) w K := by
  have := b.toNat_lt
  unfold bv
  rw [pN_def, h.eq, rN_value, h.small _ (by omega) (by omega)]
  exact hk
theorem pL_ofb {s d : TypeId} {kd : IntKind} [h : OfB P s d kd] {b : UInt8} (hk : J (.int kd b.toNat)) : pL P (oConv s d (bv b)) w J := by
  have := b.toNat_lt
  unfold bv
  refine ⟨_, h.eq w .u8 b.toNat, ?_⟩
  rw [h.small _ (by omega) (by omega)]
  exact hk
end

/-! ### Rows: elements, append, make, parts -/

/-- The address of the element j of a slice. -/
def El {α : Type} (C : Cd α) (s : Sl) (j : Nat) (a : Addr) : Prop := ∃ b, s.a = some b ∧ a = b.add (j * C.size)

/-- What is at an address of a slice's elements, wherever the slice reads. -/
structure EA {α : Type} (C : Cd α) (s : Sl) (l : List α) (a : Addr) (cs : List Value) : Prop where
  at_ : ∀ E w M, Rds C M s l → Sat E w M → At w a cs

/-- The place of a field. -/
class FA (P : Program) (t : TypeId) (f : Nat) (off : outParam Nat) : Prop where
  run : ∀ (a : Addr) (w : World), (oFld t (.pointer (some a)) f).run P w = .ok (.value (.pointer (some (a.add off)))) w

section
variable [Pan] {P : Program} {E w : World} {K : Value → World → Prop} {J : Value → Prop} {L M : List HA} {v : Value} {α : Type} {C : Cd α} {t ty : TypeId} {s s2 : Sl} {l m : List α} {n n2 : Nat} {k k' : IntKind} {i : Int}

theorem Row.slt [h : Row P t α C] : SlT P t C.e (Classical.choose h.st) C.size C.bytes := (Classical.choose_spec h.st).1
theorem Row.zero [h : Row P t α C] : (Classical.choose h.st).cells.toList = C.enc C.zero := (Classical.choose_spec h.st).2

theorem run_ix (hS : Sat E w L) [h : Row P t α C] [hr : Rds C L s l] (j : Nat) (hj : i = (j : Int)) (hn : n = l.length) (hlt : j < l.length) :
    ∃ a x, (∀ w', (oIdx t (.slice s.a n s.c) (.int k i)).run P w' = .ok (.value (.pointer (some a))) w') ∧ l[j]? = some x ∧ EA C s l a (C.enc x) ∧ El C s j a := by
  subst hj hn
  have hr := hS.rds (C := C) (s := s)
  obtain ⟨hl, ao, cap, hv, hnc, hnil, hc⟩ := hr
  simp only [Value.slice.injEq, true_and] at hv
  obtain ⟨rfl, rfl⟩ := hv
  have ht := Row.slt (P := P) (t := t) (C := C)
  cases ha : s.a with
  | none => have := (hnil ha).1; omega
  | some b =>
    refine ⟨b.add (j * C.size), l[j], fun w' => ?_, by simp [hlt], ⟨fun E' w' M h' hS' => ?_⟩, b, ha, rfl⟩
    · refine run_oV_ok ?_
      have h2 : (0 : Int) ≤ j ∧ (j : Int) < l.length := by omega
      simp [Instr.indexAt, run_underlying ht.under, asIntOf, ht.sizeOf, hlt]
    · intro j' u hu
      have hr := hS'.rds (C := C) (s := s)
      obtain ⟨_, ao, cap, hv, _, _, hc⟩ := hr
      simp only [Value.slice.injEq, true_and] at hv
      obtain ⟨rfl, rfl⟩ := hv
      rw [Addr.add_add]
      refine hc b ha _ _ ?_
      rw [← C.flat_get l j l[j] (by simp [hlt])] at hu
      rw [List.getElem?_take] at hu
      split at hu
      · rwa [List.getElem?_drop] at hu
      · cases hu

theorem pN_ix (hS : Sat E w L) [Row P t α C] [hr : Rds C L s l] (j : Nat) (hj : i = (j : Int)) (hn : n = l.length) (hlt : j < l.length)
    (hk : ∀ a x, l[j]? = some x → EA C s l a (C.enc x) → El C s j a → K (.pointer (some a)) w) : pN P (oIdx t (.slice s.a n s.c) (.int k i)) w K := by
  obtain ⟨a, x, h1, h2, h3, h4⟩ := run_ix (P := P) (t := t) (k := k) (s := s) hS j hj hn hlt
  rw [pN_def, h1, rN_value]
  exact hk a x h2 h3 h4
theorem pA_ix (hS : Sat E w L) [Row P t α C] [hr : Rds C L s l] (j : Nat) (hj : i = (j : Int)) (hn : n = l.length) (hlt : j < l.length)
    (hk : ∀ a x, l[j]? = some x → EA C s l a (C.enc x) → El C s j a → J (.pointer (some a))) : pA P (oIdx t (.slice s.a n s.c) (.int k i)) J := by
  obtain ⟨a, x, h1, h2, h3, h4⟩ := run_ix (P := P) (t := t) (k := k) (s := s) hS j hj hn hlt
  exact ⟨_, h1, hk a x h2 h3 h4⟩

theorem pN_ixk {x : α} (hS : Sat E w L) [Row P t α C] [hr : Rds C L s l] (j : Nat) (hj : i = (j : Int)) (hn : n = l.length) (hx : l[j]? = some x)
    (hk : ∀ a, EA C s l a (C.enc x) → El C s j a → K (.pointer (some a)) w) : pN P (oIdx t (.slice s.a n s.c) (.int k i)) w K :=
  pN_ix hS j hj hn (List.getElem?_eq_some_iff.1 hx).1 fun a y h1 h2 h3 => by
    rw [hx, Option.some.injEq] at h1
    subst h1
    exact hk a h2 h3
theorem pA_ixk {x : α} (hS : Sat E w L) [Row P t α C] [hr : Rds C L s l] (j : Nat) (hj : i = (j : Int)) (hn : n = l.length) (hx : l[j]? = some x)
    (hk : ∀ a, EA C s l a (C.enc x) → El C s j a → J (.pointer (some a))) : pA P (oIdx t (.slice s.a n s.c) (.int k i)) J :=
  pA_ix hS j hj hn (List.getElem?_eq_some_iff.1 hx).1 fun a y h1 h2 h3 => by
    rw [hx, Option.some.injEq] at h1
    subst h1
    exact hk a h2 h3

theorem pN_ld_at {z : Nat} {a : Addr} {cs : List Value} (ha : EA C s l a cs) (hS : Sat E w L) [hr : Rds C L s l] [Ag P t z] (hn : z = cs.length) (hk : K (.agg cs.toArray) w) : pN P (oLoad t (.pointer (some a))) w K :=
  pN_ld_n Ag.ag Ag.sz hn (ha.at_ E w L hr hS) hk
theorem pL_ld_at {z : Nat} {a : Addr} {cs : List Value} (ha : EA C s l a cs) (hS : Sat E w L) [hr : Rds C L s l] [Ag P t z] (hn : z = cs.length) (hk : J (.agg cs.toArray)) : pL P (oLoad t (.pointer (some a))) w J := by
  subst hn
  exact ⟨_, run_load_agg Ag.ag Ag.sz (ha.at_ E w L hr hS), hk⟩
theorem run_ld1 {a : Addr} (ha : EA C s l a [v]) (hS : Sat E w L) [hr : Rds C L s l] [Sc P t] : (oLoad t (.pointer (some a))).run P w = .ok (.value v) w := by
  refine run_load Sc.na ?_
  have := ha.at_ E w L hr hS 0 v rfl
  rwa [Addr.add_zero'] at this
theorem pN_ld1 {a : Addr} (ha : EA C s l a [v]) (hS : Sat E w L) [hr : Rds C L s l] [Sc P t] (hk : K v w) : pN P (oLoad t (.pointer (some a))) w K := by
  rw [pN_def, run_ld1 ha hS, rN_value]; exact hk
theorem pL_ld1 {a : Addr} (ha : EA C s l a [v]) (hS : Sat E w L) [hr : Rds C L s l] [Sc P t] (hk : J v) : pL P (oLoad t (.pointer (some a))) w J :=
  ⟨v, run_ld1 ha hS, hk⟩
theorem EA.fld {a : Addr} {cs : List Value} (ha : EA C s l a cs) (off : Nat) (hv : cs[off]? = some v) : EA C s l (a.add off) [v] := ⟨fun E w M h hS j u hu => by
  have h1 := ha.at_ E w M h hS
  cases j with
  | zero =>
    simp only [List.getElem?_cons_zero, Option.some.injEq] at hu
    subst hu
    rw [Addr.add_zero']
    exact h1 off _ hv
  | succ j => simp at hu⟩
theorem pN_fa {a : Addr} {cs : List Value} {f off : Nat} (ha : EA C s l a cs) [hf : FA P t f off] (hv : cs[off]? = some v) (hk : ∀ a, EA C s l a [v] → K (.pointer (some a)) w) : pN P (oFld t (.pointer (some a)) f) w K := by
  rw [pN_def, hf.run, rN_value]; exact hk _ (ha.fld off hv)
theorem pA_fa {a : Addr} {cs : List Value} {f off : Nat} (ha : EA C s l a cs) [hf : FA P t f off] (hv : cs[off]? = some v) (hk : ∀ a, EA C s l a [v] → J (.pointer (some a))) : pA P (oFld t (.pointer (some a)) f) J :=
  ⟨_, hf.run a, hk _ (ha.fld off hv)⟩

/-- A store into an element. -/
theorem pN_srn {j : Nat} {a : Addr} {x : α} {us : Array Value} (hel : El C s j a) (hS : Sat E w L) [hf : Fnd (rows C s) L l M] {z : Nat} [Ag P t z] (hz : z = C.size) (hx : C.enc x = us.toList) (hj : j < l.length)
    (hk : ∀ w', Sat E w' (rows C s (l.set j x) :: M) → K undef w') : pN P (oStore t (.pointer (some a)) (.agg us)) w K := by
  have h0 := hS.fd (rows C s)
  obtain ⟨b, hb, rfl⟩ := hel
  have hlen := C.len x
  rw [hx, Array.length_toList] at hlen
  have hro := h0.own_at 0 rfl
  obtain ⟨_, ⟨h, _⟩ | ⟨g, cap, cur, hv, _⟩⟩ := hro
  · simp only [Value.slice.injEq] at h
    rw [hb] at h
    cases h.1
  · simp only [Value.slice.injEq, true_and] at hv
    obtain ⟨h1, h2⟩ := hv
    rw [hb, Option.some.injEq] at h1
    subst h1 h2
    unfold rows at h0
    rw [hb] at h0
    rw [Addr.add_lit, Nat.zero_add]
    refine pN_st_own_n h0 Ag.sz (hz.trans hlen.symm) hlen (by rw [← hx]; exact C.one x) hj fun w' h3 => hk w' ?_
    unfold rows
    rw [hb, List.length_set, ← C.flat_put l j x hj, hx]
    exact h3
theorem pN_sr {j : Nat} {a : Addr} {x : α} (hel : El C s j a) (hS : Sat E w L) [hf : Fnd (rows C s) L l M] [Sc P t] (hz : C.size = 1) (hx : C.enc x = [v]) (hj : j < l.length)
    (hk : ∀ w', Sat E w' (rows C s (l.set j x) :: M) → K undef w') : pN P (oStore t (.pointer (some a)) v) w K := by
  have h0 := hS.fd (rows C s)
  obtain ⟨b, hb, rfl⟩ := hel
  have h1' := C.one x v (by rw [hx]; exact List.mem_singleton.2 rfl)
  have hro := h0.own_at 0 rfl
  obtain ⟨_, ⟨h, _⟩ | ⟨g, cap, cur, hv, _⟩⟩ := hro
  · simp only [Value.slice.injEq] at h
    rw [hb] at h
    cases h.1
  · simp only [Value.slice.injEq, true_and] at hv
    obtain ⟨h1, h2⟩ := hv
    rw [hb, Option.some.injEq] at h1
    subst h1 h2
    unfold rows at h0
    rw [hb] at h0
    rw [Addr.add_lit, Nat.zero_add, hz, Nat.mul_one]
    have hfl := C.flat_len l
    rw [hz, Nat.mul_one] at hfl
    refine pN_st_own h0 Sc.sz h1' (by omega) fun w' h3 => hk w' ?_
    unfold rows
    have hp := C.flat_put l j x hj
    rw [hz, Nat.mul_one, hx] at hp
    rw [hb, List.length_set, ← hp]
    rw [List.set_eq_take_append_cons_drop, if_pos (by omega)] at h3
    simpa using h3

theorem own_sl {e : TypeId} {size : Nat} {xs : List Value} (hS : Sat E w (own e size v n xs :: L)) : ∃ s : Sl, v = .slice s.a n s.c := by
  obtain ⟨_, ⟨rfl, rfl⟩ | ⟨g, cap, cur, rfl, _⟩⟩ := hS.own_at 0 rfl
  · exact ⟨⟨none, 0⟩, rfl⟩
  · exact ⟨⟨_, _⟩, rfl⟩

theorem rows_len (s : Sl) (hS : Sat E w L) [h : Fnd (rows C s) L l M] : l.length ≤ 9223372036854775807 := by
  obtain ⟨_, ⟨_, h⟩ | ⟨g, cap, cur, _, _, _, h1, h2, _⟩⟩ := (hS.fd (rows C s)).own_at 0 rfl
  · omega
  · unfold maxLen at h2; omega

theorem room63 {a b : Nat} (hb : 0 < b) (h : a * b ≤ 140737488355328) : a ≤ 9223372036854775807 := by
  have : a * 1 ≤ a * b := Nat.mul_le_mul_left a hb
  omega

theorem pN_app {cs : List Bool} (hS : Sat E w L) [hw : Row P t α C] [hf : Fnd (rows C s) L l M] [hr : Rds C L s2 m] {z : Nat} [hz : Bt C z] (hn : n = l.length) (hn2 : n2 = m.length) (hb : (l.length + m.length) * z ≤ 140737488355328)
    (hk : ∀ s' w', Sat E w' (rows C s' (l ++ m) :: M) → K (.slice s'.a (l ++ m).length s'.c) w') : pN P (oBi .append #[t, t] ty cs [.slice s.a n s.c, .slice s2.a n2 s2.c]) w K := by
  subst hn hn2
  rw [← hz.eq] at hb
  have h0 := hS.fd (rows C s)
  have hrd := hS.rds (C := C) (s := s2)
  refine pN_append Row.slt h0 hrd (C.flat_one m) hb (room63 hw.bpos hb) fun v' w' h1 => ?_
  obtain ⟨s', rfl⟩ := own_sl h1
  rw [← C.flat_append, ← List.length_append] at h1
  rw [← List.length_append]
  exact hk s' w' h1
theorem pN_app0 {cs : List Bool} (hS : Sat E w L) [hw : Row P t α C] [hr : Rds C L s2 m] {z : Nat} [hz : Bt C z] (hn2 : n2 = m.length) (hb : m.length * z ≤ 140737488355328)
    (hk : ∀ s' w', Sat E w' (rows C s' m :: L) → K (.slice s'.a m.length s'.c) w') : pN P (oBi .append #[t, t] ty cs [.slice none 0 0, .slice s2.a n2 s2.c]) w K := by
  rw [← hz.eq] at hb
  have hrd := hS.rds (C := C) (s := s2)
  subst hn2
  have h0 := hS.nil C.e C.size
  refine pN_append Row.slt h0 hrd (C.flat_one m) (by rw [Nat.zero_add]; exact hb) (room63 hw.bpos (by rw [Nat.zero_add]; exact hb)) fun v' w' h1 => ?_
  rw [Nat.zero_add, List.nil_append] at h1
  obtain ⟨s', rfl⟩ := own_sl h1
  exact hk s' w' h1

theorem fill_size (off : Nat) : ∀ (us : List Value) (k : Nat) (cells : Array Value), ((us.zipIdx k).foldl (fun cs (c, j) => cs.setIfInBounds (off + j) c) cells).size = cells.size
  | [], _, _ => rfl
  | u :: us, k, cells => by
    rw [List.zipIdx_cons, List.foldl_cons, fill_size off us (k + 1)]
    simp
theorem fill_one (off : Nat) : ∀ (us : List Value) (k : Nat) (cells : Array Value), off + k + us.length ≤ cells.size → ∀ i : Nat,
    ((us.zipIdx k).foldl (fun cs (c, j) => cs.setIfInBounds (off + j) c) cells)[i]? = if off + k ≤ i ∧ i < off + k + us.length then us[i - (off + k)]? else cells[i]?
  | [], k, cells, _, i => by rw [if_neg (by simp only [List.length_nil]; omega)]; rfl
  | u :: us, k, cells, h, i => by
    simp only [List.length_cons] at h
    rw [List.zipIdx_cons, List.foldl_cons]
    dsimp only
    rw [fill_one off us (k + 1) _ (by (try simp only [Array.size_setIfInBounds]); omega)]
    by_cases h1 : off + (k + 1) ≤ i ∧ i < off + (k + 1) + us.length
    · rw [if_pos h1, if_pos (by (try simp only [List.length_cons]); omega)]
      rw [show i - (off + k) = (i - (off + (k + 1))) + 1 from by omega, List.getElem?_cons_succ]
    · rw [if_neg h1, Array.getElem?_setIfInBounds]
      by_cases h2 : off + k = i
      · rw [if_pos h2, if_pos (by (try simp only [List.length_cons]); omega)]
        subst h2
        have : off + k < cells.size := by omega
        simp [this]
      · rw [if_neg h2, if_neg (by (try simp only [List.length_cons]); omega)]

theorem fill_lit (size : Nat) : ∀ (us : List Value) (xs : List (List Value)) (k : Nat) (cells : Array Value), us.map (fun u => u.cells.toList) = xs → (∀ x ∈ xs, x.length = size) → (k + us.length) * size ≤ cells.size →
    ∃ r : Array Value, Instr.fill (fun i => some (i * size, size)) cells ((us.zipIdx k).map fun p => (p.2, p.1)) = some r ∧ r.size = cells.size ∧
      ∀ i : Nat, r[i]? = if k * size ≤ i ∧ i < (k + us.length) * size then xs.flatten[i - k * size]? else cells[i]?
  | [], xs, k, cells, hx, _, _ => ⟨cells, rfl, rfl, fun i => by rw [if_neg (by simp only [List.length_nil, Nat.add_zero]; omega)]⟩
  | u :: us, xs, k, cells, hx, hs, hl => by
    subst hx
    have hu : u.cells.size = size := by have := hs u.cells.toList (by simp); simpa using this
    have e1 : (k + 1) * size = k * size + size := by rw [Nat.add_mul, Nat.one_mul]
    have e5 : (k + 1 + us.length) * size = k * size + size + us.length * size := by rw [Nat.add_mul, Nat.add_mul, Nat.one_mul]
    have e6 : (k + (u :: us).length) * size = k * size + size + us.length * size := by rw [List.length_cons, Nat.add_mul, Nat.add_mul, Nat.one_mul]; omega
    rw [e6] at hl
    have hf := fill_one (k * size) u.cells.toList 0 cells (by simp only [Array.length_toList]; omega)
    have hz := fill_size (k * size) u.cells.toList 0 cells
    generalize hc : (u.cells.toList.zipIdx 0).foldl (fun cs (c, j) => cs.setIfInBounds (k * size + j) c) cells = cells' at hf hz
    obtain ⟨r, h1, h2, h3⟩ := fill_lit size us _ (k + 1) cells' rfl (fun x hx => hs x (by simp only [List.map_cons, List.mem_cons]; exact .inr hx)) (by rw [e5]; omega)
    refine ⟨r, ?_, h2.trans hz, fun i => ?_⟩
    · rw [List.zipIdx_cons, List.map_cons]
      simp only [Instr.fill]
      rw [if_neg (by simp [hu]; omega), ← h1, ← hc]
      congr 1
      rw [← Array.foldl_toList]
      simp
    · rw [h3, hf, e1, e5, e6]
      simp only [Array.length_toList, hu, Nat.add_zero, List.map_cons, List.flatten_cons]
      by_cases c1 : k * size + size ≤ i ∧ i < k * size + size + us.length * size
      · rw [if_pos c1, if_pos (by omega), List.getElem?_append_right (by simp only [Array.length_toList, hu]; omega)]
        simp only [Array.length_toList, hu]
        congr 1
        omega
      · rw [if_neg c1]
        by_cases c2 : k * size ≤ i ∧ i < k * size + size
        · rw [if_pos c2, if_pos (by omega), List.getElem?_append_left (by simp only [Array.length_toList, hu]; omega)]
        · rw [if_neg c2, if_neg (by omega)]

/-- A literal of some elements. -/
theorem pN_bl {ps : List (Nat × Value)} (us : List Value) (xs : List α) (hp : ps = us.zipIdx.map fun p => (p.2, p.1)) (hn : n = us.length) (hx : us.map (fun u => u.cells.toList) = xs.map C.enc) (h0 : 0 < us.length) (hS : Sat E w L) [hw : Row P t α C] (hz : us.length * C.size ≤ 16777216)
    (hk : ∀ s' w', Sat E w' (rows C s' xs :: L) → K (.slice s'.a xs.length s'.c) w') : pN P (oBs t n ps) w K := by
  subst hp hn
  have ht := Row.slt (P := P) (t := t) (C := C)
  have hlen : us.length = xs.length := by simpa using congrArg List.length hx
  obtain ⟨r, h1, h2, hg⟩ := fill_lit C.size us _ 0 (madeCells (Classical.choose hw.st).cells (us.length * C.size)) hx (by intro x hx; obtain ⟨a, _, rfl⟩ := List.mem_map.1 hx; exact C.len a) (by rw [size_madeCells, Nat.zero_add]; exact Nat.le_refl _)
  rw [size_madeCells] at h2
  have h3 : r.toList = C.flat xs := by
    apply List.ext_getElem?
    intro i
    rw [Array.getElem?_toList, hg, Nat.zero_mul, Nat.zero_add, Nat.sub_zero]
    by_cases hi : i < us.length * C.size
    · rw [if_pos ⟨Nat.zero_le _, hi⟩]; rfl
    · rw [if_neg (by omega), Array.getElem?_eq_none (by rw [size_madeCells]; omega), List.getElem?_eq_none (by rw [C.flat_len, ← hlen]; omega)]
  refine pN_bs ht (cells := r) h0 hz h1 (by
    have := congrArg List.length h3
    rw [Array.length_toList, C.flat_len] at this
    rw [this, hlen]) hS fun v' w' h4 => ?_
  obtain ⟨s', rfl⟩ := own_sl h4
  rw [hlen, h3] at h4
  rw [hlen]
  exact hk s' w' h4
theorem pN_b1 {u : Value} {x : α} (hS : Sat E w L) [Row P t α C] (hx : C.enc x = u.cells.toList) (hz : C.size ≤ 16777216)
    (hk : ∀ s' w', Sat E w' (rows C s' [x] :: L) → K (.slice s'.a 1 s'.c) w') : pN P (oBs t 1 [(0, u)]) w K :=
  pN_bl [u] [x] rfl rfl (by simp [hx]) (by simp) hS (by simpa using hz) hk
theorem pN_b0 (hS : Sat E w L) [Row P t α C] (hk : ∀ s' w', Sat E w' (rows C s' [] :: L) → K (.slice s'.a 0 s'.c) w') : pN P (oBs t 0 []) w K := by
  refine pN_bs0 (Row.slt (C := C)) hS fun v' w' h1 => ?_
  obtain ⟨s', rfl⟩ := own_sl h1
  exact hk s' w' h1

/-- make. -/
theorem flat_made [hw : Row P t α C] (j : Nat) : (madeCells (Classical.choose hw.st).cells (j * C.size)).toList = C.flat (List.replicate j C.zero) := by
  have hz := Row.zero (P := P) (t := t) (C := C)
  have hl := C.len C.zero
  have hzs : (Classical.choose hw.st).cells.size = C.size := by rw [← Array.length_toList, hz, hl]
  apply List.ext_getElem?
  intro i
  by_cases hi : i < j * C.size
  · have hpos : 0 < C.size := by
      rcases Nat.eq_zero_or_pos C.size with h0 | h0
      · rw [h0] at hi; omega
      · exact h0
    have hr : i % C.size < C.size := Nat.mod_lt _ hpos
    have hq : i / C.size < j := by rw [Nat.div_lt_iff_lt_mul hpos]; exact hi
    have e1 : i / C.size * C.size + i % C.size = i := by rw [Nat.mul_comm]; exact Nat.div_add_mod _ _
    have e2 := C.flat_get (List.replicate j C.zero) (i / C.size) C.zero (by simp [hq])
    have e3 : (C.flat (List.replicate j C.zero))[i]? = (C.enc C.zero)[i % C.size]? := by
      rw [← e2, List.getElem?_take, if_pos hr, List.getElem?_drop, e1]
    rw [e3]
    have e4 : (Classical.choose hw.st).cells.toList[i % C.size]? = (C.enc C.zero)[i % C.size]? := by rw [hz]
    rw [← e4]
    generalize (Classical.choose hw.st).cells = zz at hzs
    have e5 : i < (Array.range (j * C.size)).size := by simpa using hi
    simp [madeCells, hi, hzs, hr]
  · rw [List.getElem?_eq_none (by rw [Array.length_toList, size_madeCells]; omega), List.getElem?_eq_none (by rw [C.flat_len, List.length_replicate]; omega)]
theorem pN_mk {z : Nat} (hS : Sat E w L) [hw : Row P t α C] [hz : Bt C z] (j : Nat) (hj : i = (j : Int)) (hb : z * j ≤ 281474976710656)
    (hk : ∀ s' w', Sat E w' (rows C s' (List.replicate j C.zero) :: L) → K (.slice s'.a j s'.c) w') : pN P (oMk t (.int k i) (.int k' i)) w K := by
  subst hj
  rw [← hz.eq] at hb
  refine pN_make (Row.slt (C := C)) hb (by
    have : 1 * j ≤ C.bytes * j := Nat.mul_le_mul_right j hw.bpos
    omega) hS fun v' w' h1 => ?_
  obtain ⟨s', rfl⟩ := own_sl h1
  refine hk s' w' ?_
  unfold rows
  rw [List.length_replicate, ← flat_made (P := P) (t := t)]
  exact h1
theorem pN_mk0 {z : Nat} (hS : Sat E w L) [hw : Row P t α C] [hz : Bt C z] (j : Nat) (hj : i = (j : Int)) (hb : z * j ≤ 281474976710656)
    (hk : ∀ s' w', Sat E w' (rows C s' [] :: L) → K (.slice s'.a 0 s'.c) w') : pN P (oMk t (.int k 0) (.int k' i)) w K := by
  subst hj
  rw [← hz.eq] at hb
  refine pN_make0 (Row.slt (C := C)) hb (by
    have : 1 * j ≤ C.bytes * j := Nat.mul_le_mul_right j hw.bpos
    omega) hS fun v' w' h1 => ?_
  obtain ⟨s', rfl⟩ := own_sl h1
  exact hk s' w' h1

/-- Parts of slices. -/
theorem Rds.sub [h : Rds C L s l] (a b : Nat) (h1 : a ≤ b) (h2 : b ≤ l.length) : Rds C L (s.sub a C.size) ((l.drop a).take (b - a)) := ⟨fun E w hS => by
  have := (h.rd E w hS).sub a b h1 h2
  rw [subV_sl, C.flat_drop, C.flat_take] at this
  rw [show ((l.drop a).take (b - a)).length = b - a from by simp only [List.length_take, List.length_drop]; omega]
  exact this⟩

omit [Pan] in
/-- What a part of a slice reads, wherever the slice reads. -/
class Part {α : Type} (C : Cd α) (s : Sl) (l : List α) (s' : Sl) (l' : List α) : Prop where
  rd : ∀ L, Rds C L s l → Rds C L s' l'

variable {k1 k2 : IntKind} {i1 i2 : Int} {lo hi : Nat}
theorem pN_sl2 (hS : Sat E w L) [Row P t α C] [h : Rds C L s l] (lo hi : Nat) (h1 : i1 = (lo : Int)) (h2 : i2 = (hi : Int)) (hn : n = l.length) (hlo : lo ≤ hi) (hhi : hi ≤ l.length)
    (hk : ∀ s', Part C s l s' ((l.drop lo).take (hi - lo)) → K (.slice s'.a (hi - lo) s'.c) w) : pN P (oSl t (.slice s.a n s.c) (some (.int k1 i1)) (some (.int k2 i2)) none) w K := by
  subst h1 h2 hn
  refine pN_sl (Row.slt (C := C)) (hS.rds (C := C) (s := s)) (by omega) (by omega) (by omega) ?_
  rw [Int.toNat_natCast, Int.toNat_natCast, subV_sl]
  exact hk _ ⟨fun L h => Rds.sub lo hi hlo hhi⟩
theorem pN_sl1 (hS : Sat E w L) [Row P t α C] [h : Rds C L s l] (lo : Nat) (h1 : i1 = (lo : Int)) (hn : n = l.length) (hlo : lo ≤ l.length)
    (hk : ∀ s', Part C s l s' (l.drop lo) → K (.slice s'.a (l.length - lo) s'.c) w) : pN P (oSl t (.slice s.a n s.c) (some (.int k1 i1)) none none) w K := by
  subst h1 hn
  refine pN_sl_l (Row.slt (C := C)) (hS.rds (C := C) (s := s)) (by omega) (by omega) ?_
  rw [Int.toNat_natCast, subV_sl]
  refine hk _ ⟨fun L h => ?_⟩
  have := Rds.sub (C := C) (L := L) (s := s) (l := l) lo l.length hlo (Nat.le_refl _)
  rwa [List.take_of_length_le (by simp)] at this
theorem pN_slh (hS : Sat E w L) [Row P t α C] [h : Rds C L s l] (hi : Nat) (h2 : i2 = (hi : Int)) (hn : n = l.length) (hhi : hi ≤ l.length)
    (hk : ∀ s', Part C s l s' (l.take hi) → K (.slice s'.a hi s'.c) w) : pN P (oSl t (.slice s.a n s.c) none (some (.int k2 i2)) none) w K := by
  subst h2 hn
  refine pN_sl_h (Row.slt (C := C)) (hS.rds (C := C) (s := s)) (by omega) (by omega) ?_
  rw [Int.toNat_natCast, subV_sl]
  refine hk _ ⟨fun L h => ?_⟩
  have := Rds.sub (C := C) (L := L) (s := s) (l := l) 0 hi (Nat.zero_le _) hhi
  rwa [List.drop_zero, Nat.sub_zero] at this
theorem pN_sla (hS : Sat E w L) [Row P t α C] [h : Rds C L s l] (hn : n = l.length)
    (hk : ∀ s', Part C s l s' l → K (.slice s'.a l.length s'.c) w) : pN P (oSl t (.slice s.a n s.c) none none none) w K := by
  subst hn
  refine pN_sl_a (Row.slt (C := C)) (hS.rds (C := C) (s := s)) ?_
  rw [subV_sl]
  refine hk _ ⟨fun L h => ?_⟩
  have := Rds.sub (C := C) (L := L) (s := s) (l := l) 0 l.length (Nat.zero_le _) (Nat.le_refl _)
  rwa [List.drop_zero, Nat.sub_zero, List.take_length] at this

omit [Pan] in
/-- Bytes as a string. -/
class StrT (P : Program) (t d : TypeId) (B : outParam (Cd UInt8)) : Prop where
  e : ∃ e, P.underlying t = some (.slice e) ∧ P.underlying e = some (.int .u8)
  d : P.underlying d = some .string
  size : B.size = 1
  enc : ∀ b, B.enc b = [bv b]
theorem StrT.flat {d : TypeId} {B : Cd UInt8} [h : StrT P t d B] (l : List UInt8) : B.flat l = bvs l := B.flat_single bv h.enc l

theorem run_st {d : TypeId} {B : Cd UInt8} {l : List UInt8} (hS : Sat E w L) [h : StrT P t d B] [hr : Rds B L s l] (hn : n = l.length) : (oConv t d (.slice s.a n s.c)).run P w = .ok (.value (.string ⟨l.toArray⟩)) w := by
  subst hn
  obtain ⟨e, h1, h2⟩ := h.e
  have := hS.rds (C := B) (s := s)
  rw [h.size, StrT.flat (P := P) (t := t) (d := d)] at this
  exact run_str h1 h2 h.d this
theorem pN_st {d : TypeId} {B : Cd UInt8} {l : List UInt8} (hS : Sat E w L) [h : StrT P t d B] [hr : Rds B L s l] (hn : n = l.length) (hk : K (.string ⟨l.toArray⟩) w) : pN P (oConv t d (.slice s.a n s.c)) w K := by
  rw [pN_def, run_st hS hn, rN_value]; exact hk
theorem pL_st {d : TypeId} {B : Cd UInt8} {l : List UInt8} (hS : Sat E w L) [h : StrT P t d B] [hr : Rds B L s l] (hn : n = l.length) (hk : J (.string ⟨l.toArray⟩)) : pL P (oConv t d (.slice s.a n s.c)) w J :=
  ⟨_, run_st hS hn, hk⟩
end

/-! ### Function values -/

section
variable [Pan] {P : Program} {w : World} {K : Value → World → Prop}
theorem pN_fn {fn : Fn} {first cap : List Value} (hk : K (.func fn first.toArray cap.toArray) w) : pN P (oFn fn first cap) w K := by
  have : (oFn fn first cap).run P w = .ok (.value (.func fn first.toArray cap.toArray)) w := run_oV_ok rfl
  rw [pN_def, this, rN_value]; exact hk
/-- A call through a function value. -/
theorem pN_callV {f : FuncId} {cap args : List Value} (hc : ∀ (args : Array Value) (w : World), (callFunc f args).run P w = .ok (.enter f args) w)
    (h : Calls P f (args ++ cap).toArray w (retP K)) : pN P (oCallV (.func (.func f) [].toArray cap.toArray) args) w K := by
  have : (oCallV (.func (.func f) [].toArray cap.toArray) args).run P w = .ok (.enter f (args ++ cap).toArray) w := by
    have e : oCallV (.func (.func f) [].toArray cap.toArray) args = callFunc f ((#[] ++ args.toArray) ++ cap.toArray) := rfl
    rw [e, hc]
    simp
  rw [pN_def, this, rN_enter]
  exact h
end
end Go.Proofs.YteeepkimnpabiaaDoor

namespace Go.Proofs.YteeepkimnpabiaaDoor
open Go
set_option linter.unusedSimpArgs false
set_option linter.unnecessarySimpa false
set_option linter.unusedSectionVars false
set_option linter.unusedVariables false

/-! ### A region in which recover stands, in any order -/

section
variable {P : Program} {ops : Array Oper} {QS : Exit → Act → List Frame → World → Prop} {md : Region.Mode}

def wpOpS (P : Program) (ops : Array Oper) (Q : Exit → Act → List Frame → World → Prop) (i : Nat) (K : Act → List Frame → World → Prop) (a : Act) (cs : List Frame) (w : World) : Prop :=
  match ops[i]? with
  | none => K a cs w
  | some o =>
    if Region.wanted o (yielded ops a.tmps) then
      match (execOp a.eval o).run P w with
      | .ok .recover w' =>
        match recoverD cs with
        | some (v, cs') => K (a.put o.dst v) cs' w'
        | none => K (a.put o.dst .nilIface) cs w'
      | r => o.upon P a (fun a' w' => K a' cs w') (fun e a' w' => Q e a' cs w') r
    else K (a.put o.dst undef) cs w

theorem wpOpsS_cons (i : Nat) (rest : List Nat) (a : Act) (cs : List Frame) (w : World) : wpOpsS P ops QS (i :: rest) a cs w = wpOpS P ops QS i (wpOpsS P ops QS rest) a cs w := by
  cases h : ops[i]? with
  | none => simp [wpOpsS, wpOpS, h]
  | some o => simp only [wpOpsS, wpOpS, h] <;> rfl

theorem upon_mono2 {o : Oper} {a : Act} {r : Result Next} {K K' : Act → World → Prop} {Q Q' : Exit → Act → World → Prop} (h : ∀ a w, K a w → K' a w) (hp : ∀ c a w, Q (.panic c) a w → Q' (.panic c) a w) (ho : LetsOut Q → LetsOut Q')
    (hh : o.upon P a K Q r) : o.upon P a K' Q' r := by
  cases r with
  | ok n w' =>
    cases n <;> simp only [Oper.upon] at hh ⊢ <;>
      first
        | exact h _ _ hh
        | exact Calls.mono hh (fun e w'' he => by cases e <;> first | exact h _ _ he | exact hp _ _ _ he | exact ho he)
        | exact Rows.mono hh (fun _ _ he => h _ _ he)
  | halt x w' => cases x <;> simp only [Oper.upon] at hh ⊢ <;> exact hp _ _ _ hh

theorem wpOpS_mono {i : Nat} {a : Act} {cs : List Frame} {w : World} {K K' : Act → List Frame → World → Prop} (h : ∀ a cs w, K a cs w → K' a cs w)
    (hh : wpOpS P ops QS i K a cs w) : wpOpS P ops QS i K' a cs w := by
  unfold wpOpS at *
  split
  · exact h _ _ _ (by simpa [*] using hh)
  · rename_i o ho
    simp only [ho] at hh
    split
    · rename_i hw
      simp only [hw, if_true] at hh
      split
      · rename_i w' hr
        simp only [hr] at hh
        split
        · rename_i v cs' hc; simp only [hc] at hh; exact h _ _ _ hh
        · rename_i hc; simp only [hc] at hh; exact h _ _ _ hh
      · rename_i r hnot
        split at hh
        · rename_i w' hr; exact absurd hr (hnot w')
        · exact upon_mono2 (fun a w => h a cs w) (fun c a w h => h) (fun h => h) hh
    · rename_i hw; simp only [hw] at hh; exact h _ _ _ hh

def wpAnyS (P : Program) (md : Region.Mode) (ops : Array Oper) (Q : Exit → Act → List Frame → World → Prop) : Nat → Array Bool → Act → List Frame → World → Prop
  | 0, listed, a, cs, w => Region.ready md ops listed = [] ∧ Q .normal a cs w
  | fuel + 1, listed, a, cs, w =>
    (Region.ready md ops listed = [] → Q .normal a cs w) ∧
    ∀ i ∈ Region.ready md ops listed, wpOpS P ops Q i (wpAnyS P md ops Q fuel (listed.setIfInBounds i true)) a cs w

theorem wpAnyS_sound : ∀ (fuel t : Nat) (listed : Array Bool) (a : Act) (cs : List Frame) (w : World), wpAnyS P md ops QS fuel listed a cs w →
    wpOpsS P ops QS (Region.linearise.go md ops fuel t listed []) a cs w := by
  intro fuel
  induction fuel with
  | zero => intro t listed a cs w h; simpa [Region.linearise.go, wpOpsS] using h.2
  | succ fuel ih =>
    intro t listed a cs w h
    obtain ⟨h₀, h₁⟩ := h
    simp only [Region.linearise.go]
    change wpOpsS P ops QS (match (Region.ready md ops listed)[t % (Region.ready md ops listed).length]? with
      | some i => Region.linearise.go md ops fuel (t / (Region.ready md ops listed).length) (listed.setIfInBounds i true) [i]
      | none => [].reverse) a cs w
    cases hi : (Region.ready md ops listed)[t % (Region.ready md ops listed).length]? with
    | none =>
      have hnil : Region.ready md ops listed = [] := by
        cases hr : Region.ready md ops listed with
        | nil => rfl
        | cons x xs =>
          rw [hr] at hi
          have hlt : t % (x :: xs).length < (x :: xs).length := Nat.mod_lt _ (by simp)
          simp at hi
          simp at hlt
          omega
      simpa [wpOpsS] using h₀ hnil
    | some i =>
      simp only []
      rw [linearise_go_acc, List.reverse_singleton, List.singleton_append, wpOpsS_cons]
      exact wpOpS_mono (fun a cs w => ih _ _ a cs w) (h₁ i (List.mem_of_getElem? hi))

theorem wpS_region_any {id : Nat} {a : Act} {cs : List Frame} {w : World} (hm : P.follows .mixedOrders = true)
    (h : wpAnyS P .any ops QS ops.size (Array.replicate ops.size false) a cs { w with drawn := w.drawn + 1 }) : (Code.region id ops true).wpS P QS a cs w := by
  intro b k hb hr
  have h1 := wpAnyS_sound ops.size (w.tape w.drawn (.order b.fn id)) _ a cs _ h
  obtain ⟨e, a', cs', w', q, r⟩ := wp_opsS _ a cs _ h1 b k hb hr
  refine ⟨e, a', cs', w', q, .of_steps (.one ?_) r⟩
  have := step_region_draw (P := P) (b := b) (a := a) (k := k) (cs := cs) (w := w) (ops := ops) (id := id)
  simp only [Region.schedule, hm, Bool.true_or, if_true] at this
  exact this

/-! ### recover as a value -/

def recList : List Oper → Nat → Value → List Oper
  | [], _, _ => []
  | o :: l, 0, v => { o with op := .assign (.const v) } :: l
  | o :: l, n + 1, v => o :: recList l n v
def recOps (ops : Array Oper) (r : Nat) (v : Value) : Array Oper := (recList ops.toList r v).toArray

theorem recList_get : ∀ (l : List Oper) (r : Nat) (v : Value) (i : Nat), (recList l r v)[i]? = if i = r then (l[i]?).map (fun o => { o with op := .assign (.const v) }) else l[i]?
  | [], r, v, i => by simp [recList]
  | o :: l, 0, v, i => by cases i <;> simp [recList]
  | o :: l, r + 1, v, i => by
    cases i with
    | zero => simp [recList]
    | succ i => simp [recList, recList_get l r v i]
theorem recList_length : ∀ (l : List Oper) (r : Nat) (v : Value), (recList l r v).length = l.length
  | [], _, _ => rfl
  | o :: l, 0, v => rfl
  | o :: l, r + 1, v => by simp [recList, recList_length l r v]
theorem recOps_get (ops : Array Oper) (r : Nat) (v : Value) (i : Nat) : (recOps ops r v)[i]? = if i = r then (ops[i]?).map (fun o => { o with op := .assign (.const v) }) else ops[i]? := by
  simp only [recOps, List.getElem?_toArray, recList_get, Array.getElem?_toList]
theorem recOps_size (ops : Array Oper) (r : Nat) (v : Value) : (recOps ops r v).size = ops.size := by simp [recOps, recList_length]
theorem recOps_map {α : Type} (f : Oper → α) (hf : ∀ o v, f { o with op := .assign (.const v) } = f o) (ops : Array Oper) (r : Nat) (v : Value) (i : Nat) : ((recOps ops r v)[i]?).map f = (ops[i]?).map f := by
  rw [recOps_get]
  split
  · cases ops[i]? with
    | none => rfl
    | some o => simp [hf o v]
  · rfl
theorem recOps_ready (ops : Array Oper) (r : Nat) (v : Value) (listed : Array Bool) : Region.ready md (recOps ops r v) listed = Region.ready md ops listed := by
  unfold Region.ready
  rw [recOps_size]
  congr 1
  funext i
  rw [recOps_map (fun o => o.after.all fun e => !Region.binds md e || listed.getD e.on false) (fun _ _ => rfl)]
theorem recOps_yielded (ops : Array Oper) (r : Nat) (v : Value) (tmps : Array Value) : yielded (recOps ops r v) tmps = yielded ops tmps := by
  funext j
  unfold yielded
  have h : ((recOps ops r v)[j]?).bind (·.dst) = (ops[j]?).bind (·.dst) := by
    rw [recOps_get]
    split
    · cases ops[j]? <;> rfl
    · rfl
  rw [h]

/-- recover stands there, and waits for nothing. -/
structure RecAt (P : Program) (ops : Array Oper) (r : Nat) : Prop where
  is : ∃ o, ops[r]? = some o ∧ (∀ ρ w, (execOp ρ o).run P w = .ok .recover w) ∧ o.guard = none ∧ o.after = #[]

theorem wpAnyS_of (r : Nat) (v : Value) (cs cs2 : List Frame) (hr : RecAt P ops r) (hv : recoverD cs = some (v, cs2) ∨ (recoverD cs = none ∧ v = .nilIface ∧ cs2 = cs)) {Q : Exit → Act → World → Prop} (hQ : ∀ c a w, ¬ Q (.panic c) a w) (hO : ¬ LetsOut Q) :
    ∀ (fuel : Nat) (listed : Array Bool) (a : Act) (w : World), listed.size = ops.size → wpAny P .any (recOps ops r v) Q fuel listed a w →
      wpAnyS P .any ops (fun e a' cs' w' => cs' = cs2 ∧ Q e a' w') fuel listed a (if listed.getD r false = true then cs2 else cs) w := by
  obtain ⟨o, ho, hrun, hg, haft⟩ := hr.is
  have hrlt : r < ops.size := (Array.getElem?_eq_some_iff.1 ho).1
  have done : ∀ listed : Array Bool, listed.size = ops.size → Region.ready .any ops listed = [] → listed.getD r false = true := by
    intro listed hs h0
    have h1 : r ∉ Region.ready .any ops listed := by rw [h0]; exact List.not_mem_nil
    rw [mem_ready] at h1
    cases hl : listed.getD r true with
    | true => simpa [hs, hrlt] using hl
    | false => exact absurd ⟨hl, o, ho, fun e he => by rw [haft] at he; simp at he⟩ h1
  intro fuel
  induction fuel with
  | zero =>
    intro listed a w hs h
    obtain ⟨h0, h1⟩ := h
    rw [recOps_ready] at h0
    exact ⟨h0, by rw [if_pos (done listed hs h0)], h1⟩
  | succ fuel ih =>
    intro listed a w hs h
    obtain ⟨h0, h1⟩ := h
    rw [recOps_ready] at h0 h1
    refine ⟨fun h2 => ⟨by rw [if_pos (done listed hs h2)], h0 h2⟩, fun i hi => ?_⟩
    have hw := h1 i hi
    have hs' : (listed.setIfInBounds i true).size = ops.size := by simpa using hs
    obtain ⟨hun, oi, hoi, _⟩ := mem_ready.1 hi
    by_cases hir : i = r
    · subst hir
      have hl : listed.getD i false = false := by simpa [hs, hrlt] using hun
      have hl2 : (listed.setIfInBounds i true).getD i false = true := by simp [hs, hrlt]
      rw [hl]
      unfold wpOp at hw
      rw [recOps_get, if_pos rfl, ho] at hw
      simp only [Option.map_some, Region.wanted, hg, if_true] at hw
      have hw := hw.resolve_right fun h => hO h.2
      simp only [Oper.wp, Oper.upon, execOp] at hw
      have hw : wpAny P .any (recOps ops i v) Q fuel (listed.setIfInBounds i true) (a.put o.dst v) w := hw
      have H := ih _ _ _ hs' hw
      rw [hl2] at H
      unfold wpOpS
      simp only [ho, Region.wanted, hg, if_true, hrun, Bool.false_eq_true, if_false]
      rcases hv with hv | ⟨hv, rfl, rfl⟩
      · simp only [hv]; exact H
      · simp only [hv]; simpa using H
    · have hl2 : (listed.setIfInBounds i true).getD r false = listed.getD r false := getD_set_ne false hir
      unfold wpOp at hw
      rw [recOps_get, if_neg hir, hoi, recOps_yielded] at hw
      simp only at hw
      unfold wpOpS
      simp only [hoi]
      split
      · rename_i hwt
        simp only [hwt, if_true] at hw
        have hw := hw.resolve_right fun h => hO h.2
        unfold Oper.wp at hw
        split
        · rename_i w' hrr
          rw [hrr] at hw
          exact hw.elim
        · refine upon_mono2 (fun a w h => ?_) (fun c a w h => absurd h (hQ c a w)) (fun h => absurd h hO) hw
          have H := ih _ a w hs' h
          rw [hl2] at H
          exact H
      · rename_i hwt
        simp only [hwt] at hw
        have H := ih _ _ _ hs' hw
        rw [hl2] at H
        exact H
end

/-! ### A deferred call that recovers -/

section
variable {P : Program} {H : Hints} {v : Value}

theorem wpS_mono {c : Code} {Q Q' : Exit → Act → List Frame → World → Prop} {a : Act} {cs : List Frame} {w : World} (h : c.wpS P Q a cs w) (hq : ∀ e a cs w, Q e a cs w → Q' e a cs w) : c.wpS P Q' a cs w :=
  fun b k hb hr => let ⟨e, a', cs', w', q, r⟩ := h b k hb hr; ⟨e, a', cs', w', hq _ _ _ _ q, r⟩

/-- A code with recover on its way, and the same with a value in recover's place. -/
inductive RSp (P : Program) (H : Hints) (v : Value) : Code → Code → Prop
  | here (id : Nat) (ops : Array Oper) (r : Nat) : RecAt P ops r → RSp P H v (.region id ops true) (.region id (recOps ops r v) true)
  | left (x x' y : Code) : RSp P H v x x' → (firstRg y).bind H.cut = none → RSp P H v (.seq x y) (.seq x' y)
  | right (id : Nat) (ops : Array Oper) (b : Bool) (y y' : Code) : RSp P H v y y' → (firstRg y').bind H.cut = none → RSp P H v (.seq (.region id ops b) y) (.seq (.region id ops b) y')

/-- A code with a value in recover's place. -/
def recCode (rid r : Nat) (v : Value) : Code → Code
  | .region id ops b => match Nat.beq id rid with
    | true => .region id (recOps ops r v) b
    | false => .region id ops b
  | .seq x y => .seq (recCode rid r v x) (recCode rid r v y)
  | c => c

def recB (ops : Array Oper) (r : Nat) : Bool :=
  match nthO ops.toList r with
  | some o => match o.op, o.guard, o.after.toList with
    | .call { callee := .builtin .recover, args := a, .. }, none, [] => Nat.beq a.size 0
    | _, _, _ => false
  | none => false

/-- The spine that is served: regions, the one with recover, and what follows it. -/
def rspB (H : Hints) (rid r : Nat) : Code → Bool
  | .seq (.region id ops b) y => ((firstRg y).bind H.cut).isNone && match Nat.beq id rid with
    | true => b && recB ops r && noRg rid y
    | false => rspB H rid r y
  | _ => false
where noRg (rid : Nat) : Code → Bool
  | .region id _ _ => !Nat.beq id rid
  | .seq x y => noRg rid x && noRg rid y
  | _ => true

theorem recB_at {ops : Array Oper} {r : Nat} (h : recB ops r = true) : RecAt P ops r := by
  unfold recB at h
  rw [nthO_eq, Array.getElem?_toList] at h
  split at h
  · rename_i o ho
    split at h
    · rename_i a ats hop hg haft
      have ha := Nat.eq_of_beq_eq_true h
      refine ⟨o, ho, fun ρ w => ?_, hg, by simpa using haft⟩
      obtain ⟨dst, op, type, pos, after, guard⟩ := o
      subst hop
      have ha2 : a = #[] := by simpa using ha
      subst ha2
      rfl
    · cases h
  · cases h
theorem recCode_no (rid r : Nat) (v : Value) : ∀ y : Code, rspB.noRg rid y = true → recCode rid r v y = y := by
  intro y
  induction y with
  | region id ops b =>
    intro h
    simp only [rspB.noRg, Bool.not_eq_true'] at h
    simp only [recCode, h]
  | seq x y ihx ihy =>
    intro h
    simp only [rspB.noRg, Bool.and_eq_true] at h
    simp only [recCode, ihx h.1, ihy h.2]
  | _ => intro _; rfl
theorem firstRg_rec (rid r : Nat) (v : Value) : ∀ y : Code, firstRg (recCode rid r v y) = firstRg y := by
  intro y
  induction y with
  | region id ops b => simp only [recCode]; split <;> rfl
  | seq x y ihx ihy => simp only [recCode, firstRg, ihx, ihy]
  | _ => rfl
theorem rsp_of (P : Program) (H : Hints) (rid r : Nat) (v : Value) : ∀ {c : Code}, rspB H rid r c = true → RSp P H v c (recCode rid r v c) := by
  intro c
  induction c with
  | seq x y _ ihy =>
    intro h
    cases x with
    | region id ops b =>
      simp only [rspB, Bool.and_eq_true, Option.isNone_iff_eq_none] at h
      obtain ⟨hcut, h⟩ := h
      cases hid : Nat.beq id rid with
      | true =>
        simp only [hid, Bool.and_eq_true] at h
        obtain ⟨⟨rfl, h1⟩, h2⟩ := h
        simp only [recCode, hid, recCode_no rid r v y h2]
        exact .left _ _ _ (.here id ops r (recB_at h1)) hcut
      | false =>
        simp only [hid] at h
        simp only [recCode, hid]
        exact .right _ _ _ _ _ (ihy h) (by rw [firstRg_rec]; exact hcut)
    | _ => simp [rspB] at h
  | _ => intro h; simp [rspB] at h

theorem cw_wpS (hm : P.follows .mixedOrders = true) {n : Frm} {cs cs2 : List Frame} (hv : recoverD cs = some (v, cs2) ∨ (recoverD cs = none ∧ v = .nilIface ∧ cs2 = cs)) {c c' : Code} (hc : RSp P H v c c') :
    ∀ {Q : PQ} {ρ : Env} {w : World} {a : Act}, served H n c' = true → Fits n a ρ → @cw Pan.no P H c' Q ρ w →
      c.wpS P (fun e a' cs' w' => cs' = cs2 ∧ @UpQ Pan.no n a (writes c') Q e a' w') a cs w := by
  induction hc with
  | here id ops r hr =>
    intro Q ρ w a hs hf h
    have hO : ¬ LetsOut (@UpQ Pan.no n a (writes (.region id (recOps ops r v) true)) Q) := fun ⟨_, _, h⟩ => h
    refine wpS_region_any hm ?_
    have key : wpAny P .any (recOps ops r v) (@UpQ Pan.no n a (writes (.region id (recOps ops r v) true)) Q) ops.size (Array.replicate ops.size false) a { w with drawn := w.drawn + 1 } := by
      simp only [served, Bool.and_eq_true] at hs
      obtain ⟨⟨hs1, hs2⟩, hs3⟩ := hs
      simp only [List.all_eq_true] at hs1
      simp only [cw, pDr] at h
      have hsz := recOps_size ops r v
      rw [← hsz]
      refine wpAny_of_T _ _ [] _ _ ?_
      have hcl : Clo (recOps ops r v) (Array.replicate (recOps ops r v).size false) := by
        intro j o ho hl
        have hlt := (Array.getElem?_eq_some_iff.1 ho).1
        simp [hlt] at hl
      have hlt : ∀ t ∈ opWrites (recOps ops r v).toList, n.lo ≤ t ∧ t < n.n := fun t ht => by
        have := hs1 t ht
        simp only [Bool.and_eq_true, Nat.blt_eq, Nat.ble_eq] at this
        exact ⟨this.2, this.1⟩
      cases ho : H.order id with
      | nil =>
        rw [ho] at h
        exact dw_any (P := P) hs2 hlt (Q := @UpQ Pan.no n a (writes (.region id (recOps ops r v) true)) Q) (fun c a w => Iff.rfl) a
          (fun a' ρ' w' hk hf' hq => ⟨hk, ρ', hf', hq⟩) (recOps ops r v).size _ [] ρ a _ hcl hf (fun _ _ => rfl) (fun p hp => by cases hp) h
      | cons p rr =>
        rw [ho] at h hs3
        simp only [Bool.and_eq_true] at hs3
        obtain ⟨⟨hok, hlen⟩, hed⟩ := hs3
        have hlen := Nat.eq_of_beq_eq_true hlen
        simp only [Array.length_toList] at hok hlen hed
        have hb : ∀ (j : Nat) (o : Oper), (recOps ops r v)[j]? = some o → ∀ e ∈ o.after, Region.binds .any e = true → e.on < (recOps ops r v).size := by
          intro j o hj e he _
          simp only [List.all_eq_true] at hed
          have := hed o (by simpa using Array.mem_of_getElem? hj) e (by simpa using he)
          simpa [Nat.blt_eq] using this
        have hrel : RelM (recOps ops r v).size 0 (Array.replicate (recOps ops r v).size false) := ⟨by simp, fun j hj => by simp [hj]⟩
        have H := dwS_any (P := P) hs2 hlt hb (Q := @UpQ Pan.no n a (writes (.region id (recOps ops r v) true)) Q) (fun c a w => Iff.rfl) a
          (fun a' ρ' w' hk hf' hq => ⟨hk, ρ', hf', hq⟩) (p :: rr) 0 _ [] ρ a _ hrel hok hcl hf (fun _ _ => rfl) (fun p hp => by cases hp) h
        rw [hlen] at H
        exact H
    have H := wpAnyS_of r v cs cs2 hr hv (fun c a w h => h.z) hO ops.size _ a _ (by simp) key
    have e : (Array.replicate ops.size false).getD r false = false := by
      simp only [Array.getD_eq_getD_getElem?, Array.getElem?_replicate]
      split <;> rfl
    rw [e] at H
    simpa using H
  | left x x' y hx hcut ih =>
    intro Q ρ w a hs hf h
    simp only [served, Bool.and_eq_true, hcut] at hs
    simp only [cw, hcut] at h
    refine wpS_seq (wpS_mono (ih hs.1.1 hf h) fun e a' cs' w' hq => ?_)
    obtain ⟨rfl, hq⟩ := hq
    cases e with
    | panic c => exact ⟨rfl, hq⟩
    | outgrown => exact hq.elim
    | goto l => exact hq.elim
    | normal =>
      obtain ⟨hk, ρ', hf', hq'⟩ := hq
      refine wpS_mono (wpS_of_wp (wp_mono (cw_wp (n := n) hm y hs.1.2 hf' hq') fun e a'' w'' h => (⟨rfl, UpQ.next hk e a'' w'' h⟩ : cs' = cs' ∧ _))) fun e a cs w h => h
    | exit id => exact ⟨rfl, UpQ.mono (ws := writes x') (Q := Q) (by simp [writes]; intro t ht; exact .inl ht) (fun _ _ _ h => h) (.exit id) a' w' hq⟩
    | ret => exact ⟨rfl, UpQ.mono (ws := writes x') (Q := Q) (by simp [writes]; intro t ht; exact .inl ht) (fun _ _ _ h => h) .ret a' w' hq⟩
  | right id ops b y y' hy hcut ih =>
    intro Q ρ w a hs hf h
    simp only [served, Bool.and_eq_true, hcut] at hs
    simp only [cw, hcut] at h
    have h1 := cw_wp (n := n) hm (.region id ops b) (by cases b <;> simpa [served] using hs.1.1) hf (Q := fun e ρ' w' => match e with
      | .normal => @cw Pan.no P H y' Q ρ' w'
      | _ => False) (by cases b <;> simpa only [cw] using h)
    refine wpS_seq (wpS_of_wp (wp_mono h1 fun e a' w' hq => ?_))
    cases e with
    | panic c => exact hq.z.elim
    | outgrown => exact hq.elim
    | goto l => exact hq.elim
    | exit id => exact hq.2.choose_spec.2.elim
    | ret => exact hq.2.choose_spec.2.elim
    | normal =>
      obtain ⟨hk, ρ', hf', hq'⟩ := hq
      exact wpS_mono (ih hs.1.2 hf' hq') fun e a'' cs' w'' h => ⟨h.1, UpQ.next hk e a'' w'' h.2⟩

/-- A function that is entered as a deferred call, where a panic goes on, or none. -/
theorem callsD_of_cw (hm : P.follows .mixedOrders = true) {f : FuncId} {fn : Func} {c c' : Code} {args : List Value} {w : World} {K : Value → World → Prop} {u u2 : FrameMode}
    (hu : (∃ older, u = .panicking ({ v := v, recovered := false } :: older) ∧ u2 = .panicking ({ v := v, recovered := true } :: older)) ∨ (u = .returning ∧ v = .nilIface ∧ u2 = .returning))
    (hfn : P.funcs[f]? = some fn) (hb : fn.body = some c) (hc : RSp P H v c c') (hs : served H (Frm.new fn.ntmps) c' = true) (ha : args.length ≤ fn.ntmps)
    (h : @cw Pan.no P H c' (endQ P fn.results.toList K) (argsE args) w) : CallsD P f args.toArray u w fun e u' w' => u' = u2 ∧ ∃ r, e = .returned r ∧ K r w' := by
  refine callsD_of_wpS hfn hb fun c₀ cs hu₀ => ?_
  have hf := fits_new fn.ntmps args ha
  have hv : recoverD (c₀ :: cs) = some (v, { c₀ with mode := u2 } :: cs) ∨ (recoverD (c₀ :: cs) = none ∧ v = .nilIface ∧ { c₀ with mode := u2 } :: cs = c₀ :: cs) := by
    rcases hu with ⟨older, rfl, rfl⟩ | ⟨rfl, rfl, rfl⟩
    · left; simp [recoverD, hu₀]
    · right
      refine ⟨by simp [recoverD, hu₀], rfl, ?_⟩
      rw [← hu₀]
  refine wpS_mono (cw_wpS hm hv hc hs hf h) fun e a' cs' w' hq => ?_
  obtain ⟨rfl, hq⟩ := hq
  cases e with
  | panic c => exact hq.z.elim
  | outgrown => exact hq.elim
  | goto l => exact hq.elim
  | exit id => obtain ⟨_, ρ', _, hq⟩ := hq; exact hq.elim
  | normal =>
    obtain ⟨_, ρ', hf', hq⟩ := hq
    obtain ⟨vs, hr, hK⟩ := resW_run _ _ hq
    exact ⟨hf'.defers, u2, rfl, _, results_one hf' fn w' P vs hr, rfl, _, rfl, by simpa using hK⟩
  | ret =>
    obtain ⟨_, ρ', hf', hq⟩ := hq
    obtain ⟨vs, hr, hK⟩ := resW_run _ _ hq
    exact ⟨hf'.defers, u2, rfl, _, results_one hf' fn w' P vs hr, rfl, _, rfl, by simpa using hK⟩
end

/-! ### A function that defers one call -/

/-- An operation that defers a call. -/
def pDf (P : Program) (m : Sem Next) (w : World) (K : Deferred → Prop) : Prop := ∃ d, m.run P w = .ok (.defer d) w ∧ K d

/-- A deferred call, where a frame returns or panics, and what is behind it: the frame returns. -/
def dE (P : Program) (d : Deferred) (u : FrameMode) (w : World) (K : World → Prop) : Prop :=
  ∃ fv cap f args, d.target = .fn fv cap ∧ (invoke d.target d.args).run P w = .ok (.enter f args) w ∧ CallsD P f args u w fun e u' w' => (∃ v, e = .returned v) ∧ settle u' = .returning ∧ K w'

/-- A region whose last operation defers. -/
def rgD [Pan] (P : Program) (ops : Array Oper) : List Oper → Env → World → (Deferred → Env → World → Prop) → Prop
  | [], _, _, _ => False
  | [o], ρ, w, K => pDf P (execE ρ o) w fun d => K d (ρ.put o.dst undef) w
  | o :: rest, ρ, w, K => opW P ops o ρ w fun v w' => rgD P ops rest (ρ.put o.dst v) w' K

def isDf : List Oper → Bool
  | [] => false
  | [o] => match o.op, o.guard with
    | .defer _, none => true
    | _, _ => false
  | _ :: r => isDf r

/-- What is behind the deferring region: with what is to hold where a panic goes on. -/
def cwZ (P : Program) (H : Hints) (rs : List ResultVar) (K : Value → World → Prop) (y : Code) (d : Deferred) (ρ : Env) (w : World) : Prop :=
  ∃ Z : Pan, (∀ ch w', Z.z ch w' → dE P d (.panicking ch) w' fun w'' => resW P rs [] ρ w'' K) ∧
    @cw Z P H y (fun e ρ' w' => match e with
      | .normal => dE P d .returning w' fun w'' => resW P rs [] ρ' w'' K
      | .ret => dE P d .returning w' fun w'' => resW P rs [] ρ' w'' K
      | _ => False) ρ w

def cwD [Pan] (P : Program) (H : Hints) (rs : List ResultVar) (K : Value → World → Prop) : Code → Env → World → Prop
  | .seq x y, ρ, w => match x with
    | .region _ ops false => match isDf ops.toList with
      | true => rgD P ops ops.toList ρ w fun d ρ' w' => cwZ P H rs K y d ρ' w'
      | false => rgW P ops ops.toList ρ w fun ρ' w' => cwD P H rs K y ρ' w'
    | x => match (firstRg y).bind H.cut with
      | none => cw P H x (thenE (fun ρ' w' => cwD P H rs K y ρ' w') (endQ P rs K)) ρ w
      | some (live, mods) => cutW (fun Q' => cw P H x Q' ρ w) (fun ρ' w' => cwD P H rs K y ρ' w') live mods (endQ P rs K) ρ
  | _, _, _ => False

def rsIn (lo : Nat) : List ResultVar → Bool
  | [] => true
  | .tmp t :: r => Nat.blt t lo && rsIn lo r
  | .cell a _ :: r => Nat.blt a lo && rsIn lo r

def servedD (H : Hints) (n lo : Nat) : Code → Bool
  | .seq x y => match x with
    | .region _ ops false => ((opWrites ops.toList).all fun t => Nat.blt t n) && match isDf ops.toList with
      | true => served H ⟨n, lo, [], fun _ => undef⟩ y
      | false => servedD H n lo y
    | x => served H (Frm.new n) x && servedD H n lo y && (match (firstRg y).bind H.cut with
      | none => true
      | some (_, mods) => (writes x).all fun t => mods.testBit t)
  | _ => false

theorem served_frm {H : Hints} {n m : Frm} (h1 : n.n = m.n) (h2 : n.lo = m.lo) : ∀ c : Code, served H n c = served H m c := by
  intro c
  induction c with
  | region id ops b => cases b <;> simp only [served, h1, h2]
  | seq x y ihx ihy => simp only [served, ihx, ihy]
  | cond c x y ihx ihy => simp only [served, ihx, ihy]
  | block id c ih => simp only [served, ih]
  | loop c ih => simp only [served, ih]
  | _ => rfl

section
variable [Pan] {P : Program} {H : Hints}

theorem rgD_wp {n : Frm} {ops : Array Oper} (l : List Oper) : ∀ {a : Act} {ρ : Env} {w : World} {K : Deferred → Env → World → Prop} {Q : Exit → Act → World → Prop}, isDf l = true → 
    (∀ c a w, PZ n a c w → Q (.panic c) a w) → (∀ t ∈ opWrites l, n.lo ≤ t ∧ t < n.n) → Fits n a ρ → rgD P ops l ρ w K →
    (∀ d a' ρ' w', Fits { n with ds := d :: n.ds } a' ρ' → K d ρ' w' → Q .normal a' w') → wpList P ops Q l a w := by
  induction l with
  | nil => intro a ρ w K Q hd; cases hd
  | cons o rest ih =>
    intro a ρ w K Q hdf hQ hw hf h hK
    have hd : ∀ t, o.dst = some t → n.lo ≤ t ∧ t < n.n := fun t ht => hw t (by simp [opWrites, ht])
    cases rest with
    | nil =>
      obtain ⟨d, hr, h⟩ := h
      have hg : o.guard = none := by
        simp only [isDf] at hdf
        split at hdf
        · assumption
        · cases hdf
      refine wpList_plain hg fun K' hK' => ?_
      unfold Oper.wp
      rw [hf.eval, ← execE_eq, hr]
      simp only [Oper.upon]
      refine hK' _ _ ?_
      refine hK d _ _ w ?_ h
      have hf2 := hf.put hd undef
      refine ⟨by rw [← hf2.size]; cases o.dst <;> rfl, ?_, fun t => ?_, fun t ht => hf2.low t ht⟩
      · cases o.dst <;> simp [Act.put, hf.defers]
      · rw [← hf2.get t]
        cases o.dst <;> rfl
    | cons o2 rest =>
      have hrest : ∀ t ∈ opWrites (o2 :: rest), n.lo ≤ t ∧ t < n.n := fun t ht => hw t (by
        rw [opWrites]; split
        · exact List.mem_cons_of_mem _ ht
        · exact ht)
      have hgo : ∀ v w', rgD P ops (o2 :: rest) (ρ.put o.dst v) w' K → wpList P ops Q (o2 :: rest) (a.put o.dst v) w' := fun v w' hr =>
        ih (by simpa only [isDf] using hdf) hQ hrest (hf.put hd v) hr hK
      simp only [rgD] at h
      cases hg : o.guard with
      | none => exact wpList_plain hg fun K' hK' => pN_wp hf (fun c w h => hQ c a w h) (opW_none hg h) fun v w' hr => hK' _ _ (hgo v w' hr)
      | some g =>
        obtain ⟨j, want⟩ := g
        simp only [opW, hg] at h
        refine wpList_step fun K' hK' => ?_
        simp only [Region.wanted, hg, hf.yielded ops]
        simp only [pGd] at h
        split
        · rename_i hy
          rw [if_pos hy] at h
          exact pN_wp hf (fun c w h => hQ c a w h) h fun v w' hr => hK' _ _ (hgo v w' hr)
        · rename_i hy
          rw [if_neg hy] at h
          exact hK' _ _ (hgo _ _ h)

theorem resW_congr {lo : Nat} {ρ ρ' : Env} (hl : ∀ t, t < lo → ρ' t = ρ t) {w : World} {K : Value → World → Prop} : ∀ (rs : List ResultVar) (acc : List Value), rsIn lo rs = true → resW P rs acc ρ w K → resW P rs acc ρ' w K
  | [], acc, _, h => h
  | .tmp t :: r, acc, hr, h => by
    simp only [rsIn, Bool.and_eq_true, Nat.blt_eq] at hr
    simp only [resW] at h ⊢
    rw [hl t hr.1]
    exact resW_congr hl r _ hr.2 h
  | .cell a t :: r, acc, hr, h => by
    simp only [rsIn, Bool.and_eq_true, Nat.blt_eq] at hr
    simp only [resW] at h ⊢
    rw [hl a hr.1]
    obtain ⟨v, h1, h2⟩ := h
    exact ⟨v, h1, resW_congr hl r _ hr.2 h2⟩

theorem leaves_end {fn : Func} {n : Frm} {a : Act} {ρ : Env} {w : World} {K : Value → World → Prop} (hf : Fits n a ρ) (h : resW P fn.results.toList [] ρ w K) : Leaves P fn a.tmps (retP K) [] .returning w := by
  obtain ⟨vs, hr, hK⟩ := resW_run _ _ h
  exact ⟨_, results_one hf fn w P vs hr, by simpa [retP] using hK⟩

theorem leaves_dE {fn : Func} {a : Act} {ρ : Env} {w : World} {K : Value → World → Prop} {u : FrameMode} (hu : u ≠ .run) {d : Deferred} {lo : Nat} (hrs : rsIn lo fn.results.toList = true) (hl : ∀ t, t < lo → a.tmps.getD t undef = ρ t)
    (h : dE P d u w fun w'' => resW P fn.results.toList [] ρ w'' K) : Leaves P fn a.tmps (retP K) [d] u w := by
  obtain ⟨fv, cap, f, args, ht, hi, h⟩ := h
  refine ⟨hu, fv, cap, f, args, ht, hi, h.mono fun e u' w' he => ?_⟩
  obtain ⟨⟨v, rfl⟩, hs, hK⟩ := he
  show Leaves P fn a.tmps (retP K) [] (settle u') w'
  rw [hs]
  have hf : Fits ⟨a.tmps.size, 0, a.defers, fun _ => undef⟩ a (fun t => a.tmps.getD t undef) := ⟨rfl, rfl, fun _ => rfl, fun t ht => absurd ht (Nat.not_lt_zero t)⟩
  exact leaves_end hf (resW_congr hl _ _ hrs hK)

omit [Pan] in
theorem cwZ_wp (hm : P.follows .mixedOrders = true) {fn : Func} {lo : Nat} {K : Value → World → Prop} {R : Ending → World → Prop} {y : Code} {d : Deferred} {ρ : Env} {a : Act} {w : World}
    (hL : ∀ (u : FrameMode) (a : Act) (ρ : Env) (w : World), u ≠ .run → (∀ t, t < lo → a.tmps.getD t undef = ρ t) → (dE P d u w fun w'' => resW P fn.results.toList [] ρ w'' K) → Leaves P fn a.tmps R [d] u w)
    (hs : served H ⟨fn.ntmps, lo, [], fun _ => undef⟩ y = true) (hf : Fits { Frm.new fn.ntmps with ds := [d] } a ρ) (hz : cwZ P H fn.results.toList K y d ρ w) : y.wp P (bodyPostD P fn R) a w := by
  obtain ⟨Z, hz1, hz2⟩ := hz
  have hfF : Fits ⟨fn.ntmps, lo, [d], ρ⟩ a ρ := ⟨hf.size, hf.defers, hf.get, fun _ _ => rfl⟩
  have s2 : served H ⟨fn.ntmps, lo, [d], ρ⟩ y = true := (served_frm (H := H) (n := ⟨fn.ntmps, lo, [d], ρ⟩) (m := ⟨fn.ntmps, lo, [], fun _ => undef⟩) rfl rfl y).trans hs
  refine wp_mono (@cw_wp Z P hm H _ y _ _ _ _ s2 hfF hz2) fun e a'' w'' hq => ?_
  cases e with
  | panic c =>
    show Leaves P fn a''.tmps R a''.defers (.panicking c) w''
    rw [hq.defers]
    exact hL _ _ _ _ (by simp) hq.low (hz1 _ _ hq.z)
  | outgrown => exact hq.elim
  | goto l => exact hq.elim
  | exit id => exact hq.2.choose_spec.2.elim
  | normal =>
    obtain ⟨_, ρ2, hf2, hq⟩ := hq
    show Leaves P fn a''.tmps R a''.defers .returning w''
    rw [hf2.defers]
    exact hL _ _ _ _ (by simp) (fun t _ => hf2.get t) hq
  | ret =>
    obtain ⟨_, ρ2, hf2, hq⟩ := hq
    show Leaves P fn a''.tmps R a''.defers .returning w''
    rw [hf2.defers]
    exact hL _ _ _ _ (by simp) (fun t _ => hf2.get t) hq

theorem cwD_wp (hm : P.follows .mixedOrders = true) {fn : Func} {lo : Nat} {K : Value → World → Prop} (hrs : rsIn lo fn.results.toList = true) : ∀ (c : Code) {ρ : Env} {w : World} {a : Act},
    servedD H fn.ntmps lo c = true → Fits (Frm.new fn.ntmps) a ρ → cwD P H fn.results.toList K c ρ w → c.wp P (bodyPostD P fn (retP K)) a w := by
  intro c
  induction c with
  | seq x y _ ihy =>
    intro ρ w a hs hf h
    refine wp_seq ?_
    have fin : ∀ {e : Exit} {a' : Act} {w' : World} {ws : List Nat} {Q : Env → World → Prop} (_ : @UpQ _ (Frm.new fn.ntmps) a ws (thenE Q (endQ P fn.results.toList K)) e a' w') (_ : e ≠ .normal), bodyPostD P fn (retP K) e a' w' := by
      intro e a' w' ws Q hq hne
      cases e with
      | normal => exact absurd rfl hne
      | panic c => 
        show Leaves P fn a'.tmps (retP K) a'.defers (.panicking c) w'
        rw [hq.defers]
        exact hq.z
      | outgrown => exact hq.elim
      | goto l => exact hq.elim
      | exit id => exact hq.2.choose_spec.2.elim
      | ret =>
        obtain ⟨_, ρ', hf', hq'⟩ := hq
        show Leaves P fn a'.tmps (retP K) a'.defers .returning w'
        rw [hf'.defers]
        exact leaves_end hf' hq'
    have pn : ∀ c a' w', PZ (Frm.new fn.ntmps) a' c w' → bodyPostD P fn (retP K) (.panic c) a' w' := fun c a' w' hq => by
      show Leaves P fn a'.tmps (retP K) a'.defers (.panicking c) w'
      rw [hq.defers]
      exact hq.z
    have gen : served H (Frm.new fn.ntmps) x = true → servedD H fn.ntmps lo y = true → (match (firstRg y).bind H.cut with
        | none => true
        | some (_, mods) => (writes x).all fun t => mods.testBit t) = true → (match (firstRg y).bind H.cut with
        | none => cw P H x (thenE (fun ρ' w' => cwD P H fn.results.toList K y ρ' w') (endQ P fn.results.toList K)) ρ w
        | some (live, mods) => cutW (fun Q' => cw P H x Q' ρ w) (fun ρ' w' => cwD P H fn.results.toList K y ρ' w') live mods (endQ P fn.results.toList K) ρ) →
        x.wp P (Exit.then (y.wp P (bodyPostD P fn (retP K))) (bodyPostD P fn (retP K))) a w := by
      intro s1 s2 s3 h
      split at h
      · refine wp_mono (cw_wp hm x s1 hf h) fun e a' w' hq => ?_
        cases e with
        | normal =>
          obtain ⟨_, ρ', hf', hq'⟩ := hq
          exact ihy s2 hf' hq'
        | panic c => exact fin hq (by simp)
        | outgrown => exact fin hq (by simp)
        | goto l => exact fin hq (by simp)
        | exit id => exact fin hq (by simp)
        | ret => exact fin hq (by simp)
      · rename_i live mods hcut
        rw [hcut] at s3
        simp only [List.all_eq_true] at s3
        have hmods : ∀ t, mods.testBit t = false → t ∉ writes x := by
          intro t ht hm
          rw [s3 t hm] at ht; cases ht
        obtain ⟨I, hx, hy⟩ := h
        refine wp_mono (cw_wp hm x s1 hf hx) fun e a' w' hq => ?_
        cases e with
        | normal =>
          obtain ⟨hk, ρ', hf', hq'⟩ := hq
          have hy' := allV_get (hy ρ') (live.map ρ') (by simp) w' hq'
          have hme : mkE ρ mods ρ' live (live.map ρ') = ρ' := mkE_self ρ ρ' _ (fun t ht => by rw [← hf'.get t, hk t (hmods t ht), hf.get t]) live
          dsimp only at hy'
          rw [hme] at hy'
          exact ihy s2 hf' hy'
        | panic c => exact fin (Q := fun ρ' w' => apP live.length I (live.map ρ') w') hq (by simp)
        | outgrown => exact fin (Q := fun ρ' w' => apP live.length I (live.map ρ') w') hq (by simp)
        | goto l => exact fin (Q := fun ρ' w' => apP live.length I (live.map ρ') w') hq (by simp)
        | exit id => exact fin (Q := fun ρ' w' => apP live.length I (live.map ρ') w') hq (by simp)
        | ret => exact fin (Q := fun ρ' w' => apP live.length I (live.map ρ') w') hq (by simp)
    cases x with
    | region id ops b =>
      cases b with
      | false =>
        simp only [servedD, Bool.and_eq_true, List.all_eq_true] at hs
        simp only [cwD] at h
        have hlt : ∀ t ∈ opWrites ops.toList, (Frm.new fn.ntmps).lo ≤ t ∧ t < (Frm.new fn.ntmps).n := fun t ht => ⟨Nat.zero_le _, by simpa [Nat.blt_eq] using hs.1 t ht⟩
        cases hdf : isDf ops.toList with
        | true =>
          rw [hdf] at h hs
          refine wp_region_list (rgD_wp ops.toList hdf (fun c a w h => pn c a w h) hlt hf h fun d a' ρ' w' hf' hz => ?_)
          exact cwZ_wp hm (R := retP K) (fun u a ρ w hu hl h => leaves_dE hu hrs hl h) hs.2 hf' hz
        | false =>
          rw [hdf] at h hs
          refine wp_region_list (rgW_wp ops.toList (fun c a w h => pn c a w h) hlt hf h fun a' ρ' w' _ hf' hq => ?_)
          exact ihy hs.2 hf' hq
      | true =>
        simp only [servedD, Bool.and_eq_true] at hs
        simp only [cwD] at h
        exact gen hs.1.1 hs.1.2 hs.2 h
    | _ =>
      simp only [servedD, Bool.and_eq_true] at hs
      simp only [cwD] at h
      exact gen hs.1.1 hs.1.2 hs.2 h
  | _ => intro ρ w a hs; simp [servedD] at hs

theorem calls_of_cwD (hm : P.follows .mixedOrders = true) {f : FuncId} {fn : Func} {c : Code} {args : List Value} {w : World} {K : Value → World → Prop} (lo : Nat)
    (hfn : P.funcs[f]? = some fn) (hb : fn.body = some c) (hs : servedD H fn.ntmps lo c = true) (hrs : rsIn lo fn.results.toList = true) (ha : args.length ≤ fn.ntmps)
    (h : cwD P H fn.results.toList K c (argsE args) w) : Calls P f args.toArray w (retP K) :=
  calls_of_wp_defers hfn hb (cwD_wp hm hrs c hs (fits_new fn.ntmps args ha) h)
end

end Go.Proofs.YteeepkimnpabiaaDoor

namespace Go.Proofs.YteeepkimnpabiaaDoor
open Go
set_option linter.unusedSimpArgs false
set_option linter.unnecessarySimpa false
set_option linter.unusedSectionVars false
set_option linter.unusedVariables false

theorem mixed : Tryd.prog.follows .mixedOrders = true := by kernel_rfl
section
variable [Pan] {w : World} {K : Value → World → Prop} {J : Value → Prop}

theorem un_int : Tryd.prog.underlying 3 = some (.int .i64) := Tryd.underlying3
theorem na_int (w : World) : (isAgg 3).run Tryd.prog w = .ok false w := Tryd.isAgg3 w
theorem sz_int (w : World) : (sizeOf 3).run Tryd.prog w = .ok 1 w := Tryd.sizeOf3 w
theorem zv_int (w : World) : (zeroValue 3).run Tryd.prog w = .ok (.int .i64 0) w := Tryd.zeroValue3 w
theorem un_bool : Tryd.prog.underlying 4 = some (.bool) := Tryd.underlying4
theorem na_bool (w : World) : (isAgg 4).run Tryd.prog w = .ok false w := Tryd.isAgg4 w
theorem sz_bool (w : World) : (sizeOf 4).run Tryd.prog w = .ok 1 w := Tryd.sizeOf4 w
theorem zv_bool (w : World) : (zeroValue 4).run Tryd.prog w = .ok (.bool false) w := Tryd.zeroValue4 w
theorem un_uint8 : Tryd.prog.underlying 5 = some (.int .u8) := Tryd.underlying5
theorem na_uint8 (w : World) : (isAgg 5).run Tryd.prog w = .ok false w := Tryd.isAgg5 w
theorem sz_uint8 (w : World) : (sizeOf 5).run Tryd.prog w = .ok 1 w := Tryd.sizeOf5 w
theorem zv_uint8 (w : World) : (zeroValue 5).run Tryd.prog w = .ok (.int .u8 0) w := Tryd.zeroValue5 w
theorem un_string : Tryd.prog.underlying 9 = some (.string) := Tryd.underlying9
theorem na_string (w : World) : (isAgg 9).run Tryd.prog w = .ok false w := Tryd.isAgg9 w
theorem sz_string (w : World) : (sizeOf 9).run Tryd.prog w = .ok 1 w := Tryd.sizeOf9 w
theorem zv_string (w : World) : (zeroValue 9).run Tryd.prog w = .ok (.string ⟨#[]⟩) w := Tryd.zeroValue9 w
theorem un_sl_uint8 : Tryd.prog.underlying 22 = some (.slice 5) := Tryd.underlying22
theorem na_sl_uint8 (w : World) : (isAgg 22).run Tryd.prog w = .ok false w := Tryd.isAgg22 w
theorem sz_sl_uint8 (w : World) : (sizeOf 22).run Tryd.prog w = .ok 1 w := Tryd.sizeOf22 w
theorem zv_sl_uint8 (w : World) : (zeroValue 22).run Tryd.prog w = .ok (.slice none 0 0) w := Tryd.zeroValue22 w
theorem ag_api_Item (w : World) : (isAgg 24).run Tryd.prog w = .ok true w := Tryd.isAgg24 w
theorem sz_api_Item (w : World) : (sizeOf 24).run Tryd.prog w = .ok 6 w := Tryd.sizeOf24 w
theorem zv_api_Item (w : World) : (zeroValue 24).run Tryd.prog w = .ok (.agg #[(.string ⟨#[]⟩), (.string ⟨#[]⟩), (.int .i64 0), (.int .i64 0), (.int .i64 0), (.slice none 0 0)]) w := Tryd.zeroValue24 w
theorem un_api_Errno : Tryd.prog.underlying 25 = some (.int .i64) := Tryd.underlying25
theorem na_api_Errno (w : World) : (isAgg 25).run Tryd.prog w = .ok false w := Tryd.isAgg25 w
theorem sz_api_Errno (w : World) : (sizeOf 25).run Tryd.prog w = .ok 1 w := Tryd.sizeOf25 w
theorem zv_api_Errno (w : World) : (zeroValue 25).run Tryd.prog w = .ok (.int .i64 0) w := Tryd.zeroValue25 w
theorem un_sl_api_Item : Tryd.prog.underlying 34 = some (.slice 24) := Tryd.underlying34
theorem na_sl_api_Item (w : World) : (isAgg 34).run Tryd.prog w = .ok false w := Tryd.isAgg34 w
theorem sz_sl_api_Item (w : World) : (sizeOf 34).run Tryd.prog w = .ok 1 w := Tryd.sizeOf34 w
theorem zv_sl_api_Item (w : World) : (zeroValue 34).run Tryd.prog w = .ok (.slice none 0 0) w := Tryd.zeroValue34 w
theorem na_iter_Seq2arrapi_Item__api_Errno_ (w : World) : (isAgg 51).run Tryd.prog w = .ok false w := Tryd.isAgg51 w
theorem sz_iter_Seq2arrapi_Item__api_Errno_ (w : World) : (sizeOf 51).run Tryd.prog w = .ok 1 w := Tryd.sizeOf51 w
theorem zv_iter_Seq2arrapi_Item__api_Errno_ (w : World) : (zeroValue 51).run Tryd.prog w = .ok .nilFunc w := Tryd.zeroValue51 w
theorem un_sl_int : Tryd.prog.underlying 54 = some (.slice 3) := Tryd.underlying54
theorem na_sl_int (w : World) : (isAgg 54).run Tryd.prog w = .ok false w := Tryd.isAgg54 w
theorem sz_sl_int (w : World) : (sizeOf 54).run Tryd.prog w = .ok 1 w := Tryd.sizeOf54 w
theorem zv_sl_int (w : World) : (zeroValue 54).run Tryd.prog w = .ok (.slice none 0 0) w := Tryd.zeroValue54 w
theorem un_sl_sl_uint8 : Tryd.prog.underlying 57 = some (.slice 22) := Tryd.underlying57
theorem na_sl_sl_uint8 (w : World) : (isAgg 57).run Tryd.prog w = .ok false w := Tryd.isAgg57 w
theorem sz_sl_sl_uint8 (w : World) : (sizeOf 57).run Tryd.prog w = .ok 1 w := Tryd.sizeOf57 w
theorem zv_sl_sl_uint8 (w : World) : (zeroValue 57).run Tryd.prog w = .ok (.slice none 0 0) w := Tryd.zeroValue57 w
theorem un_sl_string : Tryd.prog.underlying 58 = some (.slice 9) := Tryd.underlying58
theorem na_sl_string (w : World) : (isAgg 58).run Tryd.prog w = .ok false w := Tryd.isAgg58 w
theorem sz_sl_string (w : World) : (sizeOf 58).run Tryd.prog w = .ok 1 w := Tryd.sizeOf58 w
theorem zv_sl_string (w : World) : (zeroValue 58).run Tryd.prog w = .ok (.slice none 0 0) w := Tryd.zeroValue58 w
theorem na_func_sl_uint8_ (w : World) : (isAgg 59).run Tryd.prog w = .ok false w := Tryd.isAgg59 w
theorem sz_func_sl_uint8_ (w : World) : (sizeOf 59).run Tryd.prog w = .ok 1 w := Tryd.sizeOf59 w
theorem zv_func_sl_uint8_ (w : World) : (zeroValue 59).run Tryd.prog w = .ok .nilFunc w := Tryd.zeroValue59 w
theorem ag_tar_head (w : World) : (isAgg 65).run Tryd.prog w = .ok true w := Tryd.isAgg65 w
theorem sz_tar_head (w : World) : (sizeOf 65).run Tryd.prog w = .ok 7 w := Tryd.sizeOf65 w
theorem zv_tar_head (w : World) : (zeroValue 65).run Tryd.prog w = .ok (.agg #[(.string ⟨#[]⟩), (.string ⟨#[]⟩), (.int .i64 0), (.int .i64 0), (.int .i64 0), (.slice none 0 0), (.int .i64 0)]) w := Tryd.zeroValue65 w
theorem un_sl_tar_field : Tryd.prog.underlying 69 = some (.slice 73) := Tryd.underlying69
theorem na_sl_tar_field (w : World) : (isAgg 69).run Tryd.prog w = .ok false w := Tryd.isAgg69 w
theorem sz_sl_tar_field (w : World) : (sizeOf 69).run Tryd.prog w = .ok 1 w := Tryd.sizeOf69 w
theorem zv_sl_tar_field (w : World) : (zeroValue 69).run Tryd.prog w = .ok (.slice none 0 0) w := Tryd.zeroValue69 w
theorem na_func_sl_uint8__p_tar_head_ (w : World) : (isAgg 71).run Tryd.prog w = .ok false w := Tryd.isAgg71 w
theorem sz_func_sl_uint8__p_tar_head_ (w : World) : (sizeOf 71).run Tryd.prog w = .ok 1 w := Tryd.sizeOf71 w
theorem zv_func_sl_uint8__p_tar_head_ (w : World) : (zeroValue 71).run Tryd.prog w = .ok .nilFunc w := Tryd.zeroValue71 w
theorem ag_tar_field (w : World) : (isAgg 73).run Tryd.prog w = .ok true w := Tryd.isAgg73 w
theorem sz_tar_field (w : World) : (sizeOf 73).run Tryd.prog w = .ok 4 w := Tryd.sizeOf73 w
theorem zv_tar_field (w : World) : (zeroValue 73).run Tryd.prog w = .ok (.agg #[(.int .i64 0), (.int .i64 0), .nilFunc, .nilFunc]) w := Tryd.zeroValue73 w
theorem ag_pithlaw33_Room (w : World) : (isAgg 75).run Tryd.prog w = .ok true w := Tryd.isAgg75 w
theorem sz_pithlaw33_Room (w : World) : (sizeOf 75).run Tryd.prog w = .ok 2 w := Tryd.sizeOf75 w
theorem zv_pithlaw33_Room (w : World) : (zeroValue 75).run Tryd.prog w = .ok (.agg #[(.slice none 0 0), (.slice none 0 0)]) w := Tryd.zeroValue75 w
theorem un_bytes_asciiSet : Tryd.prog.underlying 100 = some (.array 256 4) := Tryd.underlying100
theorem ag_bytes_asciiSet (w : World) : (isAgg 100).run Tryd.prog w = .ok true w := Tryd.isAgg100 w
theorem sz_bytes_asciiSet (w : World) : (sizeOf 100).run Tryd.prog w = .ok 256 w := Tryd.sizeOf100 w
theorem ag_unicode_utf8_acceptRange (w : World) : (isAgg 116).run Tryd.prog w = .ok true w := Tryd.isAgg116 w
theorem sz_unicode_utf8_acceptRange (w : World) : (sizeOf 116).run Tryd.prog w = .ok 2 w := Tryd.sizeOf116 w
theorem zv_unicode_utf8_acceptRange (w : World) : (zeroValue 116).run Tryd.prog w = .ok (.agg #[(.int .u8 0), (.int .u8 0)]) w := Tryd.zeroValue116 w
theorem un_arr16_utf8_acceptRange : Tryd.prog.underlying 117 = some (.array 16 116) := Tryd.underlying117
theorem ag_arr16_utf8_acceptRange (w : World) : (isAgg 117).run Tryd.prog w = .ok true w := Tryd.isAgg117 w
theorem sz_arr16_utf8_acceptRange (w : World) : (sizeOf 117).run Tryd.prog w = .ok 32 w := Tryd.sizeOf117 w
theorem zv_arr16_utf8_acceptRange (w : World) : (zeroValue 117).run Tryd.prog w = .ok (.agg #[(.int .u8 0), (.int .u8 0), (.int .u8 0), (.int .u8 0), (.int .u8 0), (.int .u8 0), (.int .u8 0), (.int .u8 0), (.int .u8 0), (.int .u8 0), (.int .u8 0), (.int .u8 0), (.int .u8 0), (.int .u8 0), (.int .u8 0), (.int .u8 0), (.int .u8 0), (.int .u8 0), (.int .u8 0), (.int .u8 0), (.int .u8 0), (.int .u8 0), (.int .u8 0), (.int .u8 0), (.int .u8 0), (.int .u8 0), (.int .u8 0), (.int .u8 0), (.int .u8 0), (.int .u8 0), (.int .u8 0), (.int .u8 0)]) w := Tryd.zeroValue117 w
theorem st_sl_uint8 : SlT Tryd.prog 22 5 (.int .u8 0) 1 1 := ⟨Tryd.underlying22, info_parts (by kernel_rfl), rfl, by decide⟩
theorem st_sl_api_Item : SlT Tryd.prog 34 24 (.agg #[(.string ⟨#[]⟩), (.string ⟨#[]⟩), (.int .i64 0), (.int .i64 0), (.int .i64 0), (.slice none 0 0)]) 6 80 := ⟨Tryd.underlying34, info_parts (by kernel_rfl), rfl, by decide⟩
theorem st_sl_int : SlT Tryd.prog 54 3 (.int .i64 0) 1 8 := ⟨Tryd.underlying54, info_parts (by kernel_rfl), rfl, by decide⟩
theorem st_sl_sl_uint8 : SlT Tryd.prog 57 22 (.slice none 0 0) 1 24 := ⟨Tryd.underlying57, info_parts (by kernel_rfl), rfl, by decide⟩
theorem st_sl_string : SlT Tryd.prog 58 9 (.string ⟨#[]⟩) 1 16 := ⟨Tryd.underlying58, info_parts (by kernel_rfl), rfl, by decide⟩
theorem st_sl_tar_field : SlT Tryd.prog 69 73 (.agg #[(.int .i64 0), (.int .i64 0), .nilFunc, .nilFunc]) 4 32 := ⟨Tryd.underlying69, info_parts (by kernel_rfl), rfl, by decide⟩
theorem pN_conv_int_uint8 (k : IntKind) (n : Int) : pN Tryd.prog (oConv 3 5 (.int k n)) w K = K (.int .u8 (IntKind.wrap .u8 n)) w := pN_conv k n Tryd.underlying3 Tryd.underlying5
theorem pA_conv_int_uint8 (k : IntKind) (n : Int) : pA Tryd.prog (oConv 3 5 (.int k n)) J = J (.int .u8 (IntKind.wrap .u8 n)) := pA_conv k n Tryd.underlying3 Tryd.underlying5
theorem pL_conv_int_uint8 (k : IntKind) (n : Int) : pL Tryd.prog (oConv 3 5 (.int k n)) w J = J (.int .u8 (IntKind.wrap .u8 n)) := pL_conv k n Tryd.underlying3 Tryd.underlying5
theorem pN_conv_uint8_int (k : IntKind) (n : Int) : pN Tryd.prog (oConv 5 3 (.int k n)) w K = K (.int .i64 (IntKind.wrap .i64 n)) w := pN_conv k n Tryd.underlying5 Tryd.underlying3
theorem pA_conv_uint8_int (k : IntKind) (n : Int) : pA Tryd.prog (oConv 5 3 (.int k n)) J = J (.int .i64 (IntKind.wrap .i64 n)) := pA_conv k n Tryd.underlying5 Tryd.underlying3
theorem pL_conv_uint8_int (k : IntKind) (n : Int) : pL Tryd.prog (oConv 5 3 (.int k n)) w J = J (.int .i64 (IntKind.wrap .i64 n)) := pL_conv k n Tryd.underlying5 Tryd.underlying3
theorem pN_conv_uint8_int32 (k : IntKind) (n : Int) : pN Tryd.prog (oConv 5 21 (.int k n)) w K = K (.int .i32 (IntKind.wrap .i32 n)) w := pN_conv k n Tryd.underlying5 Tryd.underlying21
theorem pA_conv_uint8_int32 (k : IntKind) (n : Int) : pA Tryd.prog (oConv 5 21 (.int k n)) J = J (.int .i32 (IntKind.wrap .i32 n)) := pA_conv k n Tryd.underlying5 Tryd.underlying21
theorem pL_conv_uint8_int32 (k : IntKind) (n : Int) : pL Tryd.prog (oConv 5 21 (.int k n)) w J = J (.int .i32 (IntKind.wrap .i32 n)) := pL_conv k n Tryd.underlying5 Tryd.underlying21
theorem run_str_sl_uint8 {v : Value} {n : Nat} {l : List UInt8} (hr : Rd w 1 v n (bvs l)) : (oConv 22 9 v).run Tryd.prog w = .ok (.value (.string ⟨l.toArray⟩)) w := run_str Tryd.underlying22 Tryd.underlying5 Tryd.underlying9 hr.len
theorem pN_str_sl_uint8 {v : Value} {n : Nat} {l : List UInt8} (hr : Rd w 1 v n (bvs l)) : pN Tryd.prog (oConv 22 9 v) w K = K (.string ⟨l.toArray⟩) w := by rw [pN_def, run_str_sl_uint8 hr, rN_value]
theorem pL_str_sl_uint8 {v : Value} {n : Nat} {l : List UInt8} (hr : Rd w 1 v n (bvs l)) : pL Tryd.prog (oConv 22 9 v) w J = J (.string ⟨l.toArray⟩) := by rw [pL_def, run_str_sl_uint8 hr, rL_value]
theorem pN_len_sl_uint8 (ty : TypeId) (ao : Option Addr) (n c : Nat) (cs : List Bool) : pN Tryd.prog (oBi .len #[22] ty cs [.slice ao n c]) w K = K (.int .i64 n) w := pN_len 22 ty ao n c cs Tryd.underlying22
theorem pA_len_sl_uint8 (ty : TypeId) (ao : Option Addr) (n c : Nat) (cs : List Bool) : pA Tryd.prog (oBi .len #[22] ty cs [.slice ao n c]) J = J (.int .i64 n) := pA_len 22 ty ao n c cs Tryd.underlying22
theorem pN_len_sl_uint8_rd {v : Value} (ty : TypeId) {n s : Nat} {xs : List Value} (cs : List Bool) (hr : Rd w s v n xs) : pN Tryd.prog (oBi .len #[22] ty cs [v]) w K = K (.int .i64 n) w := by obtain ⟨_, ao, cap, rfl, _⟩ := hr; exact pN_len_sl_uint8 ty ao n cap cs
theorem pA_len_sl_uint8_rd {v : Value} (ty : TypeId) {n s : Nat} {xs : List Value} (cs : List Bool) (hr : Rd w s v n xs) : pA Tryd.prog (oBi .len #[22] ty cs [v]) J = J (.int .i64 n) := by obtain ⟨_, ao, cap, rfl, _⟩ := hr; exact pA_len_sl_uint8 ty ao n cap cs
theorem pN_len_sl_api_Item (ty : TypeId) (ao : Option Addr) (n c : Nat) (cs : List Bool) : pN Tryd.prog (oBi .len #[34] ty cs [.slice ao n c]) w K = K (.int .i64 n) w := pN_len 34 ty ao n c cs Tryd.underlying34
theorem pA_len_sl_api_Item (ty : TypeId) (ao : Option Addr) (n c : Nat) (cs : List Bool) : pA Tryd.prog (oBi .len #[34] ty cs [.slice ao n c]) J = J (.int .i64 n) := pA_len 34 ty ao n c cs Tryd.underlying34
theorem pN_len_sl_api_Item_rd {v : Value} (ty : TypeId) {n s : Nat} {xs : List Value} (cs : List Bool) (hr : Rd w s v n xs) : pN Tryd.prog (oBi .len #[34] ty cs [v]) w K = K (.int .i64 n) w := by obtain ⟨_, ao, cap, rfl, _⟩ := hr; exact pN_len_sl_api_Item ty ao n cap cs
theorem pA_len_sl_api_Item_rd {v : Value} (ty : TypeId) {n s : Nat} {xs : List Value} (cs : List Bool) (hr : Rd w s v n xs) : pA Tryd.prog (oBi .len #[34] ty cs [v]) J = J (.int .i64 n) := by obtain ⟨_, ao, cap, rfl, _⟩ := hr; exact pA_len_sl_api_Item ty ao n cap cs
theorem pN_len_sl_int (ty : TypeId) (ao : Option Addr) (n c : Nat) (cs : List Bool) : pN Tryd.prog (oBi .len #[54] ty cs [.slice ao n c]) w K = K (.int .i64 n) w := pN_len 54 ty ao n c cs Tryd.underlying54
theorem pA_len_sl_int (ty : TypeId) (ao : Option Addr) (n c : Nat) (cs : List Bool) : pA Tryd.prog (oBi .len #[54] ty cs [.slice ao n c]) J = J (.int .i64 n) := pA_len 54 ty ao n c cs Tryd.underlying54
theorem pN_len_sl_int_rd {v : Value} (ty : TypeId) {n s : Nat} {xs : List Value} (cs : List Bool) (hr : Rd w s v n xs) : pN Tryd.prog (oBi .len #[54] ty cs [v]) w K = K (.int .i64 n) w := by obtain ⟨_, ao, cap, rfl, _⟩ := hr; exact pN_len_sl_int ty ao n cap cs
theorem pA_len_sl_int_rd {v : Value} (ty : TypeId) {n s : Nat} {xs : List Value} (cs : List Bool) (hr : Rd w s v n xs) : pA Tryd.prog (oBi .len #[54] ty cs [v]) J = J (.int .i64 n) := by obtain ⟨_, ao, cap, rfl, _⟩ := hr; exact pA_len_sl_int ty ao n cap cs
theorem pN_len_sl_sl_uint8 (ty : TypeId) (ao : Option Addr) (n c : Nat) (cs : List Bool) : pN Tryd.prog (oBi .len #[57] ty cs [.slice ao n c]) w K = K (.int .i64 n) w := pN_len 57 ty ao n c cs Tryd.underlying57
theorem pA_len_sl_sl_uint8 (ty : TypeId) (ao : Option Addr) (n c : Nat) (cs : List Bool) : pA Tryd.prog (oBi .len #[57] ty cs [.slice ao n c]) J = J (.int .i64 n) := pA_len 57 ty ao n c cs Tryd.underlying57
theorem pN_len_sl_sl_uint8_rd {v : Value} (ty : TypeId) {n s : Nat} {xs : List Value} (cs : List Bool) (hr : Rd w s v n xs) : pN Tryd.prog (oBi .len #[57] ty cs [v]) w K = K (.int .i64 n) w := by obtain ⟨_, ao, cap, rfl, _⟩ := hr; exact pN_len_sl_sl_uint8 ty ao n cap cs
theorem pA_len_sl_sl_uint8_rd {v : Value} (ty : TypeId) {n s : Nat} {xs : List Value} (cs : List Bool) (hr : Rd w s v n xs) : pA Tryd.prog (oBi .len #[57] ty cs [v]) J = J (.int .i64 n) := by obtain ⟨_, ao, cap, rfl, _⟩ := hr; exact pA_len_sl_sl_uint8 ty ao n cap cs
theorem pN_len_sl_tar_field (ty : TypeId) (ao : Option Addr) (n c : Nat) (cs : List Bool) : pN Tryd.prog (oBi .len #[69] ty cs [.slice ao n c]) w K = K (.int .i64 n) w := pN_len 69 ty ao n c cs Tryd.underlying69
theorem pA_len_sl_tar_field (ty : TypeId) (ao : Option Addr) (n c : Nat) (cs : List Bool) : pA Tryd.prog (oBi .len #[69] ty cs [.slice ao n c]) J = J (.int .i64 n) := pA_len 69 ty ao n c cs Tryd.underlying69
theorem pN_len_sl_tar_field_rd {v : Value} (ty : TypeId) {n s : Nat} {xs : List Value} (cs : List Bool) (hr : Rd w s v n xs) : pN Tryd.prog (oBi .len #[69] ty cs [v]) w K = K (.int .i64 n) w := by obtain ⟨_, ao, cap, rfl, _⟩ := hr; exact pN_len_sl_tar_field ty ao n cap cs
theorem pA_len_sl_tar_field_rd {v : Value} (ty : TypeId) {n s : Nat} {xs : List Value} (cs : List Bool) (hr : Rd w s v n xs) : pA Tryd.prog (oBi .len #[69] ty cs [v]) J = J (.int .i64 n) := by obtain ⟨_, ao, cap, rfl, _⟩ := hr; exact pA_len_sl_tar_field ty ao n cap cs
theorem pN_aidx_bytes_asciiSet (b o : Nat) (k : IntKind) (i : Int) (h0 : 0 ≤ i) (h1 : i < 256) : pN Tryd.prog (oIdx 100 (.pointer (some ⟨b, o, none⟩)) (.int k i)) w K = K (.pointer (some ⟨b, o + i.toNat, none⟩)) w := pN_aidx Tryd.underlying100 Tryd.sizeOf4 b o k i h0 h1
theorem pA_aidx_bytes_asciiSet (b o : Nat) (k : IntKind) (i : Int) (h0 : 0 ≤ i) (h1 : i < 256) : pA Tryd.prog (oIdx 100 (.pointer (some ⟨b, o, none⟩)) (.int k i)) J = J (.pointer (some ⟨b, o + i.toNat, none⟩)) := pA_aidx Tryd.underlying100 Tryd.sizeOf4 b o k i h0 h1
theorem pN_aidx_arr256_uint8 (b o : Nat) (k : IntKind) (i : Int) (h0 : 0 ≤ i) (h1 : i < 256) : pN Tryd.prog (oIdx 114 (.pointer (some ⟨b, o, none⟩)) (.int k i)) w K = K (.pointer (some ⟨b, o + i.toNat, none⟩)) w := pN_aidx Tryd.underlying114 Tryd.sizeOf5 b o k i h0 h1
theorem pA_aidx_arr256_uint8 (b o : Nat) (k : IntKind) (i : Int) (h0 : 0 ≤ i) (h1 : i < 256) : pA Tryd.prog (oIdx 114 (.pointer (some ⟨b, o, none⟩)) (.int k i)) J = J (.pointer (some ⟨b, o + i.toNat, none⟩)) := pA_aidx Tryd.underlying114 Tryd.sizeOf5 b o k i h0 h1
theorem pN_eqlb_bool (xo yo : Operand) (p q : Bool) : pN Tryd.prog (oBin .eql 4 xo yo (.bool p) (.bool q)) w K = K (.bool (p == q)) w := pN_eql_bool 4 xo yo p q Tryd.underlying4
theorem pA_eqlb_bool (xo yo : Operand) (p q : Bool) : pA Tryd.prog (oBin .eql 4 xo yo (.bool p) (.bool q)) J = J (.bool (p == q)) := pA_eql_bool 4 xo yo p q Tryd.underlying4
theorem pN_neqb_bool (xo yo : Operand) (p q : Bool) : pN Tryd.prog (oBin .neq 4 xo yo (.bool p) (.bool q)) w K = K (.bool (p != q)) w := pN_neq_bool 4 xo yo p q Tryd.underlying4
theorem pA_neqb_bool (xo yo : Operand) (p q : Bool) : pA Tryd.prog (oBin .neq 4 xo yo (.bool p) (.bool q)) J = J (.bool (p != q)) := pA_neq_bool 4 xo yo p q Tryd.underlying4
theorem run_fld_api_Item_Name (b o : Nat) (w : World) : (oFld 24 (.pointer (some ⟨b, o, none⟩)) 0).run Tryd.prog w = .ok (.value (.pointer (some ⟨b, o, none⟩))) w := by kernel_rfl
theorem pN_fld_api_Item_Name (b o : Nat) : pN Tryd.prog (oFld 24 (.pointer (some ⟨b, o, none⟩)) 0) w K = K (.pointer (some ⟨b, o, none⟩)) w := by rw [pN_def, run_fld_api_Item_Name, rN_value]
theorem pA_fld_api_Item_Name (b o : Nat) : pA Tryd.prog (oFld 24 (.pointer (some ⟨b, o, none⟩)) 0) J = J (.pointer (some ⟨b, o, none⟩)) := by rw [pA_def, funext (run_fld_api_Item_Name b o), rA_value]
theorem run_fld_api_Item_Link (b o : Nat) (w : World) : (oFld 24 (.pointer (some ⟨b, o, none⟩)) 1).run Tryd.prog w = .ok (.value (.pointer (some ⟨b, o + 1, none⟩))) w := by kernel_rfl
theorem pN_fld_api_Item_Link (b o : Nat) : pN Tryd.prog (oFld 24 (.pointer (some ⟨b, o, none⟩)) 1) w K = K (.pointer (some ⟨b, o + 1, none⟩)) w := by rw [pN_def, run_fld_api_Item_Link, rN_value]
theorem pA_fld_api_Item_Link (b o : Nat) : pA Tryd.prog (oFld 24 (.pointer (some ⟨b, o, none⟩)) 1) J = J (.pointer (some ⟨b, o + 1, none⟩)) := by rw [pA_def, funext (run_fld_api_Item_Link b o), rA_value]
theorem run_fld_api_Item_Kind (b o : Nat) (w : World) : (oFld 24 (.pointer (some ⟨b, o, none⟩)) 2).run Tryd.prog w = .ok (.value (.pointer (some ⟨b, o + 2, none⟩))) w := by kernel_rfl
theorem pN_fld_api_Item_Kind (b o : Nat) : pN Tryd.prog (oFld 24 (.pointer (some ⟨b, o, none⟩)) 2) w K = K (.pointer (some ⟨b, o + 2, none⟩)) w := by rw [pN_def, run_fld_api_Item_Kind, rN_value]
theorem pA_fld_api_Item_Kind (b o : Nat) : pA Tryd.prog (oFld 24 (.pointer (some ⟨b, o, none⟩)) 2) J = J (.pointer (some ⟨b, o + 2, none⟩)) := by rw [pA_def, funext (run_fld_api_Item_Kind b o), rA_value]
theorem run_fld_api_Item_Mode (b o : Nat) (w : World) : (oFld 24 (.pointer (some ⟨b, o, none⟩)) 3).run Tryd.prog w = .ok (.value (.pointer (some ⟨b, o + 3, none⟩))) w := by kernel_rfl
theorem pN_fld_api_Item_Mode (b o : Nat) : pN Tryd.prog (oFld 24 (.pointer (some ⟨b, o, none⟩)) 3) w K = K (.pointer (some ⟨b, o + 3, none⟩)) w := by rw [pN_def, run_fld_api_Item_Mode, rN_value]
theorem pA_fld_api_Item_Mode (b o : Nat) : pA Tryd.prog (oFld 24 (.pointer (some ⟨b, o, none⟩)) 3) J = J (.pointer (some ⟨b, o + 3, none⟩)) := by rw [pA_def, funext (run_fld_api_Item_Mode b o), rA_value]
theorem run_fld_api_Item_Time (b o : Nat) (w : World) : (oFld 24 (.pointer (some ⟨b, o, none⟩)) 4).run Tryd.prog w = .ok (.value (.pointer (some ⟨b, o + 4, none⟩))) w := by kernel_rfl
theorem pN_fld_api_Item_Time (b o : Nat) : pN Tryd.prog (oFld 24 (.pointer (some ⟨b, o, none⟩)) 4) w K = K (.pointer (some ⟨b, o + 4, none⟩)) w := by rw [pN_def, run_fld_api_Item_Time, rN_value]
theorem pA_fld_api_Item_Time (b o : Nat) : pA Tryd.prog (oFld 24 (.pointer (some ⟨b, o, none⟩)) 4) J = J (.pointer (some ⟨b, o + 4, none⟩)) := by rw [pA_def, funext (run_fld_api_Item_Time b o), rA_value]
theorem run_fld_api_Item_Data (b o : Nat) (w : World) : (oFld 24 (.pointer (some ⟨b, o, none⟩)) 5).run Tryd.prog w = .ok (.value (.pointer (some ⟨b, o + 5, none⟩))) w := by kernel_rfl
theorem pN_fld_api_Item_Data (b o : Nat) : pN Tryd.prog (oFld 24 (.pointer (some ⟨b, o, none⟩)) 5) w K = K (.pointer (some ⟨b, o + 5, none⟩)) w := by rw [pN_def, run_fld_api_Item_Data, rN_value]
theorem pA_fld_api_Item_Data (b o : Nat) : pA Tryd.prog (oFld 24 (.pointer (some ⟨b, o, none⟩)) 5) J = J (.pointer (some ⟨b, o + 5, none⟩)) := by rw [pA_def, funext (run_fld_api_Item_Data b o), rA_value]
theorem run_fld_tar_head_Item (b o : Nat) (w : World) : (oFld 65 (.pointer (some ⟨b, o, none⟩)) 0).run Tryd.prog w = .ok (.value (.pointer (some ⟨b, o, none⟩))) w := by kernel_rfl
theorem pN_fld_tar_head_Item (b o : Nat) : pN Tryd.prog (oFld 65 (.pointer (some ⟨b, o, none⟩)) 0) w K = K (.pointer (some ⟨b, o, none⟩)) w := by rw [pN_def, run_fld_tar_head_Item, rN_value]
theorem pA_fld_tar_head_Item (b o : Nat) : pA Tryd.prog (oFld 65 (.pointer (some ⟨b, o, none⟩)) 0) J = J (.pointer (some ⟨b, o, none⟩)) := by rw [pA_def, funext (run_fld_tar_head_Item b o), rA_value]
theorem run_fld_tar_head_size (b o : Nat) (w : World) : (oFld 65 (.pointer (some ⟨b, o, none⟩)) 1).run Tryd.prog w = .ok (.value (.pointer (some ⟨b, o + 6, none⟩))) w := by kernel_rfl
theorem pN_fld_tar_head_size (b o : Nat) : pN Tryd.prog (oFld 65 (.pointer (some ⟨b, o, none⟩)) 1) w K = K (.pointer (some ⟨b, o + 6, none⟩)) w := by rw [pN_def, run_fld_tar_head_size, rN_value]
theorem pA_fld_tar_head_size (b o : Nat) : pA Tryd.prog (oFld 65 (.pointer (some ⟨b, o, none⟩)) 1) J = J (.pointer (some ⟨b, o + 6, none⟩)) := by rw [pA_def, funext (run_fld_tar_head_size b o), rA_value]
theorem run_fld_tar_field_at (b o : Nat) (w : World) : (oFld 73 (.pointer (some ⟨b, o, none⟩)) 0).run Tryd.prog w = .ok (.value (.pointer (some ⟨b, o, none⟩))) w := by kernel_rfl
theorem pN_fld_tar_field_at (b o : Nat) : pN Tryd.prog (oFld 73 (.pointer (some ⟨b, o, none⟩)) 0) w K = K (.pointer (some ⟨b, o, none⟩)) w := by rw [pN_def, run_fld_tar_field_at, rN_value]
theorem pA_fld_tar_field_at (b o : Nat) : pA Tryd.prog (oFld 73 (.pointer (some ⟨b, o, none⟩)) 0) J = J (.pointer (some ⟨b, o, none⟩)) := by rw [pA_def, funext (run_fld_tar_field_at b o), rA_value]
theorem run_fld_tar_field_n (b o : Nat) (w : World) : (oFld 73 (.pointer (some ⟨b, o, none⟩)) 1).run Tryd.prog w = .ok (.value (.pointer (some ⟨b, o + 1, none⟩))) w := by kernel_rfl
theorem pN_fld_tar_field_n (b o : Nat) : pN Tryd.prog (oFld 73 (.pointer (some ⟨b, o, none⟩)) 1) w K = K (.pointer (some ⟨b, o + 1, none⟩)) w := by rw [pN_def, run_fld_tar_field_n, rN_value]
theorem pA_fld_tar_field_n (b o : Nat) : pA Tryd.prog (oFld 73 (.pointer (some ⟨b, o, none⟩)) 1) J = J (.pointer (some ⟨b, o + 1, none⟩)) := by rw [pA_def, funext (run_fld_tar_field_n b o), rA_value]
theorem run_fld_tar_field_write (b o : Nat) (w : World) : (oFld 73 (.pointer (some ⟨b, o, none⟩)) 2).run Tryd.prog w = .ok (.value (.pointer (some ⟨b, o + 2, none⟩))) w := by kernel_rfl
theorem pN_fld_tar_field_write (b o : Nat) : pN Tryd.prog (oFld 73 (.pointer (some ⟨b, o, none⟩)) 2) w K = K (.pointer (some ⟨b, o + 2, none⟩)) w := by rw [pN_def, run_fld_tar_field_write, rN_value]
theorem pA_fld_tar_field_write (b o : Nat) : pA Tryd.prog (oFld 73 (.pointer (some ⟨b, o, none⟩)) 2) J = J (.pointer (some ⟨b, o + 2, none⟩)) := by rw [pA_def, funext (run_fld_tar_field_write b o), rA_value]
theorem run_fld_tar_field_read (b o : Nat) (w : World) : (oFld 73 (.pointer (some ⟨b, o, none⟩)) 3).run Tryd.prog w = .ok (.value (.pointer (some ⟨b, o + 3, none⟩))) w := by kernel_rfl
theorem pN_fld_tar_field_read (b o : Nat) : pN Tryd.prog (oFld 73 (.pointer (some ⟨b, o, none⟩)) 3) w K = K (.pointer (some ⟨b, o + 3, none⟩)) w := by rw [pN_def, run_fld_tar_field_read, rN_value]
theorem pA_fld_tar_field_read (b o : Nat) : pA Tryd.prog (oFld 73 (.pointer (some ⟨b, o, none⟩)) 3) J = J (.pointer (some ⟨b, o + 3, none⟩)) := by rw [pA_def, funext (run_fld_tar_field_read b o), rA_value]
theorem run_fld_pithlaw33_Room_L (b o : Nat) (w : World) : (oFld 75 (.pointer (some ⟨b, o, none⟩)) 0).run Tryd.prog w = .ok (.value (.pointer (some ⟨b, o, none⟩))) w := by kernel_rfl
theorem pN_fld_pithlaw33_Room_L (b o : Nat) : pN Tryd.prog (oFld 75 (.pointer (some ⟨b, o, none⟩)) 0) w K = K (.pointer (some ⟨b, o, none⟩)) w := by rw [pN_def, run_fld_pithlaw33_Room_L, rN_value]
theorem pA_fld_pithlaw33_Room_L (b o : Nat) : pA Tryd.prog (oFld 75 (.pointer (some ⟨b, o, none⟩)) 0) J = J (.pointer (some ⟨b, o, none⟩)) := by rw [pA_def, funext (run_fld_pithlaw33_Room_L b o), rA_value]
theorem run_fld_pithlaw33_Room_Full (b o : Nat) (w : World) : (oFld 75 (.pointer (some ⟨b, o, none⟩)) 1).run Tryd.prog w = .ok (.value (.pointer (some ⟨b, o + 1, none⟩))) w := by kernel_rfl
theorem pN_fld_pithlaw33_Room_Full (b o : Nat) : pN Tryd.prog (oFld 75 (.pointer (some ⟨b, o, none⟩)) 1) w K = K (.pointer (some ⟨b, o + 1, none⟩)) w := by rw [pN_def, run_fld_pithlaw33_Room_Full, rN_value]
theorem pA_fld_pithlaw33_Room_Full (b o : Nat) : pA Tryd.prog (oFld 75 (.pointer (some ⟨b, o, none⟩)) 1) J = J (.pointer (some ⟨b, o + 1, none⟩)) := by rw [pA_def, funext (run_fld_pithlaw33_Room_Full b o), rA_value]
theorem run_fld_unicode_utf8_acceptRange_lo (b o : Nat) (w : World) : (oFld 116 (.pointer (some ⟨b, o, none⟩)) 0).run Tryd.prog w = .ok (.value (.pointer (some ⟨b, o, none⟩))) w := by kernel_rfl
theorem pN_fld_unicode_utf8_acceptRange_lo (b o : Nat) : pN Tryd.prog (oFld 116 (.pointer (some ⟨b, o, none⟩)) 0) w K = K (.pointer (some ⟨b, o, none⟩)) w := by rw [pN_def, run_fld_unicode_utf8_acceptRange_lo, rN_value]
theorem pA_fld_unicode_utf8_acceptRange_lo (b o : Nat) : pA Tryd.prog (oFld 116 (.pointer (some ⟨b, o, none⟩)) 0) J = J (.pointer (some ⟨b, o, none⟩)) := by rw [pA_def, funext (run_fld_unicode_utf8_acceptRange_lo b o), rA_value]
theorem run_fld_unicode_utf8_acceptRange_hi (b o : Nat) (w : World) : (oFld 116 (.pointer (some ⟨b, o, none⟩)) 1).run Tryd.prog w = .ok (.value (.pointer (some ⟨b, o + 1, none⟩))) w := by kernel_rfl
theorem pN_fld_unicode_utf8_acceptRange_hi (b o : Nat) : pN Tryd.prog (oFld 116 (.pointer (some ⟨b, o, none⟩)) 1) w K = K (.pointer (some ⟨b, o + 1, none⟩)) w := by rw [pN_def, run_fld_unicode_utf8_acceptRange_hi, rN_value]
theorem pA_fld_unicode_utf8_acceptRange_hi (b o : Nat) : pA Tryd.prog (oFld 116 (.pointer (some ⟨b, o, none⟩)) 1) J = J (.pointer (some ⟨b, o + 1, none⟩)) := by rw [pA_def, funext (run_fld_unicode_utf8_acceptRange_hi b o), rA_value]
theorem call_pithlaw33_TarTold (args : Array Value) (w : World) : (callFunc 3 args).run Tryd.prog w = .ok (.enter 3 args) w := Tryd.call3 args w
theorem call_pithlaw33_TarExact (args : Array Value) (w : World) : (callFunc 4 args).run Tryd.prog w = .ok (.enter 4 args) w := Tryd.call4 args w
theorem call_pithlaw33_TarBack (args : Array Value) (w : World) : (callFunc 5 args).run Tryd.prog w = .ok (.enter 5 args) w := Tryd.call5 args w
theorem call_pithlaw33_TarSole (args : Array Value) (w : World) : (callFunc 6 args).run Tryd.prog w = .ok (.enter 6 args) w := Tryd.call6 args w
theorem call_pithlaw33_TarLists (args : Array Value) (w : World) : (callFunc 7 args).run Tryd.prog w = .ok (.enter 7 args) w := Tryd.call7 args w
theorem call_tar_Put (args : Array Value) (w : World) : (callFunc 8 args).run Tryd.prog w = .ok (.enter 8 args) w := Tryd.call8 args w
theorem call_pithlaw33_num (args : Array Value) (w : World) : (callFunc 9 args).run Tryd.prog w = .ok (.enter 9 args) w := Tryd.call9 args w
theorem call_pithlaw33_known (args : Array Value) (w : World) : (callFunc 10 args).run Tryd.prog w = .ok (.enter 10 args) w := Tryd.call10 args w
theorem call_tar_Get (args : Array Value) (w : World) : (callFunc 11 args).run Tryd.prog w = .ok (.enter 11 args) w := Tryd.call11 args w
theorem call_pithlaw33_same (args : Array Value) (w : World) : (callFunc 12 args).run Tryd.prog w = .ok (.enter 12 args) w := Tryd.call12 args w
theorem call_pithlaw33_room (args : Array Value) (w : World) : (callFunc 13 args).run Tryd.prog w = .ok (.enter 13 args) w := Tryd.call13 args w
theorem call_pithref33_Put (args : Array Value) (w : World) : (callFunc 14 args).run Tryd.prog w = .ok (.enter 14 args) w := Tryd.call14 args w
theorem call_tar_Write (args : Array Value) (w : World) : (callFunc 15 args).run Tryd.prog w = .ok (.enter 15 args) w := Tryd.call15 args w
theorem call_pithref33_Write (args : Array Value) (w : World) : (callFunc 16 args).run Tryd.prog w = .ok (.enter 16 args) w := Tryd.call16 args w
theorem call_pithlaw33_Room_kept (args : Array Value) (w : World) : (callFunc 17 args).run Tryd.prog w = .ok (.enter 17 args) w := Tryd.call17 args w
theorem call_pithref33_Get (args : Array Value) (w : World) : (callFunc 18 args).run Tryd.prog w = .ok (.enter 18 args) w := Tryd.call18 args w
theorem call_tar_Read (args : Array Value) (w : World) : (callFunc 19 args).run Tryd.prog w = .ok (.enter 19 args) w := Tryd.call19 args w
theorem call_pithref33_Read (args : Array Value) (w : World) : (callFunc 20 args).run Tryd.prog w = .ok (.enter 20 args) w := Tryd.call20 args w
theorem call_pithlaw33_sameAll (args : Array Value) (w : World) : (callFunc 21 args).run Tryd.prog w = .ok (.enter 21 args) w := Tryd.call21 args w
theorem call_pithref33_Items (args : Array Value) (w : World) : (callFunc 22 args).run Tryd.prog w = .ok (.enter 22 args) w := Tryd.call22 args w
theorem call_tar_Items (args : Array Value) (w : World) : (callFunc 23 args).run Tryd.prog w = .ok (.enter 23 args) w := Tryd.call23 args w
theorem call_pithlaw33_TarLists_c1 (args : Array Value) (w : World) : (callFunc 24 args).run Tryd.prog w = .ok (.enter 24 args) w := Tryd.call24 args w
theorem call_pithlaw33_tail (args : Array Value) (w : World) : (callFunc 25 args).run Tryd.prog w = .ok (.enter 25 args) w := Tryd.call25 args w
theorem call_tar_wrong (args : Array Value) (w : World) : (callFunc 26 args).run Tryd.prog w = .ok (.enter 26 args) w := Tryd.call26 args w
theorem call_tar_header (args : Array Value) (w : World) : (callFunc 27 args).run Tryd.prog w = .ok (.enter 27 args) w := Tryd.call27 args w
theorem call_tar_pad (args : Array Value) (w : World) : (callFunc 28 args).run Tryd.prog w = .ok (.enter 28 args) w := Tryd.call28 args w
theorem call_bytes_Equal (args : Array Value) (w : World) : (callFunc 29 args).run Tryd.prog w = .ok (.enter 29 args) w := Tryd.call29 args w
theorem call_tar_sum (args : Array Value) (w : World) : (callFunc 30 args).run Tryd.prog w = .ok (.enter 30 args) w := Tryd.call30 args w
theorem call_tar_fields (args : Array Value) (w : World) : (callFunc 31 args).run Tryd.prog w = .ok (.enter 31 args) w := Tryd.call31 args w
theorem call_tar_zero (args : Array Value) (w : World) : (callFunc 32 args).run Tryd.prog w = .ok (.enter 32 args) w := Tryd.call32 args w
theorem call_pithref33_Right (args : Array Value) (w : World) : (callFunc 33 args).run Tryd.prog w = .ok (.enter 33 args) w := Tryd.call33 args w
theorem call_pithref33_Header (args : Array Value) (w : World) : (callFunc 34 args).run Tryd.prog w = .ok (.enter 34 args) w := Tryd.call34 args w
theorem call_pithref33_zeros (args : Array Value) (w : World) : (callFunc 35 args).run Tryd.prog w = .ok (.enter 35 args) w := Tryd.call35 args w
theorem call_pithref33_gap (args : Array Value) (w : World) : (callFunc 36 args).run Tryd.prog w = .ok (.enter 36 args) w := Tryd.call36 args w
theorem call_pithref33_octal (args : Array Value) (w : World) : (callFunc 37 args).run Tryd.prog w = .ok (.enter 37 args) w := Tryd.call37 args w
theorem call_pithref33_sum (args : Array Value) (w : World) : (callFunc 38 args).run Tryd.prog w = .ok (.enter 38 args) w := Tryd.call38 args w
theorem call_pithref33_parsed (args : Array Value) (w : World) : (callFunc 39 args).run Tryd.prog w = .ok (.enter 39 args) w := Tryd.call39 args w
theorem call_pithref33_like (args : Array Value) (w : World) : (callFunc 40 args).run Tryd.prog w = .ok (.enter 40 args) w := Tryd.call40 args w
theorem call_bytes_Clone (args : Array Value) (w : World) : (callFunc 41 args).run Tryd.prog w = .ok (.enter 41 args) w := Tryd.call41 args w
theorem call_tar_Items_c1 (args : Array Value) (w : World) : (callFunc 42 args).run Tryd.prog w = .ok (.enter 42 args) w := Tryd.call42 args w
theorem call_tar_parted (args : Array Value) (w : World) : (callFunc 43 args).run Tryd.prog w = .ok (.enter 43 args) w := Tryd.call43 args w
theorem call_strings_IndexByte (args : Array Value) (w : World) : (callFunc 44 args).run Tryd.prog w = .ok (.enter 44 args) w := Tryd.call44 args w
theorem call_tar_octal (args : Array Value) (w : World) : (callFunc 45 args).run Tryd.prog w = .ok (.enter 45 args) w := Tryd.call45 args w
theorem call_tar_fields_c1 (args : Array Value) (w : World) : (callFunc 46 args).run Tryd.prog w = .ok (.enter 46 args) w := Tryd.call46 args w
theorem call_tar_fields_c2 (args : Array Value) (w : World) : (callFunc 47 args).run Tryd.prog w = .ok (.enter 47 args) w := Tryd.call47 args w
theorem call_tar_text (args : Array Value) (w : World) : (callFunc 48 args).run Tryd.prog w = .ok (.enter 48 args) w := Tryd.call48 args w
theorem call_tar_fields_c3 (args : Array Value) (w : World) : (callFunc 49 args).run Tryd.prog w = .ok (.enter 49 args) w := Tryd.call49 args w
theorem call_tar_fields_c4 (args : Array Value) (w : World) : (callFunc 50 args).run Tryd.prog w = .ok (.enter 50 args) w := Tryd.call50 args w
theorem call_tar_number (args : Array Value) (w : World) : (callFunc 51 args).run Tryd.prog w = .ok (.enter 51 args) w := Tryd.call51 args w
theorem call_tar_none (args : Array Value) (w : World) : (callFunc 52 args).run Tryd.prog w = .ok (.enter 52 args) w := Tryd.call52 args w
theorem call_tar_fields_c5 (args : Array Value) (w : World) : (callFunc 53 args).run Tryd.prog w = .ok (.enter 53 args) w := Tryd.call53 args w
theorem call_tar_fields_c6 (args : Array Value) (w : World) : (callFunc 54 args).run Tryd.prog w = .ok (.enter 54 args) w := Tryd.call54 args w
theorem call_tar_fields_c7 (args : Array Value) (w : World) : (callFunc 55 args).run Tryd.prog w = .ok (.enter 55 args) w := Tryd.call55 args w
theorem call_tar_fields_c8 (args : Array Value) (w : World) : (callFunc 56 args).run Tryd.prog w = .ok (.enter 56 args) w := Tryd.call56 args w
theorem call_tar_fields_c9 (args : Array Value) (w : World) : (callFunc 57 args).run Tryd.prog w = .ok (.enter 57 args) w := Tryd.call57 args w
theorem call_tar_fields_c10 (args : Array Value) (w : World) : (callFunc 58 args).run Tryd.prog w = .ok (.enter 58 args) w := Tryd.call58 args w
theorem call_tar_fields_c11 (args : Array Value) (w : World) : (callFunc 59 args).run Tryd.prog w = .ok (.enter 59 args) w := Tryd.call59 args w
theorem call_tar_fields_c12 (args : Array Value) (w : World) : (callFunc 60 args).run Tryd.prog w = .ok (.enter 60 args) w := Tryd.call60 args w
theorem call_tar_fields_c13 (args : Array Value) (w : World) : (callFunc 61 args).run Tryd.prog w = .ok (.enter 61 args) w := Tryd.call61 args w
theorem call_tar_fields_c14 (args : Array Value) (w : World) : (callFunc 62 args).run Tryd.prog w = .ok (.enter 62 args) w := Tryd.call62 args w
theorem call_tar_fields_c15 (args : Array Value) (w : World) : (callFunc 63 args).run Tryd.prog w = .ok (.enter 63 args) w := Tryd.call63 args w
theorem call_bytes_TrimLeft (args : Array Value) (w : World) : (callFunc 64 args).run Tryd.prog w = .ok (.enter 64 args) w := Tryd.call64 args w
theorem call_pithref33_Cut (args : Array Value) (w : World) : (callFunc 65 args).run Tryd.prog w = .ok (.enter 65 args) w := Tryd.call65 args w
theorem call_pithref33_has (args : Array Value) (w : World) : (callFunc 66 args).run Tryd.prog w = .ok (.enter 66 args) w := Tryd.call66 args w
theorem call_pithref33_filled (args : Array Value) (w : World) : (callFunc 67 args).run Tryd.prog w = .ok (.enter 67 args) w := Tryd.call67 args w
theorem call_pithref33_text (args : Array Value) (w : World) : (callFunc 68 args).run Tryd.prog w = .ok (.enter 68 args) w := Tryd.call68 args w
theorem call_pithref33_number (args : Array Value) (w : World) : (callFunc 69 args).run Tryd.prog w = .ok (.enter 69 args) w := Tryd.call69 args w
theorem call_internal_stringslite_IndexByte (args : Array Value) (w : World) : (callFunc 70 args).run Tryd.prog w = .ok (.enter 70 args) w := Tryd.call70 args w
theorem call_bytes_Cut (args : Array Value) (w : World) : (callFunc 71 args).run Tryd.prog w = .ok (.enter 71 args) w := Tryd.call71 args w
theorem call_bytes_trimLeftByte (args : Array Value) (w : World) : (callFunc 72 args).run Tryd.prog w = .ok (.enter 72 args) w := Tryd.call72 args w
theorem call_bytes_makeASCIISet (args : Array Value) (w : World) : (callFunc 73 args).run Tryd.prog w = .ok (.enter 73 args) w := Tryd.call73 args w
theorem call_bytes_trimLeftASCII (args : Array Value) (w : World) : (callFunc 74 args).run Tryd.prog w = .ok (.enter 74 args) w := Tryd.call74 args w
theorem call_bytes_trimLeftUnicode (args : Array Value) (w : World) : (callFunc 75 args).run Tryd.prog w = .ok (.enter 75 args) w := Tryd.call75 args w
theorem call_bytes_Index (args : Array Value) (w : World) : (callFunc 77 args).run Tryd.prog w = .ok (.enter 77 args) w := Tryd.call77 args w
theorem call_bytes_asciiSet_contains (args : Array Value) (w : World) : (callFunc 78 args).run Tryd.prog w = .ok (.enter 78 args) w := Tryd.call78 args w
theorem call_unicode_utf8_DecodeRune (args : Array Value) (w : World) : (callFunc 79 args).run Tryd.prog w = .ok (.enter 79 args) w := Tryd.call79 args w
theorem call_bytes_containsRune (args : Array Value) (w : World) : (callFunc 80 args).run Tryd.prog w = .ok (.enter 80 args) w := Tryd.call80 args w
theorem call_bytes_IndexByte (args : Array Value) (w : World) : (callFunc 81 args).run Tryd.prog w = .ok (.enter 81 args) w := Tryd.call81 args w
theorem call_unicode_utf8_decodeRuneSlow (args : Array Value) (w : World) : (callFunc 85 args).run Tryd.prog w = .ok (.enter 85 args) w := Tryd.call85 args w
theorem call_gosem_cut_vars (args : Array Value) (w : World) : (callFunc 108 args).run Tryd.prog w = .ok (.enter 108 args) w := Tryd.call108 args w
attribute [local irreducible] pN oCall oCallV
theorem pc_pithlaw33_TarTold {args : List Value} (h : Calls Tryd.prog 3 args.toArray w (retP K)) : pN Tryd.prog (oCall 3 args) w K := pN_callQ (f := 3) (fun a w => call_pithlaw33_TarTold a w) h
theorem pc_pithlaw33_TarExact {args : List Value} (h : Calls Tryd.prog 4 args.toArray w (retP K)) : pN Tryd.prog (oCall 4 args) w K := pN_callQ (f := 4) (fun a w => call_pithlaw33_TarExact a w) h
theorem pc_pithlaw33_TarBack {args : List Value} (h : Calls Tryd.prog 5 args.toArray w (retP K)) : pN Tryd.prog (oCall 5 args) w K := pN_callQ (f := 5) (fun a w => call_pithlaw33_TarBack a w) h
theorem pc_pithlaw33_TarSole {args : List Value} (h : Calls Tryd.prog 6 args.toArray w (retP K)) : pN Tryd.prog (oCall 6 args) w K := pN_callQ (f := 6) (fun a w => call_pithlaw33_TarSole a w) h
theorem pc_pithlaw33_TarLists {args : List Value} (h : Calls Tryd.prog 7 args.toArray w (retP K)) : pN Tryd.prog (oCall 7 args) w K := pN_callQ (f := 7) (fun a w => call_pithlaw33_TarLists a w) h
theorem pc_tar_Put {args : List Value} (h : Calls Tryd.prog 8 args.toArray w (retP K)) : pN Tryd.prog (oCall 8 args) w K := pN_callQ (f := 8) (fun a w => call_tar_Put a w) h
theorem pc_pithlaw33_num {args : List Value} (h : Calls Tryd.prog 9 args.toArray w (retP K)) : pN Tryd.prog (oCall 9 args) w K := pN_callQ (f := 9) (fun a w => call_pithlaw33_num a w) h
theorem pc_pithlaw33_known {args : List Value} (h : Calls Tryd.prog 10 args.toArray w (retP K)) : pN Tryd.prog (oCall 10 args) w K := pN_callQ (f := 10) (fun a w => call_pithlaw33_known a w) h
theorem pc_tar_Get {args : List Value} (h : Calls Tryd.prog 11 args.toArray w (retP K)) : pN Tryd.prog (oCall 11 args) w K := pN_callQ (f := 11) (fun a w => call_tar_Get a w) h
theorem pc_pithlaw33_same {args : List Value} (h : Calls Tryd.prog 12 args.toArray w (retP K)) : pN Tryd.prog (oCall 12 args) w K := pN_callQ (f := 12) (fun a w => call_pithlaw33_same a w) h
theorem pc_pithlaw33_room {args : List Value} (h : Calls Tryd.prog 13 args.toArray w (retP K)) : pN Tryd.prog (oCall 13 args) w K := pN_callQ (f := 13) (fun a w => call_pithlaw33_room a w) h
theorem pc_pithref33_Put {args : List Value} (h : Calls Tryd.prog 14 args.toArray w (retP K)) : pN Tryd.prog (oCall 14 args) w K := pN_callQ (f := 14) (fun a w => call_pithref33_Put a w) h
theorem pc_tar_Write {args : List Value} (h : Calls Tryd.prog 15 args.toArray w (retP K)) : pN Tryd.prog (oCall 15 args) w K := pN_callQ (f := 15) (fun a w => call_tar_Write a w) h
theorem pc_pithref33_Write {args : List Value} (h : Calls Tryd.prog 16 args.toArray w (retP K)) : pN Tryd.prog (oCall 16 args) w K := pN_callQ (f := 16) (fun a w => call_pithref33_Write a w) h
theorem pc_pithlaw33_Room_kept {args : List Value} (h : Calls Tryd.prog 17 args.toArray w (retP K)) : pN Tryd.prog (oCall 17 args) w K := pN_callQ (f := 17) (fun a w => call_pithlaw33_Room_kept a w) h
theorem pc_pithref33_Get {args : List Value} (h : Calls Tryd.prog 18 args.toArray w (retP K)) : pN Tryd.prog (oCall 18 args) w K := pN_callQ (f := 18) (fun a w => call_pithref33_Get a w) h
theorem pc_tar_Read {args : List Value} (h : Calls Tryd.prog 19 args.toArray w (retP K)) : pN Tryd.prog (oCall 19 args) w K := pN_callQ (f := 19) (fun a w => call_tar_Read a w) h
theorem pc_pithref33_Read {args : List Value} (h : Calls Tryd.prog 20 args.toArray w (retP K)) : pN Tryd.prog (oCall 20 args) w K := pN_callQ (f := 20) (fun a w => call_pithref33_Read a w) h
theorem pc_pithlaw33_sameAll {args : List Value} (h : Calls Tryd.prog 21 args.toArray w (retP K)) : pN Tryd.prog (oCall 21 args) w K := pN_callQ (f := 21) (fun a w => call_pithlaw33_sameAll a w) h
theorem pc_pithref33_Items {args : List Value} (h : Calls Tryd.prog 22 args.toArray w (retP K)) : pN Tryd.prog (oCall 22 args) w K := pN_callQ (f := 22) (fun a w => call_pithref33_Items a w) h
theorem pc_tar_Items {args : List Value} (h : Calls Tryd.prog 23 args.toArray w (retP K)) : pN Tryd.prog (oCall 23 args) w K := pN_callQ (f := 23) (fun a w => call_tar_Items a w) h
theorem pc_pithlaw33_TarLists_c1 {args : List Value} (h : Calls Tryd.prog 24 args.toArray w (retP K)) : pN Tryd.prog (oCall 24 args) w K := pN_callQ (f := 24) (fun a w => call_pithlaw33_TarLists_c1 a w) h
theorem pv_pithlaw33_TarLists_c1 {cap args : List Value} (h : Calls Tryd.prog 24 (args ++ cap).toArray w (retP K)) : pN Tryd.prog (oCallV (.func (.func 24) [].toArray cap.toArray) args) w K := pN_callV (f := 24) (fun a w => call_pithlaw33_TarLists_c1 a w) h
theorem pc_pithlaw33_tail {args : List Value} (h : Calls Tryd.prog 25 args.toArray w (retP K)) : pN Tryd.prog (oCall 25 args) w K := pN_callQ (f := 25) (fun a w => call_pithlaw33_tail a w) h
theorem pc_tar_wrong {args : List Value} (h : Calls Tryd.prog 26 args.toArray w (retP K)) : pN Tryd.prog (oCall 26 args) w K := pN_callQ (f := 26) (fun a w => call_tar_wrong a w) h
theorem pc_tar_header {args : List Value} (h : Calls Tryd.prog 27 args.toArray w (retP K)) : pN Tryd.prog (oCall 27 args) w K := pN_callQ (f := 27) (fun a w => call_tar_header a w) h
theorem pc_tar_pad {args : List Value} (h : Calls Tryd.prog 28 args.toArray w (retP K)) : pN Tryd.prog (oCall 28 args) w K := pN_callQ (f := 28) (fun a w => call_tar_pad a w) h
theorem pc_bytes_Equal {args : List Value} (h : Calls Tryd.prog 29 args.toArray w (retP K)) : pN Tryd.prog (oCall 29 args) w K := pN_callQ (f := 29) (fun a w => call_bytes_Equal a w) h
theorem pc_tar_sum {args : List Value} (h : Calls Tryd.prog 30 args.toArray w (retP K)) : pN Tryd.prog (oCall 30 args) w K := pN_callQ (f := 30) (fun a w => call_tar_sum a w) h
theorem pc_tar_fields {args : List Value} (h : Calls Tryd.prog 31 args.toArray w (retP K)) : pN Tryd.prog (oCall 31 args) w K := pN_callQ (f := 31) (fun a w => call_tar_fields a w) h
theorem pc_tar_zero {args : List Value} (h : Calls Tryd.prog 32 args.toArray w (retP K)) : pN Tryd.prog (oCall 32 args) w K := pN_callQ (f := 32) (fun a w => call_tar_zero a w) h
theorem pc_pithref33_Right {args : List Value} (h : Calls Tryd.prog 33 args.toArray w (retP K)) : pN Tryd.prog (oCall 33 args) w K := pN_callQ (f := 33) (fun a w => call_pithref33_Right a w) h
theorem pc_pithref33_Header {args : List Value} (h : Calls Tryd.prog 34 args.toArray w (retP K)) : pN Tryd.prog (oCall 34 args) w K := pN_callQ (f := 34) (fun a w => call_pithref33_Header a w) h
theorem pc_pithref33_zeros {args : List Value} (h : Calls Tryd.prog 35 args.toArray w (retP K)) : pN Tryd.prog (oCall 35 args) w K := pN_callQ (f := 35) (fun a w => call_pithref33_zeros a w) h
theorem pc_pithref33_gap {args : List Value} (h : Calls Tryd.prog 36 args.toArray w (retP K)) : pN Tryd.prog (oCall 36 args) w K := pN_callQ (f := 36) (fun a w => call_pithref33_gap a w) h
theorem pc_pithref33_octal {args : List Value} (h : Calls Tryd.prog 37 args.toArray w (retP K)) : pN Tryd.prog (oCall 37 args) w K := pN_callQ (f := 37) (fun a w => call_pithref33_octal a w) h
theorem pc_pithref33_sum {args : List Value} (h : Calls Tryd.prog 38 args.toArray w (retP K)) : pN Tryd.prog (oCall 38 args) w K := pN_callQ (f := 38) (fun a w => call_pithref33_sum a w) h
theorem pc_pithref33_parsed {args : List Value} (h : Calls Tryd.prog 39 args.toArray w (retP K)) : pN Tryd.prog (oCall 39 args) w K := pN_callQ (f := 39) (fun a w => call_pithref33_parsed a w) h
theorem pc_pithref33_like {args : List Value} (h : Calls Tryd.prog 40 args.toArray w (retP K)) : pN Tryd.prog (oCall 40 args) w K := pN_callQ (f := 40) (fun a w => call_pithref33_like a w) h
theorem pc_bytes_Clone {args : List Value} (h : Calls Tryd.prog 41 args.toArray w (retP K)) : pN Tryd.prog (oCall 41 args) w K := pN_callQ (f := 41) (fun a w => call_bytes_Clone a w) h
theorem pc_tar_Items_c1 {args : List Value} (h : Calls Tryd.prog 42 args.toArray w (retP K)) : pN Tryd.prog (oCall 42 args) w K := pN_callQ (f := 42) (fun a w => call_tar_Items_c1 a w) h
theorem pv_tar_Items_c1 {cap args : List Value} (h : Calls Tryd.prog 42 (args ++ cap).toArray w (retP K)) : pN Tryd.prog (oCallV (.func (.func 42) [].toArray cap.toArray) args) w K := pN_callV (f := 42) (fun a w => call_tar_Items_c1 a w) h
theorem pc_tar_parted {args : List Value} (h : Calls Tryd.prog 43 args.toArray w (retP K)) : pN Tryd.prog (oCall 43 args) w K := pN_callQ (f := 43) (fun a w => call_tar_parted a w) h
theorem pc_strings_IndexByte {args : List Value} (h : Calls Tryd.prog 44 args.toArray w (retP K)) : pN Tryd.prog (oCall 44 args) w K := pN_callQ (f := 44) (fun a w => call_strings_IndexByte a w) h
theorem pc_tar_octal {args : List Value} (h : Calls Tryd.prog 45 args.toArray w (retP K)) : pN Tryd.prog (oCall 45 args) w K := pN_callQ (f := 45) (fun a w => call_tar_octal a w) h
theorem pc_tar_fields_c1 {args : List Value} (h : Calls Tryd.prog 46 args.toArray w (retP K)) : pN Tryd.prog (oCall 46 args) w K := pN_callQ (f := 46) (fun a w => call_tar_fields_c1 a w) h
theorem pv_tar_fields_c1 {cap args : List Value} (h : Calls Tryd.prog 46 (args ++ cap).toArray w (retP K)) : pN Tryd.prog (oCallV (.func (.func 46) [].toArray cap.toArray) args) w K := pN_callV (f := 46) (fun a w => call_tar_fields_c1 a w) h
theorem pc_tar_fields_c2 {args : List Value} (h : Calls Tryd.prog 47 args.toArray w (retP K)) : pN Tryd.prog (oCall 47 args) w K := pN_callQ (f := 47) (fun a w => call_tar_fields_c2 a w) h
theorem pv_tar_fields_c2 {cap args : List Value} (h : Calls Tryd.prog 47 (args ++ cap).toArray w (retP K)) : pN Tryd.prog (oCallV (.func (.func 47) [].toArray cap.toArray) args) w K := pN_callV (f := 47) (fun a w => call_tar_fields_c2 a w) h
theorem pc_tar_text {args : List Value} (h : Calls Tryd.prog 48 args.toArray w (retP K)) : pN Tryd.prog (oCall 48 args) w K := pN_callQ (f := 48) (fun a w => call_tar_text a w) h
theorem pc_tar_fields_c3 {args : List Value} (h : Calls Tryd.prog 49 args.toArray w (retP K)) : pN Tryd.prog (oCall 49 args) w K := pN_callQ (f := 49) (fun a w => call_tar_fields_c3 a w) h
theorem pv_tar_fields_c3 {cap args : List Value} (h : Calls Tryd.prog 49 (args ++ cap).toArray w (retP K)) : pN Tryd.prog (oCallV (.func (.func 49) [].toArray cap.toArray) args) w K := pN_callV (f := 49) (fun a w => call_tar_fields_c3 a w) h
theorem pc_tar_fields_c4 {args : List Value} (h : Calls Tryd.prog 50 args.toArray w (retP K)) : pN Tryd.prog (oCall 50 args) w K := pN_callQ (f := 50) (fun a w => call_tar_fields_c4 a w) h
theorem pv_tar_fields_c4 {cap args : List Value} (h : Calls Tryd.prog 50 (args ++ cap).toArray w (retP K)) : pN Tryd.prog (oCallV (.func (.func 50) [].toArray cap.toArray) args) w K := pN_callV (f := 50) (fun a w => call_tar_fields_c4 a w) h
theorem pc_tar_number {args : List Value} (h : Calls Tryd.prog 51 args.toArray w (retP K)) : pN Tryd.prog (oCall 51 args) w K := pN_callQ (f := 51) (fun a w => call_tar_number a w) h
theorem pc_tar_none {args : List Value} (h : Calls Tryd.prog 52 args.toArray w (retP K)) : pN Tryd.prog (oCall 52 args) w K := pN_callQ (f := 52) (fun a w => call_tar_none a w) h
theorem pc_tar_fields_c5 {args : List Value} (h : Calls Tryd.prog 53 args.toArray w (retP K)) : pN Tryd.prog (oCall 53 args) w K := pN_callQ (f := 53) (fun a w => call_tar_fields_c5 a w) h
theorem pv_tar_fields_c5 {cap args : List Value} (h : Calls Tryd.prog 53 (args ++ cap).toArray w (retP K)) : pN Tryd.prog (oCallV (.func (.func 53) [].toArray cap.toArray) args) w K := pN_callV (f := 53) (fun a w => call_tar_fields_c5 a w) h
theorem pc_tar_fields_c6 {args : List Value} (h : Calls Tryd.prog 54 args.toArray w (retP K)) : pN Tryd.prog (oCall 54 args) w K := pN_callQ (f := 54) (fun a w => call_tar_fields_c6 a w) h
theorem pv_tar_fields_c6 {cap args : List Value} (h : Calls Tryd.prog 54 (args ++ cap).toArray w (retP K)) : pN Tryd.prog (oCallV (.func (.func 54) [].toArray cap.toArray) args) w K := pN_callV (f := 54) (fun a w => call_tar_fields_c6 a w) h
theorem pc_tar_fields_c7 {args : List Value} (h : Calls Tryd.prog 55 args.toArray w (retP K)) : pN Tryd.prog (oCall 55 args) w K := pN_callQ (f := 55) (fun a w => call_tar_fields_c7 a w) h
theorem pv_tar_fields_c7 {cap args : List Value} (h : Calls Tryd.prog 55 (args ++ cap).toArray w (retP K)) : pN Tryd.prog (oCallV (.func (.func 55) [].toArray cap.toArray) args) w K := pN_callV (f := 55) (fun a w => call_tar_fields_c7 a w) h
theorem pc_tar_fields_c8 {args : List Value} (h : Calls Tryd.prog 56 args.toArray w (retP K)) : pN Tryd.prog (oCall 56 args) w K := pN_callQ (f := 56) (fun a w => call_tar_fields_c8 a w) h
theorem pv_tar_fields_c8 {cap args : List Value} (h : Calls Tryd.prog 56 (args ++ cap).toArray w (retP K)) : pN Tryd.prog (oCallV (.func (.func 56) [].toArray cap.toArray) args) w K := pN_callV (f := 56) (fun a w => call_tar_fields_c8 a w) h
theorem pc_tar_fields_c9 {args : List Value} (h : Calls Tryd.prog 57 args.toArray w (retP K)) : pN Tryd.prog (oCall 57 args) w K := pN_callQ (f := 57) (fun a w => call_tar_fields_c9 a w) h
theorem pv_tar_fields_c9 {cap args : List Value} (h : Calls Tryd.prog 57 (args ++ cap).toArray w (retP K)) : pN Tryd.prog (oCallV (.func (.func 57) [].toArray cap.toArray) args) w K := pN_callV (f := 57) (fun a w => call_tar_fields_c9 a w) h
theorem pc_tar_fields_c10 {args : List Value} (h : Calls Tryd.prog 58 args.toArray w (retP K)) : pN Tryd.prog (oCall 58 args) w K := pN_callQ (f := 58) (fun a w => call_tar_fields_c10 a w) h
theorem pv_tar_fields_c10 {cap args : List Value} (h : Calls Tryd.prog 58 (args ++ cap).toArray w (retP K)) : pN Tryd.prog (oCallV (.func (.func 58) [].toArray cap.toArray) args) w K := pN_callV (f := 58) (fun a w => call_tar_fields_c10 a w) h
theorem pc_tar_fields_c11 {args : List Value} (h : Calls Tryd.prog 59 args.toArray w (retP K)) : pN Tryd.prog (oCall 59 args) w K := pN_callQ (f := 59) (fun a w => call_tar_fields_c11 a w) h
theorem pv_tar_fields_c11 {cap args : List Value} (h : Calls Tryd.prog 59 (args ++ cap).toArray w (retP K)) : pN Tryd.prog (oCallV (.func (.func 59) [].toArray cap.toArray) args) w K := pN_callV (f := 59) (fun a w => call_tar_fields_c11 a w) h
theorem pc_tar_fields_c12 {args : List Value} (h : Calls Tryd.prog 60 args.toArray w (retP K)) : pN Tryd.prog (oCall 60 args) w K := pN_callQ (f := 60) (fun a w => call_tar_fields_c12 a w) h
theorem pv_tar_fields_c12 {cap args : List Value} (h : Calls Tryd.prog 60 (args ++ cap).toArray w (retP K)) : pN Tryd.prog (oCallV (.func (.func 60) [].toArray cap.toArray) args) w K := pN_callV (f := 60) (fun a w => call_tar_fields_c12 a w) h
theorem pc_tar_fields_c13 {args : List Value} (h : Calls Tryd.prog 61 args.toArray w (retP K)) : pN Tryd.prog (oCall 61 args) w K := pN_callQ (f := 61) (fun a w => call_tar_fields_c13 a w) h
theorem pv_tar_fields_c13 {cap args : List Value} (h : Calls Tryd.prog 61 (args ++ cap).toArray w (retP K)) : pN Tryd.prog (oCallV (.func (.func 61) [].toArray cap.toArray) args) w K := pN_callV (f := 61) (fun a w => call_tar_fields_c13 a w) h
theorem pc_tar_fields_c14 {args : List Value} (h : Calls Tryd.prog 62 args.toArray w (retP K)) : pN Tryd.prog (oCall 62 args) w K := pN_callQ (f := 62) (fun a w => call_tar_fields_c14 a w) h
theorem pv_tar_fields_c14 {cap args : List Value} (h : Calls Tryd.prog 62 (args ++ cap).toArray w (retP K)) : pN Tryd.prog (oCallV (.func (.func 62) [].toArray cap.toArray) args) w K := pN_callV (f := 62) (fun a w => call_tar_fields_c14 a w) h
theorem pc_tar_fields_c15 {args : List Value} (h : Calls Tryd.prog 63 args.toArray w (retP K)) : pN Tryd.prog (oCall 63 args) w K := pN_callQ (f := 63) (fun a w => call_tar_fields_c15 a w) h
theorem pv_tar_fields_c15 {cap args : List Value} (h : Calls Tryd.prog 63 (args ++ cap).toArray w (retP K)) : pN Tryd.prog (oCallV (.func (.func 63) [].toArray cap.toArray) args) w K := pN_callV (f := 63) (fun a w => call_tar_fields_c15 a w) h
theorem pc_bytes_TrimLeft {args : List Value} (h : Calls Tryd.prog 64 args.toArray w (retP K)) : pN Tryd.prog (oCall 64 args) w K := pN_callQ (f := 64) (fun a w => call_bytes_TrimLeft a w) h
theorem pc_pithref33_Cut {args : List Value} (h : Calls Tryd.prog 65 args.toArray w (retP K)) : pN Tryd.prog (oCall 65 args) w K := pN_callQ (f := 65) (fun a w => call_pithref33_Cut a w) h
theorem pc_pithref33_has {args : List Value} (h : Calls Tryd.prog 66 args.toArray w (retP K)) : pN Tryd.prog (oCall 66 args) w K := pN_callQ (f := 66) (fun a w => call_pithref33_has a w) h
theorem pc_pithref33_filled {args : List Value} (h : Calls Tryd.prog 67 args.toArray w (retP K)) : pN Tryd.prog (oCall 67 args) w K := pN_callQ (f := 67) (fun a w => call_pithref33_filled a w) h
theorem pc_pithref33_text {args : List Value} (h : Calls Tryd.prog 68 args.toArray w (retP K)) : pN Tryd.prog (oCall 68 args) w K := pN_callQ (f := 68) (fun a w => call_pithref33_text a w) h
theorem pc_pithref33_number {args : List Value} (h : Calls Tryd.prog 69 args.toArray w (retP K)) : pN Tryd.prog (oCall 69 args) w K := pN_callQ (f := 69) (fun a w => call_pithref33_number a w) h
theorem pc_internal_stringslite_IndexByte {args : List Value} (h : Calls Tryd.prog 70 args.toArray w (retP K)) : pN Tryd.prog (oCall 70 args) w K := pN_callQ (f := 70) (fun a w => call_internal_stringslite_IndexByte a w) h
theorem pc_bytes_Cut {args : List Value} (h : Calls Tryd.prog 71 args.toArray w (retP K)) : pN Tryd.prog (oCall 71 args) w K := pN_callQ (f := 71) (fun a w => call_bytes_Cut a w) h
theorem pc_bytes_trimLeftByte {args : List Value} (h : Calls Tryd.prog 72 args.toArray w (retP K)) : pN Tryd.prog (oCall 72 args) w K := pN_callQ (f := 72) (fun a w => call_bytes_trimLeftByte a w) h
theorem pc_bytes_makeASCIISet {args : List Value} (h : Calls Tryd.prog 73 args.toArray w (retP K)) : pN Tryd.prog (oCall 73 args) w K := pN_callQ (f := 73) (fun a w => call_bytes_makeASCIISet a w) h
theorem pc_bytes_trimLeftASCII {args : List Value} (h : Calls Tryd.prog 74 args.toArray w (retP K)) : pN Tryd.prog (oCall 74 args) w K := pN_callQ (f := 74) (fun a w => call_bytes_trimLeftASCII a w) h
theorem pc_bytes_trimLeftUnicode {args : List Value} (h : Calls Tryd.prog 75 args.toArray w (retP K)) : pN Tryd.prog (oCall 75 args) w K := pN_callQ (f := 75) (fun a w => call_bytes_trimLeftUnicode a w) h
theorem pc_bytes_Index {args : List Value} (h : Calls Tryd.prog 77 args.toArray w (retP K)) : pN Tryd.prog (oCall 77 args) w K := pN_callQ (f := 77) (fun a w => call_bytes_Index a w) h
theorem pc_bytes_asciiSet_contains {args : List Value} (h : Calls Tryd.prog 78 args.toArray w (retP K)) : pN Tryd.prog (oCall 78 args) w K := pN_callQ (f := 78) (fun a w => call_bytes_asciiSet_contains a w) h
theorem pc_unicode_utf8_DecodeRune {args : List Value} (h : Calls Tryd.prog 79 args.toArray w (retP K)) : pN Tryd.prog (oCall 79 args) w K := pN_callQ (f := 79) (fun a w => call_unicode_utf8_DecodeRune a w) h
theorem pc_bytes_containsRune {args : List Value} (h : Calls Tryd.prog 80 args.toArray w (retP K)) : pN Tryd.prog (oCall 80 args) w K := pN_callQ (f := 80) (fun a w => call_bytes_containsRune a w) h
theorem pc_bytes_IndexByte {args : List Value} (h : Calls Tryd.prog 81 args.toArray w (retP K)) : pN Tryd.prog (oCall 81 args) w K := pN_callQ (f := 81) (fun a w => call_bytes_IndexByte a w) h
theorem pc_unicode_utf8_decodeRuneSlow {args : List Value} (h : Calls Tryd.prog 85 args.toArray w (retP K)) : pN Tryd.prog (oCall 85 args) w K := pN_callQ (f := 85) (fun a w => call_unicode_utf8_decodeRuneSlow a w) h
theorem pc_gosem_cut_vars {args : List Value} (h : Calls Tryd.prog 108 args.toArray w (retP K)) : pN Tryd.prog (oCall 108 args) w K := pN_callQ (f := 108) (fun a w => call_gosem_cut_vars a w) h
end

attribute [go_sem] pN_conv_int_uint8 pA_conv_int_uint8 pL_conv_int_uint8 pN_conv_uint8_int pA_conv_uint8_int pL_conv_uint8_int pN_conv_uint8_int32 pA_conv_uint8_int32 pL_conv_uint8_int32 pN_len_sl_uint8 pA_len_sl_uint8 pN_len_sl_api_Item pA_len_sl_api_Item pN_len_sl_int pA_len_sl_int pN_len_sl_sl_uint8 pA_len_sl_sl_uint8 pN_len_sl_tar_field pA_len_sl_tar_field pN_aidx_bytes_asciiSet pA_aidx_bytes_asciiSet pN_aidx_arr256_uint8 pA_aidx_arr256_uint8 pN_eqlb_bool pA_eqlb_bool pN_neqb_bool pA_neqb_bool pN_fld_api_Item_Name pA_fld_api_Item_Name pN_fld_api_Item_Link pA_fld_api_Item_Link pN_fld_api_Item_Kind pA_fld_api_Item_Kind pN_fld_api_Item_Mode pA_fld_api_Item_Mode pN_fld_api_Item_Time pA_fld_api_Item_Time pN_fld_api_Item_Data pA_fld_api_Item_Data pN_fld_tar_head_Item pA_fld_tar_head_Item pN_fld_tar_head_size pA_fld_tar_head_size pN_fld_tar_field_at pA_fld_tar_field_at pN_fld_tar_field_n pA_fld_tar_field_n pN_fld_tar_field_write pA_fld_tar_field_write pN_fld_tar_field_read pA_fld_tar_field_read pN_fld_pithlaw33_Room_L pA_fld_pithlaw33_Room_L pN_fld_pithlaw33_Room_Full pA_fld_pithlaw33_Room_Full pN_fld_unicode_utf8_acceptRange_lo pA_fld_unicode_utf8_acceptRange_lo pN_fld_unicode_utf8_acceptRange_hi pA_fld_unicode_utf8_acceptRange_hi

end Go.Proofs.YteeepkimnpabiaaDoor

namespace Go.Proofs.YteeepkimnpabiaaDoor
open Go Go.RowKit Go.ChangeShapes Go.Deep
set_option linter.unusedSimpArgs false
set_option linter.unnecessarySimpa false
set_option linter.unusedSectionVars false
set_option linter.unusedVariables false

/-! ### Bulk -/

theorem bulk_pos {H : Type} (d : DataW H) : 1 ≤ Rows.uptoBulk d := by
  cases d with
  | lit l => cases l <;> simp [Rows.uptoBulk]
  | _ => simp [Rows.uptoBulk]
theorem bulk_mem {H : Type} {d : DataW H} : ∀ {l : List (DataW H)}, d ∈ l → Rows.uptoBulk d ≤ Rows.uptoBulkAll l
  | [], h => by cases h
  | x :: r, h => by
    simp only [Rows.uptoBulkAll]
    rcases List.mem_cons.1 h with rfl | h
    · omega
    · have := bulk_mem h; omega
theorem bulk_length {H : Type} : ∀ (l : List (DataW H)), l.length ≤ Rows.uptoBulkAll l
  | [] => by simp [Rows.uptoBulkAll]
  | x :: r => by have := bulk_pos x; have := bulk_length r; simp only [Rows.uptoBulkAll, List.length_cons]; omega
theorem bulk_small {H : Type} {ds : List (DataW H)} (h : Rows.uptoSmall H ds = true) : ∀ d ∈ ds, Rows.uptoBulk d ≤ 1048576 := by
  intro d hd
  have h1 : Rows.uptoBulkAll ds ≤ 1048576 := of_decide_eq_true h
  have := bulk_mem hd
  omega

theorem weights_all {H : Type} {P : Program} {e : TypeId} {d : DataW H} {n : Nat} : ∀ {l : List (DataW H)}, d ∈ l → n ∈ d.weights P e → n ∈ DataW.weightsAll P e l
  | [], h, _ => by cases h
  | x :: r, h, hn => by
    simp only [DataW.weightsAll, List.mem_append]
    rcases List.mem_cons.1 h with rfl | h
    · exact .inl hn
    · exact .inr (weights_all h hn)

/-! ### Reading -/

/-- How a value of a type reads: its cells, and what is known of it and of its bulk. -/
structure Opn (P : Program) (W : World) (t : TypeId) {β : Type} (enc : β → List Value) (ok : β → Nat → Prop) : Prop where
  get : ∀ {H : Type} (en : TypeId × Value → H) (fuel : Nat) (cs : List Value) (x : DataW H × List MemPlace),
    DataW.trod en P W 0 (fun _ => true) true fuel t cs = some x → (∀ n ∈ x.1.weights P t, n ≤ reachBytes) → ∃ b, cs = enc b ∧ ok b (Rows.uptoBulk x.1)

section
variable {P : Program} {W : World} {t : TypeId}

theorem trod_pos {H : Type} {en : TypeId × Value → H} {fuel : Nat} {cs : List Value} {x : DataW H × List MemPlace} (h : DataW.trod en P W 0 (fun _ => true) true fuel t cs = some x) : ∃ n, fuel = n + 1 := by
  cases fuel with
  | zero => simp [DataW.trod] at h
  | succ n => exact ⟨n, rfl⟩

theorem opn_int {k : IntKind} (ht : P.underlying t = some (.int k)) : Opn P W t (fun n : Int => [.int k n]) (fun n _ => (Lit.int k n).wf = true) := by
  refine ⟨fun {H} en fuel cs x hx _ => ?_⟩
  obtain ⟨n, rfl⟩ := trod_pos hx
  unfold DataW.trod at hx
  rw [ht] at hx
  split at hx <;> simp_all
theorem Opn.mono {β : Type} {enc : β → List Value} {ok ok' : β → Nat → Prop} (h : Opn P W t enc ok) (hm : ∀ b k, ok b k → ok' b k) : Opn P W t enc ok' := by
  refine ⟨fun {H} en fuel cs x hx hw => ?_⟩
  obtain ⟨b, hb, hk⟩ := h.get en fuel cs x hx hw
  exact ⟨b, hb, hm _ _ hk⟩
theorem opn_i64 (ht : P.underlying t = some (.int .i64)) : Opn P W t (fun n : Int => [.int .i64 n]) (fun n _ => -9223372036854775808 ≤ n ∧ n < 9223372036854775808) :=
  Opn.mono (opn_int ht) fun n _ h => by
    simp [Lit.wf, IntKind.min, IntKind.max, IntKind.signed, IntKind.bits] at h
    omega
theorem opn_u32 (ht : P.underlying t = some (.int .u32)) : Opn P W t (fun n : Int => [.int .u32 n]) (fun n _ => 0 ≤ n ∧ n < 4294967296) :=
  Opn.mono (opn_int ht) fun n _ h => by
    simp [Lit.wf, IntKind.min, IntKind.max, IntKind.signed, IntKind.bits] at h
    omega
theorem opn_u64 (ht : P.underlying t = some (.int .u64)) : Opn P W t (fun n : Int => [.int .u64 n]) (fun n _ => 0 ≤ n ∧ n < 18446744073709551616) :=
  Opn.mono (opn_int ht) fun n _ h => by
    simp [Lit.wf, IntKind.min, IntKind.max, IntKind.signed, IntKind.bits] at h
    omega
theorem opn_u8 (ht : P.underlying t = some (.int .u8)) : Opn P W t (fun n : UInt8 => [bv n]) (fun _ _ => True) := by
  refine ⟨fun {H} en fuel cs x hx hw => ?_⟩
  obtain ⟨n, rfl, h⟩ := (opn_int ht).get en fuel cs x hx hw
  simp [Lit.wf, IntKind.min, IntKind.max, IntKind.signed, IntKind.bits] at h
  refine ⟨UInt8.ofNat n.toNat, ?_, trivial⟩
  unfold bv
  simp only [UInt8.toNat_ofNat', List.cons.injEq, Value.int.injEq, true_and, and_true]
  omega
theorem opn_bool (ht : P.underlying t = some .bool) : Opn P W t (fun b : Bool => [.bool b]) (fun _ _ => True) := by
  refine ⟨fun {H} en fuel cs x hx _ => ?_⟩
  obtain ⟨n, rfl⟩ := trod_pos hx
  unfold DataW.trod at hx
  rw [ht] at hx
  split at hx <;> simp_all
theorem opn_str (ht : P.underlying t = some .string) : Opn P W t (fun l : List UInt8 => [.string ⟨l.toArray⟩]) (fun l k => l.length ≤ reachBytes ∧ l.length + 1 ≤ k) := by
  refine ⟨fun {H} en fuel cs x hx hw => ?_⟩
  obtain ⟨n, rfl⟩ := trod_pos hx
  unfold DataW.trod at hx
  rw [ht] at hx
  split at hx <;> simp_all
  obtain ⟨_, rfl⟩ := hx
  rename_i s _
  refine ⟨s.data.toList, by simp, ?_, ?_⟩
  · simpa [DataW.weights] using hw
  · simp [Rows.uptoBulk]

/-- A slice. -/
theorem opn_slice {β : Type} {C : Cd β} {ok : β → Nat → Prop} (ht : P.underlying t = some (.slice C.e)) (hs : P.cellsOf C.e = C.size) (hb : P.bytesOf C.e = C.bytes) (h : Opn P W C.e C.enc ok) :
    Opn P W t (fun p : Sl × List β => [.slice p.1.a p.2.length p.1.c])
      (fun p k => RdP C (old W) p.1 p.2 ∧ p.2.length * C.bytes ≤ reachBytes ∧ p.2.length + 1 ≤ k ∧ ∀ b ∈ p.2, ∃ k', k' ≤ k ∧ ok b k') := by
  refine ⟨fun {H} en fuel cs x hx hw => ?_⟩
  rcases open_slice ht hx with ⟨rfl, rfl⟩ | ⟨a, len, cap, m, n, D, Pl, rfl, _, hl, hm, hmm, rfl, hel⟩
  · exact ⟨(⟨none, 0⟩, []), rfl, ⟨RdA.old Rd.nil⟩, by simp, by simp [Rows.uptoBulk], by simp⟩
  · simp only [if_true] at hmm
    subst hmm
    have hwt : ∀ i, i < len → ∀ n ∈ (D i).weights P C.e, n ≤ reachBytes := by
      intro i hi n hn
      refine hw n ?_
      simp only [DataW.weights, ht, List.mem_cons, List.mem_append]
      exact .inr (.inl (weights_all (List.mem_map.2 ⟨i, by simpa using hi, rfl⟩) hn))
    have hD : ∀ i, i < len → ∃ b, (W.cells? 0 (a.add (i * C.size)) C.size = some (C.enc b)) ∧ ok b (Rows.uptoBulk (D i)) := by
      intro i hi
      obtain ⟨cs', h1, h2⟩ := hel i (by omega)
      rw [hs] at h1
      obtain ⟨b, rfl, hk⟩ := h.get en n cs' _ h2 (hwt i hi)
      exact ⟨b, h1, hk⟩
    have hinh : Inhabited β := ⟨C.zero⟩
    obtain ⟨V, hV⟩ := choose_lt hD
    have hlen : ((List.range len).map V).length = len := by simp
    have hget : ∀ i, i < len → ((List.range len).map V)[i]? = some (V i) := by intro i hi; simp [hi]
    refine ⟨(⟨some a, m⟩, (List.range len).map V), by simp, ⟨RdA.old ?_⟩, ?_, ?_, ?_⟩
    · refine ⟨C.flat_len _, some a, m, rfl, by rw [hlen]; exact hl, fun h => by simp at h, fun a' ha j u hu => ?_⟩
      cases ha
      have hj : j < (C.flat ((List.range len).map V)).length := (List.getElem?_eq_some_iff.1 hu).1
      rw [C.flat_len, hlen] at hj
      have hpos : 0 < C.size := by
        rcases Nat.eq_zero_or_pos C.size with h0 | h0
        · rw [h0] at hj; omega
        · exact h0
      have hi : j / C.size < len := by
        rw [Nat.div_lt_iff_lt_mul hpos]; exact hj
      have hr : j % C.size < C.size := Nat.mod_lt _ hpos
      have e1 : j / C.size * C.size + j % C.size = j := by rw [Nat.mul_comm]; exact Nat.div_add_mod _ _
      have e2 := C.flat_get _ _ _ (hget _ hi)
      have e3 : (C.enc (V (j / C.size)))[j % C.size]? = some u := by
        rw [← e2, List.getElem?_take, if_pos hr, List.getElem?_drop, e1]
        exact hu
      obtain ⟨_, _, h3⟩ := World.cells?_some (hV _ hi).1
      have := h3 _ hr
      rw [Addr.add_add, e1] at this
      rw [this]; exact e3
    · simp only [hlen]
      have := hw ((((List.range len).map D).length + ((List.range (m - len)).map fun j => D (len + j)).length) * P.bytesOf C.e) (by
        simp only [DataW.weights, ht]
        exact List.mem_cons_self)
      simp only [List.length_map, List.length_range, hb] at this
      exact Nat.le_trans (Nat.mul_le_mul_right _ (Nat.le_add_right _ _)) this
    · simp only [hlen, Rows.uptoBulk]
      have := bulk_length ((List.range len).map D)
      simp only [List.length_map, List.length_range] at this
      omega
    · intro b hb
      simp only [List.mem_map, List.mem_range] at hb
      obtain ⟨i, hi, rfl⟩ := hb
      refine ⟨_, ?_, (hV i hi).2⟩
      have := bulk_mem (List.mem_map.2 ⟨i, by simpa using hi, rfl⟩ : D i ∈ (List.range len).map D)
      simp only [Rows.uptoBulk]
      omega

/-- A field of a struct. -/
theorem opn_field {fs : Array Field} {H : Type} {en : TypeId × Value → H} {n : Nat} {cs : List Value} {xs : List (DataW H × List MemPlace)} (ht : P.underlying t = some (.struct fs))
    (hw : ∀ n ∈ (DataW.agg (xs.map (·.1))).weights P t, n ≤ reachBytes)
    (hf : ∀ (i : Nat) (f : Field), fs[i]? = some f → DataW.trod en P W 0 (fun _ => true) true n f.type ((cs.drop f.offset).take (P.cellsOf f.type)) = xs[i]?)
    (i ft off sz : Nat) (hi' : ∃ f, fs[i]? = some f ∧ f.type = ft ∧ f.offset = off) (hc : P.cellsOf ft = sz) (hl : i < xs.length) {β : Type} {enc : β → List Value} {ok : β → Nat → Prop} (h : Opn P W ft enc ok) :
    ∃ b, (cs.drop off).take sz = enc b ∧ ∃ k', k' ≤ Rows.uptoBulk (DataW.agg (xs.map (·.1))) ∧ ok b k' := by
  obtain ⟨f, hi, rfl, rfl⟩ := hi'
  subst hc
  have h1 := hf i f hi
  rw [List.getElem?_eq_getElem hl] at h1
  obtain ⟨b, hb, hk⟩ := h.get en n _ _ h1 fun m hm => hw m (by
    simp only [DataW.weights, ht]
    exact DataW.weights_mem_each (j := i) (t := f.type) (d := xs[i].1) (by simp [hi]) (by simp [hl]) m hm)
  refine ⟨b, hb, _, ?_, hk⟩
  have := bulk_mem (List.mem_map.2 ⟨xs[i], List.getElem_mem hl, rfl⟩ : xs[i].1 ∈ xs.map (·.1))
  simp only [Rows.uptoBulk]
  omega

/-- A whole argument. -/
theorem opn_arg {β : Type} {enc : β → List Value} {ok : β → Nat → Prop} (h : Opn P W t enc ok) {H : Type} {en : TypeId × Value → H} {v : Value} {d : DataW H} {p : List MemPlace} (hd : DataW.Trod en P W 0 (fun _ => true) true t v d p)
    (hw : ∀ n ∈ d.weights P t, n ≤ reachBytes) : ∃ b, v.cells.toList = enc b ∧ ok b (Rows.uptoBulk d) := by
  obtain ⟨fuel, hf⟩ := hd
  exact h.get en fuel _ _ hf hw
end

theorem walk_end {P : Program} {f : FuncId} {args : Array Value} {W : World} (h : Calls P f args W (retP fun v w => v = .bool true ∧ Sat W w [old W])) : Calls P f args W fun e W' => e = .returned (.bool true) ∧ Below W.heap.size W W' :=
  h.mono fun e w he => by
    cases e with
    | returned v => obtain ⟨rfl, hS⟩ := he; exact ⟨rfl, hS.below 0 rfl⟩
    | panicked c => exact he.elim
    | outgrown => exact he.elim

theorem cells_one {v u : Value} (h : v.cells.toList = [u]) (hv : v.oneCell' = true) : v = u := by
  cases v <;> first | (simp [Value.cells] at h; exact h) | cases hv
theorem cells_agg {cs : Array Value} {l : List Value} (h : (Value.agg cs).cells.toList = l) : Value.agg cs = .agg l.toArray := by
  simp only [Value.cells] at h
  rw [← h]

end Go.Proofs.YteeepkimnpabiaaDoor

namespace Go.Proofs.YteeepkimnpabiaaDoor
open Go Go.RowKit Go.ChangeShapes
set_option linter.unusedSimpArgs false
set_option linter.unnecessarySimpa false
set_option linter.unusedSectionVars false
set_option linter.unusedVariables false

instance sc_3 : Sc Tryd.prog 3 := ⟨Tryd.isAgg3, Tryd.sizeOf3⟩
instance sc_4 : Sc Tryd.prog 4 := ⟨Tryd.isAgg4, Tryd.sizeOf4⟩
instance sc_5 : Sc Tryd.prog 5 := ⟨Tryd.isAgg5, Tryd.sizeOf5⟩
instance sc_9 : Sc Tryd.prog 9 := ⟨Tryd.isAgg9, Tryd.sizeOf9⟩
instance sc_21 : Sc Tryd.prog 21 := ⟨Tryd.isAgg21, Tryd.sizeOf21⟩
instance sc_22 : Sc Tryd.prog 22 := ⟨Tryd.isAgg22, Tryd.sizeOf22⟩
instance ag_24 : Ag Tryd.prog 24 6 := ⟨Tryd.isAgg24, Tryd.sizeOf24⟩
instance sc_25 : Sc Tryd.prog 25 := ⟨Tryd.isAgg25, Tryd.sizeOf25⟩
instance sc_34 : Sc Tryd.prog 34 := ⟨Tryd.isAgg34, Tryd.sizeOf34⟩
instance sc_35 : Sc Tryd.prog 35 := ⟨Tryd.isAgg35, Tryd.sizeOf35⟩
instance sc_51 : Sc Tryd.prog 51 := ⟨Tryd.isAgg51, Tryd.sizeOf51⟩
instance sc_54 : Sc Tryd.prog 54 := ⟨Tryd.isAgg54, Tryd.sizeOf54⟩
instance sc_57 : Sc Tryd.prog 57 := ⟨Tryd.isAgg57, Tryd.sizeOf57⟩
instance sc_58 : Sc Tryd.prog 58 := ⟨Tryd.isAgg58, Tryd.sizeOf58⟩
instance sc_59 : Sc Tryd.prog 59 := ⟨Tryd.isAgg59, Tryd.sizeOf59⟩
instance sc_63 : Sc Tryd.prog 63 := ⟨Tryd.isAgg63, Tryd.sizeOf63⟩
instance ag_65 : Ag Tryd.prog 65 7 := ⟨Tryd.isAgg65, Tryd.sizeOf65⟩
instance sc_69 : Sc Tryd.prog 69 := ⟨Tryd.isAgg69, Tryd.sizeOf69⟩
instance sc_71 : Sc Tryd.prog 71 := ⟨Tryd.isAgg71, Tryd.sizeOf71⟩
instance ag_73 : Ag Tryd.prog 73 4 := ⟨Tryd.isAgg73, Tryd.sizeOf73⟩
instance ag_75 : Ag Tryd.prog 75 2 := ⟨Tryd.isAgg75, Tryd.sizeOf75⟩
instance sc_84 : Sc Tryd.prog 84 := ⟨Tryd.isAgg84, Tryd.sizeOf84⟩
instance ag_100 : Ag Tryd.prog 100 256 := ⟨Tryd.isAgg100, Tryd.sizeOf100⟩
instance sc_104 : Sc Tryd.prog 104 := ⟨Tryd.isAgg104, Tryd.sizeOf104⟩
instance ag_114 : Ag Tryd.prog 114 256 := ⟨Tryd.isAgg114, Tryd.sizeOf114⟩
instance ag_116 : Ag Tryd.prog 116 2 := ⟨Tryd.isAgg116, Tryd.sizeOf116⟩
instance ag_117 : Ag Tryd.prog 117 32 := ⟨Tryd.isAgg117, Tryd.sizeOf117⟩
instance zv_3 : Zv Tryd.prog 3 [(.int .i64 0)] := ⟨_, Tryd.zeroValue3, rfl⟩
instance zv_4 : Zv Tryd.prog 4 [(.bool false)] := ⟨_, Tryd.zeroValue4, rfl⟩
instance zv_5 : Zv Tryd.prog 5 [(bv 0)] := ⟨_, Tryd.zeroValue5, rfl⟩
instance zv_9 : Zv Tryd.prog 9 [(.string ⟨#[]⟩)] := ⟨_, Tryd.zeroValue9, rfl⟩
instance zv_21 : Zv Tryd.prog 21 [(.int .i32 0)] := ⟨_, Tryd.zeroValue21, rfl⟩
instance zv_22 : Zv Tryd.prog 22 [(.slice none 0 0)] := ⟨_, Tryd.zeroValue22, rfl⟩
instance zv_24 : Zv Tryd.prog 24 [(.string ⟨#[]⟩), (.string ⟨#[]⟩), (.int .i64 0), (.int .i64 0), (.int .i64 0), (.slice none 0 0)] := ⟨_, Tryd.zeroValue24, rfl⟩
instance zv_25 : Zv Tryd.prog 25 [(.int .i64 0)] := ⟨_, Tryd.zeroValue25, rfl⟩
instance zv_34 : Zv Tryd.prog 34 [(.slice none 0 0)] := ⟨_, Tryd.zeroValue34, rfl⟩
instance zv_35 : Zv Tryd.prog 35 [(.pointer none)] := ⟨_, Tryd.zeroValue35, rfl⟩
instance zv_51 : Zv Tryd.prog 51 [.nilFunc] := ⟨_, Tryd.zeroValue51, rfl⟩
instance zv_54 : Zv Tryd.prog 54 [(.slice none 0 0)] := ⟨_, Tryd.zeroValue54, rfl⟩
instance zv_57 : Zv Tryd.prog 57 [(.slice none 0 0)] := ⟨_, Tryd.zeroValue57, rfl⟩
instance zv_58 : Zv Tryd.prog 58 [(.slice none 0 0)] := ⟨_, Tryd.zeroValue58, rfl⟩
instance zv_59 : Zv Tryd.prog 59 [.nilFunc] := ⟨_, Tryd.zeroValue59, rfl⟩
instance zv_63 : Zv Tryd.prog 63 [(.pointer none)] := ⟨_, Tryd.zeroValue63, rfl⟩
instance zv_65 : Zv Tryd.prog 65 [(.string ⟨#[]⟩), (.string ⟨#[]⟩), (.int .i64 0), (.int .i64 0), (.int .i64 0), (.slice none 0 0), (.int .i64 0)] := ⟨_, Tryd.zeroValue65, rfl⟩
instance zv_69 : Zv Tryd.prog 69 [(.slice none 0 0)] := ⟨_, Tryd.zeroValue69, rfl⟩
instance zv_71 : Zv Tryd.prog 71 [.nilFunc] := ⟨_, Tryd.zeroValue71, rfl⟩
instance zv_73 : Zv Tryd.prog 73 [(.int .i64 0), (.int .i64 0), .nilFunc, .nilFunc] := ⟨_, Tryd.zeroValue73, rfl⟩
instance zv_75 : Zv Tryd.prog 75 [(.slice none 0 0), (.slice none 0 0)] := ⟨_, Tryd.zeroValue75, rfl⟩
instance zv_84 : Zv Tryd.prog 84 [.nilFunc] := ⟨_, Tryd.zeroValue84, rfl⟩
instance zv_104 : Zv Tryd.prog 104 [(.pointer none)] := ⟨_, Tryd.zeroValue104, rfl⟩
instance zv_116 : Zv Tryd.prog 116 [(bv 0), (bv 0)] := ⟨_, Tryd.zeroValue116, rfl⟩
instance zv_117 : Zv Tryd.prog 117 [(bv 0), (bv 0), (bv 0), (bv 0), (bv 0), (bv 0), (bv 0), (bv 0), (bv 0), (bv 0), (bv 0), (bv 0), (bv 0), (bv 0), (bv 0), (bv 0), (bv 0), (bv 0), (bv 0), (bv 0), (bv 0), (bv 0), (bv 0), (bv 0), (bv 0), (bv 0), (bv 0), (bv 0), (bv 0), (bv 0), (bv 0), (bv 0)] := ⟨_, Tryd.zeroValue117, rfl⟩
structure T_api_Item where
  Name : List UInt8
  Link : List UInt8
  Kind : Int
  Mode : Int
  Time : Int
  Data : (Sl × List UInt8)
def T_api_Item.zero : T_api_Item := ⟨[], [], 0, 0, 0, (⟨none, 0⟩, [])⟩
def T_api_Item.enc (b : T_api_Item) : List Value := [.string ⟨List.toArray b.Name⟩, .string ⟨List.toArray b.Link⟩, .int .i64 b.Kind, .int .i64 b.Mode, .int .i64 b.Time, .slice b.Data.1.a b.Data.2.length b.Data.1.c]
def cd_int : Cd Int := { e := 3, size := 1, bytes := 8, zero := 0, enc := fun b => [.int .i64 b], len := fun _ => rfl, one := by intro b u hu; simp only [List.mem_cons, List.not_mem_nil, or_false] at hu; subst hu; rfl }
instance bt_int : Bt cd_int 8 := ⟨rfl⟩
def cd_uint8 : Cd UInt8 := { e := 5, size := 1, bytes := 1, zero := 0, enc := fun b => [bv b], len := fun _ => rfl, one := by intro b u hu; simp only [List.mem_cons, List.not_mem_nil, or_false] at hu; subst hu; rfl }
instance bt_uint8 : Bt cd_uint8 1 := ⟨rfl⟩
def cd_string : Cd (List UInt8) := { e := 9, size := 1, bytes := 16, zero := [], enc := fun b => [.string ⟨List.toArray b⟩], len := fun _ => rfl, one := by intro b u hu; simp only [List.mem_cons, List.not_mem_nil, or_false] at hu; subst hu; rfl }
instance bt_string : Bt cd_string 16 := ⟨rfl⟩
def cd_sl_uint8 : Cd (Sl × List UInt8) := { e := 22, size := 1, bytes := 24, zero := (⟨none, 0⟩, []), enc := fun b => [.slice b.1.a b.2.length b.1.c], len := fun _ => rfl, one := by intro b u hu; simp only [List.mem_cons, List.not_mem_nil, or_false] at hu; subst hu; rfl }
instance bt_sl_uint8 : Bt cd_sl_uint8 24 := ⟨rfl⟩
def cd_api_Item : Cd T_api_Item := { e := 24, size := 6, bytes := 80, zero := T_api_Item.zero, enc := T_api_Item.enc, len := fun _ => rfl, one := by intro b u hu; simp only [T_api_Item.enc, List.mem_cons, List.mem_append, List.not_mem_nil, or_false] at hu; rcases hu with rfl|rfl|rfl|rfl|rfl|rfl <;> rfl }
instance bt_api_Item : Bt cd_api_Item 80 := ⟨rfl⟩
theorem flat_uint8 (l : List UInt8) : cd_uint8.flat l = bvs l := cd_uint8.flat_single bv (fun _ => rfl) l
instance row_22 : Row Tryd.prog 22 UInt8 cd_uint8 := ⟨⟨(.int .u8 0), ⟨Tryd.underlying22, info_parts (by kernel_rfl), rfl, by decide⟩, rfl⟩, by decide⟩
instance row_34 : Row Tryd.prog 34 T_api_Item cd_api_Item := ⟨⟨(.agg #[(.string ⟨#[]⟩), (.string ⟨#[]⟩), (.int .i64 0), (.int .i64 0), (.int .i64 0), (.slice none 0 0)]), ⟨Tryd.underlying34, info_parts (by kernel_rfl), rfl, by decide⟩, rfl⟩, by decide⟩
instance row_54 : Row Tryd.prog 54 Int cd_int := ⟨⟨(.int .i64 0), ⟨Tryd.underlying54, info_parts (by kernel_rfl), rfl, by decide⟩, rfl⟩, by decide⟩
instance row_57 : Row Tryd.prog 57 (Sl × List UInt8) cd_sl_uint8 := ⟨⟨(.slice none 0 0), ⟨Tryd.underlying57, info_parts (by kernel_rfl), rfl, by decide⟩, rfl⟩, by decide⟩
instance row_58 : Row Tryd.prog 58 (List UInt8) cd_string := ⟨⟨(.string ⟨#[]⟩), ⟨Tryd.underlying58, info_parts (by kernel_rfl), rfl, by decide⟩, rfl⟩, by decide⟩
section
variable [Pan] {w : World} {K : Value → World → Prop} {J : Value → Prop}
instance fa_24_0 : FA Tryd.prog 24 0 0 := ⟨fun a w => by kernel_rfl⟩
instance fa_24_1 : FA Tryd.prog 24 1 1 := ⟨fun a w => by kernel_rfl⟩
instance fa_24_2 : FA Tryd.prog 24 2 2 := ⟨fun a w => by kernel_rfl⟩
instance fa_24_3 : FA Tryd.prog 24 3 3 := ⟨fun a w => by kernel_rfl⟩
instance fa_24_4 : FA Tryd.prog 24 4 4 := ⟨fun a w => by kernel_rfl⟩
instance fa_24_5 : FA Tryd.prog 24 5 5 := ⟨fun a w => by kernel_rfl⟩
instance fa_65_0 : FA Tryd.prog 65 0 0 := ⟨fun a w => by kernel_rfl⟩
instance fa_65_1 : FA Tryd.prog 65 1 6 := ⟨fun a w => by kernel_rfl⟩
instance fa_73_0 : FA Tryd.prog 73 0 0 := ⟨fun a w => by kernel_rfl⟩
instance fa_73_1 : FA Tryd.prog 73 1 1 := ⟨fun a w => by kernel_rfl⟩
instance fa_73_2 : FA Tryd.prog 73 2 2 := ⟨fun a w => by kernel_rfl⟩
instance fa_73_3 : FA Tryd.prog 73 3 3 := ⟨fun a w => by kernel_rfl⟩
instance fa_75_0 : FA Tryd.prog 75 0 0 := ⟨fun a w => by kernel_rfl⟩
instance fa_75_1 : FA Tryd.prog 75 1 1 := ⟨fun a w => by kernel_rfl⟩
instance fa_116_0 : FA Tryd.prog 116 0 0 := ⟨fun a w => by kernel_rfl⟩
instance fa_116_1 : FA Tryd.prog 116 1 1 := ⟨fun a w => by kernel_rfl⟩
instance tob_3_5 : ToB Tryd.prog 3 5 := ⟨fun _ k n => run_conv_int k Tryd.underlying3 Tryd.underlying5 n⟩
instance ofb_5_3 : OfB Tryd.prog 5 3 .i64 := ⟨fun _ k n => run_conv_int k Tryd.underlying5 Tryd.underlying3 n, fun n h1 h2 => wrap_i64 (by omega)⟩
instance strt_22_9 : StrT Tryd.prog 22 9 cd_uint8 := ⟨⟨_, Tryd.underlying22, Tryd.underlying5⟩, Tryd.underlying9, rfl, fun _ => rfl⟩
theorem pN_shl_3_u64_3 (xo yo : Operand) (a : Int) : pN Tryd.prog (oBin .shl 3 xo yo (.int .i64 a) (.int .u64 3)) w K = K (.int .i64 (IntKind.wrap .i64 (a * 8))) w := pN_shln 3 3 8 rfl (by decide) (by decide)
theorem pA_shl_3_u64_3 (xo yo : Operand) (a : Int) : pA Tryd.prog (oBin .shl 3 xo yo (.int .i64 a) (.int .u64 3)) J = J (.int .i64 (IntKind.wrap .i64 (a * 8))) := pA_shln 3 3 8 rfl (by decide) (by decide)
theorem pN_shl_21_u64_12 (xo yo : Operand) (a : Int) : pN Tryd.prog (oBin .shl 21 xo yo (.int .i32 a) (.int .u64 12)) w K = K (.int .i32 (IntKind.wrap .i32 (a * 4096))) w := pN_shln 12 12 4096 rfl (by decide) (by decide)
theorem pA_shl_21_u64_12 (xo yo : Operand) (a : Int) : pA Tryd.prog (oBin .shl 21 xo yo (.int .i32 a) (.int .u64 12)) J = J (.int .i32 (IntKind.wrap .i32 (a * 4096))) := pA_shln 12 12 4096 rfl (by decide) (by decide)
theorem pN_shl_21_u64_18 (xo yo : Operand) (a : Int) : pN Tryd.prog (oBin .shl 21 xo yo (.int .i32 a) (.int .u64 18)) w K = K (.int .i32 (IntKind.wrap .i32 (a * 262144))) w := pN_shln 18 18 262144 rfl (by decide) (by decide)
theorem pA_shl_21_u64_18 (xo yo : Operand) (a : Int) : pA Tryd.prog (oBin .shl 21 xo yo (.int .i32 a) (.int .u64 18)) J = J (.int .i32 (IntKind.wrap .i32 (a * 262144))) := pA_shln 18 18 262144 rfl (by decide) (by decide)
theorem pN_shl_21_u64_31 (xo yo : Operand) (a : Int) : pN Tryd.prog (oBin .shl 21 xo yo (.int .i32 a) (.int .u64 31)) w K = K (.int .i32 (IntKind.wrap .i32 (a * 2147483648))) w := pN_shln 31 31 2147483648 rfl (by decide) (by decide)
theorem pA_shl_21_u64_31 (xo yo : Operand) (a : Int) : pA Tryd.prog (oBin .shl 21 xo yo (.int .i32 a) (.int .u64 31)) J = J (.int .i32 (IntKind.wrap .i32 (a * 2147483648))) := pA_shln 31 31 2147483648 rfl (by decide) (by decide)
theorem pN_shl_21_u64_6 (xo yo : Operand) (a : Int) : pN Tryd.prog (oBin .shl 21 xo yo (.int .i32 a) (.int .u64 6)) w K = K (.int .i32 (IntKind.wrap .i32 (a * 64))) w := pN_shln 6 6 64 rfl (by decide) (by decide)
theorem pA_shl_21_u64_6 (xo yo : Operand) (a : Int) : pA Tryd.prog (oBin .shl 21 xo yo (.int .i32 a) (.int .u64 6)) J = J (.int .i32 (IntKind.wrap .i32 (a * 64))) := pA_shln 6 6 64 rfl (by decide) (by decide)
theorem pN_shr_3_u64_3 (xo yo : Operand) (a : Int) : pN Tryd.prog (oBin .shr 3 xo yo (.int .i64 a) (.int .u64 3)) w K = K (.int .i64 (a / 8)) w := pN_shrn 3 3 8 rfl (by decide) (by decide)
theorem pA_shr_3_u64_3 (xo yo : Operand) (a : Int) : pA Tryd.prog (oBin .shr 3 xo yo (.int .i64 a) (.int .u64 3)) J = J (.int .i64 (a / 8)) := pA_shrn 3 3 8 rfl (by decide) (by decide)
theorem pN_shr_3_u64_4 (xo yo : Operand) (a : Int) : pN Tryd.prog (oBin .shr 3 xo yo (.int .i64 a) (.int .u64 4)) w K = K (.int .i64 (a / 16)) w := pN_shrn 4 4 16 rfl (by decide) (by decide)
theorem pA_shr_3_u64_4 (xo yo : Operand) (a : Int) : pA Tryd.prog (oBin .shr 3 xo yo (.int .i64 a) (.int .u64 4)) J = J (.int .i64 (a / 16)) := pA_shrn 4 4 16 rfl (by decide) (by decide)
theorem pN_shr_5_u64_4 (xo yo : Operand) (a : Int) : pN Tryd.prog (oBin .shr 5 xo yo (.int .u8 a) (.int .u64 4)) w K = K (.int .u8 (a / 16)) w := pN_shrn 4 4 16 rfl (by decide) (by decide)
theorem pA_shr_5_u64_4 (xo yo : Operand) (a : Int) : pA Tryd.prog (oBin .shr 5 xo yo (.int .u8 a) (.int .u64 4)) J = J (.int .u8 (a / 16)) := pA_shrn 4 4 16 rfl (by decide) (by decide)
theorem pN_shr_21_u64_31 (xo yo : Operand) (a : Int) : pN Tryd.prog (oBin .shr 21 xo yo (.int .i32 a) (.int .u64 31)) w K = K (.int .i32 (a / 2147483648)) w := pN_shrn 31 31 2147483648 rfl (by decide) (by decide)
theorem pA_shr_21_u64_31 (xo yo : Operand) (a : Int) : pA Tryd.prog (oBin .shr 21 xo yo (.int .i32 a) (.int .u64 31)) J = J (.int .i32 (a / 2147483648)) := pA_shrn 31 31 2147483648 rfl (by decide) (by decide)
theorem pN_and_3_7 (xo yo : Operand) (a : Int) : pN Tryd.prog (oBin .and 3 xo yo (.int .i64 a) (.int .i64 7)) w K = K (.int .i64 (a % 8)) w := pN_andn 3 7 8 rfl rfl (by decide) (wrap_i64 (by omega))
theorem pA_and_3_7 (xo yo : Operand) (a : Int) : pA Tryd.prog (oBin .and 3 xo yo (.int .i64 a) (.int .i64 7)) J = J (.int .i64 (a % 8)) := pA_andn 3 7 8 rfl rfl (by decide) (wrap_i64 (by omega))
theorem run_bld_24_  (w : World) : (oBuild 24 []).run Tryd.prog w = .ok (.value (.agg #[(.string ⟨#[]⟩), (.string ⟨#[]⟩), (.int .i64 0), (.int .i64 0), (.int .i64 0), (.slice none 0 0)])) w := by kernel_rfl
theorem pN_bld_24_  : pN Tryd.prog (oBuild 24 []) w K = K (.agg #[(.string ⟨#[]⟩), (.string ⟨#[]⟩), (.int .i64 0), (.int .i64 0), (.int .i64 0), (.slice none 0 0)]) w := by rw [pN_def, run_bld_24_, rN_value]
theorem run_bld_24_0 (x0 : ByteArray) (w : World) : (oBuild 24 [(0, .string x0)]).run Tryd.prog w = .ok (.value (.agg #[(.string x0), (.string ⟨#[]⟩), (.int .i64 0), (.int .i64 0), (.int .i64 0), (.slice none 0 0)])) w := by kernel_rfl
theorem pN_bld_24_0 (x0 : ByteArray) : pN Tryd.prog (oBuild 24 [(0, .string x0)]) w K = K (.agg #[(.string x0), (.string ⟨#[]⟩), (.int .i64 0), (.int .i64 0), (.int .i64 0), (.slice none 0 0)]) w := by rw [pN_def, run_bld_24_0, rN_value]
theorem run_bld_24_0_1_2_3_4 (x0 : ByteArray) (x1 : ByteArray) (x2 : Int) (x3 : Int) (x4 : Int) (w : World) : (oBuild 24 [(0, .string x0), (1, .string x1), (2, .int .i64 x2), (3, .int .i64 x3), (4, .int .i64 x4)]).run Tryd.prog w = .ok (.value (.agg #[(.string x0), (.string x1), (.int .i64 x2), (.int .i64 x3), (.int .i64 x4), (.slice none 0 0)])) w := by kernel_rfl
theorem pN_bld_24_0_1_2_3_4 (x0 : ByteArray) (x1 : ByteArray) (x2 : Int) (x3 : Int) (x4 : Int) : pN Tryd.prog (oBuild 24 [(0, .string x0), (1, .string x1), (2, .int .i64 x2), (3, .int .i64 x3), (4, .int .i64 x4)]) w K = K (.agg #[(.string x0), (.string x1), (.int .i64 x2), (.int .i64 x3), (.int .i64 x4), (.slice none 0 0)]) w := by rw [pN_def, run_bld_24_0_1_2_3_4, rN_value]
theorem run_bld_24_0_3_4_5 (x0 : ByteArray) (x3 : Int) (x4 : Int) (x5 : Option Addr) (x5n x5c : Nat) (w : World) : (oBuild 24 [(0, .string x0), (3, .int .i64 x3), (4, .int .i64 x4), (5, .slice x5 x5n x5c)]).run Tryd.prog w = .ok (.value (.agg #[(.string x0), (.string ⟨#[]⟩), (.int .i64 0), (.int .i64 x3), (.int .i64 x4), (.slice x5 x5n x5c)])) w := by kernel_rfl
theorem pN_bld_24_0_3_4_5 (x0 : ByteArray) (x3 : Int) (x4 : Int) (x5 : Option Addr) (x5n x5c : Nat) : pN Tryd.prog (oBuild 24 [(0, .string x0), (3, .int .i64 x3), (4, .int .i64 x4), (5, .slice x5 x5n x5c)]) w K = K (.agg #[(.string x0), (.string ⟨#[]⟩), (.int .i64 0), (.int .i64 x3), (.int .i64 x4), (.slice x5 x5n x5c)]) w := by rw [pN_def, run_bld_24_0_3_4_5, rN_value]
theorem run_bld_75_  (w : World) : (oBuild 75 []).run Tryd.prog w = .ok (.value (.agg #[(.slice none 0 0), (.slice none 0 0)])) w := by kernel_rfl
theorem pN_bld_75_  : pN Tryd.prog (oBuild 75 []) w K = K (.agg #[(.slice none 0 0), (.slice none 0 0)]) w := by rw [pN_def, run_bld_75_, rN_value]
theorem run_bld_116_0_1 (x0 : UInt8) (x1 : UInt8) (w : World) : (oBuild 116 [(0, bv x0), (1, bv x1)]).run Tryd.prog w = .ok (.value (.agg #[(bv x0), (bv x1)])) w := by kernel_rfl
theorem pN_bld_116_0_1 (x0 : UInt8) (x1 : UInt8) : pN Tryd.prog (oBuild 116 [(0, bv x0), (1, bv x1)]) w K = K (.agg #[(bv x0), (bv x1)]) w := by rw [pN_def, run_bld_116_0_1, rN_value]
end
attribute [go_sem] pN_shl_3_u64_3 pA_shl_3_u64_3 pN_shl_21_u64_12 pA_shl_21_u64_12 pN_shl_21_u64_18 pA_shl_21_u64_18 pN_shl_21_u64_31 pA_shl_21_u64_31 pN_shl_21_u64_6 pA_shl_21_u64_6 pN_shr_3_u64_3 pA_shr_3_u64_3 pN_shr_3_u64_4 pA_shr_3_u64_4 pN_shr_5_u64_4 pA_shr_5_u64_4 pN_shr_21_u64_31 pA_shr_21_u64_31 pN_and_3_7 pA_and_3_7 pN_bld_24_ pN_bld_24_0 pN_bld_24_0_1_2_3_4 pN_bld_24_0_3_4_5 pN_bld_75_ pN_bld_116_0_1
theorem cells_3 : Tryd.prog.cellsOf 3 = 1 := by kernel_rfl
theorem bytes_3 : Tryd.prog.bytesOf 3 = 8 := by kernel_rfl
theorem cells_5 : Tryd.prog.cellsOf 5 = 1 := by kernel_rfl
theorem bytes_5 : Tryd.prog.bytesOf 5 = 1 := by kernel_rfl
theorem cells_9 : Tryd.prog.cellsOf 9 = 1 := by kernel_rfl
theorem bytes_9 : Tryd.prog.bytesOf 9 = 16 := by kernel_rfl
theorem cells_22 : Tryd.prog.cellsOf 22 = 1 := by kernel_rfl
theorem bytes_22 : Tryd.prog.bytesOf 22 = 24 := by kernel_rfl
theorem cells_24 : Tryd.prog.cellsOf 24 = 6 := by kernel_rfl
theorem bytes_24 : Tryd.prog.bytesOf 24 = 80 := by kernel_rfl
theorem cells_25 : Tryd.prog.cellsOf 25 = 1 := by kernel_rfl
theorem bytes_25 : Tryd.prog.bytesOf 25 = 8 := by kernel_rfl
theorem cells_34 : Tryd.prog.cellsOf 34 = 1 := by kernel_rfl
theorem bytes_34 : Tryd.prog.bytesOf 34 = 24 := by kernel_rfl
theorem cells_54 : Tryd.prog.cellsOf 54 = 1 := by kernel_rfl
theorem bytes_54 : Tryd.prog.bytesOf 54 = 24 := by kernel_rfl
theorem piece (cs : List Value) (o s : Nat) : cs.drop o = (cs.drop o).take s ++ cs.drop (o + s) := by rw [← List.drop_drop, List.take_append_drop]
def T_api_Item.ok (W : World) (b : T_api_Item) (k : Nat) : Prop := (∃ k', k' ≤ k ∧ (b.Name.length ≤ reachBytes ∧ b.Name.length + 1 ≤ k')) ∧ (∃ k', k' ≤ k ∧ (b.Link.length ≤ reachBytes ∧ b.Link.length + 1 ≤ k')) ∧ (-9223372036854775808 ≤ b.Kind ∧ b.Kind < 9223372036854775808) ∧ (-9223372036854775808 ≤ b.Mode ∧ b.Mode < 9223372036854775808) ∧ (-9223372036854775808 ≤ b.Time ∧ b.Time < 9223372036854775808) ∧ (∃ k', k' ≤ k ∧ (RdP cd_uint8 (old W) b.Data.1 b.Data.2 ∧ b.Data.2.length * 1 ≤ reachBytes ∧ b.Data.2.length + 1 ≤ k' ∧ ∀ c0 ∈ b.Data.2, ∃ k0, k0 ≤ k' ∧ True))
theorem opn_api_Item (W : World) : Opn Tryd.prog W 24 T_api_Item.enc (T_api_Item.ok W) := by
  refine ⟨fun {H} en fuel cs x hx hw => ?_⟩
  obtain ⟨xs, n, _, rfl, hl, hlen, hf⟩ := DataW.trod_struct Tryd.underlying24 hx
  have hlen : xs.length = 6 := hlen
  rw [cells_24] at hl
  obtain ⟨b0, e0, k0, m0, o0⟩ := opn_field Tryd.underlying24 hw hf 0 9 0 1 ⟨_, rfl, rfl, rfl⟩ cells_9 (by omega) (opn_str Tryd.underlying9)
  have q0 := piece cs 0 1
  rw [e0] at q0
  obtain ⟨b1, e1, k1, m1, o1⟩ := opn_field Tryd.underlying24 hw hf 1 9 1 1 ⟨_, rfl, rfl, rfl⟩ cells_9 (by omega) (opn_str Tryd.underlying9)
  have q1 := piece cs 1 1
  rw [e1] at q1
  obtain ⟨b2, e2, k2, m2, o2⟩ := opn_field Tryd.underlying24 hw hf 2 3 2 1 ⟨_, rfl, rfl, rfl⟩ cells_3 (by omega) (opn_i64 Tryd.underlying3)
  have q2 := piece cs 2 1
  rw [e2] at q2
  obtain ⟨b3, e3, k3, m3, o3⟩ := opn_field Tryd.underlying24 hw hf 3 3 3 1 ⟨_, rfl, rfl, rfl⟩ cells_3 (by omega) (opn_i64 Tryd.underlying3)
  have q3 := piece cs 3 1
  rw [e3] at q3
  obtain ⟨b4, e4, k4, m4, o4⟩ := opn_field Tryd.underlying24 hw hf 4 3 4 1 ⟨_, rfl, rfl, rfl⟩ cells_3 (by omega) (opn_i64 Tryd.underlying3)
  have q4 := piece cs 4 1
  rw [e4] at q4
  obtain ⟨b5, e5, k5, m5, o5⟩ := opn_field Tryd.underlying24 hw hf 5 22 5 1 ⟨_, rfl, rfl, rfl⟩ cells_22 (by omega) (opn_slice (C := cd_uint8) Tryd.underlying22 cells_5 bytes_5 (opn_u8 Tryd.underlying5))
  have q5 := piece cs 5 1
  rw [e5] at q5
  have hz : cs.drop 6 = [] := List.drop_of_length_le (by omega)
  refine ⟨⟨b0, b1, b2, b3, b4, b5⟩, ?_, ⟨⟨_, m0, o0⟩, ⟨_, m1, o1⟩, o2, o3, o4, ⟨_, m5, o5⟩⟩⟩
  have q : cs.drop 0 = _ := q0
  simp only [Nat.zero_add, Nat.reduceAdd, hz, List.drop_zero] at q q1 q2 q3 q4 q5
  rw [q1] at q
  rw [q2] at q
  rw [q3] at q
  rw [q4] at q
  rw [q5] at q
  exact q
end Go.Proofs.YteeepkimnpabiaaDoor
