/-
  Parts of memory found by their keys; rows of typed elements; the walk's steps over them. No program is named here.
-/
import Derived.Test.YtbgnnjfpiblkmaaDoorAgg
namespace Go.Proofs.YtbgnnjfpiblkmaaDoor
open Go
set_option linter.unusedSimpArgs false
set_option linter.unnecessarySimpa false
set_option linter.unusedSectionVars false
set_option linter.unusedVariables false

attribute [go_sem] List.length_set List.length_append List.length_replicate List.length_map List.length_cons List.length_nil List.length_take List.length_drop

/-! ### Finding -/

/-- The part 'F s' of a list, and the others. -/
class Fnd {σ : Type} (F : σ → HA) (L : List HA) (s : outParam σ) (M : outParam (List HA)) : Prop where
  perm : L.Perm (F s :: M)

instance (priority := 1100) Fnd.here {σ : Type} {F : σ → HA} {s : σ} {L : List HA} : Fnd F (F s :: L) s L := ⟨.refl _⟩
instance (priority := 1000) Fnd.there {σ : Type} {F : σ → HA} {A : HA} {s : σ} {L M : List HA} [h : Fnd F L s M] : Fnd F (A :: L) s (A :: M) :=
  ⟨(h.perm.cons A).trans (List.Perm.swap _ _ _)⟩

/-- A part itself. -/
class Has (A : HA) (L : List HA) (M : outParam (List HA)) : Prop where
  perm : L.Perm (A :: M)
instance (priority := 1100) Has.here {A : HA} {L : List HA} : Has A (A :: L) L := ⟨.refl _⟩
instance (priority := 1000) Has.there {A B : HA} {L M : List HA} [h : Has A L M] : Has A (B :: L) (B :: M) := ⟨(h.perm.cons B).trans (List.Perm.swap _ _ _)⟩

/-- One list of parts out of another: in any order; what is not asked is let go. -/
class Arr (L N : List HA) : Prop where
  arr : ∀ h, Sats L h → Sats N h

instance (priority := 1200) Arr.same {L : List HA} : Arr L L := ⟨fun _ h => h⟩
instance (priority := 1100) Arr.nil {L : List HA} : Arr L [] := ⟨fun _ _ => trivial⟩
instance (priority := 1050) Arr.next {A : HA} {L M N : List HA} [h : Has A L M] [k : Arr M N] : Arr L (A :: N) :=
  ⟨fun _ hs => Sats.cons_mono k.arr (hs.perm h.perm)⟩
instance (priority := 100) Arr.let_go {A : HA} {L N : List HA} [k : Arr L N] : Arr (A :: L) N :=
  ⟨fun hp hs => k.arr hp (by obtain ⟨h1, _, s, hr⟩ := hs; exact hr.mono (less_sub _ _))⟩

section
variable {E w w' : World} {A B : HA} {L M N : List HA}

theorem Sat.fd {σ : Type} (hS : Sat E w L) (F : σ → HA) {s : σ} [h : Fnd F L s M] : Sat E w (F s :: M) := hS.perm h.perm
theorem Sat.fd2 {σ τ : Type} (hS : Sat E w L) (F : σ → HA) (G : τ → HA) {s : σ} {t : τ} [h : Fnd F L s M] [k : Fnd G M t N] : Sat E w (F s :: G t :: N) := hS.perm (h.perm.trans (k.perm.cons _))
theorem Sat.to (hS : Sat E w L) [h : Arr L N] : Sat E w N := ⟨hS.os, hS.tape, hS.output, h.arr _ hS.sats⟩
end

/-! ### Variables -/

/-- What a block holds: its element type, its cells. -/
structure Ob where
  e : TypeId
  cs : List Value

def cel (b : Nat) (o : Ob) : HA := blk b (.cells o.cs.toArray o.e (0, 0))

/-- Types of one cell. -/
class Sc (P : Program) (t : TypeId) : Prop where
  na : ∀ w, (isAgg t).run P w = .ok false w
  sz : ∀ w, (sizeOf t).run P w = .ok 1 w

/-- Types of several cells. -/
class Ag (P : Program) (t : TypeId) (n : outParam Nat) : Prop where
  ag : ∀ w, (isAgg t).run P w = .ok true w
  sz : ∀ w, (sizeOf t).run P w = .ok n w

/-- What is at an address. -/
def At (w : World) (a : Addr) (cs : List Value) : Prop := ∀ (j : Nat) (u : Value), cs[j]? = some u → w.cell? (a.add j) = some u

section
variable [Pan] {P : Program} {E w : World} {K : Value → World → Prop} {J : Value → Prop} {L M : List HA} {v : Value} {t : TypeId} {o : Ob} {b i : Nat}

theorem cel_at (hS : Sat E w L) [h : Fnd (cel b) L o M] : w.heap[b]? = some (.cells o.cs.toArray o.e (0, 0)) := (hS.fd (cel b)).blk_at 0 rfl

theorem cel_cell (hS : Sat E w L) [h : Fnd (cel b) L o M] (hv : o.cs[i]? = some v) : w.cell? ⟨b, i, none⟩ = some v := by
  rw [cell_of_blk (cel_at (b := b) hS)]; simpa using hv

theorem run_l (hS : Sat E w L) [h : Fnd (cel b) L o M] [Sc P t] (hv : o.cs[i]? = some v) : (oLoad t (.pointer (some ⟨b, i, none⟩))).run P w = .ok (.value v) w :=
  run_load Sc.na (cel_cell (b := b) hS hv)
theorem pN_l (hS : Sat E w L) [h : Fnd (cel b) L o M] [Sc P t] (hv : o.cs[i]? = some v) (hk : K v w) : pN P (oLoad t (.pointer (some ⟨b, i, none⟩))) w K :=
  pN_ld Sc.na (cel_cell (b := b) hS hv) hk
theorem pL_l (hS : Sat E w L) [h : Fnd (cel b) L o M] [Sc P t] (hv : o.cs[i]? = some v) (hk : J v) : pL P (oLoad t (.pointer (some ⟨b, i, none⟩))) w J :=
  pL_ld Sc.na (cel_cell (b := b) hS hv) hk

theorem pN_s (hS : Sat E w L) [h : Fnd (cel b) L o M] [Sc P t] (hi : i < o.cs.length) (hv : v.oneCell' = true)
    (hk : ∀ w', Sat E w' (cel b ⟨o.e, o.cs.set i v⟩ :: M) → K undef w') : pN P (oStore t (.pointer (some ⟨b, i, none⟩)) v) w K := by
  refine pN_st_blk (hS.fd (cel b)) Sc.sz hv (by simpa using hi) fun w' hS' => hk w' ?_
  simpa [cel] using hS'

/-- A variable of several cells: loaded, stored whole. -/
theorem pN_la {n : Nat} (hS : Sat E w L) [h : Fnd (cel b) L o M] [Ag P t n] (hn : n = o.cs.length) (hk : K (.agg o.cs.toArray) w) : pN P (oLoad t (.pointer (some ⟨b, 0, none⟩))) w K :=
  pN_ld_all Ag.ag Ag.sz (by simpa using hn) (cel_at (b := b) hS) hk
theorem pL_ra {n : Nat} (hS : Sat E w L) [h : Fnd (cel b) L o M] [Ag P t n] (hn : n = o.cs.length) (hk : J (.agg o.cs.toArray)) : pL P (oRes t (.pointer (some ⟨b, 0, none⟩))) w J :=
  pL_res_all Ag.ag Ag.sz (by simpa using hn) (cel_at (b := b) hS) hk
theorem pL_la {n : Nat} (hS : Sat E w L) [h : Fnd (cel b) L o M] [Ag P t n] (hn : n = o.cs.length) (hk : J (.agg o.cs.toArray)) : pL P (oLoad t (.pointer (some ⟨b, 0, none⟩))) w J := by
  subst hn
  have hc := cells_of_blk (o := 0) (cel_at (b := b) hS) o.cs.length
  exact ⟨_, run_load_agg (cs := o.cs) Ag.ag Ag.sz (by simpa [List.take_of_length_le] using hc), hk⟩
theorem pL_r (hS : Sat E w L) [h : Fnd (cel b) L o M] [Sc P t] (hv : o.cs[i]? = some v) (hk : J v) : pL P (oRes t (.pointer (some ⟨b, i, none⟩))) w J := by
  refine ⟨v, ?_, hk⟩
  have hr := run_load (P := P) (w := w) (t := t) Sc.na (cel_cell (b := b) hS hv)
  exact hr
theorem pN_sa {n : Nat} {us : List Value} (hS : Sat E w L) [h : Fnd (cel b) L o M] [Ag P t n] (hn : n = us.length) (ho : us.length = o.cs.length) (h1 : us.all (·.oneCell') = true)
    (hk : ∀ w', Sat E w' (cel b ⟨o.e, us⟩ :: M) → K undef w') : pN P (oStore t (.pointer (some ⟨b, 0, none⟩)) (.agg us.toArray)) w K :=
  pN_st_all (hS.fd (cel b)) Ag.sz (by simpa using hn) (by simpa using List.all_eq_true.1 h1) (by simpa using ho) hk

theorem pN_nw {u : Value} {z : List Value} (hS : Sat E w L) (hz : ∀ w, (zeroValue t).run P w = .ok u w) (hc : u.cells = z.toArray)
    (hk : ∀ a w', Sat E w' (cel a ⟨t, z⟩ :: L) → K (.pointer (some ⟨a, 0, none⟩)) w') : pN P (oAlloc t) w K :=
  pN_alloc hz hS fun a w' h => hk a w' (by rw [hc] at h; exact h)
theorem pN_bx {u : Value} {z : List Value} (hS : Sat E w L) (hc : u.cells = z.toArray)
    (hk : ∀ a w', Sat E w' (cel a ⟨t, z⟩ :: L) → K (.pointer (some ⟨a, 0, none⟩)) w') : pN P (oBox t u) w K :=
  pN_box hS fun a w' h => hk a w' (by rw [hc] at h; exact h)

omit [Pan] in
/-- Types with a zero value. -/
class Zv (P : Program) (t : TypeId) (z : outParam (List Value)) : Prop where
  zv : ∃ u : Value, (∀ w, (zeroValue t).run P w = .ok u w) ∧ u.cells = z.toArray
theorem pN_nz {z : List Value} (hS : Sat E w L) [h : Zv P t z] (hk : ∀ a w', Sat E w' (cel a ⟨t, z⟩ :: L) → K (.pointer (some ⟨a, 0, none⟩)) w') : pN P (oAlloc t) w K := by
  obtain ⟨u, h1, h2⟩ := h.zv
  exact pN_nw hS h1 h2 hk

omit [Pan] in
/-- A number that a world holds, for a measure. -/
def wInt (b i : Nat) (w : World) : Nat := match w.cell? ⟨b, i, none⟩ with
  | some (.int _ n) => n.toNat
  | _ => 0
theorem wInt_eq {k : IntKind} {n : Int} (hS : Sat E w L) [h : Fnd (cel b) L o M] (hv : o.cs[i]? = some (.int k n)) : wInt b i w = n.toNat := by
  unfold wInt
  rw [cel_cell hS hv]

theorem pDr_go {K : World → Prop} (hS : Sat E w L) (hk : ∀ w', Sat E w' L → K w') : pDr w K := hk _ hS.drew
end

/-! ### Rows -/

/-- Where a slice begins, and its room. -/
structure Sl where
  a : Option Addr
  c : Nat

/-- How elements lie in cells. -/
structure Cd (α : Type) where
  e : TypeId
  size : Nat
  bytes : Nat
  zero : α
  enc : α → List Value
  len : ∀ a, (enc a).length = size
  one : ∀ a, ∀ u ∈ enc a, u.oneCell' = true

def Cd.flat {α : Type} (C : Cd α) (l : List α) : List Value := (l.map C.enc).flatten

theorem Cd.flat_single {α : Type} (C : Cd α) (f : α → Value) (h : ∀ b, C.enc b = [f b]) (l : List α) : C.flat l = l.map f := by
  induction l with
  | nil => rfl
  | cons x l ih => simp only [Cd.flat, List.map_cons, List.flatten_cons, h] at ih ⊢; rw [ih]; rfl
theorem Cd.flat_nil {α : Type} (C : Cd α) : C.flat [] = [] := rfl
theorem Cd.flat_append {α : Type} (C : Cd α) (l m : List α) : C.flat (l ++ m) = C.flat l ++ C.flat m := by simp [Cd.flat]
theorem Cd.flat_len {α : Type} (C : Cd α) (l : List α) : (C.flat l).length = l.length * C.size := flat_length _ _ C.len l
theorem Cd.flat_get {α : Type} (C : Cd α) (l : List α) (i : Nat) (x : α) (h : l[i]? = some x) : ((C.flat l).drop (i * C.size)).take C.size = C.enc x := flat_at _ _ C.len l i x h
theorem Cd.flat_put {α : Type} (C : Cd α) (l : List α) (i : Nat) (x : α) (h : i < l.length) : (C.flat l).take (i * C.size) ++ C.enc x ++ (C.flat l).drop (i * C.size + C.size) = C.flat (l.set i x) := flat_set _ _ C.len l i x h
theorem Cd.flat_one {α : Type} (C : Cd α) (l : List α) : ∀ u ∈ C.flat l, u.oneCell' = true := by
  intro u hu
  simp only [Cd.flat, List.mem_flatten, List.mem_map] at hu
  obtain ⟨m, ⟨a, _, rfl⟩, hu⟩ := hu
  exact C.one a u hu
theorem Cd.flat_take {α : Type} (C : Cd α) (l : List α) (n : Nat) : (C.flat l).take (n * C.size) = C.flat (l.take n) := by
  induction l generalizing n with
  | nil => simp [Cd.flat]
  | cons x l ih =>
    cases n with
    | zero => simp [Cd.flat]
    | succ n =>
      have e : (n + 1) * C.size = C.size + n * C.size := by rw [Nat.add_mul, Nat.one_mul, Nat.add_comm]
      simp only [Cd.flat, List.map_cons, List.flatten_cons, List.take_succ_cons] at ih ⊢
      rw [List.take_append, C.len, e, Nat.add_sub_cancel_left, ih, List.take_of_length_le (by rw [C.len]; omega)]
theorem Cd.flat_drop {α : Type} (C : Cd α) (l : List α) (n : Nat) : (C.flat l).drop (n * C.size) = C.flat (l.drop n) := by
  induction l generalizing n with
  | nil => simp [Cd.flat]
  | cons x l ih =>
    cases n with
    | zero => simp [Cd.flat]
    | succ n =>
      have e : (n + 1) * C.size = C.size + n * C.size := by rw [Nat.add_mul, Nat.one_mul, Nat.add_comm]
      simp only [Cd.flat, List.map_cons, List.flatten_cons, List.drop_succ_cons] at ih ⊢
      rw [List.drop_append, C.len, e, Nat.add_sub_cancel_left, ih, List.drop_of_length_le (by rw [C.len]; omega), List.nil_append]

/-- A row of its own. -/
def rows {α : Type} (C : Cd α) (s : Sl) (l : List α) : HA := own C.e C.size (.slice s.a l.length s.c) l.length (C.flat l)

/-- A slice type. -/
class Row (P : Program) (t : TypeId) (α : outParam Type) (C : outParam (Cd α)) : Prop where
  st : ∃ z, SlT P t C.e z C.size C.bytes ∧ z.cells.toList = C.enc C.zero
  bpos : 0 < C.bytes

/-- An element's bytes. -/
class Bt {α : Type} (C : Cd α) (z : outParam Nat) : Prop where
  eq : C.bytes = z

/-- What can be read by a slice out of one part; out of a list of parts. -/
class RdP {α : Type} (C : Cd α) (A : HA) (s : Sl) (l : outParam (List α)) : Prop where
  rd : RdA A C.size (.slice s.a l.length s.c) l.length (C.flat l)
class Rds {α : Type} (C : Cd α) (L : List HA) (s : Sl) (l : outParam (List α)) : Prop where
  rd : ∀ E w, Sat E w L → Rd w C.size (.slice s.a l.length s.c) l.length (C.flat l)

section
variable {α : Type} {C : Cd α} {E w : World} {A B : HA} {L M : List HA} {s : Sl} {l : List α}

instance RdP.rows : RdP C (rows C s l) s l := ⟨RdA.own⟩
instance (priority := 1100) Rds.here [h : RdP C A s l] : Rds C (A :: L) s l := ⟨fun _ _ hS => hS.rd 0 rfl h.rd⟩
instance (priority := 1000) Rds.there [h : Rds C L s l] : Rds C (A :: L) s l := ⟨fun E w hS => h.rd E w hS.drop⟩
instance Rds.nil : Rds C L ⟨none, 0⟩ ([] : List α) := ⟨fun _ _ _ => Rd.nil⟩

theorem Sat.rds (hS : Sat E w L) [h : Rds C L s l] : Rd w C.size (.slice s.a l.length s.c) l.length (C.flat l) := h.rd E w hS

/-- A part of a slice. -/
def Sl.sub (s : Sl) (lo size : Nat) : Sl := ⟨if s.c = lo then s.a else s.a.map (·.add (lo * size)), s.c - lo⟩

theorem subV_sl (s : Sl) (n lo hi size : Nat) : subV (.slice s.a n s.c) lo hi size = .slice (s.sub lo size).a (hi - lo) (s.sub lo size).c := rfl
end

/-! ### The walk's steps -/

section
variable [Pan] {P : Program} {E w : World} {K : Value → World → Prop} {J : Value → Prop} {L M : List HA} {v : Value} {m : Sem Next} {A B : Prop}

theorem pN_via (h : ∀ K : Value → World → Prop, pN P m w K = K v w) (hk : K v w) : pN P m w K := by rw [h]; exact hk
theorem pA_via (h : ∀ J : Value → Prop, pA P m J = J v) (hk : J v) : pA P m J := by rw [h]; exact hk
theorem pL_via (h : ∀ J : Value → Prop, pL P m w J = J v) (hk : J v) : pL P m w J := by rw [h]; exact hk
theorem pIf_t (h : A) : pIf (.bool true) A B := h
theorem pIf_f (h : B) : pIf (.bool false) A B := h
theorem pIf_not {b : Bool} (h : pIf (.bool b) B A) : pIf (.bool !b) A B := by cases b <;> exact h
theorem gA_go {b : Bool} {x : (Value → Prop) → Prop} (hb : b = true) (h : x J) : gA b x J := by subst hb; exact h
theorem gA_no {b : Bool} {x : (Value → Prop) → Prop} (hb : b = false) (h : J undef) : gA b x J := by subst hb; exact h
theorem pGd_go {b : Bool} {x : (Value → World → Prop) → Prop} (hb : b = true) (h : x K) : pGd b x w K := by subst hb; exact h
theorem pGd_no {b : Bool} {x : (Value → World → Prop) → Prop} (hb : b = false) (h : K undef w) : pGd b x w K := by subst hb; exact h

section
variable {t : TypeId} {xo yo : Operand} {k : IntKind} {a b : Int} {x y : UInt8} {l r : List UInt8}
theorem pN_lss_s (ht : a < b → K (.bool true) w) (hf : ¬ a < b → K (.bool false) w) : pN P (oBin .lss t xo yo (.int k a) (.int k b)) w K := by
  rw [pN_lss]; by_cases h : a < b
  · rw [decide_eq_true h]; exact ht h
  · rw [decide_eq_false h]; exact hf h
theorem pA_lss_s (ht : a < b → J (.bool true)) (hf : ¬ a < b → J (.bool false)) : pA P (oBin .lss t xo yo (.int k a) (.int k b)) J := by
  rw [pA_lss]; by_cases h : a < b
  · rw [decide_eq_true h]; exact ht h
  · rw [decide_eq_false h]; exact hf h
theorem pN_lss_sb (ht : x < y → K (.bool true) w) (hf : ¬ x < y → K (.bool false) w) : pN P (oBin .lss t xo yo (bv x) (bv y)) w K := by
  refine pN_lss_s (fun h => ht ?_) (fun h => hf ?_)
  · rw [UInt8.lt_iff_toNat_lt] <;> omega
  · rw [UInt8.lt_iff_toNat_lt] <;> omega
theorem pN_leq_s (ht : a ≤ b → K (.bool true) w) (hf : ¬ a ≤ b → K (.bool false) w) : pN P (oBin .leq t xo yo (.int k a) (.int k b)) w K := by
  rw [pN_leq]; by_cases h : a ≤ b
  · rw [decide_eq_true h]; exact ht h
  · rw [decide_eq_false h]; exact hf h
theorem pA_leq_s (ht : a ≤ b → J (.bool true)) (hf : ¬ a ≤ b → J (.bool false)) : pA P (oBin .leq t xo yo (.int k a) (.int k b)) J := by
  rw [pA_leq]; by_cases h : a ≤ b
  · rw [decide_eq_true h]; exact ht h
  · rw [decide_eq_false h]; exact hf h
theorem pN_leq_sb (ht : x ≤ y → K (.bool true) w) (hf : ¬ x ≤ y → K (.bool false) w) : pN P (oBin .leq t xo yo (bv x) (bv y)) w K := by
  refine pN_leq_s (fun h => ht ?_) (fun h => hf ?_)
  · rw [UInt8.le_iff_toNat_le] <;> omega
  · rw [UInt8.le_iff_toNat_le] <;> omega
theorem pN_gtr_s (ht : b < a → K (.bool true) w) (hf : ¬ b < a → K (.bool false) w) : pN P (oBin .gtr t xo yo (.int k a) (.int k b)) w K := by
  rw [pN_gtr]; by_cases h : b < a
  · rw [decide_eq_true h]; exact ht h
  · rw [decide_eq_false h]; exact hf h
theorem pA_gtr_s (ht : b < a → J (.bool true)) (hf : ¬ b < a → J (.bool false)) : pA P (oBin .gtr t xo yo (.int k a) (.int k b)) J := by
  rw [pA_gtr]; by_cases h : b < a
  · rw [decide_eq_true h]; exact ht h
  · rw [decide_eq_false h]; exact hf h
theorem pN_gtr_sb (ht : y < x → K (.bool true) w) (hf : ¬ y < x → K (.bool false) w) : pN P (oBin .gtr t xo yo (bv x) (bv y)) w K := by
  refine pN_gtr_s (fun h => ht ?_) (fun h => hf ?_)
  · rw [UInt8.lt_iff_toNat_lt] <;> omega
  · rw [UInt8.lt_iff_toNat_lt] <;> omega
theorem pN_geq_s (ht : b ≤ a → K (.bool true) w) (hf : ¬ b ≤ a → K (.bool false) w) : pN P (oBin .geq t xo yo (.int k a) (.int k b)) w K := by
  rw [pN_geq]; by_cases h : b ≤ a
  · rw [decide_eq_true h]; exact ht h
  · rw [decide_eq_false h]; exact hf h
theorem pA_geq_s (ht : b ≤ a → J (.bool true)) (hf : ¬ b ≤ a → J (.bool false)) : pA P (oBin .geq t xo yo (.int k a) (.int k b)) J := by
  rw [pA_geq]; by_cases h : b ≤ a
  · rw [decide_eq_true h]; exact ht h
  · rw [decide_eq_false h]; exact hf h
theorem pN_geq_sb (ht : y ≤ x → K (.bool true) w) (hf : ¬ y ≤ x → K (.bool false) w) : pN P (oBin .geq t xo yo (bv x) (bv y)) w K := by
  refine pN_geq_s (fun h => ht ?_) (fun h => hf ?_)
  · rw [UInt8.le_iff_toNat_le] <;> omega
  · rw [UInt8.le_iff_toNat_le] <;> omega
theorem pN_eql_s (ht : a = b → K (.bool true) w) (hf : ¬ a = b → K (.bool false) w) : pN P (oBin .eql t xo yo (.int k a) (.int k b)) w K := by
  rw [pN_eql]; by_cases h : a = b
  · have e : (a == b) = true := beq_iff_eq.2 h
    simp only [bne, e]; exact ht h
  · have e : (a == b) = false := beq_eq_false_iff_ne.2 h
    simp only [bne, e]; exact hf h
theorem pA_eql_s (ht : a = b → J (.bool true)) (hf : ¬ a = b → J (.bool false)) : pA P (oBin .eql t xo yo (.int k a) (.int k b)) J := by
  rw [pA_eql]; by_cases h : a = b
  · have e : (a == b) = true := beq_iff_eq.2 h
    simp only [bne, e]; exact ht h
  · have e : (a == b) = false := beq_eq_false_iff_ne.2 h
    simp only [bne, e]; exact hf h
theorem pN_eql_sb (ht : x = y → K (.bool true) w) (hf : ¬ x = y → K (.bool false) w) : pN P (oBin .eql t xo yo (bv x) (bv y)) w K := by
  rw [pN_eql_bv]; by_cases h : x = y
  · have e : (x == y) = true := beq_iff_eq.2 h
    simp only [bne, e]; exact ht h
  · have e : (x == y) = false := beq_eq_false_iff_ne.2 h
    simp only [bne, e]; exact hf h
theorem pA_eql_sb (ht : x = y → J (.bool true)) (hf : ¬ x = y → J (.bool false)) : pA P (oBin .eql t xo yo (bv x) (bv y)) J := by
  rw [pA_eql_bv]; by_cases h : x = y
  · have e : (x == y) = true := beq_iff_eq.2 h
    simp only [bne, e]; exact ht h
  · have e : (x == y) = false := beq_eq_false_iff_ne.2 h
    simp only [bne, e]; exact hf h
theorem pN_eql_ss (ht : l = r → K (.bool true) w) (hf : ¬ l = r → K (.bool false) w) : pN P (oBin .eql t xo yo (.string ⟨List.toArray l⟩) (.string ⟨List.toArray r⟩)) w K := by
  rw [pN_eql_l]; by_cases h : l = r
  · have e : (l == r) = true := beq_iff_eq.2 h
    simp only [e]; exact ht h
  · have e : (l == r) = false := beq_eq_false_iff_ne.2 h
    simp only [e]; exact hf h
theorem pA_eql_ss (ht : l = r → J (.bool true)) (hf : ¬ l = r → J (.bool false)) : pA P (oBin .eql t xo yo (.string ⟨List.toArray l⟩) (.string ⟨List.toArray r⟩)) J := by
  rw [pA_eql_l]; by_cases h : l = r
  · have e : (l == r) = true := beq_iff_eq.2 h
    simp only [e]; exact ht h
  · have e : (l == r) = false := beq_eq_false_iff_ne.2 h
    simp only [e]; exact hf h
theorem pN_neq_s (ht : a = b → K (.bool false) w) (hf : ¬ a = b → K (.bool true) w) : pN P (oBin .neq t xo yo (.int k a) (.int k b)) w K := by
  rw [pN_neq]; by_cases h : a = b
  · have e : (a == b) = true := beq_iff_eq.2 h
    simp only [bne, e]; exact ht h
  · have e : (a == b) = false := beq_eq_false_iff_ne.2 h
    simp only [bne, e]; exact hf h
theorem pA_neq_s (ht : a = b → J (.bool false)) (hf : ¬ a = b → J (.bool true)) : pA P (oBin .neq t xo yo (.int k a) (.int k b)) J := by
  rw [pA_neq]; by_cases h : a = b
  · have e : (a == b) = true := beq_iff_eq.2 h
    simp only [bne, e]; exact ht h
  · have e : (a == b) = false := beq_eq_false_iff_ne.2 h
    simp only [bne, e]; exact hf h
theorem pN_neq_sb (ht : x = y → K (.bool false) w) (hf : ¬ x = y → K (.bool true) w) : pN P (oBin .neq t xo yo (bv x) (bv y)) w K := by
  rw [pN_neq_bv]; by_cases h : x = y
  · have e : (x == y) = true := beq_iff_eq.2 h
    simp only [bne, e]; exact ht h
  · have e : (x == y) = false := beq_eq_false_iff_ne.2 h
    simp only [bne, e]; exact hf h
theorem pA_neq_sb (ht : x = y → J (.bool false)) (hf : ¬ x = y → J (.bool true)) : pA P (oBin .neq t xo yo (bv x) (bv y)) J := by
  rw [pA_neq_bv]; by_cases h : x = y
  · have e : (x == y) = true := beq_iff_eq.2 h
    simp only [bne, e]; exact ht h
  · have e : (x == y) = false := beq_eq_false_iff_ne.2 h
    simp only [bne, e]; exact hf h
theorem pN_neq_ss (ht : l = r → K (.bool false) w) (hf : ¬ l = r → K (.bool true) w) : pN P (oBin .neq t xo yo (.string ⟨List.toArray l⟩) (.string ⟨List.toArray r⟩)) w K := by
  rw [pN_neq_l]; by_cases h : l = r
  · have e : (l == r) = true := beq_iff_eq.2 h
    simp only [e]; exact ht h
  · have e : (l == r) = false := beq_eq_false_iff_ne.2 h
    simp only [e]; exact hf h
theorem pA_neq_ss (ht : l = r → J (.bool false)) (hf : ¬ l = r → J (.bool true)) : pA P (oBin .neq t xo yo (.string ⟨List.toArray l⟩) (.string ⟨List.toArray r⟩)) J := by
  rw [pA_neq_l]; by_cases h : l = r
  · have e : (l == r) = true := beq_iff_eq.2 h
    simp only [e]; exact ht h
  · have e : (l == r) = false := beq_eq_false_iff_ne.2 h
    simp only [e]; exact hf h

theorem run_lss_l (w : World) : (oBin .lss t xo yo (.string ⟨List.toArray l⟩) (.string ⟨List.toArray r⟩)).run P w = .ok (.value (.bool (Op.bytesLess l r))) w := by
  refine run_bin_of t xo yo (by unfold eqGuard; rfl) ?_
  simp [binOp, Op.stringOp, str_list]
theorem run_leq_l (w : World) : (oBin .leq t xo yo (.string ⟨List.toArray l⟩) (.string ⟨List.toArray r⟩)).run P w = .ok (.value (.bool (Op.bytesLess l r || l == r))) w := by
  refine run_bin_of t xo yo (by unfold eqGuard; rfl) ?_
  simp [binOp, Op.stringOp, str_list]
theorem pN_lss_l : pN P (oBin .lss t xo yo (.string ⟨List.toArray l⟩) (.string ⟨List.toArray r⟩)) w K = K (.bool (Op.bytesLess l r)) w := by rw [pN_def, run_lss_l, rN_value]
theorem pA_lss_l : pA P (oBin .lss t xo yo (.string ⟨List.toArray l⟩) (.string ⟨List.toArray r⟩)) J = J (.bool (Op.bytesLess l r)) := by rw [pA_def, funext (fun w => run_lss_l w), rA_value]
theorem pN_leq_l : pN P (oBin .leq t xo yo (.string ⟨List.toArray l⟩) (.string ⟨List.toArray r⟩)) w K = K (.bool (Op.bytesLess l r || l == r)) w := by rw [pN_def, run_leq_l, rN_value]
theorem pA_leq_l : pA P (oBin .leq t xo yo (.string ⟨List.toArray l⟩) (.string ⟨List.toArray r⟩)) J = J (.bool (Op.bytesLess l r || l == r)) := by rw [pA_def, funext (fun w => run_leq_l w), rA_value]
attribute [go_sem] pN_lss_l pA_lss_l pN_leq_l pA_leq_l

/-! Shifts and masks by numerals -/

theorem pN_shrn {k' : IntKind} (n : Nat) (b c : Int) (hb : b = (n : Int)) (hc : c = 2 ^ n) (hn : n ≤ k.bits) : pN P (oBin .shr t xo yo (.int k a) (.int k' b)) w K = K (.int k (a / c)) w := by
  subst hb
  rw [pN_shr _ _ _ _ _ _ _ (by omega), Int.toNat_natCast, Nat.min_eq_left hn, ← hc, Int.fdiv_eq_ediv_of_nonneg _ (by rw [hc]; exact Int.pow_nonneg (by omega))]
theorem pA_shrn {k' : IntKind} (n : Nat) (b c : Int) (hb : b = (n : Int)) (hc : c = 2 ^ n) (hn : n ≤ k.bits) : pA P (oBin .shr t xo yo (.int k a) (.int k' b)) J = J (.int k (a / c)) := by
  subst hb
  rw [pA_shr _ _ _ _ _ _ _ (by omega), Int.toNat_natCast, Nat.min_eq_left hn, ← hc, Int.fdiv_eq_ediv_of_nonneg _ (by rw [hc]; exact Int.pow_nonneg (by omega))]
theorem pN_shln {k' : IntKind} (n : Nat) (b c : Int) (hb : b = (n : Int)) (hc : c = 2 ^ n) (hn : n ≤ k.bits) : pN P (oBin .shl t xo yo (.int k a) (.int k' b)) w K = K (.int k (k.wrap (a * c))) w := by
  subst hb
  rw [pN_shl _ _ _ _ _ _ _ (by omega), Int.toNat_natCast, Nat.min_eq_left hn, ← hc]
theorem pA_shln {k' : IntKind} (n : Nat) (b c : Int) (hb : b = (n : Int)) (hc : c = 2 ^ n) (hn : n ≤ k.bits) : pA P (oBin .shl t xo yo (.int k a) (.int k' b)) J = J (.int k (k.wrap (a * c))) := by
  subst hb
  rw [pA_shl _ _ _ _ _ _ _ (by omega), Int.toNat_natCast, Nat.min_eq_left hn, ← hc]

theorem pN_shr_k {k' : IntKind} (j : Nat) (hb : b = (j : Int)) (hj : j ≤ k.bits) (hk : K (.int k (a / 2 ^ j)) w) : pN P (oBin .shr t xo yo (.int k a) (.int k' b)) w K := by
  rw [pN_shrn j b (2 ^ j) hb rfl hj]; exact hk
theorem pA_shr_k {k' : IntKind} (j : Nat) (hb : b = (j : Int)) (hj : j ≤ k.bits) (hk : J (.int k (a / 2 ^ j))) : pA P (oBin .shr t xo yo (.int k a) (.int k' b)) J := by
  rw [pA_shrn j b (2 ^ j) hb rfl hj]; exact hk
theorem pN_shl_k {k' : IntKind} (j : Nat) (hb : b = (j : Int)) (hj : j ≤ k.bits) (hk : K (.int k (k.wrap (a * 2 ^ j))) w) : pN P (oBin .shl t xo yo (.int k a) (.int k' b)) w K := by
  rw [pN_shln j b (2 ^ j) hb rfl hj]; exact hk
theorem pA_shl_k {k' : IntKind} (j : Nat) (hb : b = (j : Int)) (hj : j ≤ k.bits) (hk : J (.int k (k.wrap (a * 2 ^ j)))) : pA P (oBin .shl t xo yo (.int k a) (.int k' b)) J := by
  rw [pA_shln j b (2 ^ j) hb rfl hj]; exact hk

theorem and_mask (n : Nat) (a : Int) (j : Nat) (hj : j < n) : ((BitVec.ofInt n a &&& BitVec.ofInt n ((2 : Int) ^ j - 1)).toNat : Int) = a % 2 ^ j := by
  have h1 : (BitVec.ofInt n ((2 : Int) ^ j - 1)).toNat = 2 ^ j - 1 := by
    rw [BitVec.toNat_ofInt]
    have p1 : (2 : Nat) ^ j < 2 ^ n := Nat.pow_lt_pow_right (by omega) hj
    have p0 : 0 < (2 : Nat) ^ j := Nat.two_pow_pos j
    have e1 : ((2 : Int) ^ j - 1) = ((2 ^ j - 1 : Nat) : Int) := by
      rw [Int.natCast_sub (by omega)]; norm_cast
    rw [e1]
    norm_cast
    rw [Int.toNat_natCast]
    exact Nat.mod_eq_of_lt (by omega)
  rw [BitVec.toNat_and, h1, Nat.and_two_pow_sub_one_eq_mod, BitVec.toNat_ofInt]
  have p2 : (0 : Int) < 2 ^ n := Int.pow_pos (by omega)
  rw [Int.natCast_emod, Int.toNat_of_nonneg (Int.emod_nonneg _ (by norm_cast at p2 ⊢; omega))]
  norm_cast
  refine Int.emod_emod_of_dvd _ ?_
  norm_cast
  exact Nat.pow_dvd_pow 2 (by omega)
theorem pN_andn (j : Nat) (b c : Int) (hb : b = 2 ^ j - 1) (hc : c = 2 ^ j) (hj : j < k.bits) (hw : k.wrap (a % c) = a % c) : pN P (oBin .and t xo yo (.int k a) (.int k b)) w K = K (.int k (a % c)) w := by
  subst hb
  rw [pN_and, and_mask _ _ _ hj, ← hc, hw]
theorem pA_andn (j : Nat) (b c : Int) (hb : b = 2 ^ j - 1) (hc : c = 2 ^ j) (hj : j < k.bits) (hw : k.wrap (a % c) = a % c) : pA P (oBin .and t xo yo (.int k a) (.int k b)) J = J (.int k (a % c)) := by
  subst hb
  rw [pA_and, and_mask _ _ _ hj, ← hc, hw]
end

theorem w_u32 {n : Int} (h : 0 ≤ n ∧ n < 4294967296) : IntKind.u32.wrap n = n := by rw [wrap_u32]; omega
theorem w_u64 {n : Int} (h : 0 ≤ n ∧ n < 18446744073709551616) : IntKind.u64.wrap n = n := by rw [wrap_u64]; omega
theorem w_u8 {n : Int} (h : 0 ≤ n ∧ n < 256) : IntKind.u8.wrap n = n := by rw [wrap_u8]; omega

/-- min and max of two. -/
theorem pN_min {t1 t2 ty : TypeId} {k : IntKind} {a b : Int} {cs : List Bool} : pN P (oBi .min #[t1, t2] ty cs [.int k a, .int k b]) w K = K (.int k (min a b)) w := by
  have : (oBi .min #[t1, t2] ty cs [.int k a, .int k b]).run P w = .ok (.value (.int k (min a b))) w := by
    by_cases h : b < a
    · have e : min a b = b := by omega
      simp [oBi, builtin, Builtin.min_, Builtin.min2, h, e]
    · have e : min a b = a := by omega
      simp [oBi, builtin, Builtin.min_, Builtin.min2, h, e]
  rw [pN_def, this, rN_value]
theorem pN_max {t1 t2 ty : TypeId} {k : IntKind} {a b : Int} {cs : List Bool} : pN P (oBi .max #[t1, t2] ty cs [.int k a, .int k b]) w K = K (.int k (max a b)) w := by
  have : (oBi .max #[t1, t2] ty cs [.int k a, .int k b]).run P w = .ok (.value (.int k (max a b))) w := by
    by_cases h : a < b
    · have e : max a b = b := by omega
      simp [oBi, builtin, Builtin.max_, Builtin.max2, h, e]
    · have e : max a b = a := by omega
      simp [oBi, builtin, Builtin.max_, Builtin.max2, h, e]
  rw [pN_def, this, rN_value]

/-! Bytes out of numbers -/

omit [Pan] in
def byteOf (n : Int) : UInt8 := UInt8.ofNat (n % 256).toNat
theorem byteOf_toNat (n : Int) : ((byteOf n).toNat : Int) = n % 256 := by
  simp only [byteOf, UInt8.toNat_ofNat']
  omega
theorem byteOf_nat (n : Int) : (byteOf n).toNat = (n % 256).toNat := by
  simp only [byteOf, UInt8.toNat_ofNat']
  omega
theorem byteOf_self (b : UInt8) : byteOf (b.toNat : Int) = b := by
  apply UInt8.toNat_inj.1
  have := byteOf_toNat (b.toNat : Int)
  have := b.toNat_lt
  omega
omit [Pan] in
class ToB (P : Program) (s d : TypeId) : Prop where
  eq : ∀ w (k : IntKind) (n : Int), (oConv s d (.int k n)).run P w = .ok (.value (.int .u8 (IntKind.u8.wrap n))) w
omit [Pan] in
class OfB (P : Program) (s d : TypeId) (kd : outParam IntKind) : Prop where
  eq : ∀ w (k : IntKind) (n : Int), (oConv s d (.int k n)).run P w = .ok (.value (.int kd (kd.wrap n))) w
  small : ∀ n : Int, 0 ≤ n → n < 256 → kd.wrap n = n
theorem pN_tob {s d : TypeId} [h : ToB P s d] {k : IntKind} {n : Int} (hk : K (bv (byteOf n)) w) : pN P (oConv s d (.int k n)) w K := by
  rw [pN_def, h.eq, rN_value]
  unfold bv at hk
  rw [byteOf_toNat] at hk
  rw [wrap_u8]
  exact hk
theorem pL_tob {s d : TypeId} [h : ToB P s d] {k : IntKind} {n : Int} (hk : J (bv (byteOf n))) : pL P (oConv s d (.int k n)) w J := by
  unfold bv at hk
  rw [byteOf_toNat] at hk
  refine ⟨_, h.eq w k n, ?_⟩
  rw [wrap_u8]
  exact hk
theorem pN_ofb {s d : TypeId} {kd : IntKind} [h : OfB P s d kd] {b : UInt8} (hk : K (.int kd b.toNat) w) : pN P (oConv s d (bv b)) w K := by
  have := b.toNat_lt
  unfold bv
  rw [pN_def, h.eq, rN_value, h.small _ (by omega) (by omega)]
  exact hk
theorem pL_ofb {s d : TypeId} {kd : IntKind} [h : OfB P s d kd] {b : UInt8} (hk : J (.int kd b.toNat)) : pL P (oConv s d (bv b)) w J := by
  have := b.toNat_lt
  unfold bv
  refine ⟨_, h.eq w .u8 b.toNat, ?_⟩
  rw [h.small _ (by omega) (by omega)]
  exact hk
end

/-! ### Rows: elements, append, make, parts -/

/-- The address of the element j of a slice. -/
def El {α : Type} (C : Cd α) (s : Sl) (j : Nat) (a : Addr) : Prop := ∃ b, s.a = some b ∧ a = b.add (j * C.size)

/-- What is at an address of a slice's elements, wherever the slice reads. -/
structure EA {α : Type} (C : Cd α) (s : Sl) (l : List α) (a : Addr) (cs : List Value) : Prop where
  at_ : ∀ E w M, Rds C M s l → Sat E w M → At w a cs

/-- The place of a field. -/
class FA (P : Program) (t : TypeId) (f : Nat) (off : outParam Nat) : Prop where
  run : ∀ (a : Addr) (w : World), (oFld t (.pointer (some a)) f).run P w = .ok (.value (.pointer (some (a.add off)))) w

section
variable [Pan] {P : Program} {E w : World} {K : Value → World → Prop} {J : Value → Prop} {L M : List HA} {v : Value} {α : Type} {C : Cd α} {t ty : TypeId} {s s2 : Sl} {l m : List α} {n n2 : Nat} {k k' : IntKind} {i : Int}

theorem Row.slt [h : Row P t α C] : SlT P t C.e (Classical.choose h.st) C.size C.bytes := (Classical.choose_spec h.st).1
theorem Row.zero [h : Row P t α C] : (Classical.choose h.st).cells.toList = C.enc C.zero := (Classical.choose_spec h.st).2

theorem run_ix (hS : Sat E w L) [h : Row P t α C] [hr : Rds C L s l] (j : Nat) (hj : i = (j : Int)) (hn : n = l.length) (hlt : j < l.length) :
    ∃ a x, (∀ w', (oIdx t (.slice s.a n s.c) (.int k i)).run P w' = .ok (.value (.pointer (some a))) w') ∧ l[j]? = some x ∧ EA C s l a (C.enc x) ∧ El C s j a := by
  subst hj hn
  have hr := hS.rds (C := C) (s := s)
  obtain ⟨hl, ao, cap, hv, hnc, hnil, hc⟩ := hr
  simp only [Value.slice.injEq, true_and] at hv
  obtain ⟨rfl, rfl⟩ := hv
  have ht := Row.slt (P := P) (t := t) (C := C)
  cases ha : s.a with
  | none => have := (hnil ha).1; omega
  | some b =>
    refine ⟨b.add (j * C.size), l[j], fun w' => ?_, by simp [hlt], ⟨fun E' w' M h' hS' => ?_⟩, b, ha, rfl⟩
    · refine run_oV_ok ?_
      have h2 : (0 : Int) ≤ j ∧ (j : Int) < l.length := by omega
      simp [Instr.indexAt, run_underlying ht.under, asIntOf, ht.sizeOf, hlt]
    · intro j' u hu
      have hr := hS'.rds (C := C) (s := s)
      obtain ⟨_, ao, cap, hv, _, _, hc⟩ := hr
      simp only [Value.slice.injEq, true_and] at hv
      obtain ⟨rfl, rfl⟩ := hv
      rw [Addr.add_add]
      refine hc b ha _ _ ?_
      rw [← C.flat_get l j l[j] (by simp [hlt])] at hu
      rw [List.getElem?_take] at hu
      split at hu
      · rwa [List.getElem?_drop] at hu
      · cases hu

theorem pN_ix (hS : Sat E w L) [Row P t α C] [hr : Rds C L s l] (j : Nat) (hj : i = (j : Int)) (hn : n = l.length) (hlt : j < l.length)
    (hk : ∀ a x, l[j]? = some x → EA C s l a (C.enc x) → El C s j a → K (.pointer (some a)) w) : pN P (oIdx t (.slice s.a n s.c) (.int k i)) w K := by
  obtain ⟨a, x, h1, h2, h3, h4⟩ := run_ix (P := P) (t := t) (k := k) (s := s) hS j hj hn hlt
  rw [pN_def, h1, rN_value]
  exact hk a x h2 h3 h4
theorem pA_ix (hS : Sat E w L) [Row P t α C] [hr : Rds C L s l] (j : Nat) (hj : i = (j : Int)) (hn : n = l.length) (hlt : j < l.length)
    (hk : ∀ a x, l[j]? = some x → EA C s l a (C.enc x) → El C s j a → J (.pointer (some a))) : pA P (oIdx t (.slice s.a n s.c) (.int k i)) J := by
  obtain ⟨a, x, h1, h2, h3, h4⟩ := run_ix (P := P) (t := t) (k := k) (s := s) hS j hj hn hlt
  exact ⟨_, h1, hk a x h2 h3 h4⟩

theorem pN_ixk {x : α} (hS : Sat E w L) [Row P t α C] [hr : Rds C L s l] (j : Nat) (hj : i = (j : Int)) (hn : n = l.length) (hx : l[j]? = some x)
    (hk : ∀ a, EA C s l a (C.enc x) → El C s j a → K (.pointer (some a)) w) : pN P (oIdx t (.slice s.a n s.c) (.int k i)) w K :=
  pN_ix hS j hj hn (List.getElem?_eq_some_iff.1 hx).1 fun a y h1 h2 h3 => by
    rw [hx, Option.some.injEq] at h1
    subst h1
    exact hk a h2 h3
theorem pA_ixk {x : α} (hS : Sat E w L) [Row P t α C] [hr : Rds C L s l] (j : Nat) (hj : i = (j : Int)) (hn : n = l.length) (hx : l[j]? = some x)
    (hk : ∀ a, EA C s l a (C.enc x) → El C s j a → J (.pointer (some a))) : pA P (oIdx t (.slice s.a n s.c) (.int k i)) J :=
  pA_ix hS j hj hn (List.getElem?_eq_some_iff.1 hx).1 fun a y h1 h2 h3 => by
    rw [hx, Option.some.injEq] at h1
    subst h1
    exact hk a h2 h3

theorem pN_ld_at {z : Nat} {a : Addr} {cs : List Value} (ha : EA C s l a cs) (hS : Sat E w L) [hr : Rds C L s l] [Ag P t z] (hn : z = cs.length) (hk : K (.agg cs.toArray) w) : pN P (oLoad t (.pointer (some a))) w K :=
  pN_ld_n Ag.ag Ag.sz hn (ha.at_ E w L hr hS) hk
theorem pL_ld_at {z : Nat} {a : Addr} {cs : List Value} (ha : EA C s l a cs) (hS : Sat E w L) [hr : Rds C L s l] [Ag P t z] (hn : z = cs.length) (hk : J (.agg cs.toArray)) : pL P (oLoad t (.pointer (some a))) w J := by
  subst hn
  exact ⟨_, run_load_agg Ag.ag Ag.sz (ha.at_ E w L hr hS), hk⟩
theorem run_ld1 {a : Addr} (ha : EA C s l a [v]) (hS : Sat E w L) [hr : Rds C L s l] [Sc P t] : (oLoad t (.pointer (some a))).run P w = .ok (.value v) w := by
  refine run_load Sc.na ?_
  have := ha.at_ E w L hr hS 0 v rfl
  rwa [Addr.add_zero'] at this
theorem pN_ld1 {a : Addr} (ha : EA C s l a [v]) (hS : Sat E w L) [hr : Rds C L s l] [Sc P t] (hk : K v w) : pN P (oLoad t (.pointer (some a))) w K := by
  rw [pN_def, run_ld1 ha hS, rN_value]; exact hk
theorem pL_ld1 {a : Addr} (ha : EA C s l a [v]) (hS : Sat E w L) [hr : Rds C L s l] [Sc P t] (hk : J v) : pL P (oLoad t (.pointer (some a))) w J :=
  ⟨v, run_ld1 ha hS, hk⟩
theorem EA.fld {a : Addr} {cs : List Value} (ha : EA C s l a cs) (off : Nat) (hv : cs[off]? = some v) : EA C s l (a.add off) [v] := ⟨fun E w M h hS j u hu => by
  have h1 := ha.at_ E w M h hS
  cases j with
  | zero =>
    simp only [List.getElem?_cons_zero, Option.some.injEq] at hu
    subst hu
    rw [Addr.add_zero']
    exact h1 off _ hv
  | succ j => simp at hu⟩
theorem pN_fa {a : Addr} {cs : List Value} {f off : Nat} (ha : EA C s l a cs) [hf : FA P t f off] (hv : cs[off]? = some v) (hk : ∀ a, EA C s l a [v] → K (.pointer (some a)) w) : pN P (oFld t (.pointer (some a)) f) w K := by
  rw [pN_def, hf.run, rN_value]; exact hk _ (ha.fld off hv)
theorem pA_fa {a : Addr} {cs : List Value} {f off : Nat} (ha : EA C s l a cs) [hf : FA P t f off] (hv : cs[off]? = some v) (hk : ∀ a, EA C s l a [v] → J (.pointer (some a))) : pA P (oFld t (.pointer (some a)) f) J :=
  ⟨_, hf.run a, hk _ (ha.fld off hv)⟩

/-- A store into an element. -/
theorem pN_srn {j : Nat} {a : Addr} {x : α} {us : Array Value} (hel : El C s j a) (hS : Sat E w L) [hf : Fnd (rows C s) L l M] {z : Nat} [Ag P t z] (hz : z = C.size) (hx : C.enc x = us.toList) (hj : j < l.length)
    (hk : ∀ w', Sat E w' (rows C s (l.set j x) :: M) → K undef w') : pN P (oStore t (.pointer (some a)) (.agg us)) w K := by
  have h0 := hS.fd (rows C s)
  obtain ⟨b, hb, rfl⟩ := hel
  have hlen := C.len x
  rw [hx, Array.length_toList] at hlen
  have hro := h0.own_at 0 rfl
  obtain ⟨_, ⟨h, _⟩ | ⟨g, cap, cur, hv, _⟩⟩ := hro
  · simp only [Value.slice.injEq] at h
    rw [hb] at h
    cases h.1
  · simp only [Value.slice.injEq, true_and] at hv
    obtain ⟨h1, h2⟩ := hv
    rw [hb, Option.some.injEq] at h1
    subst h1 h2
    unfold rows at h0
    rw [hb] at h0
    rw [Addr.add_lit, Nat.zero_add]
    refine pN_st_own_n h0 Ag.sz (hz.trans hlen.symm) hlen (by rw [← hx]; exact C.one x) hj fun w' h3 => hk w' ?_
    unfold rows
    rw [hb, List.length_set, ← C.flat_put l j x hj, hx]
    exact h3
theorem pN_sr {j : Nat} {a : Addr} {x : α} (hel : El C s j a) (hS : Sat E w L) [hf : Fnd (rows C s) L l M] [Sc P t] (hz : C.size = 1) (hx : C.enc x = [v]) (hj : j < l.length)
    (hk : ∀ w', Sat E w' (rows C s (l.set j x) :: M) → K undef w') : pN P (oStore t (.pointer (some a)) v) w K := by
  have h0 := hS.fd (rows C s)
  obtain ⟨b, hb, rfl⟩ := hel
  have h1' := C.one x v (by rw [hx]; exact List.mem_singleton.2 rfl)
  have hro := h0.own_at 0 rfl
  obtain ⟨_, ⟨h, _⟩ | ⟨g, cap, cur, hv, _⟩⟩ := hro
  · simp only [Value.slice.injEq] at h
    rw [hb] at h
    cases h.1
  · simp only [Value.slice.injEq, true_and] at hv
    obtain ⟨h1, h2⟩ := hv
    rw [hb, Option.some.injEq] at h1
    subst h1 h2
    unfold rows at h0
    rw [hb] at h0
    rw [Addr.add_lit, Nat.zero_add, hz, Nat.mul_one]
    have hfl := C.flat_len l
    rw [hz, Nat.mul_one] at hfl
    refine pN_st_own h0 Sc.sz h1' (by omega) fun w' h3 => hk w' ?_
    unfold rows
    have hp := C.flat_put l j x hj
    rw [hz, Nat.mul_one, hx] at hp
    rw [hb, List.length_set, ← hp]
    rw [List.set_eq_take_append_cons_drop, if_pos (by omega)] at h3
    simpa using h3

theorem own_sl {e : TypeId} {size : Nat} {xs : List Value} (hS : Sat E w (own e size v n xs :: L)) : ∃ s : Sl, v = .slice s.a n s.c := by
  obtain ⟨_, ⟨rfl, rfl⟩ | ⟨g, cap, cur, rfl, _⟩⟩ := hS.own_at 0 rfl
  · exact ⟨⟨none, 0⟩, rfl⟩
  · exact ⟨⟨_, _⟩, rfl⟩

theorem rows_len (s : Sl) (hS : Sat E w L) [h : Fnd (rows C s) L l M] : l.length ≤ 9223372036854775807 := by
  obtain ⟨_, ⟨_, h⟩ | ⟨g, cap, cur, _, _, _, h1, h2, _⟩⟩ := (hS.fd (rows C s)).own_at 0 rfl
  · omega
  · unfold maxLen at h2; omega

theorem room63 {a b : Nat} (hb : 0 < b) (h : a * b ≤ 140737488355328) : a ≤ 9223372036854775807 := by
  have : a * 1 ≤ a * b := Nat.mul_le_mul_left a hb
  omega

theorem pN_app {cs : List Bool} (hS : Sat E w L) [hw : Row P t α C] [hf : Fnd (rows C s) L l M] [hr : Rds C L s2 m] {z : Nat} [hz : Bt C z] (hn : n = l.length) (hn2 : n2 = m.length) (hb : (l.length + m.length) * z ≤ 140737488355328)
    (hk : ∀ s' w', Sat E w' (rows C s' (l ++ m) :: M) → K (.slice s'.a (l ++ m).length s'.c) w') : pN P (oBi .append #[t, t] ty cs [.slice s.a n s.c, .slice s2.a n2 s2.c]) w K := by
  subst hn hn2
  rw [← hz.eq] at hb
  have h0 := hS.fd (rows C s)
  have hrd := hS.rds (C := C) (s := s2)
  refine pN_append Row.slt h0 hrd (C.flat_one m) hb (room63 hw.bpos hb) fun v' w' h1 => ?_
  obtain ⟨s', rfl⟩ := own_sl h1
  rw [← C.flat_append, ← List.length_append] at h1
  rw [← List.length_append]
  exact hk s' w' h1
theorem pN_app0 {cs : List Bool} (hS : Sat E w L) [hw : Row P t α C] [hr : Rds C L s2 m] {z : Nat} [hz : Bt C z] (hn2 : n2 = m.length) (hb : m.length * z ≤ 140737488355328)
    (hk : ∀ s' w', Sat E w' (rows C s' m :: L) → K (.slice s'.a m.length s'.c) w') : pN P (oBi .append #[t, t] ty cs [.slice none 0 0, .slice s2.a n2 s2.c]) w K := by
  rw [← hz.eq] at hb
  have hrd := hS.rds (C := C) (s := s2)
  subst hn2
  have h0 := hS.nil C.e C.size
  refine pN_append Row.slt h0 hrd (C.flat_one m) (by rw [Nat.zero_add]; exact hb) (room63 hw.bpos (by rw [Nat.zero_add]; exact hb)) fun v' w' h1 => ?_
  rw [Nat.zero_add, List.nil_append] at h1
  obtain ⟨s', rfl⟩ := own_sl h1
  exact hk s' w' h1

theorem fill_size (off : Nat) : ∀ (us : List Value) (k : Nat) (cells : Array Value), ((us.zipIdx k).foldl (fun cs (c, j) => cs.setIfInBounds (off + j) c) cells).size = cells.size
  | [], _, _ => rfl
  | u :: us, k, cells => by
    rw [List.zipIdx_cons, List.foldl_cons, fill_size off us (k + 1)]
    simp
theorem fill_one (off : Nat) : ∀ (us : List Value) (k : Nat) (cells : Array Value), off + k + us.length ≤ cells.size → ∀ i : Nat,
    ((us.zipIdx k).foldl (fun cs (c, j) => cs.setIfInBounds (off + j) c) cells)[i]? = if off + k ≤ i ∧ i < off + k + us.length then us[i - (off + k)]? else cells[i]?
  | [], k, cells, _, i => by rw [if_neg (by simp only [List.length_nil]; omega)]; rfl
  | u :: us, k, cells, h, i => by
    simp only [List.length_cons] at h
    rw [List.zipIdx_cons, List.foldl_cons]
    dsimp only
    rw [fill_one off us (k + 1) _ (by (try simp only [Array.size_setIfInBounds]); omega)]
    by_cases h1 : off + (k + 1) ≤ i ∧ i < off + (k + 1) + us.length
    · rw [if_pos h1, if_pos (by (try simp only [List.length_cons]); omega)]
      rw [show i - (off + k) = (i - (off + (k + 1))) + 1 from by omega, List.getElem?_cons_succ]
    · rw [if_neg h1, Array.getElem?_setIfInBounds]
      by_cases h2 : off + k = i
      · rw [if_pos h2, if_pos (by (try simp only [List.length_cons]); omega)]
        subst h2
        have : off + k < cells.size := by omega
        simp [this]
      · rw [if_neg h2, if_neg (by (try simp only [List.length_cons]); omega)]

theorem fill_lit (size : Nat) : ∀ (us : List Value) (xs : List (List Value)) (k : Nat) (cells : Array Value), us.map (fun u => u.cells.toList) = xs → (∀ x ∈ xs, x.length = size) → (k + us.length) * size ≤ cells.size →
    ∃ r : Array Value, Instr.fill (fun i => some (i * size, size)) cells ((us.zipIdx k).map fun p => (p.2, p.1)) = some r ∧ r.size = cells.size ∧
      ∀ i : Nat, r[i]? = if k * size ≤ i ∧ i < (k + us.length) * size then xs.flatten[i - k * size]? else cells[i]?
  | [], xs, k, cells, hx, _, _ => ⟨cells, rfl, rfl, fun i => by rw [if_neg (by simp only [List.length_nil, Nat.add_zero]; omega)]⟩
  | u :: us, xs, k, cells, hx, hs, hl => by
    subst hx
    have hu : u.cells.size = size := by have := hs u.cells.toList (by simp); simpa using this
    have e1 : (k + 1) * size = k * size + size := by rw [Nat.add_mul, Nat.one_mul]
    have e5 : (k + 1 + us.length) * size = k * size + size + us.length * size := by rw [Nat.add_mul, Nat.add_mul, Nat.one_mul]
    have e6 : (k + (u :: us).length) * size = k * size + size + us.length * size := by rw [List.length_cons, Nat.add_mul, Nat.add_mul, Nat.one_mul]; omega
    rw [e6] at hl
    have hf := fill_one (k * size) u.cells.toList 0 cells (by simp only [Array.length_toList]; omega)
    have hz := fill_size (k * size) u.cells.toList 0 cells
    generalize hc : (u.cells.toList.zipIdx 0).foldl (fun cs (c, j) => cs.setIfInBounds (k * size + j) c) cells = cells' at hf hz
    obtain ⟨r, h1, h2, h3⟩ := fill_lit size us _ (k + 1) cells' rfl (fun x hx => hs x (by simp only [List.map_cons, List.mem_cons]; exact .inr hx)) (by rw [e5]; omega)
    refine ⟨r, ?_, h2.trans hz, fun i => ?_⟩
    · rw [List.zipIdx_cons, List.map_cons]
      simp only [Instr.fill]
      rw [if_neg (by simp [hu]; omega), ← h1, ← hc]
      congr 1
      rw [← Array.foldl_toList]
      simp
    · rw [h3, hf, e1, e5, e6]
      simp only [Array.length_toList, hu, Nat.add_zero, List.map_cons, List.flatten_cons]
      by_cases c1 : k * size + size ≤ i ∧ i < k * size + size + us.length * size
      · rw [if_pos c1, if_pos (by omega), List.getElem?_append_right (by simp only [Array.length_toList, hu]; omega)]
        simp only [Array.length_toList, hu]
        congr 1
        omega
      · rw [if_neg c1]
        by_cases c2 : k * size ≤ i ∧ i < k * size + size
        · rw [if_pos c2, if_pos (by omega), List.getElem?_append_left (by simp only [Array.length_toList, hu]; omega)]
        · rw [if_neg c2, if_neg (by omega)]

/-- A literal of some elements. -/
theorem pN_bl {ps : List (Nat × Value)} (us : List Value) (xs : List α) (hp : ps = us.zipIdx.map fun p => (p.2, p.1)) (hn : n = us.length) (hx : us.map (fun u => u.cells.toList) = xs.map C.enc) (h0 : 0 < us.length) (hS : Sat E w L) [hw : Row P t α C] (hz : us.length * C.size ≤ 16777216)
    (hk : ∀ s' w', Sat E w' (rows C s' xs :: L) → K (.slice s'.a xs.length s'.c) w') : pN P (oBs t n ps) w K := by
  subst hp hn
  have ht := Row.slt (P := P) (t := t) (C := C)
  have hlen : us.length = xs.length := by simpa using congrArg List.length hx
  obtain ⟨r, h1, h2, hg⟩ := fill_lit C.size us _ 0 (madeCells (Classical.choose hw.st).cells (us.length * C.size)) hx (by intro x hx; obtain ⟨a, _, rfl⟩ := List.mem_map.1 hx; exact C.len a) (by rw [size_madeCells, Nat.zero_add]; exact Nat.le_refl _)
  rw [size_madeCells] at h2
  have h3 : r.toList = C.flat xs := by
    apply List.ext_getElem?
    intro i
    rw [Array.getElem?_toList, hg, Nat.zero_mul, Nat.zero_add, Nat.sub_zero]
    by_cases hi : i < us.length * C.size
    · rw [if_pos ⟨Nat.zero_le _, hi⟩]; rfl
    · rw [if_neg (by omega), Array.getElem?_eq_none (by rw [size_madeCells]; omega), List.getElem?_eq_none (by rw [C.flat_len, ← hlen]; omega)]
  refine pN_bs ht (cells := r) h0 hz h1 (by
    have := congrArg List.length h3
    rw [Array.length_toList, C.flat_len] at this
    rw [this, hlen]) hS fun v' w' h4 => ?_
  obtain ⟨s', rfl⟩ := own_sl h4
  rw [hlen, h3] at h4
  rw [hlen]
  exact hk s' w' h4
theorem pN_b1 {u : Value} {x : α} (hS : Sat E w L) [Row P t α C] (hx : C.enc x = u.cells.toList) (hz : C.size ≤ 16777216)
    (hk : ∀ s' w', Sat E w' (rows C s' [x] :: L) → K (.slice s'.a 1 s'.c) w') : pN P (oBs t 1 [(0, u)]) w K :=
  pN_bl [u] [x] rfl rfl (by simp [hx]) (by simp) hS (by simpa using hz) hk
theorem pN_b0 (hS : Sat E w L) [Row P t α C] (hk : ∀ s' w', Sat E w' (rows C s' [] :: L) → K (.slice s'.a 0 s'.c) w') : pN P (oBs t 0 []) w K := by
  refine pN_bs0 (Row.slt (C := C)) hS fun v' w' h1 => ?_
  obtain ⟨s', rfl⟩ := own_sl h1
  exact hk s' w' h1

/-- make. -/
theorem flat_made [hw : Row P t α C] (j : Nat) : (madeCells (Classical.choose hw.st).cells (j * C.size)).toList = C.flat (List.replicate j C.zero) := by
  have hz := Row.zero (P := P) (t := t) (C := C)
  have hl := C.len C.zero
  have hzs : (Classical.choose hw.st).cells.size = C.size := by rw [← Array.length_toList, hz, hl]
  apply List.ext_getElem?
  intro i
  by_cases hi : i < j * C.size
  · have hpos : 0 < C.size := by
      rcases Nat.eq_zero_or_pos C.size with h0 | h0
      · rw [h0] at hi; omega
      · exact h0
    have hr : i % C.size < C.size := Nat.mod_lt _ hpos
    have hq : i / C.size < j := by rw [Nat.div_lt_iff_lt_mul hpos]; exact hi
    have e1 : i / C.size * C.size + i % C.size = i := by rw [Nat.mul_comm]; exact Nat.div_add_mod _ _
    have e2 := C.flat_get (List.replicate j C.zero) (i / C.size) C.zero (by simp [hq])
    have e3 : (C.flat (List.replicate j C.zero))[i]? = (C.enc C.zero)[i % C.size]? := by
      rw [← e2, List.getElem?_take, if_pos hr, List.getElem?_drop, e1]
    rw [e3]
    have e4 : (Classical.choose hw.st).cells.toList[i % C.size]? = (C.enc C.zero)[i % C.size]? := by rw [hz]
    rw [← e4]
    generalize (Classical.choose hw.st).cells = zz at hzs
    have e5 : i < (Array.range (j * C.size)).size := by simpa using hi
    simp [madeCells, hi, hzs, hr]
  · rw [List.getElem?_eq_none (by rw [Array.length_toList, size_madeCells]; omega), List.getElem?_eq_none (by rw [C.flat_len, List.length_replicate]; omega)]
theorem pN_mk {z : Nat} (hS : Sat E w L) [hw : Row P t α C] [hz : Bt C z] (j : Nat) (hj : i = (j : Int)) (hb : z * j ≤ 281474976710656)
    (hk : ∀ s' w', Sat E w' (rows C s' (List.replicate j C.zero) :: L) → K (.slice s'.a j s'.c) w') : pN P (oMk t (.int k i) (.int k' i)) w K := by
  subst hj
  rw [← hz.eq] at hb
  refine pN_make (Row.slt (C := C)) hb (by
    have : 1 * j ≤ C.bytes * j := Nat.mul_le_mul_right j hw.bpos
    omega) hS fun v' w' h1 => ?_
  obtain ⟨s', rfl⟩ := own_sl h1
  refine hk s' w' ?_
  unfold rows
  rw [List.length_replicate, ← flat_made (P := P) (t := t)]
  exact h1
theorem pN_mk0 {z : Nat} (hS : Sat E w L) [hw : Row P t α C] [hz : Bt C z] (j : Nat) (hj : i = (j : Int)) (hb : z * j ≤ 281474976710656)
    (hk : ∀ s' w', Sat E w' (rows C s' [] :: L) → K (.slice s'.a 0 s'.c) w') : pN P (oMk t (.int k 0) (.int k' i)) w K := by
  subst hj
  rw [← hz.eq] at hb
  refine pN_make0 (Row.slt (C := C)) hb (by
    have : 1 * j ≤ C.bytes * j := Nat.mul_le_mul_right j hw.bpos
    omega) hS fun v' w' h1 => ?_
  obtain ⟨s', rfl⟩ := own_sl h1
  exact hk s' w' h1

/-- Parts of slices. -/
theorem Rds.sub [h : Rds C L s l] (a b : Nat) (h1 : a ≤ b) (h2 : b ≤ l.length) : Rds C L (s.sub a C.size) ((l.drop a).take (b - a)) := ⟨fun E w hS => by
  have := (h.rd E w hS).sub a b h1 h2
  rw [subV_sl, C.flat_drop, C.flat_take] at this
  rw [show ((l.drop a).take (b - a)).length = b - a from by simp only [List.length_take, List.length_drop]; omega]
  exact this⟩

omit [Pan] in
/-- What a part of a slice reads, wherever the slice reads. -/
class Part {α : Type} (C : Cd α) (s : Sl) (l : List α) (s' : Sl) (l' : List α) : Prop where
  rd : ∀ L, Rds C L s l → Rds C L s' l'

variable {k1 k2 : IntKind} {i1 i2 : Int} {lo hi : Nat}
theorem pN_sl2 (hS : Sat E w L) [Row P t α C] [h : Rds C L s l] (lo hi : Nat) (h1 : i1 = (lo : Int)) (h2 : i2 = (hi : Int)) (hn : n = l.length) (hlo : lo ≤ hi) (hhi : hi ≤ l.length)
    (hk : ∀ s', Part C s l s' ((l.drop lo).take (hi - lo)) → K (.slice s'.a (hi - lo) s'.c) w) : pN P (oSl t (.slice s.a n s.c) (some (.int k1 i1)) (some (.int k2 i2)) none) w K := by
  subst h1 h2 hn
  refine pN_sl (Row.slt (C := C)) (hS.rds (C := C) (s := s)) (by omega) (by omega) (by omega) ?_
  rw [Int.toNat_natCast, Int.toNat_natCast, subV_sl]
  exact hk _ ⟨fun L h => Rds.sub lo hi hlo hhi⟩
theorem pN_sl1 (hS : Sat E w L) [Row P t α C] [h : Rds C L s l] (lo : Nat) (h1 : i1 = (lo : Int)) (hn : n = l.length) (hlo : lo ≤ l.length)
    (hk : ∀ s', Part C s l s' (l.drop lo) → K (.slice s'.a (l.length - lo) s'.c) w) : pN P (oSl t (.slice s.a n s.c) (some (.int k1 i1)) none none) w K := by
  subst h1 hn
  refine pN_sl_l (Row.slt (C := C)) (hS.rds (C := C) (s := s)) (by omega) (by omega) ?_
  rw [Int.toNat_natCast, subV_sl]
  refine hk _ ⟨fun L h => ?_⟩
  have := Rds.sub (C := C) (L := L) (s := s) (l := l) lo l.length hlo (Nat.le_refl _)
  rwa [List.take_of_length_le (by simp)] at this
theorem pN_slh (hS : Sat E w L) [Row P t α C] [h : Rds C L s l] (hi : Nat) (h2 : i2 = (hi : Int)) (hn : n = l.length) (hhi : hi ≤ l.length)
    (hk : ∀ s', Part C s l s' (l.take hi) → K (.slice s'.a hi s'.c) w) : pN P (oSl t (.slice s.a n s.c) none (some (.int k2 i2)) none) w K := by
  subst h2 hn
  refine pN_sl_h (Row.slt (C := C)) (hS.rds (C := C) (s := s)) (by omega) (by omega) ?_
  rw [Int.toNat_natCast, subV_sl]
  refine hk _ ⟨fun L h => ?_⟩
  have := Rds.sub (C := C) (L := L) (s := s) (l := l) 0 hi (Nat.zero_le _) hhi
  rwa [List.drop_zero, Nat.sub_zero] at this
theorem pN_sla (hS : Sat E w L) [Row P t α C] [h : Rds C L s l] (hn : n = l.length)
    (hk : ∀ s', Part C s l s' l → K (.slice s'.a l.length s'.c) w) : pN P (oSl t (.slice s.a n s.c) none none none) w K := by
  subst hn
  refine pN_sl_a (Row.slt (C := C)) (hS.rds (C := C) (s := s)) ?_
  rw [subV_sl]
  refine hk _ ⟨fun L h => ?_⟩
  have := Rds.sub (C := C) (L := L) (s := s) (l := l) 0 l.length (Nat.zero_le _) (Nat.le_refl _)
  rwa [List.drop_zero, Nat.sub_zero, List.take_length] at this

omit [Pan] in
/-- Bytes as a string. -/
class StrT (P : Program) (t d : TypeId) (B : outParam (Cd UInt8)) : Prop where
  e : ∃ e, P.underlying t = some (.slice e) ∧ P.underlying e = some (.int .u8)
  d : P.underlying d = some .string
  size : B.size = 1
  enc : ∀ b, B.enc b = [bv b]
theorem StrT.flat {d : TypeId} {B : Cd UInt8} [h : StrT P t d B] (l : List UInt8) : B.flat l = bvs l := B.flat_single bv h.enc l

theorem run_st {d : TypeId} {B : Cd UInt8} {l : List UInt8} (hS : Sat E w L) [h : StrT P t d B] [hr : Rds B L s l] (hn : n = l.length) : (oConv t d (.slice s.a n s.c)).run P w = .ok (.value (.string ⟨l.toArray⟩)) w := by
  subst hn
  obtain ⟨e, h1, h2⟩ := h.e
  have := hS.rds (C := B) (s := s)
  rw [h.size, StrT.flat (P := P) (t := t) (d := d)] at this
  exact run_str h1 h2 h.d this
theorem pN_st {d : TypeId} {B : Cd UInt8} {l : List UInt8} (hS : Sat E w L) [h : StrT P t d B] [hr : Rds B L s l] (hn : n = l.length) (hk : K (.string ⟨l.toArray⟩) w) : pN P (oConv t d (.slice s.a n s.c)) w K := by
  rw [pN_def, run_st hS hn, rN_value]; exact hk
theorem pL_st {d : TypeId} {B : Cd UInt8} {l : List UInt8} (hS : Sat E w L) [h : StrT P t d B] [hr : Rds B L s l] (hn : n = l.length) (hk : J (.string ⟨l.toArray⟩)) : pL P (oConv t d (.slice s.a n s.c)) w J :=
  ⟨_, run_st hS hn, hk⟩
end

/-! ### Function values -/

section
variable [Pan] {P : Program} {w : World} {K : Value → World → Prop}
theorem pN_fn {fn : Fn} {first cap : List Value} (hk : K (.func fn first.toArray cap.toArray) w) : pN P (oFn fn first cap) w K := by
  have : (oFn fn first cap).run P w = .ok (.value (.func fn first.toArray cap.toArray)) w := run_oV_ok rfl
  rw [pN_def, this, rN_value]; exact hk
/-- A method of an interface's value; that it is there. -/
theorem pN_nilm {v : Value} (hn : ∀ w, (oNil v).run P w = .ok (.value v) w) (hk : K v w) : pN P (oNil v) w K := by
  rw [pN_def, hn w, rN_value]; exact hk
/-- A call of it. -/
theorem pN_inv {nm : String} {t : TypeId} {u r : Value} {f : FuncId} {args : List Value} (hc : ∀ (args : Array Value) (w : World), (callMethod (.iface t u) nm args).run P w = .ok (.enter f (#[r] ++ args)) w)
    (hk : Calls P f (r :: args).toArray w (retP K)) : pN P (oInv (.iface t u) nm args) w K := by
  have h1 : (oInv (.iface t u) nm args).run P w = .ok (.enter f (#[r] ++ args.toArray)) w := hc _ _
  have h2 : #[r] ++ args.toArray = (r :: args).toArray := by simp
  rw [pN_def, h1, h2]
  exact hk
/-- A call through a function value. -/
theorem pN_callV {f : FuncId} {cap args : List Value} (hc : ∀ (args : Array Value) (w : World), (callFunc f args).run P w = .ok (.enter f args) w)
    (h : Calls P f (args ++ cap).toArray w (retP K)) : pN P (oCallV (.func (.func f) [].toArray cap.toArray) args) w K := by
  have : (oCallV (.func (.func f) [].toArray cap.toArray) args).run P w = .ok (.enter f (args ++ cap).toArray) w := by
    have e : oCallV (.func (.func f) [].toArray cap.toArray) args = callFunc f ((#[] ++ args.toArray) ++ cap.toArray) := rfl
    rw [e, hc]
    simp
  rw [pN_def, this, rN_enter]
  exact h
end
end Go.Proofs.YtbgnnjfpiblkmaaDoor
