/-
  Parts of memory found by their keys; rows of typed elements; the walk's steps over them. No program is named here.
-/
import Derived.Test.YtlkbenlhngkibaaAgg
namespace Go.Proofs.Ytlkbenlhngkibaa
open Go

/-! ### Finding -/

/-- The part 'F s' of a list, and the others. -/
class Fnd {σ : Type} (F : σ → HA) (L : List HA) (s : outParam σ) (M : outParam (List HA)) : Prop where
  perm : L.Perm (F s :: M)

instance (priority := 1100) Fnd.here {σ : Type} {F : σ → HA} {s : σ} {L : List HA} : Fnd F (F s :: L) s L := ⟨.refl _⟩
instance (priority := 1000) Fnd.there {σ : Type} {F : σ → HA} {A : HA} {s : σ} {L M : List HA} [h : Fnd F L s M] : Fnd F (A :: L) s (A :: M) :=
  ⟨(h.perm.cons A).trans (List.Perm.swap _ _ _)⟩

/-- One list of parts out of another: in any order; what is not asked is let go. -/
class Arr (L N : List HA) : Prop where
  arr : ∀ h, Sats L h → Sats N h

instance (priority := 1200) Arr.same {L : List HA} : Arr L L := ⟨fun _ h => h⟩
instance (priority := 1100) Arr.nil {L : List HA} : Arr L [] := ⟨fun _ _ => trivial⟩
instance (priority := 1050) Arr.next {A : HA} {L M N : List HA} {u : Unit} [h : Fnd (fun _ : Unit => A) L u M] [k : Arr M N] : Arr L (A :: N) :=
  ⟨fun _ hs => Sats.cons_mono k.arr (hs.perm h.perm)⟩
instance (priority := 100) Arr.let_go {A : HA} {L N : List HA} [k : Arr L N] : Arr (A :: L) N :=
  ⟨fun hp hs => k.arr hp (by obtain ⟨h1, _, s, hr⟩ := hs; exact hr.mono (less_sub _ _))⟩

section
variable {E w w' : World} {A B : HA} {L M N : List HA}

theorem Sat.fd {σ : Type} (hS : Sat E w L) (F : σ → HA) {s : σ} [h : Fnd F L s M] : Sat E w (F s :: M) := hS.perm h.perm
theorem Sat.fd2 {σ τ : Type} (hS : Sat E w L) (F : σ → HA) (G : τ → HA) {s : σ} {t : τ} [h : Fnd F L s M] [k : Fnd G M t N] : Sat E w (F s :: G t :: N) := hS.perm (h.perm.trans (k.perm.cons _))
theorem Sat.to (hS : Sat E w L) [h : Arr L N] : Sat E w N := ⟨hS.os, hS.tape, hS.output, h.arr _ hS.sats⟩
end

/-! ### Variables -/

/-- What a block holds: its element type, its cells. -/
structure Ob where
  e : TypeId
  cs : List Value

def cel (b : Nat) (o : Ob) : HA := blk b (.cells o.cs.toArray o.e (0, 0))

/-- Types of one cell. -/
class Sc (P : Program) (t : TypeId) : Prop where
  na : ∀ w, (isAgg t).run P w = .ok false w
  sz : ∀ w, (sizeOf t).run P w = .ok 1 w

/-- Types of several cells. -/
class Ag (P : Program) (t : TypeId) (n : outParam Nat) : Prop where
  ag : ∀ w, (isAgg t).run P w = .ok true w
  sz : ∀ w, (sizeOf t).run P w = .ok n w

/-- What is at an address. -/
def At (w : World) (a : Addr) (cs : List Value) : Prop := ∀ (j : Nat) (u : Value), cs[j]? = some u → w.cell? (a.add j) = some u

section
variable {P : Program} {E w : World} {K : Value → World → Prop} {J : Value → Prop} {L M : List HA} {v : Value} {t : TypeId} {o : Ob} {b i : Nat}

theorem cel_at (hS : Sat E w L) [h : Fnd (cel b) L o M] : w.heap[b]? = some (.cells o.cs.toArray o.e (0, 0)) := (hS.fd (cel b)).blk_at 0 rfl

theorem cel_cell (hS : Sat E w L) [h : Fnd (cel b) L o M] (hv : o.cs[i]? = some v) : w.cell? ⟨b, i, none⟩ = some v := by
  rw [cell_of_blk (cel_at (b := b) hS)]; simpa using hv

theorem run_l (hS : Sat E w L) [h : Fnd (cel b) L o M] [Sc P t] (hv : o.cs[i]? = some v) : (oLoad t (.pointer (some ⟨b, i, none⟩))).run P w = .ok (.value v) w :=
  run_load Sc.na (cel_cell (b := b) hS hv)
theorem pN_l (hS : Sat E w L) [h : Fnd (cel b) L o M] [Sc P t] (hv : o.cs[i]? = some v) (hk : K v w) : pN P (oLoad t (.pointer (some ⟨b, i, none⟩))) w K :=
  pN_ld Sc.na (cel_cell (b := b) hS hv) hk
theorem pL_l (hS : Sat E w L) [h : Fnd (cel b) L o M] [Sc P t] (hv : o.cs[i]? = some v) (hk : J v) : pL P (oLoad t (.pointer (some ⟨b, i, none⟩))) w J :=
  pL_ld Sc.na (cel_cell (b := b) hS hv) hk

theorem pN_s (hS : Sat E w L) [h : Fnd (cel b) L o M] [Sc P t] (hi : i < o.cs.length) (hv : v.oneCell' = true)
    (hk : ∀ w', Sat E w' (cel b ⟨o.e, o.cs.set i v⟩ :: M) → K undef w') : pN P (oStore t (.pointer (some ⟨b, i, none⟩)) v) w K := by
  refine pN_st_blk (hS.fd (cel b)) Sc.sz hv (by simpa using hi) fun w' hS' => hk w' ?_
  simpa [cel] using hS'

/-- A variable of several cells: loaded, stored whole. -/
theorem pN_la {n : Nat} (hS : Sat E w L) [h : Fnd (cel b) L o M] [Ag P t n] (hn : n = o.cs.length) (hk : K (.agg o.cs.toArray) w) : pN P (oLoad t (.pointer (some ⟨b, 0, none⟩))) w K :=
  pN_ld_all Ag.ag Ag.sz (by simpa using hn) (cel_at (b := b) hS) hk
theorem pL_ra {n : Nat} (hS : Sat E w L) [h : Fnd (cel b) L o M] [Ag P t n] (hn : n = o.cs.length) (hk : J (.agg o.cs.toArray)) : pL P (oRes t (.pointer (some ⟨b, 0, none⟩))) w J :=
  pL_res_all Ag.ag Ag.sz (by simpa using hn) (cel_at (b := b) hS) hk
theorem pL_la {n : Nat} (hS : Sat E w L) [h : Fnd (cel b) L o M] [Ag P t n] (hn : n = o.cs.length) (hk : J (.agg o.cs.toArray)) : pL P (oLoad t (.pointer (some ⟨b, 0, none⟩))) w J := by
  subst hn
  have hc := cells_of_blk (o := 0) (cel_at (b := b) hS) o.cs.length
  exact ⟨_, run_load_agg (cs := o.cs) Ag.ag Ag.sz (by simpa [List.take_of_length_le] using hc), hk⟩
theorem pL_r (hS : Sat E w L) [h : Fnd (cel b) L o M] [Sc P t] (hv : o.cs[i]? = some v) (hk : J v) : pL P (oRes t (.pointer (some ⟨b, i, none⟩))) w J := by
  refine ⟨v, ?_, hk⟩
  have hr := run_load (P := P) (w := w) (t := t) Sc.na (cel_cell (b := b) hS hv)
  exact hr
theorem pN_sa {n : Nat} {us : List Value} (hS : Sat E w L) [h : Fnd (cel b) L o M] [Ag P t n] (hn : n = us.length) (ho : us.length = o.cs.length) (h1 : ∀ u ∈ us, u.oneCell' = true)
    (hk : ∀ w', Sat E w' (cel b ⟨o.e, us⟩ :: M) → K undef w') : pN P (oStore t (.pointer (some ⟨b, 0, none⟩)) (.agg us.toArray)) w K :=
  pN_st_all (hS.fd (cel b)) Ag.sz (by simpa using hn) (by simpa using h1) (by simpa using ho) hk

theorem pN_ld_at {n : Nat} {a : Addr} {cs : List Value} (ha : At w a cs) [Ag P t n] (hn : n = cs.length) (hk : K (.agg cs.toArray) w) : pN P (oLoad t (.pointer (some a))) w K :=
  pN_ld_n Ag.ag Ag.sz hn ha hk
theorem pN_ld1 {a : Addr} (ha : At w a [v]) [Sc P t] (hk : K v w) : pN P (oLoad t (.pointer (some a))) w K := by
  refine pN_ld Sc.na ?_ hk
  have := ha 0 v rfl
  rwa [Addr.add_zero'] at this
theorem pL_ld1 {a : Addr} (ha : At w a [v]) [Sc P t] (hk : J v) : pL P (oLoad t (.pointer (some a))) w J := by
  refine pL_ld Sc.na ?_ hk
  have := ha 0 v rfl
  rwa [Addr.add_zero'] at this
theorem run_ld1 {a : Addr} (ha : At w a [v]) [Sc P t] : (oLoad t (.pointer (some a))).run P w = .ok (.value v) w := by
  refine run_load Sc.na ?_
  have := ha 0 v rfl
  rwa [Addr.add_zero'] at this

theorem pN_nw {u : Value} {z : List Value} (hS : Sat E w L) (hz : ∀ w, (zeroValue t).run P w = .ok u w) (hc : u.cells = z.toArray)
    (hk : ∀ a w', Sat E w' (cel a ⟨t, z⟩ :: L) → K (.pointer (some ⟨a, 0, none⟩)) w') : pN P (oAlloc t) w K :=
  pN_alloc hz hS fun a w' h => hk a w' (by rw [hc] at h; exact h)
theorem pN_bx {u : Value} {z : List Value} (hS : Sat E w L) (hc : u.cells = z.toArray)
    (hk : ∀ a w', Sat E w' (cel a ⟨t, z⟩ :: L) → K (.pointer (some ⟨a, 0, none⟩)) w') : pN P (oBox t u) w K :=
  pN_box hS fun a w' h => hk a w' (by rw [hc] at h; exact h)

theorem pDr_go {K : World → Prop} (hS : Sat E w L) (hk : ∀ w', Sat E w' L → K w') : pDr w K := hk _ hS.drew
end

/-! ### Rows -/

/-- Where a slice begins, and its room. -/
structure Sl where
  a : Option Addr
  c : Nat

/-- How elements lie in cells. -/
structure Cd (α : Type) where
  e : TypeId
  size : Nat
  bytes : Nat
  zero : α
  enc : α → List Value
  len : ∀ a, (enc a).length = size
  one : ∀ a, ∀ u ∈ enc a, u.oneCell' = true

def Cd.flat {α : Type} (C : Cd α) (l : List α) : List Value := (l.map C.enc).flatten

theorem Cd.flat_single {α : Type} (C : Cd α) (f : α → Value) (h : ∀ b, C.enc b = [f b]) (l : List α) : C.flat l = l.map f := by
  induction l with
  | nil => rfl
  | cons x l ih => simp only [Cd.flat, List.map_cons, List.flatten_cons, h] at ih ⊢; rw [ih]; rfl
theorem Cd.flat_nil {α : Type} (C : Cd α) : C.flat [] = [] := rfl
theorem Cd.flat_append {α : Type} (C : Cd α) (l m : List α) : C.flat (l ++ m) = C.flat l ++ C.flat m := by simp [Cd.flat]
theorem Cd.flat_len {α : Type} (C : Cd α) (l : List α) : (C.flat l).length = l.length * C.size := flat_length _ _ C.len l
theorem Cd.flat_get {α : Type} (C : Cd α) (l : List α) (i : Nat) (x : α) (h : l[i]? = some x) : ((C.flat l).drop (i * C.size)).take C.size = C.enc x := flat_at _ _ C.len l i x h
theorem Cd.flat_put {α : Type} (C : Cd α) (l : List α) (i : Nat) (x : α) (h : i < l.length) : (C.flat l).take (i * C.size) ++ C.enc x ++ (C.flat l).drop (i * C.size + C.size) = C.flat (l.set i x) := flat_set _ _ C.len l i x h
theorem Cd.flat_one {α : Type} (C : Cd α) (l : List α) : ∀ u ∈ C.flat l, u.oneCell' = true := by
  intro u hu
  simp only [Cd.flat, List.mem_flatten, List.mem_map] at hu
  obtain ⟨m, ⟨a, _, rfl⟩, hu⟩ := hu
  exact C.one a u hu
theorem Cd.flat_take {α : Type} (C : Cd α) (l : List α) (n : Nat) : (C.flat l).take (n * C.size) = C.flat (l.take n) := by
  induction l generalizing n with
  | nil => simp [Cd.flat]
  | cons x l ih =>
    cases n with
    | zero => simp [Cd.flat]
    | succ n =>
      have e : (n + 1) * C.size = C.size + n * C.size := by rw [Nat.add_mul, Nat.one_mul, Nat.add_comm]
      simp only [Cd.flat, List.map_cons, List.flatten_cons, List.take_succ_cons] at ih ⊢
      rw [List.take_append, C.len, e, Nat.add_sub_cancel_left, ih, List.take_of_length_le (by rw [C.len]; omega)]
theorem Cd.flat_drop {α : Type} (C : Cd α) (l : List α) (n : Nat) : (C.flat l).drop (n * C.size) = C.flat (l.drop n) := by
  induction l generalizing n with
  | nil => simp [Cd.flat]
  | cons x l ih =>
    cases n with
    | zero => simp [Cd.flat]
    | succ n =>
      have e : (n + 1) * C.size = C.size + n * C.size := by rw [Nat.add_mul, Nat.one_mul, Nat.add_comm]
      simp only [Cd.flat, List.map_cons, List.flatten_cons, List.drop_succ_cons] at ih ⊢
      rw [List.drop_append, C.len, e, Nat.add_sub_cancel_left, ih, List.drop_of_length_le (by rw [C.len]; omega), List.nil_append]

/-- A row of its own. -/
def rows {α : Type} (C : Cd α) (s : Sl) (l : List α) : HA := own C.e C.size (.slice s.a l.length s.c) l.length (C.flat l)

/-- A slice type. -/
class Row (P : Program) (t : TypeId) (α : outParam Type) (C : outParam (Cd α)) : Prop where
  st : ∃ z, SlT P t C.e z C.size C.bytes ∧ z.cells.toList = C.enc C.zero

/-- What can be read by a slice out of one part; out of a list of parts. -/
class RdP {α : Type} (C : Cd α) (A : HA) (s : Sl) (l : outParam (List α)) : Prop where
  rd : RdA A C.size (.slice s.a l.length s.c) l.length (C.flat l)
class Rds {α : Type} (C : Cd α) (L : List HA) (s : Sl) (l : outParam (List α)) : Prop where
  rd : ∀ E w, Sat E w L → Rd w C.size (.slice s.a l.length s.c) l.length (C.flat l)

section
variable {α : Type} {C : Cd α} {E w : World} {A B : HA} {L M : List HA} {s : Sl} {l : List α}

instance RdP.rows : RdP C (rows C s l) s l := ⟨RdA.own⟩
instance (priority := 1100) Rds.here [h : RdP C A s l] : Rds C (A :: L) s l := ⟨fun _ _ hS => hS.rd 0 rfl h.rd⟩
instance (priority := 1000) Rds.there [h : Rds C L s l] : Rds C (A :: L) s l := ⟨fun E w hS => h.rd E w hS.drop⟩
instance Rds.nil : Rds C L ⟨none, 0⟩ ([] : List α) := ⟨fun _ _ _ => Rd.nil⟩

theorem Sat.rds (hS : Sat E w L) [h : Rds C L s l] : Rd w C.size (.slice s.a l.length s.c) l.length (C.flat l) := h.rd E w hS

/-- A part of a slice. -/
def Sl.sub (s : Sl) (lo size : Nat) : Sl := ⟨if s.c = lo then s.a else s.a.map (·.add (lo * size)), s.c - lo⟩

theorem subV_sl (s : Sl) (n lo hi size : Nat) : subV (.slice s.a n s.c) lo hi size = .slice (s.sub lo size).a (hi - lo) (s.sub lo size).c := rfl
end
end Go.Proofs.Ytlkbenlhngkibaa
