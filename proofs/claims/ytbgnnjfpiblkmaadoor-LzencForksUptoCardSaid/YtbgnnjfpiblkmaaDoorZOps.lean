/-
  A symbol's bits as plain data; what coding them does, what they cost.
-/
import Derived.Test.YtbgnnjfpiblkmaaDoorTPure
import Derived.Test.YtbgnnjfpiblkmaaDoorSym
import Derived.Test.YtbgnnjfpiblkmaaDoorModel
namespace Go.Proofs.YtbgnnjfpiblkmaaDoor
open Go
set_option linter.unusedSimpArgs false
set_option linter.unnecessarySimpa false
set_option linter.unusedSectionVars false
set_option linter.unusedVariables false
namespace Z

/-- One bit: by the probability i of table t (t = 18: by none). -/
structure PB where
  t : Nat
  i : Int
  b : Int
structure PB.Ok (p : Pr) (x : PB) : Prop where
  b : 0 ≤ x.b ∧ x.b ≤ 1
  t : x.t = 18 ∨ x.t < 18 ∧ 0 ≤ x.i ∧ x.i < tabLen p x.t

inductive Op
  | bit (t : Nat) (i b : Int)
  | tree (t : Nat) (at_ : Int) (n : Nat) (v : Int)
  | back (t : Nat) (at_ : Int) (n : Nat) (v : Int)
  | direct (v : Int) (n : Nat)
def treeBits (t : Nat) (at_ : Int) (bs : Nat → Int) (n : Nat) : List PB := (List.range n).map fun k => ⟨t, at_ + R.node bs k, bs k⟩
def Op.bits : Op → List PB
  | .bit t i b => [⟨t, i, b⟩]
  | .tree t a n v => treeBits t a (R.bitAt false n v) n
  | .back t a n v => treeBits t a (R.bitAt true n v) n
  | .direct v n => (List.range n).map fun k => ⟨18, 0, v / 2 ^ (n - 1 - k) % 2⟩
def Op.Ok (p : Pr) : Op → Prop
  | .bit t i b => t < 18 ∧ 0 ≤ i ∧ i < tabLen p t ∧ 0 ≤ b ∧ b ≤ 1
  | .tree t a n v => t < 18 ∧ R.There (tabLen p t) a n ∧ R.Holds v n
  | .back t a n v => t < 18 ∧ R.There (tabLen p t) a n ∧ R.Holds v n
  | .direct v n => 0 ≤ v ∧ v < 4294967296 ∧ n ≤ 32
/-- At most so many bytes more. -/
def Op.wt : Op → Nat
  | .bit _ _ _ => 1
  | .tree _ _ n _ => n
  | .back _ _ n _ => n
  | .direct _ n => (n + 7) / 8
def wts (l : List Op) : Nat := (l.map Op.wt).sum

structure ES where
  s : R.S
  T : Nat → List Int
structure ES.Ok (p : Pr) (z : ES) : Prop where
  s : R.Ok z.s
  T : TabOk p z.T
def pr (T : Nat → List Int) (x : PB) : Int := (T x.t).getD x.i.toNat 0
def turn (T : Nat → List Int) (x : PB) : Nat → List Int := if x.t = 18 then T else upd T x.t ((T x.t).set x.i.toNat (B.next (pr T x) x.b))
def stepB (z : ES) (x : PB) : ES := ⟨if x.t = 18 then z.s.one x.b else z.s.cut (B.bound z.s.R (pr z.T x)) x.b, turn z.T x⟩
def run (z : ES) (l : List PB) : ES := l.foldl stepB z
def costB (T : Nat → List Int) (x : PB) : Int := if x.t = 18 then 16 else B.cost (pr T x) x.b
def costs (T : Nat → List Int) (l : List PB) : Int := (l.map (costB T)).sum
def runO (z : ES) (l : List Op) : ES := l.foldl (fun z o => run z o.bits) z
def costO (T : Nat → List Int) (l : List Op) : Int := (l.map fun o => costs T o.bits).sum
def allBits (l : List Op) : List PB := (l.map Op.bits).flatten

theorem run_append (z : ES) (l m : List PB) : run z (l ++ m) = run (run z l) m := List.foldl_append ..
theorem runO_bits (l : List Op) : ∀ z : ES, runO z l = run z (allBits l) := by
  induction l with
  | nil => intro z; rfl
  | cons o l ih => intro z; rw [allBits, List.map_cons, List.flatten_cons, run_append, ← allBits, ← ih]; rfl
theorem runO_snoc (z : ES) (l : List Op) (o : Op) : runO z (l ++ [o]) = run (runO z l) o.bits := by simp [runO]
theorem costO_snoc (T : Nat → List Int) (l : List Op) (o : Op) : costO T (l ++ [o]) = costO T l + costs T o.bits := by simp [costO]
theorem wts_snoc (l : List Op) (o : Op) : wts (l ++ [o]) = wts l + o.wt := by simp [wts]
theorem wts_append (l m : List Op) : wts (l ++ m) = wts l + wts m := by simp [wts]

theorem upd_same {α : Type} (f : Nat → α) (i : Nat) : upd f i (f i) = f := by funext j; unfold upd; split <;> simp_all
theorem upd_upd {α : Type} (f : Nat → α) (i : Nat) (a b : α) : upd (upd f i a) i b = upd f i b := by funext j; unfold upd; split <;> rfl

theorem run_treeBits {t : Nat} (ht : t < 18) (z : ES) (a : Int) (bs : Nat → Int) : ∀ n, run z (treeBits t a bs n) = ⟨(R.TS.put ⟨z.s, z.T t⟩ a bs n).s, upd z.T t (R.TS.put ⟨z.s, z.T t⟩ a bs n).l⟩
  | 0 => by simp only [treeBits, run, R.TS.put, List.range_zero, List.map_nil, List.foldl_nil, upd_same]
  | n + 1 => by
    have hne : t ≠ 18 := by omega
    have ih := run_treeBits ht z a bs n
    rw [treeBits] at ih ⊢
    rw [List.range_succ, List.map_append, run_append, ih]
    simp only [List.map_cons, List.map_nil, run, List.foldl_cons, List.foldl_nil, stepB, turn, pr, hne, if_false, upd_self, upd_upd, R.TS.put, R.TS.bit]
theorem run_direct (v : Int) : ∀ (n : Nat) (z : ES), run z (Op.direct v n).bits = ⟨z.s.direct v n, z.T⟩
  | 0, z => rfl
  | n + 1, z => by
    have ih := run_direct v n (stepB z ⟨18, 0, v / 2 ^ n % 2⟩)
    have e : (Op.direct v (n + 1)).bits = ⟨18, 0, v / 2 ^ n % 2⟩ :: (Op.direct v n).bits := by
      simp only [Op.bits, List.range_succ_eq_map, List.map_cons, List.map_map]
      congr 1
      refine List.map_congr_left fun k hk => ?_
      simp only [Function.comp_apply, Nat.succ_eq_add_one]
      rw [show n + 1 - 1 - (k + 1) = n - 1 - k from by omega]
    rw [e]
    show run (stepB z _) _ = _
    rw [ih, R.S.direct]
    simp only [stepB, turn, if_true]
theorem costs_append (T : Nat → List Int) (l m : List PB) : costs T (l ++ m) = costs T l + costs T m := by simp [costs]
theorem costs_tree {t : Nat} (ht : t < 18) (T : Nat → List Int) (a : Int) (bs : Nat → Int) : ∀ n, costs T (treeBits t a bs n) = R.costs (T t) a bs n
  | 0 => rfl
  | n + 1 => by
    have hne : t ≠ 18 := by omega
    have ih := costs_tree ht T a bs n
    rw [treeBits] at ih ⊢
    rw [List.range_succ, List.map_append, costs_append, ih]
    simp only [List.map_cons, List.map_nil, costs, List.sum_cons, List.sum_nil, costB, hne, if_false, pr, R.costs, Int.add_zero]
theorem costs_direct (T : Nat → List Int) (v : Int) (n : Nat) : costs T (Op.direct v n).bits = 16 * n := by
  simp only [Op.bits, costs, List.map_map]
  have : ∀ l : List Nat, (l.map (costB T ∘ fun k => (⟨18, 0, v / 2 ^ (n - 1 - k) % 2⟩ : PB))).sum = 16 * (l.length : Int) := by
    intro l
    induction l with
    | nil => rfl
    | cons x l ih => simp only [List.map_cons, List.sum_cons, ih, Function.comp_apply, costB, if_true, List.length_cons]; omega
  rw [this, List.length_range]

/-! That all stays right -/
theorem step_ok {p : Pr} {z : ES} (h : z.Ok p) {x : PB} (hx : x.Ok p) : (stepB z x).Ok p ∧ (stepB z x).s.k ≤ z.s.k + 1 := by
  obtain ⟨hs, hT⟩ := h
  rcases hx.t with ht | ⟨ht, h0, h1⟩
  · simp only [stepB, turn, ht, if_true]
    exact ⟨⟨hs.one _, hT⟩, R.one_k hs _⟩
  · have hne : x.t ≠ 18 := by omega
    have hl := hT.len x.t ht
    have hx : (z.T x.t)[x.i.toNat]? = some (pr z.T x) := by
      rw [pr, List.getD_eq_getElem?_getD, List.getElem?_eq_getElem (show x.i.toNat < (z.T x.t).length by omega)]; rfl
    have hp := (hT.fine x.t).get hx
    simp only [stepB, turn, hne, if_false]
    have c1 := B.bound_pos (rng := z.s.R) hs.r0 hp.1
    have c2 := B.bound_lt (rng := z.s.R) (p := pr z.T x) hs.r0
    have hr0 := hs.r0
    have mid : 65536 ≤ B.bound z.s.R (pr z.T x) ∧ 65536 ≤ z.s.R - B.bound z.s.R (pr z.T x) := by
      unfold B.bound
      rw [B.taken_self (by omega) (by omega)]
      have a1 : z.s.R / 2048 * 31 ≤ z.s.R / 2048 * pr z.T x := Int.mul_le_mul_of_nonneg_left hp.1 (by omega)
      have a2 : z.s.R / 2048 * pr z.T x ≤ z.s.R / 2048 * 2017 := Int.mul_le_mul_of_nonneg_left hp.2 (by omega)
      omega
    refine ⟨⟨hs.cut _ _ c1 c2, fun i hi => ?_, fun i => ?_⟩, ?_⟩
    · show (upd z.T x.t _ i).length = _
      unfold upd
      split
      · rename_i e; rw [List.length_set, hl, e]
      · exact hT.len i hi
    · show B.Fine (upd z.T x.t _ i)
      unfold upd
      split
      · exact (hT.fine x.t).set _ ⟨B.next_lo _ hp.1 hp.2, B.next_hi _ hp.1 hp.2⟩
      · exact hT.fine i
    · unfold R.S.cut
      split
      · exact (R.widen_k _ _ rfl (by simp only; omega)).2 (by simp only; omega)
      · exact (R.widen_k _ _ rfl (by simp only; omega)).2 (by simp only; omega)
theorem run_ok {p : Pr} : ∀ {l : List PB} {z : ES}, z.Ok p → (∀ x ∈ l, x.Ok p) → (run z l).Ok p ∧ (run z l).s.k ≤ z.s.k + l.length
  | [], z, h, _ => ⟨h, Nat.le_refl _⟩
  | x :: l, z, h, hl => by
    have ⟨h1, h2⟩ := step_ok h (hl x List.mem_cons_self)
    have ⟨h3, h4⟩ := run_ok (l := l) h1 fun y hy => hl y (List.mem_cons_of_mem _ hy)
    refine ⟨h3, ?_⟩
    rw [List.length_cons]
    show (run (stepB z x) l).s.k ≤ _
    omega
theorem Op.Ok.bits {p : Pr} {o : Op} (h : o.Ok p) : ∀ x ∈ o.bits, x.Ok p := by
  have tb : ∀ (t n : Nat) (a : Int) (bs : Nat → Int), (∀ k, 0 ≤ bs k ∧ bs k ≤ 1) → t < 18 → R.There (tabLen p t) a n → ∀ x ∈ treeBits t a bs n, x.Ok p := by
    intro t n a bs hb ht hth x hx
    obtain ⟨k, hk, rfl⟩ := List.mem_map.1 hx
    have := hth.place hb (k := k) (by simpa using hk)
    exact ⟨hb k, .inr ⟨ht, this.1, this.2.1⟩⟩
  cases o with
  | bit t i b =>
    obtain ⟨h1, h2, h3, h4, h5⟩ := h
    intro x hx
    simp only [Op.bits, List.mem_singleton] at hx
    subst hx
    exact ⟨⟨h4, h5⟩, .inr ⟨h1, h2, h3⟩⟩
  | tree t a n v => exact tb t n a _ (R.bitAt_01 false n v) h.1 h.2.1
  | back t a n v => exact tb t n a _ (R.bitAt_01 true n v) h.1 h.2.1
  | direct v n =>
    intro x hx
    obtain ⟨k, hk, rfl⟩ := List.mem_map.1 hx
    exact ⟨by simp only; omega, .inl rfl⟩
theorem log2_half {n : Nat} (h : 2 ≤ n) : (n / 2).log2 + 1 = n.log2 := by
  have := Nat.log2_def n
  rw [this, if_pos h]
theorem log2_256 {n : Nat} (h : n ≠ 0) : (n * 256).log2 = n.log2 + 8 := by
  have e : (256 : Nat) = 2 ^ 8 := rfl
  rw [e]
  rw [Nat.log2_eq_iff (by omega)]
  have h1 := Nat.log2_self_le h
  have h2 := Nat.lt_log2_self (n := n)
  constructor
  · rw [Nat.pow_add]; exact Nat.mul_le_mul_right _ h1
  · rw [show n.log2 + 8 + 1 = n.log2 + 1 + 8 from by omega, Nat.pow_add]
    exact Nat.mul_lt_mul_of_pos_right h2 (by decide)
/-- A bit without a probability is a bit long. -/
theorem one_phi {s : R.S} (h : R.Ok s) (b : Int) : 8 * (s.one b).k + s.R.toNat.log2 = 8 * s.k + (s.one b).R.toNat.log2 + 1 := by
  have r0 := h.r0
  have r1 := h.r1
  have key : ∀ N : Int, 8 * (R.S.widen ⟨N, s.R / 2, s.k⟩).k + s.R.toNat.log2 = 8 * s.k + (R.S.widen ⟨N, s.R / 2, s.k⟩).R.toNat.log2 + 1 := by
    intro N
    have e1 : (s.R / 2).toNat = s.R.toNat / 2 := by omega
    have h1 := log2_half (n := s.R.toNat) (by omega)
    by_cases hlt : s.R / 2 < 16777216
    · rw [R.S.widen_go (by simp only; omega) hlt, R.S.widen_no (by simp only; omega)]
      simp only
      have e2 : (s.R / 2 * 256).toNat = s.R.toNat / 2 * 256 := by omega
      have h2 := log2_256 (n := s.R.toNat / 2) (by omega)
      rw [e2]
      omega
    · rw [R.S.widen_no hlt]
      simp only
      rw [e1]
      omega
  unfold R.S.one
  split
  · exact key _
  · exact key _
theorem direct_phi (v : Int) : ∀ (n : Nat) {s : R.S}, R.Ok s → 8 * (s.direct v n).k + s.R.toNat.log2 = 8 * s.k + (s.direct v n).R.toNat.log2 + n
  | 0, s, _ => rfl
  | n + 1, s, h => by
    have h1 := one_phi h (v / 2 ^ n % 2)
    have h2 := direct_phi v n (h.one (v / 2 ^ n % 2))
    rw [R.S.direct]
    omega
theorem direct_k {s : R.S} (h : R.Ok s) (v : Int) (n : Nat) : (s.direct v n).k ≤ s.k + (n + 7) / 8 := by
  have h1 := direct_phi v n h
  have h2 := h.direct v n
  have a1 : s.R.toNat.log2 < 32 := (Nat.log2_lt (by have := h.r0; omega)).2 (by have := h.r1; omega)
  have a2 : 24 ≤ s.R.toNat.log2 := (Nat.le_log2 (by have := h.r0; omega)).2 (by have := h.r0; omega)
  have a3 : (s.direct v n).R.toNat.log2 < 32 := (Nat.log2_lt (by have := h2.r0; omega)).2 (by have := h2.r1; omega)
  omega
theorem op_ok {p : Pr} {z : ES} (h : z.Ok p) {o : Op} (ho : o.Ok p) : (run z o.bits).Ok p ∧ (run z o.bits).s.k ≤ z.s.k + o.wt := by
  have ⟨h1, h2⟩ := run_ok h ho.bits
  refine ⟨h1, ?_⟩
  cases o with
  | bit t i b => exact h2
  | tree t a n v => simpa [Op.bits, treeBits, Op.wt] using h2
  | back t a n v => simpa [Op.bits, treeBits, Op.wt] using h2
  | direct v n =>
    rw [run_direct]
    exact direct_k h.s v n
theorem ops_ok {p : Pr} : ∀ {l : List Op} {z : ES}, z.Ok p → (∀ o ∈ l, o.Ok p) → (runO z l).Ok p ∧ (runO z l).s.k ≤ z.s.k + wts l
  | [], z, h, _ => ⟨h, Nat.le_refl _⟩
  | o :: l, z, h, hl => by
    have ⟨h1, h2⟩ := op_ok h (hl o List.mem_cons_self)
    have ⟨h3, h4⟩ := ops_ok (l := l) h1 fun y hy => hl y (List.mem_cons_of_mem _ hy)
    refine ⟨h3, ?_⟩
    show (runO (run z o.bits) l).s.k ≤ _
    simp only [wts, List.map_cons, List.sum_cons] at h4 ⊢
    omega

theorem costing_pos : ∀ i : Int, 0 ≤ i → i ≤ 127 → 1 ≤ B.costing i := by
  have h : ∀ j : Fin 128, 1 ≤ B.costing (j.val : Int) := by decide +kernel
  intro i h0 h1
  have := h ⟨i.toNat, by omega⟩
  simp only [Int.toNat_of_nonneg h0] at this
  exact this
theorem costB_bd (T : Nat → List Int) (x : PB) : 1 ≤ costB T x ∧ costB T x ≤ 161 := by
  unfold costB
  split
  · omega
  · have h1 := B.taken_lo (pr T x)
    have h2 := B.taken_hi (pr T x)
    refine ⟨?_, (B.cost_small _ _).2⟩
    unfold B.cost
    split
    · exact costing_pos _ (by omega) (by omega)
    · exact costing_pos _ (by omega) (by omega)
theorem costs_bd (T : Nat → List Int) : ∀ l : List PB, (l.length : Int) ≤ costs T l ∧ costs T l ≤ 161 * l.length
  | [] => ⟨Int.le_refl _, Int.le_refl _⟩
  | x :: l => by
    have ⟨h1, h2⟩ := costs_bd T l
    have := costB_bd T x
    simp only [costs, List.map_cons, List.sum_cons, List.length_cons] at h1 h2 ⊢
    omega
def lens (l : List Op) : Nat := (l.map fun o => o.bits.length).sum
theorem lens_snoc (l : List Op) (o : Op) : lens (l ++ [o]) = lens l + o.bits.length := by simp [lens]
theorem costO_bd (T : Nat → List Int) : ∀ l : List Op, (lens l : Int) ≤ costO T l ∧ costO T l ≤ 161 * lens l
  | [] => ⟨Int.le_refl _, Int.le_refl _⟩
  | o :: l => by
    have ⟨h1, h2⟩ := costO_bd T l
    have := costs_bd T o.bits
    simp only [costO, lens, List.map_cons, List.sum_cons] at h1 h2 ⊢
    omega

/-! ### The bits of a symbol -/

def litGo (from_ b t : Int) : Nat → Int → Bool → List Op
  | 0, _, _ => []
  | i + 1, m, same => .bit 6 (from_ + m + (if same then 256 * (1 + t / 2 ^ i % 2) else 0)) (b / 2 ^ i % 2) :: litGo from_ b t i (2 * m + b / 2 ^ i % 2) (same && decide (b / 2 ^ i % 2 = t / 2 ^ i % 2))
def lastOr (x : W) (d : Int) : UInt8 := if x.has d then x.last d.toNat else 0
def litOps (p : Pr) (s : St) (x : W) (b : UInt8) : List Op :=
  let f := context p x.all.length (lastOr x 1).toNat
  if s.num < 7 then [.tree 6 f 8 b.toNat] else litGo f b.toNat (lastOr x s.r0).toNat 8 1 true
def lenOps (c : Nat) (p : Pr) (pos : Int) (n : Int) : List Op :=
  let at_ := 8 * place p pos
  if n - 2 < 8 then [.bit c 0 0, .tree (c + 1) at_ 3 (n - 2)]
  else if n - 2 < 16 then [.bit c 0 1, .bit c 1 0, .tree (c + 2) at_ 3 (n - 2 - 8)]
  else [.bit c 0 1, .bit c 1 1, .tree (c + 3) 0 8 (n - 2 - 16)]
def distOps (n d : Int) : List Op :=
  let s := slot d
  let r := d - least s
  .tree 15 (64 * min (n - 2) 3) 6 s :: (if bitsN s = 0 then [] else if s < 14 then [.back 16 (restAt s) (bitsN s) r] else [.direct (r / 16) (bitsN s - 4), .back 17 0 4 (r % 16)])
def repOps (p : Pr) (s : St) (pos : Int) (d : Int) : List Op :=
  if d = 0 then [.bit 3 s.num 0, .bit 1 (s.num * 16 + place p pos) 1] else [.bit 3 s.num 1, .bit 4 s.num (min (d - 1) 1)] ++ (if 1 < d then [.bit 5 s.num (d - 2)] else [])
def symOps (p : Pr) (s : St) (x : W) (y : Y) : List Op :=
  let at_ := s.num * 16 + place p x.all.length
  if y.Kind = 1 then .bit 0 at_ 0 :: litOps p s x y.Byte
  else if y.Kind = 2 then [.bit 0 at_ 1, .bit 2 s.num 0] ++ lenOps 7 p x.all.length y.Len ++ distOps y.Len y.Dist
  else if y.Kind = 4 then [.bit 0 at_ 1, .bit 2 s.num 1, .bit 3 s.num 0, .bit 1 at_ 0]
  else [.bit 0 at_ 1, .bit 2 s.num 1] ++ repOps p s x.all.length y.Dist ++ lenOps 11 p x.all.length y.Len

end Z
end Go.Proofs.YtbgnnjfpiblkmaaDoor
