/-
  Chapter 12 as plain data: the state behind a symbol; slots; what the given variables hold.
-/
import Derived.Test.YtbgnnjfpiblkmaaDoorTypes
namespace Go.Proofs.YtbgnnjfpiblkmaaDoor
open Go
set_option linter.unusedSimpArgs false
set_option linter.unnecessarySimpa false
set_option linter.unusedSectionVars false
set_option linter.unusedVariables false
namespace Z

abbrev Y := T_api_Symbol
structure St where
  num : Int
  r0 : Int
  r1 : Int
  r2 : Int
  r3 : Int
def St.new : St := ⟨0, 1, 1, 1, 1⟩
def St.cells (s : St) : List Value := [.int .i64 s.num, .int .i64 s.r0, .int .i64 s.r1, .int .i64 s.r2, .int .i64 s.r3]
def St.zero : St := ⟨0, 0, 0, 0, 0⟩
def isDist (d : Int) : Prop := 1 ≤ d ∧ d ≤ 4294967295
instance (d : Int) : Decidable (isDist d) := by unfold isDist; exact inferInstance
def isLen (n : Int) : Prop := 2 ≤ n ∧ n ≤ 273
instance (n : Int) : Decidable (isLen n) := by unfold isLen; exact inferInstance
structure St.Right (s : St) : Prop where
  num : 0 ≤ s.num ∧ s.num < 12
  d0 : isDist s.r0
  d1 : isDist s.r1
  d2 : isDist s.r2
  d3 : isDist s.r3
theorem St.Right.new : St.new.Right := ⟨by decide, by decide, by decide, by decide, by decide⟩
def St.rep (s : St) (i : Int) : Int := if i = 0 then s.r0 else if i = 1 then s.r1 else if i = 2 then s.r2 else s.r3
theorem St.Right.rep {s : St} (h : s.Right) (i : Int) : isDist (s.rep i) := by
  unfold St.rep
  obtain ⟨_, h0, h1, h2, h3⟩ := h
  repeat (split; · assumption)
  assumption
/-- The number behind a kind: 1 a byte, 2 a match, 3 one of the last distances, 4 the short one. -/
def moved (n kind : Int) : Int := if kind = 1 then (if n < 4 then 0 else if n < 10 then n - 3 else n - 6) else if kind = 2 then (if 7 ≤ n then 10 else 7) else if 7 ≤ n then 11 else if kind = 3 then 8 else 9
theorem moved_bd {n kind : Int} (h : 0 ≤ n ∧ n < 12) : 0 ≤ moved n kind ∧ moved n kind < 12 := by
  unfold moved
  repeat (split; · first | omega | (split <;> omega) | (repeat (split; · omega); omega))
  omega
/-- What a symbol's form refuses. -/
def errY (y : Y) : Int := if y.Kind = 1 ∨ y.Kind = 4 then 0 else if y.Kind = 2 then (if isLen y.Len ∧ isDist y.Dist then 0 else 7) else if y.Kind = 3 then (if isLen y.Len ∧ 0 ≤ y.Dist ∧ y.Dist ≤ 3 then 0 else 7) else 6
def St.next (s : St) (y : Y) : St :=
  if y.Kind = 2 then ⟨moved s.num 2, y.Dist, s.r0, s.r1, s.r2⟩
  else if y.Kind = 3 then (if y.Dist = 0 then ⟨moved s.num 3, s.r0, s.r1, s.r2, s.r3⟩ else if y.Dist = 1 then ⟨moved s.num 3, s.r1, s.r0, s.r2, s.r3⟩ else if y.Dist = 2 then ⟨moved s.num 3, s.r2, s.r0, s.r1, s.r3⟩ else ⟨moved s.num 3, s.r3, s.r0, s.r1, s.r2⟩)
  else ⟨moved s.num y.Kind, s.r0, s.r1, s.r2, s.r3⟩
theorem St.Right.next {s : St} (h : s.Right) {y : Y} (hy : errY y = 0) : (s.next y).Right := by
  obtain ⟨hn, h0, h1, h2, h3⟩ := h
  unfold St.next
  split
  · rename_i hk
    unfold errY at hy
    rw [if_neg (by omega), if_pos hk] at hy
    have hd : isDist y.Dist := by
      by_cases hd : isLen y.Len ∧ isDist y.Dist
      · exact hd.2
      · rw [if_neg hd] at hy; omega
    exact ⟨moved_bd (kind := 2) hn, hd, h0, h1, h2⟩
  · split
    · repeat' split
      all_goals exact ⟨moved_bd (kind := 3) hn, by assumption, by assumption, by assumption, by assumption⟩
    · exact ⟨moved_bd (kind := y.Kind) hn, h0, h1, h2, h3⟩

/-- The distance that a symbol names, behind a state. -/
def dist (s : St) (y : Y) : Int := if y.Kind = 2 then y.Dist else if y.Kind = 3 then s.rep y.Dist else s.r0
/-- How many bytes it makes. -/
def size (y : Y) : Int := if errY y ≠ 0 then 0 else if y.Kind = 2 ∨ y.Kind = 3 then y.Len else 1

/-! Slots -/

/-- The place of the highest bit. -/
def top : Nat → Nat → Nat
  | 0, _ => 0
  | f + 1, x => if x < 2 then 0 else top f (x / 2) + 1
def slot (d : Int) : Int := if d - 1 < 4 then d - 1 else 2 * (Nat.log2 (d - 1).toNat : Int) + (d - 1) / 2 ^ ((d - 1).toNat.log2 - 1) % 2
def bitsN (s : Int) : Nat := if s < 4 then 0 else (s / 2 - 1).toNat
def least (s : Int) : Int := if s < 4 then s + 1 else (2 + s % 2) * 2 ^ (s / 2 - 1).toNat + 1

/-- Properties. -/
structure Pr where
  lc : Int
  lp : Int
  pb : Int
def Pr.Ok (p : Pr) : Prop := 0 ≤ p.lc ∧ 0 ≤ p.lp ∧ 0 ≤ p.pb ∧ p.pb ≤ 4 ∧ p.lc + p.lp ≤ 4
instance (p : Pr) : Decidable p.Ok := by unfold Pr.Ok; exact inferInstance
def Pr.cells (p : Pr) : List Value := [.int .i64 p.lc, .int .i64 p.lp, .int .i64 p.pb]

end Z

/-- What the given variables hold. -/
structure Glo (W : World) : Prop where
  lit : ∀ i : Nat, i < 12 → W.cell? ⟨0, i, none⟩ = some (.int .i64 (Z.moved i 1))
  mat : ∀ i : Nat, i < 12 → W.cell? ⟨2, i, none⟩ = some (.int .i64 (Z.moved i 2))
  rep : ∀ i : Nat, i < 12 → W.cell? ⟨3, i, none⟩ = some (.int .i64 (Z.moved i 3))
  sht : ∀ i : Nat, i < 12 → W.cell? ⟨1, i, none⟩ = some (.int .i64 (Z.moved i 4))

theorem Glo.up {E w W : World} {L M : List HA} (hS : Sat E w L) [h : Has (old W) L M] {a : Addr} {v : Value} (hc : W.cell? a = some v) : w.cell? a = some v := by
  have h0 : Sat E w (old W :: M) := hS.perm h.perm
  have h1 := h0.old_at 0 rfl
  unfold World.cell? at hc ⊢
  cases hb : W.heap[a.block]? with
  | none => rw [hb] at hc; simp at hc
  | some o =>
    rw [h1 _ _ hb]
    rw [hb] at hc
    exact hc

theorem laid_get {P : Program} {W : World} : ∀ {l : List (String × DataW Unit)} {ps : List MemPlace} {n : String} {d : DataW Unit}, DataW.LaidVars P W l ps → (n, d) ∈ l →
    ∃ g t cs fuel p, P.globalNamed n = some g ∧ (P.globals[g]?).map (·.type) = some t ∧ W.var? P n = some cs ∧ DataW.trod (fun _ => ()) P W 0 (fun _ => true) false fuel t cs.toList = some (d, p)
  | [], _, _, _, _, h => by cases h
  | (n0, d0) :: r, ps, n, d, ⟨g, t, cs, fuel, p, q, h1, h2, h3, h4, h5, _⟩, h => by
    rcases List.mem_cons.1 h with e | h
    · cases e; exact ⟨g, t, cs, fuel, p, h1, h2, h3, h4⟩
    · exact laid_get h5 h

/-- An array of numbers. -/
theorem laid_ints {W : World} {l : List (String × DataW Unit)} {ps : List MemPlace} (hl : DataW.LaidVars Tryd.prog W l ps) {n : String} {g t e m : Nat} (zs : List Int) (hm : (n, DataW.agg (zs.map fun z => .lit (.int .i64 z))) ∈ l)
    (hg : Tryd.prog.globalNamed n = some g) (ht : (Tryd.prog.globals[g]?).map (·.type) = some t) (hu : Tryd.prog.underlying t = some (.array m e)) (hc : Tryd.prog.cellsOf e = 1) (he : Tryd.prog.underlying e = some (.int .i64)) (i : Nat) (z : Int) (hi : i < m) (hz : zs[i]? = some z) : W.cell? ⟨g, i, none⟩ = some (.int .i64 z) := by
  obtain ⟨g', t', cs, fuel, p, hg', ht', hv, hd⟩ := laid_get hl hm
  obtain rfl := Option.some.inj (hg.symm.trans hg')
  obtain rfl := Option.some.inj (ht.symm.trans ht')
  obtain ⟨xs, k, _, ex, _, hln, hel⟩ := DataW.trod_array hu hd
  have hE := hel i hi
  have hlt : i < zs.length := (List.getElem?_eq_some_iff.1 hz).1
  have e3 : (xs.map (·.1)) = zs.map fun z => .lit (.int .i64 z) := (DataW.agg.inj (Prod.mk.inj ex).1).symm
  have hxl : xs.length = zs.length := by have := congrArg List.length e3; simpa using this
  rw [hc, Nat.mul_one, List.getElem?_eq_getElem (by omega)] at hE
  obtain ⟨y, e1, e2, _⟩ := DataW.trod_int he hE
  have e4 : (xs.map (·.1))[i]? = (zs.map fun z => (DataW.lit (.int .i64 z) : DataW Unit))[i]? := by rw [e3]
  rw [List.getElem?_map, List.getElem?_map, List.getElem?_eq_getElem (by omega : i < xs.length), hz, e2] at e4
  simp only [Option.map_some, Option.some.injEq, DataW.lit.injEq, Lit.int.injEq, true_and] at e4
  subst e4
  rw [World.var?_cell hg hv i]
  have h0 : ((cs.toList.drop i).take 1)[0]? = some (.int .i64 y) := by rw [e1]; rfl
  have : cs.toList[i]? = some (.int .i64 y) := by simpa using h0
  simpa using this

end Go.Proofs.YtbgnnjfpiblkmaaDoor
