/-
  Texts of one proof, one behind the other: SnP, Part, Arr, Arw, SnT, SnQ, LfDepot, LfSlices, DepW, LfState, LfChain, Chn, LfCdc, Rnd, RndC, LrCdc, RndS.
-/
import Derived.Test.YtikmogfhhggafaaGreatDoorRows
import Derived.OrdersIn
import Derived.TacticsIn
import Derived.RangeFuncRecord
import Derived.Test.YtikmogfhhggafaaGreatDoorMk3
set_option linter.unusedSimpArgs false
set_option linter.unnecessarySimpa false
set_option linter.unusedSectionVars false
set_option linter.unusedVariables false

namespace Go.Proofs.YtikmogfhhggafaaGreatDoor
open Go
namespace S
open D (B)
abbrev It := T_api_Item

def werr : List It → Int
  | [] => 0
  | x :: r => if A.wrong x = 0 then werr r else A.wrong x
def before (x y : It) : Bool := Op.bytesLess x.Name y.Name
def twice : List It → Bool
  | x :: y :: r => decide (x.Name = y.Name) || twice (y :: r)
  | _ => false
def sort (l : List It) : List It := l.mergeSort fun x y => !before y x

def en (k : C.K) (x : It) : L.En := ⟨x.Kind, x.Mode, x.Time, x.Name, x.Link, D.ids k x.Data.2⟩
def bare (e : L.En) : It := ⟨e.name, e.link, e.kind, e.mode, e.time, (⟨none, 0⟩, [])⟩
def right (e : L.En) : Bool := decide (A.wrong (bare e) = 0)
def putAll (d : D.T) (l : List It) : D.T := l.foldl (fun d x => d.put x.Data.2) d
def list (k : C.K) (l : List It) : B := L.list (l.map (en k))

def saved (d : D.T) (n : B) (l : List It) : D.T := ((putAll d l).put (list d.k l)).set n (D.ids d.k (list d.k l))
def save (d : D.T) (n : B) (l : List It) : Int × D.T :=
  if 254 < n.length then (8, d) else if werr l ≠ 0 then (werr l, d) else if twice (sort l) = true then (9, d) else (0, saved d n (sort l))

def listed (d : D.T) (n : B) : Int × List L.En × List I32 := match D.look d.ns n with
  | none => (8, [], [])
  | some r => match d.get r with
    | none => (1, [], [])
    | some b => match L.rlist right b with
      | none => (2, [], r)
      | some l => (0, l, r)

def alike (a b : L.En) : Bool := decide (a.kind = b.kind ∧ a.mode = b.mode ∧ a.time = b.time ∧ a.link = b.link ∧ a.sums = b.sums)
def diff : List L.En → List L.En → List (Int × B)
  | [], [] => []
  | a :: l, [] => (2, a.name) :: diff l []
  | [], b :: m => (1, b.name) :: diff [] m
  | a :: l, b :: m => if Op.bytesLess a.name b.name = true then (2, a.name) :: diff l (b :: m) else if Op.bytesLess b.name a.name = true then (1, b.name) :: diff (a :: l) m
    else if alike a b = true then diff l m else (3, a.name) :: diff l m
termination_by l m => l.length + m.length

theorem less_cons (a b : UInt8) (x y : B) : Op.bytesLess (a :: x) (b :: y) = true ↔ a.toNat < b.toNat ∨ a = b ∧ Op.bytesLess x y = true := by
  rw [Op.bytesLess]
  simp [UInt8.lt_iff_toNat_lt]
theorem less_irr : ∀ l : B, Op.bytesLess l l = false
  | [] => rfl
  | a :: l => by
    cases h : Op.bytesLess (a :: l) (a :: l) with
    | false => rfl
    | true =>
      rcases (less_cons a a l l).1 h with h | h
      · omega
      · rw [less_irr l] at h; cases h.2
theorem less_tr : ∀ x y z : B, Op.bytesLess x y = true → Op.bytesLess y z = true → Op.bytesLess x z = true
  | [], [], z, h, _ => by cases h
  | _ :: _, [], z, h, _ => by cases h
  | _, y :: ys, [], _, h => by cases h
  | [], _ :: _, _ :: _, _, _ => rfl
  | a :: x, b :: y, c :: z, h1, h2 => by
    refine (less_cons a c x z).2 ?_
    have c1 := (less_cons a b x y).1 h1
    have c2 := (less_cons b c y z).1 h2
    by_cases e1 : a = b
    · subst e1
      by_cases e2 : a = c
      · subst e2
        refine .inr ⟨rfl, less_tr x y z ?_ ?_⟩
        · rcases c1 with c | c
          · omega
          · exact c.2
        · rcases c2 with c | c
          · omega
          · exact c.2
      · rcases c2 with c | c
        · exact .inl c
        · exact absurd c.1 e2
    · rcases c1 with c | c
      · rcases c2 with d | d
        · exact .inl (by omega)
        · rw [← d.1]; exact .inl c
      · exact absurd c.1 e1
theorem less_tri : ∀ x y : B, Op.bytesLess x y = false → Op.bytesLess y x = false → x = y
  | [], [], _, _ => rfl
  | _ :: _, [], _, h => by cases h
  | [], _ :: _, h, _ => by cases h
  | a :: x, b :: y, h1, h2 => by
    have n1 : ¬ (a.toNat < b.toNat ∨ a = b ∧ Op.bytesLess x y = true) := fun h => by rw [(less_cons a b x y).2 h] at h1; cases h1
    have n2 : ¬ (b.toNat < a.toNat ∨ b = a ∧ Op.bytesLess y x = true) := fun h => by rw [(less_cons b a y x).2 h] at h2; cases h2
    have e : a = b := UInt8.toNat_inj.1 (by omega)
    subst e
    rw [less_tri x y (by cases h : Op.bytesLess x y with
      | false => rfl
      | true => exact absurd (.inr ⟨rfl, h⟩) n1) (by cases h : Op.bytesLess y x with
      | false => rfl
      | true => exact absurd (.inr ⟨rfl, h⟩) n2)]
theorem less_nt (x y z : B) (h1 : Op.bytesLess x y = false) (h2 : Op.bytesLess y z = false) : Op.bytesLess x z = false := by
  cases h : Op.bytesLess x z with
  | false => rfl
  | true =>
    cases h3 : Op.bytesLess y x with
    | true => rw [less_tr y x z h3 h] at h2; cases h2
    | false =>
      have := less_tri x y h1 h3
      subst this
      rw [h] at h2; cases h2
theorem less_ord : U.Ord Op.bytesLess := ⟨less_irr, less_tr, less_nt⟩
theorem before_ord : U.Ord before := ⟨fun x => less_irr _, fun x y z => less_tr _ _ _, fun x y z => less_nt _ _ _⟩

theorem sort_perm (l : List It) : (sort l).Perm l := List.mergeSort_perm _ _
theorem sort_up (l : List It) : U.Up before (sort l) := by
  have h := List.pairwise_mergeSort (le := fun x y => !before y x) (fun a b c h1 h2 => by
    simp only [Bool.not_eq_true'] at h1 h2 ⊢
    exact before_ord.nt _ _ _ h2 h1) (fun a b => by
    cases h : before b a with
    | false => simp
    | true => simp [before_ord.asym h]) l
  exact h.imp fun h => by simpa using h
def Rise (l : List It) : Prop := l.Pairwise fun x y => before x y = true
theorem rise_of : ∀ {l : List It}, U.Up before l → twice l = false → Rise l
  | [], _, _ => List.Pairwise.nil
  | [x], _, _ => List.pairwise_singleton _ _
  | x :: y :: r, h, h2 => by
    rw [twice, Bool.or_eq_false_iff] at h2
    have h3 := rise_of (List.pairwise_cons.1 h).2 h2.2
    have hxy : before x y = true := by
      cases e : before x y with
      | true => rfl
      | false =>
        have := less_tri x.Name y.Name e ((List.pairwise_cons.1 h).1 y List.mem_cons_self)
        exact absurd this (of_decide_eq_false h2.1)
    refine List.pairwise_cons.2 ⟨fun z hz => ?_, h3⟩
    rcases List.mem_cons.1 hz with rfl | hz
    · exact hxy
    · exact less_tr _ _ _ hxy ((List.pairwise_cons.1 h3).1 z hz)
theorem not_twice : ∀ {l : List It}, Rise l → twice l = false
  | [], _ => rfl
  | [x], _ => rfl
  | x :: y :: r, h => by
    rw [twice, not_twice (List.pairwise_cons.1 h).2, Bool.or_false]
    refine decide_eq_false fun e => ?_
    have := (List.pairwise_cons.1 h).1 y List.mem_cons_self
    rw [before, e, less_irr] at this
    cases this
theorem rise_nodup {l : List It} (h : Rise l) : (l.map (·.Name)).Nodup := by
  unfold List.Nodup
  rw [List.pairwise_map]
  exact h.imp fun {a b} h e => by rw [before, e, less_irr] at h; cases h
theorem twice_nodup : ∀ {l : List It}, (l.map (·.Name)).Nodup → twice l = false
  | [], _ => rfl
  | [x], _ => rfl
  | x :: y :: r, h => by
    rw [List.map_cons, List.nodup_cons] at h
    rw [twice, twice_nodup h.2, Bool.or_false]
    exact decide_eq_false fun e => h.1 (by rw [e, List.map_cons]; exact List.mem_cons_self)
theorem sort_of {l m : List It} (hp : m.Perm l) (hu : U.Up before m) : twice m = twice (sort l) ∧ (twice m = false → m = sort l) := by
  have hpp : m.Perm (sort l) := hp.trans (sort_perm l).symm
  have h1 : twice m = false → twice (sort l) = false := fun h => twice_nodup ((hpp.map (·.Name)).nodup_iff.1 (rise_nodup (rise_of hu h)))
  have h2 : twice (sort l) = false → twice m = false := fun h => twice_nodup ((hpp.map (·.Name)).nodup_iff.2 (rise_nodup (rise_of (sort_up l) h)))
  refine ⟨?_, fun h => U.Up.uniq hpp (rise_of hu h) (rise_of (sort_up l) (h1 h)) before_ord⟩
  cases e : twice m with
  | false => rw [h1 e]
  | true => cases e2 : twice (sort l) with
    | false => rw [h2 e2] at e; cases e
    | true => rfl
end S
end Go.Proofs.YtikmogfhhggafaaGreatDoor

namespace Go.Proofs.YtikmogfhhggafaaGreatDoor
open Go

section
variable [Pan] {P : Program} {E w : World} {K : Value → World → Prop} {J : Value → Prop} {L M : List HA} {v : Value} {t : TypeId} {o : Ob} {b i n : Nat}

theorem run_la_at (hS : Sat E w L) [h : Fnd (cel b) L o M] [Ag P t n] (cs : List Value) (hc : (o.cs.drop i).take n = cs) (hn : n = cs.length) : (oLoad t (.pointer (some ⟨b, i, none⟩))).run P w = .ok (.value (.agg cs.toArray)) w := by
  have hl := cells_of_blk (o := i) (cel_at (b := b) hS) n
  rw [List.toList_toArray, hc] at hl
  exact run_load_agg Ag.ag (by rw [← hn]; exact Ag.sz) hl
theorem pN_la_at (hS : Sat E w L) [h : Fnd (cel b) L o M] [Ag P t n] (cs : List Value) (hc : (o.cs.drop i).take n = cs) (hn : n = cs.length) (hk : K (.agg cs.toArray) w) : pN P (oLoad t (.pointer (some ⟨b, i, none⟩))) w K := by
  rw [pN_def, run_la_at hS cs hc hn, rN_value]; exact hk
theorem pL_la_at (hS : Sat E w L) [h : Fnd (cel b) L o M] [Ag P t n] (cs : List Value) (hc : (o.cs.drop i).take n = cs) (hn : n = cs.length) (hk : J (.agg cs.toArray)) : pL P (oLoad t (.pointer (some ⟨b, i, none⟩))) w J :=
  ⟨_, run_la_at hS cs hc hn, hk⟩
theorem pN_sa_at {us : List Value} (hS : Sat E w L) [h : Fnd (cel b) L o M] [Ag P t n] (hn : n = us.length) (hi : i + us.length ≤ o.cs.length) (h1 : us.all (·.oneCell') = true)
    (hk : ∀ w', Sat E w' (cel b ⟨o.e, o.cs.take i ++ us ++ o.cs.drop (i + us.length)⟩ :: M) → K undef w') : pN P (oStore t (.pointer (some ⟨b, i, none⟩)) (.agg us.toArray)) w K := by
  refine pN_st_part (hS.fd (cel b)) Ag.sz (by simpa using hn) (by simpa using List.all_eq_true.1 h1) (by simpa using hi) fun w' hS' => hk w' ?_
  simpa [cel] using hS'

theorem pDf_fn {fn : Fn} {first cap args : List Value} {K : Deferred → Prop} (hk : K { target := .fn fn cap.toArray, args := first.toArray ++ args.toArray }) : pDf P (oDf (.func fn first.toArray cap.toArray) args) w K := ⟨_, rfl, hk⟩

theorem dE_of {f : FuncId} {cap args : List Value} {u u2 : FrameMode} {K : World → Prop} {Q : Value → World → Prop} (hi : ∀ (args : Array Value) (w : World), (callFunc f args).run P w = .ok (.enter f args) w) (hu : settle u2 = .returning) (hk : ∀ r w, Q r w → K w)
    (h : CallsD P f (args ++ cap).toArray u w fun e u' w' => u' = u2 ∧ ∃ r, e = .returned r ∧ Q r w') : dE P { target := .fn (.func f) cap.toArray, args := #[] ++ args.toArray } u w K := by
  refine ⟨.func f, cap.toArray, f, (args ++ cap).toArray, rfl, ?_, h.mono fun e u' w' he => ?_⟩
  · show (callFunc f _).run P w = _
    rw [hi]
    simp
  · obtain ⟨rfl, r, rfl, hq⟩ := he
    exact ⟨⟨r, rfl⟩, hu, hk _ _ hq⟩
end

theorem or_low (n : Nat) (a b : Int) (j : Nat) (ha : 0 ≤ a) (hb : 0 ≤ b) (hb2 : b < 2 ^ j) (h : a * 2 ^ j + b < 2 ^ n) : ((BitVec.ofInt n (a * 2 ^ j) ||| BitVec.ofInt n b).toNat : Int) = a * 2 ^ j + b := by
  obtain ⟨a, rfl⟩ := Int.eq_ofNat_of_zero_le ha
  obtain ⟨b, rfl⟩ := Int.eq_ofNat_of_zero_le hb
  have hb3 : b < 2 ^ j := by exact_mod_cast hb2
  have h2 : a * 2 ^ j + b < 2 ^ n := by exact_mod_cast h
  have e1 : ((a : Int) * 2 ^ j) = ((a * 2 ^ j : Nat) : Int) := by push_cast; rfl
  have e2 : (BitVec.ofInt n ((a * 2 ^ j : Nat) : Int)).toNat = a * 2 ^ j := by
    rw [BitVec.toNat_ofInt]
    norm_cast
    rw [Int.toNat_natCast]
    exact Nat.mod_eq_of_lt (by omega)
  have e3 : (BitVec.ofInt n (b : Int)).toNat = b := by
    rw [BitVec.toNat_ofInt]
    norm_cast
    rw [Int.toNat_natCast]
    exact Nat.mod_eq_of_lt (by omega)
  rw [e1, BitVec.toNat_or, e2, e3, Nat.mul_comm a, ← Nat.two_pow_add_eq_or_of_lt hb3]
  push_cast
  rfl

end Go.Proofs.YtikmogfhhggafaaGreatDoor

namespace Go.Proofs.YtikmogfhhggafaaGreatDoor
open Go

section
variable [Pan] {P : Program} {E w : World} {K : Value → World → Prop} {J : Value → Prop} {L M : List HA} {v : Value} {t e : TypeId} {o : Ob} {b i j n : Nat} {k : IntKind} {x : Int}

class Ar (P : Program) (t : TypeId) (n : outParam Nat) : Prop where
  ex : ∃ e, P.underlying t = some (.array n e) ∧ (∀ w, (sizeOf e).run P w = .ok 1 w) ∧ ∀ w, (isAgg e).run P w = .ok false w

theorem run_aix [h : Ar P t n] {cs : List Value} (j : Nat) (hx : x = (j : Int)) (hj : j < n) (hv : cs[j]? = some v) (w : World) : (oIndex t (.agg cs.toArray) (.int k x)).run P w = .ok (.value v) w := by
  obtain ⟨e, ht, hs, ha⟩ := h.ex
  subst hx
  refine run_oV_ok ?_
  have h1 : (j : Int) < n := by omega
  simp [Instr.index, run_underlying ht, asIntOf, hs, hj, part, ha, hv]
theorem pN_aix [h : Ar P t n] {cs : List Value} (j : Nat) (hx : x = (j : Int)) (hj : j < n) (hv : cs[j]? = some v) (hk : K v w) : pN P (oIndex t (.agg cs.toArray) (.int k x)) w K := by
  rw [pN_def, run_aix j hx hj hv, rN_value]; exact hk

end

end Go.Proofs.YtikmogfhhggafaaGreatDoor

namespace Go.Proofs.YtikmogfhhggafaaGreatDoor
open Go

def ws (l : List (BitVec 32)) : List Value := l.map wv
theorem ws_len (l : List (BitVec 32)) : (ws l).length = l.length := List.length_map ..
theorem ws_at {l : List (BitVec 32)} {i : Nat} (h : i < l.length) : (ws l)[i]? = some (wv (l.getD i 0)) := by
  rw [ws, List.getElem?_map, List.getD_eq_getElem?_getD, List.getElem?_eq_getElem h]; rfl
theorem ws_set (l : List (BitVec 32)) (i : Nat) (x : BitVec 32) : (ws l).set i (wv x) = ws (l.set i x) := by rw [ws, ws, List.map_set]
theorem bvs_at {l : List UInt8} {i : Nat} (h : i < l.length) : (bvs l)[i]? = some (bv (l.getD i 0)) := by
  rw [bvs, List.getElem?_map, List.getD_eq_getElem?_getD, List.getElem?_eq_getElem h]; rfl
theorem ws_one (l : List (BitVec 32)) : (ws l).all (·.oneCell') = true := by simp [ws, wv, Value.oneCell']
theorem bvs_all (l : List UInt8) : (bvs l).all (·.oneCell') = true := by simp [bvs, bv, Value.oneCell']

section
variable [Pan] {P : Program} {E w : World} {K : Value → World → Prop} {J : Value → Prop} {L M : List HA} {v : Value} {t : TypeId} {o : Ob} {b i n : Nat} {k : IntKind} {x : Int}

theorem run_aia [h : Ar P t n] (j : Nat) (hx : x = (j : Int)) (hj : j < n) (w : World) : (oIdx t (.pointer (some ⟨b, i, none⟩)) (.int k x)).run P w = .ok (.value (.pointer (some ⟨b, i + j, none⟩))) w := by
  obtain ⟨e, ht, hs, _⟩ := h.ex
  subst hx
  have := run_aidx ht hs b i k (j : Int) (by omega) (by omega) w
  rw [Int.toNat_natCast] at this
  exact this
theorem pN_aia [h : Ar P t n] (j : Nat) (hx : x = (j : Int)) (hj : j < n) (hk : K (.pointer (some ⟨b, i + j, none⟩)) w) : pN P (oIdx t (.pointer (some ⟨b, i, none⟩)) (.int k x)) w K := pN_of (run_aia j hx hj w) hk
theorem pA_aia [h : Ar P t n] (j : Nat) (hx : x = (j : Int)) (hj : j < n) (hk : J (.pointer (some ⟨b, i + j, none⟩))) : pA P (oIdx t (.pointer (some ⟨b, i, none⟩)) (.int k x)) J := pA_of (run_aia j hx hj) hk

theorem pN_ai0 [h : Ar P t n] (j : Nat) (hx : x = (j : Int)) (hj : j < n) (hk : K (.pointer (some ⟨b, j, none⟩)) w) : pN P (oIdx t (.pointer (some ⟨b, 0, none⟩)) (.int k x)) w K := pN_aia j hx hj (by rw [Nat.zero_add]; exact hk)
theorem pA_ai0 [h : Ar P t n] (j : Nat) (hx : x = (j : Int)) (hj : j < n) (hk : J (.pointer (some ⟨b, j, none⟩))) : pA P (oIdx t (.pointer (some ⟨b, 0, none⟩)) (.int k x)) J := pA_aia j hx hj (by rw [Nat.zero_add]; exact hk)

theorem run_tow {s d : TypeId} [h : OfB P s d .u32] (c : UInt8) (w : World) : (oConv s d (bv c)).run P w = .ok (.value (wv (BitVec.ofNat 32 c.toNat))) w := by
  have := c.toNat_lt
  unfold bv wv
  rw [h.eq, h.small _ (by omega) (by omega), BitVec.toNat_ofNat, Nat.mod_eq_of_lt (by omega)]
theorem pL_tow {s d : TypeId} [h : OfB P s d .u32] {c : UInt8} (hk : J (wv (BitVec.ofNat 32 c.toNat))) : pL P (oConv s d (bv c)) w J := ⟨_, run_tow c w, hk⟩
theorem run_tol {s d : TypeId} [h : OfB P s d .u64] (c : UInt8) (w : World) : (oConv s d (bv c)).run P w = .ok (.value (lv (BitVec.ofNat 64 c.toNat))) w := by
  have := c.toNat_lt
  unfold bv lv
  rw [h.eq, h.small _ (by omega) (by omega), BitVec.toNat_ofNat, Nat.mod_eq_of_lt (by omega)]
theorem pN_tol {s d : TypeId} [h : OfB P s d .u64] {c : UInt8} (hk : K (lv (BitVec.ofNat 64 c.toNat)) w) : pN P (oConv s d (bv c)) w K := pN_of (run_tol c w) hk
theorem pN_add_vk {xo yo : Operand} {c : BitVec 64} {m : Int} (d : BitVec 64) (hd : m = (d.toNat : Int)) (hk : K (lv (c + d)) w) : pN P (oBin .add t xo yo (lv c) (.int .u64 m)) w K := by subst hd; exact pN_add_v hk
theorem pN_mul_vk {xo yo : Operand} {c : BitVec 64} {m : Int} (d : BitVec 64) (hd : m = (d.toNat : Int)) (hk : K (lv (c * d)) w) : pN P (oBin .mul t xo yo (lv c) (.int .u64 m)) w K := by subst hd; exact pN_mul_v hk
theorem pA_eql_v0 {xo yo : Operand} {c : BitVec 64} (ht : c = 0#64 → J (.bool true)) (hf : ¬ c = 0#64 → J (.bool false)) : pA P (oBin .eql t xo yo (lv c) (.int .u64 0)) J := by
  refine pA_eql_s (fun h => ht ?_) (fun h => hf fun e => h ?_)
  · apply BitVec.eq_of_toNat_eq; rw [BitVec.toNat_ofNat]; omega
  · subst e; rfl
theorem pN_tobw {s d : TypeId} [h : ToB P s d] {c : BitVec 32} (hk : K (bv (byteOf (c.toNat : Int))) w) : pN P (oConv s d (wv c)) w K := pN_tob hk
end
end Go.Proofs.YtikmogfhhggafaaGreatDoor

namespace Go.Proofs.YtikmogfhhggafaaGreatDoor
open Go

instance a32_id : A32 Tryz.prog 58 := ⟨⟨5, by kernel_rfl, by kernel_rfl, Tryz.sizeOf5⟩, by kernel_rfl⟩
instance bt_id : Bt (cdI 58) 32 := ⟨rfl⟩
instance row_ids : Row Tryz.prog 52 I32 (cdI 58) := ⟨⟨.agg (bvs (List.replicate 32 0)).toArray, ⟨Tryz.underlying52, info_parts (by kernel_rfl), rfl, by decide⟩, rfl⟩, by decide⟩

theorem i32t (i : I32) : ((bvs i.l).drop 0).take 32 = bvs i.l := by rw [List.drop_zero, List.take_of_length_le (by rw [bvs_length, i.h]; omega)]
theorem i32n (i : I32) : 32 = (bvs i.l).length := by rw [bvs_length, i.h]

section
variable [Pan] {P : Program} {E w : World} {K : Value → World → Prop} {L M : List HA} {t : TypeId} {o : Ob} {b : Nat}
theorem pN_sid (hS : Sat E w L) [h : Fnd (cel b) L o M] [Ag P t 32] (i : I32) (ho : o.cs.length = 32) (hk : ∀ w', Sat E w' (cel b ⟨o.e, bvs i.l⟩ :: M) → K undef w') : pN P (oStore t (.pointer (some ⟨b, 0, none⟩)) (.agg (bvs i.l).toArray)) w K := by
  refine pN_sa_at hS (i32n i) (by have := i32n i; omega) (bvs_all i.l) fun w' hS => hk w' ?_
  have e : o.cs.take 0 ++ bvs i.l ++ o.cs.drop (0 + (bvs i.l).length) = bvs i.l := by
    rw [← i32n i, Nat.zero_add, List.drop_of_length_le (by omega), List.take_zero, List.nil_append, List.append_nil]
  rw [e] at hS
  exact hS
end
abbrev NKey := {l : List UInt8 // l.length ≤ 1000}
abbrev nke : NKey → Value := fun l => .string ⟨l.1.toArray⟩
theorem nkey_str (k : NKey) : keyOf Tryz.prog 9 (nke k) = some (Lit.string k.1) := by
  have h := k.2
  have h2 : (ByteArray.mk k.1.toArray).size ≤ maxLen := by rw [size_str]; unfold maxLen; omega
  simp only [keyOf, mapKey, Tryz.underlying9, nke, h2, if_true]
instance nke_c : KeyC Tryz.prog 9 nke := KeyC.of (κ := NKey) (Maps.string_keyed Tryz.underlying9) (fun l => Lit.string l.1) (fun k => nkey_str k) (fun a b h => Subtype.ext (by simpa [nke] using h))

instance mt_pieces : MapT Tryz.prog 126 idV (.slice none 0 0) := ⟨_, _, Tryz.underlying126, Tryz.zeroValue47, inferInstance⟩
instance mt_names : MapT Tryz.prog 127 nke (.slice none 0 0) := ⟨_, _, Tryz.underlying127, Tryz.zeroValue52, inferInstance⟩

namespace D
section
variable {κ β γ : Type} [DecidableEq κ]
theorem mget_look : ∀ (l : List (κ × Value)) (k : κ), mget l k = look l k
  | [], _ => rfl
  | (a, v) :: l, k => by rw [mget, look, mget_look l k]
theorem mput_upd : ∀ (l : List (κ × Value)) (k : κ) (v : Value), mput l k v = upd l k v
  | [], _, _ => rfl
  | (a, u) :: l, k, v => by
    rw [mput, upd, mput_upd l k v]
    by_cases h : a = k
    · rw [if_pos h, if_pos h, h]
    · rw [if_neg h, if_neg h]
variable {κ' : Type} [DecidableEq κ']
theorem look_map {g : κ → κ'} (hg : ∀ a b, g a = g b → a = b) (f : β → γ) : ∀ (l : List (κ × β)) (k : κ), look (l.map fun x => (g x.1, f x.2)) (g k) = (look l k).map f
  | [], _ => rfl
  | (a, v) :: l, k => by
    rw [List.map_cons, look, look, look_map hg f l k]
    by_cases h : a = k
    · rw [if_pos h, if_pos (by rw [h])]; rfl
    · rw [if_neg h, if_neg fun e => h (hg _ _ e)]
theorem upd_map {g : κ → κ'} (hg : ∀ a b, g a = g b → a = b) (f : β → γ) : ∀ (l : List (κ × β)) (k : κ) (v : β), upd (l.map fun x => (g x.1, f x.2)) (g k) (f v) = (upd l k v).map fun x => (g x.1, f x.2)
  | [], _, _ => rfl
  | (a, u) :: l, k, v => by
    rw [List.map_cons, upd, upd, upd_map hg f l k v]
    by_cases h : a = k
    · rw [if_pos h, if_pos (by rw [h])]; rfl
    · rw [if_neg h, if_neg fun e => h (hg _ _ e)]; rfl
end
end D

abbrev PE := I32 × (Sl × List UInt8)
abbrev NE := NKey × (Sl × List I32)
def slv {α : Type} (x : Sl × List α) : Value := .slice x.1.a x.2.length x.1.c
def vals {κ α : Type} (l : List (κ × (Sl × List α))) : List (κ × Value) := l.map fun x => (x.1, slv x.2)
def keep {κ α : Type} (C : Cd α) (l : List (κ × (Sl × List α))) : List HA := l.map fun x => rows C x.2.1 x.2.2
structure Told (d : D.T) (pl : List PE) (nl : List NE) : Prop where
  ps : d.ps = pl.map fun x => (x.1, x.2.2)
  ns : d.ns = nl.map fun x => (x.1.1, x.2.2)
abbrev depC (c : T_api_Config) (k : C.K) (mb nb : Nat) : List Value := c.enc ++ [.int .i64 k.least, .int .i64 k.most, .int .i64 k.bits] ++ [.map (some mb), .map (some nb)]
abbrev depP (c : T_api_Config) (b : Nat) (k : C.K) (mb nb : Nat) (pl : List PE) (nl : List NE) (M : List HA) : List HA :=
  cel b ⟨129, depC c k mb nb⟩ :: mp idV mb (vals pl) :: mp nke nb (vals nl) :: bag (keep cd_uint8 pl) :: bag (keep (cdI 58) nl) :: M
def Dep (c : T_api_Config) (b : Nat) (d : D.T) : HA := fun h => ∃ (mb nb : Nat) (pl : List PE) (nl : List NE), Told d pl nl ∧ Sats (depP c b d.k mb nb pl nl []) h

section
variable {κ α : Type} [DecidableEq κ] {E w : World} {M : List HA} {C : Cd α}
theorem vals_get (l : List (κ × (Sl × List α))) (k : κ) : mget (vals l) k = (D.look l k).map slv := by
  rw [D.mget_look]
  exact D.look_map (g := id) (fun a b h => h) slv l k
theorem vals_put (l : List (κ × (Sl × List α))) (k : κ) (x : Sl × List α) : mput (vals l) k (slv x) = vals (D.upd l k x) := by
  rw [D.mput_upd]
  exact D.upd_map (g := id) (fun a b h => h) slv l k x
theorem keep_mem {l : List (κ × (Sl × List α))} {k : κ} {x : Sl × List α} (h : D.look l k = some x) : rows C x.1 x.2 ∈ keep C l := List.mem_map.2 ⟨_, D.look_mem h, rfl⟩
theorem keep_rd {l : List (κ × (Sl × List α))} {k : κ} {x : Sl × List α} (h : D.look l k = some x) : RdP C (bag (keep C l)) x.1 x.2 := ⟨fun w ⟨h1, hN, hh⟩ => by
  obtain ⟨h2, hA, hs⟩ := Sats.mem (keep_mem (C := C) h) hN
  exact RdA.own w ⟨h2, hA, fun b o e => hh b o (hs b o e)⟩⟩
theorem Sats.drop1 {A : HA} {L : List HA} {h : Hp} (hs : Sats (A :: L) h) : Sats L h := by
  obtain ⟨h1, _, _, hr⟩ := hs
  exact hr.mono (less_sub _ _)
theorem keep_sats : ∀ (l : List (κ × (Sl × List α))) (k : κ) (x : Sl × List α) (h : Hp), Sats (rows C x.1 x.2 :: keep C l) h → Sats (keep C (D.upd l k x)) h
  | [], k, x, h, hs => hs
  | (a, u) :: l, k, x, h, hs => by
    rw [D.upd]
    have hs := Sats.swap hs
    split
    · exact hs.drop1
    · exact Sats.cons_mono (fun h => keep_sats l k x h) hs
theorem keep_put {l : List (κ × (Sl × List α))} {s : Sl} {x : List α} (k : κ) (hS : Sat E w (rows C s x :: bag (keep C l) :: M)) : Sat E w (bag (keep C (D.upd l k (s, x))) :: M) := by
  have h1 : Sat E w ([rows C s x, bag (keep C l)] ++ M) := hS
  refine h1.shut fun h hh => keep_sats l k (s, x) h ?_
  obtain ⟨h1, hA, hs, h2, hB, hs2, _⟩ := hh
  exact ⟨h1, hA, hs, Sats.mono hB hs2⟩
end

section
variable {E w : World} {M : List HA} {c : T_api_Config} {b : Nat} {d : D.T}
theorem Dep.opn (hS : Sat E w (Dep c b d :: M)) : ∃ mb nb pl nl, Told d pl nl ∧ Sat E w (depP c b d.k mb nb pl nl M) := by
  obtain ⟨mb, hS⟩ := hS.ex
  obtain ⟨nb, hS⟩ := hS.ex
  obtain ⟨pl, hS⟩ := hS.ex
  obtain ⟨nl, hS⟩ := hS.ex
  have h1 : Told d pl nl := by
    obtain ⟨h, hh, _⟩ := hS.head
    exact hh.1
  exact ⟨mb, nb, pl, nl, h1, (hS.weaken fun h hh => hh.2).open_ (M := depP c b d.k mb nb pl nl []) fun _ h => h⟩
theorem Dep.shut {mb nb : Nat} {pl : List PE} {nl : List NE} {k : C.K} (ht : Told d pl nl) (hk : k = d.k) (hS : Sat E w (depP c b k mb nb pl nl M)) : Sat E w (Dep c b d :: M) := by
  subst hk
  exact Sat.shut (M := depP c b d.k mb nb pl nl []) hS fun h hh => ⟨mb, nb, pl, nl, ht, hh⟩
theorem Told.look {pl : List PE} {nl : List NE} (h : Told d pl nl) (i : I32) : D.look d.ps i = (D.look pl i).map (·.2) := by
  rw [h.ps]
  exact D.look_map (g := id) (fun a b h => h) (fun x : Sl × List UInt8 => x.2) pl i
theorem Told.name {pl : List PE} {nl : List NE} (h : Told d pl nl) (n : NKey) : D.look d.ns n.1 = (D.look nl n).map (·.2) := by
  rw [h.ns]
  exact D.look_map (g := fun x : NKey => x.1) (fun a b h => Subtype.ext h) (fun x : Sl × List I32 => x.2) nl n
theorem Told.upd {pl : List PE} {nl : List NE} (h : Told d pl nl) (i : I32) (s : Sl) (p : List UInt8) : Told { d with ps := D.upd d.ps i p } (D.upd pl i (s, p)) nl := by
  refine ⟨?_, h.ns⟩
  rw [h.ps]
  exact D.upd_map (g := id) (fun a b h => h) (fun x : Sl × List UInt8 => x.2) pl i (s, p)
theorem Told.set {pl : List PE} {nl : List NE} (h : Told d pl nl) (n : NKey) (s : Sl) (l : List I32) : Told { d with ns := D.upd d.ns n.1 l } pl (D.upd nl n (s, l)) := by
  refine ⟨h.ps, ?_⟩
  rw [h.ns]
  exact D.upd_map (g := fun x : NKey => x.1) (fun a b h => Subtype.ext h) (fun x : Sl × List I32 => x.2) nl n (s, l)
end
end Go.Proofs.YtikmogfhhggafaaGreatDoor

namespace Go.Proofs.YtikmogfhhggafaaGreatDoor
open Go
namespace S
open D (B)

structure Fine (x : It) : Prop where
  kind : x.Kind = 0 ∨ x.Kind = 1 ∨ x.Kind = 2
  link : x.Kind ≠ 2 → x.Link = []
  data : x.Kind ≠ 0 → x.Data.2 = []
  name : (A.parted x.Name).2.2 = true
  lnk : x.Link.length ≤ 100
  mode : 0 ≤ x.Mode ∧ x.Mode < 4096
  time : 0 ≤ x.Time ∧ x.Time < 8589934592
  size : x.Data.2.length < 8589934592

theorem fine_of {x : It} (h : A.wrong x = 0) : Fine x := by
  unfold A.wrong at h
  split at h
  · cases h
  · rename_i h1
    split at h
    · cases h
    · rename_i h2
      split at h
      · cases h
      · rename_i h3
        rw [not_or, not_or, not_or] at h1
        rw [not_or] at h2
        obtain ⟨a1, a2, a3, a4⟩ := h1
        obtain ⟨b1, b2⟩ := h2
        have l0 : x.Kind ≠ 2 → x.Link = [] := fun hk => by
          refine List.eq_nil_of_length_eq_zero ?_
          rcases Nat.eq_zero_or_pos x.Link.length with h | h
          · exact h
          · exact absurd ⟨hk, by omega⟩ a3
        refine ⟨by omega, l0, fun hk => ?_, by simpa using b1, ?_, by omega, by omega, by omega⟩
        · refine List.eq_nil_of_length_eq_zero ?_
          rcases Nat.eq_zero_or_pos x.Data.2.length with h | h
          · exact h
          · exact absurd ⟨hk, h⟩ a4
        · by_cases hk : x.Kind = 2
          · rcases Nat.lt_or_ge 100 x.Link.length with h | h
            · exact absurd ⟨hk, .inr (.inl h)⟩ b2
            · exact h
          · rw [l0 hk]; simp
theorem bare_wrong {x : It} (h : A.wrong x = 0) (k : C.K) : A.wrong (bare (en k x)) = 0 := by
  unfold A.wrong at h ⊢
  split at h
  · cases h
  · rename_i h1
    split at h
    · cases h
    · rename_i h2
      split at h
      · cases h
      · rename_i h3
        rw [not_or, not_or, not_or] at h1
        rw [if_neg, if_neg (by exact h2), if_neg]
        · show ¬ (x.Mode < 0 ∨ 4096 ≤ x.Mode ∨ x.Time < 0 ∨ 8589934592 ≤ x.Time ∨ 8589934592 ≤ ([] : List UInt8).length)
          simp only [List.length_nil]
          omega
        · show ¬ (x.Kind < 0 ∨ 3 ≤ x.Kind ∨ (x.Kind ≠ 2 ∧ x.Link.length ≠ 0) ∨ (x.Kind ≠ 0 ∧ 0 < ([] : List UInt8).length))
          simp only [List.length_nil]
          rw [not_or, not_or, not_or]
          exact ⟨h1.1, h1.2.1, h1.2.2.1, fun h => by omega⟩
theorem parted_len {l : B} (h : (A.parted l).2.2 = true) : l.length ≤ 256 := by
  unfold A.parted at h
  split at h
  · cases h
  · split at h
    · omega
    · split at h
      · rename_i i e
        have h1 := of_decide_eq_true h
        have := A.slash_some e
        omega
      · cases h
theorem fit_of {x : It} (h : A.wrong x = 0) (k : C.K) : L.Fit (en k x) := by
  have f := fine_of h
  have hl := f.lnk
  have hn := parted_len f.name
  refine ⟨f.kind, ⟨f.mode.1, by have := f.mode.2; show x.Mode < _; omega⟩, ⟨f.time.1, by have := f.time.2; show x.Time < _; omega⟩, by show x.Name.length < _; omega, by show x.Link.length < _; omega, f.link, fun hk => ?_, ?_⟩
  · show D.ids k x.Data.2 = []
    rw [f.data hk, D.ids, C.pieces_nil]; rfl
  · show (D.ids k x.Data.2).length < _
    rw [D.ids, List.length_map]
    have := C.pieces_len k x.Data.2
    have := f.size
    omega

theorem rise_en {k : C.K} : ∀ {l : List It} {last : Option B}, Rise l → (∀ x, l.head? = some x → (match last with | some y => Op.bytesLess y x.Name | none => true) = true) → L.Rise last (l.map (en k))
  | [], _, _, _ => trivial
  | x :: l, last, h, hl => by
    rw [List.map_cons]
    show _ ∧ _
    refine ⟨hl x rfl, rise_en (List.pairwise_cons.1 h).2 fun y hy => ?_⟩
    exact (List.pairwise_cons.1 h).1 y (List.mem_of_mem_head? hy)

theorem rlist_of {k : C.K} {l : List It} (h : ∀ x ∈ l, A.wrong x = 0) (hr : Rise l) (hl : l.length < 9223372036854775808) : L.rlist right (list k l) = some (l.map (en k)) := by
  refine L.rlist_list (fun e he => ?_) (rise_en hr fun x _ => rfl) (by rw [List.length_map]; exact hl)
  obtain ⟨x, hx, rfl⟩ := List.mem_map.1 he
  exact ⟨fit_of (h x hx) k, decide_eq_true (bare_wrong (h x hx) k)⟩

abbrev T := D.T
abbrev NC := D.NC
variable {d : T} {U : List B} {k : C.K}

theorem get_keep1 {p b : B} : ∀ {l : List I32} {b : B}, d.get l = some b → (d.put1 p).get l = some b
  | [], b, h => h
  | i :: l, b, h => by
    rw [D.T.get] at h ⊢
    cases e : D.look d.ps i with
    | none => rw [e] at h; cases h
    | some v =>
      rw [e] at h
      rw [D.keep_put1 e]
      cases e2 : d.get l with
      | none => simp only [e2] at h; cases h
      | some q =>
        simp only [e2] at h
        have h3 := get_keep1 (p := p) (b := b) e2
        simp only [h3]
        exact h
theorem get_keep {l : List I32} {b : B} : ∀ (ps : List B) {d : T}, d.get l = some b → (d.puts ps).get l = some b
  | [], _, h => h
  | p :: ps, d, h => get_keep (b := b) ps (get_keep1 (b := b) h)
theorem get_set {n : B} {r : List I32} : ∀ {l : List I32}, (d.set n r).get l = d.get l
  | [] => rfl
  | i :: l => by rw [D.T.get, D.T.get, get_set]; rfl
theorem putAll_puts : ∀ (l : List It) (d : T), putAll d l = d.puts (l.map fun x => C.pieces d.k x.Data.2).flatten
  | [], d => rfl
  | x :: l, d => by
    show putAll (d.put x.Data.2) l = _
    rw [putAll_puts l, List.map_cons, List.flatten_cons, D.puts_app, D.put_k]
    rfl
theorem putAll_k (l : List It) (d : T) : (putAll d l).k = d.k := by rw [putAll_puts, D.puts_k]
def need (k : C.K) (l : List It) : List B := C.pieces k (list k l) ++ (l.map fun x => C.pieces k x.Data.2).flatten

structure Tells (d : T) (n : B) (es : List L.En) (r : List I32) : Prop where
  ns : D.look d.ns n = some r
  get : ∃ b, d.get r = some b ∧ L.rlist right b = some es
theorem Tells.listed {n : B} {es : List L.En} {r : List I32} (h : Tells d n es r) : listed d n = (0, es, r) := by
  obtain ⟨b, h1, h2⟩ := h.get
  rw [S.listed, h.ns]
  simp only [h1, h2]
theorem Tells.puts {n : B} {es : List L.En} {r : List I32} (h : Tells d n es r) (ps : List B) : Tells (d.puts ps) n es r := by
  obtain ⟨b, h1, h2⟩ := h.get
  exact ⟨by rw [D.puts_ns]; exact h.ns, b, get_keep ps h1, h2⟩
theorem Tells.set {n m : B} {es : List L.En} {r q : List I32} (h : Tells d n es r) (hm : m ≠ n) (hq : q ≠ []) : Tells (d.set m q) n es r := by
  obtain ⟨b, h1, h2⟩ := h.get
  refine ⟨?_, b, by rw [get_set]; exact h1, h2⟩
  show D.look (if q = [] then _ else D.upd d.ns m q) n = _
  rw [if_neg hq, D.look_upd_other _ _ _ _ hm]; exact h.ns

theorem list_ne (k : C.K) (l : List It) : list k l ≠ [] := by
  intro h
  have : 0 < (list k l).length := by
    rw [list, L.list, List.length_append, C.put_len]; omega
  rw [h] at this
  cases this
theorem ids_ne (k : C.K) {b : B} (h : b ≠ []) : D.ids k b ≠ [] := by
  rw [D.ids, C.pieces_cons k h]
  simp
theorem saved_puts (d : T) (n : B) (l : List It) : saved d n l = (d.puts ((l.map fun x => C.pieces d.k x.Data.2).flatten ++ C.pieces d.k (list d.k l))).set n (D.ids d.k (list d.k l)) := by
  rw [saved, D.T.put, putAll_k, putAll_puts, D.puts_app]
theorem saved_tells (hd : d.In U) (hc : NC U) {l : List It} (hw : ∀ x ∈ l, A.wrong x = 0) (hr : Rise l) (hl : l.length < 9223372036854775808) (hU : ∀ p ∈ need d.k l, p ∈ U) (n : B) :
    Tells (saved d n l) n (l.map (en d.k)) (D.ids d.k (list d.k l)) := by
  rw [saved_puts]
  refine ⟨?_, list d.k l, ?_, rlist_of hw hr hl⟩
  · show D.look (if _ then _ else D.upd _ n _) n = _
    rw [if_neg (ids_ne d.k (list_ne d.k l)), D.look_upd_same]
  · rw [get_set]
    have h := D.get_ids (d := d.puts ((l.map fun x => C.pieces d.k x.Data.2).flatten ++ C.pieces d.k (list d.k l))) (b := list d.k l) fun p hp => ?_
    · rw [D.puts_k] at h
      exact h
    · rw [D.puts_k] at hp
      refine D.there_puts hc _ hd (fun q hq => hU q ?_) (List.mem_append.2 (.inr hp))
      rcases List.mem_append.1 hq with hq | hq
      · exact List.mem_append.2 (.inr hq)
      · exact List.mem_append.2 (.inl hq)
theorem saved_in (hd : d.In U) {l : List It} (hU : ∀ p ∈ need d.k l, p ∈ U) (n : B) : (saved d n l).In U := by
  rw [saved_puts]
  have h := D.in_puts ((l.map fun x => C.pieces d.k x.Data.2).flatten ++ C.pieces d.k (list d.k l)) hd fun q hq => hU q (by
    rcases List.mem_append.1 hq with hq | hq
    · exact List.mem_append.2 (.inr hq)
    · exact List.mem_append.2 (.inl hq))
  exact ⟨h.all⟩
theorem saved_k (d : T) (n : B) (l : List It) : (saved d n l).k = d.k := by rw [saved_puts]; exact D.puts_k _ d
theorem saved_keeps {n m : B} {es : List L.En} {r : List I32} (h : Tells d n es r) (hm : m ≠ n) (l : List It) : Tells (saved d m l) n es r := by
  rw [saved_puts]
  exact (h.puts _).set hm (ids_ne d.k (list_ne d.k l))
end S
end Go.Proofs.YtikmogfhhggafaaGreatDoor

namespace Go.Proofs.YtikmogfhhggafaaGreatDoor
open Go
set_option maxRecDepth 100000

def depot_Depot_Put.H : Hints := { cut := fun | 12 => some ([], 140668768878592) | 13 => some ([7, 8], 2251799746583936) | _ => none, loop := fun | 5 => ([7, 8, 24], 4503599610600832) | _ => ([], 0), order := fun | 11 => [(0, 0), (1, 1), (2, 3), (3, 7), (4, 15), (5, 31), (6, 63), (7, 127)] | _ => [] }
def depot_Depot_Put.F [Pan] (x0 x1 : Value) (w : World) (Q : Value → World → Prop) : Prop :=
 pN Tryz.prog (oNil x0) w fun x16 w1 =>
 pN Tryz.prog (oFld 129 x16 1) w1 fun x17 w2 =>
 pN Tryz.prog (oLoad 27 x17) w2 fun x18 w3 =>
 pN Tryz.prog (oCall 63 [x1, x18]) w3 fun x19 w4 =>
 pN Tryz.prog (oExt x19 0) w4 fun x20 w5 =>
 pN Tryz.prog (oExt x19 1) w5 fun _ w6 =>
 pN Tryz.prog (oBi .len #[46] 3 [false] [x20]) w6 fun x23 w7 =>
 ∃ (L5 : Value → Value → Value → World → Prop) (m5 : Value → Value → Value → World → Nat),
 L5 (.slice none 0 0) (.int .i64 0) (.int .i64 0) w7 ∧
 ∀ (_k5 : Env) (l7l5 : Value) (from8l5 : Value) (v24l5 : Value) (w8 : World), L5 l7l5 from8l5 v24l5 w8 →
 pN Tryz.prog (oBin .lss 3 (.tmp 24) (.tmp 23) v24l5 x23) w8 fun x25 w9 =>
 pIf x25
 (∃ I13 : Value → Value → World → Prop,
 (pN Tryz.prog (oIdx 46 x20 v24l5) w9 fun x26 w10 =>
 pN Tryz.prog (oLoad 3 x26) w10 fun x27 w11 =>
 pN Tryz.prog (oSl 47 x1 (some from8l5) (some x27) none) w11 fun x31 w12 =>
 pN Tryz.prog (oBs 71 1 [(0, x31)]) w12 fun x34 w13 =>
 pN Tryz.prog (oCall 52 [x34]) w13 fun x35 w14 =>
 pN Tryz.prog (oAlloc 58) w14 fun x12 w15 =>
 pN Tryz.prog (oStore 58 x12 x35) w15 fun _ w16 =>
 ∃ I12 : World → Prop,
 (pN Tryz.prog (oLoad 58 x12) w16 fun x37 w17 =>
 pN Tryz.prog (oCall 18 [x0, x37]) w17 fun x38 w18 =>
 pN Tryz.prog (oUn .not x38) w18 fun x39 w19 =>
 pIf x39
 (pDr w19 fun w20 =>
 pA Tryz.prog (oNil x0) fun x41 =>
 pA Tryz.prog (oFld 129 x41 2) fun x42 =>
 pL Tryz.prog (oLoad 126 x42) w20 fun x43 =>
 pL Tryz.prog (oLoad 58 x12) w20 fun x44 =>
 pN Tryz.prog (oCall 64 [x31]) w20 fun x46 w21 =>
 ((Sem.run Tryz.prog (oLoad 58 x12) w21 = .ok (.value x44) w21) ∧ (Sem.run Tryz.prog (oLoad 126 x42) w21 = .ok (.value x43) w21) ∧ True) ∧ (pN Tryz.prog (oMapUp 126 x43 x44 x46) w21 fun _ w22 =>
 (True) ∧ (I12 w22)))
 (I12 w19)) ∧
 ∀ (_j12 : Env) (w23 : World), I12 w23 →
 pN Tryz.prog (oLoad 58 x12) w23 fun x48 w24 =>
 pN Tryz.prog (oBs 52 1 [(0, x48)]) w24 fun x49 w25 =>
 pN Tryz.prog (oBi .append #[52, 52] 52 [false, false] [l7l5, x49]) w25 fun x50 w26 =>
 I13 x50 x27 w26) ∧
 ∀ (_j13 : Env) (l7c13 : Value) (from8c13 : Value) (w27 : World), I13 l7c13 from8c13 w27 →
 pN Tryz.prog (oBin .add 3 (.tmp 24) (.const (.int .i64 1)) v24l5 (.int .i64 1)) w27 fun x51 w28 =>
 (L5 l7c13 from8c13 x51 w28 ∧ m5 l7c13 from8c13 x51 w28 < m5 l7l5 from8l5 v24l5 w8))
 (Q l7l5 w9)
theorem depot_Depot_Put.calls [Pan] {x0 x1 : Value} {w : World} {Q : Value → World → Prop} (h : depot_Depot_Put.F x0 x1 w Q) : Calls Tryz.prog 16 #[x0, x1] w (retP Q) := calls_lift mixed depot_Depot_Put.H [x0, x1] Tryz.func16 (by kernel_rfl) (by kernel_rfl) h

def depot_Depot_Has.H : Hints := { cut := fun  | _ => none, loop := fun  | _ => ([], 0), order := fun | 1 => [(0, 0), (1, 1), (2, 3), (3, 7), (4, 15), (5, 31), (6, 63), (7, 127), (8, 255), (9, 511), (10, 1023)] | _ => [] }
def depot_Depot_Has.F [Pan] (x0 x1 : Value) (w : World) (Q : Value → World → Prop) : Prop :=
 pN Tryz.prog (oBox 58 x1) w fun x3 w1 =>
 pDr w1 fun w2 =>
 pA Tryz.prog (oNil x0) fun x9 =>
 pA Tryz.prog (oFld 129 x9 2) fun x10 =>
 pL Tryz.prog (oLoad 126 x10) w2 fun x11 =>
 pL Tryz.prog (oLoad 58 x3) w2 fun x12 =>
 pN Tryz.prog (oLook 126 x11 x12 true) w2 fun x13 w3 =>
 (True) ∧ (pA Tryz.prog (oExt x13 0) fun _ =>
 pA Tryz.prog (oExt x13 1) fun x15 =>
 Q x15 w3)
theorem depot_Depot_Has.calls [Pan] {x0 x1 : Value} {w : World} {Q : Value → World → Prop} (h : depot_Depot_Has.F x0 x1 w Q) : Calls Tryz.prog 18 #[x0, x1] w (retP Q) := calls_lift mixed depot_Depot_Has.H [x0, x1] Tryz.func18 (by kernel_rfl) (by kernel_rfl) h

def depot_New.F [Pan] (x0 x1 : Value) (w : World) (Q : Value → World → Prop) : Prop :=
 pN Tryz.prog (oBox 25 x0) w fun x2 w1 =>
 pN Tryz.prog (oBox 27 x1) w1 fun x3 w2 =>
 pN Tryz.prog (oLoad 25 x2) w2 fun x6 w3 =>
 pN Tryz.prog (oCall 86 [x6]) w3 fun x7 w4 =>
 pN Tryz.prog (oBin .neq 38 (.tmp 7) (.const (.int .i64 0)) x7 (.int .i64 0)) w4 fun x8 w5 =>
 pGd (gB x8 false) (pN Tryz.prog (oLoad 27 x3) w5) w5 fun x10 w6 =>
 pGd (gB x8 false) (pN Tryz.prog (oCall 87 [x10]) w6) w6 fun x11 w7 =>
 pGd (gB x8 false) (pN Tryz.prog (oBin .neq 38 (.tmp 11) (.const (.int .i64 0)) x11 (.int .i64 0)) w7) w7 fun x12 w8 =>
 pN Tryz.prog (oPick x8 (.bool true) x12) w8 fun x13 w9 =>
 pIf x13
 (Q (.tuple #[(.pointer none), (.int .i64 6)]) w9)
 (pN Tryz.prog (oLoad 25 x2) w9 fun x14 w10 =>
 pN Tryz.prog (oLoad 27 x3) w10 fun x15 w11 =>
 pN Tryz.prog (oMap 126 none) w11 fun x16 w12 =>
 pN Tryz.prog (oMap 127 none) w12 fun x17 w13 =>
 pN Tryz.prog (oBuild 129 [(0, x14), (1, x15), (2, x16), (3, x17)]) w13 fun x18 w14 =>
 pN Tryz.prog (oBox 129 x18) w14 fun x19 w15 =>
 Q (.tuple #[x19, (.int .i64 0)]) w15)
theorem depot_New.calls [Pan] {x0 x1 : Value} {w : World} {Q : Value → World → Prop} (h : depot_New.F x0 x1 w Q) : Calls Tryz.prog 48 #[x0, x1] w (retP Q) := calls_lift mixed .z [x0, x1] Tryz.func48 (by kernel_rfl) (by kernel_rfl) h

def depot_Depot_Root.F [Pan] (x0 x1 : Value) (w : World) (Q : Value → World → Prop) : Prop :=
 pN Tryz.prog (oNil x0) w fun x10 w1 =>
 pN Tryz.prog (oFld 129 x10 3) w1 fun x11 w2 =>
 pN Tryz.prog (oLoad 127 x11) w2 fun x12 w3 =>
 pN Tryz.prog (oLook 127 x12 x1 true) w3 fun x14 w4 =>
 pN Tryz.prog (oExt x14 0) w4 fun x15 w5 =>
 pN Tryz.prog (oExt x14 1) w5 fun x16 w6 =>
 pN Tryz.prog (oUn .not x16) w6 fun x18 w7 =>
 pIf x18
 (Q (.tuple #[(.slice none 0 0), (.int .i64 8)]) w7)
 (pN Tryz.prog (oCall 65 [x15]) w7 fun x20 w8 =>
 Q (.tuple #[x20, (.int .i64 0)]) w8)
theorem depot_Depot_Root.calls [Pan] {x0 x1 : Value} {w : World} {Q : Value → World → Prop} (h : depot_Depot_Root.F x0 x1 w Q) : Calls Tryz.prog 54 #[x0, x1] w (retP Q) := calls_lift mixed .z [x0, x1] Tryz.func54 (by kernel_rfl) (by kernel_rfl) h

def depot_Depot_Get.H : Hints := { cut := fun  | _ => none, loop := fun | 3 => ([6, 13], 4294961008) | _ => ([], 0), order := fun | 5 => [(0, 0), (1, 1), (2, 3), (3, 7), (4, 15), (5, 31), (6, 63), (7, 127), (8, 255), (9, 511), (10, 1023)] | _ => [] }
def depot_Depot_Get.F [Pan] (x0 x1 : Value) (w : World) (Q : Value → World → Prop) : Prop :=
 pN Tryz.prog (oBi .len #[52] 3 [false] [x1]) w fun x12 w1 =>
 ∃ (L3 : Value → Value → World → Prop) (m3 : Value → Value → World → Nat),
 L3 (.slice none 0 0) (.int .i64 0) w1 ∧
 ∀ (_k3 : Env) (b6l3 : Value) (v13l3 : Value) (w2 : World), L3 b6l3 v13l3 w2 →
 pN Tryz.prog (oBin .lss 3 (.tmp 13) (.tmp 12) v13l3 x12) w2 fun x14 w3 =>
 pIf x14
 (pN Tryz.prog (oIdx 52 x1 v13l3) w3 fun x15 w4 =>
 pN Tryz.prog (oLoad 58 x15) w4 fun x16 w5 =>
 pN Tryz.prog (oAlloc 58) w5 fun x8 w6 =>
 pN Tryz.prog (oStore 58 x8 x16) w6 fun _ w7 =>
 pDr w7 fun w8 =>
 pA Tryz.prog (oNil x0) fun x19 =>
 pA Tryz.prog (oFld 129 x19 2) fun x20 =>
 pL Tryz.prog (oLoad 126 x20) w8 fun x21 =>
 pL Tryz.prog (oLoad 58 x8) w8 fun x22 =>
 pN Tryz.prog (oLook 126 x21 x22 true) w8 fun x23 w9 =>
 (True) ∧ (pA Tryz.prog (oExt x23 0) fun x24 =>
 pA Tryz.prog (oExt x23 1) fun x25 =>
 pN Tryz.prog (oUn .not x25) w9 fun x27 w10 =>
 pIf x27
 (Q (.tuple #[(.slice none 0 0), (.int .i64 8)]) w10)
 (pN Tryz.prog (oBi .append #[47, 47] 47 [false, false] [b6l3, x24]) w10 fun x30 w11 =>
 pN Tryz.prog (oBin .add 3 (.tmp 13) (.const (.int .i64 1)) v13l3 (.int .i64 1)) w11 fun x31 w12 =>
 (L3 x30 x31 w12 ∧ m3 x30 x31 w12 < m3 b6l3 v13l3 w2))))
 (Q (.tuple #[b6l3, (.int .i64 0)]) w3)
theorem depot_Depot_Get.calls [Pan] {x0 x1 : Value} {w : World} {Q : Value → World → Prop} (h : depot_Depot_Get.F x0 x1 w Q) : Calls Tryz.prog 55 #[x0, x1] w (retP Q) := calls_lift mixed depot_Depot_Get.H [x0, x1] Tryz.func55 (by kernel_rfl) (by kernel_rfl) h

def depot_Legal.F [Pan] (x0 : Value) (w : World) (Q : Value → World → Prop) : Prop :=
 pN Tryz.prog (oBi .len #[9] 3 [false] [x0]) w fun x4 w1 =>
 pN Tryz.prog (oBin .gtr 3 (.tmp 4) (.const (.int .i64 254)) x4 (.int .i64 254)) w1 fun x5 w2 =>
 pIf x5
 (Q (.int .i64 8) w2)
 (Q (.int .i64 0) w2)
theorem depot_Legal.calls [Pan] {x0 : Value} {w : World} {Q : Value → World → Prop} (h : depot_Legal.F x0 w Q) : Calls Tryz.prog 56 #[x0] w (retP Q) := calls_lift mixed .z [x0] Tryz.func56 (by kernel_rfl) (by kernel_rfl) h

def depot_Depot_Set.H : Hints := { cut := fun | 7 => some ([], 268427264) | _ => none, loop := fun  | _ => ([], 0), order := fun | 6 => [(0, 0), (1, 1), (2, 3), (3, 7), (4, 15), (5, 31), (6, 63), (7, 127)] | _ => [] }
def depot_Depot_Set.F [Pan] (x0 x1 x2 : Value) (w : World) (Q : Value → World → Prop) : Prop :=
 pN Tryz.prog (oCall 56 [x1]) w fun x9 w1 =>
 pN Tryz.prog (oBin .neq 38 (.tmp 10) (.const (.int .i64 0)) x9 (.int .i64 0)) w1 fun x11 w2 =>
 pIf x11
 (Q x9 w2)
 (∃ I7 : World → Prop,
 (pN Tryz.prog (oBi .len #[52] 3 [false] [x2]) w2 fun x14 w3 =>
 pN Tryz.prog (oBin .eql 3 (.tmp 14) (.const (.int .i64 0)) x14 (.int .i64 0)) w3 fun x15 w4 =>
 pIf x15
 (pN Tryz.prog (oNil x0) w4 fun x17 w5 =>
 pN Tryz.prog (oFld 129 x17 3) w5 fun x18 w6 =>
 pN Tryz.prog (oLoad 127 x18) w6 fun x19 w7 =>
 pN Tryz.prog (oBi .delete #[127, 9] 0 [false, false] [x19, x1]) w7 fun _ w8 =>
 I7 w8)
 (pDr w4 fun w9 =>
 pA Tryz.prog (oNil x0) fun x22 =>
 pA Tryz.prog (oFld 129 x22 3) fun x23 =>
 pL Tryz.prog (oLoad 127 x23) w9 fun x24 =>
 pN Tryz.prog (oCall 65 [x2]) w9 fun x27 w10 =>
 ((Sem.run Tryz.prog (oLoad 127 x23) w10 = .ok (.value x24) w10) ∧ True) ∧ (pN Tryz.prog (oMapUp 127 x24 x1 x27) w10 fun _ w11 =>
 (True) ∧ (I7 w11)))) ∧
 ∀ (_j7 : Env) (w12 : World), I7 w12 →
 Q (.int .i64 0) w12)
theorem depot_Depot_Set.calls [Pan] {x0 x1 x2 : Value} {w : World} {Q : Value → World → Prop} (h : depot_Depot_Set.F x0 x1 x2 w Q) : Calls Tryz.prog 59 #[x0, x1, x2] w (retP Q) := calls_lift mixed depot_Depot_Set.H [x0, x1, x2] Tryz.func59 (by kernel_rfl) (by kernel_rfl) h

def depot_Depot_Names.H : Hints := { cut := fun  | _ => none, loop := fun | 3 => ([3], 261144) | _ => ([], 0), order := fun  | _ => [] }
def depot_Depot_Names.F [Pan] (x0 : Value) (w : World) (Q : Value → World → Prop) : Prop :=
 pN Tryz.prog (oNil x0) w fun x6 w1 =>
 pN Tryz.prog (oFld 129 x6 3) w1 fun x7 w2 =>
 pN Tryz.prog (oLoad 127 x7) w2 fun x8 w3 =>
 pN Tryz.prog (oRange 127 x8) w3 fun x9 w4 =>
 ∃ (L3 : Value → World → Prop) (m3 : Value → World → Nat),
 L3 (.slice none 0 0) w4 ∧
 ∀ (_k3 : Env) (l3l3 : Value) (w5 : World), L3 l3l3 w5 →
 pN Tryz.prog (oNext x9 false 0) w5 fun x10 w6 =>
 pN Tryz.prog (oExt x10 0) w6 fun x11 w7 =>
 pIf x11
 (pN Tryz.prog (oEntry x9) w7 fun x12 w8 =>
 pN Tryz.prog (oExt x12 0) w8 fun x13 w9 =>
 pN Tryz.prog (oBs 72 1 [(0, x13)]) w9 fun x16 w10 =>
 pN Tryz.prog (oBi .append #[72, 72] 72 [false, false] [l3l3, x16]) w10 fun x17 w11 =>
 (L3 x17 w11 ∧ m3 x17 w11 < m3 l3l3 w5))
 (pN Tryz.prog (oCall 107 [l3l3]) w7 fun _ w12 =>
 Q l3l3 w12)
theorem depot_Depot_Names.calls [Pan] {x0 : Value} {w : World} {Q : Value → World → Prop} (h : depot_Depot_Names.F x0 w Q) : Calls Tryz.prog 74 #[x0] w (retP Q) := calls_lift mixed depot_Depot_Names.H [x0] Tryz.func74 (by kernel_rfl) (by kernel_rfl) h

end Go.Proofs.YtikmogfhhggafaaGreatDoor

namespace Go.Proofs.YtikmogfhhggafaaGreatDoor
open Go
set_option maxRecDepth 100000

def slices_Clone___byte_byte_.F [Pan] (x0 : Value) (w : World) (Q : Value → World → Prop) : Prop :=
 pN Tryz.prog (oBin .eql 47 (.tmp 3) (.const (.slice none 0 0)) x0 (.slice none 0 0)) w fun x4 w1 =>
 pIf x4
 (Q (.slice none 0 0) w1)
 (pN Tryz.prog (oBs 47 0 []) w1 fun x5 w2 =>
 pN Tryz.prog (oBi .append #[47, 47] 47 [false, false] [x5, x0]) w2 fun x7 w3 =>
 Q x7 w3)
theorem slices_Clone___byte_byte_.calls [Pan] {x0 : Value} {w : World} {Q : Value → World → Prop} (h : slices_Clone___byte_byte_.F x0 w Q) : Calls Tryz.prog 64 #[x0] w (retP Q) := calls_lift mixed .z [x0] Tryz.func64 (by kernel_rfl) (by kernel_rfl) h

def slices_Clone___api_ID_api_ID_.F [Pan] (x0 : Value) (w : World) (Q : Value → World → Prop) : Prop :=
 pN Tryz.prog (oBin .eql 52 (.tmp 3) (.const (.slice none 0 0)) x0 (.slice none 0 0)) w fun x4 w1 =>
 pIf x4
 (Q (.slice none 0 0) w1)
 (pN Tryz.prog (oBs 52 0 []) w1 fun x5 w2 =>
 pN Tryz.prog (oBi .append #[52, 52] 52 [false, false] [x5, x0]) w2 fun x7 w3 =>
 Q x7 w3)
theorem slices_Clone___api_ID_api_ID_.calls [Pan] {x0 : Value} {w : World} {Q : Value → World → Prop} (h : slices_Clone___api_ID_api_ID_.F x0 w Q) : Calls Tryz.prog 65 #[x0] w (retP Q) := calls_lift mixed .z [x0] Tryz.func65 (by kernel_rfl) (by kernel_rfl) h

def slices_Compact___api_ID_api_ID_.H : Hints := { cut := fun | 10 => some ([3], 18014364149743624) | _ => none, loop := fun | 4 => ([3], 1152921504606846012) | 9 => ([3, 5], 18014397972611112) | _ => ([], 0), order := fun | 6 => [(0, 0), (1, 1), (2, 3), (3, 7), (4, 15), (5, 31), (6, 63), (7, 127), (8, 255), (9, 511)] | 11 => [(0, 0), (1, 1), (2, 3), (3, 7), (4, 15), (5, 31), (6, 63), (7, 127), (8, 255), (9, 511)] | _ => [] }
def slices_Compact___api_ID_api_ID_.F [Pan] (x0 : Value) (w : World) (Q : Value → World → Prop) : Prop :=
 pN Tryz.prog (oBi .len #[52] 3 [false] [x0]) w fun x7 w1 =>
 pN Tryz.prog (oBin .lss 3 (.tmp 7) (.const (.int .i64 2)) x7 (.int .i64 2)) w1 fun x8 w2 =>
 pIf x8
 (Q x0 w2)
 (∃ (L4 : Value → World → Prop) (m4 : Value → World → Nat),
 L4 (.int .i64 1) w2 ∧
 ∀ (_k4 : Env) (k3l4 : Value) (w3 : World), L4 k3l4 w3 →
 pN Tryz.prog (oBi .len #[52] 3 [false] [x0]) w3 fun x12 w4 =>
 pN Tryz.prog (oBin .lss 3 (.tmp 10) (.tmp 12) k3l4 x12) w4 fun x13 w5 =>
 pIf x13
 (pDr w5 fun w6 =>
 pA Tryz.prog (oIdx 52 x0 k3l4) fun x18 =>
 pL Tryz.prog (oLoad 58 x18) w6 fun x19 =>
 pA Tryz.prog (oBin .sub 3 (.tmp 21) (.const (.int .i64 1)) k3l4 (.int .i64 1)) fun x22 =>
 pA Tryz.prog (oIdx 52 x0 x22) fun x23 =>
 pL Tryz.prog (oLoad 58 x23) w6 fun x24 =>
 pA Tryz.prog (oBin .eql 58 (.tmp 19) (.tmp 24) x19 x24) fun x25 =>
 pIf x25
 (pN Tryz.prog (oSl 52 x0 (some k3l4) none none) w6 fun x28 w7 =>
 ∃ (L9 : Value → Value → World → Prop) (m9 : Value → Value → World → Nat),
 L9 k3l4 (.int .i64 1) w7 ∧
 ∀ (_k9 : Env) (k3l9 : Value) (k2_5l9 : Value) (w8 : World), L9 k3l9 k2_5l9 w8 →
 pN Tryz.prog (oBi .len #[52] 3 [false] [x28]) w8 fun x31 w9 =>
 pN Tryz.prog (oBin .lss 3 (.tmp 29) (.tmp 31) k2_5l9 x31) w9 fun x32 w10 =>
 pIf x32
 (∃ I10 : Value → World → Prop,
 (pDr w10 fun w11 =>
 pA Tryz.prog (oIdx 52 x28 k2_5l9) fun x37 =>
 pL Tryz.prog (oLoad 58 x37) w11 fun x38 =>
 pA Tryz.prog (oBin .sub 3 (.tmp 40) (.const (.int .i64 1)) k2_5l9 (.int .i64 1)) fun x41 =>
 pA Tryz.prog (oIdx 52 x28 x41) fun x42 =>
 pL Tryz.prog (oLoad 58 x42) w11 fun x43 =>
 pA Tryz.prog (oBin .neq 58 (.tmp 38) (.tmp 43) x38 x43) fun x44 =>
 pIf x44
 (pN Tryz.prog (oIdx 52 x28 k2_5l9) w11 fun x49 w12 =>
 pN Tryz.prog (oLoad 58 x49) w12 fun x50 w13 =>
 pN Tryz.prog (oIdx 52 x0 k3l9) w13 fun x51 w14 =>
 pN Tryz.prog (oStore 58 x51 x50) w14 fun _ w15 =>
 pN Tryz.prog (oBin .add 3 (.tmp 52) (.const (.int .i64 1)) k3l9 (.int .i64 1)) w15 fun x53 w16 =>
 I10 x53 w16)
 (I10 k3l9 w11)) ∧
 ∀ (_j10 : Env) (k3c10 : Value) (w17 : World), I10 k3c10 w17 →
 pN Tryz.prog (oBin .add 3 (.tmp 33) (.const (.int .i64 1)) k2_5l9 (.int .i64 1)) w17 fun x34 w18 =>
 (L9 k3c10 x34 w18 ∧ m9 k3c10 x34 w18 < m9 k3l9 k2_5l9 w8))
 (pN Tryz.prog (oSl 52 x0 (some k3l9) none none) w10 fun x56 w19 =>
 pN Tryz.prog (oBi .clear #[52] 0 [false] [x56]) w19 fun _ w20 =>
 pN Tryz.prog (oSl 52 x0 none (some k3l9) none) w20 fun x59 w21 =>
 Q x59 w21))
 (pN Tryz.prog (oBin .add 3 (.tmp 14) (.const (.int .i64 1)) k3l4 (.int .i64 1)) w6 fun x15 w22 =>
 (L4 x15 w22 ∧ m4 x15 w22 < m4 k3l4 w3)))
 (Q x0 w5))
theorem slices_Compact___api_ID_api_ID_.calls [Pan] {x0 : Value} {w : World} {Q : Value → World → Prop} (h : slices_Compact___api_ID_api_ID_.F x0 w Q) : Calls Tryz.prog 69 #[x0] w (retP Q) := calls_lift mixed slices_Compact___api_ID_api_ID_.H [x0] Tryz.func69 (by kernel_rfl) (by kernel_rfl) h

def slices_IndexFunc___snap_entry_snap_entry_.H : Hints := { cut := fun  | _ => none, loop := fun | 2 => ([8], 524080) | _ => ([], 0), order := fun  | _ => [] }
def slices_IndexFunc___snap_entry_snap_entry_.F [Pan] (x0 x1 : Value) (w : World) (Q : Value → World → Prop) : Prop :=
 pN Tryz.prog (oBi .len #[116] 3 [false] [x0]) w fun x7 w1 =>
 ∃ (L2 : Value → World → Prop) (m2 : Value → World → Nat),
 L2 (.int .i64 0) w1 ∧
 ∀ (_k2 : Env) (v8l2 : Value) (w2 : World), L2 v8l2 w2 →
 pN Tryz.prog (oBin .lss 3 (.tmp 8) (.tmp 7) v8l2 x7) w2 fun x9 w3 =>
 pIf x9
 (pN Tryz.prog (oIdx 116 x0 v8l2) w3 fun x14 w4 =>
 pN Tryz.prog (oLoad 118 x14) w4 fun x15 w5 =>
 pN Tryz.prog (oCallV x1 [x15]) w5 fun x16 w6 =>
 pIf x16
 (Q v8l2 w6)
 (pN Tryz.prog (oBin .add 3 (.tmp 8) (.const (.int .i64 1)) v8l2 (.int .i64 1)) w6 fun x18 w7 =>
 (L2 x18 w7 ∧ m2 x18 w7 < m2 v8l2 w2)))
 (Q (.int .i64 (-1)) w3)
theorem slices_IndexFunc___snap_entry_snap_entry_.calls [Pan] {x0 x1 : Value} {w : World} {Q : Value → World → Prop} (h : slices_IndexFunc___snap_entry_snap_entry_.F x0 x1 w Q) : Calls Tryz.prog 72 #[x0, x1] w (retP Q) := calls_lift mixed slices_IndexFunc___snap_entry_snap_entry_.H [x0, x1] Tryz.func72 (by kernel_rfl) (by kernel_rfl) h

def slices_Clone___api_Item_api_Item_.F [Pan] (x0 : Value) (w : World) (Q : Value → World → Prop) : Prop :=
 pN Tryz.prog (oBin .eql 30 (.tmp 3) (.const (.slice none 0 0)) x0 (.slice none 0 0)) w fun x4 w1 =>
 pIf x4
 (Q (.slice none 0 0) w1)
 (pN Tryz.prog (oBs 30 0 []) w1 fun x5 w2 =>
 pN Tryz.prog (oBi .append #[30, 30] 30 [false, false] [x5, x0]) w2 fun x7 w3 =>
 Q x7 w3)
theorem slices_Clone___api_Item_api_Item_.calls [Pan] {x0 : Value} {w : World} {Q : Value → World → Prop} (h : slices_Clone___api_Item_api_Item_.F x0 w Q) : Calls Tryz.prog 95 #[x0] w (retP Q) := calls_lift mixed .z [x0] Tryz.func95 (by kernel_rfl) (by kernel_rfl) h

def slices_SortStableFunc___api_Item_api_Item_.F [Pan] (x0 x1 : Value) (w : World) (Q : Value → World → Prop) : Prop :=
 pN Tryz.prog (oBi .len #[30] 3 [false] [x0]) w fun x6 w1 =>
 pN Tryz.prog (oCall 127 [x0, x6, x1]) w1 fun _ w2 =>
 Q (.tuple #[]) w2
theorem slices_SortStableFunc___api_Item_api_Item_.calls [Pan] {x0 x1 : Value} {w : World} {Q : Value → World → Prop} (h : slices_SortStableFunc___api_Item_api_Item_.F x0 x1 w Q) : Calls Tryz.prog 96 #[x0, x1] w (retP Q) := calls_lift mixed .z [x0, x1] Tryz.func96 (by kernel_rfl) (by kernel_rfl) h

def slices_Equal___api_ID_api_ID_.H : Hints := { cut := fun  | _ => none, loop := fun | 4 => ([13], 67100720) | _ => ([], 0), order := fun | 6 => [(0, 0), (1, 1), (2, 3), (3, 7), (4, 15), (5, 31), (6, 63), (7, 127), (8, 255)] | _ => [] }
def slices_Equal___api_ID_api_ID_.F [Pan] (x0 x1 : Value) (w : World) (Q : Value → World → Prop) : Prop :=
 pN Tryz.prog (oBi .len #[52] 3 [false] [x0]) w fun x7 w1 =>
 pN Tryz.prog (oBi .len #[52] 3 [false] [x1]) w1 fun x9 w2 =>
 pN Tryz.prog (oBin .neq 3 (.tmp 7) (.tmp 9) x7 x9) w2 fun x10 w3 =>
 pIf x10
 (Q (.bool false) w3)
 (pN Tryz.prog (oBi .len #[52] 3 [false] [x0]) w3 fun x12 w4 =>
 ∃ (L4 : Value → World → Prop) (m4 : Value → World → Nat),
 L4 (.int .i64 0) w4 ∧
 ∀ (_k4 : Env) (v13l4 : Value) (w5 : World), L4 v13l4 w5 →
 pN Tryz.prog (oBin .lss 3 (.tmp 13) (.tmp 12) v13l4 x12) w5 fun x14 w6 =>
 pIf x14
 (pDr w6 fun w7 =>
 pA Tryz.prog (oIdx 52 x0 v13l4) fun x18 =>
 pL Tryz.prog (oLoad 58 x18) w7 fun x19 =>
 pA Tryz.prog (oIdx 52 x1 v13l4) fun x22 =>
 pL Tryz.prog (oLoad 58 x22) w7 fun x23 =>
 pA Tryz.prog (oBin .neq 58 (.tmp 19) (.tmp 23) x19 x23) fun x24 =>
 pIf x24
 (Q (.bool false) w7)
 (pN Tryz.prog (oBin .add 3 (.tmp 13) (.const (.int .i64 1)) v13l4 (.int .i64 1)) w7 fun x25 w8 =>
 (L4 x25 w8 ∧ m4 x25 w8 < m4 v13l4 w5)))
 (Q (.bool true) w6))
theorem slices_Equal___api_ID_api_ID_.calls [Pan] {x0 x1 : Value} {w : World} {Q : Value → World → Prop} (h : slices_Equal___api_ID_api_ID_.F x0 x1 w Q) : Calls Tryz.prog 102 #[x0, x1] w (retP Q) := calls_lift mixed slices_Equal___api_ID_api_ID_.H [x0, x1] Tryz.func102 (by kernel_rfl) (by kernel_rfl) h

def slices_stableCmpFunc_api_Item_.H : Hints := { cut := fun | 16 => some ([], 2305280059260273152) | _ => none, loop := fun | 2 => ([7, 8], 8386944) | 7 => ([6], 9223372036586341312) | 9 => ([7, 8], 562941363487104) | _ => ([], 0), order := fun  | _ => [] }
def slices_stableCmpFunc_api_Item_.F [Pan] (x0 x1 x2 : Value) (w : World) (Q : Value → World → Prop) : Prop :=
 ∃ (L2 : Value → Value → World → Prop) (m2 : Value → Value → World → Nat),
 L2 (.int .i64 0) (.int .i64 20) w ∧
 ∀ (_k2 : Env) (a7l2 : Value) (b8l2 : Value) (w1 : World), L2 a7l2 b8l2 w1 →
 pN Tryz.prog (oBin .leq 3 (.tmp 11) (.tmp 12) b8l2 x1) w1 fun x13 w2 =>
 pIf x13
 (pN Tryz.prog (oCall 176 [x0, a7l2, b8l2, x2]) w2 fun _ w3 =>
 pN Tryz.prog (oBin .add 3 (.tmp 20) (.tmp 21) b8l2 (.int .i64 20)) w3 fun x22 w4 =>
 (L2 b8l2 x22 w4 ∧ m2 b8l2 x22 w4 < m2 a7l2 b8l2 w1))
 (pN Tryz.prog (oCall 176 [x0, a7l2, x1, x2]) w2 fun _ w5 =>
 ∃ (L7 : Value → World → Prop) (m7 : Value → World → Nat),
 L7 (.int .i64 20) w5 ∧
 ∀ (_k7 : Env) (blockSize6l7 : Value) (w6 : World), L7 blockSize6l7 w6 →
 pN Tryz.prog (oBin .lss 3 (.tmp 28) (.tmp 29) blockSize6l7 x1) w6 fun x30 w7 =>
 pIf x30
 (pN Tryz.prog (oBin .mul 3 (.const (.int .i64 2)) (.tmp 31) (.int .i64 2) blockSize6l7) w7 fun x32 w8 =>
 ∃ (L9 : Value → Value → World → Prop) (m9 : Value → Value → World → Nat),
 L9 (.int .i64 0) x32 w8 ∧
 ∀ (_k9 : Env) (a7l9 : Value) (b8l9 : Value) (w9 : World), L9 a7l9 b8l9 w9 →
 pN Tryz.prog (oBin .leq 3 (.tmp 33) (.tmp 34) b8l9 x1) w9 fun x35 w10 =>
 pIf x35
 (pN Tryz.prog (oBin .add 3 (.tmp 38) (.tmp 39) a7l9 blockSize6l7) w10 fun x40 w11 =>
 pN Tryz.prog (oCall 177 [x0, a7l9, x40, b8l9, x2]) w11 fun _ w12 =>
 pN Tryz.prog (oBin .mul 3 (.const (.int .i64 2)) (.tmp 46) (.int .i64 2) blockSize6l7) w12 fun x47 w13 =>
 pN Tryz.prog (oBin .add 3 (.tmp 45) (.tmp 47) b8l9 x47) w13 fun x48 w14 =>
 (L9 b8l9 x48 w14 ∧ m9 b8l9 x48 w14 < m9 a7l9 b8l9 w9))
 (∃ I16 : World → Prop,
 (pN Tryz.prog (oBin .add 3 (.tmp 49) (.tmp 50) a7l9 blockSize6l7) w10 fun x51 w15 =>
 pN Tryz.prog (oBin .lss 3 (.tmp 52) (.tmp 53) x51 x1) w15 fun x54 w16 =>
 pIf x54
 (pN Tryz.prog (oCall 177 [x0, a7l9, x51, x1, x2]) w16 fun _ w17 =>
 I16 w17)
 (I16 w16)) ∧
 ∀ (_j16 : Env) (w18 : World), I16 w18 →
 pN Tryz.prog (oBin .mul 3 (.tmp 61) (.const (.int .i64 2)) blockSize6l7 (.int .i64 2)) w18 fun x62 w19 =>
 (L7 x62 w19 ∧ m7 x62 w19 < m7 blockSize6l7 w6)))
 (Q (.tuple #[]) w7))
theorem slices_stableCmpFunc_api_Item_.calls [Pan] {x0 x1 x2 : Value} {w : World} {Q : Value → World → Prop} (h : slices_stableCmpFunc_api_Item_.F x0 x1 x2 w Q) : Calls Tryz.prog 127 #[x0, x1, x2] w (retP Q) := calls_lift mixed slices_stableCmpFunc_api_Item_.H [x0, x1, x2] Tryz.func127 (by kernel_rfl) (by kernel_rfl) h

def slices_insertionSortCmpFunc_api_Item_.H : Hints := { cut := fun  | _ => none, loop := fun | 1 => ([8], 9007199254737664) | 4 => ([9], 9007199254479360) | _ => ([], 0), order := fun | 4 => [(0, 0), (1, 1), (2, 3), (3, 7), (4, 15), (5, 31), (6, 63), (7, 127), (8, 255), (9, 511), (10, 1023), (11, 2047), (12, 4095), (13, 8191), (14, 16383), (15, 32767), (16, 65535)] | 6 => [(0, 0), (1, 1), (2, 3), (3, 7), (4, 15), (5, 31), (6, 63), (7, 127), (8, 255), (9, 511), (10, 1023), (11, 2047), (12, 4095), (13, 8191), (14, 16383), (15, 32767), (16, 65535), (17, 131071)] | _ => [] }
def slices_insertionSortCmpFunc_api_Item_.F [Pan] (x0 x1 x2 x3 : Value) (w : World) (Q : Value → World → Prop) : Prop :=
 pN Tryz.prog (oBin .add 3 (.tmp 10) (.const (.int .i64 1)) x1 (.int .i64 1)) w fun x11 w1 =>
 ∃ (L1 : Value → World → Prop) (m1 : Value → World → Nat),
 L1 x11 w1 ∧
 ∀ (_k1 : Env) (i8l1 : Value) (w2 : World), L1 i8l1 w2 →
 pN Tryz.prog (oBin .lss 3 (.tmp 12) (.tmp 13) i8l1 x2) w2 fun x14 w3 =>
 pIf x14
 (∃ (L4 : Value → World → Prop) (m4 : Value → World → Nat),
 L4 i8l1 w3 ∧
 ∀ (_k4 : Env) (j9l4 : Value) (w4 : World), L4 j9l4 w4 →
 pDr w4 fun w5 =>
 pA Tryz.prog (oBin .gtr 3 (.tmp 18) (.tmp 19) j9l4 x1) fun x20 =>
 gA (gB x20 true) (pA Tryz.prog (oMv x3)) fun x22 =>
 gA (gB x20 true) (pA Tryz.prog (oMv x0)) fun x23 =>
 gA (gB x20 true) (pA Tryz.prog (oMv j9l4)) fun x24 =>
 gA (gB x20 true) (pA Tryz.prog (oIdx 30 x23 x24)) fun x25 =>
 gA (gB x20 true) (pL Tryz.prog (oLoad 49 x25) w5) fun x26 =>
 gA (gB x20 true) (pA Tryz.prog (oMv x0)) fun x27 =>
 gA (gB x20 true) (pA Tryz.prog (oMv j9l4)) fun x28 =>
 gA (gB x20 true) (pA Tryz.prog (oBin .sub 3 (.tmp 28) (.const (.int .i64 1)) x28 (.int .i64 1))) fun x29 =>
 gA (gB x20 true) (pA Tryz.prog (oIdx 30 x27 x29)) fun x30 =>
 gA (gB x20 true) (pL Tryz.prog (oLoad 49 x30) w5) fun x31 =>
 pGd (gB x20 true) (pN Tryz.prog (oCallV x22 [x26, x31]) w5) w5 fun x32 w6 =>
 (True) ∧ (gA (gB x20 true) (pA Tryz.prog (oBin .lss 3 (.tmp 32) (.const (.int .i64 0)) x32 (.int .i64 0))) fun x33 =>
 pA Tryz.prog (oPick x20 x33 (.bool false)) fun x34 =>
 pIf x34
 (pDr w6 fun w7 =>
 pA Tryz.prog (oBin .sub 3 (.tmp 40) (.const (.int .i64 1)) j9l4 (.int .i64 1)) fun x41 =>
 pA Tryz.prog (oBin .sub 3 (.tmp 43) (.const (.int .i64 1)) j9l4 (.int .i64 1)) fun x44 =>
 pA Tryz.prog (oIdx 30 x0 x44) fun x45 =>
 pL Tryz.prog (oLoad 49 x45) w7 fun x46 =>
 pA Tryz.prog (oIdx 30 x0 j9l4) fun x49 =>
 pL Tryz.prog (oLoad 49 x49) w7 fun x50 =>
 pA Tryz.prog (oIdx 30 x0 j9l4) fun x51 =>
 pN Tryz.prog (oStore 49 x51 x46) w7 fun _ w8 =>
 (True) ∧ (pA Tryz.prog (oIdx 30 x0 x41) fun x52 =>
 pN Tryz.prog (oStore 49 x52 x50) w8 fun _ w9 =>
 (True) ∧ (pN Tryz.prog (oBin .sub 3 (.tmp 35) (.const (.int .i64 1)) j9l4 (.int .i64 1)) w9 fun x36 w10 =>
 (L4 x36 w10 ∧ m4 x36 w10 < m4 j9l4 w4))))
 (pN Tryz.prog (oBin .add 3 (.tmp 15) (.const (.int .i64 1)) i8l1 (.int .i64 1)) w6 fun x16 w11 =>
 (L1 x16 w11 ∧ m1 x16 w11 < m1 i8l1 w2))))
 (Q (.tuple #[]) w3)
theorem slices_insertionSortCmpFunc_api_Item_.calls [Pan] {x0 x1 x2 x3 : Value} {w : World} {Q : Value → World → Prop} (h : slices_insertionSortCmpFunc_api_Item_.F x0 x1 x2 x3 w Q) : Calls Tryz.prog 176 #[x0, x1, x2, x3] w (retP Q) := calls_lift mixed slices_insertionSortCmpFunc_api_Item_.H [x0, x1, x2, x3] Tryz.func176 (by kernel_rfl) (by kernel_rfl) h

def slices_symMergeCmpFunc_api_Item_.H : Hints := { cut := fun | 32 => some ([20, 21], 178057512444517944145699250583176761402458112) | 41 => some ([], 6276718611501464291621199836450878838806450759683488612352) | 43 => some ([], 102837757730839990953921738120411198895004889246654277424775168) | _ => none, loop := fun | 3 => ([10, 11], 18014396362005504) | 9 => ([13], 151115691423031627882496) | 15 => ([14, 15], 162259267157806806474544612753408) | 21 => ([17], 680564409323323268500022431707515977728) | 33 => ([20, 21], 47890484938435180470718404069304177263338029388398592) | _ => ([], 0), order := fun | 5 => [(0, 0), (1, 1), (2, 3), (3, 7), (4, 15), (5, 31), (6, 63), (7, 127), (8, 255), (9, 511), (10, 1023)] | 11 => [(0, 0), (1, 1), (2, 3), (3, 7), (4, 15), (5, 31), (6, 63), (7, 127), (8, 255), (9, 511), (10, 1023), (11, 2047), (12, 4095), (13, 8191), (14, 16383), (15, 32767), (16, 65535), (17, 131071)] | 17 => [(0, 0), (1, 1), (2, 3), (3, 7), (4, 15), (5, 31), (6, 63), (7, 127), (8, 255), (9, 511), (10, 1023), (11, 2047)] | 23 => [(0, 0), (1, 1), (2, 3), (3, 7), (4, 15), (5, 31), (6, 63), (7, 127), (8, 255), (9, 511), (10, 1023), (11, 2047), (12, 4095), (13, 8191), (14, 16383), (15, 32767), (16, 65535), (17, 131071)] | 35 => [(0, 0), (1, 1), (2, 3), (3, 7), (4, 15), (5, 31), (6, 63), (7, 127), (8, 255), (9, 511), (10, 1023), (11, 2047), (12, 4095), (13, 8191)] | _ => [] }
def slices_symMergeCmpFunc_api_Item_.F [Pan] (x0 x1 x2 x3 x4 : Value) (w : World) (Q : Value → World → Prop) : Prop :=
 pN Tryz.prog (oBin .sub 3 (.tmp 25) (.tmp 26) x2 x1) w fun x27 w1 =>
 pN Tryz.prog (oBin .eql 3 (.tmp 27) (.const (.int .i64 1)) x27 (.int .i64 1)) w1 fun x28 w2 =>
 pIf x28
 (∃ (L3 : Value → Value → World → Prop) (m3 : Value → Value → World → Nat),
 L3 x2 x3 w2 ∧
 ∀ (_k3 : Env) (i10l3 : Value) (j11l3 : Value) (w3 : World), L3 i10l3 j11l3 w3 →
 pN Tryz.prog (oBin .lss 3 (.tmp 31) (.tmp 32) i10l3 j11l3) w3 fun x33 w4 =>
 pIf x33
 (pN Tryz.prog (oBin .add 3 (.tmp 34) (.tmp 35) i10l3 j11l3) w4 fun x36 w5 =>
 pN Tryz.prog (oConv 3 97 x36) w5 fun x37 w6 =>
 pN Tryz.prog (oBin .shr 97 (.tmp 37) (.const (.int .u64 1)) x37 (.int .u64 1)) w6 fun x38 w7 =>
 pN Tryz.prog (oConv 97 3 x38) w7 fun x39 w8 =>
 pDr w8 fun w9 =>
 pA Tryz.prog (oIdx 30 x0 x39) fun x43 =>
 pL Tryz.prog (oLoad 49 x43) w9 fun x44 =>
 pA Tryz.prog (oIdx 30 x0 x1) fun x47 =>
 pL Tryz.prog (oLoad 49 x47) w9 fun x48 =>
 pN Tryz.prog (oCallV x4 [x44, x48]) w9 fun x49 w10 =>
 (True) ∧ (pA Tryz.prog (oBin .lss 3 (.tmp 49) (.const (.int .i64 0)) x49 (.int .i64 0)) fun x50 =>
 pIf x50
 (pN Tryz.prog (oBin .add 3 (.tmp 51) (.const (.int .i64 1)) x39 (.int .i64 1)) w10 fun x52 w11 =>
 (L3 x52 j11l3 w11 ∧ m3 x52 j11l3 w11 < m3 i10l3 j11l3 w3))
 ((L3 i10l3 x39 w10 ∧ m3 i10l3 x39 w10 < m3 i10l3 j11l3 w3))))
 (∃ (L9 : Value → World → Prop) (m9 : Value → World → Nat),
 L9 x1 w4 ∧
 ∀ (_k9 : Env) (k13l9 : Value) (w12 : World), L9 k13l9 w12 →
 pN Tryz.prog (oBin .sub 3 (.tmp 56) (.const (.int .i64 1)) i10l3 (.int .i64 1)) w12 fun x57 w13 =>
 pN Tryz.prog (oBin .lss 3 (.tmp 55) (.tmp 57) k13l9 x57) w13 fun x58 w14 =>
 pIf x58
 (pDr w14 fun w15 =>
 pA Tryz.prog (oBin .add 3 (.tmp 64) (.const (.int .i64 1)) k13l9 (.int .i64 1)) fun x65 =>
 pA Tryz.prog (oBin .add 3 (.tmp 67) (.const (.int .i64 1)) k13l9 (.int .i64 1)) fun x68 =>
 pA Tryz.prog (oIdx 30 x0 x68) fun x69 =>
 pL Tryz.prog (oLoad 49 x69) w15 fun x70 =>
 pA Tryz.prog (oIdx 30 x0 k13l9) fun x73 =>
 pL Tryz.prog (oLoad 49 x73) w15 fun x74 =>
 pA Tryz.prog (oIdx 30 x0 k13l9) fun x75 =>
 pN Tryz.prog (oStore 49 x75 x70) w15 fun _ w16 =>
 (True) ∧ (pA Tryz.prog (oIdx 30 x0 x65) fun x76 =>
 pN Tryz.prog (oStore 49 x76 x74) w16 fun _ w17 =>
 (True) ∧ (pN Tryz.prog (oBin .add 3 (.tmp 59) (.const (.int .i64 1)) k13l9 (.int .i64 1)) w17 fun x60 w18 =>
 (L9 x60 w18 ∧ m9 x60 w18 < m9 k13l9 w12))))
 (Q (.tuple #[]) w14)))
 (pN Tryz.prog (oBin .sub 3 (.tmp 77) (.tmp 78) x3 x2) w2 fun x79 w19 =>
 pN Tryz.prog (oBin .eql 3 (.tmp 79) (.const (.int .i64 1)) x79 (.int .i64 1)) w19 fun x80 w20 =>
 pIf x80
 (∃ (L15 : Value → Value → World → Prop) (m15 : Value → Value → World → Nat),
 L15 x1 x2 w20 ∧
 ∀ (_k15 : Env) (i14l15 : Value) (j15l15 : Value) (w21 : World), L15 i14l15 j15l15 w21 →
 pN Tryz.prog (oBin .lss 3 (.tmp 83) (.tmp 84) i14l15 j15l15) w21 fun x85 w22 =>
 pIf x85
 (pN Tryz.prog (oBin .add 3 (.tmp 86) (.tmp 87) i14l15 j15l15) w22 fun x88 w23 =>
 pN Tryz.prog (oConv 3 97 x88) w23 fun x89 w24 =>
 pN Tryz.prog (oBin .shr 97 (.tmp 89) (.const (.int .u64 1)) x89 (.int .u64 1)) w24 fun x90 w25 =>
 pN Tryz.prog (oConv 97 3 x90) w25 fun x91 w26 =>
 pDr w26 fun w27 =>
 pA Tryz.prog (oIdx 30 x0 x2) fun x95 =>
 pL Tryz.prog (oLoad 49 x95) w27 fun x96 =>
 pA Tryz.prog (oIdx 30 x0 x91) fun x99 =>
 pL Tryz.prog (oLoad 49 x99) w27 fun x100 =>
 pN Tryz.prog (oCallV x4 [x96, x100]) w27 fun x101 w28 =>
 (True) ∧ (pA Tryz.prog (oBin .lss 3 (.tmp 101) (.const (.int .i64 0)) x101 (.int .i64 0)) fun x102 =>
 pA Tryz.prog (oUn .not x102) fun x103 =>
 pIf x103
 (pN Tryz.prog (oBin .add 3 (.tmp 104) (.const (.int .i64 1)) x91 (.int .i64 1)) w28 fun x105 w29 =>
 (L15 x105 j15l15 w29 ∧ m15 x105 j15l15 w29 < m15 i14l15 j15l15 w21))
 ((L15 i14l15 x91 w28 ∧ m15 i14l15 x91 w28 < m15 i14l15 j15l15 w21))))
 (∃ (L21 : Value → World → Prop) (m21 : Value → World → Nat),
 L21 x2 w22 ∧
 ∀ (_k21 : Env) (k17l21 : Value) (w30 : World), L21 k17l21 w30 →
 pN Tryz.prog (oBin .gtr 3 (.tmp 108) (.tmp 109) k17l21 i14l15) w30 fun x110 w31 =>
 pIf x110
 (pDr w31 fun w32 =>
 pA Tryz.prog (oBin .sub 3 (.tmp 116) (.const (.int .i64 1)) k17l21 (.int .i64 1)) fun x117 =>
 pA Tryz.prog (oBin .sub 3 (.tmp 119) (.const (.int .i64 1)) k17l21 (.int .i64 1)) fun x120 =>
 pA Tryz.prog (oIdx 30 x0 x120) fun x121 =>
 pL Tryz.prog (oLoad 49 x121) w32 fun x122 =>
 pA Tryz.prog (oIdx 30 x0 k17l21) fun x125 =>
 pL Tryz.prog (oLoad 49 x125) w32 fun x126 =>
 pA Tryz.prog (oIdx 30 x0 k17l21) fun x127 =>
 pN Tryz.prog (oStore 49 x127 x122) w32 fun _ w33 =>
 (True) ∧ (pA Tryz.prog (oIdx 30 x0 x117) fun x128 =>
 pN Tryz.prog (oStore 49 x128 x126) w33 fun _ w34 =>
 (True) ∧ (pN Tryz.prog (oBin .sub 3 (.tmp 111) (.const (.int .i64 1)) k17l21 (.int .i64 1)) w34 fun x112 w35 =>
 (L21 x112 w35 ∧ m21 x112 w35 < m21 k17l21 w30))))
 (Q (.tuple #[]) w31)))
 (pN Tryz.prog (oBin .add 3 (.tmp 129) (.tmp 130) x1 x3) w20 fun x131 w36 =>
 pN Tryz.prog (oConv 3 97 x131) w36 fun x132 w37 =>
 pN Tryz.prog (oBin .shr 97 (.tmp 132) (.const (.int .u64 1)) x132 (.int .u64 1)) w37 fun x133 w38 =>
 pN Tryz.prog (oConv 97 3 x133) w38 fun x134 w39 =>
 pN Tryz.prog (oBin .add 3 (.tmp 135) (.tmp 136) x134 x2) w39 fun x137 w40 =>
 ∃ I32 : Value → Value → World → Prop,
 (pN Tryz.prog (oBin .gtr 3 (.tmp 138) (.tmp 139) x2 x134) w40 fun x140 w41 =>
 pIf x140
 (pN Tryz.prog (oBin .sub 3 (.tmp 141) (.tmp 142) x137 x3) w41 fun x143 w42 =>
 I32 x143 x134 w42)
 (I32 x1 x2 w41)) ∧
 ∀ (_j32 : Env) (start20c32 : Value) (r21c32 : Value) (w43 : World), I32 start20c32 r21c32 w43 →
 pN Tryz.prog (oBin .sub 3 (.tmp 147) (.const (.int .i64 1)) x137 (.int .i64 1)) w43 fun x148 w44 =>
 ∃ (L33 : Value → Value → World → Prop) (m33 : Value → Value → World → Nat),
 L33 start20c32 r21c32 w44 ∧
 ∀ (_k33 : Env) (start20l33 : Value) (r21l33 : Value) (w45 : World), L33 start20l33 r21l33 w45 →
 pN Tryz.prog (oBin .lss 3 (.tmp 149) (.tmp 150) start20l33 r21l33) w45 fun x151 w46 =>
 pIf x151
 (pN Tryz.prog (oBin .add 3 (.tmp 152) (.tmp 153) start20l33 r21l33) w46 fun x154 w47 =>
 pN Tryz.prog (oConv 3 97 x154) w47 fun x155 w48 =>
 pN Tryz.prog (oBin .shr 97 (.tmp 155) (.const (.int .u64 1)) x155 (.int .u64 1)) w48 fun x156 w49 =>
 pN Tryz.prog (oConv 97 3 x156) w49 fun x157 w50 =>
 pDr w50 fun w51 =>
 pA Tryz.prog (oBin .sub 3 (.tmp 160) (.tmp 161) x148 x157) fun x162 =>
 pA Tryz.prog (oIdx 30 x0 x162) fun x163 =>
 pL Tryz.prog (oLoad 49 x163) w51 fun x164 =>
 pA Tryz.prog (oIdx 30 x0 x157) fun x167 =>
 pL Tryz.prog (oLoad 49 x167) w51 fun x168 =>
 pN Tryz.prog (oCallV x4 [x164, x168]) w51 fun x169 w52 =>
 (True) ∧ (pA Tryz.prog (oBin .lss 3 (.tmp 169) (.const (.int .i64 0)) x169 (.int .i64 0)) fun x170 =>
 pA Tryz.prog (oUn .not x170) fun x171 =>
 pIf x171
 (pN Tryz.prog (oBin .add 3 (.tmp 172) (.const (.int .i64 1)) x157 (.int .i64 1)) w52 fun x173 w53 =>
 (L33 x173 r21l33 w53 ∧ m33 x173 r21l33 w53 < m33 start20l33 r21l33 w45))
 ((L33 start20l33 x157 w52 ∧ m33 start20l33 x157 w52 < m33 start20l33 r21l33 w45))))
 (pN Tryz.prog (oBin .sub 3 (.tmp 175) (.tmp 176) x137 start20l33) w46 fun x177 w54 =>
 ∃ I41 : World → Prop,
 (pN Tryz.prog (oBin .lss 3 (.tmp 178) (.tmp 179) start20l33 x2) w54 fun x180 w55 =>
 pGd (gB x180 true) (pN Tryz.prog (oMv x2) w55) w55 fun x182 w56 =>
 pGd (gB x180 true) (pN Tryz.prog (oMv x177) w56) w56 fun x183 w57 =>
 pGd (gB x180 true) (pN Tryz.prog (oBin .lss 3 (.tmp 182) (.tmp 183) x182 x183) w57) w57 fun x184 w58 =>
 pN Tryz.prog (oPick x180 x184 (.bool false)) w58 fun x185 w59 =>
 pIf x185
 (pN Tryz.prog (oCall 207 [x0, start20l33, x2, x177, x4]) w59 fun _ w60 =>
 I41 w60)
 (I41 w59)) ∧
 ∀ (_j41 : Env) (w61 : World), I41 w61 →
 ∃ I43 : World → Prop,
 (pN Tryz.prog (oBin .lss 3 (.tmp 192) (.tmp 193) x1 start20l33) w61 fun x194 w62 =>
 pGd (gB x194 true) (pN Tryz.prog (oMv start20l33) w62) w62 fun x196 w63 =>
 pGd (gB x194 true) (pN Tryz.prog (oMv x134) w63) w63 fun x197 w64 =>
 pGd (gB x194 true) (pN Tryz.prog (oBin .lss 3 (.tmp 196) (.tmp 197) x196 x197) w64) w64 fun x198 w65 =>
 pN Tryz.prog (oPick x194 x198 (.bool false)) w65 fun x199 w66 =>
 pIf x199
 (pN Tryz.prog (oCall 177 [x0, x1, start20l33, x134, x4]) w66 fun _ w67 =>
 I43 w67)
 (I43 w66)) ∧
 ∀ (_j43 : Env) (w68 : World), I43 w68 →
 pN Tryz.prog (oBin .lss 3 (.tmp 206) (.tmp 207) x134 x177) w68 fun x208 w69 =>
 pGd (gB x208 true) (pN Tryz.prog (oMv x177) w69) w69 fun x210 w70 =>
 pGd (gB x208 true) (pN Tryz.prog (oMv x3) w70) w70 fun x211 w71 =>
 pGd (gB x208 true) (pN Tryz.prog (oBin .lss 3 (.tmp 210) (.tmp 211) x210 x211) w71) w71 fun x212 w72 =>
 pN Tryz.prog (oPick x208 x212 (.bool false)) w72 fun x213 w73 =>
 pIf x213
 (pN Tryz.prog (oCall 177 [x0, x134, x177, x3, x4]) w73 fun _ w74 =>
 Q (.tuple #[]) w74)
 (Q (.tuple #[]) w73))))
theorem slices_symMergeCmpFunc_api_Item_.calls [Pan] {x0 x1 x2 x3 x4 : Value} {w : World} {Q : Value → World → Prop} (h : slices_symMergeCmpFunc_api_Item_.F x0 x1 x2 x3 x4 w Q) : Calls Tryz.prog 177 #[x0, x1, x2, x3, x4] w (retP Q) := calls_lift mixed slices_symMergeCmpFunc_api_Item_.H [x0, x1, x2, x3, x4] Tryz.func177 (by kernel_rfl) (by kernel_rfl) h

def slices_rotateCmpFunc_api_Item_.H : Hints := { cut := fun  | _ => none, loop := fun | 2 => ([10, 11], 1125899906583552) | _ => ([], 0), order := fun  | _ => [] }
def slices_rotateCmpFunc_api_Item_.F [Pan] (x0 x1 x2 x3 x4 : Value) (w : World) (Q : Value → World → Prop) : Prop :=
 pN Tryz.prog (oBin .sub 3 (.tmp 12) (.tmp 13) x2 x1) w fun x14 w1 =>
 pN Tryz.prog (oBin .sub 3 (.tmp 15) (.tmp 16) x3 x2) w1 fun x17 w2 =>
 ∃ (L2 : Value → Value → World → Prop) (m2 : Value → Value → World → Nat),
 L2 x14 x17 w2 ∧
 ∀ (_k2 : Env) (i10l2 : Value) (j11l2 : Value) (w3 : World), L2 i10l2 j11l2 w3 →
 pN Tryz.prog (oBin .neq 3 (.tmp 18) (.tmp 19) i10l2 j11l2) w3 fun x20 w4 =>
 pIf x20
 (pN Tryz.prog (oBin .gtr 3 (.tmp 21) (.tmp 22) i10l2 j11l2) w4 fun x23 w5 =>
 pIf x23
 (pN Tryz.prog (oBin .sub 3 (.tmp 25) (.tmp 26) x2 i10l2) w5 fun x27 w6 =>
 pN Tryz.prog (oCall 219 [x0, x27, x2, j11l2, x4]) w6 fun _ w7 =>
 pN Tryz.prog (oBin .sub 3 (.tmp 32) (.tmp 33) i10l2 j11l2) w7 fun x34 w8 =>
 (L2 x34 j11l2 w8 ∧ m2 x34 j11l2 w8 < m2 i10l2 j11l2 w3))
 (pN Tryz.prog (oBin .sub 3 (.tmp 36) (.tmp 37) x2 i10l2) w5 fun x38 w9 =>
 pN Tryz.prog (oBin .add 3 (.tmp 39) (.tmp 40) x2 j11l2) w9 fun x41 w10 =>
 pN Tryz.prog (oBin .sub 3 (.tmp 41) (.tmp 42) x41 i10l2) w10 fun x43 w11 =>
 pN Tryz.prog (oCall 219 [x0, x38, x43, i10l2, x4]) w11 fun _ w12 =>
 pN Tryz.prog (oBin .sub 3 (.tmp 47) (.tmp 48) j11l2 i10l2) w12 fun x49 w13 =>
 (L2 i10l2 x49 w13 ∧ m2 i10l2 x49 w13 < m2 i10l2 j11l2 w3)))
 (pN Tryz.prog (oBin .sub 3 (.tmp 51) (.tmp 52) x2 i10l2) w4 fun x53 w14 =>
 pN Tryz.prog (oCall 219 [x0, x53, x2, i10l2, x4]) w14 fun _ w15 =>
 Q (.tuple #[]) w15)
theorem slices_rotateCmpFunc_api_Item_.calls [Pan] {x0 x1 x2 x3 x4 : Value} {w : World} {Q : Value → World → Prop} (h : slices_rotateCmpFunc_api_Item_.F x0 x1 x2 x3 x4 w Q) : Calls Tryz.prog 207 #[x0, x1, x2, x3, x4] w (retP Q) := calls_lift mixed slices_rotateCmpFunc_api_Item_.H [x0, x1, x2, x3, x4] Tryz.func207 (by kernel_rfl) (by kernel_rfl) h

def slices_swapRangeCmpFunc_api_Item_.H : Hints := { cut := fun  | _ => none, loop := fun | 1 => ([10], 274877905920) | _ => ([], 0), order := fun | 3 => [(0, 0), (1, 1), (2, 3), (3, 7), (4, 15), (5, 31), (6, 63), (7, 127), (8, 255), (9, 511), (10, 1023), (11, 2047), (12, 4095), (13, 8191), (14, 16383), (15, 32767), (16, 65535), (17, 131071), (18, 262143), (19, 524287), (20, 1048575), (21, 2097151), (22, 4194303), (23, 8388607)] | _ => [] }
def slices_swapRangeCmpFunc_api_Item_.F [Pan] (x0 x1 x2 x3 x4 : Value) (w : World) (Q : Value → World → Prop) : Prop :=
 ∃ (L1 : Value → World → Prop) (m1 : Value → World → Nat),
 L1 (.int .i64 0) w ∧
 ∀ (_k1 : Env) (i10l1 : Value) (w1 : World), L1 i10l1 w1 →
 pN Tryz.prog (oBin .lss 3 (.tmp 11) (.tmp 12) i10l1 x3) w1 fun x13 w2 =>
 pIf x13
 (pDr w2 fun w3 =>
 pA Tryz.prog (oBin .add 3 (.tmp 17) (.tmp 18) x1 i10l1) fun x19 =>
 pA Tryz.prog (oBin .add 3 (.tmp 21) (.tmp 22) x2 i10l1) fun x23 =>
 pA Tryz.prog (oBin .add 3 (.tmp 25) (.tmp 26) x2 i10l1) fun x27 =>
 pA Tryz.prog (oIdx 30 x0 x27) fun x28 =>
 pL Tryz.prog (oLoad 49 x28) w3 fun x29 =>
 pA Tryz.prog (oBin .add 3 (.tmp 31) (.tmp 32) x1 i10l1) fun x33 =>
 pA Tryz.prog (oIdx 30 x0 x33) fun x34 =>
 pL Tryz.prog (oLoad 49 x34) w3 fun x35 =>
 pA Tryz.prog (oIdx 30 x0 x19) fun x36 =>
 pN Tryz.prog (oStore 49 x36 x29) w3 fun _ w4 =>
 (True) ∧ (pA Tryz.prog (oIdx 30 x0 x23) fun x37 =>
 pN Tryz.prog (oStore 49 x37 x35) w4 fun _ w5 =>
 (True) ∧ (pN Tryz.prog (oBin .add 3 (.tmp 14) (.const (.int .i64 1)) i10l1 (.int .i64 1)) w5 fun x15 w6 =>
 (L1 x15 w6 ∧ m1 x15 w6 < m1 i10l1 w1))))
 (Q (.tuple #[]) w2)
theorem slices_swapRangeCmpFunc_api_Item_.calls [Pan] {x0 x1 x2 x3 x4 : Value} {w : World} {Q : Value → World → Prop} (h : slices_swapRangeCmpFunc_api_Item_.F x0 x1 x2 x3 x4 w Q) : Calls Tryz.prog 219 #[x0, x1, x2, x3, x4] w (retP Q) := calls_lift mixed slices_swapRangeCmpFunc_api_Item_.H [x0, x1, x2, x3, x4] Tryz.func219 (by kernel_rfl) (by kernel_rfl) h

end Go.Proofs.YtikmogfhhggafaaGreatDoor

namespace Go.Proofs.YtikmogfhhggafaaGreatDoor
open Go
attribute [local irreducible] oMv oV oU oCall oCallV oBi oBin oUn oLoad oStore oNil oFld oField oIdx oIndex oPick oAlloc oBox oBuild oBs oConv oMk oSl oExt oFn oIface oMap oLook oMapUp oRange oNext oEntry oInv oAssert oPanic oRes pN pA pL pDr pIf gA pGd Calls
section
variable [Pan] {E w : World} {K Q : Value → World → Prop} {L M N : List HA} {l r : List UInt8} {s s2 : Sl} {c : T_api_Config} {b : Nat} {d : D.T} {li : List I32} {lt : List T_api_Item}

theorem SCloneB_ok (hS : Sat E w L) [hr : Rds cd_uint8 L s l] (hl : l.length ≤ 140737488355328) (hQ : ∀ s' w', Sat E w' (rows cd_uint8 s' l :: L) → Q (.slice s'.a l.length s'.c) w') :
    Calls Tryz.prog 64 #[.slice s.a l.length s.c] w (retP Q) := by
  refine slices_Clone___byte_byte_.calls ?_
  unfold slices_Clone___byte_byte_.F
  obtain ⟨_, ao, cap, hv, hcap, hnil, hc⟩ := hS.rds (C := cd_uint8) (s := s)
  simp only [Value.slice.injEq, true_and] at hv
  obtain ⟨hv1, hv2⟩ := hv
  cases ao with
  | none =>
    obtain rfl : l = [] := List.length_eq_zero_iff.1 (hnil rfl).1
    rw [hv1]
    repeat' (first | refine pN_eql_slc ?_ | refine pIf_t ?_ | fail)
    exact hQ ⟨none, 0⟩ _ (hS.nil 5 1)
  | some a =>
    have hd : s.a.isNone = false := by rw [hv1]; rfl
    refine pN_eql_slc ?_
    rw [hd]
    repeat' (first | refine pIf_f ?_ | (refine pN_b0 hS ?_; clear hS; intro s w hS) | (refine pN_app hS (by first | rfl | omega | simpa only [go_sem] using True.intro | (simp only [go_sem]; omega)) (by first | rfl | omega | simpa only [go_sem] using True.intro | (simp only [go_sem]; omega)) (by first | omega | (simp only [go_sem]; omega)) ?_; clear hS; intro s w hS) | fail)
    exact hQ _ _ hS
theorem SCloneI_ok (hS : Sat E w L) [hr : Rds (cdI 58) L s li] (hl : li.length ≤ 1099511627776) (hQ : ∀ s' w', Sat E w' (rows (cdI 58) s' li :: L) → Q (.slice s'.a li.length s'.c) w') :
    Calls Tryz.prog 65 #[.slice s.a li.length s.c] w (retP Q) := by
  refine slices_Clone___api_ID_api_ID_.calls ?_
  unfold slices_Clone___api_ID_api_ID_.F
  obtain ⟨_, ao, cap, hv, hcap, hnil, hc⟩ := hS.rds (C := cdI 58) (s := s)
  simp only [Value.slice.injEq, true_and] at hv
  obtain ⟨hv1, hv2⟩ := hv
  cases ao with
  | none =>
    obtain rfl : li = [] := List.length_eq_zero_iff.1 (hnil rfl).1
    rw [hv1]
    repeat' (first | refine pN_eql_slc ?_ | refine pIf_t ?_ | fail)
    exact hQ ⟨none, 0⟩ _ (hS.nil 58 32)
  | some a =>
    have hd : s.a.isNone = false := by rw [hv1]; rfl
    refine pN_eql_slc ?_
    rw [hd]
    repeat' (first | refine pIf_f ?_ | (refine pN_b0 hS ?_; clear hS; intro s w hS) | (refine pN_app hS (by first | rfl | omega | simpa only [go_sem] using True.intro | (simp only [go_sem]; omega)) (by first | rfl | omega | simpa only [go_sem] using True.intro | (simp only [go_sem]; omega)) (by first | omega | (simp only [go_sem]; omega)) ?_; clear hS; intro s w hS) | fail)
    exact hQ _ _ hS
theorem SCloneT_ok (hS : Sat E w L) [hr : Rds cd_api_Item L s lt] (hl : lt.length ≤ 1099511627776) (hQ : ∀ s' w', Sat E w' (rows cd_api_Item s' lt :: L) → Q (.slice s'.a lt.length s'.c) w') :
    Calls Tryz.prog 95 #[.slice s.a lt.length s.c] w (retP Q) := by
  refine slices_Clone___api_Item_api_Item_.calls ?_
  unfold slices_Clone___api_Item_api_Item_.F
  obtain ⟨_, ao, cap, hv, hcap, hnil, hc⟩ := hS.rds (C := cd_api_Item) (s := s)
  simp only [Value.slice.injEq, true_and] at hv
  obtain ⟨hv1, hv2⟩ := hv
  cases ao with
  | none =>
    obtain rfl : lt = [] := List.length_eq_zero_iff.1 (hnil rfl).1
    rw [hv1]
    repeat' (first | refine pN_eql_slc ?_ | refine pIf_t ?_ | fail)
    exact hQ ⟨none, 0⟩ _ (hS.nil 49 6)
  | some a =>
    have hd : s.a.isNone = false := by rw [hv1]; rfl
    refine pN_eql_slc ?_
    rw [hd]
    repeat' (first | refine pIf_f ?_ | (refine pN_b0 hS ?_; clear hS; intro s w hS) | (refine pN_app hS (by first | rfl | omega | simpa only [go_sem] using True.intro | (simp only [go_sem]; omega)) (by first | rfl | omega | simpa only [go_sem] using True.intro | (simp only [go_sem]; omega)) (by first | omega | (simp only [go_sem]; omega)) ?_; clear hS; intro s w hS) | fail)
    exact hQ _ _ hS

theorem DHas_ok (hS : Sat E w L) [hf : Fnd (Dep c b) L d N] (i : I32) (hQ : ∀ w, Sat E w (Dep c b d :: N) → Q (.bool (d.has i)) w) :
    Calls Tryz.prog 18 #[.pointer (some ⟨b, 0, none⟩), idV i] w (retP Q) := by
  refine depot_Depot_Has.calls ?_
  unfold depot_Depot_Has.F
  have hS1 := hS.fd (Dep c b)
  clear hS hf
  obtain ⟨mb, nb, pl, nl, ht, hS⟩ := Dep.opn hS1
  clear hS1
  have hh : d.has i = (D.look pl i).isSome := by unfold D.T.has; rw [ht.look]; cases D.look pl i <;> rfl
  rw [hh] at hQ
  have hv0 := vals_get pl i
  repeat' (first | refine pL_la_at (n := 32) hS (bvs i.l) (i32t i) (i32n i) ?_ | refine pN_lko (P := Tryz.prog) (t := 126) (ke := idV) (b := mb) hS i (fun v hv => ?_) (fun hv => ?_) | refine pL_l hS (by first | rfl | assumption) ?_ | (refine pDr_go hS ?_; clear hS; intro w hS) | (refine pN_bx hS (by rfl) ?_; clear hS; intro a w hS) | refine ⟨trivial, ?_⟩ | refine pA_v (hk := ?_) | fail)
  · rw [hv0] at hv
    cases hl : D.look pl i with
    | none => rw [hl] at hv; cases hv
    | some x =>
      rw [hl] at hQ
      skip
      have hS : Sat E w (depP c b d.k mb nb pl nl N) := hS.to
      exact hQ _ (Dep.shut ht rfl hS)
  · rw [hv0] at hv
    cases hl : D.look pl i with
    | some x => rw [hl] at hv; cases hv
    | none =>
      rw [hl] at hQ
      skip
      have hS : Sat E w (depP c b d.k mb nb pl nl N) := hS.to
      exact hQ _ (Dep.shut ht rfl hS)

theorem DRoot_ok (hS : Sat E w L) [hf : Fnd (Dep c b) L d N] (n : NKey) (hb : ∀ q, D.look d.ns n.1 = some q → q.length ≤ 1099511627776)
    (hno : D.look d.ns n.1 = none → ∀ w, Sat E w (Dep c b d :: N) → Q (.tuple #[.slice none 0 0, .int .i64 8]) w)
    (hok : ∀ q, D.look d.ns n.1 = some q → ∀ s w, Sat E w (rows (cdI 58) s q :: Dep c b d :: N) → Q (.tuple #[.slice s.a q.length s.c, .int .i64 0]) w) :
    Calls Tryz.prog 54 #[.pointer (some ⟨b, 0, none⟩), nke n] w (retP Q) := by
  refine depot_Depot_Root.calls ?_
  unfold depot_Depot_Root.F
  have hS1 := hS.fd (Dep c b)
  clear hS hf
  obtain ⟨mb, nb, pl, nl, ht, hS⟩ := Dep.opn hS1
  clear hS1
  have hh := ht.name n
  have hv0 := vals_get nl n
  repeat' (first | refine pN_lko (P := Tryz.prog) (t := 127) (ke := nke) (b := nb) hS n (fun v hv => ?_) (fun hv => ?_) | refine pIf_t ?_ | refine pIf_f ?_ | refine pN_l hS (by first | rfl | assumption) ?_ | refine pN_v (hk := ?_) | fail)
  · rw [hv0] at hv
    cases hl : D.look nl n with
    | none => rw [hl] at hv; cases hv
    | some x =>
      rw [hl] at hv hh
      obtain ⟨sx, q⟩ := x
      have hv : Value.slice sx.a q.length sx.c = v := Option.some.inj hv
      have hh : D.look d.ns n.1 = some q := hh
      subst hv
      have hq := hb _ hh
      haveI : RdP (cdI 58) (bag (keep (cdI 58) nl)) sx q := keep_rd hl
      repeat' (first | (refine pc_slices_Clone___api_ID_api_ID_ (SCloneI_ok (s := sx) (li := q) hS hq ?_); clear hS; intro s2 w hS) | fail)
      have hS : Sat E w (depP c b d.k mb nb pl nl (rows (cdI 58) s2 q :: N)) := hS.to
      exact hok _ hh _ _ (Dep.shut ht rfl hS).to
  · rw [hv0] at hv
    cases hl : D.look nl n with
    | some x => rw [hl] at hv; cases hv
    | none =>
      rw [hl] at hh
      skip
      have hS : Sat E w (depP c b d.k mb nb pl nl N) := hS.to
      exact hno hh _ (Dep.shut ht rfl hS)
end
end Go.Proofs.YtikmogfhhggafaaGreatDoor

namespace Go.Proofs.YtikmogfhhggafaaGreatDoor
open Go
set_option maxRecDepth 100000

def state_PropsByte.F [Pan] (x0 : Value) (w : World) (Q : Value → World → Prop) : Prop :=
 pN Tryz.prog (oBox 23 x0) w fun x1 w1 =>
 pN Tryz.prog (oFld 23 x1 0) w1 fun x4 w2 =>
 pN Tryz.prog (oLoad 3 x4) w2 fun x5 w3 =>
 pN Tryz.prog (oBin .lss 3 (.tmp 5) (.const (.int .i64 0)) x5 (.int .i64 0)) w3 fun x6 w4 =>
 pGd (gB x6 false) (pN Tryz.prog (oFld 23 x1 1) w4) w4 fun x8 w5 =>
 pGd (gB x6 false) (pN Tryz.prog (oLoad 3 x8) w5) w5 fun x9 w6 =>
 pGd (gB x6 false) (pN Tryz.prog (oBin .lss 3 (.tmp 9) (.const (.int .i64 0)) x9 (.int .i64 0)) w6) w6 fun x10 w7 =>
 pN Tryz.prog (oPick x6 (.bool true) x10) w7 fun x11 w8 =>
 pGd (gB x11 false) (pN Tryz.prog (oFld 23 x1 2) w8) w8 fun x13 w9 =>
 pGd (gB x11 false) (pN Tryz.prog (oLoad 3 x13) w9) w9 fun x14 w10 =>
 pGd (gB x11 false) (pN Tryz.prog (oBin .lss 3 (.tmp 14) (.const (.int .i64 0)) x14 (.int .i64 0)) w10) w10 fun x15 w11 =>
 pN Tryz.prog (oPick x11 (.bool true) x15) w11 fun x16 w12 =>
 pGd (gB x16 false) (pN Tryz.prog (oFld 23 x1 2) w12) w12 fun x18 w13 =>
 pGd (gB x16 false) (pN Tryz.prog (oLoad 3 x18) w13) w13 fun x19 w14 =>
 pGd (gB x16 false) (pN Tryz.prog (oBin .gtr 3 (.tmp 19) (.const (.int .i64 4)) x19 (.int .i64 4)) w14) w14 fun x20 w15 =>
 pN Tryz.prog (oPick x16 (.bool true) x20) w15 fun x21 w16 =>
 pGd (gB x21 false) (pN Tryz.prog (oFld 23 x1 0) w16) w16 fun x23 w17 =>
 pGd (gB x21 false) (pN Tryz.prog (oLoad 3 x23) w17) w17 fun x24 w18 =>
 pGd (gB x21 false) (pN Tryz.prog (oBin .gtr 3 (.tmp 24) (.const (.int .i64 4)) x24 (.int .i64 4)) w18) w18 fun x25 w19 =>
 pN Tryz.prog (oPick x21 (.bool true) x25) w19 fun x26 w20 =>
 pGd (gB x26 false) (pN Tryz.prog (oFld 23 x1 1) w20) w20 fun x28 w21 =>
 pGd (gB x26 false) (pN Tryz.prog (oLoad 3 x28) w21) w21 fun x29 w22 =>
 pGd (gB x26 false) (pN Tryz.prog (oFld 23 x1 0) w22) w22 fun x30 w23 =>
 pGd (gB x26 false) (pN Tryz.prog (oLoad 3 x30) w23) w23 fun x31 w24 =>
 pGd (gB x26 false) (pN Tryz.prog (oBin .sub 3 (.const (.int .i64 4)) (.tmp 31) (.int .i64 4) x31) w24) w24 fun x32 w25 =>
 pGd (gB x26 false) (pN Tryz.prog (oBin .gtr 3 (.tmp 29) (.tmp 32) x29 x32) w25) w25 fun x33 w26 =>
 pN Tryz.prog (oPick x26 (.bool true) x33) w26 fun x34 w27 =>
 pIf x34
 (Q (.tuple #[(.int .i64 0), (.int .i64 6)]) w27)
 (pN Tryz.prog (oFld 23 x1 2) w27 fun x35 w28 =>
 pN Tryz.prog (oLoad 3 x35) w28 fun x36 w29 =>
 pN Tryz.prog (oBin .mul 3 (.tmp 36) (.const (.int .i64 5)) x36 (.int .i64 5)) w29 fun x37 w30 =>
 pN Tryz.prog (oFld 23 x1 1) w30 fun x38 w31 =>
 pN Tryz.prog (oLoad 3 x38) w31 fun x39 w32 =>
 pN Tryz.prog (oBin .add 3 (.tmp 37) (.tmp 39) x37 x39) w32 fun x40 w33 =>
 pN Tryz.prog (oBin .mul 3 (.tmp 40) (.const (.int .i64 9)) x40 (.int .i64 9)) w33 fun x41 w34 =>
 pN Tryz.prog (oFld 23 x1 0) w34 fun x42 w35 =>
 pN Tryz.prog (oLoad 3 x42) w35 fun x43 w36 =>
 pN Tryz.prog (oBin .add 3 (.tmp 41) (.tmp 43) x41 x43) w36 fun x44 w37 =>
 Q (.tuple #[x44, (.int .i64 0)]) w37)
theorem state_PropsByte.calls [Pan] {x0 : Value} {w : World} {Q : Value → World → Prop} (h : state_PropsByte.F x0 w Q) : Calls Tryz.prog 119 #[x0] w (retP Q) := calls_lift mixed .z [x0] Tryz.func119 (by kernel_rfl) (by kernel_rfl) h

end Go.Proofs.YtikmogfhhggafaaGreatDoor

namespace Go.Proofs.YtikmogfhhggafaaGreatDoor
open Go
set_option maxRecDepth 100000

def chain_Legal.H : Hints := { cut := fun | 8 => some ([11], 18446744073709549568) | 9 => some ([], 18446744073709549572) | _ => none, loop := fun  | _ => ([], 0), order := fun  | _ => [] }
def chain_Legal.F [Pan] (x0 : Value) (w : World) (Q : Value → World → Prop) : Prop :=
 pN Tryz.prog (oBox 25 x0) w fun x1 w1 =>
 pN Tryz.prog (oFld 25 x1 2) w1 fun x6 w2 =>
 pN Tryz.prog (oLoad 23 x6) w2 fun x7 w3 =>
 pN Tryz.prog (oCall 119 [x7]) w3 fun x8 w4 =>
 pN Tryz.prog (oExt x8 0) w4 fun _ w5 =>
 pN Tryz.prog (oExt x8 1) w5 fun x10 w6 =>
 ∃ I9 : World → Prop,
 (∃ I8 : Value → World → Prop,
 (pN Tryz.prog (oBin .neq 38 (.tmp 12) (.const (.int .i64 0)) x10 (.int .i64 0)) w6 fun x13 w7 =>
 pIf x13
 (I8 x13 w7)
 (pN Tryz.prog (oFld 25 x1 0) w7 fun x14 w8 =>
 pN Tryz.prog (oLoad 3 x14) w8 fun x15 w9 =>
 pN Tryz.prog (oBin .neq 3 (.tmp 15) (.const (.int .i64 0)) x15 (.int .i64 0)) w9 fun x16 w10 =>
 pGd (gB x16 true) (pN Tryz.prog (oFld 25 x1 0) w10) w10 fun x18 w11 =>
 pGd (gB x16 true) (pN Tryz.prog (oLoad 3 x18) w11) w11 fun x19 w12 =>
 pGd (gB x16 true) (pN Tryz.prog (oBin .neq 3 (.tmp 19) (.const (.int .i64 1)) x19 (.int .i64 1)) w12) w12 fun x20 w13 =>
 pN Tryz.prog (oPick x16 x20 (.bool false)) w13 fun x21 w14 =>
 pGd (gB x21 true) (pN Tryz.prog (oFld 25 x1 0) w14) w14 fun x23 w15 =>
 pGd (gB x21 true) (pN Tryz.prog (oLoad 3 x23) w15) w15 fun x24 w16 =>
 pGd (gB x21 true) (pN Tryz.prog (oBin .neq 3 (.tmp 24) (.const (.int .i64 4)) x24 (.int .i64 4)) w16) w16 fun x25 w17 =>
 pN Tryz.prog (oPick x21 x25 (.bool false)) w17 fun x26 w18 =>
 pGd (gB x26 true) (pN Tryz.prog (oFld 25 x1 0) w18) w18 fun x28 w19 =>
 pGd (gB x26 true) (pN Tryz.prog (oLoad 3 x28) w19) w19 fun x29 w20 =>
 pGd (gB x26 true) (pN Tryz.prog (oBin .neq 3 (.tmp 29) (.const (.int .i64 10)) x29 (.int .i64 10)) w20) w20 fun x30 w21 =>
 pN Tryz.prog (oPick x26 x30 (.bool false)) w21 fun x31 w22 =>
 pIf x31
 (I8 x31 w22)
 (pN Tryz.prog (oFld 25 x1 1) w22 fun x32 w23 =>
 pN Tryz.prog (oLoad 3 x32) w23 fun x33 w24 =>
 pN Tryz.prog (oBin .lss 3 (.tmp 33) (.const (.int .i64 0)) x33 (.int .i64 0)) w24 fun x34 w25 =>
 pGd (gB x34 false) (pN Tryz.prog (oFld 25 x1 1) w25) w25 fun x36 w26 =>
 pGd (gB x34 false) (pN Tryz.prog (oLoad 3 x36) w26) w26 fun x37 w27 =>
 pGd (gB x34 false) (pN Tryz.prog (oBin .gtr 3 (.tmp 37) (.const (.int .i64 256)) x37 (.int .i64 256)) w27) w27 fun x38 w28 =>
 pN Tryz.prog (oPick x34 (.bool true) x38) w28 fun x39 w29 =>
 pIf x39
 (I8 x39 w29)
 (pN Tryz.prog (oFld 25 x1 3) w29 fun x40 w30 =>
 pN Tryz.prog (oLoad 3 x40) w30 fun x41 w31 =>
 pN Tryz.prog (oBin .lss 3 (.tmp 41) (.const (.int .i64 4096)) x41 (.int .i64 4096)) w31 fun x42 w32 =>
 pGd (gB x42 false) (pN Tryz.prog (oFld 25 x1 3) w32) w32 fun x44 w33 =>
 pGd (gB x42 false) (pN Tryz.prog (oLoad 3 x44) w33) w33 fun x45 w34 =>
 pGd (gB x42 false) (pN Tryz.prog (oBin .gtr 3 (.tmp 45) (.const (.int .i64 67108864)) x45 (.int .i64 67108864)) w34) w34 fun x46 w35 =>
 pN Tryz.prog (oPick x42 (.bool true) x46) w35 fun x47 w36 =>
 pIf x47
 (I8 x47 w36)
 (pN Tryz.prog (oFld 25 x1 4) w36 fun x48 w37 =>
 pN Tryz.prog (oLoad 3 x48) w37 fun x49 w38 =>
 pN Tryz.prog (oBin .lss 3 (.tmp 49) (.const (.int .i64 1)) x49 (.int .i64 1)) w38 fun x50 w39 =>
 pGd (gB x50 false) (pN Tryz.prog (oFld 25 x1 4) w39) w39 fun x52 w40 =>
 pGd (gB x50 false) (pN Tryz.prog (oLoad 3 x52) w40) w40 fun x53 w41 =>
 pGd (gB x50 false) (pN Tryz.prog (oBin .gtr 3 (.tmp 53) (.const (.int .i64 2147483648)) x53 (.int .i64 2147483648)) w41) w41 fun x54 w42 =>
 pN Tryz.prog (oPick x50 (.bool true) x54) w42 fun x55 w43 =>
 pIf x55
 (I8 x55 w43)
 (pN Tryz.prog (oFld 25 x1 5) w43 fun x56 w44 =>
 pN Tryz.prog (oLoad 3 x56) w44 fun x57 w45 =>
 pN Tryz.prog (oBin .lss 3 (.tmp 57) (.const (.int .i64 0)) x57 (.int .i64 0)) w45 fun x58 w46 =>
 pGd (gB x58 false) (pN Tryz.prog (oFld 25 x1 5) w46) w46 fun x60 w47 =>
 pGd (gB x58 false) (pN Tryz.prog (oLoad 3 x60) w47) w47 fun x61 w48 =>
 pGd (gB x58 false) (pN Tryz.prog (oBin .gtr 3 (.tmp 61) (.const (.int .i64 2)) x61 (.int .i64 2)) w48) w48 fun x62 w49 =>
 pN Tryz.prog (oPick x58 (.bool true) x62) w49 fun x63 w50 =>
 I8 x63 w50)))))) ∧
 ∀ (_j8 : Env) (v11c8 : Value) (w51 : World), I8 v11c8 w51 →
 pIf v11c8
 (Q (.int .i64 6) w51)
 (I9 w51)) ∧
 ∀ (_j9 : Env) (w52 : World), I9 w52 →
 Q (.int .i64 0) w52
theorem chain_Legal.calls [Pan] {x0 : Value} {w : World} {Q : Value → World → Prop} (h : chain_Legal.F x0 w Q) : Calls Tryz.prog 86 #[x0] w (retP Q) := calls_lift mixed chain_Legal.H [x0] Tryz.func86 (by kernel_rfl) (by kernel_rfl) h

end Go.Proofs.YtikmogfhhggafaaGreatDoor

namespace Go.Proofs.YtikmogfhhggafaaGreatDoor
open Go
namespace D
def okP (p : T_api_Props) : Prop := 0 ≤ p.LC ∧ 0 ≤ p.LP ∧ 0 ≤ p.PB ∧ p.PB ≤ 4 ∧ p.LC + p.LP ≤ 4
def okC (c : T_api_Config) : Prop := okP c.Props ∧ (c.Check = 0 ∨ c.Check = 1 ∨ c.Check = 4 ∨ c.Check = 10) ∧ 0 ≤ c.Delta ∧ c.Delta ≤ 256 ∧ 4096 ≤ c.Dict ∧ c.Dict ≤ 67108864 ∧ 1 ≤ c.Block ∧ c.Block ≤ 2147483648 ∧ 0 ≤ c.Mode ∧ c.Mode ≤ 2
instance (p : T_api_Props) : Decidable (okP p) := by unfold okP; infer_instance
instance (c : T_api_Config) : Decidable (okC c) := by unfold okC; infer_instance
end D
attribute [local irreducible] oMv oV oU oCall oCallV oBi oBin oUn oLoad oStore oNil oFld oField oIdx oIndex oPick oAlloc oBox oBuild oBs oConv oMk oSl oExt oFn oIface oMap oLook oMapUp oRange oNext oEntry oInv oAssert oPanic oRes pN pA pL pDr pIf gA pGd Calls
section
variable [Pan] {E w : World} {K Q : Value → World → Prop} {L M N : List HA}
theorem PByte_in (p : T_api_Props) (hp : D.okP p) (hS : Sat E w M) (hQ : ∀ w, Sat E w M → Q (.tuple #[.int .i64 ((p.PB * 5 + p.LP) * 9 + p.LC), .int .i64 0]) w) : Calls Tryz.prog 119 #[.agg #[.int .i64 p.LC, .int .i64 p.LP, .int .i64 p.PB]] w (retP Q) := by
  refine state_PropsByte.calls ?_
  unfold state_PropsByte.F
  obtain ⟨h1, h2, h3, h4, h5⟩ := hp
  repeat' (first | ((first | refine pN_lss_s ?_ ?_ | refine pN_gtr_s ?_ ?_) <;> intro hc <;> try (exfalso; omega)) | refine pIf_f ?_ | refine pGd_go (by rfl) ?_ | refine pN_l hS (by first | rfl | assumption) ?_ | (refine pN_bx hS (by rfl) ?_; clear hS; intro a w hS) | refine pN_v (hk := ?_) | fail)
  exact hQ _ hS.to
theorem PByte_no (p : T_api_Props) (hp : ¬ D.okP p) (hS : Sat E w M) (hQ : ∀ w, Sat E w M → Q (.tuple #[.int .i64 0, .int .i64 6]) w) : Calls Tryz.prog 119 #[.agg #[.int .i64 p.LC, .int .i64 p.LP, .int .i64 p.PB]] w (retP Q) := by
  refine state_PropsByte.calls ?_
  unfold state_PropsByte.F
  unfold D.okP at hp
  repeat' (first | ((first | refine pN_lss_s ?_ ?_ | refine pN_gtr_s ?_ ?_) <;> intro hc <;> try (exfalso; omega)) | refine pIf_t ?_ | refine pGd_go (by rfl) ?_ | refine pGd_no (by rfl) ?_ | refine pN_l hS (by first | rfl | assumption) ?_ | (refine pN_bx hS (by rfl) ?_; clear hS; intro a w hS) | refine pN_v (hk := ?_) | fail)
  all_goals exact hQ _ hS.to
set_option maxHeartbeats 2000000 in
theorem Chain_ok (c : T_api_Config) (hS : Sat E w M) (hQ : ∀ w, Sat E w M → Q (.int .i64 (if D.okC c then 0 else 6)) w) : Calls Tryz.prog 86 #[.agg c.enc.toArray] w (retP Q) := by
  refine chain_Legal.calls ?_
  unfold chain_Legal.F
  refine pN_bx (z := c.enc) hS rfl ?_
  clear hS
  intro b w hS
  have hyes : ∀ w, Sat E w M → D.okC c → Q (.int .i64 0) w := fun w hS h => by rw [if_pos h] at hQ; exact hQ _ hS
  have hno : ∀ w, Sat E w M → ¬ D.okC c → Q (.int .i64 6) w := fun w hS h => by rw [if_neg h] at hQ; exact hQ _ hS
  clear hQ
  unfold D.okC at hyes hno
  obtain ⟨ck, dl, p, di, bl, mo⟩ := c
  have e : T_api_Config.enc ⟨ck, dl, p, di, bl, mo⟩ = [.int .i64 ck, .int .i64 dl, .int .i64 p.LC, .int .i64 p.LP, .int .i64 p.PB, .int .i64 di, .int .i64 bl, .int .i64 mo] := rfl
  rw [e] at hS
  dsimp only at hyes hno
  by_cases hp : D.okP p
  · repeat' (first | refine pN_la_at (n := 3) hS [.int .i64 p.LC, .int .i64 p.LP, .int .i64 p.PB] rfl rfl ?_ | (refine pc_state_PropsByte (PByte_in p hp hS ?_); clear hS; intro w hS) | refine pN_v (hk := ?_) | fail)
    refine ⟨fun w => Sat E w M ∧ D.okP p ∧ (ck = 0 ∨ ck = 1 ∨ ck = 4 ∨ ck = 10) ∧ 0 ≤ dl ∧ dl ≤ 256 ∧ 4096 ≤ di ∧ di ≤ 67108864 ∧ 1 ≤ bl ∧ bl ≤ 2147483648 ∧ 0 ≤ mo ∧ mo ≤ 2, ?_, fun _ w ⟨h1, h2⟩ => hyes _ h1 h2⟩
    refine ⟨fun v w => ∃ x : Bool, v = .bool x ∧ Sat E w M ∧ (x = false ↔ (ck = 0 ∨ ck = 1 ∨ ck = 4 ∨ ck = 10) ∧ 0 ≤ dl ∧ dl ≤ 256 ∧ 4096 ≤ di ∧ di ≤ 67108864 ∧ 1 ≤ bl ∧ bl ≤ 2147483648 ∧ 0 ≤ mo ∧ mo ≤ 2), ?_, ?_⟩
    · by_cases h1 : ck = 0 ∨ ck = 1 ∨ ck = 4 ∨ ck = 10
      · by_cases h2 : 0 ≤ dl ∧ dl ≤ 256
        · by_cases h3 : 4096 ≤ di ∧ di ≤ 67108864
          · by_cases h4 : 1 ≤ bl ∧ bl ≤ 2147483648
            · rcases h1 with h1 | h1 | h1 | h1 <;> subst h1
              all_goals
                repeat' (first | ((first | refine pN_lss_s ?_ ?_ | refine pN_gtr_s ?_ ?_) <;> intro hc <;> try (exfalso; omega)) | (refine pN_neq_s ?_ ?_ <;> intro hc <;> try (exfalso; first | omega | exact hc rfl | exact hc (by assumption) | exact absurd hc (by assumption))) | refine pIf_f ?_ | refine pGd_go (by rfl) ?_ | refine pGd_no (by rfl) ?_ | refine pN_l hS (by first | rfl | assumption) ?_ | refine pN_v (hk := ?_) | fail)
                all_goals exact ⟨_, rfl, hS.to, by simp <;> omega⟩
            · rcases h1 with h1 | h1 | h1 | h1 <;> subst h1
              all_goals
                repeat' (first | ((first | refine pN_lss_s ?_ ?_ | refine pN_gtr_s ?_ ?_) <;> intro hc <;> try (exfalso; omega)) | (refine pN_neq_s ?_ ?_ <;> intro hc <;> try (exfalso; first | omega | exact hc rfl | exact hc (by assumption) | exact absurd hc (by assumption))) | refine pIf_t ?_ | refine pIf_f ?_ | refine pGd_go (by rfl) ?_ | refine pGd_no (by rfl) ?_ | refine pN_l hS (by first | rfl | assumption) ?_ | refine pN_v (hk := ?_) | fail)
                all_goals exact ⟨_, rfl, hS.to, by simp <;> omega⟩
          · rcases h1 with h1 | h1 | h1 | h1 <;> subst h1
            all_goals
              repeat' (first | ((first | refine pN_lss_s ?_ ?_ | refine pN_gtr_s ?_ ?_) <;> intro hc <;> try (exfalso; omega)) | (refine pN_neq_s ?_ ?_ <;> intro hc <;> try (exfalso; first | omega | exact hc rfl | exact hc (by assumption) | exact absurd hc (by assumption))) | refine pIf_t ?_ | refine pIf_f ?_ | refine pGd_go (by rfl) ?_ | refine pGd_no (by rfl) ?_ | refine pN_l hS (by first | rfl | assumption) ?_ | refine pN_v (hk := ?_) | fail)
              all_goals exact ⟨_, rfl, hS.to, by simp <;> omega⟩
        · rcases h1 with h1 | h1 | h1 | h1 <;> subst h1
          all_goals
            repeat' (first | ((first | refine pN_lss_s ?_ ?_ | refine pN_gtr_s ?_ ?_) <;> intro hc <;> try (exfalso; omega)) | (refine pN_neq_s ?_ ?_ <;> intro hc <;> try (exfalso; first | omega | exact hc rfl | exact hc (by assumption) | exact absurd hc (by assumption))) | refine pIf_t ?_ | refine pIf_f ?_ | refine pGd_go (by rfl) ?_ | refine pGd_no (by rfl) ?_ | refine pN_l hS (by first | rfl | assumption) ?_ | refine pN_v (hk := ?_) | fail)
            all_goals exact ⟨_, rfl, hS.to, by simp <;> omega⟩
      · repeat' (first | (refine pN_neq_s ?_ ?_ <;> intro hc <;> try (exfalso; first | omega | exact hc rfl | exact hc (by assumption) | exact absurd hc (by assumption))) | refine pIf_t ?_ | refine pIf_f ?_ | refine pGd_go (by rfl) ?_ | refine pN_l hS (by first | rfl | assumption) ?_ | refine pN_v (hk := ?_) | fail)
        all_goals exact ⟨_, rfl, hS.to, by simp <;> omega⟩
    · clear hS
      rintro _ _ w ⟨x, rfl, hS, hx⟩
      cases x with
      | true =>
        repeat' (first | refine pIf_t ?_ | fail)
        exact hno _ hS fun h => by have := hx.2 h.2; cases this
      | false =>
        repeat' (first | refine pIf_f ?_ | fail)
        exact ⟨hS, hp, hx.1 rfl⟩
  · repeat' (first | refine pN_la_at (n := 3) hS [.int .i64 p.LC, .int .i64 p.LP, .int .i64 p.PB] rfl rfl ?_ | (refine pc_state_PropsByte (PByte_no p hp hS ?_); clear hS; intro w hS) | (refine pN_neq_s ?_ ?_ <;> intro hc <;> try (exfalso; first | omega | exact hc rfl | exact hc (by assumption) | exact absurd hc (by assumption))) | refine pIf_t ?_ | refine pN_v (hk := ?_) | refine ⟨_, ?_, fun _ _ h => h⟩ | refine ⟨_, ?_, fun _ _ _ h => h⟩ | fail)
    all_goals exact hno _ hS.to fun h => hp h.1
end
end Go.Proofs.YtikmogfhhggafaaGreatDoor

namespace Go.Proofs.YtikmogfhhggafaaGreatDoor
open Go
set_option maxRecDepth 100000

def cdc_Legal.F [Pan] (x0 : Value) (w : World) (Q : Value → World → Prop) : Prop :=
 pN Tryz.prog (oBox 27 x0) w fun x1 w1 =>
 pN Tryz.prog (oFld 27 x1 0) w1 fun x3 w2 =>
 pN Tryz.prog (oLoad 3 x3) w2 fun x4 w3 =>
 pN Tryz.prog (oBin .lss 3 (.tmp 4) (.const (.int .i64 64)) x4 (.int .i64 64)) w3 fun x5 w4 =>
 pGd (gB x5 false) (pN Tryz.prog (oFld 27 x1 0) w4) w4 fun x7 w5 =>
 pGd (gB x5 false) (pN Tryz.prog (oLoad 3 x7) w5) w5 fun x8 w6 =>
 pGd (gB x5 false) (pN Tryz.prog (oFld 27 x1 1) w6) w6 fun x9 w7 =>
 pGd (gB x5 false) (pN Tryz.prog (oLoad 3 x9) w7) w7 fun x10 w8 =>
 pGd (gB x5 false) (pN Tryz.prog (oBin .gtr 3 (.tmp 8) (.tmp 10) x8 x10) w8) w8 fun x11 w9 =>
 pN Tryz.prog (oPick x5 (.bool true) x11) w9 fun x12 w10 =>
 pGd (gB x12 false) (pN Tryz.prog (oFld 27 x1 1) w10) w10 fun x14 w11 =>
 pGd (gB x12 false) (pN Tryz.prog (oLoad 3 x14) w11) w11 fun x15 w12 =>
 pGd (gB x12 false) (pN Tryz.prog (oBin .gtr 3 (.tmp 15) (.const (.int .i64 1048576)) x15 (.int .i64 1048576)) w12) w12 fun x16 w13 =>
 pN Tryz.prog (oPick x12 (.bool true) x16) w13 fun x17 w14 =>
 pGd (gB x17 false) (pN Tryz.prog (oFld 27 x1 2) w14) w14 fun x19 w15 =>
 pGd (gB x17 false) (pN Tryz.prog (oLoad 3 x19) w15) w15 fun x20 w16 =>
 pGd (gB x17 false) (pN Tryz.prog (oBin .lss 3 (.tmp 20) (.const (.int .i64 0)) x20 (.int .i64 0)) w16) w16 fun x21 w17 =>
 pN Tryz.prog (oPick x17 (.bool true) x21) w17 fun x22 w18 =>
 pGd (gB x22 false) (pN Tryz.prog (oFld 27 x1 2) w18) w18 fun x24 w19 =>
 pGd (gB x22 false) (pN Tryz.prog (oLoad 3 x24) w19) w19 fun x25 w20 =>
 pGd (gB x22 false) (pN Tryz.prog (oBin .gtr 3 (.tmp 25) (.const (.int .i64 20)) x25 (.int .i64 20)) w20) w20 fun x26 w21 =>
 pN Tryz.prog (oPick x22 (.bool true) x26) w21 fun x27 w22 =>
 pIf x27
 (Q (.int .i64 6) w22)
 (Q (.int .i64 0) w22)
theorem cdc_Legal.calls [Pan] {x0 : Value} {w : World} {Q : Value → World → Prop} (h : cdc_Legal.F x0 w Q) : Calls Tryz.prog 87 #[x0] w (retP Q) := calls_lift mixed .z [x0] Tryz.func87 (by kernel_rfl) (by kernel_rfl) h

def cdc_ends.F [Pan] (x0 x1 : Value) (w : World) (Q : Value → World → Prop) : Prop :=
 pN Tryz.prog (oBox 47 x0) w fun x2 w1 =>
 pN Tryz.prog (oBox 27 x1) w1 fun x3 w2 =>
 pN Tryz.prog (oFn (.func 133) [] [x3, x2]) w2 fun x5 w3 =>
 Q x5 w3
theorem cdc_ends.calls [Pan] {x0 x1 : Value} {w : World} {Q : Value → World → Prop} (h : cdc_ends.F x0 x1 w Q) : Calls Tryz.prog 103 #[x0, x1] w (retP Q) := calls_lift mixed .z [x0, x1] Tryz.func103 (by kernel_rfl) (by kernel_rfl) h

def cdc_roll_eat.H : Hints := { cut := fun  | _ => none, loop := fun | 2 => ([10], 302231454903657293675760) | _ => ([], 0), order := fun | 4 => [(0, 0), (1, 1), (2, 3), (3, 7), (4, 15), (5, 31), (6, 63), (7, 127), (8, 255), (9, 511), (10, 1023), (11, 2047)] | 6 => [(0, 0), (1, 1), (2, 3), (3, 7), (4, 15), (5, 31), (6, 63), (7, 127), (8, 255), (9, 511), (10, 1023), (11, 2047), (12, 4095), (13, 8191), (14, 16383), (15, 32767), (16, 65535), (17, 131071), (18, 262143), (19, 524287), (20, 1048575), (21, 2097151), (22, 4194303), (23, 8388607), (24, 16777215), (25, 33554431), (26, 67108863), (27, 134217727), (28, 268435455), (29, 536870911), (30, 1073741823), (31, 2147483647), (32, 4294967295), (33, 8589934591), (34, 17179869183), (35, 34359738367)] | _ => [] }
def cdc_roll_eat.F [Pan] (x0 x1 : Value) (w : World) (Q : Value → World → Prop) : Prop :=
 pN Tryz.prog (oBi .len #[47] 3 [false] [x1]) w fun x9 w1 =>
 ∃ (L2 : Value → World → Prop) (m2 : Value → World → Nat),
 L2 (.int .i64 0) w1 ∧
 ∀ (_k2 : Env) (v10l2 : Value) (w2 : World), L2 v10l2 w2 →
 pN Tryz.prog (oBin .lss 3 (.tmp 10) (.tmp 9) v10l2 x9) w2 fun x11 w3 =>
 pIf x11
 (pN Tryz.prog (oIdx 47 x1 v10l2) w3 fun x13 w4 =>
 pN Tryz.prog (oLoad 5 x13) w4 fun x14 w5 =>
 pDr w5 fun w6 =>
 pA Tryz.prog (oNil x0) fun x17 =>
 pA Tryz.prog (oFld 230 x17 1) fun x18 =>
 pL Tryz.prog (oLoad 212 x18) w6 fun x19 =>
 pA Tryz.prog (oBin .shl 212 (.tmp 19) (.const (.int .u64 1)) x19 (.int .u64 1)) fun x20 =>
 pN Tryz.prog (oCall 182 [x14]) w6 fun x22 w7 =>
 ((Sem.run Tryz.prog (oLoad 212 x18) w7 = .ok (.value x19) w7) ∧ True) ∧ (pA Tryz.prog (oBin .add 212 (.tmp 20) (.tmp 22) x20 x22) fun x23 =>
 pA Tryz.prog (oNil x0) fun x24 =>
 pA Tryz.prog (oFld 230 x24 1) fun x25 =>
 pN Tryz.prog (oStore 212 x25 x23) w7 fun _ w8 =>
 (True) ∧ (pN Tryz.prog (oNil x0) w8 fun x27 w9 =>
 pN Tryz.prog (oFld 230 x27 2) w9 fun x28 w10 =>
 pN Tryz.prog (oLoad 3 x28) w10 fun x29 w11 =>
 pN Tryz.prog (oBin .add 3 (.tmp 29) (.const (.int .i64 1)) x29 (.int .i64 1)) w11 fun x30 w12 =>
 pN Tryz.prog (oNil x0) w12 fun x31 w13 =>
 pN Tryz.prog (oFld 230 x31 2) w13 fun x32 w14 =>
 pN Tryz.prog (oStore 3 x32 x30) w14 fun _ w15 =>
 pDr w15 fun w16 =>
 pA Tryz.prog (oNil x0) fun x34 =>
 pA Tryz.prog (oFld 230 x34 2) fun x35 =>
 pL Tryz.prog (oLoad 3 x35) w16 fun x36 =>
 pA Tryz.prog (oNil x0) fun x38 =>
 pA Tryz.prog (oFld 230 x38 0) fun x39 =>
 pA Tryz.prog (oFld 27 x39 0) fun x40 =>
 pL Tryz.prog (oLoad 3 x40) w16 fun x41 =>
 pA Tryz.prog (oBin .geq 3 (.tmp 36) (.tmp 41) x36 x41) fun x42 =>
 gA (gB x42 true) (pA Tryz.prog (oMv x0)) fun x44 =>
 gA (gB x42 true) (pA Tryz.prog (oNil x44)) fun x45 =>
 gA (gB x42 true) (pA Tryz.prog (oFld 230 x45 2)) fun x46 =>
 gA (gB x42 true) (pL Tryz.prog (oLoad 3 x46) w16) fun x47 =>
 gA (gB x42 true) (pA Tryz.prog (oMv x0)) fun x48 =>
 gA (gB x42 true) (pA Tryz.prog (oNil x48)) fun x49 =>
 gA (gB x42 true) (pA Tryz.prog (oFld 230 x49 0)) fun x50 =>
 gA (gB x42 true) (pA Tryz.prog (oFld 27 x50 1)) fun x51 =>
 gA (gB x42 true) (pL Tryz.prog (oLoad 3 x51) w16) fun x52 =>
 gA (gB x42 true) (pA Tryz.prog (oBin .eql 3 (.tmp 47) (.tmp 52) x47 x52)) fun x53 =>
 gA (gB x42 true) (pA Tryz.prog (oMv x53)) fun x54 =>
 gA (gB x54 false) (pA Tryz.prog (oMv x0)) fun x55 =>
 gA (gB x54 false) (pA Tryz.prog (oNil x55)) fun x56 =>
 gA (gB x54 false) (pA Tryz.prog (oFld 230 x56 1)) fun x57 =>
 gA (gB x54 false) (pL Tryz.prog (oLoad 212 x57) w16) fun x58 =>
 gA (gB x54 false) (pA Tryz.prog (oMv x0)) fun x59 =>
 gA (gB x54 false) (pA Tryz.prog (oNil x59)) fun x60 =>
 gA (gB x54 false) (pA Tryz.prog (oFld 230 x60 0)) fun x61 =>
 gA (gB x54 false) (pA Tryz.prog (oFld 27 x61 2)) fun x62 =>
 gA (gB x54 false) (pL Tryz.prog (oLoad 3 x62) w16) fun x63 =>
 gA (gB x54 false) (pA Tryz.prog (oBin .sub 3 (.const (.int .i64 64)) (.tmp 63) (.int .i64 64) x63)) fun x64 =>
 gA (gB x54 false) (pA Tryz.prog (oBin .shr 212 (.tmp 58) (.tmp 64) x58 x64)) fun x65 =>
 gA (gB x54 false) (pA Tryz.prog (oBin .eql 212 (.tmp 65) (.const (.int .u64 0)) x65 (.int .u64 0))) fun x66 =>
 gA (gB x42 true) (pA Tryz.prog (oPick x54 (.bool true) x66)) fun x67 =>
 pA Tryz.prog (oPick x42 x67 (.bool false)) fun x68 =>
 pIf x68
 (pN Tryz.prog (oNil x0) w16 fun x71 w17 =>
 pN Tryz.prog (oFld 230 x71 1) w17 fun x72 w18 =>
 pN Tryz.prog (oStore 212 x72 (.int .u64 0)) w18 fun _ w19 =>
 pN Tryz.prog (oNil x0) w19 fun x73 w20 =>
 pN Tryz.prog (oFld 230 x73 2) w20 fun x74 w21 =>
 pN Tryz.prog (oStore 3 x74 (.int .i64 0)) w21 fun _ w22 =>
 pN Tryz.prog (oBin .add 3 (.tmp 75) (.const (.int .i64 1)) v10l2 (.int .i64 1)) w22 fun x76 w23 =>
 Q (.tuple #[x76, (.bool true)]) w23)
 (pN Tryz.prog (oBin .add 3 (.tmp 10) (.const (.int .i64 1)) v10l2 (.int .i64 1)) w16 fun x77 w24 =>
 (L2 x77 w24 ∧ m2 x77 w24 < m2 v10l2 w2)))))
 (pN Tryz.prog (oBi .len #[47] 3 [false] [x1]) w3 fun x79 w25 =>
 Q (.tuple #[x79, (.bool false)]) w25)
theorem cdc_roll_eat.calls [Pan] {x0 x1 : Value} {w : World} {Q : Value → World → Prop} (h : cdc_roll_eat.F x0 x1 w Q) : Calls Tryz.prog 134 #[x0, x1] w (retP Q) := calls_lift mixed cdc_roll_eat.H [x0, x1] Tryz.func134 (by kernel_rfl) (by kernel_rfl) h

def cdc_Gear.F [Pan] (x0 : Value) (w : World) (Q : Value → World → Prop) : Prop :=
 pN Tryz.prog (oConv 5 212 x0) w fun x5 w1 =>
 pN Tryz.prog (oBin .add 212 (.tmp 5) (.const (.int .u64 1)) x5 (.int .u64 1)) w1 fun x6 w2 =>
 pN Tryz.prog (oBin .mul 212 (.tmp 6) (.const (.int .u64 11400714819323198485)) x6 (.int .u64 11400714819323198485)) w2 fun x7 w3 =>
 pN Tryz.prog (oBin .shr 212 (.tmp 9) (.const (.int .u64 30)) x7 (.int .u64 30)) w3 fun x10 w4 =>
 pN Tryz.prog (oBin .xor 212 (.tmp 8) (.tmp 10) x7 x10) w4 fun x11 w5 =>
 pN Tryz.prog (oBin .mul 212 (.tmp 11) (.const (.int .u64 13787848793156543929)) x11 (.int .u64 13787848793156543929)) w5 fun x12 w6 =>
 pN Tryz.prog (oBin .shr 212 (.tmp 14) (.const (.int .u64 27)) x12 (.int .u64 27)) w6 fun x15 w7 =>
 pN Tryz.prog (oBin .xor 212 (.tmp 13) (.tmp 15) x12 x15) w7 fun x16 w8 =>
 pN Tryz.prog (oBin .mul 212 (.tmp 16) (.const (.int .u64 10723151780598845931)) x16 (.int .u64 10723151780598845931)) w8 fun x17 w9 =>
 pN Tryz.prog (oBin .shr 212 (.tmp 19) (.const (.int .u64 31)) x17 (.int .u64 31)) w9 fun x20 w10 =>
 pN Tryz.prog (oBin .xor 212 (.tmp 18) (.tmp 20) x17 x20) w10 fun x21 w11 =>
 Q x21 w11
theorem cdc_Gear.calls [Pan] {x0 : Value} {w : World} {Q : Value → World → Prop} (h : cdc_Gear.F x0 w Q) : Calls Tryz.prog 182 #[x0] w (retP Q) := calls_lift mixed .z [x0] Tryz.func182 (by kernel_rfl) (by kernel_rfl) h

end Go.Proofs.YtikmogfhhggafaaGreatDoor

namespace Go.Proofs.YtikmogfhhggafaaGreatDoor
open Go

abbrev Fr (r : Option Nat) : Fence := { Fence.wide with round := r }
theorem Fr.all (r : Option Nat) (f : FuncId) : (Fr r).fn f := trivial
theorem Fr.deep (r : Option Nat) (n : Nat) : (Fr r).depth.isSome = true → 1 ≤ n := fun h => by cases h
theorem Fr.calls {r : Option Nat} {n : Nat} {P : Program} {f : FuncId} {args : Array Value} {w : World} {R : Ending → World → Prop} (h : Calls P f args w R) : CallsIn (Fr r) n P f args w R := (callsIn_wide (n := n)).2 h

def notDf (o : Oper) : Bool := match o.op with
  | .defer _ => false
  | _ => true
theorem notDf_sem {o : Oper} (h : notDf o = true) (r : Option Nat) (ρ : Operand → Value) : Oper.semAt r ρ o = execOp ρ o :=
  Oper.semAt_eq r ρ o fun c hc => by simp [notDf, hc] at h

def rY [Pan] (P : Program) (r : Result Next) (K : Value → World → Prop) : Prop :=
  match r with
  | .ok (.round l f tmps assign body) w' => RoundIn (Fr none) 0 P l f tmps assign body w' (retP K)
  | r => rN P r K
def pY [Pan] (P : Program) (m : Sem Next) (w : World) (K : Value → World → Prop) : Prop := rY P (m.run P w) K
theorem pY_of [Pan] {P : Program} {m : Sem Next} {w : World} {K : Value → World → Prop} (h : pN P m w K) : pY P m w K := by
  unfold pN at h
  unfold pY rY
  split
  · rename_i hr; rw [hr] at h; exact h.elim
  · exact h

def mayY : Op → Bool
  | .call { callee := .value (.tmp _), .. } => true
  | _ => false
def pX [Pan] (P : Program) (op : Op) (m : Sem Next) (w : World) (K : Value → World → Prop) : Prop :=
  match mayY op with
  | true => pY P m w K
  | false => pN P m w K
theorem pX_up [Pan] {P : Program} {op : Op} {m : Sem Next} {w : World} {K : Value → World → Prop} (h : pX P op m w K) : pY P m w K := by
  unfold pX at h
  split at h
  · exact h
  · exact pY_of h

def opR [Pan] (P : Program) (ops : Array Oper) (o : Oper) (ρ : Env) (w : World) (K : Value → World → Prop) : Prop :=
  match o.guard with
  | none => match o.op with
    | .move x => K (ev ρ x) w
    | .assign x => K (ev ρ x) w
    | op => pX P op (execE ρ o) w K
  | some (j, want) => pGd (wantE ops ρ j want) (pX P o.op (execE ρ o) w) w K

def rgR [Pan] (P : Program) (ops : Array Oper) : List Oper → Env → World → (Env → World → Prop) → Prop
  | [], ρ, w, K => K ρ w
  | o :: rest, ρ, w, K => opR P ops o ρ w fun v w' => rgR P ops rest (ρ.put o.dst v) w' K

def dwR [Pan] (P : Program) (ops : Array Oper) : Nat → Array Bool → Held → Env → World → (Env → World → Prop) → Prop
  | 0, L, _, ρ, w, K => match Region.ready .any ops L with
    | [] => K ρ w
    | _ => False
  | f + 1, L, h, ρ, w, K =>
    match pickFirst ops (Region.ready .any ops L) with
    | some i => match ops[i]?, Region.free .any ops L i with
      | some o, true => takeW P o (guardB ops o ρ) ρ w fun v => dwR P ops f (L.setIfInBounds i true) (holdsH i o (guardB ops o ρ) ρ v h) (ρ.put o.dst v) w K
      | _, _ => False
    | none => match Region.ready .any ops L with
      | [] => K ρ w
      | js => allL js fun j => match ops[j]? with
        | some o => opR P ops o ρ w fun v w' => heldOk P ops j w' h ∧ dwR P ops f (L.setIfInBounds j true) (dropH ops j h) (ρ.put o.dst v) w' K
        | none => False

def dwSR [Pan] (P : Program) (ops : Array Oper) (l : List Oper) : Scr → Held → Env → World → (Env → World → Prop) → Prop
  | [], _, ρ, w, K => K ρ w
  | (i, _) :: r, h, ρ, w, K => match nthO l i with
    | some o => match Nat.blt (kindOf o.op) 2 with
      | true => takeW P o (guardB ops o ρ) ρ w fun v => dwSR P ops l r (holdsH i o (guardB ops o ρ) ρ v h) (ρ.put o.dst v) w K
      | false => opR P ops o ρ w fun v w' => heldOk P ops i w' h ∧ dwSR P ops l r (dropH ops i h) (ρ.put o.dst v) w' K
    | none => False

section
variable [Pan] {P : Program} {n : Frm} {r : Option Nat}

theorem pY_wp {a : Act} {ρ : Env} (hf : Fits n a ρ) {o : Oper} (hd : notDf o = true) {w : World} {K : Value → World → Prop} {next : Act → World → Prop} {Q : Exit → Act → World → Prop}
    (hQ : ∀ c w, PZ n a c w → Q (.panic c) a w) (h : pY P (execE ρ o) w K) (hK : ∀ v w', K v w' → next (a.put o.dst v) w') : o.wpIn (Fr r) 0 P a w next Q := by
  refine ⟨fun _ _ => trivial, ?_⟩
  rw [notDf_sem hd, hf.eval]
  rw [execE_eq] at h
  unfold pY rY at h
  have hret : ∀ (e : Ending) (w'' : World), retP K e w'' → (match (motive := Ending → World → Prop) e, w'' with
      | .returned v, w'' => next (a.put o.dst v) w''
      | .panicked chain, w'' => Q (.panic chain) a w''
      | .outgrown, _ => LetsOut Q) := by
    intro e w'' he
    cases e with
    | returned v => exact hK _ _ he
    | panicked c => exact hQ _ _ (hf.pz he)
    | outgrown => exact he.elim
  split at h
  · rename_i l f tmps assign body w' hr
    rw [hr]
    exact ⟨Fr.deep _ _, RoundIn.mono h hret⟩
  · unfold rN at h
    split at h
    · rename_i v w' hr; rw [hr]; exact hK _ _ h
    · rename_i w' hr; rw [hr]; exact hK _ _ h
    · rename_i f args w' hr
      rw [hr]
      exact ⟨Fr.deep _ _, Fr.calls (Calls.mono h hret)⟩
    · rename_i v w' hr; rw [hr]; exact hQ _ _ (hf.pz h)
    · exact h.elim

theorem opR_none {ops : Array Oper} {o : Oper} {ρ : Env} {w : World} {K : Value → World → Prop} (hg : o.guard = none) (h : opR P ops o ρ w K) : pY P (execE ρ o) w K := by
  unfold opR at h
  rw [hg] at h
  dsimp only at h
  split at h
  · rename_i x hx; unfold execE; rw [hx]; exact h
  · rename_i x hx; unfold execE; rw [hx]; exact h
  · exact pX_up h

theorem rgR_wp {ops : Array Oper} (l : List Oper) : ∀ {a : Act} {ρ : Env} {w : World} {K : Env → World → Prop} {Q : Exit → Act → World → Prop},
    (∀ c a w, PZ n a c w → Q (.panic c) a w) → (∀ o ∈ l, notDf o = true) → (∀ t ∈ opWrites l, n.lo ≤ t ∧ t < n.n) → Fits n a ρ → rgR P ops l ρ w K →
    (∀ a' ρ' w', (∀ t, t ∉ opWrites l → a'.tmps.getD t undef = a.tmps.getD t undef) → Fits n a' ρ' → K ρ' w' → Q .normal a' w') →
    wpListIn (Fr r) 0 P ops Q l a w := by
  induction l with
  | nil =>
    intro a ρ w K Q hQ hnd hw hf h hK
    exact hK a ρ w (fun _ _ => rfl) hf h
  | cons o rest ih =>
    intro a ρ w K Q hQ hnd hw hf h hK
    have hd : ∀ t, o.dst = some t → n.lo ≤ t ∧ t < n.n := fun t ht => hw t (by simp [opWrites, ht])
    have ho := hnd o List.mem_cons_self
    have hrest : ∀ t ∈ opWrites rest, n.lo ≤ t ∧ t < n.n := fun t ht => hw t (by
      simp only [opWrites]; split
      · exact List.mem_cons_of_mem _ ht
      · exact ht)
    have hgo : ∀ v w', rgR P ops rest (ρ.put o.dst v) w' K → wpListIn (Fr r) 0 P ops Q rest (a.put o.dst v) w' := by
      intro v w' hr
      refine ih hQ (fun o h => hnd o (List.mem_cons_of_mem _ h)) hrest (hf.put hd v) hr fun a' ρ' w'' hk hf' hK' => hK a' ρ' w'' (fun t ht => ?_) hf' hK'
      have ht' : t ∉ opWrites rest := fun hm => ht (by
        simp only [opWrites]; split
        · exact List.mem_cons_of_mem _ hm
        · exact hm)
      rw [hk t ht']
      cases hdst : o.dst with
      | none => rfl
      | some d =>
        have hne : d ≠ t := fun e => ht (by simp [opWrites, hdst, e])
        simp only [Act.put, Array.getD_eq_getD_getElem?, Array.getElem?_setIfInBounds]
        rw [if_neg hne]
    simp only [rgR] at h
    cases hg : o.guard with
    | none =>
      exact wpListIn_plain hg fun K' hK' => pY_wp hf ho (fun c w h => hQ c a w h) (opR_none hg h) fun v w' hr => hK' _ _ (hgo v w' hr)
    | some g =>
      obtain ⟨j, want⟩ := g
      simp only [opR, hg] at h
      refine wpListIn_step fun K' hK' => ?_
      simp only [Region.wanted, hg, hf.yielded ops]
      simp only [pGd] at h
      split
      · rename_i hy
        rw [if_pos hy] at h
        exact pY_wp hf ho (fun c w h => hQ c a w h) (pX_up h) fun v w' hr => hK' _ _ (hgo v w' hr)
      · rename_i hy
        rw [if_neg hy] at h
        exact ⟨fun _ _ => trivial, hK' _ _ (hgo _ _ h)⟩
end

section
variable {P : Program} {ops : Array Oper} {Q : Exit → Act → World → Prop} {r : Option Nat}

theorem YieldsW.wpOpI {i : Nat} {o : Oper} {v : Value} {a : Act} {w : World} (hi : ops[i]? = some o) (hd : notDf o = true) (hy : YieldsW P ops o v a w)
    {K : Act → World → Prop} (h : K (a.put o.dst v) w) : wpOpIn (Fr r) 0 P ops Q i K a w := by
  unfold Go.wpOpIn
  simp only [hi]
  rcases hy with ⟨hw, hv⟩ | ⟨hw, rfl⟩
  · rw [if_pos hw]
    refine ⟨fun _ _ => trivial, ?_⟩
    rw [notDf_sem hd, hv]
    exact h
  · rw [if_neg (by simp [hw])]
    exact ⟨fun _ _ => trivial, h⟩

theorem wpOpI_putW {j : Nat} {oi oj : Oper} {v : Value} (φ : World → Prop) (hj : ops[j]? = some oj) (hdj : notDf oj = true) (hap : oi.apart ops oj = true)
    (hsi : ∀ cs b, oi.op ≠ .select cs b) (hsj : ∀ cs b, oj.op ≠ .select cs b)
    (hQ : ∀ c a w, Q (.panic c) (a.put oi.dst v) w → Q (.panic c) a w) (hL : ¬ LetsOut Q) {K : Act → World → Prop} {a : Act} {w : World}
    (hy : ∀ w, φ w → YieldsW P ops oi v a w) (h : wpOpIn (Fr r) 0 P ops Q j K (a.put oi.dst v) w) :
    wpOpIn (Fr r) 0 P ops Q j (fun a' w' => (∀ w, φ w → YieldsW P ops oi v a' w) ∧ K (a'.put oi.dst v) w') a w := by
  obtain ⟨h1, h2, h3⟩ := Oper.apart_spec hap
  have keep : ∀ (a : Act), (∀ w, φ w → YieldsW P ops oi v a w) → ∀ u, (∀ w, φ w → YieldsW P ops oi v (a.put oj.dst u) w) := fun a hy u w hw =>
    (hy w hw).of_same (execOp_put oi hsi a oj.dst u h3) (wanted_put oi a oj.dst u h3)
  have keepD : ∀ d, (∀ w, φ w → YieldsW P ops oi v { a with defers := d :: a.defers } w) := fun d w hw => (hy w hw).of_same rfl rfl
  unfold Go.wpOpIn at *
  simp only [hj] at *
  rw [wanted_put oj a oi.dst v h1] at h
  split
  · rename_i hw
    simp only [hw, if_true] at h
    refine ⟨fun _ _ => trivial, ?_⟩
    have h := h.2
    rw [notDf_sem hdj, execOp_put oj hsj a oi.dst v h1] at h
    rw [notDf_sem hdj]
    generalize (execOp a.eval oj).run P w = r at *
    cases r with
    | ok n w' =>
      cases n <;> simp only [Oper.uponIn] at h ⊢
      case value u => exact ⟨keep a hy u, by rw [← Act.put_comm a v u h2]; exact h⟩
      case skip => exact ⟨keep a hy _, by rw [← Act.put_comm a v undef h2]; exact h⟩
      case defer d =>
        refine ⟨keep _ (keepD d) _, ?_⟩
        rw [← Act.put_comm _ v undef h2, ← Act.put_defers]
        exact h
      case enter f args =>
        refine ⟨h.1, CallsIn.mono h.2 fun e w'' he => ?_⟩
        cases e with
        | returned u => exact ⟨keep a hy u, by rw [← Act.put_comm a v u h2]; exact he⟩
        | panicked c => exact hQ _ _ _ he
        | outgrown => exact he
      case row row args => exact ⟨h.1, RowsIn.mono h.2 fun u w'' he => ⟨keep a hy u, by rw [← Act.put_comm a v u h2]; exact he⟩⟩
      case round l f tmps assign body =>
        refine ⟨h.1, RoundIn.mono h.2 fun e w'' he => ?_⟩
        cases e with
        | returned u => exact ⟨keep a hy u, by rw [← Act.put_comm a v u h2]; exact he⟩
        | panicked c => exact hQ _ _ _ he
        | outgrown => exact he
    | halt x w' =>
      cases x <;> simp only [Oper.uponIn] at h ⊢
      case panic u => exact hQ _ _ _ h
  · rename_i hw
    simp only [hw] at h
    exact ⟨fun _ _ => trivial, keep a hy _, by rw [← Act.put_comm a v undef h2]; exact h.2⟩

def wpAnyTI (r : Option Nat) (P : Program) (ops : Array Oper) (Q : Exit → Act → World → Prop) : Nat → Array Bool → Trk → Act → World → Prop
  | 0, listed, _, a, w => Region.ready .any ops listed = [] ∧ Q .normal a w
  | fuel + 1, listed, trk, a, w =>
    (Region.ready .any ops listed = [] → Q .normal a w) ∧
    ∀ i ∈ Region.ready .any ops listed, wpOpIn (Fr r) 0 P ops Q i (fun a' w' => (∀ p ∈ dropT ops i trk, p.2 w') ∧ wpAnyTI r P ops Q fuel (listed.setIfInBounds i true) (dropT ops i trk) a' w') a w

theorem wpAnyIn_of_T : ∀ (fuel : Nat) (listed : Array Bool) (trk : Trk) (a : Act) (w : World), wpAnyTI r P ops Q fuel listed trk a w → wpAnyIn (Fr r) 0 P .any ops Q fuel listed a w
  | 0, _, _, _, _, h => h
  | fuel + 1, _, _, _, _, h => ⟨h.1, fun i hi => wpOpIn_mono (fun a' w' h' => wpAnyIn_of_T fuel _ _ a' w' h'.2) (h.2 i hi)⟩

theorem wpAnyTI_less : ∀ (fuel : Nat) (listed : Array Bool) (trk trk' : Trk) (a : Act) (w : World), (∀ p ∈ trk', p ∈ trk) → wpAnyTI r P ops Q fuel listed trk a w → wpAnyTI r P ops Q fuel listed trk' a w
  | 0, _, _, _, _, _, _, h => h
  | fuel + 1, _, trk, trk', _, _, hs, h => ⟨h.1, fun i hi => wpOpIn_mono (fun a' w' h' => by
      have hs' : ∀ p ∈ dropT ops i trk', p ∈ dropT ops i trk := fun p hp => by
        simp only [dropT, List.mem_filter] at hp ⊢
        exact ⟨hs p hp.1, hp.2⟩
      exact ⟨fun p hp => h'.1 p (hs' p hp), wpAnyTI_less fuel _ _ _ a' w' hs' h'.2⟩) (h.2 i hi)⟩

theorem wpAnyTI_first {i : Nat} {oi : Oper} {v : Value} {φ : World → Prop} (hi : ops[i]? = some oi) (hdi : notDf oi = true) (hnd : ∀ (j : Nat) (o : Oper), ops[j]? = some o → notDf o = true) (hsel : ∀ (j : Nat) (o : Oper) cs b, ops[j]? = some o → o.op ≠ .select cs b)
    (hQ : ∀ c a w, Q (.panic c) (a.put oi.dst v) w → Q (.panic c) a w) (hL : ¬ LetsOut Q) :
    ∀ (fuel : Nat) (listed : Array Bool) (trk : Trk) (a : Act) (w : World), Clo ops listed →
      (∀ j oj, ops[j]? = some oj → j ≠ i → listed.getD j true = false → (∀ e ∈ oj.after, Region.binds .any e = true → e.on ≠ i) → oi.apart ops oj = true) →
      i ∈ Region.ready .any ops listed → (∀ w, φ w → YieldsW P ops oi v a w) → φ w → (∀ p ∈ trk, p.2 w) →
      wpAnyTI r P ops Q fuel (listed.setIfInBounds i true) ((i, φ) :: trk) (a.put oi.dst v) w → wpAnyTI r P ops Q (fuel + 1) listed trk a w := by
  intro fuel
  induction fuel with
  | zero =>
    intro listed trk a w _ _ hr hy hφ ht H
    refine ⟨fun h => (by rw [h] at hr; cases hr), fun j hj => ?_⟩
    by_cases hji : j = i
    · subst hji
      exact (hy w hφ).wpOpI hi hdi ⟨fun p hp => ht p (by simp only [dropT, List.mem_filter] at hp; exact hp.1), H⟩
    · have := ready_mono hj hji
      rw [H.1] at this
      cases this
  | succ fuel ih =>
    intro listed trk a w hcl hfree hr hy hφ ht H
    refine ⟨fun h => (by rw [h] at hr; cases hr), fun j hj => ?_⟩
    by_cases hji : j = i
    · subst hji
      refine (hy w hφ).wpOpI hi hdi ⟨fun p hp => ht p (by simp only [dropT, List.mem_filter] at hp; exact hp.1), wpAnyTI_less _ _ _ _ _ _ (fun p hp => ?_) H⟩
      simp only [dropT, List.mem_filter] at hp
      exact List.mem_cons_of_mem _ hp.1
    · have h1 := H.2 j (ready_mono hj hji)
      obtain ⟨hjun, oj, hoj, hall⟩ := mem_ready.1 hj
      have hiun := (mem_ready.1 hr).1
      have hnl : listed.getD i false ≠ true := fun hl => by
        rcases Nat.lt_or_ge i listed.size with h' | h'
        · simp [h'] at hiun hl; rw [hiun] at hl; cases hl
        · simp [Array.getElem?_eq_none h'] at hl
      have hnot : ∀ e ∈ oj.after, Region.binds .any e = true → e.on ≠ i := fun e he hb heq => hnl (heq ▸ hall e he hb)
      have hnb : bfB ops ops.size i j = false := by
        cases hb : bfB ops ops.size i j with
        | false => rfl
        | true => exact absurd (hcl.bf _ _ _ hb ⟨oj, hoj, hall⟩) hnl
      have hdrop : dropT ops j ((i, φ) :: trk) = (i, φ) :: dropT ops j trk := by
        simp [dropT, hnb]
      have h2 := wpOpI_putW φ hoj (hnd j oj hoj) (hfree j oj hoj hji hjun hnot) (fun cs b => hsel i oi cs b hi) (fun cs b => hsel j oj cs b hoj) hQ hL hy h1
      have hfree' : ∀ k ok, ops[k]? = some ok → k ≠ i → (listed.setIfInBounds j true).getD k true = false →
          (∀ e ∈ ok.after, Region.binds .any e = true → e.on ≠ i) → oi.apart ops ok = true := fun k ok hk hki hun hno => by
        refine hfree k ok hk hki ?_ hno
        by_cases hjk : j = k
        · subst hjk; exact hjun
        · rw [getD_set_ne true hjk] at hun; exact hun
      refine wpOpIn_mono (fun a' w' h3 => ?_) h2
      obtain ⟨hy', hobl, H'⟩ := h3
      rw [hdrop] at hobl H'
      refine ⟨fun p hp => hobl p (List.mem_cons_of_mem _ hp), ih (listed.setIfInBounds j true) _ a' w' (hcl.add hj) hfree' (ready_mono hr (Ne.symm hji)) hy' (hobl (i, φ) List.mem_cons_self) (fun p hp => hobl p (List.mem_cons_of_mem _ hp)) ?_⟩
      rw [Array.setIfInBounds_comm _ _ hji]
      exact H'

theorem wpAnyTI_top {i : Nat} {f : Nat} {L : Array Bool} {trk : Trk} {a : Act} {w : World} (H : wpAnyTI r P ops Q f L trk a w) : wpAnyTI r P ops Q f L ((i, fun _ => True) :: trk) a w := by
  have gen : ∀ (f : Nat) (L : Array Bool) (trk trk' : Trk) (a : Act) (w : World), (∀ p ∈ trk', p ∈ trk ∨ ∀ w, p.2 w) → wpAnyTI r P ops Q f L trk a w → wpAnyTI r P ops Q f L trk' a w := by
    intro f
    induction f with
    | zero => intro L trk trk' a w _ h; exact h
    | succ f ih =>
      intro L trk trk' a w hs h
      refine ⟨h.1, fun i hi => wpOpIn_mono (fun a' w' h' => ?_) (h.2 i hi)⟩
      have hs' : ∀ p ∈ dropT ops i trk', p ∈ dropT ops i trk ∨ ∀ w, p.2 w := fun p hp => by
        simp only [dropT, List.mem_filter] at hp ⊢
        rcases hs p hp.1 with h | h
        · exact .inl ⟨h, hp.2⟩
        · exact .inr h
      exact ⟨fun p hp => (hs' p hp).elim (h'.1 p) (fun h => h w'), ih _ _ _ a' w' hs' h'.2⟩
  refine gen f L trk _ a w (fun p hp => ?_) H
  rcases List.mem_cons.1 hp with rfl | hp
  · exact .inr fun _ => trivial
  · exact .inl hp
end

section
variable {P : Program} {ops : Array Oper} {rd : Option Nat}

theorem dwR_any [Pan] {n : Frm} (hs : Region.noSelect ops = true) (hnd : ∀ (j : Nat) (o : Oper), ops[j]? = some o → notDf o = true) (hn : ∀ t ∈ opWrites ops.toList, n.lo ≤ t ∧ t < n.n) {Q : Exit → Act → World → Prop} (hQ : ∀ c a w, Q (.panic c) a w ↔ PZ n a c w) (hL : ¬ LetsOut Q) (a₀ : Act) {K : Env → World → Prop}
    (hK : ∀ a' ρ' w', (∀ t, t ∉ opWrites ops.toList → a'.tmps.getD t undef = a₀.tmps.getD t undef) → Fits n a' ρ' → K ρ' w' → Q .normal a' w') :
    ∀ (f : Nat) (L : Array Bool) (h : Held) (ρ : Env) (a : Act) (w : World), Clo ops L → Fits n a ρ → (∀ t, t ∉ opWrites ops.toList → a.tmps.getD t undef = a₀.tmps.getD t undef) →
      (∀ p ∈ trkOf P h, p.2 w) → dwR P ops f L h ρ w K → wpAnyTI rd P ops Q f L (trkOf P h) a w := by
  have hput : ∀ {a : Act} {j : Nat} {o : Oper} (v : Value), ops[j]? = some o → (∀ t, t ∉ opWrites ops.toList → a.tmps.getD t undef = a₀.tmps.getD t undef) →
      (∀ t, t ∉ opWrites ops.toList → (a.put o.dst v).tmps.getD t undef = a₀.tmps.getD t undef) := by
    intro a j o v hj hk t ht
    rw [← hk t ht]
    cases hd : o.dst with
    | none => rfl
    | some d =>
      have hne : d ≠ t := fun e => ht (e ▸ opWrites_mem hj hd)
      simp only [Act.put, Array.getD_eq_getD_getElem?, Array.getElem?_setIfInBounds]
      rw [if_neg hne]
  have hdst : ∀ {j : Nat} {o : Oper}, ops[j]? = some o → ∀ t, o.dst = some t → n.lo ≤ t ∧ t < n.n := fun hj t ht => hn t (opWrites_mem hj ht)
  intro f
  induction f with
  | zero =>
    intro L h ρ a w _ hf hk _ hd
    simp only [dwR] at hd
    split at hd
    · rename_i hr; exact ⟨hr, hK a ρ w hk hf hd⟩
    · exact hd.elim
  | succ f ih =>
    intro L h ρ a w hcl hf hk ht hd
    simp only [dwR] at hd
    split at hd
    · rename_i i hpick
      have hmem := pickFirst_mem hpick
      split at hd
      · rename_i o hi hfree
        obtain ⟨v, hKv, hy⟩ := takeW_yields (ops := ops) hf hd
        have hf' : Fits n (a.put o.dst v) (ρ.put o.dst v) := hf.put (hdst hi) v
        rcases hy with ⟨hkind, hy⟩ | ⟨hkind, hy, hnow⟩
        · simp only [holdsH, hkind] at hKv
          have H := ih _ _ _ _ _ (hcl.add hmem) hf' (hput v hi hk) ht hKv
          refine wpAnyTI_first (φ := fun _ => True) hi (hnd _ _ hi) hnd (Region.noSelect_spec hs) (fun c a w h => (hQ _ _ _).2 (PZ.less (fun t ht => (hdst hi t ht).1) ((hQ _ _ _).1 h))) hL f L _ a w hcl (Region.free_spec hi hfree) hmem (fun w _ => hy w) trivial ht ?_
          exact wpAnyTI_top H
        · simp only [holdsH, hkind] at hKv
          have ht' : ∀ p ∈ trkOf P ((i, guardB ops o ρ, execE ρ o, v) :: h), p.2 w := by
            intro p hp
            rcases List.mem_cons.1 (show p ∈ (i, fun w => hkp (guardB ops o ρ) ((execE ρ o).run P w = .ok (.value v) w)) :: trkOf P h from hp) with rfl | hp
            · exact hnow
            · exact ht p hp
          have H := ih _ _ _ _ _ (hcl.add hmem) hf' (hput v hi hk) ht' hKv
          exact wpAnyTI_first (φ := fun w => hkp (guardB ops o ρ) ((execE ρ o).run P w = .ok (.value v) w)) hi (hnd _ _ hi) hnd (Region.noSelect_spec hs) (fun c a w h => (hQ _ _ _).2 (PZ.less (fun t ht => (hdst hi t ht).1) ((hQ _ _ _).1 h))) hL f L _ a w hcl (Region.free_spec hi hfree) hmem hy hnow ht H
      · exact hd.elim
    · split at hd
      · rename_i hr
        refine ⟨fun _ => hK a ρ w hk hf hd, fun i hi => ?_⟩
        rw [hr] at hi; cases hi
      · rename_i js hne
        refine ⟨fun h0 => absurd h0 hne, fun j hj => ?_⟩
        have hdj := allL_mem hd j hj
        obtain ⟨_, o, hoj, _⟩ := mem_ready.1 hj
        simp only [hoj] at hdj
        have hgo : ∀ v w', (heldOk P ops j w' h ∧ dwR P ops f (L.setIfInBounds j true) (dropH ops j h) (ρ.put o.dst v) w' K) →
            (∀ p ∈ dropT ops j (trkOf P h), p.2 w') ∧ wpAnyTI rd P ops Q f (L.setIfInBounds j true) (dropT ops j (trkOf P h)) (a.put o.dst v) w' := by
          intro v w' ⟨hho, hdw⟩
          rw [trkOf_drop]
          have h1 := heldOk_all j w' h hho
          exact ⟨h1, ih _ _ _ _ _ (hcl.add hj) (hf.put (hdst hoj) v) (hput v hoj hk) h1 hdw⟩
        unfold Go.wpOpIn
        simp only [hoj]
        have hw := wanted_eq (ops := ops) hf o
        cases hg : o.guard with
        | none =>
          simp only [guardB, hg] at hw
          simp only [Option.getD_none] at hw
          rw [if_pos hw]
          exact pY_wp hf (hnd _ _ hoj) (fun c w h => (hQ _ _ _).2 h) (opR_none hg hdj) hgo
        | some g =>
          obtain ⟨k, want⟩ := g
          simp only [guardB, hg] at hw
          simp only [Option.getD_some] at hw
          simp only [opR, hg, pGd] at hdj
          rw [hw]
          split
          · rename_i hy
            rw [if_pos hy] at hdj
            exact pY_wp hf (hnd _ _ hoj) (fun c w h => (hQ _ _ _).2 h) (pX_up hdj) hgo
          · rename_i hy
            rw [if_neg hy] at hdj
            exact ⟨fun _ _ => trivial, hgo _ _ hdj⟩

theorem dwSR_any [Pan] {n : Frm} (hs : Region.noSelect ops = true) (hnd : ∀ (j : Nat) (o : Oper), ops[j]? = some o → notDf o = true) (hn : ∀ t ∈ opWrites ops.toList, n.lo ≤ t ∧ t < n.n) (hb : ∀ (j : Nat) (o : Oper), ops[j]? = some o → ∀ e ∈ o.after, Region.binds .any e = true → e.on < ops.size)
    {Q : Exit → Act → World → Prop} (hQ : ∀ c a w, Q (.panic c) a w ↔ PZ n a c w) (hL : ¬ LetsOut Q) (a₀ : Act) {K : Env → World → Prop}
    (hK : ∀ a' ρ' w', (∀ t, t ∉ opWrites ops.toList → a'.tmps.getD t undef = a₀.tmps.getD t undef) → Fits n a' ρ' → K ρ' w' → Q .normal a' w') :
    ∀ (s : Scr) (M : Nat) (L : Array Bool) (h : Held) (ρ : Env) (a : Act) (w : World), RelM ops.size M L → okS ops ops.toList ops.size s M = true → Clo ops L → Fits n a ρ → (∀ t, t ∉ opWrites ops.toList → a.tmps.getD t undef = a₀.tmps.getD t undef) →
      (∀ p ∈ trkOf P h, p.2 w) → dwSR P ops ops.toList s h ρ w K → wpAnyTI rd P ops Q s.length L (trkOf P h) a w := by
  have hput : ∀ {a : Act} {j : Nat} {o : Oper} (v : Value), ops[j]? = some o → (∀ t, t ∉ opWrites ops.toList → a.tmps.getD t undef = a₀.tmps.getD t undef) →
      (∀ t, t ∉ opWrites ops.toList → (a.put o.dst v).tmps.getD t undef = a₀.tmps.getD t undef) := by
    intro a j o v hj hk t ht
    rw [← hk t ht]
    cases hd : o.dst with
    | none => rfl
    | some d =>
      have hne : d ≠ t := fun e => ht (e ▸ opWrites_mem hj hd)
      simp only [Act.put, Array.getD_eq_getD_getElem?, Array.getElem?_setIfInBounds]
      rw [if_neg hne]
  have hdst : ∀ {j : Nat} {o : Oper}, ops[j]? = some o → ∀ t, o.dst = some t → n.lo ≤ t ∧ t < n.n := fun hj t ht => hn t (opWrites_mem hj ht)
  intro s
  induction s with
  | nil =>
    intro M L h ρ a w hrel hok _ hf hk _ hd
    refine ⟨?_, hK a ρ w hk hf hd⟩
    simp only [okS] at hok
    refine List.eq_nil_iff_forall_not_mem.2 fun j hj => ?_
    obtain ⟨h0, o, ho, _⟩ := mem_ready.1 hj
    have hlt := (Array.getElem?_eq_some_iff.1 ho).1
    rw [hrel.getD hlt true, belowB_spec hok j hlt] at h0
    cases h0
  | cons p r ih =>
    obtain ⟨i, M'⟩ := p
    intro M L h ρ a w hrel hok hcl hf hk ht hd
    simp only [okS, Bool.and_eq_true] at hok
    obtain ⟨⟨⟨hM, hrdy⟩, hcase⟩, hok'⟩ := hok
    have hM := Nat.eq_of_beq_eq_true hM
    subst hM
    simp only [dwSR] at hd
    rw [nthO_eq, Array.getElem?_toList] at hcase hd
    cases hi : ops[i]? with
    | none => rw [hi] at hcase; cases hcase
    | some o =>
      rw [hi] at hcase hd
      have hlt := (Array.getElem?_eq_some_iff.1 hi).1
      have hmem := (readyM_iff hrel hb i hlt).1 hrdy
      have hrel' := hrel.set i hlt
      cases hkd : Nat.blt (kindOf o.op) 2 with
      | true =>
        simp only [hkd] at hcase hd
        obtain ⟨v, hKv, hy⟩ := takeW_yields (ops := ops) hf hd
        have hf' : Fits n (a.put o.dst v) (ρ.put o.dst v) := hf.put (hdst hi) v
        have hfree : ∀ j oj, ops[j]? = some oj → j ≠ i → L.getD j true = false → (∀ e ∈ oj.after, Region.binds .any e = true → e.on ≠ i) → o.apart ops oj = true := by
          intro j oj hj hne hun hno
          have hjlt := (Array.getElem?_eq_some_iff.1 hj).1
          simp only [freeM, nthO_eq, Array.getElem?_toList, hi] at hcase
          have := belowB_spec hcase j hjlt
          simp only [hj, Bool.or_eq_true] at this
          rcases this with (h1 | h1) | h1 | h1
          · exact absurd (Nat.eq_of_beq_eq_true h1) hne
          · rw [hrel.getD hjlt true] at hun; rw [hun] at h1; cases h1
          · obtain ⟨e, he, hbe⟩ := List.any_eq_true.1 h1
            simp only [Bool.and_eq_true] at hbe
            exact absurd (Nat.eq_of_beq_eq_true hbe.2) (hno e (by simpa using he) hbe.1)
          · exact h1
        rcases hy with ⟨hkind, hy⟩ | ⟨hkind, hy, hnow⟩
        · simp only [holdsH, hkind] at hKv
          have H := ih _ _ _ _ _ _ hrel' hok' (hcl.add hmem) hf' (hput v hi hk) ht hKv
          refine wpAnyTI_first (φ := fun _ => True) hi (hnd _ _ hi) hnd (Region.noSelect_spec hs) (fun c a w h => (hQ _ _ _).2 (PZ.less (fun t ht => (hdst hi t ht).1) ((hQ _ _ _).1 h))) hL _ L _ a w hcl hfree hmem (fun w _ => hy w) trivial ht ?_
          exact wpAnyTI_top H
        · simp only [holdsH, hkind] at hKv
          have ht' : ∀ p ∈ trkOf P ((i, guardB ops o ρ, execE ρ o, v) :: h), p.2 w := by
            intro p hp
            rcases List.mem_cons.1 (show p ∈ (i, fun w => hkp (guardB ops o ρ) ((execE ρ o).run P w = .ok (.value v) w)) :: trkOf P h from hp) with rfl | hp
            · exact hnow
            · exact ht p hp
          have H := ih _ _ _ _ _ _ hrel' hok' (hcl.add hmem) hf' (hput v hi hk) ht' hKv
          exact wpAnyTI_first (φ := fun w => hkp (guardB ops o ρ) ((execE ρ o).run P w = .ok (.value v) w)) hi (hnd _ _ hi) hnd (Region.noSelect_spec hs) (fun c a w h => (hQ _ _ _).2 (PZ.less (fun t ht => (hdst hi t ht).1) ((hQ _ _ _).1 h))) hL _ L _ a w hcl hfree hmem hy hnow ht H
      | false =>
        simp only [hkd] at hcase hd
        refine ⟨fun h0 => (by rw [h0] at hmem; cases hmem), fun j hj => ?_⟩
        have hji : j = i := by
          obtain ⟨_, oj, hoj, _⟩ := mem_ready.1 hj
          have hjlt := (Array.getElem?_eq_some_iff.1 hoj).1
          have := belowB_spec hcase j hjlt
          simp only [Bool.or_eq_true, Bool.not_eq_true'] at this
          rcases this with h1 | h1
          · exact Nat.eq_of_beq_eq_true h1
          · rw [(readyM_iff hrel hb j hjlt).2 hj] at h1; cases h1
        subst hji
        have hgo : ∀ v w', (heldOk P ops j w' h ∧ dwSR P ops ops.toList r (dropH ops j h) (ρ.put o.dst v) w' K) →
            (∀ p ∈ dropT ops j (trkOf P h), p.2 w') ∧ wpAnyTI rd P ops Q r.length (L.setIfInBounds j true) (dropT ops j (trkOf P h)) (a.put o.dst v) w' := by
          intro v w' ⟨hho, hdw⟩
          rw [trkOf_drop]
          have h1 := heldOk_all j w' h hho
          exact ⟨h1, ih _ _ _ _ _ _ hrel' hok' (hcl.add hj) (hf.put (hdst hi) v) (hput v hi hk) h1 hdw⟩
        unfold Go.wpOpIn
        simp only [hi]
        have hw := wanted_eq (ops := ops) hf o
        cases hg : o.guard with
        | none =>
          simp only [guardB, hg] at hw
          simp only [Option.getD_none] at hw
          rw [if_pos hw]
          exact pY_wp hf (hnd _ _ hi) (fun c w h => (hQ _ _ _).2 h) (opR_none hg hd) hgo
        | some g =>
          obtain ⟨k, want⟩ := g
          simp only [guardB, hg] at hw
          simp only [Option.getD_some] at hw
          simp only [opR, hg, pGd] at hd
          rw [hw]
          split
          · rename_i hy
            rw [if_pos hy] at hd
            exact pY_wp hf (hnd _ _ hi) (fun c w h => (hQ _ _ _).2 h) (pX_up hd) hgo
          · rename_i hy
            rw [if_neg hy] at hd
            exact ⟨fun _ _ => trivial, hgo _ _ hd⟩
end

end Go.Proofs.YtikmogfhhggafaaGreatDoor

namespace Go.Proofs.YtikmogfhhggafaaGreatDoor
open Go

abbrev PR := Exit → Env → List Nat → World → Prop

abbrev thenR (next : Env → List Nat → World → Prop) (Q : PR) : PR
  | .normal, ρ, ms, w => next ρ ms w
  | e, ρ, ms, w => Q e ρ ms w
abbrev inBlockR (id : Nat) (Q : PR) : PR
  | .exit k, ρ, ms, w => if k = id then Q .normal ρ ms w else Q (.exit k) ρ ms w
  | e, ρ, ms, w => Q e ρ ms w
abbrev loopR (n : Nat) (I : List Nat → PT n) (m : MT n) (live : List Nat) (k : Nat) (Q : PR) : PR
  | .normal, ρ, ms, w => apP n (I ms) (live.map ρ) w ∧ apM n m (live.map ρ) w < k
  | e, ρ, ms, w => Q e ρ ms w
def cutR (x : PR → Prop) (y : Env → List Nat → World → Prop) (live : List Nat) (mods : Nat) (Q : PR) (ρ : Env) : Prop :=
  ∃ I : List Nat → PT live.length, x (thenR (fun ρ' ms' w' => apP live.length (I ms') (live.map ρ') w') Q) ∧
    ∀ j : Env, allV live.length fun vs => ∀ ms' w', apP live.length (I ms') vs w' → y (mkE ρ mods j live vs) ms' w'

def nthV : List Value → Nat → Value
  | [], _ => undef
  | v :: _, 0 => v
  | _ :: r, n + 1 => nthV r n
def putsE (ρ : Env) : List Nat → Nat → List Value → Env
  | p :: ps, i, vs => putsE (ρ.put (some p) (nthV vs i)) ps (i + 1) vs
  | [], _, _ => ρ
def exitsOf : Code → List Nat
  | .exit id => [id]
  | .seq x y => exitsOf x ++ exitsOf y
  | .cond _ x y => exitsOf x ++ exitsOf y
  | .block _ c => exitsOf c
  | .loop c => exitsOf c
  | .rangeFunc _ _ _ c => exitsOf c
  | _ => []

def mkD (r : Nat) : Deferred := { target := .collected r, args := #[] }
def busyOf (r : Loop) : Loop := { r with state := .busy }
def leftBy (r : Loop) (c : Code) : Loop := { r with state := .done, pending := some c }
def spent (r : Loop) : Loop := { r with state := .exhausted }
def bgW (l : Nat) (rc : Loop) (w : World) (K : World → Prop) : Prop := w.heap[l]? = some (.loop rc) ∧ K (w.putObj l (.loop (busyOf rc)))
def enW (l : Nat) (rc : Loop) (c : Option Code) (K : Value → World → Prop) (w : World) : Prop :=
  w.heap[l]? = some (.loop (busyOf rc)) ∧ match c with
    | none => K (.bool true) (w.putObj l (.loop rc))
    | some c => K (.bool false) (w.putObj l (.loop (leftBy rc c)))
abbrev rndQ (l : Nat) (rc : Loop) (K : Value → World → Prop) : PR
  | .normal, _, _, w => enW l rc none K w
  | .ret, _, _, w => enW l rc (some .ret) K w
  | .exit id, _, _, w => enW l rc (some (.exit id)) K w
  | _, _, _, _ => False

abbrev LX := List (Nat × (List Nat → World → Prop))
def jx : LX → Nat → List Nat → World → Prop
  | [], _, _, _ => False
  | (k, q) :: r, id, ms, w => match Nat.beq k id with
    | true => q ms w
    | false => jx r id ms w
def jmpW (l : Nat) (ms : List Nat) (N R : List Nat → World → Prop) (X : LX) (w : World) : Prop :=
  ∃ rc : Loop, w.heap[l]? = some (.loop rc) ∧ rc.state ≠ .busy ∧ match rc.pending with
    | none => N ms (w.putObj l (.loop (spent rc)))
    | some .ret => R ms (w.putObj l (.loop (spent rc)))
    | some (.exit id) => jx X id ms (w.putObj l (.loop (spent rc)))
    | _ => False
def pE (P : Program) (m : Sem Next) (w : World) (K : Value → World → Prop) : Prop := ∃ f args, m.run P w = .ok (.enter f args) w ∧ Calls P f args w (@retP Pan.no K)

def rfB (P : Program) (ms : List Nat) (l : Nat) (rc : Loop) (w : World) (g : Value) (np : Nat) (B : Nat → Loop → List Value → World → (Value → World → Prop) → Prop) (N R : List Nat → World → Prop) (X : LX) : Prop :=
  (∀ (Z : Pan) (args : List Value) (w' : World) (K : Value → World → Prop), args.length = np → w'.heap[l]? = some (.loop rc) → B l rc args w' K → @pY Z P (oCallV (.func (.yield l) #[] #[]) args) w' K) →
  pE P (oCallV g [.func (.yield l) #[] #[]]) w fun _ w₂ => jmpW l ms N R X w₂

def rfW (P : Program) (rd : Option Nat) (ms : List Nat) (w : World) (g : Value) (np : Nat) (B : Nat → Loop → List Value → World → (Value → World → Prop) → Prop) (N R : List Nat → World → Prop) (X : LX) : Prop :=
  match rd with
  | none => ∀ rc : Loop, rc.state = .ready → rc.pending = none → rfB P (w.heap.size :: ms) (w.heap.size + 1) rc ((w.alloc (.deferred (some []))).alloc (.loop rc)) g np B N R X
  | some l₀ => (∃ r, w.heap[l₀]? = some (.loop r)) ∧ ∀ rc : Loop, rc.state = .ready → rc.pending = none → rfB P ms w.heap.size rc (w.alloc (.loop rc)) g np B N R X

def cwR (P : Program) (H : Hints) : Code → Option Nat → PR → Env → List Nat → World → Prop
  | .skip, _, Q, ρ, ms, w => Q .normal ρ ms w
  | .seq x y, rd, Q, ρ, ms, w => match (firstRg y).bind H.cut with
    | none => cwR P H x rd (thenR (fun ρ' ms' w' => cwR P H y rd Q ρ' ms' w') Q) ρ ms w
    | some (live, mods) => cutR (fun Q' => cwR P H x rd Q' ρ ms w) (fun ρ' ms' w' => cwR P H y rd Q ρ' ms' w') live mods Q ρ
  | .region id ops b, _, Q, ρ, ms, w => match b with
    | false => @rgR Pan.no P ops ops.toList ρ w fun ρ' w' => Q .normal ρ' ms w'
    | true => pDr w fun w => match H.order id with
      | [] => @dwR Pan.no P ops ops.size (Array.replicate ops.size false) [] ρ w fun ρ' w' => Q .normal ρ' ms w'
      | s => @dwSR Pan.no P ops ops.toList s [] ρ w fun ρ' w' => Q .normal ρ' ms w'
  | .cond c x y, rd, Q, ρ, ms, w => pIf (ev ρ c) (cwR P H x rd Q ρ ms w) (cwR P H y rd Q ρ ms w)
  | .block id c, rd, Q, ρ, ms, w => cwR P H c rd (inBlockR id Q) ρ ms w
  | .loop c, rd, Q, ρ, ms, w => match (firstRg c).map H.loop with
    | some (live, mods) => ∃ (I : List Nat → PT live.length) (m : MT live.length), apP live.length (I ms) (live.map ρ) w ∧
      ∀ j : Env, allV live.length fun vs => ∀ ms' w', apP live.length (I ms') vs w' →
        cwR P H c rd (loopR live.length I m live (apM live.length m vs w') Q) (mkE ρ mods j live vs) ms' w'
    | none => False
  | .rangeFunc g ps assign body, rd, Q, ρ, ms, w => rfW P rd ms w (ev ρ g) ps.toList.length
      (fun l rc args w K => cwR P H assign (some l) (thenR (fun ρ' ms' w' => bgW l rc w' fun w'' => cwR P H body (some l) (rndQ l rc K) ρ' ms' w'') (fun _ _ _ _ => False)) (putsE ρ ps.toList 0 args) [] w)
      (Q .normal ρ) (Q .ret ρ) ((exitsOf body).map fun id => (id, Q (.exit id) ρ))
  | .exit id, _, Q, ρ, ms, w => Q (.exit id) ρ ms w
  | .ret, _, Q, ρ, ms, w => Q .ret ρ ms w
  | _, _, _, _, _, _ => False

def servedR (H : Hints) (n : Nat) : Code → Bool
  | .skip | .exit _ | .ret => true
  | .seq x y => servedR H n x && servedR H n y && (match (firstRg y).bind H.cut with
    | none => true
    | some (_, mods) => (writes x).all fun t => mods.testBit t)
  | .region id ops b => ((opWrites ops.toList).all fun t => Nat.blt t n) && (ops.toList.all notDf) && match b with
    | false => true
    | true => Region.noSelect ops && (match H.order id with
      | [] => true
      | s => okS ops ops.toList ops.toList.length s 0 && Nat.beq s.length ops.toList.length && (ops.toList.all fun o => o.after.toList.all fun e => Nat.blt e.on ops.toList.length))
  | .cond _ x y => servedR H n x && servedR H n y
  | .block _ c => servedR H n c
  | .loop c => servedR H n c && (match (firstRg c).map H.loop with
    | some (_, mods) => (writes c).all fun t => mods.testBit t
    | none => false)
  | .rangeFunc _ ps assign body => servedR H n assign && servedR H n body && ps.toList.all fun t => Nat.blt t n
  | _ => false

abbrev FrmR (n : Nat) (ms : List Nat) : Frm := ⟨n, 0, ms.map mkD, fun _ => undef⟩

def UpR (n : Nat) (a : Act) (ws : List Nat) (Q : PR) : Exit → Act → World → Prop
  | .panic _, _, _ => False
  | .outgrown, _, _ => False
  | .goto _, _, _ => False
  | e, a', w => (∀ t, t ∉ ws → a'.tmps.getD t undef = a.tmps.getD t undef) ∧ ∃ ρ' ms', Fits (FrmR n ms') a' ρ' ∧ Q e ρ' ms' w

theorem UpR.mono {n : Nat} {a : Act} {ws ws' : List Nat} {Q : PR} (hw : ∀ t ∈ ws, t ∈ ws') : ∀ e a' w, UpR n a ws Q e a' w → UpR n a ws' Q e a' w := by
  intro e a' w h
  cases e <;> first | exact h | exact ⟨fun t ht => h.1 t fun hm => ht (hw t hm), h.2⟩
theorem UpR.next {n : Nat} {a a₁ : Act} {ws ws' : List Nat} {Q : PR} (hk : ∀ t, t ∉ ws → a₁.tmps.getD t undef = a.tmps.getD t undef) : ∀ e a' w, UpR n a₁ ws' Q e a' w → UpR n a (ws ++ ws') Q e a' w := by
  intro e a' w h
  have key : ∀ t, t ∉ ws ++ ws' → (∀ t, t ∉ ws' → a'.tmps.getD t undef = a₁.tmps.getD t undef) → a'.tmps.getD t undef = a.tmps.getD t undef := by
    intro t ht h1
    simp only [List.mem_append, not_or] at ht
    rw [h1 t ht.2, hk t ht.1]
  cases e <;> first | exact h | exact ⟨fun t ht => key t ht h.1, h.2⟩

theorem UpR.letsOut {n : Nat} {a : Act} {ws : List Nat} {Q : PR} : ¬ LetsOut (UpR n a ws Q) := fun ⟨_, _, h⟩ => h

theorem nthV_app (v : Value) (r : List Value) : ∀ pre : List Value, nthV (pre ++ v :: r) pre.length = v
  | [] => rfl
  | u :: pre => nthV_app v r pre
theorem puts_fits {n : Nat} {ms : List Nat} : ∀ (ps : List Nat) (pre vs : List Value) {a : Act} {ρ : Env}, Fits (FrmR n ms) a ρ → (∀ p ∈ ps, p < n) → vs.length = ps.length →
    Fits (FrmR n ms) { a with tmps := (ps.zip vs).foldl (fun tmps (t, v) => tmps.setIfInBounds t v) a.tmps } (putsE ρ ps pre.length (pre ++ vs))
  | [], _, [], _, _, hf, _, _ => hf
  | p :: ps, pre, v :: vs, a, ρ, hf, h, hl => by
    have h1 := hf.put (d := some p) (fun t ht => by cases ht; exact ⟨Nat.zero_le _, h p List.mem_cons_self⟩) v
    have h2 := puts_fits ps (pre ++ [v]) vs h1 (fun q hq => h q (List.mem_cons_of_mem _ hq)) (by simpa using hl)
    simp only [putsE, nthV_app]
    simp only [List.length_append, List.length_singleton, List.append_assoc, List.singleton_append] at h2
    exact h2

theorem fits_round {n : Nat} {ms : List Nat} {a : Act} {ρ : Env} (hf : Fits (FrmR n ms) a ρ) : Fits (FrmR n []) { tmps := a.tmps, defers := [] } ρ := ⟨hf.size, rfl, hf.get, fun t ht => absurd ht (Nat.not_lt_zero t)⟩
theorem fits_more {n : Nat} {ms ms' : List Nat} {a : Act} {ρ : Env} (hf : Fits (FrmR n ms) a ρ) : Fits (FrmR n ms') { tmps := a.tmps, defers := ms'.map mkD } ρ := ⟨hf.size, rfl, hf.get, fun t ht => absurd ht (Nat.not_lt_zero t)⟩

theorem jx_get {X : LX} {id : Nat} {ms : List Nat} {w : World} (h : jx X id ms w) : ∃ q, (id, q) ∈ X ∧ q ms w := by
  induction X with
  | nil => exact h.elim
  | cons p r ih =>
    obtain ⟨k, q⟩ := p
    simp only [jx] at h
    cases e : Nat.beq k id with
    | true => rw [e] at h; rw [← Nat.eq_of_beq_eq_true e]; exact ⟨q, List.mem_cons_self, h⟩
    | false => rw [e] at h; obtain ⟨q', h1, h2⟩ := ih h; exact ⟨q', List.mem_cons_of_mem _ h1, h2⟩

theorem rfB_wp {P : Program} {n : Nat} {g : Operand} {ps : Array Tmp} {assign body : Code} {a : Act} {ρ : Env} {ms ms' : List Nat} {w₁ : World} {l : Nat} {rd : Option Nat} {fn : FuncId} {ws : List Nat} {Q : PR} {blk : Nat}
    {B : Nat → Loop → List Value → World → (Value → World → Prop) → Prop} (hf : Fits (FrmR n ms) a ρ)
    (hB : ∀ (args : List Value) (w' : World) (K : Value → World → Prop) (rc : Loop), args.length = ps.toList.length → rc = { state := .ready, pending := none, fn := fn, tmps := a.tmps, params := ps, assign := assign, body := body, defers := blk } → w'.heap[l]? = some (.loop rc) → B l rc args w' K →
      RoundIn (Fr none) 0 P l fn ((ps.zip args.toArray).foldl (fun tmps (t, a) => tmps.setIfInBounds t a) a.tmps) assign body w' (@retP Pan.no K))
    (hb : rfB P ms' l { state := .ready, pending := none, fn := fn, tmps := a.tmps, params := ps, assign := assign, body := body, defers := blk } w₁ (ev ρ g) ps.toList.length B (Q .normal ρ) (Q .ret ρ) ((exitsOf body).map fun id => (id, Q (.exit id) ρ))) :
    ∃ (d : Deferred) (f : FuncId) (args : Array Value) (w₂ : World), (resolve a.eval (rangeCall g l) 0).run P w₁ = .ok d w₁ ∧ (invoke d.target d.args).run P w₁ = .ok (.enter f args) w₂ ∧
      CallsIn (Fr rd) 0 P f args w₂ (rangePost (Fr rd) 0 P l (UpR n a ws Q) { tmps := a.tmps, defers := ms'.map mkD }) := by
  obtain ⟨f, args, hrun, hcall⟩ := hb fun Z args w' K hl hw hBB => by
    have hR := hB args w' K _ hl rfl hw hBB
    have hy : (oCallV (.func (.yield l) #[] #[]) args).run P w' = .ok (.round l fn ((ps.zip args.toArray).foldl (fun tmps (t, a) => tmps.setIfInBounds t a) a.tmps) assign body) w' := by
      have := run_yield (P := P) (args := args.toArray) hw (by simpa using hl)
      have e : oCallV (.func (.yield l) #[] #[]) args = Instr.yield l args.toArray := by
        simp only [oCallV, Deferred.ofValue, pure_bind, invoke, Array.empty_append, Array.append_empty]
      rw [e]; exact this
    unfold pY rY
    rw [hy]
    exact RoundIn.mono hR fun e w' he => by
      cases e with
      | returned v => exact he
      | panicked c => exact he.elim
      | outgrown => exact he.elim
  have e : (resolve a.eval (rangeCall g l) 0) = Deferred.ofValue (ev ρ g) #[.func (.yield l) #[] #[]] := by
    rw [hf.eval]
    simp [resolve, rangeCall, ev]
  unfold oCallV at hrun
  rw [Sem.run_bind] at hrun
  have hinv : ∀ (s : Value) (xs : Array Value) (d : Deferred) (w' : World), (Deferred.ofValue s xs).run P w₁ = .ok d w' → w' = w₁ := by
    intro s xs d w' h
    unfold Deferred.ofValue at h
    split at h <;> first | (cases h; rfl) | (simp [Sem.run, runtimePanic, stuck] at h) | skip
    all_goals (cases h)
  cases hd : (Deferred.ofValue (ev ρ g) #[.func (.yield l) #[] #[]]).run P w₁ with
  | halt x w' =>
    have hd' : (Deferred.ofValue (ev ρ g) ([Value.func (.yield l) #[] #[]] : List Value).toArray).run P w₁ = .halt x w' := hd
    rw [hd'] at hrun
    simp [Result.andThen] at hrun
  | ok d w' =>
    obtain rfl := hinv _ _ _ _ hd
    have hd' : (Deferred.ofValue (ev ρ g) ([Value.func (.yield l) #[] #[]] : List Value).toArray).run P w' = .ok d w' := hd
    rw [hd', Result.andThen_ok] at hrun
    refine ⟨d, f, args, w', by rw [e]; exact hd, hrun, Fr.calls (Calls.mono hcall fun e w₂ he => ?_)⟩
    cases e with
    | panicked c => exact he.elim
    | outgrown => exact he.elim
    | returned v =>
      obtain ⟨rc, hrc, hst, hp⟩ := he
      refine ⟨rc.pending, w₂.putObj l (.loop (spent rc)), run_endLoop hrc hst, ?_⟩
      generalize w₂.putObj l (.loop (spent rc)) = W at hp ⊢
      have hf2 : Fits (FrmR n ms') { tmps := a.tmps, defers := ms'.map mkD } ρ := fits_more hf
      cases hpd : rc.pending with
      | none => rw [hpd] at hp; exact ⟨fun _ _ => rfl, ρ, ms', hf2, hp⟩
      | some c =>
        rw [hpd] at hp
        cases c with
        | ret => exact wpIn_ret ⟨fun _ _ => rfl, ρ, ms', hf2, hp⟩
        | exit id =>
          obtain ⟨q, hq, hqq⟩ := jx_get hp
          obtain ⟨id', _, he⟩ := List.mem_map.1 hq
          cases he
          exact wpIn_exit ⟨fun _ _ => rfl, ρ, ms', hf2, hqq⟩
        | _ => exact hp.elim

theorem cwR_wp {P : Program} (hm : P.follows .mixedOrders = true) {H : Hints} {n : Nat} (c : Code) : ∀ {rd : Option Nat} {Q : PR} {ρ : Env} {ms : List Nat} {w : World} {a : Act},
    servedR H n c = true → Fits (FrmR n ms) a ρ → cwR P H c rd Q ρ ms w → c.wpIn (Fr rd) 0 P (UpR n a (writes c) Q) a w := by
  induction c with
  | skip => intro rd Q ρ ms w a _ hf h; exact wpIn_skip ⟨fun _ _ => rfl, ρ, ms, hf, h⟩
  | exit id => intro rd Q ρ ms w a _ hf h; exact wpIn_exit ⟨fun _ _ => rfl, ρ, ms, hf, h⟩
  | ret => intro rd Q ρ ms w a _ hf h; exact wpIn_ret ⟨fun _ _ => rfl, ρ, ms, hf, h⟩
  | region id ops draw =>
    intro rd Q ρ ms w a hs hf h
    simp only [servedR, Bool.and_eq_true] at hs
    obtain ⟨⟨hs1, hnd⟩, hs2⟩ := hs
    simp only [List.all_eq_true] at hs1 hnd
    have hndj : ∀ (j : Nat) (o : Oper), ops[j]? = some o → notDf o = true := fun j o ho => hnd o (by simpa using Array.mem_of_getElem? ho)
    have hlt : ∀ t ∈ opWrites ops.toList, (FrmR n ms).lo ≤ t ∧ t < (FrmR n ms).n := fun t ht => ⟨Nat.zero_le _, by simpa [Nat.blt_eq] using hs1 t ht⟩
    cases draw with
    | true =>
      simp only [Bool.and_eq_true] at hs2
      obtain ⟨hs2, hs3⟩ := hs2
      simp only [cwR, pDr] at h
      refine wpIn_region_any hm (wpAnyIn_of_T _ _ [] _ _ ?_)
      have hcl : Clo ops (Array.replicate ops.size false) := by
        intro j o ho hl
        have hlt := (Array.getElem?_eq_some_iff.1 ho).1
        simp [hlt] at hl
      have hq : ∀ c a' w, UpR n a (writes (.region id ops true)) Q (.panic c) a' w ↔ @PZ Pan.no (FrmR n ms) a' c w := fun c a' w => ⟨fun h => h.elim, fun h => h.z⟩
      cases ho : H.order id with
      | nil =>
        rw [ho] at h
        exact dwR_any (P := P) (rd := rd) hs2 hndj hlt (Q := UpR n a (writes (.region id ops true)) Q) hq UpR.letsOut a
          (fun a' ρ' w' hk hf' hq => ⟨hk, ρ', ms, hf', hq⟩) ops.size _ [] ρ a _ hcl hf (fun _ _ => rfl) (fun p hp => by cases hp) h
      | cons p r =>
        rw [ho] at h hs3
        simp only [Bool.and_eq_true] at hs3
        obtain ⟨⟨hok, hlen⟩, hed⟩ := hs3
        have hlen := Nat.eq_of_beq_eq_true hlen
        simp only [Array.length_toList] at hok hlen hed
        have hb : ∀ (j : Nat) (o : Oper), ops[j]? = some o → ∀ e ∈ o.after, Region.binds .any e = true → e.on < ops.size := by
          intro j o hj e he _
          simp only [List.all_eq_true] at hed
          have := hed o (by simpa using Array.mem_of_getElem? hj) e (by simpa using he)
          simpa [Nat.blt_eq] using this
        have hrel : RelM ops.size 0 (Array.replicate ops.size false) := ⟨by simp, fun j hj => by simp [hj]⟩
        have H := dwSR_any (P := P) (rd := rd) hs2 hndj hlt hb (Q := UpR n a (writes (.region id ops true)) Q) hq UpR.letsOut a
          (fun a' ρ' w' hk hf' hq => ⟨hk, ρ', ms, hf', hq⟩) (p :: r) 0 _ [] ρ a _ hrel hok hcl hf (fun _ _ => rfl) (fun p hp => by cases hp) h
        rw [hlen] at H
        exact H
    | false =>
      exact wpIn_region_list (rgR_wp (n := FrmR n ms) ops.toList (fun c a w h => h.z) hnd hlt hf h fun a' ρ' w' hk hf' hq => ⟨hk, ρ', ms, hf', hq⟩)
  | seq x y ihx ihy =>
    intro rd Q ρ ms w a hs hf h
    simp only [servedR, Bool.and_eq_true] at hs
    simp only [cwR] at h
    refine wpIn_seq ?_
    have fin : ∀ {Q' : Env → List Nat → World → Prop} e a' w, UpR n a (writes x) (thenR Q' Q) e a' w → e ≠ .normal → Exit.then (y.wpIn (Fr rd) 0 P (UpR n a (writes (.seq x y)) Q)) (UpR n a (writes (.seq x y)) Q) e a' w := by
      intro Q' e a' w hq hne
      have hw : ∀ t ∈ writes x, t ∈ writes (.seq x y) := by simp [writes]; intro t ht; exact .inl ht
      cases e with
      | normal => exact absurd rfl hne
      | panic c => exact hq.elim
      | outgrown => exact hq.elim
      | goto l => exact hq.elim
      | exit id => exact ⟨fun t ht => hq.1 t fun hm => ht (hw t hm), hq.2⟩
      | ret => exact ⟨fun t ht => hq.1 t fun hm => ht (hw t hm), hq.2⟩
    split at h
    · have hs := hs.1
      refine wpIn_mono (ihx hs.1 hf h) fun e a' w' hq => ?_
      cases e with
      | normal =>
        obtain ⟨hk, ρ', ms', hf', hq'⟩ := hq
        exact wpIn_mono (ihy hs.2 hf' hq') (UpR.next hk)
      | _ => exact fin _ _ _ hq (by simp)
    · rename_i live mods hcut
      have hmods : ∀ t, mods.testBit t = false → t ∉ writes x := by
        have := hs.2
        rw [hcut] at this
        simp only [List.all_eq_true] at this
        intro t ht hm
        rw [this t hm] at ht; cases ht
      have hs := hs.1
      obtain ⟨I, hx, hy⟩ := h
      refine wpIn_mono (ihx hs.1 hf hx) fun e a' w' hq => ?_
      cases e with
      | normal =>
        obtain ⟨hk, ρ', ms', hf', hq'⟩ := hq
        have hy' := allV_get (hy ρ') (live.map ρ') (by simp) ms' w' hq'
        have hm : mkE ρ mods ρ' live (live.map ρ') = ρ' := mkE_self ρ ρ' _ (fun t ht => by rw [← hf'.get t, hk t (hmods t ht), hf.get t]) live
        dsimp only at hy'
        rw [hm] at hy'
        exact wpIn_mono (ihy hs.2 hf' hy') (UpR.next hk)
      | _ => exact fin _ _ _ hq (by simp)
  | cond c x y ihx ihy =>
    intro rd Q ρ ms w a hs hf h
    simp only [servedR, Bool.and_eq_true] at hs
    simp only [cwR] at h
    have hc : a.eval c = ev ρ c := by rw [hf.eval]
    unfold pIf at h
    split at h
    · rename_i hv
      exact wpIn_cond_true (hc.trans hv) (wpIn_mono (ihx hs.1 hf h) (UpR.mono (by simp [writes]; intro t ht; exact .inl ht)))
    · rename_i hv
      exact wpIn_cond_false (hc.trans hv) (wpIn_mono (ihy hs.2 hf h) (UpR.mono (by simp [writes]; intro t ht; exact .inr ht)))
    · exact h.elim
  | block id c ih =>
    intro rd Q ρ ms w a hs hf h
    simp only [servedR] at hs
    simp only [cwR] at h
    refine wpIn_block (wpIn_mono (ih hs hf h) fun e a' w' hq => ?_)
    cases e with
    | panic c => exact hq.elim
    | outgrown => exact hq.elim
    | goto l => exact hq.elim
    | normal => exact hq
    | ret => exact hq
    | exit k =>
      obtain ⟨hk, ρ', ms', hf', hq'⟩ := hq
      simp only [inBlockR] at hq'
      simp only [Exit.inBlock]
      split
      · rename_i e; rw [if_pos e] at hq'; exact ⟨hk, ρ', ms', hf', hq'⟩
      · rename_i e; rw [if_neg e] at hq'; exact ⟨hk, ρ', ms', hf', hq'⟩
  | loop c ih =>
    intro rd Q ρ ms w a hs hf h
    simp only [servedR, Bool.and_eq_true] at hs
    simp only [cwR] at h
    obtain ⟨hs, hmm⟩ := hs
    split at h
    rotate_left
    · exact h.elim
    rename_i live mods hlm
    rw [hlm] at hmm
    simp only [List.all_eq_true] at hmm
    have hmods : ∀ t, mods.testBit t = false → t ∉ writes c := by
      intro t ht hm
      rw [hmm t hm] at ht; cases ht
    obtain ⟨I, m, h0, hstep⟩ := h
    refine wpIn_loop (fun a' w' => (∀ t, t ∉ writes c → a'.tmps.getD t undef = a.tmps.getD t undef) ∧ a'.tmps.size = n ∧ ∃ ms', a'.defers = ms'.map mkD ∧ apP live.length (I ms') (live.map fun t => a'.tmps.getD t undef) w')
      (fun a' w' => apM live.length m (live.map fun t => a'.tmps.getD t undef) w') ⟨fun _ _ => rfl, hf.size, ms, hf.defers, ?_⟩ ?_
    · have e : (fun t => a.tmps.getD t undef) = ρ := funext hf.get
      rw [e]; exact h0
    · intro a₁ w₁ ⟨hk, hsz, ms₁, hdf, hI⟩
      have hf₁ : Fits (FrmR n ms₁) a₁ (fun t => a₁.tmps.getD t undef) := ⟨hsz, hdf, fun _ => rfl, fun t ht => absurd ht (Nat.not_lt_zero t)⟩
      have hs' := allV_get (hstep fun t => a₁.tmps.getD t undef) (live.map fun t => a₁.tmps.getD t undef) (by simp) ms₁ w₁ hI
      rw [mkE_self ρ _ _ (fun t ht => by rw [hk t (hmods t ht), hf.get t]) live] at hs'
      refine wpIn_mono (ih hs hf₁ hs') fun e a' w' hq => ?_
      cases e with
      | panic c => exact hq.elim
      | outgrown => exact hq.elim
      | goto l => exact hq.elim
      | normal =>
        obtain ⟨hk', ρ', ms', hf', hq'⟩ := hq
        have e : (fun t => a'.tmps.getD t undef) = ρ' := funext hf'.get
        refine ⟨⟨fun t ht => (hk' t ht).trans (hk t ht), hf'.size, ms', hf'.defers, ?_⟩, ?_⟩
        · rw [e]; exact hq'.1
        · rw [e]; exact hq'.2
      | exit k => exact ⟨fun t ht => (hq.1 t ht).trans (hk t ht), hq.2⟩
      | ret => exact ⟨fun t ht => (hq.1 t ht).trans (hk t ht), hq.2⟩
  | rangeFunc g ps assign body iha ihb =>
    intro rd Q ρ ms w a hs hf h
    simp only [servedR, Bool.and_eq_true, List.all_eq_true] at hs
    obtain ⟨⟨hs1, hs2⟩, hs3⟩ := hs
    simp only [cwR] at h
    have hps : ∀ p ∈ ps.toList, p < n := fun p hp => by simpa [Nat.blt_eq] using hs3 p hp
    -- a round, out of its body
    have round : ∀ (fn : FuncId) (blk l : Nat) (args : List Value) (w' : World) (K : Value → World → Prop) (rc : Loop), args.length = ps.toList.length → rc = { state := .ready, pending := none, fn := fn, tmps := a.tmps, params := ps, assign := assign, body := body, defers := blk } → w'.heap[l]? = some (.loop rc) →
        cwR P H assign (some l) (thenR (fun ρ' ms' w' => bgW l rc w' fun w'' => cwR P H body (some l) (rndQ l rc K) ρ' ms' w'') (fun _ _ _ _ => False)) (putsE ρ ps.toList 0 args) [] w' →
        RoundIn (Fr none) 0 P l fn ((ps.zip args.toArray).foldl (fun tmps (t, a) => tmps.setIfInBounds t a) a.tmps) assign body w' (@retP Pan.no K) := by
      intro fn blk l args w' K rc hl hrc hw hB
      have hf0 := puts_fits ps.toList [] args (fits_round hf) hps (by simpa using hl)
      have ez : (ps.zip args.toArray).foldl (fun tmps (t, a) => tmps.setIfInBounds t a) a.tmps = (ps.toList.zip args).foldl (fun tmps (t, a) => tmps.setIfInBounds t a) a.tmps := by
        rw [← Array.foldl_toList, Array.toList_zip]
      rw [ez]
      refine roundIn_of_wpIn (F := Fr none) trivial ?_
      refine wpIn_mono (iha (rd := some l) hs1 hf0 hB) fun e a' w₁ hq => ?_
      cases e with
      | panic c => exact hq.elim
      | outgrown => exact hq.elim
      | goto l => exact hq.elim
      | exit k => exact hq.2.choose_spec.choose_spec.2.elim
      | ret => exact hq.2.choose_spec.choose_spec.2.elim
      | normal =>
        obtain ⟨_, ρ', ms', hf', hb1, hb2⟩ := hq
        have hrdy : rc.state = .ready := by rw [hrc]
        refine ⟨_, run_beginRound hb1 hrdy, wpIn_mono (ihb (rd := some l) hs2 hf' hb2) fun e a'' w₂ hq => ?_⟩
        have hback : ({ busyOf rc with state := if (none : Option Code).isNone then .ready else .done, pending := none } : Loop) = rc := by rw [hrc]; rfl
        have hleft : ∀ c : Code, ({ busyOf rc with state := if (some c).isNone then .ready else .done, pending := some c } : Loop) = leftBy rc c := fun c => rfl
        cases e with
        | panic c => exact hq.elim
        | outgrown => exact hq.elim
        | goto l => exact hq.elim
        | normal =>
          obtain ⟨_, _, _, _, h1, h2⟩ := hq
          refine ⟨_, _, run_endRound none h1, ?_⟩
          rw [hback]; exact h2
        | ret =>
          obtain ⟨_, _, _, _, h1, h2⟩ := hq
          exact ⟨_, _, run_endRound (some .ret) h1, h2⟩
        | exit id =>
          obtain ⟨_, _, _, _, h1, h2⟩ := hq
          exact ⟨_, _, run_endRound (some (.exit id)) h1, h2⟩
    refine wpIn_rangeFunc fun fn _ => ?_
    unfold rfW at h
    cases rd with
    | none =>
      dsimp only at h
      have hb := h { state := .ready, pending := none, fn := fn, tmps := a.tmps, params := ps, assign := assign, body := body, defers := w.heap.size } rfl rfl
      obtain ⟨d, f, args, w₂, h1, h2, h3⟩ := rfB_wp (rd := none) (ws := writes (.rangeFunc g ps assign body)) hf (fun args w' K rc => round fn _ _ args w' K rc) hb
      refine ⟨_, _, _, d, _, f, args, w₂, run_enterLoop_outer fn a.tmps ps assign body, h1, fun _ _ => trivial, h2, Fr.deep _ _, ?_⟩
      have e : ([{ target := .collected w.heap.size, args := #[] }] : List Deferred) ++ a.defers = (w.heap.size :: ms).map mkD := by rw [hf.defers]; rfl
      rw [e]; exact h3
    | some l₀ =>
      dsimp only at h
      obtain ⟨⟨r, hr⟩, h⟩ := h
      have hb := h { state := .ready, pending := none, fn := fn, tmps := a.tmps, params := ps, assign := assign, body := body, defers := r.defers } rfl rfl
      obtain ⟨d, f, args, w₂, h1, h2, h3⟩ := rfB_wp (rd := some l₀) (ws := writes (.rangeFunc g ps assign body)) hf (fun args w' K rc => round fn _ _ args w' K rc) hb
      refine ⟨w.heap.size, [], _, d, _, f, args, w₂, ?_, h1, fun _ _ => trivial, h2, Fr.deep _ _, ?_⟩
      · unfold Instr.enterLoop
        simp only [Sem.run_bind, run_getLoop hr, run_newObj_alloc, Result.andThen, Sem.run_pure]
      · have e : ([] : List Deferred) ++ a.defers = ms.map mkD := by rw [hf.defers]; rfl
        rw [e]; exact h3
  | scope c => intro rd Q ρ ms w a hs; simp [servedR] at hs
  | label l => intro rd Q ρ ms w a hs; simp [servedR] at hs
  | goto l => intro rd Q ρ ms w a hs; simp [servedR] at hs
  | refuse s => intro rd Q ρ ms w a hs; simp [servedR] at hs

def mkW : List Nat → World → (World → Prop) → Prop
  | [], w, K => K w
  | r :: ms, w, K => w.heap[r]? = some (.deferred (some [])) ∧ mkW ms (w.putObj r (.deferred none)) K
abbrev endR (P : Program) (rs : List ResultVar) (K : Value → World → Prop) : PR
  | .normal, ρ, ms, w => mkW ms w fun w => @resW P rs [] ρ w K
  | .ret, ρ, ms, w => mkW ms w fun w => @resW P rs [] ρ w K
  | _, _, _, _ => False

theorem leavesM {P : Program} {fn : Func} {n : Nat} {ρ : Env} {K : Value → World → Prop} (ms : List Nat) : ∀ {a : Act} {w : World}, Fits (FrmR n ms) a ρ → mkW ms w (fun w => @resW P fn.results.toList [] ρ w K) →
    LeavesInM (Fr none) 0 P fn a.tmps (@retP Pan.no K) (ms.map mkD) .returning w := by
  induction ms with
  | nil =>
    intro a w hf h
    obtain ⟨vs, hr, hK⟩ := resW_run _ _ h
    exact ⟨_, results_one hf fn w P vs hr, by simpa [retP] using hK⟩
  | cons r ms ih =>
    intro a w hf h
    obtain ⟨h1, h2⟩ := h
    have hf2 : Fits (FrmR n ms) { tmps := a.tmps, defers := ms.map mkD } ρ := ⟨hf.size, rfl, hf.get, fun t ht => absurd ht (Nat.not_lt_zero t)⟩
    exact ⟨by simp, .inl ⟨r, _, rfl, run_takeDeferred h1, ih (a := { tmps := a.tmps, defers := ms.map mkD }) hf2 h2⟩⟩

theorem calls_of_cwR {P : Program} (hm : P.follows .mixedOrders = true) {H : Hints} {f : FuncId} {fn : Func} {c : Code} {args : List Value} {w : World} {K : Value → World → Prop}
    (hfn : P.funcs[f]? = some fn) (hb : fn.body = some c) (hs : servedR H fn.ntmps c = true) (ha : args.length ≤ fn.ntmps)
    (h : cwR P H c none (endR P fn.results.toList K) (argsE args) [] w) : Calls P f args.toArray w (@retP Pan.no K) := by
  refine (callsIn_wide (n := 0)).1 ?_
  refine callsIn_of_wp_marks (F := Fr none) hfn hb trivial ?_
  have hf : Fits (FrmR fn.ntmps []) { tmps := args.toArray ++ Array.replicate (fn.ntmps - args.toArray.size) undef, defers := [] } (argsE args) := fits_new fn.ntmps args ha
  refine wpIn_mono (cwR_wp hm c hs hf h) fun e a' w' hq => ?_
  cases e with
  | panic c => exact hq.elim
  | outgrown => exact hq.elim
  | goto l => exact hq.elim
  | exit id => exact hq.2.choose_spec.choose_spec.2.elim
  | normal =>
    obtain ⟨_, ρ', ms', hf', hq⟩ := hq
    show LeavesInM (Fr none) 0 P fn a'.tmps (@retP Pan.no K) a'.defers .returning w'
    rw [hf'.defers]
    exact leavesM ms' hf' hq
  | ret =>
    obtain ⟨_, ρ', ms', hf', hq⟩ := hq
    show LeavesInM (Fr none) 0 P fn a'.tmps (@retP Pan.no K) a'.defers .returning w'
    rw [hf'.defers]
    exact leavesM ms' hf' hq

end Go.Proofs.YtikmogfhhggafaaGreatDoor

namespace Go.Proofs.YtikmogfhhggafaaGreatDoor
open Go
set_option maxRecDepth 100000

def cdc_CutR.H : Hints := { cut := fun  | _ => none, loop := fun  | _ => ([], 0), order := fun  | _ => [] }
def cdc_CutR.F (x0 : Value) (x1 : Value) (w : World) (Q : Value → World → Prop) : Prop :=
 pN Tryz.prog (oBox 27 x1) w fun x3 w1 =>
 pN Tryz.prog (oLoad 27 x3) w1 fun x9 w2 =>
 pN Tryz.prog (oCall 87 [x9]) w2 fun x10 w3 =>
 pN Tryz.prog (oBin .neq 38 (.tmp 11) (.const (.int .i64 0)) x10 (.int .i64 0)) w3 fun x12 w4 =>
 pIf x12
 (mkW [] w4 fun w5 =>
 Q (.tuple #[(.slice none 0 0), x10]) w5)
 (pN Tryz.prog (oAlloc 46) w4 fun x7 w6 =>
 pN Tryz.prog (oLoad 27 x3) w6 fun x15 w7 =>
 pN Tryz.prog (oCall 103 [x0, x15]) w7 fun x16 w8 =>
 rfW Tryz.prog none [] w8 x16 1 (fun l1 rc1 as1 w9 K1 =>
 bgW l1 rc1 w9 fun w10 =>
 pN Tryz.prog (oLoad 46 x7) w10 fun x18 w12 =>
 pN Tryz.prog (oBs 46 1 [(0, (nthV as1 0))]) w12 fun x20 w13 =>
 pN Tryz.prog (oBi .append #[46, 46] 46 [false, false] [x18, x20]) w13 fun x21 w14 =>
 pN Tryz.prog (oStore 46 x7 x21) w14 fun _ w15 =>
 enW l1 rc1 none K1 w15)
 (fun mr1 w11 =>
 pN Tryz.prog (oLoad 46 x7) w11 fun x22 w16 =>
 mkW mr1 w16 fun w17 =>
 Q (.tuple #[x22, (.int .i64 0)]) w17)
 (fun mr1 w11 =>
 mkW mr1 w11 fun w18 =>
 Q (.tuple #[(.slice none 0 0), (.int .i64 0)]) w18)
 [])
noncomputable def cdc_CutR.c : Code := match Tryz.f63.body with | some c => c | none => .skip
theorem cdc_CutR.eq (x0 : Value) (x1 : Value) (w : World) (Q : Value → World → Prop) : cwR Tryz.prog cdc_CutR.H cdc_CutR.c none (endR Tryz.prog Tryz.f63.results.toList Q) (argsE [x0, x1]) [] w = cdc_CutR.F x0 x1 w Q := by kernel_rfl
theorem cdc_CutR.calls {x0 : Value} {x1 : Value} {w : World} {Q : Value → World → Prop} (h : cdc_CutR.F x0 x1 w Q) : Calls Tryz.prog 63 #[x0, x1] w (@retP Pan.no Q) :=
  calls_of_cwR (H := cdc_CutR.H) (c := cdc_CutR.c) (args := [x0, x1]) mixed Tryz.func63 (by kernel_rfl) (by kernel_rfl) (Nat.le_of_ble_eq_true (by kernel_rfl)) ((cdc_CutR.eq x0 x1 w Q).mpr h)

def cdc_ends_c1R.H : Hints := { cut := fun  | _ => none, loop := fun | 2 => ([5], 1073740000) | _ => ([], 0), order := fun  | _ => [] }
def cdc_ends_c1R.F (x0 : Value) (x1 : Value) (x2 : Value) (w : World) (Q : Value → World → Prop) : Prop :=
 pN Tryz.prog (oLoad 27 x1) w fun x8 w1 =>
 pN Tryz.prog (oBuild 230 [(0, x8)]) w1 fun x9 w2 =>
 pN Tryz.prog (oBox 230 x9) w2 fun x10 w3 =>
 ∃ (L2 : List Nat → Value → World → Prop) (m2 : Value → World → Nat),
 L2 [] (.int .i64 0) w3 ∧
 ∀ (_k2 : Env) (at5l2 : Value) (ms2 : List Nat) (w4 : World), L2 ms2 at5l2 w4 →
 pN Tryz.prog (oLoad 47 x2) w4 fun x12 w5 =>
 pN Tryz.prog (oBi .len #[47] 3 [false] [x12]) w5 fun x13 w6 =>
 pN Tryz.prog (oBin .lss 3 (.tmp 11) (.tmp 13) at5l2 x13) w6 fun x14 w7 =>
 pIf x14
 (pN Tryz.prog (oLoad 47 x2) w7 fun x17 w8 =>
 pN Tryz.prog (oSl 47 x17 (some at5l2) none none) w8 fun x19 w9 =>
 pN Tryz.prog (oCall 134 [x10, x19]) w9 fun x20 w10 =>
 pN Tryz.prog (oExt x20 0) w10 fun x21 w11 =>
 pN Tryz.prog (oExt x20 1) w11 fun _ w12 =>
 pN Tryz.prog (oBin .add 3 (.tmp 23) (.tmp 24) at5l2 x21) w12 fun x25 w13 =>
 pY Tryz.prog (oCallV x0 [x25]) w13 fun x28 w14 =>
 pN Tryz.prog (oUn .not x28) w14 fun x29 w15 =>
 pIf x29
 (mkW ms2 w15 fun w16 =>
 Q (.tuple #[]) w16)
 ((L2 ms2 x25 w15 ∧ m2 x25 w15 < m2 at5l2 w4)))
 (mkW ms2 w7 fun w17 =>
 Q (.tuple #[]) w17)
noncomputable def cdc_ends_c1R.c : Code := match Tryz.f133.body with | some c => c | none => .skip
theorem cdc_ends_c1R.eq (x0 : Value) (x1 : Value) (x2 : Value) (w : World) (Q : Value → World → Prop) : cwR Tryz.prog cdc_ends_c1R.H cdc_ends_c1R.c none (endR Tryz.prog Tryz.f133.results.toList Q) (argsE [x0, x1, x2]) [] w = cdc_ends_c1R.F x0 x1 x2 w Q := by kernel_rfl
theorem cdc_ends_c1R.calls {x0 : Value} {x1 : Value} {x2 : Value} {w : World} {Q : Value → World → Prop} (h : cdc_ends_c1R.F x0 x1 x2 w Q) : Calls Tryz.prog 133 #[x0, x1, x2] w (@retP Pan.no Q) :=
  calls_of_cwR (H := cdc_ends_c1R.H) (c := cdc_ends_c1R.c) (args := [x0, x1, x2]) mixed Tryz.func133 (by kernel_rfl) (by kernel_rfl) (Nat.le_of_ble_eq_true (by kernel_rfl)) ((cdc_ends_c1R.eq x0 x1 x2 w Q).mpr h)

end Go.Proofs.YtikmogfhhggafaaGreatDoor

namespace Go.Proofs.YtikmogfhhggafaaGreatDoor
open Go

def lpB (l : Nat) (rc : Loop) : HA := blk l (.loop rc)
def mark (r : Nat) : HA := blk r (.deferred (some []))
abbrev ylV (l : Nat) : Value := .func (.yield l) #[] #[]

section
variable {P : Program} {E w w' : World} {L M : List HA} {l r : Nat} {rc : Loop} {K : World → Prop} {KV : Value → World → Prop} {ms : List Nat}

theorem Sat.put_blk {b : Nat} {o o' : Obj} (hS : Sat E w (blk b o :: L)) : Sat E (w.putObj b o') (blk b o' :: L) := by
  refine hS.turn rfl rfl rfl fun h1 hA s => ?_
  have hb := s b o hA
  have hlt : b < w.heap.size := (Array.getElem?_eq_some_iff.1 hb).1
  refine ⟨fun k => if k = b then some o' else h1 k, by simp [blk], ?_, ?_⟩
  · intro k o ek
    dsimp only at ek
    split at ek
    · rename_i hkb; subst hkb; cases ek; exact World.putObj_heap_same hlt
    · rename_i hkb; rw [World.putObj_heap_other hkb]; exact s k o ek
  · intro k o ek hn
    have hkb : k ≠ b := fun e => by subst e; rw [hA] at hn; cases hn
    dsimp only
    rw [if_neg hkb, World.putObj_heap_other hkb]
    exact ⟨ek, hn⟩

theorem lpB_at (hS : Sat E w L) [h : Fnd (lpB l) L rc M] : w.heap[l]? = some (.loop rc) := (hS.fd (lpB l)).blk_at 0 rfl

theorem bg_go (hS : Sat E w L) [h : Fnd (lpB l) L rc M] (hk : ∀ w', Sat E w' (lpB l (busyOf rc) :: M) → K w') : bgW l rc w K :=
  ⟨lpB_at hS, hk _ (Sat.put_blk (hS.fd (lpB l)))⟩
theorem en_none (hS : Sat E w L) [h : Fnd (lpB l) L (busyOf rc) M] (hk : ∀ w', Sat E w' (lpB l rc :: M) → KV (.bool true) w') : enW l rc none KV w :=
  ⟨lpB_at hS, hk _ (Sat.put_blk (hS.fd (lpB l)))⟩
theorem mk_nil (hk : K w) : mkW [] w K := hk
theorem mk_go (hS : Sat E w L) [h : Has (mark r) L M] (hk : ∀ w', Sat E w' M → mkW ms w' K) : mkW (r :: ms) w K := by
  have h1 : Sat E w (mark r :: M) := hS.perm h.perm
  exact ⟨h1.blk_at 0 rfl, hk _ (Sat.put_blk h1).drop⟩

section
variable {N R : List Nat → World → Prop} {X : LX}
theorem jmp_n (hS : Sat E w L) [h : Fnd (lpB l) L rc M] (hst : rc.state = .ready) (hp : rc.pending = none) (hk : ∀ w', Sat E w' M → N ms w') : jmpW l ms N R X w := by
  refine ⟨rc, lpB_at hS, by rw [hst]; simp, ?_⟩
  rw [hp]
  exact hk _ (Sat.put_blk (hS.fd (lpB l))).drop
def YR (P : Program) (l : Nat) (rc : Loop) (np : Nat) (B : Nat → Loop → List Value → World → (Value → World → Prop) → Prop) : Prop :=
  ∀ (Z : Pan) (args : List Value) (w' : World) (K : Value → World → Prop), args.length = np → w'.heap[l]? = some (.loop rc) → B l rc args w' K → @pY Z P (oCallV (ylV l) args) w' K
theorem YR.go {np : Nat} {B : Nat → Loop → List Value → World → (Value → World → Prop) → Prop} {args : List Value} [Z : Pan] (h : YR P l rc np B) (hS : Sat E w L) [hf : Fnd (lpB l) L rc M] (hn : args.length = np) (hB : B l rc args w KV) : pY P (oCallV (ylV l) args) w KV :=
  h Z args w KV hn (lpB_at hS) hB

variable {g : Value} {np : Nat} {B : Nat → Loop → List Value → World → (Value → World → Prop) → Prop}
theorem rf_go (hS : Sat E w L) (hk : ∀ (l D : Nat) (rc : Loop) (w' : World), rc.state = .ready → rc.pending = none → Sat E w' (lpB l rc :: mark D :: L) → YR P l rc np B → pE P (oCallV g [ylV l]) w' fun _ w₂ => jmpW l (D :: ms) N R X w₂) :
    rfW P none ms w g np B N R X := by
  intro rc h1 h2 hy
  have hs1 := (hS.alloc (.deferred (some []))).alloc (.loop rc)
  rw [World.size_alloc] at hs1
  exact hk _ _ rc _ h1 h2 hs1 hy
end

theorem pE_fn {f : FuncId} {cap : List Value} {y : Value} {Q : Value → World → Prop} (hc : ∀ (args : Array Value) (w : World), (callFunc f args).run P w = .ok (.enter f args) w)
    (h : Calls P f (y :: cap).toArray w (@retP Pan.no Q)) : pE P (oCallV (.func (.func f) #[] cap.toArray) [y]) w Q := by
  refine ⟨f, (y :: cap).toArray, ?_, h⟩
  have e : oCallV (.func (.func f) #[] cap.toArray) [y] = callFunc f ((#[] ++ #[y]) ++ cap.toArray) := rfl
  rw [e, hc]
  simp
theorem pY_mono [Pan] {m : Sem Next} {KV' : Value → World → Prop} (h : pY P m w KV) (hk : ∀ v w, KV v w → KV' v w) : pY P m w KV' := by
  have hr : ∀ (e : Ending) (w' : World), retP KV e w' → retP KV' e w' := fun e w' he => by
    cases e with
    | returned v => exact hk _ _ he
    | panicked c => exact he
    | outgrown => exact he
  unfold pY rY at *
  split
  · rename_i heq
    rw [heq] at h
    exact RoundIn.mono h hr
  · rename_i hn
    have h2 : rN P (m.run P w) KV := by
      split at h
      · rename_i heq; exact absurd heq (hn _ _ _ _ _ _)
      · exact h
    unfold rN at *
    split at h2
    · exact hk _ _ h2
    · exact hk _ _ h2
    · exact Calls.mono h2 hr
    · exact h2
    · exact h2.elim
end
end Go.Proofs.YtikmogfhhggafaaGreatDoor
