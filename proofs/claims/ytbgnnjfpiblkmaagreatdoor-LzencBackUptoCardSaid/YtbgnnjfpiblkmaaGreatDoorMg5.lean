/-
  Texts of one proof, one behind the other: ZSym, Map, NSets, Lay171, Itoa, ZNm, LfRcdec, DecP, Dec, Wide, DecD, DecQ0, DecTrip, Fol, TGet, Sim, ZRd.
-/
import Derived.Maps.Range
import Derived.Shelf.Strconv.Itoa0
import Derived.Shelf.Strconv.Itoa1
import Derived.Shelf.Strconv.Itoa2
import Derived.Shelf.Strconv.Itoa3
import Derived.Test.YtbgnnjfpiblkmaaGreatDoorRows
import Derived.Deep.DeepAppendWide
import Derived.Test.YtbgnnjfpiblkmaaGreatDoorMg4
set_option linter.unusedSimpArgs false
set_option linter.unnecessarySimpa false
set_option linter.unusedSectionVars false
set_option linter.unusedVariables false

namespace Go.Proofs.YtbgnnjfpiblkmaaGreatDoor
open Go
namespace Z

theorem slot_small {d : Int} (h : d - 1 < 4) : slot d = d - 1 := by rw [slot, if_pos h]
theorem slot_law {d : Int} (hd : isDist d) : 0 ≤ slot d ∧ slot d ≤ 63 ∧ bitsN (slot d) ≤ 30 ∧ least (slot d) ≤ d ∧ d - least (slot d) < 2 ^ bitsN (slot d) := by
  obtain ⟨h1, h2⟩ := hd
  by_cases hs : d - 1 < 4
  · rw [slot_small hs]
    unfold bitsN least
    rw [if_pos (by omega), if_pos (by omega)]
    simp
    omega
  · obtain ⟨x, hx⟩ : ∃ x : Nat, d - 1 = x := ⟨(d - 1).toNat, by omega⟩
    have hx2 : (d - 1).toNat = x := by omega
    have hlt : x.log2 < 32 := (Nat.log2_lt (by omega)).2 (by omega)
    have hle : 2 ≤ x.log2 := (Nat.le_log2 (by omega)).2 (by omega)
    obtain ⟨n, hn⟩ : ∃ n, x.log2 = n + 1 := ⟨x.log2 - 1, by omega⟩
    have l1 := Nat.log2_self_le (n := x) (by omega)
    have l2 := Nat.lt_log2_self (n := x)
    rw [hn] at l1 l2
    have hp : 0 < 2 ^ n := Nat.two_pow_pos n
    rw [Nat.pow_succ] at l1 l2
    rw [Nat.pow_succ] at l2
    have q1 : 2 ≤ x / 2 ^ n := (Nat.le_div_iff_mul_le hp).2 (by omega)
    have q2 : x / 2 ^ n < 4 := (Nat.div_lt_iff_lt_mul hp).2 (by omega)
    have hm := Nat.div_add_mod x (2 ^ n)
    have hm2 := Nat.mod_lt x hp
    have es : slot d = 2 * (n + 1 : Nat) + ((x / 2 ^ n % 2 : Nat) : Int) := by
      rw [slot, if_neg hs, hx2, hn, hx]
      simp only [Nat.add_sub_cancel]
      push_cast
      rfl
    have e1 : slot d / 2 = (n + 1 : Nat) := by omega
    have e2 : slot d % 2 = ((x / 2 ^ n % 2 : Nat) : Int) := by omega
    have eb : bitsN (slot d) = n := by
      unfold bitsN
      rw [if_neg (by omega), e1]; omega
    have el : least (slot d) = ((2 ^ n * (x / 2 ^ n) : Nat) : Int) + 1 := by
      unfold least
      rw [if_neg (by omega), e1, e2]
      have e3 : (((n + 1 : Nat) : Int) - 1).toNat = n := by omega
      have e4 : 2 + x / 2 ^ n % 2 = x / 2 ^ n := by omega
      rw [e3]
      have e5 : (2 : Int) + ((x / 2 ^ n % 2 : Nat) : Int) = ((x / 2 ^ n : Nat) : Int) := by omega
      rw [e5, Int.mul_comm]
      push_cast
      rfl
    have ep : ((2 : Int) ^ n) = ((2 ^ n : Nat) : Int) := by push_cast; rfl
    rw [eb, el, ep]
    omega
theorem least_pos {s : Int} (h : 0 ≤ s) : 1 ≤ least s := by
  unfold least
  split
  · omega
  · have : 0 ≤ (2 + s % 2) * 2 ^ (s / 2 - 1).toNat := Int.mul_nonneg (by omega) (Int.pow_nonneg (by omega))
    omega
theorem rest_law (s : Int) (h0 : 4 ≤ s) (h1 : s ≤ 13) : 0 ≤ restAt s ∧ restAt s + 2 ^ bitsN s ≤ 128 ∧ bitsN s ≤ 5 ∧ 1 ≤ bitsN s := by
  have h4 : s = 4 ∨ s = 5 ∨ s = 6 ∨ s = 7 ∨ s = 8 ∨ s = 9 ∨ s = 10 ∨ s = 11 ∨ s = 12 ∨ s = 13 := by omega
  rcases h4 with rfl | rfl | rfl | rfl | rfl | rfl | rfl | rfl | rfl | rfl <;> decide
theorem late_bits {s : Int} (h0 : 14 ≤ s) : 6 ≤ bitsN s := by
  unfold bitsN; rw [if_neg (by omega)]; omega
theorem bits_0 {s : Int} (h : 0 ≤ s) : bitsN s = 0 ↔ s < 4 := by
  unfold bitsN
  by_cases h4 : s < 4
  · simp [h4]
  · rw [if_neg h4]; omega

theorem litGo_ok {p : Pr} {f b t : Int} (hf : 0 ≤ f ∧ f + 768 ≤ tabLen p 6) : ∀ (i : Nat) (m : Int) (same : Bool), i ≤ 8 → 1 ≤ m → m < 2 ^ (9 - i) → ∀ o ∈ litGo f b t i m same, o.Ok p
  | 0, _, _, _, _, _, _, h => by cases h
  | i + 1, m, same, hi, h1, h2, o, h => by
    have e : 9 - i = (9 - (i + 1)) + 1 := by omega
    have hm : m < 256 := by
      have : (2 : Int) ^ (9 - (i + 1)) ≤ 2 ^ 8 := two_le' (by omega)
      have e8 : (2 : Int) ^ 8 = 256 := by decide
      omega
    simp only [litGo, List.mem_cons] at h
    rcases h with rfl | h
    · refine ⟨by decide, ?_, ?_, by omega, by omega⟩
      · split <;> omega
      · split <;> omega
    · refine litGo_ok hf i _ _ (by omega) (by omega) ?_ o h
      rw [e, Int.pow_succ]
      omega
theorem litGo_len (f b t : Int) : ∀ (i : Nat) (m : Int) (same : Bool), wts (litGo f b t i m same) = i ∧ lens (litGo f b t i m same) = i ∧ (litGo f b t i m same).length = i
  | 0, _, _ => ⟨rfl, rfl, rfl⟩
  | i + 1, m, same => by
    have ⟨h1, h2, h3⟩ := litGo_len f b t i (2 * m + b / 2 ^ i % 2) (same && decide (b / 2 ^ i % 2 = t / 2 ^ i % 2))
    simp only [wts, lens, litGo, List.map_cons, List.sum_cons, Op.wt, Op.bits, List.length_cons, List.length_nil] at h1 h2 h3 ⊢
    omega
structure OpsOk (p : Pr) (l : List Op) (n : Nat) : Prop where
  ok : ∀ o ∈ l, o.Ok p
  wt : wts l ≤ n
theorem OpsOk.append {p : Pr} {l m : List Op} {a b : Nat} (h1 : OpsOk p l a) (h2 : OpsOk p m b) : OpsOk p (l ++ m) (a + b) :=
  ⟨fun o ho => (List.mem_append.1 ho).elim (h1.ok o) (h2.ok o), by rw [wts_append]; have := h1.wt; have := h2.wt; omega⟩
theorem OpsOk.mono {p : Pr} {l : List Op} {a b : Nat} (h : OpsOk p l a) (hab : a ≤ b) : OpsOk p l b := ⟨h.ok, Nat.le_trans h.wt hab⟩
theorem OpsOk.nil {p : Pr} : OpsOk p [] 0 := ⟨fun _ h => (by cases h), Nat.le_refl _⟩
theorem OpsOk.cons {p : Pr} {o : Op} {l : List Op} {a : Nat} (h1 : o.Ok p) (h2 : OpsOk p l a) : OpsOk p (o :: l) (o.wt + a) :=
  ⟨fun x hx => (List.mem_cons.1 hx).elim (fun e => e ▸ h1) (h2.ok x), by simp only [wts, List.map_cons, List.sum_cons]; have := h2.wt; unfold wts at this; omega⟩

theorem litOps_ok {p : Pr} (hp : p.Ok) {s : St} {x : W} (b : UInt8) : OpsOk p (litOps p s x b) 8 := by
  have hl := (lastOr x 1).toNat_lt
  have hb := b.toNat_lt
  have hc := context_bd hp x.all.length (lastOr x 1).toNat (by omega) (by omega)
  unfold litOps
  dsimp only
  split
  · refine ⟨fun o ho => ?_, Nat.le_refl _⟩
    simp only [List.mem_singleton] at ho
    subst ho
    have e8 : (2 : Int) ^ (8 : Int).toNat = 256 := by decide
    refine ⟨by decide, ⟨by omega, by omega, hc.1, by omega, ?_⟩, by omega, ?_⟩
    · show (2 : Int) ^ (8 : Int).toNat ≤ _
      omega
    · show _ < (2 : Int) ^ (8 : Int).toNat
      omega
  · exact ⟨litGo_ok hc 8 1 true (by omega) (by omega) (by decide), (litGo_len _ _ _ _ _ _).1 ▸ Nat.le_refl _⟩
theorem tab_c (p : Pr) (c : Nat) (hc : c = 7 ∨ c = 11) : tabLen p c = 2 ∧ tabLen p (c + 1) = 128 ∧ tabLen p (c + 2) = 128 ∧ tabLen p (c + 3) = 256 := by
  rcases hc with rfl | rfl <;> exact ⟨rfl, rfl, rfl, rfl⟩
theorem lenOps_ok {p : Pr} (hp : p.Ok) (c : Nat) (hc : c = 7 ∨ c = 11) (pos : Int) {n : Int} (hn : isLen n) : OpsOk p (lenOps c p pos n) 10 := by
  obtain ⟨t0, t1, t2, t3⟩ := tab_c p c hc
  obtain ⟨n1, n2⟩ := hn
  have hpl := place_bd hp pos
  have e3 : (2 : Int) ^ (3 : Int).toNat = 8 := by decide
  have e8 : (2 : Int) ^ (8 : Int).toNat = 256 := by decide
  have b0 : ∀ i b : Int, 0 ≤ i → i < 2 → 0 ≤ b → b ≤ 1 → (Op.bit c i b).Ok p := fun i b h1 h2 h3 h4 => ⟨by omega, h1, by omega, h3, h4⟩
  unfold lenOps
  dsimp only
  split
  · refine ((OpsOk.nil.cons (o := .tree (c + 1) _ 3 _) ?_).cons (b0 0 0 (by omega) (by omega) (by omega) (by omega))).mono (Nat.le_of_ble_eq_true rfl)
    refine ⟨by omega, ⟨by omega, by omega, by omega, by omega, ?_⟩, by omega, ?_⟩
    · show (2 : Int) ^ (3 : Int).toNat ≤ _
      omega
    · show _ < (2 : Int) ^ (3 : Int).toNat
      omega
  · split
    · refine (((OpsOk.nil.cons (o := .tree (c + 2) _ 3 _) ?_).cons (b0 1 0 (by omega) (by omega) (by omega) (by omega))).cons (b0 0 1 (by omega) (by omega) (by omega) (by omega))).mono (Nat.le_of_ble_eq_true rfl)
      refine ⟨by omega, ⟨by omega, by omega, by omega, by omega, ?_⟩, by omega, ?_⟩
      · show (2 : Int) ^ (3 : Int).toNat ≤ _
        omega
      · show _ < (2 : Int) ^ (3 : Int).toNat
        omega
    · refine (((OpsOk.nil.cons (o := .tree (c + 3) 0 8 _) ?_).cons (b0 1 1 (by omega) (by omega) (by omega) (by omega))).cons (b0 0 1 (by omega) (by omega) (by omega) (by omega))).mono (Nat.le_of_ble_eq_true rfl)
      refine ⟨by omega, ⟨by omega, by omega, by omega, by omega, ?_⟩, by omega, ?_⟩
      · show (2 : Int) ^ (8 : Int).toNat ≤ _
        omega
      · show _ < (2 : Int) ^ (8 : Int).toNat
        omega
theorem distOps_ok (p : Pr) {n d : Int} (hn : isLen n) (hd : isDist d) : OpsOk p (distOps n d) 14 := by
  obtain ⟨s0, s1, sb, s2, s3⟩ := slot_law hd
  obtain ⟨n1, n2⟩ := hn
  have e6 : (2 : Int) ^ (6 : Int).toNat = 64 := by decide
  have e4 : (2 : Int) ^ (4 : Int).toNat = 16 := by decide
  have t15 : tabLen p 15 = 256 := rfl
  have t16 : tabLen p 16 = 128 := rfl
  have t17 : tabLen p 17 = 16 := rfl
  unfold distOps
  dsimp only
  have h0 : (Op.tree 15 (64 * min (n - 2) 3) 6 (slot d)).Ok p := by
    refine ⟨by decide, ⟨by omega, by omega, by omega, by omega, ?_⟩, s0, ?_⟩
    · show (2 : Int) ^ (6 : Int).toNat ≤ _
      omega
    · show _ < (2 : Int) ^ (6 : Int).toNat
      omega
  split
  · exact (OpsOk.nil.cons h0).mono (Nat.le_of_ble_eq_true rfl)
  · rename_i hb
    rw [bits_0 s0] at hb
    split
    · have hr := rest_law (slot d) (by omega) (by omega)
      refine ((OpsOk.nil.cons (o := .back 16 _ _ _) ?_).cons h0).mono (by show 6 + (bitsN (slot d) + 0) ≤ 14; omega)
      refine ⟨by decide, ⟨by omega, by omega, hr.1, by omega, ?_⟩, by omega, ?_⟩
      · rw [Int.toNat_natCast]; omega
      · rw [Int.toNat_natCast]; exact s3
    · have hb6 := late_bits (s := slot d) (by omega)
      refine (((OpsOk.nil.cons (o := .back 17 0 4 _) ?_).cons (o := .direct _ _) ?_).cons h0).mono (by show 6 + ((bitsN (slot d) - 4 + 7) / 8 + (4 + 0)) ≤ 14; omega)
      · refine ⟨by decide, ⟨by omega, by omega, by omega, by omega, ?_⟩, by omega, ?_⟩
        · show (2 : Int) ^ (4 : Int).toNat ≤ _
          omega
        · show _ < (2 : Int) ^ (4 : Int).toNat
          omega
      · have : (2 : Int) ^ bitsN (slot d) ≤ 2 ^ 30 := two_le' sb
        have e30 : (2 : Int) ^ 30 = 1073741824 := by decide
        exact ⟨by omega, by omega, by omega⟩
theorem repOps_ok {p : Pr} (hp : p.Ok) {s : St} (hs : s.Right) (pos : Int) {d : Int} (h0 : 0 ≤ d) (h1 : d ≤ 3) : OpsOk p (repOps p s pos d) 3 := by
  have hn := hs.num
  have hpl := place_bd hp pos
  have t1 : tabLen p 1 = 192 := rfl
  have t3 : tabLen p 3 = 12 := rfl
  have t4 : tabLen p 4 = 12 := rfl
  have t5 : tabLen p 5 = 12 := rfl
  unfold repOps
  split
  · exact ((OpsOk.nil.cons (o := .bit 1 _ 1) ⟨by decide, by omega, by omega, by omega, by omega⟩).cons (o := .bit 3 _ 0) ⟨by decide, by omega, by omega, by omega, by omega⟩).mono (Nat.le_of_ble_eq_true rfl)
  · refine (((OpsOk.nil.cons (o := .bit 4 _ _) ⟨by decide, by omega, by omega, by omega, by omega⟩).cons (o := .bit 3 _ 1) ⟨by decide, by omega, by omega, by omega, by omega⟩).append (b := 1) ?_).mono (Nat.le_of_ble_eq_true rfl)
    split
    · exact (OpsOk.nil.cons (o := .bit 5 _ _) ⟨by decide, by omega, by omega, by omega, by omega⟩).mono (Nat.le_of_ble_eq_true rfl)
    · exact OpsOk.nil.mono (Nat.le_of_ble_eq_true rfl)
theorem lenOps_len (c : Nat) (p : Pr) (pos n : Int) : (lenOps c p pos n).length ≤ 3 := by
  unfold lenOps
  dsimp only
  split
  · exact Nat.le_of_ble_eq_true rfl
  · split <;> exact Nat.le_of_ble_eq_true rfl
theorem err_dist {y : Y} (hy : errY y = 0) (hk : y.Kind = 2) : isDist y.Dist := by
  unfold errY at hy
  rw [if_neg (by omega), if_pos hk] at hy
  by_cases hc : isLen y.Len ∧ isDist y.Dist
  · exact hc.2
  · rw [if_neg hc] at hy; omega
theorem symOps_ok {p : Pr} (hp : p.Ok) {s : St} (hs : s.Right) (x : W) {y : Y} (hy : errY y = 0) : OpsOk p (symOps p s x y) 26 := by
  have hn := hs.num
  have hpl := place_bd hp x.all.length
  have t0 : tabLen p 0 = 192 := rfl
  have t1 : tabLen p 1 = 192 := rfl
  have t2 : tabLen p 2 = 12 := rfl
  have t3 : tabLen p 3 = 12 := rfl
  have h0 : ∀ b : Int, 0 ≤ b → b ≤ 1 → (Op.bit 0 (s.num * 16 + place p x.all.length) b).Ok p := fun b h1 h2 => ⟨by decide, by omega, by omega, h1, h2⟩
  have h2 : ∀ b : Int, 0 ≤ b → b ≤ 1 → (Op.bit 2 s.num b).Ok p := fun b h1 h2 => ⟨by decide, by omega, by omega, h1, h2⟩
  unfold symOps
  dsimp only
  split
  · exact ((litOps_ok hp _).cons (h0 0 (by omega) (by omega))).mono (Nat.le_of_ble_eq_true rfl)
  · split
    · rename_i hk
      have hl := err_len hy (.inl hk)
      have hd : isDist y.Dist := by
        unfold errY at hy
        rw [if_neg (by omega), if_pos hk] at hy
        by_cases hc : isLen y.Len ∧ isDist y.Dist
        · exact hc.2
        · rw [if_neg hc] at hy; omega
      exact ((((OpsOk.nil.cons (h2 0 (by omega) (by omega))).cons (h0 1 (by omega) (by omega))).append (lenOps_ok hp 7 (.inl rfl) _ hl)).append (distOps_ok p hl hd)).mono (Nat.le_of_ble_eq_true rfl)
    · split
      · exact ((((OpsOk.nil.cons (o := .bit 1 _ 0) ⟨by decide, by omega, by omega, by omega, by omega⟩).cons (o := .bit 3 _ 0) ⟨by decide, by omega, by omega, by omega, by omega⟩).cons (h2 1 (by omega) (by omega))).cons (h0 1 (by omega) (by omega))).mono (Nat.le_of_ble_eq_true rfl)
      · have hk : y.Kind = 3 := by have := kinds hy; omega
        have hl := err_len hy (.inr hk)
        have hd := err_rep hy hk
        exact ((((OpsOk.nil.cons (h2 1 (by omega) (by omega))).cons (h0 1 (by omega) (by omega))).append (repOps_ok hp hs _ hd.1 hd.2)).append (lenOps_ok hp 11 (.inr rfl) _ hl)).mono (Nat.le_of_ble_eq_true rfl)
end Z
end Go.Proofs.YtbgnnjfpiblkmaaGreatDoor

namespace Go.Proofs.YtbgnnjfpiblkmaaGreatDoor
open Go Go.ChangeMaps Go.MapKept

class KeyC (P : Program) (kt : TypeId) {κ : Type} (ke : κ → Value) : Prop where
  inj : ∀ a b, ke a = ke b → a = b
  check : ∀ (k : κ) em w, (Instr.checkKey em 10000 kt (ke k)).run P w = .ok () w
  find : ∀ (k : κ) (es : List MapEntry) w, (∀ e ∈ es, ∃ k', e.key = ke k') →
    ((Instr.findKey kt (ke k) es).run P w = .ok none w ∧ ∀ e ∈ es, e.key ≠ ke k) ∨ ∃ j e, (Instr.findKey kt (ke k) es).run P w = .ok (some (j, e.val)) w ∧ es[j]? = some e ∧ e.key = ke k
  stays : ∀ k w, (Instr.keyThatStays (ke k) (ke k)).run P w = .ok (ke k) w

class MapT (P : Program) (t : TypeId) {κ : Type} (ke : outParam (κ → Value)) (z : outParam Value) : Prop where
  ex : ∃ kt e, P.underlying t = some (.map kt e) ∧ (∀ w, (zeroValue e).run P w = .ok z w) ∧ KeyC P kt ke

theorem KeyC.of {P : Program} {kt : TypeId} {κ : Type} {ke : κ → Value} (K : Maps.Keyed P kt) (kl : κ → Lit) (h : ∀ k, keyOf P kt (ke k) = some (kl k)) (hi : ∀ a b, ke a = ke b → a = b) : KeyC P kt ke where
  inj := hi
  check k em w := K.check w em (h k)
  find k es w hes := K.find w (h k) es fun e he => by obtain ⟨k', hk⟩ := hes e he; exact ⟨kl k', by rw [hk]; exact h k'⟩
  stays k w := K.stays w (h k)

theorem MkM.run_mk {P : Program} (t : TypeId) (w : World) : (Instr.makeMap t none).run P w = .ok (.map (some w.heap.size)) (w.alloc (.map #[] 0)) := rfl

section
variable {κ : Type} {ke : κ → Value}

def kvs (ke : κ → Value) (l : List (κ × Value)) : List (Value × Value) := l.map fun p => (ke p.1, p.2)
def eks (es : List MapEntry) : List (Value × Value) := es.map fun e => (e.key, e.val)

def mp (ke : κ → Value) (b : Nat) (l : List (κ × Value)) : HA := fun h => ∃ es clock, h b = some (.map es clock) ∧ Stamped es clock ∧ eks es.toList = kvs ke l

variable [DecidableEq κ]
def mget : List (κ × Value) → κ → Option Value
  | [], _ => none
  | p :: l, k => if p.1 = k then some p.2 else mget l k
def mput : List (κ × Value) → κ → Value → List (κ × Value)
  | [], k, v => [(k, v)]
  | p :: l, k, v => if p.1 = k then (k, v) :: l else p :: mput l k v

omit [DecidableEq κ] in
theorem eks_keys {es : List MapEntry} {l : List (κ × Value)} (h : eks es = kvs ke l) : ∀ e ∈ es, ∃ k', e.key = ke k' := by
  intro e he
  have : (e.key, e.val) ∈ kvs ke l := by rw [← h]; exact List.mem_map.2 ⟨e, he, rfl⟩
  obtain ⟨p, _, hp⟩ := List.mem_map.1 this
  exact ⟨p.1, (congrArg Prod.fst hp).symm⟩
theorem mget_none (hi : ∀ a b, ke a = ke b → a = b) : ∀ {es : List MapEntry} {l : List (κ × Value)} {k : κ}, eks es = kvs ke l → (∀ e ∈ es, e.key ≠ ke k) → mget l k = none
  | [], [], _, _, _ => rfl
  | [], p :: l, _, h, _ => by cases h
  | e :: es, [], _, h, _ => by cases h
  | e :: es, p :: l, k, h, hn => by
    simp only [eks, kvs, List.map_cons, List.cons.injEq, Prod.mk.injEq] at h
    have h1 := hn e List.mem_cons_self
    rw [mget, if_neg (fun e' => h1 (by rw [h.1.1, e']))]
    exact mget_none hi h.2 fun e he => hn e (List.mem_cons_of_mem _ he)
theorem mget_some (hi : ∀ a b, ke a = ke b → a = b) : ∀ {es : List MapEntry} {l : List (κ × Value)} {k : κ} {j : Nat} {e : MapEntry}, eks es = kvs ke l → (es.map (·.key)).Nodup → es[j]? = some e → e.key = ke k → mget l k = some e.val
  | [], _, _, _, _, _, _, h, _ => by simp at h
  | e :: es, [], _, _, _, h, _, _, _ => by cases h
  | e :: es, p :: l, k, 0, e', h, _, hj, hk => by
    simp only [eks, kvs, List.map_cons, List.cons.injEq, Prod.mk.injEq] at h
    simp only [List.getElem?_cons_zero, Option.some.injEq] at hj
    subst hj
    rw [mget, if_pos (hi _ _ (by rw [← h.1.1, hk])), h.1.2]
  | e :: es, p :: l, k, j + 1, e', h, hn, hj, hk => by
    simp only [eks, kvs, List.map_cons, List.cons.injEq, Prod.mk.injEq] at h
    rw [List.getElem?_cons_succ] at hj
    rw [List.map_cons, List.nodup_cons] at hn
    rw [mget, if_neg fun e' => hn.1 (List.mem_map.2 ⟨_, List.mem_of_getElem? hj, by rw [hk, h.1.1, e']⟩)]
    exact mget_some hi h.2 hn.2 hj hk
theorem mput_none (hi : ∀ a b, ke a = ke b → a = b) (v : Value) (c : Nat) : ∀ {es : List MapEntry} {l : List (κ × Value)} {k : κ}, eks es = kvs ke l → (∀ e ∈ es, e.key ≠ ke k) → eks (es ++ [⟨ke k, v, c⟩]) = kvs ke (mput l k v)
  | [], [], _, _, _ => rfl
  | [], p :: l, _, h, _ => by cases h
  | e :: es, [], _, h, _ => by cases h
  | e :: es, p :: l, k, h, hn => by
    have h' := h
    simp only [eks, kvs, List.map_cons, List.cons.injEq, Prod.mk.injEq] at h'
    have h1 := hn e List.mem_cons_self
    rw [mput, if_neg (fun e' => h1 (by rw [h'.1.1, e']))]
    have ih := mput_none hi v c h'.2 fun e he => hn e (List.mem_cons_of_mem _ he)
    simp only [eks, kvs, List.map_cons, List.cons_append, List.cons.injEq, Prod.mk.injEq] at ih ⊢
    exact ⟨h'.1, ih⟩
theorem mput_some (hi : ∀ a b, ke a = ke b → a = b) (v : Value) : ∀ {es : List MapEntry} {l : List (κ × Value)} {k : κ} {j : Nat} {e : MapEntry}, eks es = kvs ke l → (es.map (·.key)).Nodup → es[j]? = some e → e.key = ke k →
    eks (es.modify j fun e => { e with key := ke k, val := v }) = kvs ke (mput l k v)
  | [], _, _, _, _, _, _, h, _ => by simp at h
  | e :: es, [], _, _, _, h, _, _, _ => by cases h
  | e :: es, p :: l, k, 0, e', h, _, hj, hk => by
    simp only [eks, kvs, List.map_cons, List.cons.injEq, Prod.mk.injEq] at h
    simp only [List.getElem?_cons_zero, Option.some.injEq] at hj
    subst hj
    rw [mput, if_pos (hi _ _ (by rw [← h.1.1, hk]))]
    simp only [List.modify_zero_cons, eks, kvs, List.map_cons, List.cons.injEq, true_and]
    exact h.2
  | e :: es, p :: l, k, j + 1, e', h, hn, hj, hk => by
    have h' := h
    simp only [eks, kvs, List.map_cons, List.cons.injEq, Prod.mk.injEq] at h'
    rw [List.getElem?_cons_succ] at hj
    rw [List.map_cons, List.nodup_cons] at hn
    rw [mput, if_neg fun e' => hn.1 (List.mem_map.2 ⟨_, List.mem_of_getElem? hj, by rw [hk, h'.1.1, e']⟩)]
    have ih := mput_some hi v h'.2 hn.2 hj hk
    simp only [List.modify_succ_cons, eks, kvs, List.map_cons, List.cons.injEq, Prod.mk.injEq] at ih ⊢
    exact ⟨h'.1, ih⟩
end

section
variable [Pan] {P : Program} {E w : World} {K : Value → World → Prop} {J : Value → Prop} {L M : List HA} {κ : Type} [DecidableEq κ] {ke : κ → Value} {t : TypeId} {z : Value} {b r : Nat} {l : List (κ × Value)}

omit [DecidableEq κ] in
theorem mp_at (hS : Sat E w L) [h : Fnd (mp ke b) L l M] : ∃ es clock, w.heap[b]? = some (.map es clock) ∧ Stamped es clock ∧ eks es.toList = kvs ke l := by
  obtain ⟨h1, ⟨es, clock, hb, hs, he⟩, hsub⟩ := (hS.fd (mp ke b)).head
  exact ⟨es, clock, hsub _ _ hb, hs, he⟩

omit [DecidableEq κ] in
theorem pN_mkm (hS : Sat E w L) (ke : κ → Value) (hk : ∀ b w', Sat E w' (mp ke b [] :: L) → K (.map (some b)) w') : pN P (oMap t none) w K := by
  have hr : (oMap t none).run P w = .ok (.value (.map (some w.heap.size))) (w.alloc (.map #[] 0)) := run_oV_ok (MkM.run_mk t w)
  rw [pN_def, hr, rN_value]
  refine hk _ _ ((hS.alloc (.map #[] 0)).weaken fun h hb => ⟨#[], 0, hb, ⟨by simp, by simp, by simp⟩, rfl⟩)

theorem run_lkk (hS : Sat E w L) [h : Fnd (mp ke b) L l M] [hT : MapT P t ke z] (k : κ) (ok : Bool) :
    ((oLook t (.map (some b)) (ke k) ok).run P w = .ok (.value (if ok then .tuple #[z, .bool false] else z)) w ∧ mget l k = none) ∨
    ∃ v, (oLook t (.map (some b)) (ke k) ok).run P w = .ok (.value (if ok then .tuple #[v, .bool true] else v)) w ∧ mget l k = some v := by
  obtain ⟨kt, e, ht, hz, hK⟩ := hT.ex
  obtain ⟨es, clock, hb, hs, he⟩ := mp_at (ke := ke) (b := b) hS
  rcases hK.find k es.toList w (eks_keys he) with ⟨h1, h2⟩ | ⟨j, e0, h1, h2, h3⟩
  · refine .inl ⟨run_oV_ok ?_, mget_none hK.inj he h2⟩
    simp [Instr.lookup, run_underlying ht, MapKept.run_getObj_map hb, hK.check k, h1, hz, Result.andThen]
  · refine .inr ⟨e0.val, run_oV_ok ?_, mget_some hK.inj he hs.2.2 h2 h3⟩
    simp [Instr.lookup, run_underlying ht, MapKept.run_getObj_map hb, hK.check k, h1, Result.andThen]

theorem pN_lko (hS : Sat E w L) [h : Fnd (mp ke b) L l M] [hT : MapT P t ke z] (k : κ) (h1 : ∀ v, mget l k = some v → K (.tuple #[v, .bool true]) w) (h2 : mget l k = none → K (.tuple #[z, .bool false]) w) :
    pN P (oLook t (.map (some b)) (ke k) true) w K := by
  rcases run_lkk (P := P) (t := t) (ke := ke) (b := b) hS k true with ⟨h, hn⟩ | ⟨v, h, hv⟩
  · rw [pN_def, h, rN_value]; exact h2 hn
  · rw [pN_def, h, rN_value]; exact h1 v hv
theorem Sat.set_blk {b : Nat} {o o' : Obj} {A B : HA} (hS : Sat E w (A :: L)) (ha : ∀ h, A h → h b = some o) (hb : ∀ h : Hp, A h → B (fun k => if k = b then some o' else h k)) : Sat E (ChangeMaps.setBlock w b o') (B :: L) := by
  refine hS.turn rfl rfl rfl fun h1 hA s => ?_
  have hb1 := s b o (ha h1 hA)
  have hset := heap_set (o' := o') hb1
  refine ⟨fun k => if k = b then some o' else h1 k, hb h1 hA, ?_, ?_⟩
  · intro k o ek
    dsimp only at ek
    split at ek
    · rename_i hkb; subst hkb; cases ek; exact hset.1
    · rename_i hkb; exact (hset.2 k hkb).trans (s k o ek)
  · intro k o ek hn
    have hkb : k ≠ b := fun e => by subst e; rw [ha h1 hA] at hn; cases hn
    dsimp only
    rw [if_neg hkb]
    exact ⟨(hset.2 k hkb).trans ek, hn⟩

theorem pN_mup (hS : Sat E w L) [h : Fnd (mp ke b) L l M] [hT : MapT P t ke z] (k : κ) (v : Value) (hk : ∀ w', Sat E w' (mp ke b (mput l k v) :: M) → K undef w') : pN P (oMapUp t (.map (some b)) (ke k) v) w K := by
  obtain ⟨kt, e, ht, hz, hK⟩ := hT.ex
  obtain ⟨es, clock, hb, hs, he⟩ := mp_at (ke := ke) (b := b) hS
  have h0 : Sat E w ((fun h => h b = some (.map es clock)) :: M) := by
    obtain ⟨h1, ⟨es', clock', hb', _, _⟩, hsub, hr⟩ := (hS.fd (mp ke b)).sats
    have : w.heap[b]? = some (.map es' clock') := hsub _ _ hb'
    rw [hb] at this
    simp only [Option.some.injEq, Obj.map.injEq] at this
    obtain ⟨rfl, rfl⟩ := this
    exact ⟨hS.os, hS.tape, hS.output, h1, hb', hsub, hr⟩
  rcases hK.find k es.toList w (eks_keys he) with ⟨h1, h2⟩ | ⟨j, e0, h1, h2, h3⟩
  · have hr : (oMapUp t (.map (some b)) (ke k) v).run P w = .ok .skip (setBlock w b (.map (es.push ⟨ke k, v, clock⟩) (clock + 1))) := by
      simp [oMapUp, oU, Instr.mapUpdate, run_underlying ht, MapKept.run_getObj_map hb, hK.check k, h1, MapKept.run_setObj_map _ hb, Result.andThen, setBlock]
    rw [pN_def, hr]
    refine hk _ (h0.set_blk (fun h e => e) fun h e => ⟨_, _, if_pos rfl, ⟨?_, ?_, ?_⟩, ?_⟩)
    · intro x hx
      simp only [Array.toList_push, List.mem_append, List.mem_singleton] at hx
      rcases hx with hx | rfl
      · have := hs.1 x hx; omega
      · simp
    · simp only [Array.toList_push, List.map_append, List.map_cons, List.map_nil]
      refine List.nodup_append.2 ⟨hs.2.1, by simp, fun a ha c hc => ?_⟩
      simp only [List.mem_singleton] at hc
      obtain ⟨x, hx, rfl⟩ := List.mem_map.1 ha
      have := hs.1 x hx
      omega
    · simp only [Array.toList_push, List.map_append, List.map_cons, List.map_nil]
      refine List.nodup_append.2 ⟨hs.2.2, by simp, fun a ha c hc => ?_⟩
      simp only [List.mem_singleton] at hc
      obtain ⟨x, hx, rfl⟩ := List.mem_map.1 ha
      rw [hc]; exact h2 x hx
    · rw [Array.toList_push]
      exact mput_none hK.inj v clock he h2
  · have hj : (es[j]?).map (·.key) = some (ke k) := by
      rw [← Array.getElem?_toList, h2, Option.map_some, h3]
    have hr : (oMapUp t (.map (some b)) (ke k) v).run P w = .ok .skip (setBlock w b (.map (es.modify j fun e => { e with key := ke k, val := v }) clock)) := by
      simp [oMapUp, oU, Instr.mapUpdate, run_underlying ht, MapKept.run_getObj_map hb, hK.check k, h1, hj, hK.stays k, MapKept.run_setObj_map _ hb, Result.andThen, setBlock]
    rw [pN_def, hr]
    have hm : (es.modify j fun e => { e with key := ke k, val := v }).toList = es.toList.modify j fun e => { e with key := ke k, val := v } := by simp
    have hb' : ∀ {γ : Type} (f : MapEntry → γ) (hf : ∀ e : MapEntry, f { e with key := ke k, val := v } = f e) (m : List MapEntry) (j : Nat), (m.modify j fun e => { e with key := ke k, val := v }).map f = m.map f := by
      intro γ f hf m
      induction m with
      | nil => intro j; cases j <;> rfl
      | cons x m ih =>
        intro j
        cases j with
        | zero => simp [List.modify_zero_cons, hf]
        | succ j => simp [List.modify_succ_cons, ih]
    have hk' : (es.toList.modify j fun e => { e with key := ke k, val := v }).map (·.key) = es.toList.map (·.key) := by
      refine List.ext_getElem? fun i => ?_
      rw [List.getElem?_map, List.getElem?_map, List.getElem?_modify]
      by_cases hij : j = i
      · subst hij
        rw [h2]; simp [h3]
      · cases es.toList[i]? <;> simp [hij]
    refine hk _ (h0.set_blk (fun h e => e) fun h e => ⟨_, _, if_pos rfl, ⟨?_, ?_, ?_⟩, ?_⟩)
    · intro x hx
      rw [hm] at hx
      have : x.born ∈ es.toList.map (·.born) := by
        rw [← hb' (·.born) (fun _ => rfl) es.toList j]; exact List.mem_map.2 ⟨x, hx, rfl⟩
      obtain ⟨y, hy, e⟩ := List.mem_map.1 this
      rw [← e]; exact hs.1 y hy
    · rw [hm, hb' (·.born) (fun _ => rfl)]; exact hs.2.1
    · rw [hm, hk']; exact hs.2.2
    · rw [hm]; exact mput_some hK.inj v he hs.2.2 h2 h3

end

end Go.Proofs.YtbgnnjfpiblkmaaGreatDoor

namespace Go.Proofs.YtbgnnjfpiblkmaaGreatDoor
open Go
abbrev Key := {l : List UInt8 // l.length ≤ 1000}
abbrev ske : Key → Value := fun l => .string ⟨l.1.toArray⟩
theorem key_str (k : Key) : keyOf Tryz.prog 9 (ske k) = some (Lit.string k.1) := by
  have h := k.2
  have h2 : (ByteArray.mk k.1.toArray).size ≤ maxLen := by rw [size_str]; unfold maxLen; omega
  simp only [keyOf, mapKey, Tryz.underlying9, ske, h2, if_true]
theorem set_same {α : Type} : ∀ {l : List α} {i : Nat} {a : α}, l[i]? = some a → l.set i a = l
  | [], _, _, h => by simp at h
  | x :: l, 0, a, h => by simp at h; subst h; rfl
  | x :: l, i + 1, a, h => by simp only [List.set_cons_succ]; rw [set_same (by simpa using h)]
structure NS where
  name : Key
  b : Nat
  l : List Int
namespace Z
def updN (f : Key → List Int) (n : Key) (l : List Int) : Key → List Int := fun k => if k = n then l else f k
def look (fr : List Int) : List NS → Key → List Int
  | [], _ => fr
  | e :: m, n => if e.name = n then e.l else look fr m n
end Z
def nsV (m : List NS) : List (Key × Value) := m.map fun e => (e.name, pz e.b)
def nsA (S : Nat → List Int → HA) (m : List NS) : List HA := m.map fun e => S e.b e.l
def NSets (S : Nat → List Int → HA) (fr : List Int) (bm : Nat) (N : Key → List Int) : HA := fun h => ∃ m : List NS, (m.map (·.name)).Nodup ∧ (∀ n, N n = Z.look fr m n) ∧ Sats (mp ske bm (nsV m) :: nsA S m) h
def NHole (S : Nat → List Int → HA) (fr : List Int) (bm : Nat) (N : Key → List Int) (n : Key) (b : Nat) : HA := fun h => ∃ (m : List NS) (i : Nat) (l : List Int), m[i]? = some ⟨n, b, l⟩ ∧ (m.map (·.name)).Nodup ∧ (∀ n, N n = Z.look fr m n) ∧ Sats (mp ske bm (nsV m) :: (nsA S m).eraseIdx i) h

namespace Z
theorem look_at {fr : List Int} : ∀ {m : List NS} {i : Nat} {e : NS}, (m.map (·.name)).Nodup → m[i]? = some e → look fr m e.name = e.l
  | [], _, _, _, h => by simp at h
  | x :: m, 0, e, _, h => by simp at h; subst h; simp [look]
  | x :: m, i + 1, e, hn, h => by
    simp only [List.map_cons, List.nodup_cons, List.getElem?_cons_succ] at hn h
    have hne : x.name ≠ e.name := fun he => hn.1 (he ▸ List.mem_map_of_mem (List.mem_of_getElem? h))
    rw [look, if_neg hne]
    exact look_at hn.2 h
theorem look_set {fr : List Int} : ∀ {m : List NS} {i : Nat} {e : NS} (l : List Int), (m.map (·.name)).Nodup → m[i]? = some e → ∀ n, look fr (m.set i ⟨e.name, e.b, l⟩) n = updN (look fr m) e.name l n
  | [], _, _, _, _, h, _ => by simp at h
  | x :: m, 0, e, l, _, h, n => by
    simp at h; subst h
    simp only [List.set_cons_zero, look, updN]
    by_cases hx : x.name = n
    · rw [if_pos hx, if_pos hx.symm]
    · rw [if_neg hx, if_neg (fun e => hx e.symm), if_neg hx]
  | x :: m, i + 1, e, l, hn, h, n => by
    simp only [List.map_cons, List.nodup_cons, List.getElem?_cons_succ] at hn h
    have hne : x.name ≠ e.name := fun he => hn.1 (he ▸ List.mem_map_of_mem (List.mem_of_getElem? h))
    have ih := look_set (fr := fr) l hn.2 h n
    simp only [List.set_cons_succ, look, ih, updN]
    by_cases hx : x.name = n
    · rw [if_pos hx, if_neg (fun e2 => hne (hx.trans e2)), if_pos hx]
    · rw [if_neg hx, if_neg hx]
theorem look_none {fr : List Int} : ∀ {m : List NS} {n : Key}, mget (nsV m) n = none → look fr m n = fr ∧ n ∉ m.map (·.name)
  | [], _, _ => ⟨rfl, by simp⟩
  | x :: m, n, h => by
    simp only [nsV, List.map_cons, mget] at h
    split at h
    · cases h
    · rename_i hx
      have ⟨h1, h2⟩ := look_none (fr := fr) (m := m) h
      refine ⟨by rw [look, if_neg hx, h1], ?_⟩
      simp only [List.map_cons, List.mem_cons, not_or]
      exact ⟨fun e => hx e.symm, h2⟩
theorem look_some : ∀ {m : List NS} {n : Key} {v : Value}, mget (nsV m) n = some v → ∃ (i : Nat) (e : NS), m[i]? = some e ∧ e.name = n ∧ v = pz e.b
  | [], _, _, h => by simp [nsV, mget] at h
  | x :: m, n, v, h => by
    simp only [nsV, List.map_cons, mget] at h
    split at h
    · rename_i hx
      exact ⟨0, x, rfl, hx, (Option.some.inj h).symm⟩
    · have ⟨i, e, h1, h2, h3⟩ := look_some (m := m) h
      exact ⟨i + 1, e, h1, h2, h3⟩
theorem mput_new : ∀ {m : List NS} {n : Key} (b : Nat) (l : List Int), n ∉ m.map (·.name) → mput (nsV m) n (pz b) = nsV (m ++ [⟨n, b, l⟩])
  | [], _, _, _, _ => rfl
  | x :: m, n, b, l, h => by
    simp only [List.map_cons, List.mem_cons, not_or] at h
    have ih := mput_new b l h.2
    simp only [nsV, List.map_cons, List.cons_append, mput] at ih ⊢
    rw [if_neg (fun e => h.1 e.symm), ih]
theorem look_new {fr : List Int} : ∀ {m : List NS} {n : Key} (b : Nat), n ∉ m.map (·.name) → ∀ k, look fr (m ++ [⟨n, b, fr⟩]) k = look fr m k
  | [], n, b, _, k => by simp only [List.nil_append, look]; split <;> rfl
  | x :: m, n, b, h, k => by
    simp only [List.map_cons, List.mem_cons, not_or] at h
    simp only [List.cons_append, look, look_new b h.2 k]
end Z
section
variable {E w : World} {M : List HA} {S : Nat → List Int → HA} {fr : List Int} {bm b c : Nat} {N : Key → List Int} {n : Key} {l : List Int}
theorem NSets.opn (hS : Sat E w (NSets S fr bm N :: M)) : ∃ m : List NS, (m.map (·.name)).Nodup ∧ (∀ n, N n = Z.look fr m n) ∧ Sat E w (mp ske bm (nsV m) :: (nsA S m ++ M)) := by
  obtain ⟨m, hS⟩ := hS.ex
  have h1 : (m.map (·.name)).Nodup ∧ ∀ n, N n = Z.look fr m n := by
    obtain ⟨h, hh, _⟩ := hS.head
    exact ⟨hh.1, hh.2.1⟩
  exact ⟨m, h1.1, h1.2, (hS.weaken fun h hh => hh.2.2).open_ (M := mp ske bm (nsV m) :: nsA S m) fun _ h => h⟩
theorem NHole.shut (hS : Sat E w (S b l :: NHole S fr bm N n b :: M)) : Sat E w (NSets S fr bm (Z.updN N n l) :: M) := by
  have hS : Sat E w (NHole S fr bm N n b :: S b l :: M) := hS.perm (List.Perm.swap _ _ _)
  obtain ⟨m, hS⟩ := hS.ex
  obtain ⟨i, hS⟩ := hS.ex
  obtain ⟨l0, hS⟩ := hS.ex
  have h1 : m[i]? = some ⟨n, b, l0⟩ ∧ (m.map (·.name)).Nodup ∧ ∀ n, N n = Z.look fr m n := by
    obtain ⟨h, hh, _⟩ := hS.head
    exact ⟨hh.1, hh.2.1, hh.2.2.1⟩
  obtain ⟨h1, h2, h3⟩ := h1
  have hi : i < m.length := (List.getElem?_eq_some_iff.1 h1).1
  have hS := (hS.weaken fun h hh => hh.2.2.2).open_ (M := mp ske bm (nsV m) :: (nsA S m).eraseIdx i) fun _ h => h
  have e1 : nsV (m.set i ⟨n, b, l⟩) = nsV m := by
    have : (nsV m)[i]? = some (n, pz b) := by rw [nsV, List.getElem?_map, h1]; rfl
    rw [nsV, List.map_set]
    exact set_same this
  have e2 : nsA S (m.set i ⟨n, b, l⟩) = (nsA S m).set i (S b l) := by rw [nsA, List.map_set]; rfl
  have e3 : (nsA S m)[i]? = some (S b l0) := by rw [nsA, List.getElem?_map, h1]; rfl
  refine Sat.shut (M := mp ske bm (nsV m) :: (nsA S m).set i (S b l)) ?_ fun h hh => ⟨m.set i ⟨n, b, l⟩, ?_, ?_, ?_⟩
  · refine hS.perm ?_
    have hp := perm_out (nsA S m) i _ e3 (S b l)
    refine List.Perm.cons _ ?_
    exact (List.perm_middle).trans (hp.append_right M)
  · rw [List.map_set]
    have : (m.map (·.name))[i]? = some n := by rw [List.getElem?_map, h1]; rfl
    rw [set_same this]; exact h2
  · intro k
    rw [Z.look_set l h2 h1 k]
    simp only [Z.updN, h3]
  · rw [e1, e2]; exact hh
theorem NSets.bagged (hS : Sat E w (NSets S fr bm N :: M)) : ∃ m : List NS, (m.map (·.name)).Nodup ∧ (∀ n, N n = Z.look fr m n) ∧ Sat E w (mp ske bm (nsV m) :: bag (nsA S m) :: M) := by
  obtain ⟨m, h1, h2, hS⟩ := NSets.opn hS
  have hS := (hS.perm (List.perm_middle (a := mp ske bm (nsV m)) (l₁ := nsA S m) (l₂ := M)).symm).shutBag
  exact ⟨m, h1, h2, hS.perm (List.Perm.swap _ _ _)⟩
theorem NHole.make {m : List NS} {i : Nat} {L : List HA} (h1 : (m.map (·.name)).Nodup) (h2 : ∀ n, N n = Z.look fr m n) (hi : m[i]? = some ⟨n, b, l⟩) (hS : Sat E w (mp ske bm (nsV m) :: bag ((nsA S m).eraseIdx i) :: L)) : Sat E w (NHole S fr bm N n b :: L) := by
  have hS := (hS.perm (List.Perm.swap _ _ _)).openBag
  have hS := hS.perm (List.perm_middle (a := mp ske bm (nsV m)) (l₁ := (nsA S m).eraseIdx i) (l₂ := L))
  exact Sat.shut (M := mp ske bm (nsV m) :: (nsA S m).eraseIdx i) hS fun h hh => ⟨m, i, l, hi, h1, h2, hh⟩
theorem NHole.of {m : List NS} {i : Nat} (h1 : (m.map (·.name)).Nodup) (h2 : ∀ n, N n = Z.look fr m n) (hi : m[i]? = some ⟨n, b, l⟩) (hS : Sat E w (mp ske bm (nsV m) :: bag (nsA S m) :: M)) : Sat E w (S b (N n) :: NHole S fr bm N n b :: M) := by
  have e3 : (nsA S m)[i]? = some (S b l) := by rw [nsA, List.getElem?_map, hi]; rfl
  have e4 : N n = l := by rw [h2]; exact Z.look_at h1 hi
  rw [e4]
  have hS := (hS.perm (List.Perm.swap _ _ _)).out i e3
  have hS : Sat E w (mp ske bm (nsV m) :: bag ((nsA S m).eraseIdx i) :: S b l :: M) := by
    refine hS.perm ?_
    refine List.Perm.trans (l₂ := S b l :: mp ske bm (nsV m) :: bag ((nsA S m).eraseIdx i) :: M) (List.Perm.cons _ (List.Perm.swap _ _ _)) ?_
    refine (List.Perm.swap _ _ _).trans (List.Perm.cons _ (List.Perm.swap _ _ _))
  exact (NHole.make h1 h2 hi hS).perm (List.Perm.swap _ _ _)
theorem NHole.new {m : List NS} (h1 : (m.map (·.name)).Nodup) (h2 : ∀ n, N n = Z.look fr m n) (hg : mget (nsV m) n = none) (hS : Sat E w (mp ske bm (mput (nsV m) n (pz b)) :: bag (nsA S m) :: S b fr :: M)) : Sat E w (S b (N n) :: NHole S fr bm N n b :: M) := by
  obtain ⟨g1, g2⟩ := Z.look_none (fr := fr) hg
  rw [Z.mput_new b fr g2] at hS
  rw [h2 n, g1]
  have hi : (m ++ [(⟨n, b, fr⟩ : NS)])[m.length]? = some ⟨n, b, fr⟩ := by simp
  have e1 : (nsA S (m ++ [(⟨n, b, fr⟩ : NS)])).eraseIdx m.length = nsA S m := by
    have : nsA S (m ++ [(⟨n, b, fr⟩ : NS)]) = nsA S m ++ [S b fr] := by simp [nsA]
    rw [this, List.eraseIdx_append_of_length_le (by simp [nsA])]
    simp [nsA]
  have h3 : ((m ++ [(⟨n, b, fr⟩ : NS)]).map (·.name)).Nodup := by
    rw [List.map_append]
    refine List.nodup_append.2 ⟨h1, by simp, fun a ha c hc => ?_⟩
    simp only [List.map_cons, List.map_nil, List.mem_singleton] at hc
    subst hc
    exact fun e => g2 (e ▸ ha)
  rw [← e1] at hS
  exact (NHole.make h3 (fun k => by rw [h2 k, Z.look_new b g2 k]) hi hS).perm (List.Perm.swap _ _ _)
end
theorem NHole.back {E w : World} {M : List HA} {S : Nat → List Int → HA} {fr : List Int} {bm b : Nat} {N : Key → List Int} {n : Key} (hS : Sat E w (S b (N n) :: NHole S fr bm N n b :: M)) : Sat E w (NSets S fr bm N :: M) := by
  have h := NHole.shut hS
  have e : Z.updN N n (N n) = N := by
    funext k
    unfold Z.updN
    split
    · rename_i h; rw [h]
    · rfl
  rw [e] at h
  exact h
end Go.Proofs.YtbgnnjfpiblkmaaGreatDoor

namespace Go.Proofs.YtbgnnjfpiblkmaaGreatDoor
open Go
def lays171_ren : Go.Shelf.Ren := ⟨fun | 171 => 150 | 243 => 176 | 246 => 198 | 283 => 208 | 284 => 209 | 285 => 210 | 286 => 211 | 129 => 197 | 317 => 215 | 318 => 216 | 319 => 217 | 320 => 218 | 337 => 223 | 338 => 224 | n => n, fun | 3 => 3 | 9 => 9 | 2 => 2 | 4 => 4 | 171 => 284 | 0 => 0 | 53 => 188 | 37 => 30 | 5 => 5 | 173 => 286 | 212 => 291 | 51 => 148 | 20 => 20 | 213 => 292 | 46 => 169 | 232 => 297 | 233 => 298 | n => n, fun | 17 => 4 | 18 => 5 | 19 => 6 | n => n⟩
theorem lays171 : Go.Proofs.Lays.n171 Tryz.prog lays171_ren := ⟨
  by kernel_rfl, Tryz.func197.trans (congrArg some (by kernel_rfl)), Tryz.func150.trans (congrArg some (by kernel_rfl)), Tryz.func176.trans (congrArg some (by kernel_rfl)), Tryz.func198.trans (congrArg some (by kernel_rfl)),
  Tryz.func208.trans (congrArg some (by kernel_rfl)), Tryz.func209.trans (congrArg some (by kernel_rfl)), Tryz.func210.trans (congrArg some (by kernel_rfl)), Tryz.func211.trans (congrArg some (by kernel_rfl)),
  Tryz.func215.trans (congrArg some (by kernel_rfl)), Tryz.func216.trans (congrArg some (by kernel_rfl)), Tryz.func217.trans (congrArg some (by kernel_rfl)), Tryz.func218.trans (congrArg some (by kernel_rfl)),
  Tryz.func223.trans (congrArg some (by kernel_rfl)), Tryz.func224.trans (congrArg some (by kernel_rfl)), Tryz.underlying0, Tryz.isAgg0, Tryz.sizeOf0, Tryz.zeroValue0, Tryz.underlying2, Tryz.isAgg2, Tryz.sizeOf2,
  Tryz.zeroValue2, Tryz.underlying3, Tryz.isAgg3, Tryz.sizeOf3, Tryz.zeroValue3, Tryz.underlying4, Tryz.isAgg4, Tryz.sizeOf4, Tryz.zeroValue4, Tryz.underlying5, Tryz.isAgg5, Tryz.sizeOf5, Tryz.zeroValue5,
  Tryz.underlying9, Tryz.isAgg9, Tryz.sizeOf9, Tryz.zeroValue9, Tryz.underlying20, Tryz.isAgg20, Tryz.sizeOf20, Tryz.zeroValue20, Tryz.underlying30, Tryz.isAgg30, Tryz.sizeOf30, Tryz.zeroValue30, Tryz.underlying169,
  Tryz.isAgg169, Tryz.sizeOf169, Tryz.zeroValue169, Tryz.underlying148, Tryz.isAgg148, Tryz.sizeOf148, Tryz.zeroValue148, Tryz.underlying188, Tryz.isAgg188, Tryz.sizeOf188, Tryz.zeroValue188, Tryz.underlying284,
  Tryz.isAgg284, Tryz.sizeOf284, Tryz.zeroValue284, Tryz.underlying286, Tryz.isAgg286, Tryz.sizeOf286, Tryz.zeroValue286, Tryz.underlying291, Tryz.isAgg291, Tryz.sizeOf291, Tryz.zeroValue291, Tryz.underlying292,
  Tryz.isAgg292, Tryz.sizeOf292, Tryz.underlying297, Tryz.isAgg297, Tryz.sizeOf297, Tryz.zeroValue297, Tryz.underlying298, Tryz.isAgg298, Tryz.sizeOf298, Tryz.zeroValue298, by kernel_rfl, by kernel_rfl,
  by kernel_rfl⟩
end Go.Proofs.YtbgnnjfpiblkmaaGreatDoor

namespace Go.Proofs.YtbgnnjfpiblkmaaGreatDoor
open Go
theorem Itoa_ok [Pan] {w : World} {Q : Value → World → Prop} (i : Nat) (hi : i < 100) (hQ : Q (.string ⟨(Lib.decDigits i).toArray⟩) w) : Calls Tryz.prog 150 #[.int .i64 i] w (retP Q) := by
  refine (Any.strconv_Itoa_small lays171 i hi w).mono ?_
  rintro e w' ⟨rfl, rfl⟩
  exact hQ
end Go.Proofs.YtbgnnjfpiblkmaaGreatDoor

namespace Go.Proofs.YtbgnnjfpiblkmaaGreatDoor
open Go
namespace Z

def restOf (i : Nat) : Nat := if i < 2 then 4 else if i < 4 then 5 else if i < 8 then 6 else if i < 12 then 7 else if i < 20 then 8 else if i < 28 then 9 else if i < 44 then 10 else if i < 60 then 11 else if i < 92 then 12 else 13
def restN (s : Nat) : Nat := if s ≤ 4 then 0 else if s = 5 then 2 else if s = 6 then 4 else if s = 7 then 8 else if s = 8 then 12 else if s = 9 then 20 else if s = 10 then 28 else if s = 11 then 44 else if s = 12 then 60 else 92
def un (t i : Nat) : Nat := match t with
  | 0 => i | 1 => 192 + i | 2 => 384 + i | 3 => 396 + i | 4 => 408 + i | 5 => 420 + i | 6 => 432 + i / 768 | 7 => 448 + i | 8 => 450 + i / 8 | 9 => 466 + i / 8 | 10 => 482 | 11 => 483 + i | 12 => 485 + i / 8 | 13 => 501 + i / 8 | 14 => 517 | 15 => 518 + i / 64 | 16 => 518 + restOf i | _ => 532
def pl (t i : Nat) : Nat := match t with
  | 0 => 0 | 1 => 0 | 2 => 0 | 3 => 0 | 4 => 0 | 5 => 0 | 6 => i % 768 | 7 => 0 | 8 => i % 8 | 9 => i % 8 | 10 => i | 11 => 0 | 12 => i % 8 | 13 => i % 8 | 14 => i | 15 => i % 64 | 16 => i - restN (restOf i) | _ => i
theorem lit_len {p : Pr} (hp : p.Ok) : tabLen p 6 ≤ 12288 := tabLen_bd hp 6
theorem rest_bd : ∀ i : Fin 128, restOf i.val ≤ 13 := by decide +kernel
theorem un_bd {p : Pr} (hp : p.Ok) {t i : Nat} (ht : t < 18) (hi : i < tabLen p t) : un t i < 533 ∧ pl t i < 768 := by
  have h6 := lit_len hp
  match t with
  | 0 => change i < 192 at hi; simp only [un, pl]; omega
  | 1 => change i < 192 at hi; simp only [un, pl]; omega
  | 2 => change i < 12 at hi; simp only [un, pl]; omega
  | 3 => change i < 12 at hi; simp only [un, pl]; omega
  | 4 => change i < 12 at hi; simp only [un, pl]; omega
  | 5 => change i < 12 at hi; simp only [un, pl]; omega
  | 6 => simp only [un, pl]; omega
  | 7 => change i < 2 at hi; simp only [un, pl]; omega
  | 8 => change i < 128 at hi; simp only [un, pl]; omega
  | 9 => change i < 128 at hi; simp only [un, pl]; omega
  | 10 => change i < 256 at hi; simp only [un, pl]; omega
  | 11 => change i < 2 at hi; simp only [un, pl]; omega
  | 12 => change i < 128 at hi; simp only [un, pl]; omega
  | 13 => change i < 128 at hi; simp only [un, pl]; omega
  | 14 => change i < 256 at hi; simp only [un, pl]; omega
  | 15 => change i < 256 at hi; simp only [un, pl]; omega
  | 16 => change i < 128 at hi; have := rest_bd ⟨i, hi⟩; simp only [un, pl] at this ⊢; omega
  | 17 => change i < 16 at hi; simp only [un, pl]; omega
  | n + 18 => omega
def tabOf (u : Nat) : Nat := if u < 192 then 0 else if u < 384 then 1 else if u < 396 then 2 else if u < 408 then 3 else if u < 420 then 4 else if u < 432 then 5 else if u < 448 then 6 else if u < 450 then 7 else if u < 466 then 8 else if u < 482 then 9 else if u < 483 then 10 else if u < 485 then 11 else if u < 501 then 12 else if u < 517 then 13 else if u < 518 then 14 else if u < 522 then 15 else if u < 532 then 16 else 17
def ixOf (u a : Nat) : Nat := match tabOf u with
  | 0 => u | 1 => u - 192 | 2 => u - 384 | 3 => u - 396 | 4 => u - 408 | 5 => u - 420 | 6 => (u - 432) * 768 + a | 7 => u - 448 | 8 => (u - 450) * 8 + a | 9 => (u - 466) * 8 + a | 10 => a | 11 => u - 483 | 12 => (u - 485) * 8 + a | 13 => (u - 501) * 8 + a | 14 => a | 15 => (u - 518) * 64 + a | 16 => restN (u - 518) + a | _ => a
theorem rest_inv : ∀ i : Fin 128, tabOf (un 16 i.val) = 16 ∧ ixOf (un 16 i.val) (pl 16 i.val) = i.val := by decide +kernel
theorem un_inv {p : Pr} (hp : p.Ok) {t i : Nat} (ht : t < 18) (hi : i < tabLen p t) : tabOf (un t i) = t ∧ ixOf (un t i) (pl t i) = i := by
  have h6 := lit_len hp
  have key : ∀ {u a t' i'}, tabOf u = t' → (tabOf u = t' → ixOf u a = i') → tabOf u = t' ∧ ixOf u a = i' := fun h1 h2 => ⟨h1, h2 h1⟩
  match t with
  | 0 => change i < 192 at hi; refine key (by simp only [un]; rw [tabOf, if_pos (by omega)]) fun h => ?_; unfold ixOf; rw [h]; simp only [un, pl]
  | 1 => change i < 192 at hi; refine key (by simp only [un]; rw [tabOf, if_neg (by omega), if_pos (by omega)]) fun h => ?_; unfold ixOf; rw [h]; simp only [un, pl]; omega
  | 2 => change i < 12 at hi; refine key (by simp only [un]; rw [tabOf, if_neg (by omega), if_neg (by omega), if_pos (by omega)]) fun h => ?_; unfold ixOf; rw [h]; simp only [un, pl]; omega
  | 3 => change i < 12 at hi; refine key (by simp only [un]; rw [tabOf, if_neg (by omega), if_neg (by omega), if_neg (by omega), if_pos (by omega)]) fun h => ?_; unfold ixOf; rw [h]; simp only [un, pl]; omega
  | 4 => change i < 12 at hi; refine key (by simp only [un]; rw [tabOf, if_neg (by omega), if_neg (by omega), if_neg (by omega), if_neg (by omega), if_pos (by omega)]) fun h => ?_; unfold ixOf; rw [h]; simp only [un, pl]; omega
  | 5 => change i < 12 at hi; refine key (by simp only [un]; rw [tabOf, if_neg (by omega), if_neg (by omega), if_neg (by omega), if_neg (by omega), if_neg (by omega), if_pos (by omega)]) fun h => ?_; unfold ixOf; rw [h]; simp only [un, pl]; omega
  | 6 => refine key (by simp only [un]; rw [tabOf, if_neg (by omega), if_neg (by omega), if_neg (by omega), if_neg (by omega), if_neg (by omega), if_neg (by omega), if_pos (by omega)]) fun h => ?_; unfold ixOf; rw [h]; simp only [un, pl]; omega
  | 7 => change i < 2 at hi; refine key (by simp only [un]; rw [tabOf, if_neg (by omega), if_neg (by omega), if_neg (by omega), if_neg (by omega), if_neg (by omega), if_neg (by omega), if_neg (by omega), if_pos (by omega)]) fun h => ?_; unfold ixOf; rw [h]; simp only [un, pl]; omega
  | 8 => change i < 128 at hi; refine key (by simp only [un]; rw [tabOf, if_neg (by omega), if_neg (by omega), if_neg (by omega), if_neg (by omega), if_neg (by omega), if_neg (by omega), if_neg (by omega), if_neg (by omega), if_pos (by omega)]) fun h => ?_; unfold ixOf; rw [h]; simp only [un, pl]; omega
  | 9 => change i < 128 at hi; refine key (by simp only [un]; rw [tabOf, if_neg (by omega), if_neg (by omega), if_neg (by omega), if_neg (by omega), if_neg (by omega), if_neg (by omega), if_neg (by omega), if_neg (by omega), if_neg (by omega), if_pos (by omega)]) fun h => ?_; unfold ixOf; rw [h]; simp only [un, pl]; omega
  | 10 => change i < 256 at hi; refine key (by simp only [un]; rw [tabOf, if_neg (by omega), if_neg (by omega), if_neg (by omega), if_neg (by omega), if_neg (by omega), if_neg (by omega), if_neg (by omega), if_neg (by omega), if_neg (by omega), if_neg (by omega), if_pos (by omega)]) fun h => ?_; unfold ixOf; rw [h]; simp only [un, pl]
  | 11 => change i < 2 at hi; refine key (by simp only [un]; rw [tabOf, if_neg (by omega), if_neg (by omega), if_neg (by omega), if_neg (by omega), if_neg (by omega), if_neg (by omega), if_neg (by omega), if_neg (by omega), if_neg (by omega), if_neg (by omega), if_neg (by omega), if_pos (by omega)]) fun h => ?_; unfold ixOf; rw [h]; simp only [un, pl]; omega
  | 12 => change i < 128 at hi; refine key (by simp only [un]; rw [tabOf, if_neg (by omega), if_neg (by omega), if_neg (by omega), if_neg (by omega), if_neg (by omega), if_neg (by omega), if_neg (by omega), if_neg (by omega), if_neg (by omega), if_neg (by omega), if_neg (by omega), if_neg (by omega), if_pos (by omega)]) fun h => ?_; unfold ixOf; rw [h]; simp only [un, pl]; omega
  | 13 => change i < 128 at hi; refine key (by simp only [un]; rw [tabOf, if_neg (by omega), if_neg (by omega), if_neg (by omega), if_neg (by omega), if_neg (by omega), if_neg (by omega), if_neg (by omega), if_neg (by omega), if_neg (by omega), if_neg (by omega), if_neg (by omega), if_neg (by omega), if_neg (by omega), if_pos (by omega)]) fun h => ?_; unfold ixOf; rw [h]; simp only [un, pl]; omega
  | 14 => change i < 256 at hi; refine key (by simp only [un]; rw [tabOf, if_neg (by omega), if_neg (by omega), if_neg (by omega), if_neg (by omega), if_neg (by omega), if_neg (by omega), if_neg (by omega), if_neg (by omega), if_neg (by omega), if_neg (by omega), if_neg (by omega), if_neg (by omega), if_neg (by omega), if_neg (by omega), if_pos (by omega)]) fun h => ?_; unfold ixOf; rw [h]; simp only [un, pl]
  | 15 => change i < 256 at hi; refine key (by simp only [un]; rw [tabOf, if_neg (by omega), if_neg (by omega), if_neg (by omega), if_neg (by omega), if_neg (by omega), if_neg (by omega), if_neg (by omega), if_neg (by omega), if_neg (by omega), if_neg (by omega), if_neg (by omega), if_neg (by omega), if_neg (by omega), if_neg (by omega), if_neg (by omega), if_pos (by omega)]) fun h => ?_; unfold ixOf; rw [h]; simp only [un, pl]; omega
  | 16 => exact rest_inv ⟨i, hi⟩
  | 17 => change i < 16 at hi; refine key (by simp only [un]; rw [tabOf, if_neg (by omega), if_neg (by omega), if_neg (by omega), if_neg (by omega), if_neg (by omega), if_neg (by omega), if_neg (by omega), if_neg (by omega), if_neg (by omega), if_neg (by omega), if_neg (by omega), if_neg (by omega), if_neg (by omega), if_neg (by omega), if_neg (by omega), if_neg (by omega), if_neg (by omega)]) fun h => ?_; unfold ixOf; rw [h]; simp only [un, pl]
  | n + 18 => omega
theorem un_inj {p : Pr} (hp : p.Ok) {t i t' i' : Nat} (ht : t < 18) (hi : i < tabLen p t) (ht' : t' < 18) (hi' : i' < tabLen p t') (h1 : un t i = un t' i') (h2 : pl t i = pl t' i') : t = t' ∧ i = i' := by
  obtain ⟨a1, a2⟩ := un_inv hp ht hi
  obtain ⟨b1, b2⟩ := un_inv hp ht' hi'
  rw [h1] at a1
  rw [h1, h2] at a2
  exact ⟨a1.symm.trans b1, a2.symm.trans b2⟩

def nm (s : List UInt8) (l : List Int) : List UInt8 := l.foldl (fun s i => s ++ [32] ++ Lib.decDigits i.toNat) s
theorem nm_snoc (s : List UInt8) (l : List Int) (i : Int) : nm s (l ++ [i]) = nm s l ++ [32] ++ Lib.decDigits i.toNat := by simp [nm]
theorem dec_len : ∀ i : Fin 100, (Lib.decDigits i.val).length ≤ 2 := by decide +kernel
theorem nm_len : ∀ (l : List Int) (s : List UInt8), (∀ i ∈ l, 0 ≤ i ∧ i < 100) → (nm s l).length ≤ s.length + 3 * l.length
  | [], s, _ => by simp [nm]
  | i :: l, s, h => by
    have h1 := nm_len l (s ++ [32] ++ Lib.decDigits i.toNat) fun j hj => h j (by simp [hj])
    have hi := h i (by simp)
    have h2 := dec_len ⟨i.toNat, by omega⟩
    show (nm (s ++ [32] ++ Lib.decDigits i.toNat) l).length ≤ _
    simp only [List.length_append, List.length_cons, List.length_nil] at h1 h2 ⊢
    omega

abbrev Pre := Nat → List UInt8
def nameU (w : Pre) (u : Nat) : List UInt8 :=
  if u < 192 then nm (w 0) [(u / 16 : Nat), (u % 16 : Nat)] else if u < 384 then nm (w 1) [((u - 192) / 16 : Nat), ((u - 192) % 16 : Nat)]
  else if u < 396 then nm (w 2) [(u - 384 : Nat)] else if u < 408 then nm (w 3) [(u - 396 : Nat)] else if u < 420 then nm (w 4) [(u - 408 : Nat)] else if u < 432 then nm (w 5) [(u - 420 : Nat)]
  else if u < 448 then nm (w 6) [(u - 432 : Nat)]
  else if u < 449 then w 7 else if u < 450 then w 8 else if u < 466 then nm (w 9) [(u - 450 : Nat)] else if u < 482 then nm (w 10) [(u - 466 : Nat)] else if u < 483 then w 11
  else if u < 484 then w 12 else if u < 485 then w 13 else if u < 501 then nm (w 14) [(u - 485 : Nat)] else if u < 517 then nm (w 15) [(u - 501 : Nat)] else if u < 518 then w 16
  else if u < 522 then nm (w 17) [(u - 518 : Nat)] else if u < 532 then nm (w 18) [(u - 518 : Nat)] else w 19
def nums : List UInt8 → List Nat → List Nat
  | [], l => l
  | c :: s, l => if c = 32 then nums s (0 :: l) else match l with
    | [] => nums s l
    | a :: l => nums s ((a * 10 + (c.toNat - 48)) :: l)
def numOf (k : Nat) (l : List Nat) : Nat := match k, l with
  | 0, [b, a] => a * 16 + b | 1, [b, a] => 192 + a * 16 + b | 2, [a] => 384 + a | 3, [a] => 396 + a | 4, [a] => 408 + a | 5, [a] => 420 + a | 6, [a] => 432 + a | 7, [] => 448 | 8, [] => 449 | 9, [a] => 450 + a | 10, [a] => 466 + a | 11, [] => 482
  | 12, [] => 483 | 13, [] => 484 | 14, [a] => 485 + a | 15, [a] => 501 + a | 16, [] => 517 | 17, [a] => 518 + a | 18, [a] => 518 + a | 19, [] => 532 | _, _ => 1000
def strip : List UInt8 → List UInt8 → Option (List UInt8)
  | [], l => some l
  | _ :: _, [] => none
  | a :: p, b :: l => if a = b then strip p l else none
def inv (w : Pre) (l : List UInt8) : Nat → Nat
  | 0 => 1000
  | k + 1 => match strip (w k) l with
    | none => inv w l k
    | some r => match r with
      | [] => if numOf k [] < 1000 then numOf k [] else inv w l k
      | c :: s => if c = 32 ∧ numOf k (nums (c :: s) []) < 1000 then numOf k (nums (c :: s) []) else inv w l k
structure PreOk (w : Pre) : Prop where
  inv : ∀ u : Fin 533, inv w (nameU w u.val) 20 = u.val
  len : ∀ u : Fin 533, (nameU w u.val).length ≤ 1000
theorem PreOk.inj {w : Pre} (h : PreOk w) {u v : Nat} (hu : u < 533) (hv : v < 533) (e : nameU w u = nameU w v) : u = v := by
  have h1 := h.inv ⟨u, hu⟩
  have h2 := h.inv ⟨v, hv⟩
  simp only at h1 h2
  rw [e] at h1
  exact h1.symm.trans h2
def keyU (w : Pre) (u : Nat) : Key := if h : (nameU w u).length ≤ 1000 then ⟨nameU w u, h⟩ else ⟨[], by simp⟩
theorem PreOk.key {w : Pre} (h : PreOk w) {u : Nat} (hu : u < 533) : (keyU w u).1 = nameU w u := by
  rw [keyU, dif_pos (h.len ⟨u, hu⟩)]

structure Rel (w : Pre) (n : Nat) (p : Pr) (N : Key → List Int) (T : Nat → List Int) : Prop where
  len : ∀ k, (N k).length = n
  fine : ∀ k, B.Fine (N k)
  get : ∀ t, t < 18 → ∀ i, i < tabLen p t → (N (keyU w (un t i)))[pl t i]? = (T t)[i]?
theorem Rel.new (w : Pre) {n : Nat} (hn : 768 ≤ n) {p : Pr} (hp : p.Ok) : Rel w n p (fun _ => List.replicate n 1024) (T0 p) :=
  ⟨fun _ => List.length_replicate, fun _ => B.Fine.new _, fun t ht i hi => by
    have := (un_bd hp ht hi).2
    rw [T0, List.getElem?_replicate, List.getElem?_replicate, if_pos (by omega), if_pos hi]⟩
theorem Rel.upd {w : Pre} (hw : PreOk w) {n : Nat} (hn : 768 ≤ n) {p : Pr} (hp : p.Ok) {N : Key → List Int} {T : Nat → List Int} (h : Rel w n p N T) (hT : ∀ t, t < 18 → (T t).length = tabLen p t) {t i : Nat} (ht : t < 18) (hi : i < tabLen p t) (v : Int) (hv : 31 ≤ v ∧ v ≤ 2017) :
    Rel w n p (updN N (keyU w (un t i)) ((N (keyU w (un t i))).set (pl t i) v)) (upd T t ((T t).set i v)) := by
  have hu := un_bd hp ht hi
  refine ⟨fun k => ?_, fun k => ?_, fun t' ht' i' hi' => ?_⟩
  · unfold updN
    split
    · rw [List.length_set]; exact h.len _
    · exact h.len k
  · unfold updN
    split
    · exact (h.fine _).set _ hv
    · exact h.fine k
  · have hu' := un_bd hp ht' hi'
    have hg := h.get t' ht' i' hi'
    unfold updN Z.upd
    by_cases hk : keyU w (un t' i') = keyU w (un t i)
    · rw [if_pos hk]
      have eu : un t' i' = un t i := hw.inj hu'.1 hu.1 (by rw [← hw.key hu'.1, ← hw.key hu.1, hk])
      rw [List.getElem?_set]
      by_cases hpl : pl t i = pl t' i'
      · obtain ⟨rfl, rfl⟩ := un_inj hp ht' hi' ht hi eu hpl.symm
        rw [if_pos hpl, if_pos (by rw [h.len]; omega), if_pos rfl, List.getElem?_set, if_pos rfl, if_pos (by rw [hT t' ht']; exact hi')]
      · rw [if_neg hpl, ← hk, hg]
        by_cases ht2 : t' = t
        · subst ht2
          rw [if_pos rfl, List.getElem?_set, if_neg]
          intro e; subst e; exact hpl rfl
        · rw [if_neg ht2]
    · rw [if_neg hk, hg]
      by_cases ht2 : t' = t
      · subst ht2
        rw [if_pos rfl, List.getElem?_set, if_neg]
        intro e; subst e; exact hk rfl
      · rw [if_neg ht2]

structure At (w : Pre) (p : Pr) (s : List UInt8) (j : Int) (t : Nat) (i : Int) : Prop where
  ht : t < 18
  i0 : 0 ≤ i
  i1 : i < tabLen p t
  hs : nameU w (un t i.toNat) = s
  hj : (pl t i.toNat : Int) = j
section
variable (w : Pre) (p : Pr)
theorem at_0 {n k : Int} (h : 0 ≤ n ∧ n < 12) (hk : 0 ≤ k ∧ k < 16) : At w p (nm (w 0) [n, k]) 0 0 (n * 16 + k) := by
  obtain ⟨a, rfl⟩ : ∃ a : Nat, n = a := ⟨n.toNat, by omega⟩
  obtain ⟨b, rfl⟩ : ∃ a : Nat, k = a := ⟨k.toNat, by omega⟩
  have e : ((a : Int) * 16 + b).toNat = a * 16 + b := by omega
  refine ⟨by decide, by omega, by show _ < ((192 : Nat) : Int); omega, ?_, by rw [e]; rfl⟩
  rw [e]
  simp only [un]
  rw [nameU, if_pos (by omega), show (a * 16 + b) / 16 = a from by omega, show (a * 16 + b) % 16 = b from by omega]
theorem at_1 {n k : Int} (h : 0 ≤ n ∧ n < 12) (hk : 0 ≤ k ∧ k < 16) : At w p (nm (w 1) [n, k]) 0 1 (n * 16 + k) := by
  obtain ⟨a, rfl⟩ : ∃ a : Nat, n = a := ⟨n.toNat, by omega⟩
  obtain ⟨b, rfl⟩ : ∃ a : Nat, k = a := ⟨k.toNat, by omega⟩
  have e : ((a : Int) * 16 + b).toNat = a * 16 + b := by omega
  refine ⟨by decide, by omega, by show _ < ((192 : Nat) : Int); omega, ?_, by rw [e]; rfl⟩
  rw [e]
  simp only [un]
  rw [nameU, if_neg (by omega), if_pos (by omega), show (192 + (a * 16 + b) - 192) / 16 = a from by omega, show (192 + (a * 16 + b) - 192) % 16 = b from by omega]
theorem at_2 {n : Int} (h : 0 ≤ n ∧ n < 12) : At w p (nm (w 2) [n]) 0 2 n := by
  obtain ⟨a, rfl⟩ : ∃ a : Nat, n = a := ⟨n.toNat, by omega⟩
  refine ⟨by decide, by omega, by show _ < ((12 : Nat) : Int); omega, ?_, rfl⟩
  rw [Int.toNat_natCast]
  simp only [un]
  rw [nameU, if_neg (by omega), if_neg (by omega), if_pos (by omega), show 384 + a - 384 = a from by omega]
theorem at_3 {n : Int} (h : 0 ≤ n ∧ n < 12) : At w p (nm (w 3) [n]) 0 3 n := by
  obtain ⟨a, rfl⟩ : ∃ a : Nat, n = a := ⟨n.toNat, by omega⟩
  refine ⟨by decide, by omega, by show _ < ((12 : Nat) : Int); omega, ?_, rfl⟩
  rw [Int.toNat_natCast]
  simp only [un]
  rw [nameU, if_neg (by omega), if_neg (by omega), if_neg (by omega), if_pos (by omega), show 396 + a - 396 = a from by omega]
theorem at_4 {n : Int} (h : 0 ≤ n ∧ n < 12) : At w p (nm (w 4) [n]) 0 4 n := by
  obtain ⟨a, rfl⟩ : ∃ a : Nat, n = a := ⟨n.toNat, by omega⟩
  refine ⟨by decide, by omega, by show _ < ((12 : Nat) : Int); omega, ?_, rfl⟩
  rw [Int.toNat_natCast]
  simp only [un]
  rw [nameU, if_neg (by omega), if_neg (by omega), if_neg (by omega), if_neg (by omega), if_pos (by omega), show 408 + a - 408 = a from by omega]
theorem at_5 {n : Int} (h : 0 ≤ n ∧ n < 12) : At w p (nm (w 5) [n]) 0 5 n := by
  obtain ⟨a, rfl⟩ : ∃ a : Nat, n = a := ⟨n.toNat, by omega⟩
  refine ⟨by decide, by omega, by show _ < ((12 : Nat) : Int); omega, ?_, rfl⟩
  rw [Int.toNat_natCast]
  simp only [un]
  rw [nameU, if_neg (by omega), if_neg (by omega), if_neg (by omega), if_neg (by omega), if_neg (by omega), if_pos (by omega), show 420 + a - 420 = a from by omega]
theorem at_6 {k j : Int} (h : 0 ≤ k ∧ 768 * k + 768 ≤ tabLen p 6) (hk : k < 16) (hj : 0 ≤ j ∧ j < 768) : At w p (nm (w 6) [k]) j 6 (768 * k + j) := by
  obtain ⟨a, rfl⟩ : ∃ a : Nat, k = a := ⟨k.toNat, by omega⟩
  obtain ⟨b, rfl⟩ : ∃ a : Nat, j = a := ⟨j.toNat, by omega⟩
  have e : (768 * (a : Int) + b).toNat = 768 * a + b := by omega
  refine ⟨by decide, by omega, by omega, ?_, ?_⟩
  · rw [e]
    simp only [un]
    rw [nameU, if_neg (by omega), if_neg (by omega), if_neg (by omega), if_neg (by omega), if_neg (by omega), if_neg (by omega), if_pos (by omega), show 432 + (768 * a + b) / 768 - 432 = a from by omega]
  · rw [e]
    simp only [pl]
    omega
theorem at_7_0 : At w p (w 7) 0 7 0 := by
  refine ⟨by decide, by omega, by show _ < ((2 : Nat) : Int); omega, ?_, rfl⟩
  show nameU w 448 = _
  rw [nameU, if_neg (by omega), if_neg (by omega), if_neg (by omega), if_neg (by omega), if_neg (by omega), if_neg (by omega), if_neg (by omega), if_pos (by omega)]
theorem at_7_1 : At w p (w 8) 0 7 1 := by
  refine ⟨by decide, by omega, by show _ < ((2 : Nat) : Int); omega, ?_, rfl⟩
  show nameU w 449 = _
  rw [nameU, if_neg (by omega), if_neg (by omega), if_neg (by omega), if_neg (by omega), if_neg (by omega), if_neg (by omega), if_neg (by omega), if_neg (by omega), if_pos (by omega)]
theorem at_8 {k j : Int} (hk : 0 ≤ k ∧ k < 16) (hj : 0 ≤ j ∧ j < 8) : At w p (nm (w 9) [k]) j 8 (8 * k + j) := by
  obtain ⟨a, rfl⟩ : ∃ a : Nat, k = a := ⟨k.toNat, by omega⟩
  obtain ⟨b, rfl⟩ : ∃ a : Nat, j = a := ⟨j.toNat, by omega⟩
  have e : (8 * (a : Int) + b).toNat = 8 * a + b := by omega
  refine ⟨by decide, by omega, by show _ < ((128 : Nat) : Int); omega, ?_, ?_⟩
  · rw [e]
    simp only [un]
    rw [nameU, if_neg (by omega), if_neg (by omega), if_neg (by omega), if_neg (by omega), if_neg (by omega), if_neg (by omega), if_neg (by omega), if_neg (by omega), if_neg (by omega), if_pos (by omega), show 450 + (8 * a + b) / 8 - 450 = a from by omega]
  · rw [e]
    simp only [pl]
    omega
theorem at_9 {k j : Int} (hk : 0 ≤ k ∧ k < 16) (hj : 0 ≤ j ∧ j < 8) : At w p (nm (w 10) [k]) j 9 (8 * k + j) := by
  obtain ⟨a, rfl⟩ : ∃ a : Nat, k = a := ⟨k.toNat, by omega⟩
  obtain ⟨b, rfl⟩ : ∃ a : Nat, j = a := ⟨j.toNat, by omega⟩
  have e : (8 * (a : Int) + b).toNat = 8 * a + b := by omega
  refine ⟨by decide, by omega, by show _ < ((128 : Nat) : Int); omega, ?_, ?_⟩
  · rw [e]
    simp only [un]
    rw [nameU, if_neg (by omega), if_neg (by omega), if_neg (by omega), if_neg (by omega), if_neg (by omega), if_neg (by omega), if_neg (by omega), if_neg (by omega), if_neg (by omega), if_neg (by omega), if_pos (by omega), show 466 + (8 * a + b) / 8 - 466 = a from by omega]
  · rw [e]
    simp only [pl]
    omega
theorem at_10 {j : Int} (hj : 0 ≤ j ∧ j < 256) : At w p (w 11) j 10 (0 + j) := by
  obtain ⟨b, rfl⟩ : ∃ a : Nat, j = a := ⟨j.toNat, by omega⟩
  rw [Int.zero_add]
  refine ⟨by decide, by omega, by show _ < ((256 : Nat) : Int); omega, ?_, ?_⟩
  · show nameU w 482 = _
    rw [nameU, if_neg (by omega), if_neg (by omega), if_neg (by omega), if_neg (by omega), if_neg (by omega), if_neg (by omega), if_neg (by omega), if_neg (by omega), if_neg (by omega), if_neg (by omega), if_neg (by omega), if_pos (by omega)]
  · rw [Int.toNat_natCast]
    simp only [pl]
theorem at_11_0 : At w p (w 12) 0 11 0 := by
  refine ⟨by decide, by omega, by show _ < ((2 : Nat) : Int); omega, ?_, rfl⟩
  show nameU w 483 = _
  rw [nameU, if_neg (by omega), if_neg (by omega), if_neg (by omega), if_neg (by omega), if_neg (by omega), if_neg (by omega), if_neg (by omega), if_neg (by omega), if_neg (by omega), if_neg (by omega), if_neg (by omega), if_neg (by omega), if_pos (by omega)]
theorem at_11_1 : At w p (w 13) 0 11 1 := by
  refine ⟨by decide, by omega, by show _ < ((2 : Nat) : Int); omega, ?_, rfl⟩
  show nameU w 484 = _
  rw [nameU, if_neg (by omega), if_neg (by omega), if_neg (by omega), if_neg (by omega), if_neg (by omega), if_neg (by omega), if_neg (by omega), if_neg (by omega), if_neg (by omega), if_neg (by omega), if_neg (by omega), if_neg (by omega), if_neg (by omega), if_pos (by omega)]
theorem at_12 {k j : Int} (hk : 0 ≤ k ∧ k < 16) (hj : 0 ≤ j ∧ j < 8) : At w p (nm (w 14) [k]) j 12 (8 * k + j) := by
  obtain ⟨a, rfl⟩ : ∃ a : Nat, k = a := ⟨k.toNat, by omega⟩
  obtain ⟨b, rfl⟩ : ∃ a : Nat, j = a := ⟨j.toNat, by omega⟩
  have e : (8 * (a : Int) + b).toNat = 8 * a + b := by omega
  refine ⟨by decide, by omega, by show _ < ((128 : Nat) : Int); omega, ?_, ?_⟩
  · rw [e]
    simp only [un]
    rw [nameU, if_neg (by omega), if_neg (by omega), if_neg (by omega), if_neg (by omega), if_neg (by omega), if_neg (by omega), if_neg (by omega), if_neg (by omega), if_neg (by omega), if_neg (by omega), if_neg (by omega), if_neg (by omega), if_neg (by omega), if_neg (by omega), if_pos (by omega), show 485 + (8 * a + b) / 8 - 485 = a from by omega]
  · rw [e]
    simp only [pl]
    omega
theorem at_13 {k j : Int} (hk : 0 ≤ k ∧ k < 16) (hj : 0 ≤ j ∧ j < 8) : At w p (nm (w 15) [k]) j 13 (8 * k + j) := by
  obtain ⟨a, rfl⟩ : ∃ a : Nat, k = a := ⟨k.toNat, by omega⟩
  obtain ⟨b, rfl⟩ : ∃ a : Nat, j = a := ⟨j.toNat, by omega⟩
  have e : (8 * (a : Int) + b).toNat = 8 * a + b := by omega
  refine ⟨by decide, by omega, by show _ < ((128 : Nat) : Int); omega, ?_, ?_⟩
  · rw [e]
    simp only [un]
    rw [nameU, if_neg (by omega), if_neg (by omega), if_neg (by omega), if_neg (by omega), if_neg (by omega), if_neg (by omega), if_neg (by omega), if_neg (by omega), if_neg (by omega), if_neg (by omega), if_neg (by omega), if_neg (by omega), if_neg (by omega), if_neg (by omega), if_neg (by omega), if_pos (by omega), show 501 + (8 * a + b) / 8 - 501 = a from by omega]
  · rw [e]
    simp only [pl]
    omega
theorem at_14 {j : Int} (hj : 0 ≤ j ∧ j < 256) : At w p (w 16) j 14 (0 + j) := by
  obtain ⟨b, rfl⟩ : ∃ a : Nat, j = a := ⟨j.toNat, by omega⟩
  rw [Int.zero_add]
  refine ⟨by decide, by omega, by show _ < ((256 : Nat) : Int); omega, ?_, ?_⟩
  · show nameU w 517 = _
    rw [nameU, if_neg (by omega), if_neg (by omega), if_neg (by omega), if_neg (by omega), if_neg (by omega), if_neg (by omega), if_neg (by omega), if_neg (by omega), if_neg (by omega), if_neg (by omega), if_neg (by omega), if_neg (by omega), if_neg (by omega), if_neg (by omega), if_neg (by omega), if_neg (by omega), if_pos (by omega)]
  · rw [Int.toNat_natCast]
    simp only [pl]
theorem at_15 {k j : Int} (hk : 0 ≤ k ∧ k < 4) (hj : 0 ≤ j ∧ j < 64) : At w p (nm (w 17) [k]) j 15 (64 * k + j) := by
  obtain ⟨a, rfl⟩ : ∃ a : Nat, k = a := ⟨k.toNat, by omega⟩
  obtain ⟨b, rfl⟩ : ∃ a : Nat, j = a := ⟨j.toNat, by omega⟩
  have e : (64 * (a : Int) + b).toNat = 64 * a + b := by omega
  refine ⟨by decide, by omega, by show _ < ((256 : Nat) : Int); omega, ?_, ?_⟩
  · rw [e]
    simp only [un]
    rw [nameU, if_neg (by omega), if_neg (by omega), if_neg (by omega), if_neg (by omega), if_neg (by omega), if_neg (by omega), if_neg (by omega), if_neg (by omega), if_neg (by omega), if_neg (by omega), if_neg (by omega), if_neg (by omega), if_neg (by omega), if_neg (by omega), if_neg (by omega), if_neg (by omega), if_neg (by omega), if_pos (by omega), show 518 + (64 * a + b) / 64 - 518 = a from by omega]
  · rw [e]
    simp only [pl]
    omega
theorem rest_of : ∀ s : Fin 10, ∀ j : Fin 32, (j.val : Int) < 2 ^ bitsN ((s.val : Int) + 4) → restOf ((restAt ((s.val : Int) + 4)).toNat + j.val) = s.val + 4 ∧ restN (s.val + 4) = (restAt ((s.val : Int) + 4)).toNat := by decide +kernel
theorem at_16 {k j : Int} (hk : 4 ≤ k ∧ k ≤ 13) (hj : 0 ≤ j ∧ j < 2 ^ bitsN k) : At w p (nm (w 18) [k]) j 16 (restAt k + j) := by
  obtain ⟨c, rfl⟩ : ∃ c : Nat, k = (c : Int) + 4 := ⟨(k - 4).toNat, by omega⟩
  obtain ⟨b, rfl⟩ : ∃ a : Nat, j = a := ⟨j.toNat, by omega⟩
  have hl := rest_law ((c : Int) + 4) hk.1 hk.2
  have h5 : (2 : Int) ^ bitsN ((c : Int) + 4) ≤ 2 ^ 5 := two_le' hl.2.2.1
  have e5 : (2 : Int) ^ 5 = 32 := by decide
  have e : (restAt ((c : Int) + 4) + (b : Int)).toNat = (restAt ((c : Int) + 4)).toNat + b := by omega
  have hr := rest_of ⟨c, by omega⟩ ⟨b, by omega⟩ hj.2
  simp only at hr
  refine ⟨by decide, by omega, by show _ < ((128 : Nat) : Int); omega, ?_, ?_⟩
  · rw [e]
    simp only [un]
    rw [hr.1, nameU, if_neg (by omega), if_neg (by omega), if_neg (by omega), if_neg (by omega), if_neg (by omega), if_neg (by omega), if_neg (by omega), if_neg (by omega), if_neg (by omega), if_neg (by omega), if_neg (by omega), if_neg (by omega), if_neg (by omega), if_neg (by omega), if_neg (by omega), if_neg (by omega), if_neg (by omega), if_neg (by omega), if_pos (by omega), show ((518 + (c + 4) - 518 : Nat) : Int) = (c : Int) + 4 from by omega]
  · rw [e]
    simp only [pl]
    rw [hr.1, hr.2]
    omega
theorem at_17 {j : Int} (hj : 0 ≤ j ∧ j < 16) : At w p (w 19) j 17 (0 + j) := by
  obtain ⟨b, rfl⟩ : ∃ a : Nat, j = a := ⟨j.toNat, by omega⟩
  rw [Int.zero_add]
  refine ⟨by decide, by omega, by show _ < ((16 : Nat) : Int); omega, ?_, ?_⟩
  · show nameU w 532 = _
    rw [nameU, if_neg (by omega), if_neg (by omega), if_neg (by omega), if_neg (by omega), if_neg (by omega), if_neg (by omega), if_neg (by omega), if_neg (by omega), if_neg (by omega), if_neg (by omega), if_neg (by omega), if_neg (by omega), if_neg (by omega), if_neg (by omega), if_neg (by omega), if_neg (by omega), if_neg (by omega), if_neg (by omega), if_neg (by omega)]
  · rw [Int.toNat_natCast]
    simp only [pl]
end
end Z
end Go.Proofs.YtbgnnjfpiblkmaaGreatDoor

namespace Go.Proofs.YtbgnnjfpiblkmaaGreatDoor
open Go
set_option maxRecDepth 100000

def rcdec_New.H : Hints := { cut := fun  | _ => none, loop := fun | 5 => ([18], 68719214656) | _ => ([], 0), order := fun | 9 => [(0, 0), (1, 1), (2, 3), (3, 7), (4, 15), (5, 31), (6, 63), (7, 127), (8, 255), (9, 511), (10, 1023), (11, 2047), (12, 4095), (13, 8191), (14, 16383), (15, 32767), (16, 65535)] | _ => [] }
def rcdec_New.F [Pan] (x0 : Value) (w : World) (Q : Value → World → Prop) : Prop :=
 pN Tryz.prog (oBi .len #[30] 3 [false] [x0]) w fun x8 w1 =>
 pN Tryz.prog (oBin .lss 3 (.tmp 8) (.const (.int .i64 5)) x8 (.int .i64 5)) w1 fun x9 w2 =>
 pIf x9
 (Q (.tuple #[(.pointer none), (.int .i64 1)]) w2)
 (pN Tryz.prog (oBi .append #[30, 30] 30 [true, false] [(.slice none 0 0), x0]) w2 fun x11 w3 =>
 pN Tryz.prog (oBuild 224 [(0, (.int .i64 5)), (1, (.int .u32 4294967295))]) w3 fun x12 w4 =>
 pN Tryz.prog (oBuild 226 [(0, x11), (1, x12)]) w4 fun x13 w5 =>
 pN Tryz.prog (oBox 226 x13) w5 fun x14 w6 =>
 pN Tryz.prog (oSl 30 x0 (some (.int .i64 1)) (some (.int .i64 5)) none) w6 fun x16 w7 =>
 pN Tryz.prog (oBi .len #[30] 3 [false] [x16]) w7 fun x17 w8 =>
 ∃ (L5 : Value → World → Prop) (m5 : Value → World → Nat),
 L5 (.int .i64 0) w8 ∧
 ∀ (_k5 : Env) (v18l5 : Value) (w9 : World), L5 v18l5 w9 →
 pN Tryz.prog (oBin .lss 3 (.tmp 18) (.tmp 17) v18l5 x17) w9 fun x19 w10 =>
 pIf x19
 (pN Tryz.prog (oIdx 30 x16 v18l5) w10 fun x20 w11 =>
 pN Tryz.prog (oLoad 5 x20) w11 fun x21 w12 =>
 pN Tryz.prog (oNil x14) w12 fun x24 w13 =>
 pN Tryz.prog (oFld 226 x24 1) w13 fun x25 w14 =>
 pN Tryz.prog (oFld 224 x25 2) w14 fun x26 w15 =>
 pN Tryz.prog (oLoad 148 x26) w15 fun x27 w16 =>
 pN Tryz.prog (oBin .shl 148 (.tmp 27) (.const (.int .u64 8)) x27 (.int .u64 8)) w16 fun x28 w17 =>
 pN Tryz.prog (oConv 5 148 x21) w17 fun x30 w18 =>
 pN Tryz.prog (oBin .or 148 (.tmp 28) (.tmp 30) x28 x30) w18 fun x31 w19 =>
 pN Tryz.prog (oNil x14) w19 fun x32 w20 =>
 pN Tryz.prog (oFld 226 x32 1) w20 fun x33 w21 =>
 pN Tryz.prog (oFld 224 x33 2) w21 fun x34 w22 =>
 pN Tryz.prog (oStore 148 x34 x31) w22 fun _ w23 =>
 pN Tryz.prog (oBin .add 3 (.tmp 18) (.const (.int .i64 1)) v18l5 (.int .i64 1)) w23 fun x35 w24 =>
 (L5 x35 w24 ∧ m5 x35 w24 < m5 v18l5 w9))
 (pDr w10 fun w25 =>
 pA Tryz.prog (oIdx 30 x0 (.int .i64 0)) fun x37 =>
 pL Tryz.prog (oLoad 5 x37) w25 fun x38 =>
 pA Tryz.prog (oBin .neq 5 (.tmp 38) (.const (.int .u8 0)) x38 (bv 0)) fun x39 =>
 gA (gB x39 false) (pA Tryz.prog (oMv x14)) fun x41 =>
 gA (gB x39 false) (pA Tryz.prog (oNil x41)) fun x42 =>
 gA (gB x39 false) (pA Tryz.prog (oFld 226 x42 1)) fun x43 =>
 gA (gB x39 false) (pA Tryz.prog (oFld 224 x43 2)) fun x44 =>
 gA (gB x39 false) (pL Tryz.prog (oLoad 148 x44) w25) fun x45 =>
 gA (gB x39 false) (pA Tryz.prog (oMv x14)) fun x46 =>
 gA (gB x39 false) (pA Tryz.prog (oNil x46)) fun x47 =>
 gA (gB x39 false) (pA Tryz.prog (oFld 226 x47 1)) fun x48 =>
 gA (gB x39 false) (pA Tryz.prog (oFld 224 x48 1)) fun x49 =>
 gA (gB x39 false) (pL Tryz.prog (oLoad 148 x49) w25) fun x50 =>
 gA (gB x39 false) (pA Tryz.prog (oBin .eql 148 (.tmp 45) (.tmp 50) x45 x50)) fun x51 =>
 pA Tryz.prog (oPick x39 (.bool true) x51) fun x52 =>
 pIf x52
 (Q (.tuple #[(.pointer none), (.int .i64 2)]) w25)
 (Q (.tuple #[x14, (.int .i64 0)]) w25)))
theorem rcdec_New.calls [Pan] {x0 : Value} {w : World} {Q : Value → World → Prop} (h : rcdec_New.F x0 w Q) : Calls Tryz.prog 87 #[x0] w (retP Q) := calls_lift mixed rcdec_New.H [x0] Tryz.func87 (by kernel_rfl) (by kernel_rfl) h

def rcdec_Decoder_Done.H : Hints := { cut := fun  | _ => none, loop := fun  | _ => ([], 0), order := fun | 1 => [(0, 0), (1, 1), (2, 3), (3, 7), (4, 15), (5, 31), (6, 63), (7, 127), (8, 255), (9, 511), (10, 1023), (11, 2047), (12, 4095), (13, 8191), (14, 16383), (15, 32767), (16, 65535), (17, 131071), (18, 262143), (19, 524287)] | _ => [] }
def rcdec_Decoder_Done.F [Pan] (x0 : Value) (w : World) (Q : Value → World → Prop) : Prop :=
 pDr w fun w1 =>
 pA Tryz.prog (oNil x0) fun x4 =>
 pA Tryz.prog (oFld 226 x4 1) fun x5 =>
 pA Tryz.prog (oFld 224 x5 0) fun x6 =>
 pL Tryz.prog (oLoad 3 x6) w1 fun x7 =>
 pA Tryz.prog (oNil x0) fun x9 =>
 pA Tryz.prog (oFld 226 x9 0) fun x10 =>
 pL Tryz.prog (oLoad 30 x10) w1 fun x11 =>
 pA Tryz.prog (oBi .len #[30] 3 [false] [x11]) fun x12 =>
 pA Tryz.prog (oBin .eql 3 (.tmp 7) (.tmp 12) x7 x12) fun x13 =>
 gA (gB x13 true) (pA Tryz.prog (oMv x0)) fun x15 =>
 gA (gB x13 true) (pA Tryz.prog (oNil x15)) fun x16 =>
 gA (gB x13 true) (pA Tryz.prog (oFld 226 x16 1)) fun x17 =>
 gA (gB x13 true) (pA Tryz.prog (oFld 224 x17 2)) fun x18 =>
 gA (gB x13 true) (pL Tryz.prog (oLoad 148 x18) w1) fun x19 =>
 gA (gB x13 true) (pA Tryz.prog (oBin .eql 148 (.tmp 19) (.const (.int .u32 0)) x19 (.int .u32 0))) fun x20 =>
 pA Tryz.prog (oPick x13 x20 (.bool false)) fun x21 =>
 Q x21 w1
theorem rcdec_Decoder_Done.calls [Pan] {x0 : Value} {w : World} {Q : Value → World → Prop} (h : rcdec_Decoder_Done.F x0 w Q) : Calls Tryz.prog 90 #[x0] w (retP Q) := calls_lift mixed rcdec_Decoder_Done.H [x0] Tryz.func90 (by kernel_rfl) (by kernel_rfl) h

def rcdec_Decoder_Bit.H : Hints := { cut := fun | 7 => some ([], 4286578688) | _ => none, loop := fun  | _ => ([], 0), order := fun | 3 => [(0, 0), (1, 1), (2, 3)] | 5 => [(0, 0), (1, 1), (2, 3), (3, 7), (4, 15), (5, 31), (6, 63), (7, 127), (8, 255)] | _ => [] }
noncomputable def rcdec_Decoder_Bit.c : Code := match Tryz.f163.body with | some c => c | none => .skip
def rcdec_Decoder_Bit.F [Pan] (x0 : Value) (x1 : Value) (x2 : Value) (w : World) (Q : Value → World → Prop) : Prop :=
 pN Tryz.prog (oBox 76 x0) w fun x3 w1 =>
 pN Tryz.prog (oBox 137 x1) w1 fun x4 w2 =>
 pN Tryz.prog (oBox 3 x2) w2 fun x5 w3 =>
 pN Tryz.prog (oAlloc 3) w3 fun x6 w4 =>
 pN Tryz.prog (oAlloc 38) w4 fun x7 w5 =>
 pN Tryz.prog (oLoad 137 x4) w5 fun x10 w6 =>
 pN Tryz.prog (oLoad 3 x5) w6 fun x11 w7 =>
 pN Tryz.prog (oCall 179 [x10, x11]) w7 fun x12 w8 =>
 pN Tryz.prog (oExt x12 0) w8 fun x13 w9 =>
 pN Tryz.prog (oExt x12 1) w9 fun x14 w10 =>
 pN Tryz.prog (oStore 38 x7 x14) w10 fun _ w11 =>
 pN Tryz.prog (oLoad 38 x7) w11 fun x15 w12 =>
 pN Tryz.prog (oBin .neq 38 (.tmp 15) (.const (.int .i64 0)) x15 (.int .i64 0)) w12 fun x16 w13 =>
 pIf x16
 (pDr w13 fun w14 =>
 pL Tryz.prog (oLoad 38 x7) w14 fun x17 =>
 pN Tryz.prog (oStore 3 x6 (.int .i64 0)) w14 fun _ w15 =>
 ((Sem.run Tryz.prog (oLoad 38 x7) w15 = .ok (.value x17) w15) ∧ True) ∧ (pN Tryz.prog (oStore 38 x7 x17) w15 fun _ w16 =>
 (True) ∧ (pL Tryz.prog (oRes 3 x6) w16 fun r6 =>
 pL Tryz.prog (oRes 38 x7) w16 fun r7 =>
 Q (.tuple #[r6, r7]) w16)))
 (pN Tryz.prog (oFn (.func 180) [] [x3, x7, x6, x4, x5]) w13 fun x18 w17 =>
 pN Tryz.prog (oLoad 76 x3) w17 fun x19 w18 =>
 pN Tryz.prog (oNil x19) w18 fun x20 w19 =>
 pN Tryz.prog (oFld 226 x20 1) w19 fun x21 w20 =>
 pN Tryz.prog (oLoad 224 x21) w20 fun x22 w21 =>
 pDf Tryz.prog (oDf x18 [x22]) w21 fun d =>
 ∃ Z : Pan, (∀ (ch : List PanicEntry) (w22 : World), Z.z ch w22 → dE Tryz.prog d (.panicking ch) w22 fun w23 =>
 pL Tryz.prog (oRes 3 x6) w23 fun r6 =>
 pL Tryz.prog (oRes 38 x7) w23 fun r7 =>
 Q (.tuple #[r6, r7]) w23) ∧
 (∃ I7 : World → Prop,
 (pDr w21 fun w24 =>
 pL Tryz.prog (oLoad 76 x3) w24 fun x23 =>
 pL Tryz.prog (oLoad 76 x3) w24 fun x24 =>
 pA Tryz.prog (oNil x24) fun x25 =>
 pA Tryz.prog (oFld 226 x25 1) fun x26 =>
 pA Tryz.prog (oFld 224 x26 1) fun x27 =>
 pL Tryz.prog (oLoad 148 x27) w24 fun x28 =>
 pN Tryz.prog (oCall 184 [x28, x13]) w24 fun x30 w25 =>
 ((Sem.run Tryz.prog (oLoad 76 x3) w25 = .ok (.value x23) w25) ∧ True) ∧ (pN Tryz.prog (oCall 183 [x23, x30]) w25 fun x31 w26 =>
 (True) ∧ (pIf x31
 (pN Tryz.prog (oStore 3 x6 (.int .i64 1)) w26 fun _ w27 =>
 I7 w27)
 (I7 w26)))) ∧
 ∀ (_j7 : Env) (w28 : World), I7 w28 →
 pN Tryz.prog (oLoad 76 x3) w28 fun x32 w29 =>
 pN Tryz.prog (oCall 185 [x32]) w29 fun _ w30 =>
 pN Tryz.prog (oLoad 3 x6) w30 fun x34 w31 =>
 pN Tryz.prog (oStore 3 x6 x34) w31 fun _ w32 =>
 pN Tryz.prog (oStore 38 x7 (.int .i64 0)) w32 fun _ w33 =>
 dE Tryz.prog d .returning w33 fun w34 =>
 pL Tryz.prog (oRes 3 x6) w34 fun r6 =>
 pL Tryz.prog (oRes 38 x7) w34 fun r7 =>
 Q (.tuple #[r6, r7]) w34))
theorem rcdec_Decoder_Bit.eq [Pan] (x0 : Value) (x1 : Value) (x2 : Value) (w : World) (Q : Value → World → Prop) : cwD Tryz.prog rcdec_Decoder_Bit.H Tryz.f163.results.toList Q rcdec_Decoder_Bit.c (argsE [x0, x1, x2]) w = rcdec_Decoder_Bit.F x0 x1 x2 w Q := by kernel_rfl
theorem rcdec_Decoder_Bit.calls [Pan] {x0 : Value} {x1 : Value} {x2 : Value} {w : World} {Q : Value → World → Prop} (h : rcdec_Decoder_Bit.F x0 x1 x2 w Q) : Calls Tryz.prog 163 #[x0, x1, x2] w (retP Q) :=
  calls_of_cwD (H := rcdec_Decoder_Bit.H) (c := rcdec_Decoder_Bit.c) (args := [x0, x1, x2]) mixed 8 Tryz.func163 (by kernel_rfl) (by kernel_rfl) (by kernel_rfl) (Nat.le_of_ble_eq_true (by kernel_rfl)) ((rcdec_Decoder_Bit.eq x0 x1 x2 w Q).mpr h)

def rcdec_Decoder_Direct.H : Hints := { cut := fun | 11 => some ([], 281474439839744) | 13 => some ([], 71776119061217280) | 15 => some ([], 9223372036852678720) | _ => none, loop := fun | 5 => ([19], 18446744073709027392) | _ => ([], 0), order := fun  | _ => [] }
noncomputable def rcdec_Decoder_Direct.c : Code := match Tryz.f166.body with | some c => c | none => .skip
def rcdec_Decoder_Direct.F [Pan] (x0 : Value) (x1 : Value) (w : World) (Q : Value → World → Prop) : Prop :=
 pN Tryz.prog (oBox 76 x0) w fun x2 w1 =>
 pN Tryz.prog (oAlloc 148) w1 fun x4 w2 =>
 pN Tryz.prog (oAlloc 38) w2 fun x5 w3 =>
 pN Tryz.prog (oBin .lss 3 (.tmp 7) (.const (.int .i64 0)) x1 (.int .i64 0)) w3 fun x8 w4 =>
 pGd (gB x8 false) (pN Tryz.prog (oMv x1) w4) w4 fun x10 w5 =>
 pGd (gB x8 false) (pN Tryz.prog (oBin .gtr 3 (.tmp 10) (.const (.int .i64 32)) x10 (.int .i64 32)) w5) w5 fun x11 w6 =>
 pN Tryz.prog (oPick x8 (.bool true) x11) w6 fun x12 w7 =>
 pIf x12
 (pN Tryz.prog (oStore 148 x4 (.int .u32 0)) w7 fun _ w8 =>
 pN Tryz.prog (oStore 38 x5 (.int .i64 7)) w8 fun _ w9 =>
 pL Tryz.prog (oRes 148 x4) w9 fun r4 =>
 pL Tryz.prog (oRes 38 x5) w9 fun r5 =>
 Q (.tuple #[r4, r5]) w9)
 (pN Tryz.prog (oFn (.func 186) [] [x2, x5, x4]) w7 fun x13 w10 =>
 pN Tryz.prog (oLoad 76 x2) w10 fun x14 w11 =>
 pN Tryz.prog (oNil x14) w11 fun x15 w12 =>
 pN Tryz.prog (oFld 226 x15 1) w12 fun x16 w13 =>
 pN Tryz.prog (oLoad 224 x16) w13 fun x17 w14 =>
 pDf Tryz.prog (oDf x13 [x17]) w14 fun d =>
 ∃ Z : Pan, (∀ (ch : List PanicEntry) (w15 : World), Z.z ch w15 → dE Tryz.prog d (.panicking ch) w15 fun w16 =>
 pL Tryz.prog (oRes 148 x4) w16 fun r4 =>
 pL Tryz.prog (oRes 38 x5) w16 fun r5 =>
 Q (.tuple #[r4, r5]) w16) ∧
 (∃ (L5 : Value → World → Prop) (m5 : Value → World → Nat),
 L5 (.int .i64 0) w14 ∧
 ∀ (_k5 : Env) (v19l5 : Value) (w17 : World), L5 v19l5 w17 →
 pN Tryz.prog (oBin .lss 3 (.tmp 19) (.tmp 18) v19l5 x1) w17 fun x20 w18 =>
 pIf x20
 (∃ I15 : World → Prop,
 (pN Tryz.prog (oLoad 76 x2) w18 fun x21 w19 =>
 pN Tryz.prog (oNil x21) w19 fun x22 w20 =>
 pN Tryz.prog (oFld 226 x22 1) w20 fun x23 w21 =>
 pN Tryz.prog (oFld 224 x23 1) w21 fun x24 w22 =>
 pN Tryz.prog (oLoad 148 x24) w22 fun x25 w23 =>
 pN Tryz.prog (oBin .quo 148 (.tmp 25) (.const (.int .u32 2)) x25 (.int .u32 2)) w23 fun x26 w24 =>
 pN Tryz.prog (oLoad 148 x4) w24 fun x27 w25 =>
 pN Tryz.prog (oBin .shl 148 (.tmp 27) (.const (.int .u64 1)) x27 (.int .u64 1)) w25 fun x28 w26 =>
 pN Tryz.prog (oStore 148 x4 x28) w26 fun _ w27 =>
 ∃ I11 : World → Prop,
 (pN Tryz.prog (oLoad 76 x2) w27 fun x29 w28 =>
 pN Tryz.prog (oNil x29) w28 fun x30 w29 =>
 pN Tryz.prog (oFld 226 x30 1) w29 fun x31 w30 =>
 pN Tryz.prog (oFld 224 x31 2) w30 fun x32 w31 =>
 pN Tryz.prog (oLoad 148 x32) w31 fun x33 w32 =>
 pN Tryz.prog (oBin .geq 148 (.tmp 33) (.tmp 34) x33 x26) w32 fun x35 w33 =>
 pIf x35
 (pN Tryz.prog (oLoad 76 x2) w33 fun x36 w34 =>
 pN Tryz.prog (oNil x36) w34 fun x37 w35 =>
 pN Tryz.prog (oFld 226 x37 1) w35 fun x38 w36 =>
 pN Tryz.prog (oFld 224 x38 2) w36 fun x39 w37 =>
 pN Tryz.prog (oLoad 148 x39) w37 fun x40 w38 =>
 pN Tryz.prog (oBin .sub 148 (.tmp 40) (.tmp 41) x40 x26) w38 fun x42 w39 =>
 pN Tryz.prog (oNil x36) w39 fun x43 w40 =>
 pN Tryz.prog (oFld 226 x43 1) w40 fun x44 w41 =>
 pN Tryz.prog (oFld 224 x44 2) w41 fun x45 w42 =>
 pN Tryz.prog (oStore 148 x45 x42) w42 fun _ w43 =>
 pN Tryz.prog (oLoad 148 x4) w43 fun x46 w44 =>
 pN Tryz.prog (oBin .or 148 (.tmp 46) (.const (.int .u32 1)) x46 (.int .u32 1)) w44 fun x47 w45 =>
 pN Tryz.prog (oStore 148 x4 x47) w45 fun _ w46 =>
 I11 w46)
 (I11 w33)) ∧
 ∀ (_j11 : Env) (w47 : World), I11 w47 →
 ∃ I13 : World → Prop,
 (pN Tryz.prog (oLoad 76 x2) w47 fun x48 w48 =>
 pN Tryz.prog (oNil x48) w48 fun x49 w49 =>
 pN Tryz.prog (oFld 226 x49 1) w49 fun x50 w50 =>
 pN Tryz.prog (oFld 224 x50 2) w50 fun x51 w51 =>
 pN Tryz.prog (oLoad 148 x51) w51 fun x52 w52 =>
 pN Tryz.prog (oBin .eql 148 (.tmp 52) (.tmp 53) x52 x26) w52 fun x54 w53 =>
 pIf x54
 (pN Tryz.prog (oIface 268 (.int .i64 2)) w53 fun x55 w54 =>
 pN Tryz.prog (oPanic x55) w54 fun _ w55 =>
 I13 w55)
 (I13 w53)) ∧
 ∀ (_j13 : Env) (w56 : World), I13 w56 →
 pN Tryz.prog (oLoad 76 x2) w56 fun x56 w57 =>
 pN Tryz.prog (oNil x56) w57 fun x58 w58 =>
 pN Tryz.prog (oFld 226 x58 1) w58 fun x59 w59 =>
 pN Tryz.prog (oFld 224 x59 1) w59 fun x60 w60 =>
 pN Tryz.prog (oStore 148 x60 x26) w60 fun _ w61 =>
 pN Tryz.prog (oLoad 76 x2) w61 fun x61 w62 =>
 pN Tryz.prog (oCall 185 [x61]) w62 fun _ w63 =>
 I15 w63) ∧
 ∀ (_j15 : Env) (w64 : World), I15 w64 →
 pN Tryz.prog (oBin .add 3 (.tmp 19) (.const (.int .i64 1)) v19l5 (.int .i64 1)) w64 fun x63 w65 =>
 (L5 x63 w65 ∧ m5 x63 w65 < m5 v19l5 w17))
 (pN Tryz.prog (oLoad 148 x4) w18 fun x64 w66 =>
 pN Tryz.prog (oStore 148 x4 x64) w66 fun _ w67 =>
 pN Tryz.prog (oStore 38 x5 (.int .i64 0)) w67 fun _ w68 =>
 dE Tryz.prog d .returning w68 fun w69 =>
 pL Tryz.prog (oRes 148 x4) w69 fun r4 =>
 pL Tryz.prog (oRes 38 x5) w69 fun r5 =>
 Q (.tuple #[r4, r5]) w69)))
theorem rcdec_Decoder_Direct.eq [Pan] (x0 : Value) (x1 : Value) (w : World) (Q : Value → World → Prop) : cwD Tryz.prog rcdec_Decoder_Direct.H Tryz.f166.results.toList Q rcdec_Decoder_Direct.c (argsE [x0, x1]) w = rcdec_Decoder_Direct.F x0 x1 w Q := by kernel_rfl
theorem rcdec_Decoder_Direct.calls [Pan] {x0 : Value} {x1 : Value} {w : World} {Q : Value → World → Prop} (h : rcdec_Decoder_Direct.F x0 x1 w Q) : Calls Tryz.prog 166 #[x0, x1] w (retP Q) :=
  calls_of_cwD (H := rcdec_Decoder_Direct.H) (c := rcdec_Decoder_Direct.c) (args := [x0, x1]) mixed 6 Tryz.func166 (by kernel_rfl) (by kernel_rfl) (by kernel_rfl) (Nat.le_of_ble_eq_true (by kernel_rfl)) ((rcdec_Decoder_Direct.eq x0 x1 w Q).mpr h)

def rcdec_Decoder_Bit_c1.H : Hints := { cut := fun  | _ => none, loop := fun  | _ => ([], 0), order := fun | 1 => [(0, 0), (1, 1), (2, 3), (3, 7), (4, 15)] | _ => [] }
noncomputable def rcdec_Decoder_Bit_c1.c : Code := match Tryz.f180.body with | some c => c | none => .skip
noncomputable def rcdec_Decoder_Bit_c1.d (rv : Value) : Code := recCode 1 2 rv rcdec_Decoder_Bit_c1.c
def rcdec_Decoder_Bit_c1.F (rv : Value) (x0 : Value) (x1 : Value) (x2 : Value) (x3 : Value) (x4 : Value) (x5 : Value) (w : World) (Q : Value → World → Prop) : Prop :=
 pN Tryz.prog (oBox 224 x0) w fun x6 w1 =>
 pDr w1 fun w2 =>
 pL Tryz.prog (oLoad 76 x1) w2 fun x7 =>
 pL Tryz.prog (oLoad 224 x6) w2 fun x8 =>
 pN Tryz.prog (oCall 181 [x7, x8, rv]) w2 fun x10 w3 =>
 (True) ∧ (pN Tryz.prog (oStore 38 x2 x10) w3 fun _ w4 =>
 (True) ∧ (pN Tryz.prog (oLoad 38 x2) w4 fun x11 w5 =>
 pN Tryz.prog (oBin .neq 38 (.tmp 11) (.const (.int .i64 0)) x11 (.int .i64 0)) w5 fun x12 w6 =>
 pIf x12
 (pN Tryz.prog (oStore 3 x3 (.int .i64 0)) w6 fun _ w7 =>
 Q (.tuple #[]) w7)
 (pN Tryz.prog (oLoad 137 x4) w6 fun x13 w8 =>
 pN Tryz.prog (oLoad 3 x5) w8 fun x14 w9 =>
 pN Tryz.prog (oLoad 3 x3) w9 fun x15 w10 =>
 pN Tryz.prog (oCall 182 [x13, x14, x15]) w10 fun _ w11 =>
 Q (.tuple #[]) w11)))
theorem rcdec_Decoder_Bit_c1.eq (rv : Value) (x0 : Value) (x1 : Value) (x2 : Value) (x3 : Value) (x4 : Value) (x5 : Value) (w : World) (Q : Value → World → Prop) : cw Tryz.prog rcdec_Decoder_Bit_c1.H (rcdec_Decoder_Bit_c1.d rv) (endQ Tryz.prog Tryz.f180.results.toList Q) (argsE [x0, x1, x2, x3, x4, x5]) w = rcdec_Decoder_Bit_c1.F rv x0 x1 x2 x3 x4 x5 w Q := by kernel_rfl
theorem rcdec_Decoder_Bit_c1.panics {rv : Value} {older : List PanicEntry} {x0 : Value} {x1 : Value} {x2 : Value} {x3 : Value} {x4 : Value} {x5 : Value} {w : World} {Q : Value → World → Prop} (h : rcdec_Decoder_Bit_c1.F rv x0 x1 x2 x3 x4 x5 w Q) : CallsD Tryz.prog 180 #[x0, x1, x2, x3, x4, x5] (.panicking ({ v := rv, recovered := false } :: older)) w fun e u w => u = .panicking ({ v := rv, recovered := true } :: older) ∧ ∃ r, e = .returned r ∧ Q r w :=
  callsD_of_cw (H := rcdec_Decoder_Bit_c1.H) (c := rcdec_Decoder_Bit_c1.c) (c' := rcdec_Decoder_Bit_c1.d rv) (args := [x0, x1, x2, x3, x4, x5]) mixed (Or.inl ⟨older, rfl, rfl⟩) Tryz.func180 (by kernel_rfl) (rsp_of _ _ _ _ _ (by kernel_rfl)) (by kernel_rfl) (Nat.le_of_ble_eq_true (by kernel_rfl)) ((rcdec_Decoder_Bit_c1.eq rv x0 x1 x2 x3 x4 x5 w Q).mpr h)
theorem rcdec_Decoder_Bit_c1.idles {x0 : Value} {x1 : Value} {x2 : Value} {x3 : Value} {x4 : Value} {x5 : Value} {w : World} {Q : Value → World → Prop} (h : rcdec_Decoder_Bit_c1.F .nilIface x0 x1 x2 x3 x4 x5 w Q) : CallsD Tryz.prog 180 #[x0, x1, x2, x3, x4, x5] .returning w fun e u w => u = .returning ∧ ∃ r, e = .returned r ∧ Q r w :=
  callsD_of_cw (H := rcdec_Decoder_Bit_c1.H) (c := rcdec_Decoder_Bit_c1.c) (c' := rcdec_Decoder_Bit_c1.d .nilIface) (args := [x0, x1, x2, x3, x4, x5]) mixed (Or.inr ⟨rfl, rfl, rfl⟩) Tryz.func180 (by kernel_rfl) (rsp_of _ _ _ _ _ (by kernel_rfl)) (by kernel_rfl) (Nat.le_of_ble_eq_true (by kernel_rfl)) ((rcdec_Decoder_Bit_c1.eq .nilIface x0 x1 x2 x3 x4 x5 w Q).mpr h)

def rcdec_Decoder_back.H : Hints := { cut := fun | 6 => some ([], 458752) | _ => none, loop := fun  | _ => ([], 0), order := fun  | _ => [] }
def rcdec_Decoder_back.F [Pan] (x0 x1 x2 : Value) (w : World) (Q : Value → World → Prop) : Prop :=
 pN Tryz.prog (oBox 224 x1) w fun x4 w1 =>
 pN Tryz.prog (oBin .eql 20 (.tmp 9) (.const .nilIface) x2 .nilIface) w1 fun x10 w2 =>
 pIf x10
 (Q (.int .i64 0) w2)
 (pN Tryz.prog (oAssert x2 20 268 true) w2 fun x13 w3 =>
 pN Tryz.prog (oExt x13 0) w3 fun x14 w4 =>
 pN Tryz.prog (oExt x13 1) w4 fun x15 w5 =>
 ∃ I6 : World → Prop,
 (pN Tryz.prog (oUn .not x15) w5 fun x17 w6 =>
 pIf x17
 (pN Tryz.prog (oPanic x2) w6 fun _ w7 =>
 I6 w7)
 (I6 w6)) ∧
 ∀ (_j6 : Env) (w8 : World), I6 w8 →
 pN Tryz.prog (oLoad 224 x4) w8 fun x20 w9 =>
 pN Tryz.prog (oNil x0) w9 fun x21 w10 =>
 pN Tryz.prog (oFld 226 x21 1) w10 fun x22 w11 =>
 pN Tryz.prog (oStore 224 x22 x20) w11 fun _ w12 =>
 Q x14 w12)
theorem rcdec_Decoder_back.calls [Pan] {x0 x1 x2 : Value} {w : World} {Q : Value → World → Prop} (h : rcdec_Decoder_back.F x0 x1 x2 w Q) : Calls Tryz.prog 181 #[x0, x1, x2] w (retP Q) := calls_lift mixed rcdec_Decoder_back.H [x0, x1, x2] Tryz.func181 (by kernel_rfl) (by kernel_rfl) h

def rcdec_Decoder_upper.F [Pan] (x0 x1 : Value) (w : World) (Q : Value → World → Prop) : Prop :=
 pN Tryz.prog (oNil x0) w fun x6 w1 =>
 pN Tryz.prog (oFld 226 x6 1) w1 fun x7 w2 =>
 pN Tryz.prog (oFld 224 x7 2) w2 fun x8 w3 =>
 pN Tryz.prog (oLoad 148 x8) w3 fun x9 w4 =>
 pN Tryz.prog (oBin .lss 148 (.tmp 9) (.tmp 10) x9 x1) w4 fun x11 w5 =>
 pIf x11
 (pN Tryz.prog (oNil x0) w5 fun x14 w6 =>
 pN Tryz.prog (oFld 226 x14 1) w6 fun x15 w7 =>
 pN Tryz.prog (oFld 224 x15 1) w7 fun x16 w8 =>
 pN Tryz.prog (oStore 148 x16 x1) w8 fun _ w9 =>
 Q (.bool false) w9)
 (pN Tryz.prog (oNil x0) w5 fun x18 w10 =>
 pN Tryz.prog (oFld 226 x18 1) w10 fun x19 w11 =>
 pN Tryz.prog (oFld 224 x19 2) w11 fun x20 w12 =>
 pN Tryz.prog (oLoad 148 x20) w12 fun x21 w13 =>
 pN Tryz.prog (oBin .sub 148 (.tmp 21) (.tmp 22) x21 x1) w13 fun x23 w14 =>
 pN Tryz.prog (oNil x0) w14 fun x24 w15 =>
 pN Tryz.prog (oFld 226 x24 1) w15 fun x25 w16 =>
 pN Tryz.prog (oFld 224 x25 2) w16 fun x26 w17 =>
 pN Tryz.prog (oStore 148 x26 x23) w17 fun _ w18 =>
 pN Tryz.prog (oNil x0) w18 fun x28 w19 =>
 pN Tryz.prog (oFld 226 x28 1) w19 fun x29 w20 =>
 pN Tryz.prog (oFld 224 x29 1) w20 fun x30 w21 =>
 pN Tryz.prog (oLoad 148 x30) w21 fun x31 w22 =>
 pN Tryz.prog (oBin .sub 148 (.tmp 31) (.tmp 32) x31 x1) w22 fun x33 w23 =>
 pN Tryz.prog (oNil x0) w23 fun x34 w24 =>
 pN Tryz.prog (oFld 226 x34 1) w24 fun x35 w25 =>
 pN Tryz.prog (oFld 224 x35 1) w25 fun x36 w26 =>
 pN Tryz.prog (oStore 148 x36 x33) w26 fun _ w27 =>
 Q (.bool true) w27)
theorem rcdec_Decoder_upper.calls [Pan] {x0 x1 : Value} {w : World} {Q : Value → World → Prop} (h : rcdec_Decoder_upper.F x0 x1 w Q) : Calls Tryz.prog 183 #[x0, x1] w (retP Q) := calls_lift mixed .z [x0, x1] Tryz.func183 (by kernel_rfl) (by kernel_rfl) h

def rcdec_Decoder_widen.H : Hints := { cut := fun | 3 => some ([], 1048320) | _ => none, loop := fun  | _ => ([], 0), order := fun | 1 => [(0, 0), (1, 1), (2, 3), (3, 7), (4, 15), (5, 31), (6, 63), (7, 127), (8, 255), (9, 511), (10, 1023)] | 4 => [(0, 0), (1, 1), (2, 3), (3, 7), (4, 15), (5, 31), (6, 63), (7, 127), (8, 255), (9, 511), (10, 1023), (11, 2047), (12, 4095), (13, 8191), (14, 16383), (15, 32767), (16, 65535), (17, 131071), (18, 262143), (19, 524287), (20, 1048575), (21, 2097151), (22, 4194303), (23, 8388607)] | _ => [] }
def rcdec_Decoder_widen.F [Pan] (x0 : Value) (w : World) (Q : Value → World → Prop) : Prop :=
 pN Tryz.prog (oNil x0) w fun x3 w1 =>
 pN Tryz.prog (oFld 226 x3 1) w1 fun x4 w2 =>
 pN Tryz.prog (oFld 224 x4 1) w2 fun x5 w3 =>
 pN Tryz.prog (oLoad 148 x5) w3 fun x6 w4 =>
 pN Tryz.prog (oBin .geq 148 (.tmp 6) (.const (.int .u32 16777216)) x6 (.int .u32 16777216)) w4 fun x7 w5 =>
 pIf x7
 (Q (.tuple #[]) w5)
 (∃ I3 : World → Prop,
 (pDr w5 fun w6 =>
 pA Tryz.prog (oNil x0) fun x9 =>
 pA Tryz.prog (oFld 226 x9 1) fun x10 =>
 pA Tryz.prog (oFld 224 x10 0) fun x11 =>
 pL Tryz.prog (oLoad 3 x11) w6 fun x12 =>
 pA Tryz.prog (oNil x0) fun x14 =>
 pA Tryz.prog (oFld 226 x14 0) fun x15 =>
 pL Tryz.prog (oLoad 30 x15) w6 fun x16 =>
 pA Tryz.prog (oBi .len #[30] 3 [false] [x16]) fun x17 =>
 pA Tryz.prog (oBin .eql 3 (.tmp 12) (.tmp 17) x12 x17) fun x18 =>
 pIf x18
 (pN Tryz.prog (oIface 268 (.int .i64 1)) w6 fun x19 w7 =>
 pN Tryz.prog (oPanic x19) w7 fun _ w8 =>
 I3 w8)
 (I3 w6)) ∧
 ∀ (_j3 : Env) (w9 : World), I3 w9 →
 pN Tryz.prog (oNil x0) w9 fun x21 w10 =>
 pN Tryz.prog (oFld 226 x21 1) w10 fun x22 w11 =>
 pN Tryz.prog (oFld 224 x22 1) w11 fun x23 w12 =>
 pN Tryz.prog (oLoad 148 x23) w12 fun x24 w13 =>
 pN Tryz.prog (oBin .shl 148 (.tmp 24) (.const (.int .u64 8)) x24 (.int .u64 8)) w13 fun x25 w14 =>
 pN Tryz.prog (oNil x0) w14 fun x26 w15 =>
 pN Tryz.prog (oFld 226 x26 1) w15 fun x27 w16 =>
 pN Tryz.prog (oFld 224 x27 1) w16 fun x28 w17 =>
 pN Tryz.prog (oStore 148 x28 x25) w17 fun _ w18 =>
 pDr w18 fun w19 =>
 pA Tryz.prog (oNil x0) fun x31 =>
 pA Tryz.prog (oFld 226 x31 1) fun x32 =>
 pA Tryz.prog (oFld 224 x32 2) fun x33 =>
 pL Tryz.prog (oLoad 148 x33) w19 fun x34 =>
 pA Tryz.prog (oBin .shl 148 (.tmp 34) (.const (.int .u64 8)) x34 (.int .u64 8)) fun x35 =>
 pA Tryz.prog (oNil x0) fun x37 =>
 pA Tryz.prog (oFld 226 x37 0) fun x38 =>
 pL Tryz.prog (oLoad 30 x38) w19 fun x39 =>
 pA Tryz.prog (oNil x0) fun x41 =>
 pA Tryz.prog (oFld 226 x41 1) fun x42 =>
 pA Tryz.prog (oFld 224 x42 0) fun x43 =>
 pL Tryz.prog (oLoad 3 x43) w19 fun x44 =>
 pA Tryz.prog (oIdx 30 x39 x44) fun x45 =>
 pL Tryz.prog (oLoad 5 x45) w19 fun x46 =>
 pL Tryz.prog (oConv 5 148 x46) w19 fun x47 =>
 pA Tryz.prog (oBin .or 148 (.tmp 35) (.tmp 47) x35 x47) fun x48 =>
 pA Tryz.prog (oNil x0) fun x49 =>
 pA Tryz.prog (oFld 226 x49 1) fun x50 =>
 pA Tryz.prog (oFld 224 x50 2) fun x51 =>
 pN Tryz.prog (oStore 148 x51 x48) w19 fun _ w20 =>
 (True) ∧ (pN Tryz.prog (oNil x0) w20 fun x53 w21 =>
 pN Tryz.prog (oFld 226 x53 1) w21 fun x54 w22 =>
 pN Tryz.prog (oFld 224 x54 0) w22 fun x55 w23 =>
 pN Tryz.prog (oLoad 3 x55) w23 fun x56 w24 =>
 pN Tryz.prog (oBin .add 3 (.tmp 56) (.const (.int .i64 1)) x56 (.int .i64 1)) w24 fun x57 w25 =>
 pN Tryz.prog (oNil x0) w25 fun x58 w26 =>
 pN Tryz.prog (oFld 226 x58 1) w26 fun x59 w27 =>
 pN Tryz.prog (oFld 224 x59 0) w27 fun x60 w28 =>
 pN Tryz.prog (oStore 3 x60 x57) w28 fun _ w29 =>
 Q (.tuple #[]) w29))
theorem rcdec_Decoder_widen.calls [Pan] {x0 : Value} {w : World} {Q : Value → World → Prop} (h : rcdec_Decoder_widen.F x0 w Q) : Calls Tryz.prog 185 #[x0] w (retP Q) := calls_lift mixed rcdec_Decoder_widen.H [x0] Tryz.func185 (by kernel_rfl) (by kernel_rfl) h

def rcdec_Decoder_Direct_c1.H : Hints := { cut := fun  | _ => none, loop := fun  | _ => ([], 0), order := fun | 1 => [(0, 0), (1, 1), (2, 3), (3, 7), (4, 15)] | _ => [] }
noncomputable def rcdec_Decoder_Direct_c1.c : Code := match Tryz.f186.body with | some c => c | none => .skip
noncomputable def rcdec_Decoder_Direct_c1.d (rv : Value) : Code := recCode 1 2 rv rcdec_Decoder_Direct_c1.c
def rcdec_Decoder_Direct_c1.F (rv : Value) (x0 : Value) (x1 : Value) (x2 : Value) (x3 : Value) (w : World) (Q : Value → World → Prop) : Prop :=
 pN Tryz.prog (oBox 224 x0) w fun x4 w1 =>
 pDr w1 fun w2 =>
 pL Tryz.prog (oLoad 76 x1) w2 fun x5 =>
 pL Tryz.prog (oLoad 224 x4) w2 fun x6 =>
 pN Tryz.prog (oCall 181 [x5, x6, rv]) w2 fun x8 w3 =>
 (True) ∧ (pN Tryz.prog (oStore 38 x2 x8) w3 fun _ w4 =>
 (True) ∧ (pN Tryz.prog (oLoad 38 x2) w4 fun x9 w5 =>
 pN Tryz.prog (oBin .neq 38 (.tmp 9) (.const (.int .i64 0)) x9 (.int .i64 0)) w5 fun x10 w6 =>
 pIf x10
 (pN Tryz.prog (oStore 148 x3 (.int .u32 0)) w6 fun _ w7 =>
 Q (.tuple #[]) w7)
 (Q (.tuple #[]) w6)))
theorem rcdec_Decoder_Direct_c1.eq (rv : Value) (x0 : Value) (x1 : Value) (x2 : Value) (x3 : Value) (w : World) (Q : Value → World → Prop) : cw Tryz.prog rcdec_Decoder_Direct_c1.H (rcdec_Decoder_Direct_c1.d rv) (endQ Tryz.prog Tryz.f186.results.toList Q) (argsE [x0, x1, x2, x3]) w = rcdec_Decoder_Direct_c1.F rv x0 x1 x2 x3 w Q := by kernel_rfl
theorem rcdec_Decoder_Direct_c1.panics {rv : Value} {older : List PanicEntry} {x0 : Value} {x1 : Value} {x2 : Value} {x3 : Value} {w : World} {Q : Value → World → Prop} (h : rcdec_Decoder_Direct_c1.F rv x0 x1 x2 x3 w Q) : CallsD Tryz.prog 186 #[x0, x1, x2, x3] (.panicking ({ v := rv, recovered := false } :: older)) w fun e u w => u = .panicking ({ v := rv, recovered := true } :: older) ∧ ∃ r, e = .returned r ∧ Q r w :=
  callsD_of_cw (H := rcdec_Decoder_Direct_c1.H) (c := rcdec_Decoder_Direct_c1.c) (c' := rcdec_Decoder_Direct_c1.d rv) (args := [x0, x1, x2, x3]) mixed (Or.inl ⟨older, rfl, rfl⟩) Tryz.func186 (by kernel_rfl) (rsp_of _ _ _ _ _ (by kernel_rfl)) (by kernel_rfl) (Nat.le_of_ble_eq_true (by kernel_rfl)) ((rcdec_Decoder_Direct_c1.eq rv x0 x1 x2 x3 w Q).mpr h)
theorem rcdec_Decoder_Direct_c1.idles {x0 : Value} {x1 : Value} {x2 : Value} {x3 : Value} {w : World} {Q : Value → World → Prop} (h : rcdec_Decoder_Direct_c1.F .nilIface x0 x1 x2 x3 w Q) : CallsD Tryz.prog 186 #[x0, x1, x2, x3] .returning w fun e u w => u = .returning ∧ ∃ r, e = .returned r ∧ Q r w :=
  callsD_of_cw (H := rcdec_Decoder_Direct_c1.H) (c := rcdec_Decoder_Direct_c1.c) (c' := rcdec_Decoder_Direct_c1.d .nilIface) (args := [x0, x1, x2, x3]) mixed (Or.inr ⟨rfl, rfl, rfl⟩) Tryz.func186 (by kernel_rfl) (rsp_of _ _ _ _ _ (by kernel_rfl)) (by kernel_rfl) (Nat.le_of_ble_eq_true (by kernel_rfl)) ((rcdec_Decoder_Direct_c1.eq .nilIface x0 x1 x2 x3 w Q).mpr h)

end Go.Proofs.YtbgnnjfpiblkmaaGreatDoor

namespace Go.Proofs.YtbgnnjfpiblkmaaGreatDoor
open Go

namespace D
structure S where
  b : List UInt8
  k : Nat
  R : Int
  C : Int

structure Ok (s : S) : Prop where
  k : s.k ≤ s.b.length
  r0 : 16777216 ≤ s.R
  r1 : s.R < 4294967296
  c0 : 0 ≤ s.C
  c1 : s.C < s.R

def S.widen (s : S) : Option S := if 16777216 ≤ s.R then some s else match s.b[s.k]? with
  | none => none
  | some x => some ⟨s.b, s.k + 1, s.R * 256, s.C * 256 + (x.toNat : Int)⟩
def S.bitAt (s : S) (c : Int) : Int := if s.C < c then 0 else 1
def S.cut (s : S) (c : Int) : S := if s.C < c then ⟨s.b, s.k, c, s.C⟩ else ⟨s.b, s.k, s.R - c, s.C - c⟩
inductive An (α : Type)
  | ok (s : S) (v : α)
  | no (e : Int)
def S.bit (s : S) (c : Int) : An Int := match (s.cut c).widen with
  | some t => .ok t (s.bitAt c)
  | none => .no 1
def S.one (s : S) : S := if s.C < s.R / 2 then ⟨s.b, s.k, s.R / 2, s.C⟩ else ⟨s.b, s.k, s.R / 2, s.C - s.R / 2⟩
def S.direct (s : S) (v : Int) : Nat → An Int
  | 0 => .ok s v
  | n + 1 => if s.one.R ≤ s.one.C then .no 2 else match s.one.widen with
    | none => .no 1
    | some t => t.direct (2 * v + s.bitAt (s.R / 2)) n

def front (b : List UInt8) (i : Nat) : Int := R.num ((b.drop 1).take i)
def start (b : List UInt8) : An Unit := if b.length < 5 then .no 1 else if b[0]? ≠ some 0 ∨ front b 4 = 4294967295 then .no 2 else .ok ⟨b, 5, 4294967295, front b 4⟩ ()
theorem front_0 (b : List UInt8) : front b 0 = 0 := by simp [front, R.num]
theorem front_succ (b : List UInt8) (i : Nat) {x : UInt8} (h : b[i + 1]? = some x) : front b (i + 1) = front b i * 256 + (x.toNat : Int) := by
  unfold front
  have h2 : (b.drop 1)[i]? = some x := by rw [List.getElem?_drop, Nat.add_comm]; exact h
  rw [List.take_add_one, h2, Option.toList_some, R.num_snoc]
theorem front_bd (b : List UInt8) (i : Nat) (h : i ≤ 4) : 0 ≤ front b i ∧ front b i < 256 ^ i := by
  refine ⟨R.num_nonneg _, ?_⟩
  have h1 := R.num_lt ((b.drop 1).take i)
  have h2 : ((b.drop 1).take i).length ≤ i := by rw [List.length_take]; omega
  refine Int.lt_of_lt_of_le h1 ?_
  have : (256 : Nat) ^ ((b.drop 1).take i).length ≤ 256 ^ i := Nat.pow_le_pow_right (by omega) h2
  have e : ∀ k : Nat, (256 : Int) ^ k = ((256 ^ k : Nat) : Int) := fun k => (Int.natCast_pow 256 k).symm
  rw [e, e]
  exact Int.ofNat_le.2 this
theorem front_lt (b : List UInt8) (i : Nat) (h : i ≤ 3) : 0 ≤ front b i ∧ front b i < 16777216 := by
  have h1 := front_bd b i (by omega)
  have h2 : (256 : Nat) ^ i ≤ 256 ^ 3 := Nat.pow_le_pow_right (by omega) h
  have e : ∀ k : Nat, (256 : Int) ^ k = ((256 ^ k : Nat) : Int) := fun k => (Int.natCast_pow 256 k).symm
  have h3 : (256 : Int) ^ i ≤ 256 ^ 3 := by rw [e, e]; exact Int.ofNat_le.2 h2
  have h4 : (256 : Int) ^ 3 = 16777216 := by decide
  omega
theorem start_ok {b : List UInt8} {t : S} {u : Unit} (h : start b = .ok t u) : Ok t ∧ t.b = b ∧ t.k = 5 := by
  by_cases h1 : b.length < 5
  · rw [start, if_pos h1] at h
    cases h
  · by_cases h2 : b[0]? ≠ some 0 ∨ front b 4 = 4294967295
    · rw [start, if_neg h1, if_pos h2] at h
      cases h
    · rw [start, if_neg h1, if_neg h2] at h
      cases h
      have h3 := front_bd b 4 (by omega)
      have h4 : (256 : Int) ^ 4 = 4294967296 := by decide
      have h5 : front b 4 ≠ 4294967295 := fun e => h2 (.inr e)
      exact ⟨⟨by simp only; omega, by simp only; omega, by simp only; omega, h3.1, by simp only; omega⟩, rfl, rfl⟩

theorem widen_b {s t : S} (h : s.widen = some t) : t.b = s.b := by
  unfold S.widen at h
  split at h
  · cases h; rfl
  · split at h
    · cases h
    · cases h; rfl
theorem widen_ok {s t : S} (hk : s.k ≤ s.b.length) (r0 : 65536 ≤ s.R) (r1 : s.R < 4294967296) (c0 : 0 ≤ s.C) (c1 : s.C < s.R) (h : s.widen = some t) : Ok t := by
  unfold S.widen at h
  split at h
  · cases h; exact ⟨hk, by assumption, r1, c0, c1⟩
  · split at h
    · cases h
    · rename_i x hx
      cases h
      have hlt := (List.getElem?_eq_some_iff.1 hx).1
      have := x.toNat_lt
      exact ⟨by simp only; omega, by simp only; omega, by simp only; omega, by simp only; omega, by simp only; omega⟩
theorem bound_mid {r p : Int} (hr : 16777216 ≤ r) (h0 : 31 ≤ p) (h1 : p ≤ 2017) : 65536 ≤ B.bound r p ∧ 65536 ≤ r - B.bound r p := by
  unfold B.bound
  rw [B.taken_self (by omega) (by omega)]
  have a1 : r / 2048 * 31 ≤ r / 2048 * p := Int.mul_le_mul_of_nonneg_left h0 (by omega)
  have a2 : r / 2048 * p ≤ r / 2048 * 2017 := Int.mul_le_mul_of_nonneg_left h1 (by omega)
  omega
structure CutOk (s : S) (b : List UInt8) : Prop where
  b : s.b = b
  k : s.k ≤ s.b.length
  r0 : 65536 ≤ s.R
  r1 : s.R < 4294967296
  c0 : 0 ≤ s.C
  c1 : s.C < s.R
theorem Ok.cut {s : S} (h : Ok s) {c : Int} (h0 : 65536 ≤ c) (h1 : 65536 ≤ s.R - c) : CutOk (s.cut c) s.b := by
  obtain ⟨a1, a2, a3, a4, a5⟩ := h
  unfold S.cut
  split
  · exact ⟨rfl, a1, h0, by simp only; omega, a4, by simp only; omega⟩
  · exact ⟨rfl, a1, h1, by simp only; omega, by simp only; omega, by simp only; omega⟩
theorem Ok.bit {s t : S} (h : Ok s) {c v : Int} (h0 : 65536 ≤ c) (h1 : 65536 ≤ s.R - c) (e : s.bit c = .ok t v) : Ok t ∧ t.b = s.b ∧ v = s.bitAt c := by
  unfold S.bit at e
  split at e
  · rename_i t' ht
    cases e
    have hc := h.cut h0 h1
    exact ⟨widen_ok hc.k hc.r0 hc.r1 hc.c0 hc.c1 ht, (widen_b ht).trans hc.b, rfl⟩
  · cases e
theorem bitAt_01 (s : S) (c : Int) : s.bitAt c = 0 ∨ s.bitAt c = 1 := by unfold S.bitAt; split <;> simp
structure OneOk (s : S) (b : List UInt8) : Prop where
  b : s.b = b
  k : s.k ≤ s.b.length
  r0 : 8388608 ≤ s.R
  r1 : s.R < 2147483648
  c0 : 0 ≤ s.C
  c1 : s.C ≤ s.R
theorem Ok.one {s : S} (h : Ok s) : OneOk s.one s.b := by
  obtain ⟨a1, a2, a3, a4, a5⟩ := h
  unfold S.one
  split
  · exact ⟨rfl, a1, by simp only; omega, by simp only; omega, a4, by simp only; omega⟩
  · exact ⟨rfl, a1, by simp only; omega, by simp only; omega, by simp only; omega, by simp only; omega⟩
theorem OneOk.widen {s t : S} {b : List UInt8} (h : OneOk s b) (hc : s.C < s.R) (e : s.widen = some t) : Ok t ∧ t.b = b :=
  ⟨widen_ok h.k (by have := h.r0; omega) (by have := h.r1; omega) h.c0 hc e, (widen_b e).trans h.b⟩
theorem Ok.direct : ∀ (n : Nat) {s t : S} {v u : Int}, Ok s → s.direct v n = .ok t u → Ok t ∧ t.b = s.b
  | 0, s, t, v, u, h, e => by cases e; exact ⟨h, rfl⟩
  | n + 1, s, t, v, u, h, e => by
    simp only [S.direct] at e
    split at e
    · cases e
    · split at e
      · cases e
      · rename_i t' ht
        obtain ⟨h1, h2⟩ := h.one.widen (by omega) ht
        obtain ⟨h3, h4⟩ := Ok.direct n h1 e
        exact ⟨h3, h4.trans h2⟩
end D

end Go.Proofs.YtbgnnjfpiblkmaaGreatDoor

namespace Go.Proofs.YtbgnnjfpiblkmaaGreatDoor
open Go
attribute [local irreducible] oMv oV oU oCall oCallV oBi oBin oUn oLoad oStore oNil oFld oField oIdx oIndex oPick oAlloc oBox oBuild oBs oConv oMk oSl oExt oFn oIface oMap oLook oMapUp oRange oNext oEntry oInv oAssert oPanic oRes pN pA pL pDr pIf gA pGd
attribute [local irreducible] oDf pDf dE

def Dec (d : Nat) (st : D.S) : HA := fun h => ∃ s : Sl, Sats [cel d ⟨226, [.slice s.a st.b.length s.c, .int .i64 st.k, .int .u32 st.R, .int .u32 st.C]⟩, rows cd_uint8 s st.b] h
abbrev refd (e : Int) : Value := .iface 268 (.int .i64 e)

section
variable {E w : World} {M : List HA} {Q : Value → World → Prop} {d : Nat} {st : D.S}

theorem Dec.opn (hS : Sat E w (Dec d st :: M)) : ∃ s : Sl, Sat E w (cel d ⟨226, [.slice s.a st.b.length s.c, .int .i64 st.k, .int .u32 st.R, .int .u32 st.C]⟩ :: rows cd_uint8 s st.b :: M) := by
  obtain ⟨s, hS⟩ := hS.ex
  exact ⟨s, hS.open_ (M := [_, _]) fun _ h => h⟩
theorem Dec.shut {s : Sl} {L N : List HA} {o : Ob} {l : List UInt8} (hS : Sat E w L) (st : D.S) [h1 : Fnd (cel d) L o N] [h2 : Fnd (rows cd_uint8 s) N l M] (ho : o = ⟨226, [.slice s.a l.length s.c, .int .i64 st.k, .int .u32 st.R, .int .u32 st.C]⟩) (hl : l = st.b) : Sat E w (Dec d st :: M) := by
  subst hl
  subst ho
  exact Sat.shut (M := [_, _]) (hS.fd2 (cel d) (rows cd_uint8 s)) fun _ h => ⟨s, h⟩

section
variable [Pan] {K : Value → World → Prop} {J : Value → Prop} {t : TypeId} {xo yo : Operand} {a b : Int}
theorem pN_ifr {n : Int} (hk : K (refd n) w) : pN Tryz.prog (oIface 268 (.int .i64 n)) w K := by
  have : (oIface 268 (.int .i64 n)).run Tryz.prog w = .ok (.value (refd n)) w := by kernel_rfl
  rw [pN_def, this, rN_value]; exact hk
theorem pN_pnr {n : Int} (h : Pan.z [{ v := refd n, recovered := false }] w) : pN Tryz.prog (oPanic (refd n)) w K := pN_panic (by kernel_rfl) h
theorem pN_orl (c : Int) (j : Nat) (hc : c = 2 ^ j) (ha : 0 ≤ a) (hb : 0 ≤ b ∧ b < c) (h : a * c + b < 4294967296) (hk : K (.int .u32 (a * c + b)) w) : pN Tryz.prog (oBin .or t xo yo (.int .u32 (a * c)) (.int .u32 b)) w K := by
  subst hc
  have e := or_low IntKind.u32.bits a b j ha hb.1 hb.2 h
  rw [pN_or, e, w_u32 (by have := Int.mul_nonneg ha (Int.le_of_lt (Int.pow_pos (n := 2) (m := j) (by omega))); omega)]
  exact hk
theorem pA_orl (c : Int) (j : Nat) (hc : c = 2 ^ j) (ha : 0 ≤ a) (hb : 0 ≤ b ∧ b < c) (h : a * c + b < 4294967296) (hk : J (.int .u32 (a * c + b))) : pA Tryz.prog (oBin .or t xo yo (.int .u32 (a * c)) (.int .u32 b)) J := by
  subst hc
  have e := or_low IntKind.u32.bits a b j ha hb.1 hb.2 h
  rw [pA_or, e, w_u32 (by have := Int.mul_nonneg ha (Int.le_of_lt (Int.pow_pos (n := 2) (m := j) (by omega))); omega)]
  exact hk
end

theorem Dwiden_ok [Pan] (hS : Sat E w (Dec d st :: M)) (hk : st.k ≤ st.b.length) (hb : st.b.length ≤ 225000000000000) (r0 : 0 < st.R) (c0 : 0 ≤ st.C) (c1 : st.C < st.R)
    (hQ : ∀ t w, st.widen = some t → Sat E w (Dec d t :: M) → Q (.tuple #[]) w) (hZ : ∀ w, st.widen = none → Sat E w (Dec d st :: M) → Pan.z [{ v := refd 1, recovered := false }] w) :
    Calls Tryz.prog 185 #[.pointer (some ⟨d, 0, none⟩)] w (retP Q) := by
  refine rcdec_Decoder_widen.calls ?_
  unfold rcdec_Decoder_widen.F
  obtain ⟨s, hS⟩ := Dec.opn hS
  repeat' (first | (refine pN_geq_s ?_ ?_ <;> intro hc <;> try (exfalso; omega)) | refine pIf_t ?_ | refine pIf_f ?_ | refine pN_l hS (by first | rfl | assumption) ?_ | refine pN_v (hk := ?_) | fail)
  · refine hQ st _ (by rw [D.S.widen, if_pos (by omega)]) (Dec.shut (d := d) (s := s) hS st rfl rfl)
  · refine ⟨fun w => st.k < st.b.length ∧ Sat E w (cel d ⟨226, [.slice s.a st.b.length s.c, .int .i64 st.k, .int .u32 st.R, .int .u32 st.C]⟩ :: rows cd_uint8 s st.b :: M), ?_, ?_⟩
    · repeat' (first | refine pN_ifr ?_ | refine pN_pnr ?_ | (refine pA_eql_s ?_ ?_ <;> intro hc <;> try (exfalso; first | omega | exact hc rfl | exact hc (by assumption) | exact absurd hc (by assumption))) | refine pIf_t ?_ | refine pIf_f ?_ | refine pL_l hS (by first | rfl | assumption) ?_ | (refine pDr_go hS ?_; clear hS; intro w hS) | refine pA_v (hk := ?_) | fail)
      · refine hZ _ ?_ (Dec.shut (d := d) (s := s) hS st rfl rfl)
        rw [D.S.widen, if_neg (by omega), List.getElem?_eq_none (by omega)]
      · exact ⟨by omega, hS⟩
    · clear hS
      rintro _ w ⟨hlt, hS⟩
      obtain ⟨x, hx⟩ : ∃ x, st.b[st.k]? = some x := ⟨st.b[st.k]'hlt, by simp⟩
      have hx2 := x.toNat_lt
      repeat' (first | refine pA_orl 256 8 (by decide) (by omega) (by omega) (by omega) ?_ | refine pL_ofb ?_ | refine pN_l hS (by first | rfl | assumption) ?_ | refine pL_l hS (by first | rfl | assumption) ?_ | refine pL_ld1 ha hS ?_ | (refine pN_s hS (by first | exact Nat.le_of_ble_eq_true rfl | assumption) (by rfl) ?_; clear hS; intro w hS; try simp only [List.set_cons_zero, List.set_cons_succ] at hS) | (refine pDr_go hS ?_; clear hS; intro w hS) | refine ⟨trivial, ?_⟩ | refine pA_ixk hS _ (by first | rfl | (exact (Int.toNat_of_nonneg (by omega)).symm)) (by first | rfl | omega | simpa only [go_sem] using True.intro | (simp only [go_sem]; omega)) (by assumption) fun a ha hel => ?_ | refine pN_v (hk := ?_) | refine pA_v (hk := ?_) | fail)
      refine hQ ⟨st.b, st.k + 1, st.R * 256, st.C * 256 + x.toNat⟩ _ (by rw [D.S.widen, if_neg (by omega), hx]) (Dec.shut (d := d) (s := s) hS ⟨st.b, st.k + 1, st.R * 256, st.C * 256 + x.toNat⟩ rfl rfl)

theorem upper_ok (hS : Sat E w (Dec d st :: M)) (c : Int) (c0 : 0 ≤ c) (h1 : st.C < c → True) (r1 : c ≤ st.R) (r2 : st.R < 4294967296) (hC : 0 ≤ st.C) (hC2 : st.C < st.R)
    (hQ : ∀ w, Sat E w (Dec d (st.cut c) :: M) → Q (.bool (decide (¬ st.C < c))) w) :
    Calls Tryz.prog 183 #[.pointer (some ⟨d, 0, none⟩), .int .u32 c] w (retP Q) := by
  refine rcdec_Decoder_upper.calls ?_
  unfold rcdec_Decoder_upper.F
  obtain ⟨s, hS⟩ := Dec.opn hS
  repeat' (first | (refine pN_lss_s ?_ ?_ <;> intro hc <;> try (exfalso; omega)) | refine pIf_t ?_ | refine pIf_f ?_ | refine pN_l hS (by first | rfl | assumption) ?_ | (refine pN_s hS (by first | exact Nat.le_of_ble_eq_true rfl | assumption) (by rfl) ?_; clear hS; intro w hS; try simp only [List.set_cons_zero, List.set_cons_succ] at hS) | refine pN_v (hk := ?_) | fail)
  · rw [decide_eq_false (by omega), D.S.cut, if_pos (by omega)] at hQ
    exact hQ _ (Dec.shut (d := d) (s := s) hS ⟨st.b, st.k, c, st.C⟩ rfl rfl)
  · rw [decide_eq_true (by omega), D.S.cut, if_neg (by omega)] at hQ
    exact hQ _ (Dec.shut (d := d) (s := s) hS ⟨st.b, st.k, st.R - c, st.C - c⟩ rfl rfl)

section
variable [Pan] {K : Value → World → Prop} {xo yo : Operand}
theorem pN_eqn {x : Nat} (hk : K (.bool true) w) : pN Tryz.prog (oBin .eql 20 (.tmp x) (.const .nilIface) .nilIface .nilIface) w K := by
  have : (oBin .eql 20 (.tmp x) (.const .nilIface) .nilIface .nilIface).run Tryz.prog w = .ok (.value (.bool true)) w := by kernel_rfl
  rw [pN_def, this, rN_value]; exact hk
theorem pN_eqr {n : Int} (hk : K (.bool false) w) : pN Tryz.prog (oBin .eql 20 xo yo (refd n) .nilIface) w K := by
  have : (oBin .eql 20 xo yo (refd n) .nilIface).run Tryz.prog w = .ok (.value (.bool false)) w := by kernel_rfl
  rw [pN_def, this, rN_value]; exact hk
theorem pN_asr {n : Int} (hk : K (.tuple #[.int .i64 n, .bool true]) w) : pN Tryz.prog (oAssert (refd n) 20 268 true) w K := by
  have : (oAssert (refd n) 20 268 true).run Tryz.prog w = .ok (.value (.tuple #[.int .i64 n, .bool true])) w := by kernel_rfl
  rw [pN_def, this, rN_value]; exact hk
end

theorem back_nil (hS : Sat E w M) {k R C : Int} (hQ : ∀ w, Sat E w M → Q (.int .i64 0) w) :
    Calls Tryz.prog 181 #[.pointer (some ⟨d, 0, none⟩), .agg #[.int .i64 k, .int .u32 R, .int .u32 C], .nilIface] w (retP Q) := by
  refine rcdec_Decoder_back.calls ?_
  unfold rcdec_Decoder_back.F
  repeat' (first | refine pN_eqn ?_ | refine pIf_t ?_ | (refine pN_bx hS (by rfl) ?_; clear hS; intro a w hS) | fail)
  exact hQ _ hS.to

theorem back_ref (hS : Sat E w (Dec d st :: M)) (k : Nat) (R C e : Int) (hQ : ∀ w, Sat E w (Dec d ⟨st.b, k, R, C⟩ :: M) → Q (.int .i64 e) w) :
    Calls Tryz.prog 181 #[.pointer (some ⟨d, 0, none⟩), .agg #[.int .i64 k, .int .u32 R, .int .u32 C], refd e] w (retP Q) := by
  refine rcdec_Decoder_back.calls ?_
  unfold rcdec_Decoder_back.F
  obtain ⟨s, hS⟩ := Dec.opn hS
  repeat' (first | refine pN_eqr ?_ | refine pN_asr ?_ | (refine pN_sa_at hS (by rfl) (by exact Nat.le_of_ble_eq_true rfl) (by rfl) ?_; clear hS; intro w hS) | refine pIf_f ?_ | refine pN_la hS (by rfl) ?_ | (refine pN_bx hS (by rfl) ?_; clear hS; intro a w hS) | refine pN_v (hk := ?_) | refine ⟨_, ?_, fun _ _ h => h⟩ | fail)
  have hS : Sat E w (cel d ⟨226, [.slice s.a st.b.length s.c, .int .i64 k, .int .u32 R, .int .u32 C]⟩ :: cel a ⟨224, [.int .i64 k, .int .u32 R, .int .u32 C]⟩ :: rows cd_uint8 s st.b :: M) := hS
  have hS : Sat E w (Dec d ⟨st.b, k, R, C⟩ :: cel a ⟨224, [.int .i64 k, .int .u32 R, .int .u32 C]⟩ :: M) := Dec.shut (d := d) (s := s) hS ⟨st.b, k, R, C⟩ rfl rfl
  exact hQ _ hS.to

theorem BitC_idle {p x7 x6 x3 x4 x5 : Nat} {l : List Int} {i bit : Int} {k R C : Int}
    (hS : Sat E w (Dec d st :: PSet p l :: cel x3 ⟨76, [.pointer (some ⟨d, 0, none⟩)]⟩ :: cel x4 ⟨137, [.pointer (some ⟨p, 0, none⟩)]⟩ :: cel x5 ⟨3, [.int .i64 i]⟩ :: cel x6 ⟨3, [.int .i64 bit]⟩ :: cel x7 ⟨38, [.int .i64 0]⟩ :: M))
    (h0 : 0 ≤ i) (h1 : i < l.length)
    (hQ : ∀ w, Sat E w (Dec d st :: PSet p (l.set i.toNat (B.next (l.getD i.toNat 0) bit)) :: cel x3 ⟨76, [.pointer (some ⟨d, 0, none⟩)]⟩ :: cel x4 ⟨137, [.pointer (some ⟨p, 0, none⟩)]⟩ :: cel x5 ⟨3, [.int .i64 i]⟩ :: cel x6 ⟨3, [.int .i64 bit]⟩ :: cel x7 ⟨38, [.int .i64 0]⟩ :: M) → Q (.tuple #[]) w) :
    rcdec_Decoder_Bit_c1.F .nilIface (.agg #[.int .i64 k, .int .u32 R, .int .u32 C]) (.pointer (some ⟨x3, 0, none⟩)) (.pointer (some ⟨x7, 0, none⟩)) (.pointer (some ⟨x6, 0, none⟩)) (.pointer (some ⟨x4, 0, none⟩)) (.pointer (some ⟨x5, 0, none⟩)) w Q := by
  unfold rcdec_Decoder_Bit_c1.F
  repeat' (first | (refine pc_rcdec_Decoder_back (back_nil (d := d) hS ?_); clear hS; intro w hS) | (refine pc_prob_Set_Turn (Turn_ok (hS.fd (PSet p)) i bit ?_); clear hS; intro w hS) | (refine pN_neq_s ?_ ?_ <;> intro hc <;> try (exfalso; first | omega | exact hc rfl | exact hc (by assumption) | exact absurd hc (by assumption))) | refine pIf_f ?_ | refine pN_l hS (by first | rfl | assumption) ?_ | refine pL_l hS (by first | rfl | assumption) ?_ | refine pL_la hS (by rfl) ?_ | (refine pN_s hS (by first | exact Nat.le_of_ble_eq_true rfl | assumption) (by rfl) ?_; clear hS; intro w hS; try simp only [List.set_cons_zero, List.set_cons_succ] at hS) | (refine pDr_go hS ?_; clear hS; intro w hS) | (refine pN_bx hS (by rfl) ?_; clear hS; intro a w hS) | refine ⟨trivial, ?_⟩ | fail)
  simp only [if_pos (show 0 ≤ i ∧ i < l.length from ⟨h0, h1⟩)] at hS
  exact hQ _ hS.to

theorem BitC_ref {p x7 x6 x3 x4 x5 : Nat} {i bit e0 : Int} {k : Nat} {R C e : Int} (he : e ≠ 0)
    (hS : Sat E w (Dec d st :: cel x3 ⟨76, [.pointer (some ⟨d, 0, none⟩)]⟩ :: cel x4 ⟨137, [.pointer (some ⟨p, 0, none⟩)]⟩ :: cel x5 ⟨3, [.int .i64 i]⟩ :: cel x6 ⟨3, [.int .i64 bit]⟩ :: cel x7 ⟨38, [.int .i64 e0]⟩ :: M))
    (hQ : ∀ w, Sat E w (Dec d ⟨st.b, k, R, C⟩ :: cel x3 ⟨76, [.pointer (some ⟨d, 0, none⟩)]⟩ :: cel x4 ⟨137, [.pointer (some ⟨p, 0, none⟩)]⟩ :: cel x5 ⟨3, [.int .i64 i]⟩ :: cel x6 ⟨3, [.int .i64 0]⟩ :: cel x7 ⟨38, [.int .i64 e]⟩ :: M) → Q (.tuple #[]) w) :
    rcdec_Decoder_Bit_c1.F (refd e) (.agg #[.int .i64 k, .int .u32 R, .int .u32 C]) (.pointer (some ⟨x3, 0, none⟩)) (.pointer (some ⟨x7, 0, none⟩)) (.pointer (some ⟨x6, 0, none⟩)) (.pointer (some ⟨x4, 0, none⟩)) (.pointer (some ⟨x5, 0, none⟩)) w Q := by
  unfold rcdec_Decoder_Bit_c1.F
  repeat' (first | (refine pc_rcdec_Decoder_back (back_ref (hS.fd (Dec d)) k R C e ?_); clear hS; intro w hS) | (refine pN_neq_s ?_ ?_ <;> intro hc <;> try (exfalso; first | omega | exact hc rfl | exact hc (by assumption) | exact absurd hc (by assumption))) | refine pIf_t ?_ | refine pN_l hS (by first | rfl | assumption) ?_ | refine pL_l hS (by first | rfl | assumption) ?_ | refine pL_la hS (by rfl) ?_ | (refine pN_s hS (by first | exact Nat.le_of_ble_eq_true rfl | assumption) (by rfl) ?_; clear hS; intro w hS; try simp only [List.set_cons_zero, List.set_cons_succ] at hS) | (refine pDr_go hS ?_; clear hS; intro w hS) | (refine pN_bx hS (by rfl) ?_; clear hS; intro a w hS) | refine ⟨trivial, ?_⟩ | fail)
  exact hQ _ hS.to

theorem DBit_ok {p : Nat} {l : List Int} (hS : Sat E w (Dec d st :: PSet p l :: M)) (ho : D.Ok st) (hf : B.Fine l) (hb : st.b.length ≤ 225000000000000) (i : Int)
    (hno : ¬ (0 ≤ i ∧ i < l.length) → ∀ w, Sat E w (Dec d st :: PSet p l :: M) → Q (.tuple #[.int .i64 0, .int .i64 7]) w)
    (hok : ∀ t v w, 0 ≤ i → i < l.length → st.bit (B.bound st.R (l.getD i.toNat 0)) = .ok t v → Sat E w (Dec d t :: PSet p (l.set i.toNat (B.next (l.getD i.toNat 0) v)) :: M) → Q (.tuple #[.int .i64 v, .int .i64 0]) w)
    (hre : ∀ e w, 0 ≤ i → i < l.length → st.bit (B.bound st.R (l.getD i.toNat 0)) = .no e → Sat E w (Dec d st :: PSet p l :: M) → Q (.tuple #[.int .i64 0, .int .i64 e]) w) :
    Calls Tryz.prog 163 #[.pointer (some ⟨d, 0, none⟩), .pointer (some ⟨p, 0, none⟩), .int .i64 i] w (retP Q) := by
  refine rcdec_Decoder_Bit.calls ?_
  unfold rcdec_Decoder_Bit.F
  by_cases h : 0 ≤ i ∧ i < l.length
  rotate_left 1
  · repeat' (first | (refine pc_prob_Set_At (At_no (hS.fd (PSet p)) i h ?_); clear hS; intro w hS) | (refine pN_neq_s ?_ ?_ <;> intro hc <;> try (exfalso; first | omega | exact hc rfl | exact hc (by assumption) | exact absurd hc (by assumption))) | refine pIf_t ?_ | refine pN_l hS (by first | rfl | assumption) ?_ | refine pL_l hS (by first | rfl | assumption) ?_ | refine pL_r hS (by rfl) ?_ | (refine pN_s hS (by first | exact Nat.le_of_ble_eq_true rfl | assumption) (by rfl) ?_; clear hS; intro w hS; try simp only [List.set_cons_zero, List.set_cons_succ] at hS) | (refine pDr_go hS ?_; clear hS; intro w hS) | (refine pN_nz hS ?_; clear hS; intro a w hS) | (refine pN_bx hS (by rfl) ?_; clear hS; intro a w hS) | refine ⟨trivial, ?_⟩ | refine ⟨⟨(by first | exact run_l hS (by first | rfl | assumption) | exact run_st hS (by first | rfl | omega) | exact run_ld1 ha hS | exact fun _ => run_l hS (by rfl) | exact fun _ => run_st hS (by first | rfl | omega) | exact fun _ => run_ld1 ha hS | exact fun h => Bool.noConfusion h), trivial⟩, ?_⟩ | refine pN_v (hk := ?_) | fail)
    exact hno h _ hS.to
  obtain ⟨x, hx⟩ : ∃ x, l[i.toNat]? = some x := ⟨l[i.toNat]'(by omega), by simp⟩
  have hxe : l.getD i.toNat 0 = x := by rw [List.getD_eq_getElem?_getD, hx]; rfl
  rw [hxe] at hok hre
  have hxf := hf.get hx
  have hmid := D.bound_mid ho.r0 hxf.1 hxf.2
  have q1 := ho.r0
  have q2 := ho.r1
  have q3 := ho.c0
  have q4 := ho.c1
  have hco := ho.cut hmid.1 hmid.2
  repeat' (first | (refine pc_prob_Set_At (At_in (hS.fd (PSet p)) i h.1 hx ?_); clear hS; intro w hS) | (refine pN_neq_s ?_ ?_ <;> intro hc <;> try (exfalso; first | omega | exact hc rfl | exact hc (by assumption) | exact absurd hc (by assumption))) | refine pIf_f ?_ | refine pN_l hS (by first | rfl | assumption) ?_ | (refine pN_s hS (by first | exact Nat.le_of_ble_eq_true rfl | assumption) (by rfl) ?_; clear hS; intro w hS; try simp only [List.set_cons_zero, List.set_cons_succ] at hS) | (refine pN_nz hS ?_; clear hS; intro a w hS) | (refine pN_bx hS (by rfl) ?_; clear hS; intro a w hS) | refine pN_fn ?_ | refine pN_v (hk := ?_) | fail)
  rename_i x3 _ x4 _ x5 _ x6 _ _ _
  clear hc
  revert a
  intro x7 hS
  have hS : Sat E w (Dec d st :: cel x3 ⟨76, [.pointer (some ⟨d, 0, none⟩)]⟩ :: cel x4 ⟨137, [.pointer (some ⟨p, 0, none⟩)]⟩ :: cel x5 ⟨3, [.int .i64 i]⟩ :: cel x6 ⟨3, [.int .i64 0]⟩ :: cel x7 ⟨38, [.int .i64 0]⟩ :: PSet p l :: M) := hS.to
  obtain ⟨s, hS⟩ := Dec.opn hS
  refine pN_la_at hS [.int .i64 st.k, .int .u32 st.R, .int .u32 st.C] rfl rfl ?_
  refine pDf_fn ?_
  let Z : Pan := ⟨fun ch w => ch = [{ v := refd 1, recovered := false }] ∧ (st.cut (B.bound st.R x)).widen = none ∧ ∃ (bit e0 : Int) (st' : D.S), st'.b = st.b ∧ Sat E w (Dec d st' :: cel x3 ⟨76, [.pointer (some ⟨d, 0, none⟩)]⟩ :: cel x4 ⟨137, [.pointer (some ⟨p, 0, none⟩)]⟩ :: cel x5 ⟨3, [.int .i64 i]⟩ :: cel x6 ⟨3, [.int .i64 bit]⟩ :: cel x7 ⟨38, [.int .i64 e0]⟩ :: PSet p l :: M)⟩
  refine ⟨Z, ?_, ?_⟩
  · clear hS
    rintro ch w ⟨rfl, hnone, bit, e0, st', hb', hS⟩
    refine dE_of call_rcdec_Decoder_Bit_c1 (u2 := .panicking [{ v := refd 1, recovered := true }]) (cap := [.pointer (some ⟨x3, 0, none⟩), .pointer (some ⟨x7, 0, none⟩), .pointer (some ⟨x6, 0, none⟩), .pointer (some ⟨x4, 0, none⟩), .pointer (some ⟨x5, 0, none⟩)]) (args := [.agg #[.int .i64 st.k, .int .u32 st.R, .int .u32 st.C]])
      (Q := fun r w => Sat E w (Dec d st :: cel x3 ⟨76, [.pointer (some ⟨d, 0, none⟩)]⟩ :: cel x4 ⟨137, [.pointer (some ⟨p, 0, none⟩)]⟩ :: cel x5 ⟨3, [.int .i64 i]⟩ :: cel x6 ⟨3, [.int .i64 0]⟩ :: cel x7 ⟨38, [.int .i64 1]⟩ :: PSet p l :: M)) rfl ?_ (rcdec_Decoder_Bit_c1.panics (BitC_ref (by decide) hS fun w hS => ?_))
    · clear hS
      rintro _ w hS
      repeat' (first | refine pL_r hS (by rfl) ?_ | fail)
      exact hre 1 _ h.1 h.2 (by rw [D.S.bit, hnone]) hS.to
    · rw [hb'] at hS
      exact hS
  · refine ⟨fun w => Sat E w (Dec d (st.cut (B.bound st.R x)) :: cel x3 ⟨76, [.pointer (some ⟨d, 0, none⟩)]⟩ :: cel x4 ⟨137, [.pointer (some ⟨p, 0, none⟩)]⟩ :: cel x5 ⟨3, [.int .i64 i]⟩ :: cel x6 ⟨3, [.int .i64 (st.bitAt (B.bound st.R x))]⟩ :: cel x7 ⟨38, [.int .i64 0]⟩ :: PSet p l :: M), ?_, ?_⟩
    · repeat' (first | refine pL_l hS (by first | rfl | assumption) ?_ | (refine pDr_go hS ?_; clear hS; intro w hS) | refine pA_v (hk := ?_) | fail)
      refine pc_prob_Bound (Calls.up (Bound_ok st.R x (by omega) (by omega) ?_))
      have hc0 := B.bound_pos (rng := st.R) (p := x) q1 hxf.1
      have hc1 := B.bound_lt (rng := st.R) (p := x) q1
      have hS := Dec.shut (d := d) (s := s) hS st rfl rfl
      have hv : st.bitAt (B.bound st.R x) = if st.C < B.bound st.R x then 0 else 1 := rfl
      repeat' (first | refine ⟨⟨(by first | exact run_l hS (by first | rfl | assumption) | exact run_st hS (by first | rfl | omega) | exact run_ld1 ha hS | exact fun _ => run_l hS (by rfl) | exact fun _ => run_st hS (by first | rfl | omega) | exact fun _ => run_ld1 ha hS | exact fun h => Bool.noConfusion h), trivial⟩, ?_⟩ | fail)
      refine pc_rcdec_Decoder_upper (Calls.up (upper_ok (hS.fd (Dec d)) (B.bound st.R x) (by omega) (fun _ => trivial) (by omega) q2 q3 q4 fun w hS => ?_))
      by_cases hlt : st.C < B.bound st.R x
      · rw [decide_eq_false (by omega)]
        rw [if_pos hlt] at hv
        rw [hv]
        repeat' (first | refine pIf_f ?_ | refine ⟨trivial, ?_⟩ | fail)
        exact hS.to
      · rw [decide_eq_true hlt]
        rw [if_neg hlt] at hv
        rw [hv]
        repeat' (first | refine pIf_t ?_ | (refine pN_s hS (by first | exact Nat.le_of_ble_eq_true rfl | assumption) (by rfl) ?_; clear hS; intro w hS; try simp only [List.set_cons_zero, List.set_cons_succ] at hS) | refine ⟨trivial, ?_⟩ | fail)
        exact hS.to
    · clear hS
      intro _ w hS
      repeat' (first | refine pN_l hS (by first | rfl | assumption) ?_ | fail)
      refine pc_rcdec_Decoder_widen (Dwiden_ok (hS.fd (Dec d)) hco.k (by rw [hco.b]; exact hb) (by have := hco.r0; omega) hco.c0 hco.c1 (fun t w ht hS => ?_) fun w hnone hS => ?_)
      · repeat' (first | refine pN_l hS (by first | rfl | assumption) ?_ | (refine pN_s hS (by first | exact Nat.le_of_ble_eq_true rfl | assumption) (by rfl) ?_; clear hS; intro w hS; try simp only [List.set_cons_zero, List.set_cons_succ] at hS) | fail)
        have hS : Sat E _ (Dec d t :: PSet p l :: cel x3 ⟨76, [.pointer (some ⟨d, 0, none⟩)]⟩ :: cel x4 ⟨137, [.pointer (some ⟨p, 0, none⟩)]⟩ :: cel x5 ⟨3, [.int .i64 i]⟩ :: cel x6 ⟨3, [.int .i64 (st.bitAt (B.bound st.R x))]⟩ :: cel x7 ⟨38, [.int .i64 0]⟩ :: M) := hS.to
        refine dE_of call_rcdec_Decoder_Bit_c1 (u2 := .returning) (cap := [.pointer (some ⟨x3, 0, none⟩), .pointer (some ⟨x7, 0, none⟩), .pointer (some ⟨x6, 0, none⟩), .pointer (some ⟨x4, 0, none⟩), .pointer (some ⟨x5, 0, none⟩)]) (args := [.agg #[.int .i64 st.k, .int .u32 st.R, .int .u32 st.C]])
          (Q := fun r w => Sat E w (Dec d t :: PSet p (l.set i.toNat (B.next x (st.bitAt (B.bound st.R x)))) :: cel x3 ⟨76, [.pointer (some ⟨d, 0, none⟩)]⟩ :: cel x4 ⟨137, [.pointer (some ⟨p, 0, none⟩)]⟩ :: cel x5 ⟨3, [.int .i64 i]⟩ :: cel x6 ⟨3, [.int .i64 (st.bitAt (B.bound st.R x))]⟩ :: cel x7 ⟨38, [.int .i64 0]⟩ :: M)) rfl ?_ (rcdec_Decoder_Bit_c1.idles (BitC_idle hS h.1 h.2 fun w hS => ?_))
        · clear hS
          rintro _ w hS
          repeat' (first | refine pL_r hS (by rfl) ?_ | fail)
          exact hok t _ _ h.1 h.2 (by rw [D.S.bit, ht]) hS.to
        · rw [hxe] at hS
          exact hS
      · exact ⟨rfl, hnone, st.bitAt (B.bound st.R x), 0, st.cut (B.bound st.R x), hco.b, hS⟩
end

end Go.Proofs.YtbgnnjfpiblkmaaGreatDoor

namespace Go.Proofs.YtbgnnjfpiblkmaaGreatDoor
open Go
section
variable [Pan] {P : Program} {t e : TypeId} {z : Value} {size bytes : Nat} {v : Value} {E w : World} {L M : List HA} {K : Value → World → Prop}

theorem pN_append_wide (ht : SlT P t e z size bytes) {ty : TypeId} {cs : List Bool} {n m : Nat} {xs news : List Value} {src : Value} (hS : Sat E w (own e size v n xs :: L)) (hr : Rd w size src m news) (h1 : ∀ u ∈ news, u.oneCell' = true)
    (hb : ((n + m) + (n + m) / 4 + 192) * bytes ≤ 281474976710656) (h63 : n + m ≤ 9223372036854775807)
    (h : ∀ v' w', Sat E w' (own e size v' (n + m) (xs ++ news) :: L) → K v' w') : pN P (oBi .append #[t, t] ty cs [v, src]) w K := by
  obtain ⟨i, hi, hz, hs, hby⟩ := ht.info
  obtain ⟨hl, ao, cap, rfl, hmc, hnil, hc⟩ := hr
  have hown := hS.own_at 0 rfl
  rw [pN_def]
  cases ao with
  | none =>
    obtain ⟨rfl, rfl⟩ := hnil rfl
    have hrun := run_append_owned_none (P := P) w 0 t ty e i size ht.under hi v n xs hown
    have : news = [] := List.length_eq_zero_iff.1 (by simpa using hl)
    subst this
    have e : (oBi .append #[t, t] ty cs [v, .slice none 0 0]).run P w = .ok (.value v) w := run_oV_ok hrun
    rw [e]
    exact h _ _ (by simpa using hS)
  | some a =>
    obtain ⟨v', w', hrun, hown', hgr, hni⟩ := run_append_own_wide (P := P) w 0 t ty e i z size bytes ht.under hi hz hs hby ht.zsize ht.pos v n xs hown a m cap news hl (hc a rfl) h1 (by unfold maxLen; omega) hb (Nat.zero_le _)
    have hblk : v'.ownBlock = v.ownBlock ∨ v'.ownBlock = some w.heap.size := by
      subst hs hby
      rcases hown.2 with ⟨rfl, rfl⟩ | ⟨g, c, cur, rfl, _, hg, _, _, hcs, _⟩
      · by_cases hm : m = 0
        · left
          rw [hni.2 ⟨rfl, hm⟩]
        · right
          have hx : xs = [] := List.eq_nil_of_length_eq_zero (by simpa using hown.1)
          have hr := run_append_nil (P := P) w t ty e i z ht.under hi hz a m cap news hl (hc a rfl) (by omega) (by omega) (by have hb := hb; simp only [Nat.zero_add] at hb; exact Nat.le_trans (Nat.mul_le_mul_right _ (by omega)) hb)
          have := hr.symm.trans hrun
          injection this with h1 h2
          rw [← h1]; rfl
      · by_cases hroom : n + m ≤ c
        · left
          have hfit : n * i.size + news.length ≤ cur.size := by rw [hl, hcs, ← Nat.add_mul]; exact Nat.mul_le_mul_right _ hroom
          have hr := run_append_room (P := P) w t ty e i ht.under hi g n c cur hg a m cap news hl (hc a rfl) h1 hroom hfit
          have := hr.symm.trans hrun
          injection this with h1 h2
          rw [← h1]; rfl
        · right
          have holds : ∀ j u, xs[j]? = some u → w.cell? ((⟨g, 0, none⟩ : Addr).add j) = some u := hown.cells (g := g) rfl
          have hr := run_append_grow (P := P) w t ty e i z ht.under hi hz ⟨g, 0, none⟩ n c xs hown.1 holds a m cap news hl (hc a rfl) (by omega) (by omega) (growslice_fits_wide (by omega) hb)
          have := hr.symm.trans hrun
          injection this with h1 h2
          rw [← h1]; rfl
    have e : (oBi .append #[t, t] ty cs [v, .slice (some a) m cap]).run P w = .ok (.value v') w' := run_oV_ok hrun
    rw [e]
    exact h _ _ (hS.grown hgr hown' hblk)
end

section
variable [Pan] {P : Program} {t ty : TypeId} {α : Type} {C : Cd α} {E w : World} {L M : List HA} {s s2 : Sl} {l m : List α} {n n2 : Nat} {K : Value → World → Prop}
theorem pN_appw {cs : List Bool} (hS : Sat E w L) [hw : Row P t α C] [hf : Fnd (rows C s) L l M] [hr : Rds C L s2 m] {z : Nat} [hz : Bt C z] (hn : n = l.length) (hn2 : n2 = m.length) (hb : ((l.length + m.length) + (l.length + m.length) / 4 + 192) * z ≤ 281474976710656)
    (hk : ∀ s' w', Sat E w' (rows C s' (l ++ m) :: M) → K (.slice s'.a (l ++ m).length s'.c) w') : pN P (oBi .append #[t, t] ty cs [.slice s.a n s.c, .slice s2.a n2 s2.c]) w K := by
  subst hn hn2
  rw [← hz.eq] at hb
  have h0 := hS.fd (rows C s)
  have hrd := hS.rds (C := C) (s := s2)
  have hp := hw.bpos
  have h63 : l.length + m.length ≤ 9223372036854775807 := by
    have : (l.length + m.length + (l.length + m.length) / 4 + 192) * 1 ≤ (l.length + m.length + (l.length + m.length) / 4 + 192) * C.bytes := Nat.mul_le_mul_left _ hp
    omega
  refine pN_append_wide Row.slt h0 hrd (C.flat_one m) hb h63 fun v' w' h1 => ?_
  obtain ⟨s', rfl⟩ := own_sl h1
  rw [← C.flat_append, ← List.length_append] at h1
  rw [← List.length_append]
  exact hk s' w' h1
theorem pN_appw0 {cs : List Bool} (hS : Sat E w L) [hw : Row P t α C] [hr : Rds C L s2 m] {z : Nat} [hz : Bt C z] (hn2 : n2 = m.length) (hb : (m.length + m.length / 4 + 192) * z ≤ 281474976710656)
    (hk : ∀ s' w', Sat E w' (rows C s' m :: L) → K (.slice s'.a m.length s'.c) w') : pN P (oBi .append #[t, t] ty cs [.slice none 0 0, .slice s2.a n2 s2.c]) w K := by
  have h0 : Sat E w (rows C ⟨none, 0⟩ [] :: L) := hS.nil C.e C.size
  haveI : Rds C (rows C ⟨none, 0⟩ [] :: L) s2 m := ⟨fun E w hS => hr.rd E w hS.drop⟩
  refine pN_appw (s := ⟨none, 0⟩) (l := []) h0 rfl hn2 (by simpa using hb) fun s' w' h => ?_
  rw [List.nil_append] at h ⊢
  exact hk s' w' h
end

end Go.Proofs.YtbgnnjfpiblkmaaGreatDoor

namespace Go.Proofs.YtbgnnjfpiblkmaaGreatDoor
open Go
attribute [local irreducible] oMv oV oU oCall oCallV oBi oBin oUn oLoad oStore oNil oFld oField oIdx oIndex oPick oAlloc oBox oBuild oBs oConv oMk oSl oExt oFn oIface oMap oLook oMapUp oRange oNext oEntry oInv oAssert oPanic oRes pN pA pL pDr pIf gA pGd
attribute [local irreducible] oDf pDf dE

section
variable {E w : World} {M : List HA} {Q : Value → World → Prop} {d : Nat} {st : D.S}

theorem DirC_idle {x2 x4 x5 : Nat} {v : Int} {k R C : Int}
    (hS : Sat E w (Dec d st :: cel x2 ⟨76, [.pointer (some ⟨d, 0, none⟩)]⟩ :: cel x4 ⟨148, [.int .u32 v]⟩ :: cel x5 ⟨38, [.int .i64 0]⟩ :: M))
    (hQ : ∀ w, Sat E w (Dec d st :: cel x2 ⟨76, [.pointer (some ⟨d, 0, none⟩)]⟩ :: cel x4 ⟨148, [.int .u32 v]⟩ :: cel x5 ⟨38, [.int .i64 0]⟩ :: M) → Q (.tuple #[]) w) :
    rcdec_Decoder_Direct_c1.F .nilIface (.agg #[.int .i64 k, .int .u32 R, .int .u32 C]) (.pointer (some ⟨x2, 0, none⟩)) (.pointer (some ⟨x5, 0, none⟩)) (.pointer (some ⟨x4, 0, none⟩)) w Q := by
  unfold rcdec_Decoder_Direct_c1.F
  repeat' (first | (refine pc_rcdec_Decoder_back (back_nil (d := d) hS ?_); clear hS; intro w hS) | (refine pN_neq_s ?_ ?_ <;> intro hc <;> try (exfalso; first | omega | exact hc rfl | exact hc (by assumption) | exact absurd hc (by assumption))) | refine pIf_f ?_ | refine pN_l hS (by first | rfl | assumption) ?_ | refine pL_l hS (by first | rfl | assumption) ?_ | refine pL_la hS (by rfl) ?_ | (refine pN_s hS (by first | exact Nat.le_of_ble_eq_true rfl | assumption) (by rfl) ?_; clear hS; intro w hS; try simp only [List.set_cons_zero, List.set_cons_succ] at hS) | (refine pDr_go hS ?_; clear hS; intro w hS) | (refine pN_bx hS (by rfl) ?_; clear hS; intro a w hS) | refine ⟨trivial, ?_⟩ | fail)
  exact hQ _ hS.to

theorem DirC_ref {x2 x4 x5 : Nat} {v e0 : Int} {k : Nat} {R C e : Int} (he : e ≠ 0)
    (hS : Sat E w (Dec d st :: cel x2 ⟨76, [.pointer (some ⟨d, 0, none⟩)]⟩ :: cel x4 ⟨148, [.int .u32 v]⟩ :: cel x5 ⟨38, [.int .i64 e0]⟩ :: M))
    (hQ : ∀ w, Sat E w (Dec d ⟨st.b, k, R, C⟩ :: cel x2 ⟨76, [.pointer (some ⟨d, 0, none⟩)]⟩ :: cel x4 ⟨148, [.int .u32 0]⟩ :: cel x5 ⟨38, [.int .i64 e]⟩ :: M) → Q (.tuple #[]) w) :
    rcdec_Decoder_Direct_c1.F (refd e) (.agg #[.int .i64 k, .int .u32 R, .int .u32 C]) (.pointer (some ⟨x2, 0, none⟩)) (.pointer (some ⟨x5, 0, none⟩)) (.pointer (some ⟨x4, 0, none⟩)) w Q := by
  unfold rcdec_Decoder_Direct_c1.F
  repeat' (first | (refine pc_rcdec_Decoder_back (back_ref (hS.fd (Dec d)) k R C e ?_); clear hS; intro w hS) | (refine pN_neq_s ?_ ?_ <;> intro hc <;> try (exfalso; first | omega | exact hc rfl | exact hc (by assumption) | exact absurd hc (by assumption))) | refine pIf_t ?_ | refine pN_l hS (by first | rfl | assumption) ?_ | refine pL_l hS (by first | rfl | assumption) ?_ | refine pL_la hS (by rfl) ?_ | (refine pN_s hS (by first | exact Nat.le_of_ble_eq_true rfl | assumption) (by rfl) ?_; clear hS; intro w hS; try simp only [List.set_cons_zero, List.set_cons_succ] at hS) | (refine pDr_go hS ?_; clear hS; intro w hS) | (refine pN_bx hS (by rfl) ?_; clear hS; intro a w hS) | refine ⟨trivial, ?_⟩ | fail)
  exact hQ _ hS.to

set_option maxHeartbeats 2000000 in
theorem DDirect_ok (hS : Sat E w (Dec d st :: M)) (ho : D.Ok st) (hb : st.b.length ≤ 225000000000000) (n : Int)
    (hno : ¬ (0 ≤ n ∧ n ≤ 32) → ∀ w, Sat E w (Dec d st :: M) → Q (.tuple #[.int .u32 0, .int .i64 7]) w)
    (hok : ∀ t v w, 0 ≤ n → n ≤ 32 → st.direct 0 n.toNat = .ok t v → Sat E w (Dec d t :: M) → Q (.tuple #[.int .u32 v, .int .i64 0]) w)
    (hre : ∀ e w, 0 ≤ n → n ≤ 32 → st.direct 0 n.toNat = .no e → Sat E w (Dec d st :: M) → Q (.tuple #[.int .u32 0, .int .i64 e]) w) :
    Calls Tryz.prog 166 #[.pointer (some ⟨d, 0, none⟩), .int .i64 n] w (retP Q) := by
  refine rcdec_Decoder_Direct.calls ?_
  unfold rcdec_Decoder_Direct.F
  by_cases h : 0 ≤ n ∧ n ≤ 32
  rotate_left 1
  · repeat' (first | ((first | refine pN_lss_s ?_ ?_ | refine pN_gtr_s ?_ ?_) <;> intro hc <;> try (exfalso; omega)) | refine pIf_t ?_ | refine pGd_go (by rfl) ?_ | refine pGd_no (by rfl) ?_ | refine pL_r hS (by rfl) ?_ | (refine pN_s hS (by first | exact Nat.le_of_ble_eq_true rfl | assumption) (by rfl) ?_; clear hS; intro w hS; try simp only [List.set_cons_zero, List.set_cons_succ] at hS) | (refine pN_nz hS ?_; clear hS; intro a w hS) | (refine pN_bx hS (by rfl) ?_; clear hS; intro a w hS) | refine pN_v (hk := ?_) | fail)
    all_goals exact hno h _ hS.to
  obtain ⟨m, rfl⟩ : ∃ m : Nat, n = m := ⟨n.toNat, by omega⟩
  rw [Int.toNat_natCast] at hok hre
  repeat' (first | ((first | refine pN_lss_s ?_ ?_ | refine pN_gtr_s ?_ ?_) <;> intro hc <;> try (exfalso; omega)) | refine pIf_f ?_ | refine pGd_go (by rfl) ?_ | refine pN_l hS (by first | rfl | assumption) ?_ | (refine pN_nz hS ?_; clear hS; intro a w hS) | (refine pN_bx hS (by rfl) ?_; clear hS; intro a w hS) | refine pN_fn ?_ | refine pN_v (hk := ?_) | fail)
  rename_i x2 _ x4 _ _
  revert a
  intro x5 hS
  have hS : Sat E w (Dec d st :: cel x2 ⟨76, [.pointer (some ⟨d, 0, none⟩)]⟩ :: cel x4 ⟨148, [.int .u32 0]⟩ :: cel x5 ⟨38, [.int .i64 0]⟩ :: M) := hS.to
  obtain ⟨s, hS⟩ := Dec.opn hS
  refine pN_la_at hS [.int .i64 st.k, .int .u32 st.R, .int .u32 st.C] rfl rfl ?_
  refine pDf_fn ?_
  let Z : Pan := ⟨fun ch w => ∃ (e : Int), ch = [{ v := refd e, recovered := false }] ∧ e ≠ 0 ∧ st.direct 0 m = .no e ∧ ∃ (v e0 : Int) (st' : D.S), st'.b = st.b ∧ Sat E w (Dec d st' :: cel x2 ⟨76, [.pointer (some ⟨d, 0, none⟩)]⟩ :: cel x4 ⟨148, [.int .u32 v]⟩ :: cel x5 ⟨38, [.int .i64 e0]⟩ :: M)⟩
  refine ⟨Z, ?_, ?_⟩
  · clear hS
    rintro ch w ⟨e, rfl, hne, hnone, v, e0, st', hb', hS⟩
    refine dE_of call_rcdec_Decoder_Direct_c1 (u2 := .panicking [{ v := refd e, recovered := true }]) (cap := [.pointer (some ⟨x2, 0, none⟩), .pointer (some ⟨x5, 0, none⟩), .pointer (some ⟨x4, 0, none⟩)]) (args := [.agg #[.int .i64 st.k, .int .u32 st.R, .int .u32 st.C]])
      (Q := fun r w => Sat E w (Dec d st :: cel x2 ⟨76, [.pointer (some ⟨d, 0, none⟩)]⟩ :: cel x4 ⟨148, [.int .u32 0]⟩ :: cel x5 ⟨38, [.int .i64 e]⟩ :: M)) rfl ?_ (rcdec_Decoder_Direct_c1.panics (DirC_ref hne hS fun w hS => ?_))
    · clear hS
      rintro _ w hS
      repeat' (first | refine pL_r hS (by rfl) ?_ | fail)
      exact hre e _ h.1 h.2 hnone hS.to
    · rw [hb'] at hS
      exact hS
  · have hS : Sat E w (Dec d st :: cel x2 ⟨76, [.pointer (some ⟨d, 0, none⟩)]⟩ :: cel x4 ⟨148, [.int .u32 0]⟩ :: cel x5 ⟨38, [.int .i64 0]⟩ :: M) := Dec.shut (d := d) (s := s) hS st rfl rfl
    refine ⟨fun i w => ∃ (j : Nat) (t : D.S) (v : Int), i = .int .i64 j ∧ j ≤ m ∧ D.Ok t ∧ t.b = st.b ∧ 0 ≤ v ∧ v < 2 ^ j ∧ t.direct v (m - j) = st.direct 0 m ∧ Sat E w (Dec d t :: cel x2 ⟨76, [.pointer (some ⟨d, 0, none⟩)]⟩ :: cel x4 ⟨148, [.int .u32 v]⟩ :: cel x5 ⟨38, [.int .i64 0]⟩ :: M), fun i _ => m - (RowKit.intOf i).toNat, ⟨0, st, 0, rfl, Nat.zero_le _, ho, rfl, by omega, by simp, rfl, hS⟩, ?_⟩
    clear hS
    rintro _ _ w ⟨j, t, v, rfl, hj, hot, htb, v0, v1, htd, hS⟩
    by_cases hlt : j < m
    · rw [show m - j = (m - (j + 1)) + 1 from by omega, D.S.direct] at htd
      have h32 : (2 : Int) ^ j ≤ 2147483648 := by
        have : (2 : Int) ^ 31 = 2147483648 := by decide
        rw [← this]
        exact R.two_le (by omega)
      have q0 := hot.r0
      have q1 := hot.r1
      have q2 := hot.c0
      have q3 := hot.c1
      have one := hot.one
      have o1 := one.c1
      have hbit : t.bitAt (t.R / 2) = if t.C < t.R / 2 then 0 else 1 := rfl
      have e1 : t.one = if t.C < t.R / 2 then ⟨t.b, t.k, t.R / 2, t.C⟩ else ⟨t.b, t.k, t.R / 2, t.C - t.R / 2⟩ := rfl
      have oR : t.one.R = t.R / 2 := by rw [e1]; split <;> rfl
      have ok : t.one.k = t.k := by rw [e1]; split <;> rfl
      obtain ⟨s, hS⟩ := Dec.opn hS
      repeat' (first | (refine pN_lss_s ?_ ?_ <;> intro hc <;> try (exfalso; omega)) | refine pIf_t ?_ | fail)
      refine ⟨fun w => ∃ t2 : D.S, t.one.widen = some t2 ∧ ¬ t.one.R ≤ t.one.C ∧ Sat E w (Dec d t2 :: cel x2 ⟨76, [.pointer (some ⟨d, 0, none⟩)]⟩ :: cel x4 ⟨148, [.int .u32 (2 * v + t.bitAt (t.R / 2))]⟩ :: cel x5 ⟨38, [.int .i64 0]⟩ :: M), ?_, ?_⟩
      rotate_left 1
      · clear hS
        rintro _ w ⟨t2, ht2, hnle, hS⟩
        rw [if_neg hnle, ht2] at htd
        have ho2 := one.widen (by omega) ht2
        have hb01 := D.bitAt_01 t (t.R / 2)
        repeat' (first | refine pN_v (hk := ?_) | fail)
        refine ⟨⟨j + 1, t2, 2 * v + t.bitAt (t.R / 2), rfl, by omega, ho2.1, ho2.2.trans htb, by omega, by rw [Int.pow_succ]; omega, htd, hS.to⟩, by simp [RowKit.intOf] <;> omega⟩
      repeat' (first | refine pN_l hS (by first | rfl | assumption) ?_ | (refine pN_s hS (by first | exact Nat.le_of_ble_eq_true rfl | assumption) (by rfl) ?_; clear hS; intro w hS; try simp only [List.set_cons_zero, List.set_cons_succ] at hS) | refine pN_v (hk := ?_) | fail)
      refine ⟨fun w => Sat E w (cel d ⟨226, [.slice s.a t.b.length s.c, .int .i64 t.k, .int .u32 t.R, .int .u32 t.one.C]⟩ :: rows cd_uint8 s t.b :: cel x2 ⟨76, [.pointer (some ⟨d, 0, none⟩)]⟩ :: cel x4 ⟨148, [.int .u32 (2 * v + t.bitAt (t.R / 2))]⟩ :: cel x5 ⟨38, [.int .i64 0]⟩ :: M), ?_, ?_⟩
      · by_cases hge : t.C < t.R / 2
        · rw [if_pos hge] at hbit e1
          have e2 : 2 * v + t.bitAt (t.R / 2) = v * 2 := by omega
          rw [e2, e1]
          repeat' (first | (refine pN_geq_s ?_ ?_ <;> intro hc <;> try (exfalso; omega)) | refine pIf_f ?_ | refine pN_l hS (by first | rfl | assumption) ?_ | refine pN_v (hk := ?_) | fail)
          exact hS.to
        · rw [if_neg hge] at hbit e1
          have e2 : 2 * v + t.bitAt (t.R / 2) = v * 2 + 1 := by omega
          rw [e2, e1]
          repeat' (first | refine pN_orl 2 1 (by decide) (by omega) (by omega) (by omega) ?_ | (refine pN_geq_s ?_ ?_ <;> intro hc <;> try (exfalso; omega)) | refine pIf_t ?_ | refine pN_l hS (by first | rfl | assumption) ?_ | (refine pN_s hS (by first | exact Nat.le_of_ble_eq_true rfl | assumption) (by rfl) ?_; clear hS; intro w hS; try simp only [List.set_cons_zero, List.set_cons_succ] at hS) | refine pN_v (hk := ?_) | fail)
          exact hS.to
      clear hS
      intro _ w hS
      skip
      refine ⟨fun w => ¬ t.one.R ≤ t.one.C ∧ Sat E w (cel d ⟨226, [.slice s.a t.b.length s.c, .int .i64 t.k, .int .u32 t.R, .int .u32 t.one.C]⟩ :: rows cd_uint8 s t.b :: cel x2 ⟨76, [.pointer (some ⟨d, 0, none⟩)]⟩ :: cel x4 ⟨148, [.int .u32 (2 * v + t.bitAt (t.R / 2))]⟩ :: cel x5 ⟨38, [.int .i64 0]⟩ :: M), ?_, ?_⟩
      · repeat' (first | refine pN_ifr ?_ | refine pN_pnr ?_ | (refine pN_eql_s ?_ ?_ <;> intro hc <;> try (exfalso; first | omega | exact hc rfl | exact hc (by assumption) | exact absurd hc (by assumption))) | refine pIf_t ?_ | refine pIf_f ?_ | refine pN_l hS (by first | rfl | assumption) ?_ | refine pN_v (hk := ?_) | fail)
        · have hS : Sat E w (Dec d ⟨t.b, t.k, t.R, t.one.C⟩ :: cel x2 ⟨76, [.pointer (some ⟨d, 0, none⟩)]⟩ :: cel x4 ⟨148, [.int .u32 (2 * v + t.bitAt (t.R / 2))]⟩ :: cel x5 ⟨38, [.int .i64 0]⟩ :: M) := Dec.shut (d := d) (s := s) hS ⟨t.b, t.k, t.R, t.one.C⟩ rfl rfl
          refine ⟨2, rfl, by decide, ?_, 2 * v + t.bitAt (t.R / 2), 0, ⟨t.b, t.k, t.R, t.one.C⟩, htb, hS⟩
          rw [← htd, if_pos (by omega)]
        · exact ⟨by omega, hS.to⟩
      clear hS
      rintro _ w ⟨hnle, hS⟩
      repeat' (first | refine pN_l hS (by first | rfl | assumption) ?_ | (refine pN_s hS (by first | exact Nat.le_of_ble_eq_true rfl | assumption) (by rfl) ?_; clear hS; intro w hS; try simp only [List.set_cons_zero, List.set_cons_succ] at hS) | refine pN_v (hk := ?_) | fail)
      have e3 : (⟨t.b, t.k, t.R / 2, t.one.C⟩ : D.S) = t.one := by rw [e1]; split <;> rfl
      have hS : Sat E w (Dec d ⟨t.b, t.k, t.R / 2, t.one.C⟩ :: cel x2 ⟨76, [.pointer (some ⟨d, 0, none⟩)]⟩ :: cel x4 ⟨148, [.int .u32 (2 * v + t.bitAt (t.R / 2))]⟩ :: cel x5 ⟨38, [.int .i64 0]⟩ :: M) := Dec.shut (d := d) (s := s) hS ⟨t.b, t.k, t.R / 2, t.one.C⟩ rfl rfl
      rw [e3] at hS
      have ob := one.b
      have o0 := one.r0
      have oc := one.c0
      refine pc_rcdec_Decoder_widen (Dwiden_ok hS one.k (by rw [ob, htb]; exact hb) (by omega) oc (by omega) (fun t2 w ht2 hS => ?_) fun w hnone hS => ?_)
      · exact ⟨t2, ht2, hnle, hS⟩
      · refine ⟨1, rfl, by decide, ?_, 2 * v + t.bitAt (t.R / 2), 0, t.one, ob.trans htb, hS⟩
        rw [← htd, if_neg hnle, hnone]
    · obtain rfl : j = m := by omega
      rw [Nat.sub_self, D.S.direct] at htd
      repeat' (first | (refine pN_lss_s ?_ ?_ <;> intro hc <;> try (exfalso; omega)) | refine pIf_f ?_ | refine pN_l hS (by first | rfl | assumption) ?_ | (refine pN_s hS (by first | exact Nat.le_of_ble_eq_true rfl | assumption) (by rfl) ?_; clear hS; intro w hS; try simp only [List.set_cons_zero, List.set_cons_succ] at hS) | fail)
      have hS : Sat E _ (Dec d t :: cel x2 ⟨76, [.pointer (some ⟨d, 0, none⟩)]⟩ :: cel x4 ⟨148, [.int .u32 v]⟩ :: cel x5 ⟨38, [.int .i64 0]⟩ :: M) := hS.to
      refine dE_of call_rcdec_Decoder_Direct_c1 (u2 := .returning) (cap := [.pointer (some ⟨x2, 0, none⟩), .pointer (some ⟨x5, 0, none⟩), .pointer (some ⟨x4, 0, none⟩)]) (args := [.agg #[.int .i64 st.k, .int .u32 st.R, .int .u32 st.C]])
        (Q := fun r w => Sat E w (Dec d t :: cel x2 ⟨76, [.pointer (some ⟨d, 0, none⟩)]⟩ :: cel x4 ⟨148, [.int .u32 v]⟩ :: cel x5 ⟨38, [.int .i64 0]⟩ :: M)) rfl ?_ (rcdec_Decoder_Direct_c1.idles (DirC_idle hS fun w hS => hS))
      clear hS
      rintro _ w hS
      repeat' (first | refine pL_r hS (by rfl) ?_ | fail)
      exact hok t v _ h.1 h.2 htd.symm hS.to

theorem Done_ok (hS : Sat E w (Dec d st :: M)) (hQ : ∀ w, Sat E w (Dec d st :: M) → Q (.bool (decide (st.k = st.b.length ∧ st.C = 0))) w) : Calls Tryz.prog 90 #[.pointer (some ⟨d, 0, none⟩)] w (retP Q) := by
  refine rcdec_Decoder_Done.calls ?_
  unfold rcdec_Decoder_Done.F
  obtain ⟨s, hS⟩ := Dec.opn hS
  have hQ := fun w h => hQ w (Dec.shut (d := d) (s := s) (L := cel d ⟨226, [.slice s.a st.b.length s.c, .int .i64 st.k, .int .u32 st.R, .int .u32 st.C]⟩ :: rows cd_uint8 s st.b :: M) h st rfl rfl)
  by_cases h1 : st.k = st.b.length
  · by_cases h2 : st.C = 0
    · rw [decide_eq_true ⟨h1, h2⟩] at hQ
      repeat' (first | (refine pA_eql_s ?_ ?_ <;> intro hc <;> try (exfalso; first | omega | exact hc rfl | exact hc (by assumption) | exact absurd hc (by assumption))) | refine gA_go (by rfl) ?_ | refine pL_l hS (by first | rfl | assumption) ?_ | (refine pDr_go hS ?_; clear hS; intro w hS) | refine pA_v (hk := ?_) | fail)
      exact hQ _ hS
    · rw [decide_eq_false (fun h => h2 h.2)] at hQ
      repeat' (first | (refine pA_eql_s ?_ ?_ <;> intro hc <;> try (exfalso; first | omega | exact hc rfl | exact hc (by assumption) | exact absurd hc (by assumption))) | refine gA_go (by rfl) ?_ | refine pL_l hS (by first | rfl | assumption) ?_ | (refine pDr_go hS ?_; clear hS; intro w hS) | refine pA_v (hk := ?_) | fail)
      exact hQ _ hS
  · rw [decide_eq_false (fun h => h1 h.1)] at hQ
    repeat' (first | (refine pA_eql_s ?_ ?_ <;> intro hc <;> try (exfalso; first | omega | exact hc rfl | exact hc (by assumption) | exact absurd hc (by assumption))) | refine gA_no (by rfl) ?_ | refine pL_l hS (by first | rfl | assumption) ?_ | (refine pDr_go hS ?_; clear hS; intro w hS) | refine pA_v (hk := ?_) | fail)
    exact hQ _ hS

theorem pN_bdd [Pan] {K : Value → World → Prop} {a : Option Addr} {n c : Nat} {x y z : Int} (hk : K (.agg #[.slice a n c, .int .i64 x, .int .u32 y, .int .u32 z]) w) : pN Tryz.prog (oBuild 226 [(0, .slice a n c), (1, .agg #[.int .i64 x, .int .u32 y, .int .u32 z])]) w K := by
  have : (oBuild 226 [(0, .slice a n c), (1, .agg #[.int .i64 x, .int .u32 y, .int .u32 z])]).run Tryz.prog w = .ok (.value (.agg #[.slice a n c, .int .i64 x, .int .u32 y, .int .u32 z])) w := by kernel_rfl
  rw [pN_def, this, rN_value]; exact hk

theorem DNew_ok {s0 : Sl} {l : List UInt8} (hS : Sat E w M) [hr : Rds cd_uint8 M s0 l] (hb : l.length ≤ 225000000000000)
    (hok : ∀ t d w, D.start l = .ok t () → Sat E w (Dec d t :: M) → Q (.tuple #[.pointer (some ⟨d, 0, none⟩), .int .i64 0]) w)
    (hre : ∀ e w, D.start l = .no e → Sat E w M → Q (.tuple #[.pointer none, .int .i64 e]) w) :
    Calls Tryz.prog 87 #[.slice s0.a l.length s0.c] w (retP Q) := by
  refine rcdec_New.calls ?_
  unfold rcdec_New.F
  by_cases h5 : l.length < 5
  · repeat' (first | (refine pN_lss_s ?_ ?_ <;> intro hc <;> try (exfalso; omega)) | refine pIf_t ?_ | refine pN_v (hk := ?_) | fail)
    exact hre 1 _ (by rw [D.start, if_pos h5]) hS
  obtain ⟨b0, hb0⟩ : ∃ x, l[0]? = some x := ⟨l[0]'(by omega), by simp⟩
  repeat' (first | (refine pN_appw0 hS rfl (by omega) ?_; clear hS; intro s w hS) | (refine pN_lss_s ?_ ?_ <;> intro hc <;> try (exfalso; omega)) | refine pIf_f ?_ | (refine pN_bx hS (by rfl) ?_; clear hS; intro a w hS) | refine pN_v (hk := ?_) | fail)
  try refine pN_bdd ?_
  skip
  revert a
  intro bd hS
  refine pN_sl2 hS 1 5 rfl rfl rfl (by omega) (by omega) fun s4 hp => ?_
  have hr4 : ∀ (L : List HA) [Rds cd_uint8 L s0 l], Rds cd_uint8 L s4 ((l.drop 1).take (5 - 1)) := fun L h => hp.rd L h
  have hl4 : ((l.drop 1).take (5 - 1)).length = 4 := by rw [List.length_take, List.length_drop]; omega
  repeat' (first | refine pN_v (hk := ?_) | fail)
  refine ⟨fun v w => ∃ i : Nat, v = .int .i64 i ∧ i ≤ 4 ∧ Sat E w (cel bd ⟨226, [.slice s.a l.length s.c, .int .i64 5, .int .u32 4294967295, .int .u32 (D.front l i)]⟩ :: rows cd_uint8 s l :: M), fun v _ => 4 - (RowKit.intOf v).toNat, ⟨0, rfl, by omega, by rw [D.front_0]; exact hS⟩, ?_⟩
  clear hS
  rintro _ _ w ⟨i, rfl, hi, hS⟩
  by_cases hlt : i < 4
  · obtain ⟨x, hx0⟩ : ∃ x, l[i + 1]? = some x := ⟨l[i + 1]'(by omega), by simp⟩
    have hx : ((l.drop 1).take (5 - 1))[i]? = some x := by rw [List.getElem?_take, if_pos (by omega), List.getElem?_drop, Nat.add_comm]; exact hx0
    have hx2 := x.toNat_lt
    have hfs := D.front_succ l i hx0
    have hf3 := D.front_lt l i (by omega)
    repeat' (first | refine pN_orl 256 8 (by decide) (by omega) (by omega) (by omega) ?_ | (refine pN_lss_s ?_ ?_ <;> intro hc <;> try (exfalso; omega)) | refine pIf_t ?_ | refine pN_ofb ?_ | refine pN_l hS (by first | rfl | assumption) ?_ | refine pN_ld1 ha hS ?_ | (refine pN_s hS (by first | exact Nat.le_of_ble_eq_true rfl | assumption) (by rfl) ?_; clear hS; intro w hS; try simp only [List.set_cons_zero, List.set_cons_succ] at hS) | refine pN_ixk hS _ (by first | rfl | (exact (Int.toNat_of_nonneg (by omega)).symm)) (by first | rfl | omega | simpa only [go_sem] using True.intro | (simp only [go_sem]; omega)) (by assumption) fun a ha hel => ?_ | refine pN_v (hk := ?_) | fail)
    rw [← hfs] at hS
    exact ⟨⟨i + 1, rfl, by omega, hS⟩, by simp [RowKit.intOf] <;> omega⟩
  · obtain rfl : i = 4 := by omega
    have hf4 := D.front_bd l 4 (by omega)
    have h4 : (256 : Int) ^ 4 = 4294967296 := by decide
    have hbe : b0 = 0 ↔ (b0.toNat : Int) = ((0 : UInt8).toNat : Int) := ⟨fun e => by rw [e], fun e => UInt8.toNat_inj.1 (by omega)⟩
    have hst : D.start l = if b0 ≠ 0 ∨ D.front l 4 = 4294967295 then .no 2 else .ok ⟨l, 5, 4294967295, D.front l 4⟩ () := by
      rw [D.start, if_neg h5, hb0]; simp
    repeat' (first | (refine pN_lss_s ?_ ?_ <;> intro hc <;> try (exfalso; omega)) | ((first | refine pA_eql_s ?_ ?_ | refine pA_neq_s ?_ ?_) <;> intro hc <;> try (exfalso; first | omega | exact hc rfl | exact hc (by assumption) | exact absurd hc (by assumption))) | refine pIf_t ?_ | refine pIf_f ?_ | refine gA_go (by rfl) ?_ | refine gA_no (by rfl) ?_ | refine pL_l hS (by first | rfl | assumption) ?_ | refine pL_ld1 ha hS ?_ | (refine pDr_go hS ?_; clear hS; intro w hS) | refine pA_ixk hS _ (by first | rfl | (exact (Int.toNat_of_nonneg (by omega)).symm)) (by first | rfl | omega | simpa only [go_sem] using True.intro | (simp only [go_sem]; omega)) (by assumption) fun a ha hel => ?_ | refine pA_v (hk := ?_) | fail)
    · exact hre 2 _ (by rw [hst, if_pos (.inr hc)]) hS.to
    · have hS := Dec.shut (d := bd) (s := s) hS ⟨l, 5, 4294967295, D.front l 4⟩ rfl rfl
      refine hok ⟨l, 5, 4294967295, D.front l 4⟩ _ _ ?_ hS
      rw [hst, if_neg]
      rintro (h | h)
      · exact h (hbe.2 (by assumption))
      · exact hc h
    · exact hre 2 _ (by rw [hst, if_pos (.inl fun e => hc (hbe.1 e))]) hS.to
end

end Go.Proofs.YtbgnnjfpiblkmaaGreatDoor

namespace Go.Proofs.YtbgnnjfpiblkmaaGreatDoor
open Go
attribute [local irreducible] oMv oV oU oCall oCallV oBi oBin oUn oLoad oStore oNil oFld oField oIdx oIndex oPick oAlloc oBox oBuild oBs oConv oMk oSl oExt oFn oIface oMap oLook oMapUp oRange oNext oEntry oInv oAssert oPanic oRes pN pA pL pDr pIf gA pGd

namespace D
def S.bitQ (st : S) (l : List Int) (i : Int) : S × List Int × Int × Int :=
  if 0 ≤ i ∧ i < l.length then match st.bit (B.bound st.R (l.getD i.toNat 0)) with
    | .ok t v => (t, l.set i.toNat (B.next (l.getD i.toNat 0) v), v, 0)
    | .no e => (st, l, 0, e)
  else (st, l, 0, 7)
def S.dirQ (st : S) (n : Int) : S × Int × Int :=
  if 0 ≤ n ∧ n ≤ 32 then match st.direct 0 n.toNat with
    | .ok t v => (t, v, 0)
    | .no e => (st, 0, e)
  else (st, 0, 7)
theorem bit_mid {st : S} (ho : Ok st) {l : List Int} (hf : B.Fine l) {i : Int} (h : 0 ≤ i ∧ i < l.length) : 65536 ≤ B.bound st.R (l.getD i.toNat 0) ∧ 65536 ≤ st.R - B.bound st.R (l.getD i.toNat 0) := by
  have hx : l[i.toNat]? = some (l.getD i.toNat 0) := by
    rw [List.getD_eq_getElem?_getD, List.getElem?_eq_getElem (show i.toNat < l.length by omega)]; rfl
  have hp := hf.get hx
  exact bound_mid ho.r0 hp.1 hp.2
theorem bitQ_ok {st : S} (ho : Ok st) {l : List Int} (hf : B.Fine l) (i : Int) : Ok (st.bitQ l i).1 ∧ (st.bitQ l i).1.b = st.b ∧ B.Fine (st.bitQ l i).2.1 ∧ (st.bitQ l i).2.1.length = l.length := by
  unfold S.bitQ
  split
  · rename_i h
    have hm := bit_mid ho hf h
    split
    · rename_i t v e
      have := ho.bit hm.1 hm.2 e
      have hx : l[i.toNat]? = some (l.getD i.toNat 0) := by
        rw [List.getD_eq_getElem?_getD, List.getElem?_eq_getElem (show i.toNat < l.length by omega)]; rfl
      have o1 := ((⟨R.Ok.new, hf⟩ : R.TS.Ok ⟨R.S.new, l⟩).bit h.1 h.2 v).1.f
      exact ⟨this.1, this.2.1, o1, by simp⟩
    · exact ⟨ho, rfl, hf, rfl⟩
  · exact ⟨ho, rfl, hf, rfl⟩
theorem dirQ_ok {st : S} (ho : Ok st) (n : Int) : Ok (st.dirQ n).1 ∧ (st.dirQ n).1.b = st.b := by
  unfold S.dirQ
  split
  · split
    · rename_i t v e
      exact Ok.direct _ ho e
    · exact ⟨ho, rfl⟩
  · exact ⟨ho, rfl⟩
abbrev A := S × List Int
theorem bitQ_v {st : S} {l : List Int} {i : Int} : (st.bitQ l i).2.2.1 = 0 ∨ (st.bitQ l i).2.2.1 = 1 := by
  unfold S.bitQ
  split
  · split
    · rename_i t v e
      unfold S.bit at e
      split at e
      · cases e; exact bitAt_01 _ _
      · cases e
    · exact .inl rfl
  · exact .inl rfl

end D

section
variable {E w : World} {M : List HA} {Q : Value → World → Prop} {d p : Nat} {st : D.S} {l : List Int}

theorem DBit_q (hS : Sat E w (Dec d st :: PSet p l :: M)) (ho : D.Ok st) (hf : B.Fine l) (hb : st.b.length ≤ 225000000000000) (i : Int)
    (hQ : ∀ w, Sat E w (Dec d (st.bitQ l i).1 :: PSet p (st.bitQ l i).2.1 :: M) → Q (.tuple #[.int .i64 (st.bitQ l i).2.2.1, .int .i64 (st.bitQ l i).2.2.2]) w) :
    Calls Tryz.prog 163 #[.pointer (some ⟨d, 0, none⟩), .pointer (some ⟨p, 0, none⟩), .int .i64 i] w (retP Q) := by
  unfold D.S.bitQ at hQ
  refine DBit_ok hS ho hf hb i (fun h w hS => ?_) (fun t v w h0 h1 e hS => ?_) fun e w h0 h1 he hS => ?_
  · simp only [if_neg h] at hQ; exact hQ w hS
  · simp only [if_pos (show 0 ≤ i ∧ i < l.length from ⟨h0, h1⟩), e] at hQ; exact hQ w hS
  · simp only [if_pos (show 0 ≤ i ∧ i < l.length from ⟨h0, h1⟩), he] at hQ; exact hQ w hS
theorem DDirect_q (hS : Sat E w (Dec d st :: M)) (ho : D.Ok st) (hb : st.b.length ≤ 225000000000000) (n : Int)
    (hQ : ∀ w, Sat E w (Dec d (st.dirQ n).1 :: M) → Q (.tuple #[.int .u32 (st.dirQ n).2.1, .int .i64 (st.dirQ n).2.2]) w) :
    Calls Tryz.prog 166 #[.pointer (some ⟨d, 0, none⟩), .int .i64 n] w (retP Q) := by
  unfold D.S.dirQ at hQ
  refine DDirect_ok hS ho hb n (fun h w hS => ?_) (fun t v w h0 h1 e hS => ?_) fun e w h0 h1 he hS => ?_
  · simp only [if_neg h] at hQ; exact hQ w hS
  · simp only [if_pos (show 0 ≤ n ∧ n ≤ 32 from ⟨h0, h1⟩), e] at hQ; exact hQ w hS
  · simp only [if_pos (show 0 ≤ n ∧ n ≤ 32 from ⟨h0, h1⟩), he] at hQ; exact hQ w hS
theorem DNew_in {s0 : Sl} {l : List UInt8} (hS : Sat E w M) [hr : Rds cd_uint8 M s0 l] (hb : l.length ≤ 225000000000000) {t : D.S} (h : D.start l = .ok t ())
    (hok : ∀ d w, Sat E w (Dec d t :: M) → Q (.tuple #[.pointer (some ⟨d, 0, none⟩), .int .i64 0]) w) : Calls Tryz.prog 87 #[.slice s0.a l.length s0.c] w (retP Q) :=
  DNew_ok hS hb (fun t' d w e hS => by rw [h] at e; cases e; exact hok d w hS) fun e w he _ => by rw [h] at he; cases he
end

end Go.Proofs.YtbgnnjfpiblkmaaGreatDoor

namespace Go.Proofs.YtbgnnjfpiblkmaaGreatDoor
open Go

namespace D
structure In (s f : R.S) : Prop where
  k : s.k ≤ f.k
  lo : s.N * 256 ^ (f.k - s.k) ≤ f.N
  hi : f.N < (s.N + s.R) * 256 ^ (f.k - s.k)
theorem In.self {f : R.S} (h : 0 < f.R) : In f f := ⟨Nat.le_refl _, by simp, by simp; omega⟩
theorem In.wide {s f : R.S} (h : In ⟨s.N * 256, s.R * 256, s.k + 1⟩ f) : In s f := by
  obtain ⟨h1, h2, h3⟩ := h
  have h1 : s.k + 1 ≤ f.k := h1
  have e : f.k - s.k = (f.k - (s.k + 1)) + 1 := by omega
  have e2 : ∀ x : Int, x * 256 ^ (f.k - s.k) = x * 256 * 256 ^ (f.k - (s.k + 1)) := fun x => by rw [e, Int.pow_succ, Int.mul_comm (256 ^ _) 256, ← Int.mul_assoc]
  refine ⟨by omega, by rw [e2]; exact h2, ?_⟩
  rw [e2, Int.add_mul]
  exact h3
theorem In.widen {s f : R.S} (h0 : 65536 ≤ s.R) (h : In s.widen f) : In s f := by
  by_cases hr : s.R < 16777216
  · rw [R.S.widen_go (by omega) hr] at h
    rw [R.S.widen_no (show ¬ s.R * 256 < 16777216 by omega)] at h
    exact h.wide
  · rwa [R.S.widen_no hr] at h
def seen (f : R.S) (k : Nat) : Int := f.N / 256 ^ (f.k - k)
theorem In.seen {s f : R.S} (h : In s f) : s.N ≤ seen f s.k ∧ seen f s.k < s.N + s.R := by
  have p : (0 : Int) < 256 ^ (f.k - s.k) := Int.pow_pos (by omega)
  exact ⟨(Int.le_ediv_iff_mul_le p).2 h.lo, (Int.ediv_lt_iff_lt_mul p).2 h.hi⟩

structure Begins (b : List UInt8) (f : R.S) : Prop where
  len : f.k + 5 ≤ b.length
  num : ∀ i, i ≤ f.k + 5 → R.num (b.take i) = f.N / 256 ^ (f.k + 5 - i)
theorem Begins.of {f : R.S} (h : R.Ok f) (more : List UInt8) : Begins (f.bytes ++ more) f := by
  have hl : f.bytes.length = f.k + 5 := R.digits_length _ _
  refine ⟨by rw [List.length_append]; omega, fun i hi => ?_⟩
  rw [List.take_append_of_le_length (by omega)]
  have h1 : R.num f.bytes = f.N := by
    rw [R.S.bytes, R.num_digits]
    have h5 := h.top
    have h6 := h.n0
    have h7 := h.r0
    have e : (256 : Int) ^ (f.k + 5) = 256 * (4294967296 * 256 ^ f.k) := by
      rw [Int.pow_add, show (256 : Int) ^ 5 = 256 * 4294967296 from by decide, Int.mul_comm, Int.mul_assoc]
    exact Int.emod_eq_of_lt h6 (by rw [e]; omega)
  have h2 := R.num_append (f.bytes.take i) (f.bytes.drop i)
  rw [List.take_append_drop, h1, List.length_drop, hl] at h2
  have h3 := R.num_nonneg (f.bytes.drop i)
  have h4 := R.num_lt (f.bytes.drop i)
  rw [List.length_drop, hl] at h4
  have p : (0 : Int) < 256 ^ (f.k + 5 - i) := Int.pow_pos (by omega)
  rw [h2, Int.add_comm, Int.add_mul_ediv_right _ _ (by omega), Int.ediv_eq_zero_of_lt h3 h4, Int.zero_add]
theorem Begins.seen {b : List UInt8} {f : R.S} (h : Begins b f) {k : Nat} (hk : k ≤ f.k) : R.num (b.take (k + 5)) = D.seen f k := by
  rw [h.num _ (by omega), D.seen, show f.k + 5 - (k + 5) = f.k - k from by omega]

structure Fol (b : List UInt8) (f s : R.S) (d : S) : Prop where
  b : d.b = b
  k : d.k = s.k + 5
  R : d.R = s.R
  C : d.C = D.seen f s.k - s.N

theorem Fol.widen {b : List UInt8} {f s : R.S} {d : S} (hb : Begins b f) (h : Fol b f s d) (h0 : 65536 ≤ s.R) (hi : In s.widen f) : ∃ t, d.widen = some t ∧ Fol b f s.widen t := by
  obtain ⟨h1, h2, h3, h4⟩ := h
  by_cases hr : s.R < 16777216
  · have e1 : s.widen = ⟨s.N * 256, s.R * 256, s.k + 1⟩ := by
      rw [R.S.widen_go (by omega) hr, R.S.widen_no (show ¬ s.R * 256 < 16777216 by omega)]
    rw [e1] at hi ⊢
    have hk : s.k + 1 ≤ f.k := hi.k
    have hl := hb.len
    obtain ⟨x, hx⟩ : ∃ x, b[s.k + 5]? = some x := ⟨b[s.k + 5]'(by omega), by simp⟩
    have e2 := hb.seen (k := s.k) (by omega)
    have e3 := hb.seen (k := s.k + 1) hk
    rw [show s.k + 1 + 5 = (s.k + 5) + 1 from by omega, List.take_add_one, hx, Option.toList_some, R.num_snoc, e2] at e3
    refine ⟨⟨d.b, d.k + 1, d.R * 256, d.C * 256 + x.toNat⟩, ?_, ⟨h1, (show d.k + 1 = s.k + 1 + 5 by omega), by simp only [h3], ?_⟩⟩
    · rw [S.widen, if_neg (by omega), h1, h2, hx]
    · simp only [h4, ← e3]
      omega
  · rw [R.S.widen_no hr] at hi ⊢
    exact ⟨d, by rw [S.widen, if_pos (by omega)], ⟨h1, h2, h3, h4⟩⟩

theorem Fol.bit {b : List UInt8} {f s : R.S} {d : S} (hb : Begins b f) (h : Fol b f s d) {c : Int} (bit : Int) (hbit : bit = 0 ∨ bit = 1) (c0 : 65536 ≤ c) (c1 : 65536 ≤ s.R - c) (hi : In (s.cut c bit) f) :
    In s f ∧ ∃ t, d.bit c = .ok t bit ∧ Fol b f (s.cut c bit) t := by
  obtain ⟨h1, h2, h3, h4⟩ := h
  rcases hbit with rfl | rfl
  · rw [R.S.cut, if_pos rfl] at hi ⊢
    have hi2 := In.widen (s := ⟨s.N, c, s.k⟩) (by simp only; omega) hi
    have hs := hi2.seen
    simp only at hs
    have p : (0 : Int) < 256 ^ (f.k - s.k) := Int.pow_pos (by omega)
    have his : In s f := ⟨hi2.k, hi2.lo, Int.lt_of_lt_of_le hi2.hi (Int.mul_le_mul_of_nonneg_right (by simp only; omega) (by simp only; omega))⟩
    have hlt : d.C < c := by omega
    have hcut : d.cut c = ⟨d.b, d.k, c, d.C⟩ := by rw [S.cut, if_pos hlt]
    have hf : Fol b f ⟨s.N, c, s.k⟩ (d.cut c) := by rw [hcut]; exact ⟨h1, h2, rfl, h4⟩
    obtain ⟨t, ht, hft⟩ := hf.widen hb (by simp only; omega) hi
    refine ⟨his, t, ?_, hft⟩
    rw [S.bit, ht, S.bitAt, if_pos hlt]
  · rw [R.S.cut, if_neg (by omega)] at hi ⊢
    have hi2 := In.widen (s := ⟨s.N + c, s.R - c, s.k⟩) (by simp only; omega) hi
    have hs := hi2.seen
    simp only at hs
    have p : (0 : Int) < 256 ^ (f.k - s.k) := Int.pow_pos (by omega)
    have his : In s f := by
      refine ⟨hi2.k, Int.le_trans (Int.mul_le_mul_of_nonneg_right (show s.N ≤ s.N + c by omega) (by omega)) hi2.lo, ?_⟩
      have := hi2.hi
      simp only at this
      rwa [show s.N + c + (s.R - c) = s.N + s.R from by omega] at this
    have hge : ¬ d.C < c := by omega
    have hcut : d.cut c = ⟨d.b, d.k, d.R - c, d.C - c⟩ := by rw [S.cut, if_neg hge]
    have hf : Fol b f ⟨s.N + c, s.R - c, s.k⟩ (d.cut c) := by rw [hcut]; exact ⟨h1, h2, by simp only [h3], by simp only [h4]; omega⟩
    obtain ⟨t, ht, hft⟩ := hf.widen hb (by simp only; omega) hi
    refine ⟨his, t, ?_, hft⟩
    rw [S.bit, ht, S.bitAt, if_neg hge]
end D

end Go.Proofs.YtbgnnjfpiblkmaaGreatDoor

namespace Go.Proofs.YtbgnnjfpiblkmaaGreatDoor
open Go

namespace D
theorem Fol.at_ (b : List UInt8) (f s : R.S) : Fol b f s ⟨b, s.k + 5, s.R, seen f s.k - s.N⟩ := ⟨rfl, rfl, rfl, rfl⟩

theorem Fol.one {b : List UInt8} {f s : R.S} {d : S} (hb : Begins b f) (h : Fol b f s d) (hr : 16777216 ≤ s.R) {x : Int} (hx : x = 0 ∨ x = 1) (hi : In (s.one x) f) :
    In s f ∧ d.one.C < d.one.R ∧ d.bitAt (d.R / 2) = x ∧ ∃ t, d.one.widen = some t ∧ Fol b f (s.one x) t := by
  obtain ⟨h1, h2, h3, h4⟩ := h
  rcases hx with rfl | rfl
  · rw [R.S.one, if_neg (by omega)] at hi ⊢
    have hi2 := In.widen (s := ⟨s.N, s.R / 2, s.k⟩) (by simp only; omega) hi
    have hs := hi2.seen
    simp only at hs
    have p : (0 : Int) < 256 ^ (f.k - s.k) := Int.pow_pos (by omega)
    have his : In s f := ⟨hi2.k, hi2.lo, Int.lt_of_lt_of_le hi2.hi (Int.mul_le_mul_of_nonneg_right (by simp only; omega) (by simp only; omega))⟩
    have hlt : d.C < d.R / 2 := by rw [h3]; omega
    have ho : d.one = ⟨d.b, d.k, d.R / 2, d.C⟩ := by rw [S.one, if_pos hlt]
    have hf : Fol b f ⟨s.N, s.R / 2, s.k⟩ d.one := by rw [ho]; exact ⟨h1, h2, by simp only [h3], h4⟩
    obtain ⟨t, ht, hft⟩ := hf.widen hb (by simp only; omega) hi
    refine ⟨his, by rw [ho]; exact hlt, by rw [S.bitAt, if_pos hlt], t, ht, hft⟩
  · rw [R.S.one, if_pos rfl] at hi ⊢
    have hi2 := In.widen (s := ⟨s.N + s.R / 2, s.R / 2, s.k⟩) (by simp only; omega) hi
    have hs := hi2.seen
    simp only at hs
    have p : (0 : Int) < 256 ^ (f.k - s.k) := Int.pow_pos (by omega)
    have his : In s f := by
      refine ⟨hi2.k, Int.le_trans (Int.mul_le_mul_of_nonneg_right (show s.N ≤ s.N + s.R / 2 by omega) (by omega)) hi2.lo, Int.lt_of_lt_of_le hi2.hi (Int.mul_le_mul_of_nonneg_right (by simp only; omega) (by simp only; omega))⟩
    have hge : ¬ d.C < d.R / 2 := by rw [h3]; omega
    have ho : d.one = ⟨d.b, d.k, d.R / 2, d.C - d.R / 2⟩ := by rw [S.one, if_neg hge]
    have hf : Fol b f ⟨s.N + s.R / 2, s.R / 2, s.k⟩ d.one := by rw [ho]; exact ⟨h1, h2, by simp only [h3], by simp only [h4, h3]; omega⟩
    obtain ⟨t, ht, hft⟩ := hf.widen hb (by simp only; omega) hi
    refine ⟨his, by rw [ho, h3]; simp only [h4]; omega, by rw [S.bitAt, if_neg hge], t, ht, hft⟩

theorem bits_top (v : Int) (n : Nat) : v % 2 ^ (n + 1) = v / 2 ^ n % 2 * 2 ^ n + v % 2 ^ n := by
  rw [Int.pow_succ]
  have p : (0 : Int) < 2 ^ n := Int.pow_pos (by omega)
  generalize (2 : Int) ^ n = q at p
  have h1 := Int.emod_add_mul_ediv v q
  have h2 := Int.emod_add_mul_ediv (v / q) 2
  have h3 := Int.emod_add_mul_ediv v (q * 2)
  have h4 : v / q / 2 = v / (q * 2) := by rw [Int.ediv_ediv_of_nonneg (by omega)]
  rw [h4] at h2
  generalize v / (q * 2) = d at h2 h3
  generalize v / q = c at h1 h2 ⊢
  generalize c % 2 = e at h2 ⊢
  grind
theorem Fol.direct {b : List UInt8} {f : R.S} (hb : Begins b f) (v : Int) : ∀ (n : Nat) {s : R.S} {d : S} (u : Int), R.Ok s → Fol b f s d → In (s.direct v n) f →
    In s f ∧ ∃ t, d.direct u n = .ok t (u * 2 ^ n + v % 2 ^ n) ∧ Fol b f (s.direct v n) t
  | 0, s, d, u, ho, h, hi => ⟨hi, d, by simp [S.direct, Int.emod_one], h⟩
  | n + 1, s, d, u, ho, h, hi => by
    simp only [R.S.direct] at hi ⊢
    obtain ⟨hi2, _⟩ := Fol.direct hb v n (s := s.one (v / 2 ^ n % 2)) 0 (ho.one _) (Fol.at_ b f _) hi
    obtain ⟨h1, h2, h3, t, h4, h5⟩ := h.one hb ho.r0 (by omega) hi2
    obtain ⟨_, t2, h6, h7⟩ := Fol.direct hb v n (2 * u + v / 2 ^ n % 2) (ho.one _) h5 hi
    refine ⟨h1, t2, ?_, h7⟩
    rw [S.direct, if_neg (by omega), h4, h3]
    simp only [h6]
    rw [bits_top, Int.pow_succ]
    congr 1
    grind
end D

namespace R
theorem bit_mid {a : TS} (h : a.Ok) {i : Int} (h0 : 0 ≤ i) (h1 : i < a.l.length) : 65536 ≤ B.bound a.s.R (a.l.getD i.toNat 0) ∧ 65536 ≤ a.s.R - B.bound a.s.R (a.l.getD i.toNat 0) := by
  have hx : a.l[i.toNat]? = some (a.l.getD i.toNat 0) := by
    rw [List.getD_eq_getElem?_getD, List.getElem?_eq_getElem (show i.toNat < a.l.length by omega)]; rfl
  have hp := h.f.get hx
  exact D.bound_mid h.s.r0 hp.1 hp.2
end R

namespace D
theorem Fol.start {b : List UInt8} {f : R.S} (hb : Begins b f) (hi : In R.S.new f) : ∃ t, D.start b = .ok t () ∧ Fol b f R.S.new t := by
  have hs := hi.seen
  have hl := hb.len
  have hN : R.S.new.N = 0 := rfl
  have hR : R.S.new.R = 4294967295 := rfl
  have hK : R.S.new.k = 0 := rfl
  rw [hN, hR, hK] at hs
  obtain ⟨b0, hb0⟩ : ∃ x, b[0]? = some x := ⟨b[0]'(by omega), by simp⟩
  have e := hb.seen (k := 0) (by omega)
  rw [Nat.zero_add] at e
  have hsplit : b.take 5 = b0 :: (b.drop 1).take 4 := by
    cases b with
    | nil => simp at hl
    | cons x l => simp at hb0; subst hb0; rfl
  have hn := R.num_append [b0] ((b.drop 1).take 4)
  have hl4 : ((b.drop 1).take 4).length = 4 := by rw [List.length_take, List.length_drop]; omega
  rw [List.singleton_append, ← hsplit, e, hl4] at hn
  have h1 : R.num [b0] = b0.toNat := by simp [R.num]
  have h4 : (256 : Int) ^ 4 = 4294967296 := by decide
  rw [h1, h4] at hn
  have hfb := front_bd b 4 (by omega)
  have hfe : front b 4 = R.num ((b.drop 1).take 4) := rfl
  have hz : b0.toNat = 0 := by omega
  have hb00 : b0 = 0 := UInt8.toNat_inj.1 hz
  subst hb00
  have hft : front b 4 = seen f 0 := by omega
  refine ⟨⟨b, 5, 4294967295, front b 4⟩, ?_, ⟨rfl, rfl, rfl, by rw [hN, hK]; simp only [hft]; omega⟩⟩
  rw [D.start, if_neg (by omega), hb0, if_neg]
  rintro (h | h)
  · exact h rfl
  · omega
theorem seen_self (f : R.S) : seen f f.k = f.N := by rw [seen, Nat.sub_self, Int.pow_zero, Int.ediv_one]
end D

end Go.Proofs.YtbgnnjfpiblkmaaGreatDoor

namespace Go.Proofs.YtbgnnjfpiblkmaaGreatDoor
open Go

namespace R
def nodeL (l : List Int) : Int := l.foldl (fun m b => 2 * m + b) 1
def horner (l : List Int) : Int := l.foldl (fun m b => 2 * m + b) 0
def backv (l : List Int) : Int := l.foldr (fun b m => b + 2 * m) 0
def val (back : Bool) (l : List Int) : Int := if back then backv l else horner l
theorem nodeL_snoc (l : List Int) (b : Int) : nodeL (l ++ [b]) = 2 * nodeL l + b := by simp [nodeL]
theorem horner_snoc (l : List Int) (b : Int) : horner (l ++ [b]) = 2 * horner l + b := by simp [horner]
theorem backv_snoc (b : Int) : ∀ l : List Int, backv (l ++ [b]) = backv l + b * 2 ^ l.length
  | [] => by simp [backv]
  | x :: l => by
    have := backv_snoc b l
    simp only [backv, List.cons_append, List.foldr_cons, List.length_cons, Int.pow_succ] at this ⊢
    rw [this]
    grind
def Bits (l : List Int) : Prop := ∀ b ∈ l, b = 0 ∨ b = 1
theorem Bits.snoc {l : List Int} {b : Int} (h : Bits l) (hb : b = 0 ∨ b = 1) : Bits (l ++ [b]) := by
  intro x hx
  rcases List.mem_append.1 hx with hx | hx
  · exact h x hx
  · rw [List.mem_singleton.1 hx]; exact hb
theorem Bits.init {l : List Int} {b : Int} (h : Bits (l ++ [b])) : Bits l ∧ (b = 0 ∨ b = 1) := ⟨fun x hx => h x (List.mem_append_left _ hx), h b (by simp)⟩
theorem nodeL_bd {l : List Int} : Bits l → (2 : Int) ^ l.length ≤ nodeL l ∧ nodeL l < 2 ^ (l.length + 1) := by
  induction l using snoc_ind with
  | h0 => intro _; simp [nodeL]
  | h1 l b ih =>
    intro h
    obtain ⟨h1, h2⟩ := h.init
    have := ih h1
    rw [nodeL_snoc, List.length_append, List.length_cons, List.length_nil, Int.pow_succ, Int.pow_succ _ (l.length + (0 + 1))]
    rw [Int.pow_succ] at this ⊢
    generalize (2 : Int) ^ l.length = q at *
    omega
theorem horner_bd {l : List Int} : Bits l → 0 ≤ horner l ∧ horner l < 2 ^ l.length := by
  induction l using snoc_ind with
  | h0 => intro _; simp [horner]
  | h1 l b ih =>
    intro h
    obtain ⟨h1, h2⟩ := h.init
    have := ih h1
    rw [horner_snoc, List.length_append, List.length_cons, List.length_nil, Int.pow_succ]
    generalize (2 : Int) ^ l.length = q at *
    omega
theorem backv_bd {l : List Int} : Bits l → 0 ≤ backv l ∧ backv l < 2 ^ l.length := by
  induction l using snoc_ind with
  | h0 => intro _; simp [backv]
  | h1 l b ih =>
    intro h
    obtain ⟨h1, h2⟩ := h.init
    have := ih h1
    rw [backv_snoc, List.length_append, List.length_cons, List.length_nil, Int.pow_succ]
    generalize (2 : Int) ^ l.length = q at *
    rcases h2 with rfl | rfl <;> omega
def part (back : Bool) (n : Nat) (l : List Int) : Int := if back then backv l else horner l * 2 ^ (n - l.length)
end R

namespace D
def walk (at_ : Int) (z : A) : Nat → A × List Int × Int
  | 0 => (z, [], 0)
  | k + 1 => if (walk at_ z k).2.2 ≠ 0 then walk at_ z k
    else if ((walk at_ z k).1.1.bitQ (walk at_ z k).1.2 (at_ + R.nodeL (walk at_ z k).2.1)).2.2.2 = 0 then
      ((((walk at_ z k).1.1.bitQ (walk at_ z k).1.2 (at_ + R.nodeL (walk at_ z k).2.1)).1, ((walk at_ z k).1.1.bitQ (walk at_ z k).1.2 (at_ + R.nodeL (walk at_ z k).2.1)).2.1), (walk at_ z k).2.1 ++ [((walk at_ z k).1.1.bitQ (walk at_ z k).1.2 (at_ + R.nodeL (walk at_ z k).2.1)).2.2.1], 0)
    else ((walk at_ z k).1, (walk at_ z k).2.1, ((walk at_ z k).1.1.bitQ (walk at_ z k).1.2 (at_ + R.nodeL (walk at_ z k).2.1)).2.2.2)
theorem walk_step {at_ : Int} {z y : A} {k : Nat} {l : List Int} (h : walk at_ z k = (y, l, 0)) : walk at_ z (k + 1) =
    if (y.1.bitQ y.2 (at_ + R.nodeL l)).2.2.2 = 0 then (((y.1.bitQ y.2 (at_ + R.nodeL l)).1, (y.1.bitQ y.2 (at_ + R.nodeL l)).2.1), l ++ [(y.1.bitQ y.2 (at_ + R.nodeL l)).2.2.1], 0) else (y, l, (y.1.bitQ y.2 (at_ + R.nodeL l)).2.2.2) := by
  rw [walk, h]
  simp only [ne_eq, not_true_eq_false, if_false]
theorem nodeL_bits (bs : Nat → Int) (bl : Nat → List Int) (h0 : bl 0 = []) (h : ∀ k, bl (k + 1) = bl k ++ [bs k]) : ∀ k, R.nodeL (bl k) = R.node bs k
  | 0 => by rw [h0]; rfl
  | k + 1 => by rw [h, R.nodeL_snoc, nodeL_bits bs bl h0 h k]; rfl
def bitsOf (bs : Nat → Int) : Nat → List Int
  | 0 => []
  | k + 1 => bitsOf bs k ++ [bs k]
theorem bitsOf_len (bs : Nat → Int) : ∀ k, (bitsOf bs k).length = k
  | 0 => rfl
  | k + 1 => by rw [bitsOf, List.length_append, bitsOf_len bs k]; rfl
theorem Fol.put {b : List UInt8} {f : R.S} (hb : Begins b f) {a : R.TS} {d : S} {at_ n : Int} {bs : Nat → Int} (hbs : ∀ k, 0 ≤ bs k ∧ bs k ≤ 1) (ht : R.There a.l.length at_ n) (ho : a.Ok) (h : Fol b f a.s d) :
    ∀ k : Nat, k ≤ n.toNat → In (a.put at_ bs k).s f → In a.s f ∧ ∃ t, walk at_ (d, a.l) k = ((t, (a.put at_ bs k).l), bitsOf bs k, 0) ∧ Fol b f (a.put at_ bs k).s t
  | 0, _, hi => ⟨hi, d, rfl, h⟩
  | k + 1, hk, hi => by
    have hp := ht.place hbs (k := k) (by omega)
    have o1 := (ho.put ht hbs k (by omega)).1
    have hlen := R.TS.put_len a at_ bs k
    have hc := R.bit_mid o1 (i := at_ + R.node bs k) hp.1 (by omega)
    have hbk := hbs k
    have hb01 : bs k = 0 ∨ bs k = 1 := by omega
    simp only [R.TS.put, R.TS.bit] at hi
    obtain ⟨hi2, _⟩ := Fol.bit hb (Fol.at_ b f (a.put at_ bs k).s) (bs k) hb01 hc.1 hc.2 hi
    obtain ⟨h1, t, h2, h3⟩ := Fol.put hb hbs ht ho h k (by omega) hi2
    obtain ⟨_, t2, h4, h5⟩ := h3.bit hb (bs k) hb01 hc.1 hc.2 hi
    refine ⟨h1, t2, ?_, h5⟩
    have hn : R.nodeL (bitsOf bs k) = R.node bs k := nodeL_bits bs (bitsOf bs) rfl (fun _ => rfl) k
    have hq : t.bitQ (a.put at_ bs k).l (at_ + R.node bs k) = (t2, (a.put at_ bs k).l.set (at_ + R.node bs k).toNat (B.next ((a.put at_ bs k).l.getD (at_ + R.node bs k).toNat 0) (bs k)), bs k, 0) := by
      simp only [S.bitQ, if_pos (show 0 ≤ at_ + R.node bs k ∧ at_ + R.node bs k < (a.put at_ bs k).l.length from ⟨hp.1, by omega⟩), h3.R, h4]
    rw [walk_step h2, hn]
    simp only [hq, if_true, R.TS.put, R.TS.bit, bitsOf]
end D

namespace R
theorem val_bits (back : Bool) (n : Nat) {v : Int} (h0 : 0 ≤ v) (h1 : v < 2 ^ n) : val back (D.bitsOf (bitAt back n v) n) = v := by
  cases back
  · have key : ∀ k, k ≤ n → horner (D.bitsOf (bitAt false n v) k) = v / 2 ^ (n - k) := by
      intro k
      induction k with
      | zero =>
        intro _
        rw [Nat.sub_zero, Int.ediv_eq_zero_of_lt h0 h1]; rfl
      | succ k ih =>
        intro hk
        rw [D.bitsOf, horner_snoc, ih (by omega)]
        simp only [bitAt, Bool.false_eq_true, if_false]
        rw [show n - 1 - k = n - (k + 1) from by omega, show n - k = (n - (k + 1)) + 1 from by omega, Int.pow_succ, ← Int.ediv_ediv_of_nonneg (Int.le_of_lt (Int.pow_pos (by omega)))]
        omega
    have := key n (Nat.le_refl _)
    simp only [val, Bool.false_eq_true, if_false, this, Nat.sub_self, Int.pow_zero, Int.ediv_one]
  · have key : ∀ k, k ≤ n → backv (D.bitsOf (bitAt true n v) k) = v % 2 ^ k := by
      intro k
      induction k with
      | zero => intro _; simp [D.bitsOf, backv, Int.emod_one]
      | succ k ih =>
        intro hk
        rw [D.bitsOf, backv_snoc, ih (by omega), D.bitsOf_len, D.bits_top]
        simp only [bitAt, if_true]
        rw [Int.add_comm]
    have := key n (Nat.le_refl _)
    simp only [val, if_true, this]
    exact Int.emod_eq_of_lt h0 h1
end R

namespace D
end D

end Go.Proofs.YtbgnnjfpiblkmaaGreatDoor

namespace Go.Proofs.YtbgnnjfpiblkmaaGreatDoor
open Go

namespace D
structure Sim (n : Nat) (c d : S) : Prop where
  b : c.b = d.b.take n
  k : c.k = d.k
  R : c.R = d.R
  C : c.C = d.C
theorem Sim.widen {n : Nat} {c d t : S} (h : Sim n c d) (e : c.widen = some t) : ∃ t', d.widen = some t' ∧ Sim n t t' := by
  obtain ⟨h1, h2, h3, h4⟩ := h
  unfold S.widen at *
  rw [h3] at e
  split at e
  · rename_i hr
    cases e
    rw [if_pos hr]
    exact ⟨d, rfl, ⟨h1, h2, h3, h4⟩⟩
  · rename_i hr
    rw [if_neg hr]
    cases hx : c.b[c.k]? with
    | none => rw [hx] at e; cases e
    | some x =>
      rw [hx] at e
      cases e
      rw [h1, h2, List.getElem?_take] at hx
      split at hx
      · rw [hx]
        exact ⟨_, rfl, ⟨h1, by simp only [h2], rfl, by simp only [h4]⟩⟩
      · cases hx
theorem Sim.cut {n : Nat} {c d : S} (h : Sim n c d) (x : Int) : Sim n (c.cut x) (d.cut x) := by
  obtain ⟨h1, h2, h3, h4⟩ := h
  unfold S.cut
  rw [h4]
  split
  · exact ⟨h1, h2, rfl, rfl⟩
  · exact ⟨h1, h2, by simp only [h3], rfl⟩
theorem Sim.one {n : Nat} {c d : S} (h : Sim n c d) : Sim n c.one d.one := by
  obtain ⟨h1, h2, h3, h4⟩ := h
  unfold S.one
  rw [h4, h3]
  split
  · exact ⟨h1, h2, rfl, rfl⟩
  · exact ⟨h1, h2, rfl, rfl⟩
theorem Sim.bitAt {n : Nat} {c d : S} (h : Sim n c d) (x : Int) : c.bitAt x = d.bitAt x := by unfold S.bitAt; rw [h.C]
theorem Sim.bit {n : Nat} {c d t : S} {x v : Int} (h : Sim n c d) (e : c.bit x = .ok t v) : ∃ t', d.bit x = .ok t' v ∧ Sim n t t' := by
  unfold S.bit at *
  split at e
  · rename_i t' ht
    cases e
    obtain ⟨t2, h2, h3⟩ := (h.cut x).widen ht
    rw [h2]
    exact ⟨t2, by rw [h.bitAt x], h3⟩
  · cases e
theorem Sim.direct {n : Nat} : ∀ (m : Nat) {c d t : S} {v u : Int}, Sim n c d → c.direct v m = .ok t u → ∃ t', d.direct v m = .ok t' u ∧ Sim n t t'
  | 0, c, d, t, v, u, h, e => by cases e; exact ⟨d, rfl, h⟩
  | m + 1, c, d, t, v, u, h, e => by
    simp only [S.direct] at *
    rw [h.one.R, h.one.C] at e
    split at e
    · cases e
    · rename_i hle
      rw [if_neg hle]
      split at e
      · cases e
      · rename_i t1 ht
        obtain ⟨t2, h2, h3⟩ := h.one.widen ht
        rw [h2]
        rw [h.R, h.bitAt] at e
        exact Sim.direct m h3 e
end D

end Go.Proofs.YtbgnnjfpiblkmaaGreatDoor

namespace Go.Proofs.YtbgnnjfpiblkmaaGreatDoor
open Go
namespace Z

inductive Rd (α : Type)
  | ret (a : α)
  | bit (t : Nat) (i : Int) (k : Int → Rd α)
section
variable {α β γ : Type}
def Rd.bind : Rd α → (α → Rd β) → Rd β
  | .ret a, f => f a
  | .bit t i k, f => .bit t i fun b => (k b).bind f
def Rd.map (f : α → β) (r : Rd α) : Rd β := r.bind fun a => .ret (f a)
def Rd.Ok (p : Pr) : Rd α → Prop
  | .ret _ => True
  | .bit t i k => (t = 18 ∨ t < 18 ∧ 0 ≤ i ∧ i < tabLen p t) ∧ ∀ b, b = 0 ∨ b = 1 → (k b).Ok p
def Rd.path : Rd α → α → List PB → Prop
  | .ret a, v, l => v = a ∧ l = []
  | .bit t i k, v, l => ∃ b m, (b = 0 ∨ b = 1) ∧ l = ⟨t, i, b⟩ :: m ∧ (k b).path v m
theorem Rd.Ok.bind {p : Pr} {f : α → Rd β} : ∀ {r : Rd α}, r.Ok p → (∀ a m, r.path a m → (f a).Ok p) → (r.bind f).Ok p
  | .ret a, _, hf => hf a [] ⟨rfl, rfl⟩
  | .bit t i k, h, hf => ⟨h.1, fun b hb => (h.2 b hb).bind fun a m hp => hf a (⟨t, i, b⟩ :: m) ⟨b, m, hb, rfl, hp⟩⟩
theorem Rd.Ok.map {p : Pr} {f : α → β} {r : Rd α} (h : r.Ok p) : (r.map f).Ok p := h.bind fun _ _ _ => trivial
theorem Rd.path_bind {f : α → Rd β} {v : β} : ∀ (r : Rd α) {l : List PB}, (r.bind f).path v l ↔ ∃ a m n, r.path a m ∧ (f a).path v n ∧ l = m ++ n
  | .ret a, l => ⟨fun h => ⟨a, [], l, ⟨rfl, rfl⟩, h, rfl⟩, fun ⟨_, _, _, ⟨h1, h2⟩, h3, h4⟩ => by subst h1; subst h2; subst h4; exact h3⟩
  | .bit t i k, l => by
    constructor
    · rintro ⟨b, m, hb, rfl, h⟩
      obtain ⟨a, m1, n, h1, h2, rfl⟩ := (path_bind (k b)).1 h
      exact ⟨a, _, n, ⟨b, m1, hb, rfl, h1⟩, h2, rfl⟩
    · rintro ⟨a, _, n, ⟨b, m, hb, rfl, h1⟩, h2, rfl⟩
      exact ⟨b, m ++ n, hb, rfl, (path_bind (k b)).2 ⟨a, m, n, h1, h2, rfl⟩⟩
theorem Rd.path_map {f : α → β} {v : β} {r : Rd α} {l : List PB} : (r.map f).path v l ↔ ∃ a, r.path a l ∧ v = f a := by
  rw [Rd.map, Rd.path_bind]
  constructor
  · rintro ⟨a, m, n, h1, ⟨rfl, rfl⟩, rfl⟩
    exact ⟨a, by rwa [List.append_nil], rfl⟩
  · rintro ⟨a, h1, rfl⟩
    exact ⟨a, l, [], h1, ⟨rfl, rfl⟩, (List.append_nil l).symm⟩
theorem Rd.Ok.path {p : Pr} {v : α} : ∀ {r : Rd α} {l : List PB}, r.Ok p → r.path v l → ∀ x ∈ l, x.Ok p
  | .ret a, l, _, ⟨_, e⟩, x, hx => by subst e; cases hx
  | .bit t i k, l, h, ⟨b, m, hb, e, h1⟩, x, hx => by
    subst e
    rcases List.mem_cons.1 hx with rfl | hx
    · exact ⟨by rcases hb with rfl | rfl <;> simp, h.1⟩
    · exact (h.2 b hb).path h1 x hx

structure RS where
  d : D.S
  T : Nat → List Int
structure RS.Ok (p : Pr) (z : RS) : Prop where
  d : D.Ok z.d
  T : TabOk p z.T
def RS.ask (z : RS) (t : Nat) (i : Int) : Option (RS × Int) :=
  if t = 18 then match z.d.direct 0 1 with
    | .ok d v => some (⟨d, z.T⟩, v)
    | .no _ => none
  else match z.d.bit (B.bound z.d.R ((z.T t).getD i.toNat 0)) with
    | .ok d v => some (⟨d, upd z.T t ((z.T t).set i.toNat (B.next ((z.T t).getD i.toNat 0) v))⟩, v)
    | .no _ => none
def Rd.run : Rd α → RS → Option (RS × α)
  | .ret a, z => some (z, a)
  | .bit t i k, z => match z.ask t i with
    | none => none
    | some (y, b) => (k b).run y
theorem Rd.run_bind {f : α → Rd β} : ∀ (r : Rd α) (z : RS), (r.bind f).run z = match r.run z with
    | none => none
    | some (y, a) => (f a).run y
  | .ret a, z => rfl
  | .bit t i k, z => by
    simp only [Rd.bind, Rd.run]
    cases z.ask t i with
    | none => rfl
    | some yb => exact run_bind (k yb.2) yb.1
def Rd.get (r : Rd α) : Option RS → Option (RS × α)
  | none => none
  | some z => r.run z
def Got (r : Rd α) (z y : Option RS) (v : α) : Prop := r.get z = y.map fun s => (s, v)
theorem Got.ret (z : Option RS) (a : α) : Got (.ret a) z z a := by cases z <;> rfl
theorem Got.bind {r : Rd α} {f : α → Rd β} {z y x : Option RS} {a : α} {b : β} (h1 : Got r z y a) (h2 : Got (f a) y x b) : Got (r.bind f) z x b := by
  unfold Got at *
  cases z with
  | none =>
    cases y with
    | none => exact h2
    | some y => cases h1
  | some z =>
    show (r.bind f).run z = _
    rw [Rd.run_bind, show r.run z = r.get (some z) from rfl, h1]
    cases y with
    | none => exact h2
    | some y => exact h2
theorem Got.map {r : Rd α} {f : α → β} {z y : Option RS} {a : α} (h : Got r z y a) : Got (r.map f) z y (f a) := h.bind (Got.ret _ _)
theorem Got.bit {t : Nat} {i : Int} {k : Int → Rd α} {z y x : Option RS} {b : Int} {v : α} (h1 : Got (.bit t i .ret) z y b) (h2 : Got (k b) y x v) : Got (.bit t i k) z x v := Got.bind (r := .bit t i .ret) h1 h2
theorem ask_01 {z y : RS} {t : Nat} {i b : Int} (h : z.ask t i = some (y, b)) : b = 0 ∨ b = 1 := by
  unfold RS.ask at h
  split at h
  · split at h
    · rename_i d v e
      cases h
      simp only [D.S.direct] at e
      split at e
      · cases e
      · split at e
        · cases e
        · cases e
          have := D.bitAt_01 z.d (z.d.R / 2)
          omega
    · cases h
  · split at h
    · rename_i d v e
      cases h
      unfold D.S.bit at e
      split at e
      · cases e; exact D.bitAt_01 _ _
      · cases e
    · cases h

theorem tab_mid {p : Pr} {T : Nat → List Int} (hT : TabOk p T) {R : Int} (hR : 16777216 ≤ R) {t : Nat} {i : Int} (h : t < 18 ∧ 0 ≤ i ∧ i < tabLen p t) :
    65536 ≤ B.bound R ((T t).getD i.toNat 0) ∧ 65536 ≤ R - B.bound R ((T t).getD i.toNat 0) := by
  have hl := hT.len t h.1
  have hx : (T t)[i.toNat]? = some ((T t).getD i.toNat 0) := by
    rw [List.getD_eq_getElem?_getD, List.getElem?_eq_getElem (show i.toNat < (T t).length by omega)]; rfl
  have hp := (hT.fine t).get hx
  exact D.bound_mid hR hp.1 hp.2
theorem ask_ok {p : Pr} {z y : RS} (hz : z.Ok p) {t : Nat} {i b : Int} (ht : t = 18 ∨ t < 18 ∧ 0 ≤ i ∧ i < tabLen p t) (h : z.ask t i = some (y, b)) : y.Ok p ∧ y.d.b = z.d.b := by
  have h01 := ask_01 h
  unfold RS.ask at h
  split at h
  · split at h
    · rename_i d v e
      cases h
      obtain ⟨o1, o2⟩ := D.Ok.direct 1 hz.d e
      exact ⟨⟨o1, hz.T⟩, o2⟩
    · cases h
  · rename_i hne
    have ht := ht.resolve_left hne
    split at h
    · rename_i d v e
      cases h
      have hm := tab_mid hz.T hz.d.r0 ht
      obtain ⟨o1, o2, _⟩ := hz.d.bit hm.1 hm.2 e
      refine ⟨⟨o1, ?_⟩, o2⟩
      have hs := (step_ok (z := ⟨R.S.new, z.T⟩) ⟨R.Ok.new, hz.T⟩ (x := ⟨t, i, b⟩) ⟨by rcases h01 with rfl | rfl <;> simp, .inr ht⟩).1.T
      simp only [stepB, turn, if_neg hne, pr] at hs
      exact hs
    · cases h
theorem Rd.run_ok {p : Pr} {v : α} : ∀ {r : Rd α} {z y : RS}, r.Ok p → z.Ok p → r.run z = some (y, v) → y.Ok p ∧ y.d.b = z.d.b
  | .ret a, z, y, _, hz, h => by cases h; exact ⟨hz, rfl⟩
  | .bit t i k, z, y, hr, hz, h => by
    simp only [Rd.run] at h
    cases e : z.ask t i with
    | none => rw [e] at h; cases h
    | some xb =>
      rw [e] at h
      obtain ⟨h1, h2⟩ := ask_ok hz hr.1 e
      obtain ⟨h3, h4⟩ := run_ok (hr.2 _ (ask_01 e)) h1 h
      exact ⟨h3, h4.trans h2⟩

theorem direct_1 (d : D.S) : d.direct 0 1 = if d.one.R ≤ d.one.C then .no 2 else match d.one.widen with
    | none => .no 1
    | some t => .ok t (d.bitAt (d.R / 2)) := by
  simp only [D.S.direct]
  split
  · rfl
  · cases d.one.widen with
    | none => rfl
    | some t => simp only [Int.mul_zero, Int.zero_add]
theorem ask_fol {p : Pr} {b : List UInt8} {f : R.S} (hb : D.Begins b f) {es : ES} (he : es.Ok p) {z : RS} {x : PB} (hx : x.Ok p) (hf : D.Fol b f es.s z.d) (hT : es.T = z.T) (hi : D.In (stepB es x).s f) :
    D.In es.s f ∧ ∃ y, z.ask x.t x.i = some (y, x.b) ∧ D.Fol b f (stepB es x).s y.d ∧ (stepB es x).T = y.T := by
  have h01 : x.b = 0 ∨ x.b = 1 := by have := hx.b; omega
  obtain ⟨t, i, v⟩ := x
  dsimp only at h01 ⊢
  by_cases h18 : t = 18
  · subst h18
    simp only [stepB, turn, if_true] at hi ⊢
    obtain ⟨h1, h2, h3, d, h4, h5⟩ := hf.one hb he.s.r0 h01 hi
    refine ⟨h1, ⟨d, z.T⟩, ?_, h5, hT⟩
    rw [RS.ask, if_pos rfl, direct_1, if_neg (by omega), h4]
    simp only [h3]
  · have ht := hx.t.resolve_left h18
    simp only [stepB, turn, if_neg h18, pr] at hi ⊢
    have hm := tab_mid he.T he.s.r0 ht
    obtain ⟨h1, d, h2, h3⟩ := hf.bit hb v h01 hm.1 hm.2 hi
    refine ⟨h1, ⟨d, upd z.T t ((z.T t).set i.toNat (B.next ((z.T t).getD i.toNat 0) v))⟩, ?_, h3, by rw [hT]⟩
    rw [RS.ask, if_neg h18, ← hT, hf.R, h2]
theorem Rd.fol {p : Pr} {b : List UInt8} {f : R.S} (hb : D.Begins b f) {v : α} : ∀ (r : Rd α) {l : List PB} {es : ES} {z : RS}, r.path v l → (∀ x ∈ l, x.Ok p) → es.Ok p → D.Fol b f es.s z.d → es.T = z.T → D.In (Z.run es l).s f →
    D.In es.s f ∧ ∃ y, r.run z = some (y, v) ∧ D.Fol b f (Z.run es l).s y.d ∧ (Z.run es l).T = y.T
  | .ret a, l, es, z, ⟨h1, h2⟩, _, _, hf, hT, hi => by subst h1; subst h2; exact ⟨hi, z, rfl, hf, hT⟩
  | .bit t i k, l, es, z, ⟨c, m, hc, e, hp⟩, hl, he, hf, hT, hi => by
    subst e
    have hx := hl _ List.mem_cons_self
    have hm : ∀ x ∈ m, x.Ok p := fun x h => hl x (List.mem_cons_of_mem _ h)
    have he1 := (step_ok he hx).1
    have hi : D.In (Z.run (stepB es ⟨t, i, c⟩) m).s f := hi
    obtain ⟨i1, _⟩ := fol hb (k c) (z := ⟨_, (stepB es ⟨t, i, c⟩).T⟩) hp hm he1 (D.Fol.at_ b f _) rfl hi
    obtain ⟨i0, y, h1, h2, h3⟩ := ask_fol hb he hx hf hT i1
    obtain ⟨_, y2, h4, h5, h6⟩ := fol hb (k c) hp hm he1 h2 h3 hi
    refine ⟨i0, y2, ?_, h5, h6⟩
    rw [Rd.run, h1]
    exact h4

structure Twin (b : List UInt8) (s : R.S) (d : D.S) : Prop where
  hb : d.b = b
  k : d.k = s.k + 5
  n : R.num (b.take d.k) = s.N + d.C
  R : d.R = s.R
theorem Twin.widen {b : List UInt8} {s : R.S} {d t : D.S} (h : Twin b s d) (h0 : 65536 ≤ s.R) (e : d.widen = some t) : Twin b s.widen t := by
  obtain ⟨h1, h2, h4, h3⟩ := h
  unfold D.S.widen at e
  rw [h3] at e
  split at e
  · rename_i hr
    cases e
    rw [R.S.widen_no (by omega)]
    exact ⟨h1, h2, h4, h3⟩
  · rename_i hr
    split at e
    · cases e
    · rename_i x hx
      cases e
      rw [R.S.widen_go (by omega) (by omega), R.S.widen_no (show ¬ s.R * 256 < 16777216 by omega)]
      refine ⟨h1, by simp only; omega, ?_, rfl⟩
      rw [h1] at hx
      simp only
      rw [List.take_add_one, hx, Option.toList_some, R.num_snoc, h4]
      omega
theorem Twin.bit {b : List UInt8} {s : R.S} {d t : D.S} (h : Twin b s d) {c v : Int} (c0 : 65536 ≤ c) (c1 : 65536 ≤ s.R - c) (e : d.bit c = .ok t v) : Twin b (s.cut c v) t := by
  obtain ⟨h1, h2, h4, h3⟩ := h
  unfold D.S.bit at e
  split at e
  · rename_i t' ht
    cases e
    unfold D.S.bitAt
    unfold D.S.cut at ht
    by_cases hlt : d.C < c
    · rw [if_pos hlt] at ht ⊢
      rw [R.S.cut, if_pos rfl]
      exact Twin.widen (s := ⟨s.N, c, s.k⟩) (d := ⟨d.b, d.k, c, d.C⟩) ⟨h1, h2, h4, rfl⟩ c0 ht
    · rw [if_neg hlt] at ht ⊢
      rw [R.S.cut, if_neg (by decide)]
      exact Twin.widen (s := ⟨s.N + c, s.R - c, s.k⟩) (d := ⟨d.b, d.k, d.R - c, d.C - c⟩) ⟨h1, h2, by simp only [h4]; omega, by simp only [h3]⟩ c1 ht
  · cases e
theorem Twin.one {b : List UInt8} {s : R.S} {d t : D.S} (h : Twin b s d) (h0 : 16777216 ≤ s.R) {v : Int} (e : d.direct 0 1 = .ok t v) : Twin b (s.one v) t := by
  obtain ⟨h1, h2, h4, h3⟩ := h
  rw [direct_1] at e
  split at e
  · cases e
  · split at e
    · cases e
    · rename_i t' ht
      cases e
      unfold D.S.bitAt
      unfold D.S.one at ht
      rw [h3] at ht ⊢
      by_cases hlt : d.C < s.R / 2
      · rw [if_pos hlt] at ht ⊢
        rw [R.S.one, if_neg (by decide)]
        exact Twin.widen (s := ⟨s.N, s.R / 2, s.k⟩) (d := ⟨d.b, d.k, s.R / 2, d.C⟩) ⟨h1, h2, h4, rfl⟩ (by simp only; omega) ht
      · rw [if_neg hlt] at ht ⊢
        rw [R.S.one, if_pos rfl]
        exact Twin.widen (s := ⟨s.N + s.R / 2, s.R / 2, s.k⟩) (d := ⟨d.b, d.k, s.R / 2, d.C - s.R / 2⟩) ⟨h1, h2, by simp only [h4]; omega, rfl⟩ (by simp only; omega) ht

end

end Z
end Go.Proofs.YtbgnnjfpiblkmaaGreatDoor
