/-
  A symbol's bits: each is one that can be; how many there are.
-/
import Derived.Test.YtbgnnjfpiblkmaaDoorZOps
namespace Go.Proofs.YtbgnnjfpiblkmaaDoor
open Go
set_option linter.unusedSimpArgs false
set_option linter.unnecessarySimpa false
set_option linter.unusedSectionVars false
set_option linter.unusedVariables false
namespace Z

theorem slot_small {d : Int} (h : d - 1 < 4) : slot d = d - 1 := by rw [slot, if_pos h]
theorem slot_law {d : Int} (hd : isDist d) : 0 ≤ slot d ∧ slot d ≤ 63 ∧ bitsN (slot d) ≤ 30 ∧ least (slot d) ≤ d ∧ d - least (slot d) < 2 ^ bitsN (slot d) := by
  obtain ⟨h1, h2⟩ := hd
  by_cases hs : d - 1 < 4
  · rw [slot_small hs]
    unfold bitsN least
    rw [if_pos (by omega), if_pos (by omega)]
    simp
    omega
  · obtain ⟨x, hx⟩ : ∃ x : Nat, d - 1 = x := ⟨(d - 1).toNat, by omega⟩
    have hx2 : (d - 1).toNat = x := by omega
    have hlt : x.log2 < 32 := (Nat.log2_lt (by omega)).2 (by omega)
    have hle : 2 ≤ x.log2 := (Nat.le_log2 (by omega)).2 (by omega)
    obtain ⟨n, hn⟩ : ∃ n, x.log2 = n + 1 := ⟨x.log2 - 1, by omega⟩
    have l1 := Nat.log2_self_le (n := x) (by omega)
    have l2 := Nat.lt_log2_self (n := x)
    rw [hn] at l1 l2
    have hp : 0 < 2 ^ n := Nat.two_pow_pos n
    rw [Nat.pow_succ] at l1 l2
    rw [Nat.pow_succ] at l2
    have q1 : 2 ≤ x / 2 ^ n := (Nat.le_div_iff_mul_le hp).2 (by omega)
    have q2 : x / 2 ^ n < 4 := (Nat.div_lt_iff_lt_mul hp).2 (by omega)
    have hm := Nat.div_add_mod x (2 ^ n)
    have hm2 := Nat.mod_lt x hp
    have es : slot d = 2 * (n + 1 : Nat) + ((x / 2 ^ n % 2 : Nat) : Int) := by
      rw [slot, if_neg hs, hx2, hn, hx]
      simp only [Nat.add_sub_cancel]
      push_cast
      rfl
    have e1 : slot d / 2 = (n + 1 : Nat) := by omega
    have e2 : slot d % 2 = ((x / 2 ^ n % 2 : Nat) : Int) := by omega
    have eb : bitsN (slot d) = n := by
      unfold bitsN
      rw [if_neg (by omega), e1]; omega
    have el : least (slot d) = ((2 ^ n * (x / 2 ^ n) : Nat) : Int) + 1 := by
      unfold least
      rw [if_neg (by omega), e1, e2]
      have e3 : (((n + 1 : Nat) : Int) - 1).toNat = n := by omega
      have e4 : 2 + x / 2 ^ n % 2 = x / 2 ^ n := by omega
      rw [e3]
      have e5 : (2 : Int) + ((x / 2 ^ n % 2 : Nat) : Int) = ((x / 2 ^ n : Nat) : Int) := by omega
      rw [e5, Int.mul_comm]
      push_cast
      rfl
    have ep : ((2 : Int) ^ n) = ((2 ^ n : Nat) : Int) := by push_cast; rfl
    rw [eb, el, ep]
    omega
theorem least_pos {s : Int} (h : 0 ≤ s) : 1 ≤ least s := by
  unfold least
  split
  · omega
  · have : 0 ≤ (2 + s % 2) * 2 ^ (s / 2 - 1).toNat := Int.mul_nonneg (by omega) (Int.pow_nonneg (by omega))
    omega
theorem rest_law (s : Int) (h0 : 4 ≤ s) (h1 : s ≤ 13) : 0 ≤ restAt s ∧ restAt s + 2 ^ bitsN s ≤ 128 ∧ bitsN s ≤ 5 ∧ 1 ≤ bitsN s := by
  have h4 : s = 4 ∨ s = 5 ∨ s = 6 ∨ s = 7 ∨ s = 8 ∨ s = 9 ∨ s = 10 ∨ s = 11 ∨ s = 12 ∨ s = 13 := by omega
  rcases h4 with rfl | rfl | rfl | rfl | rfl | rfl | rfl | rfl | rfl | rfl <;> decide
theorem late_bits {s : Int} (h0 : 14 ≤ s) : 6 ≤ bitsN s := by
  unfold bitsN; rw [if_neg (by omega)]; omega
theorem bits_0 {s : Int} (h : 0 ≤ s) : bitsN s = 0 ↔ s < 4 := by
  unfold bitsN
  by_cases h4 : s < 4
  · simp [h4]
  · rw [if_neg h4]; omega

theorem litGo_ok {p : Pr} {f b t : Int} (hf : 0 ≤ f ∧ f + 768 ≤ tabLen p 6) : ∀ (i : Nat) (m : Int) (same : Bool), i ≤ 8 → 1 ≤ m → m < 2 ^ (9 - i) → ∀ o ∈ litGo f b t i m same, o.Ok p
  | 0, _, _, _, _, _, _, h => by cases h
  | i + 1, m, same, hi, h1, h2, o, h => by
    have e : 9 - i = (9 - (i + 1)) + 1 := by omega
    have hm : m < 256 := by
      have : (2 : Int) ^ (9 - (i + 1)) ≤ 2 ^ 8 := two_le' (by omega)
      have e8 : (2 : Int) ^ 8 = 256 := by decide
      omega
    simp only [litGo, List.mem_cons] at h
    rcases h with rfl | h
    · refine ⟨by decide, ?_, ?_, by omega, by omega⟩
      · split <;> omega
      · split <;> omega
    · refine litGo_ok hf i _ _ (by omega) (by omega) ?_ o h
      rw [e, Int.pow_succ]
      omega
theorem litGo_len (f b t : Int) : ∀ (i : Nat) (m : Int) (same : Bool), wts (litGo f b t i m same) = i ∧ lens (litGo f b t i m same) = i ∧ (litGo f b t i m same).length = i
  | 0, _, _ => ⟨rfl, rfl, rfl⟩
  | i + 1, m, same => by
    have ⟨h1, h2, h3⟩ := litGo_len f b t i (2 * m + b / 2 ^ i % 2) (same && decide (b / 2 ^ i % 2 = t / 2 ^ i % 2))
    simp only [wts, lens, litGo, List.map_cons, List.sum_cons, Op.wt, Op.bits, List.length_cons, List.length_nil] at h1 h2 h3 ⊢
    omega
structure OpsOk (p : Pr) (l : List Op) (n : Nat) : Prop where
  ok : ∀ o ∈ l, o.Ok p
  wt : wts l ≤ n
theorem OpsOk.append {p : Pr} {l m : List Op} {a b : Nat} (h1 : OpsOk p l a) (h2 : OpsOk p m b) : OpsOk p (l ++ m) (a + b) :=
  ⟨fun o ho => (List.mem_append.1 ho).elim (h1.ok o) (h2.ok o), by rw [wts_append]; have := h1.wt; have := h2.wt; omega⟩
theorem OpsOk.mono {p : Pr} {l : List Op} {a b : Nat} (h : OpsOk p l a) (hab : a ≤ b) : OpsOk p l b := ⟨h.ok, Nat.le_trans h.wt hab⟩
theorem OpsOk.nil {p : Pr} : OpsOk p [] 0 := ⟨fun _ h => (by cases h), Nat.le_refl _⟩
theorem OpsOk.cons {p : Pr} {o : Op} {l : List Op} {a : Nat} (h1 : o.Ok p) (h2 : OpsOk p l a) : OpsOk p (o :: l) (o.wt + a) :=
  ⟨fun x hx => (List.mem_cons.1 hx).elim (fun e => e ▸ h1) (h2.ok x), by simp only [wts, List.map_cons, List.sum_cons]; have := h2.wt; unfold wts at this; omega⟩

theorem litOps_ok {p : Pr} (hp : p.Ok) {s : St} {x : W} (b : UInt8) : OpsOk p (litOps p s x b) 8 := by
  have hl := (lastOr x 1).toNat_lt
  have hb := b.toNat_lt
  have hc := context_bd hp x.all.length (lastOr x 1).toNat (by omega) (by omega)
  unfold litOps
  dsimp only
  split
  · refine ⟨fun o ho => ?_, Nat.le_refl _⟩
    simp only [List.mem_singleton] at ho
    subst ho
    have e8 : (2 : Int) ^ (8 : Int).toNat = 256 := by decide
    refine ⟨by decide, ⟨by omega, by omega, hc.1, by omega, ?_⟩, by omega, ?_⟩
    · show (2 : Int) ^ (8 : Int).toNat ≤ _
      omega
    · show _ < (2 : Int) ^ (8 : Int).toNat
      omega
  · exact ⟨litGo_ok hc 8 1 true (by omega) (by omega) (by decide), (litGo_len _ _ _ _ _ _).1 ▸ Nat.le_refl _⟩
theorem tab_c (p : Pr) (c : Nat) (hc : c = 7 ∨ c = 11) : tabLen p c = 2 ∧ tabLen p (c + 1) = 128 ∧ tabLen p (c + 2) = 128 ∧ tabLen p (c + 3) = 256 := by
  rcases hc with rfl | rfl <;> exact ⟨rfl, rfl, rfl, rfl⟩
theorem lenOps_ok {p : Pr} (hp : p.Ok) (c : Nat) (hc : c = 7 ∨ c = 11) (pos : Int) {n : Int} (hn : isLen n) : OpsOk p (lenOps c p pos n) 10 := by
  obtain ⟨t0, t1, t2, t3⟩ := tab_c p c hc
  obtain ⟨n1, n2⟩ := hn
  have hpl := place_bd hp pos
  have e3 : (2 : Int) ^ (3 : Int).toNat = 8 := by decide
  have e8 : (2 : Int) ^ (8 : Int).toNat = 256 := by decide
  have b0 : ∀ i b : Int, 0 ≤ i → i < 2 → 0 ≤ b → b ≤ 1 → (Op.bit c i b).Ok p := fun i b h1 h2 h3 h4 => ⟨by omega, h1, by omega, h3, h4⟩
  unfold lenOps
  dsimp only
  split
  · refine ((OpsOk.nil.cons (o := .tree (c + 1) _ 3 _) ?_).cons (b0 0 0 (by omega) (by omega) (by omega) (by omega))).mono (Nat.le_of_ble_eq_true rfl)
    refine ⟨by omega, ⟨by omega, by omega, by omega, by omega, ?_⟩, by omega, ?_⟩
    · show (2 : Int) ^ (3 : Int).toNat ≤ _
      omega
    · show _ < (2 : Int) ^ (3 : Int).toNat
      omega
  · split
    · refine (((OpsOk.nil.cons (o := .tree (c + 2) _ 3 _) ?_).cons (b0 1 0 (by omega) (by omega) (by omega) (by omega))).cons (b0 0 1 (by omega) (by omega) (by omega) (by omega))).mono (Nat.le_of_ble_eq_true rfl)
      refine ⟨by omega, ⟨by omega, by omega, by omega, by omega, ?_⟩, by omega, ?_⟩
      · show (2 : Int) ^ (3 : Int).toNat ≤ _
        omega
      · show _ < (2 : Int) ^ (3 : Int).toNat
        omega
    · refine (((OpsOk.nil.cons (o := .tree (c + 3) 0 8 _) ?_).cons (b0 1 1 (by omega) (by omega) (by omega) (by omega))).cons (b0 0 1 (by omega) (by omega) (by omega) (by omega))).mono (Nat.le_of_ble_eq_true rfl)
      refine ⟨by omega, ⟨by omega, by omega, by omega, by omega, ?_⟩, by omega, ?_⟩
      · show (2 : Int) ^ (8 : Int).toNat ≤ _
        omega
      · show _ < (2 : Int) ^ (8 : Int).toNat
        omega
theorem distOps_ok (p : Pr) {n d : Int} (hn : isLen n) (hd : isDist d) : OpsOk p (distOps n d) 14 := by
  obtain ⟨s0, s1, sb, s2, s3⟩ := slot_law hd
  obtain ⟨n1, n2⟩ := hn
  have e6 : (2 : Int) ^ (6 : Int).toNat = 64 := by decide
  have e4 : (2 : Int) ^ (4 : Int).toNat = 16 := by decide
  have t15 : tabLen p 15 = 256 := rfl
  have t16 : tabLen p 16 = 128 := rfl
  have t17 : tabLen p 17 = 16 := rfl
  unfold distOps
  dsimp only
  have h0 : (Op.tree 15 (64 * min (n - 2) 3) 6 (slot d)).Ok p := by
    refine ⟨by decide, ⟨by omega, by omega, by omega, by omega, ?_⟩, s0, ?_⟩
    · show (2 : Int) ^ (6 : Int).toNat ≤ _
      omega
    · show _ < (2 : Int) ^ (6 : Int).toNat
      omega
  split
  · exact (OpsOk.nil.cons h0).mono (Nat.le_of_ble_eq_true rfl)
  · rename_i hb
    rw [bits_0 s0] at hb
    split
    · have hr := rest_law (slot d) (by omega) (by omega)
      refine ((OpsOk.nil.cons (o := .back 16 _ _ _) ?_).cons h0).mono (by show 6 + (bitsN (slot d) + 0) ≤ 14; omega)
      refine ⟨by decide, ⟨by omega, by omega, hr.1, by omega, ?_⟩, by omega, ?_⟩
      · rw [Int.toNat_natCast]; omega
      · rw [Int.toNat_natCast]; exact s3
    · have hb6 := late_bits (s := slot d) (by omega)
      refine (((OpsOk.nil.cons (o := .back 17 0 4 _) ?_).cons (o := .direct _ _) ?_).cons h0).mono (by show 6 + ((bitsN (slot d) - 4 + 7) / 8 + (4 + 0)) ≤ 14; omega)
      · refine ⟨by decide, ⟨by omega, by omega, by omega, by omega, ?_⟩, by omega, ?_⟩
        · show (2 : Int) ^ (4 : Int).toNat ≤ _
          omega
        · show _ < (2 : Int) ^ (4 : Int).toNat
          omega
      · have : (2 : Int) ^ bitsN (slot d) ≤ 2 ^ 30 := two_le' sb
        have e30 : (2 : Int) ^ 30 = 1073741824 := by decide
        exact ⟨by omega, by omega, by omega⟩
theorem repOps_ok {p : Pr} (hp : p.Ok) {s : St} (hs : s.Right) (pos : Int) {d : Int} (h0 : 0 ≤ d) (h1 : d ≤ 3) : OpsOk p (repOps p s pos d) 3 := by
  have hn := hs.num
  have hpl := place_bd hp pos
  have t1 : tabLen p 1 = 192 := rfl
  have t3 : tabLen p 3 = 12 := rfl
  have t4 : tabLen p 4 = 12 := rfl
  have t5 : tabLen p 5 = 12 := rfl
  unfold repOps
  split
  · exact ((OpsOk.nil.cons (o := .bit 1 _ 1) ⟨by decide, by omega, by omega, by omega, by omega⟩).cons (o := .bit 3 _ 0) ⟨by decide, by omega, by omega, by omega, by omega⟩).mono (Nat.le_of_ble_eq_true rfl)
  · refine (((OpsOk.nil.cons (o := .bit 4 _ _) ⟨by decide, by omega, by omega, by omega, by omega⟩).cons (o := .bit 3 _ 1) ⟨by decide, by omega, by omega, by omega, by omega⟩).append (b := 1) ?_).mono (Nat.le_of_ble_eq_true rfl)
    split
    · exact (OpsOk.nil.cons (o := .bit 5 _ _) ⟨by decide, by omega, by omega, by omega, by omega⟩).mono (Nat.le_of_ble_eq_true rfl)
    · exact OpsOk.nil.mono (Nat.le_of_ble_eq_true rfl)
theorem lenOps_len (c : Nat) (p : Pr) (pos n : Int) : (lenOps c p pos n).length ≤ 3 := by
  unfold lenOps
  dsimp only
  split
  · exact Nat.le_of_ble_eq_true rfl
  · split <;> exact Nat.le_of_ble_eq_true rfl
theorem err_dist {y : Y} (hy : errY y = 0) (hk : y.Kind = 2) : isDist y.Dist := by
  unfold errY at hy
  rw [if_neg (by omega), if_pos hk] at hy
  by_cases hc : isLen y.Len ∧ isDist y.Dist
  · exact hc.2
  · rw [if_neg hc] at hy; omega
theorem symOps_ok {p : Pr} (hp : p.Ok) {s : St} (hs : s.Right) (x : W) {y : Y} (hy : errY y = 0) : OpsOk p (symOps p s x y) 26 := by
  have hn := hs.num
  have hpl := place_bd hp x.all.length
  have t0 : tabLen p 0 = 192 := rfl
  have t1 : tabLen p 1 = 192 := rfl
  have t2 : tabLen p 2 = 12 := rfl
  have t3 : tabLen p 3 = 12 := rfl
  have h0 : ∀ b : Int, 0 ≤ b → b ≤ 1 → (Op.bit 0 (s.num * 16 + place p x.all.length) b).Ok p := fun b h1 h2 => ⟨by decide, by omega, by omega, h1, h2⟩
  have h2 : ∀ b : Int, 0 ≤ b → b ≤ 1 → (Op.bit 2 s.num b).Ok p := fun b h1 h2 => ⟨by decide, by omega, by omega, h1, h2⟩
  unfold symOps
  dsimp only
  split
  · exact ((litOps_ok hp _).cons (h0 0 (by omega) (by omega))).mono (Nat.le_of_ble_eq_true rfl)
  · split
    · rename_i hk
      have hl := err_len hy (.inl hk)
      have hd : isDist y.Dist := by
        unfold errY at hy
        rw [if_neg (by omega), if_pos hk] at hy
        by_cases hc : isLen y.Len ∧ isDist y.Dist
        · exact hc.2
        · rw [if_neg hc] at hy; omega
      exact ((((OpsOk.nil.cons (h2 0 (by omega) (by omega))).cons (h0 1 (by omega) (by omega))).append (lenOps_ok hp 7 (.inl rfl) _ hl)).append (distOps_ok p hl hd)).mono (Nat.le_of_ble_eq_true rfl)
    · split
      · exact ((((OpsOk.nil.cons (o := .bit 1 _ 0) ⟨by decide, by omega, by omega, by omega, by omega⟩).cons (o := .bit 3 _ 0) ⟨by decide, by omega, by omega, by omega, by omega⟩).cons (h2 1 (by omega) (by omega))).cons (h0 1 (by omega) (by omega))).mono (Nat.le_of_ble_eq_true rfl)
      · have hk : y.Kind = 3 := by have := kinds hy; omega
        have hl := err_len hy (.inr hk)
        have hd := err_rep hy hk
        exact ((((OpsOk.nil.cons (h2 1 (by omega) (by omega))).cons (h0 1 (by omega) (by omega))).append (repOps_ok hp hs _ hd.1 hd.2)).append (lenOps_ok hp 11 (.inr rfl) _ hl)).mono (Nat.le_of_ble_eq_true rfl)
theorem lens_ge {l : List Op} (h : l ≠ []) (h1 : ∀ o ∈ l, 1 ≤ o.bits.length) : 1 ≤ lens l := by
  cases l with
  | nil => exact absurd rfl h
  | cons o l =>
    have := h1 o List.mem_cons_self
    simp only [lens, List.map_cons, List.sum_cons]
    omega

end Z
end Go.Proofs.YtbgnnjfpiblkmaaDoor
