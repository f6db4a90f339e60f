/-
  Texts of one proof, one behind the other: ZSymR, LfLzenc, LfTree, LfRcenc, Rcenc, Tree, LzCode.
-/
import Derived.Test.YtbgnnjfpiblkmaaGreatDoorRows
import Derived.Test.YtbgnnjfpiblkmaaGreatDoorMg5
set_option linter.unusedSimpArgs false
set_option linter.unnecessarySimpa false
set_option linter.unusedSectionVars false
set_option linter.unusedVariables false

namespace Go.Proofs.YtbgnnjfpiblkmaaGreatDoor
open Go
namespace Z

def bitsRd (t : Nat) (at_ : Int) : Nat → List Int → Rd (List Int)
  | 0, l => .ret l
  | n + 1, l => .bit t (at_ + R.nodeL l) fun b => bitsRd t at_ n (l ++ [b])
def treeRd (back : Bool) (t : Nat) (at_ : Int) (n : Nat) : Rd Int := (bitsRd t at_ n []).map (R.val back)
def dirRd : Nat → Int → Rd Int
  | 0, v => .ret v
  | n + 1, v => .bit 18 0 fun b => dirRd n (2 * v + b)
def litGoRd (f t : Int) : Nat → Int → Bool → Rd Int
  | 0, m, _ => .ret (m - 256)
  | i + 1, m, same => .bit 6 (f + m + (if same then 256 * (1 + t / 2 ^ i % 2) else 0)) fun b => litGoRd f t i (2 * m + b) (same && decide (b = t / 2 ^ i % 2))
def litRd (p : Pr) (s : St) (x : W) : Rd Int :=
  if s.num < 7 then treeRd false 6 (context p x.all.length (lastOr x 1).toNat) 8 else litGoRd (context p x.all.length (lastOr x 1).toNat) (lastOr x s.r0).toNat 8 1 true
def lenRd (c : Nat) (p : Pr) (pos : Int) : Rd Int :=
  .bit c 0 fun b => if b = 0 then (treeRd false (c + 1) (8 * place p pos) 3).map fun v => 2 + v
    else .bit c 1 fun b => if b = 0 then (treeRd false (c + 2) (8 * place p pos) 3).map fun v => 10 + v else (treeRd false (c + 3) 0 8).map fun v => 18 + v
def distRd (n : Int) : Rd Int :=
  (treeRd false 15 (64 * min (n - 2) 3) 6).bind fun s => if s < 4 then .ret (least s)
    else if s < 14 then (treeRd true 16 (restAt s) (bitsN s)).map fun v => least s + v
    else (dirRd (bitsN s - 4) 0).bind fun h => (treeRd true 17 0 4).map fun v => least s + h * 16 + v
def repRd (p : Pr) (pos : Int) (d : Int) : Rd Y := (lenRd 11 p pos).map fun n => ⟨3, 0, n, d⟩
def symRd (p : Pr) (s : St) (x : W) : Rd Y :=
  .bit 0 (s.num * 16 + place p x.all.length) fun b => if b = 0 then (litRd p s x).map fun m => ⟨1, byteOf m, 0, 0⟩
  else .bit 2 s.num fun b => if b = 0 then (lenRd 7 p x.all.length).bind fun n => (distRd n).map fun d => ⟨2, 0, n, d⟩
  else .bit 3 s.num fun b => if b = 0 then .bit 1 (s.num * 16 + place p x.all.length) fun b => if b = 0 then .ret ⟨4, 0, 0, 0⟩ else repRd p x.all.length 0
  else .bit 4 s.num fun b => if b = 0 then repRd p x.all.length 1
  else .bit 5 s.num fun b => repRd p x.all.length (2 + b)
def used (y : Y) : Y := if y.Kind = 1 then ⟨1, y.Byte, 0, 0⟩ else if y.Kind = 4 then ⟨4, 0, 0, 0⟩ else ⟨y.Kind, 0, y.Len, y.Dist⟩

def pbs (t : Nat) (at_ : Int) : List Int → List Int → List PB
  | _, [] => []
  | l, b :: bs => ⟨t, at_ + R.nodeL l, b⟩ :: pbs t at_ (l ++ [b]) bs
theorem pbs_snoc (t : Nat) (at_ b : Int) : ∀ bs l, pbs t at_ l (bs ++ [b]) = pbs t at_ l bs ++ [⟨t, at_ + R.nodeL (l ++ bs), b⟩]
  | [], l => by simp [pbs]
  | c :: bs, l => by simp only [List.cons_append, pbs, pbs_snoc t at_ b bs]; simp
theorem pbs_tree (t : Nat) (at_ : Int) (bs : Nat → Int) : ∀ n, pbs t at_ [] (D.bitsOf bs n) = treeBits t at_ bs n
  | 0 => rfl
  | n + 1 => by
    rw [D.bitsOf, pbs_snoc, pbs_tree t at_ bs n, List.nil_append, D.nodeL_bits bs (D.bitsOf bs) rfl fun _ => rfl]
    simp [treeBits, List.range_succ]
theorem bitsRd_path {t : Nat} {at_ : Int} {v : List Int} : ∀ (n : Nat) {l : List Int} {m : List PB}, (bitsRd t at_ n l).path v m ↔ ∃ bs, R.Bits bs ∧ bs.length = n ∧ v = l ++ bs ∧ m = pbs t at_ l bs
  | 0, l, m => by
    constructor
    · rintro ⟨rfl, rfl⟩
      exact ⟨[], fun _ h => (by cases h), rfl, (List.append_nil _).symm, rfl⟩
    · rintro ⟨bs, _, hl, rfl, rfl⟩
      obtain rfl := List.length_eq_zero_iff.1 hl
      exact ⟨List.append_nil _, rfl⟩
  | n + 1, l, m => by
    constructor
    · rintro ⟨b, m', hb, rfl, h⟩
      obtain ⟨bs, h1, h2, rfl, rfl⟩ := (bitsRd_path n).1 h
      exact ⟨b :: bs, fun x hx => (List.mem_cons.1 hx).elim (fun e => e ▸ hb) (h1 x), by rw [List.length_cons, h2], by simp, rfl⟩
    · rintro ⟨bs, h1, h2, rfl, rfl⟩
      cases bs with
      | nil => simp at h2
      | cons b bs =>
        exact ⟨b, _, h1 b List.mem_cons_self, rfl, (bitsRd_path n).2 ⟨bs, fun x hx => h1 x (List.mem_cons_of_mem _ hx), by simpa using h2, by simp, rfl⟩⟩
theorem horner_inj : ∀ (n : Nat) {l m : List Int}, l.length = n → m.length = n → R.Bits l → R.Bits m → R.horner l = R.horner m → l = m
  | 0, l, m, h1, h2, _, _, _ => by rw [List.length_eq_zero_iff.1 h1, List.length_eq_zero_iff.1 h2]
  | n + 1, l, m, h1, h2, b1, b2, e => by
    rcases List.eq_nil_or_concat l with rfl | ⟨l, a, rfl⟩
    · simp at h1
    rcases List.eq_nil_or_concat m with rfl | ⟨m, c, rfl⟩
    · simp at h2
    simp only [List.concat_eq_append] at *
    rw [R.horner_snoc, R.horner_snoc] at e
    obtain ⟨b1, ha⟩ := b1.init
    obtain ⟨b2, hc⟩ := b2.init
    have e1 : a = c := by omega
    rw [horner_inj n (by simpa using h1) (by simpa using h2) b1 b2 (by omega), e1]
theorem backv_inj : ∀ (l m : List Int), l.length = m.length → R.Bits l → R.Bits m → R.backv l = R.backv m → l = m
  | [], [], _, _, _, _ => rfl
  | [], _ :: _, h, _, _, _ => by simp at h
  | _ :: _, [], h, _, _, _ => by simp at h
  | a :: l, c :: m, h, b1, b2, e => by
    have ha := b1 a List.mem_cons_self
    have hc := b2 c List.mem_cons_self
    have e : a + 2 * R.backv l = c + 2 * R.backv m := e
    have e1 : a = c := by omega
    rw [backv_inj l m (by simpa using h) (fun x hx => b1 x (List.mem_cons_of_mem _ hx)) (fun x hx => b2 x (List.mem_cons_of_mem _ hx)) (by omega), e1]
theorem val_inj (back : Bool) {l m : List Int} (h : l.length = m.length) (b1 : R.Bits l) (b2 : R.Bits m) (e : R.val back l = R.val back m) : l = m := by
  cases back
  · exact horner_inj _ h rfl b1 b2 e
  · exact backv_inj _ _ h b1 b2 e
theorem val_bd (back : Bool) {l : List Int} (h : R.Bits l) : 0 ≤ R.val back l ∧ R.val back l < 2 ^ l.length := by
  cases back
  · exact R.horner_bd h
  · exact R.backv_bd h
theorem bitsOf_bits {bs : Nat → Int} (h : ∀ k, 0 ≤ bs k ∧ bs k ≤ 1) : ∀ n, R.Bits (D.bitsOf bs n)
  | 0 => fun _ h => (by cases h)
  | n + 1 => (bitsOf_bits h n).snoc (by have := h n; omega)
theorem treeRd_path {back : Bool} {t : Nat} {at_ v : Int} {n : Nat} {m : List PB} : (treeRd back t at_ n).path v m ↔ 0 ≤ v ∧ v < 2 ^ n ∧ m = treeBits t at_ (R.bitAt back n v) n := by
  rw [treeRd, Rd.path_map]
  constructor
  · rintro ⟨l, h, rfl⟩
    obtain ⟨bs, h1, h2, e0, rfl⟩ := (bitsRd_path n).1 h
    rw [List.nil_append] at e0
    subst e0
    have hb := val_bd back h1
    rw [h2] at hb
    refine ⟨hb.1, hb.2, ?_⟩
    have e : l = D.bitsOf (R.bitAt back n (R.val back l)) n :=
      val_inj back (by rw [h2, D.bitsOf_len]) h1 (bitsOf_bits (R.bitAt_01 back n _) n) (R.val_bits back n hb.1 hb.2).symm
    rw [← pbs_tree, ← e]
  · rintro ⟨h0, h1, rfl⟩
    refine ⟨D.bitsOf (R.bitAt back n v) n, (bitsRd_path n).2 ⟨_, bitsOf_bits (R.bitAt_01 back n v) n, D.bitsOf_len _ _, rfl, (pbs_tree _ _ _ _).symm⟩, (R.val_bits back n h0 h1).symm⟩

theorem low_bit (w c : Int) {j n : Nat} (h : j < n) : (w + c * 2 ^ n) / 2 ^ j % 2 = w / 2 ^ j % 2 := by
  have p : (0 : Int) < 2 ^ j := Int.pow_pos (by omega)
  have e : c * 2 ^ n = (c * 2 ^ (n - 1 - j) * 2) * 2 ^ j := by
    rw [Int.mul_assoc, Int.mul_assoc]
    congr 1
    rw [Int.mul_comm 2, ← Int.mul_assoc, ← Int.pow_add, ← Int.pow_succ]
    congr 1; omega
  rw [e, Int.add_mul_ediv_right _ _ (by omega)]
  omega
theorem top_bit {w b : Int} {n : Nat} (h0 : 0 ≤ w) (h1 : w < 2 ^ n) : (w + b * 2 ^ n) / 2 ^ n = b := by
  rw [Int.add_mul_ediv_right _ _ (by omega), Int.ediv_eq_zero_of_lt h0 h1, Int.zero_add]
theorem dir_bits_mod (w c : Int) (n : Nat) : (Op.direct (w + c * 2 ^ n) n).bits = (Op.direct w n).bits := by
  simp only [Op.bits]
  refine List.map_congr_left fun k hk => ?_
  have hk := List.mem_range.1 hk
  rw [low_bit w c (by omega)]
theorem dir_bits_succ (w : Int) (n : Nat) : (Op.direct w (n + 1)).bits = ⟨18, 0, w / 2 ^ n % 2⟩ :: (Op.direct w n).bits := by
  simp only [Op.bits, List.range_succ_eq_map, List.map_cons, List.map_map]
  congr 1
  refine List.map_congr_left fun k hk => ?_
  have hk := List.mem_range.1 hk
  simp only [Function.comp]
  rw [show n + 1 - 1 - (k + 1) = n - 1 - k from by omega]
theorem split_bit {w : Int} {n : Nat} (h0 : 0 ≤ w) (h1 : w < 2 ^ (n + 1)) : ∃ b u : Int, (b = 0 ∨ b = 1) ∧ 0 ≤ u ∧ u < 2 ^ n ∧ w = u + b * 2 ^ n := by
  rw [Int.pow_succ] at h1
  have p : (0 : Int) < 2 ^ n := Int.pow_pos (by omega)
  refine ⟨w / 2 ^ n, w % 2 ^ n, ?_, Int.emod_nonneg _ (by omega), Int.emod_lt_of_pos _ p, ?_⟩
  · have a1 : 0 ≤ w / 2 ^ n := Int.ediv_nonneg h0 (by omega)
    have a2 : w / 2 ^ n < 2 := Int.ediv_lt_of_lt_mul p (by omega)
    omega
  · have := Int.emod_add_mul_ediv w (2 ^ n)
    rw [Int.mul_comm] at this
    exact this.symm
theorem join_bit {b u : Int} {n : Nat} (hb : b = 0 ∨ b = 1) (h0 : 0 ≤ u) (h1 : u < 2 ^ n) : 0 ≤ u + b * 2 ^ n ∧ u + b * 2 ^ n < 2 ^ (n + 1) := by
  rw [Int.pow_succ]
  rcases hb with rfl | rfl <;> omega
theorem dirRd_path : ∀ (n : Nat) {u v : Int} {m : List PB}, (dirRd n u).path v m ↔ ∃ w, 0 ≤ w ∧ w < 2 ^ n ∧ v = u * 2 ^ n + w ∧ m = (Op.direct w n).bits
  | 0, u, v, m => by
    constructor
    · rintro ⟨rfl, rfl⟩
      exact ⟨0, by omega, by simp, by simp, rfl⟩
    · rintro ⟨w, h0, h1, rfl, rfl⟩
      rw [Int.pow_zero] at h1
      exact ⟨by rw [Int.pow_zero]; omega, rfl⟩
  | n + 1, u, v, m => by
    constructor
    · rintro ⟨b, m', hb, rfl, h⟩
      obtain ⟨w, h0, h1, rfl, rfl⟩ := (dirRd_path n).1 h
      obtain ⟨j0, j1⟩ := join_bit hb h0 h1
      refine ⟨w + b * 2 ^ n, j0, j1, ?_, ?_⟩
      · rw [Int.pow_succ]; grind
      · rw [dir_bits_succ, dir_bits_mod, top_bit h0 h1]
        rcases hb with rfl | rfl <;> rfl
    · rintro ⟨w, h0, h1, rfl, rfl⟩
      obtain ⟨b, z, hb, z0, z1, rfl⟩ := split_bit h0 h1
      refine ⟨b, (Op.direct z n).bits, hb, ?_, (dirRd_path n).2 ⟨z, z0, z1, ?_, rfl⟩⟩
      · rw [dir_bits_succ, dir_bits_mod, top_bit z0 z1]
        rcases hb with rfl | rfl <;> rfl
      · rw [Int.pow_succ]; grind
theorem litGo_mod (f t c : Int) : ∀ (i n : Nat) (b m : Int) (same : Bool), i ≤ n → litGo f (b + c * 2 ^ n) t i m same = litGo f b t i m same
  | 0, _, _, _, _, _ => rfl
  | i + 1, n, b, m, same, h => by
    simp only [litGo]
    rw [low_bit b c (by omega : i < n), litGo_mod f t c i n _ _ _ (by omega)]
theorem litGoRd_path {f t : Int} : ∀ (i : Nat) {m : Int} {same : Bool} {v : Int} {l : List PB}, (litGoRd f t i m same).path v l ↔ ∃ b, 0 ≤ b ∧ b < 2 ^ i ∧ v = m * 2 ^ i + b - 256 ∧ l = allBits (litGo f b t i m same)
  | 0, m, same, v, l => by
    constructor
    · rintro ⟨rfl, rfl⟩
      exact ⟨0, by omega, by simp, by simp, rfl⟩
    · rintro ⟨b, h0, h1, rfl, rfl⟩
      rw [Int.pow_zero] at h1
      exact ⟨by rw [Int.pow_zero]; omega, rfl⟩
  | i + 1, m, same, v, l => by
    have key : ∀ b w : Int, (b = 0 ∨ b = 1) → 0 ≤ w → w < 2 ^ i → litGo f (w + b * 2 ^ i) t (i + 1) m same = .bit 6 (f + m + (if same then 256 * (1 + t / 2 ^ i % 2) else 0)) b :: litGo f w t i (2 * m + b) (same && decide (b = t / 2 ^ i % 2)) := by
      intro b w hb h0 h1
      rw [litGo, top_bit h0 h1, show b % 2 = b from by omega, litGo_mod _ _ _ _ _ _ _ _ (Nat.le_refl i)]
    constructor
    · rintro ⟨b, m', hb, rfl, h⟩
      obtain ⟨w, h0, h1, rfl, rfl⟩ := (litGoRd_path i).1 h
      obtain ⟨j0, j1⟩ := join_bit hb h0 h1
      refine ⟨w + b * 2 ^ i, j0, j1, ?_, ?_⟩
      · rw [Int.pow_succ]; grind
      · rw [key b w hb h0 h1]; rfl
    · rintro ⟨w, h0, h1, rfl, rfl⟩
      obtain ⟨b, z, hb, z0, z1, rfl⟩ := split_bit h0 h1
      refine ⟨b, _, hb, ?_, (litGoRd_path i).2 ⟨z, z0, z1, ?_, rfl⟩⟩
      · rw [key b z hb z0 z1]; rfl
      · rw [Int.pow_succ]; grind

theorem allBits_cons (o : Op) (l : List Op) : allBits (o :: l) = o.bits ++ allBits l := rfl
theorem allBits_append (l m : List Op) : allBits (l ++ m) = allBits l ++ allBits m := by simp [allBits]
theorem allBits_nil : allBits [] = [] := rfl
theorem bits_bit (t : Nat) (i b : Int) : (Op.bit t i b).bits = [⟨t, i, b⟩] := rfl
theorem tree_bits (t : Nat) (a : Int) (n : Nat) (v : Int) : (Op.tree t a n v).bits = treeBits t a (R.bitAt false n v) n := rfl
theorem back_bits (t : Nat) (a : Int) (n : Nat) (v : Int) : (Op.back t a n v).bits = treeBits t a (R.bitAt true n v) n := rfl

theorem litRd_path {p : Pr} {s : St} {x : W} {v : Int} {m : List PB} : (litRd p s x).path v m ↔ ∃ b : UInt8, v = b.toNat ∧ m = allBits (litOps p s x b) := by
  have e8 : (2 : Int) ^ 8 = 256 := by decide
  have key : ∀ v : Int, 0 ≤ v → v < 256 → ∃ b : UInt8, v = b.toNat := fun v h0 h1 => ⟨byteOf v, by rw [byteOf_toNat]; omega⟩
  unfold litRd litOps
  dsimp only
  by_cases h : s.num < 7
  · rw [if_pos h, treeRd_path, e8]
    constructor
    · rintro ⟨h0, h1, rfl⟩
      obtain ⟨b, rfl⟩ := key v h0 h1
      exact ⟨b, rfl, by rw [if_pos h, allBits_cons, allBits_nil, List.append_nil, tree_bits]⟩
    · rintro ⟨b, rfl, rfl⟩
      have := b.toNat_lt
      refine ⟨by omega, by omega, ?_⟩
      rw [if_pos h, allBits_cons, allBits_nil, List.append_nil, tree_bits]
  · rw [if_neg h, litGoRd_path, e8]
    constructor
    · rintro ⟨b, h0, h1, rfl, rfl⟩
      obtain ⟨c, rfl⟩ := key b h0 h1
      exact ⟨c, by omega, by rw [if_neg h]⟩
    · rintro ⟨b, rfl, rfl⟩
      have := b.toNat_lt
      exact ⟨b.toNat, by omega, by omega, by omega, by rw [if_neg h]⟩
theorem lenRd_path {c : Nat} {p : Pr} {pos n : Int} {m : List PB} : (lenRd c p pos).path n m ↔ isLen n ∧ m = allBits (lenOps c p pos n) := by
  have e3 : (2 : Int) ^ 3 = 8 := by decide
  have e8 : (2 : Int) ^ 8 = 256 := by decide
  unfold isLen lenOps
  dsimp only
  constructor
  · rintro ⟨b, m', hb, rfl, h⟩
    rcases hb with rfl | rfl
    · dsimp -failIfUnchanged only at h; rw [if_pos rfl, Rd.path_map] at h
      obtain ⟨v, h, rfl⟩ := h
      obtain ⟨h0, h1, rfl⟩ := treeRd_path.1 h
      rw [e3] at h1
      rw [if_pos (by omega), show 2 + v - 2 = v from by omega]
      exact ⟨by omega, by simp only [allBits_cons, allBits_nil, bits_bit, tree_bits, List.append_nil]; rfl⟩
    · dsimp -failIfUnchanged only at h; rw [if_neg (by omega)] at h
      obtain ⟨b, m', hb, rfl, h⟩ := h
      rcases hb with rfl | rfl
      · dsimp -failIfUnchanged only at h; rw [if_pos rfl, Rd.path_map] at h
        obtain ⟨v, h, rfl⟩ := h
        obtain ⟨h0, h1, rfl⟩ := treeRd_path.1 h
        rw [e3] at h1
        rw [if_neg (by omega), if_pos (by omega), show 10 + v - 2 - 8 = v from by omega]
        exact ⟨by omega, by simp only [allBits_cons, allBits_nil, bits_bit, tree_bits, List.append_nil]; rfl⟩
      · dsimp -failIfUnchanged only at h; rw [if_neg (by omega), Rd.path_map] at h
        obtain ⟨v, h, rfl⟩ := h
        obtain ⟨h0, h1, rfl⟩ := treeRd_path.1 h
        rw [e8] at h1
        rw [if_neg (by omega), if_neg (by omega), show 18 + v - 2 - 16 = v from by omega]
        exact ⟨by omega, by simp only [allBits_cons, allBits_nil, bits_bit, tree_bits, List.append_nil]; rfl⟩
  · rintro ⟨⟨h0, h1⟩, rfl⟩
    by_cases a1 : n - 2 < 8
    · rw [if_pos a1]
      refine ⟨0, _, .inl rfl, rfl, ?_⟩
      dsimp -failIfUnchanged only; rw [if_pos rfl, Rd.path_map]
      exact ⟨n - 2, treeRd_path.2 ⟨by omega, by omega, by simp; rfl⟩, by omega⟩
    · rw [if_neg a1]
      by_cases a2 : n - 2 < 16
      · rw [if_pos a2]
        refine ⟨1, _, .inr rfl, rfl, ?_⟩
        dsimp -failIfUnchanged only; rw [if_neg (by omega)]
        refine ⟨0, _, .inl rfl, rfl, ?_⟩
        dsimp -failIfUnchanged only; rw [if_pos rfl, Rd.path_map]
        exact ⟨n - 2 - 8, treeRd_path.2 ⟨by omega, by omega, by simp; rfl⟩, by omega⟩
      · rw [if_neg a2]
        refine ⟨1, _, .inr rfl, rfl, ?_⟩
        dsimp -failIfUnchanged only; rw [if_neg (by omega)]
        refine ⟨1, _, .inr rfl, rfl, ?_⟩
        dsimp -failIfUnchanged only; rw [if_neg (by omega), Rd.path_map]
        exact ⟨n - 2 - 16, treeRd_path.2 ⟨by omega, by omega, by simp; rfl⟩, by omega⟩

theorem slots_apart : ∀ a b : Fin 64, a < b → least (a.val : Int) + 2 ^ bitsN (a.val : Int) ≤ least (b.val : Int) := by decide +kernel
theorem slot_least {s r : Int} (h0 : 0 ≤ s) (h1 : s ≤ 63) (r0 : 0 ≤ r) (r1 : r < 2 ^ bitsN s) (hd : isDist (least s + r)) : slot (least s + r) = s := by
  obtain ⟨a0, a1, _, a2, a3⟩ := slot_law hd
  generalize slot (least s + r) = u at *
  have key := slots_apart
  rcases Int.lt_trichotomy s u with h | h | h
  · have := key ⟨s.toNat, by omega⟩ ⟨u.toNat, by omega⟩ (by show s.toNat < u.toNat; omega)
    simp only [Int.toNat_of_nonneg h0, Int.toNat_of_nonneg a0] at this
    omega
  · exact h.symm
  · have := key ⟨u.toNat, by omega⟩ ⟨s.toNat, by omega⟩ (by show u.toNat < s.toNat; omega)
    simp only [Int.toNat_of_nonneg h0, Int.toNat_of_nonneg a0] at this
    omega
theorem distRd_path {n d : Int} {m : List PB} (hd : isDist d) : (distRd n).path d m ↔ m = allBits (distOps n d) := by
  have e6 : (2 : Int) ^ 6 = 64 := by decide
  have e4 : (2 : Int) ^ 4 = 16 := by decide
  unfold distRd distOps
  dsimp only
  rw [Rd.path_bind]
  constructor
  · rintro ⟨s, m1, m2, h1, h2, rfl⟩
    obtain ⟨s0, s1, rfl⟩ := treeRd_path.1 h1
    rw [e6] at s1
    by_cases c4 : s < 4
    · rw [if_pos c4] at h2
      obtain ⟨rfl, rfl⟩ := h2
      have hz := (bits_0 s0).2 c4
      have := slot_least (r := 0) s0 (by omega) (by omega) (by rw [hz]; decide) (by rwa [Int.add_zero])
      rw [Int.add_zero] at this
      rw [this, if_pos hz, allBits_cons, allBits_nil]
      rfl
    · rw [if_neg c4] at h2
      have hnz : ¬ bitsN s = 0 := fun h => c4 ((bits_0 s0).1 h)
      by_cases c14 : s < 14
      · rw [if_pos c14, Rd.path_map] at h2
        obtain ⟨v, h, rfl⟩ := h2
        obtain ⟨v0, v1, rfl⟩ := treeRd_path.1 h
        rw [slot_least s0 (by omega) v0 v1 hd, if_neg hnz, if_pos c14, show least s + v - least s = v from by omega]
        simp only [allBits_cons, allBits_nil, tree_bits, back_bits, List.append_nil]
      · rw [if_neg c14, Rd.path_bind] at h2
        obtain ⟨h, l1, l2, h3, h4, rfl⟩ := h2
        rw [Rd.path_map] at h4
        obtain ⟨v, h4, rfl⟩ := h4
        obtain ⟨v0, v1, rfl⟩ := treeRd_path.1 h4
        obtain ⟨w, w0, w1, rfl, rfl⟩ := (dirRd_path _).1 h3
        rw [Int.zero_mul, Int.zero_add] at *
        rw [e4] at v1
        have hb6 := late_bits (s := s) (by omega)
        have hpow : (2 : Int) ^ bitsN s = 2 ^ (bitsN s - 4) * 16 := by rw [show bitsN s = (bitsN s - 4) + 4 from by omega, Int.pow_add, e4, show bitsN s - 4 + 4 - 4 = bitsN s - 4 from by omega]
        rw [show least s + w * 16 + v = least s + (w * 16 + v) from by omega] at hd ⊢
        rw [slot_least s0 (by omega) (by omega) (by omega) hd, if_neg hnz, if_neg c14, show least s + (w * 16 + v) - least s = w * 16 + v from by omega, show (w * 16 + v) / 16 = w from by omega, show (w * 16 + v) % 16 = v from by omega]
        simp only [allBits_cons, allBits_nil, tree_bits, back_bits, List.append_nil]
  · rintro rfl
    obtain ⟨a0, a1, a2, a3, a4⟩ := slot_law hd
    refine ⟨slot d, _, _, treeRd_path.2 ⟨a0, by omega, rfl⟩, ?_, by rw [allBits_cons, tree_bits]⟩
    by_cases c4 : slot d < 4
    · have hz := (bits_0 a0).2 c4
      rw [hz, Int.pow_zero] at a4
      rw [if_pos c4, if_pos hz]
      exact ⟨by omega, rfl⟩
    · have hnz : ¬ bitsN (slot d) = 0 := fun h => c4 ((bits_0 a0).1 h)
      rw [if_neg c4, if_neg hnz]
      by_cases c14 : slot d < 14
      · rw [if_pos c14, if_pos c14, Rd.path_map]
        exact ⟨d - least (slot d), treeRd_path.2 ⟨by omega, a4, by simp only [allBits_cons, allBits_nil, back_bits, List.append_nil]⟩, by omega⟩
      · rw [if_neg c14, if_neg c14, Rd.path_bind]
        have hb6 := late_bits (s := slot d) (by omega)
        have hpow : (2 : Int) ^ bitsN (slot d) = 2 ^ (bitsN (slot d) - 4) * 16 := by rw [show bitsN (slot d) = (bitsN (slot d) - 4) + 4 from by omega, Int.pow_add, e4, show bitsN (slot d) - 4 + 4 - 4 = bitsN (slot d) - 4 from by omega]
        refine ⟨(d - least (slot d)) / 16, _, _, (dirRd_path _).2 ⟨(d - least (slot d)) / 16, by omega, by omega, by rw [Int.zero_mul, Int.zero_add], rfl⟩, Rd.path_map.2 ⟨(d - least (slot d)) % 16, treeRd_path.2 ⟨by omega, by omega, rfl⟩, by omega⟩, ?_⟩
        simp only [allBits_cons, allBits_nil, back_bits, List.append_nil]

theorem repRd_path {p : Pr} {pos d : Int} {y : Y} {m : List PB} : (repRd p pos d).path y m ↔ isLen y.Len ∧ y = ⟨3, 0, y.Len, d⟩ ∧ m = allBits (lenOps 11 p pos y.Len) := by
  rw [repRd, Rd.path_map]
  constructor
  · rintro ⟨n, h, rfl⟩
    obtain ⟨h1, rfl⟩ := lenRd_path.1 h
    exact ⟨h1, rfl, rfl⟩
  · rintro ⟨h1, h2, rfl⟩
    exact ⟨y.Len, lenRd_path.2 ⟨h1, rfl⟩, h2⟩
theorem byteOf_byte (b : UInt8) : byteOf (b.toNat : Int) = b := byteOf_self b
theorem symRd_bits {p : Pr} {s : St} {x : W} {y : Y} (hy : errY y = 0) : (symRd p s x).path (used y) (allBits (symOps p s x y)) := by
  unfold symOps used
  dsimp only
  rcases kinds hy with hk | hk | hk | hk
  · rw [if_pos hk, if_pos hk]
    refine ⟨0, _, .inl rfl, rfl, ?_⟩
    dsimp -failIfUnchanged only; rw [if_pos rfl, Rd.path_map]
    exact ⟨_, litRd_path.2 ⟨y.Byte, rfl, rfl⟩, by rw [byteOf_byte]⟩
  · rw [if_neg (by omega), if_pos hk, if_neg (by omega), if_neg (by omega), if_pos hk]
    refine ⟨1, _, .inr rfl, rfl, ?_⟩
    dsimp -failIfUnchanged only; rw [if_neg (by omega)]
    refine ⟨1, _, .inr rfl, rfl, ?_⟩
    dsimp -failIfUnchanged only; rw [if_neg (by omega)]
    refine ⟨0, _, .inl rfl, rfl, ?_⟩
    dsimp -failIfUnchanged only; rw [if_pos rfl]
    refine ⟨0, _, .inl rfl, rfl, ?_⟩
    dsimp -failIfUnchanged only; rw [if_pos rfl]
    exact ⟨rfl, rfl⟩
  · have hl := err_len hy (.inl hk)
    have hd := err_dist hy hk
    rw [if_neg (by omega), if_neg (by omega), if_neg (by omega), if_pos hk, hk, List.append_assoc]
    refine ⟨1, _, .inr rfl, rfl, ?_⟩
    dsimp -failIfUnchanged only; rw [if_neg (by omega)]
    refine ⟨0, _, .inl rfl, rfl, ?_⟩
    dsimp -failIfUnchanged only; rw [if_pos rfl, Rd.path_bind]
    refine ⟨y.Len, _, _, lenRd_path.2 ⟨hl, rfl⟩, Rd.path_map.2 ⟨y.Dist, (distRd_path hd).2 rfl, rfl⟩, ?_⟩
    rw [← allBits_append]
    rfl
  · have hl := err_len hy (.inr hk)
    have hd := err_rep hy hk
    rw [if_neg (by omega), if_neg (by omega), if_neg (by omega), if_neg (by omega), if_neg (by omega), hk]
    have h4 : y.Dist = 0 ∨ y.Dist = 1 ∨ y.Dist = 2 ∨ y.Dist = 3 := by omega
    refine ⟨1, _, .inr rfl, rfl, ?_⟩
    dsimp -failIfUnchanged only; rw [if_neg (by omega)]
    refine ⟨1, _, .inr rfl, rfl, ?_⟩
    dsimp -failIfUnchanged only; rw [if_neg (by omega)]
    rcases h4 with h4 | h4 | h4 | h4 <;> rw [h4]
    · refine ⟨0, _, .inl rfl, rfl, ?_⟩
      dsimp -failIfUnchanged only; rw [if_pos rfl]
      refine ⟨1, _, .inr rfl, rfl, ?_⟩
      dsimp -failIfUnchanged only; rw [if_neg (by omega)]
      exact repRd_path.2 ⟨hl, rfl, rfl⟩
    · refine ⟨1, _, .inr rfl, rfl, ?_⟩
      dsimp -failIfUnchanged only; rw [if_neg (by omega)]
      refine ⟨0, _, .inl rfl, rfl, ?_⟩
      dsimp -failIfUnchanged only; rw [if_pos rfl]
      exact repRd_path.2 ⟨hl, rfl, rfl⟩
    · refine ⟨1, _, .inr rfl, rfl, ?_⟩
      dsimp -failIfUnchanged only; rw [if_neg (by omega)]
      refine ⟨1, _, .inr rfl, rfl, ?_⟩
      dsimp -failIfUnchanged only; rw [if_neg (by omega)]
      refine ⟨0, _, .inl rfl, rfl, ?_⟩
      exact repRd_path.2 ⟨hl, rfl, rfl⟩
    · refine ⟨1, _, .inr rfl, rfl, ?_⟩
      dsimp -failIfUnchanged only; rw [if_neg (by omega)]
      refine ⟨1, _, .inr rfl, rfl, ?_⟩
      dsimp -failIfUnchanged only; rw [if_neg (by omega)]
      refine ⟨1, _, .inr rfl, rfl, ?_⟩
      exact repRd_path.2 ⟨hl, rfl, rfl⟩

end Z
end Go.Proofs.YtbgnnjfpiblkmaaGreatDoor

namespace Go.Proofs.YtbgnnjfpiblkmaaGreatDoor
open Go
set_option maxRecDepth 100000

def lzenc_New.F [Pan] (x0 x1 : Value) (w : World) (Q : Value → World → Prop) : Prop :=
 pN Tryz.prog (oBox 23 x0) w fun x2 w1 =>
 pN Tryz.prog (oLoad 23 x2) w1 fun x11 w2 =>
 pN Tryz.prog (oCall 45 [x11]) w2 fun x12 w3 =>
 pN Tryz.prog (oExt x12 0) w3 fun _ w4 =>
 pN Tryz.prog (oExt x12 1) w4 fun x14 w5 =>
 pN Tryz.prog (oBin .neq 38 (.tmp 15) (.const (.int .i64 0)) x14 (.int .i64 0)) w5 fun x16 w6 =>
 pIf x16
 (Q (.tuple #[(.pointer none), x14]) w6)
 (pN Tryz.prog (oCall 42 [x1]) w6 fun x20 w7 =>
 pN Tryz.prog (oExt x20 0) w7 fun x21 w8 =>
 pN Tryz.prog (oExt x20 1) w8 fun x22 w9 =>
 pN Tryz.prog (oBin .neq 38 (.tmp 23) (.const (.int .i64 0)) x22 (.int .i64 0)) w9 fun x24 w10 =>
 pIf x24
 (Q (.tuple #[(.pointer none), x22]) w10)
 (pN Tryz.prog (oLoad 23 x2) w10 fun x26 w11 =>
 pN Tryz.prog (oCall 61 [x26]) w11 fun x27 w12 =>
 pN Tryz.prog (oCall 62 []) w12 fun x29 w13 =>
 pN Tryz.prog (oBuild 128 [(0, x27), (1, x21), (2, x29)]) w13 fun x30 w14 =>
 pN Tryz.prog (oBox 128 x30) w14 fun x31 w15 =>
 Q (.tuple #[x31, (.int .i64 0)]) w15))
theorem lzenc_New.calls [Pan] {x0 x1 : Value} {w : World} {Q : Value → World → Prop} (h : lzenc_New.F x0 x1 w Q) : Calls Tryz.prog 13 #[x0, x1] w (retP Q) := calls_lift mixed .z [x0, x1] Tryz.func13 (by kernel_rfl) (by kernel_rfl) h

def lzenc_Encoder_Put.H : Hints := { cut := fun | 8 => some ([], 1123700883587072) | _ => none, loop := fun  | _ => ([], 0), order := fun | 4 => [(0, 0), (1, 1), (2, 3), (3, 7), (4, 15), (7, 31), (5, 159), (6, 191), (8, 255)] | 7 => [(0, 0), (1, 1), (2, 3), (3, 7), (4, 15), (5, 31), (6, 63), (7, 127)] | _ => [] }
def lzenc_Encoder_Put.F [Pan] (x0 x1 : Value) (w : World) (Q : Value → World → Prop) : Prop :=
 pN Tryz.prog (oBox 48 x1) w fun x3 w1 =>
 pN Tryz.prog (oLoad 48 x3) w1 fun x10 w2 =>
 pN Tryz.prog (oCall 67 [x0, x10]) w2 fun x11 w3 =>
 pN Tryz.prog (oBin .neq 38 (.tmp 12) (.const (.int .i64 0)) x11 (.int .i64 0)) w3 fun x13 w4 =>
 pIf x13
 (Q x11 w4)
 (pDr w4 fun w5 =>
 pA Tryz.prog (oNil x0) fun x17 =>
 pA Tryz.prog (oFld 128 x17 2) fun x18 =>
 pL Tryz.prog (oLoad 125 x18) w5 fun x19 =>
 pL Tryz.prog (oLoad 48 x3) w5 fun x22 =>
 pN Tryz.prog (oBuild 136 [(0, x19)]) w5 fun x20 w6 =>
 ((Sem.run Tryz.prog (oLoad 48 x3) w6 = .ok (.value x22) w6) ∧ True) ∧ (pN Tryz.prog (oIface 136 x20) w6 fun x21 w7 =>
 ((Sem.run Tryz.prog (oLoad 48 x3) w7 = .ok (.value x22) w7) ∧ True) ∧ (pN Tryz.prog (oCall 68 [x0, x21, x22]) w7 fun _ w8 =>
 (True) ∧ (pDr w8 fun w9 =>
 pA Tryz.prog (oNil x0) fun x26 =>
 pA Tryz.prog (oFld 128 x26 1) fun x27 =>
 pL Tryz.prog (oLoad 97 x27) w9 fun x28 =>
 pA Tryz.prog (oNil x0) fun x30 =>
 pA Tryz.prog (oFld 128 x30 0) fun x31 =>
 pL Tryz.prog (oLoad 123 x31) w9 fun x32 =>
 pA Tryz.prog (oNil x32) fun x33 =>
 pA Tryz.prog (oFld 141 x33 1) fun x34 =>
 pL Tryz.prog (oLoad 100 x34) w9 fun x35 =>
 pL Tryz.prog (oLoad 48 x3) w9 fun x36 =>
 (pN Tryz.prog (oCall 48 [x28, x35, x36]) w9 fun x37 w10 =>
 (True) ∧ (pA Tryz.prog (oExt x37 0) fun _ =>
 pA Tryz.prog (oExt x37 1) fun x39 =>
 pA Tryz.prog (oExt x37 2) fun x40 =>
 pN Tryz.prog (oAlloc 100) w10 fun x7 w11 =>
 (True) ∧ (pN Tryz.prog (oStore 100 x7 x39) w11 fun _ w12 =>
 (True) ∧ (∃ I8 : World → Prop,
 (pN Tryz.prog (oBin .eql 38 (.tmp 41) (.const (.int .i64 0)) x40 (.int .i64 0)) w12 fun x42 w13 =>
 pIf x42
 (pDr w13 fun w14 =>
 pA Tryz.prog (oNil x0) fun x44 =>
 pA Tryz.prog (oFld 128 x44 0) fun x45 =>
 pL Tryz.prog (oLoad 123 x45) w14 fun x46 =>
 pL Tryz.prog (oLoad 100 x7) w14 fun x47 =>
 pA Tryz.prog (oNil x46) fun x48 =>
 pA Tryz.prog (oFld 141 x48 1) fun x49 =>
 pN Tryz.prog (oStore 100 x49 x47) w14 fun _ w15 =>
 (True) ∧ (I8 w15))
 (I8 w13)) ∧
 ∀ (_j8 : Env) (w16 : World), I8 w16 →
 Q x40 w16)))) ∧ (pN Tryz.prog (oAlloc 100) w9 fun x7 w17 =>
 ((Sem.run Tryz.prog (oLoad 48 x3) w17 = .ok (.value x36) w17) ∧ (Sem.run Tryz.prog (oLoad 100 x34) w17 = .ok (.value x35) w17) ∧ (Sem.run Tryz.prog (oLoad 123 x31) w17 = .ok (.value x32) w17) ∧ (Sem.run Tryz.prog (oLoad 97 x27) w17 = .ok (.value x28) w17) ∧ True) ∧ (pN Tryz.prog (oCall 48 [x28, x35, x36]) w17 fun x37 w18 =>
 (True) ∧ (pA Tryz.prog (oExt x37 0) fun _ =>
 pA Tryz.prog (oExt x37 1) fun x39 =>
 pA Tryz.prog (oExt x37 2) fun x40 =>
 pN Tryz.prog (oStore 100 x7 x39) w18 fun _ w19 =>
 (True) ∧ (∃ I8 : World → Prop,
 (pN Tryz.prog (oBin .eql 38 (.tmp 41) (.const (.int .i64 0)) x40 (.int .i64 0)) w19 fun x42 w20 =>
 pIf x42
 (pDr w20 fun w21 =>
 pA Tryz.prog (oNil x0) fun x44 =>
 pA Tryz.prog (oFld 128 x44 0) fun x45 =>
 pL Tryz.prog (oLoad 123 x45) w21 fun x46 =>
 pL Tryz.prog (oLoad 100 x7) w21 fun x47 =>
 pA Tryz.prog (oNil x46) fun x48 =>
 pA Tryz.prog (oFld 141 x48 1) fun x49 =>
 pN Tryz.prog (oStore 100 x49 x47) w21 fun _ w22 =>
 (True) ∧ (I8 w22))
 (I8 w20)) ∧
 ∀ (_j8 : Env) (w23 : World), I8 w23 →
 Q x40 w23))))))))
theorem lzenc_Encoder_Put.calls [Pan] {x0 x1 : Value} {w : World} {Q : Value → World → Prop} (h : lzenc_Encoder_Put.F x0 x1 w Q) : Calls Tryz.prog 17 #[x0, x1] w (retP Q) := calls_lift mixed lzenc_Encoder_Put.H [x0, x1] Tryz.func17 (by kernel_rfl) (by kernel_rfl) h

def lzenc_Encoder_Cost.F [Pan] (x0 x1 : Value) (w : World) (Q : Value → World → Prop) : Prop :=
 pN Tryz.prog (oBox 48 x1) w fun x3 w1 =>
 pN Tryz.prog (oLoad 48 x3) w1 fun x9 w2 =>
 pN Tryz.prog (oCall 67 [x0, x9]) w2 fun x10 w3 =>
 pN Tryz.prog (oBin .neq 38 (.tmp 11) (.const (.int .i64 0)) x10 (.int .i64 0)) w3 fun x12 w4 =>
 pIf x12
 (Q (.tuple #[(.int .i64 0), x10]) w4)
 (pN Tryz.prog (oAlloc 155) w4 fun x7 w5 =>
 pN Tryz.prog (oIface 156 x7) w5 fun x15 w6 =>
 pN Tryz.prog (oLoad 48 x3) w6 fun x16 w7 =>
 pN Tryz.prog (oCall 68 [x0, x15, x16]) w7 fun _ w8 =>
 pN Tryz.prog (oFld 155 x7 0) w8 fun x18 w9 =>
 pN Tryz.prog (oLoad 3 x18) w9 fun x19 w10 =>
 Q (.tuple #[x19, (.int .i64 0)]) w10)
theorem lzenc_Encoder_Cost.calls [Pan] {x0 x1 : Value} {w : World} {Q : Value → World → Prop} (h : lzenc_Encoder_Cost.F x0 x1 w Q) : Calls Tryz.prog 19 #[x0, x1] w (retP Q) := calls_lift mixed .z [x0, x1] Tryz.func19 (by kernel_rfl) (by kernel_rfl) h

def lzenc_Encoder_Cut.F [Pan] (x0 : Value) (w : World) (Q : Value → World → Prop) : Prop :=
 pN Tryz.prog (oNil x0) w fun x5 w1 =>
 pN Tryz.prog (oFld 128 x5 2) w1 fun x6 w2 =>
 pN Tryz.prog (oLoad 125 x6) w2 fun x7 w3 =>
 pN Tryz.prog (oCall 76 [x7]) w3 fun x8 w4 =>
 pN Tryz.prog (oCall 62 []) w4 fun x10 w5 =>
 pN Tryz.prog (oNil x0) w5 fun x11 w6 =>
 pN Tryz.prog (oFld 128 x11 2) w6 fun x12 w7 =>
 pN Tryz.prog (oStore 125 x12 x10) w7 fun _ w8 =>
 Q x8 w8
theorem lzenc_Encoder_Cut.calls [Pan] {x0 : Value} {w : World} {Q : Value → World → Prop} (h : lzenc_Encoder_Cut.F x0 w Q) : Calls Tryz.prog 21 #[x0] w (retP Q) := calls_lift mixed .z [x0] Tryz.func21 (by kernel_rfl) (by kernel_rfl) h

def lzenc_Encoder_Raw.F [Pan] (x0 x1 : Value) (w : World) (Q : Value → World → Prop) : Prop :=
 pN Tryz.prog (oNil x0) w fun x5 w1 =>
 pN Tryz.prog (oFld 128 x5 1) w1 fun x6 w2 =>
 pN Tryz.prog (oLoad 97 x6) w2 fun x7 w3 =>
 pN Tryz.prog (oCall 46 [x7, x1]) w3 fun _ w4 =>
 Q (.tuple #[]) w4
theorem lzenc_Encoder_Raw.calls [Pan] {x0 x1 : Value} {w : World} {Q : Value → World → Prop} (h : lzenc_Encoder_Raw.F x0 x1 w Q) : Calls Tryz.prog 24 #[x0, x1] w (retP Q) := calls_lift mixed .z [x0, x1] Tryz.func24 (by kernel_rfl) (by kernel_rfl) h

def lzenc_Encoder_Reset.F [Pan] (x0 x1 : Value) (w : World) (Q : Value → World → Prop) : Prop :=
 pN Tryz.prog (oBox 23 x1) w fun x3 w1 =>
 pN Tryz.prog (oLoad 23 x3) w1 fun x8 w2 =>
 pN Tryz.prog (oCall 45 [x8]) w2 fun x9 w3 =>
 pN Tryz.prog (oExt x9 0) w3 fun _ w4 =>
 pN Tryz.prog (oExt x9 1) w4 fun x11 w5 =>
 pN Tryz.prog (oBin .neq 38 (.tmp 12) (.const (.int .i64 0)) x11 (.int .i64 0)) w5 fun x13 w6 =>
 pIf x13
 (Q x11 w6)
 (pN Tryz.prog (oLoad 23 x3) w6 fun x16 w7 =>
 pN Tryz.prog (oCall 61 [x16]) w7 fun x17 w8 =>
 pN Tryz.prog (oNil x0) w8 fun x18 w9 =>
 pN Tryz.prog (oFld 128 x18 0) w9 fun x19 w10 =>
 pN Tryz.prog (oStore 123 x19 x17) w10 fun _ w11 =>
 Q (.int .i64 0) w11)
theorem lzenc_Encoder_Reset.calls [Pan] {x0 x1 : Value} {w : World} {Q : Value → World → Prop} (h : lzenc_Encoder_Reset.F x0 x1 w Q) : Calls Tryz.prog 26 #[x0, x1] w (retP Q) := calls_lift mixed .z [x0, x1] Tryz.func26 (by kernel_rfl) (by kernel_rfl) h

def lzenc_Encoder_Clear.F [Pan] (x0 : Value) (w : World) (Q : Value → World → Prop) : Prop :=
 pN Tryz.prog (oNil x0) w fun x4 w1 =>
 pN Tryz.prog (oFld 128 x4 0) w1 fun x5 w2 =>
 pN Tryz.prog (oLoad 123 x5) w2 fun x6 w3 =>
 pN Tryz.prog (oNil x6) w3 fun x7 w4 =>
 pN Tryz.prog (oFld 141 x7 0) w4 fun x8 w5 =>
 pN Tryz.prog (oLoad 23 x8) w5 fun x9 w6 =>
 pN Tryz.prog (oCall 61 [x9]) w6 fun x10 w7 =>
 pN Tryz.prog (oNil x0) w7 fun x11 w8 =>
 pN Tryz.prog (oFld 128 x11 0) w8 fun x12 w9 =>
 pN Tryz.prog (oStore 123 x12 x10) w9 fun _ w10 =>
 pN Tryz.prog (oNil x0) w10 fun x14 w11 =>
 pN Tryz.prog (oFld 128 x14 1) w11 fun x15 w12 =>
 pN Tryz.prog (oLoad 97 x15) w12 fun x16 w13 =>
 pN Tryz.prog (oCall 47 [x16]) w13 fun _ w14 =>
 Q (.tuple #[]) w14
theorem lzenc_Encoder_Clear.calls [Pan] {x0 : Value} {w : World} {Q : Value → World → Prop} (h : lzenc_Encoder_Clear.F x0 w Q) : Calls Tryz.prog 28 #[x0] w (retP Q) := calls_lift mixed .z [x0] Tryz.func28 (by kernel_rfl) (by kernel_rfl) h

def lzenc_Encoder_Size.F [Pan] (x0 : Value) (w : World) (Q : Value → World → Prop) : Prop :=
 pN Tryz.prog (oNil x0) w fun x4 w1 =>
 pN Tryz.prog (oFld 128 x4 2) w1 fun x5 w2 =>
 pN Tryz.prog (oLoad 125 x5) w2 fun x6 w3 =>
 pN Tryz.prog (oCall 86 [x6]) w3 fun x7 w4 =>
 Q x7 w4
theorem lzenc_Encoder_Size.calls [Pan] {x0 : Value} {w : World} {Q : Value → World → Prop} (h : lzenc_Encoder_Size.F x0 w Q) : Calls Tryz.prog 32 #[x0] w (retP Q) := calls_lift mixed .z [x0] Tryz.func32 (by kernel_rfl) (by kernel_rfl) h

def lzenc_Encoder_may.H : Hints := { cut := fun | 14 => some ([7], 144115188042301584) | _ => none, loop := fun  | _ => ([], 0), order := fun | 11 => [(0, 0), (1, 1), (2, 3), (3, 7), (4, 15), (5, 31), (6, 63), (7, 127), (8, 255), (9, 511), (10, 1023), (11, 2047)] | _ => [] }
def lzenc_Encoder_may.F [Pan] (x0 x1 : Value) (w : World) (Q : Value → World → Prop) : Prop :=
 pN Tryz.prog (oBox 48 x1) w fun x3 w1 =>
 pDr w1 fun w2 =>
 pA Tryz.prog (oNil x0) fun x12 =>
 pA Tryz.prog (oFld 128 x12 0) fun x13 =>
 pL Tryz.prog (oLoad 123 x13) w2 fun x14 =>
 pA Tryz.prog (oNil x14) fun x15 =>
 pA Tryz.prog (oFld 141 x15 1) fun x16 =>
 pL Tryz.prog (oLoad 100 x16) w2 fun x17 =>
 pL Tryz.prog (oLoad 48 x3) w2 fun x18 =>
 (pN Tryz.prog (oCall 92 [x17, x18]) w2 fun x19 w3 =>
 (True) ∧ (pA Tryz.prog (oExt x19 0) fun x20 =>
 pA Tryz.prog (oExt x19 1) fun x21 =>
 pN Tryz.prog (oAlloc 100) w3 fun x5 w4 =>
 (True) ∧ (pN Tryz.prog (oStore 100 x5 x20) w4 fun _ w5 =>
 (True) ∧ (pN Tryz.prog (oBin .neq 38 (.tmp 22) (.const (.int .i64 0)) x21 (.int .i64 0)) w5 fun x23 w6 =>
 pIf x23
 (Q x21 w6)
 (∃ I14 : Value → World → Prop,
 (pN Tryz.prog (oFld 48 x3 0) w6 fun x25 w7 =>
 pN Tryz.prog (oLoad 3 x25) w7 fun x26 w8 =>
 pN Tryz.prog (oBin .eql 3 (.tmp 26) (.const (.int .i64 1)) x26 (.int .i64 1)) w8 fun x28 w9 =>
 pIf x28
 (Q (.int .i64 0) w9)
 (pN Tryz.prog (oBin .eql 3 (.tmp 26) (.const (.int .i64 2)) x26 (.int .i64 2)) w9 fun x30 w10 =>
 pIf x30
 (pN Tryz.prog (oFld 48 x3 3) w10 fun x31 w11 =>
 pN Tryz.prog (oLoad 3 x31) w11 fun x32 w12 =>
 I14 x32 w12)
 (pN Tryz.prog (oBin .eql 3 (.tmp 26) (.const (.int .i64 3)) x26 (.int .i64 3)) w10 fun x34 w13 =>
 pIf x34
 (pDr w13 fun w14 =>
 pA Tryz.prog (oNil x0) fun x36 =>
 pA Tryz.prog (oFld 128 x36 0) fun x37 =>
 pL Tryz.prog (oLoad 123 x37) w14 fun x38 =>
 pA Tryz.prog (oFld 48 x3 3) fun x39 =>
 pL Tryz.prog (oLoad 3 x39) w14 fun x40 =>
 pA Tryz.prog (oNil x38) fun x41 =>
 pA Tryz.prog (oFld 141 x41 1) fun x42 =>
 pA Tryz.prog (oFld 100 x42 1) fun x43 =>
 pA Tryz.prog (oIdx 67 x43 x40) fun x44 =>
 pL Tryz.prog (oLoad 3 x44) w14 fun x45 =>
 I14 x45 w14)
 (pN Tryz.prog (oBin .eql 3 (.tmp 26) (.const (.int .i64 4)) x26 (.int .i64 4)) w13 fun x47 w15 =>
 pIf x47
 (pN Tryz.prog (oNil x0) w15 fun x49 w16 =>
 pN Tryz.prog (oFld 128 x49 0) w16 fun x50 w17 =>
 pN Tryz.prog (oLoad 123 x50) w17 fun x51 w18 =>
 pN Tryz.prog (oNil x51) w18 fun x52 w19 =>
 pN Tryz.prog (oFld 141 x52 1) w19 fun x53 w20 =>
 pN Tryz.prog (oFld 100 x53 1) w20 fun x54 w21 =>
 pN Tryz.prog (oIdx 67 x54 (.int .i64 0)) w21 fun x55 w22 =>
 pN Tryz.prog (oLoad 3 x55) w22 fun x56 w23 =>
 I14 x56 w23)
 (I14 (.int .i64 0) w15))))) ∧
 ∀ (_j14 : Env) (dist7c14 : Value) (w24 : World), I14 dist7c14 w24 →
 pN Tryz.prog (oNil x0) w24 fun x59 w25 =>
 pN Tryz.prog (oFld 128 x59 1) w25 fun x60 w26 =>
 pN Tryz.prog (oLoad 97 x60) w26 fun x61 w27 =>
 pN Tryz.prog (oCall 101 [x61, dist7c14]) w27 fun x63 w28 =>
 pN Tryz.prog (oExt x63 0) w28 fun _ w29 =>
 pN Tryz.prog (oExt x63 1) w29 fun x65 w30 =>
 Q x65 w30))))) ∧ (pN Tryz.prog (oAlloc 100) w2 fun x5 w31 =>
 ((Sem.run Tryz.prog (oLoad 48 x3) w31 = .ok (.value x18) w31) ∧ (Sem.run Tryz.prog (oLoad 100 x16) w31 = .ok (.value x17) w31) ∧ (Sem.run Tryz.prog (oLoad 123 x13) w31 = .ok (.value x14) w31) ∧ True) ∧ (pN Tryz.prog (oCall 92 [x17, x18]) w31 fun x19 w32 =>
 (True) ∧ (pA Tryz.prog (oExt x19 0) fun x20 =>
 pA Tryz.prog (oExt x19 1) fun x21 =>
 pN Tryz.prog (oStore 100 x5 x20) w32 fun _ w33 =>
 (True) ∧ (pN Tryz.prog (oBin .neq 38 (.tmp 22) (.const (.int .i64 0)) x21 (.int .i64 0)) w33 fun x23 w34 =>
 pIf x23
 (Q x21 w34)
 (∃ I14 : Value → World → Prop,
 (pN Tryz.prog (oFld 48 x3 0) w34 fun x25 w35 =>
 pN Tryz.prog (oLoad 3 x25) w35 fun x26 w36 =>
 pN Tryz.prog (oBin .eql 3 (.tmp 26) (.const (.int .i64 1)) x26 (.int .i64 1)) w36 fun x28 w37 =>
 pIf x28
 (Q (.int .i64 0) w37)
 (pN Tryz.prog (oBin .eql 3 (.tmp 26) (.const (.int .i64 2)) x26 (.int .i64 2)) w37 fun x30 w38 =>
 pIf x30
 (pN Tryz.prog (oFld 48 x3 3) w38 fun x31 w39 =>
 pN Tryz.prog (oLoad 3 x31) w39 fun x32 w40 =>
 I14 x32 w40)
 (pN Tryz.prog (oBin .eql 3 (.tmp 26) (.const (.int .i64 3)) x26 (.int .i64 3)) w38 fun x34 w41 =>
 pIf x34
 (pDr w41 fun w42 =>
 pA Tryz.prog (oNil x0) fun x36 =>
 pA Tryz.prog (oFld 128 x36 0) fun x37 =>
 pL Tryz.prog (oLoad 123 x37) w42 fun x38 =>
 pA Tryz.prog (oFld 48 x3 3) fun x39 =>
 pL Tryz.prog (oLoad 3 x39) w42 fun x40 =>
 pA Tryz.prog (oNil x38) fun x41 =>
 pA Tryz.prog (oFld 141 x41 1) fun x42 =>
 pA Tryz.prog (oFld 100 x42 1) fun x43 =>
 pA Tryz.prog (oIdx 67 x43 x40) fun x44 =>
 pL Tryz.prog (oLoad 3 x44) w42 fun x45 =>
 I14 x45 w42)
 (pN Tryz.prog (oBin .eql 3 (.tmp 26) (.const (.int .i64 4)) x26 (.int .i64 4)) w41 fun x47 w43 =>
 pIf x47
 (pN Tryz.prog (oNil x0) w43 fun x49 w44 =>
 pN Tryz.prog (oFld 128 x49 0) w44 fun x50 w45 =>
 pN Tryz.prog (oLoad 123 x50) w45 fun x51 w46 =>
 pN Tryz.prog (oNil x51) w46 fun x52 w47 =>
 pN Tryz.prog (oFld 141 x52 1) w47 fun x53 w48 =>
 pN Tryz.prog (oFld 100 x53 1) w48 fun x54 w49 =>
 pN Tryz.prog (oIdx 67 x54 (.int .i64 0)) w49 fun x55 w50 =>
 pN Tryz.prog (oLoad 3 x55) w50 fun x56 w51 =>
 I14 x56 w51)
 (I14 (.int .i64 0) w43))))) ∧
 ∀ (_j14 : Env) (dist7c14 : Value) (w52 : World), I14 dist7c14 w52 →
 pN Tryz.prog (oNil x0) w52 fun x59 w53 =>
 pN Tryz.prog (oFld 128 x59 1) w53 fun x60 w54 =>
 pN Tryz.prog (oLoad 97 x60) w54 fun x61 w55 =>
 pN Tryz.prog (oCall 101 [x61, dist7c14]) w55 fun x63 w56 =>
 pN Tryz.prog (oExt x63 0) w56 fun _ w57 =>
 pN Tryz.prog (oExt x63 1) w57 fun x65 w58 =>
 Q x65 w58)))))
theorem lzenc_Encoder_may.calls [Pan] {x0 x1 : Value} {w : World} {Q : Value → World → Prop} (h : lzenc_Encoder_may.F x0 x1 w Q) : Calls Tryz.prog 67 #[x0, x1] w (retP Q) := calls_lift mixed lzenc_Encoder_may.H [x0, x1] Tryz.func67 (by kernel_rfl) (by kernel_rfl) h

def lzenc_Encoder_code.H : Hints := { cut := fun | 21 => some ([], 13164036458569648337239709904315838159738563613118887640457805824) | _ => none, loop := fun  | _ => ([], 0), order := fun | 1 => [(0, 0), (1, 1), (2, 3), (3, 7), (4, 15), (5, 31), (6, 63), (7, 127), (8, 255), (9, 511), (10, 1023), (11, 2047), (12, 4095), (13, 8191), (14, 16383), (15, 32767), (16, 65535), (17, 131071), (18, 262143), (19, 524287)] | 3 => [(0, 0), (1, 1), (2, 3), (3, 7), (4, 15), (5, 31), (6, 63), (7, 127), (8, 255), (9, 511), (10, 1023), (11, 2047), (12, 4095)] | 5 => [(0, 0), (1, 1), (2, 3), (3, 7), (4, 15), (5, 31), (6, 63), (7, 127), (8, 255), (9, 511), (10, 1023), (11, 2047), (12, 4095)] | 7 => [(0, 0), (1, 1), (2, 3), (3, 7), (4, 15), (5, 31), (6, 63), (7, 127), (8, 255), (9, 511), (10, 1023), (11, 2047), (12, 4095)] | 8 => [(0, 0), (1, 1), (2, 3), (3, 7), (4, 15), (5, 31), (6, 63), (7, 127), (8, 255), (9, 511), (10, 1023), (11, 2047)] | 10 => [(0, 0), (1, 1), (2, 3), (3, 7), (4, 15), (5, 31), (6, 63), (7, 127), (8, 255), (9, 511), (10, 1023), (11, 2047), (12, 4095)] | 12 => [(0, 0), (1, 1), (2, 3), (3, 7), (4, 15), (5, 31), (6, 63), (7, 127), (8, 255), (9, 511), (10, 1023), (11, 2047), (12, 4095)] | 13 => [(0, 0), (1, 1), (2, 3), (3, 7), (4, 15), (5, 31), (6, 63), (7, 127), (8, 255), (9, 511), (10, 1023), (11, 2047), (12, 4095)] | 15 => [(0, 0), (1, 1), (2, 3), (3, 7), (4, 15), (5, 31), (6, 63), (7, 127), (8, 255), (9, 511), (10, 1023), (11, 2047), (12, 4095)] | 16 => [(0, 0), (1, 1), (2, 3), (3, 7), (4, 15), (5, 31), (6, 63), (7, 127), (8, 255), (9, 511), (10, 1023), (11, 2047), (12, 4095)] | 17 => [(0, 0), (1, 1), (2, 3), (3, 7), (4, 15), (5, 31), (6, 63), (7, 127), (8, 255), (9, 511), (10, 1023), (11, 2047), (12, 4095)] | 18 => [(0, 0), (1, 1), (2, 3), (3, 7), (4, 15), (5, 31), (6, 63), (7, 127), (8, 255), (9, 511), (10, 1023), (11, 2047), (12, 4095), (13, 8191), (14, 16383), (15, 32767), (16, 65535)] | 20 => [(0, 0), (1, 1), (2, 3), (3, 7), (4, 15), (5, 31), (6, 63), (7, 127), (8, 255), (9, 511), (10, 1023), (11, 2047), (12, 4095), (13, 8191), (14, 16383), (15, 32767)] | 21 => [(0, 0), (1, 1), (2, 3), (3, 7), (4, 15), (5, 31), (6, 63), (7, 127), (8, 255), (9, 511), (10, 1023), (11, 2047)] | _ => [] }
def lzenc_Encoder_code.F [Pan] (x0 x1 x2 : Value) (w : World) (Q : Value → World → Prop) : Prop :=
 pN Tryz.prog (oBox 48 x2) w fun x5 w1 =>
 pDr w1 fun w2 =>
 pA Tryz.prog (oNil x0) fun x9 =>
 pA Tryz.prog (oFld 128 x9 0) fun x10 =>
 pL Tryz.prog (oLoad 123 x10) w2 fun x11 =>
 pA Tryz.prog (oNil x11) fun x12 =>
 pA Tryz.prog (oFld 141 x12 1) fun x13 =>
 pA Tryz.prog (oFld 100 x13 0) fun x14 =>
 pL Tryz.prog (oLoad 3 x14) w2 fun x15 =>
 pA Tryz.prog (oNil x0) fun x17 =>
 pA Tryz.prog (oFld 128 x17 0) fun x18 =>
 pL Tryz.prog (oLoad 123 x18) w2 fun x19 =>
 pA Tryz.prog (oNil x0) fun x21 =>
 pA Tryz.prog (oFld 128 x21 1) fun x22 =>
 pL Tryz.prog (oLoad 97 x22) w2 fun x23 =>
 pN Tryz.prog (oCall 103 [x23]) w2 fun x24 w3 =>
 ((Sem.run Tryz.prog (oLoad 123 x18) w3 = .ok (.value x19) w3) ∧ (Sem.run Tryz.prog (oLoad 3 x14) w3 = .ok (.value x15) w3) ∧ (Sem.run Tryz.prog (oLoad 123 x10) w3 = .ok (.value x11) w3) ∧ True) ∧ (pN Tryz.prog (oCall 102 [x19, x24]) w3 fun x25 w4 =>
 ((Sem.run Tryz.prog (oLoad 3 x14) w4 = .ok (.value x15) w4) ∧ (Sem.run Tryz.prog (oLoad 123 x10) w4 = .ok (.value x11) w4) ∧ True) ∧ (pN Tryz.prog (oFld 48 x5 0) w4 fun x26 w5 =>
 pN Tryz.prog (oLoad 3 x26) w5 fun x27 w6 =>
 pN Tryz.prog (oBin .eql 3 (.tmp 27) (.const (.int .i64 1)) x27 (.int .i64 1)) w6 fun x28 w7 =>
 pIf x28
 (pDr w7 fun w8 =>
 pA Tryz.prog (oNil x0) fun x31 =>
 pA Tryz.prog (oFld 128 x31 0) fun x32 =>
 pL Tryz.prog (oLoad 123 x32) w8 fun x33 =>
 pA Tryz.prog (oNil x33) fun x34 =>
 pA Tryz.prog (oFld 141 x34 2) fun x35 =>
 pL Tryz.prog (oLoad 137 x35) w8 fun x36 =>
 pN Tryz.prog (oFn (.method "pith/lzenc.bit") [x1] []) w8 fun x38 w9 =>
 ((Sem.run Tryz.prog (oLoad 137 x35) w9 = .ok (.value x36) w9) ∧ (Sem.run Tryz.prog (oLoad 123 x32) w9 = .ok (.value x33) w9) ∧ True) ∧ (pA Tryz.prog (oNil x38) fun _ =>
 pN Tryz.prog (oInv x1 "pith/lzenc.bit" [x36, x25, (.int .i64 0)]) w9 fun _ w10 =>
 (True) ∧ (pN Tryz.prog (oFld 48 x5 1) w10 fun x44 w11 =>
 pN Tryz.prog (oLoad 5 x44) w11 fun x45 w12 =>
 pN Tryz.prog (oConv 5 3 x45) w12 fun x46 w13 =>
 pN Tryz.prog (oCall 104 [x0, x1, x46]) w13 fun _ w14 =>
 Q (.tuple #[]) w14)))
 (pDr w7 fun w15 =>
 pA Tryz.prog (oNil x0) fun x50 =>
 pA Tryz.prog (oFld 128 x50 0) fun x51 =>
 pL Tryz.prog (oLoad 123 x51) w15 fun x52 =>
 pA Tryz.prog (oNil x52) fun x53 =>
 pA Tryz.prog (oFld 141 x53 2) fun x54 =>
 pL Tryz.prog (oLoad 137 x54) w15 fun x55 =>
 pN Tryz.prog (oFn (.method "pith/lzenc.bit") [x1] []) w15 fun x57 w16 =>
 ((Sem.run Tryz.prog (oLoad 137 x54) w16 = .ok (.value x55) w16) ∧ (Sem.run Tryz.prog (oLoad 123 x51) w16 = .ok (.value x52) w16) ∧ True) ∧ (pA Tryz.prog (oNil x57) fun _ =>
 pN Tryz.prog (oInv x1 "pith/lzenc.bit" [x55, x25, (.int .i64 1)]) w16 fun _ w17 =>
 (True) ∧ (pN Tryz.prog (oFld 48 x5 0) w17 fun x61 w18 =>
 pN Tryz.prog (oLoad 3 x61) w18 fun x62 w19 =>
 pN Tryz.prog (oBin .eql 3 (.tmp 62) (.const (.int .i64 2)) x62 (.int .i64 2)) w19 fun x63 w20 =>
 pIf x63
 (pDr w20 fun w21 =>
 pA Tryz.prog (oNil x0) fun x66 =>
 pA Tryz.prog (oFld 128 x66 0) fun x67 =>
 pL Tryz.prog (oLoad 123 x67) w21 fun x68 =>
 pA Tryz.prog (oNil x68) fun x69 =>
 pA Tryz.prog (oFld 141 x69 4) fun x70 =>
 pL Tryz.prog (oLoad 137 x70) w21 fun x71 =>
 pN Tryz.prog (oFn (.method "pith/lzenc.bit") [x1] []) w21 fun x73 w22 =>
 ((Sem.run Tryz.prog (oLoad 137 x70) w22 = .ok (.value x71) w22) ∧ (Sem.run Tryz.prog (oLoad 123 x67) w22 = .ok (.value x68) w22) ∧ True) ∧ (pA Tryz.prog (oNil x73) fun _ =>
 pN Tryz.prog (oInv x1 "pith/lzenc.bit" [x71, x15, (.int .i64 0)]) w22 fun _ w23 =>
 (True) ∧ (pDr w23 fun w24 =>
 pA Tryz.prog (oNil x0) fun x80 =>
 pA Tryz.prog (oFld 128 x80 0) fun x81 =>
 pL Tryz.prog (oLoad 123 x81) w24 fun x82 =>
 pA Tryz.prog (oNil x82) fun x83 =>
 pA Tryz.prog (oFld 141 x83 9) fun x84 =>
 pL Tryz.prog (oLoad 139 x84) w24 fun x85 =>
 pA Tryz.prog (oFld 48 x5 2) fun x86 =>
 pL Tryz.prog (oLoad 3 x86) w24 fun x87 =>
 pN Tryz.prog (oCall 105 [x0, x1, x85, x87]) w24 fun _ w25 =>
 (True) ∧ (pN Tryz.prog (oLoad 48 x5) w25 fun x91 w26 =>
 pN Tryz.prog (oCall 106 [x0, x1, x91]) w26 fun _ w27 =>
 Q (.tuple #[]) w27))))
 (pDr w20 fun w28 =>
 pA Tryz.prog (oNil x0) fun x95 =>
 pA Tryz.prog (oFld 128 x95 0) fun x96 =>
 pL Tryz.prog (oLoad 123 x96) w28 fun x97 =>
 pA Tryz.prog (oNil x97) fun x98 =>
 pA Tryz.prog (oFld 141 x98 4) fun x99 =>
 pL Tryz.prog (oLoad 137 x99) w28 fun x100 =>
 pN Tryz.prog (oFn (.method "pith/lzenc.bit") [x1] []) w28 fun x102 w29 =>
 ((Sem.run Tryz.prog (oLoad 137 x99) w29 = .ok (.value x100) w29) ∧ (Sem.run Tryz.prog (oLoad 123 x96) w29 = .ok (.value x97) w29) ∧ True) ∧ (pA Tryz.prog (oNil x102) fun _ =>
 pN Tryz.prog (oInv x1 "pith/lzenc.bit" [x100, x15, (.int .i64 1)]) w29 fun _ w30 =>
 (True) ∧ (pN Tryz.prog (oFld 48 x5 0) w30 fun x106 w31 =>
 pN Tryz.prog (oLoad 3 x106) w31 fun x107 w32 =>
 pN Tryz.prog (oBin .eql 3 (.tmp 107) (.const (.int .i64 4)) x107 (.int .i64 4)) w32 fun x108 w33 =>
 pIf x108
 (pDr w33 fun w34 =>
 pA Tryz.prog (oNil x0) fun x111 =>
 pA Tryz.prog (oFld 128 x111 0) fun x112 =>
 pL Tryz.prog (oLoad 123 x112) w34 fun x113 =>
 pA Tryz.prog (oNil x113) fun x114 =>
 pA Tryz.prog (oFld 141 x114 5) fun x115 =>
 pL Tryz.prog (oLoad 137 x115) w34 fun x116 =>
 pN Tryz.prog (oFn (.method "pith/lzenc.bit") [x1] []) w34 fun x118 w35 =>
 ((Sem.run Tryz.prog (oLoad 137 x115) w35 = .ok (.value x116) w35) ∧ (Sem.run Tryz.prog (oLoad 123 x112) w35 = .ok (.value x113) w35) ∧ True) ∧ (pA Tryz.prog (oNil x118) fun _ =>
 pN Tryz.prog (oInv x1 "pith/lzenc.bit" [x116, x15, (.int .i64 0)]) w35 fun _ w36 =>
 (True) ∧ (pDr w36 fun w37 =>
 pA Tryz.prog (oNil x0) fun x124 =>
 pA Tryz.prog (oFld 128 x124 0) fun x125 =>
 pL Tryz.prog (oLoad 123 x125) w37 fun x126 =>
 pA Tryz.prog (oNil x126) fun x127 =>
 pA Tryz.prog (oFld 141 x127 3) fun x128 =>
 pL Tryz.prog (oLoad 137 x128) w37 fun x129 =>
 pN Tryz.prog (oFn (.method "pith/lzenc.bit") [x1] []) w37 fun x131 w38 =>
 ((Sem.run Tryz.prog (oLoad 137 x128) w38 = .ok (.value x129) w38) ∧ (Sem.run Tryz.prog (oLoad 123 x125) w38 = .ok (.value x126) w38) ∧ True) ∧ (pA Tryz.prog (oNil x131) fun _ =>
 pN Tryz.prog (oInv x1 "pith/lzenc.bit" [x129, x25, (.int .i64 0)]) w38 fun _ w39 =>
 (True) ∧ (Q (.tuple #[]) w39)))))
 (∃ I21 : World → Prop,
 (pN Tryz.prog (oFld 48 x5 3) w33 fun x135 w40 =>
 pN Tryz.prog (oLoad 3 x135) w40 fun x136 w41 =>
 pN Tryz.prog (oBin .eql 3 (.tmp 136) (.const (.int .i64 0)) x136 (.int .i64 0)) w41 fun x137 w42 =>
 pIf x137
 (pDr w42 fun w43 =>
 pA Tryz.prog (oNil x0) fun x140 =>
 pA Tryz.prog (oFld 128 x140 0) fun x141 =>
 pL Tryz.prog (oLoad 123 x141) w43 fun x142 =>
 pA Tryz.prog (oNil x142) fun x143 =>
 pA Tryz.prog (oFld 141 x143 5) fun x144 =>
 pL Tryz.prog (oLoad 137 x144) w43 fun x145 =>
 pN Tryz.prog (oFn (.method "pith/lzenc.bit") [x1] []) w43 fun x147 w44 =>
 ((Sem.run Tryz.prog (oLoad 137 x144) w44 = .ok (.value x145) w44) ∧ (Sem.run Tryz.prog (oLoad 123 x141) w44 = .ok (.value x142) w44) ∧ True) ∧ (pA Tryz.prog (oNil x147) fun _ =>
 pN Tryz.prog (oInv x1 "pith/lzenc.bit" [x145, x15, (.int .i64 0)]) w44 fun _ w45 =>
 (True) ∧ (pDr w45 fun w46 =>
 pA Tryz.prog (oNil x0) fun x153 =>
 pA Tryz.prog (oFld 128 x153 0) fun x154 =>
 pL Tryz.prog (oLoad 123 x154) w46 fun x155 =>
 pA Tryz.prog (oNil x155) fun x156 =>
 pA Tryz.prog (oFld 141 x156 3) fun x157 =>
 pL Tryz.prog (oLoad 137 x157) w46 fun x158 =>
 pN Tryz.prog (oFn (.method "pith/lzenc.bit") [x1] []) w46 fun x160 w47 =>
 ((Sem.run Tryz.prog (oLoad 137 x157) w47 = .ok (.value x158) w47) ∧ (Sem.run Tryz.prog (oLoad 123 x154) w47 = .ok (.value x155) w47) ∧ True) ∧ (pA Tryz.prog (oNil x160) fun _ =>
 pN Tryz.prog (oInv x1 "pith/lzenc.bit" [x158, x25, (.int .i64 1)]) w47 fun _ w48 =>
 (True) ∧ (I21 w48)))))
 (pDr w42 fun w49 =>
 pA Tryz.prog (oNil x0) fun x166 =>
 pA Tryz.prog (oFld 128 x166 0) fun x167 =>
 pL Tryz.prog (oLoad 123 x167) w49 fun x168 =>
 pA Tryz.prog (oNil x168) fun x169 =>
 pA Tryz.prog (oFld 141 x169 5) fun x170 =>
 pL Tryz.prog (oLoad 137 x170) w49 fun x171 =>
 pN Tryz.prog (oFn (.method "pith/lzenc.bit") [x1] []) w49 fun x173 w50 =>
 ((Sem.run Tryz.prog (oLoad 137 x170) w50 = .ok (.value x171) w50) ∧ (Sem.run Tryz.prog (oLoad 123 x167) w50 = .ok (.value x168) w50) ∧ True) ∧ (pA Tryz.prog (oNil x173) fun _ =>
 pN Tryz.prog (oInv x1 "pith/lzenc.bit" [x171, x15, (.int .i64 1)]) w50 fun _ w51 =>
 (True) ∧ (pDr w51 fun w52 =>
 pA Tryz.prog (oNil x0) fun x179 =>
 pA Tryz.prog (oFld 128 x179 0) fun x180 =>
 pL Tryz.prog (oLoad 123 x180) w52 fun x181 =>
 pA Tryz.prog (oNil x181) fun x182 =>
 pA Tryz.prog (oFld 141 x182 6) fun x183 =>
 pL Tryz.prog (oLoad 137 x183) w52 fun x184 =>
 pA Tryz.prog (oFld 48 x5 3) fun x186 =>
 pL Tryz.prog (oLoad 3 x186) w52 fun x187 =>
 pA Tryz.prog (oBin .sub 3 (.tmp 187) (.const (.int .i64 1)) x187 (.int .i64 1)) fun x188 =>
 pA Tryz.prog (oBi .min #[3, 3] 3 [false, true] [x188, (.int .i64 1)]) fun x189 =>
 pN Tryz.prog (oFn (.method "pith/lzenc.bit") [x1] []) w52 fun x190 w53 =>
 ((Sem.run Tryz.prog (oLoad 3 x186) w53 = .ok (.value x187) w53) ∧ (Sem.run Tryz.prog (oLoad 137 x183) w53 = .ok (.value x184) w53) ∧ (Sem.run Tryz.prog (oLoad 123 x180) w53 = .ok (.value x181) w53) ∧ True) ∧ (pA Tryz.prog (oNil x190) fun _ =>
 pN Tryz.prog (oInv x1 "pith/lzenc.bit" [x184, x15, x189]) w53 fun _ w54 =>
 (True) ∧ (pN Tryz.prog (oFld 48 x5 3) w54 fun x194 w55 =>
 pN Tryz.prog (oLoad 3 x194) w55 fun x195 w56 =>
 pN Tryz.prog (oBin .gtr 3 (.tmp 195) (.const (.int .i64 1)) x195 (.int .i64 1)) w56 fun x196 w57 =>
 pIf x196
 (pDr w57 fun w58 =>
 pA Tryz.prog (oNil x0) fun x199 =>
 pA Tryz.prog (oFld 128 x199 0) fun x200 =>
 pL Tryz.prog (oLoad 123 x200) w58 fun x201 =>
 pA Tryz.prog (oNil x201) fun x202 =>
 pA Tryz.prog (oFld 141 x202 7) fun x203 =>
 pL Tryz.prog (oLoad 137 x203) w58 fun x204 =>
 pA Tryz.prog (oFld 48 x5 3) fun x206 =>
 pL Tryz.prog (oLoad 3 x206) w58 fun x207 =>
 pA Tryz.prog (oBin .sub 3 (.tmp 207) (.const (.int .i64 2)) x207 (.int .i64 2)) fun x208 =>
 pN Tryz.prog (oFn (.method "pith/lzenc.bit") [x1] []) w58 fun x209 w59 =>
 ((Sem.run Tryz.prog (oLoad 3 x206) w59 = .ok (.value x207) w59) ∧ (Sem.run Tryz.prog (oLoad 137 x203) w59 = .ok (.value x204) w59) ∧ (Sem.run Tryz.prog (oLoad 123 x200) w59 = .ok (.value x201) w59) ∧ True) ∧ (pA Tryz.prog (oNil x209) fun _ =>
 pN Tryz.prog (oInv x1 "pith/lzenc.bit" [x204, x15, x208]) w59 fun _ w60 =>
 (True) ∧ (I21 w60)))
 (I21 w57))))))) ∧
 ∀ (_j21 : Env) (w61 : World), I21 w61 →
 pDr w61 fun w62 =>
 pA Tryz.prog (oNil x0) fun x216 =>
 pA Tryz.prog (oFld 128 x216 0) fun x217 =>
 pL Tryz.prog (oLoad 123 x217) w62 fun x218 =>
 pA Tryz.prog (oNil x218) fun x219 =>
 pA Tryz.prog (oFld 141 x219 10) fun x220 =>
 pL Tryz.prog (oLoad 139 x220) w62 fun x221 =>
 pA Tryz.prog (oFld 48 x5 2) fun x222 =>
 pL Tryz.prog (oLoad 3 x222) w62 fun x223 =>
 pN Tryz.prog (oCall 105 [x0, x1, x221, x223]) w62 fun _ w63 =>
 (True) ∧ (Q (.tuple #[]) w63))))))))))
theorem lzenc_Encoder_code.calls [Pan] {x0 x1 x2 : Value} {w : World} {Q : Value → World → Prop} (h : lzenc_Encoder_code.F x0 x1 x2 w Q) : Calls Tryz.prog 68 #[x0, x1, x2] w (retP Q) := calls_lift mixed lzenc_Encoder_code.H [x0, x1, x2] Tryz.func68 (by kernel_rfl) (by kernel_rfl) h

def lzenc_Encoder_literal.H : Hints := { cut := fun | 8 => some ([12, 14], 10633823966274491279951997965544181760) | 13 => some ([17], 623921779799831658549158739968) | _ => none, loop := fun | 7 => ([12, 13, 14], 10633823966279024751775552824949338112) | _ => ([], 0), order := fun | 1 => [(0, 0), (1, 1), (2, 3), (3, 7), (4, 15), (5, 31), (6, 63), (7, 127), (9, 255), (8, 767), (10, 1023), (11, 2047)] | 3 => [(0, 0), (1, 1), (2, 3), (3, 7), (4, 15), (5, 31), (6, 63), (7, 127), (8, 255), (9, 511), (10, 1023), (11, 2047), (12, 4095), (13, 8191)] | 4 => [(0, 0), (1, 1), (2, 3), (3, 7), (4, 15), (5, 31), (6, 63), (7, 127), (8, 255), (9, 511), (10, 1023), (11, 2047), (12, 4095), (13, 8191), (14, 16383), (15, 32767), (16, 65535), (17, 131071), (18, 262143)] | 9 => [(0, 0), (1, 1), (2, 3), (3, 7), (4, 15), (5, 31), (6, 63), (7, 127), (8, 255), (9, 511)] | 13 => [(0, 0), (1, 1), (2, 3), (3, 7), (4, 15), (5, 31), (6, 63), (7, 127), (8, 255), (9, 511), (10, 1023), (11, 2047), (12, 4095), (13, 8191)] | _ => [] }
def lzenc_Encoder_literal.F [Pan] (x0 x1 x2 : Value) (w : World) (Q : Value → World → Prop) : Prop :=
 pN Tryz.prog (oNil x0) w fun x20 w1 =>
 pN Tryz.prog (oFld 128 x20 1) w1 fun x21 w2 =>
 pN Tryz.prog (oLoad 97 x21) w2 fun x22 w3 =>
 pN Tryz.prog (oCall 101 [x22, (.int .i64 1)]) w3 fun x23 w4 =>
 pN Tryz.prog (oExt x23 0) w4 fun x24 w5 =>
 pN Tryz.prog (oExt x23 1) w5 fun _ w6 =>
 pDr w6 fun w7 =>
 pA Tryz.prog (oNil x0) fun x27 =>
 pA Tryz.prog (oFld 128 x27 0) fun x28 =>
 pL Tryz.prog (oLoad 123 x28) w7 fun x29 =>
 pA Tryz.prog (oNil x0) fun x31 =>
 pA Tryz.prog (oFld 128 x31 1) fun x32 =>
 pL Tryz.prog (oLoad 97 x32) w7 fun x33 =>
 pN Tryz.prog (oCall 103 [x33]) w7 fun x34 w8 =>
 ((Sem.run Tryz.prog (oLoad 123 x28) w8 = .ok (.value x29) w8) ∧ True) ∧ (pN Tryz.prog (oCall 143 [x29, x34, x24]) w8 fun x36 w9 =>
 (True) ∧ (pN Tryz.prog (oNil x0) w9 fun x38 w10 =>
 pN Tryz.prog (oFld 128 x38 0) w10 fun x39 w11 =>
 pN Tryz.prog (oLoad 123 x39) w11 fun x40 w12 =>
 pN Tryz.prog (oNil x40) w12 fun x41 w13 =>
 pN Tryz.prog (oFld 141 x41 1) w13 fun x42 w14 =>
 pN Tryz.prog (oLoad 100 x42) w14 fun x43 w15 =>
 pN Tryz.prog (oCall 144 [x43]) w15 fun x44 w16 =>
 pIf x44
 (pDr w16 fun w17 =>
 pA Tryz.prog (oNil x0) fun x47 =>
 pA Tryz.prog (oFld 128 x47 0) fun x48 =>
 pL Tryz.prog (oLoad 123 x48) w17 fun x49 =>
 pA Tryz.prog (oNil x49) fun x50 =>
 pA Tryz.prog (oFld 141 x50 8) fun x51 =>
 pL Tryz.prog (oLoad 137 x51) w17 fun x52 =>
 pN Tryz.prog (oFn (.method "pith/lzenc.tree") [x1] []) w17 fun x55 w18 =>
 ((Sem.run Tryz.prog (oLoad 137 x51) w18 = .ok (.value x52) w18) ∧ (Sem.run Tryz.prog (oLoad 123 x48) w18 = .ok (.value x49) w18) ∧ True) ∧ (pA Tryz.prog (oNil x55) fun _ =>
 pN Tryz.prog (oInv x1 "pith/lzenc.tree" [x52, x36, (.int .i64 8), x2]) w18 fun _ w19 =>
 (True) ∧ (Q (.tuple #[]) w19)))
 (pDr w16 fun w20 =>
 pA Tryz.prog (oNil x0) fun x61 =>
 pA Tryz.prog (oFld 128 x61 1) fun x62 =>
 pL Tryz.prog (oLoad 97 x62) w20 fun x63 =>
 pA Tryz.prog (oNil x0) fun x65 =>
 pA Tryz.prog (oFld 128 x65 0) fun x66 =>
 pL Tryz.prog (oLoad 123 x66) w20 fun x67 =>
 pA Tryz.prog (oNil x67) fun x68 =>
 pA Tryz.prog (oFld 141 x68 1) fun x69 =>
 pA Tryz.prog (oFld 100 x69 1) fun x70 =>
 pA Tryz.prog (oIdx 67 x70 (.int .i64 0)) fun x71 =>
 pL Tryz.prog (oLoad 3 x71) w20 fun x72 =>
 pN Tryz.prog (oCall 101 [x63, x72]) w20 fun x73 w21 =>
 (True) ∧ (pA Tryz.prog (oExt x73 0) fun x74 =>
 pA Tryz.prog (oExt x73 1) fun _ =>
 pN Tryz.prog (oConv 5 3 x74) w21 fun x77 w22 =>
 ∃ (L7 : Value → Value → Value → World → Prop) (m7 : Value → Value → Value → World → Nat),
 L7 (.bool true) (.int .i64 7) (.int .i64 1) w22 ∧
 ∀ (_k7 : Env) (same12l7 : Value) (i13l7 : Value) (m14l7 : Value) (w23 : World), L7 same12l7 i13l7 m14l7 w23 →
 pN Tryz.prog (oBin .geq 3 (.tmp 78) (.const (.int .i64 0)) i13l7 (.int .i64 0)) w23 fun x79 w24 =>
 pIf x79
 (∃ I8 : Value → Value → World → Prop,
 (pDr w24 fun w25 =>
 pA Tryz.prog (oBin .shr 3 (.tmp 82) (.tmp 83) x2 i13l7) fun x84 =>
 pA Tryz.prog (oBin .and 3 (.tmp 84) (.const (.int .i64 1)) x84 (.int .i64 1)) fun x85 =>
 pA Tryz.prog (oBin .shr 3 (.tmp 86) (.tmp 87) x77 i13l7) fun x88 =>
 pA Tryz.prog (oBin .and 3 (.tmp 88) (.const (.int .i64 1)) x88 (.int .i64 1)) fun x89 =>
 pN Tryz.prog (oBin .add 3 (.tmp 90) (.tmp 91) x36 m14l7) w25 fun x92 w26 =>
 ∃ I13 : Value → World → Prop,
 (pIf same12l7
 (pN Tryz.prog (oBin .add 3 (.const (.int .i64 1)) (.tmp 95) (.int .i64 1) x89) w26 fun x96 w27 =>
 pN Tryz.prog (oBin .mul 3 (.const (.int .i64 256)) (.tmp 96) (.int .i64 256) x96) w27 fun x97 w28 =>
 pN Tryz.prog (oBin .add 3 (.tmp 94) (.tmp 97) x92 x97) w28 fun x98 w29 =>
 I13 x98 w29)
 (I13 x92 w26)) ∧
 ∀ (_j13 : Env) (at17c13 : Value) (w30 : World), I13 at17c13 w30 →
 pDr w30 fun w31 =>
 pA Tryz.prog (oNil x0) fun x101 =>
 pA Tryz.prog (oFld 128 x101 0) fun x102 =>
 pL Tryz.prog (oLoad 123 x102) w31 fun x103 =>
 pA Tryz.prog (oNil x103) fun x104 =>
 pA Tryz.prog (oFld 141 x104 8) fun x105 =>
 pL Tryz.prog (oLoad 137 x105) w31 fun x106 =>
 pN Tryz.prog (oFn (.method "pith/lzenc.bit") [x1] []) w31 fun x109 w32 =>
 ((Sem.run Tryz.prog (oLoad 137 x105) w32 = .ok (.value x106) w32) ∧ (Sem.run Tryz.prog (oLoad 123 x102) w32 = .ok (.value x103) w32) ∧ True) ∧ (pA Tryz.prog (oNil x109) fun _ =>
 pN Tryz.prog (oInv x1 "pith/lzenc.bit" [x106, at17c13, x85]) w32 fun _ w33 =>
 (True) ∧ (pGd (gB same12l7 true) (pN Tryz.prog (oMv x85) w33) w33 fun x115 w34 =>
 pGd (gB same12l7 true) (pN Tryz.prog (oMv x89) w34) w34 fun x116 w35 =>
 pGd (gB same12l7 true) (pN Tryz.prog (oBin .eql 3 (.tmp 115) (.tmp 116) x115 x116) w35) w35 fun x117 w36 =>
 pN Tryz.prog (oPick same12l7 x117 (.bool false)) w36 fun x118 w37 =>
 pN Tryz.prog (oBin .mul 3 (.const (.int .i64 2)) (.tmp 119) (.int .i64 2) m14l7) w37 fun x120 w38 =>
 pN Tryz.prog (oBin .add 3 (.tmp 120) (.tmp 121) x120 x85) w38 fun x122 w39 =>
 I8 x118 x122 w39))) ∧
 ∀ (_j8 : Env) (same12c8 : Value) (m14c8 : Value) (w40 : World), I8 same12c8 m14c8 w40 →
 pN Tryz.prog (oBin .sub 3 (.tmp 80) (.const (.int .i64 1)) i13l7 (.int .i64 1)) w40 fun x81 w41 =>
 (L7 same12c8 x81 m14c8 w41 ∧ m7 same12c8 x81 m14c8 w41 < m7 same12l7 i13l7 m14l7 w23))
 (Q (.tuple #[]) w24)))))
theorem lzenc_Encoder_literal.calls [Pan] {x0 x1 x2 : Value} {w : World} {Q : Value → World → Prop} (h : lzenc_Encoder_literal.F x0 x1 x2 w Q) : Calls Tryz.prog 104 #[x0, x1, x2] w (retP Q) := calls_lift mixed lzenc_Encoder_literal.H [x0, x1, x2] Tryz.func104 (by kernel_rfl) (by kernel_rfl) h

def lzenc_Encoder_length.H : Hints := { cut := fun  | _ => none, loop := fun  | _ => ([], 0), order := fun | 1 => [(0, 0), (1, 1), (2, 3), (3, 7), (4, 15), (5, 31), (6, 63), (7, 127), (8, 255), (9, 511), (10, 1023), (11, 2047), (12, 4095), (13, 8191), (14, 16383)] | _ => [] }
def lzenc_Encoder_length.F [Pan] (x0 x1 x2 x3 : Value) (w : World) (Q : Value → World → Prop) : Prop :=
 pN Tryz.prog (oBox 139 x2) w fun x6 w1 =>
 pDr w1 fun w2 =>
 pA Tryz.prog (oBin .sub 3 (.tmp 10) (.const (.int .i64 2)) x3 (.int .i64 2)) fun x11 =>
 pA Tryz.prog (oNil x0) fun x13 =>
 pA Tryz.prog (oFld 128 x13 0) fun x14 =>
 pL Tryz.prog (oLoad 123 x14) w2 fun x15 =>
 pA Tryz.prog (oNil x0) fun x17 =>
 pA Tryz.prog (oFld 128 x17 1) fun x18 =>
 pL Tryz.prog (oLoad 97 x18) w2 fun x19 =>
 pN Tryz.prog (oCall 103 [x19]) w2 fun x20 w3 =>
 ((Sem.run Tryz.prog (oLoad 123 x14) w3 = .ok (.value x15) w3) ∧ True) ∧ (pN Tryz.prog (oCall 142 [x15, x20]) w3 fun x21 w4 =>
 (True) ∧ (pA Tryz.prog (oBin .mul 3 (.const (.int .i64 8)) (.tmp 21) (.int .i64 8) x21) fun x22 =>
 pN Tryz.prog (oBin .lss 3 (.tmp 38) (.const (.int .i64 8)) x11 (.int .i64 8)) w4 fun x39 w5 =>
 pIf x39
 (pN Tryz.prog (oFld 139 x6 0) w5 fun x41 w6 =>
 pN Tryz.prog (oLoad 137 x41) w6 fun x42 w7 =>
 pN Tryz.prog (oInv x1 "pith/lzenc.bit" [x42, (.int .i64 0), (.int .i64 0)]) w7 fun _ w8 =>
 pN Tryz.prog (oFld 139 x6 1) w8 fun x45 w9 =>
 pN Tryz.prog (oLoad 137 x45) w9 fun x46 w10 =>
 pN Tryz.prog (oInv x1 "pith/lzenc.tree" [x46, x22, (.int .i64 3), x11]) w10 fun _ w11 =>
 Q (.tuple #[]) w11)
 (pN Tryz.prog (oBin .lss 3 (.tmp 51) (.const (.int .i64 16)) x11 (.int .i64 16)) w5 fun x52 w12 =>
 pIf x52
 (pN Tryz.prog (oFld 139 x6 0) w12 fun x54 w13 =>
 pN Tryz.prog (oLoad 137 x54) w13 fun x55 w14 =>
 pN Tryz.prog (oInv x1 "pith/lzenc.bit" [x55, (.int .i64 0), (.int .i64 1)]) w14 fun _ w15 =>
 pN Tryz.prog (oFld 139 x6 0) w15 fun x58 w16 =>
 pN Tryz.prog (oLoad 137 x58) w16 fun x59 w17 =>
 pN Tryz.prog (oInv x1 "pith/lzenc.bit" [x59, (.int .i64 1), (.int .i64 0)]) w17 fun _ w18 =>
 pN Tryz.prog (oFld 139 x6 2) w18 fun x62 w19 =>
 pN Tryz.prog (oLoad 137 x62) w19 fun x63 w20 =>
 pN Tryz.prog (oBin .sub 3 (.tmp 65) (.const (.int .i64 8)) x11 (.int .i64 8)) w20 fun x66 w21 =>
 pN Tryz.prog (oInv x1 "pith/lzenc.tree" [x63, x22, (.int .i64 3), x66]) w21 fun _ w22 =>
 Q (.tuple #[]) w22)
 (pN Tryz.prog (oFld 139 x6 0) w12 fun x24 w23 =>
 pN Tryz.prog (oLoad 137 x24) w23 fun x25 w24 =>
 pN Tryz.prog (oInv x1 "pith/lzenc.bit" [x25, (.int .i64 0), (.int .i64 1)]) w24 fun _ w25 =>
 pN Tryz.prog (oFld 139 x6 0) w25 fun x28 w26 =>
 pN Tryz.prog (oLoad 137 x28) w26 fun x29 w27 =>
 pN Tryz.prog (oInv x1 "pith/lzenc.bit" [x29, (.int .i64 1), (.int .i64 1)]) w27 fun _ w28 =>
 pN Tryz.prog (oFld 139 x6 3) w28 fun x32 w29 =>
 pN Tryz.prog (oLoad 137 x32) w29 fun x33 w30 =>
 pN Tryz.prog (oBin .sub 3 (.tmp 34) (.const (.int .i64 16)) x11 (.int .i64 16)) w30 fun x35 w31 =>
 pN Tryz.prog (oInv x1 "pith/lzenc.tree" [x33, (.int .i64 0), (.int .i64 8), x35]) w31 fun _ w32 =>
 Q (.tuple #[]) w32))))
theorem lzenc_Encoder_length.calls [Pan] {x0 x1 x2 x3 : Value} {w : World} {Q : Value → World → Prop} (h : lzenc_Encoder_length.F x0 x1 x2 x3 w Q) : Calls Tryz.prog 105 #[x0, x1, x2, x3] w (retP Q) := calls_lift mixed lzenc_Encoder_length.H [x0, x1, x2, x3] Tryz.func105 (by kernel_rfl) (by kernel_rfl) h

def lzenc_Encoder_distance.H : Hints := { cut := fun  | _ => none, loop := fun  | _ => ([], 0), order := fun | 3 => [(0, 0), (1, 1), (2, 3), (3, 7), (4, 15), (5, 31), (6, 63), (7, 127), (8, 255), (9, 511), (10, 1023), (11, 2047), (12, 4095), (13, 8191), (14, 16383), (15, 32767), (16, 65535), (17, 131071)] | 6 => [(0, 0), (1, 1), (2, 3), (3, 7), (4, 15), (5, 31), (6, 63), (7, 127), (8, 255), (9, 511), (10, 1023), (11, 2047), (12, 4095), (13, 8191)] | _ => [] }
def lzenc_Encoder_distance.F [Pan] (x0 x1 x2 : Value) (w : World) (Q : Value → World → Prop) : Prop :=
 pN Tryz.prog (oBox 48 x2) w fun x5 w1 =>
 pN Tryz.prog (oFld 48 x5 3) w1 fun x13 w2 =>
 pN Tryz.prog (oLoad 3 x13) w2 fun x14 w3 =>
 pN Tryz.prog (oCall 145 [x14]) w3 fun x15 w4 =>
 pN Tryz.prog (oExt x15 0) w4 fun x16 w5 =>
 pN Tryz.prog (oExt x15 1) w5 fun _ w6 =>
 pN Tryz.prog (oCall 146 [x16]) w6 fun x20 w7 =>
 pN Tryz.prog (oExt x20 0) w7 fun x21 w8 =>
 pN Tryz.prog (oExt x20 1) w8 fun x22 w9 =>
 pN Tryz.prog (oExt x20 2) w9 fun _ w10 =>
 pDr w10 fun w11 =>
 pA Tryz.prog (oNil x0) fun x26 =>
 pA Tryz.prog (oFld 128 x26 0) fun x27 =>
 pL Tryz.prog (oLoad 123 x27) w11 fun x28 =>
 pA Tryz.prog (oNil x28) fun x29 =>
 pA Tryz.prog (oFld 141 x29 11) fun x30 =>
 pL Tryz.prog (oLoad 137 x30) w11 fun x31 =>
 pA Tryz.prog (oFld 48 x5 2) fun x32 =>
 pL Tryz.prog (oLoad 3 x32) w11 fun x33 =>
 pA Tryz.prog (oBin .sub 3 (.tmp 33) (.const (.int .i64 2)) x33 (.int .i64 2)) fun x34 =>
 pA Tryz.prog (oBi .min #[3, 3] 3 [false, true] [x34, (.int .i64 3)]) fun x35 =>
 pA Tryz.prog (oBin .mul 3 (.const (.int .i64 64)) (.tmp 35) (.int .i64 64) x35) fun x36 =>
 pN Tryz.prog (oFn (.method "pith/lzenc.tree") [x1] []) w11 fun x38 w12 =>
 ((Sem.run Tryz.prog (oLoad 3 x32) w12 = .ok (.value x33) w12) ∧ (Sem.run Tryz.prog (oLoad 137 x30) w12 = .ok (.value x31) w12) ∧ (Sem.run Tryz.prog (oLoad 123 x27) w12 = .ok (.value x28) w12) ∧ True) ∧ (pA Tryz.prog (oNil x38) fun _ =>
 pN Tryz.prog (oInv x1 "pith/lzenc.tree" [x31, x36, (.int .i64 6), x16]) w12 fun _ w13 =>
 (True) ∧ (pN Tryz.prog (oFld 48 x5 3) w13 fun x42 w14 =>
 pN Tryz.prog (oLoad 3 x42) w14 fun x43 w15 =>
 pN Tryz.prog (oBin .sub 3 (.tmp 43) (.tmp 44) x43 x21) w15 fun x45 w16 =>
 pN Tryz.prog (oBin .eql 3 (.tmp 67) (.const (.int .i64 0)) x22 (.int .i64 0)) w16 fun x68 w17 =>
 pIf x68
 (Q (.tuple #[]) w17)
 (pN Tryz.prog (oCall 147 [x16]) w17 fun x71 w18 =>
 pN Tryz.prog (oUn .not x71) w18 fun x72 w19 =>
 pIf x72
 (pDr w19 fun w20 =>
 pA Tryz.prog (oNil x0) fun x75 =>
 pA Tryz.prog (oFld 128 x75 0) fun x76 =>
 pL Tryz.prog (oLoad 123 x76) w20 fun x77 =>
 pA Tryz.prog (oNil x77) fun x78 =>
 pA Tryz.prog (oFld 141 x78 12) fun x79 =>
 pL Tryz.prog (oLoad 137 x79) w20 fun x80 =>
 (pN Tryz.prog (oCall 148 [x16]) w20 fun x82 w21 =>
 ((Sem.run Tryz.prog (oLoad 137 x79) w21 = .ok (.value x80) w21) ∧ (Sem.run Tryz.prog (oLoad 123 x76) w21 = .ok (.value x77) w21) ∧ True) ∧ (pN Tryz.prog (oFn (.method "pith/lzenc.back") [x1] []) w21 fun x85 w22 =>
 ((Sem.run Tryz.prog (oLoad 137 x79) w22 = .ok (.value x80) w22) ∧ (Sem.run Tryz.prog (oLoad 123 x76) w22 = .ok (.value x77) w22) ∧ True) ∧ (pA Tryz.prog (oNil x85) fun _ =>
 pN Tryz.prog (oInv x1 "pith/lzenc.back" [x80, x82, x22, x45]) w22 fun _ w23 =>
 (True) ∧ (Q (.tuple #[]) w23)))) ∧ (pN Tryz.prog (oFn (.method "pith/lzenc.back") [x1] []) w20 fun x85 w24 =>
 ((Sem.run Tryz.prog (oLoad 137 x79) w24 = .ok (.value x80) w24) ∧ (Sem.run Tryz.prog (oLoad 123 x76) w24 = .ok (.value x77) w24) ∧ True) ∧ (pA Tryz.prog (oNil x85) fun _ =>
 pN Tryz.prog (oCall 148 [x16]) w24 fun x82 w25 =>
 ((Sem.run Tryz.prog (oLoad 137 x79) w25 = .ok (.value x80) w25) ∧ (Sem.run Tryz.prog (oLoad 123 x76) w25 = .ok (.value x77) w25) ∧ True) ∧ (pN Tryz.prog (oInv x1 "pith/lzenc.back" [x80, x82, x22, x45]) w25 fun _ w26 =>
 (True) ∧ (Q (.tuple #[]) w26)))))
 (pN Tryz.prog (oBin .shr 3 (.tmp 47) (.const (.int .u64 4)) x45 (.int .u64 4)) w19 fun x48 w27 =>
 pN Tryz.prog (oBin .sub 3 (.tmp 49) (.const (.int .i64 4)) x22 (.int .i64 4)) w27 fun x50 w28 =>
 pN Tryz.prog (oInv x1 "pith/lzenc.direct" [x48, x50]) w28 fun _ w29 =>
 pDr w29 fun w30 =>
 pA Tryz.prog (oNil x0) fun x54 =>
 pA Tryz.prog (oFld 128 x54 0) fun x55 =>
 pL Tryz.prog (oLoad 123 x55) w30 fun x56 =>
 pA Tryz.prog (oNil x56) fun x57 =>
 pA Tryz.prog (oFld 141 x57 13) fun x58 =>
 pL Tryz.prog (oLoad 137 x58) w30 fun x59 =>
 pA Tryz.prog (oBin .and 3 (.tmp 60) (.const (.int .i64 15)) x45 (.int .i64 15)) fun x61 =>
 pN Tryz.prog (oFn (.method "pith/lzenc.back") [x1] []) w30 fun x62 w31 =>
 ((Sem.run Tryz.prog (oLoad 137 x58) w31 = .ok (.value x59) w31) ∧ (Sem.run Tryz.prog (oLoad 123 x55) w31 = .ok (.value x56) w31) ∧ True) ∧ (pA Tryz.prog (oNil x62) fun _ =>
 pN Tryz.prog (oInv x1 "pith/lzenc.back" [x59, (.int .i64 0), (.int .i64 4), x61]) w31 fun _ w32 =>
 (True) ∧ (Q (.tuple #[]) w32))))))
theorem lzenc_Encoder_distance.calls [Pan] {x0 x1 x2 : Value} {w : World} {Q : Value → World → Prop} (h : lzenc_Encoder_distance.F x0 x1 x2 w Q) : Calls Tryz.prog 106 #[x0, x1, x2] w (retP Q) := calls_lift mixed lzenc_Encoder_distance.H [x0, x1, x2] Tryz.func106 (by kernel_rfl) (by kernel_rfl) h

def lzenc_coding_back.F [Pan] (x0 x1 x2 x3 x4 : Value) (w : World) (Q : Value → World → Prop) : Prop :=
 pN Tryz.prog (oBox 136 x0) w fun x5 w1 =>
 pN Tryz.prog (oFld 136 x5 0) w1 fun x10 w2 =>
 pN Tryz.prog (oLoad 125 x10) w2 fun x11 w3 =>
 pN Tryz.prog (oCall 245 [x11, x1, x2, x3, x4]) w3 fun _ w4 =>
 Q (.tuple #[]) w4
theorem lzenc_coding_back.calls [Pan] {x0 x1 x2 x3 x4 : Value} {w : World} {Q : Value → World → Prop} (h : lzenc_coding_back.F x0 x1 x2 x3 x4 w Q) : Calls Tryz.prog 241 #[x0, x1, x2, x3, x4] w (retP Q) := calls_lift mixed .z [x0, x1, x2, x3, x4] Tryz.func241 (by kernel_rfl) (by kernel_rfl) h

def lzenc_coding_bit.F [Pan] (x0 x1 x2 x3 : Value) (w : World) (Q : Value → World → Prop) : Prop :=
 pN Tryz.prog (oBox 136 x0) w fun x4 w1 =>
 pN Tryz.prog (oFld 136 x4 0) w1 fun x8 w2 =>
 pN Tryz.prog (oLoad 125 x8) w2 fun x9 w3 =>
 pN Tryz.prog (oCall 246 [x9, x1, x2, x3]) w3 fun _ w4 =>
 Q (.tuple #[]) w4
theorem lzenc_coding_bit.calls [Pan] {x0 x1 x2 x3 : Value} {w : World} {Q : Value → World → Prop} (h : lzenc_coding_bit.F x0 x1 x2 x3 w Q) : Calls Tryz.prog 242 #[x0, x1, x2, x3] w (retP Q) := calls_lift mixed .z [x0, x1, x2, x3] Tryz.func242 (by kernel_rfl) (by kernel_rfl) h

def lzenc_coding_direct.F [Pan] (x0 x1 x2 : Value) (w : World) (Q : Value → World → Prop) : Prop :=
 pN Tryz.prog (oBox 136 x0) w fun x3 w1 =>
 pN Tryz.prog (oFld 136 x3 0) w1 fun x6 w2 =>
 pN Tryz.prog (oLoad 125 x6) w2 fun x7 w3 =>
 pN Tryz.prog (oConv 3 148 x1) w3 fun x9 w4 =>
 pN Tryz.prog (oCall 247 [x7, x9, x2]) w4 fun _ w5 =>
 Q (.tuple #[]) w5
theorem lzenc_coding_direct.calls [Pan] {x0 x1 x2 : Value} {w : World} {Q : Value → World → Prop} (h : lzenc_coding_direct.F x0 x1 x2 w Q) : Calls Tryz.prog 243 #[x0, x1, x2] w (retP Q) := calls_lift mixed .z [x0, x1, x2] Tryz.func243 (by kernel_rfl) (by kernel_rfl) h

def lzenc_coding_tree.F [Pan] (x0 x1 x2 x3 x4 : Value) (w : World) (Q : Value → World → Prop) : Prop :=
 pN Tryz.prog (oBox 136 x0) w fun x5 w1 =>
 pN Tryz.prog (oFld 136 x5 0) w1 fun x10 w2 =>
 pN Tryz.prog (oLoad 125 x10) w2 fun x11 w3 =>
 pN Tryz.prog (oCall 248 [x11, x1, x2, x3, x4]) w3 fun _ w4 =>
 Q (.tuple #[]) w4
theorem lzenc_coding_tree.calls [Pan] {x0 x1 x2 x3 x4 : Value} {w : World} {Q : Value → World → Prop} (h : lzenc_coding_tree.F x0 x1 x2 x3 x4 w Q) : Calls Tryz.prog 244 #[x0, x1, x2, x3, x4] w (retP Q) := calls_lift mixed .z [x0, x1, x2, x3, x4] Tryz.func244 (by kernel_rfl) (by kernel_rfl) h

def lzenc_costing_back.F [Pan] (x0 x1 x2 x3 x4 : Value) (w : World) (Q : Value → World → Prop) : Prop :=
 pN Tryz.prog (oCall 257 [x1, x2, x3, x4]) w fun x17 w1 =>
 pN Tryz.prog (oExt x17 0) w1 fun x18 w2 =>
 pN Tryz.prog (oExt x17 1) w2 fun _ w3 =>
 pN Tryz.prog (oNil x0) w3 fun x21 w4 =>
 pN Tryz.prog (oFld 155 x21 0) w4 fun x22 w5 =>
 pN Tryz.prog (oLoad 3 x22) w5 fun x23 w6 =>
 pN Tryz.prog (oBin .add 3 (.tmp 23) (.tmp 24) x23 x18) w6 fun x25 w7 =>
 pN Tryz.prog (oNil x0) w7 fun x26 w8 =>
 pN Tryz.prog (oFld 155 x26 0) w8 fun x27 w9 =>
 pN Tryz.prog (oStore 3 x27 x25) w9 fun _ w10 =>
 Q (.tuple #[]) w10
theorem lzenc_costing_back.calls [Pan] {x0 x1 x2 x3 x4 : Value} {w : World} {Q : Value → World → Prop} (h : lzenc_costing_back.F x0 x1 x2 x3 x4 w Q) : Calls Tryz.prog 253 #[x0, x1, x2, x3, x4] w (retP Q) := calls_lift mixed .z [x0, x1, x2, x3, x4] Tryz.func253 (by kernel_rfl) (by kernel_rfl) h

def lzenc_costing_bit.H : Hints := { cut := fun  | _ => none, loop := fun  | _ => ([], 0), order := fun | 1 => [(0, 0), (1, 1), (2, 3), (3, 7), (4, 15), (5, 31), (6, 63), (7, 127), (8, 255), (9, 511), (10, 1023)] | _ => [] }
def lzenc_costing_bit.F [Pan] (x0 x1 x2 x3 : Value) (w : World) (Q : Value → World → Prop) : Prop :=
 pN Tryz.prog (oCall 179 [x1, x2]) w fun x13 w1 =>
 pN Tryz.prog (oExt x13 0) w1 fun x14 w2 =>
 pN Tryz.prog (oExt x13 1) w2 fun _ w3 =>
 pDr w3 fun w4 =>
 pA Tryz.prog (oNil x0) fun x17 =>
 pA Tryz.prog (oFld 155 x17 0) fun x18 =>
 pL Tryz.prog (oLoad 3 x18) w4 fun x19 =>
 pN Tryz.prog (oCall 258 [x14, x3]) w4 fun x22 w5 =>
 ((Sem.run Tryz.prog (oLoad 3 x18) w5 = .ok (.value x19) w5) ∧ True) ∧ (pA Tryz.prog (oBin .add 3 (.tmp 19) (.tmp 22) x19 x22) fun x23 =>
 pA Tryz.prog (oNil x0) fun x24 =>
 pA Tryz.prog (oFld 155 x24 0) fun x25 =>
 pN Tryz.prog (oStore 3 x25 x23) w5 fun _ w6 =>
 (True) ∧ (Q (.tuple #[]) w6))
theorem lzenc_costing_bit.calls [Pan] {x0 x1 x2 x3 : Value} {w : World} {Q : Value → World → Prop} (h : lzenc_costing_bit.F x0 x1 x2 x3 w Q) : Calls Tryz.prog 254 #[x0, x1, x2, x3] w (retP Q) := calls_lift mixed lzenc_costing_bit.H [x0, x1, x2, x3] Tryz.func254 (by kernel_rfl) (by kernel_rfl) h

def lzenc_costing_direct.F [Pan] (x0 x1 x2 : Value) (w : World) (Q : Value → World → Prop) : Prop :=
 pN Tryz.prog (oNil x0) w fun x7 w1 =>
 pN Tryz.prog (oFld 155 x7 0) w1 fun x8 w2 =>
 pN Tryz.prog (oLoad 3 x8) w2 fun x9 w3 =>
 pN Tryz.prog (oBin .mul 3 (.const (.int .i64 16)) (.tmp 10) (.int .i64 16) x2) w3 fun x11 w4 =>
 pN Tryz.prog (oBin .add 3 (.tmp 9) (.tmp 11) x9 x11) w4 fun x12 w5 =>
 pN Tryz.prog (oNil x0) w5 fun x13 w6 =>
 pN Tryz.prog (oFld 155 x13 0) w6 fun x14 w7 =>
 pN Tryz.prog (oStore 3 x14 x12) w7 fun _ w8 =>
 Q (.tuple #[]) w8
theorem lzenc_costing_direct.calls [Pan] {x0 x1 x2 : Value} {w : World} {Q : Value → World → Prop} (h : lzenc_costing_direct.F x0 x1 x2 w Q) : Calls Tryz.prog 255 #[x0, x1, x2] w (retP Q) := calls_lift mixed .z [x0, x1, x2] Tryz.func255 (by kernel_rfl) (by kernel_rfl) h

def lzenc_costing_tree.F [Pan] (x0 x1 x2 x3 x4 : Value) (w : World) (Q : Value → World → Prop) : Prop :=
 pN Tryz.prog (oCall 259 [x1, x2, x3, x4]) w fun x17 w1 =>
 pN Tryz.prog (oExt x17 0) w1 fun x18 w2 =>
 pN Tryz.prog (oExt x17 1) w2 fun _ w3 =>
 pN Tryz.prog (oNil x0) w3 fun x21 w4 =>
 pN Tryz.prog (oFld 155 x21 0) w4 fun x22 w5 =>
 pN Tryz.prog (oLoad 3 x22) w5 fun x23 w6 =>
 pN Tryz.prog (oBin .add 3 (.tmp 23) (.tmp 24) x23 x18) w6 fun x25 w7 =>
 pN Tryz.prog (oNil x0) w7 fun x26 w8 =>
 pN Tryz.prog (oFld 155 x26 0) w8 fun x27 w9 =>
 pN Tryz.prog (oStore 3 x27 x25) w9 fun _ w10 =>
 Q (.tuple #[]) w10
theorem lzenc_costing_tree.calls [Pan] {x0 x1 x2 x3 x4 : Value} {w : World} {Q : Value → World → Prop} (h : lzenc_costing_tree.F x0 x1 x2 x3 x4 w Q) : Calls Tryz.prog 256 #[x0, x1, x2, x3, x4] w (retP Q) := calls_lift mixed .z [x0, x1, x2, x3, x4] Tryz.func256 (by kernel_rfl) (by kernel_rfl) h

end Go.Proofs.YtbgnnjfpiblkmaaGreatDoor

namespace Go.Proofs.YtbgnnjfpiblkmaaGreatDoor
open Go
set_option maxRecDepth 100000

def tree_there.H : Hints := { cut := fun  | _ => none, loop := fun  | _ => ([], 0), order := fun | 1 => [(0, 0), (1, 1), (2, 3), (3, 7), (4, 15), (5, 31), (6, 63), (7, 127), (8, 255), (9, 511), (10, 1023), (11, 2047), (12, 4095), (13, 8191), (14, 16383), (15, 32767), (16, 65535), (17, 131071), (18, 262143), (19, 524287), (21, 1048575), (20, 3145727), (22, 4194303), (23, 8388607), (24, 16777215), (25, 33554431)] | _ => [] }
def tree_there.F [Pan] (x0 x1 x2 : Value) (w : World) (Q : Value → World → Prop) : Prop :=
 pDr w fun w1 =>
 pA Tryz.prog (oBin .geq 3 (.tmp 7) (.const (.int .i64 0)) x2 (.int .i64 0)) fun x8 =>
 gA (gB x8 true) (pA Tryz.prog (oMv x2)) fun x10 =>
 gA (gB x8 true) (pA Tryz.prog (oBin .leq 3 (.tmp 10) (.const (.int .i64 16)) x10 (.int .i64 16))) fun x11 =>
 pA Tryz.prog (oPick x8 x11 (.bool false)) fun x12 =>
 gA (gB x12 true) (pA Tryz.prog (oMv x1)) fun x14 =>
 gA (gB x12 true) (pA Tryz.prog (oBin .geq 3 (.tmp 14) (.const (.int .i64 0)) x14 (.int .i64 0))) fun x15 =>
 pA Tryz.prog (oPick x12 x15 (.bool false)) fun x16 =>
 gA (gB x16 true) (pA Tryz.prog (oMv x1)) fun x18 =>
 gA (gB x16 true) (pA Tryz.prog (oMv x0)) fun x19 =>
 pGd (gB x16 true) (pN Tryz.prog (oCall 225 [x19]) w1) w1 fun x20 w2 =>
 (True) ∧ (gA (gB x16 true) (pA Tryz.prog (oBin .leq 3 (.tmp 18) (.tmp 20) x18 x20)) fun x21 =>
 pA Tryz.prog (oPick x16 x21 (.bool false)) fun x22 =>
 gA (gB x22 true) (pA Tryz.prog (oMv x2)) fun x24 =>
 gA (gB x22 true) (pA Tryz.prog (oBin .shl 3 (.const (.int .i64 1)) (.tmp 24) (.int .i64 1) x24)) fun x25 =>
 gA (gB x22 true) (pA Tryz.prog (oMv x0)) fun x26 =>
 gA (gB x22 true) (pA Tryz.prog (oMv x1)) fun x28 =>
 pGd (gB x22 true) (pN Tryz.prog (oCall 225 [x26]) w2) w2 fun x27 w3 =>
 (True) ∧ (gA (gB x22 true) (pA Tryz.prog (oBin .sub 3 (.tmp 27) (.tmp 28) x27 x28)) fun x29 =>
 gA (gB x22 true) (pA Tryz.prog (oBin .leq 3 (.tmp 25) (.tmp 29) x25 x29)) fun x30 =>
 pA Tryz.prog (oPick x22 x30 (.bool false)) fun x31 =>
 Q x31 w3))
theorem tree_there.calls [Pan] {x0 x1 x2 : Value} {w : World} {Q : Value → World → Prop} (h : tree_there.F x0 x1 x2 w Q) : Calls Tryz.prog 219 #[x0, x1, x2] w (retP Q) := calls_lift mixed tree_there.H [x0, x1, x2] Tryz.func219 (by kernel_rfl) (by kernel_rfl) h

def tree_down.H : Hints := { cut := fun  | _ => none, loop := fun | 3 => ([7, 12], 4294965184) | _ => ([], 0), order := fun  | _ => [] }
def tree_down.F [Pan] (x0 x1 x2 : Value) (w : World) (Q : Value → World → Prop) : Prop :=
 ∃ (L3 : Value → Value → World → Prop) (m3 : Value → Value → World → Nat),
 L3 (.int .i64 1) (.int .i64 0) w ∧
 ∀ (_k3 : Env) (m7l3 : Value) (v12l3 : Value) (w1 : World), L3 m7l3 v12l3 w1 →
 pN Tryz.prog (oBin .lss 3 (.tmp 12) (.tmp 11) v12l3 x1) w1 fun x13 w2 =>
 pIf x13
 (pN Tryz.prog (oBin .add 3 (.tmp 17) (.tmp 18) x0 m7l3) w2 fun x19 w3 =>
 pN Tryz.prog (oCallV x2 [x19, v12l3]) w3 fun x21 w4 =>
 pN Tryz.prog (oExt x21 0) w4 fun x22 w5 =>
 pN Tryz.prog (oExt x21 1) w5 fun x23 w6 =>
 pN Tryz.prog (oBin .neq 38 (.tmp 24) (.const (.int .i64 0)) x23 (.int .i64 0)) w6 fun x25 w7 =>
 pIf x25
 (Q x23 w7)
 (pN Tryz.prog (oBin .mul 3 (.const (.int .i64 2)) (.tmp 27) (.int .i64 2) m7l3) w7 fun x28 w8 =>
 pN Tryz.prog (oBin .add 3 (.tmp 28) (.tmp 29) x28 x22) w8 fun x30 w9 =>
 pN Tryz.prog (oBin .add 3 (.tmp 12) (.const (.int .i64 1)) v12l3 (.int .i64 1)) w9 fun x31 w10 =>
 (L3 x30 x31 w10 ∧ m3 x30 x31 w10 < m3 m7l3 v12l3 w1)))
 (Q (.int .i64 0) w2)
theorem tree_down.calls [Pan] {x0 x1 x2 : Value} {w : World} {Q : Value → World → Prop} (h : tree_down.F x0 x1 x2 w Q) : Calls Tryz.prog 220 #[x0, x1, x2] w (retP Q) := calls_lift mixed tree_down.H [x0, x1, x2] Tryz.func220 (by kernel_rfl) (by kernel_rfl) h

def tree_order.F [Pan] (x0 x1 x2 : Value) (w : World) (Q : Value → World → Prop) : Prop :=
 pIf x0
 (Q x2 w)
 (pN Tryz.prog (oBin .sub 3 (.tmp 9) (.const (.int .i64 1)) x1 (.int .i64 1)) w fun x10 w1 =>
 pN Tryz.prog (oBin .sub 3 (.tmp 10) (.tmp 11) x10 x2) w1 fun x12 w2 =>
 Q x12 w2)
theorem tree_order.calls [Pan] {x0 x1 x2 : Value} {w : World} {Q : Value → World → Prop} (h : tree_order.F x0 x1 x2 w Q) : Calls Tryz.prog 222 #[x0, x1, x2] w (retP Q) := calls_lift mixed .z [x0, x1, x2] Tryz.func222 (by kernel_rfl) (by kernel_rfl) h

def tree_PutBack.F [Pan] (x0 x1 x2 x3 x4 : Value) (w : World) (Q : Value → World → Prop) : Prop :=
 pN Tryz.prog (oCall 249 [x0, x1, x2, x3, x4, (.bool true)]) w fun x16 w1 =>
 Q x16 w1
theorem tree_PutBack.calls [Pan] {x0 x1 x2 x3 x4 : Value} {w : World} {Q : Value → World → Prop} (h : tree_PutBack.F x0 x1 x2 x3 x4 w Q) : Calls Tryz.prog 245 #[x0, x1, x2, x3, x4] w (retP Q) := calls_lift mixed .z [x0, x1, x2, x3, x4] Tryz.func245 (by kernel_rfl) (by kernel_rfl) h

def tree_Put.F [Pan] (x0 x1 x2 x3 x4 : Value) (w : World) (Q : Value → World → Prop) : Prop :=
 pN Tryz.prog (oCall 249 [x0, x1, x2, x3, x4, (.bool false)]) w fun x16 w1 =>
 Q x16 w1
theorem tree_Put.calls [Pan] {x0 x1 x2 x3 x4 : Value} {w : World} {Q : Value → World → Prop} (h : tree_Put.F x0 x1 x2 x3 x4 w Q) : Calls Tryz.prog 248 #[x0, x1, x2, x3, x4] w (retP Q) := calls_lift mixed .z [x0, x1, x2, x3, x4] Tryz.func248 (by kernel_rfl) (by kernel_rfl) h

def tree_put.F [Pan] (x0 x1 x2 x3 x4 x5 : Value) (w : World) (Q : Value → World → Prop) : Prop :=
 pN Tryz.prog (oBox 125 x0) w fun x6 w1 =>
 pN Tryz.prog (oBox 137 x1) w1 fun x7 w2 =>
 pN Tryz.prog (oBox 3 x3) w2 fun x9 w3 =>
 pN Tryz.prog (oBox 3 x4) w3 fun x10 w4 =>
 pN Tryz.prog (oBox 4 x5) w4 fun x11 w5 =>
 pN Tryz.prog (oLoad 137 x7) w5 fun x13 w6 =>
 pN Tryz.prog (oLoad 3 x9) w6 fun x15 w7 =>
 pN Tryz.prog (oCall 219 [x13, x2, x15]) w7 fun x16 w8 =>
 pN Tryz.prog (oUn .not x16) w8 fun x17 w9 =>
 pGd (gB x17 false) (pN Tryz.prog (oLoad 3 x10) w9) w9 fun x19 w10 =>
 pGd (gB x17 false) (pN Tryz.prog (oLoad 3 x9) w10) w10 fun x20 w11 =>
 pGd (gB x17 false) (pN Tryz.prog (oCall 251 [x19, x20]) w11) w11 fun x21 w12 =>
 pGd (gB x17 false) (pN Tryz.prog (oUn .not x21) w12) w12 fun x22 w13 =>
 pN Tryz.prog (oPick x17 (.bool true) x22) w13 fun x23 w14 =>
 pIf x23
 (Q (.int .i64 7) w14)
 (pN Tryz.prog (oLoad 3 x9) w14 fun x25 w15 =>
 pN Tryz.prog (oFn (.func 252) [] [x10, x11, x9, x6, x7]) w15 fun x26 w16 =>
 pN Tryz.prog (oCall 220 [x2, x25, x26]) w16 fun x27 w17 =>
 Q x27 w17)
theorem tree_put.calls [Pan] {x0 x1 x2 x3 x4 x5 : Value} {w : World} {Q : Value → World → Prop} (h : tree_put.F x0 x1 x2 x3 x4 x5 w Q) : Calls Tryz.prog 249 #[x0, x1, x2, x3, x4, x5] w (retP Q) := calls_lift mixed .z [x0, x1, x2, x3, x4, x5] Tryz.func249 (by kernel_rfl) (by kernel_rfl) h

def tree_holds.F [Pan] (x0 x1 : Value) (w : World) (Q : Value → World → Prop) : Prop :=
 pN Tryz.prog (oBin .geq 3 (.tmp 5) (.const (.int .i64 0)) x0 (.int .i64 0)) w fun x6 w1 =>
 pGd (gB x6 true) (pN Tryz.prog (oMv x0) w1) w1 fun x8 w2 =>
 pGd (gB x6 true) (pN Tryz.prog (oMv x1) w2) w2 fun x9 w3 =>
 pGd (gB x6 true) (pN Tryz.prog (oBin .shl 3 (.const (.int .i64 1)) (.tmp 9) (.int .i64 1) x9) w3) w3 fun x10 w4 =>
 pGd (gB x6 true) (pN Tryz.prog (oBin .lss 3 (.tmp 8) (.tmp 10) x8 x10) w4) w4 fun x11 w5 =>
 pN Tryz.prog (oPick x6 x11 (.bool false)) w5 fun x12 w6 =>
 Q x12 w6
theorem tree_holds.calls [Pan] {x0 x1 : Value} {w : World} {Q : Value → World → Prop} (h : tree_holds.F x0 x1 w Q) : Calls Tryz.prog 251 #[x0, x1] w (retP Q) := calls_lift mixed .z [x0, x1] Tryz.func251 (by kernel_rfl) (by kernel_rfl) h

def tree_put_c1.H : Hints := { cut := fun  | _ => none, loop := fun  | _ => ([], 0), order := fun | 1 => [(0, 0), (1, 1), (2, 3), (3, 7), (4, 15), (5, 31), (6, 63), (7, 127)] | _ => [] }
def tree_put_c1.F [Pan] (x0 x1 x2 x3 x4 x5 x6 : Value) (w : World) (Q : Value → World → Prop) : Prop :=
 pDr w fun w1 =>
 pL Tryz.prog (oLoad 3 x2) w1 fun x12 =>
 pL Tryz.prog (oLoad 4 x3) w1 fun x13 =>
 pL Tryz.prog (oLoad 3 x4) w1 fun x14 =>
 pN Tryz.prog (oCall 222 [x13, x14, x1]) w1 fun x16 w2 =>
 ((Sem.run Tryz.prog (oLoad 3 x2) w2 = .ok (.value x12) w2) ∧ True) ∧ (pA Tryz.prog (oBin .shr 3 (.tmp 12) (.tmp 16) x12 x16) fun x17 =>
 pA Tryz.prog (oBin .and 3 (.tmp 17) (.const (.int .i64 1)) x17 (.int .i64 1)) fun x18 =>
 pN Tryz.prog (oLoad 125 x5) w2 fun x20 w3 =>
 pN Tryz.prog (oLoad 137 x6) w3 fun x21 w4 =>
 pN Tryz.prog (oCall 246 [x20, x21, x0, x18]) w4 fun x24 w5 =>
 Q (.tuple #[x18, x24]) w5)
theorem tree_put_c1.calls [Pan] {x0 x1 x2 x3 x4 x5 x6 : Value} {w : World} {Q : Value → World → Prop} (h : tree_put_c1.F x0 x1 x2 x3 x4 x5 x6 w Q) : Calls Tryz.prog 252 #[x0, x1, x2, x3, x4, x5, x6] w (retP Q) := calls_lift mixed tree_put_c1.H [x0, x1, x2, x3, x4, x5, x6] Tryz.func252 (by kernel_rfl) (by kernel_rfl) h

def tree_CostBack.F [Pan] (x0 x1 x2 x3 : Value) (w : World) (Q : Value → World → Prop) : Prop :=
 pN Tryz.prog (oCall 260 [x0, x1, x2, x3, (.bool true)]) w fun x14 w1 =>
 pN Tryz.prog (oExt x14 0) w1 fun x15 w2 =>
 pN Tryz.prog (oExt x14 1) w2 fun x16 w3 =>
 Q (.tuple #[x15, x16]) w3
theorem tree_CostBack.calls [Pan] {x0 x1 x2 x3 : Value} {w : World} {Q : Value → World → Prop} (h : tree_CostBack.F x0 x1 x2 x3 w Q) : Calls Tryz.prog 257 #[x0, x1, x2, x3] w (retP Q) := calls_lift mixed .z [x0, x1, x2, x3] Tryz.func257 (by kernel_rfl) (by kernel_rfl) h

def tree_Cost.F [Pan] (x0 x1 x2 x3 : Value) (w : World) (Q : Value → World → Prop) : Prop :=
 pN Tryz.prog (oCall 260 [x0, x1, x2, x3, (.bool false)]) w fun x14 w1 =>
 pN Tryz.prog (oExt x14 0) w1 fun x15 w2 =>
 pN Tryz.prog (oExt x14 1) w2 fun x16 w3 =>
 Q (.tuple #[x15, x16]) w3
theorem tree_Cost.calls [Pan] {x0 x1 x2 x3 : Value} {w : World} {Q : Value → World → Prop} (h : tree_Cost.F x0 x1 x2 x3 w Q) : Calls Tryz.prog 259 #[x0, x1, x2, x3] w (retP Q) := calls_lift mixed .z [x0, x1, x2, x3] Tryz.func259 (by kernel_rfl) (by kernel_rfl) h

def tree_cost.F [Pan] (x0 x1 x2 x3 x4 : Value) (w : World) (Q : Value → World → Prop) : Prop :=
 pN Tryz.prog (oBox 137 x0) w fun x5 w1 =>
 pN Tryz.prog (oBox 3 x2) w1 fun x7 w2 =>
 pN Tryz.prog (oBox 3 x3) w2 fun x8 w3 =>
 pN Tryz.prog (oBox 4 x4) w3 fun x9 w4 =>
 pN Tryz.prog (oLoad 137 x5) w4 fun x14 w5 =>
 pN Tryz.prog (oLoad 3 x7) w5 fun x16 w6 =>
 pN Tryz.prog (oCall 219 [x14, x1, x16]) w6 fun x17 w7 =>
 pN Tryz.prog (oUn .not x17) w7 fun x18 w8 =>
 pGd (gB x18 false) (pN Tryz.prog (oLoad 3 x8) w8) w8 fun x20 w9 =>
 pGd (gB x18 false) (pN Tryz.prog (oLoad 3 x7) w9) w9 fun x21 w10 =>
 pGd (gB x18 false) (pN Tryz.prog (oCall 251 [x20, x21]) w10) w10 fun x22 w11 =>
 pGd (gB x18 false) (pN Tryz.prog (oUn .not x22) w11) w11 fun x23 w12 =>
 pN Tryz.prog (oPick x18 (.bool true) x23) w12 fun x24 w13 =>
 pIf x24
 (Q (.tuple #[(.int .i64 0), (.int .i64 7)]) w13)
 (pN Tryz.prog (oAlloc 3) w13 fun x12 w14 =>
 pN Tryz.prog (oStore 3 x12 (.int .i64 0)) w14 fun _ w15 =>
 pN Tryz.prog (oLoad 3 x7) w15 fun x26 w16 =>
 pN Tryz.prog (oFn (.func 262) [] [x8, x9, x7, x5, x12]) w16 fun x27 w17 =>
 pN Tryz.prog (oCall 220 [x1, x26, x27]) w17 fun x28 w18 =>
 pN Tryz.prog (oLoad 3 x12) w18 fun x29 w19 =>
 Q (.tuple #[x29, x28]) w19)
theorem tree_cost.calls [Pan] {x0 x1 x2 x3 x4 : Value} {w : World} {Q : Value → World → Prop} (h : tree_cost.F x0 x1 x2 x3 x4 w Q) : Calls Tryz.prog 260 #[x0, x1, x2, x3, x4] w (retP Q) := calls_lift mixed .z [x0, x1, x2, x3, x4] Tryz.func260 (by kernel_rfl) (by kernel_rfl) h

def tree_cost_c1.H : Hints := { cut := fun  | _ => none, loop := fun  | _ => ([], 0), order := fun | 1 => [(0, 0), (1, 1), (2, 3), (3, 7), (4, 15), (5, 31), (6, 63), (7, 127)] | 3 => [(0, 0), (1, 1), (2, 3), (3, 7), (4, 15), (5, 31)] | _ => [] }
def tree_cost_c1.F [Pan] (x0 x1 x2 x3 x4 x5 x6 : Value) (w : World) (Q : Value → World → Prop) : Prop :=
 pDr w fun w1 =>
 pL Tryz.prog (oLoad 3 x2) w1 fun x14 =>
 pL Tryz.prog (oLoad 4 x3) w1 fun x15 =>
 pL Tryz.prog (oLoad 3 x4) w1 fun x16 =>
 pN Tryz.prog (oCall 222 [x15, x16, x1]) w1 fun x18 w2 =>
 ((Sem.run Tryz.prog (oLoad 3 x2) w2 = .ok (.value x14) w2) ∧ True) ∧ (pA Tryz.prog (oBin .shr 3 (.tmp 14) (.tmp 18) x14 x18) fun x19 =>
 pA Tryz.prog (oBin .and 3 (.tmp 19) (.const (.int .i64 1)) x19 (.int .i64 1)) fun x20 =>
 pN Tryz.prog (oLoad 137 x5) w2 fun x22 w3 =>
 pN Tryz.prog (oCall 179 [x22, x0]) w3 fun x24 w4 =>
 pN Tryz.prog (oExt x24 0) w4 fun x25 w5 =>
 pN Tryz.prog (oExt x24 1) w5 fun x26 w6 =>
 pDr w6 fun w7 =>
 pL Tryz.prog (oLoad 3 x6) w7 fun x27 =>
 pN Tryz.prog (oCall 258 [x25, x20]) w7 fun x30 w8 =>
 ((Sem.run Tryz.prog (oLoad 3 x6) w8 = .ok (.value x27) w8) ∧ True) ∧ (pA Tryz.prog (oBin .add 3 (.tmp 27) (.tmp 30) x27 x30) fun x31 =>
 pN Tryz.prog (oStore 3 x6 x31) w8 fun _ w9 =>
 (True) ∧ (Q (.tuple #[x20, x26]) w9)))
theorem tree_cost_c1.calls [Pan] {x0 x1 x2 x3 x4 x5 x6 : Value} {w : World} {Q : Value → World → Prop} (h : tree_cost_c1.F x0 x1 x2 x3 x4 x5 x6 w Q) : Calls Tryz.prog 262 #[x0, x1, x2, x3, x4, x5, x6] w (retP Q) := calls_lift mixed tree_cost_c1.H [x0, x1, x2, x3, x4, x5, x6] Tryz.func262 (by kernel_rfl) (by kernel_rfl) h

end Go.Proofs.YtbgnnjfpiblkmaaGreatDoor

namespace Go.Proofs.YtbgnnjfpiblkmaaGreatDoor
open Go
set_option maxRecDepth 100000

def rcenc_New.F [Pan]  (w : World) (Q : Value → World → Prop) : Prop :=
 pN Tryz.prog (oBuild 190 [(1, (.int .u32 4294967295))]) w fun x1 w1 =>
 pN Tryz.prog (oBox 190 x1) w1 fun x2 w2 =>
 Q x2 w2
theorem rcenc_New.calls [Pan]  {w : World} {Q : Value → World → Prop} (h : rcenc_New.F  w Q) : Calls Tryz.prog 62 #[] w (retP Q) := calls_lift mixed .z [] Tryz.func62 (by kernel_rfl) (by kernel_rfl) h

def rcenc_Encoder_Bytes.H : Hints := { cut := fun  | _ => none, loop := fun | 3 => ([6], 1984) | _ => ([], 0), order := fun  | _ => [] }
def rcenc_Encoder_Bytes.F [Pan] (x0 : Value) (w : World) (Q : Value → World → Prop) : Prop :=
 pN Tryz.prog (oCall 82 [x0]) w fun x5 w1 =>
 ∃ (L3 : Value → World → Prop) (m3 : Value → World → Nat),
 L3 (.int .i64 0) w1 ∧
 ∀ (_k3 : Env) (v6l3 : Value) (w2 : World), L3 v6l3 w2 →
 pN Tryz.prog (oBin .lss 3 (.tmp 6) (.const (.int .i64 5)) v6l3 (.int .i64 5)) w2 fun x7 w3 =>
 pIf x7
 (pN Tryz.prog (oCall 125 [x5]) w3 fun _ w4 =>
 pN Tryz.prog (oBin .add 3 (.tmp 6) (.const (.int .i64 1)) v6l3 (.int .i64 1)) w4 fun x10 w5 =>
 (L3 x10 w5 ∧ m3 x10 w5 < m3 v6l3 w2))
 (pN Tryz.prog (oNil x5) w3 fun x12 w6 =>
 pN Tryz.prog (oFld 190 x12 4) w6 fun x13 w7 =>
 pN Tryz.prog (oLoad 30 x13) w7 fun x14 w8 =>
 Q x14 w8)
theorem rcenc_Encoder_Bytes.calls [Pan] {x0 : Value} {w : World} {Q : Value → World → Prop} (h : rcenc_Encoder_Bytes.F x0 w Q) : Calls Tryz.prog 76 #[x0] w (retP Q) := calls_lift mixed rcenc_Encoder_Bytes.H [x0] Tryz.func76 (by kernel_rfl) (by kernel_rfl) h

def rcenc_Encoder_Fork.H : Hints := { cut := fun  | _ => none, loop := fun  | _ => ([], 0), order := fun | 2 => [(0, 0), (1, 1), (2, 3), (3, 7), (4, 15), (5, 31), (6, 63), (7, 127), (8, 255), (9, 511), (10, 1023), (12, 2047), (13, 6143), (14, 14335), (15, 30719), (11, 63487), (16, 65535), (17, 131071), (18, 262143)] | _ => [] }
def rcenc_Encoder_Fork.F [Pan] (x0 : Value) (w : World) (Q : Value → World → Prop) : Prop :=
 pN Tryz.prog (oNil x0) w fun x5 w1 =>
 pN Tryz.prog (oLoad 190 x5) w1 fun x6 w2 =>
 pN Tryz.prog (oAlloc 190) w2 fun x3 w3 =>
 pN Tryz.prog (oStore 190 x3 x6) w3 fun _ w4 =>
 pDr w4 fun w5 =>
 pA Tryz.prog (oNil x0) fun x8 =>
 pA Tryz.prog (oFld 190 x8 4) fun x9 =>
 pL Tryz.prog (oLoad 30 x9) w5 fun x10 =>
 pA Tryz.prog (oBi .len #[30] 3 [false] [x10]) fun x11 =>
 pA Tryz.prog (oNil x0) fun x13 =>
 pA Tryz.prog (oFld 190 x13 3) fun x14 =>
 pL Tryz.prog (oLoad 3 x14) w5 fun x15 =>
 pA Tryz.prog (oBin .add 3 (.tmp 11) (.tmp 15) x11 x15) fun x16 =>
 pA Tryz.prog (oBin .add 3 (.tmp 16) (.const (.int .i64 8)) x16 (.int .i64 8)) fun x17 =>
 pA Tryz.prog (oNil x0) fun x20 =>
 pA Tryz.prog (oFld 190 x20 4) fun x21 =>
 pL Tryz.prog (oLoad 30 x21) w5 fun x22 =>
 pN Tryz.prog (oMk 30 (.int .i64 0) x17) w5 fun x18 w6 =>
 ((Sem.run Tryz.prog (oLoad 30 x21) w6 = .ok (.value x22) w6) ∧ True) ∧ (pN Tryz.prog (oBi .append #[30, 30] 30 [false, false] [x18, x22]) w6 fun x23 w7 =>
 (True) ∧ (pA Tryz.prog (oFld 190 x3 4) fun x24 =>
 pN Tryz.prog (oStore 30 x24 x23) w7 fun _ w8 =>
 (True) ∧ (Q x3 w8)))
theorem rcenc_Encoder_Fork.calls [Pan] {x0 : Value} {w : World} {Q : Value → World → Prop} (h : rcenc_Encoder_Fork.F x0 w Q) : Calls Tryz.prog 82 #[x0] w (retP Q) := calls_lift mixed rcenc_Encoder_Fork.H [x0] Tryz.func82 (by kernel_rfl) (by kernel_rfl) h

def rcenc_Encoder_Size.H : Hints := { cut := fun  | _ => none, loop := fun  | _ => ([], 0), order := fun | 1 => [(0, 0), (1, 1), (2, 3), (3, 7), (4, 15), (5, 31), (6, 63), (7, 127), (8, 255), (9, 511), (10, 1023), (11, 2047), (12, 4095)] | _ => [] }
def rcenc_Encoder_Size.F [Pan] (x0 : Value) (w : World) (Q : Value → World → Prop) : Prop :=
 pDr w fun w1 =>
 pA Tryz.prog (oNil x0) fun x4 =>
 pA Tryz.prog (oFld 190 x4 4) fun x5 =>
 pL Tryz.prog (oLoad 30 x5) w1 fun x6 =>
 pA Tryz.prog (oBi .len #[30] 3 [false] [x6]) fun x7 =>
 pA Tryz.prog (oBin .add 3 (.tmp 7) (.const (.int .i64 1)) x7 (.int .i64 1)) fun x8 =>
 pA Tryz.prog (oNil x0) fun x10 =>
 pA Tryz.prog (oFld 190 x10 3) fun x11 =>
 pL Tryz.prog (oLoad 3 x11) w1 fun x12 =>
 pA Tryz.prog (oBin .add 3 (.tmp 8) (.tmp 12) x8 x12) fun x13 =>
 pA Tryz.prog (oBin .add 3 (.tmp 13) (.const (.int .i64 4)) x13 (.int .i64 4)) fun x14 =>
 Q x14 w1
theorem rcenc_Encoder_Size.calls [Pan] {x0 : Value} {w : World} {Q : Value → World → Prop} (h : rcenc_Encoder_Size.F x0 w Q) : Calls Tryz.prog 86 #[x0] w (retP Q) := calls_lift mixed rcenc_Encoder_Size.H [x0] Tryz.func86 (by kernel_rfl) (by kernel_rfl) h

def rcenc_Encoder_shift.H : Hints := { cut := fun | 8 => some ([], 37778931862957161709564) | _ => none, loop := fun | 3 => ([], 576460683583946752) | _ => ([], 0), order := fun | 2 => [(0, 0), (1, 1), (2, 3), (3, 7), (4, 15), (5, 31), (6, 63), (7, 127), (8, 255), (9, 511), (10, 1023), (11, 2047), (12, 4095), (13, 8191), (14, 16383), (15, 32767)] | _ => [] }
def rcenc_Encoder_shift.F [Pan] (x0 : Value) (w : World) (Q : Value → World → Prop) : Prop :=
 ∃ I8 : World → Prop,
 (pN Tryz.prog (oNil x0) w fun x4 w1 =>
 pN Tryz.prog (oFld 190 x4 0) w1 fun x5 w2 =>
 pN Tryz.prog (oLoad 188 x5) w2 fun x6 w3 =>
 pN Tryz.prog (oBin .lss 188 (.tmp 6) (.const (.int .u64 4278190080)) x6 (.int .u64 4278190080)) w3 fun x7 w4 =>
 pGd (gB x7 false) (pN Tryz.prog (oMv x0) w4) w4 fun x9 w5 =>
 pGd (gB x7 false) (pN Tryz.prog (oNil x9) w5) w5 fun x10 w6 =>
 pGd (gB x7 false) (pN Tryz.prog (oFld 190 x10 0) w6) w6 fun x11 w7 =>
 pGd (gB x7 false) (pN Tryz.prog (oLoad 188 x11) w7) w7 fun x12 w8 =>
 pGd (gB x7 false) (pN Tryz.prog (oBin .gtr 188 (.tmp 12) (.const (.int .u64 4294967295)) x12 (.int .u64 4294967295)) w8) w8 fun x13 w9 =>
 pN Tryz.prog (oPick x7 (.bool true) x13) w9 fun x14 w10 =>
 pIf x14
 (pN Tryz.prog (oNil x0) w10 fun x16 w11 =>
 pN Tryz.prog (oFld 190 x16 0) w11 fun x17 w12 =>
 pN Tryz.prog (oLoad 188 x17) w12 fun x18 w13 =>
 pN Tryz.prog (oBin .shr 188 (.tmp 18) (.const (.int .u64 32)) x18 (.int .u64 32)) w13 fun x19 w14 =>
 pN Tryz.prog (oConv 188 5 x19) w14 fun x20 w15 =>
 pDr w15 fun w16 =>
 pA Tryz.prog (oNil x0) fun x23 =>
 pA Tryz.prog (oFld 190 x23 4) fun x24 =>
 pL Tryz.prog (oLoad 30 x24) w16 fun x25 =>
 pA Tryz.prog (oNil x0) fun x27 =>
 pA Tryz.prog (oFld 190 x27 2) fun x28 =>
 pL Tryz.prog (oLoad 5 x28) w16 fun x29 =>
 pA Tryz.prog (oBin .add 5 (.tmp 29) (.tmp 30) x29 x20) fun x31 =>
 pN Tryz.prog (oBs 30 1 [(0, x31)]) w16 fun x32 w17 =>
 ((Sem.run Tryz.prog (oLoad 30 x24) w17 = .ok (.value x25) w17) ∧ True) ∧ (pN Tryz.prog (oBi .append #[30, 30] 30 [false, false] [x25, x32]) w17 fun x33 w18 =>
 (True) ∧ (pA Tryz.prog (oNil x0) fun x34 =>
 pA Tryz.prog (oFld 190 x34 4) fun x35 =>
 pN Tryz.prog (oStore 30 x35 x33) w18 fun _ w19 =>
 (True) ∧ (∃ (L3 : World → Prop) (m3 : World → Nat),
 L3 w19 ∧
 ∀ (_k3 : Env) (w20 : World), L3 w20 →
 pN Tryz.prog (oNil x0) w20 fun x37 w21 =>
 pN Tryz.prog (oFld 190 x37 3) w21 fun x38 w22 =>
 pN Tryz.prog (oLoad 3 x38) w22 fun x39 w23 =>
 pN Tryz.prog (oBin .gtr 3 (.tmp 39) (.const (.int .i64 0)) x39 (.int .i64 0)) w23 fun x40 w24 =>
 pIf x40
 (pN Tryz.prog (oNil x0) w24 fun x50 w25 =>
 pN Tryz.prog (oFld 190 x50 4) w25 fun x51 w26 =>
 pN Tryz.prog (oLoad 30 x51) w26 fun x52 w27 =>
 pN Tryz.prog (oBin .add 5 (.const (.int .u8 255)) (.tmp 53) (bv 255) x20) w27 fun x54 w28 =>
 pN Tryz.prog (oBs 30 1 [(0, x54)]) w28 fun x55 w29 =>
 pN Tryz.prog (oBi .append #[30, 30] 30 [false, false] [x52, x55]) w29 fun x56 w30 =>
 pN Tryz.prog (oNil x0) w30 fun x57 w31 =>
 pN Tryz.prog (oFld 190 x57 4) w31 fun x58 w32 =>
 pN Tryz.prog (oStore 30 x58 x56) w32 fun _ w33 =>
 pN Tryz.prog (oNil x0) w33 fun x42 w34 =>
 pN Tryz.prog (oFld 190 x42 3) w34 fun x43 w35 =>
 pN Tryz.prog (oLoad 3 x43) w35 fun x44 w36 =>
 pN Tryz.prog (oBin .sub 3 (.tmp 44) (.const (.int .i64 1)) x44 (.int .i64 1)) w36 fun x45 w37 =>
 pN Tryz.prog (oNil x0) w37 fun x46 w38 =>
 pN Tryz.prog (oFld 190 x46 3) w38 fun x47 w39 =>
 pN Tryz.prog (oStore 3 x47 x45) w39 fun _ w40 =>
 (L3 w40 ∧ m3 w40 < m3 w20))
 (pN Tryz.prog (oNil x0) w24 fun x61 w41 =>
 pN Tryz.prog (oFld 190 x61 0) w41 fun x62 w42 =>
 pN Tryz.prog (oLoad 188 x62) w42 fun x63 w43 =>
 pN Tryz.prog (oBin .shr 188 (.tmp 63) (.const (.int .u64 24)) x63 (.int .u64 24)) w43 fun x64 w44 =>
 pN Tryz.prog (oConv 188 5 x64) w44 fun x65 w45 =>
 pN Tryz.prog (oNil x0) w45 fun x66 w46 =>
 pN Tryz.prog (oFld 190 x66 2) w46 fun x67 w47 =>
 pN Tryz.prog (oStore 5 x67 x65) w47 fun _ w48 =>
 I8 w48)))))
 (pN Tryz.prog (oNil x0) w10 fun x69 w49 =>
 pN Tryz.prog (oFld 190 x69 3) w49 fun x70 w50 =>
 pN Tryz.prog (oLoad 3 x70) w50 fun x71 w51 =>
 pN Tryz.prog (oBin .add 3 (.tmp 71) (.const (.int .i64 1)) x71 (.int .i64 1)) w51 fun x72 w52 =>
 pN Tryz.prog (oNil x0) w52 fun x73 w53 =>
 pN Tryz.prog (oFld 190 x73 3) w53 fun x74 w54 =>
 pN Tryz.prog (oStore 3 x74 x72) w54 fun _ w55 =>
 I8 w55)) ∧
 ∀ (_j8 : Env) (w56 : World), I8 w56 →
 pN Tryz.prog (oNil x0) w56 fun x77 w57 =>
 pN Tryz.prog (oFld 190 x77 0) w57 fun x78 w58 =>
 pN Tryz.prog (oLoad 188 x78) w58 fun x79 w59 =>
 pN Tryz.prog (oBin .and 188 (.tmp 79) (.const (.int .u64 16777215)) x79 (.int .u64 16777215)) w59 fun x80 w60 =>
 pN Tryz.prog (oBin .shl 188 (.tmp 80) (.const (.int .u64 8)) x80 (.int .u64 8)) w60 fun x81 w61 =>
 pN Tryz.prog (oNil x0) w61 fun x82 w62 =>
 pN Tryz.prog (oFld 190 x82 0) w62 fun x83 w63 =>
 pN Tryz.prog (oStore 188 x83 x81) w63 fun _ w64 =>
 Q (.tuple #[]) w64
theorem rcenc_Encoder_shift.calls [Pan] {x0 : Value} {w : World} {Q : Value → World → Prop} (h : rcenc_Encoder_shift.F x0 w Q) : Calls Tryz.prog 125 #[x0] w (retP Q) := calls_lift mixed rcenc_Encoder_shift.H [x0] Tryz.func125 (by kernel_rfl) (by kernel_rfl) h

def rcenc_Encoder_Bit.H : Hints := { cut := fun | 9 => some ([], 562949886312448) | _ => none, loop := fun  | _ => ([], 0), order := fun  | _ => [] }
def rcenc_Encoder_Bit.F [Pan] (x0 x1 x2 x3 : Value) (w : World) (Q : Value → World → Prop) : Prop :=
 pN Tryz.prog (oCall 179 [x1, x2]) w fun x15 w1 =>
 pN Tryz.prog (oExt x15 0) w1 fun x16 w2 =>
 pN Tryz.prog (oExt x15 1) w2 fun x17 w3 =>
 pN Tryz.prog (oBin .neq 38 (.tmp 18) (.const (.int .i64 0)) x17 (.int .i64 0)) w3 fun x19 w4 =>
 pIf x19
 (Q (.int .i64 7) w4)
 (pN Tryz.prog (oNil x0) w4 fun x21 w5 =>
 pN Tryz.prog (oFld 190 x21 1) w5 fun x22 w6 =>
 pN Tryz.prog (oLoad 148 x22) w6 fun x23 w7 =>
 pN Tryz.prog (oCall 184 [x23, x16]) w7 fun x25 w8 =>
 ∃ I9 : World → Prop,
 (pN Tryz.prog (oBin .eql 3 (.tmp 26) (.const (.int .i64 0)) x3 (.int .i64 0)) w8 fun x27 w9 =>
 pIf x27
 (pN Tryz.prog (oNil x0) w9 fun x30 w10 =>
 pN Tryz.prog (oFld 190 x30 1) w10 fun x31 w11 =>
 pN Tryz.prog (oStore 148 x31 x25) w11 fun _ w12 =>
 I9 w12)
 (pN Tryz.prog (oNil x0) w9 fun x33 w13 =>
 pN Tryz.prog (oFld 190 x33 0) w13 fun x34 w14 =>
 pN Tryz.prog (oLoad 188 x34) w14 fun x35 w15 =>
 pN Tryz.prog (oConv 148 188 x25) w15 fun x37 w16 =>
 pN Tryz.prog (oBin .add 188 (.tmp 35) (.tmp 37) x35 x37) w16 fun x38 w17 =>
 pN Tryz.prog (oNil x0) w17 fun x39 w18 =>
 pN Tryz.prog (oFld 190 x39 0) w18 fun x40 w19 =>
 pN Tryz.prog (oStore 188 x40 x38) w19 fun _ w20 =>
 pN Tryz.prog (oNil x0) w20 fun x42 w21 =>
 pN Tryz.prog (oFld 190 x42 1) w21 fun x43 w22 =>
 pN Tryz.prog (oLoad 148 x43) w22 fun x44 w23 =>
 pN Tryz.prog (oBin .sub 148 (.tmp 44) (.tmp 45) x44 x25) w23 fun x46 w24 =>
 pN Tryz.prog (oNil x0) w24 fun x47 w25 =>
 pN Tryz.prog (oFld 190 x47 1) w25 fun x48 w26 =>
 pN Tryz.prog (oStore 148 x48 x46) w26 fun _ w27 =>
 I9 w27)) ∧
 ∀ (_j9 : Env) (w28 : World), I9 w28 →
 pN Tryz.prog (oCall 250 [x0]) w28 fun _ w29 =>
 pN Tryz.prog (oCall 182 [x1, x2, x3]) w29 fun x54 w30 =>
 Q x54 w30)
theorem rcenc_Encoder_Bit.calls [Pan] {x0 x1 x2 x3 : Value} {w : World} {Q : Value → World → Prop} (h : rcenc_Encoder_Bit.F x0 x1 x2 x3 w Q) : Calls Tryz.prog 246 #[x0, x1, x2, x3] w (retP Q) := calls_lift mixed rcenc_Encoder_Bit.H [x0, x1, x2, x3] Tryz.func246 (by kernel_rfl) (by kernel_rfl) h

def rcenc_Encoder_Direct.H : Hints := { cut := fun | 5 => some ([], 35184371564544) | 9 => some ([], 8796025913344) | _ => none, loop := fun | 4 => ([2], 35184372056068) | _ => ([], 0), order := fun | 8 => [(0, 0), (1, 1), (2, 3), (3, 7), (4, 15), (5, 31), (6, 63), (7, 127), (8, 255), (9, 511), (10, 1023), (11, 2047), (12, 4095)] | _ => [] }
def rcenc_Encoder_Direct.F [Pan] (x0 x1 x2 : Value) (w : World) (Q : Value → World → Prop) : Prop :=
 pN Tryz.prog (oBin .lss 3 (.tmp 7) (.const (.int .i64 0)) x2 (.int .i64 0)) w fun x8 w1 =>
 pGd (gB x8 false) (pN Tryz.prog (oMv x2) w1) w1 fun x10 w2 =>
 pGd (gB x8 false) (pN Tryz.prog (oBin .gtr 3 (.tmp 10) (.const (.int .i64 32)) x10 (.int .i64 32)) w2) w2 fun x11 w3 =>
 pN Tryz.prog (oPick x8 (.bool true) x11) w3 fun x12 w4 =>
 pIf x12
 (Q (.int .i64 7) w4)
 (pN Tryz.prog (oBin .sub 3 (.tmp 13) (.const (.int .i64 1)) x2 (.int .i64 1)) w4 fun x14 w5 =>
 ∃ (L4 : Value → World → Prop) (m4 : Value → World → Nat),
 L4 x14 w5 ∧
 ∀ (_k4 : Env) (n2l4 : Value) (w6 : World), L4 n2l4 w6 →
 pN Tryz.prog (oBin .geq 3 (.tmp 15) (.const (.int .i64 0)) n2l4 (.int .i64 0)) w6 fun x16 w7 =>
 pIf x16
 (∃ I5 : World → Prop,
 (pN Tryz.prog (oNil x0) w7 fun x20 w8 =>
 pN Tryz.prog (oFld 190 x20 1) w8 fun x21 w9 =>
 pN Tryz.prog (oLoad 148 x21) w9 fun x22 w10 =>
 pN Tryz.prog (oBin .quo 148 (.tmp 22) (.const (.int .u32 2)) x22 (.int .u32 2)) w10 fun x23 w11 =>
 pN Tryz.prog (oNil x0) w11 fun x24 w12 =>
 pN Tryz.prog (oFld 190 x24 1) w12 fun x25 w13 =>
 pN Tryz.prog (oStore 148 x25 x23) w13 fun _ w14 =>
 ∃ I9 : World → Prop,
 (pN Tryz.prog (oBin .shr 148 (.tmp 26) (.tmp 27) x1 n2l4) w14 fun x28 w15 =>
 pN Tryz.prog (oBin .and 148 (.tmp 28) (.const (.int .u32 1)) x28 (.int .u32 1)) w15 fun x29 w16 =>
 pN Tryz.prog (oBin .eql 148 (.tmp 29) (.const (.int .u32 1)) x29 (.int .u32 1)) w16 fun x30 w17 =>
 pIf x30
 (pDr w17 fun w18 =>
 pA Tryz.prog (oNil x0) fun x32 =>
 pA Tryz.prog (oFld 190 x32 0) fun x33 =>
 pL Tryz.prog (oLoad 188 x33) w18 fun x34 =>
 pA Tryz.prog (oNil x0) fun x36 =>
 pA Tryz.prog (oFld 190 x36 1) fun x37 =>
 pL Tryz.prog (oLoad 148 x37) w18 fun x38 =>
 pL Tryz.prog (oConv 148 188 x38) w18 fun x39 =>
 pA Tryz.prog (oBin .add 188 (.tmp 34) (.tmp 39) x34 x39) fun x40 =>
 pA Tryz.prog (oNil x0) fun x41 =>
 pA Tryz.prog (oFld 190 x41 0) fun x42 =>
 pN Tryz.prog (oStore 188 x42 x40) w18 fun _ w19 =>
 (True) ∧ (I9 w19))
 (I9 w17)) ∧
 ∀ (_j9 : Env) (w20 : World), I9 w20 →
 pN Tryz.prog (oCall 250 [x0]) w20 fun _ w21 =>
 I5 w21) ∧
 ∀ (_j5 : Env) (w22 : World), I5 w22 →
 pN Tryz.prog (oBin .sub 3 (.tmp 17) (.const (.int .i64 1)) n2l4 (.int .i64 1)) w22 fun x18 w23 =>
 (L4 x18 w23 ∧ m4 x18 w23 < m4 n2l4 w6))
 (Q (.int .i64 0) w7))
theorem rcenc_Encoder_Direct.calls [Pan] {x0 x1 x2 : Value} {w : World} {Q : Value → World → Prop} (h : rcenc_Encoder_Direct.F x0 x1 x2 w Q) : Calls Tryz.prog 247 #[x0, x1, x2] w (retP Q) := calls_lift mixed rcenc_Encoder_Direct.H [x0, x1, x2] Tryz.func247 (by kernel_rfl) (by kernel_rfl) h

def rcenc_Encoder_widen.H : Hints := { cut := fun  | _ => none, loop := fun | 0 => ([], 65532) | _ => ([], 0), order := fun  | _ => [] }
def rcenc_Encoder_widen.F [Pan] (x0 : Value) (w : World) (Q : Value → World → Prop) : Prop :=
 ∃ (L0 : World → Prop) (m0 : World → Nat),
 L0 w ∧
 ∀ (_k0 : Env) (w1 : World), L0 w1 →
 pN Tryz.prog (oNil x0) w1 fun x3 w2 =>
 pN Tryz.prog (oFld 190 x3 1) w2 fun x4 w3 =>
 pN Tryz.prog (oLoad 148 x4) w3 fun x5 w4 =>
 pN Tryz.prog (oBin .lss 148 (.tmp 5) (.const (.int .u32 16777216)) x5 (.int .u32 16777216)) w4 fun x6 w5 =>
 pIf x6
 (pN Tryz.prog (oNil x0) w5 fun x8 w6 =>
 pN Tryz.prog (oFld 190 x8 1) w6 fun x9 w7 =>
 pN Tryz.prog (oLoad 148 x9) w7 fun x10 w8 =>
 pN Tryz.prog (oBin .shl 148 (.tmp 10) (.const (.int .u64 8)) x10 (.int .u64 8)) w8 fun x11 w9 =>
 pN Tryz.prog (oNil x0) w9 fun x12 w10 =>
 pN Tryz.prog (oFld 190 x12 1) w10 fun x13 w11 =>
 pN Tryz.prog (oStore 148 x13 x11) w11 fun _ w12 =>
 pN Tryz.prog (oCall 125 [x0]) w12 fun _ w13 =>
 (L0 w13 ∧ m0 w13 < m0 w1))
 (Q (.tuple #[]) w5)
theorem rcenc_Encoder_widen.calls [Pan] {x0 : Value} {w : World} {Q : Value → World → Prop} (h : rcenc_Encoder_widen.F x0 w Q) : Calls Tryz.prog 250 #[x0] w (retP Q) := calls_lift mixed rcenc_Encoder_widen.H [x0] Tryz.func250 (by kernel_rfl) (by kernel_rfl) h

end Go.Proofs.YtbgnnjfpiblkmaaGreatDoor

namespace Go.Proofs.YtbgnnjfpiblkmaaGreatDoor
open Go
attribute [local irreducible] oMv oV oU oCall oCallV oBi oBin oUn oLoad oStore oNil oFld oField oIdx oIndex oPick oAlloc oBox oBuild oBs oConv oMk oSl oExt oFn oIface oMap oLook oMapUp oRange oNext oEntry oInv oAssert oPanic oRes pN pA pL pDr pIf gA pGd

def EncE (b : Nat) (e : R.E) : HA := fun h => ∃ s : Sl, Sats [cel b ⟨190, [.int .u64 e.low, .int .u32 e.rng, bv e.held, .int .i64 e.wait, .slice s.a e.out.length s.c]⟩, rows cd_uint8 s e.out] h
def Enc (b : Nat) (s : R.S) : HA := fun h => ∃ e : R.E, R.Rep e s ∧ R.Ok s ∧ EncE b e h

section
variable {E w : World} {M : List HA} {Q : Value → World → Prop} {b : Nat} {e : R.E} {st : R.S}

theorem EncE.opn (hS : Sat E w (EncE b e :: M)) : ∃ s : Sl, Sat E w (cel b ⟨190, [.int .u64 e.low, .int .u32 e.rng, bv e.held, .int .i64 e.wait, .slice s.a e.out.length s.c]⟩ :: rows cd_uint8 s e.out :: M) := by
  obtain ⟨s, hS⟩ := hS.ex
  exact ⟨s, hS.open_ (M := [_, _]) fun _ h => h⟩
theorem EncE.shut {s : Sl} {L N : List HA} {o : Ob} {out : List UInt8} (hS : Sat E w L) (e : R.E) [h1 : Fnd (cel b) L o N] [h2 : Fnd (rows cd_uint8 s) N out M] (ho : o = ⟨190, [.int .u64 e.low, .int .u32 e.rng, bv e.held, .int .i64 e.wait, .slice s.a e.out.length s.c]⟩) (he : out = e.out) : Sat E w (EncE b e :: M) := by
  subst ho he
  exact Sat.shut (M := [_, _]) (hS.fd2 (cel b) (rows cd_uint8 s)) fun _ h => ⟨s, h⟩
theorem Enc.opn (hS : Sat E w (Enc b st :: M)) : ∃ e, R.Rep e st ∧ R.Ok st ∧ Sat E w (EncE b e :: M) := by
  obtain ⟨e, ⟨h1, h2⟩, hS⟩ := hS.opn (p := fun e => R.Rep e st ∧ R.Ok st) (B := fun e => EncE b e) fun hp ⟨e, h1, h2, h3⟩ => ⟨e, ⟨h1, h2⟩, h3⟩
  exact ⟨e, h1, h2, hS⟩
theorem Enc.shut (hS : Sat E w (EncE b e :: M)) (h1 : R.Rep e st) (h2 : R.Ok st) : Sat E w (Enc b st :: M) := hS.weaken fun _ h => ⟨e, h1, h2, h⟩

theorem shift_ok (hS : Sat E w (EncE b e :: M)) (i1 : 0 ≤ e.low) (i2 : e.low < 8589934592) (hl : e.out.length + e.wait + 1 ≤ 140737488355328) (hQ : ∀ w, Sat E w (EncE b e.shift :: M) → Q (.tuple #[]) w) : Calls Tryz.prog 125 #[.pointer (some ⟨b, 0, none⟩)] w (retP Q) := by
  refine rcenc_Encoder_shift.calls ?_
  unfold rcenc_Encoder_shift.F
  obtain ⟨s, hS⟩ := EncE.opn hS
  refine ⟨_, ?_, fun _ _ h => h⟩
  repeat' (first | ((first | refine pN_lss_s ?_ ?_ | refine pN_gtr_s ?_ ?_) <;> intro hc <;> try (exfalso; omega)) | refine pIf_t ?_ | refine pIf_f ?_ | refine pGd_go (by rfl) ?_ | refine pGd_no (by rfl) ?_ | refine pN_tob ?_ | refine pN_l hS (by first | rfl | assumption) ?_ | refine pL_l hS (by first | rfl | assumption) ?_ | (refine pN_s hS (by first | exact Nat.le_of_ble_eq_true rfl | assumption) (by rfl) ?_; clear hS; intro w hS; try simp only [List.set_cons_zero, List.set_cons_succ] at hS) | (refine pDr_go hS ?_; clear hS; intro w hS) | refine ⟨trivial, ?_⟩ | refine ⟨⟨(by first | exact run_l hS (by first | rfl | assumption) | exact run_st hS (by first | rfl | omega) | exact run_ld1 ha hS | exact fun _ => run_l hS (by rfl) | exact fun _ => run_st hS (by first | rfl | omega) | exact fun _ => run_ld1 ha hS | exact fun h => Bool.noConfusion h), trivial⟩, ?_⟩ | (refine pN_b1 hS (by rfl) (by decide) ?_; clear hS; intro s w hS) | (refine pN_app hS (by first | rfl | omega | simpa only [go_sem] using True.intro | (simp only [go_sem]; omega)) (by first | rfl | omega | simpa only [go_sem] using True.intro | (simp only [go_sem]; omega)) (by first | omega | (simp only [go_sem]; omega)) ?_; clear hS; intro s w hS) | refine pN_v (hk := ?_) | refine pA_v (hk := ?_) | fail)
  rotate_left 2
  · refine hQ _ ?_
    unfold R.E.shift
    rw [if_neg (by omega)]
    exact EncE.shut (b := b) (s := s) hS _ rfl rfl
  all_goals
    refine ⟨fun w => ∃ (j : Nat) (s : Sl), j ≤ e.wait ∧ Sat E w (cel b ⟨190, [.int .u64 e.low, .int .u32 e.rng, bv e.held, .int .i64 (e.wait - j : Nat), .slice s.a (e.out ++ [e.held + byteOf (e.low / 4294967296)] ++ List.replicate j (255 + byteOf (e.low / 4294967296))).length s.c]⟩ :: rows cd_uint8 s (e.out ++ [e.held + byteOf (e.low / 4294967296)] ++ List.replicate j (255 + byteOf (e.low / 4294967296))) :: M),
      fun w => wInt b 3 w, ⟨0, s, Nat.zero_le _, by simp only [List.replicate_zero, List.append_nil]; exact hS.to⟩, ?_⟩
    clear hS
    rintro _ w ⟨j, s, hj, hS⟩
    have hm := wInt_eq (b := b) (i := 3) hS rfl
    repeat' (first | (refine pN_gtr_s ?_ ?_ <;> intro hc <;> try (exfalso; omega)) | refine pIf_t ?_ | refine pIf_f ?_ | refine pN_tob ?_ | refine pN_l hS (by first | rfl | assumption) ?_ | (refine pN_s hS (by first | exact Nat.le_of_ble_eq_true rfl | assumption) (by rfl) ?_; clear hS; intro w hS; try simp only [List.set_cons_zero, List.set_cons_succ] at hS) | (refine pN_b1 hS (by rfl) (by decide) ?_; clear hS; intro s w hS) | (refine pN_app hS (by first | rfl | omega | simpa only [go_sem] using True.intro | (simp only [go_sem]; omega)) (by first | rfl | omega | simpa only [go_sem] using True.intro | (simp only [go_sem]; omega)) (by first | omega | (simp only [go_sem]; omega)) ?_; clear hS; intro s w hS) | refine pN_v (hk := ?_) | fail)
    · refine ⟨⟨j + 1, s, by omega, ?_⟩, ?_⟩
      · have e1 : ((e.wait - (j + 1) : Nat) : Int) = ((e.wait - j : Nat) : Int) - 1 := by omega
        rw [List.replicate_succ', ← List.append_assoc _ (List.replicate _ _), e1]
        exact hS.to
      · show wInt b 3 _ < wInt b 3 _
        rw [hm, wInt_eq (b := b) (i := 3) hS rfl]
        omega
    · refine hQ _ ?_
      unfold R.E.shift
      rw [if_pos (by omega)]
      obtain rfl : j = e.wait := by omega
      exact EncE.shut (b := b) (s := s) hS _ (by simp) rfl

theorem widen_ok (hS : Sat E w (EncE b e :: M)) (hi : R.Rep e st) (h1 : e.rng < 4294967296) (hl : st.k + 10 ≤ 140737488355328) (hQ : ∀ e' w, R.Rep e' st.widen → Sat E w (EncE b e' :: M) → Q (.tuple #[]) w) : Calls Tryz.prog 250 #[.pointer (some ⟨b, 0, none⟩)] w (retP Q) := by
  refine rcenc_Encoder_widen.calls ?_
  unfold rcenc_Encoder_widen.F
  have i0 := hi.inv.r0
  have j0 := hi.rng
  refine ⟨fun w => ∃ (e' : R.E) (st' : R.S), R.Rep e' st' ∧ st'.widen = st.widen ∧ e'.rng < 4294967296 ∧ st'.k ≤ st'.widen.k ∧ Sat E w (EncE b e' :: M), fun w => 16777216 - wInt b 1 w, ⟨e, st, hi, rfl, h1, R.widen_mono st, hS⟩, ?_⟩
  clear hS
  rintro _ w ⟨e', st', hr, hw, h2, hk, hS⟩
  obtain ⟨s, hS⟩ := EncE.opn hS
  have i1 := hr.inv.l0
  have i2 := hr.inv.sum
  have i3 := hr.inv.r0
  have i4 := hr.rng
  have i5 := hr.len
  have i6 := (R.widen_k _ st rfl (by omega)).1
  rw [hw] at hk
  have hm := wInt_eq (b := b) (i := 1) hS rfl
  repeat' (first | (refine pN_lss_s ?_ ?_ <;> intro hc <;> try (exfalso; omega)) | refine pIf_t ?_ | refine pIf_f ?_ | refine pN_l hS (by first | rfl | assumption) ?_ | (refine pN_s hS (by first | exact Nat.le_of_ble_eq_true rfl | assumption) (by rfl) ?_; clear hS; intro w hS; try simp only [List.set_cons_zero, List.set_cons_succ] at hS) | refine pN_v (hk := ?_) | fail)
  · have hS := EncE.shut (b := b) (s := s) hS { e' with rng := e'.rng * 256 } rfl rfl
    refine pc_rcenc_Encoder_shift (shift_ok hS i1 (by simp only; omega) (by simp only; omega) fun w hS => ?_)
    rw [R.shift_with] at hS
    have hr' := hr.shift (e'.rng * 256) (by omega) (by omega) (by omega)
    refine ⟨⟨_, _, hr', ?_, by simp only; omega, R.widen_mono _, hS⟩, ?_⟩
    · rw [i4, ← R.S.widen_go (by omega) (by omega), hw]
    · obtain ⟨s, hS⟩ := EncE.opn hS
      show 16777216 - wInt b 1 _ < 16777216 - wInt b 1 _
      rw [hm, wInt_eq (b := b) (i := 1) hS rfl]
      simp only
      omega
  · rw [← hw, R.S.widen_no (by omega)] at hQ
    exact hQ _ _ hr (EncE.shut (b := b) (s := s) hS e' rfl rfl)

theorem NewE_ok (hS : Sat E w M) (hQ : ∀ b w, Sat E w (Enc b R.S.new :: M) → Q (.pointer (some ⟨b, 0, none⟩)) w) : Calls Tryz.prog 62 #[] w (retP Q) := by
  refine rcenc_New.calls ?_
  unfold rcenc_New.F
  repeat' (first | (refine pN_bx hS (by rfl) ?_; clear hS; intro a w hS) | refine pN_v (hk := ?_) | fail)
  have hS : Sat E w (rows cd_uint8 ⟨none, 0⟩ [] :: cel a _ :: M) := hS.nil 5 1
  exact hQ _ _ (Enc.shut (EncE.shut (b := a) (s := ⟨none, 0⟩) hS R.E.new rfl rfl) R.Rep.new R.Ok.new)

theorem Bit_ok {p : Nat} {l : List Int} (hS : Sat E w (Enc b st :: PSet p l :: M)) (hf : B.Fine l) (hk : st.k + 10 ≤ 140737488355328) (i bit : Int)
    (hQ : ∀ w, Sat E w (Enc b (if 0 ≤ i ∧ i < l.length then st.cut (B.bound st.R (l.getD i.toNat 0)) bit else st) :: PSet p (if 0 ≤ i ∧ i < l.length then l.set i.toNat (B.next (l.getD i.toNat 0) bit) else l) :: M) → Q (.int .i64 (if 0 ≤ i ∧ i < l.length then 0 else 7)) w) :
    Calls Tryz.prog 246 #[.pointer (some ⟨b, 0, none⟩), .pointer (some ⟨p, 0, none⟩), .int .i64 i, .int .i64 bit] w (retP Q) := by
  refine rcenc_Encoder_Bit.calls ?_
  unfold rcenc_Encoder_Bit.F
  refine pc_prob_Set_At (At_ok (hS.fd (PSet p)) i fun w hS => ?_)
  by_cases h : 0 ≤ i ∧ i < l.length
  · simp only [if_pos h] at hQ ⊢
    have hx : l[i.toNat]? = some (l.getD i.toNat 0) := by
      rw [List.getD_eq_getElem?_getD, List.getElem?_eq_getElem (show i.toNat < l.length by omega)]; rfl
    generalize l.getD i.toNat 0 = x at hQ hx ⊢
    have hp := hf.get hx
    obtain ⟨e, hr, ho, hS⟩ := Enc.opn (hS.fd (Enc b))
    obtain ⟨s, hS⟩ := EncE.opn hS
    have j1 := hr.rng
    have j2 := hr.inv.l0
    have j3 := hr.inv.sum
    have j4 := ho.r0
    have j5 := ho.r1
    have c1 := B.bound_pos (rng := st.R) (p := x) j4 hp.1
    have c2 := B.bound_lt (rng := st.R) (p := x) j4
    have hc2 := ho.cut (B.bound st.R x) bit c1 c2
    have fin : ∀ (e' : R.E) (st' : R.S) (w : World), R.Rep e' st' → e'.rng < 4294967296 → st'.k = st.k → st'.widen = st.cut (B.bound st.R x) bit → Sat E w (EncE b e' :: PSet p l :: M) →
        pN Tryz.prog (oCall 250 [.pointer (some ⟨b, 0, none⟩)]) w fun _ w29 => pN Tryz.prog (oCall 182 [.pointer (some ⟨p, 0, none⟩), .int .i64 i, .int .i64 bit]) w29 fun x54 w30 => Q x54 w30 := by
      intro e' st' w h1 h2 h3 h4 hS
      refine pc_rcenc_Encoder_widen (widen_ok hS h1 h2 (by omega) fun e'' w hr' hS => ?_)
      rw [h4] at hr'
      refine pc_prob_Set_Turn (Turn_ok (hS.fd (PSet p)) i bit fun w hS => ?_)
      simp only [if_pos h] at hS ⊢
      have e : l.getD i.toNat 0 = x := by rw [List.getD_eq_getElem?_getD, hx]; rfl
      rw [e] at hS
      exact hQ _ (Enc.shut (hS.fd (EncE b)) hr' hc2)
    repeat' (first | (refine pN_neq_s ?_ ?_ <;> intro hc <;> try (exfalso; first | omega | exact hc rfl | exact hc (by assumption) | exact absurd hc (by assumption))) | refine pIf_f ?_ | refine pN_l hS (by first | rfl | assumption) ?_ | refine pN_v (hk := ?_) | fail)
    refine pc_prob_Bound (Bound_ok _ x (by omega) (by omega) ?_)
    rw [j1]
    rw [j1] at hS
    repeat' (first | (refine pN_eql_s ?_ ?_ <;> intro hc <;> try (exfalso; first | omega | exact hc rfl | exact hc (by assumption) | exact absurd hc (by assumption))) | refine pIf_t ?_ | refine pIf_f ?_ | refine pN_l hS (by first | rfl | assumption) ?_ | (refine pN_s hS (by first | exact Nat.le_of_ble_eq_true rfl | assumption) (by rfl) ?_; clear hS; intro w hS; try simp only [List.set_cons_zero, List.set_cons_succ] at hS) | refine pN_v (hk := ?_) | refine ⟨_, ?_, fun _ _ h => h⟩ | fail)
    · refine fin { e with rng := B.bound st.R x } ⟨st.N, B.bound st.R x, st.k⟩ _ ⟨⟨j2, c1, by simp only; omega, fun hh => ?_⟩, hr.val, rfl, hr.len⟩ (by simp only; omega) rfl (by rw [R.S.cut, if_pos hc]) (EncE.shut (b := b) (s := s) hS _ rfl rfl)
      have := hr.inv.held hh
      simp only
      omega
    · refine fin { e with low := e.low + B.bound st.R x, rng := st.R - B.bound st.R x } ⟨st.N + B.bound st.R x, st.R - B.bound st.R x, st.k⟩ _ ⟨⟨by simp only; omega, by simp only; omega, by simp only; omega, fun hh => ?_⟩, ?_, rfl, hr.len⟩ (by simp only; omega) rfl (by rw [R.S.cut, if_neg hc]) (EncE.shut (b := b) (s := s) hS _ rfl rfl)
      · have := hr.inv.held hh
        simp only
        omega
      · have := hr.val
        simp only [R.E.V] at this ⊢
        omega
  · simp only [if_neg h] at hQ ⊢
    repeat' (first | (refine pN_neq_s ?_ ?_ <;> intro hc <;> try (exfalso; first | omega | exact hc rfl | exact hc (by assumption) | exact absurd hc (by assumption))) | refine pIf_t ?_ | refine pN_v (hk := ?_) | fail)
    exact hQ _ hS.to

theorem Direct_ok (hS : Sat E w (Enc b st :: M)) (hk : st.k + 50 ≤ 140737488355328) (v n : Int) (v0 : 0 ≤ v) (v1 : v < 4294967296)
    (hQ : ∀ w, Sat E w (Enc b (if 0 ≤ n ∧ n ≤ 32 then st.direct v n.toNat else st) :: M) → Q (.int .i64 (if 0 ≤ n ∧ n ≤ 32 then 0 else 7)) w) :
    Calls Tryz.prog 247 #[.pointer (some ⟨b, 0, none⟩), .int .u32 v, .int .i64 n] w (retP Q) := by
  refine rcenc_Encoder_Direct.calls ?_
  unfold rcenc_Encoder_Direct.F
  by_cases h : 0 ≤ n ∧ n ≤ 32
  · simp only [if_pos h] at hQ
    repeat' (first | ((first | refine pN_lss_s ?_ ?_ | refine pN_gtr_s ?_ ?_) <;> intro hc <;> try (exfalso; omega)) | refine pIf_f ?_ | refine pGd_go (by rfl) ?_ | refine pN_v (hk := ?_) | fail)
    refine ⟨fun x w => ∃ (m : Nat) (st' : R.S), x = .int .i64 ((m : Int) - 1) ∧ m ≤ n.toNat ∧ st'.direct v m = st.direct v n.toNat ∧ st'.k + m ≤ st.k + n.toNat ∧ Sat E w (Enc b st' :: M), fun x _ => (RowKit.intOf x + 1).toNat,
      ⟨n.toNat, st, by rw [Int.toNat_of_nonneg h.1], Nat.le_refl _, rfl, Nat.le_refl _, hS⟩, ?_⟩
    clear hS
    rintro _ _ w ⟨m, st', rfl, hm, hd, hk', hS⟩
    obtain ⟨e, hr, ho, hS⟩ := Enc.opn hS
    obtain ⟨s, hS⟩ := EncE.opn hS
    have j1 := hr.rng
    have j2 := hr.inv.l0
    have j3 := hr.inv.sum
    have j4 := ho.r0
    have j5 := ho.r1
    rw [j1] at hS
    repeat' (first | (refine pN_geq_s ?_ ?_ <;> intro hc <;> try (exfalso; omega)) | refine pIf_t ?_ | refine pIf_f ?_ | refine pN_l hS (by first | rfl | assumption) ?_ | (refine pN_s hS (by first | exact Nat.le_of_ble_eq_true rfl | assumption) (by rfl) ?_; clear hS; intro w hS; try simp only [List.set_cons_zero, List.set_cons_succ] at hS) | refine pN_v (hk := ?_) | refine ⟨_, ?_, fun _ _ h => h⟩ | fail)
    · obtain ⟨j, rfl⟩ : ∃ j, m = j + 1 := ⟨m - 1, by omega⟩
      refine pN_shr_k j (by omega) (by show _ ≤ 32; omega) ?_
      have hkk := R.one_k ho (v / 2 ^ j % 2)
      have hoo := ho.one (v / 2 ^ j % 2)
      repeat' (first | (refine pN_eql_s ?_ ?_ <;> intro hc <;> try (exfalso; first | omega | exact hc rfl | exact hc (by assumption) | exact absurd hc (by assumption))) | refine pIf_t ?_ | refine pIf_f ?_ | refine pL_l hS (by first | rfl | assumption) ?_ | (refine pN_s hS (by first | exact Nat.le_of_ble_eq_true rfl | assumption) (by rfl) ?_; clear hS; intro w hS; try simp only [List.set_cons_zero, List.set_cons_succ] at hS) | (refine pDr_go hS ?_; clear hS; intro w hS) | refine ⟨trivial, ?_⟩ | refine pN_v (hk := ?_) | refine pA_v (hk := ?_) | refine pL_v (hk := ?_) | fail)
      · have hS := EncE.shut (b := b) (s := s) hS { e with low := e.low + st'.R / 2, rng := st'.R / 2 } rfl rfl
        refine pc_rcenc_Encoder_widen (widen_ok (st := ⟨st'.N + st'.R / 2, st'.R / 2, st'.k⟩) hS ⟨⟨by simp only; omega, by simp only; omega, by simp only; omega, fun hh => ?_⟩, ?_, rfl, hr.len⟩ (by simp only; omega) (by simp only; omega) fun e' w hr' hS => ?_)
        · have := hr.inv.held hh
          simp only
          omega
        · have := hr.val
          simp only [R.E.V] at this ⊢
          omega
        · have e1 : R.S.widen ⟨st'.N + st'.R / 2, st'.R / 2, st'.k⟩ = st'.one (v / 2 ^ j % 2) := by rw [R.S.one, if_pos hc]
          rw [e1] at hr'
          repeat' (first | refine pN_v (hk := ?_) | fail)
          exact ⟨⟨j, _, by congr 1; omega, by omega, hd, by omega, Enc.shut hS hr' hoo⟩, by simp [RowKit.intOf] <;> omega⟩
      · have hS := EncE.shut (b := b) (s := s) hS { e with rng := st'.R / 2 } rfl rfl
        refine pc_rcenc_Encoder_widen (widen_ok (st := ⟨st'.N, st'.R / 2, st'.k⟩) hS ⟨⟨j2, by simp only; omega, by simp only; omega, fun hh => ?_⟩, hr.val, rfl, hr.len⟩ (by simp only; omega) (by simp only; omega) fun e' w hr' hS => ?_)
        · have := hr.inv.held hh
          simp only
          omega
        · have e1 : R.S.widen ⟨st'.N, st'.R / 2, st'.k⟩ = st'.one (v / 2 ^ j % 2) := by rw [R.S.one, if_neg hc]
          rw [e1] at hr'
          repeat' (first | refine pN_v (hk := ?_) | fail)
          exact ⟨⟨j, _, by congr 1; omega, by omega, hd, by omega, Enc.shut hS hr' hoo⟩, by simp [RowKit.intOf] <;> omega⟩
    · obtain rfl : m = 0 := by omega
      rw [← hd] at hQ
      refine hQ _ (Enc.shut (EncE.shut (b := b) (s := s) hS e ?_ rfl) hr ho)
      rw [j1]
  · simp only [if_neg h] at hQ
    repeat' (first | ((first | refine pN_lss_s ?_ ?_ | refine pN_gtr_s ?_ ?_) <;> intro hc <;> try (exfalso; omega)) | refine pIf_t ?_ | refine pGd_go (by rfl) ?_ | refine pGd_no (by rfl) ?_ | refine pN_v (hk := ?_) | fail)
    all_goals exact hQ _ hS

theorem Bit_in {p : Nat} {l : List Int} (hS : Sat E w (Enc b st :: PSet p l :: M)) (hf : B.Fine l) (hk : st.k + 10 ≤ 140737488355328) (i bit : Int) {x : Int} (h0 : 0 ≤ i) (hx : l[i.toNat]? = some x)
    (hQ : ∀ w, Sat E w (Enc b (st.cut (B.bound st.R x) bit) :: PSet p (l.set i.toNat (B.next x bit)) :: M) → Q (.int .i64 0) w) :
    Calls Tryz.prog 246 #[.pointer (some ⟨b, 0, none⟩), .pointer (some ⟨p, 0, none⟩), .int .i64 i, .int .i64 bit] w (retP Q) := by
  have hlt : i.toNat < l.length := (List.getElem?_eq_some_iff.1 hx).1
  refine Bit_ok hS hf hk i bit fun w hS => ?_
  have e : l.getD i.toNat 0 = x := by rw [List.getD_eq_getElem?_getD, hx]; rfl
  rw [if_pos (by omega), if_pos (by omega), e] at hS
  rw [if_pos (by omega)]
  exact hQ w hS
theorem Direct_in (hS : Sat E w (Enc b st :: M)) (hk : st.k + 50 ≤ 140737488355328) (v : Int) (n : Nat) (v0 : 0 ≤ v) (v1 : v < 4294967296) (hn : n ≤ 32)
    (hQ : ∀ w, Sat E w (Enc b (st.direct v n) :: M) → Q (.int .i64 0) w) :
    Calls Tryz.prog 247 #[.pointer (some ⟨b, 0, none⟩), .int .u32 v, .int .i64 n] w (retP Q) := by
  refine Direct_ok hS hk v n v0 v1 fun w hS => ?_
  rw [if_pos (by omega), Int.toNat_natCast] at hS
  rw [if_pos (by omega)]
  exact hQ w hS
theorem Size_ok (hS : Sat E w (Enc b st :: M)) (hk : st.k ≤ 140737488355328) (hQ : ∀ w, Sat E w (Enc b st :: M) → Q (.int .i64 (st.k + 5 : Nat)) w) :
    Calls Tryz.prog 86 #[.pointer (some ⟨b, 0, none⟩)] w (retP Q) := by
  refine rcenc_Encoder_Size.calls ?_
  unfold rcenc_Encoder_Size.F
  obtain ⟨e, hr, ho, hS⟩ := Enc.opn hS
  obtain ⟨s, hS⟩ := EncE.opn hS
  have j := hr.len
  repeat' (first | refine pL_l hS (by first | rfl | assumption) ?_ | (refine pDr_go hS ?_; clear hS; intro w hS) | refine pA_v (hk := ?_) | fail)
  have e1 : ((e.out.length : Int) + 1 + (e.wait : Int) + 4) = ((st.k + 5 : Nat) : Int) := by omega
  rw [e1]
  exact hQ _ (Enc.shut (EncE.shut (b := b) (s := s) hS e rfl rfl) hr ho)

theorem ForkE_ok (hS : Sat E w (EncE b e :: M)) (hk : e.out.length + e.wait + 8 ≤ 140737488355328) (hQ : ∀ c w, Sat E w (EncE c e :: EncE b e :: M) → Q (.pointer (some ⟨c, 0, none⟩)) w) :
    Calls Tryz.prog 82 #[.pointer (some ⟨b, 0, none⟩)] w (retP Q) := by
  refine rcenc_Encoder_Fork.calls ?_
  unfold rcenc_Encoder_Fork.F
  obtain ⟨s0, hS⟩ := EncE.opn hS
  repeat' (first | refine pL_l hS (by first | rfl | assumption) ?_ | refine pN_la hS (by rfl) ?_ | (refine pN_s hS (by first | exact Nat.le_of_ble_eq_true rfl | assumption) (by rfl) ?_; clear hS; intro w hS; try simp only [List.set_cons_zero, List.set_cons_succ] at hS) | (refine pN_sa hS (by rfl) (by rfl) (by rfl) ?_; clear hS; intro w hS; try dsimp only at hS) | (refine pDr_go hS ?_; clear hS; intro w hS) | (refine pN_nz hS ?_; clear hS; intro a w hS) | refine ⟨trivial, ?_⟩ | refine ⟨⟨(by first | exact run_l hS (by first | rfl | assumption) | exact run_st hS (by first | rfl | omega) | exact run_ld1 ha hS | exact fun _ => run_l hS (by rfl) | exact fun _ => run_st hS (by first | rfl | omega) | exact fun _ => run_ld1 ha hS | exact fun h => Bool.noConfusion h), trivial⟩, ?_⟩ | (refine pN_app hS (by first | rfl | omega | simpa only [go_sem] using True.intro | (simp only [go_sem]; omega)) (by first | rfl | omega | simpa only [go_sem] using True.intro | (simp only [go_sem]; omega)) (by first | omega | (simp only [go_sem]; omega)) ?_; clear hS; intro s w hS) | (refine pN_mk0 hS _ (by first | rfl | (exact (Int.toNat_of_nonneg (by omega)).symm)) (by first | omega | (simp only [go_sem]; omega)) ?_; clear hS; intro s w hS) | refine pN_v (hk := ?_) | refine pA_v (hk := ?_) | fail)
  exact hQ _ _ (EncE.shut (b := a) (s := s) (EncE.shut (b := b) (s := s0) hS e rfl rfl) e rfl rfl)

theorem Bytes_ok (hS : Sat E w (Enc b st :: M)) (hk : st.k + 18 ≤ 140737488355328) (hQ : ∀ s w, Sat E w (rows cd_uint8 s st.bytes :: Enc b st :: M) → Q (.slice s.a st.bytes.length s.c) w) :
    Calls Tryz.prog 76 #[.pointer (some ⟨b, 0, none⟩)] w (retP Q) := by
  refine rcenc_Encoder_Bytes.calls ?_
  unfold rcenc_Encoder_Bytes.F
  obtain ⟨e, hr, ho, hS⟩ := Enc.opn hS
  have j := hr.len
  have j1 := hr.rng
  have j2 := ho.r1
  refine pc_rcenc_Encoder_Fork (ForkE_ok hS (by omega) fun c w hS => ?_)
  have hS := Enc.shut (hS.fd (EncE b)) hr ho
  refine ⟨fun x w => ∃ (m : Nat) (e' : R.E) (st' : R.S), x = .int .i64 m ∧ m ≤ 5 ∧ R.Rep e' st' ∧ e'.rng < 4294967296 ∧ st'.k = st.k + m ∧ e.shifts m = e' ∧ Sat E w (EncE c e' :: Enc b st :: M), fun x _ => 5 - (RowKit.intOf x).toNat,
    ⟨0, e, st, rfl, by omega, hr, by omega, rfl, rfl, hS.to⟩, ?_⟩
  clear hS
  rintro _ _ w ⟨m, e', st', rfl, hm, hr', h1, h2, h3, hS⟩
  have k1 := hr'.inv.l0
  have k2 := hr'.inv.sum
  have k3 := hr'.inv.r0
  have k4 := hr'.len
  repeat' (first | (refine pN_lss_s ?_ ?_ <;> intro hc <;> try (exfalso; omega)) | refine pIf_t ?_ | refine pIf_f ?_ | refine pN_v (hk := ?_) | fail)
  · refine pc_rcenc_Encoder_shift (shift_ok hS k1 (by omega) (by omega) fun w hS => ?_)
    repeat' (first | refine pN_v (hk := ?_) | fail)
    refine ⟨⟨m + 1, _, _, rfl, by omega, hr'.shift0 h1, by rw [R.shift_rng]; exact h1, by simp only; omega, ?_, hS⟩, by simp [RowKit.intOf] <;> omega⟩
    rw [R.E.shifts, h3]
  · obtain rfl : m = 5 := by omega
    have hb := (hr.bytes (by omega)).1
    have e1 : e.shifts 5 = e.shift.shift.shift.shift.shift := rfl
    rw [← e1, h3] at hb
    obtain ⟨s, hS⟩ := EncE.opn hS
    repeat' (first | refine pN_l hS (by first | rfl | assumption) ?_ | fail)
    rw [hb] at hS ⊢
    exact hQ _ _ hS.to
end

end Go.Proofs.YtbgnnjfpiblkmaaGreatDoor

namespace Go.Proofs.YtbgnnjfpiblkmaaGreatDoor
open Go
attribute [local irreducible] oMv oV oU oCall oCallV oBi oBin oUn oLoad oStore oNil oFld oField oIdx oIndex oPick oAlloc oBox oBuild oBs oConv oMk oSl oExt oFn oIface oMap oLook oMapUp oRange oNext oEntry oInv oAssert oPanic oRes pN pA pL pDr pIf gA pGd

section
variable {E w : World} {M : List HA} {Q : Value → World → Prop} {b p : Nat} {s : R.S} {l : List Int}

theorem order_ok (back : Bool) (n k : Nat) (hk : k < n) (hn : n ≤ 16) (hQ : Q (.int .i64 (if back then k else n - 1 - k : Nat)) w) : Calls Tryz.prog 222 #[.bool back, .int .i64 n, .int .i64 k] w (retP Q) := by
  refine tree_order.calls ?_
  unfold tree_order.F
  cases back
  · repeat' (first | refine pIf_f ?_ | refine pN_v (hk := ?_) | fail)
    have e : (n : Int) - 1 - k = ((n - 1 - k : Nat) : Int) := by omega
    rw [e]; exact hQ
  · repeat' (first | refine pIf_t ?_ | fail)
    exact hQ

theorem there_ok (hS : Sat E w (PSet p l :: M)) (at_ n : Int) (hQ : ∀ w, Sat E w (PSet p l :: M) → Q (.bool (decide (R.There l.length at_ n))) w) : Calls Tryz.prog 219 #[.pointer (some ⟨p, 0, none⟩), .int .i64 at_, .int .i64 n] w (retP Q) := by
  refine tree_there.calls ?_
  unfold tree_there.F
  obtain ⟨sl, hS'⟩ := PSet.opn hS
  have hlen := rows_len (C := cd_int) sl hS'
  have shl : ∀ (w : World) (J : Value → Prop), 0 ≤ n → n ≤ 16 → J (.int .i64 (2 ^ n.toNat)) → pA Tryz.prog (oBin .shl 3 (.const (.int .i64 1)) (.tmp 24) (.int .i64 1) (.int .i64 n)) J := by
    intro w J h0 h1 h
    refine pA_shl_k n.toNat (Int.toNat_of_nonneg h0).symm (by show _ ≤ 64; omega) ?_
    have e : (1 : Int) * 2 ^ n.toNat = 2 ^ n.toNat := Int.one_mul _
    have h2 : (2 : Int) ^ n.toNat ≤ 2 ^ 16 := R.two_le (by omega)
    have h3 : (0 : Int) < 2 ^ n.toNat := Int.pow_pos (by omega)
    have e2 : (2 : Int) ^ 16 = 65536 := by decide
    rw [e, wrap_i64 (by omega)]
    exact h
  have fin : ∀ w b, (b = true ↔ R.There l.length at_ n) → Sat E w (PSet p l :: M) → Q (.bool b) w := by
    intro w b hb hS
    have := hQ w hS
    by_cases h : R.There l.length at_ n
    · rw [decide_eq_true h] at this
      rw [hb.2 h]; exact this
    · rw [decide_eq_false h] at this
      have : b = false := by
        cases b
        · rfl
        · exact absurd (hb.1 rfl) h
      rw [this]; assumption
  repeat' (first | (refine pc_prob_Set_Len (Len_ok (hS.fd (PSet p)) ?_); clear hS; intro w hS) | refine shl w _ (by omega) (by omega) ?_ | ((first | refine pA_leq_s ?_ ?_ | refine pA_geq_s ?_ ?_) <;> intro hc <;> try (exfalso; omega)) | refine gA_go (by rfl) ?_ | refine gA_no (by rfl) ?_ | refine pGd_go (by rfl) ?_ | refine pGd_no (by rfl) ?_ | (refine pDr_go hS ?_; clear hS; intro w hS) | refine ⟨trivial, ?_⟩ | refine pA_v (hk := ?_) | fail)
  all_goals
    refine fin _ _ ?_ hS
    unfold R.There
    first
      | (refine ⟨fun _ => (by omega), fun _ => rfl⟩)
      | (refine ⟨fun h => (by cases h), fun h => (by omega)⟩)

theorem holds_ok (v n : Int) (h0 : 0 ≤ n) (h1 : n ≤ 16) (hQ : Q (.bool (decide (R.Holds v n))) w) : Calls Tryz.prog 251 #[.int .i64 v, .int .i64 n] w (retP Q) := by
  refine tree_holds.calls ?_
  unfold tree_holds.F
  have shl : ∀ (w : World) (K : Value → World → Prop), K (.int .i64 (2 ^ n.toNat)) w → pN Tryz.prog (oBin .shl 3 (.const (.int .i64 1)) (.tmp 9) (.int .i64 1) (.int .i64 n)) w K := by
    intro w K h
    refine pN_shl_k n.toNat (Int.toNat_of_nonneg h0).symm (by show _ ≤ 64; omega) ?_
    have e : (1 : Int) * 2 ^ n.toNat = 2 ^ n.toNat := Int.one_mul _
    have h2 : (2 : Int) ^ n.toNat ≤ 2 ^ 16 := R.two_le (by omega)
    have h3 : (0 : Int) < 2 ^ n.toNat := Int.pow_pos (by omega)
    have e2 : (2 : Int) ^ 16 = 65536 := by decide
    rw [e, wrap_i64 (by omega)]
    exact h
  have fin : ∀ b, (b = true ↔ R.Holds v n) → Q (.bool b) w := by
    intro b hb
    by_cases h : R.Holds v n
    · rw [decide_eq_true h] at hQ
      rw [hb.2 h]; exact hQ
    · rw [decide_eq_false h] at hQ
      have : b = false := by
        cases b
        · rfl
        · exact absurd (hb.1 rfl) h
      rw [this]; exact hQ
  repeat' (first | refine shl w _ ?_ | ((first | refine pN_lss_s ?_ ?_ | refine pN_geq_s ?_ ?_) <;> intro hc <;> try (exfalso; omega)) | refine pGd_go (by rfl) ?_ | refine pGd_no (by rfl) ?_ | refine pN_v (hk := ?_) | fail)
  all_goals
    refine fin _ ?_
    unfold R.Holds
    first
      | (refine ⟨fun _ => (by omega), fun _ => rfl⟩)
      | (refine ⟨fun h => (by cases h), fun h => (by omega)⟩)

theorem down_ok (at_ : Int) (n : Nat) (g : Value) (bs : Nat → Int) (hb : ∀ k, 0 ≤ bs k ∧ bs k ≤ 1) (hn : n ≤ 16) (h0 : 0 ≤ at_) (h1 : at_ ≤ 1099511627776) (Inv : Nat → World → Prop)
    (hI : Inv 0 w) (step : ∀ k w (K : Value → World → Prop), k < n → Inv k w → (∀ w, Inv (k + 1) w → K (.tuple #[.int .i64 (bs k), .int .i64 0]) w) → pN Tryz.prog (oCallV g [.int .i64 (at_ + R.node bs k), .int .i64 k]) w K)
    (hQ : ∀ w, Inv n w → Q (.int .i64 0) w) : Calls Tryz.prog 220 #[.int .i64 at_, .int .i64 n, g] w (retP Q) := by
  refine tree_down.calls ?_
  unfold tree_down.F
  refine ⟨fun m v w => ∃ k : Nat, m = .int .i64 (R.node bs k) ∧ v = .int .i64 k ∧ k ≤ n ∧ Inv k w, fun _ v _ => n - (RowKit.intOf v).toNat, ⟨0, rfl, rfl, Nat.zero_le _, hI⟩, ?_⟩
  rintro _ _ _ w1 ⟨k, rfl, rfl, hk, hI⟩
  have hm := R.node_lo hb k
  have h2 : (2 : Int) ^ (k + 1) ≤ 2 ^ 17 := R.two_le (by omega)
  have h3 : (0 : Int) < 2 ^ k := Int.pow_pos (by omega)
  have e2 : (2 : Int) ^ 17 = 131072 := by decide
  have hbk := hb k
  repeat' (first | (refine pN_lss_s ?_ ?_ <;> intro hc <;> try (exfalso; omega)) | refine pIf_t ?_ | refine pIf_f ?_ | refine pN_v (hk := ?_) | fail)
  · refine step k _ _ (by omega) hI fun w hI => ?_
    repeat' (first | (refine pN_neq_s ?_ ?_ <;> intro hc <;> try (exfalso; first | omega | exact hc rfl | exact hc (by assumption) | exact absurd hc (by assumption))) | refine pIf_f ?_ | refine pN_v (hk := ?_) | fail)
    exact ⟨⟨k + 1, rfl, rfl, by omega, hI⟩, by simp [RowKit.intOf] <;> omega⟩
  · obtain rfl : k = n := by omega
    exact hQ _ hI

theorem put_c1_ok {c1 c2 c3 c4 c5 : Nat} {v : Int} {back : Bool} {n k : Nat} (place : Int)
    (hS : Sat E w (Enc b s :: PSet p l :: cel c1 ⟨3, [.int .i64 v]⟩ :: cel c2 ⟨4, [.bool back]⟩ :: cel c3 ⟨3, [.int .i64 n]⟩ :: cel c4 ⟨125, [.pointer (some ⟨b, 0, none⟩)]⟩ :: cel c5 ⟨137, [.pointer (some ⟨p, 0, none⟩)]⟩ :: M))
    (hf : B.Fine l) (hs : s.k + 10 ≤ 140737488355328) (hk : k < n) (hn : n ≤ 16) (p0 : 0 ≤ place) (p1 : place < l.length)
    (hQ : ∀ w, Sat E w (Enc b (R.TS.bit ⟨s, l⟩ place (R.bitAt back n v k)).s :: PSet p (R.TS.bit ⟨s, l⟩ place (R.bitAt back n v k)).l :: cel c1 ⟨3, [.int .i64 v]⟩ :: cel c2 ⟨4, [.bool back]⟩ :: cel c3 ⟨3, [.int .i64 n]⟩ :: cel c4 ⟨125, [.pointer (some ⟨b, 0, none⟩)]⟩ :: cel c5 ⟨137, [.pointer (some ⟨p, 0, none⟩)]⟩ :: M) → Q (.tuple #[.int .i64 (R.bitAt back n v k), .int .i64 0]) w) :
    Calls Tryz.prog 252 #[.int .i64 place, .int .i64 k, .pointer (some ⟨c1, 0, none⟩), .pointer (some ⟨c2, 0, none⟩), .pointer (some ⟨c3, 0, none⟩), .pointer (some ⟨c4, 0, none⟩), .pointer (some ⟨c5, 0, none⟩)] w (retP Q) := by
  simp only [R.TS.bit, R.bitAt] at hQ
  refine tree_put_c1.calls ?_
  unfold tree_put_c1.F
  have hx : l[place.toNat]? = some (l.getD place.toNat 0) := by
    rw [List.getD_eq_getElem?_getD, List.getElem?_eq_getElem (show place.toNat < l.length by omega)]; rfl
  have hj : (if back then k else n - 1 - k) ≤ 64 := by split <;> omega
  repeat' (first | refine pc_tree_order (order_ok back n k hk hn ?_) | refine pA_shr_k _ rfl hj ?_ | (refine pc_rcenc_Encoder_Bit (Bit_in (hS.fd2 (Enc b) (PSet p)) hf hs _ _ p0 hx ?_); clear hS; intro w hS) | refine pN_l hS (by first | rfl | assumption) ?_ | refine pL_l hS (by first | rfl | assumption) ?_ | (refine pDr_go hS ?_; clear hS; intro w hS) | refine ⟨⟨(by first | exact run_l hS (by first | rfl | assumption) | exact run_st hS (by first | rfl | omega) | exact run_ld1 ha hS | exact fun _ => run_l hS (by rfl) | exact fun _ => run_st hS (by first | rfl | omega) | exact fun _ => run_ld1 ha hS | exact fun h => Bool.noConfusion h), trivial⟩, ?_⟩ | refine pA_v (hk := ?_) | fail)
  exact hQ _ hS.to

theorem put_ok (hS : Sat E w (Enc b s :: PSet p l :: M)) (ho : R.Ok s) (hf : B.Fine l) (hs : s.k + 100 ≤ 140737488355328) (at_ n v : Int) (back : Bool) (hl : l.length ≤ 1048576)
    (hQ : ∀ w, Sat E w (Enc b (if R.There l.length at_ n ∧ R.Holds v n then R.TS.put ⟨s, l⟩ at_ (R.bitAt back n.toNat v) n.toNat else ⟨s, l⟩).s :: PSet p (if R.There l.length at_ n ∧ R.Holds v n then R.TS.put ⟨s, l⟩ at_ (R.bitAt back n.toNat v) n.toNat else ⟨s, l⟩).l :: M) →
      Q (.int .i64 (if R.There l.length at_ n ∧ R.Holds v n then 0 else 7)) w) :
    Calls Tryz.prog 249 #[.pointer (some ⟨b, 0, none⟩), .pointer (some ⟨p, 0, none⟩), .int .i64 at_, .int .i64 n, .int .i64 v, .bool back] w (retP Q) := by
  refine tree_put.calls ?_
  unfold tree_put.F
  by_cases ht : R.There l.length at_ n
  · by_cases hh : R.Holds v n
    · have hc : R.There l.length at_ n ∧ R.Holds v n := ⟨ht, hh⟩
      simp only [if_pos hc] at hQ
      have ht' := ht
      obtain ⟨n0, n1, a0, a1, a2⟩ := ht'
      refine pN_bx hS (by rfl) fun c4 w hS => ?_
      refine pN_bx hS (by rfl) fun c5 w hS => ?_
      refine pN_bx hS (by rfl) fun c3 w hS => ?_
      refine pN_bx hS (by rfl) fun c1 w hS => ?_
      refine pN_bx hS (by rfl) fun c2 w hS => ?_
      have t1 : decide (R.There l.length at_ n) = true := decide_eq_true ht
      have t2 : decide (R.Holds v n) = true := decide_eq_true hh
      repeat' (first | (refine pc_tree_there (there_ok (hS.fd (PSet p)) _ _ ?_); rw [t1]; clear hS; intro w hS) | (refine pc_tree_holds (holds_ok _ _ n0 n1 ?_); rw [t2]) | refine pIf_f ?_ | refine pGd_go (by rfl) ?_ | refine pN_l hS (by first | rfl | assumption) ?_ | refine pN_fn ?_ | refine pN_v (hk := ?_) | fail)
      obtain ⟨m, rfl⟩ : ∃ m : Nat, n = m := ⟨n.toNat, by omega⟩
      rw [Int.toNat_natCast] at hQ
      have hb := R.bitAt_01 back m v
      have oa : R.TS.Ok ⟨s, l⟩ := ⟨ho, hf⟩
      refine pc_tree_down (down_ok at_ m _ (R.bitAt back m v) hb (by omega) a0 (by omega)
        (fun k w => Sat E w (Enc b (R.TS.put ⟨s, l⟩ at_ (R.bitAt back m v) k).s :: PSet p (R.TS.put ⟨s, l⟩ at_ (R.bitAt back m v) k).l :: cel c1 ⟨3, [.int .i64 v]⟩ :: cel c2 ⟨4, [.bool back]⟩ :: cel c3 ⟨3, [.int .i64 m]⟩ :: cel c4 ⟨125, [.pointer (some ⟨b, 0, none⟩)]⟩ :: cel c5 ⟨137, [.pointer (some ⟨p, 0, none⟩)]⟩ :: M)) (by simp only [R.TS.put, R.costs]; exact hS.to) ?_ ?_)
      · intro k w K hk hS hK
        have ⟨o1, o2⟩ := oa.put ht hb k (by rw [Int.toNat_natCast]; omega)
        have hp := ht.place hb (k := k) (by rw [Int.toNat_natCast]; omega)
        have hlen := R.TS.put_len ⟨s, l⟩ at_ (R.bitAt back m v) k
        simp only at o2 hlen
        refine pv_tree_put_c1 (put_c1_ok _ hS o1.f (by omega) hk (by omega) hp.1 (by omega) fun w hS => hK w hS)
      · intro w hS
        skip
        exact hQ _ hS.to
    · have hc : ¬ (R.There l.length at_ n ∧ R.Holds v n) := fun h => hh h.2
      simp only [if_neg hc] at hQ
      have ht' := ht
      obtain ⟨n0, n1, a0, a1, a2⟩ := ht'
      have t1 : decide (R.There l.length at_ n) = true := decide_eq_true ht
      have t2 : decide (R.Holds v n) = false := decide_eq_false hh
      repeat' (first | (refine pc_tree_there (there_ok (hS.fd (PSet p)) _ _ ?_); rw [t1]; clear hS; intro w hS) | (refine pc_tree_holds (holds_ok _ _ n0 n1 ?_); rw [t2]) | refine pIf_t ?_ | refine pGd_go (by rfl) ?_ | refine pN_l hS (by first | rfl | assumption) ?_ | (refine pN_bx hS (by rfl) ?_; clear hS; intro a w hS) | refine pN_v (hk := ?_) | fail)
      exact hQ _ hS.to
  · have hc : ¬ (R.There l.length at_ n ∧ R.Holds v n) := fun h => ht h.1
    simp only [if_neg hc] at hQ
    have t1 : decide (R.There l.length at_ n) = false := decide_eq_false ht
    repeat' (first | (refine pc_tree_there (there_ok (hS.fd (PSet p)) _ _ ?_); rw [t1]; clear hS; intro w hS) | refine pIf_t ?_ | refine pGd_no (by rfl) ?_ | refine pN_l hS (by first | rfl | assumption) ?_ | (refine pN_bx hS (by rfl) ?_; clear hS; intro a w hS) | refine pN_v (hk := ?_) | fail)
    exact hQ _ hS.to

theorem cost_c1_ok {c1 c2 c3 c4 c5 : Nat} {v sum : Int} {back : Bool} {n k : Nat} (place : Int)
    (hS : Sat E w (PSet p l :: cel c5 ⟨3, [.int .i64 sum]⟩ :: cel c1 ⟨3, [.int .i64 v]⟩ :: cel c2 ⟨4, [.bool back]⟩ :: cel c3 ⟨3, [.int .i64 n]⟩ :: cel c4 ⟨137, [.pointer (some ⟨p, 0, none⟩)]⟩ :: M))
    (hk : k < n) (hn : n ≤ 16) (p0 : 0 ≤ place) (p1 : place < l.length) (s0 : -1000000 ≤ sum) (s1 : sum ≤ 1000000)
    (hQ : ∀ w, Sat E w (PSet p l :: cel c5 ⟨3, [.int .i64 (sum + B.cost (l.getD place.toNat 0) (R.bitAt back n v k))]⟩ :: cel c1 ⟨3, [.int .i64 v]⟩ :: cel c2 ⟨4, [.bool back]⟩ :: cel c3 ⟨3, [.int .i64 n]⟩ :: cel c4 ⟨137, [.pointer (some ⟨p, 0, none⟩)]⟩ :: M) → Q (.tuple #[.int .i64 (R.bitAt back n v k), .int .i64 0]) w) :
    Calls Tryz.prog 262 #[.int .i64 place, .int .i64 k, .pointer (some ⟨c1, 0, none⟩), .pointer (some ⟨c2, 0, none⟩), .pointer (some ⟨c3, 0, none⟩), .pointer (some ⟨c4, 0, none⟩), .pointer (some ⟨c5, 0, none⟩)] w (retP Q) := by
  simp only [R.bitAt] at hQ
  refine tree_cost_c1.calls ?_
  unfold tree_cost_c1.F
  have hx : l[place.toNat]? = some (l.getD place.toNat 0) := by
    rw [List.getD_eq_getElem?_getD, List.getElem?_eq_getElem (show place.toNat < l.length by omega)]; rfl
  have hj : (if back then k else n - 1 - k) ≤ 64 := by split <;> omega
  have hc := B.cost_small (l.getD place.toNat 0) (v / 2 ^ (if back then k else n - 1 - k) % 2)
  repeat' (first | refine pc_tree_order (order_ok back n k hk hn ?_) | refine pA_shr_k _ rfl hj ?_ | (refine pc_prob_Set_At (At_in (hS.fd (PSet p)) _ p0 hx ?_); clear hS; intro w hS) | refine pc_prob_Cost (Cost_ok _ _ ?_) | refine pN_l hS (by first | rfl | assumption) ?_ | refine pL_l hS (by first | rfl | assumption) ?_ | (refine pN_s hS (by first | exact Nat.le_of_ble_eq_true rfl | assumption) (by rfl) ?_; clear hS; intro w hS; try simp only [List.set_cons_zero, List.set_cons_succ] at hS) | (refine pDr_go hS ?_; clear hS; intro w hS) | refine ⟨trivial, ?_⟩ | refine ⟨⟨(by first | exact run_l hS (by first | rfl | assumption) | exact run_st hS (by first | rfl | omega) | exact run_ld1 ha hS | exact fun _ => run_l hS (by rfl) | exact fun _ => run_st hS (by first | rfl | omega) | exact fun _ => run_ld1 ha hS | exact fun h => Bool.noConfusion h), trivial⟩, ?_⟩ | refine pN_v (hk := ?_) | refine pA_v (hk := ?_) | fail)
  exact hQ _ hS.to

theorem cost_ok (hS : Sat E w (PSet p l :: M)) (at_ n v : Int) (back : Bool) (hl : l.length ≤ 1048576)
    (hQ : ∀ w, Sat E w (PSet p l :: M) → Q (.tuple #[.int .i64 (if R.There l.length at_ n ∧ R.Holds v n then R.costs l at_ (R.bitAt back n.toNat v) n.toNat else 0), .int .i64 (if R.There l.length at_ n ∧ R.Holds v n then 0 else 7)]) w) :
    Calls Tryz.prog 260 #[.pointer (some ⟨p, 0, none⟩), .int .i64 at_, .int .i64 n, .int .i64 v, .bool back] w (retP Q) := by
  refine tree_cost.calls ?_
  unfold tree_cost.F
  by_cases ht : R.There l.length at_ n
  · by_cases hh : R.Holds v n
    · have hc : R.There l.length at_ n ∧ R.Holds v n := ⟨ht, hh⟩
      simp only [if_pos hc] at hQ
      have ht' := ht
      obtain ⟨n0, n1, a0, a1, a2⟩ := ht'
      refine pN_bx hS (by rfl) fun c4 w hS => ?_
      refine pN_bx hS (by rfl) fun c3 w hS => ?_
      refine pN_bx hS (by rfl) fun c1 w hS => ?_
      refine pN_bx hS (by rfl) fun c2 w hS => ?_
      have t1 : decide (R.There l.length at_ n) = true := decide_eq_true ht
      have t2 : decide (R.Holds v n) = true := decide_eq_true hh
      repeat' (first | (refine pc_tree_there (there_ok (hS.fd (PSet p)) _ _ ?_); rw [t1]; clear hS; intro w hS) | (refine pc_tree_holds (holds_ok _ _ n0 n1 ?_); rw [t2]) | (refine pN_nz hS ?_; clear hS; intro c5 w hS) | refine pIf_f ?_ | refine pGd_go (by rfl) ?_ | refine pN_l hS (by first | rfl | assumption) ?_ | (refine pN_s hS (by first | exact Nat.le_of_ble_eq_true rfl | assumption) (by rfl) ?_; clear hS; intro w hS; try simp only [List.set_cons_zero, List.set_cons_succ] at hS) | refine pN_fn ?_ | refine pN_v (hk := ?_) | fail)
      obtain ⟨m, rfl⟩ : ∃ m : Nat, n = m := ⟨n.toNat, by omega⟩
      rw [Int.toNat_natCast] at hQ
      have hb := R.bitAt_01 back m v
      refine pc_tree_down (down_ok at_ m _ (R.bitAt back m v) hb (by omega) a0 (by omega)
        (fun k w => Sat E w (PSet p l :: cel c5 ⟨3, [.int .i64 (R.costs l at_ (R.bitAt back m v) k)]⟩ :: cel c1 ⟨3, [.int .i64 v]⟩ :: cel c2 ⟨4, [.bool back]⟩ :: cel c3 ⟨3, [.int .i64 m]⟩ :: cel c4 ⟨137, [.pointer (some ⟨p, 0, none⟩)]⟩ :: M)) (by simp only [R.TS.put, R.costs]; exact hS.to) ?_ ?_)
      · intro k w K hk hS hK
        have hp := ht.place hb (k := k) (by rw [Int.toNat_natCast]; omega)
        have hs := R.costs_small l at_ (R.bitAt back m v) k
        refine pv_tree_cost_c1 (cost_c1_ok _ hS hk (by omega) hp.1 (by omega) (by omega) (by omega) fun w hS => hK w hS)
      · intro w hS
        repeat' (first | refine pN_l hS (by first | rfl | assumption) ?_ | fail)
        exact hQ _ hS.to
    · have hc : ¬ (R.There l.length at_ n ∧ R.Holds v n) := fun h => hh h.2
      simp only [if_neg hc] at hQ
      have ht' := ht
      obtain ⟨n0, n1, a0, a1, a2⟩ := ht'
      have t1 : decide (R.There l.length at_ n) = true := decide_eq_true ht
      have t2 : decide (R.Holds v n) = false := decide_eq_false hh
      repeat' (first | (refine pc_tree_there (there_ok (hS.fd (PSet p)) _ _ ?_); rw [t1]; clear hS; intro w hS) | (refine pc_tree_holds (holds_ok _ _ n0 n1 ?_); rw [t2]) | refine pIf_t ?_ | refine pGd_go (by rfl) ?_ | refine pN_l hS (by first | rfl | assumption) ?_ | (refine pN_bx hS (by rfl) ?_; clear hS; intro a w hS) | refine pN_v (hk := ?_) | fail)
      exact hQ _ hS.to
  · have hc : ¬ (R.There l.length at_ n ∧ R.Holds v n) := fun h => ht h.1
    simp only [if_neg hc] at hQ
    have t1 : decide (R.There l.length at_ n) = false := decide_eq_false ht
    repeat' (first | (refine pc_tree_there (there_ok (hS.fd (PSet p)) _ _ ?_); rw [t1]; clear hS; intro w hS) | refine pIf_t ?_ | refine pGd_no (by rfl) ?_ | refine pN_l hS (by first | rfl | assumption) ?_ | (refine pN_bx hS (by rfl) ?_; clear hS; intro a w hS) | refine pN_v (hk := ?_) | fail)
    exact hQ _ hS.to

theorem Put_ok (hS : Sat E w (Enc b s :: PSet p l :: M)) (ho : R.Ok s) (hf : B.Fine l) (hs : s.k + 100 ≤ 140737488355328) (at_ n v : Int) (hl : l.length ≤ 1048576)
    (hQ : ∀ w, Sat E w (Enc b (if R.There l.length at_ n ∧ R.Holds v n then R.TS.put ⟨s, l⟩ at_ (R.bitAt false n.toNat v) n.toNat else ⟨s, l⟩).s :: PSet p (if R.There l.length at_ n ∧ R.Holds v n then R.TS.put ⟨s, l⟩ at_ (R.bitAt false n.toNat v) n.toNat else ⟨s, l⟩).l :: M) →
      Q (.int .i64 (if R.There l.length at_ n ∧ R.Holds v n then 0 else 7)) w) :
    Calls Tryz.prog 248 #[.pointer (some ⟨b, 0, none⟩), .pointer (some ⟨p, 0, none⟩), .int .i64 at_, .int .i64 n, .int .i64 v] w (retP Q) := by
  refine tree_Put.calls ?_
  unfold tree_Put.F
  refine pc_tree_put (put_ok hS ho hf hs at_ n v false hl fun w hS => ?_)
  exact hQ w hS
theorem Put_in (hS : Sat E w (Enc b s :: PSet p l :: M)) (ho : R.Ok s) (hf : B.Fine l) (hs : s.k + 100 ≤ 140737488355328) (at_ n v : Int) (hl : l.length ≤ 1048576) (ht : R.There l.length at_ n) (hh : R.Holds v n)
    (hQ : ∀ w, Sat E w (Enc b (R.TS.put ⟨s, l⟩ at_ (R.bitAt false n.toNat v) n.toNat).s :: PSet p (R.TS.put ⟨s, l⟩ at_ (R.bitAt false n.toNat v) n.toNat).l :: M) → Q (.int .i64 0) w) :
    Calls Tryz.prog 248 #[.pointer (some ⟨b, 0, none⟩), .pointer (some ⟨p, 0, none⟩), .int .i64 at_, .int .i64 n, .int .i64 v] w (retP Q) := by
  refine Put_ok hS ho hf hs at_ n v hl fun w hS => ?_
  rw [if_pos ⟨ht, hh⟩] at hS ⊢
  exact hQ w hS

theorem PutBack_ok (hS : Sat E w (Enc b s :: PSet p l :: M)) (ho : R.Ok s) (hf : B.Fine l) (hs : s.k + 100 ≤ 140737488355328) (at_ n v : Int) (hl : l.length ≤ 1048576)
    (hQ : ∀ w, Sat E w (Enc b (if R.There l.length at_ n ∧ R.Holds v n then R.TS.put ⟨s, l⟩ at_ (R.bitAt true n.toNat v) n.toNat else ⟨s, l⟩).s :: PSet p (if R.There l.length at_ n ∧ R.Holds v n then R.TS.put ⟨s, l⟩ at_ (R.bitAt true n.toNat v) n.toNat else ⟨s, l⟩).l :: M) →
      Q (.int .i64 (if R.There l.length at_ n ∧ R.Holds v n then 0 else 7)) w) :
    Calls Tryz.prog 245 #[.pointer (some ⟨b, 0, none⟩), .pointer (some ⟨p, 0, none⟩), .int .i64 at_, .int .i64 n, .int .i64 v] w (retP Q) := by
  refine tree_PutBack.calls ?_
  unfold tree_PutBack.F
  refine pc_tree_put (put_ok hS ho hf hs at_ n v true hl fun w hS => ?_)
  exact hQ w hS
theorem PutBack_in (hS : Sat E w (Enc b s :: PSet p l :: M)) (ho : R.Ok s) (hf : B.Fine l) (hs : s.k + 100 ≤ 140737488355328) (at_ n v : Int) (hl : l.length ≤ 1048576) (ht : R.There l.length at_ n) (hh : R.Holds v n)
    (hQ : ∀ w, Sat E w (Enc b (R.TS.put ⟨s, l⟩ at_ (R.bitAt true n.toNat v) n.toNat).s :: PSet p (R.TS.put ⟨s, l⟩ at_ (R.bitAt true n.toNat v) n.toNat).l :: M) → Q (.int .i64 0) w) :
    Calls Tryz.prog 245 #[.pointer (some ⟨b, 0, none⟩), .pointer (some ⟨p, 0, none⟩), .int .i64 at_, .int .i64 n, .int .i64 v] w (retP Q) := by
  refine PutBack_ok hS ho hf hs at_ n v hl fun w hS => ?_
  rw [if_pos ⟨ht, hh⟩] at hS ⊢
  exact hQ w hS

theorem TCost_ok (hS : Sat E w (PSet p l :: M)) (at_ n v : Int) (hl : l.length ≤ 1048576)
    (hQ : ∀ w, Sat E w (PSet p l :: M) → Q (.tuple #[.int .i64 (if R.There l.length at_ n ∧ R.Holds v n then R.costs l at_ (R.bitAt false n.toNat v) n.toNat else 0), .int .i64 (if R.There l.length at_ n ∧ R.Holds v n then 0 else 7)]) w) :
    Calls Tryz.prog 259 #[.pointer (some ⟨p, 0, none⟩), .int .i64 at_, .int .i64 n, .int .i64 v] w (retP Q) := by
  refine tree_Cost.calls ?_
  unfold tree_Cost.F
  refine pc_tree_cost (cost_ok hS at_ n v false hl fun w hS => ?_)
  repeat' (first | refine pN_v (hk := ?_) | fail)
  exact hQ w hS
theorem TCost_in (hS : Sat E w (PSet p l :: M)) (at_ n v : Int) (hl : l.length ≤ 1048576) (ht : R.There l.length at_ n) (hh : R.Holds v n)
    (hQ : ∀ w, Sat E w (PSet p l :: M) → Q (.tuple #[.int .i64 (R.costs l at_ (R.bitAt false n.toNat v) n.toNat), .int .i64 0]) w) :
    Calls Tryz.prog 259 #[.pointer (some ⟨p, 0, none⟩), .int .i64 at_, .int .i64 n, .int .i64 v] w (retP Q) := by
  refine TCost_ok hS at_ n v hl fun w hS => ?_
  rw [if_pos ⟨ht, hh⟩, if_pos ⟨ht, hh⟩]
  exact hQ w hS

theorem TCostBack_ok (hS : Sat E w (PSet p l :: M)) (at_ n v : Int) (hl : l.length ≤ 1048576)
    (hQ : ∀ w, Sat E w (PSet p l :: M) → Q (.tuple #[.int .i64 (if R.There l.length at_ n ∧ R.Holds v n then R.costs l at_ (R.bitAt true n.toNat v) n.toNat else 0), .int .i64 (if R.There l.length at_ n ∧ R.Holds v n then 0 else 7)]) w) :
    Calls Tryz.prog 257 #[.pointer (some ⟨p, 0, none⟩), .int .i64 at_, .int .i64 n, .int .i64 v] w (retP Q) := by
  refine tree_CostBack.calls ?_
  unfold tree_CostBack.F
  refine pc_tree_cost (cost_ok hS at_ n v true hl fun w hS => ?_)
  repeat' (first | refine pN_v (hk := ?_) | fail)
  exact hQ w hS
theorem TCostBack_in (hS : Sat E w (PSet p l :: M)) (at_ n v : Int) (hl : l.length ≤ 1048576) (ht : R.There l.length at_ n) (hh : R.Holds v n)
    (hQ : ∀ w, Sat E w (PSet p l :: M) → Q (.tuple #[.int .i64 (R.costs l at_ (R.bitAt true n.toNat v) n.toNat), .int .i64 0]) w) :
    Calls Tryz.prog 257 #[.pointer (some ⟨p, 0, none⟩), .int .i64 at_, .int .i64 n, .int .i64 v] w (retP Q) := by
  refine TCostBack_ok hS at_ n v hl fun w hS => ?_
  rw [if_pos ⟨ht, hh⟩, if_pos ⟨ht, hh⟩]
  exact hQ w hS
end

end Go.Proofs.YtbgnnjfpiblkmaaGreatDoor

namespace Go.Proofs.YtbgnnjfpiblkmaaGreatDoor
open Go

abbrev mth (nm : String) (c : Value) : Value := .func (.method nm) [c].toArray [].toArray
structure Snk (p : Z.Pr) (q : Nat → Nat) (c : Value) (X : List Z.Op → HA) : Prop where
  nb : ∀ w, (oNil (mth "pith/lzenc.bit" c)).run Tryz.prog w = .ok (.value (mth "pith/lzenc.bit" c)) w
  nt : ∀ w, (oNil (mth "pith/lzenc.tree" c)).run Tryz.prog w = .ok (.value (mth "pith/lzenc.tree" c)) w
  nk : ∀ w, (oNil (mth "pith/lzenc.back" c)).run Tryz.prog w = .ok (.value (mth "pith/lzenc.back" c)) w
  nd : ∀ w, (oNil (mth "pith/lzenc.direct" c)).run Tryz.prog w = .ok (.value (mth "pith/lzenc.direct" c)) w
  bit : ∀ {E w : World} {M : List HA} {K : Value → World → Prop} {l : List Z.Op} (t : Nat) (i b : Int), (Z.Op.bit t i b).Ok p → l.length ≤ 20 → Sat E w (X l :: M) → (∀ w, Sat E w (X (l ++ [.bit t i b]) :: M) → K (.tuple #[]) w) → pN Tryz.prog (oInv c "pith/lzenc.bit" [pz (q t), .int .i64 i, .int .i64 b]) w K
  tree : ∀ {E w : World} {M : List HA} {K : Value → World → Prop} {l : List Z.Op} (t : Nat) (a : Int) (n : Nat) (m v : Int), m = n → (Z.Op.tree t a n v).Ok p → l.length ≤ 20 → Sat E w (X l :: M) → (∀ w, Sat E w (X (l ++ [.tree t a n v]) :: M) → K (.tuple #[]) w) → pN Tryz.prog (oInv c "pith/lzenc.tree" [pz (q t), .int .i64 a, .int .i64 m, .int .i64 v]) w K
  back : ∀ {E w : World} {M : List HA} {K : Value → World → Prop} {l : List Z.Op} (t : Nat) (a : Int) (n : Nat) (m v : Int), m = n → (Z.Op.back t a n v).Ok p → l.length ≤ 20 → Sat E w (X l :: M) → (∀ w, Sat E w (X (l ++ [.back t a n v]) :: M) → K (.tuple #[]) w) → pN Tryz.prog (oInv c "pith/lzenc.back" [pz (q t), .int .i64 a, .int .i64 m, .int .i64 v]) w K
  direct : ∀ {E w : World} {M : List HA} {K : Value → World → Prop} {l : List Z.Op} (v : Int) (n : Nat) (m : Int), m = n → (Z.Op.direct v n).Ok p → l.length ≤ 20 → Sat E w (X l :: M) → (∀ w, Sat E w (X (l ++ [.direct v n]) :: M) → K (.tuple #[]) w) → pN Tryz.prog (oInv c "pith/lzenc.direct" [.int .i64 v, .int .i64 m]) w K
theorem pA_nilm {P : Program} {v : Value} {J : Value → Prop} (hn : ∀ w, (oNil v).run P w = .ok (.value v) w) (hk : J v) : pA P (oNil v) J := ⟨_, hn, hk⟩
attribute [local irreducible] oMv oV oU oCall oCallV oBi oBin oUn oLoad oStore oNil oFld oField oIdx oIndex oPick oAlloc oBox oBuild oBs oConv oMk oSl oExt oFn oIface oMap oLook oMapUp oRange oNext oEntry oInv oAssert oPanic oRes pN pA pL pDr pIf gA pGd

abbrev encCells (t wd en : Nat) : List Value := [pz t, pz wd, pz en]

section
variable {E w W : World} {M N : List HA} {Q : Value → World → Prop} {p : Z.Pr} {s : Z.St} {x : Z.W} {b t wd en : Nat} {q : Nat → Nat} {c : Value} {X : List Z.Op → HA} {l : List Z.Op}

theorem length_ok (hk : Snk p q c X) (hp : p.Ok) (k : Nat) (hkk : k = 7 ∨ k = 11) {n : Int} (hn : Z.isLen n) (hl : l.length ≤ 10)
    (hS : Sat E w (X l :: cel b ⟨128, encCells t wd en⟩ :: cel t ⟨141, tbCells p s q⟩ :: Win wd x :: M)) (hx : x.all.length ≤ 4611686018427387904)
    (hQ : ∀ w, Sat E w (X (l ++ Z.lenOps k p x.all.length n) :: cel b ⟨128, encCells t wd en⟩ :: cel t ⟨141, tbCells p s q⟩ :: Win wd x :: M) → Q (.tuple #[]) w) :
    Calls Tryz.prog 105 #[pz b, c, .agg #[pz (q k), pz (q (k + 1)), pz (q (k + 2)), pz (q (k + 3))], .int .i64 n] w (retP Q) := by
  refine lzenc_Encoder_length.calls ?_
  unfold lzenc_Encoder_length.F
  have ho := (Z.lenOps_ok hp k hkk x.all.length hn).ok
  have hpl := place_bd hp x.all.length
  obtain ⟨n1, n2⟩ := hn
  by_cases h8 : n - 2 < 8
  · have e : Z.lenOps k p x.all.length n = [.bit k 0 0, .tree (k + 1) (8 * Z.place p x.all.length) 3 (n - 2)] := by unfold Z.lenOps; rw [if_pos h8]
    rw [e] at ho hQ
    repeat' (first | (refine hk.bit _ _ _ (ho _ (by first | exact List.Mem.head _ | exact List.Mem.tail _ (List.Mem.head _) | exact List.Mem.tail _ (List.Mem.tail _ (List.Mem.head _)) | exact List.Mem.tail _ (List.Mem.tail _ (List.Mem.tail _ (List.Mem.head _))) | exact List.Mem.tail _ (List.Mem.tail _ (List.Mem.tail _ (List.Mem.tail _ (List.Mem.head _)))) | exact List.Mem.tail _ (List.Mem.tail _ (List.Mem.tail _ (List.Mem.tail _ (List.Mem.tail _ (List.Mem.head _))))) | exact List.Mem.tail _ (List.Mem.tail _ (List.Mem.tail _ (List.Mem.tail _ (List.Mem.tail _ (List.Mem.tail _ (List.Mem.head _)))))))) (by first | omega | (simp only [List.length_append, List.length_cons, List.length_nil]; omega)) (hS.fd X) ?_; clear hS; intro w hS) | (refine hk.tree _ _ 3 _ _ rfl (ho _ (by first | exact List.Mem.head _ | exact List.Mem.tail _ (List.Mem.head _) | exact List.Mem.tail _ (List.Mem.tail _ (List.Mem.head _)) | exact List.Mem.tail _ (List.Mem.tail _ (List.Mem.tail _ (List.Mem.head _))) | exact List.Mem.tail _ (List.Mem.tail _ (List.Mem.tail _ (List.Mem.tail _ (List.Mem.head _)))) | exact List.Mem.tail _ (List.Mem.tail _ (List.Mem.tail _ (List.Mem.tail _ (List.Mem.tail _ (List.Mem.head _))))) | exact List.Mem.tail _ (List.Mem.tail _ (List.Mem.tail _ (List.Mem.tail _ (List.Mem.tail _ (List.Mem.tail _ (List.Mem.head _)))))))) (by first | omega | (simp only [List.length_append, List.length_cons, List.length_nil]; omega)) (hS.fd X) ?_; clear hS; intro w hS) | (refine pc_window_Window_Pos (Pos_ok (hS.fd (Win wd)) ?_); clear hS; intro w hS) | (refine pc_model_Tables_PlaceState (PlaceState_ok (hS.fd (cel t)) hp _ (by omega) (by omega) ?_); clear hS; intro w hS) | (refine pN_lss_s ?_ ?_ <;> intro hc <;> try (exfalso; omega)) | refine pIf_t ?_ | refine pN_l hS (by first | rfl | assumption) ?_ | refine pL_l hS (by first | rfl | assumption) ?_ | (refine pDr_go hS ?_; clear hS; intro w hS) | (refine pN_bx hS (by rfl) ?_; clear hS; intro a w hS) | refine ⟨trivial, ?_⟩ | refine ⟨⟨(by first | exact run_l hS (by first | rfl | assumption) | exact run_st hS (by first | rfl | omega) | exact run_ld1 ha hS | exact fun _ => run_l hS (by rfl) | exact fun _ => run_st hS (by first | rfl | omega) | exact fun _ => run_ld1 ha hS | exact fun h => Bool.noConfusion h), trivial⟩, ?_⟩ | refine pN_v (hk := ?_) | refine pA_v (hk := ?_) | fail)
    simp only [List.append_assoc, List.cons_append, List.nil_append] at hS
    exact hQ _ hS.to
  · by_cases h16 : n - 2 < 16
    · have e : Z.lenOps k p x.all.length n = [.bit k 0 1, .bit k 1 0, .tree (k + 2) (8 * Z.place p x.all.length) 3 (n - 2 - 8)] := by unfold Z.lenOps; rw [if_neg h8, if_pos h16]
      rw [e] at ho hQ
      repeat' (first | (refine hk.bit _ _ _ (ho _ (by first | exact List.Mem.head _ | exact List.Mem.tail _ (List.Mem.head _) | exact List.Mem.tail _ (List.Mem.tail _ (List.Mem.head _)) | exact List.Mem.tail _ (List.Mem.tail _ (List.Mem.tail _ (List.Mem.head _))) | exact List.Mem.tail _ (List.Mem.tail _ (List.Mem.tail _ (List.Mem.tail _ (List.Mem.head _)))) | exact List.Mem.tail _ (List.Mem.tail _ (List.Mem.tail _ (List.Mem.tail _ (List.Mem.tail _ (List.Mem.head _))))) | exact List.Mem.tail _ (List.Mem.tail _ (List.Mem.tail _ (List.Mem.tail _ (List.Mem.tail _ (List.Mem.tail _ (List.Mem.head _)))))))) (by first | omega | (simp only [List.length_append, List.length_cons, List.length_nil]; omega)) (hS.fd X) ?_; clear hS; intro w hS) | (refine hk.tree _ _ 3 _ _ rfl (ho _ (by first | exact List.Mem.head _ | exact List.Mem.tail _ (List.Mem.head _) | exact List.Mem.tail _ (List.Mem.tail _ (List.Mem.head _)) | exact List.Mem.tail _ (List.Mem.tail _ (List.Mem.tail _ (List.Mem.head _))) | exact List.Mem.tail _ (List.Mem.tail _ (List.Mem.tail _ (List.Mem.tail _ (List.Mem.head _)))) | exact List.Mem.tail _ (List.Mem.tail _ (List.Mem.tail _ (List.Mem.tail _ (List.Mem.tail _ (List.Mem.head _))))) | exact List.Mem.tail _ (List.Mem.tail _ (List.Mem.tail _ (List.Mem.tail _ (List.Mem.tail _ (List.Mem.tail _ (List.Mem.head _)))))))) (by first | omega | (simp only [List.length_append, List.length_cons, List.length_nil]; omega)) (hS.fd X) ?_; clear hS; intro w hS) | (refine pc_window_Window_Pos (Pos_ok (hS.fd (Win wd)) ?_); clear hS; intro w hS) | (refine pc_model_Tables_PlaceState (PlaceState_ok (hS.fd (cel t)) hp _ (by omega) (by omega) ?_); clear hS; intro w hS) | (refine pN_lss_s ?_ ?_ <;> intro hc <;> try (exfalso; omega)) | refine pIf_t ?_ | refine pIf_f ?_ | refine pN_l hS (by first | rfl | assumption) ?_ | refine pL_l hS (by first | rfl | assumption) ?_ | (refine pDr_go hS ?_; clear hS; intro w hS) | (refine pN_bx hS (by rfl) ?_; clear hS; intro a w hS) | refine ⟨trivial, ?_⟩ | refine ⟨⟨(by first | exact run_l hS (by first | rfl | assumption) | exact run_st hS (by first | rfl | omega) | exact run_ld1 ha hS | exact fun _ => run_l hS (by rfl) | exact fun _ => run_st hS (by first | rfl | omega) | exact fun _ => run_ld1 ha hS | exact fun h => Bool.noConfusion h), trivial⟩, ?_⟩ | refine pN_v (hk := ?_) | refine pA_v (hk := ?_) | fail)
      simp only [List.append_assoc, List.cons_append, List.nil_append] at hS
      exact hQ _ hS.to
    · have e : Z.lenOps k p x.all.length n = [.bit k 0 1, .bit k 1 1, .tree (k + 3) 0 8 (n - 2 - 16)] := by unfold Z.lenOps; rw [if_neg h8, if_neg h16]
      rw [e] at ho hQ
      repeat' (first | (refine hk.bit _ _ _ (ho _ (by first | exact List.Mem.head _ | exact List.Mem.tail _ (List.Mem.head _) | exact List.Mem.tail _ (List.Mem.tail _ (List.Mem.head _)) | exact List.Mem.tail _ (List.Mem.tail _ (List.Mem.tail _ (List.Mem.head _))) | exact List.Mem.tail _ (List.Mem.tail _ (List.Mem.tail _ (List.Mem.tail _ (List.Mem.head _)))) | exact List.Mem.tail _ (List.Mem.tail _ (List.Mem.tail _ (List.Mem.tail _ (List.Mem.tail _ (List.Mem.head _))))) | exact List.Mem.tail _ (List.Mem.tail _ (List.Mem.tail _ (List.Mem.tail _ (List.Mem.tail _ (List.Mem.tail _ (List.Mem.head _)))))))) (by first | omega | (simp only [List.length_append, List.length_cons, List.length_nil]; omega)) (hS.fd X) ?_; clear hS; intro w hS) | (refine hk.tree _ _ 8 _ _ rfl (ho _ (by first | exact List.Mem.head _ | exact List.Mem.tail _ (List.Mem.head _) | exact List.Mem.tail _ (List.Mem.tail _ (List.Mem.head _)) | exact List.Mem.tail _ (List.Mem.tail _ (List.Mem.tail _ (List.Mem.head _))) | exact List.Mem.tail _ (List.Mem.tail _ (List.Mem.tail _ (List.Mem.tail _ (List.Mem.head _)))) | exact List.Mem.tail _ (List.Mem.tail _ (List.Mem.tail _ (List.Mem.tail _ (List.Mem.tail _ (List.Mem.head _))))) | exact List.Mem.tail _ (List.Mem.tail _ (List.Mem.tail _ (List.Mem.tail _ (List.Mem.tail _ (List.Mem.tail _ (List.Mem.head _)))))))) (by first | omega | (simp only [List.length_append, List.length_cons, List.length_nil]; omega)) (hS.fd X) ?_; clear hS; intro w hS) | (refine pc_window_Window_Pos (Pos_ok (hS.fd (Win wd)) ?_); clear hS; intro w hS) | (refine pc_model_Tables_PlaceState (PlaceState_ok (hS.fd (cel t)) hp _ (by omega) (by omega) ?_); clear hS; intro w hS) | (refine pN_lss_s ?_ ?_ <;> intro hc <;> try (exfalso; omega)) | refine pIf_f ?_ | refine pN_l hS (by first | rfl | assumption) ?_ | refine pL_l hS (by first | rfl | assumption) ?_ | (refine pDr_go hS ?_; clear hS; intro w hS) | (refine pN_bx hS (by rfl) ?_; clear hS; intro a w hS) | refine ⟨trivial, ?_⟩ | refine ⟨⟨(by first | exact run_l hS (by first | rfl | assumption) | exact run_st hS (by first | rfl | omega) | exact run_ld1 ha hS | exact fun _ => run_l hS (by rfl) | exact fun _ => run_st hS (by first | rfl | omega) | exact fun _ => run_ld1 ha hS | exact fun h => Bool.noConfusion h), trivial⟩, ?_⟩ | refine pN_v (hk := ?_) | refine pA_v (hk := ?_) | fail)
      simp only [List.append_assoc, List.cons_append, List.nil_append] at hS
      exact hQ _ hS.to

set_option maxHeartbeats 2000000 in
theorem distance_ok {y : Z.Y} (hk : Snk p q c X) (hp : p.Ok) (hn : Z.isLen y.Len) (hd : Z.isDist y.Dist) (hl : l.length ≤ 15)
    (hS : Sat E w (X l :: cel b ⟨128, encCells t wd en⟩ :: cel t ⟨141, tbCells p s q⟩ :: M))
    (hQ : ∀ w, Sat E w (X (l ++ Z.distOps y.Len y.Dist) :: cel b ⟨128, encCells t wd en⟩ :: cel t ⟨141, tbCells p s q⟩ :: M) → Q (.tuple #[]) w) :
    Calls Tryz.prog 106 #[pz b, c, .agg #[.int .i64 y.Kind, bv y.Byte, .int .i64 y.Len, .int .i64 y.Dist]] w (retP Q) := by
  refine lzenc_Encoder_distance.calls ?_
  unfold lzenc_Encoder_distance.F
  have ho := (Z.distOps_ok p hn hd).ok
  obtain ⟨s0, s1, sb, s2, s3⟩ := Z.slot_law hd
  obtain ⟨n1, n2⟩ := hn
  have d1 := hd.1
  have d2 := hd.2
  have hb := Z.bits_0 s0
  have hlp := Z.least_pos s0
  have hlate : ∀ b, decide (14 ≤ Z.slot y.Dist) = b → True := fun _ _ => trivial
  unfold Z.distOps at ho hQ
  dsimp only at ho hQ
  by_cases h4 : Z.bitsN (Z.slot y.Dist) = 0
  · rw [if_pos h4] at ho hQ
    repeat' (first | (refine hk.tree _ _ 6 _ _ rfl (ho _ (by first | exact List.Mem.head _ | exact List.Mem.tail _ (List.Mem.head _) | exact List.Mem.tail _ (List.Mem.tail _ (List.Mem.head _)) | exact List.Mem.tail _ (List.Mem.tail _ (List.Mem.tail _ (List.Mem.head _))) | exact List.Mem.tail _ (List.Mem.tail _ (List.Mem.tail _ (List.Mem.tail _ (List.Mem.head _)))) | exact List.Mem.tail _ (List.Mem.tail _ (List.Mem.tail _ (List.Mem.tail _ (List.Mem.tail _ (List.Mem.head _))))) | exact List.Mem.tail _ (List.Mem.tail _ (List.Mem.tail _ (List.Mem.tail _ (List.Mem.tail _ (List.Mem.tail _ (List.Mem.head _)))))))) (by first | omega | (simp only [List.length_append, List.length_cons, List.length_nil]; omega)) (hS.fd X) ?_; clear hS; intro w hS) | refine pA_nilm hk.nt ?_ | refine pc_state_Slot (Slot_in _ hd ?_) | refine pc_state_Range (Range_in _ s0 s1 ?_) | refine pA_minv rfl ?_ | (refine pN_eql_s ?_ ?_ <;> intro hc <;> try (exfalso; first | omega | exact hc rfl | exact hc (by assumption) | exact absurd hc (by assumption))) | refine pIf_t ?_ | refine pN_l hS (by first | rfl | assumption) ?_ | refine pL_l hS (by first | rfl | assumption) ?_ | (refine pDr_go hS ?_; clear hS; intro w hS) | (refine pN_bx hS (by rfl) ?_; clear hS; intro a w hS) | refine ⟨trivial, ?_⟩ | refine ⟨⟨(by first | exact run_l hS (by first | rfl | assumption) | exact run_st hS (by first | rfl | omega) | exact run_ld1 ha hS | exact fun _ => run_l hS (by rfl) | exact fun _ => run_st hS (by first | rfl | omega) | exact fun _ => run_ld1 ha hS | exact fun h => Bool.noConfusion h), (by first | exact run_l hS (by first | rfl | assumption) | exact run_st hS (by first | rfl | omega) | exact run_ld1 ha hS | exact fun _ => run_l hS (by rfl) | exact fun _ => run_st hS (by first | rfl | omega) | exact fun _ => run_ld1 ha hS | exact fun h => Bool.noConfusion h), (by first | exact run_l hS (by first | rfl | assumption) | exact run_st hS (by first | rfl | omega) | exact run_ld1 ha hS | exact fun _ => run_l hS (by rfl) | exact fun _ => run_st hS (by first | rfl | omega) | exact fun _ => run_ld1 ha hS | exact fun h => Bool.noConfusion h), trivial⟩, ?_⟩ | refine pN_fn ?_ | refine pN_v (hk := ?_) | refine pA_v (hk := ?_) | fail)
    exact hQ _ hS.to
  · rw [if_neg h4] at ho hQ
    by_cases h14 : Z.slot y.Dist < 14
    · rw [if_pos h14] at ho hQ
      have e14 : decide (14 ≤ Z.slot y.Dist) = false := decide_eq_false (by omega)
      repeat' (first | (refine hk.tree _ _ 6 _ _ rfl (ho _ (by first | exact List.Mem.head _ | exact List.Mem.tail _ (List.Mem.head _) | exact List.Mem.tail _ (List.Mem.tail _ (List.Mem.head _)) | exact List.Mem.tail _ (List.Mem.tail _ (List.Mem.tail _ (List.Mem.head _))) | exact List.Mem.tail _ (List.Mem.tail _ (List.Mem.tail _ (List.Mem.tail _ (List.Mem.head _)))) | exact List.Mem.tail _ (List.Mem.tail _ (List.Mem.tail _ (List.Mem.tail _ (List.Mem.tail _ (List.Mem.head _))))) | exact List.Mem.tail _ (List.Mem.tail _ (List.Mem.tail _ (List.Mem.tail _ (List.Mem.tail _ (List.Mem.tail _ (List.Mem.head _)))))))) (by first | omega | (simp only [List.length_append, List.length_cons, List.length_nil]; omega)) (hS.fd X) ?_; clear hS; intro w hS) | refine pA_nilm hk.nt ?_ | refine pc_state_Slot (Slot_in _ hd ?_) | refine pc_state_Range (Range_in _ s0 s1 ?_) | refine pA_minv rfl ?_ | (refine pc_model_Late (Late_ok _ ?_); rw [e14]) | (refine pN_eql_s ?_ ?_ <;> intro hc <;> try (exfalso; first | omega | exact hc rfl | exact hc (by assumption) | exact absurd hc (by assumption))) | refine pIf_t ?_ | refine pIf_f ?_ | refine pN_l hS (by first | rfl | assumption) ?_ | refine pL_l hS (by first | rfl | assumption) ?_ | (refine pDr_go hS ?_; clear hS; intro w hS) | (refine pN_bx hS (by rfl) ?_; clear hS; intro a w hS) | refine ⟨trivial, ?_⟩ | refine ⟨⟨(by first | exact run_l hS (by first | rfl | assumption) | exact run_st hS (by first | rfl | omega) | exact run_ld1 ha hS | exact fun _ => run_l hS (by rfl) | exact fun _ => run_st hS (by first | rfl | omega) | exact fun _ => run_ld1 ha hS | exact fun h => Bool.noConfusion h), (by first | exact run_l hS (by first | rfl | assumption) | exact run_st hS (by first | rfl | omega) | exact run_ld1 ha hS | exact fun _ => run_l hS (by rfl) | exact fun _ => run_st hS (by first | rfl | omega) | exact fun _ => run_ld1 ha hS | exact fun h => Bool.noConfusion h), (by first | exact run_l hS (by first | rfl | assumption) | exact run_st hS (by first | rfl | omega) | exact run_ld1 ha hS | exact fun _ => run_l hS (by rfl) | exact fun _ => run_st hS (by first | rfl | omega) | exact fun _ => run_ld1 ha hS | exact fun h => Bool.noConfusion h), trivial⟩, ?_⟩ | refine pN_fn ?_ | refine pN_v (hk := ?_) | refine pA_v (hk := ?_) | fail)
      refine ⟨?_, ?_⟩
      · repeat' (first | (refine hk.back _ _ _ _ _ rfl (ho _ (by first | exact List.Mem.head _ | exact List.Mem.tail _ (List.Mem.head _) | exact List.Mem.tail _ (List.Mem.tail _ (List.Mem.head _)) | exact List.Mem.tail _ (List.Mem.tail _ (List.Mem.tail _ (List.Mem.head _))) | exact List.Mem.tail _ (List.Mem.tail _ (List.Mem.tail _ (List.Mem.tail _ (List.Mem.head _)))) | exact List.Mem.tail _ (List.Mem.tail _ (List.Mem.tail _ (List.Mem.tail _ (List.Mem.tail _ (List.Mem.head _))))) | exact List.Mem.tail _ (List.Mem.tail _ (List.Mem.tail _ (List.Mem.tail _ (List.Mem.tail _ (List.Mem.tail _ (List.Mem.head _)))))))) (by first | omega | (simp only [List.length_append, List.length_cons, List.length_nil]; omega)) (hS.fd X) ?_; clear hS; intro w hS) | refine pA_nilm hk.nk ?_ | refine pc_model_RestAt (RestAt_ok _ s0 (by omega) ?_) | refine ⟨trivial, ?_⟩ | refine ⟨⟨(by first | exact run_l hS (by first | rfl | assumption) | exact run_st hS (by first | rfl | omega) | exact run_ld1 ha hS | exact fun _ => run_l hS (by rfl) | exact fun _ => run_st hS (by first | rfl | omega) | exact fun _ => run_ld1 ha hS | exact fun h => Bool.noConfusion h), (by first | exact run_l hS (by first | rfl | assumption) | exact run_st hS (by first | rfl | omega) | exact run_ld1 ha hS | exact fun _ => run_l hS (by rfl) | exact fun _ => run_st hS (by first | rfl | omega) | exact fun _ => run_ld1 ha hS | exact fun h => Bool.noConfusion h), trivial⟩, ?_⟩ | refine pN_fn ?_ | fail)
        simp only [List.append_assoc, List.cons_append, List.nil_append] at hS
        exact hQ _ hS.to
      · repeat' (first | (refine hk.back _ _ _ _ _ rfl (ho _ (by first | exact List.Mem.head _ | exact List.Mem.tail _ (List.Mem.head _) | exact List.Mem.tail _ (List.Mem.tail _ (List.Mem.head _)) | exact List.Mem.tail _ (List.Mem.tail _ (List.Mem.tail _ (List.Mem.head _))) | exact List.Mem.tail _ (List.Mem.tail _ (List.Mem.tail _ (List.Mem.tail _ (List.Mem.head _)))) | exact List.Mem.tail _ (List.Mem.tail _ (List.Mem.tail _ (List.Mem.tail _ (List.Mem.tail _ (List.Mem.head _))))) | exact List.Mem.tail _ (List.Mem.tail _ (List.Mem.tail _ (List.Mem.tail _ (List.Mem.tail _ (List.Mem.tail _ (List.Mem.head _)))))))) (by first | omega | (simp only [List.length_append, List.length_cons, List.length_nil]; omega)) (hS.fd X) ?_; clear hS; intro w hS) | refine pA_nilm hk.nk ?_ | refine pc_model_RestAt (RestAt_ok _ s0 (by omega) ?_) | refine ⟨trivial, ?_⟩ | refine ⟨⟨(by first | exact run_l hS (by first | rfl | assumption) | exact run_st hS (by first | rfl | omega) | exact run_ld1 ha hS | exact fun _ => run_l hS (by rfl) | exact fun _ => run_st hS (by first | rfl | omega) | exact fun _ => run_ld1 ha hS | exact fun h => Bool.noConfusion h), (by first | exact run_l hS (by first | rfl | assumption) | exact run_st hS (by first | rfl | omega) | exact run_ld1 ha hS | exact fun _ => run_l hS (by rfl) | exact fun _ => run_st hS (by first | rfl | omega) | exact fun _ => run_ld1 ha hS | exact fun h => Bool.noConfusion h), trivial⟩, ?_⟩ | refine pN_fn ?_ | fail)
        simp only [List.append_assoc, List.cons_append, List.nil_append] at hS
        exact hQ _ hS.to
    · rw [if_neg h14] at ho hQ
      have e14 : decide (14 ≤ Z.slot y.Dist) = true := decide_eq_true (by omega)
      have hlb := Z.late_bits (s := Z.slot y.Dist) (by omega)
      have hbm : ((Z.bitsN (Z.slot y.Dist) - 4 : Nat) : Int) = (Z.bitsN (Z.slot y.Dist) : Int) - 4 := by omega
      repeat' (first | (refine hk.tree _ _ 6 _ _ rfl (ho _ (by first | exact List.Mem.head _ | exact List.Mem.tail _ (List.Mem.head _) | exact List.Mem.tail _ (List.Mem.tail _ (List.Mem.head _)) | exact List.Mem.tail _ (List.Mem.tail _ (List.Mem.tail _ (List.Mem.head _))) | exact List.Mem.tail _ (List.Mem.tail _ (List.Mem.tail _ (List.Mem.tail _ (List.Mem.head _)))) | exact List.Mem.tail _ (List.Mem.tail _ (List.Mem.tail _ (List.Mem.tail _ (List.Mem.tail _ (List.Mem.head _))))) | exact List.Mem.tail _ (List.Mem.tail _ (List.Mem.tail _ (List.Mem.tail _ (List.Mem.tail _ (List.Mem.tail _ (List.Mem.head _)))))))) (by first | omega | (simp only [List.length_append, List.length_cons, List.length_nil]; omega)) (hS.fd X) ?_; clear hS; intro w hS) | (refine hk.back _ _ _ _ _ rfl (ho _ (by first | exact List.Mem.head _ | exact List.Mem.tail _ (List.Mem.head _) | exact List.Mem.tail _ (List.Mem.tail _ (List.Mem.head _)) | exact List.Mem.tail _ (List.Mem.tail _ (List.Mem.tail _ (List.Mem.head _))) | exact List.Mem.tail _ (List.Mem.tail _ (List.Mem.tail _ (List.Mem.tail _ (List.Mem.head _)))) | exact List.Mem.tail _ (List.Mem.tail _ (List.Mem.tail _ (List.Mem.tail _ (List.Mem.tail _ (List.Mem.head _))))) | exact List.Mem.tail _ (List.Mem.tail _ (List.Mem.tail _ (List.Mem.tail _ (List.Mem.tail _ (List.Mem.tail _ (List.Mem.head _)))))))) (by first | omega | (simp only [List.length_append, List.length_cons, List.length_nil]; omega)) (hS.fd X) ?_; clear hS; intro w hS) | refine pA_nilm hk.nt ?_ | refine pA_nilm hk.nk ?_ | refine pc_state_Slot (Slot_in _ hd ?_) | refine pc_state_Range (Range_in _ s0 s1 ?_) | refine pA_minv rfl ?_ | (refine pc_model_Late (Late_ok _ ?_); rw [e14]) | (rw [← hbm]; refine hk.direct _ _ _ rfl (ho _ (List.Mem.tail _ (List.Mem.head _))) (by first | omega | (simp only [List.length_append, List.length_cons, List.length_nil]; omega)) (hS.fd X) ?_; clear hS; intro w hS) | (refine pN_eql_s ?_ ?_ <;> intro hc <;> try (exfalso; first | omega | exact hc rfl | exact hc (by assumption) | exact absurd hc (by assumption))) | refine pIf_f ?_ | refine pN_l hS (by first | rfl | assumption) ?_ | refine pL_l hS (by first | rfl | assumption) ?_ | (refine pDr_go hS ?_; clear hS; intro w hS) | (refine pN_bx hS (by rfl) ?_; clear hS; intro a w hS) | refine ⟨trivial, ?_⟩ | refine ⟨⟨(by first | exact run_l hS (by first | rfl | assumption) | exact run_st hS (by first | rfl | omega) | exact run_ld1 ha hS | exact fun _ => run_l hS (by rfl) | exact fun _ => run_st hS (by first | rfl | omega) | exact fun _ => run_ld1 ha hS | exact fun h => Bool.noConfusion h), (by first | exact run_l hS (by first | rfl | assumption) | exact run_st hS (by first | rfl | omega) | exact run_ld1 ha hS | exact fun _ => run_l hS (by rfl) | exact fun _ => run_st hS (by first | rfl | omega) | exact fun _ => run_ld1 ha hS | exact fun h => Bool.noConfusion h), trivial⟩, ?_⟩ | refine ⟨⟨(by first | exact run_l hS (by first | rfl | assumption) | exact run_st hS (by first | rfl | omega) | exact run_ld1 ha hS | exact fun _ => run_l hS (by rfl) | exact fun _ => run_st hS (by first | rfl | omega) | exact fun _ => run_ld1 ha hS | exact fun h => Bool.noConfusion h), (by first | exact run_l hS (by first | rfl | assumption) | exact run_st hS (by first | rfl | omega) | exact run_ld1 ha hS | exact fun _ => run_l hS (by rfl) | exact fun _ => run_st hS (by first | rfl | omega) | exact fun _ => run_ld1 ha hS | exact fun h => Bool.noConfusion h), (by first | exact run_l hS (by first | rfl | assumption) | exact run_st hS (by first | rfl | omega) | exact run_ld1 ha hS | exact fun _ => run_l hS (by rfl) | exact fun _ => run_st hS (by first | rfl | omega) | exact fun _ => run_ld1 ha hS | exact fun h => Bool.noConfusion h), trivial⟩, ?_⟩ | refine pN_fn ?_ | refine pN_v (hk := ?_) | refine pA_v (hk := ?_) | fail)
      simp only [List.append_assoc, List.cons_append, List.nil_append] at hS
      exact hQ _ hS.to

set_option maxHeartbeats 2000000 in
theorem literal_ok (hk : Snk p q c X) (hp : p.Ok) (hs : s.Right) (v : UInt8) (hl : l.length ≤ 5)
    (hS : Sat E w (X l :: cel b ⟨128, encCells t wd en⟩ :: cel t ⟨141, tbCells p s q⟩ :: Win wd x :: M)) (hx : x.all.length ≤ 4611686018427387904)
    (hQ : ∀ w, Sat E w (X (l ++ Z.litOps p s x v) :: cel b ⟨128, encCells t wd en⟩ :: cel t ⟨141, tbCells p s q⟩ :: Win wd x :: M) → Q (.tuple #[]) w) :
    Calls Tryz.prog 104 #[pz b, c, .int .i64 v.toNat] w (retP Q) := by
  refine lzenc_Encoder_literal.calls ?_
  unfold lzenc_Encoder_literal.F
  have ho := (Z.litOps_ok hp (s := s) (x := x) v).ok
  have last : ∀ {w : World} {M : List HA} {Q : Value → World → Prop} (d : Int), Sat E w (Win wd x :: M) → (∀ (e : Int) w, Sat E w (Win wd x :: M) → Q (.tuple #[bv (Z.lastOr x d), .int .i64 e]) w) → Calls Tryz.prog 101 #[pz wd, .int .i64 d] w (retP Q) := by
    intro w M Q d hS hQ
    unfold Z.lastOr at hQ
    by_cases h : x.has d
    · rw [if_pos h] at hQ
      exact Last_in hS d h fun w hS => hQ 0 w hS
    · rw [if_neg h] at hQ
      exact Last_no hS d h fun w hS => hQ 7 w hS
  have hn := hs.num
  have hb1 := (Z.lastOr x 1).toNat_lt
  have hb2 := v.toNat_lt
  have hc := context_bd hp x.all.length (Z.lastOr x 1).toNat (by omega) (by omega)
  have tl := Z.tabLen_bd hp 6
  unfold Z.litOps at ho hQ
  dsimp only at ho hQ
  generalize hf : Z.context p x.all.length (Z.lastOr x 1).toNat = f at *
  by_cases h7 : s.num < 7
  · rw [if_pos h7] at ho hQ
    have e7 : decide (s.num < 7) = true := decide_eq_true h7
    repeat' (first | (refine hk.tree _ _ 8 _ _ rfl (ho _ (by first | exact List.Mem.head _ | exact List.Mem.tail _ (List.Mem.head _) | exact List.Mem.tail _ (List.Mem.tail _ (List.Mem.head _)) | exact List.Mem.tail _ (List.Mem.tail _ (List.Mem.tail _ (List.Mem.head _))) | exact List.Mem.tail _ (List.Mem.tail _ (List.Mem.tail _ (List.Mem.tail _ (List.Mem.head _)))) | exact List.Mem.tail _ (List.Mem.tail _ (List.Mem.tail _ (List.Mem.tail _ (List.Mem.tail _ (List.Mem.head _))))) | exact List.Mem.tail _ (List.Mem.tail _ (List.Mem.tail _ (List.Mem.tail _ (List.Mem.tail _ (List.Mem.tail _ (List.Mem.head _)))))))) (by first | omega | (simp only [List.length_append, List.length_cons, List.length_nil]; omega)) (hS.fd X) ?_; clear hS; intro w hS) | refine pA_nilm hk.nt ?_ | (refine pc_window_Window_Pos (Pos_ok (hS.fd (Win wd)) ?_); clear hS; intro w hS) | (refine pc_window_Window_Last (last _ (hS.fd (Win wd)) ?_); clear hS; intro er w hS) | (refine pc_model_Tables_Context (Context_ok (hS.fd (cel t)) hp _ (by omega) (by omega) _ ?_); rw [hf]; clear hS; intro w hS) | (refine pN_la_at (n := 5) hS s.cells rfl rfl ?_) | (refine pc_state_State_Literal (SLiteral_ok hS hs ?_); rw [e7]; clear hS; intro w hS) | refine pIf_t ?_ | refine pN_l hS (by first | rfl | assumption) ?_ | refine pL_l hS (by first | rfl | assumption) ?_ | (refine pDr_go hS ?_; clear hS; intro w hS) | refine ⟨trivial, ?_⟩ | refine ⟨⟨(by first | exact run_l hS (by first | rfl | assumption) | exact run_st hS (by first | rfl | omega) | exact run_ld1 ha hS | exact fun _ => run_l hS (by rfl) | exact fun _ => run_st hS (by first | rfl | omega) | exact fun _ => run_ld1 ha hS | exact fun h => Bool.noConfusion h), trivial⟩, ?_⟩ | refine ⟨⟨(by first | exact run_l hS (by first | rfl | assumption) | exact run_st hS (by first | rfl | omega) | exact run_ld1 ha hS | exact fun _ => run_l hS (by rfl) | exact fun _ => run_st hS (by first | rfl | omega) | exact fun _ => run_ld1 ha hS | exact fun h => Bool.noConfusion h), (by first | exact run_l hS (by first | rfl | assumption) | exact run_st hS (by first | rfl | omega) | exact run_ld1 ha hS | exact fun _ => run_l hS (by rfl) | exact fun _ => run_st hS (by first | rfl | omega) | exact fun _ => run_ld1 ha hS | exact fun h => Bool.noConfusion h), trivial⟩, ?_⟩ | refine pN_fn ?_ | refine pN_v (hk := ?_) | refine pA_v (hk := ?_) | fail)
    exact hQ _ hS.to
  · rw [if_neg h7] at ho hQ
    have e7 : decide (s.num < 7) = false := decide_eq_false h7
    repeat' (first | (refine pc_window_Window_Pos (Pos_ok (hS.fd (Win wd)) ?_); clear hS; intro w hS) | (refine pc_window_Window_Last (last _ (hS.fd (Win wd)) ?_); clear hS; intro er w hS) | (refine pc_model_Tables_Context (Context_ok (hS.fd (cel t)) hp _ (by omega) (by omega) _ ?_); rw [hf]; clear hS; intro w hS) | (refine pN_la_at (n := 5) hS s.cells rfl rfl ?_) | (refine pc_state_State_Literal (SLiteral_ok hS hs ?_); rw [e7]; clear hS; intro w hS) | refine pIf_f ?_ | refine pN_ofb ?_ | refine pN_l hS (by first | rfl | assumption) ?_ | refine pL_l hS (by first | rfl | assumption) ?_ | (refine pDr_go hS ?_; clear hS; intro w hS) | refine ⟨trivial, ?_⟩ | refine ⟨⟨(by first | exact run_l hS (by first | rfl | assumption) | exact run_st hS (by first | rfl | omega) | exact run_ld1 ha hS | exact fun _ => run_l hS (by rfl) | exact fun _ => run_st hS (by first | rfl | omega) | exact fun _ => run_ld1 ha hS | exact fun h => Bool.noConfusion h), trivial⟩, ?_⟩ | refine pN_v (hk := ?_) | refine pA_v (hk := ?_) | fail)
    generalize hu : ((Z.lastOr x s.r0).toNat : Int) = u at *
    have hu0 : 0 ≤ u ∧ u < 256 := by have := (Z.lastOr x s.r0).toNat_lt; omega
    have hv0 : 0 ≤ (v.toNat : Int) ∧ (v.toNat : Int) < 256 := by omega
    generalize (v.toNat : Int) = v' at *
    refine ⟨fun sm i m w => ∃ (k : Nat) (m' : Int) (same : Bool) (l1 : List Z.Op), sm = .bool same ∧ i = .int .i64 ((k : Int) - 1) ∧ m = .int .i64 m' ∧ k ≤ 8 ∧ 1 ≤ m' ∧ m' < 2 ^ (9 - k) ∧ l1 ++ Z.litGo f v' u k m' same = Z.litGo f v' u 8 1 true ∧ l1.length = 8 - k ∧
      Sat E w (X (l ++ l1) :: cel b ⟨128, encCells t wd en⟩ :: cel t ⟨141, tbCells p s q⟩ :: Win wd x :: M), fun _ i _ _ => (RowKit.intOf i + 1).toNat, ⟨8, 1, true, [], rfl, rfl, rfl, by omega, by omega, by decide, rfl, rfl, by rw [List.append_nil]; exact hS.to⟩, ?_⟩
    clear hS
    rintro _ _ _ _ w ⟨k, m', same, l1, rfl, rfl, rfl, hk8, hm1, hm2, hl1, hl2, hS⟩
    cases k with
    | zero =>
      rw [Z.litGo, List.append_nil] at hl1
      rw [hl1] at hS
      repeat' (first | (refine pN_geq_s ?_ ?_ <;> intro hc <;> try (exfalso; omega)) | refine pIf_f ?_ | fail)
      exact hQ _ hS.to
    | succ i =>
      rw [Z.litGo] at hl1
      have ei : ((i + 1 : Nat) : Int) - 1 = (i : Int) := by omega
      rw [ei]
      have hop := ho _ (hl1 ▸ List.mem_append_right l1 (List.Mem.head _))
      have hbit : 0 ≤ v' / 2 ^ i % 2 ∧ v' / 2 ^ i % 2 ≤ 1 := by omega
      have hub : 0 ≤ u / 2 ^ i % 2 ∧ u / 2 ^ i % 2 ≤ 1 := by omega
      have hm8 : m' < 512 := by
        have : (2 : Int) ^ (9 - (i + 1)) ≤ 2 ^ 8 := two_le' (by omega)
        have e8 : (2 : Int) ^ 8 = 256 := by decide
        omega
      have h1le : i ≤ 64 := by omega
      have hm3 : 2 * m' + v' / 2 ^ i % 2 < 2 ^ (9 - i) := by
        have e : 9 - i = (9 - (i + 1)) + 1 := by omega
        rw [e, Int.pow_succ]; omega
      repeat' (first | (refine pN_geq_s ?_ ?_ <;> intro hc <;> try (exfalso; omega)) | refine pIf_t ?_ | fail)
      refine ⟨fun sm m w => sm = .bool (same && decide (v' / 2 ^ i % 2 = u / 2 ^ i % 2)) ∧ m = .int .i64 (2 * m' + v' / 2 ^ i % 2) ∧ Sat E w (X (l ++ (l1 ++ [Z.Op.bit 6 (f + m' + if same = true then 256 * (1 + u / 2 ^ i % 2) else 0) (v' / 2 ^ i % 2)])) :: cel b ⟨128, encCells t wd en⟩ :: cel t ⟨141, tbCells p s q⟩ :: Win wd x :: M), ?_, ?_⟩
      · repeat' (first | refine pA_shr_k i rfl h1le ?_ | (refine pDr_go hS ?_; clear hS; intro w hS) | refine pN_v (hk := ?_) | refine pA_v (hk := ?_) | fail)
        generalize v' / 2 ^ i % 2 = bit at *
        generalize u / 2 ^ i % 2 = ub at *
        refine ⟨fun v w => v = .int .i64 (f + m' + if same = true then 256 * (1 + ub) else 0) ∧ Sat E w (X (l ++ l1) :: cel b ⟨128, encCells t wd en⟩ :: cel t ⟨141, tbCells p s q⟩ :: Win wd x :: M), ?_, ?_⟩
        · cases same
          · repeat' (first | refine pIf_f ?_ | fail)
            exact ⟨by simp, hS.to⟩
          · repeat' (first | refine pIf_t ?_ | refine pN_v (hk := ?_) | fail)
            exact ⟨by simp, hS.to⟩
        clear hS
        rintro _ _ w ⟨rfl, hS⟩
        repeat' (first | refine pA_nilm hk.nb ?_ | (refine hk.bit _ _ _ hop (by simp only [List.length_append]; omega) (hS.fd X) ?_; clear hS; intro w hS) | refine pL_l hS (by first | rfl | assumption) ?_ | (refine pDr_go hS ?_; clear hS; intro w hS) | refine ⟨trivial, ?_⟩ | refine ⟨⟨(by first | exact run_l hS (by first | rfl | assumption) | exact run_st hS (by first | rfl | omega) | exact run_ld1 ha hS | exact fun _ => run_l hS (by rfl) | exact fun _ => run_st hS (by first | rfl | omega) | exact fun _ => run_ld1 ha hS | exact fun h => Bool.noConfusion h), (by first | exact run_l hS (by first | rfl | assumption) | exact run_st hS (by first | rfl | omega) | exact run_ld1 ha hS | exact fun _ => run_l hS (by rfl) | exact fun _ => run_st hS (by first | rfl | omega) | exact fun _ => run_ld1 ha hS | exact fun h => Bool.noConfusion h), trivial⟩, ?_⟩ | refine pN_fn ?_ | refine pA_v (hk := ?_) | fail)
        rw [List.append_assoc] at hS
        cases same
        · repeat' (first | refine pGd_no (by rfl) ?_ | refine pN_v (hk := ?_) | fail)
          exact ⟨rfl, rfl, hS.to⟩
        · repeat' (first | (refine pN_eql_s ?_ ?_ <;> intro hc <;> try (exfalso; first | omega | exact hc rfl | exact hc (by assumption) | exact absurd hc (by assumption))) | refine pGd_go (by rfl) ?_ | refine pN_v (hk := ?_) | fail)
          · exact ⟨by rw [decide_eq_true hc]; rfl, rfl, hS.to⟩
          · exact ⟨by rw [decide_eq_false hc]; rfl, rfl, hS.to⟩
      · clear hS
        rintro _ _ _ w ⟨rfl, rfl, hS⟩
        repeat' (first | refine pN_v (hk := ?_) | fail)
        refine ⟨⟨i, _, _, _, rfl, rfl, rfl, by omega, by omega, hm3, ?_, ?_, hS⟩, by simp [RowKit.intOf] <;> omega⟩
        · rw [List.append_assoc]; exact hl1
        · simp only [List.length_append, List.length_cons, List.length_nil]; omega
end

end Go.Proofs.YtbgnnjfpiblkmaaGreatDoor
