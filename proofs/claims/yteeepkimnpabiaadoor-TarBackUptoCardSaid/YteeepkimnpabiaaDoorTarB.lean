/-
  Archives in plain terms: what was made is read again.
-/
import Derived.Test.YteeepkimnpabiaaDoorTarQ
namespace Go.Proofs.YteeepkimnpabiaaDoor
open Go
set_option linter.unusedSimpArgs false
set_option linter.unnecessarySimpa false
set_option linter.unusedSectionVars false
set_option linter.unusedVariables false
namespace A

theorem text_fill : ∀ (s : List UInt8) (m : Nat), 0 ∉ s → text (s ++ List.replicate m 0) = s
  | [], 0, _ => rfl
  | [], m + 1, _ => by rw [List.nil_append, List.replicate_succ, text, if_pos rfl]
  | b :: s, m, h => by
    rw [List.cons_append, text, if_neg (fun e => h (by rw [e]; exact List.mem_cons_self)), text_fill s m fun hm => h (List.mem_cons_of_mem _ hm)]
theorem digit_num {d : Int} (h : 0 ≤ d ∧ d < 8) : (((48 + byteOf d : UInt8).toNat % 8 : Nat) : Int) = d := by
  have h2 := byteOf_nat d
  have : (48 : UInt8).toNat = 48 := rfl
  rw [UInt8.toNat_add, h2]
  omega
theorem num_acc : ∀ (l : List UInt8) (a : Int), l.foldl (fun (v : Int) c => 8 * v + c.toNat % 8) a = a * 8 ^ l.length + num l
  | [], a => by simp [num]
  | c :: l, a => by
    have e1 : num (c :: l) = l.foldl (fun (v : Int) c => 8 * v + c.toNat % 8) (8 * 0 + c.toNat % 8) := rfl
    rw [e1, List.foldl_cons, num_acc l, num_acc l (8 * 0 + _), List.length_cons, Int.pow_succ]
    generalize (8 : Int) ^ l.length = p
    generalize ((c.toNat : Int) % 8) = d
    generalize num l = z
    grind
theorem pow_mod (z : Int) (n : Nat) : z % 8 ^ (n + 1) = z / 8 ^ n % 8 * 8 ^ n + z % 8 ^ n := by
  have hp : (0 : Int) < 8 ^ n := Int.pow_pos (by omega)
  rw [Int.pow_succ]
  generalize (8 : Int) ^ n = p at *
  have h1 := Int.emod_def (z / p) 8
  have h2 := Int.mul_ediv_add_emod z p
  have h3 := Int.emod_def z (p * 8)
  rw [← Int.ediv_ediv_of_nonneg (Int.le_of_lt hp)] at h3
  rw [h3, h1]
  generalize z / p = q at *
  generalize q / 8 = c at *
  grind
theorem num_oct (v : Int) : ∀ n, num (oct v n) = v % 8 ^ n
  | 0 => by simp [num, oct]
  | n + 1 => by
    rw [oct_at, num, List.foldl_cons, num_acc, oct_len, num_oct v n, pow_mod]
    have hd := digit_num (d := v / 8 ^ n % 8) (by omega)
    have e : ((48 + byteOf (v / 8 ^ n % 8) : UInt8).toNat : Int) % 8 = v / 8 ^ n % 8 := by omega
    rw [e]
    generalize v / 8 ^ n % 8 = d
    grind
theorem num_field (v : Int) (n : Nat) (h0 : 0 ≤ v) (h1 : v < 8 ^ n) : num ((oct v n ++ [0]).take n) = v := by
  rw [List.take_left' (oct_len v n), num_oct, Int.emod_eq_of_lt h0 h1]
theorem ixb_letter {k : Int} (h0 : 0 ≤ k) (h3 : k < 3) : ixb [48, 53, 50] (letter k) = k := by
  obtain rfl | rfl | rfl : k = 0 ∨ k = 1 ∨ k = 2 := by omega
  all_goals decide

/-- The header's pieces. -/
def blocks (x : T_api_Item) (n : Int) : List (List UInt8) :=
  [fill (parted x.Name).2.1 100, oct x.Mode 7 ++ [0], oct 0 7 ++ [0], oct 0 7 ++ [0], oct n 11 ++ [0], oct x.Time 11 ++ [0], sumField (made x n 12), [letter x.Kind], fill x.Link 100,
    [117, 115, 116, 97, 114, 0, 48, 48] ++ List.replicate 64 0, oct 0 7 ++ [0], oct 0 7 ++ [0], fill (parted x.Name).1 155, List.replicate 12 0]
theorem header_blocks (x : T_api_Item) (n : Int) : header x n = (blocks x n).flatten := by
  unfold header front back blocks
  generalize sumField (made x n 12) = f
  simp only [List.flatten_cons, List.flatten_nil, List.append_assoc, List.append_nil]
theorem seg {bs : List (List UInt8)} {k : Nat} {b : List UInt8} (h : bs[k]? = some b) (t : List UInt8) {a c : Nat} (ha : (bs.take k).flatten.length = a) (hc : b.length = c) : ((bs.flatten ++ t).drop a).take c = b := by
  have e : bs = bs.take k ++ (b :: bs.drop (k + 1)) := by
    obtain ⟨hlt, rfl⟩ := List.getElem?_eq_some_iff.1 h
    rw [← List.drop_eq_getElem_cons hlt, List.take_append_drop]
  have e2 : bs.flatten = (bs.take k).flatten ++ (b ++ (bs.drop (k + 1)).flatten) := by
    conv => lhs; rw [e]
    rw [List.flatten_append, List.flatten_cons]
  rw [e2, List.append_assoc, List.drop_left' ha, List.append_assoc, List.take_left' hc]
theorem fill_len {s : List UInt8} {n : Nat} (h : s.length ≤ n) : (fill s n).length = n := by
  unfold fill
  rw [List.length_append, List.length_replicate]
  omega
theorem fS_seg {x : T_api_Item} (h : Fits x) (n : Int) (t : List UInt8) : fS 0 (header x n ++ t) = fill (parted x.Name).2.1 100 ∧ fS 1 (header x n ++ t) = oct x.Mode 7 ++ [0] ∧ fS 4 (header x n ++ t) = oct n 11 ++ [0] ∧ fS 5 (header x n ++ t) = oct x.Time 11 ++ [0] ∧
    fS 6 (header x n ++ t) = [letter x.Kind] ∧ fS 7 (header x n ++ t) = fill x.Link 100 ∧ fS 11 (header x n ++ t) = fill (parted x.Name).1 155 := by
  have l0 := fill_len h.rest
  have l7 := fill_len h.link
  have l11 := fill_len h.pre
  have ls := sumField_len (made x n 12)
  have o8 : ∀ v, (oct v 7 ++ [0]).length = 8 := fun v => by rw [List.length_append, oct_len]; rfl
  have o12 : ∀ v, (oct v 11 ++ [0]).length = 12 := fun v => by rw [List.length_append, oct_len]; rfl
  have u72 : ([117, 115, 116, 97, 114, 0, 48, 48] ++ List.replicate 64 (0 : UInt8)).length = 72 := rfl
  rw [header_blocks]
  unfold fS
  refine ⟨seg (k := 0) rfl t rfl l0, seg (k := 1) rfl t ?_ (o8 _), seg (k := 4) rfl t ?_ (o12 _), seg (k := 5) rfl t ?_ (o12 _), seg (k := 7) rfl t ?_ rfl, seg (k := 8) rfl t ?_ l7, seg (k := 12) rfl t ?_ l11⟩
  all_goals
    unfold blocks
    generalize fill (parted x.Name).2.1 100 = a0 at *
    generalize fill x.Link 100 = a7 at *
    generalize fill (parted x.Name).1 155 = a11 at *
    generalize sumField (made x n 12) = asum at *
    generalize [117, 115, 116, 97, 114, 0, 48, 48] ++ List.replicate 64 (0 : UInt8) = au at *
    simp only [List.take_succ_cons, List.take_zero, List.flatten_cons, List.flatten_nil, List.append_nil]
    simp only [List.length_append, o8, o12, l0, l7, l11, ls, u72, fAt, oct_len, List.length_cons, List.length_nil]

theorem parted_join {l : List UInt8} (h : (parted l).2.2 = true) : 0 ∉ (parted l).2.1 ∧ 0 ∉ (parted l).1 ∧ (if (parted l).1 = [] then (parted l).2.1 else (parted l).1 ++ (47 :: (parted l).2.1)) = l := by
  unfold parted at *
  split at h
  · cases h
  · rename_i h1
    rw [if_neg h1]
    have h0 : 0 ∉ l := fun e => h1 (.inr e)
    split at h
    · rename_i h2
      rw [if_pos h2]
      exact ⟨h0, by simp, rfl⟩
    · rename_i h2
      rw [if_neg h2]
      cases hs : slash l (max 1 (l.length - 101)) with
      | none => rw [hs] at h; cases h
      | some i =>
        obtain ⟨h3, h4, h5⟩ := slash_some hs
        dsimp only
        have hne : l.take i ≠ [] := fun e => by
          have := congrArg List.length e
          rw [List.length_take, List.length_nil] at this
          omega
        rw [if_neg hne]
        refine ⟨fun e => h0 (List.mem_of_mem_drop e), fun e => h0 (List.mem_of_mem_take e), ?_⟩
        obtain ⟨_, h6⟩ := List.getElem?_eq_some_iff.1 h5
        rw [← h6, ← List.drop_eq_getElem_cons h4, List.take_append_drop]
/-- The item that a header tells. -/
def bare (x : T_api_Item) : T_api_Item := { x with Data := (⟨none, 0⟩, []) }
theorem head_num (v : Int) (b : List UInt8) (h : b = oct v 7 ++ [0]) (h0 : 0 ≤ v) (h1 : v < 4096) : num (b.take (8 - 1)) = v := by
  rw [h]
  refine num_field v 7 h0 (Int.lt_of_lt_of_le h1 ?_)
  decide
theorem head_num12 (v : Int) (b : List UInt8) (h : b = oct v 11 ++ [0]) (h0 : 0 ≤ v) (h1 : v < 8589934592) : num (b.take (12 - 1)) = v := by
  rw [h]
  refine num_field v 11 h0 (Int.lt_of_lt_of_le h1 ?_)
  decide
theorem readTo_made {x : T_api_Item} (hw : wrong x = 0) (n : Int) (n0 : 0 ≤ n) (n1 : n < 8589934592) (t : List UInt8) : readTo (header x n ++ t) 12 = (bare x, n) := by
  obtain ⟨hf, k0, k3, m0, m1, t0, t1, _, hp, hl, hl0, _⟩ := wrong_0 hw
  obtain ⟨s0, s1, s4, s5, s6, s7, s11⟩ := fS_seg hf n t
  obtain ⟨j0, j1, j2⟩ := parted_join hp
  have hlk : 0 ∉ x.Link := by
    by_cases hk : x.Kind = 2
    · exact (hl hk).2.2
    · rw [hl0 hk]; simp
  have r0 : text (fS 0 (header x n ++ t)) = (parted x.Name).2.1 := by rw [s0]; exact text_fill _ _ j0
  have r1 := head_num _ _ s1 m0 m1
  have r4 := head_num12 _ _ s4 n0 n1
  have r5 := head_num12 _ _ s5 t0 t1
  have r6 : ixb [48, 53, 50] ((fS 6 (header x n ++ t)).getD 0 0) = x.Kind := by rw [s6]; exact ixb_letter k0 k3
  have r7 : text (fS 7 (header x n ++ t)) = x.Link := by rw [s7]; exact text_fill _ _ hlk
  have r11 : text (fS 11 (header x n ++ t)) = (parted x.Name).1 := by rw [s11]; exact text_fill _ _ j1
  have e : readTo (header x n ++ t) 12 = readK (header x n ++ t) 11 ({ Name := (parted x.Name).2.1, Link := x.Link, Kind := x.Kind, Mode := x.Mode, Time := x.Time, Data := (⟨none, 0⟩, []) }, n) := by
    rw [readTo_next]
    refine congrArg _ ?_
    simp only [readTo, readK, r0, r1, r4, r5, r6, r7, T_api_Item.zero]
  rw [e]
  simp only [readK, r11]
  generalize (parted x.Name).1 = a at *
  generalize (parted x.Name).2.1 = b at *
  obtain ⟨nm, lk, kd, md, tm, dt⟩ := x
  dsimp only at *
  split at j2
  · rename_i h
    rw [if_pos h, j2]
    rfl
  · rename_i h
    rw [if_neg h, j2]
    rfl
theorem wrong_bare {x : T_api_Item} (hw : wrong x = 0) : wrong (bare x) = 0 := by
  obtain ⟨hf, k0, k3, m0, m1, t0, t1, _, hp, hl, hl0, _⟩ := wrong_0 hw
  exact wrong_intro k0 k3 hl0 (fun _ => rfl) hp hl m0 m1 t0 t1 (show (0 : Nat) < 8589934592 by decide)
theorem header_bare (x : T_api_Item) (n : Int) : header (bare x) n = header x n := header_data x _ n
/-- What stands behind the header of an item. -/
theorem getE_made {x : T_api_Item} (hw : wrong x = 0) (t : List UInt8) : getE (header x x.Data.2.length ++ t) =
    if t.length < x.Data.2.length + padn x.Data.2.length then 1 else if Zs ((t.drop x.Data.2.length).take (padn x.Data.2.length)) then 0 else 2 := by
  obtain ⟨hf, _, _, _, _, _, _, hd, _, _, _, hk⟩ := wrong_0 hw
  have hh := header_len hf x.Data.2.length
  have hr := readTo_made hw x.Data.2.length (by omega) (by omega) t
  have ht := told_header hf x.Data.2.length t
  have htk : (header x x.Data.2.length ++ t).take 512 = header x x.Data.2.length := List.take_left' hh
  unfold getE
  rw [if_neg (by rw [List.length_append, hh]; omega), if_neg (fun h => h ht), hr]
  dsimp only
  unfold getE2
  rw [wrong_bare hw, header_bare, htk]
  have hnot : ¬ ((0 : Int) ≠ 0 ∨ ((bare x).Kind ≠ 0 ∧ 0 < (x.Data.2.length : Int)) ∨ header x x.Data.2.length ≠ header x x.Data.2.length) := by
    rintro (h | ⟨h1, h2⟩ | h)
    · exact h rfl
    · have := hk h1
      rw [this] at h2
      exact absurd h2 (by decide)
    · exact h rfl
  rw [if_neg hnot, Int.toNat_natCast, List.length_append, hh]
  have ed : (header x x.Data.2.length ++ t).drop (512 + x.Data.2.length) = t.drop x.Data.2.length := by
    rw [← List.drop_drop, List.drop_left' hh]
  rw [ed]
  have e1 : 512 + x.Data.2.length + padn x.Data.2.length - (512 + x.Data.2.length) = padn x.Data.2.length := by omega
  rw [e1]
  by_cases h1 : t.length < x.Data.2.length + padn x.Data.2.length
  · rw [if_pos h1, if_pos (by omega)]
  · rw [if_neg h1, if_neg (by omega)]
theorem putB_len {x : T_api_Item} (hw : wrong x = 0) : (putB x).length = 512 + x.Data.2.length + padn x.Data.2.length := by
  have hh := header_len (wrong_0 hw).1 x.Data.2.length
  unfold putB
  rw [List.length_append, List.length_append, hh, List.length_replicate, padn_512]
/-- What Put made is read. -/
theorem put_back {x : T_api_Item} (hw : wrong x = 0) (t : List UInt8) : getE (putB x ++ t) = 0 ∧ getN (putB x ++ t) = (putB x).length ∧ item (putB x ++ t) = plain x := by
  obtain ⟨hf, _, _, _, _, _, _, hd, _, _, _, _⟩ := wrong_0 hw
  have hh := header_len hf x.Data.2.length
  have hl := putB_len hw
  have e : putB x ++ t = header x x.Data.2.length ++ (x.Data.2 ++ (List.replicate (padn x.Data.2.length) 0 ++ t)) := by
    unfold putB
    rw [padn_512]
    simp only [List.append_assoc]
  have hr := readTo_made hw x.Data.2.length (by omega) (by omega) (x.Data.2 ++ (List.replicate (padn x.Data.2.length) 0 ++ t))
  refine ⟨?_, ?_, ?_⟩
  · rw [e, getE_made hw, if_neg (by simp only [List.length_append, List.length_replicate]; omega), if_pos]
    rw [List.drop_left' rfl, List.take_left' List.length_replicate]
    exact rep_zs _
  · unfold getN
    rw [e, hr]
    dsimp only
    rw [Int.toNat_natCast, hl]
  · unfold item getX getL
    rw [e, hr]
    dsimp only
    have e1 : (512 : Nat) + ((x.Data.2.length : Int)).toNat - 512 = x.Data.2.length := by rw [Int.toNat_natCast]; omega
    rw [List.drop_left' hh, e1, List.take_left' rfl]
    rfl
theorem has_ustar {x : T_api_Item} (h : Fits x) (n : Int) : ¬ Zs (header x n) := fun hz => by
  have : (117 : UInt8) ∈ header x n := by
    rw [header_blocks]
    exact List.mem_flatten.2 ⟨[117, 115, 116, 97, 114, 0, 48, 48] ++ List.replicate 64 0, by unfold blocks; simp, by simp⟩
  exact absurd (hz _ this) (by decide)
theorem goes_put {x : T_api_Item} (hw : wrong x = 0) (t : List UInt8) : goes (header x x.Data.2.length ++ t) := by
  have hh := header_len (wrong_0 hw).1 x.Data.2.length
  refine ⟨by rw [List.length_append, hh]; omega, ?_⟩
  rw [List.take_left' hh]
  exact has_ustar (wrong_0 hw).1 _
theorem many_cons (x : T_api_Item) (its : List T_api_Item) : many (x :: its) = putB x ++ many its := rfl
/-- What Write made is read. -/
theorem whole_back : ∀ (its : List T_api_Item), (∀ x ∈ its, wrong x = 0) → (arch (whole its)).1.map item = its.map plain ∧ (arch (whole its)).2 = 0
  | [], _ => by
    obtain ⟨n, hn⟩ : ∃ n : Nat, n = 1024 := ⟨_, rfl⟩
    have e : whole [] = List.replicate n 0 := by rw [hn]; rfl
    have hg : ¬ goes (List.replicate n (0 : UInt8)) := fun h => h.2 (by rw [List.take_replicate]; exact rep_zs _)
    have hk : endE (List.replicate n 0) = 0 := by
      unfold endE
      rw [List.length_replicate, if_neg (by omega), if_neg]
      rintro (h | h)
      · omega
      · exact h (rep_zs _)
    rw [e, arch_no hg, hk]
    exact ⟨rfl, rfl⟩
  | x :: its, h => by
    have hx := h x List.mem_cons_self
    obtain ⟨i1, i2⟩ := whole_back its fun y hy => h y (List.mem_cons_of_mem _ hy)
    have e : whole (x :: its) = putB x ++ whole its := by unfold whole; rw [many_cons, List.append_assoc]
    obtain ⟨p1, p2, p3⟩ := put_back hx (whole its)
    have hg : goes (putB x ++ whole its) := by
      have e2 : putB x ++ whole its = header x x.Data.2.length ++ (x.Data.2 ++ List.replicate (padn (512 + x.Data.2.length)) 0 ++ whole its) := by
        unfold putB
        simp only [List.append_assoc]
      rw [e2]
      exact goes_put hx _
    rw [e, arch_go hg p1, p2, List.drop_left' rfl]
    exact ⟨by rw [List.map_cons, List.map_cons, p3, i1], i2⟩
/-- What is cut off is told. -/
theorem whole_cut : ∀ (its : List T_api_Item), (∀ x ∈ its, wrong x = 0) → ∀ n, n < (whole its).length → (arch ((whole its).take n)).2 = 1
  | [], _, n, hn => by
    have e : whole [] = List.replicate 1024 0 := rfl
    rw [e, List.length_replicate] at hn
    have e2 : (whole []).take n = List.replicate n 0 := by rw [e, List.take_replicate, Nat.min_eq_left (by omega)]
    have hg : ¬ goes (List.replicate n (0 : UInt8)) := fun h => h.2 (by rw [List.take_replicate]; exact rep_zs _)
    rw [e2, arch_no hg]
    have hk : endE (List.replicate n 0) = 1 := by
      unfold endE
      rw [List.length_replicate, if_pos hn]
    exact hk
  | x :: its, h, n, hn => by
    have hx := h x List.mem_cons_self
    have ih := whole_cut its fun y hy => h y (List.mem_cons_of_mem _ hy)
    have e : whole (x :: its) = putB x ++ whole its := by unfold whole; rw [many_cons, List.append_assoc]
    have hl := putB_len hx
    have hh := header_len (wrong_0 hx).1 x.Data.2.length
    have ep : putB x = header x x.Data.2.length ++ (x.Data.2 ++ List.replicate (padn (512 + x.Data.2.length)) 0) := by unfold putB; rw [List.append_assoc]
    rw [e] at hn ⊢
    rw [List.length_append] at hn
    by_cases h1 : (putB x).length ≤ n
    · have e2 : (putB x ++ whole its).take n = putB x ++ (whole its).take (n - (putB x).length) := by rw [List.take_append, List.take_of_length_le h1]
      obtain ⟨p1, p2, p3⟩ := put_back hx ((whole its).take (n - (putB x).length))
      have hg : goes (putB x ++ (whole its).take (n - (putB x).length)) := by
        rw [ep, List.append_assoc]
        exact goes_put hx _
      rw [e2, arch_go hg p1, p2, List.drop_left' rfl]
      exact ih _ (by omega)
    · have e2 : (putB x ++ whole its).take n = (putB x).take n := List.take_append_of_le_length (by omega)
      rw [e2]
      by_cases h5 : n < 512
      · have hlen : ((putB x).take n).length = n := by rw [List.length_take]; omega
        have hg : ¬ goes ((putB x).take n) := fun h => by have := h.1; omega
        rw [arch_no hg]
        have hk : endE ((putB x).take n) = 1 := by
          unfold endE
          rw [if_pos (by omega)]
        exact hk
      · have e3 : (putB x).take n = header x x.Data.2.length ++ (x.Data.2 ++ List.replicate (padn (512 + x.Data.2.length)) 0).take (n - 512) := by
          rw [ep, List.take_append, List.take_of_length_le (by omega), hh]
        have hg := goes_put hx ((x.Data.2 ++ List.replicate (padn (512 + x.Data.2.length)) 0).take (n - 512))
        have hE := getE_made hx ((x.Data.2 ++ List.replicate (padn (512 + x.Data.2.length)) 0).take (n - 512))
        rw [if_pos (by rw [List.length_take]; omega)] at hE
        rw [e3, arch_err hg (by rw [hE]; decide)]
        exact hE
end A
end Go.Proofs.YteeepkimnpabiaaDoor
