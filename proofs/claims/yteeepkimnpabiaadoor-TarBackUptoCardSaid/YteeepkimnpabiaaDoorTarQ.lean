/-
  Archives in plain terms: what is taken is what would be made.
-/
import Derived.Test.YteeepkimnpabiaaDoorTarJ
namespace Go.Proofs.YteeepkimnpabiaaDoor
open Go
set_option linter.unusedSimpArgs false
set_option linter.unnecessarySimpa false
set_option linter.unusedSectionVars false
set_option linter.unusedVariables false
namespace A

theorem getE_0 {l : List UInt8} (h : getE l = 0) : 512 ≤ l.length ∧ Told l ∧ wrong (readTo l 12).1 = 0 ∧ ¬ ((readTo l 12).1.Kind ≠ 0 ∧ 0 < (readTo l 12).2) ∧ header (readTo l 12).1 (readTo l 12).2 = l.take 512 ∧
    512 + (readTo l 12).2.toNat + padn (readTo l 12).2.toNat ≤ l.length ∧ Zs ((l.drop (512 + (readTo l 12).2.toNat)).take (512 + (readTo l 12).2.toNat + padn (readTo l 12).2.toNat - (512 + (readTo l 12).2.toNat))) := by
  unfold getE at h
  split at h
  · omega
  · rename_i h1
    split at h
    · omega
    · rename_i h2
      unfold getE2 at h
      split at h
      · omega
      · rename_i h3
        split at h
        · omega
        · rename_i h4
          split at h
          · rename_i h5
            refine ⟨by omega, Classical.byContradiction h2, Decidable.not_not.1 fun e => h3 (.inl e), fun e => h3 (.inr (.inl e)), Decidable.not_not.1 fun e => h3 (.inr (.inr e)), by omega, h5⟩
          · omega

theorem wrong_intro {x : T_api_Item} (k0 : 0 ≤ x.Kind) (k3 : x.Kind < 3) (hl : x.Kind ≠ 2 → x.Link = []) (hd : x.Kind ≠ 0 → x.Data.2 = []) (hp : (parted x.Name).2.2 = true) (hl2 : x.Kind = 2 → 0 < x.Link.length ∧ x.Link.length ≤ 100 ∧ ¬ 0 ∈ x.Link)
    (m0 : 0 ≤ x.Mode) (m1 : x.Mode < 4096) (t0 : 0 ≤ x.Time) (t1 : x.Time < 8589934592) (d1 : x.Data.2.length < 8589934592) : wrong x = 0 := by
  unfold wrong
  rw [if_neg, if_neg, if_neg]
  · omega
  · rintro (h | ⟨h1, h2⟩)
    · rw [hp] at h; cases h
    · obtain ⟨a, b, c⟩ := hl2 h1
      rcases h2 with h2 | h2 | h2
      · omega
      · omega
      · exact c h2
  · rintro (h | h | ⟨h1, h2⟩ | ⟨h1, h2⟩)
    · omega
    · omega
    · rw [hl h1] at h2; exact h2 rfl
    · rw [hd h1] at h2; simp at h2
theorem header_data (x : T_api_Item) (d : Sl × List UInt8) (n : Int) : header { x with Data := d } n = header x n := by
  obtain ⟨a, b, c, e, f, g⟩ := x
  rfl
theorem padn_512 (n : Nat) : padn (512 + n) = padn n := by unfold padn; omega
theorem zs_rep {l : List UInt8} (h : Zs l) : l = List.replicate l.length 0 := List.eq_replicate_iff.2 ⟨rfl, h⟩
theorem rep_zs (n : Nat) : Zs (List.replicate n 0) := fun b hb => (List.mem_replicate.1 hb).2

theorem len_seg {l : List UInt8} {a c : Nat} (h : a + c ≤ l.length) : ((l.drop a).take (a + c - a)).length = c := by
  rw [List.length_take, List.length_drop]
  omega
/-- What Get takes is right, and its bytes are what Put makes. -/
theorem got {l : List UInt8} (h : getE l = 0) (s : Sl) : wrong (getX l s) = 0 ∧ putB (getX l s) = l.take (getN l) := by
  obtain ⟨h1, _, hw, hk, hh, hlen, hz⟩ := getE_0 h
  obtain ⟨b1, b2, b3, b4, b5⟩ := readTo_bd h1
  unfold getX getN getL
  obtain ⟨hf, k0, k3, m0, m1, t0, t1, _, hp, hl2, hl, _⟩ := wrong_0 hw
  generalize readTo l 12 = p at *
  obtain ⟨x, n⟩ := p
  dsimp only at *
  obtain ⟨nn, rfl⟩ : ∃ nn : Nat, n = nn := ⟨n.toNat, by omega⟩
  rw [Int.toNat_natCast] at *
  have hdl : ((l.drop 512).take (512 + nn - 512)).length = nn := by rw [List.length_take, List.length_drop]; omega
  constructor
  · refine wrong_intro k0 k3 hl (fun hk0 => ?_) hp hl2 m0 m1 t0 t1 ?_
    · have : nn = 0 := Decidable.byContradiction fun hn => hk ⟨hk0, by omega⟩
      subst this
      exact List.length_eq_zero_iff.1 hdl
    · dsimp only
      rw [hdl]
      omega
  · unfold putB
    rw [header_data]
    dsimp only
    rw [hdl, hh, padn_512]
    have e1 : (l.drop (512 + nn)).take (512 + nn + padn nn - (512 + nn)) = List.replicate (padn nn) 0 := by
      have := zs_rep hz
      rw [len_seg hlen] at this
      exact this
    rw [← e1, show 512 + nn - 512 = nn from by omega, show 512 + nn + padn nn - (512 + nn) = padn nn from by omega]
    rw [List.take_add, List.take_add]

theorem putB_plain (x : T_api_Item) : putB (plain x) = putB x := by
  unfold putB plain
  rw [header_data]
theorem wrong_plain (x : T_api_Item) : wrong (plain x) = wrong x := by
  obtain ⟨a, b, c, e, f, g⟩ := x
  rfl
theorem same_plain {x y : T_api_Item} : same x y ↔ plain x = plain y := by
  obtain ⟨a, b, c, e, f, g⟩ := x
  obtain ⟨a', b', c', e', f', g'⟩ := y
  simp [same, plain]

/-- An archive of items. -/
def many (its : List T_api_Item) : List UInt8 := (its.map putB).flatten
def whole (its : List T_api_Item) : List UInt8 := many its ++ List.replicate 1024 0
/-- The first error. -/
def werr : List T_api_Item → Int
  | [] => 0
  | x :: r => if wrong x = 0 then werr r else wrong x
theorem many_plain {a b : List T_api_Item} (h : a.map plain = b.map plain) : many a = many b := by
  have e : ∀ l : List T_api_Item, many l = ((l.map plain).map putB).flatten := fun l => by
    unfold many
    rw [List.map_map]
    exact congrArg List.flatten (List.map_congr_left fun x _ => (putB_plain x).symm)
  rw [e, e, h]

theorem arch_sole : ∀ (l : List UInt8), (∀ m ∈ (arch l).1, getE m = 0) ∧ ((arch l).2 = 0 → l = many ((arch l).1.map item) ++ List.replicate 1024 0) := by
  refine arch_ind fun l ih => ?_
  by_cases hg : goes l
  · by_cases he : getE l = 0
    · obtain ⟨i1, i2⟩ := ih hg he
      obtain ⟨h1, h2⟩ := got he ⟨none, 0⟩
      rw [arch_go hg he]
      dsimp only
      refine ⟨fun m hm => ?_, fun h => ?_⟩
      · rcases List.mem_cons.1 hm with rfl | hm
        · exact he
        · exact i1 m hm
      · have e : many ((l :: (arch (l.drop (getN l))).1).map item) = l.take (getN l) ++ many ((arch (l.drop (getN l))).1.map item) := by
          unfold many
          rw [List.map_cons, List.map_cons, List.flatten_cons]
          unfold item
          rw [h2]
        rw [e, List.append_assoc, ← i2 h, List.take_append_drop]
    · rw [arch_err hg he]
      exact ⟨fun m hm => (by cases hm), fun h => absurd h he⟩
  · rw [arch_no hg]
    refine ⟨fun m hm => (by cases hm), fun h => ?_⟩
    have h : endE l = 0 := h
    unfold endE at h
    split at h
    · omega
    · rename_i h1
      split at h
      · omega
      · rename_i h2
        have hz : Zs l := Decidable.not_not.1 fun e => h2 (.inr e)
        have hl : l.length = 1024 := by
          have : ¬ 1024 < l.length := fun e => h2 (.inl e)
          omega
        rw [← hl]
        exact zs_rep hz
end A
end Go.Proofs.YteeepkimnpabiaaDoor
