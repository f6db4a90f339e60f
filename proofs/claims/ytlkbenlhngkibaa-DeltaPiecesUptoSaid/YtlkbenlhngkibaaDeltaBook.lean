/-
  The book looked at: held.
-/
import Derived.Test.YtlkbenlhngkibaaDeltaHeld
namespace Go.Proofs.Ytlkbenlhngkibaa
open Go

/-- An entry after the second turn: the left ones are written full. -/
def Hd.Written (h : Hd) : Prop := h.n ≤ 140737488355000 ∧ if h.kept then h.l = List.replicate h.n h.mark else h.l = List.replicate (h.n + 3) h.mark
/-- An entry after the third turn: all are lengthened. -/
def Hd.Grown (h : Hd) : Prop := h.n ≤ 140737488355000 ∧ h.l = List.replicate (h.n + 3) h.mark

def flat (hs : List Hd) : List Value := (hs.map Hd.cells).flatten
theorem flat_len (hs : List Hd) : (flat hs).length = hs.length * 5 := flat_length _ 5 Hd.cells_length hs
theorem flat_get (hs : List Hd) (i : Nat) (h : Hd) (hi : hs[i]? = some h) : ((flat hs).drop (i * 5)).take 5 = h.cells := flat_at _ 5 Hd.cells_length hs i h hi
theorem flat_put (hs : List Hd) (i : Nat) (h : Hd) (hi : i < hs.length) : ((flat hs).take (i * 5)) ++ h.cells ++ ((flat hs).drop (i * 5 + 5)) = flat (hs.set i h) := flat_set _ 5 Hd.cells_length hs i h hi
theorem flat_put' (hs : List Hd) (i : Nat) (h : Hd) (c : List Value) (hi : hs[i]? = some h) (hc : h.cells = c) (h' : Hd) (hc' : h'.cells = c) : flat (hs.set i h') = flat hs := by
  unfold flat
  rw [List.map_set, hc']
  congr 1
  apply List.ext_getElem?
  intro j
  rw [List.getElem?_set]
  split
  · rename_i e
    subst e
    have : i < hs.length := (List.getElem?_eq_some_iff.1 hi).1
    have e2 := (List.getElem?_eq_some_iff.1 hi).2
    simp [this, ← hc, e2]
  · rfl
theorem flat_snoc (hs : List Hd) (h : Hd) : flat (hs ++ [h]) = flat hs ++ h.cells := by simp [flat]

section
variable {E w : World} {L : List HA} {Q : Value → World → Prop} {A : HA}

theorem turn_at (P R : Hd → Prop) (hs : List Hd) (k : Nat) (hst : ∀ j h, hs[j]? = some h → if j < k then R h else P h) (h' : Hd) (hR : R h') : ∀ j h, (hs.set k h')[j]? = some h → if j < k + 1 then R h else P h := by
  intro j h e
  rw [List.getElem?_set] at e
  by_cases hjk : k = j
  · subst hjk
    rw [if_pos rfl] at e
    split at e
    · cases e; rw [if_pos (by omega)]; exact hR
    · cases e
  · rw [if_neg hjk] at e
    have := hst j h e
    by_cases hj : j < k
    · rw [if_pos hj] at this; rw [if_pos (by omega)]; exact this
    · rw [if_neg hj] at this; rw [if_neg (by omega)]; exact this

theorem turn_same (P R : Hd → Prop) (hs : List Hd) (k : Nat) (hst : ∀ j h, hs[j]? = some h → if j < k then R h else P h) (hR : ∀ h, hs[k]? = some h → R h) : ∀ j h, hs[j]? = some h → if j < k + 1 then R h else P h := by
  intro j h e
  have := hst j h e
  by_cases hjk : k = j
  · subst hjk
    rw [if_pos (by omega)]; exact hR h e
  · by_cases hj : j < k
    · rw [if_pos hj] at this; rw [if_pos (by omega)]; exact this
    · rw [if_neg hj] at this; rw [if_neg (by omega)]; exact this

theorem held_ok (hs : List Hd) {B : HA} {x : Value} (hS : Sat E w (bag (hs.map Hd.part) :: L)) (i : Nat) (hi : L[i]? = some B) (hB : RdA B 5 x hs.length (flat hs)) (hlen : hs.length ≤ 1000000000000) (hh : ∀ h ∈ hs, h.Held)
    (hQ : ∀ w', Sat E w' L → Q (.bool true) w') :
    Calls Try.prog 16 #[x] w (retP Q) := by
  refine pithlaw19_held.calls ?_
  unfold pithlaw19_held.F
  obtain ⟨_, ao, cap, rfl, _⟩ := hS.rd (i + 1) (by simpa using hi) hB
  try simp (disch := omega) only [go_sem]
  refine ⟨fun y v w' => ∃ k : Nat, v = .int .i64 k ∧ k ≤ hs.length ∧ Sat E w' (own 40 5 y k (flat (hs.take k)) :: bag (hs.map Hd.part) :: L), fun _ v _ => hs.length - (RowKit.intOf v).toNat, ⟨0, rfl, Nat.zero_le _, hS.nil _ _⟩, ?_⟩
  rintro _ y _ w1 ⟨k, rfl, hk, hS1⟩
  by_cases hlt : k < hs.length
  · try simp (disch := omega) only [go_sem]
    obtain ⟨h, hk2⟩ : ∃ h, hs[k]? = some h := ⟨hs[k], by simp [hlt]⟩
    have hheld := hh h (List.mem_of_getElem? hk2)
    refine pN_idx_n un_sl_pithlaw19_Held sz_pithlaw19_Held (hS1.rd (i + 2) (by simpa using hi) hB) (by omega) (by omega) fun p hp => ?_
    rw [Int.toNat_natCast, flat_get hs k h hk2] at hp
    refine pN_ld_n ag_pithlaw19_Held sz_pithlaw19_Held rfl hp ?_
    refine pN_alloc zv_pithlaw19_Held hS1 fun a w2 hS2 => ?_
    have hpart : Sat E w2 [h.part] := (Sat.front hS2 2 rfl).bag_get k (by simp [hk2])
    have hr := hpart.rd 0 rfl RdA.own
    have h1 := hr.one
    refine pN_st_all hS2 sz_pithlaw19_Held rfl (Hd.ones h h1) rfl fun w3 hS3 => ?_
    have hpart : Sat E w3 [h.part] := (Sat.front hS3 2 rfl).bag_get k (by simp [hk2])
    have hr := hpart.rd 0 rfl RdA.own
    try simp (disch := omega) only [go_sem]
    refine pN_ld na_bool (hS3.cellv 0 rfl 4 rfl) ?_
    have eq : h.kept = true → h.l = h.want := fun e => by have := hheld.2; rw [if_pos e] at this; exact this.1
    rcases hkp : h.kept with _ | _
    all_goals first
      | (have eq := eq hkp
         simp only [go_sem]
         refine pN_ld na_sl_uint8 (hS3.cellv 0 rfl 0 rfl) ?_
         simp only [go_sem, pN_str_sl_uint8 hr]
         refine pN_ld na_string (hS3.cellv 0 rfl 3 rfl) ?_
         simp only [go_sem, eq, beq_self_eq_true, Bool.not_true])
      | simp only [go_sem]
    all_goals
      refine pN_ld_all ag_pithlaw19_Held sz_pithlaw19_Held rfl (hS3.blk_at 0 rfl) ?_
      refine pN_bs st_sl_pithlaw19_Held (cells := h.cells.toArray) (by omega) (by omega) (by kernel_rfl) rfl hS3 fun c w4 hS4 => ?_
      refine pN_append st_sl_pithlaw19_Held (hS4.ord [2, 0, 1] rfl rfl) ((hS4.ord [2, 0, 1] rfl rfl).rd 1 rfl RdA.own) (Hd.ones h h1) (by omega) (by omega) fun y w5 hS5 => ?_
      have hS6 := (hS5.ord [1, 2, 0] rfl rfl).drop.drop
      try simp (disch := omega) only [go_sem]
      refine ⟨⟨k + 1, by simp, by omega, ?_⟩, by simp [RowKit.intOf]; omega⟩
      rw [List.take_add_one, hk2, Option.toList_some, flat_snoc]
      exact hS6
  obtain rfl : k = hs.length := by omega
  rw [List.take_length] at hS1
  have hry := fun w (h : Sat E w (own 40 5 y hs.length (flat hs) :: L)) => h.rd 0 rfl RdA.own
  simp (disch := omega) only [go_sem, pN_len_sl_pithlaw19_Held_rd _ _ (hS1.rd 0 rfl RdA.own)]
  generalize hn : hs.length = n at *
  refine ⟨fun v w' => ∃ (k : Nat) (hs' : List Hd), v = .int .i64 k ∧ hs'.length = n ∧ k ≤ n ∧ flat hs' = flat hs ∧ (∀ j h, hs'[j]? = some h → if j < k then h.Written else h.Held) ∧
    Sat E w' (own 40 5 y n (flat hs) :: bag (hs'.map Hd.part) :: L), fun v _ => n - (RowKit.intOf v).toNat,
    ⟨0, hs, rfl, hn, Nat.zero_le _, rfl, fun j h e => (by rw [if_neg (by omega)]; exact hh h (List.mem_of_getElem? e)), hS1⟩, ?_⟩
  rintro _ _ w2 ⟨k, hs2, rfl, hn2, hk, hfl, hst, hS2⟩
  by_cases hlt : k < n
  · try simp (disch := omega) only [go_sem]
    obtain ⟨h, hk2⟩ : ∃ h, hs2[k]? = some h := ⟨hs2[k], by simp [hlt, hn2]⟩
    have hheld := hst k h hk2
    rw [if_neg (by omega)] at hheld
    refine ⟨fun w' => ∃ (hs' : List Hd), hs'.length = n ∧ flat hs' = flat hs ∧ (∀ j h, hs'[j]? = some h → if j < k + 1 then h.Written else h.Held) ∧ Sat E w' (own 40 5 y n (flat hs) :: bag (hs'.map Hd.part) :: L), ?_, ?_⟩
    · refine pN_idx_n un_sl_pithlaw19_Held sz_pithlaw19_Held (hS2.rd 0 rfl RdA.own) (by omega) (by omega) fun p hp => ?_
      rw [Int.toNat_natCast, ← hfl, flat_get hs2 k h hk2] at hp
      refine pN_ld_n ag_pithlaw19_Held sz_pithlaw19_Held rfl hp ?_
      refine pN_alloc zv_pithlaw19_Held hS2 fun a w3 hS3 => ?_
      have h1 : h.v.oneCell' = true := (((hS3.front 2 rfl).bag_get (A := h.part) k (by simp [hk2])).rd 0 rfl RdA.own).one
      refine pN_st_all hS3 sz_pithlaw19_Held rfl (Hd.ones h h1) rfl fun w4 hS4 => ?_
      try simp (disch := omega) only [go_sem]
      refine pN_ld na_bool (hS4.cellv 0 rfl 4 rfl) ?_
      rcases hkp : h.kept with _ | _
      · try simp (disch := omega) only [go_sem]
        refine ⟨hs2, hn2, hfl, turn_same Hd.Held Hd.Written hs2 k hst fun h' e => ?_, hS4.drop⟩
        rw [hk2] at e
        cases e
        exact ⟨hheld.1, by have := hheld.2; rw [hkp] at this ⊢; simpa using this⟩
      · try simp (disch := omega) only [go_sem]
        refine pN_ld_all ag_pithlaw19_Held sz_pithlaw19_Held rfl (hS4.blk_at 0 rfl) ?_
        have hw := hheld.2
        rw [if_pos hkp] at hw
        refine pN_callQ call_pithlaw19_Held_written (written_ok h ((hS4.ord [2, 0, 1] rfl rfl).out k (by simp [hk2])) (by omega) (by have := hheld.1; omega) fun w5 hS5 => ?_)
        refine ⟨hs2.set k { h with l := List.replicate h.n h.mark ++ h.l.drop h.n }, by simpa using hn2, ?_, turn_at Hd.Held Hd.Written hs2 k hst _ ⟨hheld.1, ?_⟩, ?_⟩
        · exact (flat_put' hs2 k h h.cells hk2 rfl { h with l := List.replicate h.n h.mark ++ h.l.drop h.n } rfl).trans hfl
        · simp only [hkp, if_true]
          rw [← hw.2, List.drop_length, List.append_nil]
        · rw [List.map_set]
          exact ((hS5.into (by simp [hk2] : (hs2.map Hd.part)[k]? = some h.part)).ord [1, 2, 0] rfl rfl).drop
    · rintro _ w3 ⟨hs3, hn3, hfl3, hst3, hS3⟩
      try simp (disch := omega) only [go_sem]
      exact ⟨⟨k + 1, hs3, by simp, hn3, by omega, hfl3, hst3, hS3⟩, by simp [RowKit.intOf]; omega⟩
  obtain rfl : k = n := by omega
  simp (disch := omega) only [go_sem, pN_len_sl_pithlaw19_Held_rd _ _ (hS2.rd 0 rfl RdA.own)]
  refine ⟨fun v w' => ∃ (j : Nat) (hs' : List Hd), v = .int .i64 j ∧ hs'.length = k ∧ j ≤ k ∧ (∀ i h, hs'[i]? = some h → if i < j then h.Grown else h.Written) ∧
    Sat E w' (own 40 5 y k (flat hs') :: bag (hs'.map Hd.part) :: L), fun v _ => k - (RowKit.intOf v).toNat,
    ⟨0, hs2, rfl, hn2, Nat.zero_le _, fun j h e => ?_, ?_⟩, ?_⟩
  · have := hst j h e
    have hj : j < hs2.length := (List.getElem?_eq_some_iff.1 e).1
    rw [if_pos (by omega)] at this
    rw [if_neg (by omega)]
    exact this
  · rw [hfl]; exact hS2
  rintro _ _ w3 ⟨j, hs3, rfl, hn3, hj, hst3, hS3⟩
  by_cases hlt : j < k
  · try simp (disch := omega) only [go_sem]
    obtain ⟨h, hk3⟩ : ∃ h, hs3[j]? = some h := ⟨hs3[j], by simp [hlt, hn3]⟩
    have hheld := hst3 j h hk3
    rw [if_neg (by omega)] at hheld
    refine ⟨fun w' => ∃ (hs' : List Hd), hs'.length = k ∧ (∀ i h, hs'[i]? = some h → if i < j + 1 then h.Grown else h.Written) ∧ Sat E w' (own 40 5 y k (flat hs') :: bag (hs'.map Hd.part) :: L), ?_, ?_⟩
    · refine pN_idx_n un_sl_pithlaw19_Held sz_pithlaw19_Held (hS3.rd 0 rfl RdA.own) (by omega) (by omega) fun p hp => ?_
      rw [Int.toNat_natCast, flat_get hs3 j h hk3] at hp
      refine pN_ld_n ag_pithlaw19_Held sz_pithlaw19_Held rfl hp ?_
      refine pN_alloc zv_pithlaw19_Held hS3 fun a w4 hS4 => ?_
      have h1 : h.v.oneCell' = true := (((hS4.front 2 rfl).bag_get (A := h.part) j (by simp [hk3])).rd 0 rfl RdA.own).one
      refine pN_st_all hS4 sz_pithlaw19_Held rfl (Hd.ones h h1) rfl fun w5 hS5 => ?_
      try simp (disch := omega) only [go_sem]
      refine pN_ld na_bool (hS5.cellv 0 rfl 4 rfl) ?_
      rcases hkp : h.kept with _ | _
      · try simp (disch := omega) only [go_sem]
        refine ⟨hs3, hn3, turn_same Hd.Written Hd.Grown hs3 j hst3 fun h' e => ?_, hS5.drop⟩
        rw [hk3] at e
        cases e
        exact ⟨hheld.1, by have := hheld.2; rw [hkp] at this; simpa using this⟩
      · try simp (disch := omega) only [go_sem]
        refine pN_ld_all ag_pithlaw19_Held sz_pithlaw19_Held rfl (hS5.blk_at 0 rfl) ?_
        have hw := hheld.2
        rw [if_pos hkp] at hw
        have hb := hheld.1
        refine pN_callQ call_pithlaw19_Held_grown (grown_ok h ((hS5.ord [2, 0, 1] rfl rfl).out j (by simp [hk3])) (by rw [hw, List.length_replicate]; omega) fun v' w6 hS6 => ?_)
        have h2 : v'.oneCell' = true := (hS6.rd 0 rfl RdA.own).one
        have hS7 := ((hS6.into (by simp [hk3] : (hs3.map Hd.part)[j]? = some h.part)).ord [1, 2, 0] rfl rfl).drop
        refine pN_idx_own_n un_sl_pithlaw19_Held sz_pithlaw19_Held (hS7.own_at 0 rfl) (by omega) (by omega) fun g cp hv => ?_
        subst hv
        rw [Int.toNat_natCast]
        refine pN_st_own_n hS7 sz_pithlaw19_Held rfl rfl (Hd.ones { h with v := v' } h2) hlt fun w7 hS8 => ?_
        refine ⟨hs3.set j { h with v := v', l := h.l ++ List.replicate 3 h.mark }, by simpa using hn3, turn_at Hd.Written Hd.Grown hs3 j hst3 _ ⟨hb, ?_⟩, ?_⟩
        · simp only [hw, List.replicate_append_replicate]
        · rw [List.map_set, ← flat_put hs3 j _ (by omega)]
          exact hS8
    · rintro _ w4 ⟨hs4, hn4, hst4, hS4⟩
      try simp (disch := omega) only [go_sem]
      exact ⟨⟨j + 1, hs4, by simp, hn4, by omega, hst4, hS4⟩, by simp [RowKit.intOf]; omega⟩
  obtain rfl : j = k := by omega
  simp (disch := omega) only [go_sem, pN_len_sl_pithlaw19_Held_rd _ _ (hS3.rd 0 rfl RdA.own)]
  have hall : ∀ (i : Nat) (h : Hd), hs3[i]? = some h → h.Grown := fun i h e => by
    have := hst3 i h e
    have hj : i < hs3.length := (List.getElem?_eq_some_iff.1 e).1
    rwa [if_pos (by omega)] at this
  refine ⟨fun v w' => ∃ (k : Nat), v = .int .i64 k ∧ k ≤ j ∧ Sat E w' (own 40 5 y j (flat hs3) :: bag (hs3.map Hd.part) :: L), fun v _ => j - (RowKit.intOf v).toNat,
    ⟨0, rfl, Nat.zero_le _, hS3⟩, ?_⟩
  rintro _ _ w4 ⟨k, rfl, hk4, hS4⟩
  by_cases hlt4 : k < j
  · try simp (disch := omega) only [go_sem]
    obtain ⟨h, hk5⟩ : ∃ h, hs3[k]? = some h := ⟨hs3[k], by simp [hlt4, hn3]⟩
    obtain ⟨hb, hl⟩ := hall k h hk5
    refine pN_idx_n un_sl_pithlaw19_Held sz_pithlaw19_Held (hS4.rd 0 rfl RdA.own) (by omega) (by omega) fun p hp => ?_
    rw [Int.toNat_natCast, flat_get hs3 k h hk5] at hp
    refine pN_ld_n ag_pithlaw19_Held sz_pithlaw19_Held rfl hp ?_
    refine pN_alloc zv_pithlaw19_Held hS4 fun a w5 hS5 => ?_
    have h1 : h.v.oneCell' = true := (((hS5.front 2 rfl).bag_get (A := h.part) k (by simp [hk5])).rd 0 rfl RdA.own).one
    refine pN_st_all hS5 sz_pithlaw19_Held rfl (Hd.ones h h1) rfl fun w6 hS6 => ?_
    have hr : ∀ w', Sat E w' (blk a (.cells h.cells.toArray 40 (0, 0)) :: own 40 5 y j (flat hs3) :: bag (hs3.map Hd.part) :: L) → Rd w' 1 h.v (h.n + 3) (bvs (List.replicate (h.n + 3) h.mark)) := fun w' hw => by
      have := (((hw.front 2 rfl).bag_get (A := h.part) k (by simp [hk5])).rd 0 rfl RdA.own)
      rwa [hl, List.length_replicate] at this
    try simp (disch := omega) only [go_sem]
    refine pN_ld na_sl_uint8 (hS6.cellv 0 rfl 0 rfl) ?_
    simp (disch := omega) only [go_sem, pN_len_sl_uint8_rd _ _ (hr _ hS6)]
    refine pN_ld na_int (hS6.cellv 0 rfl 1 rfl) ?_
    try simp (disch := omega) only [go_sem]
    refine pN_ld na_sl_uint8 (hS6.cellv 0 rfl 0 rfl) ?_
    simp (disch := omega) only [go_sem, pN_len_sl_uint8_rd _ _ (hr _ hS6)]
    refine ⟨fun v w' => ∃ (q : Nat), v = .int .i64 q ∧ q ≤ h.n + 3 ∧ Sat E w' (blk a (.cells h.cells.toArray 40 (0, 0)) :: own 40 5 y j (flat hs3) :: bag (hs3.map Hd.part) :: L), fun v _ => h.n + 3 - (RowKit.intOf v).toNat,
      ⟨0, rfl, Nat.zero_le _, hS6⟩, ?_⟩
    rintro _ _ w7 ⟨q, rfl, hq, hS7⟩
    by_cases hlq : q < h.n + 3
    · try simp (disch := omega) only [go_sem]
      refine pN_idx un_sl_uint8 sz_uint8 (hr _ hS7) (by omega) (by omega) fun p2 hp2 => ?_
      rw [Int.toNat_natCast, bvs_getD0 _ _ (by simpa using hlq)] at hp2
      refine pN_ld na_uint8 hp2 ?_
      refine pN_ld na_uint8 (hS7.cellv 0 rfl 2 rfl) ?_
      have e : (List.replicate (h.n + 3) h.mark).getD q 0 = h.mark := by simp [hlq]
      rw [e]
      simp (disch := omega) only [go_sem, bne_self_eq_false]
      exact ⟨⟨q + 1, by simp, by omega, hS7⟩, by simp [RowKit.intOf]; omega⟩
    · try simp (disch := omega) only [go_sem]
      exact ⟨⟨k + 1, by simp, by omega, hS7.drop⟩, by simp [RowKit.intOf]; omega⟩
  · try simp (disch := omega) only [go_sem]
    exact hQ _ hS4.drop.drop
end

end Go.Proofs.Ytlkbenlhngkibaa
