/-
  The book of answered lists: written, grown, hold.
-/
import Derived.Test.YtlkbenlhngkibaaLift
import Derived.Test.YtlkbenlhngkibaaAgg
namespace Go.Proofs.Ytlkbenlhngkibaa
open Go

/-- An entry of the book: the list's value, what is in it, how long it was answered, its mark, what was answered, and whether it was left. -/
structure Hd where
  v : Value
  l : List UInt8
  n : Nat
  mark : UInt8
  want : List UInt8
  kept : Bool

def Hd.cells (h : Hd) : List Value := [h.v, .int .i64 h.n, bv h.mark, .string ⟨h.want.toArray⟩, .bool h.kept]
def Hd.part (h : Hd) : HA := own 5 1 h.v h.l.length (bvs h.l)
theorem Hd.cells_length (h : Hd) : h.cells.length = 5 := rfl

theorem Hd.ones (h : Hd) (h1 : h.v.oneCell' = true) : ∀ u ∈ h.cells, u.oneCell' = true :=
  List.forall_mem_cons.2 ⟨h1, List.forall_mem_cons.2 ⟨rfl, List.forall_mem_cons.2 ⟨rfl, List.forall_mem_cons.2 ⟨rfl, List.forall_mem_cons.2 ⟨rfl, fun _ h => by cases h⟩⟩⟩⟩⟩

theorem set_fill (k : Nat) (m : UInt8) (l : List UInt8) (hk : k < l.length) : (List.replicate k m ++ l.drop k).set k m = List.replicate (k + 1) m ++ l.drop (k + 1) := by
  rw [List.set_append_right _ _ (by simp)]
  simp only [List.length_replicate, Nat.sub_self]
  rw [List.drop_eq_getElem_cons hk, List.set_cons_zero, List.replicate_succ']
  simp

section
variable {E w : World} {L : List HA} {Q : Value → World → Prop} {A : HA}

theorem written_ok (h : Hd) (hS : Sat E w (h.part :: L)) (hn : h.n ≤ h.l.length) (hb : h.l.length ≤ 281474976710656)
    (hQ : ∀ w', Sat E w' (Hd.part { h with l := List.replicate h.n h.mark ++ h.l.drop h.n } :: L) → Q (.tuple #[]) w') :
    Calls Try.prog 23 #[.agg h.cells.toArray] w (retP Q) := by
  obtain ⟨v, l, n, mark, want, kept⟩ := h
  simp only [Hd.part, Hd.cells] at *
  refine pithlaw19_Held_written.calls ?_
  unfold pithlaw19_Held_written.F
  refine pN_box hS fun a w1 hS1 => ?_
  have e0 : (List.replicate n mark ++ l.drop n).length = l.length := by simp; omega
  rw [e0] at hQ
  refine ⟨fun v' w' => ∃ k : Nat, v' = .int .i64 k ∧ k ≤ n ∧ Sat E w' (own 5 1 v l.length (bvs (List.replicate k mark ++ l.drop k)) :: blk a (.cells #[v, .int .i64 n, bv mark, .string ⟨want.toArray⟩, .bool kept] 40 (0, 0)) :: L),
    fun v' _ => n - (RowKit.intOf v').toNat, ⟨0, rfl, Nat.zero_le _, by simpa [Value.cells] using hS1.ord [1, 0] rfl rfl⟩, ?_⟩
  rintro _ _ w2 ⟨k, rfl, hk, hS2⟩
  try simp (disch := omega) only [go_sem]
  refine pN_ld na_int (hS2.cellv 1 rfl 1 rfl) ?_
  by_cases hlt : k < n
  · try simp (disch := omega) only [go_sem]
    refine pN_ld na_sl_uint8 (hS2.cellv 1 rfl 0 rfl) ?_
    try simp (disch := omega) only [go_sem]
    refine pN_ld na_uint8 (hS2.cellv 1 rfl 2 rfl) ?_
    refine pN_idx_own un_sl_uint8 sz_uint8 (hS2.own_at 0 rfl) (by omega) (by omega) fun g cp hv => ?_
    subst hv
    refine pN_st_own hS2 sz_uint8 rfl (by rw [bvs_length]; simp; omega) fun w3 hS3 => ?_
    rw [Int.toNat_natCast, bvs_set, set_fill k mark l (by omega)] at hS3
    try simp (disch := omega) only [go_sem]
    exact ⟨⟨k + 1, by simp, by omega, hS3⟩, by simp [RowKit.intOf]; omega⟩
  · obtain rfl : k = n := by omega
    try simp (disch := omega) only [go_sem]
    exact hQ _ ((hS2.front 1 rfl).drop)

theorem grown_ok (h : Hd) (hS : Sat E w (h.part :: L)) (hb : h.l.length + 3 ≤ 140737488355328)
    (hQ : ∀ v' w', Sat E w' (Hd.part { h with v := v', l := h.l ++ List.replicate 3 h.mark } :: L) → Q (.agg (Hd.cells { h with v := v' }).toArray) w') :
    Calls Try.prog 24 #[.agg h.cells.toArray] w (retP Q) := by
  obtain ⟨v, l, n, mark, want, kept⟩ := h
  simp only [Hd.part, Hd.cells] at *
  refine pithlaw19_Held_grown.calls ?_
  unfold pithlaw19_Held_grown.F
  refine pN_box hS fun a w1 hS1 => ?_
  refine pN_alloc zv_pithlaw19_Held hS1 fun b w2 hS2 => ?_
  refine ⟨fun v' w' => ∃ (k : Nat) (u : Value), v' = .int .i64 k ∧ k ≤ 3 ∧ Sat E w' (own 5 1 u (l.length + k) (bvs (l ++ List.replicate k mark)) :: blk a (.cells #[u, .int .i64 n, bv mark, .string ⟨want.toArray⟩, .bool kept] 40 (0, 0)) ::
      blk b (.cells #[(.slice none 0 0), (.int .i64 0), (.int .u8 0), (.string ⟨#[]⟩), (.bool false)] 40 (0, 0)) :: L),
    fun v' _ => 3 - (RowKit.intOf v').toNat, ⟨0, v, rfl, Nat.zero_le _, by simpa [Value.cells] using hS2.ord [2, 1, 0] rfl rfl⟩, ?_⟩
  rintro _ _ w3 ⟨k, u, rfl, hk, hS3⟩
  by_cases hlt : k < 3
  · try simp (disch := omega) only [go_sem]
    refine pN_ld na_sl_uint8 (hS3.cellv 1 rfl 0 rfl) ?_
    try simp (disch := omega) only [go_sem]
    refine pN_ld na_uint8 (hS3.cellv 1 rfl 2 rfl) ?_
    refine pN_bs1 st_sl_uint8 (bv_one _) hS3 fun c w4 hS4 => ?_
    refine pN_append st_sl_uint8 (hS4.ord [1, 0] rfl rfl) ((hS4.ord [1, 0] rfl rfl).rd 1 rfl RdA.own) (bvs_one [_]) (by omega) (by omega) fun u2 w5 hS5 => ?_
    have hS6 := (hS5.ord [1, 2, 0] rfl rfl).drop
    try simp (disch := omega) only [go_sem]
    have h1 : u2.oneCell' = true := by obtain ⟨_, _, _, rfl, _⟩ := hS6.rd 1 rfl RdA.own; rfl
    refine pN_st_blk hS6 sz_sl_uint8 h1 (by simp) fun w6 hS7 => ?_
    try simp (disch := omega) only [go_sem]
    refine ⟨⟨k + 1, u2, by simp, by omega, ?_⟩, by simp [RowKit.intOf]; omega⟩
    rw [List.replicate_succ', ← List.append_assoc, bvs_append]
    exact hS7.ord [1, 0] rfl rfl
  · obtain rfl : k = 3 := by omega
    try simp (disch := omega) only [go_sem]
    refine pN_ld_all ag_pithlaw19_Held sz_pithlaw19_Held rfl (hS3.blk_at 1 rfl) ?_
    have h1 : u.oneCell' = true := by obtain ⟨_, _, _, rfl, _⟩ := hS3.rd 0 rfl RdA.own; rfl
    refine pN_st_all (hS3.ord [2, 0, 1] rfl rfl) sz_pithlaw19_Held rfl (Hd.ones ⟨u, l, n, mark, want, kept⟩ h1) rfl fun w4 hS4 => ?_
    refine pL_res_all ag_pithlaw19_Held sz_pithlaw19_Held rfl (hS4.blk_at 0 rfl) ?_
    refine hQ u _ ?_
    have := (hS4.ord [0, 2, 1] rfl rfl).drop.drop
    simpa using this
theorem bv_wrap (z : Int) : ∃ m : UInt8, Value.int .u8 (IntKind.u8.wrap z) = bv m := by
  have h := wrap_u8 z
  refine ⟨UInt8.ofNat (IntKind.u8.wrap z).toNat, ?_⟩
  simp only [bv, UInt8.toNat_ofNat']
  congr 1
  omega

/-- An entry as 'hold' leaves it. -/
def Hd.Held (h : Hd) : Prop := h.n ≤ 140737488355000 ∧ if h.kept then h.l = h.want ∧ h.l.length = h.n else h.l = List.replicate (h.n + 3) h.mark

theorem run_build_held (a : Option Addr) (n c : Nat) (i : Int) (m : UInt8) (s : ByteArray) (b : Bool) (w : World) :
    (oBuild 40 [(0, .slice a n c), (1, .int .i64 i), (2, bv m), (3, .string s), (4, .bool b)]).run Try.prog w = .ok (.value (.agg #[.slice a n c, .int .i64 i, bv m, .string s, .bool b])) w := by kernel_rfl

theorem hold_ok {v : Value} {l : List UInt8} (hS : Sat E w (own 5 1 v l.length (bvs l) :: L)) (hb : l.length ≤ 140737488355000) (k : Nat) (hk : k ≤ 1000000000000)
    (hQ : ∀ (h : Hd) w', h.Held → Sat E w' (h.part :: L) → Q (.agg h.cells.toArray) w') :
    Calls Try.prog 15 #[v, .int .i64 k] w (retP Q) := by
  refine pithlaw19_hold.calls ?_
  unfold pithlaw19_hold.F
  obtain ⟨_, ao, cap, rfl, _⟩ := hS.rd 0 rfl RdA.own
  refine pN_alloc zv_pithlaw19_Held hS fun a w1 hS1 => ?_
  simp (disch := omega) only [go_sem, pN_str_sl_uint8 (hS1.rd 1 rfl RdA.own)]
  obtain ⟨m, hm⟩ := bv_wrap ((k : Int) * 2 + 1)
  generalize ((k : Int) % 2 == 0) = kept
  rw [hm, pN_def, run_build_held, rN_value]
  refine pN_alloc zv_pithlaw19_Held hS1 fun b w2 hS2 => ?_
  refine pN_st_all hS2 sz_pithlaw19_Held rfl (Hd.ones ⟨.slice ao l.length cap, l, l.length, m, l, kept⟩ rfl) rfl fun w3 hS3 => ?_
  refine ⟨fun w' => ∃ h : Hd, h.Held ∧ Sat E w' (blk b (.cells h.cells.toArray 40 (0, 0)) :: blk a (.cells #[(.slice none 0 0), (.int .i64 0), (.int .u8 0), (.string ⟨#[]⟩), (.bool false)] 40 (0, 0)) :: h.part :: L), ?_, ?_⟩
  · try simp (disch := omega) only [go_sem]
    refine pN_ld na_bool (hS3.cellv 0 rfl 4 rfl) ?_
    cases kept with
    | true =>
      try simp (disch := omega) only [go_sem]
      exact ⟨⟨.slice ao l.length cap, l, l.length, m, l, true⟩, ⟨hb, by simp⟩, hS3⟩
    | false =>
      try simp (disch := omega) only [go_sem]
      refine pN_ld_all ag_pithlaw19_Held sz_pithlaw19_Held rfl (hS3.blk_at 0 rfl) ?_
      refine pN_callQ call_pithlaw19_Held_written (written_ok ⟨.slice ao l.length cap, l, l.length, m, l, false⟩ (hS3.ord [2, 0, 1] rfl rfl) (Nat.le_refl _) (by simp only; omega) fun w4 hS4 => ?_)
      refine pN_ld_all ag_pithlaw19_Held sz_pithlaw19_Held rfl (hS4.blk_at 1 rfl) ?_
      refine pN_callQ call_pithlaw19_Held_grown (grown_ok ⟨.slice ao l.length cap, List.replicate l.length m ++ l.drop l.length, l.length, m, l, false⟩ hS4 (by simp; omega) fun v' w5 hS5 => ?_)
      have h1 : v'.oneCell' = true := (hS5.rd 0 rfl RdA.own).one
      refine pN_st_all (hS5.ord [1, 2, 0] rfl rfl) sz_pithlaw19_Held rfl (Hd.ones ⟨v', (List.replicate l.length m ++ l.drop l.length) ++ List.replicate 3 m, l.length, m, l, false⟩ h1) rfl fun w6 hS6 => ?_
      refine ⟨⟨v', (List.replicate l.length m ++ l.drop l.length) ++ List.replicate 3 m, l.length, m, l, false⟩, ⟨hb, ?_⟩, hS6⟩
      simp only [Bool.false_eq_true, if_false, List.drop_length, List.append_nil, List.replicate_append_replicate]
  · rintro _ w4 ⟨h, hh, hS4⟩
    refine pN_ld_all ag_pithlaw19_Held sz_pithlaw19_Held rfl (hS4.blk_at 0 rfl) ?_
    have h1 : h.v.oneCell' = true := (hS4.rd 2 rfl RdA.own).one
    refine pN_st_all (hS4.ord [1, 0, 2] rfl rfl) sz_pithlaw19_Held rfl (Hd.ones h h1) rfl fun w5 hS5 => ?_
    refine pL_res_all ag_pithlaw19_Held sz_pithlaw19_Held rfl (hS5.blk_at 0 rfl) ?_
    exact hQ h _ hh hS5.drop.drop
end

end Go.Proofs.Ytlkbenlhngkibaa
