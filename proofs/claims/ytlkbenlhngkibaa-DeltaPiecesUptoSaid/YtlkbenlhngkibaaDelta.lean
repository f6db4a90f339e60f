/-
  Package delta over parts of memory: New, Next, whole, Encode, Decode.
-/
import Derived.Test.YtlkbenlhngkibaaLift
import Derived.Test.YtlkbenlhngkibaaDPure
namespace Go.Proofs.Ytlkbenlhngkibaa
open Go

def fltCells (ring : List UInt8) (at_ d : Nat) (back : Bool) : Array Value := (bvs ring ++ [Value.int .i64 at_, Value.int .i64 d, Value.bool back]).toArray

/-- A filter in block b: its way, its distance, all plain bytes so far. -/
def Flt (b : Nat) (back : Bool) (d : Nat) (h : List UInt8) : HA := fun hp =>
  ∃ ring, D.Ring h ring ∧ blk b (.cells (fltCells ring (h.length % 256) d back) 57 (0, 0)) hp

theorem run_build_flt (d : Int) (b : Bool) (w : World) : (oBuild 57 [(2, .int .i64 d), (3, .bool b)]).run Try.prog w =
    .ok (.value (.agg (List.replicate 256 (Value.int .u8 0) ++ [Value.int .i64 0, Value.int .i64 d, Value.bool b]).toArray)) w := by kernel_rfl

section
variable {E w : World} {L : List HA} {Q : Value → World → Prop}

theorem New_ok (hS : Sat E w L) (n : Int) (back : Bool) (h1 : 1 ≤ n) (h2 : n ≤ 256)
    (hQ : ∀ b w', Sat E w' (Flt b back n.toNat [] :: L) → Q (.tuple #[.pointer (some ⟨b, 0, none⟩), .int .i64 0]) w') :
    Calls Try.prog 9 #[.int .i64 n, .bool back] w (retP Q) := by
  refine delta_New.calls ?_
  unfold delta_New.F
  simp (disch := omega) only [go_sem]
  rw [pN_def, run_build_flt, rN_value]
  refine pN_box hS fun a w' hS' => hQ _ _ (hS'.weaken fun hp ha => ?_)
  refine ⟨List.replicate 256 0, D.Ring.start, ?_⟩
  have e : bvs (List.replicate 256 0) = List.replicate 256 (Value.int .u8 0) := List.map_replicate
  unfold fltCells
  rw [e, Int.toNat_of_nonneg (by omega)]
  exact ha

theorem New_no (n : Int) (back : Bool) (h : ¬ (1 ≤ n ∧ n ≤ 256)) (hQ : Q (.tuple #[.pointer none, .int .i64 6]) w) :
    Calls Try.prog 9 #[.int .i64 n, .bool back] w (retP Q) := by
  refine delta_New.calls ?_
  unfold delta_New.F
  by_cases h1 : n < 1
  · simp (disch := omega) only [go_sem]
    exact hQ
  · simp (disch := omega) only [go_sem]
    exact hQ

theorem flt_ring {ring : List UInt8} (hr : ring.length = 256) (at_ d : Nat) (back : Bool) (i : Nat) (hi : i < 256) : (fltCells ring at_ d back)[i]? = some (bv (ring.getD i 0)) := by
  simp [fltCells, bvs, hr, hi, List.getElem?_append_left]
theorem flt_at {ring : List UInt8} (hr : ring.length = 256) (at_ d : Nat) (back : Bool) : (fltCells ring at_ d back)[256]? = some (.int .i64 at_) := by
  simp [fltCells, bvs, hr, List.getElem?_append_right]
theorem flt_dist {ring : List UInt8} (hr : ring.length = 256) (at_ d : Nat) (back : Bool) : (fltCells ring at_ d back)[257]? = some (.int .i64 d) := by
  simp [fltCells, bvs, hr, List.getElem?_append_right]
theorem flt_back {ring : List UInt8} (hr : ring.length = 256) (at_ d : Nat) (back : Bool) : (fltCells ring at_ d back)[258]? = some (.bool back) := by
  simp [fltCells, bvs, hr, List.getElem?_append_right]
theorem flt_size {ring : List UInt8} (hr : ring.length = 256) (at_ d : Nat) (back : Bool) : (fltCells ring at_ d back).size = 259 := by
  simp [fltCells, bvs, hr]
theorem flt_set_ring {ring : List UInt8} (hr : ring.length = 256) (at_ d : Nat) (back : Bool) (i : Nat) (hi : i < 256) (p : UInt8) : (fltCells ring at_ d back).setIfInBounds i (bv p) = fltCells (ring.set i p) at_ d back := by
  simp [fltCells, bvs, hr, hi, List.set_append_left, List.map_set]
theorem flt_set_at {ring : List UInt8} (hr : ring.length = 256) (at_ d : Nat) (back : Bool) (n : Nat) : (fltCells ring at_ d back).setIfInBounds 256 (.int .i64 n) = fltCells ring n d back := by
  simp [fltCells, bvs, hr, List.set_append_right]

/-- What has been answered after k bytes. -/
def nextCells (back : Bool) (d : Nat) (h l : List UInt8) (k : Nat) : List Value := bvs (D.outs back d h (l.take k)) ++ List.replicate (l.length - k) (bv 0)

theorem nextCells_length (back : Bool) (d : Nat) (h l : List UInt8) (k : Nat) (hk : k ≤ l.length) : (nextCells back d h l k).length = l.length := by
  simp only [nextCells, bvs, List.length_append, List.length_map, D.outs_length, List.length_take, List.length_replicate]; omega

theorem nextCells_set (back : Bool) (d : Nat) (h l : List UInt8) (k : Nat) (hk : k < l.length) :
    (nextCells back d h l k).set k (bv (D.outb back d (D.hist back d h (l.take k)) l[k])) = nextCells back d h l (k + 1) := by
  unfold nextCells
  have e : l.take (k + 1) = l.take k ++ [l[k]] := List.take_succ_eq_append_getElem hk
  have hl : (bvs (D.outs back d h (l.take k))).length = k := by simp [bvs, D.outs_length]; omega
  rw [e, D.outs_snoc, bvs_append, List.set_append_right _ _ (by omega), hl, Nat.sub_self]
  have e2 : l.length - k = (l.length - (k + 1)) + 1 := by omega
  rw [e2, List.replicate_succ, List.set_cons_zero]
  simp [bvs]

set_option maxHeartbeats 400000 in
theorem Next_ok {A : HA} {b d : Nat} {back : Bool} {h l : List UInt8} {x : Value} (hS : Sat E w (Flt b back d h :: L)) (hd1 : 1 ≤ d) (hd2 : d ≤ 256) (i : Nat) (hi : L[i]? = some A) (hA : RdA A 1 x l.length (bvs l)) (hl : l.length ≤ 140737488355328)
    (hQ : ∀ r w', Sat E w' (own 5 1 r l.length (bvs (D.outs back d h l)) :: Flt b back d (D.hist back d h l) :: L) → Q r w') :
    Calls Try.prog 12 #[.pointer (some ⟨b, 0, none⟩), x] w (retP Q) := by
  refine delta_Filter_Next.calls ?_
  unfold delta_Filter_Next.F
  have hr := hS.rd (i + 1) (by simpa using hi) hA
  obtain ⟨_, ao, cap, rfl, _⟩ := hr
  simp (disch := omega) only [go_sem]
  refine pN_make st_sl_uint8 (by omega) (by omega) hS fun r w1 hS1 => ?_
  refine ⟨fun i w' => ∃ k : Nat, i = .int .i64 k ∧ k ≤ l.length ∧ Sat E w' (own 5 1 r l.length (nextCells back d h l k) :: Flt b back d (D.hist back d h (l.take k)) :: L), fun i _ => l.length - (RowKit.intOf i).toNat, ?_, ?_⟩
  · refine ⟨0, rfl, Nat.zero_le _, ?_⟩
    have e : (madeCells (Value.int .u8 0).cells (l.length * 1)).toList = nextCells back d h l 0 := by
      have : (madeCells (Value.int .u8 0).cells (l.length * 1)).toList = _ := madeCells_list (.int .u8 0) (l.length * 1)
      rw [this]
      simp [nextCells, D.outs, bvs, bv]
    rw [e] at hS1
    simpa [D.hist] using hS1
  · rintro _ _ w2 ⟨k, rfl, hk, hS2⟩
    by_cases hlt : k < l.length
    · simp (disch := omega) only [go_sem]
      have hp : (D.hist back d h (l.take k)).length % 256 < 256 := Nat.mod_lt _ (by omega)
      refine ⟨fun w' => Sat E w' (own 5 1 r l.length (nextCells back d h l (k + 1)) :: Flt b back d (D.hist back d h (l.take (k + 1))) :: L), ?_, ?_⟩
      · have hr2 := hS2.rd (i + 2) (by simpa using hi) hA
        refine pN_idx un_sl_uint8 sz_uint8 hr2 (by omega) (by omega) fun a ha => ?_
        rw [Int.toNat_natCast, bvs_getD _ _ hlt] at ha
        refine pN_ld na_uint8 ha ?_
        simp only [pDr_def]
        have hS3 := hS2.drew
        generalize w2.drew = w3 at hS3 ⊢
        obtain ⟨ring, hring, hS4⟩ := (hS3.front 1 rfl).opn (fun hp h => h)
        simp only [List.eraseIdx] at hS4
        generalize hph : (D.hist back d h (l.take k)).length % 256 = p at hS4 hp
        try simp (disch := omega) only [go_sem]
        refine pL_ld na_int ((hS4.cell 0 rfl 256).trans (flt_at hring.1 p d back)) ?_
        try simp (disch := omega) only [go_sem]
        refine pL_ld na_int ((hS4.cell 0 rfl 257).trans (flt_dist hring.1 p d back)) ?_
        try simp (disch := omega) only [go_sem]
        have e1 : ((p : Int) + 256 - (d : Int)) % 256 = (((p + 256 - d) % 256 : Nat) : Int) := by omega
        rw [e1]
        try simp (disch := omega) only [go_sem]
        have hm : (p + 256 - d) % 256 < 256 := Nat.mod_lt _ (by omega)
        refine pL_ld na_uint8 ((hS4.cell 0 rfl _).trans (flt_ring hring.1 p d back _ hm)) ?_
        have hb := hring.2 d hd1 hd2
        rw [hph] at hb
        rw [hb]
        generalize hc : l[k] = c
        generalize hH : D.hist back d h (l.take k) = H at hring hb hS4 hph
        refine ⟨fun v w' => v = bv (D.plain back d H c) ∧ Sat E w' (own 5 1 r l.length (nextCells back d h l (k + 1)) :: blk b (.cells (fltCells ring p d back) 57 (0, 0)) :: L), ?_, ?_⟩
        · try simp (disch := omega) only [go_sem]
          refine pN_ld na_bool ((hS4.cell 0 rfl 258).trans (flt_back hring.1 p d back)) ?_
          have hset := nextCells_set back d h l k hlt
          rw [hc, hH] at hset
          have hlen := nextCells_length back d h l k (by omega)
          have hS5 := hS4.front 1 rfl
          simp only [List.eraseIdx] at hS5
          cases back with
          | true =>
            try simp (disch := omega) only [go_sem]
            refine pN_idx_own un_sl_uint8 sz_uint8 (hS5.own_at 0 rfl) (by omega) (by omega) fun g cp hv => ?_
            subst hv
            refine pN_st_own hS5 sz_uint8 rfl (by omega) fun w' hS6 => ?_
            refine ⟨rfl, ?_⟩
            rw [← hset]
            exact hS6
          | false =>
            try simp (disch := omega) only [go_sem]
            refine pN_idx_own un_sl_uint8 sz_uint8 (hS5.own_at 0 rfl) (by omega) (by omega) fun g cp hv => ?_
            subst hv
            refine pN_st_own hS5 sz_uint8 rfl (by omega) fun w' hS6 => ?_
            refine ⟨rfl, ?_⟩
            rw [← hset]
            exact hS6
        · rintro _ _ w4 ⟨rfl, hS5⟩
          try simp (disch := omega) only [go_sem]
          have hS6 := (hS5.drew).front 1 rfl
          simp only [List.eraseIdx] at hS6
          generalize w4.drew = w5 at hS6 ⊢
          refine pL_ld na_int ((hS6.cell 0 rfl 256).trans (flt_at hring.1 p d back)) ?_
          try simp (disch := omega) only [go_sem]
          refine pN_st_blk hS6 sz_uint8 rfl (by rw [flt_size hring.1]; omega) fun w6 hS7 => ?_
          rw [flt_set_ring hring.1 p d back p hp] at hS7
          have hr' : (ring.set p (D.plain back d H c)).length = 256 := by simpa using hring.1
          refine ⟨trivial, ?_⟩
          refine pN_ld na_int ((hS7.cell 0 rfl 256).trans (flt_at hr' p d back)) ?_
          try simp (disch := omega) only [go_sem]
          have e2 : ((p : Int) + 1) % 256 = (((p + 1) % 256 : Nat) : Int) := by omega
          rw [e2]
          refine pN_st_blk hS7 sz_int rfl (by rw [flt_size hr']; omega) fun w7 hS8 => ?_
          rw [flt_set_at hr'] at hS8
          refine ((hS8.weaken (B := Flt b back d (D.hist back d h (l.take (k + 1)))) fun hp ha => ?_).front 1 rfl)
          have e3 : D.hist back d h (l.take (k + 1)) = H ++ [D.plain back d H c] := by
            rw [List.take_succ_eq_append_getElem hlt, D.hist_snoc, hH, hc]
          have hst := hring.step (D.plain back d H c)
          rw [hph] at hst
          refine ⟨_, by rw [e3]; exact hst, ?_⟩
          have e4 : (D.hist back d h (l.take (k + 1))).length % 256 = (p + 1) % 256 := by
            rw [e3, List.length_append, List.length_cons, List.length_nil]; omega
          rw [e4]
          exact ha
      · rintro _ w4 hS3
        try simp (disch := omega) only [go_sem]
        refine ⟨⟨k + 1, rfl, by omega, hS3⟩, ?_⟩
        simp only [RowKit.intOf]
        omega
    · simp (disch := omega) only [go_sem]
      have : k = l.length := by omega
      subst this
      refine hQ _ _ ?_
      simpa [nextCells] using hS2
end

end Go.Proofs.Ytlkbenlhngkibaa
