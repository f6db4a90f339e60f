/-
  The statement DeltaWhole, walked: Encode and Decode are the document's, for every distance; each answer is new memory.
-/
import Derived.Test.YtlkbenlhngkibaaDeltaRef
import Derived.Test.YtlkbenlhngkibaaDeltaBook
import Derived.Test.YtlkbenlhngkibaaRow
namespace Go.Proofs.Ytlkbenlhngkibaa
open Go

namespace D
/-- What is answered, for every distance. -/
def enc (back : Bool) (n : Int) (l : List UInt8) : List UInt8 := if 1 ≤ n ∧ n ≤ 256 then outs back n.toNat [] l else []
def err (n : Int) : Int := if 1 ≤ n ∧ n ≤ 256 then 0 else 6
theorem enc_length (back : Bool) (n : Int) (l : List UInt8) : (enc back n l).length ≤ l.length := by
  unfold enc
  split
  · rw [outs_length]; exact Nat.le_refl _
  · exact Nat.zero_le _
end D

section
variable {E w : World} {L : List HA} {Q : Value → World → Prop} {A : HA} {l : List UInt8} {x : Value}

theorem Encode_any (hS : Sat E w L) (i : Nat) (hi : L[i]? = some A) (hA : RdA A 1 x l.length (bvs l)) (hl : l.length ≤ 140737488355328) (n : Int)
    (hQ : ∀ r w', Sat E w' (own 5 1 r (D.enc false n l).length (bvs (D.enc false n l)) :: L) → Q (.tuple #[r, .int .i64 (D.err n)]) w') :
    Calls Try.prog 17 #[x, .int .i64 n] w (retP Q) := by
  by_cases h : 1 ≤ n ∧ n ≤ 256
  · refine Encode_ok hS i hi hA hl n h.1 h.2 fun r w1 hS1 => ?_
    have := hQ r w1
    unfold D.enc D.err at this
    rw [if_pos h, if_pos h, D.outs_length] at this
    exact this hS1
  · refine Encode_no n h ?_
    have := hQ (.slice none 0 0) w
    unfold D.enc D.err at this
    rw [if_neg h, if_neg h] at this
    exact this (hS.nil _ _)

theorem Decode_any (hS : Sat E w L) (i : Nat) (hi : L[i]? = some A) (hA : RdA A 1 x l.length (bvs l)) (hl : l.length ≤ 140737488355328) (n : Int)
    (hQ : ∀ r w', Sat E w' (own 5 1 r (D.enc true n l).length (bvs (D.enc true n l)) :: L) → Q (.tuple #[r, .int .i64 (D.err n)]) w') :
    Calls Try.prog 18 #[x, .int .i64 n] w (retP Q) := by
  by_cases h : 1 ≤ n ∧ n ≤ 256
  · refine Decode_ok hS i hi hA hl n h.1 h.2 fun r w1 hS1 => ?_
    have := hQ r w1
    unfold D.enc D.err at this
    rw [if_pos h, if_pos h, D.outs_length] at this
    exact this hS1
  · refine Decode_no n h ?_
    have := hQ (.slice none 0 0) w
    unfold D.enc D.err at this
    rw [if_neg h, if_neg h] at this
    exact this (hS.nil _ _)

theorem Code_any (hS : Sat E w L) (i : Nat) (hi : L[i]? = some A) (hA : RdA A 1 x l.length (bvs l)) (hl : l.length ≤ 140737488355328) (n : Int) (back : Bool)
    (hQ : ∀ r w', Sat E w' (own 5 1 r (D.enc back n l).length (bvs (D.enc back n l)) :: L) → Q (.tuple #[r, .int .i64 (D.err n)]) w') :
    Calls Try.prog 19 #[x, .int .i64 n, .bool back] w (retP Q) := by
  by_cases h : 1 ≤ n ∧ n ≤ 256
  · refine Code_ok hS i hi hA hl n back h.1 h.2 fun r w1 hS1 => ?_
    have := hQ r w1
    unfold D.enc D.err at this
    rw [if_pos h, if_pos h, D.outs_length] at this
    exact this hS1
  · refine Code_no n back h ?_
    have := hQ (.slice none 0 0) w
    unfold D.enc D.err at this
    rw [if_neg h, if_neg h] at this
    exact this (hS.nil _ _)

abbrev lentA (f : Value) (l : List UInt8) : HA := own 5 1 f (l.length + 1) (bvs (l ++ [165]))

theorem lentA_rd (f : Value) (l : List UInt8) : RdA (lentA f l) 1 (subV f 0 l.length 1) l.length (bvs l) := by
  have h := (RdA.own (e := 5) (size := 1) (v := f) (n := l.length + 1) (xs := bvs (l ++ [165])))
  have h1 : RdA (lentA f l) 1 f (l ++ [165]).length (bvs (l ++ [165])) := by simpa using h
  have h2 := h1.subb 0 l.length (Nat.zero_le _) (by simp)
  have e : ((l ++ [165]).drop 0).take (l.length - 0) = l := by simp
  rwa [e] at h2

theorem lent_ok (hS : Sat E w L) (i : Nat) (hi : L[i]? = some A) (hA : RdA A 1 x l.length (bvs l)) (hl : l.length + 1 ≤ 140737488355328)
    (hQ : ∀ f w', Sat E w' (lentA f l :: L) → Q (.tuple #[subV f 0 l.length 1, f]) w') :
    Calls Try.prog 11 #[x] w (retP Q) := by
  refine pithlaw19_lent.calls ?_
  unfold pithlaw19_lent.F
  obtain ⟨_, ao, cap, rfl, _⟩ := hS.rd i hi hA
  refine pN_bs0 st_sl_uint8 hS fun c w1 hS1 => ?_
  refine pN_append st_sl_uint8 hS1 (hS1.rd (i + 1) (by simpa using hi) hA) (bvs_one l) (by omega) (by omega) fun f w2 hS2 => ?_
  rw [show Value.int .u8 165 = bv 165 from rfl]
  refine pN_bs1 st_sl_uint8 (bv_one _) hS2 fun d w3 hS3 => ?_
  refine pN_append st_sl_uint8 (hS3.ord [1, 0] rfl rfl) ((hS3.ord [1, 0] rfl rfl).rd 1 rfl RdA.own) (bvs_one [_]) (by omega) (by omega) fun f w4 hS4 => ?_
  try simp (disch := omega) only [go_sem]
  refine pN_sl_h st_sl_uint8 (hS4.rd 0 rfl RdA.own) (by omega) (by omega) ?_
  rw [Int.toNat_natCast]
  refine hQ f _ ?_
  have := (hS4.ord [1, 0] rfl rfl).drop
  simp only [Nat.zero_add, List.nil_append] at this
  unfold lentA
  rw [bvs_append]
  exact this

theorem kept_ok {f : Value} (hS : Sat E w L) (i : Nat) (hi : L[i]? = some A) (hA : RdA A 1 x l.length (bvs l)) (j : Nat) (hj : L[j]? = some (lentA f l)) (hl : l.length + 1 ≤ 140737488355328)
    (hQ : ∀ w', Sat E w' L → Q (.bool true) w') :
    Calls Try.prog 14 #[f, x] w (retP Q) := by
  refine pithlaw19_kept.calls ?_
  unfold pithlaw19_kept.F
  obtain ⟨_, ao, cap, rfl, _⟩ := hS.rd i hi hA
  try simp only [pDr_def]
  replace hS := hS.drew
  generalize w.drew = w at hS ⊢
  try simp (disch := omega) only [go_sem]
  have hfr := lentA_rd f l
  refine pA_sl_h st_sl_uint8 (hS.rd j hj RdA.own) (by omega) (by omega) ?_
  rw [Int.toNat_natCast]
  simp only [go_sem, pL_str_sl_uint8 (hS.rd j hj hfr), pL_str_sl_uint8 (hS.rd i hi hA), beq_self_eq_true]
  refine pA_idx un_sl_uint8 sz_uint8 (hS.rd j hj RdA.own) (by omega) (by omega) fun p hp => ?_
  rw [Int.toNat_natCast, bvs_getD0 _ _ (by simp)] at hp
  have e : (l ++ [165]).getD l.length 0 = (165 : UInt8) := by simp
  rw [e] at hp
  refine pL_ld na_uint8 hp ?_
  rw [show bv 165 = Value.int .u8 165 from rfl]
  try simp (disch := omega) only [go_sem]
  exact hQ _ hS
theorem anew_ok {f : Value} (hS : Sat E w (lentA f l :: L)) (hl : l.length + 1 ≤ 140737488355328) (n : Int) (hQ : ∀ w', Sat E w' L → Q (.bool true) w') :
    Calls Try.prog 20 #[subV f 0 l.length 1, .int .i64 n] w (retP Q) := by
  refine pithlaw19_anew.calls ?_
  unfold pithlaw19_anew.F
  have hS0 := hS.own_sub (n := l.length) (by omega)
  have e0 : (bvs (l ++ [165])).take (l.length * 1) = bvs l := by simp [bvs]
  rw [e0] at hS0
  generalize subV f 0 l.length 1 = x at hS0 ⊢
  obtain ⟨_, ao, cap, rfl, _⟩ := hS0.rd 0 rfl RdA.own
  try simp (disch := omega) only [go_sem]
  generalize hm : l.length = m at *
  refine ⟨fun v w' => ∃ (k : Nat) (t : List UInt8), v = .int .i64 k ∧ k ≤ m ∧ t.length = m ∧ Sat E w' (own 5 1 (.slice ao m cap) m (bvs t) :: L), fun v _ => m - (RowKit.intOf v).toNat, ⟨0, l, rfl, Nat.zero_le _, hm, hS0⟩, ?_⟩
  rintro _ _ w1 ⟨k, t, rfl, hk, ht, hS1⟩
  by_cases hlt : k < m
  · try simp (disch := omega) only [go_sem]
    refine pN_idx un_sl_uint8 sz_uint8 (hS1.rd 0 rfl RdA.own) (by omega) (by omega) fun p hp => ?_
    rw [Int.toNat_natCast, bvs_getD0 _ _ (by omega)] at hp
    refine pN_ld na_uint8 hp ?_
    obtain ⟨q, hq⟩ := bv_wrap (k : Int)
    try simp (disch := omega) only [go_sem]
    rw [hq, show Value.int .u8 1 = bv 1 from rfl]
    simp (disch := omega) only [go_sem]
    refine pN_idx_own un_sl_uint8 sz_uint8 (hS1.own_at 0 rfl) (by omega) (by omega) fun g cp hv => ?_
    cases hv
    refine pN_st_own hS1 sz_uint8 rfl (by rw [bvs_length]; omega) fun w2 hS2 => ?_
    rw [Int.toNat_natCast, bvs_set] at hS2
    try simp (disch := omega) only [go_sem]
    exact ⟨⟨k + 1, _, by simp, by omega, by simpa using ht, hS2⟩, by simp [RowKit.intOf]; omega⟩
  subst ht
  try simp (disch := omega) only [go_sem]
  refine pN_callQ call_delta_Encode (Encode_any hS1 0 rfl RdA.own (by omega) n fun y w2 hS2 => ?_)
  try simp (disch := omega) only [go_sem]
  refine pN_callQ call_delta_Decode (Decode_any hS2 1 rfl RdA.own (by omega) n fun z w3 hS3 => ?_)
  try simp (disch := omega) only [go_sem]
  refine pN_bs0 st_sl_uint8 hS3 fun c w4 hS4 => ?_
  refine pN_append st_sl_uint8 hS4 (hS4.rd 3 rfl RdA.own) (bvs_one t) (by omega) (by omega) fun c w5 hS5 => ?_
  rw [Nat.zero_add, List.nil_append] at hS5
  refine pN_callQ call_pithref19_Code (Code_any hS5 0 rfl RdA.own (by omega) n false fun r w6 hS6 => ?_)
  try simp (disch := omega) only [go_sem]
  refine pN_callQ call_pithref19_Code (Code_any hS6 1 rfl RdA.own (by omega) n true fun s w7 hS7 => ?_)
  simp only [go_sem, pN_str_sl_uint8 (hS7.rd 0 rfl RdA.own), pN_str_sl_uint8 (hS7.rd 1 rfl RdA.own), pN_str_sl_uint8 (hS7.rd 3 rfl RdA.own), pN_str_sl_uint8 (hS7.rd 4 rfl RdA.own), beq_self_eq_true]
  exact hQ _ hS7.drop.drop.drop.drop.drop.drop

theorem DeltaWhole_ok (hS : Sat E w L) (i : Nat) (hi : L[i]? = some A) (hA : RdA A 1 x l.length (bvs l)) (hl : l.length ≤ 140737488351232) (n : Int) (hQ : ∀ w', Sat E w' L → Q (.bool true) w') :
    Calls Try.prog 4 #[x, .int .i64 n] w (retP Q) := by
  refine pithlaw19_DeltaWhole.calls ?_
  unfold pithlaw19_DeltaWhole.F
  refine pN_callQ call_pithlaw19_lent (lent_ok hS i hi hA (by omega) fun f w1 hS1 => ?_)
  have hx := lentA_rd f l
  try simp (disch := omega) only [go_sem]
  refine pN_callQ call_delta_Encode (Encode_any hS1 0 rfl hx (by omega) n fun y w2 hS2 => ?_)
  try simp (disch := omega) only [go_sem]
  refine pN_callQ call_delta_Decode (Decode_any hS2 1 rfl hx (by omega) n fun z w3 hS3 => ?_)
  try simp (disch := omega) only [go_sem]
  refine pN_callQ call_pithref19_Code (Code_any hS3 (i + 3) (by simpa using hi) hA (by omega) n false fun v w4 hS4 => ?_)
  try simp (disch := omega) only [go_sem]
  refine pN_callQ call_pithref19_Code (Code_any hS4 (i + 4) (by simpa using hi) hA (by omega) n true fun u w5 hS5 => ?_)
  simp only [go_sem, pN_str_sl_uint8 (hS5.rd 0 rfl RdA.own), pN_str_sl_uint8 (hS5.rd 1 rfl RdA.own), pN_str_sl_uint8 (hS5.rd 2 rfl RdA.own), pN_str_sl_uint8 (hS5.rd 3 rfl RdA.own), beq_self_eq_true]
  refine pN_callQ call_pithlaw19_kept (kept_ok hS5 (i + 5) (by simpa using hi) hA 4 rfl (by omega) fun w6 hS6 => ?_)
  simp only [go_sem]
  refine pN_callQ call_delta_Encode (Encode_any hS6 4 rfl hx (by omega) n fun t w7 hS7 => ?_)
  try simp (disch := omega) only [go_sem]
  refine pN_callQ call_delta_Decode (Decode_any hS7 5 rfl hx (by omega) n fun o w8 hS8 => ?_)
  simp only [go_sem, pN_str_sl_uint8 (hS8.rd 0 rfl RdA.own), pN_str_sl_uint8 (hS8.rd 1 rfl RdA.own), pN_str_sl_uint8 (hS8.rd 2 rfl RdA.own), pN_str_sl_uint8 (hS8.rd 3 rfl RdA.own), beq_self_eq_true]
  have l0 := D.enc_length false n l
  have l1 := D.enc_length true n l
  refine pN_callQ call_pithlaw19_hold (hold_ok (hS8.ord [5, 0, 1, 2, 3, 4] rfl rfl) (by omega) 1 (by omega) fun h1 w9 g1 hS9 => ?_)
  refine pN_callQ call_pithlaw19_hold (hold_ok (hS9.ord [2, 0, 1, 3, 4, 5] rfl rfl) (by omega) 2 (by omega) fun h2 w10 g2 hS10 => ?_)
  refine pN_callQ call_pithlaw19_hold (hold_ok (hS10.ord [5, 0, 1, 2, 3, 4] rfl rfl) (by omega) 3 (by omega) fun h3 w11 g3 hS11 => ?_)
  refine pN_callQ call_pithlaw19_hold (hold_ok (hS11.ord [3, 0, 1, 2, 4, 5] rfl rfl) (by omega) 4 (by omega) fun h4 w12 g4 hS12 => ?_)
  refine pN_bs st_sl_pithlaw19_Held (cells := (flat [h1, h2, h3, h4]).toArray) (by omega) (by omega) (by kernel_rfl) rfl hS12 fun bk w13 hS13 => ?_
  refine pN_callQ call_pithlaw19_held (held_ok [h1, h2, h3, h4] ((hS13.ord [4, 3, 2, 1, 0] rfl rfl).shutBag (M := [h1, h2, h3, h4].map Hd.part)) 0 rfl RdA.own (by simp) ?_ fun w14 hS14 => ?_)
  · intro h hm
    simp only [List.mem_cons, List.not_mem_nil, or_false] at hm
    rcases hm with rfl | rfl | rfl | rfl <;> assumption
  simp only [go_sem]
  refine pN_callQ call_delta_Encode (Encode_any hS14 3 rfl hx (by omega) n fun r w15 hS15 => ?_)
  simp only [go_sem, pN_str_sl_uint8 (hS15.rd 0 rfl RdA.own), pN_str_sl_uint8 (hS15.rd 3 rfl RdA.own), beq_self_eq_true]
  refine pN_callQ call_pithlaw19_kept (kept_ok hS15 (i + 5) (by simpa using hi) hA 4 rfl (by omega) fun w16 hS16 => ?_)
  simp only [go_sem]
  refine pN_callQ call_pithlaw19_anew (anew_ok (hS16.ord [4, 0, 1, 2, 3] rfl rfl) (by omega) n fun w17 hS17 => ?_)
  try simp (disch := omega) only [go_sem]
  exact hQ _ hS17.drop.drop.drop.drop
end

theorem walk_DeltaWhole (a0 : Option Addr) (len0 cap0 : Nat) (z0 : List Int) (a1 : Int) (w : World) (w0 : IsRow .u8 w a0 len0 cap0 z0) (b0 : z0.length * 1 ≤ 140737488351232) (_w1 : (Lit.int .i64 a1).wf = true) :
    Calls Try.prog 4 #[.slice a0 len0 cap0, .int .i64 a1] w (retP fun v w' => v = .bool true ∧ RowKit.Below w.heap.size w w') := by
  obtain ⟨l, hl, hr⟩ := w0.bytes
  have := w0.len_le
  exact DeltaWhole_ok (Sat.start w) 0 rfl (RdA.old hr) (by omega) a1 fun w' hS => ⟨rfl, hS.below 0 rfl⟩

end Go.Proofs.Ytlkbenlhngkibaa
