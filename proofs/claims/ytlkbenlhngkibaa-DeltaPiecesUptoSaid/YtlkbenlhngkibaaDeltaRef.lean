/-
  The document's own answers for layer 19: differences and sums by definition.
-/
import Derived.Test.YtlkbenlhngkibaaDeltaB
import Derived.Test.YtlkbenlhngkibaaAgg
namespace Go.Proofs.Ytlkbenlhngkibaa
open Go

section
variable {E w : World} {L : List HA} {Q : Value → World → Prop} {A : HA} {l : List UInt8} {x : Value}

theorem Good_ok (n : Int) (hQ : Q (.bool (decide (1 ≤ n ∧ n ≤ 256))) w) : Calls Try.prog 10 #[.int .i64 n] w (retP Q) := by
  refine pithref19_Good.calls ?_
  unfold pithref19_Good.F
  by_cases h1 : 0 < n
  · by_cases h2 : n ≤ 256
    · rw [decide_eq_true (by omega)] at hQ
      try simp (disch := omega) only [go_sem]
      exact hQ
    · rw [decide_eq_false (by omega)] at hQ
      try simp (disch := omega) only [go_sem]
      exact hQ
  · rw [decide_eq_false (by omega)] at hQ
    try simp (disch := omega) only [go_sem]
    exact hQ

theorem at_ok (hr : Rd w 1 x l.length (bvs l)) (i : Int) (hi : i < l.length) (hQ : Q (.int .i64 (if i < 0 then 0 else ((l.getD i.toNat 0).toNat : Int))) w) : Calls Try.prog 28 #[x, .int .i64 i] w (retP Q) := by
  refine pithref19_at.calls ?_
  unfold pithref19_at.F
  by_cases h : i < 0
  · rw [if_pos h] at hQ
    try simp (disch := omega) only [go_sem]
    exact hQ
  · rw [if_neg h] at hQ
    try simp (disch := omega) only [go_sem]
    refine pN_idx un_sl_uint8 sz_uint8 hr (by omega) (by omega) fun p hp => ?_
    rw [bvs_getD0 _ _ (by omega)] at hp
    refine pN_ld na_uint8 hp ?_
    have := (l.getD i.toNat 0).toNat_lt
    unfold bv
    try simp (disch := omega) only [go_sem]
    exact hQ

/-- A byte out of a whole number modulo 256. -/
theorem bv_diff (a b : UInt8) : Value.int .u8 (IntKind.u8.wrap (((a.toNat : Int) + 256 - (b.toNat : Int)) % 256)) = bv (a - b) := by
  have := a.toNat_lt
  have := b.toNat_lt
  rw [wrap_u8, bv, UInt8.toNat_sub]
  congr 1
  omega
theorem bv_sum (a b : UInt8) : Value.int .u8 (IntKind.u8.wrap (((a.toNat : Int) + (b.toNat : Int)) % 256)) = bv (a + b) := by
  have := a.toNat_lt
  have := b.toNat_lt
  rw [wrap_u8, bv, UInt8.toNat_add]
  congr 1
  omega

theorem take_succ_getD (l : List UInt8) (k : Nat) (h : k < l.length) : l.take (k + 1) = l.take k ++ [l.getD k 0] := by
  rw [List.take_add_one]
  simp [h]

theorem Differences_ok (hS : Sat E w L) (i : Nat) (hi : L[i]? = some A) (hA : RdA A 1 x l.length (bvs l)) (hl : l.length ≤ 140737488355328) (d : Nat) (h1 : 1 ≤ d) (h2 : d ≤ 256)
    (hQ : ∀ r w', Sat E w' (own 5 1 r l.length (bvs (D.outs false d [] l)) :: L) → Q r w') :
    Calls Try.prog 27 #[x, .int .i64 d] w (retP Q) := by
  refine pithref19_Differences.calls ?_
  unfold pithref19_Differences.F
  obtain ⟨_, ao, cap, rfl, _⟩ := hS.rd i hi hA
  have lo := D.outs_length false d l []
  have hg := fun k => D.enc_get d l k h1
  generalize D.outs false d [] l = O at hQ lo hg
  refine ⟨fun y v w' => ∃ k : Nat, v = .int .i64 k ∧ k ≤ l.length ∧ Sat E w' (own 5 1 y k (bvs (O.take k)) :: L), fun _ v _ => l.length - (RowKit.intOf v).toNat, ⟨0, rfl, Nat.zero_le _, hS.nil _ _⟩, ?_⟩
  rintro _ y _ w1 ⟨k, rfl, hk, hS1⟩
  by_cases hlt : k < l.length
  · try simp (disch := omega) only [go_sem]
    have hr := hS1.rd (i + 1) (by simpa using hi) hA
    refine pN_callQ call_pithref19_at (at_ok hr k (by omega) ?_)
    rw [if_neg (by omega), Int.toNat_natCast]
    have b1 := (l.getD k 0).toNat_lt
    try simp (disch := omega) only [go_sem]
    refine pN_callQ call_pithref19_at (at_ok hr _ (by omega) ?_)
    have hgk := hg k hlt
    obtain ⟨q, hq1, hq2⟩ : ∃ q : UInt8, (if (k : Int) - (d : Int) < 0 then 0 else ((l.getD ((k : Int) - (d : Int)).toNat 0).toNat : Int)) = q.toNat ∧ (if d ≤ k then l.getD (k - d) 0 else 0) = q := by
      by_cases hd : d ≤ k
      · refine ⟨l.getD (k - d) 0, ?_, by rw [if_pos hd]⟩
        rw [if_neg (by omega), show ((k : Int) - (d : Int)).toNat = k - d from by omega]
      · exact ⟨0, by rw [if_pos (by omega)]; rfl, by rw [if_neg hd]⟩
    rw [hq1]
    rw [hq2] at hgk
    have b2 := q.toNat_lt
    try simp (disch := omega) only [go_sem]
    rw [bv_diff, ← hgk]
    refine pN_bs1 st_sl_uint8 (bv_one _) hS1 fun c w2 hS2 => ?_
    refine pN_append st_sl_uint8 (hS2.ord [1, 0] rfl rfl) ((hS2.ord [1, 0] rfl rfl).rd 1 rfl RdA.own) (bvs_one [_]) (by omega) (by omega) fun y w3 hS3 => ?_
    have hS4 := (hS3.front 1 rfl).drop
    simp only [List.eraseIdx] at hS4
    try simp (disch := omega) only [go_sem]
    refine ⟨⟨k + 1, by simp, by omega, ?_⟩, by simp [RowKit.intOf]; omega⟩
    rw [take_succ_getD O k (by omega), bvs_append]
    exact hS4
  · obtain rfl : k = l.length := by omega
    try simp (disch := omega) only [go_sem]
    rw [List.take_of_length_le (by omega)] at hS1
    exact hQ _ _ hS1

theorem Sums_ok (hS : Sat E w L) (i : Nat) (hi : L[i]? = some A) (hA : RdA A 1 x l.length (bvs l)) (hl : l.length ≤ 140737488355328) (d : Nat) (h1 : 1 ≤ d) (h2 : d ≤ 256)
    (hQ : ∀ r w', Sat E w' (own 5 1 r l.length (bvs (D.outs true d [] l)) :: L) → Q r w') :
    Calls Try.prog 26 #[x, .int .i64 d] w (retP Q) := by
  refine pithref19_Sums.calls ?_
  unfold pithref19_Sums.F
  obtain ⟨_, ao, cap, rfl, _⟩ := hS.rd i hi hA
  have lo := D.outs_length true d l []
  have hg := fun k => D.dec_get d l k h1
  generalize D.outs true d [] l = O at hQ lo hg
  refine ⟨fun y v w' => ∃ k : Nat, v = .int .i64 k ∧ k ≤ l.length ∧ Sat E w' (own 5 1 y k (bvs (O.take k)) :: L), fun _ v _ => l.length - (RowKit.intOf v).toNat, ⟨0, rfl, Nat.zero_le _, hS.nil _ _⟩, ?_⟩
  rintro _ y _ w1 ⟨k, rfl, hk, hS1⟩
  by_cases hlt : k < l.length
  · try simp (disch := omega) only [go_sem]
    try simp only [pDr_def]
    replace hS1 := hS1.drew
    generalize w1.drew = w1 at hS1 ⊢
    have hr := hS1.rd (i + 1) (by simpa using hi) hA
    refine pA_idx un_sl_uint8 sz_uint8 hr (by omega) (by omega) fun p hp => ?_
    rw [Int.toNat_natCast, bvs_getD0 _ _ hlt] at hp
    refine pL_ld na_uint8 hp ?_
    have b1 := (l.getD k 0).toNat_lt
    have hlk : (O.take k).length = k := by simp; omega
    have hry : Rd w1 1 y (O.take k).length (bvs (O.take k)) := by rw [hlk]; exact hS1.rd 0 rfl RdA.own
    rw [show bv (l.getD k 0) = Value.int .u8 ((l.getD k 0).toNat : Int) from rfl]
    try simp (disch := omega) only [go_sem]
    refine pN_callQ call_pithref19_at (at_ok hry _ (by omega) ?_)
    have hgk := hg k hlt
    obtain ⟨q, hq1, hq2⟩ : ∃ q : UInt8, (if (k : Int) - (d : Int) < 0 then 0 else (((O.take k).getD ((k : Int) - (d : Int)).toNat 0).toNat : Int)) = q.toNat ∧ (if d ≤ k then O.getD (k - d) 0 else 0) = q := by
      by_cases hd : d ≤ k
      · refine ⟨O.getD (k - d) 0, ?_, by rw [if_pos hd]⟩
        rw [if_neg (by omega), show ((k : Int) - (d : Int)).toNat = k - d from by omega]
        simp only [List.getD, List.getElem?_take]
        rw [if_pos (by omega)]
      · exact ⟨0, by rw [if_pos (by omega)]; rfl, by rw [if_neg hd]⟩
    rw [hq1]
    rw [hq2] at hgk
    have b2 := q.toNat_lt
    refine ⟨⟨?_, run_load na_uint8 hp, trivial⟩, ?_⟩
    · rw [run_conv_int .u8 Try.underlying5 Try.underlying3]
      simp (disch := omega) only [go_sem]
    try simp (disch := omega) only [go_sem]
    rw [bv_sum, ← hgk]
    refine pN_bs1 st_sl_uint8 (bv_one _) hS1 fun c w2 hS2 => ?_
    refine ⟨trivial, pN_append st_sl_uint8 (hS2.ord [1, 0] rfl rfl) ((hS2.ord [1, 0] rfl rfl).rd 1 rfl RdA.own) (bvs_one [_]) (by omega) (by omega) fun y w3 hS3 => ?_⟩
    have hS4 := (hS3.front 1 rfl).drop
    simp only [List.eraseIdx] at hS4
    try simp (disch := omega) only [go_sem]
    refine ⟨trivial, ⟨k + 1, by simp, by omega, ?_⟩, by simp [RowKit.intOf]; omega⟩
    rw [take_succ_getD O k (by omega), bvs_append]
    exact hS4
  · obtain rfl : k = l.length := by omega
    try simp (disch := omega) only [go_sem]
    rw [List.take_of_length_le (by omega)] at hS1
    exact hQ _ _ hS1

theorem Code_ok (hS : Sat E w L) (i : Nat) (hi : L[i]? = some A) (hA : RdA A 1 x l.length (bvs l)) (hl : l.length ≤ 140737488355328) (n : Int) (back : Bool) (h1 : 1 ≤ n) (h2 : n ≤ 256)
    (hQ : ∀ r w', Sat E w' (own 5 1 r l.length (bvs (D.outs back n.toNat [] l)) :: L) → Q (.tuple #[r, .int .i64 0]) w') :
    Calls Try.prog 19 #[x, .int .i64 n, .bool back] w (retP Q) := by
  refine pithref19_Code.calls ?_
  unfold pithref19_Code.F
  refine pN_callQ call_pithref19_Good (Good_ok n ?_)
  rw [decide_eq_true ⟨h1, h2⟩]
  obtain ⟨d, rfl⟩ : ∃ d : Nat, n = d := ⟨n.toNat, by omega⟩
  rw [Int.toNat_natCast] at hQ
  cases back with
  | false =>
    try simp (disch := omega) only [go_sem]
    refine pN_callQ call_pithref19_Differences (Differences_ok hS i hi hA hl d (by omega) (by omega) fun r w1 hS1 => ?_)
    exact hQ _ _ hS1
  | true =>
    try simp (disch := omega) only [go_sem]
    refine pN_callQ call_pithref19_Sums (Sums_ok hS i hi hA hl d (by omega) (by omega) fun r w1 hS1 => ?_)
    exact hQ _ _ hS1

theorem Code_no (n : Int) (back : Bool) (h : ¬ (1 ≤ n ∧ n ≤ 256)) (hQ : Q (.tuple #[.slice none 0 0, .int .i64 6]) w) :
    Calls Try.prog 19 #[x, .int .i64 n, .bool back] w (retP Q) := by
  refine pithref19_Code.calls ?_
  unfold pithref19_Code.F
  refine pN_callQ call_pithref19_Good (Good_ok n ?_)
  rw [decide_eq_false h]
  try simp (disch := omega) only [go_sem]
  exact hQ
end

end Go.Proofs.Ytlkbenlhngkibaa
