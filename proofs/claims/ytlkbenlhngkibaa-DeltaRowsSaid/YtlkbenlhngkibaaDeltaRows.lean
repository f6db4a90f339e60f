/-
  The statement DeltaRows, walked: of equal rows only the first differs from nought.
-/
import Derived.Test.YtlkbenlhngkibaaDeltaB
import Derived.Test.YtlkbenlhngkibaaSlice
import Derived.Test.YtlkbenlhngkibaaRow
namespace Go.Proofs.Ytlkbenlhngkibaa
open Go

section
variable {E w : World} {L : List HA} {Q : Value → World → Prop} {A : HA} {l : List UInt8} {x : Value}

theorem DeltaRows_ok (hS : Sat E w L) (i : Nat) (hi : L[i]? = some A) (hA : RdA A 1 x l.length (bvs l)) (n : Int) (hQ : ∀ w', Sat E w' L → Q (.bool true) w') :
    Calls Try.prog 7 #[x, .int .i64 n] w (retP Q) := by
  refine pithlaw19_DeltaRows.calls ?_
  unfold pithlaw19_DeltaRows.F
  obtain ⟨_, ao, cap, rfl, _⟩ := hS.rd i hi hA
  by_cases h0 : l.length = 0
  · simp (disch := omega) only [go_sem, h0]; exact hQ _ hS
  by_cases h1 : 256 < l.length
  · try simp (disch := omega) only [go_sem]; exact hQ _ hS
  by_cases h2 : n < 0
  · try simp (disch := omega) only [go_sem]; exact hQ _ hS
  by_cases h3 : 20 < n
  · try simp (disch := omega) only [go_sem]; exact hQ _ hS
  obtain ⟨n, rfl⟩ : ∃ m : Nat, n = m := ⟨n.toNat, by omega⟩
  try simp (disch := omega) only [go_sem]
  refine ⟨fun b v w' => ∃ k : Nat, v = .int .i64 k ∧ k ≤ n ∧ Sat E w' (own 5 1 b (k * l.length) (bvs (D.reps l k)) :: L), fun _ v _ => n - (RowKit.intOf v).toNat, ⟨0, rfl, Nat.zero_le _, by rw [Nat.zero_mul]; exact hS.nil _ _⟩, ?_⟩
  rintro _ b _ w1 ⟨k, rfl, hk, hS1⟩
  by_cases hlt : k < n
  · try simp (disch := omega) only [go_sem]
    have hb : k * l.length + l.length ≤ 20 * 256 := by
      have : k * l.length ≤ 19 * 256 := Nat.mul_le_mul (by omega) (by omega)
      omega
    refine pN_append st_sl_uint8 hS1 (hS1.rd (i + 1) (by simpa using hi) hA) (bvs_one l) (by omega) (by omega) fun c w2 hS2 => ?_
    try simp (disch := omega) only [go_sem]
    refine ⟨⟨k + 1, by simp, by omega, ?_⟩, by simp [RowKit.intOf]; omega⟩
    rw [← bvs_append] at hS2
    rw [Nat.add_mul, Nat.one_mul]
    exact hS2
  obtain rfl : k = n := by omega
  try simp (disch := omega) only [go_sem]
  have lr := D.reps_length l k
  have rb : RdA (own 5 1 b (k * l.length) (bvs (D.reps l k))) 1 b (D.reps l k).length (bvs (D.reps l k)) := by rw [lr]; exact RdA.own
  have hkl : k * l.length ≤ 20 * 256 := Nat.mul_le_mul (by omega) (by omega)
  refine pN_callQ call_pithlaw19_both (both_ok hS1 0 rfl rb (by omega) l.length (by omega) (by omega) fun r s w2 hS2 => ?_)
  have hrow := D.rows_enc l (by omega) k
  rw [Int.toNat_natCast, lr] at hS2
  have lo := D.outs_length false l.length (D.reps l k) []
  rw [lr] at lo
  have hz : (0 < k) ↔ (0 < k * l.length) := ⟨fun h => Nat.mul_pos h (by omega), fun h => Nat.pos_of_ne_zero fun e => by rw [e] at h; simp at h⟩
  generalize k * l.length = m at hS2 hrow lo hkl hz ⊢
  generalize D.outs false l.length [] (D.reps l k) = X at hS2 hrow lo ⊢
  try simp (disch := omega) only [go_sem]
  generalize hM : (own 5 1 r m (bvs X) :: own 5 1 s m (bvs (D.outs true l.length [] (D.reps l k))) :: own 5 1 b m (bvs (D.reps l k)) :: L) = M at hS2
  have rr : ∀ w, Sat E w M → Rd w 1 r m (bvs X) := fun w h => h.rd 0 (by rw [← hM]; rfl) RdA.own
  have rl : ∀ w, Sat E w M → Rd w 1 (.slice ao l.length cap) l.length (bvs l) := fun w h => h.rd (i + 3) (by rw [← hM]; simpa using hi) hA
  obtain ⟨_, ro, rcap, rfl, _⟩ := rr _ hS2
  try simp (disch := omega) only [go_sem]
  refine ⟨fun v w' => ∃ j : Nat, v = .int .i64 j ∧ j ≤ m ∧ Sat E w' M, fun v _ => m - (RowKit.intOf v).toNat, ⟨0, rfl, Nat.zero_le _, hS2⟩, ?_⟩
  rintro _ _ w3 ⟨j, rfl, hj, hS3⟩
  by_cases hjm : j < m
  · try simp (disch := omega) only [go_sem]
    refine ⟨fun w' => Sat E w' M, ?_, ?_⟩
    · refine ⟨fun v w' => v = bv (if j < l.length then l.getD j 0 else 0) ∧ w' = w3, ?_, ?_⟩
      · by_cases hjl : j < l.length
        · try simp (disch := omega) only [go_sem]
          refine pN_idx un_sl_uint8 sz_uint8 (rl _ hS3) (by omega) (by omega) fun p hp => ?_
          rw [Int.toNat_natCast, bvs_getD0 _ _ hjl] at hp
          refine pN_ld na_uint8 hp ?_
          exact ⟨by rw [if_pos hjl], rfl⟩
        · try simp (disch := omega) only [go_sem]
          exact ⟨by rw [if_neg hjl]; rfl, trivial⟩
      rintro _ _ w3 ⟨rfl, rfl⟩
      refine pN_idx un_sl_uint8 sz_uint8 (rr _ hS3) (by omega) (by omega) fun p hp => ?_
      rw [Int.toNat_natCast, bvs_getD0 _ _ (by omega)] at hp
      refine pN_ld na_uint8 hp ?_
      have e := hrow j hjm
      simp only [go_sem, e, bne_self_eq_false]
      exact hS3
    · rintro _ w4 hS4
      try simp (disch := omega) only [go_sem]
      exact ⟨⟨j + 1, by simp, by omega, hS4⟩, by simp [RowKit.intOf]; omega⟩
  · have e : (decide ((0 : Int) < (k : Int)) == decide ((0 : Int) < (m : Int))) = true := by
      rw [beq_iff_eq, decide_eq_decide]; omega
    try simp (disch := omega) only [go_sem]
    rw [e]
    subst hM
    exact hQ _ hS3.drop.drop.drop
end

theorem walk_DeltaRows (a0 : Option Addr) (len0 cap0 : Nat) (z0 : List Int) (a1 : Int) (w : World) (w0 : IsRow .u8 w a0 len0 cap0 z0) (b0 : z0.length * 1 ≤ 140737488351232) (_w1 : (Lit.int .i64 a1).wf = true) :
    Calls Try.prog 7 #[.slice a0 len0 cap0, .int .i64 a1] w (retP fun v w' => v = .bool true ∧ RowKit.Below w.heap.size w w') := by
  obtain ⟨l, hl, hr⟩ := w0.bytes
  exact DeltaRows_ok (Sat.start w) 0 rfl (RdA.old hr) a1 fun w' hS => ⟨rfl, hS.below 0 rfl⟩

end Go.Proofs.Ytlkbenlhngkibaa
