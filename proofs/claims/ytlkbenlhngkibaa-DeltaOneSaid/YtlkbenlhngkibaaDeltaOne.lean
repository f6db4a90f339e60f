/-
  The statement DeltaOne, walked: it returns true, whatever the bytes, the distance, the place and the change; what was there stays.
-/
import Derived.Test.YtlkbenlhngkibaaDeltaB
import Derived.Test.YtlkbenlhngkibaaRow
namespace Go.Proofs.Ytlkbenlhngkibaa
open Go

section
variable {E w : World} {L : List HA} {Q : Value → World → Prop} {A : HA} {l : List UInt8} {x : Value}

set_option maxHeartbeats 1000000 in
theorem DeltaOne_ok (hS : Sat E w L) (i : Nat) (hi : L[i]? = some A) (hA : RdA A 1 x l.length (bvs l)) (hl : l.length ≤ 140737488355328) (n at_ : Int) (t : UInt8) (hQ : ∀ w', Sat E w' L → Q (.bool true) w') :
    Calls Try.prog 6 #[x, .int .i64 n, .int .i64 at_, bv t] w (retP Q) := by
  refine pithlaw19_DeltaOne.calls ?_
  unfold pithlaw19_DeltaOne.F
  obtain ⟨_, ao, cap, rfl, _⟩ := hS.rd i hi hA
  by_cases h0 : l.length = 0
  · try simp (disch := omega) only [go_sem]
    exact hQ _ hS
  try simp (disch := omega) only [go_sem]
  have hlo := dist_lo n
  have hhi := dist_hi n
  refine pN_callQ call_pithlaw19_distance (distance_ok n ?_)
  generalize dist n = dd at hlo hhi ⊢
  obtain ⟨d, rfl⟩ : ∃ d : Nat, dd = d := ⟨dd.toNat, by omega⟩
  try simp (disch := omega) only [go_sem]
  have hm1 := Int.tmod_lt_of_pos at_ (by omega : (0 : Int) < l.length)
  have hm2 : -(l.length : Int) < at_.tmod l.length := by
    rcases Int.le_total 0 at_ with h | h
    · have := Int.tmod_nonneg (l.length : Int) h; omega
    · have e : (-at_).tmod l.length = -(at_.tmod l.length) := Int.neg_tmod at_ _
      have := Int.tmod_lt_of_pos (-at_) (by omega : (0 : Int) < l.length)
      omega
  generalize at_.tmod l.length = m at hm1 hm2 ⊢
  refine ⟨fun v w' => ∃ a : Nat, v = .int .i64 a ∧ a < l.length ∧ w' = w, ?_, ?_⟩
  · by_cases hm : m < 0
    · simp (disch := omega) only [go_sem]
      exact ⟨(m + l.length).toNat, by rw [Int.toNat_of_nonneg (by omega)], by omega, trivial⟩
    · simp (disch := omega) only [go_sem]
      exact ⟨m.toNat, by rw [Int.toNat_of_nonneg (by omega)], by omega, trivial⟩
  rintro _ _ _ ⟨a, rfl, ha, rfl⟩
  refine pN_bs0 st_sl_uint8 hS fun c w1 hS1 => ?_
  try simp (disch := omega) only [go_sem]
  refine pN_append st_sl_uint8 hS1 (hS1.rd (i + 1) (by simpa using hi) hA) (bvs_one l) (by omega) (by omega) fun c w2 hS2 => ?_
  simp only [Nat.zero_add, List.nil_append] at hS2
  try simp (disch := omega) only [go_sem]
  refine pN_idx un_sl_uint8 sz_uint8 (hS2.rd 0 rfl RdA.own) (by omega) (by omega) fun p hp => ?_
  rw [Int.toNat_natCast, bvs_getD0 _ _ ha] at hp
  refine pN_ld na_uint8 hp ?_
  try simp (disch := omega) only [go_sem]
  refine pN_idx_own un_sl_uint8 sz_uint8 (hS2.own_at 0 rfl) (by omega) (by omega) fun g cp hv => ?_
  subst hv
  refine pN_st_own hS2 sz_uint8 rfl (by rw [bvs_length]; omega) fun w3 hS3 => ?_
  rw [Int.toNat_natCast, bvs_set] at hS3
  generalize hc : Value.slice (some ⟨g, 0, none⟩) l.length cp = c at hS3 ⊢
  have ll : (l.set a (l.getD a 0 + t)).length = l.length := by simp
  have hone := fun k hk => D.one_enc d l a k t (by omega) ha hk
  have htwo := D.one_dec d l a t (by omega) ha
  have rc : RdA (own 5 1 c l.length (bvs (l.set a (l.getD a 0 + t)))) 1 c (l.set a (l.getD a 0 + t)).length (bvs (l.set a (l.getD a 0 + t))) := by rw [ll]; exact RdA.own
  generalize l.set a (l.getD a 0 + t) = l2 at hS3 ll rc hone htwo ⊢
  refine pN_callQ call_pithlaw19_both (both_ok hS3 (i + 1) (by simpa using hi) hA hl d hlo hhi fun r s w4 hS4 => ?_)
  try simp (disch := omega) only [go_sem]
  refine pN_callQ call_pithlaw19_both (both_ok hS4 2 rfl rc (by omega) d hlo hhi fun u v w5 hS5 => ?_)
  rw [Int.toNat_natCast, ll] at hS5
  have lx := D.outs_length false d l []
  have ly := D.outs_length true d l []
  have lu := D.outs_length false d l2 []
  have lv := D.outs_length true d l2 []
  generalize D.outs false d [] l = X at hS5 lx hone ⊢
  generalize D.outs true d [] l = Y at hS5 ly htwo ⊢
  generalize D.outs false d [] l2 = U at hS5 lu hone ⊢
  generalize D.outs true d [] l2 = V at hS5 lv htwo ⊢
  generalize hM : (own 5 1 u l.length (bvs U) :: own 5 1 v l.length (bvs V) :: own 5 1 r l.length (bvs X) :: own 5 1 s l.length (bvs Y) :: own 5 1 c l.length (bvs l2) :: L) = M at hS5
  have ru : ∀ w, Sat E w M → Rd w 1 u l.length (bvs U) := fun w h => h.rd 0 (by rw [← hM]; rfl) RdA.own
  have rv : ∀ w, Sat E w M → Rd w 1 v l.length (bvs V) := fun w h => h.rd 1 (by rw [← hM]; rfl) RdA.own
  have rx : ∀ w, Sat E w M → Rd w 1 r l.length (bvs X) := fun w h => h.rd 2 (by rw [← hM]; rfl) RdA.own
  have ry : ∀ w, Sat E w M → Rd w 1 s l.length (bvs Y) := fun w h => h.rd 3 (by rw [← hM]; rfl) RdA.own
  try simp (disch := omega) only [go_sem]
  refine ⟨fun v w' => ∃ k : Nat, v = .int .i64 k ∧ k ≤ l.length ∧ Sat E w' M, fun v _ => l.length - (RowKit.intOf v).toNat, ⟨0, rfl, Nat.zero_le _, hS5⟩, ?_⟩
  rintro _ _ w6 ⟨k, rfl, hk, hS6⟩
  by_cases hlt : k < l.length
  · try simp (disch := omega) only [go_sem]
    refine ⟨fun w' => Sat E w' M, ?_, ?_⟩
    · refine ⟨fun v w' => v = bv (if k = a then t else 0) ∧ w' = w6, ?_, ?_⟩
      · by_cases hka : k = a
        · simp (disch := omega) only [go_sem, hka, if_true]; exact ⟨trivial, trivial⟩
        · simp (disch := omega) only [go_sem, hka, if_false]; exact ⟨rfl, trivial⟩
      rintro _ _ w6 ⟨rfl, rfl⟩
      refine ⟨fun v w' => v = bv (if k = a + d then -t else if k = a then t else 0) ∧ w' = w6, ?_, ?_⟩
      · by_cases hka : k = a + d
        · simp (disch := omega) only [go_sem]; exact ⟨by rw [if_pos hka], trivial⟩
        · simp (disch := omega) only [go_sem]; exact ⟨by rw [if_neg hka], trivial⟩
      rintro _ _ w6 ⟨rfl, rfl⟩
      refine ⟨fun v w' => v = bv (if a ≤ k ∧ (k - a) % d = 0 then t else 0) ∧ w' = w6, ?_, ?_⟩
      · by_cases hak : a ≤ k
        · simp (disch := omega) only [go_sem]
          have e1 : ((k : Int) - (a : Int)) % (d : Int) = (((k - a) % d : Nat) : Int) := by rw [Int.natCast_emod, Int.ofNat_sub hak]
          rw [e1]
          by_cases he : (k - a) % d = 0
          · simp (disch := omega) only [go_sem]; exact ⟨by rw [if_pos ⟨hak, he⟩], trivial⟩
          · simp (disch := omega) only [go_sem]; exact ⟨by rw [if_neg (fun h => he h.2)]; rfl, trivial⟩
        · simp (disch := omega) only [go_sem]; exact ⟨by rw [if_neg (fun h => hak h.1)]; rfl, trivial⟩
      rintro _ _ w6 ⟨rfl, rfl⟩
      simp only [pDr_def]
      have hS7 := hS6.drew
      generalize w6.drew = w7 at hS7 ⊢
      refine pA_idx un_sl_uint8 sz_uint8 (ru _ hS7) (by omega) (by omega) fun p1 h1 => ?_
      rw [Int.toNat_natCast, bvs_getD0 _ _ (by omega)] at h1
      refine pL_ld na_uint8 h1 ?_
      refine pA_idx un_sl_uint8 sz_uint8 (rx _ hS7) (by omega) (by omega) fun p2 h2 => ?_
      rw [Int.toNat_natCast, bvs_getD0 _ _ (by omega)] at h2
      refine pL_ld na_uint8 h2 ?_
      have e1 := hone k hlt
      have e2 := htwo k hlt
      try simp (disch := omega) only [go_sem]
      rw [e1]
      simp (disch := omega) only [go_sem, bne_self_eq_false]
      refine pA_idx un_sl_uint8 sz_uint8 (rv _ hS7) (by omega) (by omega) fun p3 h3 => ?_
      rw [Int.toNat_natCast, bvs_getD0 _ _ (by omega)] at h3
      try simp (disch := omega) only [go_sem]
      refine pL_ld na_uint8 h3 ?_
      try simp (disch := omega) only [go_sem]
      refine pA_idx un_sl_uint8 sz_uint8 (ry _ hS7) (by omega) (by omega) fun p4 h4 => ?_
      rw [Int.toNat_natCast, bvs_getD0 _ _ (by omega)] at h4
      try simp (disch := omega) only [go_sem]
      refine pL_ld na_uint8 h4 ?_
      try simp (disch := omega) only [go_sem]
      rw [e2]
      simp (disch := omega) only [go_sem, bne_self_eq_false]
      exact hS7
    · rintro _ w8 hS8
      try simp (disch := omega) only [go_sem]
      refine ⟨⟨k + 1, rfl, by omega, hS8⟩, ?_⟩
      simp only [RowKit.intOf]
      omega
  · try simp (disch := omega) only [go_sem]
    rw [← hM] at hS6
    exact hQ _ hS6.drop.drop.drop.drop.drop
end

theorem walk_DeltaOne (a0 : Option Addr) (len0 cap0 : Nat) (z0 : List Int) (a1 a2 a3 : Int) (w : World) (w0 : IsRow .u8 w a0 len0 cap0 z0) (b0 : z0.length * 1 ≤ 140737488351232) (_w1 : (Lit.int .i64 a1).wf = true) (_w2 : (Lit.int .i64 a2).wf = true) (w3 : (Lit.int .u8 a3).wf = true) :
    Calls Try.prog 6 #[.slice a0 len0 cap0, .int .i64 a1, .int .i64 a2, .int .u8 a3] w (retP fun v w' => v = .bool true ∧ RowKit.Below w.heap.size w w') := by
  obtain ⟨l, hl, hr⟩ := w0.bytes
  have := w0.len_le
  have h3 := wf_u8 w3
  have e : Value.int .u8 a3 = bv (UInt8.ofNat a3.toNat) := by
    simp only [bv, UInt8.toNat_ofNat']
    congr 1
    omega
  rw [e]
  exact DeltaOne_ok (Sat.start w) 0 rfl (RdA.old hr) (by omega) a1 a2 _ fun w' hS => ⟨rfl, hS.below 0 rfl⟩

end Go.Proofs.Ytlkbenlhngkibaa
