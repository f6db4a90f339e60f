/-
  The statement DeltaCuts, walked: two filters fed piece by piece answer as the whole.
-/
import Derived.Test.YtlkbenlhngkibaaDeltaB
import Derived.Test.YtlkbenlhngkibaaSlice
import Derived.Test.YtlkbenlhngkibaaRow
namespace Go.Proofs.Ytlkbenlhngkibaa
open Go

section
variable {E w : World} {L : List HA} {Q : Value → World → Prop} {A : HA} {l : List UInt8} {x : Value}

theorem ints_getD (k : IntKind) (cs : List Int) (i : Nat) (h : i < cs.length) : (cs.map (Value.int k)).getD i undef = .int k (cs.getD i 0) := by
  simp [h]

/-- A piece through a filter, appended to what it gave before. -/
theorem feed_ok {b d : Nat} {back : Bool} {h us m : List UInt8} {u y : Value} {f : Sem Next} {M : List HA} {K : Value → World → Prop} (hS : Sat E w (own 5 1 u us.length (bvs us) :: Flt b back d h :: M)) (hd1 : 1 ≤ d) (hd2 : d ≤ 256)
    (i : Nat) (hi : M[i]? = some A) (hA : RdA A 1 y m.length (bvs m)) (hl : us.length + m.length ≤ 140737488355328) (hf : ∀ w K, K y w → pN Try.prog f w K)
    (hK : ∀ v w', Sat E w' (own 5 1 v (us ++ D.outs back d h m).length (bvs (us ++ D.outs back d h m)) :: Flt b back d (D.hist back d h m) :: M) → K v w') :
    pN Try.prog (oBs 29 0 []) w fun c w1 => pN Try.prog f w1 fun y w2 => pN Try.prog (oBi .append #[29, 29] 29 [false, false] [c, y]) w2 fun z w3 =>
      pN Try.prog (oCall 12 [.pointer (some ⟨b, 0, none⟩), z]) w3 fun o w4 => pN Try.prog (oBi .append #[29, 29] 29 [false, false] [u, o]) w4 K := by
  refine pN_bs0 st_sl_uint8 hS fun c w1 hS1 => ?_
  refine hf _ _ ?_
  refine pN_append st_sl_uint8 hS1 (hS1.rd (i + 3) (by simpa using hi) hA) (bvs_one m) (by omega) (by omega) fun c w2 hS2 => ?_
  rw [Nat.zero_add, List.nil_append] at hS2
  have hS2' := hS2.front 2 rfl
  simp only [List.eraseIdx] at hS2'
  refine pN_callQ call_delta_Filter_Next (Next_ok hS2' hd1 hd2 0 rfl RdA.own (by omega) fun r w3 hS3 => ?_)
  have hS3' := hS3.front 3 rfl
  simp only [List.eraseIdx] at hS3'
  have lo := D.outs_length back d m h
  refine pN_append st_sl_uint8 hS3' (hS3'.rd 1 rfl RdA.own) (bvs_one _) (by omega) (by omega) fun v w4 hS4 => ?_
  refine hK _ _ ?_
  have hS5 := (hS4.front 1 rfl).drop
  simp only [List.eraseIdx] at hS5
  have hS6 := (hS5.front 2 rfl).drop
  simp only [List.eraseIdx] at hS6
  rw [bvs_append, List.length_append, lo]
  exact hS6

abbrev cutL (f g d : Nat) (l : List UInt8) (r s u v : Value) (n : Nat) (L : List HA) : List HA :=
  own 5 1 u (D.outs false d [] (l.take n)).length (bvs (D.outs false d [] (l.take n))) :: own 5 1 v (D.outs true d [] (l.take n)).length (bvs (D.outs true d [] (l.take n))) ::
      Flt f false d (D.hist false d [] (l.take n)) :: Flt g true d (D.hist true d [] (l.take n)) :: own 5 1 r l.length (bvs (D.outs false d [] l)) :: own 5 1 s l.length (bvs (D.outs true d [] l)) :: L

theorem take_on (l : List UInt8) (a b : Nat) (h : a ≤ b) : l.take a ++ (l.drop a).take (b - a) = l.take b := by
  have := List.take_add (l := l) (i := a) (j := b - a)
  rw [show a + (b - a) = b from by omega] at this
  exact this.symm

theorem DeltaCuts_ok (hS : Sat E w L) (i : Nat) (hi : L[i]? = some A) (hA : RdA A 1 x l.length (bvs l)) (hl : l.length ≤ 140737488355328) (n : Int)
    {B : HA} {y : Value} {cs : List Int} (j : Nat) (hj : L[j]? = some B) (hB : RdA B 1 y cs.length (cs.map (Value.int .i64))) (hcl : cs.length ≤ 9223372036854775807) (hcs : ∀ n ∈ cs, -9223372036854775808 ≤ n ∧ n < 9223372036854775808)
    (hQ : ∀ w', Sat E w' L → Q (.bool true) w') :
    Calls Try.prog 8 #[x, .int .i64 n, y] w (retP Q) := by
  refine pithlaw19_DeltaCuts.calls ?_
  unfold pithlaw19_DeltaCuts.F
  obtain ⟨_, ao, cap, rfl, _⟩ := hS.rd i hi hA
  obtain ⟨_, co, cp, rfl, _⟩ := hS.rd j hj hB
  have hlo := dist_lo n
  have hhi := dist_hi n
  refine pN_callQ call_pithlaw19_distance (distance_ok n ?_)
  generalize dist n = dd at hlo hhi ⊢
  obtain ⟨d, rfl⟩ : ∃ d : Nat, dd = d := ⟨dd.toNat, by omega⟩
  refine pN_callQ call_delta_New (New_ok hS d false hlo hhi fun f w1 hS1 => ?_)
  try simp (disch := omega) only [go_sem]
  refine pN_callQ call_delta_New (New_ok hS1 d true hlo hhi fun g w2 hS2 => ?_)
  try simp (disch := omega) only [go_sem]
  refine pN_callQ call_pithlaw19_both (both_ok hS2 (i + 2) (by simpa using hi) hA hl d hlo hhi fun r s w3 hS3 => ?_)
  try simp (disch := omega) only [go_sem]
  rw [Int.toNat_natCast] at hS3
  refine ⟨fun u v a k w' => ∃ at_ c : Nat, a = .int .i64 at_ ∧ k = .int .i64 c ∧ at_ ≤ l.length ∧ c ≤ cs.length ∧ Sat E w' (cutL f g d l r s u v at_ L),
    fun _ _ _ k _ => cs.length - (RowKit.intOf k).toNat, ⟨0, 0, rfl, rfl, Nat.zero_le _, Nat.zero_le _, ((hS3.nil _ _).nil _ _).ord [0, 1, 5, 4, 2, 3] rfl rfl⟩, ?_⟩
  rintro _ u v _ _ w4 ⟨at_, c, rfl, rfl, ha, hc, hS4⟩
  have ro := fun (b : Nat) => D.outs_length false d (l.take b) []
  have rs := fun (b : Nat) => D.outs_length true d (l.take b) []
  by_cases hlt : c < cs.length
  · try simp (disch := omega) only [go_sem]
    refine ⟨fun u v a w' => ∃ b : Nat, a = .int .i64 b ∧ b ≤ l.length ∧ Sat E w' (cutL f g d l r s u v b L), ?_, ?_⟩
    · refine pN_idx un_sl_int sz_int (hS4.rd (j + 6) (by simpa using hj) hB) (by omega) (by omega) fun p hp => ?_
      rw [Int.toNat_natCast, ints_getD _ _ _ hlt] at hp
      refine pN_ld na_int hp ?_
      have hk := hcs (cs.getD c 0) (by simp [hlt])
      generalize cs.getD c 0 = k at hk ⊢
      refine ⟨fun v w' => ∃ m : Nat, v = .int .i64 m ∧ m ≤ 9223372036854775807 ∧ w4 = w', ?_, ?_⟩
      · by_cases h0 : k < 0
        · try simp (disch := omega) only [go_sem]
          exact ⟨(-(k + 1)).toNat, by rw [Int.toNat_of_nonneg (by omega), Int.zero_sub], by omega, trivial⟩
        · try simp (disch := omega) only [go_sem]
          exact ⟨k.toNat, by rw [Int.toNat_of_nonneg (by omega)], by omega, trivial⟩
      rintro _ _ _ ⟨m, rfl, hm, rfl⟩
      try simp (disch := omega) only [go_sem]
      have z1 := Int.emod_nonneg (m : Int) (by omega : ((l.length : Int) - (at_ : Int) + 1) ≠ 0)
      have z2 := Int.emod_lt_of_pos (m : Int) (by omega : (0 : Int) < ((l.length : Int) - (at_ : Int) + 1))
      generalize (m : Int) % ((l.length : Int) - (at_ : Int) + 1) = z at z1 z2 ⊢
      obtain ⟨b, hz, hab, hbl⟩ : ∃ b : Nat, (at_ : Int) + z = b ∧ at_ ≤ b ∧ b ≤ l.length := ⟨(at_ + z).toNat, by omega, by omega, by omega⟩
      rw [hz]
      try simp (disch := omega) only [go_sem]
      refine feed_ok (A := A) (hS4.ord [0, 2, 1, 3] rfl rfl) (by omega) (by omega) (i + 4) (by simpa using hi) (hA.subb at_ b (by omega) (by omega)) (by rw [ro]; simp only [List.length_take, List.length_drop]; omega) (fun w K h => pN_sl st_sl_uint8 (hS4.rd (i + 6) (by simpa using hi) hA) (by omega) (by omega) (by omega) h) fun u w5 hS5 => ?_
      rw [← D.outs_append, ← D.hist_append, take_on l at_ b (by omega)] at hS5
      refine feed_ok (A := A) (hS5.ord [2, 3, 0, 1] rfl rfl) (by omega) (by omega) (i + 4) (by simpa using hi) (hA.subb at_ b (by omega) (by omega)) (by rw [rs]; simp only [List.length_take, List.length_drop]; omega) (fun w K h => pN_sl st_sl_uint8 (hS4.rd (i + 6) (by simpa using hi) hA) (by omega) (by omega) (by omega) h) fun v w6 hS6 => ?_
      rw [← D.outs_append, ← D.hist_append, take_on l at_ b (by omega)] at hS6
      exact ⟨b, rfl, hbl, hS6.ord [2, 0, 3, 1] rfl rfl⟩
    · rintro _ u v _ w5 ⟨b, rfl, hb, hS5⟩
      try simp (disch := omega) only [go_sem]
      exact ⟨⟨b, c + 1, rfl, by simp, hb, by omega, hS5⟩, by simp [RowKit.intOf]; omega⟩
  · try simp (disch := omega) only [go_sem]
    refine feed_ok (A := A) (hS4.ord [0, 2, 1, 3] rfl rfl) (by omega) (by omega) (i + 4) (by simpa using hi) (hA.subb at_ l.length (by omega) (by omega)) (by rw [ro]; simp only [List.length_take, List.length_drop]; omega) (fun w K h => pN_sl_l st_sl_uint8 (hS4.rd (i + 6) (by simpa using hi) hA) (by omega) (by omega) h) fun u w5 hS5 => ?_
    rw [← D.outs_append, ← D.hist_append, take_on l at_ l.length (by omega)] at hS5
    refine feed_ok (A := A) (hS5.ord [2, 3, 0, 1] rfl rfl) (by omega) (by omega) (i + 4) (by simpa using hi) (hA.subb at_ l.length (by omega) (by omega)) (by rw [rs]; simp only [List.length_take, List.length_drop]; omega) (fun w K h => pN_sl_l st_sl_uint8 (hS4.rd (i + 6) (by simpa using hi) hA) (by omega) (by omega) h) fun v w6 hS6 => ?_
    rw [← D.outs_append, ← D.hist_append, take_on l at_ l.length (by omega)] at hS6
    rw [List.take_length] at hS6
    have e1 : RdA (own 5 1 r l.length (bvs (D.outs false d [] l))) 1 r (D.outs false d [] l).length (bvs (D.outs false d [] l)) := by rw [D.outs_length]; exact RdA.own
    have e2 : RdA (own 5 1 s l.length (bvs (D.outs true d [] l))) 1 s (D.outs true d [] l).length (bvs (D.outs true d [] l)) := by rw [D.outs_length]; exact RdA.own
    simp (disch := omega) only [go_sem, pN_str_sl_uint8 (hS6.rd 0 rfl RdA.own), pN_str_sl_uint8 (hS6.rd 2 rfl RdA.own), pN_str_sl_uint8 (hS6.rd 4 rfl e1), pN_str_sl_uint8 (hS6.rd 5 rfl e2)]
    exact hQ _ hS6.drop.drop.drop.drop.drop.drop
end

theorem walk_DeltaCuts (a0 : Option Addr) (len0 cap0 : Nat) (z0 : List Int) (a1 : Int) (a2 : Option Addr) (len2 cap2 : Nat) (z2 : List Int) (w : World) (w0 : IsRow .u8 w a0 len0 cap0 z0) (b0 : z0.length * 1 ≤ 140737488351232) (_w1 : (Lit.int .i64 a1).wf = true)
    (w2 : IsRow .i64 w a2 len2 cap2 z2) (b2 : z2.length * 8 ≤ 140737488351232) :
    Calls Try.prog 8 #[.slice a0 len0 cap0, .int .i64 a1, .slice a2 len2 cap2] w (retP fun v w' => v = .bool true ∧ RowKit.Below w.heap.size w w') := by
  obtain ⟨l, hl, hr⟩ := w0.bytes
  have h0 := w0.len_le
  have h2 := w2.len_le
  have e2 : (z2.take len2).length = len2 := by simp; omega
  have hr2 := w2.rd
  have hz : Rd w 1 (.slice a2 len2 cap2) (z2.take len2).length ((z2.take len2).map (Value.int .i64)) := by rw [e2]; exact hr2
  exact DeltaCuts_ok (Sat.start w) 0 rfl (RdA.old hr) (by omega) a1 0 rfl (RdA.old hz) (by omega) (fun n hn => wf_i64 (w2.wf n hn)) fun w' hS => ⟨rfl, hS.below 0 rfl⟩

end Go.Proofs.Ytlkbenlhngkibaa
