/-
  Package delta: whole, Encode, Decode; the statements' helpers distance and both.
-/
import Derived.Test.YtlkbenlhngkibaaDelta
namespace Go.Proofs.Ytlkbenlhngkibaa
open Go

section
variable {E w : World} {L : List HA} {Q : Value → World → Prop} {A : HA} {l : List UInt8} {x : Value}

theorem Whole_ok (hS : Sat E w L) (i : Nat) (hi : L[i]? = some A) (hA : RdA A 1 x l.length (bvs l)) (hl : l.length ≤ 140737488355328) (n : Int) (back : Bool) (h1 : 1 ≤ n) (h2 : n ≤ 256)
    (hQ : ∀ r w', Sat E w' (own 5 1 r l.length (bvs (D.outs back n.toNat [] l)) :: L) → Q (.tuple #[r, .int .i64 0]) w') :
    Calls Try.prog 25 #[x, .int .i64 n, .bool back] w (retP Q) := by
  refine delta_whole.calls ?_
  unfold delta_whole.F
  refine pN_callQ call_delta_New (New_ok hS n back h1 h2 fun b w1 hS1 => ?_)
  try simp (disch := omega) only [go_sem]
  refine pN_callQ call_delta_Filter_Next (Next_ok hS1 (by omega) (by omega) i hi hA hl fun r w2 hS2 => ?_)
  exact hQ _ _ ((hS2.front 1 rfl).drop)

theorem Whole_no (n : Int) (back : Bool) (h : ¬ (1 ≤ n ∧ n ≤ 256)) (hQ : Q (.tuple #[.slice none 0 0, .int .i64 6]) w) :
    Calls Try.prog 25 #[x, .int .i64 n, .bool back] w (retP Q) := by
  refine delta_whole.calls ?_
  unfold delta_whole.F
  refine pN_callQ call_delta_New (New_no n back h ?_)
  try simp (disch := omega) only [go_sem]
  exact hQ

theorem Encode_ok (hS : Sat E w L) (i : Nat) (hi : L[i]? = some A) (hA : RdA A 1 x l.length (bvs l)) (hl : l.length ≤ 140737488355328) (n : Int) (h1 : 1 ≤ n) (h2 : n ≤ 256)
    (hQ : ∀ r w', Sat E w' (own 5 1 r l.length (bvs (D.outs false n.toNat [] l)) :: L) → Q (.tuple #[r, .int .i64 0]) w') :
    Calls Try.prog 17 #[x, .int .i64 n] w (retP Q) := by
  refine delta_Encode.calls ?_
  unfold delta_Encode.F
  refine pN_callQ call_delta_whole (Whole_ok hS i hi hA hl n false h1 h2 fun r w1 hS1 => ?_)
  try simp (disch := omega) only [go_sem]
  exact hQ _ _ hS1

theorem Encode_no (n : Int) (h : ¬ (1 ≤ n ∧ n ≤ 256)) (hQ : Q (.tuple #[.slice none 0 0, .int .i64 6]) w) :
    Calls Try.prog 17 #[x, .int .i64 n] w (retP Q) := by
  refine delta_Encode.calls ?_
  unfold delta_Encode.F
  refine pN_callQ call_delta_whole (Whole_no n false h ?_)
  try simp (disch := omega) only [go_sem]
  exact hQ

theorem Decode_ok (hS : Sat E w L) (i : Nat) (hi : L[i]? = some A) (hA : RdA A 1 x l.length (bvs l)) (hl : l.length ≤ 140737488355328) (n : Int) (h1 : 1 ≤ n) (h2 : n ≤ 256)
    (hQ : ∀ r w', Sat E w' (own 5 1 r l.length (bvs (D.outs true n.toNat [] l)) :: L) → Q (.tuple #[r, .int .i64 0]) w') :
    Calls Try.prog 18 #[x, .int .i64 n] w (retP Q) := by
  refine delta_Decode.calls ?_
  unfold delta_Decode.F
  refine pN_callQ call_delta_whole (Whole_ok hS i hi hA hl n true h1 h2 fun r w1 hS1 => ?_)
  try simp (disch := omega) only [go_sem]
  exact hQ _ _ hS1

theorem Decode_no (n : Int) (h : ¬ (1 ≤ n ∧ n ≤ 256)) (hQ : Q (.tuple #[.slice none 0 0, .int .i64 6]) w) :
    Calls Try.prog 18 #[x, .int .i64 n] w (retP Q) := by
  refine delta_Decode.calls ?_
  unfold delta_Decode.F
  refine pN_callQ call_delta_whole (Whole_no n true h ?_)
  try simp (disch := omega) only [go_sem]
  exact hQ

/-- The distance of any number. -/
def dist (n : Int) : Int := (n.tmod 256).natAbs + 1
theorem dist_lo (n : Int) : 1 ≤ dist n := by unfold dist; omega
theorem dist_hi (n : Int) : dist n ≤ 256 := by
  unfold dist
  have := Int.tmod_lt_of_pos n (by omega : (0 : Int) < 256)
  have h2 : -256 < n.tmod 256 := by
    rcases Int.le_total 0 n with h | h
    · have := Int.tmod_nonneg 256 h; omega
    · have e : (-n).tmod 256 = -(n.tmod 256) := Int.neg_tmod n 256
      have := Int.tmod_lt_of_pos (-n) (by omega : (0 : Int) < 256)
      omega
  omega

theorem distance_ok (n : Int) (hQ : Q (.int .i64 (dist n)) w) : Calls Try.prog 21 #[.int .i64 n] w (retP Q) := by
  refine pithlaw19_distance.calls ?_
  unfold pithlaw19_distance.F
  have hlo := dist_lo n
  have hhi := dist_hi n
  unfold dist at hlo hhi
  have hQ' : Q (.int .i64 ((n.tmod 256).natAbs + 1)) w := hQ
  rw [pN_rem _ _ _ _ _ _ (by omega)]
  generalize n.tmod 256 = m at hQ' hlo hhi ⊢
  refine ⟨fun v w' => v = .int .i64 m.natAbs ∧ w' = w, ?_, ?_⟩
  · by_cases hm : m < 0
    · try simp (disch := omega) only [go_sem]
      refine ⟨?_, trivial⟩
      have : 0 - m = (m.natAbs : Int) := by omega
      rw [this]
    · try simp (disch := omega) only [go_sem]
      refine ⟨?_, trivial⟩
      have : m = (m.natAbs : Int) := by omega
      rw [← this]
  · rintro _ _ _ ⟨rfl, rfl⟩
    try simp (disch := omega) only [go_sem]
    exact hQ'

theorem both_ok (hS : Sat E w L) (i : Nat) (hi : L[i]? = some A) (hA : RdA A 1 x l.length (bvs l)) (hl : l.length ≤ 140737488355328) (n : Int) (h1 : 1 ≤ n) (h2 : n ≤ 256)
    (hQ : ∀ r s w', Sat E w' (own 5 1 r l.length (bvs (D.outs false n.toNat [] l)) :: own 5 1 s l.length (bvs (D.outs true n.toNat [] l)) :: L) → Q (.tuple #[r, s, .bool true]) w') :
    Calls Try.prog 22 #[x, .int .i64 n] w (retP Q) := by
  refine pithlaw19_both.calls ?_
  unfold pithlaw19_both.F
  refine pN_bs0 st_sl_uint8 hS fun c w1 hS1 => ?_
  try simp (disch := omega) only [go_sem]
  refine pN_append st_sl_uint8 hS1 (hS1.rd (i + 1) (by simpa using hi) hA) (bvs_one l) (by omega) (by omega) fun c w2 hS2 => ?_
  simp only [Nat.zero_add, List.nil_append] at hS2
  try simp (disch := omega) only [go_sem]
  refine pN_callQ call_delta_Encode (Encode_ok hS2 0 rfl RdA.own hl n h1 h2 fun r w3 hS3 => ?_)
  have hS3 := (hS3.front 1 rfl).drop
  simp only [List.eraseIdx] at hS3
  try simp (disch := omega) only [go_sem]
  refine pN_bs0 st_sl_uint8 hS3 fun c w4 hS4 => ?_
  try simp (disch := omega) only [go_sem]
  refine pN_append st_sl_uint8 hS4 (hS4.rd (i + 2) (by simpa using hi) hA) (bvs_one l) (by omega) (by omega) fun c w5 hS5 => ?_
  simp only [Nat.zero_add, List.nil_append] at hS5
  try simp (disch := omega) only [go_sem]
  refine pN_callQ call_delta_Decode (Decode_ok hS5 0 rfl RdA.own hl n h1 h2 fun s w6 hS6 => ?_)
  have hS6 := (hS6.front 1 rfl).drop
  simp only [List.eraseIdx] at hS6
  have hS6 := hS6.front 1 rfl
  simp only [List.eraseIdx] at hS6
  obtain ⟨_, _, _, rfl, _⟩ := hS6.rd 0 rfl RdA.own
  obtain ⟨_, _, _, rfl, _⟩ := hS6.rd 1 rfl RdA.own
  obtain ⟨_, _, _, rfl, _⟩ := hS.rd i hi hA
  try simp (disch := omega) only [go_sem]
  exact hQ _ _ _ hS6
end

end Go.Proofs.Ytlkbenlhngkibaa
