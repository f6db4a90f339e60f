/-
  The statement DeltaBack, walked: it returns true, whatever the bytes and the number; what was there stays.
-/
import Derived.Test.YtlkbenlhngkibaaDeltaB
import Derived.Test.YtlkbenlhngkibaaRow
namespace Go.Proofs.Ytlkbenlhngkibaa
open Go

section
variable {E w : World} {L : List HA} {Q : Value → World → Prop} {A : HA} {l : List UInt8} {x : Value}

theorem DeltaBack_ok (hS : Sat E w L) (i : Nat) (hi : L[i]? = some A) (hA : RdA A 1 x l.length (bvs l)) (hl : l.length ≤ 140737488355328) (n : Int) (hQ : ∀ w', Sat E w' L → Q (.bool true) w') :
    Calls Try.prog 5 #[x, .int .i64 n] w (retP Q) := by
  refine pithlaw19_DeltaBack.calls ?_
  unfold pithlaw19_DeltaBack.F
  have hlo := dist_lo n
  have hhi := dist_hi n
  refine pN_callQ call_pithlaw19_distance (distance_ok n ?_)
  generalize dist n = d at hlo hhi ⊢
  refine pN_callQ call_pithlaw19_both (both_ok hS i hi hA hl d hlo hhi fun r s w1 hS1 => ?_)
  try simp (disch := omega) only [go_sem]
  have lr : (D.outs false d.toNat [] l).length = l.length := D.outs_length _ _ _ _
  have ls : (D.outs true d.toNat [] l).length = l.length := D.outs_length _ _ _ _
  have rr : RdA (own 5 1 r l.length (bvs (D.outs false d.toNat [] l))) 1 r (D.outs false d.toNat [] l).length (bvs (D.outs false d.toNat [] l)) := by rw [lr]; exact RdA.own
  have rs : RdA (own 5 1 s l.length (bvs (D.outs true d.toNat [] l))) 1 s (D.outs true d.toNat [] l).length (bvs (D.outs true d.toNat [] l)) := by rw [ls]; exact RdA.own
  refine pN_callQ call_pithlaw19_both (both_ok hS1 0 rfl rr (by omega) d hlo hhi fun r1 u w2 hS2 => ?_)
  try simp (disch := omega) only [go_sem]
  refine pN_callQ call_pithlaw19_both (both_ok hS2 3 rfl rs (by omega) d hlo hhi fun v s1 w3 hS3 => ?_)
  try simp (disch := omega) only [go_sem]
  refine pN_bs st_sl_uint8 (cells := #[.int .u8 7, .int .u8 9]) (by omega) (by omega) (by kernel_rfl) rfl hS3 fun c w4 hS4 => ?_
  try simp (disch := omega) only [go_sem]
  have rc : RdA (own 5 1 c 2 [Value.int .u8 7, Value.int .u8 9]) 1 c [7, 9].length (bvs [7, 9]) := RdA.own
  refine pN_callQ call_delta_Encode (Encode_ok hS4 0 rfl rc (by simp) 1 (by omega) (by omega) fun t w5 hS5 => ?_)
  rw [D.there_back, lr] at hS5
  rw [D.back_there, ls] at hS5
  have e7 : D.outs false (Int.toNat 1) [] [7, 9] = [7, 2] := by decide
  rw [e7] at hS5
  simp (disch := omega) only [go_sem, pN_str_sl_uint8 (hS5.rd 0 rfl RdA.own), pN_str_sl_uint8 (hS5.rd 2 rfl RdA.own), pN_str_sl_uint8 (hS5.rd 3 rfl RdA.own), pN_str_sl_uint8 (hS5.rd 4 rfl RdA.own), pN_str_sl_uint8 (hS5.rd 5 rfl RdA.own), pN_str_sl_uint8 (hS5.rd (i + 8) (by simpa using hi) hA)]
  exact hQ _ (hS5.drop.drop.drop.drop.drop.drop.drop.drop)
end

theorem walk_DeltaBack (a0 : Option Addr) (len0 cap0 : Nat) (z0 : List Int) (a1 : Int) (w : World) (w0 : IsRow .u8 w a0 len0 cap0 z0) (b0 : z0.length * 1 ≤ 140737488351232) (_w1 : (Lit.int .i64 a1).wf = true) :
    Calls Try.prog 5 #[.slice a0 len0 cap0, .int .i64 a1] w (retP fun v w' => v = .bool true ∧ RowKit.Below w.heap.size w w') := by
  obtain ⟨l, hl, hr⟩ := w0.bytes
  have := w0.len_le
  exact DeltaBack_ok (Sat.start w) 0 rfl (RdA.old hr) (by omega) a1 fun w' hS => ⟨rfl, hS.below 0 rfl⟩

end Go.Proofs.Ytlkbenlhngkibaa
