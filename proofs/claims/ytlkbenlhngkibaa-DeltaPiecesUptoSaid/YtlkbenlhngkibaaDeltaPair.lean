/-
  A filter beside the document's own one: what both know, and a step of both.
-/
import Derived.Test.YtlkbenlhngkibaaDeltaWhole
namespace Go.Proofs.Ytlkbenlhngkibaa
open Go

/-- A filter, or none where the distance is refused. -/
def Ft (b : Nat) (n : Int) (back : Bool) (l : List UInt8) : HA := if 1 ≤ n ∧ n ≤ 256 then Flt b back n.toNat (D.hist back n.toNat [] l) else emp
def fp (n : Int) (b : Nat) : Option Addr := if 1 ≤ n ∧ n ≤ 256 then some ⟨b, 0, none⟩ else none
/-- The document's filter: all bytes so far. -/
def Ref (r : Nat) (n : Int) (back : Bool) (l : List UInt8) : HA := fun hp => ∃ v, Sats [blk r (.cells #[.int .i64 n, .bool back, v] 31 (0, 0)), own 5 1 v l.length (bvs l)] hp

section
variable {E w : World} {L : List HA} {Q : Value → World → Prop} {A : HA} {l m : List UInt8} {x : Value}

theorem Sat.none_ (hS : Sat E w L) : Sat E w (emp :: L) := ⟨hS.os, hS.tape, hS.output, hS.sats.nothing⟩

theorem New_any (hS : Sat E w L) (n : Int) (back : Bool) (hQ : ∀ b w', Sat E w' (Ft b n back [] :: L) → Q (.tuple #[.pointer (fp n b), .int .i64 (D.err n)]) w') :
    Calls Try.prog 9 #[.int .i64 n, .bool back] w (retP Q) := by
  by_cases h : 1 ≤ n ∧ n ≤ 256
  · refine New_ok hS n back h.1 h.2 fun b w1 hS1 => ?_
    have := hQ b w1
    unfold Ft fp D.err at this
    rw [if_pos h, if_pos h, if_pos h] at this
    exact this hS1
  · refine New_no n back h ?_
    have := hQ 0 w
    unfold Ft fp D.err at this
    rw [if_neg h, if_neg h, if_neg h] at this
    exact this hS.none_

theorem RNext_ok {r : Nat} {n : Int} {back : Bool} (hS : Sat E w (Ref r n back l :: L)) (h1 : 1 ≤ n) (h2 : n ≤ 256) (i : Nat) (hi : L[i]? = some A) (hA : RdA A 1 x m.length (bvs m)) (hl : l.length + m.length ≤ 140737488355328)
    (hQ : ∀ o w', Sat E w' (own 5 1 o (l ++ m).length (bvs (D.outs back n.toNat [] (l ++ m))) :: Ref r n back (l ++ m) :: L) → Q (subV o l.length (l ++ m).length 1) w') :
    Calls Try.prog 13 #[.pointer (some ⟨r, 0, none⟩), x] w (retP Q) := by
  refine pithref19_Filter_Next.calls ?_
  unfold pithref19_Filter_Next.F
  obtain ⟨v, hS0⟩ : ∃ v, Sat E w (blk r (.cells #[.int .i64 n, .bool back, v] 31 (0, 0)) :: own 5 1 v l.length (bvs l) :: L) := by
    obtain ⟨v, hs⟩ := Sat.ex hS
    exact ⟨v, hs.open_ fun _ h => h⟩
  try simp (disch := omega) only [go_sem]
  refine pN_ld na_sl_uint8 (hS0.cellv 0 rfl 2 rfl) ?_
  simp (disch := omega) only [go_sem, pN_len_sl_uint8_rd _ _ (hS0.rd 1 rfl RdA.own)]
  refine pN_ld na_sl_uint8 (hS0.cellv 0 rfl 2 rfl) ?_
  refine pN_append st_sl_uint8 (hS0.ord [1, 0] rfl rfl) ((hS0.ord [1, 0] rfl rfl).rd (i + 2) (by simpa using hi) hA) (bvs_one m) (by omega) (by omega) fun u w1 hS1 => ?_
  rw [← bvs_append] at hS1
  try simp (disch := omega) only [go_sem]
  refine pN_st_blk (hS1.ord [1, 0] rfl rfl) sz_sl_uint8 (hS1.rd 0 rfl RdA.own).one (by simp) fun w2 hS2 => ?_
  simp only [Array.setIfInBounds, List.size_toArray] at hS2
  try simp only [pDr_def]
  replace hS2 := hS2.drew
  generalize w2.drew = w2 at hS2 ⊢
  try simp (disch := omega) only [go_sem]
  refine pL_ld na_sl_uint8 (hS2.cellv 0 rfl 2 rfl) ?_
  try simp (disch := omega) only [go_sem]
  refine pL_ld na_int (hS2.cellv 0 rfl 0 rfl) ?_
  try simp (disch := omega) only [go_sem]
  refine pL_ld na_bool (hS2.cellv 0 rfl 1 rfl) ?_
  have hu : RdA (own 5 1 u (l.length + m.length) (bvs (l ++ m))) 1 u (l ++ m).length (bvs (l ++ m)) := by rw [List.length_append]; exact RdA.own
  refine pN_callQ call_pithref19_Code (Code_ok hS2 1 rfl hu (by simpa using hl) n back h1 h2 fun o w3 hS3 => ?_)
  try simp (disch := omega) only [go_sem]
  refine ⟨trivial, ?_⟩
  refine pN_sl_l st_sl_uint8 (hS3.rd 0 rfl RdA.own) (by omega) (by rw [List.length_append]; omega) ?_
  rw [Int.toNat_natCast]
  refine hQ o _ ?_
  have h4 : Sat E w3 (Ref r n back (l ++ m) :: own 5 1 o (l ++ m).length (bvs (D.outs back n.toNat [] (l ++ m))) :: L) := by
    refine Sat.shut (M := [_, _]) (hS3.ord [1, 2, 0] rfl rfl) fun hp h => ?_
    rw [← List.length_append] at h
    exact ⟨u, h⟩
  exact h4.front 1 rfl
end

end Go.Proofs.Ytlkbenlhngkibaa
