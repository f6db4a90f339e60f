/-
  Texts of one proof, one behind the other: DecQ0, DecTrip, Fol, TGet, Sim, ZRd, ZSymR, LfLzenc, LfTree, LfRcenc.
-/
import Derived.Test.YtbgnnjfpiblkmaaGreatDoorRows
import Derived.Test.YtbgnnjfpiblkmaaGreatDoorMg5
namespace Go.Proofs.YtbgnnjfpiblkmaaGreatDoor
open Go
set_option linter.unusedSimpArgs false
set_option linter.unnecessarySimpa false
set_option linter.unusedSectionVars false
set_option linter.unusedVariables false
attribute [local irreducible] oMv oV oU oCall oCallV oBi oBin oUn oLoad oStore oNil oFld oField oIdx oIndex oPick oAlloc oBox oBuild oBs oConv oMk oSl oExt oFn oIface oMap oLook oMapUp oRange oNext oEntry oInv oAssert oPanic oRes pN pA pL pDr pIf gA pGd

namespace D
def S.bitQ (st : S) (l : List Int) (i : Int) : S × List Int × Int × Int :=
  if 0 ≤ i ∧ i < l.length then match st.bit (B.bound st.R (l.getD i.toNat 0)) with
    | .ok t v => (t, l.set i.toNat (B.next (l.getD i.toNat 0) v), v, 0)
    | .no e => (st, l, 0, e)
  else (st, l, 0, 7)
def S.dirQ (st : S) (n : Int) : S × Int × Int :=
  if 0 ≤ n ∧ n ≤ 32 then match st.direct 0 n.toNat with
    | .ok t v => (t, v, 0)
    | .no e => (st, 0, e)
  else (st, 0, 7)
theorem bit_mid {st : S} (ho : Ok st) {l : List Int} (hf : B.Fine l) {i : Int} (h : 0 ≤ i ∧ i < l.length) : 65536 ≤ B.bound st.R (l.getD i.toNat 0) ∧ 65536 ≤ st.R - B.bound st.R (l.getD i.toNat 0) := by
  have hx : l[i.toNat]? = some (l.getD i.toNat 0) := by
    rw [List.getD_eq_getElem?_getD, List.getElem?_eq_getElem (show i.toNat < l.length by omega)]; rfl
  have hp := hf.get hx
  exact bound_mid ho.r0 hp.1 hp.2
theorem bitQ_ok {st : S} (ho : Ok st) {l : List Int} (hf : B.Fine l) (i : Int) : Ok (st.bitQ l i).1 ∧ (st.bitQ l i).1.b = st.b ∧ B.Fine (st.bitQ l i).2.1 ∧ (st.bitQ l i).2.1.length = l.length := by
  unfold S.bitQ
  split
  · rename_i h
    have hm := bit_mid ho hf h
    split
    · rename_i t v e
      have := ho.bit hm.1 hm.2 e
      have hx : l[i.toNat]? = some (l.getD i.toNat 0) := by
        rw [List.getD_eq_getElem?_getD, List.getElem?_eq_getElem (show i.toNat < l.length by omega)]; rfl
      have o1 := ((⟨R.Ok.new, hf⟩ : R.TS.Ok ⟨R.S.new, l⟩).bit h.1 h.2 v).1.f
      exact ⟨this.1, this.2.1, o1, by simp⟩
    · exact ⟨ho, rfl, hf, rfl⟩
  · exact ⟨ho, rfl, hf, rfl⟩
theorem dirQ_ok {st : S} (ho : Ok st) (n : Int) : Ok (st.dirQ n).1 ∧ (st.dirQ n).1.b = st.b := by
  unfold S.dirQ
  split
  · split
    · rename_i t v e
      exact Ok.direct _ ho e
    · exact ⟨ho, rfl⟩
  · exact ⟨ho, rfl⟩
abbrev A := S × List Int
theorem bitQ_no {st : S} {l : List Int} {i : Int} (h : (st.bitQ l i).2.2.2 ≠ 0) : (st.bitQ l i).1 = st ∧ (st.bitQ l i).2.1 = l := by
  unfold S.bitQ at *
  split
  · rename_i hn
    simp only [if_pos hn] at h
    split
    · rename_i t v e
      simp only [e] at h
      exact absurd rfl h
    · exact ⟨rfl, rfl⟩
  · exact ⟨rfl, rfl⟩
theorem bitQ_v {st : S} {l : List Int} {i : Int} : (st.bitQ l i).2.2.1 = 0 ∨ (st.bitQ l i).2.2.1 = 1 := by
  unfold S.bitQ
  split
  · split
    · rename_i t v e
      unfold S.bit at e
      split at e
      · cases e; exact bitAt_01 _ _
      · cases e
    · exact .inl rfl
  · exact .inl rfl

structure AOk (a : A) : Prop where
  s : Ok a.1
  f : B.Fine a.2
structure Same (z a : A) : Prop where
  b : z.1.b = a.1.b
  n : z.2.length = a.2.length
end D

section
variable {E w : World} {M : List HA} {Q : Value → World → Prop} {d p : Nat} {st : D.S} {l : List Int}

theorem DBit_q (hS : Sat E w (Dec d st :: PSet p l :: M)) (ho : D.Ok st) (hf : B.Fine l) (hb : st.b.length ≤ 225000000000000) (i : Int)
    (hQ : ∀ w, Sat E w (Dec d (st.bitQ l i).1 :: PSet p (st.bitQ l i).2.1 :: M) → Q (.tuple #[.int .i64 (st.bitQ l i).2.2.1, .int .i64 (st.bitQ l i).2.2.2]) w) :
    Calls Tryz.prog 163 #[.pointer (some ⟨d, 0, none⟩), .pointer (some ⟨p, 0, none⟩), .int .i64 i] w (retP Q) := by
  unfold D.S.bitQ at hQ
  refine DBit_ok hS ho hf hb i (fun h w hS => ?_) (fun t v w h0 h1 e hS => ?_) fun e w h0 h1 he hS => ?_
  · simp only [if_neg h] at hQ; exact hQ w hS
  · simp only [if_pos (show 0 ≤ i ∧ i < l.length from ⟨h0, h1⟩), e] at hQ; exact hQ w hS
  · simp only [if_pos (show 0 ≤ i ∧ i < l.length from ⟨h0, h1⟩), he] at hQ; exact hQ w hS
theorem DDirect_q (hS : Sat E w (Dec d st :: M)) (ho : D.Ok st) (hb : st.b.length ≤ 225000000000000) (n : Int)
    (hQ : ∀ w, Sat E w (Dec d (st.dirQ n).1 :: M) → Q (.tuple #[.int .u32 (st.dirQ n).2.1, .int .i64 (st.dirQ n).2.2]) w) :
    Calls Tryz.prog 166 #[.pointer (some ⟨d, 0, none⟩), .int .i64 n] w (retP Q) := by
  unfold D.S.dirQ at hQ
  refine DDirect_ok hS ho hb n (fun h w hS => ?_) (fun t v w h0 h1 e hS => ?_) fun e w h0 h1 he hS => ?_
  · simp only [if_neg h] at hQ; exact hQ w hS
  · simp only [if_pos (show 0 ≤ n ∧ n ≤ 32 from ⟨h0, h1⟩), e] at hQ; exact hQ w hS
  · simp only [if_pos (show 0 ≤ n ∧ n ≤ 32 from ⟨h0, h1⟩), he] at hQ; exact hQ w hS
theorem DNew_in {s0 : Sl} {l : List UInt8} (hS : Sat E w M) [hr : Rds cd_uint8 M s0 l] (hb : l.length ≤ 225000000000000) {t : D.S} (h : D.start l = .ok t ())
    (hok : ∀ d w, Sat E w (Dec d t :: M) → Q (.tuple #[.pointer (some ⟨d, 0, none⟩), .int .i64 0]) w) : Calls Tryz.prog 87 #[.slice s0.a l.length s0.c] w (retP Q) :=
  DNew_ok hS hb (fun t' d w e hS => by rw [h] at e; cases e; exact hok d w hS) fun e w he _ => by rw [h] at he; cases he
theorem DNew_no {s0 : Sl} {l : List UInt8} (hS : Sat E w M) [hr : Rds cd_uint8 M s0 l] (hb : l.length ≤ 225000000000000) {e : Int} (h : D.start l = .no e)
    (hre : ∀ w, Sat E w M → Q (.tuple #[.pointer none, .int .i64 e]) w) : Calls Tryz.prog 87 #[.slice s0.a l.length s0.c] w (retP Q) :=
  DNew_ok hS hb (fun t' d w e hS => by rw [h] at e; cases e) fun e' w he hS => by rw [h] at he; cases he; exact hre w hS
end

end Go.Proofs.YtbgnnjfpiblkmaaGreatDoor

namespace Go.Proofs.YtbgnnjfpiblkmaaGreatDoor
open Go
set_option linter.unusedSimpArgs false
set_option linter.unnecessarySimpa false
set_option linter.unusedSectionVars false
set_option linter.unusedVariables false

namespace D
structure In (s f : R.S) : Prop where
  k : s.k ≤ f.k
  lo : s.N * 256 ^ (f.k - s.k) ≤ f.N
  hi : f.N < (s.N + s.R) * 256 ^ (f.k - s.k)
theorem In.wide {s f : R.S} (h : In ⟨s.N * 256, s.R * 256, s.k + 1⟩ f) : In s f := by
  obtain ⟨h1, h2, h3⟩ := h
  have h1 : s.k + 1 ≤ f.k := h1
  have e : f.k - s.k = (f.k - (s.k + 1)) + 1 := by omega
  have e2 : ∀ x : Int, x * 256 ^ (f.k - s.k) = x * 256 * 256 ^ (f.k - (s.k + 1)) := fun x => by rw [e, Int.pow_succ, Int.mul_comm (256 ^ _) 256, ← Int.mul_assoc]
  refine ⟨by omega, by rw [e2]; exact h2, ?_⟩
  rw [e2, Int.add_mul]
  exact h3
theorem In.widen {s f : R.S} (h0 : 65536 ≤ s.R) (h : In s.widen f) : In s f := by
  by_cases hr : s.R < 16777216
  · rw [R.S.widen_go (by omega) hr] at h
    rw [R.S.widen_no (show ¬ s.R * 256 < 16777216 by omega)] at h
    exact h.wide
  · rwa [R.S.widen_no hr] at h
def seen (f : R.S) (k : Nat) : Int := f.N / 256 ^ (f.k - k)
theorem In.seen {s f : R.S} (h : In s f) : s.N ≤ seen f s.k ∧ seen f s.k < s.N + s.R := by
  have p : (0 : Int) < 256 ^ (f.k - s.k) := Int.pow_pos (by omega)
  exact ⟨(Int.le_ediv_iff_mul_le p).2 h.lo, (Int.ediv_lt_iff_lt_mul p).2 h.hi⟩

structure Begins (b : List UInt8) (f : R.S) : Prop where
  len : f.k + 5 ≤ b.length
  num : ∀ i, i ≤ f.k + 5 → R.num (b.take i) = f.N / 256 ^ (f.k + 5 - i)
theorem Begins.of {f : R.S} (h : R.Ok f) (more : List UInt8) : Begins (f.bytes ++ more) f := by
  have hl : f.bytes.length = f.k + 5 := R.digits_length _ _
  refine ⟨by rw [List.length_append]; omega, fun i hi => ?_⟩
  rw [List.take_append_of_le_length (by omega)]
  have h1 : R.num f.bytes = f.N := by
    rw [R.S.bytes, R.num_digits]
    have h5 := h.top
    have h6 := h.n0
    have h7 := h.r0
    have e : (256 : Int) ^ (f.k + 5) = 256 * (4294967296 * 256 ^ f.k) := by
      rw [Int.pow_add, show (256 : Int) ^ 5 = 256 * 4294967296 from by decide, Int.mul_comm, Int.mul_assoc]
    exact Int.emod_eq_of_lt h6 (by rw [e]; omega)
  have h2 := R.num_append (f.bytes.take i) (f.bytes.drop i)
  rw [List.take_append_drop, h1, List.length_drop, hl] at h2
  have h3 := R.num_nonneg (f.bytes.drop i)
  have h4 := R.num_lt (f.bytes.drop i)
  rw [List.length_drop, hl] at h4
  have p : (0 : Int) < 256 ^ (f.k + 5 - i) := Int.pow_pos (by omega)
  rw [h2, Int.add_comm, Int.add_mul_ediv_right _ _ (by omega), Int.ediv_eq_zero_of_lt h3 h4, Int.zero_add]
theorem Begins.seen {b : List UInt8} {f : R.S} (h : Begins b f) {k : Nat} (hk : k ≤ f.k) : R.num (b.take (k + 5)) = D.seen f k := by
  rw [h.num _ (by omega), D.seen, show f.k + 5 - (k + 5) = f.k - k from by omega]

structure Fol (b : List UInt8) (f s : R.S) (d : S) : Prop where
  b : d.b = b
  k : d.k = s.k + 5
  R : d.R = s.R
  C : d.C = D.seen f s.k - s.N

theorem Fol.widen {b : List UInt8} {f s : R.S} {d : S} (hb : Begins b f) (h : Fol b f s d) (h0 : 65536 ≤ s.R) (hi : In s.widen f) : ∃ t, d.widen = some t ∧ Fol b f s.widen t := by
  obtain ⟨h1, h2, h3, h4⟩ := h
  by_cases hr : s.R < 16777216
  · have e1 : s.widen = ⟨s.N * 256, s.R * 256, s.k + 1⟩ := by
      rw [R.S.widen_go (by omega) hr, R.S.widen_no (show ¬ s.R * 256 < 16777216 by omega)]
    rw [e1] at hi ⊢
    have hk : s.k + 1 ≤ f.k := hi.k
    have hl := hb.len
    obtain ⟨x, hx⟩ : ∃ x, b[s.k + 5]? = some x := ⟨b[s.k + 5]'(by omega), by simp⟩
    have e2 := hb.seen (k := s.k) (by omega)
    have e3 := hb.seen (k := s.k + 1) hk
    rw [show s.k + 1 + 5 = (s.k + 5) + 1 from by omega, List.take_add_one, hx, Option.toList_some, R.num_snoc, e2] at e3
    refine ⟨⟨d.b, d.k + 1, d.R * 256, d.C * 256 + x.toNat⟩, ?_, ⟨h1, (show d.k + 1 = s.k + 1 + 5 by omega), by simp only [h3], ?_⟩⟩
    · rw [S.widen, if_neg (by omega), h1, h2, hx]
    · simp only [h4, ← e3]
      omega
  · rw [R.S.widen_no hr] at hi ⊢
    exact ⟨d, by rw [S.widen, if_pos (by omega)], ⟨h1, h2, h3, h4⟩⟩

theorem Fol.bit {b : List UInt8} {f s : R.S} {d : S} (hb : Begins b f) (h : Fol b f s d) {c : Int} (bit : Int) (hbit : bit = 0 ∨ bit = 1) (c0 : 65536 ≤ c) (c1 : 65536 ≤ s.R - c) (hi : In (s.cut c bit) f) :
    In s f ∧ ∃ t, d.bit c = .ok t bit ∧ Fol b f (s.cut c bit) t := by
  obtain ⟨h1, h2, h3, h4⟩ := h
  rcases hbit with rfl | rfl
  · rw [R.S.cut, if_pos rfl] at hi ⊢
    have hi2 := In.widen (s := ⟨s.N, c, s.k⟩) (by simp only; omega) hi
    have hs := hi2.seen
    simp only at hs
    have p : (0 : Int) < 256 ^ (f.k - s.k) := Int.pow_pos (by omega)
    have his : In s f := ⟨hi2.k, hi2.lo, Int.lt_of_lt_of_le hi2.hi (Int.mul_le_mul_of_nonneg_right (by simp only; omega) (by simp only; omega))⟩
    have hlt : d.C < c := by omega
    have hcut : d.cut c = ⟨d.b, d.k, c, d.C⟩ := by rw [S.cut, if_pos hlt]
    have hf : Fol b f ⟨s.N, c, s.k⟩ (d.cut c) := by rw [hcut]; exact ⟨h1, h2, rfl, h4⟩
    obtain ⟨t, ht, hft⟩ := hf.widen hb (by simp only; omega) hi
    refine ⟨his, t, ?_, hft⟩
    rw [S.bit, ht, S.bitAt, if_pos hlt]
  · rw [R.S.cut, if_neg (by omega)] at hi ⊢
    have hi2 := In.widen (s := ⟨s.N + c, s.R - c, s.k⟩) (by simp only; omega) hi
    have hs := hi2.seen
    simp only at hs
    have p : (0 : Int) < 256 ^ (f.k - s.k) := Int.pow_pos (by omega)
    have his : In s f := by
      refine ⟨hi2.k, Int.le_trans (Int.mul_le_mul_of_nonneg_right (show s.N ≤ s.N + c by omega) (by omega)) hi2.lo, ?_⟩
      have := hi2.hi
      simp only at this
      rwa [show s.N + c + (s.R - c) = s.N + s.R from by omega] at this
    have hge : ¬ d.C < c := by omega
    have hcut : d.cut c = ⟨d.b, d.k, d.R - c, d.C - c⟩ := by rw [S.cut, if_neg hge]
    have hf : Fol b f ⟨s.N + c, s.R - c, s.k⟩ (d.cut c) := by rw [hcut]; exact ⟨h1, h2, by simp only [h3], by simp only [h4]; omega⟩
    obtain ⟨t, ht, hft⟩ := hf.widen hb (by simp only; omega) hi
    refine ⟨his, t, ?_, hft⟩
    rw [S.bit, ht, S.bitAt, if_neg hge]
end D

end Go.Proofs.YtbgnnjfpiblkmaaGreatDoor

namespace Go.Proofs.YtbgnnjfpiblkmaaGreatDoor
open Go
set_option linter.unusedSimpArgs false
set_option linter.unnecessarySimpa false
set_option linter.unusedSectionVars false
set_option linter.unusedVariables false

namespace D
theorem Fol.at_ (b : List UInt8) (f s : R.S) : Fol b f s ⟨b, s.k + 5, s.R, seen f s.k - s.N⟩ := ⟨rfl, rfl, rfl, rfl⟩

theorem Fol.one {b : List UInt8} {f s : R.S} {d : S} (hb : Begins b f) (h : Fol b f s d) (hr : 16777216 ≤ s.R) {x : Int} (hx : x = 0 ∨ x = 1) (hi : In (s.one x) f) :
    In s f ∧ d.one.C < d.one.R ∧ d.bitAt (d.R / 2) = x ∧ ∃ t, d.one.widen = some t ∧ Fol b f (s.one x) t := by
  obtain ⟨h1, h2, h3, h4⟩ := h
  rcases hx with rfl | rfl
  · rw [R.S.one, if_neg (by omega)] at hi ⊢
    have hi2 := In.widen (s := ⟨s.N, s.R / 2, s.k⟩) (by simp only; omega) hi
    have hs := hi2.seen
    simp only at hs
    have p : (0 : Int) < 256 ^ (f.k - s.k) := Int.pow_pos (by omega)
    have his : In s f := ⟨hi2.k, hi2.lo, Int.lt_of_lt_of_le hi2.hi (Int.mul_le_mul_of_nonneg_right (by simp only; omega) (by simp only; omega))⟩
    have hlt : d.C < d.R / 2 := by rw [h3]; omega
    have ho : d.one = ⟨d.b, d.k, d.R / 2, d.C⟩ := by rw [S.one, if_pos hlt]
    have hf : Fol b f ⟨s.N, s.R / 2, s.k⟩ d.one := by rw [ho]; exact ⟨h1, h2, by simp only [h3], h4⟩
    obtain ⟨t, ht, hft⟩ := hf.widen hb (by simp only; omega) hi
    refine ⟨his, by rw [ho]; exact hlt, by rw [S.bitAt, if_pos hlt], t, ht, hft⟩
  · rw [R.S.one, if_pos rfl] at hi ⊢
    have hi2 := In.widen (s := ⟨s.N + s.R / 2, s.R / 2, s.k⟩) (by simp only; omega) hi
    have hs := hi2.seen
    simp only at hs
    have p : (0 : Int) < 256 ^ (f.k - s.k) := Int.pow_pos (by omega)
    have his : In s f := by
      refine ⟨hi2.k, Int.le_trans (Int.mul_le_mul_of_nonneg_right (show s.N ≤ s.N + s.R / 2 by omega) (by omega)) hi2.lo, Int.lt_of_lt_of_le hi2.hi (Int.mul_le_mul_of_nonneg_right (by simp only; omega) (by simp only; omega))⟩
    have hge : ¬ d.C < d.R / 2 := by rw [h3]; omega
    have ho : d.one = ⟨d.b, d.k, d.R / 2, d.C - d.R / 2⟩ := by rw [S.one, if_neg hge]
    have hf : Fol b f ⟨s.N + s.R / 2, s.R / 2, s.k⟩ d.one := by rw [ho]; exact ⟨h1, h2, by simp only [h3], by simp only [h4, h3]; omega⟩
    obtain ⟨t, ht, hft⟩ := hf.widen hb (by simp only; omega) hi
    refine ⟨his, by rw [ho, h3]; simp only [h4]; omega, by rw [S.bitAt, if_neg hge], t, ht, hft⟩

theorem bits_top (v : Int) (n : Nat) : v % 2 ^ (n + 1) = v / 2 ^ n % 2 * 2 ^ n + v % 2 ^ n := by
  rw [Int.pow_succ]
  have p : (0 : Int) < 2 ^ n := Int.pow_pos (by omega)
  generalize (2 : Int) ^ n = q at p
  have h1 := Int.emod_add_mul_ediv v q
  have h2 := Int.emod_add_mul_ediv (v / q) 2
  have h3 := Int.emod_add_mul_ediv v (q * 2)
  have h4 : v / q / 2 = v / (q * 2) := by rw [Int.ediv_ediv_of_nonneg (by omega)]
  rw [h4] at h2
  generalize v / (q * 2) = d at h2 h3
  generalize v / q = c at h1 h2 ⊢
  generalize c % 2 = e at h2 ⊢
  grind
theorem Fol.direct {b : List UInt8} {f : R.S} (hb : Begins b f) (v : Int) : ∀ (n : Nat) {s : R.S} {d : S} (u : Int), R.Ok s → Fol b f s d → In (s.direct v n) f →
    In s f ∧ ∃ t, d.direct u n = .ok t (u * 2 ^ n + v % 2 ^ n) ∧ Fol b f (s.direct v n) t
  | 0, s, d, u, ho, h, hi => ⟨hi, d, by simp [S.direct, Int.emod_one], h⟩
  | n + 1, s, d, u, ho, h, hi => by
    simp only [R.S.direct] at hi ⊢
    obtain ⟨hi2, _⟩ := Fol.direct hb v n (s := s.one (v / 2 ^ n % 2)) 0 (ho.one _) (Fol.at_ b f _) hi
    obtain ⟨h1, h2, h3, t, h4, h5⟩ := h.one hb ho.r0 (by omega) hi2
    obtain ⟨_, t2, h6, h7⟩ := Fol.direct hb v n (2 * u + v / 2 ^ n % 2) (ho.one _) h5 hi
    refine ⟨h1, t2, ?_, h7⟩
    rw [S.direct, if_neg (by omega), h4, h3]
    simp only [h6]
    rw [bits_top, Int.pow_succ]
    congr 1
    grind
end D

namespace R
theorem bit_mid {a : TS} (h : a.Ok) {i : Int} (h0 : 0 ≤ i) (h1 : i < a.l.length) : 65536 ≤ B.bound a.s.R (a.l.getD i.toNat 0) ∧ 65536 ≤ a.s.R - B.bound a.s.R (a.l.getD i.toNat 0) := by
  have hx : a.l[i.toNat]? = some (a.l.getD i.toNat 0) := by
    rw [List.getD_eq_getElem?_getD, List.getElem?_eq_getElem (show i.toNat < a.l.length by omega)]; rfl
  have hp := h.f.get hx
  exact D.bound_mid h.s.r0 hp.1 hp.2
end R

namespace D
theorem Fol.start {b : List UInt8} {f : R.S} (hb : Begins b f) (hi : In R.S.new f) : ∃ t, D.start b = .ok t () ∧ Fol b f R.S.new t := by
  have hs := hi.seen
  have hl := hb.len
  have hN : R.S.new.N = 0 := rfl
  have hR : R.S.new.R = 4294967295 := rfl
  have hK : R.S.new.k = 0 := rfl
  rw [hN, hR, hK] at hs
  obtain ⟨b0, hb0⟩ : ∃ x, b[0]? = some x := ⟨b[0]'(by omega), by simp⟩
  have e := hb.seen (k := 0) (by omega)
  rw [Nat.zero_add] at e
  have hsplit : b.take 5 = b0 :: (b.drop 1).take 4 := by
    cases b with
    | nil => simp at hl
    | cons x l => simp at hb0; subst hb0; rfl
  have hn := R.num_append [b0] ((b.drop 1).take 4)
  have hl4 : ((b.drop 1).take 4).length = 4 := by rw [List.length_take, List.length_drop]; omega
  rw [List.singleton_append, ← hsplit, e, hl4] at hn
  have h1 : R.num [b0] = b0.toNat := by simp [R.num]
  have h4 : (256 : Int) ^ 4 = 4294967296 := by decide
  rw [h1, h4] at hn
  have hfb := front_bd b 4 (by omega)
  have hfe : front b 4 = R.num ((b.drop 1).take 4) := rfl
  have hz : b0.toNat = 0 := by omega
  have hb00 : b0 = 0 := UInt8.toNat_inj.1 hz
  subst hb00
  have hft : front b 4 = seen f 0 := by omega
  refine ⟨⟨b, 5, 4294967295, front b 4⟩, ?_, ⟨rfl, rfl, rfl, by rw [hN, hK]; simp only [hft]; omega⟩⟩
  rw [D.start, if_neg (by omega), hb0, if_neg]
  rintro (h | h)
  · exact h rfl
  · omega
end D

end Go.Proofs.YtbgnnjfpiblkmaaGreatDoor

namespace Go.Proofs.YtbgnnjfpiblkmaaGreatDoor
open Go
set_option linter.unusedSimpArgs false
set_option linter.unnecessarySimpa false
set_option linter.unusedSectionVars false
set_option linter.unusedVariables false

namespace R
def nodeL (l : List Int) : Int := l.foldl (fun m b => 2 * m + b) 1
def horner (l : List Int) : Int := l.foldl (fun m b => 2 * m + b) 0
def backv (l : List Int) : Int := l.foldr (fun b m => b + 2 * m) 0
def val (back : Bool) (l : List Int) : Int := if back then backv l else horner l
theorem nodeL_snoc (l : List Int) (b : Int) : nodeL (l ++ [b]) = 2 * nodeL l + b := by simp [nodeL]
theorem horner_snoc (l : List Int) (b : Int) : horner (l ++ [b]) = 2 * horner l + b := by simp [horner]
theorem backv_snoc (b : Int) : ∀ l : List Int, backv (l ++ [b]) = backv l + b * 2 ^ l.length
  | [] => by simp [backv]
  | x :: l => by
    have := backv_snoc b l
    simp only [backv, List.cons_append, List.foldr_cons, List.length_cons, Int.pow_succ] at this ⊢
    rw [this]
    grind
def Bits (l : List Int) : Prop := ∀ b ∈ l, b = 0 ∨ b = 1
theorem Bits.snoc {l : List Int} {b : Int} (h : Bits l) (hb : b = 0 ∨ b = 1) : Bits (l ++ [b]) := by
  intro x hx
  rcases List.mem_append.1 hx with hx | hx
  · exact h x hx
  · rw [List.mem_singleton.1 hx]; exact hb
theorem Bits.init {l : List Int} {b : Int} (h : Bits (l ++ [b])) : Bits l ∧ (b = 0 ∨ b = 1) := ⟨fun x hx => h x (List.mem_append_left _ hx), h b (by simp)⟩
theorem nodeL_bd {l : List Int} : Bits l → (2 : Int) ^ l.length ≤ nodeL l ∧ nodeL l < 2 ^ (l.length + 1) := by
  induction l using snoc_ind with
  | h0 => intro _; simp [nodeL]
  | h1 l b ih =>
    intro h
    obtain ⟨h1, h2⟩ := h.init
    have := ih h1
    rw [nodeL_snoc, List.length_append, List.length_cons, List.length_nil, Int.pow_succ, Int.pow_succ _ (l.length + (0 + 1))]
    rw [Int.pow_succ] at this ⊢
    generalize (2 : Int) ^ l.length = q at *
    omega
theorem horner_bd {l : List Int} : Bits l → 0 ≤ horner l ∧ horner l < 2 ^ l.length := by
  induction l using snoc_ind with
  | h0 => intro _; simp [horner]
  | h1 l b ih =>
    intro h
    obtain ⟨h1, h2⟩ := h.init
    have := ih h1
    rw [horner_snoc, List.length_append, List.length_cons, List.length_nil, Int.pow_succ]
    generalize (2 : Int) ^ l.length = q at *
    omega
theorem backv_bd {l : List Int} : Bits l → 0 ≤ backv l ∧ backv l < 2 ^ l.length := by
  induction l using snoc_ind with
  | h0 => intro _; simp [backv]
  | h1 l b ih =>
    intro h
    obtain ⟨h1, h2⟩ := h.init
    have := ih h1
    rw [backv_snoc, List.length_append, List.length_cons, List.length_nil, Int.pow_succ]
    generalize (2 : Int) ^ l.length = q at *
    rcases h2 with rfl | rfl <;> omega
def part (back : Bool) (n : Nat) (l : List Int) : Int := if back then backv l else horner l * 2 ^ (n - l.length)
theorem part_end (back : Bool) (l : List Int) : part back l.length l = val back l := by
  unfold part val; split
  · rfl
  · rw [Nat.sub_self, Int.pow_zero, Int.mul_one]
theorem part_snoc (back : Bool) {n : Nat} {l : List Int} (h : l.length < n) (b : Int) : part back n (l ++ [b]) = part back n l + b * 2 ^ (if back then l.length else n - 1 - l.length) := by
  unfold part
  cases back
  · simp only [Bool.false_eq_true, if_false, horner_snoc, List.length_append, List.length_cons, List.length_nil]
    rw [show n - l.length = (n - 1 - l.length) + 1 from by omega, show n - (l.length + (0 + 1)) = n - 1 - l.length from by omega, Int.pow_succ]
    grind
  · simp only [if_true, backv_snoc]
end R

namespace D
def walk (at_ : Int) (z : A) : Nat → A × List Int × Int
  | 0 => (z, [], 0)
  | k + 1 => if (walk at_ z k).2.2 ≠ 0 then walk at_ z k
    else if ((walk at_ z k).1.1.bitQ (walk at_ z k).1.2 (at_ + R.nodeL (walk at_ z k).2.1)).2.2.2 = 0 then
      ((((walk at_ z k).1.1.bitQ (walk at_ z k).1.2 (at_ + R.nodeL (walk at_ z k).2.1)).1, ((walk at_ z k).1.1.bitQ (walk at_ z k).1.2 (at_ + R.nodeL (walk at_ z k).2.1)).2.1), (walk at_ z k).2.1 ++ [((walk at_ z k).1.1.bitQ (walk at_ z k).1.2 (at_ + R.nodeL (walk at_ z k).2.1)).2.2.1], 0)
    else ((walk at_ z k).1, (walk at_ z k).2.1, ((walk at_ z k).1.1.bitQ (walk at_ z k).1.2 (at_ + R.nodeL (walk at_ z k).2.1)).2.2.2)
theorem walk_step {at_ : Int} {z y : A} {k : Nat} {l : List Int} (h : walk at_ z k = (y, l, 0)) : walk at_ z (k + 1) =
    if (y.1.bitQ y.2 (at_ + R.nodeL l)).2.2.2 = 0 then (((y.1.bitQ y.2 (at_ + R.nodeL l)).1, (y.1.bitQ y.2 (at_ + R.nodeL l)).2.1), l ++ [(y.1.bitQ y.2 (at_ + R.nodeL l)).2.2.1], 0) else (y, l, (y.1.bitQ y.2 (at_ + R.nodeL l)).2.2.2) := by
  rw [walk, h]
  simp only [ne_eq, not_true_eq_false, if_false]
theorem walk_stuck {at_ : Int} {z : A} {k : Nat} (h : (walk at_ z k).2.2 ≠ 0) : ∀ j, walk at_ z (k + j) = walk at_ z k
  | 0 => rfl
  | j + 1 => by
    have e := walk_stuck h j
    have h2 : (walk at_ z (k + j)).2.2 ≠ 0 := by rw [e]; exact h
    rw [← Nat.add_assoc, walk, if_pos h2, e]
theorem walk_ok {at_ : Int} {z : A} (hz : AOk z) : ∀ k, AOk (walk at_ z k).1 ∧ Same (walk at_ z k).1 z ∧ R.Bits (walk at_ z k).2.1 ∧ ((walk at_ z k).2.2 = 0 → (walk at_ z k).2.1.length = k)
  | 0 => ⟨hz, ⟨rfl, rfl⟩, fun _ h => by simp [walk] at h, fun _ => rfl⟩
  | k + 1 => by
    obtain ⟨h1, h2, h3, h4⟩ := walk_ok (at_ := at_) hz k
    rw [walk]
    split
    · rename_i he
      exact ⟨h1, h2, h3, fun h => absurd h he⟩
    · rename_i he
      have hb := bitQ_ok h1.s h1.f (at_ + R.nodeL (walk at_ z k).2.1)
      split
      · rename_i h0
        refine ⟨⟨hb.1, hb.2.2.1⟩, ⟨hb.2.1.trans h2.b, hb.2.2.2.trans h2.n⟩, h3.snoc bitQ_v, fun _ => ?_⟩
        simp only [List.length_append, List.length_cons, List.length_nil, h4 (Decidable.not_not.1 he)]
      · rename_i h0
        exact ⟨h1, h2, h3, fun h => absurd h h0⟩
def gets (z : A) (at_ n : Int) (back : Bool) : A × Int × Int :=
  if R.There z.2.length at_ n then (if (walk at_ z n.toNat).2.2 = 0 then ((walk at_ z n.toNat).1, R.val back (walk at_ z n.toNat).2.1, 0) else ((walk at_ z n.toNat).1, 0, (walk at_ z n.toNat).2.2)) else (z, 0, 7)
theorem gets_ok {z : A} (hz : AOk z) (at_ n : Int) (back : Bool) : AOk (gets z at_ n back).1 ∧ Same (gets z at_ n back).1 z := by
  obtain ⟨h1, h2, _⟩ := walk_ok (at_ := at_) hz n.toNat
  unfold gets
  split
  · split
    · exact ⟨h1, h2⟩
    · exact ⟨h1, h2⟩
  · exact ⟨hz, ⟨rfl, rfl⟩⟩

theorem nodeL_bits (bs : Nat → Int) (bl : Nat → List Int) (h0 : bl 0 = []) (h : ∀ k, bl (k + 1) = bl k ++ [bs k]) : ∀ k, R.nodeL (bl k) = R.node bs k
  | 0 => by rw [h0]; rfl
  | k + 1 => by rw [h, R.nodeL_snoc, nodeL_bits bs bl h0 h k]; rfl
def bitsOf (bs : Nat → Int) : Nat → List Int
  | 0 => []
  | k + 1 => bitsOf bs k ++ [bs k]
theorem bitsOf_len (bs : Nat → Int) : ∀ k, (bitsOf bs k).length = k
  | 0 => rfl
  | k + 1 => by rw [bitsOf, List.length_append, bitsOf_len bs k]; rfl
theorem Fol.put {b : List UInt8} {f : R.S} (hb : Begins b f) {a : R.TS} {d : S} {at_ n : Int} {bs : Nat → Int} (hbs : ∀ k, 0 ≤ bs k ∧ bs k ≤ 1) (ht : R.There a.l.length at_ n) (ho : a.Ok) (h : Fol b f a.s d) :
    ∀ k : Nat, k ≤ n.toNat → In (a.put at_ bs k).s f → In a.s f ∧ ∃ t, walk at_ (d, a.l) k = ((t, (a.put at_ bs k).l), bitsOf bs k, 0) ∧ Fol b f (a.put at_ bs k).s t
  | 0, _, hi => ⟨hi, d, rfl, h⟩
  | k + 1, hk, hi => by
    have hp := ht.place hbs (k := k) (by omega)
    have o1 := (ho.put ht hbs k (by omega)).1
    have hlen := R.TS.put_len a at_ bs k
    have hc := R.bit_mid o1 (i := at_ + R.node bs k) hp.1 (by omega)
    have hbk := hbs k
    have hb01 : bs k = 0 ∨ bs k = 1 := by omega
    simp only [R.TS.put, R.TS.bit] at hi
    obtain ⟨hi2, _⟩ := Fol.bit hb (Fol.at_ b f (a.put at_ bs k).s) (bs k) hb01 hc.1 hc.2 hi
    obtain ⟨h1, t, h2, h3⟩ := Fol.put hb hbs ht ho h k (by omega) hi2
    obtain ⟨_, t2, h4, h5⟩ := h3.bit hb (bs k) hb01 hc.1 hc.2 hi
    refine ⟨h1, t2, ?_, h5⟩
    have hn : R.nodeL (bitsOf bs k) = R.node bs k := nodeL_bits bs (bitsOf bs) rfl (fun _ => rfl) k
    have hq : t.bitQ (a.put at_ bs k).l (at_ + R.node bs k) = (t2, (a.put at_ bs k).l.set (at_ + R.node bs k).toNat (B.next ((a.put at_ bs k).l.getD (at_ + R.node bs k).toNat 0) (bs k)), bs k, 0) := by
      simp only [S.bitQ, if_pos (show 0 ≤ at_ + R.node bs k ∧ at_ + R.node bs k < (a.put at_ bs k).l.length from ⟨hp.1, by omega⟩), h3.R, h4]
    rw [walk_step h2, hn]
    simp only [hq, if_true, R.TS.put, R.TS.bit, bitsOf]
end D

namespace R
theorem val_bits (back : Bool) (n : Nat) {v : Int} (h0 : 0 ≤ v) (h1 : v < 2 ^ n) : val back (D.bitsOf (bitAt back n v) n) = v := by
  cases back
  · have key : ∀ k, k ≤ n → horner (D.bitsOf (bitAt false n v) k) = v / 2 ^ (n - k) := by
      intro k
      induction k with
      | zero =>
        intro _
        rw [Nat.sub_zero, Int.ediv_eq_zero_of_lt h0 h1]; rfl
      | succ k ih =>
        intro hk
        rw [D.bitsOf, horner_snoc, ih (by omega)]
        simp only [bitAt, Bool.false_eq_true, if_false]
        rw [show n - 1 - k = n - (k + 1) from by omega, show n - k = (n - (k + 1)) + 1 from by omega, Int.pow_succ, ← Int.ediv_ediv_of_nonneg (Int.le_of_lt (Int.pow_pos (by omega)))]
        omega
    have := key n (Nat.le_refl _)
    simp only [val, Bool.false_eq_true, if_false, this, Nat.sub_self, Int.pow_zero, Int.ediv_one]
  · have key : ∀ k, k ≤ n → backv (D.bitsOf (bitAt true n v) k) = v % 2 ^ k := by
      intro k
      induction k with
      | zero => intro _; simp [D.bitsOf, backv, Int.emod_one]
      | succ k ih =>
        intro hk
        rw [D.bitsOf, backv_snoc, ih (by omega), D.bitsOf_len, D.bits_top]
        simp only [bitAt, if_true]
        rw [Int.add_comm]
    have := key n (Nat.le_refl _)
    simp only [val, if_true, this]
    exact Int.emod_eq_of_lt h0 h1
end R

namespace D
theorem Fol.gets {b : List UInt8} {f : R.S} (hb : Begins b f) {a : R.TS} {d : S} {at_ n v : Int} (back : Bool) (ht : R.There a.l.length at_ n) (hv : R.Holds v n) (ho : a.Ok) (h : Fol b f a.s d) (hi : In (a.put at_ (R.bitAt back n.toNat v) n.toNat).s f) :
    In a.s f ∧ ∃ t, D.gets (d, a.l) at_ n back = ((t, (a.put at_ (R.bitAt back n.toNat v) n.toNat).l), v, 0) ∧ Fol b f (a.put at_ (R.bitAt back n.toNat v) n.toNat).s t := by
  obtain ⟨h1, t, h2, h3⟩ := Fol.put hb (R.bitAt_01 back n.toNat v) ht ho h n.toNat (Nat.le_refl _) hi
  refine ⟨h1, t, ?_, h3⟩
  rw [D.gets, if_pos ht, h2]
  simp only [if_true, R.val_bits back n.toNat hv.1 hv.2]
end D

end Go.Proofs.YtbgnnjfpiblkmaaGreatDoor

namespace Go.Proofs.YtbgnnjfpiblkmaaGreatDoor
open Go
set_option linter.unusedSimpArgs false
set_option linter.unnecessarySimpa false
set_option linter.unusedSectionVars false
set_option linter.unusedVariables false

namespace D
structure Sim (n : Nat) (c d : S) : Prop where
  b : c.b = d.b.take n
  k : c.k = d.k
  R : c.R = d.R
  C : c.C = d.C
theorem Sim.widen {n : Nat} {c d t : S} (h : Sim n c d) (e : c.widen = some t) : ∃ t', d.widen = some t' ∧ Sim n t t' := by
  obtain ⟨h1, h2, h3, h4⟩ := h
  unfold S.widen at *
  rw [h3] at e
  split at e
  · rename_i hr
    cases e
    rw [if_pos hr]
    exact ⟨d, rfl, ⟨h1, h2, h3, h4⟩⟩
  · rename_i hr
    rw [if_neg hr]
    cases hx : c.b[c.k]? with
    | none => rw [hx] at e; cases e
    | some x =>
      rw [hx] at e
      cases e
      rw [h1, h2, List.getElem?_take] at hx
      split at hx
      · rw [hx]
        exact ⟨_, rfl, ⟨h1, by simp only [h2], rfl, by simp only [h4]⟩⟩
      · cases hx
theorem Sim.cut {n : Nat} {c d : S} (h : Sim n c d) (x : Int) : Sim n (c.cut x) (d.cut x) := by
  obtain ⟨h1, h2, h3, h4⟩ := h
  unfold S.cut
  rw [h4]
  split
  · exact ⟨h1, h2, rfl, rfl⟩
  · exact ⟨h1, h2, by simp only [h3], rfl⟩
theorem Sim.one {n : Nat} {c d : S} (h : Sim n c d) : Sim n c.one d.one := by
  obtain ⟨h1, h2, h3, h4⟩ := h
  unfold S.one
  rw [h4, h3]
  split
  · exact ⟨h1, h2, rfl, rfl⟩
  · exact ⟨h1, h2, rfl, rfl⟩
theorem Sim.bitAt {n : Nat} {c d : S} (h : Sim n c d) (x : Int) : c.bitAt x = d.bitAt x := by unfold S.bitAt; rw [h.C]
theorem Sim.bit {n : Nat} {c d t : S} {x v : Int} (h : Sim n c d) (e : c.bit x = .ok t v) : ∃ t', d.bit x = .ok t' v ∧ Sim n t t' := by
  unfold S.bit at *
  split at e
  · rename_i t' ht
    cases e
    obtain ⟨t2, h2, h3⟩ := (h.cut x).widen ht
    rw [h2]
    exact ⟨t2, by rw [h.bitAt x], h3⟩
  · cases e
theorem Sim.direct {n : Nat} : ∀ (m : Nat) {c d t : S} {v u : Int}, Sim n c d → c.direct v m = .ok t u → ∃ t', d.direct v m = .ok t' u ∧ Sim n t t'
  | 0, c, d, t, v, u, h, e => by cases e; exact ⟨d, rfl, h⟩
  | m + 1, c, d, t, v, u, h, e => by
    simp only [S.direct] at *
    rw [h.one.R, h.one.C] at e
    split at e
    · cases e
    · rename_i hle
      rw [if_neg hle]
      split at e
      · cases e
      · rename_i t1 ht
        obtain ⟨t2, h2, h3⟩ := h.one.widen ht
        rw [h2]
        rw [h.R, h.bitAt] at e
        exact Sim.direct m h3 e
theorem start_take {b : List UInt8} {n : Nat} (hn : 5 ≤ (b.take n).length) : front (b.take n) 4 = front b 4 ∧ (b.take n)[0]? = b[0]? := by
  rw [List.length_take] at hn
  constructor
  · unfold front
    rw [List.drop_take, List.take_take, Nat.min_eq_left (by omega)]
  · rw [List.getElem?_take, if_pos (by omega)]
theorem start_sim {b : List UInt8} {n : Nat} {t : S} (h : start (b.take n) = .ok t ()) : ∃ t', start b = .ok t' () ∧ Sim n t t' := by
  have hlen : ¬ (b.take n).length < 5 := fun h5 => by rw [start, if_pos h5] at h; cases h
  obtain ⟨h1, h2⟩ := start_take (b := b) (n := n) (by omega)
  have hb : ¬ b.length < 5 := by rw [List.length_take] at hlen; omega
  rw [start, if_neg hlen, h1, h2] at h
  rw [start, if_neg hb]
  split at h
  · cases h
  · rename_i hc
    cases h
    rw [if_neg hc]
    exact ⟨_, rfl, ⟨rfl, rfl, rfl, rfl⟩⟩
end D

end Go.Proofs.YtbgnnjfpiblkmaaGreatDoor

namespace Go.Proofs.YtbgnnjfpiblkmaaGreatDoor
open Go
set_option linter.unusedSimpArgs false
set_option linter.unnecessarySimpa false
set_option linter.unusedSectionVars false
set_option linter.unusedVariables false
namespace Z

inductive Rd (α : Type)
  | ret (a : α)
  | bit (t : Nat) (i : Int) (k : Int → Rd α)
section
variable {α β γ : Type}
def Rd.bind : Rd α → (α → Rd β) → Rd β
  | .ret a, f => f a
  | .bit t i k, f => .bit t i fun b => (k b).bind f
def Rd.map (f : α → β) (r : Rd α) : Rd β := r.bind fun a => .ret (f a)
def Rd.Ok (p : Pr) : Rd α → Prop
  | .ret _ => True
  | .bit t i k => (t = 18 ∨ t < 18 ∧ 0 ≤ i ∧ i < tabLen p t) ∧ ∀ b, b = 0 ∨ b = 1 → (k b).Ok p
def Rd.path : Rd α → α → List PB → Prop
  | .ret a, v, l => v = a ∧ l = []
  | .bit t i k, v, l => ∃ b m, (b = 0 ∨ b = 1) ∧ l = ⟨t, i, b⟩ :: m ∧ (k b).path v m
theorem Rd.Ok.bind {p : Pr} {f : α → Rd β} : ∀ {r : Rd α}, r.Ok p → (∀ a m, r.path a m → (f a).Ok p) → (r.bind f).Ok p
  | .ret a, _, hf => hf a [] ⟨rfl, rfl⟩
  | .bit t i k, h, hf => ⟨h.1, fun b hb => (h.2 b hb).bind fun a m hp => hf a (⟨t, i, b⟩ :: m) ⟨b, m, hb, rfl, hp⟩⟩
theorem Rd.Ok.map {p : Pr} {f : α → β} {r : Rd α} (h : r.Ok p) : (r.map f).Ok p := h.bind fun _ _ _ => trivial
theorem Rd.path_bind {f : α → Rd β} {v : β} : ∀ (r : Rd α) {l : List PB}, (r.bind f).path v l ↔ ∃ a m n, r.path a m ∧ (f a).path v n ∧ l = m ++ n
  | .ret a, l => ⟨fun h => ⟨a, [], l, ⟨rfl, rfl⟩, h, rfl⟩, fun ⟨_, _, _, ⟨h1, h2⟩, h3, h4⟩ => by subst h1; subst h2; subst h4; exact h3⟩
  | .bit t i k, l => by
    constructor
    · rintro ⟨b, m, hb, rfl, h⟩
      obtain ⟨a, m1, n, h1, h2, rfl⟩ := (path_bind (k b)).1 h
      exact ⟨a, _, n, ⟨b, m1, hb, rfl, h1⟩, h2, rfl⟩
    · rintro ⟨a, _, n, ⟨b, m, hb, rfl, h1⟩, h2, rfl⟩
      exact ⟨b, m ++ n, hb, rfl, (path_bind (k b)).2 ⟨a, m, n, h1, h2, rfl⟩⟩
theorem Rd.path_map {f : α → β} {v : β} {r : Rd α} {l : List PB} : (r.map f).path v l ↔ ∃ a, r.path a l ∧ v = f a := by
  rw [Rd.map, Rd.path_bind]
  constructor
  · rintro ⟨a, m, n, h1, ⟨rfl, rfl⟩, rfl⟩
    exact ⟨a, by rwa [List.append_nil], rfl⟩
  · rintro ⟨a, h1, rfl⟩
    exact ⟨a, l, [], h1, ⟨rfl, rfl⟩, (List.append_nil l).symm⟩
theorem Rd.Ok.path {p : Pr} {v : α} : ∀ {r : Rd α} {l : List PB}, r.Ok p → r.path v l → ∀ x ∈ l, x.Ok p
  | .ret a, l, _, ⟨_, e⟩, x, hx => by subst e; cases hx
  | .bit t i k, l, h, ⟨b, m, hb, e, h1⟩, x, hx => by
    subst e
    rcases List.mem_cons.1 hx with rfl | hx
    · exact ⟨by rcases hb with rfl | rfl <;> simp, h.1⟩
    · exact (h.2 b hb).path h1 x hx

structure RS where
  d : D.S
  T : Nat → List Int
structure RS.Ok (p : Pr) (z : RS) : Prop where
  d : D.Ok z.d
  T : TabOk p z.T
def RS.ask (z : RS) (t : Nat) (i : Int) : Option (RS × Int) :=
  if t = 18 then match z.d.direct 0 1 with
    | .ok d v => some (⟨d, z.T⟩, v)
    | .no _ => none
  else match z.d.bit (B.bound z.d.R ((z.T t).getD i.toNat 0)) with
    | .ok d v => some (⟨d, upd z.T t ((z.T t).set i.toNat (B.next ((z.T t).getD i.toNat 0) v))⟩, v)
    | .no _ => none
def Rd.run : Rd α → RS → Option (RS × α)
  | .ret a, z => some (z, a)
  | .bit t i k, z => match z.ask t i with
    | none => none
    | some (y, b) => (k b).run y
theorem Rd.run_bind {f : α → Rd β} : ∀ (r : Rd α) (z : RS), (r.bind f).run z = match r.run z with
    | none => none
    | some (y, a) => (f a).run y
  | .ret a, z => rfl
  | .bit t i k, z => by
    simp only [Rd.bind, Rd.run]
    cases z.ask t i with
    | none => rfl
    | some yb => exact run_bind (k yb.2) yb.1
def Rd.get (r : Rd α) : Option RS → Option (RS × α)
  | none => none
  | some z => r.run z
def Got (r : Rd α) (z y : Option RS) (v : α) : Prop := r.get z = y.map fun s => (s, v)
theorem Got.ret (z : Option RS) (a : α) : Got (.ret a) z z a := by cases z <;> rfl
theorem Got.bind {r : Rd α} {f : α → Rd β} {z y x : Option RS} {a : α} {b : β} (h1 : Got r z y a) (h2 : Got (f a) y x b) : Got (r.bind f) z x b := by
  unfold Got at *
  cases z with
  | none =>
    cases y with
    | none => exact h2
    | some y => cases h1
  | some z =>
    show (r.bind f).run z = _
    rw [Rd.run_bind, show r.run z = r.get (some z) from rfl, h1]
    cases y with
    | none => exact h2
    | some y => exact h2
theorem Got.map {r : Rd α} {f : α → β} {z y : Option RS} {a : α} (h : Got r z y a) : Got (r.map f) z y (f a) := h.bind (Got.ret _ _)
theorem Got.bit {t : Nat} {i : Int} {k : Int → Rd α} {z y x : Option RS} {b : Int} {v : α} (h1 : Got (.bit t i .ret) z y b) (h2 : Got (k b) y x v) : Got (.bit t i k) z x v := Got.bind (r := .bit t i .ret) h1 h2
theorem ask_01 {z y : RS} {t : Nat} {i b : Int} (h : z.ask t i = some (y, b)) : b = 0 ∨ b = 1 := by
  unfold RS.ask at h
  split at h
  · split at h
    · rename_i d v e
      cases h
      simp only [D.S.direct] at e
      split at e
      · cases e
      · split at e
        · cases e
        · cases e
          have := D.bitAt_01 z.d (z.d.R / 2)
          omega
    · cases h
  · split at h
    · rename_i d v e
      cases h
      unfold D.S.bit at e
      split at e
      · cases e; exact D.bitAt_01 _ _
      · cases e
    · cases h

theorem ask_b {z y : RS} {t : Nat} {i b : Int} (h : z.ask t i = some (y, b)) : y.d.b = z.d.b := by
  unfold RS.ask at h
  split at h
  · split at h
    · rename_i d v e
      cases h
      simp only [D.S.direct] at e
      split at e
      · cases e
      · split at e
        · cases e
        · rename_i t' ht
          cases e
          simp only
          rw [D.widen_b ht]
          unfold D.S.one
          split <;> rfl
    · cases h
  · split at h
    · rename_i d v e
      cases h
      unfold D.S.bit at e
      split at e
      · rename_i t' ht
        cases e
        simp only
        rw [D.widen_b ht]
        unfold D.S.cut
        split <;> rfl
      · cases e
    · cases h
theorem Rd.run_b {v : α} : ∀ (r : Rd α) {z y : RS}, r.run z = some (y, v) → y.d.b = z.d.b
  | .ret a, z, y, h => by cases h; rfl
  | .bit t i k, z, y, h => by
    simp only [Rd.run] at h
    cases e : z.ask t i with
    | none => rw [e] at h; cases h
    | some xb =>
      rw [e] at h
      exact (run_b (k xb.2) h).trans (ask_b e)

theorem tab_mid {p : Pr} {T : Nat → List Int} (hT : TabOk p T) {R : Int} (hR : 16777216 ≤ R) {t : Nat} {i : Int} (h : t < 18 ∧ 0 ≤ i ∧ i < tabLen p t) :
    65536 ≤ B.bound R ((T t).getD i.toNat 0) ∧ 65536 ≤ R - B.bound R ((T t).getD i.toNat 0) := by
  have hl := hT.len t h.1
  have hx : (T t)[i.toNat]? = some ((T t).getD i.toNat 0) := by
    rw [List.getD_eq_getElem?_getD, List.getElem?_eq_getElem (show i.toNat < (T t).length by omega)]; rfl
  have hp := (hT.fine t).get hx
  exact D.bound_mid hR hp.1 hp.2
theorem ask_ok {p : Pr} {z y : RS} (hz : z.Ok p) {t : Nat} {i b : Int} (ht : t = 18 ∨ t < 18 ∧ 0 ≤ i ∧ i < tabLen p t) (h : z.ask t i = some (y, b)) : y.Ok p ∧ y.d.b = z.d.b := by
  have h01 := ask_01 h
  unfold RS.ask at h
  split at h
  · split at h
    · rename_i d v e
      cases h
      obtain ⟨o1, o2⟩ := D.Ok.direct 1 hz.d e
      exact ⟨⟨o1, hz.T⟩, o2⟩
    · cases h
  · rename_i hne
    have ht := ht.resolve_left hne
    split at h
    · rename_i d v e
      cases h
      have hm := tab_mid hz.T hz.d.r0 ht
      obtain ⟨o1, o2, _⟩ := hz.d.bit hm.1 hm.2 e
      refine ⟨⟨o1, ?_⟩, o2⟩
      have hs := (step_ok (z := ⟨R.S.new, z.T⟩) ⟨R.Ok.new, hz.T⟩ (x := ⟨t, i, b⟩) ⟨by rcases h01 with rfl | rfl <;> simp, .inr ht⟩).1.T
      simp only [stepB, turn, if_neg hne, pr] at hs
      exact hs
    · cases h
theorem Rd.run_ok {p : Pr} {v : α} : ∀ {r : Rd α} {z y : RS}, r.Ok p → z.Ok p → r.run z = some (y, v) → y.Ok p ∧ y.d.b = z.d.b
  | .ret a, z, y, _, hz, h => by cases h; exact ⟨hz, rfl⟩
  | .bit t i k, z, y, hr, hz, h => by
    simp only [Rd.run] at h
    cases e : z.ask t i with
    | none => rw [e] at h; cases h
    | some xb =>
      rw [e] at h
      obtain ⟨h1, h2⟩ := ask_ok hz hr.1 e
      obtain ⟨h3, h4⟩ := run_ok (hr.2 _ (ask_01 e)) h1 h
      exact ⟨h3, h4.trans h2⟩

theorem direct_1 (d : D.S) : d.direct 0 1 = if d.one.R ≤ d.one.C then .no 2 else match d.one.widen with
    | none => .no 1
    | some t => .ok t (d.bitAt (d.R / 2)) := by
  simp only [D.S.direct]
  split
  · rfl
  · cases d.one.widen with
    | none => rfl
    | some t => simp only [Int.mul_zero, Int.zero_add]

structure Twin (b : List UInt8) (s : R.S) (d : D.S) : Prop where
  hb : d.b = b
  k : d.k = s.k + 5
  n : R.num (b.take d.k) = s.N + d.C
  R : d.R = s.R
theorem Twin.widen {b : List UInt8} {s : R.S} {d t : D.S} (h : Twin b s d) (h0 : 65536 ≤ s.R) (e : d.widen = some t) : Twin b s.widen t := by
  obtain ⟨h1, h2, h4, h3⟩ := h
  unfold D.S.widen at e
  rw [h3] at e
  split at e
  · rename_i hr
    cases e
    rw [R.S.widen_no (by omega)]
    exact ⟨h1, h2, h4, h3⟩
  · rename_i hr
    split at e
    · cases e
    · rename_i x hx
      cases e
      rw [R.S.widen_go (by omega) (by omega), R.S.widen_no (show ¬ s.R * 256 < 16777216 by omega)]
      refine ⟨h1, by simp only; omega, ?_, rfl⟩
      rw [h1] at hx
      simp only
      rw [List.take_add_one, hx, Option.toList_some, R.num_snoc, h4]
      omega
theorem Twin.bit {b : List UInt8} {s : R.S} {d t : D.S} (h : Twin b s d) {c v : Int} (c0 : 65536 ≤ c) (c1 : 65536 ≤ s.R - c) (e : d.bit c = .ok t v) : Twin b (s.cut c v) t := by
  obtain ⟨h1, h2, h4, h3⟩ := h
  unfold D.S.bit at e
  split at e
  · rename_i t' ht
    cases e
    unfold D.S.bitAt
    unfold D.S.cut at ht
    by_cases hlt : d.C < c
    · rw [if_pos hlt] at ht ⊢
      rw [R.S.cut, if_pos rfl]
      exact Twin.widen (s := ⟨s.N, c, s.k⟩) (d := ⟨d.b, d.k, c, d.C⟩) ⟨h1, h2, h4, rfl⟩ c0 ht
    · rw [if_neg hlt] at ht ⊢
      rw [R.S.cut, if_neg (by decide)]
      exact Twin.widen (s := ⟨s.N + c, s.R - c, s.k⟩) (d := ⟨d.b, d.k, d.R - c, d.C - c⟩) ⟨h1, h2, by simp only [h4]; omega, by simp only [h3]⟩ c1 ht
  · cases e
theorem Twin.one {b : List UInt8} {s : R.S} {d t : D.S} (h : Twin b s d) (h0 : 16777216 ≤ s.R) {v : Int} (e : d.direct 0 1 = .ok t v) : Twin b (s.one v) t := by
  obtain ⟨h1, h2, h4, h3⟩ := h
  rw [direct_1] at e
  split at e
  · cases e
  · split at e
    · cases e
    · rename_i t' ht
      cases e
      unfold D.S.bitAt
      unfold D.S.one at ht
      rw [h3] at ht ⊢
      by_cases hlt : d.C < s.R / 2
      · rw [if_pos hlt] at ht ⊢
        rw [R.S.one, if_neg (by decide)]
        exact Twin.widen (s := ⟨s.N, s.R / 2, s.k⟩) (d := ⟨d.b, d.k, s.R / 2, d.C⟩) ⟨h1, h2, h4, rfl⟩ (by simp only; omega) ht
      · rw [if_neg hlt] at ht ⊢
        rw [R.S.one, if_pos rfl]
        exact Twin.widen (s := ⟨s.N + s.R / 2, s.R / 2, s.k⟩) (d := ⟨d.b, d.k, s.R / 2, d.C - s.R / 2⟩) ⟨h1, h2, by simp only [h4]; omega, rfl⟩ (by simp only; omega) ht
theorem Rd.twin {p : Pr} {b : List UInt8} {v : α} : ∀ (r : Rd α) {es : ES} {z y : RS}, r.Ok p → es.Ok p → Twin b es.s z.d → es.T = z.T → r.run z = some (y, v) →
    ∃ l, r.path v l ∧ Twin b (Z.run es l).s y.d ∧ (Z.run es l).T = y.T
  | .ret a, es, z, y, _, _, ht, hT, h => by cases h; exact ⟨[], ⟨rfl, rfl⟩, ht, hT⟩
  | .bit t i k, es, z, y, hr, he, htw, hT, h => by
    simp only [Rd.run] at h
    cases e : z.ask t i with
    | none => rw [e] at h; cases h
    | some xb =>
      obtain ⟨x, c⟩ := xb
      rw [e] at h
      have h01 := ask_01 e
      have hx : PB.Ok p ⟨t, i, c⟩ := ⟨by rcases h01 with rfl | rfl <;> simp, hr.1⟩
      have he1 := (step_ok he hx).1
      have key : Twin b (stepB es ⟨t, i, c⟩).s x.d ∧ (stepB es ⟨t, i, c⟩).T = x.T := by
        unfold RS.ask at e
        by_cases h18 : t = 18
        · simp only [h18, if_true] at e
          simp only [stepB, turn, h18, if_true]
          split at e
          · rename_i d w e2
            cases e
            exact ⟨htw.one he.s.r0 e2, hT⟩
          · cases e
        · have ht := hr.1.resolve_left h18
          simp only [if_neg h18] at e
          simp only [stepB, turn, if_neg h18, pr]
          split at e
          · rename_i d w e2
            cases e
            have hm := tab_mid he.T he.s.r0 ht
            rw [← hT, htw.R] at e2
            exact ⟨htw.bit hm.1 hm.2 e2, by rw [hT]⟩
          · cases e
      obtain ⟨l, h1, h2, h3⟩ := twin (k c) (hr.2 c h01) he1 key.1 key.2 h
      exact ⟨⟨t, i, c⟩ :: l, ⟨c, l, h01, rfl, h1⟩, h2, h3⟩

theorem ask_sim {n : Nat} {z y x : RS} (h : D.Sim n z.d y.d) (hT : z.T = y.T) {t : Nat} {i v : Int} (e : z.ask t i = some (x, v)) : ∃ w, y.ask t i = some (w, v) ∧ D.Sim n x.d w.d ∧ x.T = w.T := by
  unfold RS.ask at *
  by_cases h18 : t = 18
  · simp only [h18, if_true] at e ⊢
    split at e
    · rename_i d u e2
      cases e
      obtain ⟨d2, h1, h2⟩ := h.direct 1 e2
      rw [h1]
      exact ⟨_, rfl, h2, hT⟩
    · cases e
  · simp only [if_neg h18] at e ⊢
    split at e
    · rename_i d u e2
      cases e
      obtain ⟨d2, h1, h2⟩ := h.bit e2
      rw [← hT, ← h.R, h1]
      exact ⟨_, rfl, h2, by rw [hT]⟩
    · cases e
theorem Rd.sim {n : Nat} {v : α} : ∀ (r : Rd α) {z y x : RS}, D.Sim n z.d y.d → z.T = y.T → r.run z = some (x, v) → ∃ w, r.run y = some (w, v) ∧ D.Sim n x.d w.d ∧ x.T = w.T
  | .ret a, z, y, x, h, hT, e => by cases e; exact ⟨y, rfl, h, hT⟩
  | .bit t i k, z, y, x, h, hT, e => by
    simp only [Rd.run] at e ⊢
    cases e1 : z.ask t i with
    | none => rw [e1] at e; cases e
    | some xb =>
      obtain ⟨x1, c⟩ := xb
      rw [e1] at e
      obtain ⟨w, h1, h2, h3⟩ := ask_sim h hT e1
      rw [h1]
      exact sim (k c) h2 h3 e
end

end Z
end Go.Proofs.YtbgnnjfpiblkmaaGreatDoor

namespace Go.Proofs.YtbgnnjfpiblkmaaGreatDoor
open Go
set_option linter.unusedSimpArgs false
set_option linter.unnecessarySimpa false
set_option linter.unusedSectionVars false
set_option linter.unusedVariables false
namespace Z

def bitsRd (t : Nat) (at_ : Int) : Nat → List Int → Rd (List Int)
  | 0, l => .ret l
  | n + 1, l => .bit t (at_ + R.nodeL l) fun b => bitsRd t at_ n (l ++ [b])
def treeRd (back : Bool) (t : Nat) (at_ : Int) (n : Nat) : Rd Int := (bitsRd t at_ n []).map (R.val back)
def dirRd : Nat → Int → Rd Int
  | 0, v => .ret v
  | n + 1, v => .bit 18 0 fun b => dirRd n (2 * v + b)
def litGoRd (f t : Int) : Nat → Int → Bool → Rd Int
  | 0, m, _ => .ret (m - 256)
  | i + 1, m, same => .bit 6 (f + m + (if same then 256 * (1 + t / 2 ^ i % 2) else 0)) fun b => litGoRd f t i (2 * m + b) (same && decide (b = t / 2 ^ i % 2))
def litRd (p : Pr) (s : St) (x : W) : Rd Int :=
  if s.num < 7 then treeRd false 6 (context p x.all.length (lastOr x 1).toNat) 8 else litGoRd (context p x.all.length (lastOr x 1).toNat) (lastOr x s.r0).toNat 8 1 true
def lenRd (c : Nat) (p : Pr) (pos : Int) : Rd Int :=
  .bit c 0 fun b => if b = 0 then (treeRd false (c + 1) (8 * place p pos) 3).map fun v => 2 + v
    else .bit c 1 fun b => if b = 0 then (treeRd false (c + 2) (8 * place p pos) 3).map fun v => 10 + v else (treeRd false (c + 3) 0 8).map fun v => 18 + v
def distRd (n : Int) : Rd Int :=
  (treeRd false 15 (64 * min (n - 2) 3) 6).bind fun s => if s < 4 then .ret (least s)
    else if s < 14 then (treeRd true 16 (restAt s) (bitsN s)).map fun v => least s + v
    else (dirRd (bitsN s - 4) 0).bind fun h => (treeRd true 17 0 4).map fun v => least s + h * 16 + v
def repRd (p : Pr) (pos : Int) (d : Int) : Rd Y := (lenRd 11 p pos).map fun n => ⟨3, 0, n, d⟩
def symRd (p : Pr) (s : St) (x : W) : Rd Y :=
  .bit 0 (s.num * 16 + place p x.all.length) fun b => if b = 0 then (litRd p s x).map fun m => ⟨1, byteOf m, 0, 0⟩
  else .bit 2 s.num fun b => if b = 0 then (lenRd 7 p x.all.length).bind fun n => (distRd n).map fun d => ⟨2, 0, n, d⟩
  else .bit 3 s.num fun b => if b = 0 then .bit 1 (s.num * 16 + place p x.all.length) fun b => if b = 0 then .ret ⟨4, 0, 0, 0⟩ else repRd p x.all.length 0
  else .bit 4 s.num fun b => if b = 0 then repRd p x.all.length 1
  else .bit 5 s.num fun b => repRd p x.all.length (2 + b)
def used (y : Y) : Y := if y.Kind = 1 then ⟨1, y.Byte, 0, 0⟩ else if y.Kind = 4 then ⟨4, 0, 0, 0⟩ else ⟨y.Kind, 0, y.Len, y.Dist⟩

def pbs (t : Nat) (at_ : Int) : List Int → List Int → List PB
  | _, [] => []
  | l, b :: bs => ⟨t, at_ + R.nodeL l, b⟩ :: pbs t at_ (l ++ [b]) bs
theorem pbs_snoc (t : Nat) (at_ b : Int) : ∀ bs l, pbs t at_ l (bs ++ [b]) = pbs t at_ l bs ++ [⟨t, at_ + R.nodeL (l ++ bs), b⟩]
  | [], l => by simp [pbs]
  | c :: bs, l => by simp only [List.cons_append, pbs, pbs_snoc t at_ b bs]; simp
theorem pbs_tree (t : Nat) (at_ : Int) (bs : Nat → Int) : ∀ n, pbs t at_ [] (D.bitsOf bs n) = treeBits t at_ bs n
  | 0 => rfl
  | n + 1 => by
    rw [D.bitsOf, pbs_snoc, pbs_tree t at_ bs n, List.nil_append, D.nodeL_bits bs (D.bitsOf bs) rfl fun _ => rfl]
    simp [treeBits, List.range_succ]
theorem bitsRd_path {t : Nat} {at_ : Int} {v : List Int} : ∀ (n : Nat) {l : List Int} {m : List PB}, (bitsRd t at_ n l).path v m ↔ ∃ bs, R.Bits bs ∧ bs.length = n ∧ v = l ++ bs ∧ m = pbs t at_ l bs
  | 0, l, m => by
    constructor
    · rintro ⟨rfl, rfl⟩
      exact ⟨[], fun _ h => (by cases h), rfl, (List.append_nil _).symm, rfl⟩
    · rintro ⟨bs, _, hl, rfl, rfl⟩
      obtain rfl := List.length_eq_zero_iff.1 hl
      exact ⟨List.append_nil _, rfl⟩
  | n + 1, l, m => by
    constructor
    · rintro ⟨b, m', hb, rfl, h⟩
      obtain ⟨bs, h1, h2, rfl, rfl⟩ := (bitsRd_path n).1 h
      exact ⟨b :: bs, fun x hx => (List.mem_cons.1 hx).elim (fun e => e ▸ hb) (h1 x), by rw [List.length_cons, h2], by simp, rfl⟩
    · rintro ⟨bs, h1, h2, rfl, rfl⟩
      cases bs with
      | nil => simp at h2
      | cons b bs =>
        exact ⟨b, _, h1 b List.mem_cons_self, rfl, (bitsRd_path n).2 ⟨bs, fun x hx => h1 x (List.mem_cons_of_mem _ hx), by simpa using h2, by simp, rfl⟩⟩
theorem horner_inj : ∀ (n : Nat) {l m : List Int}, l.length = n → m.length = n → R.Bits l → R.Bits m → R.horner l = R.horner m → l = m
  | 0, l, m, h1, h2, _, _, _ => by rw [List.length_eq_zero_iff.1 h1, List.length_eq_zero_iff.1 h2]
  | n + 1, l, m, h1, h2, b1, b2, e => by
    rcases List.eq_nil_or_concat l with rfl | ⟨l, a, rfl⟩
    · simp at h1
    rcases List.eq_nil_or_concat m with rfl | ⟨m, c, rfl⟩
    · simp at h2
    simp only [List.concat_eq_append] at *
    rw [R.horner_snoc, R.horner_snoc] at e
    obtain ⟨b1, ha⟩ := b1.init
    obtain ⟨b2, hc⟩ := b2.init
    have e1 : a = c := by omega
    rw [horner_inj n (by simpa using h1) (by simpa using h2) b1 b2 (by omega), e1]
theorem backv_inj : ∀ (l m : List Int), l.length = m.length → R.Bits l → R.Bits m → R.backv l = R.backv m → l = m
  | [], [], _, _, _, _ => rfl
  | [], _ :: _, h, _, _, _ => by simp at h
  | _ :: _, [], h, _, _, _ => by simp at h
  | a :: l, c :: m, h, b1, b2, e => by
    have ha := b1 a List.mem_cons_self
    have hc := b2 c List.mem_cons_self
    have e : a + 2 * R.backv l = c + 2 * R.backv m := e
    have e1 : a = c := by omega
    rw [backv_inj l m (by simpa using h) (fun x hx => b1 x (List.mem_cons_of_mem _ hx)) (fun x hx => b2 x (List.mem_cons_of_mem _ hx)) (by omega), e1]
theorem val_inj (back : Bool) {l m : List Int} (h : l.length = m.length) (b1 : R.Bits l) (b2 : R.Bits m) (e : R.val back l = R.val back m) : l = m := by
  cases back
  · exact horner_inj _ h rfl b1 b2 e
  · exact backv_inj _ _ h b1 b2 e
theorem val_bd (back : Bool) {l : List Int} (h : R.Bits l) : 0 ≤ R.val back l ∧ R.val back l < 2 ^ l.length := by
  cases back
  · exact R.horner_bd h
  · exact R.backv_bd h
theorem bitsOf_bits {bs : Nat → Int} (h : ∀ k, 0 ≤ bs k ∧ bs k ≤ 1) : ∀ n, R.Bits (D.bitsOf bs n)
  | 0 => fun _ h => (by cases h)
  | n + 1 => (bitsOf_bits h n).snoc (by have := h n; omega)
theorem treeRd_path {back : Bool} {t : Nat} {at_ v : Int} {n : Nat} {m : List PB} : (treeRd back t at_ n).path v m ↔ 0 ≤ v ∧ v < 2 ^ n ∧ m = treeBits t at_ (R.bitAt back n v) n := by
  rw [treeRd, Rd.path_map]
  constructor
  · rintro ⟨l, h, rfl⟩
    obtain ⟨bs, h1, h2, e0, rfl⟩ := (bitsRd_path n).1 h
    rw [List.nil_append] at e0
    subst e0
    have hb := val_bd back h1
    rw [h2] at hb
    refine ⟨hb.1, hb.2, ?_⟩
    have e : l = D.bitsOf (R.bitAt back n (R.val back l)) n :=
      val_inj back (by rw [h2, D.bitsOf_len]) h1 (bitsOf_bits (R.bitAt_01 back n _) n) (R.val_bits back n hb.1 hb.2).symm
    rw [← pbs_tree, ← e]
  · rintro ⟨h0, h1, rfl⟩
    refine ⟨D.bitsOf (R.bitAt back n v) n, (bitsRd_path n).2 ⟨_, bitsOf_bits (R.bitAt_01 back n v) n, D.bitsOf_len _ _, rfl, (pbs_tree _ _ _ _).symm⟩, (R.val_bits back n h0 h1).symm⟩

theorem low_bit (w c : Int) {j n : Nat} (h : j < n) : (w + c * 2 ^ n) / 2 ^ j % 2 = w / 2 ^ j % 2 := by
  have p : (0 : Int) < 2 ^ j := Int.pow_pos (by omega)
  have e : c * 2 ^ n = (c * 2 ^ (n - 1 - j) * 2) * 2 ^ j := by
    rw [Int.mul_assoc, Int.mul_assoc]
    congr 1
    rw [Int.mul_comm 2, ← Int.mul_assoc, ← Int.pow_add, ← Int.pow_succ]
    congr 1; omega
  rw [e, Int.add_mul_ediv_right _ _ (by omega)]
  omega
theorem top_bit {w b : Int} {n : Nat} (h0 : 0 ≤ w) (h1 : w < 2 ^ n) : (w + b * 2 ^ n) / 2 ^ n = b := by
  rw [Int.add_mul_ediv_right _ _ (by omega), Int.ediv_eq_zero_of_lt h0 h1, Int.zero_add]
theorem dir_bits_mod (w c : Int) (n : Nat) : (Op.direct (w + c * 2 ^ n) n).bits = (Op.direct w n).bits := by
  simp only [Op.bits]
  refine List.map_congr_left fun k hk => ?_
  have hk := List.mem_range.1 hk
  rw [low_bit w c (by omega)]
theorem dir_bits_succ (w : Int) (n : Nat) : (Op.direct w (n + 1)).bits = ⟨18, 0, w / 2 ^ n % 2⟩ :: (Op.direct w n).bits := by
  simp only [Op.bits, List.range_succ_eq_map, List.map_cons, List.map_map]
  congr 1
  refine List.map_congr_left fun k hk => ?_
  have hk := List.mem_range.1 hk
  simp only [Function.comp]
  rw [show n + 1 - 1 - (k + 1) = n - 1 - k from by omega]
theorem split_bit {w : Int} {n : Nat} (h0 : 0 ≤ w) (h1 : w < 2 ^ (n + 1)) : ∃ b u : Int, (b = 0 ∨ b = 1) ∧ 0 ≤ u ∧ u < 2 ^ n ∧ w = u + b * 2 ^ n := by
  rw [Int.pow_succ] at h1
  have p : (0 : Int) < 2 ^ n := Int.pow_pos (by omega)
  refine ⟨w / 2 ^ n, w % 2 ^ n, ?_, Int.emod_nonneg _ (by omega), Int.emod_lt_of_pos _ p, ?_⟩
  · have a1 : 0 ≤ w / 2 ^ n := Int.ediv_nonneg h0 (by omega)
    have a2 : w / 2 ^ n < 2 := Int.ediv_lt_of_lt_mul p (by omega)
    omega
  · have := Int.emod_add_mul_ediv w (2 ^ n)
    rw [Int.mul_comm] at this
    exact this.symm
theorem join_bit {b u : Int} {n : Nat} (hb : b = 0 ∨ b = 1) (h0 : 0 ≤ u) (h1 : u < 2 ^ n) : 0 ≤ u + b * 2 ^ n ∧ u + b * 2 ^ n < 2 ^ (n + 1) := by
  rw [Int.pow_succ]
  rcases hb with rfl | rfl <;> omega
theorem dirRd_path : ∀ (n : Nat) {u v : Int} {m : List PB}, (dirRd n u).path v m ↔ ∃ w, 0 ≤ w ∧ w < 2 ^ n ∧ v = u * 2 ^ n + w ∧ m = (Op.direct w n).bits
  | 0, u, v, m => by
    constructor
    · rintro ⟨rfl, rfl⟩
      exact ⟨0, by omega, by simp, by simp, rfl⟩
    · rintro ⟨w, h0, h1, rfl, rfl⟩
      rw [Int.pow_zero] at h1
      exact ⟨by rw [Int.pow_zero]; omega, rfl⟩
  | n + 1, u, v, m => by
    constructor
    · rintro ⟨b, m', hb, rfl, h⟩
      obtain ⟨w, h0, h1, rfl, rfl⟩ := (dirRd_path n).1 h
      obtain ⟨j0, j1⟩ := join_bit hb h0 h1
      refine ⟨w + b * 2 ^ n, j0, j1, ?_, ?_⟩
      · rw [Int.pow_succ]; grind
      · rw [dir_bits_succ, dir_bits_mod, top_bit h0 h1]
        rcases hb with rfl | rfl <;> rfl
    · rintro ⟨w, h0, h1, rfl, rfl⟩
      obtain ⟨b, z, hb, z0, z1, rfl⟩ := split_bit h0 h1
      refine ⟨b, (Op.direct z n).bits, hb, ?_, (dirRd_path n).2 ⟨z, z0, z1, ?_, rfl⟩⟩
      · rw [dir_bits_succ, dir_bits_mod, top_bit z0 z1]
        rcases hb with rfl | rfl <;> rfl
      · rw [Int.pow_succ]; grind
theorem litGo_mod (f t c : Int) : ∀ (i n : Nat) (b m : Int) (same : Bool), i ≤ n → litGo f (b + c * 2 ^ n) t i m same = litGo f b t i m same
  | 0, _, _, _, _, _ => rfl
  | i + 1, n, b, m, same, h => by
    simp only [litGo]
    rw [low_bit b c (by omega : i < n), litGo_mod f t c i n _ _ _ (by omega)]
theorem litGoRd_path {f t : Int} : ∀ (i : Nat) {m : Int} {same : Bool} {v : Int} {l : List PB}, (litGoRd f t i m same).path v l ↔ ∃ b, 0 ≤ b ∧ b < 2 ^ i ∧ v = m * 2 ^ i + b - 256 ∧ l = allBits (litGo f b t i m same)
  | 0, m, same, v, l => by
    constructor
    · rintro ⟨rfl, rfl⟩
      exact ⟨0, by omega, by simp, by simp, rfl⟩
    · rintro ⟨b, h0, h1, rfl, rfl⟩
      rw [Int.pow_zero] at h1
      exact ⟨by rw [Int.pow_zero]; omega, rfl⟩
  | i + 1, m, same, v, l => by
    have key : ∀ b w : Int, (b = 0 ∨ b = 1) → 0 ≤ w → w < 2 ^ i → litGo f (w + b * 2 ^ i) t (i + 1) m same = .bit 6 (f + m + (if same then 256 * (1 + t / 2 ^ i % 2) else 0)) b :: litGo f w t i (2 * m + b) (same && decide (b = t / 2 ^ i % 2)) := by
      intro b w hb h0 h1
      rw [litGo, top_bit h0 h1, show b % 2 = b from by omega, litGo_mod _ _ _ _ _ _ _ _ (Nat.le_refl i)]
    constructor
    · rintro ⟨b, m', hb, rfl, h⟩
      obtain ⟨w, h0, h1, rfl, rfl⟩ := (litGoRd_path i).1 h
      obtain ⟨j0, j1⟩ := join_bit hb h0 h1
      refine ⟨w + b * 2 ^ i, j0, j1, ?_, ?_⟩
      · rw [Int.pow_succ]; grind
      · rw [key b w hb h0 h1]; rfl
    · rintro ⟨w, h0, h1, rfl, rfl⟩
      obtain ⟨b, z, hb, z0, z1, rfl⟩ := split_bit h0 h1
      refine ⟨b, _, hb, ?_, (litGoRd_path i).2 ⟨z, z0, z1, ?_, rfl⟩⟩
      · rw [key b z hb z0 z1]; rfl
      · rw [Int.pow_succ]; grind

theorem allBits_cons (o : Op) (l : List Op) : allBits (o :: l) = o.bits ++ allBits l := rfl
theorem allBits_append (l m : List Op) : allBits (l ++ m) = allBits l ++ allBits m := by simp [allBits]
theorem allBits_nil : allBits [] = [] := rfl
theorem bits_bit (t : Nat) (i b : Int) : (Op.bit t i b).bits = [⟨t, i, b⟩] := rfl
theorem tree_bits (t : Nat) (a : Int) (n : Nat) (v : Int) : (Op.tree t a n v).bits = treeBits t a (R.bitAt false n v) n := rfl
theorem back_bits (t : Nat) (a : Int) (n : Nat) (v : Int) : (Op.back t a n v).bits = treeBits t a (R.bitAt true n v) n := rfl

theorem litRd_path {p : Pr} {s : St} {x : W} {v : Int} {m : List PB} : (litRd p s x).path v m ↔ ∃ b : UInt8, v = b.toNat ∧ m = allBits (litOps p s x b) := by
  have e8 : (2 : Int) ^ 8 = 256 := by decide
  have key : ∀ v : Int, 0 ≤ v → v < 256 → ∃ b : UInt8, v = b.toNat := fun v h0 h1 => ⟨byteOf v, by rw [byteOf_toNat]; omega⟩
  unfold litRd litOps
  dsimp only
  by_cases h : s.num < 7
  · rw [if_pos h, treeRd_path, e8]
    constructor
    · rintro ⟨h0, h1, rfl⟩
      obtain ⟨b, rfl⟩ := key v h0 h1
      exact ⟨b, rfl, by rw [if_pos h, allBits_cons, allBits_nil, List.append_nil, tree_bits]⟩
    · rintro ⟨b, rfl, rfl⟩
      have := b.toNat_lt
      refine ⟨by omega, by omega, ?_⟩
      rw [if_pos h, allBits_cons, allBits_nil, List.append_nil, tree_bits]
  · rw [if_neg h, litGoRd_path, e8]
    constructor
    · rintro ⟨b, h0, h1, rfl, rfl⟩
      obtain ⟨c, rfl⟩ := key b h0 h1
      exact ⟨c, by omega, by rw [if_neg h]⟩
    · rintro ⟨b, rfl, rfl⟩
      have := b.toNat_lt
      exact ⟨b.toNat, by omega, by omega, by omega, by rw [if_neg h]⟩
theorem lenRd_path {c : Nat} {p : Pr} {pos n : Int} {m : List PB} : (lenRd c p pos).path n m ↔ isLen n ∧ m = allBits (lenOps c p pos n) := by
  have e3 : (2 : Int) ^ 3 = 8 := by decide
  have e8 : (2 : Int) ^ 8 = 256 := by decide
  unfold isLen lenOps
  dsimp only
  constructor
  · rintro ⟨b, m', hb, rfl, h⟩
    rcases hb with rfl | rfl
    · dsimp -failIfUnchanged only at h; rw [if_pos rfl, Rd.path_map] at h
      obtain ⟨v, h, rfl⟩ := h
      obtain ⟨h0, h1, rfl⟩ := treeRd_path.1 h
      rw [e3] at h1
      rw [if_pos (by omega), show 2 + v - 2 = v from by omega]
      exact ⟨by omega, by simp only [allBits_cons, allBits_nil, bits_bit, tree_bits, List.append_nil]; rfl⟩
    · dsimp -failIfUnchanged only at h; rw [if_neg (by omega)] at h
      obtain ⟨b, m', hb, rfl, h⟩ := h
      rcases hb with rfl | rfl
      · dsimp -failIfUnchanged only at h; rw [if_pos rfl, Rd.path_map] at h
        obtain ⟨v, h, rfl⟩ := h
        obtain ⟨h0, h1, rfl⟩ := treeRd_path.1 h
        rw [e3] at h1
        rw [if_neg (by omega), if_pos (by omega), show 10 + v - 2 - 8 = v from by omega]
        exact ⟨by omega, by simp only [allBits_cons, allBits_nil, bits_bit, tree_bits, List.append_nil]; rfl⟩
      · dsimp -failIfUnchanged only at h; rw [if_neg (by omega), Rd.path_map] at h
        obtain ⟨v, h, rfl⟩ := h
        obtain ⟨h0, h1, rfl⟩ := treeRd_path.1 h
        rw [e8] at h1
        rw [if_neg (by omega), if_neg (by omega), show 18 + v - 2 - 16 = v from by omega]
        exact ⟨by omega, by simp only [allBits_cons, allBits_nil, bits_bit, tree_bits, List.append_nil]; rfl⟩
  · rintro ⟨⟨h0, h1⟩, rfl⟩
    by_cases a1 : n - 2 < 8
    · rw [if_pos a1]
      refine ⟨0, _, .inl rfl, rfl, ?_⟩
      dsimp -failIfUnchanged only; rw [if_pos rfl, Rd.path_map]
      exact ⟨n - 2, treeRd_path.2 ⟨by omega, by omega, by simp; rfl⟩, by omega⟩
    · rw [if_neg a1]
      by_cases a2 : n - 2 < 16
      · rw [if_pos a2]
        refine ⟨1, _, .inr rfl, rfl, ?_⟩
        dsimp -failIfUnchanged only; rw [if_neg (by omega)]
        refine ⟨0, _, .inl rfl, rfl, ?_⟩
        dsimp -failIfUnchanged only; rw [if_pos rfl, Rd.path_map]
        exact ⟨n - 2 - 8, treeRd_path.2 ⟨by omega, by omega, by simp; rfl⟩, by omega⟩
      · rw [if_neg a2]
        refine ⟨1, _, .inr rfl, rfl, ?_⟩
        dsimp -failIfUnchanged only; rw [if_neg (by omega)]
        refine ⟨1, _, .inr rfl, rfl, ?_⟩
        dsimp -failIfUnchanged only; rw [if_neg (by omega), Rd.path_map]
        exact ⟨n - 2 - 16, treeRd_path.2 ⟨by omega, by omega, by simp; rfl⟩, by omega⟩

theorem slots_apart : ∀ a b : Fin 64, a < b → least (a.val : Int) + 2 ^ bitsN (a.val : Int) ≤ least (b.val : Int) := by decide +kernel
theorem slot_least {s r : Int} (h0 : 0 ≤ s) (h1 : s ≤ 63) (r0 : 0 ≤ r) (r1 : r < 2 ^ bitsN s) (hd : isDist (least s + r)) : slot (least s + r) = s := by
  obtain ⟨a0, a1, _, a2, a3⟩ := slot_law hd
  generalize slot (least s + r) = u at *
  have key := slots_apart
  rcases Int.lt_trichotomy s u with h | h | h
  · have := key ⟨s.toNat, by omega⟩ ⟨u.toNat, by omega⟩ (by show s.toNat < u.toNat; omega)
    simp only [Int.toNat_of_nonneg h0, Int.toNat_of_nonneg a0] at this
    omega
  · exact h.symm
  · have := key ⟨u.toNat, by omega⟩ ⟨s.toNat, by omega⟩ (by show u.toNat < s.toNat; omega)
    simp only [Int.toNat_of_nonneg h0, Int.toNat_of_nonneg a0] at this
    omega
theorem distRd_path {n d : Int} {m : List PB} (hd : isDist d) : (distRd n).path d m ↔ m = allBits (distOps n d) := by
  have e6 : (2 : Int) ^ 6 = 64 := by decide
  have e4 : (2 : Int) ^ 4 = 16 := by decide
  unfold distRd distOps
  dsimp only
  rw [Rd.path_bind]
  constructor
  · rintro ⟨s, m1, m2, h1, h2, rfl⟩
    obtain ⟨s0, s1, rfl⟩ := treeRd_path.1 h1
    rw [e6] at s1
    by_cases c4 : s < 4
    · rw [if_pos c4] at h2
      obtain ⟨rfl, rfl⟩ := h2
      have hz := (bits_0 s0).2 c4
      have := slot_least (r := 0) s0 (by omega) (by omega) (by rw [hz]; decide) (by rwa [Int.add_zero])
      rw [Int.add_zero] at this
      rw [this, if_pos hz, allBits_cons, allBits_nil]
      rfl
    · rw [if_neg c4] at h2
      have hnz : ¬ bitsN s = 0 := fun h => c4 ((bits_0 s0).1 h)
      by_cases c14 : s < 14
      · rw [if_pos c14, Rd.path_map] at h2
        obtain ⟨v, h, rfl⟩ := h2
        obtain ⟨v0, v1, rfl⟩ := treeRd_path.1 h
        rw [slot_least s0 (by omega) v0 v1 hd, if_neg hnz, if_pos c14, show least s + v - least s = v from by omega]
        simp only [allBits_cons, allBits_nil, tree_bits, back_bits, List.append_nil]
      · rw [if_neg c14, Rd.path_bind] at h2
        obtain ⟨h, l1, l2, h3, h4, rfl⟩ := h2
        rw [Rd.path_map] at h4
        obtain ⟨v, h4, rfl⟩ := h4
        obtain ⟨v0, v1, rfl⟩ := treeRd_path.1 h4
        obtain ⟨w, w0, w1, rfl, rfl⟩ := (dirRd_path _).1 h3
        rw [Int.zero_mul, Int.zero_add] at *
        rw [e4] at v1
        have hb6 := late_bits (s := s) (by omega)
        have hpow : (2 : Int) ^ bitsN s = 2 ^ (bitsN s - 4) * 16 := by rw [show bitsN s = (bitsN s - 4) + 4 from by omega, Int.pow_add, e4, show bitsN s - 4 + 4 - 4 = bitsN s - 4 from by omega]
        rw [show least s + w * 16 + v = least s + (w * 16 + v) from by omega] at hd ⊢
        rw [slot_least s0 (by omega) (by omega) (by omega) hd, if_neg hnz, if_neg c14, show least s + (w * 16 + v) - least s = w * 16 + v from by omega, show (w * 16 + v) / 16 = w from by omega, show (w * 16 + v) % 16 = v from by omega]
        simp only [allBits_cons, allBits_nil, tree_bits, back_bits, List.append_nil]
  · rintro rfl
    obtain ⟨a0, a1, a2, a3, a4⟩ := slot_law hd
    refine ⟨slot d, _, _, treeRd_path.2 ⟨a0, by omega, rfl⟩, ?_, by rw [allBits_cons, tree_bits]⟩
    by_cases c4 : slot d < 4
    · have hz := (bits_0 a0).2 c4
      rw [hz, Int.pow_zero] at a4
      rw [if_pos c4, if_pos hz]
      exact ⟨by omega, rfl⟩
    · have hnz : ¬ bitsN (slot d) = 0 := fun h => c4 ((bits_0 a0).1 h)
      rw [if_neg c4, if_neg hnz]
      by_cases c14 : slot d < 14
      · rw [if_pos c14, if_pos c14, Rd.path_map]
        exact ⟨d - least (slot d), treeRd_path.2 ⟨by omega, a4, by simp only [allBits_cons, allBits_nil, back_bits, List.append_nil]⟩, by omega⟩
      · rw [if_neg c14, if_neg c14, Rd.path_bind]
        have hb6 := late_bits (s := slot d) (by omega)
        have hpow : (2 : Int) ^ bitsN (slot d) = 2 ^ (bitsN (slot d) - 4) * 16 := by rw [show bitsN (slot d) = (bitsN (slot d) - 4) + 4 from by omega, Int.pow_add, e4, show bitsN (slot d) - 4 + 4 - 4 = bitsN (slot d) - 4 from by omega]
        refine ⟨(d - least (slot d)) / 16, _, _, (dirRd_path _).2 ⟨(d - least (slot d)) / 16, by omega, by omega, by rw [Int.zero_mul, Int.zero_add], rfl⟩, Rd.path_map.2 ⟨(d - least (slot d)) % 16, treeRd_path.2 ⟨by omega, by omega, rfl⟩, by omega⟩, ?_⟩
        simp only [allBits_cons, allBits_nil, back_bits, List.append_nil]

theorem repRd_path {p : Pr} {pos d : Int} {y : Y} {m : List PB} : (repRd p pos d).path y m ↔ isLen y.Len ∧ y = ⟨3, 0, y.Len, d⟩ ∧ m = allBits (lenOps 11 p pos y.Len) := by
  rw [repRd, Rd.path_map]
  constructor
  · rintro ⟨n, h, rfl⟩
    obtain ⟨h1, rfl⟩ := lenRd_path.1 h
    exact ⟨h1, rfl, rfl⟩
  · rintro ⟨h1, h2, rfl⟩
    exact ⟨y.Len, lenRd_path.2 ⟨h1, rfl⟩, h2⟩
theorem byteOf_byte (b : UInt8) : byteOf (b.toNat : Int) = b := byteOf_self b
theorem symRd_path {p : Pr} {s : St} {x : W} {y : Y} {m : List PB} (hy : errY y = 0) (h : (symRd p s x).path y m) : y = used y ∧ m = allBits (symOps p s x y) := by
  obtain ⟨b, m1, hb, rfl, h⟩ := h
  rcases hb with rfl | rfl
  · dsimp -failIfUnchanged only at h; rw [if_pos rfl, Rd.path_map] at h
    obtain ⟨v, h, rfl⟩ := h
    obtain ⟨c, rfl, rfl⟩ := litRd_path.1 h
    rw [byteOf_byte]
    exact ⟨rfl, rfl⟩
  dsimp -failIfUnchanged only at h; rw [if_neg (by omega)] at h
  obtain ⟨b, m2, hb, rfl, h⟩ := h
  rcases hb with rfl | rfl
  · dsimp -failIfUnchanged only at h; rw [if_pos rfl, Rd.path_bind] at h
    obtain ⟨n, l1, l2, h1, h2, rfl⟩ := h
    rw [Rd.path_map] at h2
    obtain ⟨d, h2, rfl⟩ := h2
    obtain ⟨h3, rfl⟩ := lenRd_path.1 h1
    have hd : isDist d := err_dist (y := ⟨2, 0, n, d⟩) hy rfl
    rw [distRd_path hd] at h2
    subst h2
    refine ⟨rfl, ?_⟩
    show _ = allBits (([Op.bit 0 _ 1, Op.bit 2 _ 0] ++ lenOps 7 p x.all.length n) ++ distOps n d)
    rw [allBits_append, allBits_append]
    rfl
  dsimp -failIfUnchanged only at h; rw [if_neg (by omega)] at h
  obtain ⟨b, m3, hb, rfl, h⟩ := h
  rcases hb with rfl | rfl
  · dsimp -failIfUnchanged only at h; rw [if_pos rfl] at h
    obtain ⟨b, m4, hb, rfl, h⟩ := h
    rcases hb with rfl | rfl
    · dsimp -failIfUnchanged only at h; rw [if_pos rfl] at h
      obtain ⟨rfl, rfl⟩ := h
      exact ⟨rfl, rfl⟩
    · dsimp -failIfUnchanged only at h; rw [if_neg (by omega)] at h
      obtain ⟨h1, h2, rfl⟩ := repRd_path.1 h
      rw [h2]
      refine ⟨rfl, ?_⟩
      show _ = allBits (([Op.bit 0 _ 1, Op.bit 2 _ 1] ++ [Op.bit 3 _ 0, Op.bit 1 _ 1]) ++ lenOps 11 p x.all.length y.Len)
      rw [allBits_append]
      rfl
  dsimp -failIfUnchanged only at h; rw [if_neg (by omega)] at h
  obtain ⟨b, m4, hb, rfl, h⟩ := h
  rcases hb with rfl | rfl
  · dsimp -failIfUnchanged only at h; rw [if_pos rfl] at h
    obtain ⟨h1, h2, rfl⟩ := repRd_path.1 h
    rw [h2]
    refine ⟨rfl, ?_⟩
    show _ = allBits (([Op.bit 0 _ 1, Op.bit 2 _ 1] ++ [Op.bit 3 _ 1, Op.bit 4 _ 0]) ++ lenOps 11 p x.all.length y.Len)
    rw [allBits_append]
    rfl
  dsimp -failIfUnchanged only at h; rw [if_neg (by omega)] at h
  obtain ⟨b, m5, hb, rfl, h⟩ := h
  obtain ⟨h1, h2, rfl⟩ := repRd_path.1 h
  rw [h2]
  refine ⟨rfl, ?_⟩
  rcases hb with rfl | rfl
  · show _ = allBits (([Op.bit 0 _ 1, Op.bit 2 _ 1] ++ [Op.bit 3 _ 1, Op.bit 4 _ 1, Op.bit 5 _ 0]) ++ lenOps 11 p x.all.length y.Len)
    rw [allBits_append]
    rfl
  · show _ = allBits (([Op.bit 0 _ 1, Op.bit 2 _ 1] ++ [Op.bit 3 _ 1, Op.bit 4 _ 1, Op.bit 5 _ 1]) ++ lenOps 11 p x.all.length y.Len)
    rw [allBits_append]
    rfl
end Z
end Go.Proofs.YtbgnnjfpiblkmaaGreatDoor

namespace Go.Proofs.YtbgnnjfpiblkmaaGreatDoor
open Go
set_option linter.unusedSimpArgs false
set_option linter.unnecessarySimpa false
set_option linter.unusedSectionVars false
set_option linter.unusedVariables false
set_option maxRecDepth 100000

def lzenc_New.H : Hints := { cut := fun  | _ => none, loop := fun  | _ => ([], 0), order := fun  | _ => [] }
def lzenc_New.F [Pan] (x0 : Value) (x1 : Value) (w : World) (Q : Value → World → Prop) : Prop :=
 pN Tryz.prog (oBox 23 x0) w fun x2 w1 =>
 pN Tryz.prog (oLoad 23 x2) w1 fun x11 w2 =>
 pN Tryz.prog (oCall 45 [x11]) w2 fun x12 w3 =>
 pN Tryz.prog (oExt x12 0) w3 fun _ w4 =>
 pN Tryz.prog (oExt x12 1) w4 fun x14 w5 =>
 pN Tryz.prog (oBin .neq 38 (.tmp 15) (.const (.int .i64 0)) x14 (.int .i64 0)) w5 fun x16 w6 =>
 pIf x16
 (Q (.tuple #[(.pointer none), x14]) w6)
 (pN Tryz.prog (oCall 42 [x1]) w6 fun x20 w7 =>
 pN Tryz.prog (oExt x20 0) w7 fun x21 w8 =>
 pN Tryz.prog (oExt x20 1) w8 fun x22 w9 =>
 pN Tryz.prog (oBin .neq 38 (.tmp 23) (.const (.int .i64 0)) x22 (.int .i64 0)) w9 fun x24 w10 =>
 pIf x24
 (Q (.tuple #[(.pointer none), x22]) w10)
 (pN Tryz.prog (oLoad 23 x2) w10 fun x26 w11 =>
 pN Tryz.prog (oCall 61 [x26]) w11 fun x27 w12 =>
 pN Tryz.prog (oCall 62 []) w12 fun x29 w13 =>
 pN Tryz.prog (oBuild 128 [(0, x27), (1, x21), (2, x29)]) w13 fun x30 w14 =>
 pN Tryz.prog (oBox 128 x30) w14 fun x31 w15 =>
 Q (.tuple #[x31, (.int .i64 0)]) w15))
noncomputable def lzenc_New.c : Code := match Tryz.f13.body with | some c => c | none => .skip
theorem lzenc_New.eq [Pan] (x0 : Value) (x1 : Value) (w : World) (Q : Value → World → Prop) : cw Tryz.prog lzenc_New.H lzenc_New.c (endQ Tryz.prog Tryz.f13.results.toList Q) (argsE [x0, x1]) w = lzenc_New.F x0 x1 w Q := by kernel_rfl
theorem lzenc_New.calls [Pan] {x0 : Value} {x1 : Value} {w : World} {Q : Value → World → Prop} (h : lzenc_New.F x0 x1 w Q) : Calls Tryz.prog 13 #[x0, x1] w (retP Q) :=
  calls_of_cw (H := lzenc_New.H) (c := lzenc_New.c) (args := [x0, x1]) mixed Tryz.func13 (by kernel_rfl) (by kernel_rfl) (Nat.le_of_ble_eq_true (by kernel_rfl)) ((lzenc_New.eq x0 x1 w Q).mpr h)

def lzenc_Encoder_Put.H : Hints := { cut := fun | 8 => some ([], 1123700883587072) | _ => none, loop := fun  | _ => ([], 0), order := fun | 4 => [(0, 0), (1, 1), (2, 3), (3, 7), (4, 15), (7, 31), (5, 159), (6, 191), (8, 255)] | 7 => [(0, 0), (1, 1), (2, 3), (3, 7), (4, 15), (5, 31), (6, 63), (7, 127)] | _ => [] }
def lzenc_Encoder_Put.F [Pan] (x0 : Value) (x1 : Value) (w : World) (Q : Value → World → Prop) : Prop :=
 pN Tryz.prog (oBox 48 x1) w fun x3 w1 =>
 pN Tryz.prog (oLoad 48 x3) w1 fun x10 w2 =>
 pN Tryz.prog (oCall 67 [x0, x10]) w2 fun x11 w3 =>
 pN Tryz.prog (oBin .neq 38 (.tmp 12) (.const (.int .i64 0)) x11 (.int .i64 0)) w3 fun x13 w4 =>
 pIf x13
 (Q x11 w4)
 (pDr w4 fun w5 =>
 pA Tryz.prog (oNil x0) fun x17 =>
 pA Tryz.prog (oFld 128 x17 2) fun x18 =>
 pL Tryz.prog (oLoad 125 x18) w5 fun x19 =>
 pL Tryz.prog (oLoad 48 x3) w5 fun x22 =>
 pN Tryz.prog (oBuild 136 [(0, x19)]) w5 fun x20 w6 =>
 ((Sem.run Tryz.prog (oLoad 48 x3) w6 = .ok (.value x22) w6) ∧ True) ∧ (pN Tryz.prog (oIface 136 x20) w6 fun x21 w7 =>
 ((Sem.run Tryz.prog (oLoad 48 x3) w7 = .ok (.value x22) w7) ∧ True) ∧ (pN Tryz.prog (oCall 68 [x0, x21, x22]) w7 fun _ w8 =>
 (True) ∧ (pDr w8 fun w9 =>
 pA Tryz.prog (oNil x0) fun x26 =>
 pA Tryz.prog (oFld 128 x26 1) fun x27 =>
 pL Tryz.prog (oLoad 97 x27) w9 fun x28 =>
 pA Tryz.prog (oNil x0) fun x30 =>
 pA Tryz.prog (oFld 128 x30 0) fun x31 =>
 pL Tryz.prog (oLoad 123 x31) w9 fun x32 =>
 pA Tryz.prog (oNil x32) fun x33 =>
 pA Tryz.prog (oFld 141 x33 1) fun x34 =>
 pL Tryz.prog (oLoad 100 x34) w9 fun x35 =>
 pL Tryz.prog (oLoad 48 x3) w9 fun x36 =>
 (pN Tryz.prog (oCall 48 [x28, x35, x36]) w9 fun x37 w10 =>
 (True) ∧ (pA Tryz.prog (oExt x37 0) fun _ =>
 pA Tryz.prog (oExt x37 1) fun x39 =>
 pA Tryz.prog (oExt x37 2) fun x40 =>
 pN Tryz.prog (oAlloc 100) w10 fun x7 w11 =>
 (True) ∧ (pN Tryz.prog (oStore 100 x7 x39) w11 fun _ w12 =>
 (True) ∧ (∃ I8 : World → Prop,
 (pN Tryz.prog (oBin .eql 38 (.tmp 41) (.const (.int .i64 0)) x40 (.int .i64 0)) w12 fun x42 w13 =>
 pIf x42
 (pDr w13 fun w14 =>
 pA Tryz.prog (oNil x0) fun x44 =>
 pA Tryz.prog (oFld 128 x44 0) fun x45 =>
 pL Tryz.prog (oLoad 123 x45) w14 fun x46 =>
 pL Tryz.prog (oLoad 100 x7) w14 fun x47 =>
 pA Tryz.prog (oNil x46) fun x48 =>
 pA Tryz.prog (oFld 141 x48 1) fun x49 =>
 pN Tryz.prog (oStore 100 x49 x47) w14 fun _ w15 =>
 (True) ∧ (I8 w15))
 (I8 w13)) ∧
 ∀ (_j8 : Env) (w16 : World), I8 w16 →
 Q x40 w16)))) ∧ (pN Tryz.prog (oAlloc 100) w9 fun x7 w17 =>
 ((Sem.run Tryz.prog (oLoad 48 x3) w17 = .ok (.value x36) w17) ∧ (Sem.run Tryz.prog (oLoad 100 x34) w17 = .ok (.value x35) w17) ∧ (Sem.run Tryz.prog (oLoad 123 x31) w17 = .ok (.value x32) w17) ∧ (Sem.run Tryz.prog (oLoad 97 x27) w17 = .ok (.value x28) w17) ∧ True) ∧ (pN Tryz.prog (oCall 48 [x28, x35, x36]) w17 fun x37 w18 =>
 (True) ∧ (pA Tryz.prog (oExt x37 0) fun _ =>
 pA Tryz.prog (oExt x37 1) fun x39 =>
 pA Tryz.prog (oExt x37 2) fun x40 =>
 pN Tryz.prog (oStore 100 x7 x39) w18 fun _ w19 =>
 (True) ∧ (∃ I8 : World → Prop,
 (pN Tryz.prog (oBin .eql 38 (.tmp 41) (.const (.int .i64 0)) x40 (.int .i64 0)) w19 fun x42 w20 =>
 pIf x42
 (pDr w20 fun w21 =>
 pA Tryz.prog (oNil x0) fun x44 =>
 pA Tryz.prog (oFld 128 x44 0) fun x45 =>
 pL Tryz.prog (oLoad 123 x45) w21 fun x46 =>
 pL Tryz.prog (oLoad 100 x7) w21 fun x47 =>
 pA Tryz.prog (oNil x46) fun x48 =>
 pA Tryz.prog (oFld 141 x48 1) fun x49 =>
 pN Tryz.prog (oStore 100 x49 x47) w21 fun _ w22 =>
 (True) ∧ (I8 w22))
 (I8 w20)) ∧
 ∀ (_j8 : Env) (w23 : World), I8 w23 →
 Q x40 w23))))))))
noncomputable def lzenc_Encoder_Put.c : Code := match Tryz.f17.body with | some c => c | none => .skip
theorem lzenc_Encoder_Put.eq [Pan] (x0 : Value) (x1 : Value) (w : World) (Q : Value → World → Prop) : cw Tryz.prog lzenc_Encoder_Put.H lzenc_Encoder_Put.c (endQ Tryz.prog Tryz.f17.results.toList Q) (argsE [x0, x1]) w = lzenc_Encoder_Put.F x0 x1 w Q := by kernel_rfl
theorem lzenc_Encoder_Put.calls [Pan] {x0 : Value} {x1 : Value} {w : World} {Q : Value → World → Prop} (h : lzenc_Encoder_Put.F x0 x1 w Q) : Calls Tryz.prog 17 #[x0, x1] w (retP Q) :=
  calls_of_cw (H := lzenc_Encoder_Put.H) (c := lzenc_Encoder_Put.c) (args := [x0, x1]) mixed Tryz.func17 (by kernel_rfl) (by kernel_rfl) (Nat.le_of_ble_eq_true (by kernel_rfl)) ((lzenc_Encoder_Put.eq x0 x1 w Q).mpr h)

def lzenc_Encoder_Cut.H : Hints := { cut := fun  | _ => none, loop := fun  | _ => ([], 0), order := fun  | _ => [] }
def lzenc_Encoder_Cut.F [Pan] (x0 : Value) (w : World) (Q : Value → World → Prop) : Prop :=
 pN Tryz.prog (oNil x0) w fun x5 w1 =>
 pN Tryz.prog (oFld 128 x5 2) w1 fun x6 w2 =>
 pN Tryz.prog (oLoad 125 x6) w2 fun x7 w3 =>
 pN Tryz.prog (oCall 76 [x7]) w3 fun x8 w4 =>
 pN Tryz.prog (oCall 62 []) w4 fun x10 w5 =>
 pN Tryz.prog (oNil x0) w5 fun x11 w6 =>
 pN Tryz.prog (oFld 128 x11 2) w6 fun x12 w7 =>
 pN Tryz.prog (oStore 125 x12 x10) w7 fun _ w8 =>
 Q x8 w8
noncomputable def lzenc_Encoder_Cut.c : Code := match Tryz.f21.body with | some c => c | none => .skip
theorem lzenc_Encoder_Cut.eq [Pan] (x0 : Value) (w : World) (Q : Value → World → Prop) : cw Tryz.prog lzenc_Encoder_Cut.H lzenc_Encoder_Cut.c (endQ Tryz.prog Tryz.f21.results.toList Q) (argsE [x0]) w = lzenc_Encoder_Cut.F x0 w Q := by kernel_rfl
theorem lzenc_Encoder_Cut.calls [Pan] {x0 : Value} {w : World} {Q : Value → World → Prop} (h : lzenc_Encoder_Cut.F x0 w Q) : Calls Tryz.prog 21 #[x0] w (retP Q) :=
  calls_of_cw (H := lzenc_Encoder_Cut.H) (c := lzenc_Encoder_Cut.c) (args := [x0]) mixed Tryz.func21 (by kernel_rfl) (by kernel_rfl) (Nat.le_of_ble_eq_true (by kernel_rfl)) ((lzenc_Encoder_Cut.eq x0 w Q).mpr h)

def lzenc_Encoder_may.H : Hints := { cut := fun | 14 => some ([7], 144115188042301584) | _ => none, loop := fun  | _ => ([], 0), order := fun | 11 => [(0, 0), (1, 1), (2, 3), (3, 7), (4, 15), (5, 31), (6, 63), (7, 127), (8, 255), (9, 511), (10, 1023), (11, 2047)] | _ => [] }
def lzenc_Encoder_may.F [Pan] (x0 : Value) (x1 : Value) (w : World) (Q : Value → World → Prop) : Prop :=
 pN Tryz.prog (oBox 48 x1) w fun x3 w1 =>
 pDr w1 fun w2 =>
 pA Tryz.prog (oNil x0) fun x12 =>
 pA Tryz.prog (oFld 128 x12 0) fun x13 =>
 pL Tryz.prog (oLoad 123 x13) w2 fun x14 =>
 pA Tryz.prog (oNil x14) fun x15 =>
 pA Tryz.prog (oFld 141 x15 1) fun x16 =>
 pL Tryz.prog (oLoad 100 x16) w2 fun x17 =>
 pL Tryz.prog (oLoad 48 x3) w2 fun x18 =>
 (pN Tryz.prog (oCall 92 [x17, x18]) w2 fun x19 w3 =>
 (True) ∧ (pA Tryz.prog (oExt x19 0) fun x20 =>
 pA Tryz.prog (oExt x19 1) fun x21 =>
 pN Tryz.prog (oAlloc 100) w3 fun x5 w4 =>
 (True) ∧ (pN Tryz.prog (oStore 100 x5 x20) w4 fun _ w5 =>
 (True) ∧ (pN Tryz.prog (oBin .neq 38 (.tmp 22) (.const (.int .i64 0)) x21 (.int .i64 0)) w5 fun x23 w6 =>
 pIf x23
 (Q x21 w6)
 (∃ I14 : Value → World → Prop,
 (pN Tryz.prog (oFld 48 x3 0) w6 fun x25 w7 =>
 pN Tryz.prog (oLoad 3 x25) w7 fun x26 w8 =>
 pN Tryz.prog (oBin .eql 3 (.tmp 26) (.const (.int .i64 1)) x26 (.int .i64 1)) w8 fun x28 w9 =>
 pIf x28
 (Q (.int .i64 0) w9)
 (pN Tryz.prog (oBin .eql 3 (.tmp 26) (.const (.int .i64 2)) x26 (.int .i64 2)) w9 fun x30 w10 =>
 pIf x30
 (pN Tryz.prog (oFld 48 x3 3) w10 fun x31 w11 =>
 pN Tryz.prog (oLoad 3 x31) w11 fun x32 w12 =>
 I14 x32 w12)
 (pN Tryz.prog (oBin .eql 3 (.tmp 26) (.const (.int .i64 3)) x26 (.int .i64 3)) w10 fun x34 w13 =>
 pIf x34
 (pDr w13 fun w14 =>
 pA Tryz.prog (oNil x0) fun x36 =>
 pA Tryz.prog (oFld 128 x36 0) fun x37 =>
 pL Tryz.prog (oLoad 123 x37) w14 fun x38 =>
 pA Tryz.prog (oFld 48 x3 3) fun x39 =>
 pL Tryz.prog (oLoad 3 x39) w14 fun x40 =>
 pA Tryz.prog (oNil x38) fun x41 =>
 pA Tryz.prog (oFld 141 x41 1) fun x42 =>
 pA Tryz.prog (oFld 100 x42 1) fun x43 =>
 pA Tryz.prog (oIdx 67 x43 x40) fun x44 =>
 pL Tryz.prog (oLoad 3 x44) w14 fun x45 =>
 I14 x45 w14)
 (pN Tryz.prog (oBin .eql 3 (.tmp 26) (.const (.int .i64 4)) x26 (.int .i64 4)) w13 fun x47 w15 =>
 pIf x47
 (pN Tryz.prog (oNil x0) w15 fun x49 w16 =>
 pN Tryz.prog (oFld 128 x49 0) w16 fun x50 w17 =>
 pN Tryz.prog (oLoad 123 x50) w17 fun x51 w18 =>
 pN Tryz.prog (oNil x51) w18 fun x52 w19 =>
 pN Tryz.prog (oFld 141 x52 1) w19 fun x53 w20 =>
 pN Tryz.prog (oFld 100 x53 1) w20 fun x54 w21 =>
 pN Tryz.prog (oIdx 67 x54 (.int .i64 0)) w21 fun x55 w22 =>
 pN Tryz.prog (oLoad 3 x55) w22 fun x56 w23 =>
 I14 x56 w23)
 (I14 (.int .i64 0) w15))))) ∧
 ∀ (_j14 : Env) (dist7c14 : Value) (w24 : World), I14 dist7c14 w24 →
 pN Tryz.prog (oNil x0) w24 fun x59 w25 =>
 pN Tryz.prog (oFld 128 x59 1) w25 fun x60 w26 =>
 pN Tryz.prog (oLoad 97 x60) w26 fun x61 w27 =>
 pN Tryz.prog (oCall 101 [x61, dist7c14]) w27 fun x63 w28 =>
 pN Tryz.prog (oExt x63 0) w28 fun _ w29 =>
 pN Tryz.prog (oExt x63 1) w29 fun x65 w30 =>
 Q x65 w30))))) ∧ (pN Tryz.prog (oAlloc 100) w2 fun x5 w31 =>
 ((Sem.run Tryz.prog (oLoad 48 x3) w31 = .ok (.value x18) w31) ∧ (Sem.run Tryz.prog (oLoad 100 x16) w31 = .ok (.value x17) w31) ∧ (Sem.run Tryz.prog (oLoad 123 x13) w31 = .ok (.value x14) w31) ∧ True) ∧ (pN Tryz.prog (oCall 92 [x17, x18]) w31 fun x19 w32 =>
 (True) ∧ (pA Tryz.prog (oExt x19 0) fun x20 =>
 pA Tryz.prog (oExt x19 1) fun x21 =>
 pN Tryz.prog (oStore 100 x5 x20) w32 fun _ w33 =>
 (True) ∧ (pN Tryz.prog (oBin .neq 38 (.tmp 22) (.const (.int .i64 0)) x21 (.int .i64 0)) w33 fun x23 w34 =>
 pIf x23
 (Q x21 w34)
 (∃ I14 : Value → World → Prop,
 (pN Tryz.prog (oFld 48 x3 0) w34 fun x25 w35 =>
 pN Tryz.prog (oLoad 3 x25) w35 fun x26 w36 =>
 pN Tryz.prog (oBin .eql 3 (.tmp 26) (.const (.int .i64 1)) x26 (.int .i64 1)) w36 fun x28 w37 =>
 pIf x28
 (Q (.int .i64 0) w37)
 (pN Tryz.prog (oBin .eql 3 (.tmp 26) (.const (.int .i64 2)) x26 (.int .i64 2)) w37 fun x30 w38 =>
 pIf x30
 (pN Tryz.prog (oFld 48 x3 3) w38 fun x31 w39 =>
 pN Tryz.prog (oLoad 3 x31) w39 fun x32 w40 =>
 I14 x32 w40)
 (pN Tryz.prog (oBin .eql 3 (.tmp 26) (.const (.int .i64 3)) x26 (.int .i64 3)) w38 fun x34 w41 =>
 pIf x34
 (pDr w41 fun w42 =>
 pA Tryz.prog (oNil x0) fun x36 =>
 pA Tryz.prog (oFld 128 x36 0) fun x37 =>
 pL Tryz.prog (oLoad 123 x37) w42 fun x38 =>
 pA Tryz.prog (oFld 48 x3 3) fun x39 =>
 pL Tryz.prog (oLoad 3 x39) w42 fun x40 =>
 pA Tryz.prog (oNil x38) fun x41 =>
 pA Tryz.prog (oFld 141 x41 1) fun x42 =>
 pA Tryz.prog (oFld 100 x42 1) fun x43 =>
 pA Tryz.prog (oIdx 67 x43 x40) fun x44 =>
 pL Tryz.prog (oLoad 3 x44) w42 fun x45 =>
 I14 x45 w42)
 (pN Tryz.prog (oBin .eql 3 (.tmp 26) (.const (.int .i64 4)) x26 (.int .i64 4)) w41 fun x47 w43 =>
 pIf x47
 (pN Tryz.prog (oNil x0) w43 fun x49 w44 =>
 pN Tryz.prog (oFld 128 x49 0) w44 fun x50 w45 =>
 pN Tryz.prog (oLoad 123 x50) w45 fun x51 w46 =>
 pN Tryz.prog (oNil x51) w46 fun x52 w47 =>
 pN Tryz.prog (oFld 141 x52 1) w47 fun x53 w48 =>
 pN Tryz.prog (oFld 100 x53 1) w48 fun x54 w49 =>
 pN Tryz.prog (oIdx 67 x54 (.int .i64 0)) w49 fun x55 w50 =>
 pN Tryz.prog (oLoad 3 x55) w50 fun x56 w51 =>
 I14 x56 w51)
 (I14 (.int .i64 0) w43))))) ∧
 ∀ (_j14 : Env) (dist7c14 : Value) (w52 : World), I14 dist7c14 w52 →
 pN Tryz.prog (oNil x0) w52 fun x59 w53 =>
 pN Tryz.prog (oFld 128 x59 1) w53 fun x60 w54 =>
 pN Tryz.prog (oLoad 97 x60) w54 fun x61 w55 =>
 pN Tryz.prog (oCall 101 [x61, dist7c14]) w55 fun x63 w56 =>
 pN Tryz.prog (oExt x63 0) w56 fun _ w57 =>
 pN Tryz.prog (oExt x63 1) w57 fun x65 w58 =>
 Q x65 w58)))))
noncomputable def lzenc_Encoder_may.c : Code := match Tryz.f67.body with | some c => c | none => .skip
theorem lzenc_Encoder_may.eq [Pan] (x0 : Value) (x1 : Value) (w : World) (Q : Value → World → Prop) : cw Tryz.prog lzenc_Encoder_may.H lzenc_Encoder_may.c (endQ Tryz.prog Tryz.f67.results.toList Q) (argsE [x0, x1]) w = lzenc_Encoder_may.F x0 x1 w Q := by kernel_rfl
theorem lzenc_Encoder_may.calls [Pan] {x0 : Value} {x1 : Value} {w : World} {Q : Value → World → Prop} (h : lzenc_Encoder_may.F x0 x1 w Q) : Calls Tryz.prog 67 #[x0, x1] w (retP Q) :=
  calls_of_cw (H := lzenc_Encoder_may.H) (c := lzenc_Encoder_may.c) (args := [x0, x1]) mixed Tryz.func67 (by kernel_rfl) (by kernel_rfl) (Nat.le_of_ble_eq_true (by kernel_rfl)) ((lzenc_Encoder_may.eq x0 x1 w Q).mpr h)

def lzenc_Encoder_code.H : Hints := { cut := fun | 21 => some ([], 13164036458569648337239709904315838159738563613118887640457805824) | _ => none, loop := fun  | _ => ([], 0), order := fun | 1 => [(0, 0), (1, 1), (2, 3), (3, 7), (4, 15), (5, 31), (6, 63), (7, 127), (8, 255), (9, 511), (10, 1023), (11, 2047), (12, 4095), (13, 8191), (14, 16383), (15, 32767), (16, 65535), (17, 131071), (18, 262143), (19, 524287)] | 3 => [(0, 0), (1, 1), (2, 3), (3, 7), (4, 15), (5, 31), (6, 63), (7, 127), (8, 255), (9, 511), (10, 1023), (11, 2047), (12, 4095)] | 5 => [(0, 0), (1, 1), (2, 3), (3, 7), (4, 15), (5, 31), (6, 63), (7, 127), (8, 255), (9, 511), (10, 1023), (11, 2047), (12, 4095)] | 7 => [(0, 0), (1, 1), (2, 3), (3, 7), (4, 15), (5, 31), (6, 63), (7, 127), (8, 255), (9, 511), (10, 1023), (11, 2047), (12, 4095)] | 8 => [(0, 0), (1, 1), (2, 3), (3, 7), (4, 15), (5, 31), (6, 63), (7, 127), (8, 255), (9, 511), (10, 1023), (11, 2047)] | 10 => [(0, 0), (1, 1), (2, 3), (3, 7), (4, 15), (5, 31), (6, 63), (7, 127), (8, 255), (9, 511), (10, 1023), (11, 2047), (12, 4095)] | 12 => [(0, 0), (1, 1), (2, 3), (3, 7), (4, 15), (5, 31), (6, 63), (7, 127), (8, 255), (9, 511), (10, 1023), (11, 2047), (12, 4095)] | 13 => [(0, 0), (1, 1), (2, 3), (3, 7), (4, 15), (5, 31), (6, 63), (7, 127), (8, 255), (9, 511), (10, 1023), (11, 2047), (12, 4095)] | 15 => [(0, 0), (1, 1), (2, 3), (3, 7), (4, 15), (5, 31), (6, 63), (7, 127), (8, 255), (9, 511), (10, 1023), (11, 2047), (12, 4095)] | 16 => [(0, 0), (1, 1), (2, 3), (3, 7), (4, 15), (5, 31), (6, 63), (7, 127), (8, 255), (9, 511), (10, 1023), (11, 2047), (12, 4095)] | 17 => [(0, 0), (1, 1), (2, 3), (3, 7), (4, 15), (5, 31), (6, 63), (7, 127), (8, 255), (9, 511), (10, 1023), (11, 2047), (12, 4095)] | 18 => [(0, 0), (1, 1), (2, 3), (3, 7), (4, 15), (5, 31), (6, 63), (7, 127), (8, 255), (9, 511), (10, 1023), (11, 2047), (12, 4095), (13, 8191), (14, 16383), (15, 32767), (16, 65535)] | 20 => [(0, 0), (1, 1), (2, 3), (3, 7), (4, 15), (5, 31), (6, 63), (7, 127), (8, 255), (9, 511), (10, 1023), (11, 2047), (12, 4095), (13, 8191), (14, 16383), (15, 32767)] | 21 => [(0, 0), (1, 1), (2, 3), (3, 7), (4, 15), (5, 31), (6, 63), (7, 127), (8, 255), (9, 511), (10, 1023), (11, 2047)] | _ => [] }
def lzenc_Encoder_code.F [Pan] (x0 : Value) (x1 : Value) (x2 : Value) (w : World) (Q : Value → World → Prop) : Prop :=
 pN Tryz.prog (oBox 48 x2) w fun x5 w1 =>
 pDr w1 fun w2 =>
 pA Tryz.prog (oNil x0) fun x9 =>
 pA Tryz.prog (oFld 128 x9 0) fun x10 =>
 pL Tryz.prog (oLoad 123 x10) w2 fun x11 =>
 pA Tryz.prog (oNil x11) fun x12 =>
 pA Tryz.prog (oFld 141 x12 1) fun x13 =>
 pA Tryz.prog (oFld 100 x13 0) fun x14 =>
 pL Tryz.prog (oLoad 3 x14) w2 fun x15 =>
 pA Tryz.prog (oNil x0) fun x17 =>
 pA Tryz.prog (oFld 128 x17 0) fun x18 =>
 pL Tryz.prog (oLoad 123 x18) w2 fun x19 =>
 pA Tryz.prog (oNil x0) fun x21 =>
 pA Tryz.prog (oFld 128 x21 1) fun x22 =>
 pL Tryz.prog (oLoad 97 x22) w2 fun x23 =>
 pN Tryz.prog (oCall 103 [x23]) w2 fun x24 w3 =>
 ((Sem.run Tryz.prog (oLoad 123 x18) w3 = .ok (.value x19) w3) ∧ (Sem.run Tryz.prog (oLoad 3 x14) w3 = .ok (.value x15) w3) ∧ (Sem.run Tryz.prog (oLoad 123 x10) w3 = .ok (.value x11) w3) ∧ True) ∧ (pN Tryz.prog (oCall 102 [x19, x24]) w3 fun x25 w4 =>
 ((Sem.run Tryz.prog (oLoad 3 x14) w4 = .ok (.value x15) w4) ∧ (Sem.run Tryz.prog (oLoad 123 x10) w4 = .ok (.value x11) w4) ∧ True) ∧ (pN Tryz.prog (oFld 48 x5 0) w4 fun x26 w5 =>
 pN Tryz.prog (oLoad 3 x26) w5 fun x27 w6 =>
 pN Tryz.prog (oBin .eql 3 (.tmp 27) (.const (.int .i64 1)) x27 (.int .i64 1)) w6 fun x28 w7 =>
 pIf x28
 (pDr w7 fun w8 =>
 pA Tryz.prog (oNil x0) fun x31 =>
 pA Tryz.prog (oFld 128 x31 0) fun x32 =>
 pL Tryz.prog (oLoad 123 x32) w8 fun x33 =>
 pA Tryz.prog (oNil x33) fun x34 =>
 pA Tryz.prog (oFld 141 x34 2) fun x35 =>
 pL Tryz.prog (oLoad 137 x35) w8 fun x36 =>
 pN Tryz.prog (oFn (.method "pith/lzenc.bit") [x1] []) w8 fun x38 w9 =>
 ((Sem.run Tryz.prog (oLoad 137 x35) w9 = .ok (.value x36) w9) ∧ (Sem.run Tryz.prog (oLoad 123 x32) w9 = .ok (.value x33) w9) ∧ True) ∧ (pA Tryz.prog (oNil x38) fun _ =>
 pN Tryz.prog (oInv x1 "pith/lzenc.bit" [x36, x25, (.int .i64 0)]) w9 fun _ w10 =>
 (True) ∧ (pN Tryz.prog (oFld 48 x5 1) w10 fun x44 w11 =>
 pN Tryz.prog (oLoad 5 x44) w11 fun x45 w12 =>
 pN Tryz.prog (oConv 5 3 x45) w12 fun x46 w13 =>
 pN Tryz.prog (oCall 104 [x0, x1, x46]) w13 fun _ w14 =>
 Q (.tuple #[]) w14)))
 (pDr w7 fun w15 =>
 pA Tryz.prog (oNil x0) fun x50 =>
 pA Tryz.prog (oFld 128 x50 0) fun x51 =>
 pL Tryz.prog (oLoad 123 x51) w15 fun x52 =>
 pA Tryz.prog (oNil x52) fun x53 =>
 pA Tryz.prog (oFld 141 x53 2) fun x54 =>
 pL Tryz.prog (oLoad 137 x54) w15 fun x55 =>
 pN Tryz.prog (oFn (.method "pith/lzenc.bit") [x1] []) w15 fun x57 w16 =>
 ((Sem.run Tryz.prog (oLoad 137 x54) w16 = .ok (.value x55) w16) ∧ (Sem.run Tryz.prog (oLoad 123 x51) w16 = .ok (.value x52) w16) ∧ True) ∧ (pA Tryz.prog (oNil x57) fun _ =>
 pN Tryz.prog (oInv x1 "pith/lzenc.bit" [x55, x25, (.int .i64 1)]) w16 fun _ w17 =>
 (True) ∧ (pN Tryz.prog (oFld 48 x5 0) w17 fun x61 w18 =>
 pN Tryz.prog (oLoad 3 x61) w18 fun x62 w19 =>
 pN Tryz.prog (oBin .eql 3 (.tmp 62) (.const (.int .i64 2)) x62 (.int .i64 2)) w19 fun x63 w20 =>
 pIf x63
 (pDr w20 fun w21 =>
 pA Tryz.prog (oNil x0) fun x66 =>
 pA Tryz.prog (oFld 128 x66 0) fun x67 =>
 pL Tryz.prog (oLoad 123 x67) w21 fun x68 =>
 pA Tryz.prog (oNil x68) fun x69 =>
 pA Tryz.prog (oFld 141 x69 4) fun x70 =>
 pL Tryz.prog (oLoad 137 x70) w21 fun x71 =>
 pN Tryz.prog (oFn (.method "pith/lzenc.bit") [x1] []) w21 fun x73 w22 =>
 ((Sem.run Tryz.prog (oLoad 137 x70) w22 = .ok (.value x71) w22) ∧ (Sem.run Tryz.prog (oLoad 123 x67) w22 = .ok (.value x68) w22) ∧ True) ∧ (pA Tryz.prog (oNil x73) fun _ =>
 pN Tryz.prog (oInv x1 "pith/lzenc.bit" [x71, x15, (.int .i64 0)]) w22 fun _ w23 =>
 (True) ∧ (pDr w23 fun w24 =>
 pA Tryz.prog (oNil x0) fun x80 =>
 pA Tryz.prog (oFld 128 x80 0) fun x81 =>
 pL Tryz.prog (oLoad 123 x81) w24 fun x82 =>
 pA Tryz.prog (oNil x82) fun x83 =>
 pA Tryz.prog (oFld 141 x83 9) fun x84 =>
 pL Tryz.prog (oLoad 139 x84) w24 fun x85 =>
 pA Tryz.prog (oFld 48 x5 2) fun x86 =>
 pL Tryz.prog (oLoad 3 x86) w24 fun x87 =>
 pN Tryz.prog (oCall 105 [x0, x1, x85, x87]) w24 fun _ w25 =>
 (True) ∧ (pN Tryz.prog (oLoad 48 x5) w25 fun x91 w26 =>
 pN Tryz.prog (oCall 106 [x0, x1, x91]) w26 fun _ w27 =>
 Q (.tuple #[]) w27))))
 (pDr w20 fun w28 =>
 pA Tryz.prog (oNil x0) fun x95 =>
 pA Tryz.prog (oFld 128 x95 0) fun x96 =>
 pL Tryz.prog (oLoad 123 x96) w28 fun x97 =>
 pA Tryz.prog (oNil x97) fun x98 =>
 pA Tryz.prog (oFld 141 x98 4) fun x99 =>
 pL Tryz.prog (oLoad 137 x99) w28 fun x100 =>
 pN Tryz.prog (oFn (.method "pith/lzenc.bit") [x1] []) w28 fun x102 w29 =>
 ((Sem.run Tryz.prog (oLoad 137 x99) w29 = .ok (.value x100) w29) ∧ (Sem.run Tryz.prog (oLoad 123 x96) w29 = .ok (.value x97) w29) ∧ True) ∧ (pA Tryz.prog (oNil x102) fun _ =>
 pN Tryz.prog (oInv x1 "pith/lzenc.bit" [x100, x15, (.int .i64 1)]) w29 fun _ w30 =>
 (True) ∧ (pN Tryz.prog (oFld 48 x5 0) w30 fun x106 w31 =>
 pN Tryz.prog (oLoad 3 x106) w31 fun x107 w32 =>
 pN Tryz.prog (oBin .eql 3 (.tmp 107) (.const (.int .i64 4)) x107 (.int .i64 4)) w32 fun x108 w33 =>
 pIf x108
 (pDr w33 fun w34 =>
 pA Tryz.prog (oNil x0) fun x111 =>
 pA Tryz.prog (oFld 128 x111 0) fun x112 =>
 pL Tryz.prog (oLoad 123 x112) w34 fun x113 =>
 pA Tryz.prog (oNil x113) fun x114 =>
 pA Tryz.prog (oFld 141 x114 5) fun x115 =>
 pL Tryz.prog (oLoad 137 x115) w34 fun x116 =>
 pN Tryz.prog (oFn (.method "pith/lzenc.bit") [x1] []) w34 fun x118 w35 =>
 ((Sem.run Tryz.prog (oLoad 137 x115) w35 = .ok (.value x116) w35) ∧ (Sem.run Tryz.prog (oLoad 123 x112) w35 = .ok (.value x113) w35) ∧ True) ∧ (pA Tryz.prog (oNil x118) fun _ =>
 pN Tryz.prog (oInv x1 "pith/lzenc.bit" [x116, x15, (.int .i64 0)]) w35 fun _ w36 =>
 (True) ∧ (pDr w36 fun w37 =>
 pA Tryz.prog (oNil x0) fun x124 =>
 pA Tryz.prog (oFld 128 x124 0) fun x125 =>
 pL Tryz.prog (oLoad 123 x125) w37 fun x126 =>
 pA Tryz.prog (oNil x126) fun x127 =>
 pA Tryz.prog (oFld 141 x127 3) fun x128 =>
 pL Tryz.prog (oLoad 137 x128) w37 fun x129 =>
 pN Tryz.prog (oFn (.method "pith/lzenc.bit") [x1] []) w37 fun x131 w38 =>
 ((Sem.run Tryz.prog (oLoad 137 x128) w38 = .ok (.value x129) w38) ∧ (Sem.run Tryz.prog (oLoad 123 x125) w38 = .ok (.value x126) w38) ∧ True) ∧ (pA Tryz.prog (oNil x131) fun _ =>
 pN Tryz.prog (oInv x1 "pith/lzenc.bit" [x129, x25, (.int .i64 0)]) w38 fun _ w39 =>
 (True) ∧ (Q (.tuple #[]) w39)))))
 (∃ I21 : World → Prop,
 (pN Tryz.prog (oFld 48 x5 3) w33 fun x135 w40 =>
 pN Tryz.prog (oLoad 3 x135) w40 fun x136 w41 =>
 pN Tryz.prog (oBin .eql 3 (.tmp 136) (.const (.int .i64 0)) x136 (.int .i64 0)) w41 fun x137 w42 =>
 pIf x137
 (pDr w42 fun w43 =>
 pA Tryz.prog (oNil x0) fun x140 =>
 pA Tryz.prog (oFld 128 x140 0) fun x141 =>
 pL Tryz.prog (oLoad 123 x141) w43 fun x142 =>
 pA Tryz.prog (oNil x142) fun x143 =>
 pA Tryz.prog (oFld 141 x143 5) fun x144 =>
 pL Tryz.prog (oLoad 137 x144) w43 fun x145 =>
 pN Tryz.prog (oFn (.method "pith/lzenc.bit") [x1] []) w43 fun x147 w44 =>
 ((Sem.run Tryz.prog (oLoad 137 x144) w44 = .ok (.value x145) w44) ∧ (Sem.run Tryz.prog (oLoad 123 x141) w44 = .ok (.value x142) w44) ∧ True) ∧ (pA Tryz.prog (oNil x147) fun _ =>
 pN Tryz.prog (oInv x1 "pith/lzenc.bit" [x145, x15, (.int .i64 0)]) w44 fun _ w45 =>
 (True) ∧ (pDr w45 fun w46 =>
 pA Tryz.prog (oNil x0) fun x153 =>
 pA Tryz.prog (oFld 128 x153 0) fun x154 =>
 pL Tryz.prog (oLoad 123 x154) w46 fun x155 =>
 pA Tryz.prog (oNil x155) fun x156 =>
 pA Tryz.prog (oFld 141 x156 3) fun x157 =>
 pL Tryz.prog (oLoad 137 x157) w46 fun x158 =>
 pN Tryz.prog (oFn (.method "pith/lzenc.bit") [x1] []) w46 fun x160 w47 =>
 ((Sem.run Tryz.prog (oLoad 137 x157) w47 = .ok (.value x158) w47) ∧ (Sem.run Tryz.prog (oLoad 123 x154) w47 = .ok (.value x155) w47) ∧ True) ∧ (pA Tryz.prog (oNil x160) fun _ =>
 pN Tryz.prog (oInv x1 "pith/lzenc.bit" [x158, x25, (.int .i64 1)]) w47 fun _ w48 =>
 (True) ∧ (I21 w48)))))
 (pDr w42 fun w49 =>
 pA Tryz.prog (oNil x0) fun x166 =>
 pA Tryz.prog (oFld 128 x166 0) fun x167 =>
 pL Tryz.prog (oLoad 123 x167) w49 fun x168 =>
 pA Tryz.prog (oNil x168) fun x169 =>
 pA Tryz.prog (oFld 141 x169 5) fun x170 =>
 pL Tryz.prog (oLoad 137 x170) w49 fun x171 =>
 pN Tryz.prog (oFn (.method "pith/lzenc.bit") [x1] []) w49 fun x173 w50 =>
 ((Sem.run Tryz.prog (oLoad 137 x170) w50 = .ok (.value x171) w50) ∧ (Sem.run Tryz.prog (oLoad 123 x167) w50 = .ok (.value x168) w50) ∧ True) ∧ (pA Tryz.prog (oNil x173) fun _ =>
 pN Tryz.prog (oInv x1 "pith/lzenc.bit" [x171, x15, (.int .i64 1)]) w50 fun _ w51 =>
 (True) ∧ (pDr w51 fun w52 =>
 pA Tryz.prog (oNil x0) fun x179 =>
 pA Tryz.prog (oFld 128 x179 0) fun x180 =>
 pL Tryz.prog (oLoad 123 x180) w52 fun x181 =>
 pA Tryz.prog (oNil x181) fun x182 =>
 pA Tryz.prog (oFld 141 x182 6) fun x183 =>
 pL Tryz.prog (oLoad 137 x183) w52 fun x184 =>
 pA Tryz.prog (oFld 48 x5 3) fun x186 =>
 pL Tryz.prog (oLoad 3 x186) w52 fun x187 =>
 pA Tryz.prog (oBin .sub 3 (.tmp 187) (.const (.int .i64 1)) x187 (.int .i64 1)) fun x188 =>
 pA Tryz.prog (oBi .min #[3, 3] 3 [false, true] [x188, (.int .i64 1)]) fun x189 =>
 pN Tryz.prog (oFn (.method "pith/lzenc.bit") [x1] []) w52 fun x190 w53 =>
 ((Sem.run Tryz.prog (oLoad 3 x186) w53 = .ok (.value x187) w53) ∧ (Sem.run Tryz.prog (oLoad 137 x183) w53 = .ok (.value x184) w53) ∧ (Sem.run Tryz.prog (oLoad 123 x180) w53 = .ok (.value x181) w53) ∧ True) ∧ (pA Tryz.prog (oNil x190) fun _ =>
 pN Tryz.prog (oInv x1 "pith/lzenc.bit" [x184, x15, x189]) w53 fun _ w54 =>
 (True) ∧ (pN Tryz.prog (oFld 48 x5 3) w54 fun x194 w55 =>
 pN Tryz.prog (oLoad 3 x194) w55 fun x195 w56 =>
 pN Tryz.prog (oBin .gtr 3 (.tmp 195) (.const (.int .i64 1)) x195 (.int .i64 1)) w56 fun x196 w57 =>
 pIf x196
 (pDr w57 fun w58 =>
 pA Tryz.prog (oNil x0) fun x199 =>
 pA Tryz.prog (oFld 128 x199 0) fun x200 =>
 pL Tryz.prog (oLoad 123 x200) w58 fun x201 =>
 pA Tryz.prog (oNil x201) fun x202 =>
 pA Tryz.prog (oFld 141 x202 7) fun x203 =>
 pL Tryz.prog (oLoad 137 x203) w58 fun x204 =>
 pA Tryz.prog (oFld 48 x5 3) fun x206 =>
 pL Tryz.prog (oLoad 3 x206) w58 fun x207 =>
 pA Tryz.prog (oBin .sub 3 (.tmp 207) (.const (.int .i64 2)) x207 (.int .i64 2)) fun x208 =>
 pN Tryz.prog (oFn (.method "pith/lzenc.bit") [x1] []) w58 fun x209 w59 =>
 ((Sem.run Tryz.prog (oLoad 3 x206) w59 = .ok (.value x207) w59) ∧ (Sem.run Tryz.prog (oLoad 137 x203) w59 = .ok (.value x204) w59) ∧ (Sem.run Tryz.prog (oLoad 123 x200) w59 = .ok (.value x201) w59) ∧ True) ∧ (pA Tryz.prog (oNil x209) fun _ =>
 pN Tryz.prog (oInv x1 "pith/lzenc.bit" [x204, x15, x208]) w59 fun _ w60 =>
 (True) ∧ (I21 w60)))
 (I21 w57))))))) ∧
 ∀ (_j21 : Env) (w61 : World), I21 w61 →
 pDr w61 fun w62 =>
 pA Tryz.prog (oNil x0) fun x216 =>
 pA Tryz.prog (oFld 128 x216 0) fun x217 =>
 pL Tryz.prog (oLoad 123 x217) w62 fun x218 =>
 pA Tryz.prog (oNil x218) fun x219 =>
 pA Tryz.prog (oFld 141 x219 10) fun x220 =>
 pL Tryz.prog (oLoad 139 x220) w62 fun x221 =>
 pA Tryz.prog (oFld 48 x5 2) fun x222 =>
 pL Tryz.prog (oLoad 3 x222) w62 fun x223 =>
 pN Tryz.prog (oCall 105 [x0, x1, x221, x223]) w62 fun _ w63 =>
 (True) ∧ (Q (.tuple #[]) w63))))))))))
noncomputable def lzenc_Encoder_code.c : Code := match Tryz.f68.body with | some c => c | none => .skip
theorem lzenc_Encoder_code.eq [Pan] (x0 : Value) (x1 : Value) (x2 : Value) (w : World) (Q : Value → World → Prop) : cw Tryz.prog lzenc_Encoder_code.H lzenc_Encoder_code.c (endQ Tryz.prog Tryz.f68.results.toList Q) (argsE [x0, x1, x2]) w = lzenc_Encoder_code.F x0 x1 x2 w Q := by kernel_rfl
theorem lzenc_Encoder_code.calls [Pan] {x0 : Value} {x1 : Value} {x2 : Value} {w : World} {Q : Value → World → Prop} (h : lzenc_Encoder_code.F x0 x1 x2 w Q) : Calls Tryz.prog 68 #[x0, x1, x2] w (retP Q) :=
  calls_of_cw (H := lzenc_Encoder_code.H) (c := lzenc_Encoder_code.c) (args := [x0, x1, x2]) mixed Tryz.func68 (by kernel_rfl) (by kernel_rfl) (Nat.le_of_ble_eq_true (by kernel_rfl)) ((lzenc_Encoder_code.eq x0 x1 x2 w Q).mpr h)

def lzenc_Encoder_literal.H : Hints := { cut := fun | 8 => some ([12, 14], 10633823966274491279951997965544181760) | 13 => some ([17], 623921779799831658549158739968) | _ => none, loop := fun | 7 => ([12, 13, 14], 10633823966279024751775552824949338112) | _ => ([], 0), order := fun | 1 => [(0, 0), (1, 1), (2, 3), (3, 7), (4, 15), (5, 31), (6, 63), (7, 127), (9, 255), (8, 767), (10, 1023), (11, 2047)] | 3 => [(0, 0), (1, 1), (2, 3), (3, 7), (4, 15), (5, 31), (6, 63), (7, 127), (8, 255), (9, 511), (10, 1023), (11, 2047), (12, 4095), (13, 8191)] | 4 => [(0, 0), (1, 1), (2, 3), (3, 7), (4, 15), (5, 31), (6, 63), (7, 127), (8, 255), (9, 511), (10, 1023), (11, 2047), (12, 4095), (13, 8191), (14, 16383), (15, 32767), (16, 65535), (17, 131071), (18, 262143)] | 9 => [(0, 0), (1, 1), (2, 3), (3, 7), (4, 15), (5, 31), (6, 63), (7, 127), (8, 255), (9, 511)] | 13 => [(0, 0), (1, 1), (2, 3), (3, 7), (4, 15), (5, 31), (6, 63), (7, 127), (8, 255), (9, 511), (10, 1023), (11, 2047), (12, 4095), (13, 8191)] | _ => [] }
def lzenc_Encoder_literal.F [Pan] (x0 : Value) (x1 : Value) (x2 : Value) (w : World) (Q : Value → World → Prop) : Prop :=
 pN Tryz.prog (oNil x0) w fun x20 w1 =>
 pN Tryz.prog (oFld 128 x20 1) w1 fun x21 w2 =>
 pN Tryz.prog (oLoad 97 x21) w2 fun x22 w3 =>
 pN Tryz.prog (oCall 101 [x22, (.int .i64 1)]) w3 fun x23 w4 =>
 pN Tryz.prog (oExt x23 0) w4 fun x24 w5 =>
 pN Tryz.prog (oExt x23 1) w5 fun _ w6 =>
 pDr w6 fun w7 =>
 pA Tryz.prog (oNil x0) fun x27 =>
 pA Tryz.prog (oFld 128 x27 0) fun x28 =>
 pL Tryz.prog (oLoad 123 x28) w7 fun x29 =>
 pA Tryz.prog (oNil x0) fun x31 =>
 pA Tryz.prog (oFld 128 x31 1) fun x32 =>
 pL Tryz.prog (oLoad 97 x32) w7 fun x33 =>
 pN Tryz.prog (oCall 103 [x33]) w7 fun x34 w8 =>
 ((Sem.run Tryz.prog (oLoad 123 x28) w8 = .ok (.value x29) w8) ∧ True) ∧ (pN Tryz.prog (oCall 143 [x29, x34, x24]) w8 fun x36 w9 =>
 (True) ∧ (pN Tryz.prog (oNil x0) w9 fun x38 w10 =>
 pN Tryz.prog (oFld 128 x38 0) w10 fun x39 w11 =>
 pN Tryz.prog (oLoad 123 x39) w11 fun x40 w12 =>
 pN Tryz.prog (oNil x40) w12 fun x41 w13 =>
 pN Tryz.prog (oFld 141 x41 1) w13 fun x42 w14 =>
 pN Tryz.prog (oLoad 100 x42) w14 fun x43 w15 =>
 pN Tryz.prog (oCall 144 [x43]) w15 fun x44 w16 =>
 pIf x44
 (pDr w16 fun w17 =>
 pA Tryz.prog (oNil x0) fun x47 =>
 pA Tryz.prog (oFld 128 x47 0) fun x48 =>
 pL Tryz.prog (oLoad 123 x48) w17 fun x49 =>
 pA Tryz.prog (oNil x49) fun x50 =>
 pA Tryz.prog (oFld 141 x50 8) fun x51 =>
 pL Tryz.prog (oLoad 137 x51) w17 fun x52 =>
 pN Tryz.prog (oFn (.method "pith/lzenc.tree") [x1] []) w17 fun x55 w18 =>
 ((Sem.run Tryz.prog (oLoad 137 x51) w18 = .ok (.value x52) w18) ∧ (Sem.run Tryz.prog (oLoad 123 x48) w18 = .ok (.value x49) w18) ∧ True) ∧ (pA Tryz.prog (oNil x55) fun _ =>
 pN Tryz.prog (oInv x1 "pith/lzenc.tree" [x52, x36, (.int .i64 8), x2]) w18 fun _ w19 =>
 (True) ∧ (Q (.tuple #[]) w19)))
 (pDr w16 fun w20 =>
 pA Tryz.prog (oNil x0) fun x61 =>
 pA Tryz.prog (oFld 128 x61 1) fun x62 =>
 pL Tryz.prog (oLoad 97 x62) w20 fun x63 =>
 pA Tryz.prog (oNil x0) fun x65 =>
 pA Tryz.prog (oFld 128 x65 0) fun x66 =>
 pL Tryz.prog (oLoad 123 x66) w20 fun x67 =>
 pA Tryz.prog (oNil x67) fun x68 =>
 pA Tryz.prog (oFld 141 x68 1) fun x69 =>
 pA Tryz.prog (oFld 100 x69 1) fun x70 =>
 pA Tryz.prog (oIdx 67 x70 (.int .i64 0)) fun x71 =>
 pL Tryz.prog (oLoad 3 x71) w20 fun x72 =>
 pN Tryz.prog (oCall 101 [x63, x72]) w20 fun x73 w21 =>
 (True) ∧ (pA Tryz.prog (oExt x73 0) fun x74 =>
 pA Tryz.prog (oExt x73 1) fun _ =>
 pN Tryz.prog (oConv 5 3 x74) w21 fun x77 w22 =>
 ∃ (L7 : Value → Value → Value → World → Prop) (m7 : Value → Value → Value → World → Nat),
 L7 (.bool true) (.int .i64 7) (.int .i64 1) w22 ∧
 ∀ (_k7 : Env) (same12l7 : Value) (i13l7 : Value) (m14l7 : Value) (w23 : World), L7 same12l7 i13l7 m14l7 w23 →
 pN Tryz.prog (oBin .geq 3 (.tmp 78) (.const (.int .i64 0)) i13l7 (.int .i64 0)) w23 fun x79 w24 =>
 pIf x79
 (∃ I8 : Value → Value → World → Prop,
 (pDr w24 fun w25 =>
 pA Tryz.prog (oBin .shr 3 (.tmp 82) (.tmp 83) x2 i13l7) fun x84 =>
 pA Tryz.prog (oBin .and 3 (.tmp 84) (.const (.int .i64 1)) x84 (.int .i64 1)) fun x85 =>
 pA Tryz.prog (oBin .shr 3 (.tmp 86) (.tmp 87) x77 i13l7) fun x88 =>
 pA Tryz.prog (oBin .and 3 (.tmp 88) (.const (.int .i64 1)) x88 (.int .i64 1)) fun x89 =>
 pN Tryz.prog (oBin .add 3 (.tmp 90) (.tmp 91) x36 m14l7) w25 fun x92 w26 =>
 ∃ I13 : Value → World → Prop,
 (pIf same12l7
 (pN Tryz.prog (oBin .add 3 (.const (.int .i64 1)) (.tmp 95) (.int .i64 1) x89) w26 fun x96 w27 =>
 pN Tryz.prog (oBin .mul 3 (.const (.int .i64 256)) (.tmp 96) (.int .i64 256) x96) w27 fun x97 w28 =>
 pN Tryz.prog (oBin .add 3 (.tmp 94) (.tmp 97) x92 x97) w28 fun x98 w29 =>
 I13 x98 w29)
 (I13 x92 w26)) ∧
 ∀ (_j13 : Env) (at17c13 : Value) (w30 : World), I13 at17c13 w30 →
 pDr w30 fun w31 =>
 pA Tryz.prog (oNil x0) fun x101 =>
 pA Tryz.prog (oFld 128 x101 0) fun x102 =>
 pL Tryz.prog (oLoad 123 x102) w31 fun x103 =>
 pA Tryz.prog (oNil x103) fun x104 =>
 pA Tryz.prog (oFld 141 x104 8) fun x105 =>
 pL Tryz.prog (oLoad 137 x105) w31 fun x106 =>
 pN Tryz.prog (oFn (.method "pith/lzenc.bit") [x1] []) w31 fun x109 w32 =>
 ((Sem.run Tryz.prog (oLoad 137 x105) w32 = .ok (.value x106) w32) ∧ (Sem.run Tryz.prog (oLoad 123 x102) w32 = .ok (.value x103) w32) ∧ True) ∧ (pA Tryz.prog (oNil x109) fun _ =>
 pN Tryz.prog (oInv x1 "pith/lzenc.bit" [x106, at17c13, x85]) w32 fun _ w33 =>
 (True) ∧ (pGd (gB same12l7 true) (pN Tryz.prog (oMv x85) w33) w33 fun x115 w34 =>
 pGd (gB same12l7 true) (pN Tryz.prog (oMv x89) w34) w34 fun x116 w35 =>
 pGd (gB same12l7 true) (pN Tryz.prog (oBin .eql 3 (.tmp 115) (.tmp 116) x115 x116) w35) w35 fun x117 w36 =>
 pN Tryz.prog (oPick same12l7 x117 (.bool false)) w36 fun x118 w37 =>
 pN Tryz.prog (oBin .mul 3 (.const (.int .i64 2)) (.tmp 119) (.int .i64 2) m14l7) w37 fun x120 w38 =>
 pN Tryz.prog (oBin .add 3 (.tmp 120) (.tmp 121) x120 x85) w38 fun x122 w39 =>
 I8 x118 x122 w39))) ∧
 ∀ (_j8 : Env) (same12c8 : Value) (m14c8 : Value) (w40 : World), I8 same12c8 m14c8 w40 →
 pN Tryz.prog (oBin .sub 3 (.tmp 80) (.const (.int .i64 1)) i13l7 (.int .i64 1)) w40 fun x81 w41 =>
 (L7 same12c8 x81 m14c8 w41 ∧ m7 same12c8 x81 m14c8 w41 < m7 same12l7 i13l7 m14l7 w23))
 (Q (.tuple #[]) w24)))))
noncomputable def lzenc_Encoder_literal.c : Code := match Tryz.f104.body with | some c => c | none => .skip
theorem lzenc_Encoder_literal.eq [Pan] (x0 : Value) (x1 : Value) (x2 : Value) (w : World) (Q : Value → World → Prop) : cw Tryz.prog lzenc_Encoder_literal.H lzenc_Encoder_literal.c (endQ Tryz.prog Tryz.f104.results.toList Q) (argsE [x0, x1, x2]) w = lzenc_Encoder_literal.F x0 x1 x2 w Q := by kernel_rfl
theorem lzenc_Encoder_literal.calls [Pan] {x0 : Value} {x1 : Value} {x2 : Value} {w : World} {Q : Value → World → Prop} (h : lzenc_Encoder_literal.F x0 x1 x2 w Q) : Calls Tryz.prog 104 #[x0, x1, x2] w (retP Q) :=
  calls_of_cw (H := lzenc_Encoder_literal.H) (c := lzenc_Encoder_literal.c) (args := [x0, x1, x2]) mixed Tryz.func104 (by kernel_rfl) (by kernel_rfl) (Nat.le_of_ble_eq_true (by kernel_rfl)) ((lzenc_Encoder_literal.eq x0 x1 x2 w Q).mpr h)

def lzenc_Encoder_length.H : Hints := { cut := fun  | _ => none, loop := fun  | _ => ([], 0), order := fun | 1 => [(0, 0), (1, 1), (2, 3), (3, 7), (4, 15), (5, 31), (6, 63), (7, 127), (8, 255), (9, 511), (10, 1023), (11, 2047), (12, 4095), (13, 8191), (14, 16383)] | _ => [] }
def lzenc_Encoder_length.F [Pan] (x0 : Value) (x1 : Value) (x2 : Value) (x3 : Value) (w : World) (Q : Value → World → Prop) : Prop :=
 pN Tryz.prog (oBox 139 x2) w fun x6 w1 =>
 pDr w1 fun w2 =>
 pA Tryz.prog (oBin .sub 3 (.tmp 10) (.const (.int .i64 2)) x3 (.int .i64 2)) fun x11 =>
 pA Tryz.prog (oNil x0) fun x13 =>
 pA Tryz.prog (oFld 128 x13 0) fun x14 =>
 pL Tryz.prog (oLoad 123 x14) w2 fun x15 =>
 pA Tryz.prog (oNil x0) fun x17 =>
 pA Tryz.prog (oFld 128 x17 1) fun x18 =>
 pL Tryz.prog (oLoad 97 x18) w2 fun x19 =>
 pN Tryz.prog (oCall 103 [x19]) w2 fun x20 w3 =>
 ((Sem.run Tryz.prog (oLoad 123 x14) w3 = .ok (.value x15) w3) ∧ True) ∧ (pN Tryz.prog (oCall 142 [x15, x20]) w3 fun x21 w4 =>
 (True) ∧ (pA Tryz.prog (oBin .mul 3 (.const (.int .i64 8)) (.tmp 21) (.int .i64 8) x21) fun x22 =>
 pN Tryz.prog (oBin .lss 3 (.tmp 38) (.const (.int .i64 8)) x11 (.int .i64 8)) w4 fun x39 w5 =>
 pIf x39
 (pN Tryz.prog (oFld 139 x6 0) w5 fun x41 w6 =>
 pN Tryz.prog (oLoad 137 x41) w6 fun x42 w7 =>
 pN Tryz.prog (oInv x1 "pith/lzenc.bit" [x42, (.int .i64 0), (.int .i64 0)]) w7 fun _ w8 =>
 pN Tryz.prog (oFld 139 x6 1) w8 fun x45 w9 =>
 pN Tryz.prog (oLoad 137 x45) w9 fun x46 w10 =>
 pN Tryz.prog (oInv x1 "pith/lzenc.tree" [x46, x22, (.int .i64 3), x11]) w10 fun _ w11 =>
 Q (.tuple #[]) w11)
 (pN Tryz.prog (oBin .lss 3 (.tmp 51) (.const (.int .i64 16)) x11 (.int .i64 16)) w5 fun x52 w12 =>
 pIf x52
 (pN Tryz.prog (oFld 139 x6 0) w12 fun x54 w13 =>
 pN Tryz.prog (oLoad 137 x54) w13 fun x55 w14 =>
 pN Tryz.prog (oInv x1 "pith/lzenc.bit" [x55, (.int .i64 0), (.int .i64 1)]) w14 fun _ w15 =>
 pN Tryz.prog (oFld 139 x6 0) w15 fun x58 w16 =>
 pN Tryz.prog (oLoad 137 x58) w16 fun x59 w17 =>
 pN Tryz.prog (oInv x1 "pith/lzenc.bit" [x59, (.int .i64 1), (.int .i64 0)]) w17 fun _ w18 =>
 pN Tryz.prog (oFld 139 x6 2) w18 fun x62 w19 =>
 pN Tryz.prog (oLoad 137 x62) w19 fun x63 w20 =>
 pN Tryz.prog (oBin .sub 3 (.tmp 65) (.const (.int .i64 8)) x11 (.int .i64 8)) w20 fun x66 w21 =>
 pN Tryz.prog (oInv x1 "pith/lzenc.tree" [x63, x22, (.int .i64 3), x66]) w21 fun _ w22 =>
 Q (.tuple #[]) w22)
 (pN Tryz.prog (oFld 139 x6 0) w12 fun x24 w23 =>
 pN Tryz.prog (oLoad 137 x24) w23 fun x25 w24 =>
 pN Tryz.prog (oInv x1 "pith/lzenc.bit" [x25, (.int .i64 0), (.int .i64 1)]) w24 fun _ w25 =>
 pN Tryz.prog (oFld 139 x6 0) w25 fun x28 w26 =>
 pN Tryz.prog (oLoad 137 x28) w26 fun x29 w27 =>
 pN Tryz.prog (oInv x1 "pith/lzenc.bit" [x29, (.int .i64 1), (.int .i64 1)]) w27 fun _ w28 =>
 pN Tryz.prog (oFld 139 x6 3) w28 fun x32 w29 =>
 pN Tryz.prog (oLoad 137 x32) w29 fun x33 w30 =>
 pN Tryz.prog (oBin .sub 3 (.tmp 34) (.const (.int .i64 16)) x11 (.int .i64 16)) w30 fun x35 w31 =>
 pN Tryz.prog (oInv x1 "pith/lzenc.tree" [x33, (.int .i64 0), (.int .i64 8), x35]) w31 fun _ w32 =>
 Q (.tuple #[]) w32))))
noncomputable def lzenc_Encoder_length.c : Code := match Tryz.f105.body with | some c => c | none => .skip
theorem lzenc_Encoder_length.eq [Pan] (x0 : Value) (x1 : Value) (x2 : Value) (x3 : Value) (w : World) (Q : Value → World → Prop) : cw Tryz.prog lzenc_Encoder_length.H lzenc_Encoder_length.c (endQ Tryz.prog Tryz.f105.results.toList Q) (argsE [x0, x1, x2, x3]) w = lzenc_Encoder_length.F x0 x1 x2 x3 w Q := by kernel_rfl
theorem lzenc_Encoder_length.calls [Pan] {x0 : Value} {x1 : Value} {x2 : Value} {x3 : Value} {w : World} {Q : Value → World → Prop} (h : lzenc_Encoder_length.F x0 x1 x2 x3 w Q) : Calls Tryz.prog 105 #[x0, x1, x2, x3] w (retP Q) :=
  calls_of_cw (H := lzenc_Encoder_length.H) (c := lzenc_Encoder_length.c) (args := [x0, x1, x2, x3]) mixed Tryz.func105 (by kernel_rfl) (by kernel_rfl) (Nat.le_of_ble_eq_true (by kernel_rfl)) ((lzenc_Encoder_length.eq x0 x1 x2 x3 w Q).mpr h)

def lzenc_Encoder_distance.H : Hints := { cut := fun  | _ => none, loop := fun  | _ => ([], 0), order := fun | 3 => [(0, 0), (1, 1), (2, 3), (3, 7), (4, 15), (5, 31), (6, 63), (7, 127), (8, 255), (9, 511), (10, 1023), (11, 2047), (12, 4095), (13, 8191), (14, 16383), (15, 32767), (16, 65535), (17, 131071)] | 6 => [(0, 0), (1, 1), (2, 3), (3, 7), (4, 15), (5, 31), (6, 63), (7, 127), (8, 255), (9, 511), (10, 1023), (11, 2047), (12, 4095), (13, 8191)] | _ => [] }
def lzenc_Encoder_distance.F [Pan] (x0 : Value) (x1 : Value) (x2 : Value) (w : World) (Q : Value → World → Prop) : Prop :=
 pN Tryz.prog (oBox 48 x2) w fun x5 w1 =>
 pN Tryz.prog (oFld 48 x5 3) w1 fun x13 w2 =>
 pN Tryz.prog (oLoad 3 x13) w2 fun x14 w3 =>
 pN Tryz.prog (oCall 145 [x14]) w3 fun x15 w4 =>
 pN Tryz.prog (oExt x15 0) w4 fun x16 w5 =>
 pN Tryz.prog (oExt x15 1) w5 fun _ w6 =>
 pN Tryz.prog (oCall 146 [x16]) w6 fun x20 w7 =>
 pN Tryz.prog (oExt x20 0) w7 fun x21 w8 =>
 pN Tryz.prog (oExt x20 1) w8 fun x22 w9 =>
 pN Tryz.prog (oExt x20 2) w9 fun _ w10 =>
 pDr w10 fun w11 =>
 pA Tryz.prog (oNil x0) fun x26 =>
 pA Tryz.prog (oFld 128 x26 0) fun x27 =>
 pL Tryz.prog (oLoad 123 x27) w11 fun x28 =>
 pA Tryz.prog (oNil x28) fun x29 =>
 pA Tryz.prog (oFld 141 x29 11) fun x30 =>
 pL Tryz.prog (oLoad 137 x30) w11 fun x31 =>
 pA Tryz.prog (oFld 48 x5 2) fun x32 =>
 pL Tryz.prog (oLoad 3 x32) w11 fun x33 =>
 pA Tryz.prog (oBin .sub 3 (.tmp 33) (.const (.int .i64 2)) x33 (.int .i64 2)) fun x34 =>
 pA Tryz.prog (oBi .min #[3, 3] 3 [false, true] [x34, (.int .i64 3)]) fun x35 =>
 pA Tryz.prog (oBin .mul 3 (.const (.int .i64 64)) (.tmp 35) (.int .i64 64) x35) fun x36 =>
 pN Tryz.prog (oFn (.method "pith/lzenc.tree") [x1] []) w11 fun x38 w12 =>
 ((Sem.run Tryz.prog (oLoad 3 x32) w12 = .ok (.value x33) w12) ∧ (Sem.run Tryz.prog (oLoad 137 x30) w12 = .ok (.value x31) w12) ∧ (Sem.run Tryz.prog (oLoad 123 x27) w12 = .ok (.value x28) w12) ∧ True) ∧ (pA Tryz.prog (oNil x38) fun _ =>
 pN Tryz.prog (oInv x1 "pith/lzenc.tree" [x31, x36, (.int .i64 6), x16]) w12 fun _ w13 =>
 (True) ∧ (pN Tryz.prog (oFld 48 x5 3) w13 fun x42 w14 =>
 pN Tryz.prog (oLoad 3 x42) w14 fun x43 w15 =>
 pN Tryz.prog (oBin .sub 3 (.tmp 43) (.tmp 44) x43 x21) w15 fun x45 w16 =>
 pN Tryz.prog (oBin .eql 3 (.tmp 67) (.const (.int .i64 0)) x22 (.int .i64 0)) w16 fun x68 w17 =>
 pIf x68
 (Q (.tuple #[]) w17)
 (pN Tryz.prog (oCall 147 [x16]) w17 fun x71 w18 =>
 pN Tryz.prog (oUn .not x71) w18 fun x72 w19 =>
 pIf x72
 (pDr w19 fun w20 =>
 pA Tryz.prog (oNil x0) fun x75 =>
 pA Tryz.prog (oFld 128 x75 0) fun x76 =>
 pL Tryz.prog (oLoad 123 x76) w20 fun x77 =>
 pA Tryz.prog (oNil x77) fun x78 =>
 pA Tryz.prog (oFld 141 x78 12) fun x79 =>
 pL Tryz.prog (oLoad 137 x79) w20 fun x80 =>
 (pN Tryz.prog (oCall 148 [x16]) w20 fun x82 w21 =>
 ((Sem.run Tryz.prog (oLoad 137 x79) w21 = .ok (.value x80) w21) ∧ (Sem.run Tryz.prog (oLoad 123 x76) w21 = .ok (.value x77) w21) ∧ True) ∧ (pN Tryz.prog (oFn (.method "pith/lzenc.back") [x1] []) w21 fun x85 w22 =>
 ((Sem.run Tryz.prog (oLoad 137 x79) w22 = .ok (.value x80) w22) ∧ (Sem.run Tryz.prog (oLoad 123 x76) w22 = .ok (.value x77) w22) ∧ True) ∧ (pA Tryz.prog (oNil x85) fun _ =>
 pN Tryz.prog (oInv x1 "pith/lzenc.back" [x80, x82, x22, x45]) w22 fun _ w23 =>
 (True) ∧ (Q (.tuple #[]) w23)))) ∧ (pN Tryz.prog (oFn (.method "pith/lzenc.back") [x1] []) w20 fun x85 w24 =>
 ((Sem.run Tryz.prog (oLoad 137 x79) w24 = .ok (.value x80) w24) ∧ (Sem.run Tryz.prog (oLoad 123 x76) w24 = .ok (.value x77) w24) ∧ True) ∧ (pA Tryz.prog (oNil x85) fun _ =>
 pN Tryz.prog (oCall 148 [x16]) w24 fun x82 w25 =>
 ((Sem.run Tryz.prog (oLoad 137 x79) w25 = .ok (.value x80) w25) ∧ (Sem.run Tryz.prog (oLoad 123 x76) w25 = .ok (.value x77) w25) ∧ True) ∧ (pN Tryz.prog (oInv x1 "pith/lzenc.back" [x80, x82, x22, x45]) w25 fun _ w26 =>
 (True) ∧ (Q (.tuple #[]) w26)))))
 (pN Tryz.prog (oBin .shr 3 (.tmp 47) (.const (.int .u64 4)) x45 (.int .u64 4)) w19 fun x48 w27 =>
 pN Tryz.prog (oBin .sub 3 (.tmp 49) (.const (.int .i64 4)) x22 (.int .i64 4)) w27 fun x50 w28 =>
 pN Tryz.prog (oInv x1 "pith/lzenc.direct" [x48, x50]) w28 fun _ w29 =>
 pDr w29 fun w30 =>
 pA Tryz.prog (oNil x0) fun x54 =>
 pA Tryz.prog (oFld 128 x54 0) fun x55 =>
 pL Tryz.prog (oLoad 123 x55) w30 fun x56 =>
 pA Tryz.prog (oNil x56) fun x57 =>
 pA Tryz.prog (oFld 141 x57 13) fun x58 =>
 pL Tryz.prog (oLoad 137 x58) w30 fun x59 =>
 pA Tryz.prog (oBin .and 3 (.tmp 60) (.const (.int .i64 15)) x45 (.int .i64 15)) fun x61 =>
 pN Tryz.prog (oFn (.method "pith/lzenc.back") [x1] []) w30 fun x62 w31 =>
 ((Sem.run Tryz.prog (oLoad 137 x58) w31 = .ok (.value x59) w31) ∧ (Sem.run Tryz.prog (oLoad 123 x55) w31 = .ok (.value x56) w31) ∧ True) ∧ (pA Tryz.prog (oNil x62) fun _ =>
 pN Tryz.prog (oInv x1 "pith/lzenc.back" [x59, (.int .i64 0), (.int .i64 4), x61]) w31 fun _ w32 =>
 (True) ∧ (Q (.tuple #[]) w32))))))
noncomputable def lzenc_Encoder_distance.c : Code := match Tryz.f106.body with | some c => c | none => .skip
theorem lzenc_Encoder_distance.eq [Pan] (x0 : Value) (x1 : Value) (x2 : Value) (w : World) (Q : Value → World → Prop) : cw Tryz.prog lzenc_Encoder_distance.H lzenc_Encoder_distance.c (endQ Tryz.prog Tryz.f106.results.toList Q) (argsE [x0, x1, x2]) w = lzenc_Encoder_distance.F x0 x1 x2 w Q := by kernel_rfl
theorem lzenc_Encoder_distance.calls [Pan] {x0 : Value} {x1 : Value} {x2 : Value} {w : World} {Q : Value → World → Prop} (h : lzenc_Encoder_distance.F x0 x1 x2 w Q) : Calls Tryz.prog 106 #[x0, x1, x2] w (retP Q) :=
  calls_of_cw (H := lzenc_Encoder_distance.H) (c := lzenc_Encoder_distance.c) (args := [x0, x1, x2]) mixed Tryz.func106 (by kernel_rfl) (by kernel_rfl) (Nat.le_of_ble_eq_true (by kernel_rfl)) ((lzenc_Encoder_distance.eq x0 x1 x2 w Q).mpr h)

def lzenc_coding_back.H : Hints := { cut := fun  | _ => none, loop := fun  | _ => ([], 0), order := fun  | _ => [] }
def lzenc_coding_back.F [Pan] (x0 : Value) (x1 : Value) (x2 : Value) (x3 : Value) (x4 : Value) (w : World) (Q : Value → World → Prop) : Prop :=
 pN Tryz.prog (oBox 136 x0) w fun x5 w1 =>
 pN Tryz.prog (oFld 136 x5 0) w1 fun x10 w2 =>
 pN Tryz.prog (oLoad 125 x10) w2 fun x11 w3 =>
 pN Tryz.prog (oCall 245 [x11, x1, x2, x3, x4]) w3 fun _ w4 =>
 Q (.tuple #[]) w4
noncomputable def lzenc_coding_back.c : Code := match Tryz.f241.body with | some c => c | none => .skip
theorem lzenc_coding_back.eq [Pan] (x0 : Value) (x1 : Value) (x2 : Value) (x3 : Value) (x4 : Value) (w : World) (Q : Value → World → Prop) : cw Tryz.prog lzenc_coding_back.H lzenc_coding_back.c (endQ Tryz.prog Tryz.f241.results.toList Q) (argsE [x0, x1, x2, x3, x4]) w = lzenc_coding_back.F x0 x1 x2 x3 x4 w Q := by kernel_rfl
theorem lzenc_coding_back.calls [Pan] {x0 : Value} {x1 : Value} {x2 : Value} {x3 : Value} {x4 : Value} {w : World} {Q : Value → World → Prop} (h : lzenc_coding_back.F x0 x1 x2 x3 x4 w Q) : Calls Tryz.prog 241 #[x0, x1, x2, x3, x4] w (retP Q) :=
  calls_of_cw (H := lzenc_coding_back.H) (c := lzenc_coding_back.c) (args := [x0, x1, x2, x3, x4]) mixed Tryz.func241 (by kernel_rfl) (by kernel_rfl) (Nat.le_of_ble_eq_true (by kernel_rfl)) ((lzenc_coding_back.eq x0 x1 x2 x3 x4 w Q).mpr h)

def lzenc_coding_bit.H : Hints := { cut := fun  | _ => none, loop := fun  | _ => ([], 0), order := fun  | _ => [] }
def lzenc_coding_bit.F [Pan] (x0 : Value) (x1 : Value) (x2 : Value) (x3 : Value) (w : World) (Q : Value → World → Prop) : Prop :=
 pN Tryz.prog (oBox 136 x0) w fun x4 w1 =>
 pN Tryz.prog (oFld 136 x4 0) w1 fun x8 w2 =>
 pN Tryz.prog (oLoad 125 x8) w2 fun x9 w3 =>
 pN Tryz.prog (oCall 246 [x9, x1, x2, x3]) w3 fun _ w4 =>
 Q (.tuple #[]) w4
noncomputable def lzenc_coding_bit.c : Code := match Tryz.f242.body with | some c => c | none => .skip
theorem lzenc_coding_bit.eq [Pan] (x0 : Value) (x1 : Value) (x2 : Value) (x3 : Value) (w : World) (Q : Value → World → Prop) : cw Tryz.prog lzenc_coding_bit.H lzenc_coding_bit.c (endQ Tryz.prog Tryz.f242.results.toList Q) (argsE [x0, x1, x2, x3]) w = lzenc_coding_bit.F x0 x1 x2 x3 w Q := by kernel_rfl
theorem lzenc_coding_bit.calls [Pan] {x0 : Value} {x1 : Value} {x2 : Value} {x3 : Value} {w : World} {Q : Value → World → Prop} (h : lzenc_coding_bit.F x0 x1 x2 x3 w Q) : Calls Tryz.prog 242 #[x0, x1, x2, x3] w (retP Q) :=
  calls_of_cw (H := lzenc_coding_bit.H) (c := lzenc_coding_bit.c) (args := [x0, x1, x2, x3]) mixed Tryz.func242 (by kernel_rfl) (by kernel_rfl) (Nat.le_of_ble_eq_true (by kernel_rfl)) ((lzenc_coding_bit.eq x0 x1 x2 x3 w Q).mpr h)

def lzenc_coding_direct.H : Hints := { cut := fun  | _ => none, loop := fun  | _ => ([], 0), order := fun  | _ => [] }
def lzenc_coding_direct.F [Pan] (x0 : Value) (x1 : Value) (x2 : Value) (w : World) (Q : Value → World → Prop) : Prop :=
 pN Tryz.prog (oBox 136 x0) w fun x3 w1 =>
 pN Tryz.prog (oFld 136 x3 0) w1 fun x6 w2 =>
 pN Tryz.prog (oLoad 125 x6) w2 fun x7 w3 =>
 pN Tryz.prog (oConv 3 148 x1) w3 fun x9 w4 =>
 pN Tryz.prog (oCall 247 [x7, x9, x2]) w4 fun _ w5 =>
 Q (.tuple #[]) w5
noncomputable def lzenc_coding_direct.c : Code := match Tryz.f243.body with | some c => c | none => .skip
theorem lzenc_coding_direct.eq [Pan] (x0 : Value) (x1 : Value) (x2 : Value) (w : World) (Q : Value → World → Prop) : cw Tryz.prog lzenc_coding_direct.H lzenc_coding_direct.c (endQ Tryz.prog Tryz.f243.results.toList Q) (argsE [x0, x1, x2]) w = lzenc_coding_direct.F x0 x1 x2 w Q := by kernel_rfl
theorem lzenc_coding_direct.calls [Pan] {x0 : Value} {x1 : Value} {x2 : Value} {w : World} {Q : Value → World → Prop} (h : lzenc_coding_direct.F x0 x1 x2 w Q) : Calls Tryz.prog 243 #[x0, x1, x2] w (retP Q) :=
  calls_of_cw (H := lzenc_coding_direct.H) (c := lzenc_coding_direct.c) (args := [x0, x1, x2]) mixed Tryz.func243 (by kernel_rfl) (by kernel_rfl) (Nat.le_of_ble_eq_true (by kernel_rfl)) ((lzenc_coding_direct.eq x0 x1 x2 w Q).mpr h)

def lzenc_coding_tree.H : Hints := { cut := fun  | _ => none, loop := fun  | _ => ([], 0), order := fun  | _ => [] }
def lzenc_coding_tree.F [Pan] (x0 : Value) (x1 : Value) (x2 : Value) (x3 : Value) (x4 : Value) (w : World) (Q : Value → World → Prop) : Prop :=
 pN Tryz.prog (oBox 136 x0) w fun x5 w1 =>
 pN Tryz.prog (oFld 136 x5 0) w1 fun x10 w2 =>
 pN Tryz.prog (oLoad 125 x10) w2 fun x11 w3 =>
 pN Tryz.prog (oCall 248 [x11, x1, x2, x3, x4]) w3 fun _ w4 =>
 Q (.tuple #[]) w4
noncomputable def lzenc_coding_tree.c : Code := match Tryz.f244.body with | some c => c | none => .skip
theorem lzenc_coding_tree.eq [Pan] (x0 : Value) (x1 : Value) (x2 : Value) (x3 : Value) (x4 : Value) (w : World) (Q : Value → World → Prop) : cw Tryz.prog lzenc_coding_tree.H lzenc_coding_tree.c (endQ Tryz.prog Tryz.f244.results.toList Q) (argsE [x0, x1, x2, x3, x4]) w = lzenc_coding_tree.F x0 x1 x2 x3 x4 w Q := by kernel_rfl
theorem lzenc_coding_tree.calls [Pan] {x0 : Value} {x1 : Value} {x2 : Value} {x3 : Value} {x4 : Value} {w : World} {Q : Value → World → Prop} (h : lzenc_coding_tree.F x0 x1 x2 x3 x4 w Q) : Calls Tryz.prog 244 #[x0, x1, x2, x3, x4] w (retP Q) :=
  calls_of_cw (H := lzenc_coding_tree.H) (c := lzenc_coding_tree.c) (args := [x0, x1, x2, x3, x4]) mixed Tryz.func244 (by kernel_rfl) (by kernel_rfl) (Nat.le_of_ble_eq_true (by kernel_rfl)) ((lzenc_coding_tree.eq x0 x1 x2 x3 x4 w Q).mpr h)

def lzenc_costing_back.H : Hints := { cut := fun  | _ => none, loop := fun  | _ => ([], 0), order := fun  | _ => [] }
def lzenc_costing_back.F [Pan] (x0 : Value) (x1 : Value) (x2 : Value) (x3 : Value) (x4 : Value) (w : World) (Q : Value → World → Prop) : Prop :=
 pN Tryz.prog (oCall 257 [x1, x2, x3, x4]) w fun x17 w1 =>
 pN Tryz.prog (oExt x17 0) w1 fun x18 w2 =>
 pN Tryz.prog (oExt x17 1) w2 fun _ w3 =>
 pN Tryz.prog (oNil x0) w3 fun x21 w4 =>
 pN Tryz.prog (oFld 155 x21 0) w4 fun x22 w5 =>
 pN Tryz.prog (oLoad 3 x22) w5 fun x23 w6 =>
 pN Tryz.prog (oBin .add 3 (.tmp 23) (.tmp 24) x23 x18) w6 fun x25 w7 =>
 pN Tryz.prog (oNil x0) w7 fun x26 w8 =>
 pN Tryz.prog (oFld 155 x26 0) w8 fun x27 w9 =>
 pN Tryz.prog (oStore 3 x27 x25) w9 fun _ w10 =>
 Q (.tuple #[]) w10
noncomputable def lzenc_costing_back.c : Code := match Tryz.f253.body with | some c => c | none => .skip
theorem lzenc_costing_back.eq [Pan] (x0 : Value) (x1 : Value) (x2 : Value) (x3 : Value) (x4 : Value) (w : World) (Q : Value → World → Prop) : cw Tryz.prog lzenc_costing_back.H lzenc_costing_back.c (endQ Tryz.prog Tryz.f253.results.toList Q) (argsE [x0, x1, x2, x3, x4]) w = lzenc_costing_back.F x0 x1 x2 x3 x4 w Q := by kernel_rfl
theorem lzenc_costing_back.calls [Pan] {x0 : Value} {x1 : Value} {x2 : Value} {x3 : Value} {x4 : Value} {w : World} {Q : Value → World → Prop} (h : lzenc_costing_back.F x0 x1 x2 x3 x4 w Q) : Calls Tryz.prog 253 #[x0, x1, x2, x3, x4] w (retP Q) :=
  calls_of_cw (H := lzenc_costing_back.H) (c := lzenc_costing_back.c) (args := [x0, x1, x2, x3, x4]) mixed Tryz.func253 (by kernel_rfl) (by kernel_rfl) (Nat.le_of_ble_eq_true (by kernel_rfl)) ((lzenc_costing_back.eq x0 x1 x2 x3 x4 w Q).mpr h)

def lzenc_costing_bit.H : Hints := { cut := fun  | _ => none, loop := fun  | _ => ([], 0), order := fun | 1 => [(0, 0), (1, 1), (2, 3), (3, 7), (4, 15), (5, 31), (6, 63), (7, 127), (8, 255), (9, 511), (10, 1023)] | _ => [] }
def lzenc_costing_bit.F [Pan] (x0 : Value) (x1 : Value) (x2 : Value) (x3 : Value) (w : World) (Q : Value → World → Prop) : Prop :=
 pN Tryz.prog (oCall 179 [x1, x2]) w fun x13 w1 =>
 pN Tryz.prog (oExt x13 0) w1 fun x14 w2 =>
 pN Tryz.prog (oExt x13 1) w2 fun _ w3 =>
 pDr w3 fun w4 =>
 pA Tryz.prog (oNil x0) fun x17 =>
 pA Tryz.prog (oFld 155 x17 0) fun x18 =>
 pL Tryz.prog (oLoad 3 x18) w4 fun x19 =>
 pN Tryz.prog (oCall 258 [x14, x3]) w4 fun x22 w5 =>
 ((Sem.run Tryz.prog (oLoad 3 x18) w5 = .ok (.value x19) w5) ∧ True) ∧ (pA Tryz.prog (oBin .add 3 (.tmp 19) (.tmp 22) x19 x22) fun x23 =>
 pA Tryz.prog (oNil x0) fun x24 =>
 pA Tryz.prog (oFld 155 x24 0) fun x25 =>
 pN Tryz.prog (oStore 3 x25 x23) w5 fun _ w6 =>
 (True) ∧ (Q (.tuple #[]) w6))
noncomputable def lzenc_costing_bit.c : Code := match Tryz.f254.body with | some c => c | none => .skip
theorem lzenc_costing_bit.eq [Pan] (x0 : Value) (x1 : Value) (x2 : Value) (x3 : Value) (w : World) (Q : Value → World → Prop) : cw Tryz.prog lzenc_costing_bit.H lzenc_costing_bit.c (endQ Tryz.prog Tryz.f254.results.toList Q) (argsE [x0, x1, x2, x3]) w = lzenc_costing_bit.F x0 x1 x2 x3 w Q := by kernel_rfl
theorem lzenc_costing_bit.calls [Pan] {x0 : Value} {x1 : Value} {x2 : Value} {x3 : Value} {w : World} {Q : Value → World → Prop} (h : lzenc_costing_bit.F x0 x1 x2 x3 w Q) : Calls Tryz.prog 254 #[x0, x1, x2, x3] w (retP Q) :=
  calls_of_cw (H := lzenc_costing_bit.H) (c := lzenc_costing_bit.c) (args := [x0, x1, x2, x3]) mixed Tryz.func254 (by kernel_rfl) (by kernel_rfl) (Nat.le_of_ble_eq_true (by kernel_rfl)) ((lzenc_costing_bit.eq x0 x1 x2 x3 w Q).mpr h)

def lzenc_costing_direct.H : Hints := { cut := fun  | _ => none, loop := fun  | _ => ([], 0), order := fun  | _ => [] }
def lzenc_costing_direct.F [Pan] (x0 : Value) (x1 : Value) (x2 : Value) (w : World) (Q : Value → World → Prop) : Prop :=
 pN Tryz.prog (oNil x0) w fun x7 w1 =>
 pN Tryz.prog (oFld 155 x7 0) w1 fun x8 w2 =>
 pN Tryz.prog (oLoad 3 x8) w2 fun x9 w3 =>
 pN Tryz.prog (oBin .mul 3 (.const (.int .i64 16)) (.tmp 10) (.int .i64 16) x2) w3 fun x11 w4 =>
 pN Tryz.prog (oBin .add 3 (.tmp 9) (.tmp 11) x9 x11) w4 fun x12 w5 =>
 pN Tryz.prog (oNil x0) w5 fun x13 w6 =>
 pN Tryz.prog (oFld 155 x13 0) w6 fun x14 w7 =>
 pN Tryz.prog (oStore 3 x14 x12) w7 fun _ w8 =>
 Q (.tuple #[]) w8
noncomputable def lzenc_costing_direct.c : Code := match Tryz.f255.body with | some c => c | none => .skip
theorem lzenc_costing_direct.eq [Pan] (x0 : Value) (x1 : Value) (x2 : Value) (w : World) (Q : Value → World → Prop) : cw Tryz.prog lzenc_costing_direct.H lzenc_costing_direct.c (endQ Tryz.prog Tryz.f255.results.toList Q) (argsE [x0, x1, x2]) w = lzenc_costing_direct.F x0 x1 x2 w Q := by kernel_rfl
theorem lzenc_costing_direct.calls [Pan] {x0 : Value} {x1 : Value} {x2 : Value} {w : World} {Q : Value → World → Prop} (h : lzenc_costing_direct.F x0 x1 x2 w Q) : Calls Tryz.prog 255 #[x0, x1, x2] w (retP Q) :=
  calls_of_cw (H := lzenc_costing_direct.H) (c := lzenc_costing_direct.c) (args := [x0, x1, x2]) mixed Tryz.func255 (by kernel_rfl) (by kernel_rfl) (Nat.le_of_ble_eq_true (by kernel_rfl)) ((lzenc_costing_direct.eq x0 x1 x2 w Q).mpr h)

def lzenc_costing_tree.H : Hints := { cut := fun  | _ => none, loop := fun  | _ => ([], 0), order := fun  | _ => [] }
def lzenc_costing_tree.F [Pan] (x0 : Value) (x1 : Value) (x2 : Value) (x3 : Value) (x4 : Value) (w : World) (Q : Value → World → Prop) : Prop :=
 pN Tryz.prog (oCall 259 [x1, x2, x3, x4]) w fun x17 w1 =>
 pN Tryz.prog (oExt x17 0) w1 fun x18 w2 =>
 pN Tryz.prog (oExt x17 1) w2 fun _ w3 =>
 pN Tryz.prog (oNil x0) w3 fun x21 w4 =>
 pN Tryz.prog (oFld 155 x21 0) w4 fun x22 w5 =>
 pN Tryz.prog (oLoad 3 x22) w5 fun x23 w6 =>
 pN Tryz.prog (oBin .add 3 (.tmp 23) (.tmp 24) x23 x18) w6 fun x25 w7 =>
 pN Tryz.prog (oNil x0) w7 fun x26 w8 =>
 pN Tryz.prog (oFld 155 x26 0) w8 fun x27 w9 =>
 pN Tryz.prog (oStore 3 x27 x25) w9 fun _ w10 =>
 Q (.tuple #[]) w10
noncomputable def lzenc_costing_tree.c : Code := match Tryz.f256.body with | some c => c | none => .skip
theorem lzenc_costing_tree.eq [Pan] (x0 : Value) (x1 : Value) (x2 : Value) (x3 : Value) (x4 : Value) (w : World) (Q : Value → World → Prop) : cw Tryz.prog lzenc_costing_tree.H lzenc_costing_tree.c (endQ Tryz.prog Tryz.f256.results.toList Q) (argsE [x0, x1, x2, x3, x4]) w = lzenc_costing_tree.F x0 x1 x2 x3 x4 w Q := by kernel_rfl
theorem lzenc_costing_tree.calls [Pan] {x0 : Value} {x1 : Value} {x2 : Value} {x3 : Value} {x4 : Value} {w : World} {Q : Value → World → Prop} (h : lzenc_costing_tree.F x0 x1 x2 x3 x4 w Q) : Calls Tryz.prog 256 #[x0, x1, x2, x3, x4] w (retP Q) :=
  calls_of_cw (H := lzenc_costing_tree.H) (c := lzenc_costing_tree.c) (args := [x0, x1, x2, x3, x4]) mixed Tryz.func256 (by kernel_rfl) (by kernel_rfl) (Nat.le_of_ble_eq_true (by kernel_rfl)) ((lzenc_costing_tree.eq x0 x1 x2 x3 x4 w Q).mpr h)

end Go.Proofs.YtbgnnjfpiblkmaaGreatDoor

namespace Go.Proofs.YtbgnnjfpiblkmaaGreatDoor
open Go
set_option linter.unusedSimpArgs false
set_option linter.unnecessarySimpa false
set_option linter.unusedSectionVars false
set_option linter.unusedVariables false
set_option maxRecDepth 100000

def tree_Get.H : Hints := { cut := fun  | _ => none, loop := fun  | _ => ([], 0), order := fun  | _ => [] }
def tree_Get.F [Pan] (x0 : Value) (x1 : Value) (x2 : Value) (x3 : Value) (w : World) (Q : Value → World → Prop) : Prop :=
 pN Tryz.prog (oCall 212 [x0, x1, x2, x3, (.bool false)]) w fun x14 w1 =>
 pN Tryz.prog (oExt x14 0) w1 fun x15 w2 =>
 pN Tryz.prog (oExt x14 1) w2 fun x16 w3 =>
 Q (.tuple #[x15, x16]) w3
noncomputable def tree_Get.c : Code := match Tryz.f202.body with | some c => c | none => .skip
theorem tree_Get.eq [Pan] (x0 : Value) (x1 : Value) (x2 : Value) (x3 : Value) (w : World) (Q : Value → World → Prop) : cw Tryz.prog tree_Get.H tree_Get.c (endQ Tryz.prog Tryz.f202.results.toList Q) (argsE [x0, x1, x2, x3]) w = tree_Get.F x0 x1 x2 x3 w Q := by kernel_rfl
theorem tree_Get.calls [Pan] {x0 : Value} {x1 : Value} {x2 : Value} {x3 : Value} {w : World} {Q : Value → World → Prop} (h : tree_Get.F x0 x1 x2 x3 w Q) : Calls Tryz.prog 202 #[x0, x1, x2, x3] w (retP Q) :=
  calls_of_cw (H := tree_Get.H) (c := tree_Get.c) (args := [x0, x1, x2, x3]) mixed Tryz.func202 (by kernel_rfl) (by kernel_rfl) (Nat.le_of_ble_eq_true (by kernel_rfl)) ((tree_Get.eq x0 x1 x2 x3 w Q).mpr h)

def tree_GetBack.H : Hints := { cut := fun  | _ => none, loop := fun  | _ => ([], 0), order := fun  | _ => [] }
def tree_GetBack.F [Pan] (x0 : Value) (x1 : Value) (x2 : Value) (x3 : Value) (w : World) (Q : Value → World → Prop) : Prop :=
 pN Tryz.prog (oCall 212 [x0, x1, x2, x3, (.bool true)]) w fun x14 w1 =>
 pN Tryz.prog (oExt x14 0) w1 fun x15 w2 =>
 pN Tryz.prog (oExt x14 1) w2 fun x16 w3 =>
 Q (.tuple #[x15, x16]) w3
noncomputable def tree_GetBack.c : Code := match Tryz.f203.body with | some c => c | none => .skip
theorem tree_GetBack.eq [Pan] (x0 : Value) (x1 : Value) (x2 : Value) (x3 : Value) (w : World) (Q : Value → World → Prop) : cw Tryz.prog tree_GetBack.H tree_GetBack.c (endQ Tryz.prog Tryz.f203.results.toList Q) (argsE [x0, x1, x2, x3]) w = tree_GetBack.F x0 x1 x2 x3 w Q := by kernel_rfl
theorem tree_GetBack.calls [Pan] {x0 : Value} {x1 : Value} {x2 : Value} {x3 : Value} {w : World} {Q : Value → World → Prop} (h : tree_GetBack.F x0 x1 x2 x3 w Q) : Calls Tryz.prog 203 #[x0, x1, x2, x3] w (retP Q) :=
  calls_of_cw (H := tree_GetBack.H) (c := tree_GetBack.c) (args := [x0, x1, x2, x3]) mixed Tryz.func203 (by kernel_rfl) (by kernel_rfl) (Nat.le_of_ble_eq_true (by kernel_rfl)) ((tree_GetBack.eq x0 x1 x2 x3 w Q).mpr h)

def tree_get.H : Hints := { cut := fun  | _ => none, loop := fun  | _ => ([], 0), order := fun  | _ => [] }
def tree_get.F [Pan] (x0 : Value) (x1 : Value) (x2 : Value) (x3 : Value) (x4 : Value) (w : World) (Q : Value → World → Prop) : Prop :=
 pN Tryz.prog (oBox 76 x0) w fun x5 w1 =>
 pN Tryz.prog (oBox 137 x1) w1 fun x6 w2 =>
 pN Tryz.prog (oBox 3 x3) w2 fun x8 w3 =>
 pN Tryz.prog (oBox 4 x4) w3 fun x9 w4 =>
 pN Tryz.prog (oLoad 137 x6) w4 fun x14 w5 =>
 pN Tryz.prog (oLoad 3 x8) w5 fun x16 w6 =>
 pN Tryz.prog (oCall 219 [x14, x2, x16]) w6 fun x17 w7 =>
 pN Tryz.prog (oUn .not x17) w7 fun x18 w8 =>
 pIf x18
 (Q (.tuple #[(.int .i64 0), (.int .i64 7)]) w8)
 (pN Tryz.prog (oAlloc 3) w8 fun x12 w9 =>
 pN Tryz.prog (oStore 3 x12 (.int .i64 0)) w9 fun _ w10 =>
 pN Tryz.prog (oLoad 3 x8) w10 fun x20 w11 =>
 pN Tryz.prog (oFn (.func 221) [] [x5, x6, x12, x9, x8]) w11 fun x21 w12 =>
 pN Tryz.prog (oCall 220 [x2, x20, x21]) w12 fun x22 w13 =>
 pN Tryz.prog (oBin .neq 38 (.tmp 23) (.const (.int .i64 0)) x22 (.int .i64 0)) w13 fun x24 w14 =>
 pIf x24
 (Q (.tuple #[(.int .i64 0), x22]) w14)
 (pN Tryz.prog (oLoad 3 x12) w14 fun x26 w15 =>
 Q (.tuple #[x26, (.int .i64 0)]) w15))
noncomputable def tree_get.c : Code := match Tryz.f212.body with | some c => c | none => .skip
theorem tree_get.eq [Pan] (x0 : Value) (x1 : Value) (x2 : Value) (x3 : Value) (x4 : Value) (w : World) (Q : Value → World → Prop) : cw Tryz.prog tree_get.H tree_get.c (endQ Tryz.prog Tryz.f212.results.toList Q) (argsE [x0, x1, x2, x3, x4]) w = tree_get.F x0 x1 x2 x3 x4 w Q := by kernel_rfl
theorem tree_get.calls [Pan] {x0 : Value} {x1 : Value} {x2 : Value} {x3 : Value} {x4 : Value} {w : World} {Q : Value → World → Prop} (h : tree_get.F x0 x1 x2 x3 x4 w Q) : Calls Tryz.prog 212 #[x0, x1, x2, x3, x4] w (retP Q) :=
  calls_of_cw (H := tree_get.H) (c := tree_get.c) (args := [x0, x1, x2, x3, x4]) mixed Tryz.func212 (by kernel_rfl) (by kernel_rfl) (Nat.le_of_ble_eq_true (by kernel_rfl)) ((tree_get.eq x0 x1 x2 x3 x4 w Q).mpr h)

def tree_there.H : Hints := { cut := fun  | _ => none, loop := fun  | _ => ([], 0), order := fun | 1 => [(0, 0), (1, 1), (2, 3), (3, 7), (4, 15), (5, 31), (6, 63), (7, 127), (8, 255), (9, 511), (10, 1023), (11, 2047), (12, 4095), (13, 8191), (14, 16383), (15, 32767), (16, 65535), (17, 131071), (18, 262143), (19, 524287), (21, 1048575), (20, 3145727), (22, 4194303), (23, 8388607), (24, 16777215), (25, 33554431)] | _ => [] }
def tree_there.F [Pan] (x0 : Value) (x1 : Value) (x2 : Value) (w : World) (Q : Value → World → Prop) : Prop :=
 pDr w fun w1 =>
 pA Tryz.prog (oBin .geq 3 (.tmp 7) (.const (.int .i64 0)) x2 (.int .i64 0)) fun x8 =>
 gA (gB x8 true) (pA Tryz.prog (oMv x2)) fun x10 =>
 gA (gB x8 true) (pA Tryz.prog (oBin .leq 3 (.tmp 10) (.const (.int .i64 16)) x10 (.int .i64 16))) fun x11 =>
 pA Tryz.prog (oPick x8 x11 (.bool false)) fun x12 =>
 gA (gB x12 true) (pA Tryz.prog (oMv x1)) fun x14 =>
 gA (gB x12 true) (pA Tryz.prog (oBin .geq 3 (.tmp 14) (.const (.int .i64 0)) x14 (.int .i64 0))) fun x15 =>
 pA Tryz.prog (oPick x12 x15 (.bool false)) fun x16 =>
 gA (gB x16 true) (pA Tryz.prog (oMv x1)) fun x18 =>
 gA (gB x16 true) (pA Tryz.prog (oMv x0)) fun x19 =>
 pGd (gB x16 true) (pN Tryz.prog (oCall 225 [x19]) w1) w1 fun x20 w2 =>
 (True) ∧ (gA (gB x16 true) (pA Tryz.prog (oBin .leq 3 (.tmp 18) (.tmp 20) x18 x20)) fun x21 =>
 pA Tryz.prog (oPick x16 x21 (.bool false)) fun x22 =>
 gA (gB x22 true) (pA Tryz.prog (oMv x2)) fun x24 =>
 gA (gB x22 true) (pA Tryz.prog (oBin .shl 3 (.const (.int .i64 1)) (.tmp 24) (.int .i64 1) x24)) fun x25 =>
 gA (gB x22 true) (pA Tryz.prog (oMv x0)) fun x26 =>
 gA (gB x22 true) (pA Tryz.prog (oMv x1)) fun x28 =>
 pGd (gB x22 true) (pN Tryz.prog (oCall 225 [x26]) w2) w2 fun x27 w3 =>
 (True) ∧ (gA (gB x22 true) (pA Tryz.prog (oBin .sub 3 (.tmp 27) (.tmp 28) x27 x28)) fun x29 =>
 gA (gB x22 true) (pA Tryz.prog (oBin .leq 3 (.tmp 25) (.tmp 29) x25 x29)) fun x30 =>
 pA Tryz.prog (oPick x22 x30 (.bool false)) fun x31 =>
 Q x31 w3))
noncomputable def tree_there.c : Code := match Tryz.f219.body with | some c => c | none => .skip
theorem tree_there.eq [Pan] (x0 : Value) (x1 : Value) (x2 : Value) (w : World) (Q : Value → World → Prop) : cw Tryz.prog tree_there.H tree_there.c (endQ Tryz.prog Tryz.f219.results.toList Q) (argsE [x0, x1, x2]) w = tree_there.F x0 x1 x2 w Q := by kernel_rfl
theorem tree_there.calls [Pan] {x0 : Value} {x1 : Value} {x2 : Value} {w : World} {Q : Value → World → Prop} (h : tree_there.F x0 x1 x2 w Q) : Calls Tryz.prog 219 #[x0, x1, x2] w (retP Q) :=
  calls_of_cw (H := tree_there.H) (c := tree_there.c) (args := [x0, x1, x2]) mixed Tryz.func219 (by kernel_rfl) (by kernel_rfl) (Nat.le_of_ble_eq_true (by kernel_rfl)) ((tree_there.eq x0 x1 x2 w Q).mpr h)

def tree_down.H : Hints := { cut := fun  | _ => none, loop := fun | 3 => ([7, 12], 4294965184) | _ => ([], 0), order := fun  | _ => [] }
def tree_down.F [Pan] (x0 : Value) (x1 : Value) (x2 : Value) (w : World) (Q : Value → World → Prop) : Prop :=
 ∃ (L3 : Value → Value → World → Prop) (m3 : Value → Value → World → Nat),
 L3 (.int .i64 1) (.int .i64 0) w ∧
 ∀ (_k3 : Env) (m7l3 : Value) (v12l3 : Value) (w1 : World), L3 m7l3 v12l3 w1 →
 pN Tryz.prog (oBin .lss 3 (.tmp 12) (.tmp 11) v12l3 x1) w1 fun x13 w2 =>
 pIf x13
 (pN Tryz.prog (oBin .add 3 (.tmp 17) (.tmp 18) x0 m7l3) w2 fun x19 w3 =>
 pN Tryz.prog (oCallV x2 [x19, v12l3]) w3 fun x21 w4 =>
 pN Tryz.prog (oExt x21 0) w4 fun x22 w5 =>
 pN Tryz.prog (oExt x21 1) w5 fun x23 w6 =>
 pN Tryz.prog (oBin .neq 38 (.tmp 24) (.const (.int .i64 0)) x23 (.int .i64 0)) w6 fun x25 w7 =>
 pIf x25
 (Q x23 w7)
 (pN Tryz.prog (oBin .mul 3 (.const (.int .i64 2)) (.tmp 27) (.int .i64 2) m7l3) w7 fun x28 w8 =>
 pN Tryz.prog (oBin .add 3 (.tmp 28) (.tmp 29) x28 x22) w8 fun x30 w9 =>
 pN Tryz.prog (oBin .add 3 (.tmp 12) (.const (.int .i64 1)) v12l3 (.int .i64 1)) w9 fun x31 w10 =>
 (L3 x30 x31 w10 ∧ m3 x30 x31 w10 < m3 m7l3 v12l3 w1)))
 (Q (.int .i64 0) w2)
noncomputable def tree_down.c : Code := match Tryz.f220.body with | some c => c | none => .skip
theorem tree_down.eq [Pan] (x0 : Value) (x1 : Value) (x2 : Value) (w : World) (Q : Value → World → Prop) : cw Tryz.prog tree_down.H tree_down.c (endQ Tryz.prog Tryz.f220.results.toList Q) (argsE [x0, x1, x2]) w = tree_down.F x0 x1 x2 w Q := by kernel_rfl
theorem tree_down.calls [Pan] {x0 : Value} {x1 : Value} {x2 : Value} {w : World} {Q : Value → World → Prop} (h : tree_down.F x0 x1 x2 w Q) : Calls Tryz.prog 220 #[x0, x1, x2] w (retP Q) :=
  calls_of_cw (H := tree_down.H) (c := tree_down.c) (args := [x0, x1, x2]) mixed Tryz.func220 (by kernel_rfl) (by kernel_rfl) (Nat.le_of_ble_eq_true (by kernel_rfl)) ((tree_down.eq x0 x1 x2 w Q).mpr h)

def tree_get_c1.H : Hints := { cut := fun  | _ => none, loop := fun  | _ => ([], 0), order := fun | 2 => [(0, 0), (1, 1), (2, 3), (3, 7), (4, 15), (5, 31), (6, 63), (7, 127), (8, 255)] | _ => [] }
def tree_get_c1.F [Pan] (x0 : Value) (x1 : Value) (x2 : Value) (x3 : Value) (x4 : Value) (x5 : Value) (x6 : Value) (w : World) (Q : Value → World → Prop) : Prop :=
 pN Tryz.prog (oLoad 76 x2) w fun x14 w1 =>
 pN Tryz.prog (oLoad 137 x3) w1 fun x15 w2 =>
 pN Tryz.prog (oCall 163 [x14, x15, x0]) w2 fun x17 w3 =>
 pN Tryz.prog (oExt x17 0) w3 fun x18 w4 =>
 pN Tryz.prog (oExt x17 1) w4 fun x19 w5 =>
 pDr w5 fun w6 =>
 pL Tryz.prog (oLoad 3 x4) w6 fun x20 =>
 pL Tryz.prog (oLoad 4 x5) w6 fun x22 =>
 pL Tryz.prog (oLoad 3 x6) w6 fun x23 =>
 pN Tryz.prog (oCall 222 [x22, x23, x1]) w6 fun x25 w7 =>
 ((Sem.run Tryz.prog (oLoad 3 x4) w7 = .ok (.value x20) w7) ∧ True) ∧ (pA Tryz.prog (oBin .shl 3 (.tmp 21) (.tmp 25) x18 x25) fun x26 =>
 pA Tryz.prog (oBin .or 3 (.tmp 20) (.tmp 26) x20 x26) fun x27 =>
 pN Tryz.prog (oStore 3 x4 x27) w7 fun _ w8 =>
 (True) ∧ (Q (.tuple #[x18, x19]) w8))
noncomputable def tree_get_c1.c : Code := match Tryz.f221.body with | some c => c | none => .skip
theorem tree_get_c1.eq [Pan] (x0 : Value) (x1 : Value) (x2 : Value) (x3 : Value) (x4 : Value) (x5 : Value) (x6 : Value) (w : World) (Q : Value → World → Prop) : cw Tryz.prog tree_get_c1.H tree_get_c1.c (endQ Tryz.prog Tryz.f221.results.toList Q) (argsE [x0, x1, x2, x3, x4, x5, x6]) w = tree_get_c1.F x0 x1 x2 x3 x4 x5 x6 w Q := by kernel_rfl
theorem tree_get_c1.calls [Pan] {x0 : Value} {x1 : Value} {x2 : Value} {x3 : Value} {x4 : Value} {x5 : Value} {x6 : Value} {w : World} {Q : Value → World → Prop} (h : tree_get_c1.F x0 x1 x2 x3 x4 x5 x6 w Q) : Calls Tryz.prog 221 #[x0, x1, x2, x3, x4, x5, x6] w (retP Q) :=
  calls_of_cw (H := tree_get_c1.H) (c := tree_get_c1.c) (args := [x0, x1, x2, x3, x4, x5, x6]) mixed Tryz.func221 (by kernel_rfl) (by kernel_rfl) (Nat.le_of_ble_eq_true (by kernel_rfl)) ((tree_get_c1.eq x0 x1 x2 x3 x4 x5 x6 w Q).mpr h)

def tree_order.H : Hints := { cut := fun  | _ => none, loop := fun  | _ => ([], 0), order := fun  | _ => [] }
def tree_order.F [Pan] (x0 : Value) (x1 : Value) (x2 : Value) (w : World) (Q : Value → World → Prop) : Prop :=
 pIf x0
 (Q x2 w)
 (pN Tryz.prog (oBin .sub 3 (.tmp 9) (.const (.int .i64 1)) x1 (.int .i64 1)) w fun x10 w1 =>
 pN Tryz.prog (oBin .sub 3 (.tmp 10) (.tmp 11) x10 x2) w1 fun x12 w2 =>
 Q x12 w2)
noncomputable def tree_order.c : Code := match Tryz.f222.body with | some c => c | none => .skip
theorem tree_order.eq [Pan] (x0 : Value) (x1 : Value) (x2 : Value) (w : World) (Q : Value → World → Prop) : cw Tryz.prog tree_order.H tree_order.c (endQ Tryz.prog Tryz.f222.results.toList Q) (argsE [x0, x1, x2]) w = tree_order.F x0 x1 x2 w Q := by kernel_rfl
theorem tree_order.calls [Pan] {x0 : Value} {x1 : Value} {x2 : Value} {w : World} {Q : Value → World → Prop} (h : tree_order.F x0 x1 x2 w Q) : Calls Tryz.prog 222 #[x0, x1, x2] w (retP Q) :=
  calls_of_cw (H := tree_order.H) (c := tree_order.c) (args := [x0, x1, x2]) mixed Tryz.func222 (by kernel_rfl) (by kernel_rfl) (Nat.le_of_ble_eq_true (by kernel_rfl)) ((tree_order.eq x0 x1 x2 w Q).mpr h)

def tree_PutBack.H : Hints := { cut := fun  | _ => none, loop := fun  | _ => ([], 0), order := fun  | _ => [] }
def tree_PutBack.F [Pan] (x0 : Value) (x1 : Value) (x2 : Value) (x3 : Value) (x4 : Value) (w : World) (Q : Value → World → Prop) : Prop :=
 pN Tryz.prog (oCall 249 [x0, x1, x2, x3, x4, (.bool true)]) w fun x16 w1 =>
 Q x16 w1
noncomputable def tree_PutBack.c : Code := match Tryz.f245.body with | some c => c | none => .skip
theorem tree_PutBack.eq [Pan] (x0 : Value) (x1 : Value) (x2 : Value) (x3 : Value) (x4 : Value) (w : World) (Q : Value → World → Prop) : cw Tryz.prog tree_PutBack.H tree_PutBack.c (endQ Tryz.prog Tryz.f245.results.toList Q) (argsE [x0, x1, x2, x3, x4]) w = tree_PutBack.F x0 x1 x2 x3 x4 w Q := by kernel_rfl
theorem tree_PutBack.calls [Pan] {x0 : Value} {x1 : Value} {x2 : Value} {x3 : Value} {x4 : Value} {w : World} {Q : Value → World → Prop} (h : tree_PutBack.F x0 x1 x2 x3 x4 w Q) : Calls Tryz.prog 245 #[x0, x1, x2, x3, x4] w (retP Q) :=
  calls_of_cw (H := tree_PutBack.H) (c := tree_PutBack.c) (args := [x0, x1, x2, x3, x4]) mixed Tryz.func245 (by kernel_rfl) (by kernel_rfl) (Nat.le_of_ble_eq_true (by kernel_rfl)) ((tree_PutBack.eq x0 x1 x2 x3 x4 w Q).mpr h)

def tree_Put.H : Hints := { cut := fun  | _ => none, loop := fun  | _ => ([], 0), order := fun  | _ => [] }
def tree_Put.F [Pan] (x0 : Value) (x1 : Value) (x2 : Value) (x3 : Value) (x4 : Value) (w : World) (Q : Value → World → Prop) : Prop :=
 pN Tryz.prog (oCall 249 [x0, x1, x2, x3, x4, (.bool false)]) w fun x16 w1 =>
 Q x16 w1
noncomputable def tree_Put.c : Code := match Tryz.f248.body with | some c => c | none => .skip
theorem tree_Put.eq [Pan] (x0 : Value) (x1 : Value) (x2 : Value) (x3 : Value) (x4 : Value) (w : World) (Q : Value → World → Prop) : cw Tryz.prog tree_Put.H tree_Put.c (endQ Tryz.prog Tryz.f248.results.toList Q) (argsE [x0, x1, x2, x3, x4]) w = tree_Put.F x0 x1 x2 x3 x4 w Q := by kernel_rfl
theorem tree_Put.calls [Pan] {x0 : Value} {x1 : Value} {x2 : Value} {x3 : Value} {x4 : Value} {w : World} {Q : Value → World → Prop} (h : tree_Put.F x0 x1 x2 x3 x4 w Q) : Calls Tryz.prog 248 #[x0, x1, x2, x3, x4] w (retP Q) :=
  calls_of_cw (H := tree_Put.H) (c := tree_Put.c) (args := [x0, x1, x2, x3, x4]) mixed Tryz.func248 (by kernel_rfl) (by kernel_rfl) (Nat.le_of_ble_eq_true (by kernel_rfl)) ((tree_Put.eq x0 x1 x2 x3 x4 w Q).mpr h)

def tree_put.H : Hints := { cut := fun  | _ => none, loop := fun  | _ => ([], 0), order := fun  | _ => [] }
def tree_put.F [Pan] (x0 : Value) (x1 : Value) (x2 : Value) (x3 : Value) (x4 : Value) (x5 : Value) (w : World) (Q : Value → World → Prop) : Prop :=
 pN Tryz.prog (oBox 125 x0) w fun x6 w1 =>
 pN Tryz.prog (oBox 137 x1) w1 fun x7 w2 =>
 pN Tryz.prog (oBox 3 x3) w2 fun x9 w3 =>
 pN Tryz.prog (oBox 3 x4) w3 fun x10 w4 =>
 pN Tryz.prog (oBox 4 x5) w4 fun x11 w5 =>
 pN Tryz.prog (oLoad 137 x7) w5 fun x13 w6 =>
 pN Tryz.prog (oLoad 3 x9) w6 fun x15 w7 =>
 pN Tryz.prog (oCall 219 [x13, x2, x15]) w7 fun x16 w8 =>
 pN Tryz.prog (oUn .not x16) w8 fun x17 w9 =>
 pGd (gB x17 false) (pN Tryz.prog (oLoad 3 x10) w9) w9 fun x19 w10 =>
 pGd (gB x17 false) (pN Tryz.prog (oLoad 3 x9) w10) w10 fun x20 w11 =>
 pGd (gB x17 false) (pN Tryz.prog (oCall 251 [x19, x20]) w11) w11 fun x21 w12 =>
 pGd (gB x17 false) (pN Tryz.prog (oUn .not x21) w12) w12 fun x22 w13 =>
 pN Tryz.prog (oPick x17 (.bool true) x22) w13 fun x23 w14 =>
 pIf x23
 (Q (.int .i64 7) w14)
 (pN Tryz.prog (oLoad 3 x9) w14 fun x25 w15 =>
 pN Tryz.prog (oFn (.func 252) [] [x10, x11, x9, x6, x7]) w15 fun x26 w16 =>
 pN Tryz.prog (oCall 220 [x2, x25, x26]) w16 fun x27 w17 =>
 Q x27 w17)
noncomputable def tree_put.c : Code := match Tryz.f249.body with | some c => c | none => .skip
theorem tree_put.eq [Pan] (x0 : Value) (x1 : Value) (x2 : Value) (x3 : Value) (x4 : Value) (x5 : Value) (w : World) (Q : Value → World → Prop) : cw Tryz.prog tree_put.H tree_put.c (endQ Tryz.prog Tryz.f249.results.toList Q) (argsE [x0, x1, x2, x3, x4, x5]) w = tree_put.F x0 x1 x2 x3 x4 x5 w Q := by kernel_rfl
theorem tree_put.calls [Pan] {x0 : Value} {x1 : Value} {x2 : Value} {x3 : Value} {x4 : Value} {x5 : Value} {w : World} {Q : Value → World → Prop} (h : tree_put.F x0 x1 x2 x3 x4 x5 w Q) : Calls Tryz.prog 249 #[x0, x1, x2, x3, x4, x5] w (retP Q) :=
  calls_of_cw (H := tree_put.H) (c := tree_put.c) (args := [x0, x1, x2, x3, x4, x5]) mixed Tryz.func249 (by kernel_rfl) (by kernel_rfl) (Nat.le_of_ble_eq_true (by kernel_rfl)) ((tree_put.eq x0 x1 x2 x3 x4 x5 w Q).mpr h)

def tree_holds.H : Hints := { cut := fun  | _ => none, loop := fun  | _ => ([], 0), order := fun  | _ => [] }
def tree_holds.F [Pan] (x0 : Value) (x1 : Value) (w : World) (Q : Value → World → Prop) : Prop :=
 pN Tryz.prog (oBin .geq 3 (.tmp 5) (.const (.int .i64 0)) x0 (.int .i64 0)) w fun x6 w1 =>
 pGd (gB x6 true) (pN Tryz.prog (oMv x0) w1) w1 fun x8 w2 =>
 pGd (gB x6 true) (pN Tryz.prog (oMv x1) w2) w2 fun x9 w3 =>
 pGd (gB x6 true) (pN Tryz.prog (oBin .shl 3 (.const (.int .i64 1)) (.tmp 9) (.int .i64 1) x9) w3) w3 fun x10 w4 =>
 pGd (gB x6 true) (pN Tryz.prog (oBin .lss 3 (.tmp 8) (.tmp 10) x8 x10) w4) w4 fun x11 w5 =>
 pN Tryz.prog (oPick x6 x11 (.bool false)) w5 fun x12 w6 =>
 Q x12 w6
noncomputable def tree_holds.c : Code := match Tryz.f251.body with | some c => c | none => .skip
theorem tree_holds.eq [Pan] (x0 : Value) (x1 : Value) (w : World) (Q : Value → World → Prop) : cw Tryz.prog tree_holds.H tree_holds.c (endQ Tryz.prog Tryz.f251.results.toList Q) (argsE [x0, x1]) w = tree_holds.F x0 x1 w Q := by kernel_rfl
theorem tree_holds.calls [Pan] {x0 : Value} {x1 : Value} {w : World} {Q : Value → World → Prop} (h : tree_holds.F x0 x1 w Q) : Calls Tryz.prog 251 #[x0, x1] w (retP Q) :=
  calls_of_cw (H := tree_holds.H) (c := tree_holds.c) (args := [x0, x1]) mixed Tryz.func251 (by kernel_rfl) (by kernel_rfl) (Nat.le_of_ble_eq_true (by kernel_rfl)) ((tree_holds.eq x0 x1 w Q).mpr h)

def tree_put_c1.H : Hints := { cut := fun  | _ => none, loop := fun  | _ => ([], 0), order := fun | 1 => [(0, 0), (1, 1), (2, 3), (3, 7), (4, 15), (5, 31), (6, 63), (7, 127)] | _ => [] }
def tree_put_c1.F [Pan] (x0 : Value) (x1 : Value) (x2 : Value) (x3 : Value) (x4 : Value) (x5 : Value) (x6 : Value) (w : World) (Q : Value → World → Prop) : Prop :=
 pDr w fun w1 =>
 pL Tryz.prog (oLoad 3 x2) w1 fun x12 =>
 pL Tryz.prog (oLoad 4 x3) w1 fun x13 =>
 pL Tryz.prog (oLoad 3 x4) w1 fun x14 =>
 pN Tryz.prog (oCall 222 [x13, x14, x1]) w1 fun x16 w2 =>
 ((Sem.run Tryz.prog (oLoad 3 x2) w2 = .ok (.value x12) w2) ∧ True) ∧ (pA Tryz.prog (oBin .shr 3 (.tmp 12) (.tmp 16) x12 x16) fun x17 =>
 pA Tryz.prog (oBin .and 3 (.tmp 17) (.const (.int .i64 1)) x17 (.int .i64 1)) fun x18 =>
 pN Tryz.prog (oLoad 125 x5) w2 fun x20 w3 =>
 pN Tryz.prog (oLoad 137 x6) w3 fun x21 w4 =>
 pN Tryz.prog (oCall 246 [x20, x21, x0, x18]) w4 fun x24 w5 =>
 Q (.tuple #[x18, x24]) w5)
noncomputable def tree_put_c1.c : Code := match Tryz.f252.body with | some c => c | none => .skip
theorem tree_put_c1.eq [Pan] (x0 : Value) (x1 : Value) (x2 : Value) (x3 : Value) (x4 : Value) (x5 : Value) (x6 : Value) (w : World) (Q : Value → World → Prop) : cw Tryz.prog tree_put_c1.H tree_put_c1.c (endQ Tryz.prog Tryz.f252.results.toList Q) (argsE [x0, x1, x2, x3, x4, x5, x6]) w = tree_put_c1.F x0 x1 x2 x3 x4 x5 x6 w Q := by kernel_rfl
theorem tree_put_c1.calls [Pan] {x0 : Value} {x1 : Value} {x2 : Value} {x3 : Value} {x4 : Value} {x5 : Value} {x6 : Value} {w : World} {Q : Value → World → Prop} (h : tree_put_c1.F x0 x1 x2 x3 x4 x5 x6 w Q) : Calls Tryz.prog 252 #[x0, x1, x2, x3, x4, x5, x6] w (retP Q) :=
  calls_of_cw (H := tree_put_c1.H) (c := tree_put_c1.c) (args := [x0, x1, x2, x3, x4, x5, x6]) mixed Tryz.func252 (by kernel_rfl) (by kernel_rfl) (Nat.le_of_ble_eq_true (by kernel_rfl)) ((tree_put_c1.eq x0 x1 x2 x3 x4 x5 x6 w Q).mpr h)

def tree_CostBack.H : Hints := { cut := fun  | _ => none, loop := fun  | _ => ([], 0), order := fun  | _ => [] }
def tree_CostBack.F [Pan] (x0 : Value) (x1 : Value) (x2 : Value) (x3 : Value) (w : World) (Q : Value → World → Prop) : Prop :=
 pN Tryz.prog (oCall 260 [x0, x1, x2, x3, (.bool true)]) w fun x14 w1 =>
 pN Tryz.prog (oExt x14 0) w1 fun x15 w2 =>
 pN Tryz.prog (oExt x14 1) w2 fun x16 w3 =>
 Q (.tuple #[x15, x16]) w3
noncomputable def tree_CostBack.c : Code := match Tryz.f257.body with | some c => c | none => .skip
theorem tree_CostBack.eq [Pan] (x0 : Value) (x1 : Value) (x2 : Value) (x3 : Value) (w : World) (Q : Value → World → Prop) : cw Tryz.prog tree_CostBack.H tree_CostBack.c (endQ Tryz.prog Tryz.f257.results.toList Q) (argsE [x0, x1, x2, x3]) w = tree_CostBack.F x0 x1 x2 x3 w Q := by kernel_rfl
theorem tree_CostBack.calls [Pan] {x0 : Value} {x1 : Value} {x2 : Value} {x3 : Value} {w : World} {Q : Value → World → Prop} (h : tree_CostBack.F x0 x1 x2 x3 w Q) : Calls Tryz.prog 257 #[x0, x1, x2, x3] w (retP Q) :=
  calls_of_cw (H := tree_CostBack.H) (c := tree_CostBack.c) (args := [x0, x1, x2, x3]) mixed Tryz.func257 (by kernel_rfl) (by kernel_rfl) (Nat.le_of_ble_eq_true (by kernel_rfl)) ((tree_CostBack.eq x0 x1 x2 x3 w Q).mpr h)

def tree_Cost.H : Hints := { cut := fun  | _ => none, loop := fun  | _ => ([], 0), order := fun  | _ => [] }
def tree_Cost.F [Pan] (x0 : Value) (x1 : Value) (x2 : Value) (x3 : Value) (w : World) (Q : Value → World → Prop) : Prop :=
 pN Tryz.prog (oCall 260 [x0, x1, x2, x3, (.bool false)]) w fun x14 w1 =>
 pN Tryz.prog (oExt x14 0) w1 fun x15 w2 =>
 pN Tryz.prog (oExt x14 1) w2 fun x16 w3 =>
 Q (.tuple #[x15, x16]) w3
noncomputable def tree_Cost.c : Code := match Tryz.f259.body with | some c => c | none => .skip
theorem tree_Cost.eq [Pan] (x0 : Value) (x1 : Value) (x2 : Value) (x3 : Value) (w : World) (Q : Value → World → Prop) : cw Tryz.prog tree_Cost.H tree_Cost.c (endQ Tryz.prog Tryz.f259.results.toList Q) (argsE [x0, x1, x2, x3]) w = tree_Cost.F x0 x1 x2 x3 w Q := by kernel_rfl
theorem tree_Cost.calls [Pan] {x0 : Value} {x1 : Value} {x2 : Value} {x3 : Value} {w : World} {Q : Value → World → Prop} (h : tree_Cost.F x0 x1 x2 x3 w Q) : Calls Tryz.prog 259 #[x0, x1, x2, x3] w (retP Q) :=
  calls_of_cw (H := tree_Cost.H) (c := tree_Cost.c) (args := [x0, x1, x2, x3]) mixed Tryz.func259 (by kernel_rfl) (by kernel_rfl) (Nat.le_of_ble_eq_true (by kernel_rfl)) ((tree_Cost.eq x0 x1 x2 x3 w Q).mpr h)

def tree_cost.H : Hints := { cut := fun  | _ => none, loop := fun  | _ => ([], 0), order := fun  | _ => [] }
def tree_cost.F [Pan] (x0 : Value) (x1 : Value) (x2 : Value) (x3 : Value) (x4 : Value) (w : World) (Q : Value → World → Prop) : Prop :=
 pN Tryz.prog (oBox 137 x0) w fun x5 w1 =>
 pN Tryz.prog (oBox 3 x2) w1 fun x7 w2 =>
 pN Tryz.prog (oBox 3 x3) w2 fun x8 w3 =>
 pN Tryz.prog (oBox 4 x4) w3 fun x9 w4 =>
 pN Tryz.prog (oLoad 137 x5) w4 fun x14 w5 =>
 pN Tryz.prog (oLoad 3 x7) w5 fun x16 w6 =>
 pN Tryz.prog (oCall 219 [x14, x1, x16]) w6 fun x17 w7 =>
 pN Tryz.prog (oUn .not x17) w7 fun x18 w8 =>
 pGd (gB x18 false) (pN Tryz.prog (oLoad 3 x8) w8) w8 fun x20 w9 =>
 pGd (gB x18 false) (pN Tryz.prog (oLoad 3 x7) w9) w9 fun x21 w10 =>
 pGd (gB x18 false) (pN Tryz.prog (oCall 251 [x20, x21]) w10) w10 fun x22 w11 =>
 pGd (gB x18 false) (pN Tryz.prog (oUn .not x22) w11) w11 fun x23 w12 =>
 pN Tryz.prog (oPick x18 (.bool true) x23) w12 fun x24 w13 =>
 pIf x24
 (Q (.tuple #[(.int .i64 0), (.int .i64 7)]) w13)
 (pN Tryz.prog (oAlloc 3) w13 fun x12 w14 =>
 pN Tryz.prog (oStore 3 x12 (.int .i64 0)) w14 fun _ w15 =>
 pN Tryz.prog (oLoad 3 x7) w15 fun x26 w16 =>
 pN Tryz.prog (oFn (.func 262) [] [x8, x9, x7, x5, x12]) w16 fun x27 w17 =>
 pN Tryz.prog (oCall 220 [x1, x26, x27]) w17 fun x28 w18 =>
 pN Tryz.prog (oLoad 3 x12) w18 fun x29 w19 =>
 Q (.tuple #[x29, x28]) w19)
noncomputable def tree_cost.c : Code := match Tryz.f260.body with | some c => c | none => .skip
theorem tree_cost.eq [Pan] (x0 : Value) (x1 : Value) (x2 : Value) (x3 : Value) (x4 : Value) (w : World) (Q : Value → World → Prop) : cw Tryz.prog tree_cost.H tree_cost.c (endQ Tryz.prog Tryz.f260.results.toList Q) (argsE [x0, x1, x2, x3, x4]) w = tree_cost.F x0 x1 x2 x3 x4 w Q := by kernel_rfl
theorem tree_cost.calls [Pan] {x0 : Value} {x1 : Value} {x2 : Value} {x3 : Value} {x4 : Value} {w : World} {Q : Value → World → Prop} (h : tree_cost.F x0 x1 x2 x3 x4 w Q) : Calls Tryz.prog 260 #[x0, x1, x2, x3, x4] w (retP Q) :=
  calls_of_cw (H := tree_cost.H) (c := tree_cost.c) (args := [x0, x1, x2, x3, x4]) mixed Tryz.func260 (by kernel_rfl) (by kernel_rfl) (Nat.le_of_ble_eq_true (by kernel_rfl)) ((tree_cost.eq x0 x1 x2 x3 x4 w Q).mpr h)

def tree_cost_c1.H : Hints := { cut := fun  | _ => none, loop := fun  | _ => ([], 0), order := fun | 1 => [(0, 0), (1, 1), (2, 3), (3, 7), (4, 15), (5, 31), (6, 63), (7, 127)] | 3 => [(0, 0), (1, 1), (2, 3), (3, 7), (4, 15), (5, 31)] | _ => [] }
def tree_cost_c1.F [Pan] (x0 : Value) (x1 : Value) (x2 : Value) (x3 : Value) (x4 : Value) (x5 : Value) (x6 : Value) (w : World) (Q : Value → World → Prop) : Prop :=
 pDr w fun w1 =>
 pL Tryz.prog (oLoad 3 x2) w1 fun x14 =>
 pL Tryz.prog (oLoad 4 x3) w1 fun x15 =>
 pL Tryz.prog (oLoad 3 x4) w1 fun x16 =>
 pN Tryz.prog (oCall 222 [x15, x16, x1]) w1 fun x18 w2 =>
 ((Sem.run Tryz.prog (oLoad 3 x2) w2 = .ok (.value x14) w2) ∧ True) ∧ (pA Tryz.prog (oBin .shr 3 (.tmp 14) (.tmp 18) x14 x18) fun x19 =>
 pA Tryz.prog (oBin .and 3 (.tmp 19) (.const (.int .i64 1)) x19 (.int .i64 1)) fun x20 =>
 pN Tryz.prog (oLoad 137 x5) w2 fun x22 w3 =>
 pN Tryz.prog (oCall 179 [x22, x0]) w3 fun x24 w4 =>
 pN Tryz.prog (oExt x24 0) w4 fun x25 w5 =>
 pN Tryz.prog (oExt x24 1) w5 fun x26 w6 =>
 pDr w6 fun w7 =>
 pL Tryz.prog (oLoad 3 x6) w7 fun x27 =>
 pN Tryz.prog (oCall 258 [x25, x20]) w7 fun x30 w8 =>
 ((Sem.run Tryz.prog (oLoad 3 x6) w8 = .ok (.value x27) w8) ∧ True) ∧ (pA Tryz.prog (oBin .add 3 (.tmp 27) (.tmp 30) x27 x30) fun x31 =>
 pN Tryz.prog (oStore 3 x6 x31) w8 fun _ w9 =>
 (True) ∧ (Q (.tuple #[x20, x26]) w9)))
noncomputable def tree_cost_c1.c : Code := match Tryz.f262.body with | some c => c | none => .skip
theorem tree_cost_c1.eq [Pan] (x0 : Value) (x1 : Value) (x2 : Value) (x3 : Value) (x4 : Value) (x5 : Value) (x6 : Value) (w : World) (Q : Value → World → Prop) : cw Tryz.prog tree_cost_c1.H tree_cost_c1.c (endQ Tryz.prog Tryz.f262.results.toList Q) (argsE [x0, x1, x2, x3, x4, x5, x6]) w = tree_cost_c1.F x0 x1 x2 x3 x4 x5 x6 w Q := by kernel_rfl
theorem tree_cost_c1.calls [Pan] {x0 : Value} {x1 : Value} {x2 : Value} {x3 : Value} {x4 : Value} {x5 : Value} {x6 : Value} {w : World} {Q : Value → World → Prop} (h : tree_cost_c1.F x0 x1 x2 x3 x4 x5 x6 w Q) : Calls Tryz.prog 262 #[x0, x1, x2, x3, x4, x5, x6] w (retP Q) :=
  calls_of_cw (H := tree_cost_c1.H) (c := tree_cost_c1.c) (args := [x0, x1, x2, x3, x4, x5, x6]) mixed Tryz.func262 (by kernel_rfl) (by kernel_rfl) (Nat.le_of_ble_eq_true (by kernel_rfl)) ((tree_cost_c1.eq x0 x1 x2 x3 x4 x5 x6 w Q).mpr h)

end Go.Proofs.YtbgnnjfpiblkmaaGreatDoor

namespace Go.Proofs.YtbgnnjfpiblkmaaGreatDoor
open Go
set_option linter.unusedSimpArgs false
set_option linter.unnecessarySimpa false
set_option linter.unusedSectionVars false
set_option linter.unusedVariables false
set_option maxRecDepth 100000

def rcenc_New.H : Hints := { cut := fun  | _ => none, loop := fun  | _ => ([], 0), order := fun  | _ => [] }
def rcenc_New.F [Pan]  (w : World) (Q : Value → World → Prop) : Prop :=
 pN Tryz.prog (oBuild 190 [(1, (.int .u32 4294967295))]) w fun x1 w1 =>
 pN Tryz.prog (oBox 190 x1) w1 fun x2 w2 =>
 Q x2 w2
noncomputable def rcenc_New.c : Code := match Tryz.f62.body with | some c => c | none => .skip
theorem rcenc_New.eq [Pan]  (w : World) (Q : Value → World → Prop) : cw Tryz.prog rcenc_New.H rcenc_New.c (endQ Tryz.prog Tryz.f62.results.toList Q) (argsE []) w = rcenc_New.F  w Q := by kernel_rfl
theorem rcenc_New.calls [Pan]  {w : World} {Q : Value → World → Prop} (h : rcenc_New.F  w Q) : Calls Tryz.prog 62 #[] w (retP Q) :=
  calls_of_cw (H := rcenc_New.H) (c := rcenc_New.c) (args := []) mixed Tryz.func62 (by kernel_rfl) (by kernel_rfl) (Nat.le_of_ble_eq_true (by kernel_rfl)) ((rcenc_New.eq  w Q).mpr h)

def rcenc_Encoder_Bytes.H : Hints := { cut := fun  | _ => none, loop := fun | 3 => ([6], 1984) | _ => ([], 0), order := fun  | _ => [] }
def rcenc_Encoder_Bytes.F [Pan] (x0 : Value) (w : World) (Q : Value → World → Prop) : Prop :=
 pN Tryz.prog (oCall 82 [x0]) w fun x5 w1 =>
 ∃ (L3 : Value → World → Prop) (m3 : Value → World → Nat),
 L3 (.int .i64 0) w1 ∧
 ∀ (_k3 : Env) (v6l3 : Value) (w2 : World), L3 v6l3 w2 →
 pN Tryz.prog (oBin .lss 3 (.tmp 6) (.const (.int .i64 5)) v6l3 (.int .i64 5)) w2 fun x7 w3 =>
 pIf x7
 (pN Tryz.prog (oCall 125 [x5]) w3 fun _ w4 =>
 pN Tryz.prog (oBin .add 3 (.tmp 6) (.const (.int .i64 1)) v6l3 (.int .i64 1)) w4 fun x10 w5 =>
 (L3 x10 w5 ∧ m3 x10 w5 < m3 v6l3 w2))
 (pN Tryz.prog (oNil x5) w3 fun x12 w6 =>
 pN Tryz.prog (oFld 190 x12 4) w6 fun x13 w7 =>
 pN Tryz.prog (oLoad 30 x13) w7 fun x14 w8 =>
 Q x14 w8)
noncomputable def rcenc_Encoder_Bytes.c : Code := match Tryz.f76.body with | some c => c | none => .skip
theorem rcenc_Encoder_Bytes.eq [Pan] (x0 : Value) (w : World) (Q : Value → World → Prop) : cw Tryz.prog rcenc_Encoder_Bytes.H rcenc_Encoder_Bytes.c (endQ Tryz.prog Tryz.f76.results.toList Q) (argsE [x0]) w = rcenc_Encoder_Bytes.F x0 w Q := by kernel_rfl
theorem rcenc_Encoder_Bytes.calls [Pan] {x0 : Value} {w : World} {Q : Value → World → Prop} (h : rcenc_Encoder_Bytes.F x0 w Q) : Calls Tryz.prog 76 #[x0] w (retP Q) :=
  calls_of_cw (H := rcenc_Encoder_Bytes.H) (c := rcenc_Encoder_Bytes.c) (args := [x0]) mixed Tryz.func76 (by kernel_rfl) (by kernel_rfl) (Nat.le_of_ble_eq_true (by kernel_rfl)) ((rcenc_Encoder_Bytes.eq x0 w Q).mpr h)

def rcenc_Encoder_Fork.H : Hints := { cut := fun  | _ => none, loop := fun  | _ => ([], 0), order := fun | 2 => [(0, 0), (1, 1), (2, 3), (3, 7), (4, 15), (5, 31), (6, 63), (7, 127), (8, 255), (9, 511), (10, 1023), (12, 2047), (13, 6143), (14, 14335), (15, 30719), (11, 63487), (16, 65535), (17, 131071), (18, 262143)] | _ => [] }
def rcenc_Encoder_Fork.F [Pan] (x0 : Value) (w : World) (Q : Value → World → Prop) : Prop :=
 pN Tryz.prog (oNil x0) w fun x5 w1 =>
 pN Tryz.prog (oLoad 190 x5) w1 fun x6 w2 =>
 pN Tryz.prog (oAlloc 190) w2 fun x3 w3 =>
 pN Tryz.prog (oStore 190 x3 x6) w3 fun _ w4 =>
 pDr w4 fun w5 =>
 pA Tryz.prog (oNil x0) fun x8 =>
 pA Tryz.prog (oFld 190 x8 4) fun x9 =>
 pL Tryz.prog (oLoad 30 x9) w5 fun x10 =>
 pA Tryz.prog (oBi .len #[30] 3 [false] [x10]) fun x11 =>
 pA Tryz.prog (oNil x0) fun x13 =>
 pA Tryz.prog (oFld 190 x13 3) fun x14 =>
 pL Tryz.prog (oLoad 3 x14) w5 fun x15 =>
 pA Tryz.prog (oBin .add 3 (.tmp 11) (.tmp 15) x11 x15) fun x16 =>
 pA Tryz.prog (oBin .add 3 (.tmp 16) (.const (.int .i64 8)) x16 (.int .i64 8)) fun x17 =>
 pA Tryz.prog (oNil x0) fun x20 =>
 pA Tryz.prog (oFld 190 x20 4) fun x21 =>
 pL Tryz.prog (oLoad 30 x21) w5 fun x22 =>
 pN Tryz.prog (oMk 30 (.int .i64 0) x17) w5 fun x18 w6 =>
 ((Sem.run Tryz.prog (oLoad 30 x21) w6 = .ok (.value x22) w6) ∧ True) ∧ (pN Tryz.prog (oBi .append #[30, 30] 30 [false, false] [x18, x22]) w6 fun x23 w7 =>
 (True) ∧ (pA Tryz.prog (oFld 190 x3 4) fun x24 =>
 pN Tryz.prog (oStore 30 x24 x23) w7 fun _ w8 =>
 (True) ∧ (Q x3 w8)))
noncomputable def rcenc_Encoder_Fork.c : Code := match Tryz.f82.body with | some c => c | none => .skip
theorem rcenc_Encoder_Fork.eq [Pan] (x0 : Value) (w : World) (Q : Value → World → Prop) : cw Tryz.prog rcenc_Encoder_Fork.H rcenc_Encoder_Fork.c (endQ Tryz.prog Tryz.f82.results.toList Q) (argsE [x0]) w = rcenc_Encoder_Fork.F x0 w Q := by kernel_rfl
theorem rcenc_Encoder_Fork.calls [Pan] {x0 : Value} {w : World} {Q : Value → World → Prop} (h : rcenc_Encoder_Fork.F x0 w Q) : Calls Tryz.prog 82 #[x0] w (retP Q) :=
  calls_of_cw (H := rcenc_Encoder_Fork.H) (c := rcenc_Encoder_Fork.c) (args := [x0]) mixed Tryz.func82 (by kernel_rfl) (by kernel_rfl) (Nat.le_of_ble_eq_true (by kernel_rfl)) ((rcenc_Encoder_Fork.eq x0 w Q).mpr h)

def rcenc_Encoder_shift.H : Hints := { cut := fun | 8 => some ([], 37778931862957161709564) | _ => none, loop := fun | 3 => ([], 576460683583946752) | _ => ([], 0), order := fun | 2 => [(0, 0), (1, 1), (2, 3), (3, 7), (4, 15), (5, 31), (6, 63), (7, 127), (8, 255), (9, 511), (10, 1023), (11, 2047), (12, 4095), (13, 8191), (14, 16383), (15, 32767)] | _ => [] }
def rcenc_Encoder_shift.F [Pan] (x0 : Value) (w : World) (Q : Value → World → Prop) : Prop :=
 ∃ I8 : World → Prop,
 (pN Tryz.prog (oNil x0) w fun x4 w1 =>
 pN Tryz.prog (oFld 190 x4 0) w1 fun x5 w2 =>
 pN Tryz.prog (oLoad 188 x5) w2 fun x6 w3 =>
 pN Tryz.prog (oBin .lss 188 (.tmp 6) (.const (.int .u64 4278190080)) x6 (.int .u64 4278190080)) w3 fun x7 w4 =>
 pGd (gB x7 false) (pN Tryz.prog (oMv x0) w4) w4 fun x9 w5 =>
 pGd (gB x7 false) (pN Tryz.prog (oNil x9) w5) w5 fun x10 w6 =>
 pGd (gB x7 false) (pN Tryz.prog (oFld 190 x10 0) w6) w6 fun x11 w7 =>
 pGd (gB x7 false) (pN Tryz.prog (oLoad 188 x11) w7) w7 fun x12 w8 =>
 pGd (gB x7 false) (pN Tryz.prog (oBin .gtr 188 (.tmp 12) (.const (.int .u64 4294967295)) x12 (.int .u64 4294967295)) w8) w8 fun x13 w9 =>
 pN Tryz.prog (oPick x7 (.bool true) x13) w9 fun x14 w10 =>
 pIf x14
 (pN Tryz.prog (oNil x0) w10 fun x16 w11 =>
 pN Tryz.prog (oFld 190 x16 0) w11 fun x17 w12 =>
 pN Tryz.prog (oLoad 188 x17) w12 fun x18 w13 =>
 pN Tryz.prog (oBin .shr 188 (.tmp 18) (.const (.int .u64 32)) x18 (.int .u64 32)) w13 fun x19 w14 =>
 pN Tryz.prog (oConv 188 5 x19) w14 fun x20 w15 =>
 pDr w15 fun w16 =>
 pA Tryz.prog (oNil x0) fun x23 =>
 pA Tryz.prog (oFld 190 x23 4) fun x24 =>
 pL Tryz.prog (oLoad 30 x24) w16 fun x25 =>
 pA Tryz.prog (oNil x0) fun x27 =>
 pA Tryz.prog (oFld 190 x27 2) fun x28 =>
 pL Tryz.prog (oLoad 5 x28) w16 fun x29 =>
 pA Tryz.prog (oBin .add 5 (.tmp 29) (.tmp 30) x29 x20) fun x31 =>
 pN Tryz.prog (oBs 30 1 [(0, x31)]) w16 fun x32 w17 =>
 ((Sem.run Tryz.prog (oLoad 30 x24) w17 = .ok (.value x25) w17) ∧ True) ∧ (pN Tryz.prog (oBi .append #[30, 30] 30 [false, false] [x25, x32]) w17 fun x33 w18 =>
 (True) ∧ (pA Tryz.prog (oNil x0) fun x34 =>
 pA Tryz.prog (oFld 190 x34 4) fun x35 =>
 pN Tryz.prog (oStore 30 x35 x33) w18 fun _ w19 =>
 (True) ∧ (∃ (L3 : World → Prop) (m3 : World → Nat),
 L3 w19 ∧
 ∀ (_k3 : Env) (w20 : World), L3 w20 →
 pN Tryz.prog (oNil x0) w20 fun x37 w21 =>
 pN Tryz.prog (oFld 190 x37 3) w21 fun x38 w22 =>
 pN Tryz.prog (oLoad 3 x38) w22 fun x39 w23 =>
 pN Tryz.prog (oBin .gtr 3 (.tmp 39) (.const (.int .i64 0)) x39 (.int .i64 0)) w23 fun x40 w24 =>
 pIf x40
 (pN Tryz.prog (oNil x0) w24 fun x50 w25 =>
 pN Tryz.prog (oFld 190 x50 4) w25 fun x51 w26 =>
 pN Tryz.prog (oLoad 30 x51) w26 fun x52 w27 =>
 pN Tryz.prog (oBin .add 5 (.const (.int .u8 255)) (.tmp 53) (bv 255) x20) w27 fun x54 w28 =>
 pN Tryz.prog (oBs 30 1 [(0, x54)]) w28 fun x55 w29 =>
 pN Tryz.prog (oBi .append #[30, 30] 30 [false, false] [x52, x55]) w29 fun x56 w30 =>
 pN Tryz.prog (oNil x0) w30 fun x57 w31 =>
 pN Tryz.prog (oFld 190 x57 4) w31 fun x58 w32 =>
 pN Tryz.prog (oStore 30 x58 x56) w32 fun _ w33 =>
 pN Tryz.prog (oNil x0) w33 fun x42 w34 =>
 pN Tryz.prog (oFld 190 x42 3) w34 fun x43 w35 =>
 pN Tryz.prog (oLoad 3 x43) w35 fun x44 w36 =>
 pN Tryz.prog (oBin .sub 3 (.tmp 44) (.const (.int .i64 1)) x44 (.int .i64 1)) w36 fun x45 w37 =>
 pN Tryz.prog (oNil x0) w37 fun x46 w38 =>
 pN Tryz.prog (oFld 190 x46 3) w38 fun x47 w39 =>
 pN Tryz.prog (oStore 3 x47 x45) w39 fun _ w40 =>
 (L3 w40 ∧ m3 w40 < m3 w20))
 (pN Tryz.prog (oNil x0) w24 fun x61 w41 =>
 pN Tryz.prog (oFld 190 x61 0) w41 fun x62 w42 =>
 pN Tryz.prog (oLoad 188 x62) w42 fun x63 w43 =>
 pN Tryz.prog (oBin .shr 188 (.tmp 63) (.const (.int .u64 24)) x63 (.int .u64 24)) w43 fun x64 w44 =>
 pN Tryz.prog (oConv 188 5 x64) w44 fun x65 w45 =>
 pN Tryz.prog (oNil x0) w45 fun x66 w46 =>
 pN Tryz.prog (oFld 190 x66 2) w46 fun x67 w47 =>
 pN Tryz.prog (oStore 5 x67 x65) w47 fun _ w48 =>
 I8 w48)))))
 (pN Tryz.prog (oNil x0) w10 fun x69 w49 =>
 pN Tryz.prog (oFld 190 x69 3) w49 fun x70 w50 =>
 pN Tryz.prog (oLoad 3 x70) w50 fun x71 w51 =>
 pN Tryz.prog (oBin .add 3 (.tmp 71) (.const (.int .i64 1)) x71 (.int .i64 1)) w51 fun x72 w52 =>
 pN Tryz.prog (oNil x0) w52 fun x73 w53 =>
 pN Tryz.prog (oFld 190 x73 3) w53 fun x74 w54 =>
 pN Tryz.prog (oStore 3 x74 x72) w54 fun _ w55 =>
 I8 w55)) ∧
 ∀ (_j8 : Env) (w56 : World), I8 w56 →
 pN Tryz.prog (oNil x0) w56 fun x77 w57 =>
 pN Tryz.prog (oFld 190 x77 0) w57 fun x78 w58 =>
 pN Tryz.prog (oLoad 188 x78) w58 fun x79 w59 =>
 pN Tryz.prog (oBin .and 188 (.tmp 79) (.const (.int .u64 16777215)) x79 (.int .u64 16777215)) w59 fun x80 w60 =>
 pN Tryz.prog (oBin .shl 188 (.tmp 80) (.const (.int .u64 8)) x80 (.int .u64 8)) w60 fun x81 w61 =>
 pN Tryz.prog (oNil x0) w61 fun x82 w62 =>
 pN Tryz.prog (oFld 190 x82 0) w62 fun x83 w63 =>
 pN Tryz.prog (oStore 188 x83 x81) w63 fun _ w64 =>
 Q (.tuple #[]) w64
noncomputable def rcenc_Encoder_shift.c : Code := match Tryz.f125.body with | some c => c | none => .skip
theorem rcenc_Encoder_shift.eq [Pan] (x0 : Value) (w : World) (Q : Value → World → Prop) : cw Tryz.prog rcenc_Encoder_shift.H rcenc_Encoder_shift.c (endQ Tryz.prog Tryz.f125.results.toList Q) (argsE [x0]) w = rcenc_Encoder_shift.F x0 w Q := by kernel_rfl
theorem rcenc_Encoder_shift.calls [Pan] {x0 : Value} {w : World} {Q : Value → World → Prop} (h : rcenc_Encoder_shift.F x0 w Q) : Calls Tryz.prog 125 #[x0] w (retP Q) :=
  calls_of_cw (H := rcenc_Encoder_shift.H) (c := rcenc_Encoder_shift.c) (args := [x0]) mixed Tryz.func125 (by kernel_rfl) (by kernel_rfl) (Nat.le_of_ble_eq_true (by kernel_rfl)) ((rcenc_Encoder_shift.eq x0 w Q).mpr h)

def rcenc_Encoder_Bit.H : Hints := { cut := fun | 9 => some ([], 562949886312448) | _ => none, loop := fun  | _ => ([], 0), order := fun  | _ => [] }
def rcenc_Encoder_Bit.F [Pan] (x0 : Value) (x1 : Value) (x2 : Value) (x3 : Value) (w : World) (Q : Value → World → Prop) : Prop :=
 pN Tryz.prog (oCall 179 [x1, x2]) w fun x15 w1 =>
 pN Tryz.prog (oExt x15 0) w1 fun x16 w2 =>
 pN Tryz.prog (oExt x15 1) w2 fun x17 w3 =>
 pN Tryz.prog (oBin .neq 38 (.tmp 18) (.const (.int .i64 0)) x17 (.int .i64 0)) w3 fun x19 w4 =>
 pIf x19
 (Q (.int .i64 7) w4)
 (pN Tryz.prog (oNil x0) w4 fun x21 w5 =>
 pN Tryz.prog (oFld 190 x21 1) w5 fun x22 w6 =>
 pN Tryz.prog (oLoad 148 x22) w6 fun x23 w7 =>
 pN Tryz.prog (oCall 184 [x23, x16]) w7 fun x25 w8 =>
 ∃ I9 : World → Prop,
 (pN Tryz.prog (oBin .eql 3 (.tmp 26) (.const (.int .i64 0)) x3 (.int .i64 0)) w8 fun x27 w9 =>
 pIf x27
 (pN Tryz.prog (oNil x0) w9 fun x30 w10 =>
 pN Tryz.prog (oFld 190 x30 1) w10 fun x31 w11 =>
 pN Tryz.prog (oStore 148 x31 x25) w11 fun _ w12 =>
 I9 w12)
 (pN Tryz.prog (oNil x0) w9 fun x33 w13 =>
 pN Tryz.prog (oFld 190 x33 0) w13 fun x34 w14 =>
 pN Tryz.prog (oLoad 188 x34) w14 fun x35 w15 =>
 pN Tryz.prog (oConv 148 188 x25) w15 fun x37 w16 =>
 pN Tryz.prog (oBin .add 188 (.tmp 35) (.tmp 37) x35 x37) w16 fun x38 w17 =>
 pN Tryz.prog (oNil x0) w17 fun x39 w18 =>
 pN Tryz.prog (oFld 190 x39 0) w18 fun x40 w19 =>
 pN Tryz.prog (oStore 188 x40 x38) w19 fun _ w20 =>
 pN Tryz.prog (oNil x0) w20 fun x42 w21 =>
 pN Tryz.prog (oFld 190 x42 1) w21 fun x43 w22 =>
 pN Tryz.prog (oLoad 148 x43) w22 fun x44 w23 =>
 pN Tryz.prog (oBin .sub 148 (.tmp 44) (.tmp 45) x44 x25) w23 fun x46 w24 =>
 pN Tryz.prog (oNil x0) w24 fun x47 w25 =>
 pN Tryz.prog (oFld 190 x47 1) w25 fun x48 w26 =>
 pN Tryz.prog (oStore 148 x48 x46) w26 fun _ w27 =>
 I9 w27)) ∧
 ∀ (_j9 : Env) (w28 : World), I9 w28 →
 pN Tryz.prog (oCall 250 [x0]) w28 fun _ w29 =>
 pN Tryz.prog (oCall 182 [x1, x2, x3]) w29 fun x54 w30 =>
 Q x54 w30)
noncomputable def rcenc_Encoder_Bit.c : Code := match Tryz.f246.body with | some c => c | none => .skip
theorem rcenc_Encoder_Bit.eq [Pan] (x0 : Value) (x1 : Value) (x2 : Value) (x3 : Value) (w : World) (Q : Value → World → Prop) : cw Tryz.prog rcenc_Encoder_Bit.H rcenc_Encoder_Bit.c (endQ Tryz.prog Tryz.f246.results.toList Q) (argsE [x0, x1, x2, x3]) w = rcenc_Encoder_Bit.F x0 x1 x2 x3 w Q := by kernel_rfl
theorem rcenc_Encoder_Bit.calls [Pan] {x0 : Value} {x1 : Value} {x2 : Value} {x3 : Value} {w : World} {Q : Value → World → Prop} (h : rcenc_Encoder_Bit.F x0 x1 x2 x3 w Q) : Calls Tryz.prog 246 #[x0, x1, x2, x3] w (retP Q) :=
  calls_of_cw (H := rcenc_Encoder_Bit.H) (c := rcenc_Encoder_Bit.c) (args := [x0, x1, x2, x3]) mixed Tryz.func246 (by kernel_rfl) (by kernel_rfl) (Nat.le_of_ble_eq_true (by kernel_rfl)) ((rcenc_Encoder_Bit.eq x0 x1 x2 x3 w Q).mpr h)

def rcenc_Encoder_Direct.H : Hints := { cut := fun | 5 => some ([], 35184371564544) | 9 => some ([], 8796025913344) | _ => none, loop := fun | 4 => ([2], 35184372056068) | _ => ([], 0), order := fun | 8 => [(0, 0), (1, 1), (2, 3), (3, 7), (4, 15), (5, 31), (6, 63), (7, 127), (8, 255), (9, 511), (10, 1023), (11, 2047), (12, 4095)] | _ => [] }
def rcenc_Encoder_Direct.F [Pan] (x0 : Value) (x1 : Value) (x2 : Value) (w : World) (Q : Value → World → Prop) : Prop :=
 pN Tryz.prog (oBin .lss 3 (.tmp 7) (.const (.int .i64 0)) x2 (.int .i64 0)) w fun x8 w1 =>
 pGd (gB x8 false) (pN Tryz.prog (oMv x2) w1) w1 fun x10 w2 =>
 pGd (gB x8 false) (pN Tryz.prog (oBin .gtr 3 (.tmp 10) (.const (.int .i64 32)) x10 (.int .i64 32)) w2) w2 fun x11 w3 =>
 pN Tryz.prog (oPick x8 (.bool true) x11) w3 fun x12 w4 =>
 pIf x12
 (Q (.int .i64 7) w4)
 (pN Tryz.prog (oBin .sub 3 (.tmp 13) (.const (.int .i64 1)) x2 (.int .i64 1)) w4 fun x14 w5 =>
 ∃ (L4 : Value → World → Prop) (m4 : Value → World → Nat),
 L4 x14 w5 ∧
 ∀ (_k4 : Env) (n2l4 : Value) (w6 : World), L4 n2l4 w6 →
 pN Tryz.prog (oBin .geq 3 (.tmp 15) (.const (.int .i64 0)) n2l4 (.int .i64 0)) w6 fun x16 w7 =>
 pIf x16
 (∃ I5 : World → Prop,
 (pN Tryz.prog (oNil x0) w7 fun x20 w8 =>
 pN Tryz.prog (oFld 190 x20 1) w8 fun x21 w9 =>
 pN Tryz.prog (oLoad 148 x21) w9 fun x22 w10 =>
 pN Tryz.prog (oBin .quo 148 (.tmp 22) (.const (.int .u32 2)) x22 (.int .u32 2)) w10 fun x23 w11 =>
 pN Tryz.prog (oNil x0) w11 fun x24 w12 =>
 pN Tryz.prog (oFld 190 x24 1) w12 fun x25 w13 =>
 pN Tryz.prog (oStore 148 x25 x23) w13 fun _ w14 =>
 ∃ I9 : World → Prop,
 (pN Tryz.prog (oBin .shr 148 (.tmp 26) (.tmp 27) x1 n2l4) w14 fun x28 w15 =>
 pN Tryz.prog (oBin .and 148 (.tmp 28) (.const (.int .u32 1)) x28 (.int .u32 1)) w15 fun x29 w16 =>
 pN Tryz.prog (oBin .eql 148 (.tmp 29) (.const (.int .u32 1)) x29 (.int .u32 1)) w16 fun x30 w17 =>
 pIf x30
 (pDr w17 fun w18 =>
 pA Tryz.prog (oNil x0) fun x32 =>
 pA Tryz.prog (oFld 190 x32 0) fun x33 =>
 pL Tryz.prog (oLoad 188 x33) w18 fun x34 =>
 pA Tryz.prog (oNil x0) fun x36 =>
 pA Tryz.prog (oFld 190 x36 1) fun x37 =>
 pL Tryz.prog (oLoad 148 x37) w18 fun x38 =>
 pL Tryz.prog (oConv 148 188 x38) w18 fun x39 =>
 pA Tryz.prog (oBin .add 188 (.tmp 34) (.tmp 39) x34 x39) fun x40 =>
 pA Tryz.prog (oNil x0) fun x41 =>
 pA Tryz.prog (oFld 190 x41 0) fun x42 =>
 pN Tryz.prog (oStore 188 x42 x40) w18 fun _ w19 =>
 (True) ∧ (I9 w19))
 (I9 w17)) ∧
 ∀ (_j9 : Env) (w20 : World), I9 w20 →
 pN Tryz.prog (oCall 250 [x0]) w20 fun _ w21 =>
 I5 w21) ∧
 ∀ (_j5 : Env) (w22 : World), I5 w22 →
 pN Tryz.prog (oBin .sub 3 (.tmp 17) (.const (.int .i64 1)) n2l4 (.int .i64 1)) w22 fun x18 w23 =>
 (L4 x18 w23 ∧ m4 x18 w23 < m4 n2l4 w6))
 (Q (.int .i64 0) w7))
noncomputable def rcenc_Encoder_Direct.c : Code := match Tryz.f247.body with | some c => c | none => .skip
theorem rcenc_Encoder_Direct.eq [Pan] (x0 : Value) (x1 : Value) (x2 : Value) (w : World) (Q : Value → World → Prop) : cw Tryz.prog rcenc_Encoder_Direct.H rcenc_Encoder_Direct.c (endQ Tryz.prog Tryz.f247.results.toList Q) (argsE [x0, x1, x2]) w = rcenc_Encoder_Direct.F x0 x1 x2 w Q := by kernel_rfl
theorem rcenc_Encoder_Direct.calls [Pan] {x0 : Value} {x1 : Value} {x2 : Value} {w : World} {Q : Value → World → Prop} (h : rcenc_Encoder_Direct.F x0 x1 x2 w Q) : Calls Tryz.prog 247 #[x0, x1, x2] w (retP Q) :=
  calls_of_cw (H := rcenc_Encoder_Direct.H) (c := rcenc_Encoder_Direct.c) (args := [x0, x1, x2]) mixed Tryz.func247 (by kernel_rfl) (by kernel_rfl) (Nat.le_of_ble_eq_true (by kernel_rfl)) ((rcenc_Encoder_Direct.eq x0 x1 x2 w Q).mpr h)

def rcenc_Encoder_widen.H : Hints := { cut := fun  | _ => none, loop := fun | 0 => ([], 65532) | _ => ([], 0), order := fun  | _ => [] }
def rcenc_Encoder_widen.F [Pan] (x0 : Value) (w : World) (Q : Value → World → Prop) : Prop :=
 ∃ (L0 : World → Prop) (m0 : World → Nat),
 L0 w ∧
 ∀ (_k0 : Env) (w1 : World), L0 w1 →
 pN Tryz.prog (oNil x0) w1 fun x3 w2 =>
 pN Tryz.prog (oFld 190 x3 1) w2 fun x4 w3 =>
 pN Tryz.prog (oLoad 148 x4) w3 fun x5 w4 =>
 pN Tryz.prog (oBin .lss 148 (.tmp 5) (.const (.int .u32 16777216)) x5 (.int .u32 16777216)) w4 fun x6 w5 =>
 pIf x6
 (pN Tryz.prog (oNil x0) w5 fun x8 w6 =>
 pN Tryz.prog (oFld 190 x8 1) w6 fun x9 w7 =>
 pN Tryz.prog (oLoad 148 x9) w7 fun x10 w8 =>
 pN Tryz.prog (oBin .shl 148 (.tmp 10) (.const (.int .u64 8)) x10 (.int .u64 8)) w8 fun x11 w9 =>
 pN Tryz.prog (oNil x0) w9 fun x12 w10 =>
 pN Tryz.prog (oFld 190 x12 1) w10 fun x13 w11 =>
 pN Tryz.prog (oStore 148 x13 x11) w11 fun _ w12 =>
 pN Tryz.prog (oCall 125 [x0]) w12 fun _ w13 =>
 (L0 w13 ∧ m0 w13 < m0 w1))
 (Q (.tuple #[]) w5)
noncomputable def rcenc_Encoder_widen.c : Code := match Tryz.f250.body with | some c => c | none => .skip
theorem rcenc_Encoder_widen.eq [Pan] (x0 : Value) (w : World) (Q : Value → World → Prop) : cw Tryz.prog rcenc_Encoder_widen.H rcenc_Encoder_widen.c (endQ Tryz.prog Tryz.f250.results.toList Q) (argsE [x0]) w = rcenc_Encoder_widen.F x0 w Q := by kernel_rfl
theorem rcenc_Encoder_widen.calls [Pan] {x0 : Value} {w : World} {Q : Value → World → Prop} (h : rcenc_Encoder_widen.F x0 w Q) : Calls Tryz.prog 250 #[x0] w (retP Q) :=
  calls_of_cw (H := rcenc_Encoder_widen.H) (c := rcenc_Encoder_widen.c) (args := [x0]) mixed Tryz.func250 (by kernel_rfl) (by kernel_rfl) (Nat.le_of_ble_eq_true (by kernel_rfl)) ((rcenc_Encoder_widen.eq x0 w Q).mpr h)

end Go.Proofs.YtbgnnjfpiblkmaaGreatDoor
