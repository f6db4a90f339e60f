/-
  The decoder's answers to questions, on both sides; what package pithlaw08 knows.
-/
import Derived.Test.YtoejaggkedlfmaaLfPithlaw08
import Derived.Test.YtoejaggkedlfmaaDecD
import Derived.Test.YtoejaggkedlfmaaRef8
import Derived.Test.YtoejaggkedlfmaaRcenc
namespace Go.Proofs.Ytoejaggkedlfmaa
open Go
set_option linter.unusedSimpArgs false
set_option linter.unnecessarySimpa false
set_option linter.unusedSectionVars false
set_option linter.unusedVariables false
attribute [local irreducible] oMv oV oU oCall oCallV oBi oBin oUn oLoad oStore oNil oFld oField oIdx oIndex oPick oAlloc oBox oBuild oBs oConv oMk oSl oExt oFn oIface oMap oLook oMapUp oRange oNext oAssert oPanic oRes pN pA pL pDr pIf gA pGd

namespace D
/-- A question for a bit: the decoder behind it, the row, the bit, the number. -/
def S.bitQ (st : S) (l : List Int) (i : Int) : S × List Int × Int × Int :=
  if 0 ≤ i ∧ i < l.length then match st.bit (B.bound st.R (l.getD i.toNat 0)) with
    | .ok t v => (t, l.set i.toNat (B.next (l.getD i.toNat 0) v), v, 0)
    | .no e => (st, l, 0, e)
  else (st, l, 0, 7)
/-- A question for bits without a probability. -/
def S.dirQ (st : S) (n : Int) : S × Int × Int :=
  if 0 ≤ n ∧ n ≤ 32 then match st.direct 0 n.toNat with
    | .ok t v => (t, v, 0)
    | .no e => (st, 0, e)
  else (st, 0, 7)
theorem bit_mid {st : S} (ho : Ok st) {l : List Int} (hf : B.Fine l) {i : Int} (h : 0 ≤ i ∧ i < l.length) : 65536 ≤ B.bound st.R (l.getD i.toNat 0) ∧ 65536 ≤ st.R - B.bound st.R (l.getD i.toNat 0) := by
  have hx : l[i.toNat]? = some (l.getD i.toNat 0) := by
    rw [List.getD_eq_getElem?_getD, List.getElem?_eq_getElem (show i.toNat < l.length by omega)]; rfl
  have hp := hf.get hx
  exact bound_mid ho.r0 hp.1 hp.2
theorem bitQ_ok {st : S} (ho : Ok st) {l : List Int} (hf : B.Fine l) (i : Int) : Ok (st.bitQ l i).1 ∧ (st.bitQ l i).1.b = st.b ∧ B.Fine (st.bitQ l i).2.1 ∧ (st.bitQ l i).2.1.length = l.length := by
  unfold S.bitQ
  split
  · rename_i h
    have hm := bit_mid ho hf h
    split
    · rename_i t v e
      have := ho.bit hm.1 hm.2 e
      have hx : l[i.toNat]? = some (l.getD i.toNat 0) := by
        rw [List.getD_eq_getElem?_getD, List.getElem?_eq_getElem (show i.toNat < l.length by omega)]; rfl
      have o1 := ((⟨R.Ok.new, hf⟩ : R.TS.Ok ⟨R.S.new, l⟩).bit h.1 h.2 v).1.f
      exact ⟨this.1, this.2.1, o1, by simp⟩
    · exact ⟨ho, rfl, hf, rfl⟩
  · exact ⟨ho, rfl, hf, rfl⟩
theorem dirQ_ok {st : S} (ho : Ok st) (n : Int) : Ok (st.dirQ n).1 ∧ (st.dirQ n).1.b = st.b := by
  unfold S.dirQ
  split
  · split
    · rename_i t v e
      exact Ok.direct _ ho e
    · exact ⟨ho, rfl⟩
  · exact ⟨ho, rfl⟩
end D

section
variable {E w : World} {M : List HA} {Q : Value → World → Prop} {d p : Nat} {st : D.S} {l : List Int}

theorem DBit_q (hS : Sat E w (Dec d st :: PSet p l :: M)) (ho : D.Ok st) (hf : B.Fine l) (hb : st.b.length ≤ 225000000000000) (i : Int)
    (hQ : ∀ w, Sat E w (Dec d (st.bitQ l i).1 :: PSet p (st.bitQ l i).2.1 :: M) → Q (.tuple #[.int .i64 (st.bitQ l i).2.2.1, .int .i64 (st.bitQ l i).2.2.2]) w) :
    Calls Try.prog 49 #[.pointer (some ⟨d, 0, none⟩), .pointer (some ⟨p, 0, none⟩), .int .i64 i] w (retP Q) := by
  unfold D.S.bitQ at hQ
  refine DBit_ok hS ho hf hb i (fun h w hS => ?_) (fun t v w h0 h1 e hS => ?_) fun e w h0 h1 he hS => ?_
  · simp only [if_neg h] at hQ; exact hQ w hS
  · simp only [if_pos (show 0 ≤ i ∧ i < l.length from ⟨h0, h1⟩), e] at hQ; exact hQ w hS
  · simp only [if_pos (show 0 ≤ i ∧ i < l.length from ⟨h0, h1⟩), he] at hQ; exact hQ w hS
theorem R8Bit_q (hS : Sat E w (RDec d st :: RSet p l :: M)) (ho : D.Ok st) (hf : B.Fine l) (hb : st.b.length ≤ 140737488355328) (i : Int)
    (hQ : ∀ w, Sat E w (RDec d (st.bitQ l i).1 :: RSet p (st.bitQ l i).2.1 :: M) → Q (.tuple #[.int .i64 (st.bitQ l i).2.2.1, .int .i64 (st.bitQ l i).2.2.2]) w) :
    Calls Try.prog 50 #[.pointer (some ⟨d, 0, none⟩), .pointer (some ⟨p, 0, none⟩), .int .i64 i] w (retP Q) := by
  unfold D.S.bitQ at hQ
  refine R8Bit_ok hS ho hf hb i (fun h w hS => ?_) (fun t v w h0 h1 e hS => ?_) fun e w h0 h1 he hS => ?_
  · simp only [if_neg h] at hQ; exact hQ w hS
  · simp only [if_pos (show 0 ≤ i ∧ i < l.length from ⟨h0, h1⟩), e] at hQ; exact hQ w hS
  · simp only [if_pos (show 0 ≤ i ∧ i < l.length from ⟨h0, h1⟩), he] at hQ; exact hQ w hS
theorem DDirect_q (hS : Sat E w (Dec d st :: M)) (ho : D.Ok st) (hb : st.b.length ≤ 225000000000000) (n : Int)
    (hQ : ∀ w, Sat E w (Dec d (st.dirQ n).1 :: M) → Q (.tuple #[.int .u32 (st.dirQ n).2.1, .int .i64 (st.dirQ n).2.2]) w) :
    Calls Try.prog 47 #[.pointer (some ⟨d, 0, none⟩), .int .i64 n] w (retP Q) := by
  unfold D.S.dirQ at hQ
  refine DDirect_ok hS ho hb n (fun h w hS => ?_) (fun t v w h0 h1 e hS => ?_) fun e w h0 h1 he hS => ?_
  · simp only [if_neg h] at hQ; exact hQ w hS
  · simp only [if_pos (show 0 ≤ n ∧ n ≤ 32 from ⟨h0, h1⟩), e] at hQ; exact hQ w hS
  · simp only [if_pos (show 0 ≤ n ∧ n ≤ 32 from ⟨h0, h1⟩), he] at hQ; exact hQ w hS
theorem R8Direct_q (hS : Sat E w (RDec d st :: M)) (ho : D.Ok st) (hb : st.b.length ≤ 140737488355328) (n : Int)
    (hQ : ∀ w, Sat E w (RDec d (st.dirQ n).1 :: M) → Q (.tuple #[.int .u32 (st.dirQ n).2.1, .int .i64 (st.dirQ n).2.2]) w) :
    Calls Try.prog 48 #[.pointer (some ⟨d, 0, none⟩), .int .i64 n] w (retP Q) := by
  unfold D.S.dirQ at hQ
  refine R8Direct_ok hS ho hb n (fun h w hS => ?_) (fun t v w h0 h1 e hS => ?_) fun e w h0 h1 he hS => ?_
  · simp only [if_neg h] at hQ; exact hQ w hS
  · simp only [if_pos (show 0 ≤ n ∧ n ≤ 32 from ⟨h0, h1⟩), e] at hQ; exact hQ w hS
  · simp only [if_pos (show 0 ≤ n ∧ n ≤ 32 from ⟨h0, h1⟩), he] at hQ; exact hQ w hS
theorem DNew_in {s0 : Sl} {l : List UInt8} (hS : Sat E w M) [hr : Rds cd_uint8 M s0 l] (hb : l.length ≤ 225000000000000) {t : D.S} (h : D.start l = .ok t ())
    (hok : ∀ d w, Sat E w (Dec d t :: M) → Q (.tuple #[.pointer (some ⟨d, 0, none⟩), .int .i64 0]) w) : Calls Try.prog 42 #[.slice s0.a l.length s0.c] w (retP Q) :=
  DNew_ok hS hb (fun t' d w e hS => by rw [h] at e; cases e; exact hok d w hS) fun e w he _ => by rw [h] at he; cases he
theorem DNew_no {s0 : Sl} {l : List UInt8} (hS : Sat E w M) [hr : Rds cd_uint8 M s0 l] (hb : l.length ≤ 225000000000000) {e : Int} (h : D.start l = .no e)
    (hre : ∀ w, Sat E w M → Q (.tuple #[.pointer none, .int .i64 e]) w) : Calls Try.prog 42 #[.slice s0.a l.length s0.c] w (retP Q) :=
  DNew_ok hS hb (fun t' d w e hS => by rw [h] at e; cases e) fun e' w he hS => by rw [h] at he; cases he; exact hre w hS
theorem R8New_in {s0 : Sl} {l : List UInt8} (hS : Sat E w M) [hr : Rds cd_uint8 M s0 l] (hb : l.length ≤ 140737488355328) {t : D.S} (h : D.start l = .ok t ())
    (hok : ∀ d w, Sat E w (RDec d t :: M) → Q (.tuple #[.pointer (some ⟨d, 0, none⟩), .int .i64 0]) w) : Calls Try.prog 43 #[.slice s0.a l.length s0.c] w (retP Q) :=
  R8New_ok hS hb (fun t' d w e hS => by rw [h] at e; cases e; exact hok d w hS) fun e w he _ => by rw [h] at he; cases he
theorem R8New_no {s0 : Sl} {l : List UInt8} (hS : Sat E w M) [hr : Rds cd_uint8 M s0 l] (hb : l.length ≤ 140737488355328) {e : Int} (h : D.start l = .no e)
    (hre : ∀ w, Sat E w M → Q (.tuple #[.pointer none, .int .i64 e]) w) : Calls Try.prog 43 #[.slice s0.a l.length s0.c] w (retP Q) :=
  R8New_ok hS hb (fun t' d w e hS => by rw [h] at e; cases e) fun e' w he hS => by rw [h] at he; cases he; exact hre w hS

theorem num_ok (n : Int) (h : -9223372036854775808 ≤ n ∧ n < 9223372036854775808) (hQ : Q (.int .i64 n) w) : Calls Try.prog 44 #[.int .i64 n] w (retP Q) := by
  refine pithlaw08_num.calls ?_
  unfold pithlaw08_num.F
  skip
  exact hQ

theorem known_1 : D.start [0, 127, 255, 252, 0] = .ok ⟨[0, 127, 255, 252, 0], 5, 4294967295, 2147482624⟩ () := by simp [D.start, D.front, R.num]
theorem known_2 : D.start [0, 255, 255, 255, 254] = .ok ⟨[0, 255, 255, 255, 254], 5, 4294967295, 4294967294⟩ () := by simp [D.start, D.front, R.num]
theorem known_b : B.bound 4294967295 1024 = 2147482624 := by decide
theorem known_3 : (⟨[0, 127, 255, 252, 0], 5, 4294967295, 2147482624⟩ : D.S).bitQ [1024] 0 = (⟨[0, 127, 255, 252, 0], 5, 2147484671, 0⟩, [B.next 1024 1], 1, 0) := by
  simp [D.S.bitQ, D.S.bit, known_b, D.S.cut, D.S.widen, D.S.bitAt]
theorem known_4 : (⟨[0, 255, 255, 255, 254], 5, 4294967295, 4294967294⟩ : D.S).dirQ 1 = (⟨[0, 255, 255, 255, 254], 5, 4294967295, 4294967294⟩, 0, 2) := by
  simp [D.S.dirQ, D.S.direct, D.S.one]

set_option maxHeartbeats 2000000 in
theorem known_ok (hS : Sat E w M) (hQ : ∀ w, Sat E w M → Q (.bool true) w) : Calls Try.prog 41 #[] w (retP Q) := by
  refine pithlaw08_known.calls ?_
  unfold pithlaw08_known.F
  refine pN_bl (C := cd_uint8) [bv 0, bv 127, bv 255, bv 252, bv 0] [0, 127, 255, 252, 0] rfl rfl rfl (Nat.le_of_ble_eq_true rfl) hS (Nat.le_of_ble_eq_true rfl) fun s w hS => ?_
  repeat' (first | refine pc_pithlaw08_num (num_ok _ (by decide) ?_) | (refine pc_rcdec_New (DNew_in hS (by decide) known_1 ?_); clear hS; intro d w hS) | (refine pc_prob_New (New_ok hS 1 (by decide) (by decide) ?_); clear hS; intro p w hS) | (refine pN_neq_s ?_ ?_ <;> intro hc <;> try (exfalso; first | omega | exact hc rfl | exact hc (by assumption) | exact absurd hc (by assumption))) | refine pIf_f ?_ | refine pGd_go (by rfl) ?_ | refine pN_via (by (intro K; simp (disch := omega) only [go_sem, pN_min, pN_max, w_u32, w_u64, Option.isNone_some, Option.isNone_none]; (try simp only [wrap_u32, wrap_u64]); rfl)) ?_ | fail)
  have hS : Sat E w (Dec d ⟨[0, 127, 255, 252, 0], 5, 4294967295, 2147482624⟩ :: PSet p [1024] :: rows cd_uint8 s [0, 127, 255, 252, 0] :: M) := (show Sat E w (PSet p [1024] :: Dec d ⟨[0, 127, 255, 252, 0], 5, 4294967295, 2147482624⟩ :: rows cd_uint8 s [0, 127, 255, 252, 0] :: M) from hS).to
  refine pc_rcdec_Decoder_Bit (DBit_q hS (D.start_ok known_1).1 (B.Fine.new 1) (by decide) 0 fun w hS => ?_)
  rw [known_3] at hS ⊢
  repeat' (first | refine pN_via (by (intro K; simp (disch := omega) only [go_sem, pN_min, pN_max, w_u32, w_u64, Option.isNone_some, Option.isNone_none]; (try simp only [wrap_u32, wrap_u64]); rfl)) ?_ | fail)
  refine pN_bl (C := cd_uint8) [bv 0, bv 255, bv 255, bv 255, bv 254] [0, 255, 255, 255, 254] rfl rfl rfl (Nat.le_of_ble_eq_true rfl) hS (Nat.le_of_ble_eq_true rfl) fun s2 w hS => ?_
  repeat' (first | refine pc_pithlaw08_num (num_ok _ (by decide) ?_) | (refine pc_rcdec_New (DNew_in hS (by decide) known_2 ?_); clear hS; intro d2 w hS) | (refine pN_neq_s ?_ ?_ <;> intro hc <;> try (exfalso; first | omega | exact hc rfl | exact hc (by assumption) | exact absurd hc (by assumption))) | refine pIf_f ?_ | refine pGd_go (by rfl) ?_ | refine pN_via (by (intro K; simp (disch := omega) only [go_sem, pN_min, pN_max, w_u32, w_u64, Option.isNone_some, Option.isNone_none]; (try simp only [wrap_u32, wrap_u64]); rfl)) ?_ | fail)
  refine pc_rcdec_Decoder_Direct (DDirect_q hS (D.start_ok known_2).1 (by decide) 1 fun w hS => ?_)
  rw [known_4] at hS ⊢
  have hd : decide ((5 : Nat) = ([0, 127, 255, 252, 0] : List UInt8).length ∧ (0 : Int) = 0) = true := by decide
  repeat' (first | refine pc_pithlaw08_num (num_ok _ (by decide) ?_) | (refine pc_rcdec_Decoder_Used (Used_ok (hS.fd (Dec _)) ?_); clear hS; intro w hS) | (refine pN_eql_s ?_ ?_ <;> intro hc <;> try (exfalso; first | omega | exact hc rfl | exact hc (by assumption) | exact absurd hc (by assumption))) | refine pGd_go (by rfl) ?_ | refine pN_via (by (intro K; simp (disch := omega) only [go_sem, pN_min, pN_max, w_u32, w_u64, Option.isNone_some, Option.isNone_none]; (try simp only [wrap_u32, wrap_u64]); rfl)) ?_ | fail)
  refine pc_rcdec_Decoder_Done (Done_ok (hS.fd (Dec d)) fun w hS => ?_)
  dsimp only
  rw [hd]
  repeat' (first | refine pc_pithlaw08_num (num_ok _ (by decide) ?_) | (refine pc_rcdec_Decoder_Used (Used_ok (hS.fd (Dec _)) ?_); clear hS; intro w hS) | (refine pN_eql_s ?_ ?_ <;> intro hc <;> try (exfalso; first | omega | exact hc rfl | exact hc (by assumption) | exact absurd hc (by assumption))) | refine pGd_go (by rfl) ?_ | refine pN_via (by (intro K; simp (disch := omega) only [go_sem, pN_min, pN_max, w_u32, w_u64, Option.isNone_some, Option.isNone_none]; (try simp only [wrap_u32, wrap_u64]); rfl)) ?_ | fail)
  exact hQ _ hS.to

theorem alike8_ok {r : Nat} (hS : Sat E w (PSet p l :: RSet r l :: M)) (n : Nat) (hn : n ≤ l.length) (hb : n ≤ 140737488355328) (hQ : ∀ w, Sat E w (PSet p l :: RSet r l :: M) → Q (.bool true) w) :
    Calls Try.prog 55 #[.pointer (some ⟨p, 0, none⟩), .pointer (some ⟨r, 0, none⟩), .int .i64 n] w (retP Q) := by
  refine pithlaw08_alike.calls ?_
  unfold pithlaw08_alike.F
  refine ⟨fun v w => ∃ j : Nat, v = .int .i64 j ∧ j ≤ n ∧ Sat E w (PSet p l :: RSet r l :: M), fun v _ => n - (RowKit.intOf v).toNat, ⟨0, rfl, Nat.zero_le _, hS⟩, ?_⟩
  clear hS
  rintro _ _ w ⟨j, rfl, hj, hS⟩
  by_cases hlt : j < n
  · obtain ⟨y, hy⟩ : ∃ y, l[j]? = some y := ⟨l[j]'(by omega), by simp⟩
    have hra : ∀ {w : World} {Q : Value → World → Prop}, Sat E w (RSet r l :: PSet p l :: M) → (∀ w, Sat E w (RSet r l :: PSet p l :: M) → Q (.tuple #[.int .i64 y, .int .i64 0]) w) → Calls Try.prog 79 #[.pointer (some ⟨r, 0, none⟩), .int .i64 j] w (retP Q) := fun hS hQ => by
      refine RAt_ok hS j fun w hS => ?_
      have e : l.getD j 0 = y := by rw [List.getD_eq_getElem?_getD, hy]; rfl
      rw [if_pos (by omega), if_pos (by omega), Int.toNat_natCast, e]
      exact hQ w hS
    repeat' (first | (refine pc_prob_Set_At (At_in (hS.fd (PSet p)) (j : Int) (by omega) (by rw [Int.toNat_natCast]; exact hy) ?_); clear hS; intro w hS) | (refine pc_pithref06_Set_At (hra (hS.fd2 (RSet r) (PSet p)) ?_); clear hS; intro w hS) | refine pc_pithlaw08_num (num_ok _ (by decide) ?_) | (refine pN_lss_s ?_ ?_ <;> intro hc <;> try (exfalso; omega)) | (refine pN_neq_s ?_ ?_ <;> intro hc <;> try (exfalso; first | omega | exact hc rfl | exact hc (by assumption) | exact absurd hc (by assumption))) | refine pIf_t ?_ | refine pIf_f ?_ | refine pGd_go (by rfl) ?_ | refine pN_via (by (intro K; simp (disch := omega) only [go_sem, pN_min, pN_max, w_u32, w_u64, Option.isNone_some, Option.isNone_none]; (try simp only [wrap_u32, wrap_u64]); rfl)) ?_ | fail)
    exact ⟨⟨j + 1, rfl, by omega, hS.to⟩, by simp [RowKit.intOf] <;> omega⟩
  · repeat' (first | (refine pN_lss_s ?_ ?_ <;> intro hc <;> try (exfalso; omega)) | refine pIf_f ?_ | fail)
    exact hQ _ hS.to
end

end Go.Proofs.Ytoejaggkedlfmaa
