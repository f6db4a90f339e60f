/-
  Texts of one proof, one behind the other: CdcW, LfBytes, LfStrings, LfStringslite, TarL, DepV, LfSha, LfBits, ShaW, ShaV, DepU, Apst, LfVarint, VarW, Defer1.
-/
import Derived.Test.YtikmogfhhggafaaGreatDoorRows
import Derived.Lib.IndexLaws
import Derived.Lib.AppendStr
import Derived.Test.YtikmogfhhggafaaGreatDoorMk4
set_option linter.unusedSimpArgs false
set_option linter.unnecessarySimpa false
set_option linter.unusedSectionVars false
set_option linter.unusedVariables false

namespace Go.Proofs.YtikmogfhhggafaaGreatDoor
open Go

namespace C
theorem ends_at : ∀ (pre : List (List UInt8)) (q : List UInt8) (r : List (List UInt8)) (a : Nat), (ends a (pre ++ q :: r))[pre.length]? = some (a + pre.flatten.length + q.length)
  | [], q, r, a => by simp [ends]
  | p :: pre, q, r, a => by
    rw [List.cons_append, ends, List.length_cons, List.getElem?_cons_succ, ends_at pre q r, List.flatten_cons, List.length_append]
    congr 1; omega
theorem eat_nil (k : K) (s : W) (n : Nat) : eat k s n [] = (0, false) := rfl
theorem eat_over {k : K} {s : W} {n : Nat} {x : UInt8} {r : List UInt8} (h : over k (roll s x) (n + 1) = true) : eat k s n (x :: r) = (1, true) := by rw [eat, if_pos h]
theorem eat_on {k : K} {s : W} {n : Nat} {x : UInt8} {r : List UInt8} (h : over k (roll s x) (n + 1) = false) : eat k s n (x :: r) = ((eat k (roll s x) (n + 1) r).1 + 1, (eat k (roll s x) (n + 1) r).2) := by rw [eat, h]; rfl
theorem roll_eq (s : W) (x : UInt8) : s <<< 1 + gear x = roll s x := rfl
end C

abbrev rlC (k : C.K) (s : C.W) (n : Nat) : List Value := [.int .i64 k.least, .int .i64 k.most, .int .i64 k.bits, lv s, .int .i64 n]
theorem run_bRoll (k : C.K) (w : World) : (oBuild 230 [(0, .agg #[.int .i64 k.least, .int .i64 k.most, .int .i64 k.bits])]).run Tryz.prog w = .ok (.value (.agg (rlC k 0 0).toArray)) w := by kernel_rfl
theorem pN_bRoll [Pan] {w : World} {K : Value → World → Prop} {k : C.K} (hk : K (.agg (rlC k 0 0).toArray) w) : pN Tryz.prog (oBuild 230 [(0, .agg #[.int .i64 k.least, .int .i64 k.most, .int .i64 k.bits])]) w K := by rw [pN_def, run_bRoll, rN_value]; exact hk

attribute [local irreducible] oMv oV oU oCall oCallV oBi oBin oUn oLoad oStore oNil oFld oField oIdx oIndex oPick oAlloc oBox oBuild oBs oConv oMk oSl oExt oFn oIface oMap oLook oMapUp oRange oNext oEntry oInv oAssert oPanic oRes pN pA pL pDr pIf gA pGd Calls C.over C.eat C.ends mkW bgW enW rfW jmpW pY pE
section
variable [Pan] {E w W : World} {K Q : Value → World → Prop} {J : Value → Prop} {L M N : List HA} {l r : List UInt8} {s s2 : Sl} {b : Nat}

theorem CLegal_ok (k : C.K) (hS : Sat E w M) (hQ : ∀ w, Sat E w M → Q (.int .i64 (if k.legal then 0 else 6)) w) : Calls Tryz.prog 87 #[.agg #[.int .i64 k.least, .int .i64 k.most, .int .i64 k.bits]] w (retP Q) := by
  refine cdc_Legal.calls ?_
  unfold cdc_Legal.F
  refine pN_bx (z := [.int .i64 k.least, .int .i64 k.most, .int .i64 k.bits]) hS rfl ?_
  clear hS
  intro b w hS
  have hyes : k.legal → Q (.int .i64 0) w := fun h => by rw [if_pos h] at hQ; exact hQ _ hS.drop
  have hno : ¬ k.legal → Q (.int .i64 6) w := fun h => by rw [if_neg h] at hQ; exact hQ _ hS.drop
  clear hQ
  unfold C.K.legal at hyes hno
  by_cases h1 : k.least < 64
  · repeat' (first | (refine pN_lss_s ?_ ?_ <;> intro hc <;> try (exfalso; omega)) | refine pIf_t ?_ | refine pGd_no (by rfl) ?_ | refine pN_l hS (by first | rfl | assumption) ?_ | refine pN_v (hk := ?_) | fail)
    exact hno (by omega)
  · by_cases h2 : k.least > k.most
    · repeat' (first | ((first | refine pN_lss_s ?_ ?_ | refine pN_gtr_s ?_ ?_) <;> intro hc <;> try (exfalso; omega)) | refine pIf_t ?_ | refine pGd_go (by rfl) ?_ | refine pGd_no (by rfl) ?_ | refine pN_l hS (by first | rfl | assumption) ?_ | refine pN_v (hk := ?_) | fail)
      exact hno (by omega)
    · by_cases h3 : k.most > 1048576
      · repeat' (first | ((first | refine pN_lss_s ?_ ?_ | refine pN_gtr_s ?_ ?_) <;> intro hc <;> try (exfalso; omega)) | refine pIf_t ?_ | refine pGd_go (by rfl) ?_ | refine pGd_no (by rfl) ?_ | refine pN_l hS (by first | rfl | assumption) ?_ | refine pN_v (hk := ?_) | fail)
        exact hno (by omega)
      · by_cases h4 : k.bits < 0
        · repeat' (first | ((first | refine pN_lss_s ?_ ?_ | refine pN_gtr_s ?_ ?_) <;> intro hc <;> try (exfalso; omega)) | refine pIf_t ?_ | refine pGd_go (by rfl) ?_ | refine pGd_no (by rfl) ?_ | refine pN_l hS (by first | rfl | assumption) ?_ | refine pN_v (hk := ?_) | fail)
          exact hno (by omega)
        · by_cases h5 : k.bits > 20
          · repeat' (first | ((first | refine pN_lss_s ?_ ?_ | refine pN_gtr_s ?_ ?_) <;> intro hc <;> try (exfalso; omega)) | refine pIf_t ?_ | refine pGd_go (by rfl) ?_ | refine pN_l hS (by first | rfl | assumption) ?_ | refine pN_v (hk := ?_) | fail)
            exact hno (by omega)
          · repeat' (first | ((first | refine pN_lss_s ?_ ?_ | refine pN_gtr_s ?_ ?_) <;> intro hc <;> try (exfalso; omega)) | refine pIf_f ?_ | refine pGd_go (by rfl) ?_ | refine pN_l hS (by first | rfl | assumption) ?_ | refine pN_v (hk := ?_) | fail)
            exact hyes (by omega)

theorem Gear_ok (c : UInt8) (hS : Sat E w M) (hQ : ∀ w, Sat E w M → Q (lv (C.gear c)) w) : Calls Tryz.prog 182 #[bv c] w (retP Q) := by
  refine cdc_Gear.calls ?_
  unfold cdc_Gear.F
  repeat' (first | refine pN_tol ?_ | refine pN_add_vk 1#64 rfl ?_ | refine pN_mul_vk 11400714819323198485#64 rfl ?_ | refine pN_mul_vk 13787848793156543929#64 rfl ?_ | refine pN_mul_vk 10723151780598845931#64 rfl ?_ | refine pN_shr_v 30 rfl (by omega) ?_ | refine pN_shr_v 27 rfl (by omega) ?_ | refine pN_shr_v 31 rfl (by omega) ?_ | refine pN_xor_v ?_ | fail)
  exact hQ _ hS
end
attribute [local irreducible] C.gear C.roll C.fst
section
variable [Pan] {E w W : World} {K Q : Value → World → Prop} {J : Value → Prop} {L M N : List HA} {l r : List UInt8} {s s2 : Sl} {b : Nat}
set_option maxHeartbeats 2000000 in
set_option maxRecDepth 8000 in
theorem Eat_ok {k : C.K} (hk : k.legal) (t : C.W) (n : Nat) (hS : Sat E w (cel b ⟨230, rlC k t n⟩ :: M)) [hr : Rds cd_uint8 M s l] (hn : n + l.length < 4611686018427387904)
    (hQ : ∀ t' n' w, ((C.eat k t n l).2 = true → t' = 0 ∧ n' = 0) → Sat E w (cel b ⟨230, rlC k t' n'⟩ :: M) → Q (.tuple #[.int .i64 (C.eat k t n l).1, .bool (C.eat k t n l).2]) w) :
    Calls Tryz.prog 134 #[.pointer (some ⟨b, 0, none⟩), .slice s.a l.length s.c] w (retP Q) := by
  obtain ⟨k1, k2, k3, k4, k5⟩ := hk
  refine cdc_roll_eat.calls ?_
  unfold cdc_roll_eat.F
  repeat' (first | refine pN_v (hk := ?_) | fail)
  refine ⟨fun x w => ∃ (i : Nat) (t' : C.W), x = .int .i64 i ∧ i ≤ l.length ∧ C.eat k t n l = ((C.eat k t' (n + i) (l.drop i)).1 + i, (C.eat k t' (n + i) (l.drop i)).2) ∧ Sat E w (cel b ⟨230, rlC k t' (n + i)⟩ :: M), fun x _ => l.length - (RowKit.intOf x).toNat, ⟨0, t, rfl, by omega, by rw [List.drop_zero]; rfl, hS⟩, ?_⟩
  clear hS
  rintro _ _ w ⟨i, t', rfl, hi, he, hS⟩
  by_cases hlt : i < l.length
  · obtain ⟨c, hc⟩ : ∃ c, l[i]? = some c := ⟨l[i], by simp [hlt]⟩
    have hd : l.drop i = c :: l.drop (i + 1) := by
      rw [List.drop_eq_getElem_cons hlt]
      rw [List.getElem?_eq_getElem hlt] at hc
      rw [Option.some.inj hc]
    rw [hd] at he
    have hyes := fun h => he.trans (by rw [C.eat_over (k := k) (s := t') (n := n + i) (x := c) (r := l.drop (i + 1)) h])
    have hno := fun h => he.trans (by rw [C.eat_on (k := k) (s := t') (n := n + i) (x := c) (r := l.drop (i + 1)) h])
    have hov : C.over k (C.roll t' c) (n + i + 1) = (decide (k.least ≤ ((n + i + 1 : Nat) : Int)) && (decide (((n + i + 1 : Nat) : Int) = k.most) || decide (C.roll t' c >>> (64 - k.bits.toNat) = 0#64))) := C.over_eq ..
    have hro := C.roll_eq t' c
    repeat' (first | refine pA_shl_v 1 rfl (by omega) ?_ | (refine pc_cdc_Gear (Gear_ok c hS ?_); clear hS; intro w hS) | refine ⟨⟨run_l hS (by rfl), trivial⟩, ?_⟩ | refine pA_add_v ?_ | refine pA_shr_v (64 - k.bits.toNat) (by omega) (by omega) ?_ | refine pA_eql_v0 (fun hC => ?_) (fun hC => ?_) | ((first | refine pN_lss_s ?_ ?_ | refine pA_geq_s ?_ ?_) <;> intro hc <;> try (exfalso; omega)) | (refine pA_eql_s ?_ ?_ <;> intro hc <;> try (exfalso; first | omega | exact hc rfl | exact hc (by assumption) | exact absurd hc (by assumption))) | refine pIf_t ?_ | refine pIf_f ?_ | refine gA_go (by rfl) ?_ | refine gA_no (by rfl) ?_ | refine pN_l hS (by first | rfl | assumption) ?_ | refine pL_l hS (by first | rfl | assumption) ?_ | refine pN_ld1 ha hS ?_ | (refine pN_s hS (by first | exact Nat.le_of_ble_eq_true rfl | assumption) (by rfl) ?_; clear hS; intro w hS; try simp only [List.set_cons_zero, List.set_cons_succ] at hS) | (refine pDr_go hS ?_; clear hS; intro w hS) | refine ⟨trivial, ?_⟩ | refine pN_ixk hS _ (by first | rfl | (exact (Int.toNat_of_nonneg (by omega)).symm)) (by first | rfl | omega | simpa only [go_sem] using True.intro | (simp only [go_sem]; omega)) (by assumption) fun a ha hel => ?_ | refine pN_v (hk := ?_) | refine pA_v (hk := ?_) | fail)
    · have ho : C.over k (C.roll t' c) (n + i + 1) = true := by
        rw [hov, decide_eq_true (by omega), decide_eq_true (show ((n + i + 1 : Nat) : Int) = k.most by omega)]; rfl
      have hy := hyes ho
      have e1 : ((i : Int) + 1) = ((1 + i : Nat) : Int) := by omega
      rw [hy] at hQ
      rw [e1]
      exact hQ 0 0 _ (fun _ => ⟨rfl, rfl⟩) hS
    · rw [hro] at hC
      have ho : C.over k (C.roll t' c) (n + i + 1) = true := by
        rw [hov, decide_eq_true (by omega), decide_eq_true hC, Bool.or_true]; rfl
      have hy := hyes ho
      have e1 : ((i : Int) + 1) = ((1 + i : Nat) : Int) := by omega
      rw [hy] at hQ
      rw [e1]
      exact hQ 0 0 _ (fun _ => ⟨rfl, rfl⟩) hS
    · rw [hro] at hC hS
      have ho : C.over k (C.roll t' c) (n + i + 1) = false := by
        rw [hov, decide_eq_false hC, decide_eq_false (show ¬ ((n + i + 1 : Nat) : Int) = k.most by omega), Bool.or_false, Bool.and_false]
      have hy := hno ho
      exact ⟨⟨i + 1, _, rfl, by omega, by rw [hy]; exact Prod.ext (by simp only [Nat.add_assoc, Nat.add_comm 1]) rfl, hS⟩, by simp [RowKit.intOf] <;> omega⟩
    · rw [hro] at hS
      have ho : C.over k (C.roll t' c) (n + i + 1) = false := by
        rw [hov, decide_eq_false (by omega), Bool.false_and]
      have hy := hno ho
      exact ⟨⟨i + 1, _, rfl, by omega, by rw [hy]; exact Prod.ext (by simp only [Nat.add_assoc, Nat.add_comm 1]) rfl, hS⟩, by simp [RowKit.intOf] <;> omega⟩
  · obtain rfl : i = l.length := by omega
    rw [List.drop_length, C.eat_nil, Nat.zero_add] at he
    rw [he] at hQ
    repeat' (first | (refine pN_lss_s ?_ ?_ <;> intro hc <;> try (exfalso; omega)) | refine pIf_f ?_ | refine pN_v (hk := ?_) | fail)
    exact hQ _ _ _ (fun h => by cases h) hS
end
section
variable {E w W : World} {K Q : Value → World → Prop} {J : Value → Prop} {L M N : List HA} {l r : List UInt8} {s s2 : Sl} {b : Nat}
abbrev endP (cc cb : Nat) (k : C.K) (s : Sl) (l : List UInt8) (L : List HA) : List HA := cel cc ⟨27, [.int .i64 k.least, .int .i64 k.most, .int .i64 k.bits]⟩ :: cel cb ⟨47, [.slice s.a l.length s.c]⟩ :: L

set_option maxHeartbeats 2000000 in
theorem Ends_c1_ok {yl : Value} {cc cb : Nat} {k : C.K} (hk : k.legal) (B : Nat → List HA → Prop) (hB0 : B 0 L) (hS : Sat E w (endP cc cb k s l L)) (hrd : ∀ j L, B j L → Rds cd_uint8 L s l) (hl : l.length < 2305843009213693952)
    (hY : ∀ (R : HA) (j e : Nat) (L : List HA) (w : World), (C.ends 0 (C.pieces k l))[j]? = some e → B j L → Sat E w (R :: endP cc cb k s l L) →
      pY Tryz.prog (oCallV yl [.int .i64 e]) w fun v w' => v = .bool true ∧ ∃ L', B (j + 1) L' ∧ Sat E w' (R :: endP cc cb k s l L'))
    (hQ : ∀ L w, B (C.pieces k l).length L → Sat E w (endP cc cb k s l L) → Q (.tuple #[]) w) :
    Calls Tryz.prog 133 #[yl, .pointer (some ⟨cc, 0, none⟩), .pointer (some ⟨cb, 0, none⟩)] w (retP Q) := by
  refine cdc_ends_c1R.calls ?_
  unfold cdc_ends_c1R.F
  repeat' (first | refine pN_bRoll ?_ | refine pN_la hS (by rfl) ?_ | (refine pN_bx hS (by rfl) ?_; clear hS; intro a w hS) | fail)
  refine ⟨fun ms v w => ms = [] ∧ ∃ (p : Nat) (t : C.W) (n : Nat) (pre : List (List UInt8)) (L : List HA), v = .int .i64 p ∧ p ≤ l.length ∧ C.pieces k l = pre ++ C.pieces k (l.drop p) ∧ pre.flatten.length = p ∧ (p < l.length → t = 0 ∧ n = 0) ∧ B pre.length L ∧ Sat E w (cel a ⟨230, rlC k t n⟩ :: endP cc cb k s l L), fun v _ => l.length - (RowKit.intOf v).toNat,
    ⟨rfl, 0, 0, 0, [], L, rfl, by omega, by rw [List.drop_zero]; rfl, rfl, fun _ => ⟨rfl, rfl⟩, hB0, hS⟩, ?_⟩
  clear hS hB0
  rintro _ _ _ w ⟨rfl, p, t, n, pre, L, rfl, hp, hpc, hpl, h0, hB, hS⟩
  haveI hr : Rds cd_uint8 L s l := hrd _ _ hB
  by_cases hlt : p < l.length
  · obtain ⟨rfl, rfl⟩ := h0 hlt
    have hne : l.drop p ≠ [] := by
      intro h
      have := congrArg List.length h
      rw [List.length_drop, List.length_nil] at this
      omega
    rw [C.pieces_cons k hne] at hpc
    have hf1 := C.fst_pos k hne
    have hf2 := C.fst_le k (l.drop p)
    have hall := C.eat_all k (l.drop p) 0 0
    have hfe : C.fst k (l.drop p) = (C.eat k 0 0 (l.drop p)).1 := C.fst_eq k _
    have hdl : (l.drop p).length = l.length - p := List.length_drop
    rw [hdl] at hf2 hall
    have htl : ((l.drop p).take (C.fst k (l.drop p))).length = C.fst k (l.drop p) := by rw [List.length_take, hdl]; omega
    have hend : (C.ends 0 (C.pieces k l))[pre.length]? = some (p + C.fst k (l.drop p)) := by
      rw [hpc, C.ends_at, hpl, htl, Nat.zero_add]
    have hdd : (l.drop p).drop (C.fst k (l.drop p)) = l.drop (p + C.fst k (l.drop p)) := by rw [List.drop_drop]
    rw [hdd] at hpc
    repeat' (first | refine pN_sl1 (C := cd_uint8) (s := s) (l := l) hS p rfl rfl (by omega) fun s' hp' => ?_ | (refine pN_lss_s ?_ ?_ <;> intro hc <;> try (exfalso; omega)) | refine pIf_t ?_ | refine pN_l hS (by first | rfl | assumption) ?_ | refine pN_v (hk := ?_) | fail)
    haveI hrs : Rds cd_uint8 (endP cc cb k s l L) s' (l.drop p) := hp'.rd _ inferInstance
    rw [← hdl]
    refine pc_cdc_roll_eat (Eat_ok hk 0 0 hS (by rw [hdl]; omega) ?_)
    clear hS
    intro t' n' w hz hS
    rw [← hfe]
    have hcast : ((p : Int) + (C.fst k (l.drop p) : Nat)) = ((p + C.fst k (l.drop p) : Nat) : Int) := by norm_cast
    repeat' (first | refine pN_v (hk := ?_) | fail)
    rw [hcast]
    refine pY_mono (hY _ pre.length _ L w hend hB hS) ?_
    clear hS
    rintro _ w ⟨rfl, L', hB', hS⟩
    repeat' (first | refine pIf_f ?_ | refine pN_v (hk := ?_) | fail)
    refine ⟨⟨rfl, p + C.fst k (l.drop p), t', n', pre ++ [(l.drop p).take (C.fst k (l.drop p))], L', rfl, by omega, ?_, ?_, fun hlt2 => ?_, ?_, hS⟩, by simp [RowKit.intOf] <;> omega⟩
    · rw [hpc, List.append_assoc]; rfl
    · rw [List.flatten_append, List.length_append, hpl]
      simp only [List.flatten_cons, List.flatten_nil, List.append_nil, htl]
    · cases he2 : (C.eat k 0 0 (l.drop p)).2 with
      | true => exact hz he2
      | false =>
        have := hall he2
        rw [← hfe] at this
        omega
    · rw [List.length_append]; exact hB'
  · obtain rfl : p = l.length := by omega
    rw [List.drop_length, C.pieces_nil, List.append_nil] at hpc
    repeat' (first | (refine pN_lss_s ?_ ?_ <;> intro hc <;> try (exfalso; omega)) | refine pIf_f ?_ | refine pN_l hS (by first | rfl | assumption) ?_ | refine pN_v (hk := ?_) | fail)
    rw [← hpc] at hB
    exact mk_nil (hQ L w hB (hS.to))

theorem Ends_ok {k : C.K} (hS : Sat E w M) (hQ : ∀ cc cb w, Sat E w (endP cc cb k s l M) → Q (.func (.func 133) #[] #[.pointer (some ⟨cc, 0, none⟩), .pointer (some ⟨cb, 0, none⟩)]) w) :
    Calls Tryz.prog 103 #[.slice s.a l.length s.c, .agg #[.int .i64 k.least, .int .i64 k.most, .int .i64 k.bits]] w (retP Q) := by
  refine cdc_ends.calls ?_
  unfold cdc_ends.F
  refine pN_bx (z := [.slice s.a l.length s.c]) hS rfl ?_
  clear hS
  intro cb w hS
  refine pN_bx (z := [.int .i64 k.least, .int .i64 k.most, .int .i64 k.bits]) hS rfl ?_
  clear hS
  intro cc w hS
  repeat' (first | refine pN_fn ?_ | fail)
  exact hQ _ _ _ hS

def endsI (k : C.K) (l : List UInt8) : List Int := (C.ends 0 (C.pieces k l)).map fun n : Nat => (n : Int)
theorem endsI_len (k : C.K) (l : List UInt8) : (endsI k l).length = (C.pieces k l).length := by rw [endsI, List.length_map, C.ends_len]
theorem endsI_get {k : C.K} {l : List UInt8} {j e : Nat} (h : (C.ends 0 (C.pieces k l))[j]? = some e) : (endsI k l)[j]? = some (e : Int) := by rw [endsI, List.getElem?_map, h]; rfl

set_option maxHeartbeats 2000000 in
theorem Cut_ok {k : C.K} (hk : k.legal) (hS : Sat E w M) [hr : Rds cd_uint8 M s l] (hl : l.length ≤ 1099511627776)
    (hQ : ∀ so w, Sat E w (rows cd_int so (endsI k l) :: M) → Q (.tuple #[.slice so.a (C.pieces k l).length so.c, .int .i64 0]) w) :
    Calls Tryz.prog 63 #[.slice s.a l.length s.c, .agg #[.int .i64 k.least, .int .i64 k.most, .int .i64 k.bits]] w (retP Q) := by
  have hil := endsI_len k l
  have hpl := C.pieces_len k l
  have hget := fun {j e} => @endsI_get k l j e
  refine cdc_CutR.calls ?_
  unfold cdc_CutR.F
  refine pN_bx (z := [.int .i64 k.least, .int .i64 k.most, .int .i64 k.bits]) hS rfl ?_
  clear hS
  intro cq w hS
  repeat' (first | (refine pc_cdc_Legal (CLegal_ok k hS ?_); rw [if_pos hk]; clear hS; intro w hS) | (refine pc_cdc_ends (Ends_ok (s := s) (l := l) (k := k) hS ?_); clear hS; intro cc cb w hS) | (refine pN_neq_s ?_ ?_ <;> intro hc <;> try (exfalso; first | omega | exact hc rfl | exact hc (by assumption) | exact absurd hc (by assumption))) | refine pIf_f ?_ | refine pN_la hS (by rfl) ?_ | (refine pN_nz hS ?_; clear hS; intro a w hS) | fail)
  refine rf_go hS ?_
  clear hS
  intro lp D rc w hrc1 hrc2 hS hY
  generalize endsI k l = I at *
  have hS : Sat E w (endP cc cb k s l (lpB lp rc :: mark D :: cel a ⟨46, [.slice none 0 0]⟩ :: rows cd_int ⟨none, 0⟩ (I.take 0) :: M)) := by
    have h1 : Sat E w (rows cd_int ⟨none, 0⟩ [] :: _) := hS.nil cd_int.e cd_int.size
    rw [List.take_zero]
    exact h1.to
  refine pE_fn (fun a w => call_cdc_ends_c1 a w) (Ends_c1_ok (s := s) (l := l) (cc := cc) (cb := cb) hk
    (fun j L => ∃ so : Sl, L = (lpB lp rc :: mark D :: cel a ⟨46, [.slice so.a (I.take j).length so.c]⟩ :: rows cd_int so (I.take j) :: M))
    ⟨⟨none, 0⟩, rfl⟩ hS (fun j L ⟨_, e⟩ => by subst e; infer_instance) (by omega) ?_ ?_)
  · clear hS
    rintro R j e L w he ⟨so, rfl⟩ hS
    have hj := hget he
    have hjl := (List.getElem?_eq_some_iff.1 hj).1
    have hb8 : ((I.take j).length + 1) * 8 ≤ 140737488355328 := by rw [List.length_take]; omega
    have hsucc : I.take (j + 1) = I.take j ++ [(e : Int)] := by rw [List.take_add_one, hj]; rfl
    refine hY.go hS rfl ?_
    dsimp only [nthV]
    generalize I.take j = T at *
    repeat' (first | (refine bg_go hS ?_; clear hS; intro w hS) | refine pN_l hS (by first | rfl | assumption) ?_ | (refine pN_s hS (by first | exact Nat.le_of_ble_eq_true rfl | assumption) (by rfl) ?_; clear hS; intro w hS; try simp only [List.set_cons_zero, List.set_cons_succ] at hS) | (refine pN_b1 hS (by rfl) (by decide) ?_; clear hS; intro s w hS) | (refine pN_app hS (by first | rfl | omega | simpa only [go_sem] using True.intro | (simp only [go_sem]; omega)) (by first | rfl | omega | simpa only [go_sem] using True.intro | (simp only [go_sem]; omega)) (by first | omega | (simp only [go_sem]; omega)) ?_; clear hS; intro s w hS) | fail)
    refine en_none hS ?_
    clear hS
    intro w hS
    refine ⟨rfl, _, ⟨s, rfl⟩, ?_⟩
    rw [hsucc]
    exact hS.to
  · clear hS
    rintro L w ⟨so, rfl⟩ hS
    rw [← hil, List.take_length] at hS
    rw [← hil] at hQ
    have hS : Sat E w (lpB lp rc :: mark D :: cel a ⟨46, [.slice so.a I.length so.c]⟩ :: rows cd_int so I :: M) := hS.to
    refine jmp_n hS hrc1 hrc2 ?_
    clear hS
    intro w hS
    repeat' (first | refine mk_nil ?_ | (refine mk_go hS ?_; clear hS; intro w hS) | refine pN_l hS (by first | rfl | assumption) ?_ | fail)
    exact hQ _ _ hS.to
end
end Go.Proofs.YtikmogfhhggafaaGreatDoor

namespace Go.Proofs.YtikmogfhhggafaaGreatDoor
open Go
set_option maxRecDepth 100000

def bytes_Compare.F [Pan] (x0 x1 : Value) (w : World) (Q : Value → World → Prop) : Prop :=
 pN Tryz.prog (oCall 106 [x0, x1]) w fun x7 w1 =>
 Q x7 w1
theorem bytes_Compare.calls [Pan] {x0 x1 : Value} {w : World} {Q : Value → World → Prop} (h : bytes_Compare.F x0 x1 w Q) : Calls Tryz.prog 68 #[x0, x1] w (retP Q) := calls_lift mixed .z [x0, x1] Tryz.func68 (by kernel_rfl) (by kernel_rfl) h

end Go.Proofs.YtikmogfhhggafaaGreatDoor

namespace Go.Proofs.YtikmogfhhggafaaGreatDoor
open Go
set_option maxRecDepth 100000

def strings_Compare.F [Pan] (x0 x1 : Value) (w : World) (Q : Value → World → Prop) : Prop :=
 pN Tryz.prog (oCall 128 [x0, x1]) w fun x7 w1 =>
 Q x7 w1
theorem strings_Compare.calls [Pan] {x0 x1 : Value} {w : World} {Q : Value → World → Prop} (h : strings_Compare.F x0 x1 w Q) : Calls Tryz.prog 98 #[x0, x1] w (retP Q) := calls_lift mixed .z [x0, x1] Tryz.func98 (by kernel_rfl) (by kernel_rfl) h

def strings_IndexByte.F [Pan] (x0 x1 : Value) (w : World) (Q : Value → World → Prop) : Prop :=
 pN Tryz.prog (oCall 154 [x0, x1]) w fun x7 w1 =>
 Q x7 w1
theorem strings_IndexByte.calls [Pan] {x0 x1 : Value} {w : World} {Q : Value → World → Prop} (h : strings_IndexByte.F x0 x1 w Q) : Calls Tryz.prog 121 #[x0, x1] w (retP Q) := calls_lift mixed .z [x0, x1] Tryz.func121 (by kernel_rfl) (by kernel_rfl) h

end Go.Proofs.YtikmogfhhggafaaGreatDoor

namespace Go.Proofs.YtikmogfhhggafaaGreatDoor
open Go
set_option maxRecDepth 100000

def internal_stringslite_IndexByte.F [Pan] (x0 x1 : Value) (w : World) (Q : Value → World → Prop) : Prop :=
 pN Tryz.prog (oCall 205 [x0, x1]) w fun x7 w1 =>
 Q x7 w1
theorem internal_stringslite_IndexByte.calls [Pan] {x0 x1 : Value} {w : World} {Q : Value → World → Prop} (h : internal_stringslite_IndexByte.F x0 x1 w Q) : Calls Tryz.prog 154 #[x0, x1] w (retP Q) := calls_lift mixed .z [x0, x1] Tryz.func154 (by kernel_rfl) (by kernel_rfl) h

end Go.Proofs.YtikmogfhhggafaaGreatDoor

namespace Go.Proofs.YtikmogfhhggafaaGreatDoor
open Go

instance stry : StrY Tryz.prog 9 := ⟨Tryz.underlying9⟩
instance strb : StrB Tryz.prog 9 47 cd_uint8 := ⟨Tryz.underlying9, Tryz.underlying47, Tryz.underlying5, rfl, fun _ => rfl⟩
instance inty : IntY Tryz.prog 3 .i64 := ⟨Tryz.underlying3⟩

namespace A
abbrev ixb (l : List UInt8) (c : UInt8) : Int := Lib.indexByte l c
theorem ixb_ge (l : List UInt8) (c : UInt8) : -1 ≤ ixb l c := Lib.indexByte_ge l c
theorem ixb_mem {l : List UInt8} {c : UInt8} : 0 ≤ ixb l c ↔ c ∈ l := by
  constructor
  · intro h
    obtain ⟨o, ho⟩ : ∃ o : Nat, ixb l c = o := ⟨(ixb l c).toNat, by omega⟩
    exact List.mem_of_getElem? (Lib.indexByte_some ho).1
  · intro h
    refine Decidable.byContradiction fun hn => ?_
    have h1 : ixb l c = -1 := by have := ixb_ge l c; omega
    obtain ⟨k, hk⟩ := List.mem_iff_getElem?.1 h
    exact Lib.indexByte_none h1 k hk
def text : List UInt8 → List UInt8
  | [] => []
  | b :: l => if b = 0 then [] else b :: text l
end A

section
variable [Pan] {E w : World} {K Q : Value → World → Prop} {L M : List HA} {l r : List UInt8} {s s2 : Sl}

omit [Pan] in
theorem u8_toNat (c : UInt8) : ((c.toNat : Int)).toNat.toUInt8 = c := by simp
theorem pN_ibs (c : UInt8) (hk : K (.int .i64 (A.ixb l c)) w) : pN Tryz.prog (oCall 205 [.string ⟨l.toArray⟩, bv c]) w K := by
  have h := run_callFunc_extern (P := Tryz.prog) Tryz.func205 (by kernel_rfl) (by kernel_rfl) (by kernel_rfl) (e := Extern.BytealgIndexByte.indexByte) (by kernel_rfl) #[.string ⟨l.toArray⟩, .int .u8 c.toNat] w
  rw [Lib.run_indexByteString, u8_toNat] at h
  have h2 : (oCall 205 [.string ⟨l.toArray⟩, bv c]).run Tryz.prog w = .ok (.value (.int .i64 (A.ixb l c))) w := h
  rw [pN_def, h2, rN_value]
  exact hk
attribute [local irreducible] oMv oV oU oCall oCallV oBi oBin oUn oLoad oStore oNil oFld oField oIdx oIndex oPick oAlloc oBox oBuild oBs oConv oMk oSl oExt oFn oIface oMap oLook oMapUp oRange oNext oEntry oInv oAssert oPanic oRes pN pA pL pDr pIf gA pGd Calls
theorem sIndexByte_ok (c : UInt8) (hQ : Q (.int .i64 (A.ixb l c)) w) : Calls Tryz.prog 121 #[.string ⟨l.toArray⟩, bv c] w (retP Q) := by
  refine strings_IndexByte.calls ?_
  unfold strings_IndexByte.F
  refine pc_internal_stringslite_IndexByte ?_
  refine internal_stringslite_IndexByte.calls ?_
  unfold internal_stringslite_IndexByte.F
  exact pN_ibs c hQ
end

end Go.Proofs.YtikmogfhhggafaaGreatDoor

namespace Go.Proofs.YtikmogfhhggafaaGreatDoor
open Go
namespace D
theorem get_cons {d : T} {i : I32} {l : List I32} : d.get (i :: l) = (look d.ps i).bind fun p => (d.get l).map fun q => p ++ q := by
  rw [T.get]
  cases look d.ps i with
  | none => rfl
  | some p => cases d.get l <;> rfl
theorem get_app {d : T} : ∀ (l m : List I32), d.get (l ++ m) = (d.get l).bind fun p => (d.get m).map fun q => p ++ q
  | [], m => by
    rw [List.nil_append]
    show d.get m = (some []).bind _
    cases d.get m <;> simp
  | i :: l, m => by
    rw [List.cons_append, get_cons, get_cons, get_app l m]
    cases look d.ps i with
    | none => rfl
    | some p =>
      cases d.get l with
      | none => rfl
      | some q => cases d.get m <;> simp
theorem get_take {d : T} {l : List I32} {j : Nat} {i : I32} (h : l[j]? = some i) : d.get (l.take (j + 1)) = (d.get (l.take j)).bind fun p => (look d.ps i).map fun q => p ++ q := by
  rw [List.take_add_one, h, get_app]
  congr 1
  funext p
  show (d.get [i]).map _ = _
  rw [get_cons]
  cases look d.ps i with
  | none => rfl
  | some q => simp [T.get]
theorem get_none {d : T} {l : List I32} {j : Nat} (h : d.get (l.take j) = none) : d.get l = none := by
  have := get_app (d := d) (l.take j) (l.drop j)
  rw [List.take_append_drop, h] at this
  exact this
end D
theorem run_bDep (a b c d e f g h k l m : Int) (x y : Nat) (w : World) : (oBuild 129 [(0, .agg #[.int .i64 a, .int .i64 b, .int .i64 c, .int .i64 d, .int .i64 e, .int .i64 f, .int .i64 g, .int .i64 h]), (1, .agg #[.int .i64 k, .int .i64 l, .int .i64 m]), (2, .map (some x)), (3, .map (some y))]).run Tryz.prog w =
    .ok (.value (.agg #[.int .i64 a, .int .i64 b, .int .i64 c, .int .i64 d, .int .i64 e, .int .i64 f, .int .i64 g, .int .i64 h, .int .i64 k, .int .i64 l, .int .i64 m, .map (some x), .map (some y)])) w := by kernel_rfl
set_option maxRecDepth 100000 in
theorem pN_bDep [Pan] {w : World} {K : Value → World → Prop} {a b c d e f g h k l m : Int} {x y : Nat} (hk : K (.agg #[.int .i64 a, .int .i64 b, .int .i64 c, .int .i64 d, .int .i64 e, .int .i64 f, .int .i64 g, .int .i64 h, .int .i64 k, .int .i64 l, .int .i64 m, .map (some x), .map (some y)]) w) :
    pN Tryz.prog (oBuild 129 [(0, .agg #[.int .i64 a, .int .i64 b, .int .i64 c, .int .i64 d, .int .i64 e, .int .i64 f, .int .i64 g, .int .i64 h]), (1, .agg #[.int .i64 k, .int .i64 l, .int .i64 m]), (2, .map (some x)), (3, .map (some y))]) w K := pN_of (run_bDep a b c d e f g h k l m x y w) hk
attribute [local irreducible] oMv oV oU oCall oCallV oBi oBin oUn oLoad oStore oNil oFld oField oIdx oIndex oPick oAlloc oBox oBuild oBs oConv oMk oSl oExt oFn oIface oMap oLook oMapUp oRange oNext oEntry oInv oAssert oPanic oRes pN pA pL pDr pIf gA pGd Calls
section
variable [Pan] {E w : World} {K Q : Value → World → Prop} {L M N : List HA} {l r : List UInt8} {s s2 : Sl} {c : T_api_Config} {b : Nat} {d : D.T} {li : List I32}

theorem DNew_in {k : C.K} (hc : D.okC c) (hk : k.legal) (hS : Sat E w M) (hQ : ∀ b w, Sat E w (Dep c b (D.new k) :: M) → Q (.tuple #[.pointer (some ⟨b, 0, none⟩), .int .i64 0]) w) :
    Calls Tryz.prog 48 #[.agg c.enc.toArray, .agg #[.int .i64 k.least, .int .i64 k.most, .int .i64 k.bits]] w (retP Q) := by
  refine depot_New.calls ?_
  unfold depot_New.F
  refine pN_bx (z := c.enc) hS rfl ?_
  clear hS
  intro cb w hS
  refine pN_bx (z := [.int .i64 k.least, .int .i64 k.most, .int .i64 k.bits]) hS rfl ?_
  clear hS
  intro kb w hS
  refine pN_la_at (n := 8) hS c.enc rfl rfl ?_
  refine pc_chain_Legal (Chain_ok c hS ?_)
  rw [if_pos hc]
  clear hS
  intro w hS
  repeat' (first | (refine pc_cdc_Legal (CLegal_ok k hS ?_); rw [if_pos hk]; clear hS; intro w hS) | (refine pN_neq_s ?_ ?_ <;> intro hc <;> try (exfalso; first | omega | exact hc rfl | exact hc (by assumption) | exact absurd hc (by assumption))) | refine pIf_f ?_ | refine pGd_go (by rfl) ?_ | refine pN_la hS (by rfl) ?_ | refine pN_v (hk := ?_) | fail)
  obtain ⟨a0, a1, a2, a3, a4, a5⟩ := c
  refine pN_mkm hS idV fun mb w hS => ?_
  refine pN_mkm hS nke fun nb w hS => ?_
  refine pN_bDep ?_
  refine pN_bx (z := depC ⟨a0, a1, a2, a3, a4, a5⟩ k mb nb) hS rfl ?_
  clear hS
  intro b w hS
  have hS : Sat E w (depP ⟨a0, a1, a2, a3, a4, a5⟩ b k mb nb [] [] M) := by
    have h1 : Sat E w (cel b ⟨129, depC ⟨a0, a1, a2, a3, a4, a5⟩ k mb nb⟩ :: mp idV mb ([] : List (I32 × Value)) :: mp nke nb ([] : List (NKey × Value)) :: M) := hS.to
    have h2 : Sat E w (cel b ⟨129, depC ⟨a0, a1, a2, a3, a4, a5⟩ k mb nb⟩ :: mp idV mb ([] : List (I32 × Value)) :: mp nke nb ([] : List (NKey × Value)) :: bag [] :: bag [] :: M) := h1.bag_nil.bag_nil.to
    exact h2
  exact hQ _ _ (Dep.shut (d := D.new k) ⟨rfl, rfl⟩ rfl hS)
theorem DNew_no {k : C.K} (hn : ¬ (D.okC c ∧ k.legal)) (hS : Sat E w M) (hQ : ∀ w, Sat E w M → Q (.tuple #[.pointer none, .int .i64 6]) w) :
    Calls Tryz.prog 48 #[.agg c.enc.toArray, .agg #[.int .i64 k.least, .int .i64 k.most, .int .i64 k.bits]] w (retP Q) := by
  refine depot_New.calls ?_
  unfold depot_New.F
  refine pN_bx (z := c.enc) hS rfl ?_
  clear hS
  intro cb w hS
  refine pN_bx (z := [.int .i64 k.least, .int .i64 k.most, .int .i64 k.bits]) hS rfl ?_
  clear hS
  intro kb w hS
  refine pN_la_at (n := 8) hS c.enc rfl rfl ?_
  refine pc_chain_Legal (Chain_ok c hS ?_)
  by_cases hc : D.okC c
  · have hk : ¬ k.legal := fun h => hn ⟨hc, h⟩
    rw [if_pos hc]
    clear hS
    intro w hS
    repeat' (first | (refine pc_cdc_Legal (CLegal_ok k hS ?_); rw [if_neg hk]; clear hS; intro w hS) | (refine pN_neq_s ?_ ?_ <;> intro hc <;> try (exfalso; first | omega | exact hc rfl | exact hc (by assumption) | exact absurd hc (by assumption))) | refine pIf_t ?_ | refine pGd_go (by rfl) ?_ | refine pN_la hS (by rfl) ?_ | refine pN_v (hk := ?_) | fail)
    exact hQ _ hS.to
  · rw [if_neg hc]
    clear hS
    intro w hS
    repeat' (first | (refine pN_neq_s ?_ ?_ <;> intro hc <;> try (exfalso; first | omega | exact hc rfl | exact hc (by assumption) | exact absurd hc (by assumption))) | refine pIf_t ?_ | refine pGd_no (by rfl) ?_ | refine pN_v (hk := ?_) | fail)
    exact hQ _ hS.to

theorem DLegal_ok (n : List UInt8) (hn : n.length ≤ 254) (hQ : Q (.int .i64 0) w) : Calls Tryz.prog 56 #[.string ⟨n.toArray⟩] w (retP Q) := by
  refine depot_Legal.calls ?_
  unfold depot_Legal.F
  repeat' (first | refine pN_slen ?_ | (refine pN_gtr_s ?_ ?_ <;> intro hc <;> try (exfalso; omega)) | refine pIf_f ?_ | fail)
  exact hQ

theorem DSet_ok (n : NKey) (hn : n.1.length ≤ 254) (hS : Sat E w L) [hf : Fnd (Dep c b) L d N] [hr : Rds (cdI 58) N s li] (h0 : li ≠ []) (hl : li.length ≤ 1099511627776)
    (hQ : ∀ w, Sat E w (Dep c b (d.set n.1 li) :: N) → Q (.int .i64 0) w) :
    Calls Tryz.prog 59 #[.pointer (some ⟨b, 0, none⟩), nke n, .slice s.a li.length s.c] w (retP Q) := by
  refine depot_Depot_Set.calls ?_
  unfold depot_Depot_Set.F
  have hS1 := hS.fd (Dep c b)
  clear hS hf
  obtain ⟨mb, nb, pl, nl, ht, hS⟩ := Dep.opn hS1
  clear hS1
  have hlen : li.length ≠ 0 := fun e => h0 (List.length_eq_zero_iff.1 e)
  repeat' (first | (refine pc_depot_Legal (DLegal_ok n.1 hn ?_)) | (refine pc_slices_Clone___api_ID_api_ID_ (SCloneI_ok (s := s) (li := li) hS hl ?_); clear hS; intro s2 w hS) | (refine pN_mup (P := Tryz.prog) (t := 127) (ke := nke) (b := nb) hS n (slv (s2, li)) ?_; clear hS; intro w hS) | ((first | refine pN_eql_s ?_ ?_ | refine pN_neq_s ?_ ?_) <;> intro hc <;> try (exfalso; first | omega | exact hc rfl | exact hc (by assumption) | exact absurd hc (by assumption))) | refine pIf_f ?_ | refine pL_l hS (by first | rfl | assumption) ?_ | (refine pDr_go hS ?_; clear hS; intro w hS) | refine ⟨trivial, ?_⟩ | refine ⟨⟨(by first | exact run_l hS (by first | rfl | assumption) | exact run_st hS (by first | rfl | omega) | exact run_ld1 ha hS | exact fun _ => run_l hS (by rfl) | exact fun _ => run_st hS (by first | rfl | omega) | exact fun _ => run_ld1 ha hS | exact fun h => Bool.noConfusion h), trivial⟩, ?_⟩ | refine pN_v (hk := ?_) | refine pA_v (hk := ?_) | refine ⟨_, ?_, fun _ _ h => h⟩ | fail)
  rw [vals_put] at hS
  have hS : Sat E w (rows (cdI 58) s2 li :: bag (keep (cdI 58) nl) :: cel b ⟨129, depC c d.k mb nb⟩ :: mp idV mb (vals pl) :: mp nke nb (vals (D.upd nl n (s2, li))) :: bag (keep cd_uint8 pl) :: N) := hS.to
  have hS : Sat E w (depP c b d.k mb nb pl (D.upd nl n (s2, li)) N) := (keep_put n hS).to
  have hd : d.set n.1 li = { d with ns := D.upd d.ns n.1 li } := by unfold D.T.set; rw [if_neg h0]
  exact hQ _ (Dep.shut (d := d.set n.1 li) (by rw [hd]; exact ht.set n s2 li) rfl hS)

set_option maxHeartbeats 2000000 in
theorem DGet_ok (hS : Sat E w L) [hf : Fnd (Dep c b) L d N] [hr : Rds (cdI 58) N s li] (hl : li.length ≤ 1099511627776) (hb : ∀ j q, d.get (li.take j) = some q → q.length ≤ 140737488355328)
    (hno : d.get li = none → ∀ w, Sat E w (Dep c b d :: N) → Q (.tuple #[.slice none 0 0, .int .i64 8]) w)
    (hok : ∀ q, d.get li = some q → ∀ s w, Sat E w (rows cd_uint8 s q :: Dep c b d :: N) → Q (.tuple #[.slice s.a q.length s.c, .int .i64 0]) w) :
    Calls Tryz.prog 55 #[.pointer (some ⟨b, 0, none⟩), .slice s.a li.length s.c] w (retP Q) := by
  refine depot_Depot_Get.calls ?_
  unfold depot_Depot_Get.F
  have hS1 := hS.fd (Dep c b)
  clear hS hf
  obtain ⟨mb, nb, pl, nl, ht, hS⟩ := Dep.opn hS1
  clear hS1
  repeat' (first | refine pN_v (hk := ?_) | fail)
  refine ⟨fun v v' w => ∃ (j : Nat) (so : Sl) (q : List UInt8), v = .slice so.a q.length so.c ∧ v' = .int .i64 j ∧ j ≤ li.length ∧ d.get (li.take j) = some q ∧ Sat E w (rows cd_uint8 so q :: depP c b d.k mb nb pl nl N), fun _ v _ => li.length - (RowKit.intOf v).toNat,
    ⟨0, ⟨none, 0⟩, [], rfl, rfl, by omega, by rw [List.take_zero]; rfl, hS.nil cd_uint8.e cd_uint8.size⟩, ?_⟩
  clear hS
  rintro _ _ _ w ⟨j, so, q, rfl, rfl, hj, hg, hS⟩
  by_cases hlt : j < li.length
  · obtain ⟨i, hi⟩ : ∃ i, li[j]? = some i := ⟨li[j], by simp [hlt]⟩
    have hnext := D.get_take (d := d) hi
    have hb1 := hb (j + 1)
    rw [hg] at hnext
    have hh := ht.look i
    have hv0 := vals_get pl i
    repeat' (first | refine pN_ld_at ha hS (i32n i) ?_ | (refine pN_sid hS i (by rfl) ?_; clear hS; intro w hS) | refine pL_la_at (n := 32) hS (bvs i.l) (i32t i) (i32n i) ?_ | refine pN_lko (P := Tryz.prog) (t := 126) (ke := idV) (b := mb) hS i (fun v hv => ?_) (fun hv => ?_) | (refine pN_lss_s ?_ ?_ <;> intro hc <;> try (exfalso; omega)) | refine pIf_t ?_ | refine pIf_f ?_ | refine pL_l hS (by first | rfl | assumption) ?_ | (refine pDr_go hS ?_; clear hS; intro w hS) | (refine pN_nz hS ?_; clear hS; intro a w hS) | refine ⟨trivial, ?_⟩ | refine pN_ixk hS _ (by first | rfl | (exact (Int.toNat_of_nonneg (by omega)).symm)) (by first | rfl | omega | simpa only [go_sem] using True.intro | (simp only [go_sem]; omega)) (by assumption) fun a ha hel => ?_ | refine pN_v (hk := ?_) | refine pA_v (hk := ?_) | fail)
    · rw [hv0] at hv
      cases hl2 : D.look pl i with
      | none => rw [hl2] at hv; cases hv
      | some x =>
        rw [hl2] at hv hh
        obtain ⟨sx, p⟩ := x
        have hv : Value.slice sx.a p.length sx.c = v := Option.some.inj hv
        have hh : D.look d.ps i = some p := hh
        subst hv
        rw [hh] at hnext
        have hnext : d.get (li.take (j + 1)) = some (q ++ p) := hnext
        have hq := hb1 _ hnext
        haveI : RdP cd_uint8 (bag (keep cd_uint8 pl)) sx p := keep_rd hl2
        rw [List.length_append] at hq
        repeat' (first | (refine pN_app hS (by first | rfl | omega | simpa only [go_sem] using True.intro | (simp only [go_sem]; omega)) (by first | rfl | omega | simpa only [go_sem] using True.intro | (simp only [go_sem]; omega)) (by first | omega | (simp only [go_sem]; omega)) ?_; clear hS; intro s w hS) | refine pN_v (hk := ?_) | fail)
        have hS : Sat E w (rows cd_uint8 s (q ++ p) :: depP c b d.k mb nb pl nl N) := hS.to
        exact ⟨⟨j + 1, _, _, rfl, rfl, hlt, hnext, hS⟩, by simp [RowKit.intOf] <;> omega⟩
    · rw [hv0] at hv
      cases hl2 : D.look pl i with
      | some x => rw [hl2] at hv; cases hv
      | none =>
        rw [hl2] at hh
        have hh : D.look d.ps i = none := hh
        rw [hh] at hnext
        have hS : Sat E w (depP c b d.k mb nb pl nl N) := hS.to
        exact hno (D.get_none (j := j + 1) hnext) _ (Dep.shut ht rfl hS)
  · obtain rfl : j = li.length := by omega
    rw [List.take_length] at hg
    repeat' (first | (refine pN_lss_s ?_ ?_ <;> intro hc <;> try (exfalso; omega)) | refine pIf_f ?_ | fail)
    have hS : Sat E w (depP c b d.k mb nb pl nl (rows cd_uint8 so q :: N)) := hS.to
    exact hok _ hg _ _ (Dep.shut ht rfl hS).to
end
end Go.Proofs.YtikmogfhhggafaaGreatDoor

namespace Go.Proofs.YtikmogfhhggafaaGreatDoor
open Go
set_option maxRecDepth 100000

def sha_Sum.H : Hints := { cut := fun  | _ => none, loop := fun | 3 => ([9], 130592) | _ => ([], 0), order := fun  | _ => [] }
def sha_Sum.F [Pan] (x0 : Value) (w : World) (Q : Value → World → Prop) : Prop :=
 pN Tryz.prog (oAlloc 57) w fun x2 w1 =>
 pN Tryz.prog (oCall 92 []) w1 fun x6 w2 =>
 pN Tryz.prog (oBi .len #[71] 3 [false] [x0]) w2 fun x8 w3 =>
 ∃ (L3 : Value → World → Prop) (m3 : Value → World → Nat),
 L3 (.int .i64 0) w3 ∧
 ∀ (_k3 : Env) (v9l3 : Value) (w4 : World), L3 v9l3 w4 →
 pN Tryz.prog (oBin .lss 3 (.tmp 9) (.tmp 8) v9l3 x8) w4 fun x10 w5 =>
 pIf x10
 (pN Tryz.prog (oIdx 71 x0 v9l3) w5 fun x11 w6 =>
 pN Tryz.prog (oLoad 47 x11) w6 fun x12 w7 =>
 pN Tryz.prog (oCall 93 [x6, x12]) w7 fun _ w8 =>
 pN Tryz.prog (oBin .add 3 (.tmp 9) (.const (.int .i64 1)) v9l3 (.int .i64 1)) w8 fun x16 w9 =>
 (L3 x16 w9 ∧ m3 x16 w9 < m3 v9l3 w4))
 (pN Tryz.prog (oCall 94 [x6]) w5 fun x18 w10 =>
 pN Tryz.prog (oStore 57 x2 x18) w10 fun _ w11 =>
 pL Tryz.prog (oRes 57 x2) w11 fun r2 =>
 Q r2 w11)
theorem sha_Sum.calls [Pan] {x0 : Value} {w : World} {Q : Value → World → Prop} (h : sha_Sum.F x0 w Q) : Calls Tryz.prog 52 #[x0] w (retP Q) := calls_lift mixed sha_Sum.H [x0] Tryz.func52 (by kernel_rfl) (by kernel_rfl) h

def sha_New.F [Pan]  (w : World) (Q : Value → World → Prop) : Prop :=
 pN Tryz.prog (oLoad 214 (.pointer (some ⟨0, 0, none⟩))) w fun x1 w1 =>
 pN Tryz.prog (oBuild 217 [(0, x1)]) w1 fun x2 w2 =>
 pN Tryz.prog (oBox 217 x2) w2 fun x3 w3 =>
 Q x3 w3
theorem sha_New.calls [Pan]  {w : World} {Q : Value → World → Prop} (h : sha_New.F  w Q) : Calls Tryz.prog 92 #[] w (retP Q) := calls_lift mixed .z [] Tryz.func92 (by kernel_rfl) (by kernel_rfl) h

def sha_Hash_Write.H : Hints := { cut := fun | 8 => some ([], 35184372086880) | _ => none, loop := fun | 1 => ([9], 70368744177248) | _ => ([], 0), order := fun | 7 => [(0, 0), (1, 1), (2, 3), (3, 7), (4, 15), (5, 31), (6, 63), (7, 127), (8, 255), (9, 511), (10, 1023), (11, 2047), (12, 4095)] | _ => [] }
def sha_Hash_Write.F [Pan] (x0 x1 : Value) (w : World) (Q : Value → World → Prop) : Prop :=
 pN Tryz.prog (oBi .len #[47] 3 [false] [x1]) w fun x8 w1 =>
 ∃ (L1 : Value → World → Prop) (m1 : Value → World → Nat),
 L1 (.int .i64 0) w1 ∧
 ∀ (_k1 : Env) (v9l1 : Value) (w2 : World), L1 v9l1 w2 →
 pN Tryz.prog (oBin .lss 3 (.tmp 9) (.tmp 8) v9l1 x8) w2 fun x10 w3 =>
 pIf x10
 (∃ I8 : World → Prop,
 (pN Tryz.prog (oIdx 47 x1 v9l1) w3 fun x11 w4 =>
 pN Tryz.prog (oLoad 5 x11) w4 fun x12 w5 =>
 pN Tryz.prog (oNil x0) w5 fun x14 w6 =>
 pN Tryz.prog (oFld 217 x14 2) w6 fun x15 w7 =>
 pN Tryz.prog (oLoad 3 x15) w7 fun x16 w8 =>
 pN Tryz.prog (oBin .rem 3 (.tmp 16) (.const (.int .i64 64)) x16 (.int .i64 64)) w8 fun x17 w9 =>
 pN Tryz.prog (oNil x0) w9 fun x21 w10 =>
 pN Tryz.prog (oFld 217 x21 1) w10 fun x22 w11 =>
 pN Tryz.prog (oIdx 215 x22 x17) w11 fun x23 w12 =>
 pN Tryz.prog (oStore 5 x23 x12) w12 fun _ w13 =>
 pN Tryz.prog (oNil x0) w13 fun x25 w14 =>
 pN Tryz.prog (oFld 217 x25 2) w14 fun x26 w15 =>
 pN Tryz.prog (oLoad 3 x26) w15 fun x27 w16 =>
 pN Tryz.prog (oBin .add 3 (.tmp 27) (.const (.int .i64 1)) x27 (.int .i64 1)) w16 fun x28 w17 =>
 pN Tryz.prog (oNil x0) w17 fun x29 w18 =>
 pN Tryz.prog (oFld 217 x29 2) w18 fun x30 w19 =>
 pN Tryz.prog (oStore 3 x30 x28) w19 fun _ w20 =>
 pN Tryz.prog (oBin .eql 3 (.tmp 31) (.const (.int .i64 63)) x17 (.int .i64 63)) w20 fun x32 w21 =>
 pIf x32
 (pDr w21 fun w22 =>
 pA Tryz.prog (oNil x0) fun x35 =>
 pA Tryz.prog (oFld 217 x35 0) fun x36 =>
 pL Tryz.prog (oLoad 214 x36) w22 fun x37 =>
 pA Tryz.prog (oNil x0) fun x39 =>
 pA Tryz.prog (oFld 217 x39 1) fun x40 =>
 pL Tryz.prog (oLoad 215 x40) w22 fun x41 =>
 pN Tryz.prog (oCall 125 [x37, x41]) w22 fun x42 w23 =>
 (True) ∧ (pA Tryz.prog (oNil x0) fun x43 =>
 pA Tryz.prog (oFld 217 x43 0) fun x44 =>
 pN Tryz.prog (oStore 214 x44 x42) w23 fun _ w24 =>
 (True) ∧ (I8 w24)))
 (I8 w21)) ∧
 ∀ (_j8 : Env) (w25 : World), I8 w25 →
 pN Tryz.prog (oBin .add 3 (.tmp 9) (.const (.int .i64 1)) v9l1 (.int .i64 1)) w25 fun x45 w26 =>
 (L1 x45 w26 ∧ m1 x45 w26 < m1 v9l1 w2))
 (Q (.tuple #[]) w3)
theorem sha_Hash_Write.calls [Pan] {x0 x1 : Value} {w : World} {Q : Value → World → Prop} (h : sha_Hash_Write.F x0 x1 w Q) : Calls Tryz.prog 93 #[x0, x1] w (retP Q) := calls_lift mixed sha_Hash_Write.H [x0, x1] Tryz.func93 (by kernel_rfl) (by kernel_rfl) h

def sha_Hash_Sum.H : Hints := { cut := fun  | _ => none, loop := fun | 5 => ([19], 549755289824) | 8 => ([23], 274869518464) | _ => ([], 0), order := fun  | _ => [] }
def sha_Hash_Sum.F [Pan] (x0 : Value) (w : World) (Q : Value → World → Prop) : Prop :=
 pN Tryz.prog (oAlloc 57) w fun x2 w1 =>
 pN Tryz.prog (oNil x0) w1 fun x9 w2 =>
 pN Tryz.prog (oLoad 217 x9) w2 fun x10 w3 =>
 pN Tryz.prog (oAlloc 217) w3 fun x3 w4 =>
 pN Tryz.prog (oStore 217 x3 x10) w4 fun _ w5 =>
 pN Tryz.prog (oNil x0) w5 fun x12 w6 =>
 pN Tryz.prog (oFld 217 x12 2) w6 fun x13 w7 =>
 pN Tryz.prog (oLoad 3 x13) w7 fun x14 w8 =>
 pN Tryz.prog (oCall 126 [x14]) w8 fun x15 w9 =>
 pN Tryz.prog (oCall 93 [x3, x15]) w9 fun _ w10 =>
 pN Tryz.prog (oAlloc 57) w10 fun x4 w11 =>
 pN Tryz.prog (oFld 217 x3 0) w11 fun x17 w12 =>
 pN Tryz.prog (oLoad 214 x17) w12 fun x18 w13 =>
 ∃ (L5 : Value → World → Prop) (m5 : Value → World → Nat),
 L5 (.int .i64 0) w13 ∧
 ∀ (_k5 : Env) (v19l5 : Value) (w14 : World), L5 v19l5 w14 →
 pN Tryz.prog (oBin .lss 3 (.tmp 19) (.const (.int .i64 8)) v19l5 (.int .i64 8)) w14 fun x20 w15 =>
 pIf x20
 (pN Tryz.prog (oIndex 214 x18 v19l5) w15 fun x22 w16 =>
 ∃ (L8 : Value → World → Prop) (m8 : Value → World → Nat),
 L8 (.int .i64 0) w16 ∧
 ∀ (_k8 : Env) (v23l8 : Value) (w17 : World), L8 v23l8 w17 →
 pN Tryz.prog (oBin .lss 3 (.tmp 23) (.const (.int .i64 4)) v23l8 (.int .i64 4)) w17 fun x24 w18 =>
 pIf x24
 (pN Tryz.prog (oBin .mul 3 (.const (.int .i64 4)) (.tmp 26) (.int .i64 4) v19l5) w18 fun x27 w19 =>
 pN Tryz.prog (oBin .add 3 (.tmp 27) (.tmp 28) x27 v23l8) w19 fun x29 w20 =>
 pN Tryz.prog (oBin .mul 3 (.const (.int .i64 8)) (.tmp 31) (.int .i64 8) v23l8) w20 fun x32 w21 =>
 pN Tryz.prog (oBin .sub 3 (.const (.int .i64 24)) (.tmp 32) (.int .i64 24) x32) w21 fun x33 w22 =>
 pN Tryz.prog (oBin .shr 213 (.tmp 30) (.tmp 33) x22 x33) w22 fun x34 w23 =>
 pN Tryz.prog (oConv 213 5 x34) w23 fun x35 w24 =>
 pN Tryz.prog (oIdx 57 x4 x29) w24 fun x36 w25 =>
 pN Tryz.prog (oStore 5 x36 x35) w25 fun _ w26 =>
 pN Tryz.prog (oBin .add 3 (.tmp 23) (.const (.int .i64 1)) v23l8 (.int .i64 1)) w26 fun x37 w27 =>
 (L8 x37 w27 ∧ m8 x37 w27 < m8 v23l8 w17))
 (pN Tryz.prog (oBin .add 3 (.tmp 19) (.const (.int .i64 1)) v19l5 (.int .i64 1)) w18 fun x38 w28 =>
 (L5 x38 w28 ∧ m5 x38 w28 < m5 v19l5 w14)))
 (pN Tryz.prog (oLoad 57 x4) w15 fun x39 w29 =>
 pN Tryz.prog (oStore 57 x2 x39) w29 fun _ w30 =>
 pL Tryz.prog (oRes 57 x2) w30 fun r2 =>
 Q r2 w30)
theorem sha_Hash_Sum.calls [Pan] {x0 : Value} {w : World} {Q : Value → World → Prop} (h : sha_Hash_Sum.F x0 w Q) : Calls Tryz.prog 94 #[x0] w (retP Q) := calls_lift mixed sha_Hash_Sum.H [x0] Tryz.func94 (by kernel_rfl) (by kernel_rfl) h

def sha_Step.H : Hints := { cut := fun | 11 => some ([], 158456325028528675187071125440) | _ => none, loop := fun | 3 => ([22], 316912650057057350374171609024) | 14 => ([99], 191561942608236107294792744568488533837641641923440640) | 22 => ([177], 784446154980726859372178884522564513364842088167733460992) | _ => ([], 0), order := fun | 6 => [(0, 0), (1, 1), (2, 3), (3, 7), (4, 15), (5, 31), (6, 63), (7, 127), (8, 255), (9, 511), (10, 1023), (11, 2047), (12, 4095), (13, 8191), (14, 16383), (15, 32767), (16, 65535), (17, 131071), (18, 262143), (19, 524287), (20, 1048575), (21, 2097151), (22, 4194303), (23, 8388607), (24, 16777215), (25, 33554431), (26, 67108863), (27, 134217727), (28, 268435455), (29, 536870911), (30, 1073741823), (31, 2147483647)] | 7 => [(0, 0), (1, 1), (2, 3), (3, 7), (4, 15), (5, 31), (6, 63), (7, 127), (8, 255), (9, 511)] | 10 => [(0, 0), (1, 1), (2, 3), (3, 7), (4, 15), (5, 31), (6, 63), (7, 127), (8, 255), (9, 511), (10, 1023), (11, 2047), (12, 4095), (13, 8191), (14, 16383), (15, 32767)] | 16 => [(0, 0), (1, 1), (2, 3), (3, 7), (4, 15), (5, 31), (6, 63), (7, 127), (8, 255), (9, 511), (10, 1023), (11, 2047), (12, 4095), (13, 8191), (14, 16383), (15, 32767), (16, 65535), (17, 131071)] | 17 => [(0, 0), (1, 1), (2, 3), (4, 7), (7, 23), (11, 151), (12, 2199), (13, 6295), (14, 14487), (15, 30871), (16, 63639), (17, 129175), (18, 260247), (20, 522391), (21, 1570967), (22, 3668119), (24, 7862423), (25, 24639639), (26, 58194071), (3, 125302935), (5, 125302943), (6, 125302975), (8, 125303039), (9, 125303295), (10, 125303807), (19, 125304831), (23, 125829119), (27, 134217727), (28, 268435455)] | 24 => [(0, 0), (1, 1), (2, 3), (3, 7), (4, 15), (5, 31), (6, 63), (7, 127), (8, 255)] | _ => [] }
def sha_Step.F [Pan] (x0 x1 : Value) (w : World) (Q : Value → World → Prop) : Prop :=
 pN Tryz.prog (oBox 214 x0) w fun x2 w1 =>
 pN Tryz.prog (oBox 215 x1) w1 fun x3 w2 =>
 pN Tryz.prog (oAlloc 214) w2 fun x4 w3 =>
 pN Tryz.prog (oAlloc 257) w3 fun x5 w4 =>
 ∃ (L3 : Value → World → Prop) (m3 : Value → World → Nat),
 L3 (.int .i64 0) w4 ∧
 ∀ (_k3 : Env) (v22l3 : Value) (w5 : World), L3 v22l3 w5 →
 pN Tryz.prog (oBin .lss 3 (.tmp 22) (.const (.int .i64 64)) v22l3 (.int .i64 64)) w5 fun x23 w6 =>
 pIf x23
 (∃ I11 : World → Prop,
 (pN Tryz.prog (oBin .lss 3 (.tmp 25) (.const (.int .i64 16)) v22l3 (.int .i64 16)) w6 fun x26 w7 =>
 pIf x26
 (pDr w7 fun w8 =>
 pA Tryz.prog (oBin .mul 3 (.const (.int .i64 4)) (.tmp 28) (.int .i64 4) v22l3) fun x29 =>
 pA Tryz.prog (oIdx 215 x3 x29) fun x30 =>
 pL Tryz.prog (oLoad 5 x30) w8 fun x31 =>
 pL Tryz.prog (oConv 5 213 x31) w8 fun x32 =>
 pA Tryz.prog (oBin .shl 213 (.tmp 32) (.const (.int .u64 24)) x32 (.int .u64 24)) fun x33 =>
 pA Tryz.prog (oBin .mul 3 (.const (.int .i64 4)) (.tmp 34) (.int .i64 4) v22l3) fun x35 =>
 pA Tryz.prog (oBin .add 3 (.tmp 35) (.const (.int .i64 1)) x35 (.int .i64 1)) fun x36 =>
 pA Tryz.prog (oIdx 215 x3 x36) fun x37 =>
 pL Tryz.prog (oLoad 5 x37) w8 fun x38 =>
 pL Tryz.prog (oConv 5 213 x38) w8 fun x39 =>
 pA Tryz.prog (oBin .shl 213 (.tmp 39) (.const (.int .u64 16)) x39 (.int .u64 16)) fun x40 =>
 pA Tryz.prog (oBin .or 213 (.tmp 33) (.tmp 40) x33 x40) fun x41 =>
 pA Tryz.prog (oBin .mul 3 (.const (.int .i64 4)) (.tmp 42) (.int .i64 4) v22l3) fun x43 =>
 pA Tryz.prog (oBin .add 3 (.tmp 43) (.const (.int .i64 2)) x43 (.int .i64 2)) fun x44 =>
 pA Tryz.prog (oIdx 215 x3 x44) fun x45 =>
 pL Tryz.prog (oLoad 5 x45) w8 fun x46 =>
 pL Tryz.prog (oConv 5 213 x46) w8 fun x47 =>
 pA Tryz.prog (oBin .shl 213 (.tmp 47) (.const (.int .u64 8)) x47 (.int .u64 8)) fun x48 =>
 pA Tryz.prog (oBin .or 213 (.tmp 41) (.tmp 48) x41 x48) fun x49 =>
 pA Tryz.prog (oBin .mul 3 (.const (.int .i64 4)) (.tmp 50) (.int .i64 4) v22l3) fun x51 =>
 pA Tryz.prog (oBin .add 3 (.tmp 51) (.const (.int .i64 3)) x51 (.int .i64 3)) fun x52 =>
 pA Tryz.prog (oIdx 215 x3 x52) fun x53 =>
 pL Tryz.prog (oLoad 5 x53) w8 fun x54 =>
 pL Tryz.prog (oConv 5 213 x54) w8 fun x55 =>
 pA Tryz.prog (oBin .or 213 (.tmp 49) (.tmp 55) x49 x55) fun x56 =>
 pA Tryz.prog (oIdx 257 x5 v22l3) fun x57 =>
 pN Tryz.prog (oStore 213 x57 x56) w8 fun _ w9 =>
 (True) ∧ (I11 w9))
 (pDr w7 fun w10 =>
 pA Tryz.prog (oBin .sub 3 (.tmp 58) (.const (.int .i64 15)) v22l3 (.int .i64 15)) fun x59 =>
 pA Tryz.prog (oIdx 257 x5 x59) fun x60 =>
 pL Tryz.prog (oLoad 213 x60) w10 fun x61 =>
 pA Tryz.prog (oBin .sub 3 (.tmp 62) (.const (.int .i64 2)) v22l3 (.int .i64 2)) fun x63 =>
 pA Tryz.prog (oIdx 257 x5 x63) fun x64 =>
 pL Tryz.prog (oLoad 213 x64) w10 fun x65 =>
 pN Tryz.prog (oCall 175 [x61, (.int .i64 (-7))]) w10 fun x67 w11 =>
 pN Tryz.prog (oCall 175 [x61, (.int .i64 (-18))]) w11 fun x69 w12 =>
 pN Tryz.prog (oBin .xor 213 (.tmp 67) (.tmp 69) x67 x69) w12 fun x70 w13 =>
 pN Tryz.prog (oBin .shr 213 (.tmp 71) (.const (.int .u64 3)) x61 (.int .u64 3)) w13 fun x72 w14 =>
 pN Tryz.prog (oBin .xor 213 (.tmp 70) (.tmp 72) x70 x72) w14 fun x73 w15 =>
 pN Tryz.prog (oCall 175 [x65, (.int .i64 (-17))]) w15 fun x75 w16 =>
 pN Tryz.prog (oCall 175 [x65, (.int .i64 (-19))]) w16 fun x77 w17 =>
 pN Tryz.prog (oBin .xor 213 (.tmp 75) (.tmp 77) x75 x77) w17 fun x78 w18 =>
 pN Tryz.prog (oBin .shr 213 (.tmp 79) (.const (.int .u64 10)) x65 (.int .u64 10)) w18 fun x80 w19 =>
 pN Tryz.prog (oBin .xor 213 (.tmp 78) (.tmp 80) x78 x80) w19 fun x81 w20 =>
 pDr w20 fun w21 =>
 pA Tryz.prog (oBin .sub 3 (.tmp 84) (.const (.int .i64 7)) v22l3 (.int .i64 7)) fun x85 =>
 pA Tryz.prog (oIdx 257 x5 x85) fun x86 =>
 pL Tryz.prog (oLoad 213 x86) w21 fun x87 =>
 pA Tryz.prog (oBin .add 213 (.tmp 83) (.tmp 87) x81 x87) fun x88 =>
 pA Tryz.prog (oBin .add 213 (.tmp 88) (.tmp 89) x88 x73) fun x90 =>
 pA Tryz.prog (oBin .sub 3 (.tmp 91) (.const (.int .i64 16)) v22l3 (.int .i64 16)) fun x92 =>
 pA Tryz.prog (oIdx 257 x5 x92) fun x93 =>
 pL Tryz.prog (oLoad 213 x93) w21 fun x94 =>
 pA Tryz.prog (oBin .add 213 (.tmp 90) (.tmp 94) x90 x94) fun x95 =>
 pA Tryz.prog (oIdx 257 x5 v22l3) fun x96 =>
 pN Tryz.prog (oStore 213 x96 x95) w21 fun _ w22 =>
 (True) ∧ (I11 w22))) ∧
 ∀ (_j11 : Env) (w23 : World), I11 w23 →
 pN Tryz.prog (oBin .add 3 (.tmp 22) (.const (.int .i64 1)) v22l3 (.int .i64 1)) w23 fun x97 w24 =>
 (L3 x97 w24 ∧ m3 x97 w24 < m3 v22l3 w5))
 (pN Tryz.prog (oLoad 214 x2) w6 fun x98 w25 =>
 pN Tryz.prog (oAlloc 214) w25 fun x11 w26 =>
 pN Tryz.prog (oStore 214 x11 x98) w26 fun _ w27 =>
 ∃ (L14 : Value → World → Prop) (m14 : Value → World → Nat),
 L14 (.int .i64 0) w27 ∧
 ∀ (_k14 : Env) (v99l14 : Value) (w28 : World), L14 v99l14 w28 →
 pN Tryz.prog (oBin .lss 3 (.tmp 99) (.const (.int .i64 64)) v99l14 (.int .i64 64)) w28 fun x100 w29 =>
 pIf x100
 (pDr w29 fun w30 =>
 pA Tryz.prog (oIdx 214 x11 (.int .i64 0)) fun x102 =>
 pL Tryz.prog (oLoad 213 x102) w30 fun x103 =>
 pA Tryz.prog (oIdx 214 x11 (.int .i64 1)) fun x104 =>
 pL Tryz.prog (oLoad 213 x104) w30 fun x105 =>
 pA Tryz.prog (oIdx 214 x11 (.int .i64 2)) fun x106 =>
 pL Tryz.prog (oLoad 213 x106) w30 fun x107 =>
 pA Tryz.prog (oIdx 214 x11 (.int .i64 4)) fun x108 =>
 pL Tryz.prog (oLoad 213 x108) w30 fun x109 =>
 pA Tryz.prog (oIdx 214 x11 (.int .i64 5)) fun x110 =>
 pL Tryz.prog (oLoad 213 x110) w30 fun x111 =>
 pA Tryz.prog (oIdx 214 x11 (.int .i64 6)) fun x112 =>
 pL Tryz.prog (oLoad 213 x112) w30 fun x113 =>
 pDr w30 fun w31 =>
 pA Tryz.prog (oIdx 214 x11 (.int .i64 7)) fun x114 =>
 pL Tryz.prog (oLoad 213 x114) w31 fun x115 =>
 pA Tryz.prog (oBin .and 213 (.tmp 125) (.tmp 126) x109 x111) fun x127 =>
 pA Tryz.prog (oUn .xor x109) fun x129 =>
 pA Tryz.prog (oBin .and 213 (.tmp 129) (.tmp 130) x129 x113) fun x131 =>
 pA Tryz.prog (oBin .xor 213 (.tmp 127) (.tmp 131) x127 x131) fun x132 =>
 pA Tryz.prog (oIdx 257 (.pointer (some ⟨2, 0, none⟩)) v99l14) fun x135 =>
 pL Tryz.prog (oLoad 213 x135) w31 fun x136 =>
 pA Tryz.prog (oIdx 257 x5 v99l14) fun x139 =>
 pL Tryz.prog (oLoad 213 x139) w31 fun x140 =>
 pN Tryz.prog (oCall 175 [x109, (.int .i64 (-6))]) w31 fun x117 w32 =>
 ((Sem.run Tryz.prog (oLoad 213 x139) w32 = .ok (.value x140) w32) ∧ (Sem.run Tryz.prog (oLoad 213 x135) w32 = .ok (.value x136) w32) ∧ (Sem.run Tryz.prog (oLoad 213 x114) w32 = .ok (.value x115) w32) ∧ True) ∧ (pN Tryz.prog (oCall 175 [x109, (.int .i64 (-11))]) w32 fun x119 w33 =>
 ((Sem.run Tryz.prog (oLoad 213 x139) w33 = .ok (.value x140) w33) ∧ (Sem.run Tryz.prog (oLoad 213 x135) w33 = .ok (.value x136) w33) ∧ (Sem.run Tryz.prog (oLoad 213 x114) w33 = .ok (.value x115) w33) ∧ True) ∧ (pA Tryz.prog (oBin .xor 213 (.tmp 117) (.tmp 119) x117 x119) fun x120 =>
 pN Tryz.prog (oCall 175 [x109, (.int .i64 (-25))]) w33 fun x122 w34 =>
 ((Sem.run Tryz.prog (oLoad 213 x139) w34 = .ok (.value x140) w34) ∧ (Sem.run Tryz.prog (oLoad 213 x135) w34 = .ok (.value x136) w34) ∧ (Sem.run Tryz.prog (oLoad 213 x114) w34 = .ok (.value x115) w34) ∧ True) ∧ (pA Tryz.prog (oBin .xor 213 (.tmp 120) (.tmp 122) x120 x122) fun x123 =>
 pA Tryz.prog (oBin .add 213 (.tmp 115) (.tmp 123) x115 x123) fun x124 =>
 pA Tryz.prog (oBin .add 213 (.tmp 124) (.tmp 132) x124 x132) fun x133 =>
 pA Tryz.prog (oBin .add 213 (.tmp 133) (.tmp 136) x133 x136) fun x137 =>
 pA Tryz.prog (oBin .add 213 (.tmp 137) (.tmp 140) x137 x140) fun x141 =>
 pN Tryz.prog (oCall 175 [x103, (.int .i64 (-2))]) w34 fun x143 w35 =>
 pN Tryz.prog (oCall 175 [x103, (.int .i64 (-13))]) w35 fun x145 w36 =>
 pN Tryz.prog (oBin .xor 213 (.tmp 143) (.tmp 145) x143 x145) w36 fun x146 w37 =>
 pN Tryz.prog (oCall 175 [x103, (.int .i64 (-22))]) w37 fun x148 w38 =>
 pN Tryz.prog (oBin .xor 213 (.tmp 146) (.tmp 148) x146 x148) w38 fun x149 w39 =>
 pN Tryz.prog (oBin .and 213 (.tmp 150) (.tmp 151) x103 x105) w39 fun x152 w40 =>
 pN Tryz.prog (oBin .and 213 (.tmp 153) (.tmp 154) x103 x107) w40 fun x155 w41 =>
 pN Tryz.prog (oBin .xor 213 (.tmp 152) (.tmp 155) x152 x155) w41 fun x156 w42 =>
 pN Tryz.prog (oBin .and 213 (.tmp 157) (.tmp 158) x105 x107) w42 fun x159 w43 =>
 pN Tryz.prog (oBin .xor 213 (.tmp 156) (.tmp 159) x156 x159) w43 fun x160 w44 =>
 pN Tryz.prog (oBin .add 213 (.tmp 149) (.tmp 160) x149 x160) w44 fun x161 w45 =>
 pN Tryz.prog (oBin .add 213 (.tmp 162) (.tmp 163) x141 x161) w45 fun x164 w46 =>
 pN Tryz.prog (oIdx 214 x11 (.int .i64 3)) w46 fun x168 w47 =>
 pN Tryz.prog (oLoad 213 x168) w47 fun x169 w48 =>
 pN Tryz.prog (oBin .add 213 (.tmp 169) (.tmp 170) x169 x141) w48 fun x171 w49 =>
 pN Tryz.prog (oBuild 214 [(0, x164), (1, x103), (2, x105), (3, x107), (4, x171), (5, x109), (6, x111), (7, x113)]) w49 fun x175 w50 =>
 pN Tryz.prog (oStore 214 x11 x175) w50 fun _ w51 =>
 pN Tryz.prog (oBin .add 3 (.tmp 99) (.const (.int .i64 1)) v99l14 (.int .i64 1)) w51 fun x176 w52 =>
 (L14 x176 w52 ∧ m14 x176 w52 < m14 v99l14 w28)))))
 (∃ (L22 : Value → World → Prop) (m22 : Value → World → Nat),
 L22 (.int .i64 0) w29 ∧
 ∀ (_k22 : Env) (v177l22 : Value) (w53 : World), L22 v177l22 w53 →
 pN Tryz.prog (oBin .lss 3 (.tmp 177) (.const (.int .i64 8)) v177l22 (.int .i64 8)) w53 fun x178 w54 =>
 pIf x178
 (pDr w54 fun w55 =>
 pA Tryz.prog (oIdx 214 x11 v177l22) fun x181 =>
 pL Tryz.prog (oLoad 213 x181) w55 fun x182 =>
 pA Tryz.prog (oIdx 214 x2 v177l22) fun x184 =>
 pL Tryz.prog (oLoad 213 x184) w55 fun x185 =>
 pA Tryz.prog (oBin .add 213 (.tmp 182) (.tmp 185) x182 x185) fun x186 =>
 pA Tryz.prog (oIdx 214 x11 v177l22) fun x187 =>
 pN Tryz.prog (oStore 213 x187 x186) w55 fun _ w56 =>
 (True) ∧ (pN Tryz.prog (oBin .add 3 (.tmp 177) (.const (.int .i64 1)) v177l22 (.int .i64 1)) w56 fun x188 w57 =>
 (L22 x188 w57 ∧ m22 x188 w57 < m22 v177l22 w53)))
 (pN Tryz.prog (oLoad 214 x11) w54 fun x189 w58 =>
 pN Tryz.prog (oStore 214 x4 x189) w58 fun _ w59 =>
 pL Tryz.prog (oRes 214 x4) w59 fun r4 =>
 Q r4 w59)))
theorem sha_Step.calls [Pan] {x0 x1 : Value} {w : World} {Q : Value → World → Prop} (h : sha_Step.F x0 x1 w Q) : Calls Tryz.prog 125 #[x0, x1] w (retP Q) := calls_lift mixed sha_Step.H [x0, x1] Tryz.func125 (by kernel_rfl) (by kernel_rfl) h

def sha_Pad.H : Hints := { cut := fun  | _ => none, loop := fun | 7 => ([18], 68719214624) | _ => ([], 0), order := fun  | _ => [] }
def sha_Pad.F [Pan] (x0 : Value) (w : World) (Q : Value → World → Prop) : Prop :=
 pN Tryz.prog (oBin .lss 3 (.tmp 6) (.const (.int .i64 0)) x0 (.int .i64 0)) w fun x7 w1 =>
 pIf x7
 (Q (.slice none 0 0) w1)
 (pN Tryz.prog (oBin .rem 3 (.tmp 8) (.const (.int .i64 64)) x0 (.int .i64 64)) w1 fun x9 w2 =>
 pN Tryz.prog (oBin .sub 3 (.const (.int .i64 119)) (.tmp 9) (.int .i64 119) x9) w2 fun x10 w3 =>
 pN Tryz.prog (oBin .rem 3 (.tmp 10) (.const (.int .i64 64)) x10 (.int .i64 64)) w3 fun x11 w4 =>
 pN Tryz.prog (oBin .add 3 (.const (.int .i64 1)) (.tmp 12) (.int .i64 1) x11) w4 fun x13 w5 =>
 pN Tryz.prog (oBin .add 3 (.tmp 13) (.const (.int .i64 8)) x13 (.int .i64 8)) w5 fun x14 w6 =>
 pN Tryz.prog (oMk 47 x14 x14) w6 fun x15 w7 =>
 pN Tryz.prog (oIdx 47 x15 (.int .i64 0)) w7 fun x17 w8 =>
 pN Tryz.prog (oStore 5 x17 (bv 128)) w8 fun _ w9 =>
 ∃ (L7 : Value → World → Prop) (m7 : Value → World → Nat),
 L7 (.int .i64 0) w9 ∧
 ∀ (_k7 : Env) (v18l7 : Value) (w10 : World), L7 v18l7 w10 →
 pN Tryz.prog (oBin .lss 3 (.tmp 18) (.const (.int .i64 8)) v18l7 (.int .i64 8)) w10 fun x19 w11 =>
 pIf x19
 (pN Tryz.prog (oBin .add 3 (.const (.int .i64 1)) (.tmp 22) (.int .i64 1) x11) w11 fun x23 w12 =>
 pN Tryz.prog (oBin .add 3 (.tmp 23) (.tmp 24) x23 v18l7) w12 fun x25 w13 =>
 pN Tryz.prog (oConv 3 212 x0) w13 fun x27 w14 =>
 pN Tryz.prog (oBin .shl 212 (.tmp 27) (.const (.int .u64 3)) x27 (.int .u64 3)) w14 fun x28 w15 =>
 pN Tryz.prog (oBin .mul 3 (.const (.int .i64 8)) (.tmp 29) (.int .i64 8) v18l7) w15 fun x30 w16 =>
 pN Tryz.prog (oBin .sub 3 (.const (.int .i64 56)) (.tmp 30) (.int .i64 56) x30) w16 fun x31 w17 =>
 pN Tryz.prog (oBin .shr 212 (.tmp 28) (.tmp 31) x28 x31) w17 fun x32 w18 =>
 pN Tryz.prog (oConv 212 5 x32) w18 fun x33 w19 =>
 pN Tryz.prog (oIdx 47 x15 x25) w19 fun x34 w20 =>
 pN Tryz.prog (oStore 5 x34 x33) w20 fun _ w21 =>
 pN Tryz.prog (oBin .add 3 (.tmp 18) (.const (.int .i64 1)) v18l7 (.int .i64 1)) w21 fun x35 w22 =>
 (L7 x35 w22 ∧ m7 x35 w22 < m7 v18l7 w10))
 (Q x15 w11))
theorem sha_Pad.calls [Pan] {x0 : Value} {w : World} {Q : Value → World → Prop} (h : sha_Pad.F x0 w Q) : Calls Tryz.prog 126 #[x0] w (retP Q) := calls_lift mixed sha_Pad.H [x0] Tryz.func126 (by kernel_rfl) (by kernel_rfl) h

end Go.Proofs.YtikmogfhhggafaaGreatDoor

namespace Go.Proofs.YtikmogfhhggafaaGreatDoor
open Go
set_option maxRecDepth 100000

def math_bits_RotateLeft32.F [Pan] (x0 x1 : Value) (w : World) (Q : Value → World → Prop) : Prop :=
 pN Tryz.prog (oConv 3 97 x1) w fun x7 w1 =>
 pN Tryz.prog (oBin .and 97 (.tmp 7) (.const (.int .u64 31)) x7 (.int .u64 31)) w1 fun x8 w2 =>
 pN Tryz.prog (oBin .shl 213 (.tmp 9) (.tmp 10) x0 x8) w2 fun x11 w3 =>
 pN Tryz.prog (oBin .sub 97 (.const (.int .u64 32)) (.tmp 13) (.int .u64 32) x8) w3 fun x14 w4 =>
 pN Tryz.prog (oBin .shr 213 (.tmp 12) (.tmp 14) x0 x14) w4 fun x15 w5 =>
 pN Tryz.prog (oBin .or 213 (.tmp 11) (.tmp 15) x11 x15) w5 fun x16 w6 =>
 Q x16 w6
theorem math_bits_RotateLeft32.calls [Pan] {x0 x1 : Value} {w : World} {Q : Value → World → Prop} (h : math_bits_RotateLeft32.F x0 x1 w Q) : Calls Tryz.prog 175 #[x0, x1] w (retP Q) := calls_lift mixed .z [x0, x1] Tryz.func175 (by kernel_rfl) (by kernel_rfl) h

end Go.Proofs.YtikmogfhhggafaaGreatDoor

namespace Go.Proofs.YtikmogfhhggafaaGreatDoor
open Go

instance ar_8 : Ar Tryz.prog 214 8 := ⟨_, Tryz.underlying214, Tryz.sizeOf213, Tryz.isAgg213⟩
instance ar_64b : Ar Tryz.prog 215 64 := ⟨_, Tryz.underlying215, Tryz.sizeOf5, Tryz.isAgg5⟩
instance ar_64 : Ar Tryz.prog 257 64 := ⟨_, Tryz.underlying257, Tryz.sizeOf213, Tryz.isAgg213⟩
instance ar_32 : Ar Tryz.prog 57 32 := ⟨_, Tryz.underlying57, Tryz.sizeOf5, Tryz.isAgg5⟩

instance zv_w64 : Zv Tryz.prog 257 (ws (List.replicate 64 0)) := ⟨_, Tryz.zeroValue257, rfl⟩
def hC (h : H.T) : List Value := ws h.st ++ bvs h.blk ++ [.int .i64 h.n]
instance zv_hash : Zv Tryz.prog 217 (hC ⟨List.replicate 8 0, List.replicate 64 0, 0⟩) := ⟨_, Tryz.zeroValue217, rfl⟩

theorem zeros8 : ([.int .u32 0, .int .u32 0, .int .u32 0, .int .u32 0, .int .u32 0, .int .u32 0, .int .u32 0, .int .u32 0] : List Value) = ws (List.replicate 8 0) := rfl
theorem words_0 (blk : List UInt8) : List.replicate 64 0 = H.words blk 0 := rfl

theorem run_b8 (a b c d e f g h : H.W) (w : World) : (oBuild 214 [(0, wv a), (1, wv b), (2, wv c), (3, wv d), (4, wv e), (5, wv f), (6, wv g), (7, wv h)]).run Tryz.prog w = .ok (.value (.agg (ws [a, b, c, d, e, f, g, h]).toArray)) w := by kernel_rfl
theorem pN_b8 [Pan] {w : World} {K : Value → World → Prop} {a b c d e f g h : H.W} (hk : K (.agg (ws [a, b, c, d, e, f, g, h]).toArray) w) : pN Tryz.prog (oBuild 214 [(0, wv a), (1, wv b), (2, wv c), (3, wv d), (4, wv e), (5, wv f), (6, wv g), (7, wv h)]) w K := by rw [pN_def, run_b8, rN_value]; exact hk

def bndV : List Value := [.int .u64 128, .int .u64 16384, .int .u64 2097152, .int .u64 268435456, .int .u64 34359738368, .int .u64 4398046511104, .int .u64 562949953421312, .int .u64 72057594037927936, .int .u64 9223372036854775808]
structure GloS (W : World) : Prop where
  first : ∀ i, i < 8 → W.cell? ⟨0, i, none⟩ = some (wv (H.nth H.first i))
  rounds : ∀ i, i < 64 → W.cell? ⟨2, i, none⟩ = some (wv (H.nth H.consts i))
  bounds : ∀ (i : Nat) (u : Value), bndV[i]? = some u → W.cell? ⟨3, i, none⟩ = some u
theorem old_cell {E w W : World} {L M : List HA} (hS : Sat E w L) [h : Has (old W) L M] {a : Addr} {v : Value} (hc : W.cell? a = some v) : w.cell? a = some v := by
  have hS2 : Sat E w (old W :: M) := hS.perm h.perm
  have hh := hS2.old_at 0 rfl
  unfold World.cell? at hc ⊢
  cases hb : W.heap[a.block]? with
  | none => rw [hb] at hc; cases hc
  | some o => rw [hh _ _ hb]; rw [hb] at hc; exact hc

section
variable [Pan] {E w W : World} {K Q : Value → World → Prop} {J : Value → Prop} {L M N : List HA} {l r : List UInt8} {s s2 : Sl}

theorem pL_glo {t : TypeId} {a : Addr} {v : Value} (hS : Sat E w L) [h : Has (old W) L M] [Sc Tryz.prog t] (hc : W.cell? a = some v) (hk : J v) : pL Tryz.prog (oLoad t (.pointer (some a))) w J := ⟨v, run_load Sc.na (old_cell hS hc), hk⟩
theorem run_glo {t : TypeId} {a : Addr} {v : Value} (hS : Sat E w L) [h : Has (old W) L M] [Sc Tryz.prog t] (hc : W.cell? a = some v) : (oLoad t (.pointer (some a))).run Tryz.prog w = .ok (.value v) w := run_load Sc.na (old_cell hS hc)

end
attribute [local irreducible] oMv oV oU oCall oCallV oBi oBin oUn oLoad oStore oNil oFld oField oIdx oIndex oPick oAlloc oBox oBuild oBs oConv oMk oSl oExt oFn oIface oMap oLook oMapUp oRange oNext oEntry oInv oAssert oPanic oRes pN pA pL pDr pIf gA pGd Calls H.words H.rounds H.added H.word H.round
section
variable [Pan] {E w W : World} {K Q : Value → World → Prop} {J : Value → Prop} {L M N : List HA} {l r : List UInt8} {s s2 : Sl}

theorem Rot_ok (x : H.W) (i : Int) (n : Nat) (hi : i % 32 = (n : Int)) (hb : -32 ≤ i ∧ i < 32) (hS : Sat E w M) (hQ : ∀ w, Sat E w M → Q (wv (H.rot x n)) w) : Calls Tryz.prog 175 #[wv x, .int .i64 i] w (retP Q) := by
  refine math_bits_RotateLeft32.calls ?_
  unfold math_bits_RotateLeft32.F
  repeat' (first | refine pN_shl_w n (by omega) (by omega) ?_ | refine pN_shr_w (32 - n) (by omega) (by omega) ?_ | refine pN_or_w ?_ | (refine pN_via (fun K => pN_andn 5 31 32 (by rfl) (by rfl) (by decide) (by rw [wrap_u64]; omega)) ?_) | refine pN_v (hk := ?_) | fail)
  exact hQ _ hS

set_option maxHeartbeats 2000000 in
set_option maxRecDepth 8000 in
theorem Step_ok (hG : GloS W) (st : List H.W) (blk : List UInt8) (h8 : st.length = 8) (h64 : blk.length = 64) (hS : Sat E w M) [Has (old W) M N] (hQ : ∀ w, Sat E w M → Q (.agg (ws (H.step st blk)).toArray) w) :
    Calls Tryz.prog 125 #[.agg (ws st).toArray, .agg (bvs blk).toArray] w (retP Q) := by
  refine sha_Step.calls ?_
  unfold sha_Step.F
  refine pN_bx (z := ws st) hS rfl ?_
  clear hS
  intro b2 w hS
  refine pN_bx (z := bvs blk) hS rfl ?_
  clear hS
  intro b3 w hS
  refine pN_nz hS ?_
  clear hS
  intro b4 w hS
  refine pN_nz hS ?_
  clear hS
  intro b5 w hS
  have hS : Sat E w (cel b5 ⟨257, ws (H.words blk 0)⟩ :: cel b4 ⟨214, ws (List.replicate 8 0)⟩ :: cel b3 ⟨215, bvs blk⟩ :: cel b2 ⟨214, ws st⟩ :: M) := by
    rw [← words_0, ← zeros8]; exact hS
  refine ⟨fun v w => ∃ t : Nat, v = .int .i64 t ∧ t ≤ 64 ∧ Sat E w (cel b5 ⟨257, ws (H.words blk t)⟩ :: cel b4 ⟨214, ws (List.replicate 8 0)⟩ :: cel b3 ⟨215, bvs blk⟩ :: cel b2 ⟨214, ws st⟩ :: M), fun v _ => 64 - (RowKit.intOf v).toNat, ⟨0, rfl, by omega, hS⟩, ?_⟩
  clear hS
  rintro _ _ w ⟨t, rfl, ht, hS⟩
  have hwl := H.words_len blk t
  have hws : ∀ i, i < 64 → (ws (H.words blk t))[i]? = some (wv (H.nth (H.words blk t) i)) := fun i hi => ws_at (by omega)
  have hbs : ∀ i, i < 64 → (bvs blk)[i]? = some (bv (blk.getD i 0)) := fun i hi => bvs_at (by omega)
  have hlw : t < 64 → t < (ws (H.words blk t)).length := fun h => by rw [ws_len]; omega
  by_cases h64t : t < 64
  · have hlw := hlw h64t
    repeat' (first | (refine pN_lss_s ?_ ?_ <;> intro hc <;> try (exfalso; omega)) | refine pIf_t ?_ | fail)
    refine ⟨fun w => Sat E w (cel b5 ⟨257, ws (H.words blk (t + 1))⟩ :: cel b4 ⟨214, ws (List.replicate 8 0)⟩ :: cel b3 ⟨215, bvs blk⟩ :: cel b2 ⟨214, ws st⟩ :: M), ?_, ?_⟩
    · have hset : ∀ x, x = H.word blk (H.words blk t) t → (ws (H.words blk t)).set t (wv x) = ws (H.words blk (t + 1)) := fun x hx => by rw [ws_set, hx, H.words_s]
      by_cases h16 : t < 16
      · have hword := hset _ (H.word_lo h16).symm
        unfold H.by_ at hword
        repeat' (first | refine pA_ai0 t (by omega) (by omega) ?_ | refine pA_ai0 (4 * t) (by omega) (by omega) ?_ | refine pA_ai0 (4 * t + 1) (by omega) (by omega) ?_ | refine pA_ai0 (4 * t + 2) (by omega) (by omega) ?_ | refine pA_ai0 (4 * t + 3) (by omega) (by omega) ?_ | refine pL_l hS (hbs _ (by omega)) ?_ | refine pL_tow ?_ | refine pA_shl_w 24 rfl (by omega) ?_ | refine pA_shl_w 16 rfl (by omega) ?_ | refine pA_shl_w 8 rfl (by omega) ?_ | refine pA_or_w ?_ | (refine pN_s hS hlw (by rfl) ?_; clear hS; intro w hS) | (refine pN_lss_s ?_ ?_ <;> intro hc <;> try (exfalso; omega)) | refine pIf_t ?_ | (refine pDr_go hS ?_; clear hS; intro w hS) | refine ⟨trivial, ?_⟩ | refine pA_v (hk := ?_) | fail)
        dsimp only at hS
        rw [hword] at hS
        exact hS
      · have hword := hset _ (H.word_hi h16).symm
        repeat' (first | refine pA_ai0 t (by omega) (by omega) ?_ | refine pA_ai0 (t - 15) (by omega) (by omega) ?_ | refine pA_ai0 (t - 2) (by omega) (by omega) ?_ | refine pA_ai0 (t - 7) (by omega) (by omega) ?_ | refine pA_ai0 (t - 16) (by omega) (by omega) ?_ | refine pL_l hS (hws _ (by omega)) ?_ | (refine pc_math_bits_RotateLeft32 (Rot_ok _ (-7) 25 (by rfl) (by omega) hS ?_); clear hS; intro w hS) | (refine pc_math_bits_RotateLeft32 (Rot_ok _ (-18) 14 (by rfl) (by omega) hS ?_); clear hS; intro w hS) | (refine pc_math_bits_RotateLeft32 (Rot_ok _ (-17) 15 (by rfl) (by omega) hS ?_); clear hS; intro w hS) | (refine pc_math_bits_RotateLeft32 (Rot_ok _ (-19) 13 (by rfl) (by omega) hS ?_); clear hS; intro w hS) | refine pN_shr_w 3 rfl (by omega) ?_ | refine pN_shr_w 10 rfl (by omega) ?_ | refine pN_xor_w ?_ | refine pA_add_w ?_ | (refine pN_s hS hlw (by rfl) ?_; clear hS; intro w hS) | (refine pN_lss_s ?_ ?_ <;> intro hc <;> try (exfalso; omega)) | refine pIf_f ?_ | (refine pDr_go hS ?_; clear hS; intro w hS) | refine ⟨trivial, ?_⟩ | refine pA_v (hk := ?_) | fail)
        dsimp only at hS
        rw [hword] at hS
        exact hS
    · rintro _ w hS
      repeat' (first | refine pN_v (hk := ?_) | fail)
      exact ⟨⟨t + 1, rfl, by omega, hS⟩, by simp [RowKit.intOf] <;> omega⟩
  · obtain rfl : t = 64 := by omega
    clear hlw
    generalize hWd : H.words blk 64 = W at *
    repeat' (first | (refine pN_lss_s ?_ ?_ <;> intro hc <;> try (exfalso; omega)) | refine pIf_f ?_ | fail)
    have hst : (ws st).length = 8 := by rw [ws_len]; exact h8
    refine pN_la (P := Tryz.prog) (t := 214) (b := b2) (o := ⟨214, ws st⟩) hS hst.symm ?_
    refine pN_nz hS ?_
    clear hS
    intro b6 w hS
    refine pN_sa (P := Tryz.prog) (t := 214) (b := b6) (us := ws st) hS hst.symm (by rw [hst]; rfl) (ws_one st) ?_
    clear hS
    intro w hS
    have hS : Sat E w (cel b6 ⟨214, ws (H.rounds st W 0)⟩ :: cel b5 ⟨257, ws W⟩ :: cel b4 ⟨214, ws (List.replicate 8 0)⟩ :: cel b3 ⟨215, bvs blk⟩ :: cel b2 ⟨214, ws st⟩ :: M) := by
      rw [H.rounds_0]; exact hS
    refine ⟨fun v w => ∃ t : Nat, v = .int .i64 t ∧ t ≤ 64 ∧ Sat E w (cel b6 ⟨214, ws (H.rounds st W t)⟩ :: cel b5 ⟨257, ws W⟩ :: cel b4 ⟨214, ws (List.replicate 8 0)⟩ :: cel b3 ⟨215, bvs blk⟩ :: cel b2 ⟨214, ws st⟩ :: M), fun v _ => 64 - (RowKit.intOf v).toNat, ⟨0, rfl, by omega, hS⟩, ?_⟩
    clear hS
    rintro _ _ w ⟨t, rfl, ht, hS⟩
    have hrl := H.rounds_len (w := W) h8 t
    have hrs : ∀ i, i < 8 → (ws (H.rounds st W t))[i]? = some (wv (H.nth (H.rounds st W t) i)) := fun i hi => ws_at (by omega)
    by_cases h64t : t < 64
    · have hgr := hG.rounds t h64t
      have hsucc := H.rounds_s st W t
      generalize H.rounds st W t = R at *
      repeat' (first | refine pA_ai0 t (by omega) (by omega) ?_ | refine pA_ai0 0 rfl (by omega) ?_ | refine pA_ai0 1 rfl (by omega) ?_ | refine pA_ai0 2 rfl (by omega) ?_ | refine pA_ai0 4 rfl (by omega) ?_ | refine pA_ai0 5 rfl (by omega) ?_ | refine pA_ai0 6 rfl (by omega) ?_ | refine pA_ai0 7 rfl (by omega) ?_ | refine pN_ai0 3 rfl (by omega) ?_ | refine pL_glo hS hgr ?_ | refine pL_l hS (hrs _ (by omega)) ?_ | refine pN_l hS (hrs _ (by omega)) ?_ | refine pL_l hS (hws _ (by omega)) ?_ | refine ⟨⟨run_l hS (hws _ (by omega)), run_glo hS hgr, run_l hS (hrs _ (by omega)), trivial⟩, ?_⟩ | (refine pc_math_bits_RotateLeft32 (Rot_ok _ (-6) 26 (by rfl) (by omega) hS ?_); clear hS; intro w hS) | (refine pc_math_bits_RotateLeft32 (Rot_ok _ (-11) 21 (by rfl) (by omega) hS ?_); clear hS; intro w hS) | (refine pc_math_bits_RotateLeft32 (Rot_ok _ (-25) 7 (by rfl) (by omega) hS ?_); clear hS; intro w hS) | (refine pc_math_bits_RotateLeft32 (Rot_ok _ (-2) 30 (by rfl) (by omega) hS ?_); clear hS; intro w hS) | (refine pc_math_bits_RotateLeft32 (Rot_ok _ (-13) 19 (by rfl) (by omega) hS ?_); clear hS; intro w hS) | (refine pc_math_bits_RotateLeft32 (Rot_ok _ (-22) 10 (by rfl) (by omega) hS ?_); clear hS; intro w hS) | refine pN_xor_w ?_ | refine pA_xor_w ?_ | refine pN_and_w ?_ | refine pA_and_w ?_ | refine pN_add_w ?_ | refine pA_add_w ?_ | refine pA_com_w ?_ | (refine pN_lss_s ?_ ?_ <;> intro hc <;> try (exfalso; omega)) | refine pIf_t ?_ | (refine pDr_go hS ?_; clear hS; intro w hS) | fail)
      refine pN_b8 ?_
      rw [← H.round_eq, ← hsucc]
      have hsl : (ws (H.rounds st W (t + 1))).length = 8 := by rw [ws_len]; exact H.rounds_len h8 (t + 1)
      refine pN_sa (P := Tryz.prog) (t := 214) (b := b6) (us := ws (H.rounds st W (t + 1))) hS hsl.symm (by rw [hsl]; show 8 = (ws R).length; rw [ws_len, hrl]) (ws_one _) ?_
      clear hS
      intro w hS
      repeat' (first | refine pN_v (hk := ?_) | fail)
      exact ⟨⟨t + 1, rfl, by omega, hS⟩, by simp [RowKit.intOf] <;> omega⟩
    · obtain rfl : t = 64 := by omega
      clear hrs
      generalize hRd : H.rounds st W 64 = R at *
      repeat' (first | (refine pN_lss_s ?_ ?_ <;> intro hc <;> try (exfalso; omega)) | refine pIf_f ?_ | fail)
      have hS : Sat E w (cel b6 ⟨214, ws (H.added R st 0)⟩ :: cel b5 ⟨257, ws W⟩ :: cel b4 ⟨214, ws (List.replicate 8 0)⟩ :: cel b3 ⟨215, bvs blk⟩ :: cel b2 ⟨214, ws st⟩ :: M) := by
        rw [H.added_0]; exact hS
      refine ⟨fun v w => ∃ t : Nat, v = .int .i64 t ∧ t ≤ 8 ∧ Sat E w (cel b6 ⟨214, ws (H.added R st t)⟩ :: cel b5 ⟨257, ws W⟩ :: cel b4 ⟨214, ws (List.replicate 8 0)⟩ :: cel b3 ⟨215, bvs blk⟩ :: cel b2 ⟨214, ws st⟩ :: M), fun v _ => 8 - (RowKit.intOf v).toNat, ⟨0, rfl, by omega, hS⟩, ?_⟩
      clear hS
      rintro _ _ w ⟨t, rfl, ht, hS⟩
      have hal := H.added_len (s := R) (o := st) t
      rw [hrl] at hal
      have has : ∀ i, i < 8 → (ws (H.added R st t))[i]? = some (wv (H.nth (H.added R st t) i)) := fun i hi => ws_at (by omega)
      have hss : ∀ i, i < 8 → (ws st)[i]? = some (wv (H.nth st i)) := fun i hi => ws_at (by omega)
      by_cases h8t : t < 8
      · have hsucc := H.added_s R st t
        have hset := ws_set (H.added R st t) t (H.nth (H.added R st t) t + H.nth st t)
        rw [← hsucc] at hset
        have hlt : t < (ws (H.added R st t)).length := by rw [ws_len]; omega
        generalize H.added R st t = D at *
        repeat' (first | refine pA_ai0 t (by omega) (by omega) ?_ | refine pL_l hS (has _ (by omega)) ?_ | refine pL_l hS (hss _ (by omega)) ?_ | refine pA_add_w ?_ | (refine pN_s hS hlt (by rfl) ?_; clear hS; intro w hS) | (refine pN_lss_s ?_ ?_ <;> intro hc <;> try (exfalso; omega)) | refine pIf_t ?_ | (refine pDr_go hS ?_; clear hS; intro w hS) | refine ⟨trivial, ?_⟩ | refine pN_v (hk := ?_) | fail)
        dsimp only at hS
        rw [hset] at hS
        exact ⟨⟨t + 1, rfl, by omega, hS⟩, by simp [RowKit.intOf] <;> omega⟩
      · obtain rfl : t = 8 := by omega
        have hst8 : H.added R st 8 = H.step st blk := by rw [H.step, hWd, hRd]
        rw [hst8] at hS
        have hl8 := H.step_len h8 blk
        generalize H.step st blk = D at *
        have hDl : (ws D).length = 8 := by rw [ws_len]; exact hl8
        repeat' (first | (refine pN_lss_s ?_ ?_ <;> intro hc <;> try (exfalso; omega)) | refine pIf_f ?_ | fail)
        refine pN_la (P := Tryz.prog) (t := 214) (b := b6) (o := ⟨214, ws D⟩) hS hDl.symm ?_
        refine pN_sa (P := Tryz.prog) (t := 214) (b := b4) (us := ws D) hS hDl.symm (by rw [hDl]; rfl) (ws_one _) ?_
        clear hS
        intro w hS
        refine pL_ra (P := Tryz.prog) (t := 214) (b := b4) (o := ⟨214, ws D⟩) hS hDl.symm ?_
        exact hQ _ hS.to
end
end Go.Proofs.YtikmogfhhggafaaGreatDoor

namespace Go.Proofs.YtikmogfhhggafaaGreatDoor
open Go

section
variable {h : H.T}
theorem hC_len (h8 : h.st.length = 8) (h64 : h.blk.length = 64) : (hC h).length = 73 := by simp only [hC, List.length_append, ws_len, bvs_length, h8, h64, List.length_singleton]
theorem hC_n (h8 : h.st.length = 8) (h64 : h.blk.length = 64) : (hC h)[72]? = some (.int .i64 h.n) := by
  rw [hC, List.getElem?_append_right (by simp only [List.length_append, ws_len, bvs_length]; omega)]
  simp only [List.length_append, ws_len, bvs_length, h8, h64]
  rfl
theorem hC_setn (h8 : h.st.length = 8) (h64 : h.blk.length = 64) (n : Nat) : (hC h).set 72 (.int .i64 n) = hC ⟨h.st, h.blk, n⟩ := by
  rw [hC, List.set_append_right _ _ (by simp only [List.length_append, ws_len, bvs_length]; omega)]
  simp only [List.length_append, ws_len, bvs_length, h8, h64]
  rfl
theorem hC_setb (h8 : h.st.length = 8) (h64 : h.blk.length = 64) {i : Nat} (hi : i < 64) (c : UInt8) : (hC h).set (8 + i) (bv c) = hC ⟨h.st, h.blk.set i c, h.n⟩ := by
  rw [hC, List.append_assoc, List.set_append_right _ _ (by rw [ws_len]; omega), ws_len, h8, Nat.add_sub_cancel_left, List.set_append_left _ _ (by rw [bvs_length]; omega), bvs_set, ← List.append_assoc]
  rfl
theorem hC_st (h8 : h.st.length = 8) : ((hC h).drop 0).take 8 = ws h.st := by
  rw [List.drop_zero, hC, List.append_assoc, List.take_append_of_le_length (by rw [ws_len]; omega), List.take_of_length_le (by rw [ws_len]; omega)]
theorem hC_blk (h8 : h.st.length = 8) (h64 : h.blk.length = 64) : ((hC h).drop 8).take 64 = bvs h.blk := by
  have e : (8 : Nat) = (ws h.st).length := by rw [ws_len, h8]
  rw [hC, List.append_assoc, e, List.drop_left, List.take_append_of_le_length (by rw [bvs_length]; omega), List.take_of_length_le (by rw [bvs_length]; omega)]
theorem hC_setst (h8 : h.st.length = 8) {st : List H.W} (h8' : st.length = 8) : (hC h).take 0 ++ ws st ++ (hC h).drop (0 + (ws st).length) = hC ⟨st, h.blk, h.n⟩ := by
  have e : 0 + (ws st).length = (ws h.st).length := by rw [ws_len, ws_len, h8, h8']
  rw [List.take_zero, List.nil_append, e, hC, List.append_assoc, List.drop_left, hC, List.append_assoc]
theorem ws_at_cells {W : World} {g : Nat} {l : List H.W} (h : ∀ i, i < l.length → W.cell? ⟨g, i, none⟩ = some (wv (H.nth l i))) : ∀ (j : Nat) (u : Value), (ws l)[j]? = some u → W.cell? ((⟨g, 0, none⟩ : Addr).add j) = some u := by
  intro j u hj
  have hlt : j < l.length := by
    have := (List.getElem?_eq_some_iff.1 hj).1
    rwa [ws_len] at this
  rw [ws_at hlt] at hj
  rw [← Option.some.inj hj, Addr.add_lit, Nat.zero_add]
  exact h j hlt
end
theorem zeros32 : ([bv 0, bv 0, bv 0, bv 0, bv 0, bv 0, bv 0, bv 0, bv 0, bv 0, bv 0, bv 0, bv 0, bv 0, bv 0, bv 0, bv 0, bv 0, bv 0, bv 0, bv 0, bv 0, bv 0, bv 0, bv 0, bv 0, bv 0, bv 0, bv 0, bv 0, bv 0, bv 0] : List Value) = bvs (List.replicate 32 0) := rfl
theorem hC_one (h : H.T) : (hC h).all (·.oneCell') = true := by
  rw [hC, List.all_append, List.all_append, ws_one, bvs_all]; rfl
theorem run_bHash (w : World) : (oBuild 217 [(0, .agg (ws H.first).toArray)]).run Tryz.prog w = .ok (.value (.agg (hC H.T.new).toArray)) w := by kernel_rfl
theorem pN_bHash [Pan] {w : World} {K : Value → World → Prop} (hk : K (.agg (hC H.T.new).toArray) w) : pN Tryz.prog (oBuild 217 [(0, .agg (ws H.first).toArray)]) w K := by rw [pN_def, run_bHash, rN_value]; exact hk

attribute [local irreducible] oMv oV oU oCall oCallV oBi oBin oUn oLoad oStore oNil oFld oField oIdx oIndex oPick oAlloc oBox oBuild oBs oConv oMk oSl oExt oFn oIface oMap oLook oMapUp oRange oNext oEntry oInv oAssert oPanic oRes pN pA pL pDr pIf gA pGd Calls H.words H.rounds H.added H.word H.round H.T.put H.T.write H.step H.pad H.bes hC
abbrev pq (b : Nat) : Value := .pointer (some ⟨b, 0, none⟩)
section
variable [Pan] {E w W : World} {K Q : Value → World → Prop} {J : Value → Prop} {L M N : List HA} {l r : List UInt8} {s s2 : Sl} {b : Nat} {h : H.T}

theorem ShNew_ok (hG : GloS W) (hS : Sat E w M) [Has (old W) M N] (hQ : ∀ b w, Sat E w (cel b ⟨217, hC H.T.new⟩ :: M) → Q (pq b) w) : Calls Tryz.prog 92 #[] w (retP Q) := by
  refine sha_New.calls ?_
  unfold sha_New.F
  refine pN_ld_n (cs := ws H.first) Ag.ag Ag.sz rfl (ws_at_cells fun i hi => old_cell hS (hG.first i hi)) ?_
  refine pN_bHash ?_
  refine pN_bx (z := hC H.T.new) hS rfl ?_
  clear hS
  intro b w hS
  exact hQ b w hS

set_option maxHeartbeats 2000000 in
theorem ShWrite_ok (hG : GloS W) (h8 : h.st.length = 8) (h64 : h.blk.length = 64) (hS : Sat E w (cel b ⟨217, hC h⟩ :: M)) [Has (old W) M N] [hr : Rds cd_uint8 M s l] (hn : h.n + l.length < 4611686018427387904)
    (hQ : ∀ w, Sat E w (cel b ⟨217, hC (h.write l)⟩ :: M) → Q (.tuple #[]) w) : Calls Tryz.prog 93 #[pq b, .slice s.a l.length s.c] w (retP Q) := by
  refine sha_Hash_Write.calls ?_
  unfold sha_Hash_Write.F
  repeat' (first | refine pN_v (hk := ?_) | fail)
  refine ⟨fun v w => ∃ t : Nat, v = .int .i64 t ∧ t ≤ l.length ∧ Sat E w (cel b ⟨217, hC (h.write (l.take t))⟩ :: M), fun v _ => l.length - (RowKit.intOf v).toNat, ⟨0, rfl, by omega, by rw [List.take_zero, H.write_nil]; exact hS⟩, ?_⟩
  clear hS
  rintro _ _ w ⟨t, rfl, ht, hS⟩
  obtain ⟨g8, g64, gn⟩ := H.write_ok (l.take t) h8 h64
  rw [List.length_take, Nat.min_eq_left ht] at gn
  by_cases hlt : t < l.length
  · obtain ⟨c, hc⟩ : ∃ c, l[t]? = some c := ⟨l[t], by simp [hlt]⟩
    have hsucc : h.write (l.take (t + 1)) = (h.write (l.take t)).put c := by
      rw [List.take_add_one, hc, H.write_app, H.write_one]
    generalize h.write (l.take t) = G at *
    have hcn := hC_n g8 g64
    repeat' (first | (refine pN_lss_s ?_ ?_ <;> intro hc <;> try (exfalso; omega)) | refine pIf_t ?_ | fail)
    refine ⟨fun w => Sat E w (cel b ⟨217, hC (G.put c)⟩ :: M), ?_, ?_⟩
    · have hm : G.n % 64 < 64 := Nat.mod_lt _ (by omega)
      have hlb : 8 + G.n % 64 < (hC G).length := by rw [hC_len g8 g64]; omega
      have hsb := hC_setb g8 g64 hm c
      repeat' (first | refine pN_l hS hcn ?_ | refine pN_aia (G.n % 64) (by omega) (by omega) ?_ | (refine pN_s hS hlb (by rfl) ?_; clear hS; intro w hS) | refine pN_ld1 ha hS ?_ | refine pN_ixk hS _ (by first | rfl | (exact (Int.toNat_of_nonneg (by omega)).symm)) (by first | rfl | omega | simpa only [go_sem] using True.intro | (simp only [go_sem]; omega)) (by assumption) fun a ha hel => ?_ | refine pN_v (hk := ?_) | fail)
      dsimp only at hS
      rw [hsb] at hS
      obtain ⟨G2, hG2⟩ : ∃ G2 : H.T, G2 = ⟨G.st, G.blk.set (G.n % 64) c, G.n⟩ := ⟨_, rfl⟩
      have e8 : G2.st.length = 8 := by rw [hG2]; exact g8
      have e64 : G2.blk.length = 64 := by rw [hG2]; show (G.blk.set _ c).length = 64; rw [List.length_set, g64]
      have en : G2.n = G.n := by rw [hG2]
      rw [← hG2] at hS
      have hcn2 := hC_n e8 e64
      rw [en] at hcn2
      have hsn := hC_setn e8 e64 (G.n + 1)
      have hl2 : 72 < (hC G2).length := by rw [hC_len e8 e64]; omega
      have hcast : ((G.n : Int) + 1) = ((G.n + 1 : Nat) : Int) := by norm_cast
      repeat' (first | refine pN_l hS hcn2 ?_ | (refine pN_s hS hl2 (by rfl) ?_; clear hS; intro w hS) | (refine pN_eql_s ?_ ?_ <;> intro hc <;> try (exfalso; first | omega | exact hc rfl | exact hc (by assumption) | exact absurd hc (by assumption))) | refine pIf_t ?_ | refine pIf_f ?_ | (refine pDr_go hS ?_; clear hS; intro w hS) | refine pN_v (hk := ?_) | refine pA_v (hk := ?_) | fail)
      · dsimp only at hS
        rw [hcast, hsn] at hS
        have hm63 : G.n % 64 = 63 := by omega
        rw [H.put_63 hm63 c]
        obtain ⟨G3, hG3⟩ : ∃ G3 : H.T, G3 = ⟨G2.st, G2.blk, G.n + 1⟩ := ⟨_, rfl⟩
        rw [← hG3] at hS
        have f8 : G3.st.length = 8 := by rw [hG3]; exact e8
        have f64 : G3.blk.length = 64 := by rw [hG3]; exact e64
        have hws : (ws G3.st).length = 8 := by rw [ws_len, f8]
        have hbs : (bvs G3.blk).length = 64 := by rw [bvs_length, f64]
        have hs8 := H.step_len f8 G3.blk
        have hsw : (ws (H.step G3.st G3.blk)).length = 8 := by rw [ws_len, hs8]
        have hse := hC_setst (h := G3) f8 hs8
        have hl0 : 0 + (ws (H.step G3.st G3.blk)).length ≤ (hC G3).length := by rw [hsw, hC_len f8 f64]; omega
        have hfin : (⟨H.step G.st (G.blk.set 63 c), G.blk.set 63 c, G.n + 1⟩ : H.T) = ⟨H.step G3.st G3.blk, G3.blk, G3.n⟩ := by rw [hG3, hG2, hm63]
        rw [hfin]
        repeat' (first | refine pL_la_at (n := 8) hS (ws G3.st) (hC_st f8) hws.symm ?_ | refine pL_la_at (n := 64) hS (bvs G3.blk) (hC_blk f8 f64) hbs.symm ?_ | (refine pc_sha_Step (Step_ok hG _ _ f8 f64 hS ?_); clear hS; intro w hS) | (refine pN_sa_at (n := 8) hS hsw.symm hl0 (ws_one _) ?_; clear hS; intro w hS) | refine ⟨trivial, ?_⟩ | refine pA_v (hk := ?_) | fail)
        dsimp only at hS
        rw [hse] at hS
        exact hS
      · dsimp only at hS
        rw [hcast, hsn] at hS
        rw [H.put_lo (h := G) (by omega) c]
        rw [hG2] at hS
        exact hS
    · rintro _ w hS
      rw [← hsucc] at hS
      repeat' (first | refine pN_v (hk := ?_) | fail)
      exact ⟨⟨t + 1, rfl, by omega, hS⟩, by simp [RowKit.intOf] <;> omega⟩
  · obtain rfl : t = l.length := by omega
    rw [List.take_length] at hS
    repeat' (first | (refine pN_lss_s ?_ ?_ <;> intro hc <;> try (exfalso; omega)) | refine pIf_f ?_ | fail)
    exact hQ _ hS

theorem shr_byte (x k : Nat) : byteOf ((x : Int) / 2 ^ (8 * k)) = byteOf ((x / 256 ^ k : Nat) : Int) := by
  have e : (256 : Nat) ^ k = 2 ^ (8 * k) := by rw [Nat.pow_mul]
  rw [e]
  congr 1

set_option maxHeartbeats 2000000 in
theorem Pad_ok (n : Nat) (hn : n < 4611686018427387904) (hS : Sat E w M) (hQ : ∀ s w, Sat E w (rows cd_uint8 s (H.pad n) :: M) → Q (.slice s.a (H.pad n).length s.c) w) : Calls Tryz.prog 126 #[.int .i64 n] w (retP Q) := by
  refine sha_Pad.calls ?_
  unfold sha_Pad.F
  obtain ⟨z, hz⟩ : ∃ z : Nat, z = (119 - n % 64) % 64 := ⟨_, rfl⟩
  have hz64 : z < 64 := by omega
  have hzi : (119 - (n : Int) % 64) % 64 = (z : Int) := by omega
  have hp : H.pad n = (128 :: List.replicate z 0) ++ H.bes (n * 8 % 18446744073709551616) 8 := by rw [H.pad_eq, hz]
  generalize hB : H.bes (n * 8 % 18446744073709551616) 8 = B at *
  have hBl : B.length = 8 := by rw [← hB, H.bes_len]
  have hBg : ∀ k, k < 8 → B[k]? = some (byteOf (((n * 8 % 18446744073709551616) / 256 ^ (7 - k) : Nat) : Int)) := fun k hk => by rw [← hB, H.bes_get 8 _ k hk]
  repeat' (first | (refine pN_mk (C := cd_uint8) hS (1 + z + 8) (by omega) (by omega) ?_; clear hS; intro s w hS) | (refine pN_lss_s ?_ ?_ <;> intro hc <;> try (exfalso; omega)) | refine pIf_f ?_ | refine pN_ix hS _ (by first | rfl | (exact (Int.toNat_of_nonneg (by omega)).symm)) (by first | rfl | omega | simpa only [go_sem] using True.intro | (simp only [go_sem]; omega)) (by first | omega | (simp only [go_sem]; omega)) fun a x hx ha hel => ?_ | (refine pN_sr hel hS (by rfl) (by rfl) (by first | omega | (simp only [go_sem]; omega)) ?_; clear hS; intro w hS) | refine pN_v (hk := ?_) | fail)
  rw [hzi]
  have h0 : (List.replicate (1 + z + 8) cd_uint8.zero).set 0 128 = H.sofar (128 :: List.replicate z 0) B 0 := by
    rw [show 1 + z + 8 = (z + 8) + 1 by omega, List.replicate_succ, List.set_cons_zero, H.sofar, hBl, List.take_zero, List.nil_append, List.cons_append, List.replicate_append_replicate]
    rfl
  have hAl : (128 :: List.replicate z (0 : UInt8)).length = 1 + z := by rw [List.length_cons, List.length_replicate]; omega
  generalize hA : (128 :: List.replicate z (0 : UInt8)) = A at *
  have hfin : H.pad n = H.sofar A B 8 := by rw [hp, ← hBl, H.sofar_all]
  have hsl : ∀ k, k ≤ 8 → (H.sofar A B k).length = 1 + z + 8 := fun k hk => by rw [H.sofar_len _ _ (by omega), hAl, hBl]
  rw [h0] at hS
  refine ⟨fun v w => ∃ k : Nat, v = .int .i64 k ∧ k ≤ 8 ∧ Sat E w (rows cd_uint8 s (H.sofar A B k) :: M), fun v _ => 8 - (RowKit.intOf v).toNat, ⟨0, rfl, by omega, hS⟩, ?_⟩
  clear hS
  rintro _ _ w ⟨k, rfl, hk, hS⟩
  have hlk := hsl k hk
  by_cases hk8 : k < 8
  · have hset := H.sofar_set A (hBg k hk8)
    rw [hAl] at hset
    rw [← hlk]
    generalize H.sofar A B k = D at *
    have hval : byteOf (IntKind.u64.wrap ((n : Int) * 8) / 2 ^ (8 * (7 - k))) = byteOf (((n * 8 % 18446744073709551616) / 256 ^ (7 - k) : Nat) : Int) := by
      rw [← shr_byte, wrap_u64, Int.natCast_emod, Int.natCast_mul]; rfl
    repeat' (first | refine pN_via (fun K => pN_shln 3 3 8 rfl rfl (by decide)) ?_ | refine pN_shr_k (8 * (7 - k)) (by omega) (show _ ≤ 64 by omega) ?_ | (refine pN_lss_s ?_ ?_ <;> intro hc <;> try (exfalso; omega)) | refine pIf_t ?_ | refine pN_tob ?_ | refine pN_ix hS _ (by first | rfl | (exact (Int.toNat_of_nonneg (by omega)).symm)) (by first | rfl | omega | simpa only [go_sem] using True.intro | (simp only [go_sem]; omega)) (by first | omega | (simp only [go_sem]; omega)) fun a x hx ha hel => ?_ | (refine pN_sr hel hS (by rfl) (by rfl) (by first | omega | (simp only [go_sem]; omega)) ?_; clear hS; intro w hS) | refine pN_v (hk := ?_) | fail)
    rw [hval, hset] at hS
    exact ⟨⟨k + 1, rfl, by omega, hS⟩, by simp [RowKit.intOf] <;> omega⟩
  · obtain rfl : k = 8 := by omega
    rw [← hfin] at hS hlk
    rw [← hlk]
    repeat' (first | (refine pN_lss_s ?_ ?_ <;> intro hc <;> try (exfalso; omega)) | refine pIf_f ?_ | fail)
    exact hQ _ _ hS

set_option maxHeartbeats 4000000 in
set_option maxRecDepth 8000 in
theorem ShSum_ok (hG : GloS W) (h8 : h.st.length = 8) (h64 : h.blk.length = 64) (hS : Sat E w (cel b ⟨217, hC h⟩ :: M)) [Has (old W) M N] (hn : h.n < 2305843009213693952)
    (hQ : ∀ w, Sat E w (cel b ⟨217, hC h⟩ :: M) → Q (arrV h.sum) w) : Calls Tryz.prog 94 #[pq b] w (retP Q) := by
  refine sha_Hash_Sum.calls ?_
  unfold sha_Hash_Sum.F
  have hcl := hC_len h8 h64
  have hcn := hC_n h8 h64
  refine pN_nz hS ?_
  clear hS
  intro b1 w hS
  repeat' (first | refine pN_v (hk := ?_) | fail)
  refine pN_la (P := Tryz.prog) (t := 217) (b := b) (o := ⟨217, hC h⟩) hS hcl.symm ?_
  refine pN_nz hS ?_
  clear hS
  intro b2 w hS
  rw [zeros32] at hS
  have hzl : (hC ⟨List.replicate 8 0, List.replicate 64 0, 0⟩).length = 73 := hC_len (by rw [List.length_replicate]) (by rw [List.length_replicate])
  refine pN_sa (P := Tryz.prog) (t := 217) (b := b2) (us := hC h) hS hcl.symm (by rw [hcl]; exact hzl.symm) (hC_one h) ?_
  clear hS
  intro w hS
  have hpl : (H.pad h.n).length ≤ 73 := by rw [H.pad_eq, List.length_append, List.length_cons, List.length_replicate, H.bes_len]; omega
  obtain ⟨e8, e64, en⟩ := H.write_ok (H.pad h.n) h8 h64
  have hsum : h.sum = H.outs (h.write (H.pad h.n)).st := rfl
  repeat' (first | refine pN_l hS hcn ?_ | (refine pc_sha_Pad (Pad_ok h.n (by omega) hS ?_); clear hS; intro s w hS) | (refine pc_sha_Hash_Write (ShWrite_ok hG h8 h64 (hS.fd (cel b2)) (by omega) ?_); clear hS; intro w hS) | (refine pN_nz hS ?_; clear hS; intro a w hS) | refine pN_v (hk := ?_) | fail)
  rw [zeros32] at hS
  generalize h.write (H.pad h.n) = G at *
  rw [hsum] at hQ
  have hGst : (ws G.st).length = 8 := by rw [ws_len, e8]
  have hOg : ∀ i k, i < 8 → k < 4 → (H.outs G.st)[4 * i + k]? = some (byteOf (((H.nth G.st i).toNat / 256 ^ (3 - k) : Nat) : Int)) := fun i k hi hk => H.outs_get G.st i k hk (by omega)
  have hOl : (H.outs G.st).length = 32 := by rw [H.outs_len, e8]
  have hgs : ∀ i, i < 8 → (ws G.st)[i]? = some (wv (H.nth G.st i)) := fun i hi => ws_at (by omega)
  generalize hOO : H.outs G.st = O at *
  have h00 : List.replicate 32 (0 : UInt8) = H.sofar [] O 0 := by rw [H.sofar, hOl]; rfl
  have h0e : (List.replicate 32 (0 : UInt8)).length = 32 := by rw [List.length_replicate]
  have hSl : ∀ j, j ≤ 32 → (bvs (H.sofar [] O j)).length = 32 := fun j hj => by rw [bvs_length, H.sofar_len _ _ (by omega), hOl]; rfl
  have hfin : H.sofar [] O 32 = O := by rw [← hOl, H.sofar_all]; rfl
  refine pN_la_at (n := 8) hS (ws G.st) (hC_st e8) hGst.symm ?_
  refine ⟨fun v w => ∃ i : Nat, v = .int .i64 i ∧ i ≤ 8 ∧ Sat E w (cel a ⟨57, bvs (H.sofar [] O (4 * i))⟩ :: cel b2 ⟨217, hC G⟩ :: rows cd_uint8 s (H.pad h.n) :: cel b1 ⟨57, bvs (List.replicate 32 0)⟩ :: cel b ⟨217, hC h⟩ :: M), fun v _ => 8 - (RowKit.intOf v).toNat, ⟨0, rfl, by omega, by rw [Nat.mul_zero, ← h00]; exact hS⟩, ?_⟩
  clear hS
  rintro _ _ w ⟨i, rfl, hi, hS⟩
  by_cases hi8 : i < 8
  · repeat' (first | refine pN_aix i rfl hi8 (hgs i hi8) ?_ | (refine pN_lss_s ?_ ?_ <;> intro hc <;> try (exfalso; omega)) | refine pIf_t ?_ | fail)
    refine ⟨fun v w => ∃ k : Nat, v = .int .i64 k ∧ k ≤ 4 ∧ Sat E w (cel a ⟨57, bvs (H.sofar [] O (4 * i + k))⟩ :: cel b2 ⟨217, hC G⟩ :: rows cd_uint8 s (H.pad h.n) :: cel b1 ⟨57, bvs (List.replicate 32 0)⟩ :: cel b ⟨217, hC h⟩ :: M), fun v _ => 4 - (RowKit.intOf v).toNat, ⟨0, rfl, by omega, hS⟩, ?_⟩
    clear hS
    rintro _ _ w ⟨k, rfl, hk, hS⟩
    by_cases hk4 : k < 4
    · have hset := H.sofar_set [] (hOg i k hi8 hk4)
      rw [List.length_nil, Nat.zero_add] at hset
      have hlt : 4 * i + k < (bvs (H.sofar [] O (4 * i + k))).length := by rw [hSl _ (by omega)]; omega
      have hbs := bvs_set (H.sofar [] O (4 * i + k)) (4 * i + k) (byteOf (((H.nth G.st i).toNat / 256 ^ (3 - k) : Nat) : Int))
      rw [hset] at hbs
      have hby : byteOf (((H.nth G.st i >>> (8 * (3 - k))).toNat : Nat) : Int) = byteOf (((H.nth G.st i).toNat / 256 ^ (3 - k) : Nat) : Int) := by
        rw [BitVec.toNat_ushiftRight, Nat.shiftRight_eq_div_pow, Nat.pow_mul]
      generalize H.sofar [] O (4 * i + k) = D at *
      repeat' (first | refine pN_shr_w (8 * (3 - k)) (by omega) (by omega) ?_ | refine pN_ai0 (4 * i + k) (by omega) (by omega) ?_ | refine pN_tobw ?_ | (refine pN_s hS hlt (by rfl) ?_; clear hS; intro w hS) | (refine pN_lss_s ?_ ?_ <;> intro hc <;> try (exfalso; omega)) | refine pIf_t ?_ | refine pN_v (hk := ?_) | fail)
      dsimp only at hS
      rw [hby, hbs] at hS
      exact ⟨⟨k + 1, rfl, by omega, hS⟩, by simp [RowKit.intOf] <;> omega⟩
    · obtain rfl : k = 4 := by omega
      rw [show 4 * i + 4 = 4 * (i + 1) by omega] at hS
      repeat' (first | (refine pN_lss_s ?_ ?_ <;> intro hc <;> try (exfalso; omega)) | refine pIf_f ?_ | refine pN_v (hk := ?_) | fail)
      exact ⟨⟨i + 1, rfl, by omega, hS⟩, by simp [RowKit.intOf] <;> omega⟩
  · obtain rfl : i = 8 := by omega
    have hO32 : (bvs O).length = 32 := by rw [bvs_length, hOl]
    have h32 : (bvs (List.replicate 32 (0 : UInt8))).length = 32 := by rw [bvs_length, h0e]
    rw [show 4 * 8 = 32 by omega, hfin] at hS
    repeat' (first | (refine pN_lss_s ?_ ?_ <;> intro hc <;> try (exfalso; omega)) | refine pIf_f ?_ | fail)
    refine pN_la (P := Tryz.prog) (t := 57) (b := a) (o := ⟨57, bvs O⟩) hS hO32.symm ?_
    refine pN_sa (P := Tryz.prog) (t := 57) (b := b1) (us := bvs O) hS hO32.symm (by rw [hO32]; exact h32.symm) (bvs_all _) ?_
    clear hS
    intro w hS
    refine pL_ra (P := Tryz.prog) (t := 57) (b := b1) (o := ⟨57, bvs O⟩) hS hO32.symm ?_
    exact hQ _ hS.to

theorem Sum_ok (hG : GloS W) (hS : Sat E w M) [Has (old W) M N] {s1 : Sl} [hr : Rds cd_sl_uint8 M s [(s1, l)]] [hr1 : Rds cd_uint8 M s1 l] (hn : l.length < 2305843009213693952) (hQ : ∀ w, Sat E w M → Q (idV (H.sum l)) w) :
    Calls Tryz.prog 52 #[.slice s.a 1 s.c] w (retP Q) := by
  refine sha_Sum.calls ?_
  unfold sha_Sum.F
  repeat' (first | (refine pc_sha_New (ShNew_ok hG hS ?_); clear hS; intro b w hS) | (refine pN_nz hS ?_; clear hS; intro a w hS) | refine pN_v (hk := ?_) | fail)
  rw [zeros32] at hS
  obtain ⟨e8, e64, en⟩ := H.write_ok l H.new_st H.new_blk
  have en0 : H.T.new.n = 0 := rfl
  have hsum : idV (H.sum l) = arrV (H.T.new.write l).sum := rfl
  rw [hsum] at hQ
  have hw0 := H.write_nil H.T.new
  refine ⟨fun v w => ∃ i : Nat, v = .int .i64 i ∧ i ≤ 1 ∧ Sat E w (cel b ⟨217, hC (H.T.new.write (if i = 0 then [] else l))⟩ :: cel a ⟨57, bvs (List.replicate 32 0)⟩ :: M), fun v _ => 1 - (RowKit.intOf v).toNat, ⟨0, rfl, by omega, by rw [if_pos rfl, hw0]; exact hS⟩, ?_⟩
  clear hS
  rintro _ _ w ⟨i, rfl, hi, hS⟩
  have h01 : i = 0 ∨ i = 1 := by omega
  rcases h01 with rfl | rfl
  · rw [if_pos rfl, hw0] at hS
    have t8 := H.new_st
    have t64 := H.new_blk
    generalize H.T.new = T0 at *
    repeat' (first | refine pN_ixk (C := cd_sl_uint8) (l := [(s1, l)]) (x := (s1, l)) hS 0 rfl rfl rfl fun a ha hel => ?_ | (refine pN_lss_s ?_ ?_ <;> intro hc <;> try (exfalso; omega)) | refine pIf_t ?_ | refine pN_ld1 ha hS ?_ | fail)
    refine pc_sha_Hash_Write (ShWrite_ok (s := s1) (l := l) hG t8 t64 hS (by omega) ?_)
    clear hS
    intro w hS
    repeat' (first | refine pN_v (hk := ?_) | fail)
    exact ⟨⟨1, rfl, by omega, by rw [if_neg (by omega)]; exact hS⟩, by simp [RowKit.intOf]⟩
  · rw [if_neg (by omega)] at hS
    generalize H.T.new.write l = T1 at *
    have hO : (bvs T1.sum).length = 32 := by rw [bvs_length]; exact H.Tsum_len e8
    have h32 : (bvs (List.replicate 32 (0 : UInt8))).length = 32 := by rw [bvs_length, List.length_replicate]
    repeat' (first | (refine pc_sha_Hash_Sum (ShSum_ok hG e8 e64 hS (by omega) ?_); clear hS; intro w hS) | (refine pN_lss_s ?_ ?_ <;> intro hc <;> try (exfalso; omega)) | refine pIf_f ?_ | fail)
    refine pN_sa (P := Tryz.prog) (t := 57) (b := a) (us := bvs T1.sum) hS hO.symm (by rw [hO]; exact h32.symm) (bvs_all _) ?_
    clear hS
    intro w hS
    refine pL_ra (P := Tryz.prog) (t := 57) (b := a) (o := ⟨57, bvs T1.sum⟩) hS hO.symm ?_
    exact hQ _ hS.to
end
end Go.Proofs.YtikmogfhhggafaaGreatDoor

namespace Go.Proofs.YtikmogfhhggafaaGreatDoor
open Go
namespace D
theorem puts_snoc (d : T) (l : List B) (p : B) : d.puts (l ++ [p]) = (d.puts l).put1 p := by rw [puts_app]; rfl
theorem put1_has {d : T} {p : B} (h : d.has (H.sum p) = true) : d.put1 p = d := by unfold T.put1; rw [if_pos h]
theorem put1_new {d : T} {p : B} (h : d.has (H.sum p) = false) : d.put1 p = { d with ps := upd d.ps (H.sum p) p } := by unfold T.put1; rw [h]; rfl
end D
attribute [local irreducible] oMv oV oU oCall oCallV oBi oBin oUn oLoad oStore oNil oFld oField oIdx oIndex oPick oAlloc oBox oBuild oBs oConv oMk oSl oExt oFn oIface oMap oLook oMapUp oRange oNext oEntry oInv oAssert oPanic oRes pN pA pL pDr pIf gA pGd Calls H.sum
section
variable [Pan] {E w W : World} {K Q : Value → World → Prop} {L M N N' : List HA} {l r : List UInt8} {s s2 : Sl} {c : T_api_Config} {b : Nat} {d : D.T} {li : List I32}

set_option maxHeartbeats 2000000 in
theorem DPut_ok (hG : GloS W) (hk : d.k.legal) (hS : Sat E w L) [hf : Fnd (Dep c b) L d N] [hg : Has (old W) N N'] [hr : Rds cd_uint8 N s l] (hl : l.length ≤ 1099511627776)
    (hQ : ∀ s2 w, Sat E w (rows (cdI 58) s2 (D.ids d.k l) :: Dep c b (d.put l) :: N) → Q (.slice s2.a (D.ids d.k l).length s2.c) w) :
    Calls Tryz.prog 16 #[.pointer (some ⟨b, 0, none⟩), .slice s.a l.length s.c] w (retP Q) := by
  refine depot_Depot_Put.calls ?_
  unfold depot_Depot_Put.F
  have hS1 := hS.fd (Dep c b)
  clear hS hf
  obtain ⟨mb, nb, pl, nl, ht, hS⟩ := Dep.opn hS1
  clear hS1
  have hil := endsI_len d.k l
  have hpl := C.pieces_len d.k l
  have hget := fun {j e} => @endsI_get d.k l j e
  have hput : d.put l = d.puts (C.pieces d.k l) := rfl
  have hids : D.ids d.k l = (C.pieces d.k l).map H.sum := rfl
  rw [hput, hids] at hQ
  repeat' (first | refine pN_la_at (n := 3) hS [.int .i64 d.k.least, .int .i64 d.k.most, .int .i64 d.k.bits] rfl rfl ?_ | (refine pc_cdc_Cut (Calls.up (Cut_ok (s := s) (l := l) hk hS hl ?_)); clear hS; intro se w hS) | refine pN_v (hk := ?_) | fail)
  have hS : Sat E w (depP c b d.k mb nb pl nl (rows cd_int se (endsI d.k l) :: N)) := hS.to
  have hS := Dep.shut ht rfl hS
  have hS : Sat E w (rows cd_int se (endsI d.k l) :: Dep c b d :: N) := hS.to
  rw [← hil]
  generalize endsI d.k l = I at *
  skip
  refine ⟨fun v v' v'' w => ∃ (p : Nat) (pre : List (List UInt8)) (so : Sl), v = .slice so.a (pre.map H.sum).length so.c ∧ v' = .int .i64 p ∧ v'' = .int .i64 pre.length ∧ p ≤ l.length ∧ C.pieces d.k l = pre ++ C.pieces d.k (l.drop p) ∧ pre.flatten.length = p ∧ Sat E w (rows (cdI 58) so (pre.map H.sum) :: rows cd_int se I :: Dep c b (d.puts pre) :: N), fun _ _ v _ => I.length - (RowKit.intOf v).toNat,
    ⟨0, [], ⟨none, 0⟩, rfl, rfl, rfl, by omega, by rw [List.drop_zero]; rfl, rfl, hS.nil (cdI 58).e (cdI 58).size⟩, ?_⟩
  clear hS
  rintro _ _ _ _ w ⟨p, pre, so, rfl, rfl, rfl, hp, hpc, hpf, hS⟩
  have hcl := congrArg List.length hpc
  rw [List.length_append] at hcl
  by_cases hlt : pre.length < I.length
  · have hne : l.drop p ≠ [] := fun h => by
      rw [h, C.pieces_nil, List.length_nil] at hcl
      omega
    rw [C.pieces_cons d.k hne] at hpc
    have hf1 := C.fst_pos d.k hne
    have hf2 := C.fst_le d.k (l.drop p)
    have hdl : (l.drop p).length = l.length - p := List.length_drop
    rw [hdl] at hf2
    have hdd : (l.drop p).drop (C.fst d.k (l.drop p)) = l.drop (p + C.fst d.k (l.drop p)) := by rw [List.drop_drop]
    rw [hdd] at hpc
    obtain ⟨q, hq⟩ : ∃ q, q = (l.drop p).take (C.fst d.k (l.drop p)) := ⟨_, rfl⟩
    rw [← hq] at hpc
    have htl : q.length = C.fst d.k (l.drop p) := by rw [hq, List.length_take, hdl]; omega
    rw [← htl] at hpc hq hf1 hf2
    clear htl
    have hend := hget (j := pre.length) (e := p + q.length) (by rw [hpc, C.ends_at, hpf, Nat.zero_add])
    have hsub : (l.drop p).take (p + q.length - p) = q := by rw [Nat.add_sub_cancel_left]; exact hq.symm
    have hsn := D.puts_snoc d pre q
    have hdk : (d.puts pre).k = d.k := D.puts_k pre d
    repeat' (first | (refine pN_lss_s ?_ ?_ <;> intro hc <;> try (exfalso; omega)) | refine pIf_t ?_ | fail)
    refine ⟨fun v v' w => ∃ so, v = .slice so.a ((pre ++ [q]).map H.sum).length so.c ∧ v' = .int .i64 ((p + q.length : Nat) : Int) ∧ Sat E w (rows (cdI 58) so ((pre ++ [q]).map H.sum) :: rows cd_int se I :: Dep c b (d.puts (pre ++ [q])) :: N), ?_, ?_⟩
    · repeat' (first | (refine pN_sl2 (C := cd_uint8) (s := s) (l := l) hS p (p + q.length) rfl (by first | rfl | omega) rfl (by omega) (by omega) ?_; intro s' hp') | refine pN_ld1 ha hS ?_ | refine pN_ixk hS _ (by first | rfl | (exact (Int.toNat_of_nonneg (by omega)).symm)) (by first | rfl | omega | simpa only [go_sem] using True.intro | (simp only [go_sem]; omega)) (by assumption) fun a ha hel => ?_ | fail)
      rw [hsub] at hp'
      have e1 : p + q.length - p = q.length := by omega
      rw [e1]
      haveI hrs : Rds cd_uint8 N s' q := hp'.rd _ inferInstance
      refine pN_b1 (x := (s', q)) hS rfl (by decide) ?_
      clear hS
      intro sb w hS
      refine pc_sha_Sum (Sum_ok (l := q) (s1 := s') hG hS (by omega) ?_)
      clear hS
      intro w hS
      have hi1 := D.put1_has (d := d.puts pre) (p := q)
      have hi2 := D.put1_new (d := d.puts pre) (p := q)
      rw [← hsn] at hi1 hi2
      rw [List.map_append]
      show pN _ _ _ _
      have e2 : [q].map H.sum = [H.sum q] := rfl
      rw [e2]
      generalize H.sum q = i at *
      generalize hD : d.puts (pre ++ [q]) = d2 at *
      repeat' (first | (refine pN_sid hS i (by rfl) ?_; clear hS; intro w hS) | (refine pN_nz hS ?_; clear hS; intro a w hS) | fail)
      refine ⟨fun w => Sat E w (cel a ⟨58, bvs i.l⟩ :: rows (cdI 58) so (pre.map H.sum) :: rows cd_int se I :: Dep c b d2 :: N), ?_, ?_⟩
      · refine pN_la_at (n := 32) hS (bvs i.l) (i32t i) (i32n i) ?_
        refine pc_depot_Depot_Has (DHas_ok (c := c) hS i ?_)
        clear hS
        intro w hS
        cases hh : (d.puts pre).has i with
        | true =>
          rw [hi1 hh]
          repeat' (first | refine pIf_f ?_ | refine pN_v (hk := ?_) | fail)
          exact hS.to
        | false =>
          rw [hi2 hh]
          obtain ⟨mb, nb, pl, nl, ht, hS⟩ := Dep.opn hS
          repeat' (first | refine pL_la_at (n := 32) hS (bvs i.l) (i32t i) (i32n i) ?_ | (refine pc_slices_Clone___byte_byte_ (SCloneB_ok (s := s') (l := q) hS (by omega) ?_); clear hS; intro s4 w hS) | refine pIf_t ?_ | refine pL_l hS (by first | rfl | assumption) ?_ | (refine pDr_go hS ?_; clear hS; intro w hS) | refine pN_v (hk := ?_) | refine pA_v (hk := ?_) | fail)
          refine ⟨⟨run_la_at (n := 32) hS (bvs i.l) (i32t i) (i32n i), run_l hS rfl, trivial⟩, ?_⟩
          refine pN_mup (P := Tryz.prog) (t := 126) (ke := idV) (b := mb) hS i (slv (s4, q)) ?_
          clear hS
          intro w hS
          refine ⟨trivial, ?_⟩
          rw [vals_put] at hS
          generalize d.puts pre = d0 at *
          have hS : Sat E w (rows cd_uint8 s4 q :: bag (keep cd_uint8 pl) :: cel b ⟨129, depC c d0.k mb nb⟩ :: mp idV mb (vals (D.upd pl i (s4, q))) :: mp nke nb (vals nl) :: bag (keep (cdI 58) nl) :: cel a ⟨58, bvs i.l⟩ :: rows (cdI 58) so (pre.map H.sum) :: rows cd_int se I :: N) := hS.to
          have hS : Sat E w (depP c b d0.k mb nb (D.upd pl i (s4, q)) nl (cel a ⟨58, bvs i.l⟩ :: rows (cdI 58) so (pre.map H.sum) :: rows cd_int se I :: N)) := (keep_put i hS).to
          have hS := Dep.shut (ht.upd i s4 q) rfl hS
          exact hS.to
      · clear hS
        intro _ w hS
        have hml : (pre.map H.sum).length ≤ 1099511627776 := by rw [List.length_map]; omega
        generalize pre.map H.sum = li at *
        refine pN_la_at (n := 32) hS (bvs i.l) (i32t i) (i32n i) ?_
        refine pN_b1 (x := i) hS rfl (by decide) ?_
        clear hS
        intro s3 w hS
        repeat' (first | (refine pN_app hS (by first | rfl | omega | simpa only [go_sem] using True.intro | (simp only [go_sem]; omega)) (by first | rfl | omega | simpa only [go_sem] using True.intro | (simp only [go_sem]; omega)) (by first | omega | (simp only [go_sem]; omega)) ?_; clear hS; intro s w hS) | fail)
        exact ⟨_, by rw [List.length_append], rfl, hS.to⟩
    · clear hS
      rintro _ _ _ w ⟨so, rfl, rfl, hS⟩
      repeat' (first | refine pN_v (hk := ?_) | fail)
      refine ⟨⟨p + q.length, pre ++ [q], so, rfl, rfl, by rw [List.length_append]; rfl, by omega, by rw [List.append_assoc]; exact hpc, by simp [hpf], hS⟩, ?_⟩
      simp [RowKit.intOf] <;> omega
  · have hnil : l.drop p = [] := by
      by_cases h : l.drop p = []
      · exact h
      · have := C.pieces_cons d.k h
        rw [this, List.length_cons] at hcl
        omega
    rw [hnil, C.pieces_nil, List.append_nil] at hpc
    rw [hpc] at hQ
    repeat' (first | (refine pN_lss_s ?_ ?_ <;> intro hc <;> try (exfalso; omega)) | refine pIf_f ?_ | fail)
    have hS : Sat E w (rows (cdI 58) so (pre.map H.sum) :: Dep c b (d.puts pre) :: N) := hS.to
    exact hQ _ _ hS
end
end Go.Proofs.YtikmogfhhggafaaGreatDoor

namespace Go.Proofs.YtikmogfhhggafaaGreatDoor
open Go Go.Lib
section
variable {P : Program} {w : World}
theorem run_apst {t u ty e : TypeId} {i : TypeInfo} (ht : P.underlying t = some (.slice e)) (hu : P.underlying u = some .string) (hi : P.info? e = some i) (hz : i.zero = some (.int .u8 0)) (hsize : i.size = 1) (hby : i.bytes = 1)
    (v : Value) (n : Nat) (xs : List Value) (hown : w.ownsRow 0 e 1 v n xs) (s : ByteArray) (hb : n + s.size ≤ 140737488355328) :
    ∃ v' w', (Builtin.append_ #[t, u] ty #[v, .string s]).run P w = .ok v' w' ∧ w'.ownsRow 0 e 1 v' (n + s.size) (xs ++ strCells s) ∧ w.grownBy w' v.ownBlock ∧ (v'.ownBlock = v.ownBlock ∨ v'.ownBlock = some w.heap.size) := by
  have h63 : n + s.size ≤ maxLen := by unfold maxLen; omega
  have hxl : xs.length = n := by simpa using hown.1
  have hlen : (xs ++ strCells s).length = (n + s.size) * 1 := by rw [List.length_append, hxl, strCells_length, Nat.mul_one]
  have gr : ∀ (old : Nat), old < n + s.size → ∀ (row : Option Nat),
      (w.drew.alloc (.cells (xs.toArray ++ (strCells s).toArray ++ Builtin.zeroCells (Value.int .u8 0).cells (grownCap w (n + s.size) old e - (n + s.size))) e)).ownsRow 0 e 1
        (.slice (some ⟨w.heap.size, 0, none⟩) (n + s.size) (grownCap w (n + s.size) old e)) (n + s.size) (xs ++ strCells s) ∧
      w.grownBy (w.drew.alloc (.cells (xs.toArray ++ (strCells s).toArray ++ Builtin.zeroCells (Value.int .u8 0).cells (grownCap w (n + s.size) old e - (n + s.size))) e)) row := by
    intro old ho row
    have hge := grownCap_ge w (n + s.size) old e
    have hcm : grownCap w (n + s.size) old e ≤ maxLen := grownCap_le_maxLen w (n + s.size) old e h63
    refine ⟨⟨hlen, .inr ⟨w.heap.size, _, _, rfl, Nat.zero_le _, heap_alloc_new w.drew _, hge, hcm, ?_, ?_⟩⟩, ⟨rfl, rfl, rfl, by simp, fun k hk _ => by rw [show (w.drew.alloc _).heap[k]? = _ from (by first | exact Go.heap_alloc_old w.drew _ hk | exact Go.heap_alloc_old w.drew _ _ hk)]; rfl⟩⟩
    · have hz1 : (Value.int IntKind.u8 0).cells.size = 1 := rfl
      simp only [Array.size_append, List.size_toArray, size_zeroCells, hz1, hxl, strCells_length]
      omega
    · simp only [Array.toList_append, List.append_assoc]
      rw [← List.append_assoc, ← hlen]
      exact List.take_left
  rcases hown.2 with ⟨rfl, rfl⟩ | ⟨g, cap, cur, rfl, hbg, hg, hnc, hcm, hcs, htake⟩
  · have hx : xs = [] := List.eq_nil_of_length_eq_zero hxl
    subst hx
    by_cases hm : s.size = 0
    · have hn : strCells s = [] := List.eq_nil_of_length_eq_zero (by rw [strCells_length]; exact hm)
      refine ⟨.slice none 0 0, w, ?_, by rw [hm, hn]; exact World.ownsRow_nil w 0 e 1, ⟨rfl, rfl, rfl, Nat.le_refl _, fun _ _ _ => rfl⟩, .inl rfl⟩
      have hf := run_firstCells_string (P := P) w 1 s
      rw [hm] at hf
      simp [Builtin.append_, run_underlying ht, run_underlying hu, sizeOf, typeInfo, hi, hsize, Builtin.lenOf, hm, hf]
    · have hr := run_append_nil_string (P := P) w t u ty e i (.int .u8 0) ht hu hi hz s (by omega) (by omega) (by rw [hby]; omega)
      have hgr := gr 0 (by omega) (Value.ownBlock (.slice none 0 0))
      simp only [Nat.zero_add, List.nil_append, Array.empty_append] at hgr ⊢
      have e1 : (s.data.map fun b => Value.int .u8 b.toNat) = (strCells s).toArray := by
        apply Array.ext'
        simp [strCells]
      rw [e1] at hr
      exact ⟨_, _, hr, hgr.1, hgr.2, .inr rfl⟩
  · by_cases hroom : n + s.size ≤ cap
    · have hcs' : cur.size = cap := by simpa using hcs
      have hr := run_append_room_string (P := P) w t u ty e i ht hu hi hsize g n cap cur hg s hroom (by omega)
      refine ⟨_, _, hr, ⟨hlen, .inr ⟨g, cap, _, rfl, hbg, setRow_heap w g cur _ e _ hg, hroom, hcm, ?_, ?_⟩⟩, ⟨rfl, rfl, rfl, by simp, fun k _ hk => setRow_other w g k _ (fun e => hk (by simp [Value.ownBlock, e]))⟩, .inl rfl⟩
      · simp only [List.size_toArray, List.length_append, List.length_take, List.length_drop, Array.length_toList, strCells_length]
        omega
      · have ht' : cur.toList.take n = xs := by simpa using htake
        rw [ht', ← hlen]
        exact List.take_left
    · have holds : ∀ j u, xs[j]? = some u → w.cell? ((⟨g, 0, none⟩ : Addr).add j) = some u := hown.cells (g := g) rfl
      have hr := run_append_grow_string (P := P) w t u ty e i (.int .u8 0) ht hu hi hz ⟨g, 0, none⟩ n cap xs (by rw [hsize]; simpa using hxl) holds s (by omega) (by omega) (by rw [hby]; exact growslice_fits (by omega) (by omega))
      have hgr := gr cap (by omega) (Value.ownBlock (.slice (some ⟨g, 0, none⟩) n cap))
      exact ⟨_, _, hr, hgr.1, hgr.2, .inr rfl⟩

class ApS (P : Program) (t u : TypeId) (C : outParam (Cd UInt8)) : Prop where
  tt : P.underlying t = some (.slice C.e)
  uu : P.underlying u = some .string
  ii : ∃ i, P.info? C.e = some i ∧ i.zero = some (.int .u8 0) ∧ i.size = 1 ∧ i.bytes = 1
  size : C.size = 1
  enc : ∀ b, C.enc b = [bv b]

variable [Pan] {E : World} {K : Value → World → Prop} {L M : List HA} {t u ty : TypeId} {C : Cd UInt8} {s : Sl} {l m : List UInt8}
theorem pN_apst {n : Nat} {cs : List Bool} (hS : Sat E w L) [hw : ApS P t u C] [hf : Fnd (rows C s) L l M] (hn : n = l.length) (hb : l.length + m.length ≤ 140737488355328)
    (hk : ∀ s' w', Sat E w' (rows C s' (l ++ m) :: M) → K (.slice s'.a (l ++ m).length s'.c) w') : pN P (oBi .append #[t, u] ty cs [.slice s.a n s.c, .string ⟨m.toArray⟩]) w K := by
  subst hn
  have h0 := hS.fd (rows C s)
  obtain ⟨i, hi, hz, hs, hby⟩ := hw.ii
  have ho1 := h0.own_at 0 rfl
  have e1 : C.size = 1 := hw.size
  have h0' : Sat E w (own C.e 1 (.slice s.a l.length s.c) l.length (C.flat l) :: M) := by rw [← e1]; exact h0
  obtain ⟨v', w', hr, ho, hg, hbk⟩ := run_apst (P := P) (ty := ty) hw.tt hw.uu hi hz hs hby (.slice s.a l.length s.c) l.length (C.flat l) (h0'.own_at 0 rfl) ⟨m.toArray⟩ (by rw [size_str]; exact hb)
  have e2 : strCells ⟨m.toArray⟩ = C.flat m := by
    rw [C.flat_single bv hw.enc]
    rfl
  rw [size_str, e2, ← C.flat_append] at ho
  have h2 := h0'.grown hg ho hbk
  obtain ⟨s', rfl⟩ := own_sl h2
  rw [pN_def, show (oBi .append #[t, u] ty cs [.slice s.a l.length s.c, .string ⟨m.toArray⟩]).run P w = _ from run_oV_ok hr, rN_value]
  rw [← e1, ← List.length_append] at h2
  rw [← List.length_append]
  exact hk s' w' h2
end
end Go.Proofs.YtikmogfhhggafaaGreatDoor

namespace Go.Proofs.YtikmogfhhggafaaGreatDoor
open Go
set_option maxRecDepth 100000

def varint_Put.H : Hints := { cut := fun  | _ => none, loop := fun | 6 => ([0, 15], 134185025) | _ => ([], 0), order := fun  | _ => [] }
def varint_Put.F [Pan] (x0 : Value) (w : World) (Q : Value → World → Prop) : Prop :=
 pN Tryz.prog (oCall 174 [x0]) w fun x8 w1 =>
 pN Tryz.prog (oBin .eql 3 (.tmp 9) (.const (.int .i64 0)) x8 (.int .i64 0)) w1 fun x10 w2 =>
 pIf x10
 (Q (.tuple #[(.slice none 0 0), (.int .i64 7)]) w2)
 (pN Tryz.prog (oMk 47 x8 x8) w2 fun x12 w3 =>
 pN Tryz.prog (oBi .len #[47] 3 [false] [x12]) w3 fun x14 w4 =>
 ∃ (L6 : Value → Value → World → Prop) (m6 : Value → Value → World → Nat),
 L6 x0 (.int .i64 0) w4 ∧
 ∀ (_k6 : Env) (v0l6 : Value) (v15l6 : Value) (w5 : World), L6 v0l6 v15l6 w5 →
 pN Tryz.prog (oBin .lss 3 (.tmp 15) (.tmp 14) v15l6 x14) w5 fun x16 w6 =>
 pIf x16
 (pN Tryz.prog (oConv 212 5 v0l6) w6 fun x21 w7 =>
 pN Tryz.prog (oBin .or 5 (.tmp 21) (.const (.int .u8 128)) x21 (bv 128)) w7 fun x22 w8 =>
 pN Tryz.prog (oIdx 47 x12 v15l6) w8 fun x23 w9 =>
 pN Tryz.prog (oStore 5 x23 x22) w9 fun _ w10 =>
 pN Tryz.prog (oBin .shr 212 (.tmp 24) (.const (.int .u64 7)) v0l6 (.int .u64 7)) w10 fun x25 w11 =>
 pN Tryz.prog (oBin .add 3 (.tmp 15) (.const (.int .i64 1)) v15l6 (.int .i64 1)) w11 fun x26 w12 =>
 (L6 x25 x26 w12 ∧ m6 x25 x26 w12 < m6 v0l6 v15l6 w5))
 (pN Tryz.prog (oBin .sub 3 (.tmp 28) (.const (.int .i64 1)) x8 (.int .i64 1)) w6 fun x29 w13 =>
 pN Tryz.prog (oIdx 47 x12 x29) w13 fun x30 w14 =>
 pN Tryz.prog (oLoad 5 x30) w14 fun x31 w15 =>
 pN Tryz.prog (oBin .andNot 5 (.tmp 31) (.const (.int .u8 128)) x31 (bv 128)) w15 fun x32 w16 =>
 pN Tryz.prog (oIdx 47 x12 x29) w16 fun x33 w17 =>
 pN Tryz.prog (oStore 5 x33 x32) w17 fun _ w18 =>
 Q (.tuple #[x12, (.int .i64 0)]) w18))
theorem varint_Put.calls [Pan] {x0 : Value} {w : World} {Q : Value → World → Prop} (h : varint_Put.F x0 w Q) : Calls Tryz.prog 124 #[x0] w (retP Q) := calls_lift mixed varint_Put.H [x0] Tryz.func124 (by kernel_rfl) (by kernel_rfl) h

def varint_Size.H : Hints := { cut := fun  | _ => none, loop := fun | 2 => ([6], 65500) | _ => ([], 0), order := fun  | _ => [] }
def varint_Size.F [Pan] (x0 : Value) (w : World) (Q : Value → World → Prop) : Prop :=
 pN Tryz.prog (oLoad 290 (.pointer (some ⟨3, 0, none⟩))) w fun x5 w1 =>
 ∃ (L2 : Value → World → Prop) (m2 : Value → World → Nat),
 L2 (.int .i64 0) w1 ∧
 ∀ (_k2 : Env) (v6l2 : Value) (w2 : World), L2 v6l2 w2 →
 pN Tryz.prog (oBin .lss 3 (.tmp 6) (.const (.int .i64 9)) v6l2 (.int .i64 9)) w2 fun x7 w3 =>
 pIf x7
 (pN Tryz.prog (oIndex 290 x5 v6l2) w3 fun x9 w4 =>
 pN Tryz.prog (oBin .lss 212 (.tmp 10) (.tmp 11) x0 x9) w4 fun x12 w5 =>
 pIf x12
 (pN Tryz.prog (oBin .add 3 (.tmp 13) (.const (.int .i64 1)) v6l2 (.int .i64 1)) w5 fun x14 w6 =>
 Q x14 w6)
 (pN Tryz.prog (oBin .add 3 (.tmp 6) (.const (.int .i64 1)) v6l2 (.int .i64 1)) w5 fun x15 w7 =>
 (L2 x15 w7 ∧ m2 x15 w7 < m2 v6l2 w2)))
 (Q (.int .i64 0) w3)
theorem varint_Size.calls [Pan] {x0 : Value} {w : World} {Q : Value → World → Prop} (h : varint_Size.F x0 w Q) : Calls Tryz.prog 174 #[x0] w (retP Q) := calls_lift mixed varint_Size.H [x0] Tryz.func174 (by kernel_rfl) (by kernel_rfl) h

def varint_Get.H : Hints := { cut := fun  | _ => none, loop := fun | 3 => ([5, 10], 8796093021436) | _ => ([], 0), order := fun  | _ => [] }
def varint_Get.F [Pan] (x0 : Value) (w : World) (Q : Value → World → Prop) : Prop :=
 pN Tryz.prog (oBi .len #[47] 3 [false] [x0]) w fun x9 w1 =>
 ∃ (L3 : Value → Value → World → Prop) (m3 : Value → Value → World → Nat),
 L3 (.int .u64 0) (.int .i64 0) w1 ∧
 ∀ (_k3 : Env) (v5l3 : Value) (v10l3 : Value) (w2 : World), L3 v5l3 v10l3 w2 →
 pN Tryz.prog (oBin .lss 3 (.tmp 10) (.tmp 9) v10l3 x9) w2 fun x11 w3 =>
 pIf x11
 (pN Tryz.prog (oIdx 47 x0 v10l3) w3 fun x13 w4 =>
 pN Tryz.prog (oLoad 5 x13) w4 fun x14 w5 =>
 pN Tryz.prog (oBin .lss 5 (.tmp 15) (.const (.int .u8 128)) x14 (bv 128)) w5 fun x16 w6 =>
 pIf x16
 (pN Tryz.prog (oBin .eql 5 (.tmp 17) (.const (.int .u8 0)) x14 (bv 0)) w6 fun x18 w7 =>
 pGd (gB x18 true) (pN Tryz.prog (oMv v10l3) w7) w7 fun x20 w8 =>
 pGd (gB x18 true) (pN Tryz.prog (oBin .gtr 3 (.tmp 20) (.const (.int .i64 0)) x20 (.int .i64 0)) w8) w8 fun x21 w9 =>
 pN Tryz.prog (oPick x18 x21 (.bool false)) w9 fun x22 w10 =>
 pIf x22
 (Q (.tuple #[(.int .u64 0), (.int .i64 0), (.int .i64 2)]) w10)
 (pN Tryz.prog (oConv 5 212 x14) w10 fun x25 w11 =>
 pN Tryz.prog (oBin .mul 3 (.const (.int .i64 7)) (.tmp 26) (.int .i64 7) v10l3) w11 fun x27 w12 =>
 pN Tryz.prog (oBin .shl 212 (.tmp 25) (.tmp 27) x25 x27) w12 fun x28 w13 =>
 pN Tryz.prog (oBin .or 212 (.tmp 23) (.tmp 28) v5l3 x28) w13 fun x29 w14 =>
 pN Tryz.prog (oBin .add 3 (.tmp 30) (.const (.int .i64 1)) v10l3 (.int .i64 1)) w14 fun x31 w15 =>
 Q (.tuple #[x29, x31, (.int .i64 0)]) w15))
 (pN Tryz.prog (oBin .eql 3 (.tmp 32) (.const (.int .i64 8)) v10l3 (.int .i64 8)) w6 fun x33 w16 =>
 pIf x33
 (Q (.tuple #[(.int .u64 0), (.int .i64 0), (.int .i64 2)]) w16)
 (pN Tryz.prog (oBin .andNot 5 (.tmp 35) (.const (.int .u8 128)) x14 (bv 128)) w16 fun x36 w17 =>
 pN Tryz.prog (oConv 5 212 x36) w17 fun x37 w18 =>
 pN Tryz.prog (oBin .mul 3 (.const (.int .i64 7)) (.tmp 38) (.int .i64 7) v10l3) w18 fun x39 w19 =>
 pN Tryz.prog (oBin .shl 212 (.tmp 37) (.tmp 39) x37 x39) w19 fun x40 w20 =>
 pN Tryz.prog (oBin .or 212 (.tmp 34) (.tmp 40) v5l3 x40) w20 fun x41 w21 =>
 pN Tryz.prog (oBin .add 3 (.tmp 10) (.const (.int .i64 1)) v10l3 (.int .i64 1)) w21 fun x42 w22 =>
 (L3 x41 x42 w22 ∧ m3 x41 x42 w22 < m3 v5l3 v10l3 w2))))
 (Q (.tuple #[(.int .u64 0), (.int .i64 0), (.int .i64 1)]) w3)
theorem varint_Get.calls [Pan] {x0 : Value} {w : World} {Q : Value → World → Prop} (h : varint_Get.F x0 w Q) : Calls Tryz.prog 179 #[x0] w (retP Q) := calls_lift mixed varint_Get.H [x0] Tryz.func179 (by kernel_rfl) (by kernel_rfl) h

end Go.Proofs.YtikmogfhhggafaaGreatDoor

namespace Go.Proofs.YtikmogfhhggafaaGreatDoor
open Go

namespace C
def bnd (i : Nat) : Nat := ([128, 16384, 2097152, 268435456, 34359738368, 4398046511104, 562949953421312, 72057594037927936, 9223372036854775808] : List Nat).getD i 0
theorem nsize_at {v i : Nat} (hi : i < 9) (h : ∀ j, j < i → bnd j ≤ v) (hv : v < bnd i) : nsize v = i + 1 := by
  have h8 : i = 0 ∨ i = 1 ∨ i = 2 ∨ i = 3 ∨ i = 4 ∨ i = 5 ∨ i = 6 ∨ i = 7 ∨ i = 8 := by omega
  unfold nsize
  rcases h8 with rfl | rfl | rfl | rfl | rfl | rfl | rfl | rfl | rfl
  · have : v < 128 := hv
    rw [if_pos this]
  · have h0 : 128 ≤ v := h 0 (by omega)
    have : v < 16384 := hv
    rw [if_neg (by omega), if_pos this]
  · have h0 : 16384 ≤ v := h 1 (by omega)
    have : v < 2097152 := hv
    rw [if_neg (by omega), if_neg (by omega), if_pos this]
  · have h0 : 2097152 ≤ v := h 2 (by omega)
    have : v < 268435456 := hv
    rw [if_neg (by omega), if_neg (by omega), if_neg (by omega), if_pos this]
  · have h0 : 268435456 ≤ v := h 3 (by omega)
    have : v < 34359738368 := hv
    rw [if_neg (by omega), if_neg (by omega), if_neg (by omega), if_neg (by omega), if_pos this]
  · have h0 : 34359738368 ≤ v := h 4 (by omega)
    have : v < 4398046511104 := hv
    rw [if_neg (by omega), if_neg (by omega), if_neg (by omega), if_neg (by omega), if_neg (by omega), if_pos this]
  · have h0 : 4398046511104 ≤ v := h 5 (by omega)
    have : v < 562949953421312 := hv
    rw [if_neg (by omega), if_neg (by omega), if_neg (by omega), if_neg (by omega), if_neg (by omega), if_neg (by omega), if_pos this]
  · have h0 : 562949953421312 ≤ v := h 6 (by omega)
    have : v < 72057594037927936 := hv
    rw [if_neg (by omega), if_neg (by omega), if_neg (by omega), if_neg (by omega), if_neg (by omega), if_neg (by omega), if_neg (by omega), if_pos this]
  · have h0 : 72057594037927936 ≤ v := h 7 (by omega)
    have : v < 9223372036854775808 := hv
    rw [if_neg (by omega), if_neg (by omega), if_neg (by omega), if_neg (by omega), if_neg (by omega), if_neg (by omega), if_neg (by omega), if_neg (by omega), if_pos this]
theorem more_snoc : ∀ (n v : Nat), more v (n + 1) = more v n ++ [byteOf ((v / 128 ^ n % 128 + 128 : Nat) : Int)]
  | 0, v => by simp [more]
  | n + 1, v => by
    rw [more, more_snoc n (v / 128), more, List.cons_append, Nat.div_div_eq_div_mul, Nat.pow_succ, Nat.mul_comm 128]
theorem or128 (b : UInt8) : b ||| 128 = byteOf ((b.toNat % 128 + 128 : Nat) : Int) := by
  have h : ∀ x, x < 256 → x ||| 128 = x % 128 + 128 := by decide +kernel
  apply UInt8.toNat_inj.1
  have := b.toNat_lt
  rw [byteOf_lt (by omega), UInt8.toNat_or]
  exact h _ b.toNat_lt
theorem not128 (b : UInt8) : b &&& ~~~ 128 = byteOf ((b.toNat % 128 : Nat) : Int) := by
  have h : ∀ x, x < 256 → x &&& 127 = x % 128 := by decide +kernel
  apply UInt8.toNat_inj.1
  have := b.toNat_lt
  rw [byteOf_lt (by omega), UInt8.toNat_and]
  exact h _ b.toNat_lt
end C

section
variable [Pan] {P : Program} {w : World} {K : Value → World → Prop} {t : TypeId} {xo yo : Operand}
theorem run_or_bv (a b : UInt8) : (oBin .or t xo yo (bv a) (bv b)).run P w = .ok (.value (bv (a ||| b))) w := by
  unfold bv
  rw [run_or]
  have e : IntKind.u8.wrap ((BitVec.ofInt 8 (a.toNat : Int) ||| BitVec.ofInt 8 (b.toNat : Int)).toNat) = ((a ||| b).toNat : Int) := by
    have ea : BitVec.ofInt 8 (a.toNat : Int) = a.toBitVec := ofInt_nat a.toBitVec
    have eb : BitVec.ofInt 8 (b.toNat : Int) = b.toBitVec := ofInt_nat b.toBitVec
    rw [ea, eb, wrap_u8, ← UInt8.toBitVec_or]
    have := (a ||| b).toNat_lt
    show ((a ||| b).toNat : Int) % 256 = _
    omega
  show (Result.ok (Next.value (.int .u8 (IntKind.u8.wrap ((BitVec.ofInt 8 (a.toNat : Int) ||| BitVec.ofInt 8 (b.toNat : Int)).toNat)))) w : Result Next) = _
  rw [e]
theorem run_andn_bv (a b : UInt8) : (oBin .andNot t xo yo (bv a) (bv b)).run P w = .ok (.value (bv (a &&& ~~~ b))) w := by
  unfold bv
  rw [run_andn]
  have e : IntKind.u8.wrap ((BitVec.ofInt 8 (a.toNat : Int) &&& ~~~ BitVec.ofInt 8 (b.toNat : Int)).toNat) = ((a &&& ~~~ b).toNat : Int) := by
    have ea : BitVec.ofInt 8 (a.toNat : Int) = a.toBitVec := ofInt_nat a.toBitVec
    have eb : BitVec.ofInt 8 (b.toNat : Int) = b.toBitVec := ofInt_nat b.toBitVec
    rw [ea, eb, wrap_u8, ← UInt8.toBitVec_not, ← UInt8.toBitVec_and]
    have := (a &&& ~~~ b).toNat_lt
    show ((a &&& ~~~ b).toNat : Int) % 256 = _
    omega
  show (Result.ok (Next.value (.int .u8 (IntKind.u8.wrap ((BitVec.ofInt 8 (a.toNat : Int) &&& ~~~ BitVec.ofInt 8 (b.toNat : Int)).toNat)))) w : Result Next) = _
  rw [e]
theorem pN_or128 {b : UInt8} (hk : K (bv (byteOf ((b.toNat % 128 + 128 : Nat) : Int))) w) : pN P (oBin .or t xo yo (bv b) (bv 128)) w K := pN_of (run_or_bv b 128) (by rw [C.or128]; exact hk)
theorem pN_not128 {b : UInt8} (hk : K (bv (byteOf ((b.toNat % 128 : Nat) : Int))) w) : pN P (oBin .andNot t xo yo (bv b) (bv 128)) w K := pN_of (run_andn_bv b 128) (by rw [C.not128]; exact hk)
set_option maxRecDepth 20000 in
theorem pN_or_hl {x y : Int} (j : Nat) (a b : Nat) (hx : x = (b : Int)) (hy : y = ((a * 2 ^ j : Nat) : Int)) (hb : b < 2 ^ j) (h : a * 2 ^ j + b < 18446744073709551616) (hk : K (.int .u64 ((a * 2 ^ j + b : Nat) : Int)) w) : pN P (oBin .or t xo yo (.int .u64 x) (.int .u64 y)) w K := by
  subst hx hy
  refine pN_of (run_or ..) ?_
  have e := or_low 64 (a : Int) (b : Int) j (by omega) (by omega) (by exact_mod_cast hb) (by exact_mod_cast h)
  have e2 : IntKind.u64.wrap (((BitVec.ofInt IntKind.u64.bits (b : Int) ||| BitVec.ofInt IntKind.u64.bits ((a * 2 ^ j : Nat) : Int)).toNat : Nat) : Int) = ((a * 2 ^ j + b : Nat) : Int) := by
    rw [BitVec.or_comm]
    have e3 : ((a * 2 ^ j : Nat) : Int) = (a : Int) * 2 ^ j := by push_cast; rfl
    rw [e3]
    have e4 : (((BitVec.ofInt 64 ((a : Int) * 2 ^ j) ||| BitVec.ofInt 64 (b : Int)).toNat : Nat) : Int) = (a : Int) * 2 ^ j + b := e
    show IntKind.u64.wrap (((BitVec.ofInt 64 ((a : Int) * 2 ^ j) ||| BitVec.ofInt 64 (b : Int)).toNat : Nat) : Int) = _
    have e5 : (a : Int) * 2 ^ j + b = ((a * 2 ^ j + b : Nat) : Int) := by rw [Int.natCast_add, e3]
    rw [e4, e5, w64_nat h]
  rw [e2]; exact hk
end

theorem bndV_at {i : Nat} (h : i < 9) : bndV[i]? = some (.int .u64 ((C.bnd i : Nat) : Int)) := by
  match i with
  | 0 | 1 | 2 | 3 | 4 | 5 | 6 | 7 | 8 => rfl
  | n + 9 => omega

instance ar_9 : Ar Tryz.prog 290 9 := ⟨_, Tryz.underlying290, Tryz.sizeOf212, Tryz.isAgg212⟩

theorem C.bnd_8 : C.bnd 8 = 9223372036854775808 := rfl
def C.part (v n i : Nat) : List UInt8 := C.more v i ++ List.replicate (n - i) 0
theorem C.part_len (v : Nat) {n i : Nat} (h : i ≤ n) : (C.part v n i).length = n := by rw [C.part, List.length_append, C.more_len, List.length_replicate]; omega
theorem C.part_0 (v n : Nat) : C.part v n 0 = List.replicate n 0 := by rw [C.part, Nat.sub_zero]; rfl
theorem C.part_all (v n : Nat) : C.part v n n = C.more v n := by rw [C.part, Nat.sub_self, List.replicate_zero, List.append_nil]
theorem C.part_set (v : Nat) {n i : Nat} (h : i < n) : (C.part v n i).set i (byteOf ((v / 128 ^ i % 128 + 128 : Nat) : Int)) = C.part v n (i + 1) := by
  have e : List.replicate (n - i) (0 : UInt8) = 0 :: List.replicate (n - (i + 1)) 0 := by rw [← List.replicate_succ]; congr 1; omega
  rw [C.part, C.part, C.more_snoc, e, List.set_append_right _ _ (by rw [C.more_len]; exact Nat.le_refl _), C.more_len, Nat.sub_self, List.set_cons_zero, List.append_assoc]
  rfl
theorem C.put_of {v n : Nat} (hn : C.nsize v = n + 1) (hv : v < 9223372036854775808) : (C.more v (n + 1))[n]? = some (byteOf ((v / 128 ^ n % 128 + 128 : Nat) : Int)) ∧ (C.more v (n + 1)).set n (byteOf ((v / 128 ^ n % 128 : Nat) : Int)) = C.put v := by
  have hb := (C.nsize_bound hv).1
  rw [hn, Nat.pow_succ] at hb
  have hq : v / 128 ^ n < 128 := by rw [Nat.div_lt_iff_lt_mul (Nat.pow_pos (by omega)), Nat.mul_comm]; exact hb
  rw [C.more_snoc]
  refine ⟨?_, ?_⟩
  · rw [List.getElem?_append_right (by rw [C.more_len]; exact Nat.le_refl _), C.more_len, Nat.sub_self]; rfl
  · rw [List.set_append_right _ _ (by rw [C.more_len]; exact Nat.le_refl _), C.more_len, Nat.sub_self, C.put, hn, Nat.add_sub_cancel, Nat.mod_eq_of_lt hq]; rfl
theorem C.byte_more (x : Nat) : byteOf (((byteOf (x : Int)).toNat % 128 + 128 : Nat) : Int) = byteOf ((x % 128 + 128 : Nat) : Int) := by
  have := byteOf_toNat (x : Int)
  congr 2; omega
theorem C.byte_last {x : Nat} (h : x < 128) : byteOf (((byteOf ((x + 128 : Nat) : Int)).toNat % 128 : Nat) : Int) = byteOf ((x : Nat) : Int) := by
  rw [C.byteOf_lt (by omega)]
  congr 2; omega

attribute [local irreducible] oMv oV oU oCall oCallV oBi oBin oUn oLoad oStore oNil oFld oField oIdx oIndex oPick oAlloc oBox oBuild oBs oConv oMk oSl oExt oFn oIface oMap oLook oMapUp oRange oNext oEntry oInv oAssert oPanic oRes pN pA pL pDr pIf gA pGd Calls C.part C.nsize C.more C.put C.get C.bnd
section
variable [Pan] {E w W : World} {K Q : Value → World → Prop} {J : Value → Prop} {L M N : List HA} {l r : List UInt8} {s s2 : Sl}

theorem VSize_ok (hG : GloS W) (v : Nat) (hv : v < 9223372036854775808) (hS : Sat E w M) [Has (old W) M N] (hQ : ∀ w, Sat E w M → Q (.int .i64 (C.nsize v)) w) : Calls Tryz.prog 174 #[.int .u64 v] w (retP Q) := by
  refine varint_Size.calls ?_
  unfold varint_Size.F
  refine pN_ld_n (cs := bndV) Ag.ag Ag.sz rfl (fun j u hj => by rw [Addr.add_lit, Nat.zero_add]; exact old_cell hS (hG.bounds j u hj)) ?_
  refine ⟨fun x w => ∃ i : Nat, x = .int .i64 i ∧ i ≤ 9 ∧ (∀ j, j < i → C.bnd j ≤ v) ∧ Sat E w M, fun x _ => 9 - (RowKit.intOf x).toNat, ⟨0, rfl, by omega, fun j hj => by omega, hS⟩, ?_⟩
  clear hS
  rintro _ _ w ⟨i, rfl, hi, hb, hS⟩
  by_cases hi9 : i < 9
  · have hns := fun h => C.nsize_at hi9 hb h
    repeat' (first | refine pN_aix i rfl hi9 (bndV_at hi9) ?_ | (refine pN_lss_s ?_ ?_ <;> intro hc <;> try (exfalso; omega)) | refine pIf_t ?_ | refine pIf_f ?_ | refine pN_v (hk := ?_) | fail)
    · have hns := hns (by omega)
      skip
      have hc1 : ((i : Int) + 1) = ((C.nsize v : Nat) : Int) := by omega
      rw [hc1]
      exact hQ _ hS
    · skip
      refine ⟨⟨i + 1, rfl, by omega, fun j hj => ?_, hS⟩, by simp [RowKit.intOf] <;> omega⟩
      by_cases hji : j = i
      · subst hji; omega
      · exact hb j (by omega)
  · obtain rfl : i = 9 := by omega
    have h8 := hb 8 (by omega)
    rw [C.bnd_8] at h8
    omega

set_option maxHeartbeats 1000000 in
theorem VPut_ok (hG : GloS W) (v : Nat) (hv : v < 9223372036854775808) (hS : Sat E w M) [Has (old W) M N] (hQ : ∀ s w, Sat E w (rows cd_uint8 s (C.put v) :: M) → Q (.tuple #[.slice s.a (C.put v).length s.c, .int .i64 0]) w) :
    Calls Tryz.prog 124 #[.int .u64 v] w (retP Q) := by
  refine varint_Put.calls ?_
  unfold varint_Put.F
  obtain ⟨n1, n9⟩ := C.nsize_pos hv
  have hpl := C.put_len v
  obtain ⟨n, hn⟩ : ∃ n, C.nsize v = n + 1 := ⟨C.nsize v - 1, by omega⟩
  obtain ⟨hlast, hset⟩ := C.put_of hn hv
  have hdv : v / 128 ^ n < 128 := by
    have hb := (C.nsize_bound hv).1
    rw [hn, Nat.pow_succ] at hb
    rw [Nat.div_lt_iff_lt_mul (Nat.pow_pos (by omega)), Nat.mul_comm]; exact hb
  repeat' (first | (refine pc_varint_Size (VSize_ok hG v hv hS ?_); clear hS; intro w hS) | (refine pN_mk (C := cd_uint8) hS (C.nsize v) rfl (by omega) ?_; clear hS; intro s w hS) | (refine pN_eql_s ?_ ?_ <;> intro hc <;> try (exfalso; first | omega | exact hc rfl | exact hc (by assumption) | exact absurd hc (by assumption))) | refine pIf_f ?_ | refine pN_v (hk := ?_) | fail)
  have h0 : List.replicate (C.nsize v) cd_uint8.zero = C.part v (C.nsize v) 0 := (C.part_0 v (C.nsize v)).symm
  rw [h0] at hS
  refine ⟨fun x y w => ∃ i : Nat, x = .int .u64 ((v / 128 ^ i : Nat) : Int) ∧ y = .int .i64 i ∧ i ≤ C.nsize v ∧ Sat E w (rows cd_uint8 s (C.part v (C.nsize v) i) :: M), fun _ y _ => C.nsize v - (RowKit.intOf y).toNat, ⟨0, by rw [Nat.pow_zero, Nat.div_one], rfl, by omega, hS⟩, ?_⟩
  clear hS
  rintro _ _ _ w ⟨i, rfl, rfl, hi, hS⟩
  have hpi := C.part_len v hi
  by_cases hlt : i < C.nsize v
  · have hst := C.part_set v hlt
    have hdiv : ((v / 128 ^ i : Nat) : Int) / 2 ^ 7 = ((v / 128 ^ (i + 1) : Nat) : Int) := by
      rw [Nat.pow_succ, ← Nat.div_div_eq_div_mul, Int.natCast_ediv]; rfl
    have hx : v / 128 ^ i < 9223372036854775808 := Nat.lt_of_le_of_lt (Nat.div_le_self _ _) hv
    have hby := C.byte_more (v / 128 ^ i)
    generalize C.nsize v = m at *
    generalize hX : v / 128 ^ i = X at *
    generalize C.part v m i = D at *
    repeat' (first | refine pN_or128 ?_ | refine pN_shr_k 7 rfl (by decide) ?_ | (refine pN_lss_s ?_ ?_ <;> intro hc <;> try (exfalso; omega)) | refine pIf_t ?_ | refine pN_tob ?_ | refine pN_ix hS _ (by first | rfl | (exact (Int.toNat_of_nonneg (by omega)).symm)) (by first | rfl | omega | simpa only [go_sem] using True.intro | (simp only [go_sem]; omega)) (by first | omega | (simp only [go_sem]; omega)) fun a x hx ha hel => ?_ | (refine pN_sr hel hS (by rfl) (by rfl) (by first | omega | (simp only [go_sem]; omega)) ?_; clear hS; intro w hS) | refine pN_v (hk := ?_) | fail)
    rw [hby, hst] at hS
    rw [hdiv]
    exact ⟨⟨i + 1, rfl, rfl, by omega, hS⟩, by simp [RowKit.intOf] <;> omega⟩
  · obtain rfl : i = C.nsize v := by omega
    rw [C.part_all] at hS hpi
    rw [hpl, hn, Nat.add_sub_cancel] at hQ
    rw [hn] at hS hpi ⊢
    have hb2 := C.byte_last hdv
    rw [Nat.mod_eq_of_lt hdv] at hlast hset
    generalize C.more v (n + 1) = D at *
    repeat' (first | refine pN_ixk hS n (by omega) (by omega) hlast fun a ha hel => ?_ | refine pN_not128 ?_ | (refine pN_lss_s ?_ ?_ <;> intro hc <;> try (exfalso; omega)) | refine pIf_f ?_ | refine pN_ld1 ha hS ?_ | (refine pN_sr hel hS (by rfl) (by rfl) (by first | omega | (simp only [go_sem]; omega)) ?_; clear hS; intro w hS) | refine pN_v (hk := ?_) | fail)
    rw [hb2, hset] at hS
    exact hQ _ _ hS

theorem C.small_hl {i v c : Nat} (hi : i ≤ 8) (hv : v < 128 ^ i) (hc : c < 128) : c * 128 ^ i + v < 18446744073709551616 := by
  have h1 : c * 128 ^ i ≤ 127 * 128 ^ i := Nat.mul_le_mul_right _ (by omega)
  have h2 : 128 ^ i ≤ 128 ^ 8 := Nat.pow_le_pow_right (by omega) hi
  have e8 : (128 : Nat) ^ 8 = 72057594037927936 := rfl
  omega
theorem C.pow7 (i : Nat) : (2 : Nat) ^ (7 * i) = 128 ^ i := by rw [Nat.pow_mul]

set_option maxHeartbeats 1000000 in
set_option maxRecDepth 8000 in
theorem VGet_ok (hS : Sat E w M) [hr : Rds cd_uint8 M s l] (hl : l.length < 4611686018427387904) (hQ : ∀ w, Sat E w M → Q (.tuple #[.int .u64 (C.get 0 0 l).1, .int .i64 (C.get 0 0 l).2.1, .int .i64 (C.get 0 0 l).2.2]) w) :
    Calls Tryz.prog 179 #[.slice s.a l.length s.c] w (retP Q) := by
  refine varint_Get.calls ?_
  unfold varint_Get.F
  repeat' (first | refine pN_v (hk := ?_) | fail)
  refine ⟨fun x y w => ∃ v i : Nat, x = .int .u64 (v : Int) ∧ y = .int .i64 i ∧ i ≤ l.length ∧ i ≤ 8 ∧ v < 128 ^ i ∧ C.get 0 0 l = C.get v i (l.drop i) ∧ Sat E w M, fun _ y _ => l.length - (RowKit.intOf y).toNat, ⟨0, 0, rfl, rfl, by omega, by omega, by omega, by rw [List.drop_zero], hS⟩, ?_⟩
  clear hS
  rintro _ _ _ w ⟨v, i, rfl, rfl, hi, hi8, hv, hg, hS⟩
  by_cases hlt : i < l.length
  · obtain ⟨c, hc⟩ : ∃ c, l[i]? = some c := ⟨l[i], by simp [hlt]⟩
    have hd : l.drop i = c :: l.drop (i + 1) := by
      rw [List.drop_eq_getElem_cons hlt]
      rw [List.getElem?_eq_getElem hlt] at hc
      rw [Option.some.inj hc]
    rw [hd] at hg
    have hcl := c.toNat_lt
    by_cases hc8 : c.toNat < 128
    · have hlt8 : c < 128 := by rw [UInt8.lt_iff_toNat_lt]; exact hc8
      by_cases hz : c.toNat = 0 ∧ 0 < i
      · rw [C.get_c0 hc8 hz] at hg
        rw [hg] at hQ
        have h0 : c = 0 := UInt8.toNat_inj.1 hz.1
        repeat' (first | refine pN_lss_sb (fun _ => ?_) (fun h => absurd hlt8 h) | refine pN_eql_sb (fun _ => ?_) (fun h => absurd h0 h) | ((first | refine pN_lss_s ?_ ?_ | refine pN_gtr_s ?_ ?_) <;> intro hc <;> try (exfalso; omega)) | refine pIf_t ?_ | refine pGd_go (by rfl) ?_ | refine pN_ld1 ha hS ?_ | refine pN_ixk hS _ (by first | rfl | (exact (Int.toNat_of_nonneg (by omega)).symm)) (by first | rfl | omega | simpa only [go_sem] using True.intro | (simp only [go_sem]; omega)) (by assumption) fun a ha hel => ?_ | refine pN_v (hk := ?_) | fail)
        exact hQ _ hS
      · rw [C.get_c hc8 hz] at hg
        rw [hg] at hQ
        have e7 := C.pow7 i
        have hv2 : v < 2 ^ (7 * i) := by rw [e7]; exact hv
        have hsm := C.small_hl hi8 hv hc8
        have hshl : IntKind.u64.wrap ((c.toNat : Int) * 2 ^ (7 * i)) = ((c.toNat * 2 ^ (7 * i) : Nat) : Int) := by
          have e3 : ((c.toNat * 2 ^ (7 * i) : Nat) : Int) = (c.toNat : Int) * 2 ^ (7 * i) := by push_cast; rfl
          rw [← e3, w64_nat]
          rw [e7]; omega
        rw [← e7] at hsm
        have hval : c.toNat * 2 ^ (7 * i) + v = v + c.toNat * 128 ^ i := by rw [e7]; omega
        have hend : ∀ w, Sat E w M → Q (.tuple #[.int .u64 ((c.toNat * 2 ^ (7 * i) + v : Nat) : Int), .int .i64 ((i : Int) + 1), .int .i64 0]) w := fun w hS => by
          rw [hval]
          exact hQ w hS
        clear hQ
        by_cases h0 : c = 0
        · have hi0 : i = 0 := by
            have : c.toNat = 0 := by rw [h0]; rfl
            omega
          repeat' (first | refine pN_lss_sb (fun _ => ?_) (fun h => absurd hlt8 h) | refine pN_eql_sb (fun _ => ?_) (fun h => absurd h0 h) | refine pN_shl_k (7 * i) (by omega) (show _ ≤ 64 by omega) ?_ | refine pN_or_hl (7 * i) c.toNat v rfl hshl hv2 hsm ?_ | ((first | refine pN_lss_s ?_ ?_ | refine pN_gtr_s ?_ ?_) <;> intro hc <;> try (exfalso; omega)) | refine pIf_t ?_ | refine pIf_f ?_ | refine pGd_go (by rfl) ?_ | refine pN_ofb ?_ | refine pN_ld1 ha hS ?_ | refine pN_ixk hS _ (by first | rfl | (exact (Int.toNat_of_nonneg (by omega)).symm)) (by first | rfl | omega | simpa only [go_sem] using True.intro | (simp only [go_sem]; omega)) (by assumption) fun a ha hel => ?_ | refine pN_v (hk := ?_) | fail)
          exact hend _ hS
        · repeat' (first | refine pN_lss_sb (fun _ => ?_) (fun h => absurd hlt8 h) | refine pN_eql_sb (fun h => absurd h h0) (fun _ => ?_) | refine pN_shl_k (7 * i) (by omega) (show _ ≤ 64 by omega) ?_ | refine pN_or_hl (7 * i) c.toNat v rfl hshl hv2 hsm ?_ | (refine pN_lss_s ?_ ?_ <;> intro hc <;> try (exfalso; omega)) | refine pIf_t ?_ | refine pIf_f ?_ | refine pGd_no (by rfl) ?_ | refine pN_ofb ?_ | refine pN_ld1 ha hS ?_ | refine pN_ixk hS _ (by first | rfl | (exact (Int.toNat_of_nonneg (by omega)).symm)) (by first | rfl | omega | simpa only [go_sem] using True.intro | (simp only [go_sem]; omega)) (by assumption) fun a ha hel => ?_ | refine pN_v (hk := ?_) | fail)
          exact hend _ hS
    · have hge8 : ¬ c < 128 := by rw [UInt8.lt_iff_toNat_lt]; exact hc8
      by_cases h8 : i = 8
      · rw [C.get_m8 hc8 h8] at hg
        rw [hg] at hQ
        repeat' (first | refine pN_lss_sb (fun h => absurd h hge8) (fun _ => ?_) | (refine pN_lss_s ?_ ?_ <;> intro hc <;> try (exfalso; omega)) | (refine pN_eql_s ?_ ?_ <;> intro hc <;> try (exfalso; first | omega | exact hc rfl | exact hc (by assumption) | exact absurd hc (by assumption))) | refine pIf_t ?_ | refine pIf_f ?_ | refine pN_ld1 ha hS ?_ | refine pN_ixk hS _ (by first | rfl | (exact (Int.toNat_of_nonneg (by omega)).symm)) (by first | rfl | omega | simpa only [go_sem] using True.intro | (simp only [go_sem]; omega)) (by assumption) fun a ha hel => ?_ | fail)
        exact hQ _ hS
      · rw [C.get_m hc8 h8] at hg
        have e7 := C.pow7 i
        obtain ⟨x, hx⟩ : ∃ x : Nat, x = c.toNat - 128 := ⟨_, rfl⟩
        have hx8 : x < 128 := by omega
        rw [← hx] at hg
        have hv2 : v < 2 ^ (7 * i) := by rw [e7]; exact hv
        have hsm := C.small_hl hi8 hv hx8
        have hby : ((byteOf ((c.toNat % 128 : Nat) : Int)).toNat : Int) = (x : Int) := by rw [C.byteOf_lt (by omega)]; omega
        have hshl : IntKind.u64.wrap ((x : Int) * 2 ^ (7 * i)) = ((x * 2 ^ (7 * i) : Nat) : Int) := by
          have e3 : ((x * 2 ^ (7 * i) : Nat) : Int) = (x : Int) * 2 ^ (7 * i) := by push_cast; rfl
          rw [← e3, w64_nat]
          rw [e7]; omega
        have hv3 : v + x * 128 ^ i < 128 ^ (i + 1) := by
          have : x * 128 ^ i ≤ 127 * 128 ^ i := Nat.mul_le_mul_right _ (by omega)
          rw [Nat.pow_succ]; omega
        rw [← e7] at hsm
        have hval : x * 2 ^ (7 * i) + v = v + x * 128 ^ i := by rw [e7]; omega
        have hend : ∀ w, Sat E w M → ∃ v' i' : Nat, Value.int .u64 ((x * 2 ^ (7 * i) + v : Nat) : Int) = .int .u64 (v' : Int) ∧ Value.int .i64 ((i : Int) + 1) = .int .i64 i' ∧ i' ≤ l.length ∧ i' ≤ 8 ∧ v' < 128 ^ i' ∧ C.get 0 0 l = C.get v' i' (l.drop i') ∧ Sat E w M := fun w hS =>
          ⟨v + x * 128 ^ i, i + 1, by rw [hval], rfl, by omega, by omega, hv3, hg, hS⟩
        clear hQ
        repeat' (first | refine pN_lss_sb (fun h => absurd h hge8) (fun _ => ?_) | refine pN_not128 ?_ | (refine pN_ofb ?_; rw [hby]) | refine pN_shl_k (7 * i) (by omega) (show _ ≤ 64 by omega) ?_ | refine pN_or_hl (7 * i) x v rfl hshl hv2 hsm ?_ | (refine pN_lss_s ?_ ?_ <;> intro hc <;> try (exfalso; omega)) | (refine pN_eql_s ?_ ?_ <;> intro hc <;> try (exfalso; first | omega | exact hc rfl | exact hc (by assumption) | exact absurd hc (by assumption))) | refine pIf_t ?_ | refine pIf_f ?_ | refine pN_ld1 ha hS ?_ | refine pN_ixk hS _ (by first | rfl | (exact (Int.toNat_of_nonneg (by omega)).symm)) (by first | rfl | omega | simpa only [go_sem] using True.intro | (simp only [go_sem]; omega)) (by assumption) fun a ha hel => ?_ | refine pN_v (hk := ?_) | fail)
        exact ⟨hend _ hS, by simp [RowKit.intOf] <;> omega⟩
  · obtain rfl : i = l.length := by omega
    rw [List.drop_length, C.get_nil] at hg
    rw [hg] at hQ
    repeat' (first | (refine pN_lss_s ?_ ?_ <;> intro hc <;> try (exfalso; omega)) | refine pIf_f ?_ | fail)
    exact hQ _ hS
end
end Go.Proofs.YtikmogfhhggafaaGreatDoor

namespace Go.Proofs.YtikmogfhhggafaaGreatDoor
open Go

section
variable {P : Program} {H : Hints} {v : Value}

theorem cw_wpS1 (hm : P.follows .mixedOrders = true) {n : Frm} {cs cs2 : List Frame} (hv : recoverD cs = some (v, cs2) ∨ (recoverD cs = none ∧ v = .nilIface ∧ cs2 = cs)) {id : Nat} {o : Oper} {y : Code}
    (hr : recB #[o] 0 = true) (hcut : (firstRg y).bind H.cut = none) :
    ∀ {Q : PQ} {ρ : Env} {w : World} {a : Act}, served H n (.seq (.region id (recOps #[o] 0 v) false) y) = true → Fits n a ρ → @cw Pan.no P H (.seq (.region id (recOps #[o] 0 v) false) y) Q ρ w →
      (Code.seq (.region id #[o] false) y).wpS P (fun e a' cs' w' => cs' = cs2 ∧ @UpQ Pan.no n a (writes (.seq (.region id (recOps #[o] 0 v) false) y)) Q e a' w') a cs w := by
  intro Q ρ w a hs hf h
  obtain ⟨o2, ho2, hrun, hg, haft⟩ := (recB_at (P := P) hr).is
  obtain rfl : o = o2 := by simpa using ho2
  simp only [served, Bool.and_eq_true, hcut] at hs
  simp only [cw, hcut] at h
  have hlt : ∀ t ∈ opWrites (recOps #[o] 0 v).toList, n.lo ≤ t ∧ t < n.n := by
    intro t ht
    have hs1 := hs.1.1
    simp only [List.all_eq_true] at hs1
    have := hs1 t ht
    simp only [Bool.and_eq_true, Nat.blt_eq, Nat.ble_eq] at this
    exact ⟨this.2, this.1⟩
  have hl := @rgW_wp Pan.no P n (recOps #[o] 0 v) (recOps #[o] 0 v).toList a ρ w _ (fun e a' w' => @UpQ Pan.no n a (writes (.region id (recOps #[o] 0 v) false)) (fun e ρ' w' => match e with
      | .normal => @cw Pan.no P H y Q ρ' w'
      | _ => False) e a' w') (fun c a w h => h) hlt hf h fun a' ρ' w' hk hf' hq => ⟨hk, ρ', hf', hq⟩
  have e : (recOps #[o] 0 v).toList = [{ o with op := .assign (.const v) }] := rfl
  rw [e] at hl
  refine wpS_seq ?_
  refine wpS_region ?_
  have key : @UpQ Pan.no n a (writes (.region id (recOps #[o] 0 v) false)) (fun e ρ' w' => match e with
      | .normal => @cw Pan.no P H y Q ρ' w'
      | _ => False) .normal (a.put o.dst v) w := by
    unfold wpList at hl
    simp only [Region.wanted, hg, if_true, Oper.wp, Oper.upon, execOp, Sem.run_pure] at hl
    unfold wpList at hl
    exact hl.resolve_right fun h => by obtain ⟨_, _, _, h⟩ := h; exact h
  have key2 : (Code.wpS P y (fun e a' cs' w' => cs' = cs2 ∧ @UpQ Pan.no n a (writes (.seq (.region id (recOps #[o] 0 v) false) y)) Q e a' w')) (a.put o.dst v) cs2 w := by
    obtain ⟨hk, ρ', hf', hq'⟩ := key
    refine wpS_of_wp (wp_mono (cw_wp (n := n) hm y hs.1.2 hf' hq') fun e a'' w'' h => (⟨rfl, UpQ.next hk e a'' w'' h⟩ : cs2 = cs2 ∧ _))
  show wpOpsS P #[o] _ [0] a cs w
  unfold wpOpsS
  simp only [ho2, Region.wanted, hg, if_true, hrun]
  rcases hv with hv | ⟨hv, rfl, rfl⟩
  · simp only [hv]; exact key2
  · simp only [hv]; exact key2

theorem callsD_of_cw1 (hm : P.follows .mixedOrders = true) {f : FuncId} {fn : Func} {id : Nat} {o : Oper} {y : Code} {args : List Value} {w : World} {K : Value → World → Prop} {u u2 : FrameMode}
    (hu : (∃ older, u = .panicking ({ v := v, recovered := false } :: older) ∧ u2 = .panicking ({ v := v, recovered := true } :: older)) ∨ (u = .returning ∧ v = .nilIface ∧ u2 = .returning))
    (hfn : P.funcs[f]? = some fn) (hb : fn.body = some (.seq (.region id #[o] false) y)) (hr : recB #[o] 0 = true) (hcut : ((firstRg y).bind H.cut).isNone = true)
    (hs : served H (Frm.new fn.ntmps) (.seq (.region id (recOps #[o] 0 v) false) y) = true) (ha : args.length ≤ fn.ntmps)
    (h : @cw Pan.no P H (.seq (.region id (recOps #[o] 0 v) false) y) (endQ P fn.results.toList K) (argsE args) w) : CallsD P f args.toArray u w fun e u' w' => u' = u2 ∧ ∃ r, e = .returned r ∧ K r w' := by
  refine callsD_of_wpS hfn hb fun c₀ cs hu₀ => ?_
  have hf := fits_new fn.ntmps args ha
  have hv : recoverD (c₀ :: cs) = some (v, { c₀ with mode := u2 } :: cs) ∨ (recoverD (c₀ :: cs) = none ∧ v = .nilIface ∧ { c₀ with mode := u2 } :: cs = c₀ :: cs) := by
    rcases hu with ⟨older, rfl, rfl⟩ | ⟨rfl, rfl, rfl⟩
    · left; simp [recoverD, hu₀]
    · right
      refine ⟨by simp [recoverD, hu₀], rfl, ?_⟩
      rw [← hu₀]
  refine wpS_mono (cw_wpS1 hm hv hr (Option.isNone_iff_eq_none.1 hcut) hs hf h) fun e a' cs' w' hq => ?_
  obtain ⟨rfl, hq⟩ := hq
  cases e with
  | panic c => exact hq.z.elim
  | outgrown => exact hq.elim
  | goto l => exact hq.elim
  | exit id => obtain ⟨_, ρ', _, hq⟩ := hq; exact hq.elim
  | normal =>
    obtain ⟨_, ρ', hf', hq⟩ := hq
    obtain ⟨vs, hr, hK⟩ := resW_run _ _ hq
    exact ⟨hf'.defers, u2, rfl, _, results_one hf' fn w' P vs hr, rfl, _, rfl, by simpa using hK⟩
  | ret =>
    obtain ⟨_, ρ', hf', hq⟩ := hq
    obtain ⟨vs, hr, hK⟩ := resW_run _ _ hq
    exact ⟨hf'.defers, u2, rfl, _, results_one hf' fn w' P vs hr, rfl, _, rfl, by simpa using hK⟩
end
end Go.Proofs.YtikmogfhhggafaaGreatDoor
