/-
  Texts of one proof, one behind the other: TarU, TarT, TarM, TarN, Wide, Keep, TarC, LrPithlaw33.
-/
import Derived.Deep.DeepAppendWide
import Derived.Test.YteeepkimnpabiaaDoorRows
import Derived.Test.YteeepkimnpabiaaDoorMg5
namespace Go.Proofs.YteeepkimnpabiaaDoor
open Go
set_option linter.unusedSimpArgs false
set_option linter.unnecessarySimpa false
set_option linter.unusedSectionVars false
set_option linter.unusedVariables false

namespace A
def letterAt : Nat → UInt8
  | 0 => 48
  | 1 => 53
  | _ => 50
/-- The kind behind some letters. -/
def kindTo (c : UInt8) : Nat → Int
  | 0 => -1
  | i + 1 => if c = letterAt i then i else kindTo c i
theorem kindTo_next (c : UInt8) (i : Nat) : kindTo c (i + 1) = if c = letterAt i then (i : Int) else kindTo c i := rfl
theorem kindTo_bd (c : UInt8) : ∀ i, -1 ≤ kindTo c i ∧ kindTo c i < i
  | 0 => by simp [kindTo]
  | i + 1 => by
    have := kindTo_bd c i
    rw [kindTo_next]
    split <;> omega
theorem ixb_three (c : UInt8) : ixb [48, 53, 50] c = kindTo c 3 := by
  by_cases h0 : c = 48
  · subst h0; decide
  by_cases h1 : c = 53
  · subst h1; decide
  by_cases h2 : c = 50
  · subst h2; decide
  have e : ixb [48, 53, 50] c = -1 := by
    have := ixb_ge [48, 53, 50] c
    have hn : ¬ 0 ≤ ixb [48, 53, 50] c := fun h => by
      have := ixb_mem.1 h
      simp only [List.mem_cons, List.not_mem_nil, or_false] at this
      rcases this with h | h | h
      · exact h0 h
      · exact h1 h
      · exact h2 h
    omega
  rw [e, kindTo_next, if_neg (show ¬ c = letterAt 2 from h2), kindTo_next, if_neg (show ¬ c = letterAt 1 from h1), kindTo_next, if_neg (show ¬ c = letterAt 0 from h0)]
  rfl
theorem kindTo_0 (c : UInt8) : kindTo c 0 = -1 := rfl
theorem fS_0 (h : List UInt8) : fS 0 h = h.take 100 := by unfold fS fAt fN; simp
theorem fS_1 (h : List UInt8) : fS 1 h = (h.drop 100).take (108 - 100) := rfl
theorem fS_4 (h : List UInt8) : fS 4 h = (h.drop 124).take (136 - 124) := rfl
theorem fS_5 (h : List UInt8) : fS 5 h = (h.drop 136).take (148 - 136) := rfl
theorem fS_7 (h : List UInt8) : fS 7 h = (h.drop 157).take (257 - 157) := rfl
theorem fS_11 (h : List UInt8) : fS 11 h = (h.drop 345).take (500 - 345) := rfl
theorem fS_6 (h : List UInt8) : (fS 6 h).getD 0 0 = h.getD 156 0 := by
  have e : fS 6 h = (h.drop 156).take 1 := rfl
  rw [e, List.getD_eq_getElem?_getD, List.getD_eq_getElem?_getD, List.getElem?_take, if_pos (by omega), List.getElem?_drop]
def frontA (x : T_api_Item) : List UInt8 := fill (parted x.Name).2.1 100 ++ oct x.Mode 7 ++ [0] ++ (oct 0 7 ++ [0]) ++ (oct 0 7 ++ [0])
def frontB (x : T_api_Item) : List UInt8 := [0] ++ oct x.Time 11 ++ [0]
theorem front_ab (x : T_api_Item) (n : Int) : front x n = frontA x ++ oct n 11 ++ frontB x := by
  rw [front_str, frontA, frontB]
  simp only [List.append_assoc]
theorem like_str {x : T_api_Item} (h : Fits x) (n : Int) : ((header x 0).take 124 ++ oct n 11 ++ (header x 0).drop 135).take 148 ++ ((header x 0).take 124 ++ oct n 11 ++ (header x 0).drop 135).drop 156 = front x n ++ back x := by
  have ha : (frontA x).length = 124 := by
    have := fill_len h.rest
    simp only [frontA, List.length_append, oct_len, this, List.length_cons, List.length_nil]
  have hs := sumField_len (made x 0 12)
  have hf := front_len h n
  have e : (header x 0).take 124 ++ oct n 11 ++ (header x 0).drop 135 = front x n ++ (sumField (made x 0 12) ++ back x) := by
    have e0 : header x 0 = frontA x ++ (oct 0 11 ++ (frontB x ++ sumField (made x 0 12) ++ back x)) := by
      unfold header
      rw [front_ab]
      simp only [List.append_assoc]
    rw [e0, List.take_left' ha, show (135 : Nat) = 124 + 11 from rfl, ← List.drop_drop, List.drop_left' ha, List.drop_left' (oct_len 0 11), front_ab]
    simp only [List.append_assoc]
  rw [e, List.take_left' hf, show (156 : Nat) = 148 + 8 from rfl, ← List.drop_drop, List.drop_left' hf, List.drop_left' hs]
/-- What the reader answers whether the header may be one. -/
def mayR (h : List UInt8) : Bool := decide (0 ≤ sizeR h ∧ ¬ (0 < sizeR h ∧ (itemR h).Kind ≠ 0) ∧ wrong (itemR h) = 0)
theorem kindR (h : List UInt8) : (itemR h).Kind = kindTo (h.getD 156 0) 3 := by rw [itemR, fS_6, ixb_three]
theorem itemR_data (h : List UInt8) : (itemR h).Data = (⟨none, 0⟩, []) := by rw [itemR]
theorem sizeR_eq (h : List UInt8) : sizeR h = numR (fS 4 h) := by rw [sizeR]
theorem itemR_eq (h : List UInt8) (k : Int) (hk : k = (itemR h).Kind) : itemR h = ⟨if text (fS 11 h) = [] then text (fS 0 h) else text (fS 11 h) ++ (47 :: text (fS 0 h)), text (fS 7 h), k, numR (fS 1 h), numR (fS 5 h), (⟨none, 0⟩, [])⟩ := by
  rw [hk, itemR, nameR]
end A

theorem run_bI (a b : ByteArray) (c d e : Int) (w : World) : (oBuild 24 [(0, .string a), (1, .string b), (2, .int .i64 c), (3, .int .i64 d), (4, .int .i64 e)]).run Tryd.prog w = .ok (.value (.agg #[.string a, .string b, .int .i64 c, .int .i64 d, .int .i64 e, .slice none 0 0])) w := by kernel_rfl
theorem pN_bI [Pan] {w : World} {K : Value → World → Prop} {a b : ByteArray} {c d e : Int} (hk : K (.agg #[.string a, .string b, .int .i64 c, .int .i64 d, .int .i64 e, .slice none 0 0]) w) :
    pN Tryd.prog (oBuild 24 [(0, .string a), (1, .string b), (2, .int .i64 c), (3, .int .i64 d), (4, .int .i64 e)]) w K := by rw [pN_def, run_bI, rN_value]; exact hk

attribute [local irreducible] oMv oV oU oCall oCallV oBi oBin oUn oLoad oStore oNil oFld oField oIdx oIndex oPick oAlloc oBox oBuild oBs oConv oMk oSl oExt oFn oIface oMap oLook oMapUp oRange oNext oAssert oPanic oRes pN pA pL pDr pIf gA pGd Calls A.made A.header A.oct A.wrong A.padn A.putB A.fS A.num A.text A.sumTo A.sumOf A.front A.back A.parted A.fill A.numR A.itemR A.sizeR A.kindTo
section
variable [Pan] {E w : World} {K Q : Value → World → Prop} {L M : List HA} {l r : List UInt8} {s s2 sl sl2 : Sl} {its ots : List T_api_Item}

set_option maxHeartbeats 8000000 in
theorem like_ok' (h : List UInt8) (hl : h.length = 512) (x : T_api_Item) (hw : A.wrong x = 0) (hd : x.Data.2 = []) (n : Int) (n0 : 0 ≤ n) (n1 : n < 8589934592) (hS : Sat E w L) (hQ : ∀ w, Sat E w L → Q (.bool (decide (A.likeR h x n))) w) :
    Calls Tryd.prog 40 #[.string ⟨h.toArray⟩, .agg x.enc.toArray, .int .i64 n] w (retP Q) := by
  refine pithref33_like.calls ?_
  unfold pithref33_like.F
  have hH := fun {K : Value → World → Prop} {w : World} {L : List HA} (hS : Sat E w L) => Header_ok' (Q := K) x hw hS
  have hf := (A.wrong_0 hw).1
  have hh := header_len hf 0
  have hls := A.like_str hf n
  have ho := A.oct_len n 11
  have hlr : A.likeR h x n = (A.front x n ++ A.back x = h.take 148 ++ h.drop 156) := rfl
  rw [← hls] at hlr
  have hz : ((x.Data.2.length : Nat) : Int) = 0 := by rw [hd]; rfl
  rw [hz] at hH
  have hcn : x.enc.all (·.oneCell') = true := List.all_eq_true.2 fun u hu => cd_api_Item.one _ u hu
  have hln : x.enc.length = 6 := cd_api_Item.len _
  clear hls hf hw
  generalize A.header x 0 = hd at *
  generalize hod : A.oct n 11 = od at *
  refine pN_bx (z := x.enc) hS (by rfl) ?_
  clear hS
  intro ab w hS
  repeat' (first | refine pN_la hS (by exact hln.symm) ?_ | fail)
  refine pc_pithref33_Header (hH hS ?_)
  clear hS
  intro w hS
  by_cases hk : A.likeR h x n
  · rw [decide_eq_true hk] at hQ
    rw [hlr] at hk
    repeat' (first | (refine pc_pithref33_octal (octal_ok' _ 11 n0 (by omega) (by omega) hS ?_); clear hS; intro w hS; rw [hod]) | refine pA_ssl1 _ (by first | rfl | (exact (Int.toNat_of_nonneg (by omega)).symm)) (by first | omega | (simp only [go_sem]; omega)) ?_ | refine pA_sslh _ (by first | rfl | (exact (Int.toNat_of_nonneg (by omega)).symm)) (by first | omega | (simp only [go_sem]; omega)) ?_ | refine pA_sadd (by first | omega | (simp only [go_sem]; omega)) ?_ | (refine pA_eql_ss ?_ ?_ <;> intro hc <;> try (exfalso; first | omega | exact hc rfl | exact hc (by assumption) | exact absurd hc (by assumption))) | (refine pDr_go hS ?_; clear hS; intro w hS) | refine ⟨trivial, ?_⟩ | fail)
    exact hQ _ hS.to
  · rw [decide_eq_false hk] at hQ
    rw [hlr] at hk
    repeat' (first | (refine pc_pithref33_octal (octal_ok' _ 11 n0 (by omega) (by omega) hS ?_); clear hS; intro w hS; rw [hod]) | refine pA_ssl1 _ (by first | rfl | (exact (Int.toNat_of_nonneg (by omega)).symm)) (by first | omega | (simp only [go_sem]; omega)) ?_ | refine pA_sslh _ (by first | rfl | (exact (Int.toNat_of_nonneg (by omega)).symm)) (by first | omega | (simp only [go_sem]; omega)) ?_ | refine pA_sadd (by first | omega | (simp only [go_sem]; omega)) ?_ | (refine pA_eql_ss ?_ ?_ <;> intro hc <;> try (exfalso; first | omega | exact hc rfl | exact hc (by assumption) | exact absurd hc (by assumption))) | (refine pDr_go hS ?_; clear hS; intro w hS) | refine ⟨trivial, ?_⟩ | fail)
    exact hQ _ hS.to

set_option maxHeartbeats 8000000 in
theorem parsed_ok' (h : List UInt8) (hl : h.length = 512) (hS : Sat E w L)
    (hQ : ∀ w, Sat E w L → Q (.tuple #[.agg (if A.mayR h = true then (A.itemR h).enc else T_api_Item.zero.enc).toArray, .int .i64 (if A.mayR h = true then A.sizeR h else 0), .bool (A.mayR h)]) w) :
    Calls Tryd.prog 39 #[.string ⟨h.toArray⟩] w (retP Q) := by
  refine pithref33_parsed.calls ?_
  unfold pithref33_parsed.F
  refine pN_nz hS ?_
  clear hS
  intro a2 w hS
  obtain ⟨c, hc⟩ : ∃ c, h[156]? = some c := ⟨h[156]'(by omega), by simp⟩
  have hcd : h.getD 156 0 = c := by rw [List.getD_eq_getElem?_getD, hc]; rfl
  refine ⟨fun k i w => ∃ j : Nat, j ≤ 3 ∧ k = .int .i64 (A.kindTo c j) ∧ i = .int .i64 j ∧ Sat E w (cel a2 ⟨24, T_api_Item.zero.enc⟩ :: L), fun _ i _ => 3 - (RowKit.intOf i).toNat, ⟨0, Nat.zero_le _, by rw [A.kindTo_0], rfl, hS⟩, ?_⟩
  clear hS
  rintro _ _ _ w ⟨j, hj, rfl, rfl, hS⟩
  by_cases hlt : j < 3
  · have hlj : ([48, 53, 50] : List UInt8)[j]? = some (A.letterAt j) := by
      obtain rfl | rfl | rfl : j = 0 ∨ j = 1 ∨ j = 2 := by omega
      all_goals rfl
    have hkn := A.kindTo_next c j
    have hbd := A.kindTo_bd c j
    generalize A.letterAt j = lt at *
    repeat' (first | (refine pN_lss_s ?_ ?_ <;> intro hc <;> try (exfalso; omega)) | refine pIf_t ?_ | fail)
    refine ⟨fun v w => v = .int .i64 (A.kindTo c (j + 1)) ∧ Sat E w (cel a2 ⟨24, T_api_Item.zero.enc⟩ :: L), ?_, ?_⟩
    rotate_left 1
    · clear hS
      rintro _ _ w ⟨rfl, hS⟩
      repeat' (first | refine pN_via (by (intro K; simp (disch := omega) only [go_sem, pN_min, pN_max, w_u32, w_u64, Option.isNone_some, Option.isNone_none]; (try simp only [wrap_u32, wrap_u64]); rfl)) ?_ | fail)
      exact ⟨⟨j + 1, hlt, rfl, rfl, hS⟩, by simp [RowKit.intOf] <;> omega⟩
    generalize A.kindTo c (j + 1) = k1 at *
    generalize A.kindTo c j = k0 at *
    by_cases he : c = lt
    · rw [if_pos he] at hkn
      subst he hkn
      repeat' (first | refine pA_sidx _ (by first | rfl | (exact (Int.toNat_of_nonneg (by omega)).symm)) (by first | assumption | rfl) ?_ | (refine pA_eql_s ?_ ?_ <;> intro hc <;> try (exfalso; first | omega | exact hc rfl | exact hc (by assumption) | exact absurd hc (by assumption))) | refine pIf_t ?_ | (refine pDr_go hS ?_; clear hS; intro w hS) | fail)
      exact ⟨rfl, hS⟩
    · rw [if_neg he] at hkn
      subst hkn
      have hei : ¬ (c.toNat : Int) = (lt.toNat : Int) := fun e => he (UInt8.toNat_inj.1 (Int.ofNat_inj.1 e))
      repeat' (first | refine pA_sidx _ (by first | rfl | (exact (Int.toNat_of_nonneg (by omega)).symm)) (by first | assumption | rfl) ?_ | (refine pA_eql_s ?_ ?_ <;> intro hc <;> try (exfalso; first | omega | exact hc rfl | exact hc (by assumption) | exact absurd hc (by assumption))) | refine pIf_f ?_ | (refine pDr_go hS ?_; clear hS; intro w hS) | fail)
      exact ⟨rfl, hS⟩
  · obtain rfl : j = 3 := by omega
    have hk := A.kindR h
    rw [hcd] at hk
    have hie := A.itemR_eq h _ hk.symm
    have hbd := A.kindTo_bd c 3
    generalize A.kindTo c 3 = kd at *
    have hse := A.sizeR_eq h
    rw [A.fS_0, A.fS_7, A.fS_1, A.fS_5, A.fS_11] at hie
    rw [A.fS_4] at hse
    have y0 : (h.take 100).length = 100 := by rw [List.length_take]; omega
    have y7 : ((h.drop 157).take (257 - 157)).length = 100 := by rw [List.length_take, List.length_drop]; omega
    have y1 : ((h.drop 100).take (108 - 100)).length = 8 := by rw [List.length_take, List.length_drop]; omega
    have y5 : ((h.drop 136).take (148 - 136)).length = 12 := by rw [List.length_take, List.length_drop]; omega
    have y11 : ((h.drop 345).take (500 - 345)).length = 155 := by rw [List.length_take, List.length_drop]; omega
    have y4 : ((h.drop 124).take (136 - 124)).length = 12 := by rw [List.length_take, List.length_drop]; omega
    have u0 := A.text_len (h.take 100)
    have u7 := A.text_len ((h.drop 157).take (257 - 157))
    have u11 := A.text_len ((h.drop 345).take (500 - 345))
    have hmR : A.mayR h = decide (0 ≤ A.sizeR h ∧ ¬ (0 < A.sizeR h ∧ (A.itemR h).Kind ≠ 0) ∧ A.wrong (A.itemR h) = 0) := rfl
    rw [hk] at hmR
    have hRg := fun {K : Value → World → Prop} {w : World} {L : List HA} (h1 : (A.itemR h).Name.length ≤ 140737488355328) (h2 : (A.itemR h).Link.length ≤ 140737488355328) (hS : Sat E w L) => Right_ok' (Q := K) (A.itemR h) h1 h2 hS
    have hcn : (A.itemR h).enc.all (·.oneCell') = true := List.all_eq_true.2 fun u hu => cd_api_Item.one _ u hu
    have hln : (A.itemR h).enc.length = 6 := cd_api_Item.len _
    have hN : (A.itemR h).Name = if A.text ((h.drop 345).take (500 - 345)) = [] then A.text (h.take 100) else A.text ((h.drop 345).take (500 - 345)) ++ 47 :: A.text (h.take 100) := by rw [hie]
    have hL : (A.itemR h).Link = A.text ((h.drop 157).take (257 - 157)) := by rw [hie]
    have hen : (A.itemR h).enc = [.string ⟨(A.itemR h).Name.toArray⟩, .string ⟨(A.itemR h).Link.toArray⟩, .int .i64 kd, .int .i64 (A.numR ((h.drop 100).take (108 - 100))), .int .i64 (A.numR ((h.drop 136).take (148 - 136))), .slice none 0 0] := by rw [hie]; rfl
    have hnl : (A.itemR h).Name.length ≤ 256 := by
      rw [hN]
      split
      · omega
      · rw [List.length_append, List.length_cons]; omega
    have hll : (A.itemR h).Link.length ≤ 100 := by rw [hL]; omega
    generalize A.itemR h = it at *
    clear hie
    refine pN_via (by (intro K; simp (disch := omega) only [go_sem]; rfl)) ?_
    refine pIf_f ?_
    refine ⟨fun v w => ∃ a8 : Nat, v = .pointer (some ⟨a8, 0, none⟩) ∧ Sat E w (cel a8 ⟨24, [.string ⟨(A.text (h.take 100)).toArray⟩, .string ⟨it.Link.toArray⟩, .int .i64 kd, .int .i64 (A.numR ((h.drop 100).take (108 - 100))), .int .i64 (A.numR ((h.drop 136).take (148 - 136))), .slice none 0 0]⟩ :: cel a2 ⟨24, T_api_Item.zero.enc⟩ :: L), ?_, ?_⟩
    · rw [hL]
      clear hQ hRg hen hcn hln hN hmR hnl hll hL hse
      repeat' (first | refine pA_sslh 100 rfl (by omega) ?_ | refine pA_ssl2 157 257 rfl rfl (by omega) (by omega) ?_ | refine pA_ssl2 100 108 rfl rfl (by omega) (by omega) ?_ | refine pA_ssl2 136 148 rfl rfl (by omega) (by omega) ?_ | (refine And.intro (a := pN _ _ _ _) ?_ ?_) | (refine pc_pithref33_text (text_ok' (by omega) ?_)) | (refine pc_pithref33_number (number_ok' (by omega) (by omega) ?_)) | refine pN_bI ?_ | (refine pN_sa hS (by rfl) (by rfl) (by rfl) ?_; clear hS; intro w hS; try dsimp only at hS) | (refine pDr_go hS ?_; clear hS; intro w hS) | (refine pN_nz hS ?_; clear hS; intro a w hS) | refine ⟨trivial, ?_⟩ | fail)
      all_goals exact ⟨_, rfl, hS.to⟩
    clear hS
    rintro _ _ w ⟨a8, rfl, hS⟩
    have ha := A.text_len (h.take 100)
    repeat' (first | refine pN_ssl2 345 500 rfl rfl (by omega) (by omega) ?_ | (refine pc_pithref33_text (text_ok' (by omega) ?_)) | fail)
    refine ⟨fun w => Sat E w (cel a8 ⟨24, it.enc⟩ :: cel a2 ⟨24, T_api_Item.zero.enc⟩ :: L), ?_, ?_⟩
    · rw [hen, hN]
      clear hQ hRg hen hcn hln hN hmR hnl hll hL hse
      by_cases ht : A.text ((h.drop 345).take (500 - 345)) = []
      · rw [if_pos ht]
        repeat' (first | (refine pN_neq_ss ?_ ?_ <;> intro hc <;> try (exfalso; first | omega | exact hc rfl | exact hc (by assumption) | exact absurd hc (by assumption))) | refine pIf_f ?_ | fail)
        all_goals exact hS
      · rw [if_neg ht]
        repeat' (first | refine pN_sadd (by first | omega | (simp only [go_sem]; omega)) ?_ | (refine pN_neq_ss ?_ ?_ <;> intro hc <;> try (exfalso; first | omega | exact hc rfl | exact hc (by assumption) | exact absurd hc (by assumption))) | refine pIf_t ?_ | refine pN_l hS (by first | rfl | assumption) ?_ | (refine pN_s hS (by first | exact Nat.le_of_ble_eq_true rfl | assumption) (by rfl) ?_; clear hS; intro w hS; try simp only [List.set_cons_zero, List.set_cons_succ] at hS) | refine pN_via (by (intro K; simp (disch := omega) only [go_sem, pN_min, pN_max, w_u32, w_u64, Option.isNone_some, Option.isNone_none]; (try simp only [wrap_u32, wrap_u64]); rfl)) ?_ | fail)
        rw [List.append_assoc, List.singleton_append] at hS
        exact hS
    clear hS
    intro _ w hS
    have hwc := A.wrong_cases it
    repeat' (first | refine pN_ssl2 124 136 rfl rfl (by omega) (by omega) ?_ | (refine pc_pithref33_number (number_ok' (by omega) (by omega) ?_)) | refine pN_la hS (by exact hln.symm) ?_ | fail)
    refine pc_pithref33_Right (hRg (by omega) (by omega) hS ?_)
    clear hS
    intro w hS
    rw [← hse]
    clear hRg hen hN hL
    generalize A.sizeR h = sz at *
    generalize A.wrong it = we at *
    by_cases hmay : 0 ≤ sz ∧ ¬ (0 < sz ∧ kd ≠ 0) ∧ we = 0
    · rw [decide_eq_true hmay] at hmR
      rw [hmR, if_pos rfl, if_pos rfl] at hQ
      obtain ⟨m1, m2, m3⟩ := hmay
      generalize it.enc = ie at *
      repeat' (first | refine pN_la hS (by exact hln.symm) ?_ | (refine pN_sa (us := ie) hS hln.symm (by exact hln) hcn ?_; clear hS; intro w hS) | refine pL_ra hS (by exact hln.symm) ?_ | ((first | refine pN_lss_s ?_ ?_ | refine pN_gtr_s ?_ ?_) <;> intro hc <;> try (exfalso; omega)) | (refine pN_neq_s ?_ ?_ <;> intro hc <;> try (exfalso; first | omega | exact hc rfl | exact hc (by assumption) | exact absurd hc (by assumption))) | refine pIf_f ?_ | refine pGd_go (by rfl) ?_ | refine pGd_no (by rfl) ?_ | refine pN_via (by (intro K; simp (disch := omega) only [go_sem, pN_min, pN_max, w_u32, w_u64, Option.isNone_some, Option.isNone_none]; (try simp only [wrap_u32, wrap_u64]); rfl)) ?_ | fail)
      all_goals exact hQ _ hS.to
    · rw [decide_eq_false hmay] at hmR
      rw [hmR, if_neg (by decide), if_neg (by decide)] at hQ
      repeat' (first | ((first | refine pN_lss_s ?_ ?_ | refine pN_gtr_s ?_ ?_) <;> intro hc <;> try (exfalso; omega)) | (refine pN_neq_s ?_ ?_ <;> intro hc <;> try (exfalso; first | omega | exact hc rfl | exact hc (by assumption) | exact absurd hc (by assumption))) | refine pIf_t ?_ | refine pGd_go (by rfl) ?_ | refine pGd_no (by rfl) ?_ | refine pL_ra hS (by rfl) ?_ | (refine pN_sa hS (by rfl) (by rfl) (by rfl) ?_; clear hS; intro w hS; try dsimp only at hS) | refine pN_via (by (intro K; simp (disch := omega) only [go_sem, pN_min, pN_max, w_u32, w_u64, Option.isNone_some, Option.isNone_none]; (try simp only [wrap_u32, wrap_u64]); rfl)) ?_ | fail)
      all_goals exact hQ _ hS.to
end
end Go.Proofs.YteeepkimnpabiaaDoor

namespace Go.Proofs.YteeepkimnpabiaaDoor
open Go
set_option linter.unusedSimpArgs false
set_option linter.unnecessarySimpa false
set_option linter.unusedSectionVars false
set_option linter.unusedVariables false

namespace A
theorem fS_take (l : List UInt8) {k : Nat} (hk : k < 12) : fS k (l.take 512) = fS k l := by
  have := fAt_end k hk
  unfold fS
  rw [List.drop_take, List.take_take, Nat.min_eq_left (by omega)]
theorem readTo_take (l : List UInt8) : readTo (l.take 512) 12 = readTo l 12 := by
  rw [readTo_eq, readTo_eq]
  unfold nameR
  simp only [fS_take l (show 0 < 12 by decide), fS_take l (show 1 < 12 by decide), fS_take l (show 4 < 12 by decide), fS_take l (show 5 < 12 by decide), fS_take l (show 6 < 12 by decide), fS_take l (show 7 < 12 by decide), fS_take l (show 11 < 12 by decide)]
theorem sumOf_take (l : List UInt8) : sumOf (l.take 512) = sumOf l := by
  unfold sumOf
  refine sumTo_congr 512 fun j hj _ => ?_
  rw [List.getD_eq_getElem?_getD, List.getD_eq_getElem?_getD, List.getElem?_take, if_pos hj]
theorem told_take (l : List UInt8) : Told (l.take 512) ↔ Told l := by
  unfold Told sumField
  rw [sumOf_take, List.drop_take, List.take_take]
  exact Iff.rfl
theorem sizeR_bd (h : List UInt8) (hl : h.length = 512) : sizeR h < 8589934592 := by
  have l4 : (fS 4 h).length = 12 := fS_len (by omega) (by omega)
  have hb := num_bd 11 ((fS 4 h).take ((fS 4 h).length - 1)) (by rw [List.length_take, l4]; rfl)
  have e11 : (8 : Int) ^ 11 = 8589934592 := by decide
  rw [sizeR]
  unfold numR
  split <;> omega
theorem mayR_iff (h : List UInt8) : mayR h = true ↔ (0 ≤ sizeR h ∧ ¬ (0 < sizeR h ∧ (itemR h).Kind ≠ 0) ∧ wrong (itemR h) = 0) := by unfold mayR; exact decide_eq_true_iff
/-- Get's error, as the document finds it. -/
theorem getE_R {l : List UInt8} (hl : 512 ≤ l.length) : (¬ Told (l.take 512) → getE l = 3) ∧ (Told (l.take 512) → ¬ okR (l.take 512) → getE l = 2) ∧
    (Told (l.take 512) → okR (l.take 512) → (itemR (l.take 512), sizeR (l.take 512)) = readTo l 12 ∧ getE l = if l.length < 512 + (sizeR (l.take 512)).toNat + padn (sizeR (l.take 512)).toNat then 1
      else if Zs ((l.drop (512 + (sizeR (l.take 512)).toNat)).take (512 + (sizeR (l.take 512)).toNat + padn (sizeR (l.take 512)).toNat - (512 + (sizeR (l.take 512)).toNat))) then 0 else 2) := by
  have hh : (l.take 512).length = 512 := by rw [List.length_take]; omega
  have ht := told_take l
  refine ⟨fun h => ?_, fun h hk => ?_, fun h hk => ?_⟩
  · unfold getE
    rw [if_neg (by omega), if_pos (show (l.drop 148).take (156 - 148) ≠ sumField l from fun e => h (ht.2 e))]
  · obtain ⟨r1, _⟩ := readers hh h
    rw [readTo_take] at r1
    unfold getE
    rw [if_neg (by omega), if_neg (show ¬ ((l.drop 148).take (156 - 148) ≠ sumField l) from fun e => e (ht.1 h))]
    unfold getE2
    rw [if_pos]
    refine Classical.byContradiction fun hn => hk (r1.2 ⟨?_, ?_, ?_⟩)
    · exact Decidable.not_not.1 fun e => hn (.inl e)
    · exact fun e => hn (.inr (.inl e))
    · exact Decidable.not_not.1 fun e => hn (.inr (.inr e))
  · obtain ⟨r1, r2⟩ := readers hh h
    have e := r2 hk
    rw [readTo_take] at r1 e
    refine ⟨e, ?_⟩
    obtain ⟨p1, p2, p3⟩ := r1.1 hk
    have e2 : (readTo l 12).2 = sizeR (l.take 512) := by rw [← e]
    unfold getE
    rw [if_neg (by omega), if_neg (show ¬ ((l.drop 148).take (156 - 148) ≠ sumField l) from fun e => e (ht.1 h))]
    unfold getE2
    rw [if_neg, e2]
    rintro (h1 | h1 | h1)
    · exact h1 p1
    · exact p2 h1
    · exact h1 p3
theorem okR_iff (h : List UInt8) : okR h ↔ mayR h = true ∧ likeR h (itemR h) (sizeR h) := by
  rw [mayR_iff]
  unfold okR
  constructor
  · rintro ⟨a, b, c, d⟩; exact ⟨⟨a, b, c⟩, d⟩
  · rintro ⟨⟨a, b, c⟩, d⟩; exact ⟨a, b, c, d⟩
theorem told_str (h : List UInt8) : Told h ↔ (h.drop 148).take (156 - 148) = oct (sumOf h) 6 ++ [0, 32] := Iff.rfl
end A

attribute [local irreducible] oMv oV oU oCall oCallV oBi oBin oUn oLoad oStore oNil oFld oField oIdx oIndex oPick oAlloc oBox oBuild oBs oConv oMk oSl oExt oFn oIface oMap oLook oMapUp oRange oNext oAssert oPanic oRes pN pA pL pDr pIf gA pGd Calls A.made A.header A.oct A.wrong A.padn A.putB A.fS A.num A.text A.sumTo A.sumOf A.front A.back A.parted A.fill A.numR A.itemR A.sizeR A.kindTo A.getE A.getX A.getL A.getN A.readTo
section
variable [Pan] {E w : World} {K Q : Value → World → Prop} {L M : List HA} {l r : List UInt8} {s s2 sl sl2 : Sl} {its ots : List T_api_Item}

set_option maxHeartbeats 8000000 in
set_option maxRecDepth 4000 in
theorem Get_ok' (hS : Sat E w M) [hr : Rds cd_uint8 M s l] (hl2 : l.length ≤ 140737488355328)
    (hno : A.getE l ≠ 0 → ∀ w, Sat E w M → Q (.tuple #[.agg T_api_Item.zero.enc.toArray, .int .i64 0, .int .i64 (A.getE l)]) w)
    (hok : A.getE l = 0 → ∀ s w, Sat E w (rows cd_uint8 s (A.getL l) :: M) → Q (.tuple #[.agg (A.getX l s).enc.toArray, .int .i64 (A.getN l : Nat), .int .i64 0]) w) :
    Calls Tryd.prog 18 #[.slice s.a l.length s.c] w (retP Q) := by
  refine pithref33_Get.calls ?_
  unfold pithref33_Get.F
  refine pN_nz hS ?_
  clear hS
  intro a2 w hS
  have hS : Sat E w (cel a2 ⟨24, T_api_Item.zero.enc⟩ :: M) := hS
  by_cases hl : 512 ≤ l.length
  rotate_left 1
  · have he : A.getE l = 1 := by rw [A.getE, if_pos (by omega)]
    rw [he] at hno
    repeat' (first | (refine pN_lss_s ?_ ?_ <;> intro hc <;> try (exfalso; omega)) | refine pIf_t ?_ | refine pL_ra hS (by rfl) ?_ | (refine pN_sa hS (by rfl) (by rfl) (by rfl) ?_; clear hS; intro w hS; try dsimp only at hS) | refine pN_via (by (intro K; simp (disch := omega) only [go_sem, pN_min, pN_max, w_u32, w_u64, Option.isNone_some, Option.isNone_none]; (try simp only [wrap_u32, wrap_u64]); rfl)) ?_ | fail)
    exact hno (by decide) _ hS.to
  obtain ⟨g1, g2, g3⟩ := A.getE_R hl
  have hh : (l.take 512).length = 512 := by rw [List.length_take]; omega
  repeat' (first | (refine pN_lss_s ?_ ?_ <;> intro hc <;> try (exfalso; omega)) | refine pIf_f ?_ | refine pN_via (by (intro K; simp (disch := omega) only [go_sem, pN_min, pN_max, w_u32, w_u64, Option.isNone_some, Option.isNone_none]; (try simp only [wrap_u32, wrap_u64]); rfl)) ?_ | fail)
  refine pN_slhw (C := cd_uint8) (s := s) (l := l) hS 512 rfl rfl (by omega) ?_
  intro hp
  refine pN_st hS hh.symm ?_
  have hsb := A.sizeR_bd _ hh
  have hts := A.told_str (l.take 512)
  have hsu := A.sumOf_bd (l.take 512)
  have hoc := A.oct_len (A.sumOf (l.take 512) : Nat) 6
  have hoi := A.okR_iff (l.take 512)
  have hmi := A.mayR_iff (l.take 512)
  have hid := A.itemR_data (l.take 512)
  have hPa := fun {K : Value → World → Prop} {w : World} {L : List HA} (hS : Sat E w L) => parsed_ok' (Q := K) (l.take 512) hh hS
  have hLi := fun {K : Value → World → Prop} {w : World} {L : List HA} (hw : A.wrong (A.itemR (l.take 512)) = 0) (h0 : 0 ≤ A.sizeR (l.take 512)) (hS : Sat E w L) => like_ok' (Q := K) (l.take 512) hh (A.itemR (l.take 512)) hw (by rw [hid]) _ h0 hsb hS
  by_cases ht : A.Told (l.take 512)
  rotate_left 1
  · have he := g1 ht
    rw [hts] at ht
    rw [he] at hno
    clear g1 g2 g3 hPa hLi hoi hmi
    generalize l.take 512 = h at *
    repeat' (first | refine pA_ssl2 148 156 rfl rfl (by omega) (by omega) ?_ | (refine pc_pithref33_sum (sum_ok' hh ?_)) | (refine pc_pithref33_octal (octal_ok' _ 6 (by omega) (by omega) (by omega) hS ?_); clear hS; intro w hS) | refine pA_sadd (by first | omega | (simp only [go_sem]; omega)) ?_ | (refine pA_neq_ss ?_ ?_ <;> intro hc <;> try (exfalso; first | omega | exact hc rfl | exact hc (by assumption) | exact absurd hc (by assumption))) | refine pIf_t ?_ | refine pL_ra hS (by rfl) ?_ | (refine pN_sa hS (by rfl) (by rfl) (by rfl) ?_; clear hS; intro w hS; try dsimp only at hS) | (refine pDr_go hS ?_; clear hS; intro w hS) | refine ⟨trivial, ?_⟩ | refine pN_via (by (intro K; simp (disch := omega) only [go_sem, pN_min, pN_max, w_u32, w_u64, Option.isNone_some, Option.isNone_none]; (try simp only [wrap_u32, wrap_u64]); rfl)) ?_ | fail)
    exact hno (by decide) _ hS.to
  have g2 := g2 ht
  have g3 := g3 ht
  rw [hts] at ht
  clear g1
  by_cases hm : A.mayR (l.take 512) = true
  rotate_left 1
  · have he := g2 fun h => hm (hoi.1 h).1
    rw [he] at hno
    have hm : A.mayR (l.take 512) = false := by cases hb : A.mayR (l.take 512) <;> simp_all
    clear g2 g3 hLi hoi hmi
    simp only [hm, Bool.false_eq_true, if_false] at hPa
    generalize l.take 512 = h at *
    repeat' (first | refine pA_ssl2 148 156 rfl rfl (by omega) (by omega) ?_ | (refine pc_pithref33_sum (sum_ok' hh ?_)) | (refine pc_pithref33_octal (octal_ok' _ 6 (by omega) (by omega) (by omega) hS ?_); clear hS; intro w hS) | (refine pc_pithref33_parsed (hPa hS ?_); clear hS; intro w hS) | refine pA_sadd (by first | omega | (simp only [go_sem]; omega)) ?_ | (refine pA_neq_ss ?_ ?_ <;> intro hc <;> try (exfalso; first | omega | exact hc rfl | exact hc (by assumption) | exact absurd hc (by assumption))) | refine pIf_t ?_ | refine pIf_f ?_ | refine pL_ra hS (by rfl) ?_ | (refine pN_sa hS (by rfl) (by rfl) (by rfl) ?_; clear hS; intro w hS; try dsimp only at hS) | (refine pDr_go hS ?_; clear hS; intro w hS) | (refine pN_nz hS ?_; clear hS; intro a w hS) | refine ⟨trivial, ?_⟩ | refine pN_via (by (intro K; simp (disch := omega) only [go_sem, pN_min, pN_max, w_u32, w_u64, Option.isNone_some, Option.isNone_none]; (try simp only [wrap_u32, wrap_u64]); rfl)) ?_ | fail)
    exact hno (by decide) _ hS.to
  obtain ⟨m1, m2, m3⟩ := hmi.1 hm
  have hLi := fun {K : Value → World → Prop} {w : World} {L : List HA} (hS : Sat E w L) => hLi (K := K) m3 m1 hS
  simp only [hm, if_true] at hPa
  by_cases hk : A.likeR (l.take 512) (A.itemR (l.take 512)) (A.sizeR (l.take 512))
  rotate_left 1
  · have he := g2 fun h => hk (hoi.1 h).2
    rw [he] at hno
    rw [decide_eq_false hk] at hLi
    clear g2 g3 hoi hmi
    have hcn : (A.itemR (l.take 512)).enc.all (·.oneCell') = true := List.all_eq_true.2 fun u hu => cd_api_Item.one _ u hu
    have hln : (A.itemR (l.take 512)).enc.length = 6 := cd_api_Item.len _
    generalize (A.itemR (l.take 512)).enc = ie at *
    generalize l.take 512 = h at *
    repeat' (first | refine pA_ssl2 148 156 rfl rfl (by omega) (by omega) ?_ | (refine pc_pithref33_sum (sum_ok' hh ?_)) | (refine pc_pithref33_octal (octal_ok' _ 6 (by omega) (by omega) (by omega) hS ?_); clear hS; intro w hS) | (refine pc_pithref33_parsed (hPa hS ?_); clear hS; intro w hS) | (refine pc_pithref33_like (hLi hS ?_); clear hS; intro w hS) | (refine pN_sa (us := ie) hS hln.symm (by exact hln) hcn ?_; clear hS; intro w hS) | refine pN_la hS (by exact hln.symm) ?_ | refine pA_sadd (by first | omega | (simp only [go_sem]; omega)) ?_ | (refine pA_neq_ss ?_ ?_ <;> intro hc <;> try (exfalso; first | omega | exact hc rfl | exact hc (by assumption) | exact absurd hc (by assumption))) | refine pIf_t ?_ | refine pIf_f ?_ | refine pL_ra hS (by rfl) ?_ | (refine pN_sa hS (by rfl) (by rfl) (by rfl) ?_; clear hS; intro w hS; try dsimp only at hS) | (refine pDr_go hS ?_; clear hS; intro w hS) | (refine pN_nz hS ?_; clear hS; intro a w hS) | refine ⟨trivial, ?_⟩ | refine pN_via (by (intro K; simp (disch := omega) only [go_sem, pN_min, pN_max, w_u32, w_u64, Option.isNone_some, Option.isNone_none]; (try simp only [wrap_u32, wrap_u64]); rfl)) ?_ | fail)
    exact hno (by decide) _ hS.to
  obtain ⟨e, he⟩ := g3 (hoi.2 ⟨hm, hk⟩)
  rw [decide_eq_true hk] at hLi
  have hX : ∀ s, A.getX l s = { A.itemR (l.take 512) with Data := (s, A.getL l) } := fun s => by rw [A.getX, ← e]
  have hN : A.getN l = 512 + (A.sizeR (l.take 512)).toNat + A.padn (A.sizeR (l.take 512)).toNat := by rw [A.getN, ← e]
  have hL : A.getL l = (l.drop 512).take (512 + (A.sizeR (l.take 512)).toNat - 512) := by rw [A.getL, ← e]
  clear g2 g3 hoi hmi e
  generalize A.itemR (l.take 512) = it at *
  generalize A.sizeR (l.take 512) = sz at *
  generalize l.take 512 = h at *
  obtain ⟨nn, rfl⟩ : ∃ nn : Nat, sz = nn := ⟨sz.toNat, by omega⟩
  rw [Int.toNat_natCast] at *
  obtain ⟨nm, lk, kd, md, tm, dt⟩ := it
  obtain rfl : dt = (⟨none, 0⟩, []) := hid
  dsimp only [T_api_Item.enc] at *
  have hpl := A.padn_lt nn
  rw [hN] at hok
  simp only [hX, T_api_Item.enc] at hok
  clear hX hN
  have hgap := fun {K : Value → World → Prop} {w : World} => gap_ok (Q := K) (w := w) nn (by omega)
  generalize A.padn nn = pn at *
  repeat' (first | refine pA_ssl2 148 156 rfl rfl (by omega) (by omega) ?_ | (refine pc_pithref33_sum (sum_ok' hh ?_)) | (refine pc_pithref33_octal (octal_ok' _ 6 (by omega) (by omega) (by omega) hS ?_); clear hS; intro w hS) | (refine pc_pithref33_parsed (hPa hS ?_); clear hS; intro w hS) | (refine pc_pithref33_like (hLi hS ?_); clear hS; intro w hS) | refine pA_sadd (by first | omega | (simp only [go_sem]; omega)) ?_ | (refine pA_neq_ss ?_ ?_ <;> intro hc <;> try (exfalso; first | omega | exact hc rfl | exact hc (by assumption) | exact absurd hc (by assumption))) | refine pIf_f ?_ | refine pN_la hS (by rfl) ?_ | (refine pN_sa hS (by rfl) (by rfl) (by rfl) ?_; clear hS; intro w hS; try dsimp only at hS) | (refine pDr_go hS ?_; clear hS; intro w hS) | (refine pN_nz hS ?_; clear hS; intro a w hS) | refine ⟨trivial, ?_⟩ | refine pN_via (by (intro K; simp (disch := omega) only [go_sem, pN_min, pN_max, w_u32, w_u64, Option.isNone_some, Option.isNone_none]; (try simp only [wrap_u32, wrap_u64]); rfl)) ?_ | fail)
  clear hPa hLi hts ht hk m2 m3 g3 g2 hm
  by_cases htr : l.length < 512 + nn + pn
  · rw [if_pos htr] at he
    rw [he] at hno
    repeat' (first | (refine pc_pithref33_gap (hgap ?_)) | (refine pN_lss_s ?_ ?_ <;> intro hc <;> try (exfalso; omega)) | refine pIf_t ?_ | refine pL_ra hS (by rfl) ?_ | (refine pN_sa hS (by rfl) (by rfl) (by rfl) ?_; clear hS; intro w hS; try dsimp only at hS) | refine pN_via (by (intro K; simp (disch := omega) only [go_sem, pN_min, pN_max, w_u32, w_u64, Option.isNone_some, Option.isNone_none]; (try simp only [wrap_u32, wrap_u64]); rfl)) ?_ | fail)
    exact hno (by decide) _ hS.to
  rw [if_neg htr] at he
  have htl := A.len_seg (l := l) (a := 512 + nn) (c := pn) (by omega)
  have hzr : (List.replicate pn (0 : UInt8)).length = pn := List.length_replicate
  by_cases hz : A.Zs ((l.drop (512 + nn)).take (512 + nn + pn - (512 + nn)))
  · rw [if_pos hz] at he
    have hzz := A.zs_rep hz
    rw [htl] at hzz
    repeat' (first | (refine pc_pithref33_gap (hgap ?_)) | (refine pA_sl2w (C := cd_uint8) (s := s) (l := l) hS (512 + nn) (512 + nn + pn) (by omega) (by omega) rfl (by omega) (by omega) ?_; intro hp1) | refine pL_st hS (by rw [htl]; omega) ?_ | (refine pc_pithref33_zeros (zeros_ok _ (by omega) hS ?_); clear hS; intro w hS) | (refine pN_lss_s ?_ ?_ <;> intro hc <;> try (exfalso; omega)) | (refine pA_neq_ss ?_ ?_ <;> intro hc <;> try (exfalso; first | omega | exact hc rfl | exact hc (by assumption) | exact absurd hc (by assumption))) | refine pIf_f ?_ | refine pL_l hS (by first | rfl | assumption) ?_ | (refine pDr_go hS ?_; clear hS; intro w hS) | refine ⟨⟨(by first | exact run_l hS (by first | rfl | assumption) | exact run_st hS (by first | rfl | omega) | exact run_ld1 ha hS | exact fun _ => run_l hS (by rfl) | exact fun _ => run_st hS (by first | rfl | omega) | exact fun _ => run_ld1 ha hS | exact fun h => Bool.noConfusion h), trivial⟩, ?_⟩ | refine pN_via (by (intro K; simp (disch := omega) only [go_sem, pN_min, pN_max, w_u32, w_u64, Option.isNone_some, Option.isNone_none]; (try simp only [wrap_u32, wrap_u64]); rfl)) ?_ | refine pA_via (by (intro K; simp (disch := omega) only [go_sem, pN_min, pN_max, w_u32, w_u64, Option.isNone_some, Option.isNone_none]; (try simp only [wrap_u32, wrap_u64]); rfl)) ?_ | fail)
    refine pA_sl2w (C := cd_uint8) (s := s) (l := l) hS 512 (512 + nn) rfl (by omega) rfl (by omega) (by omega) ?_
    intro hp2
    have hgl : 512 + nn - 512 = (A.getL l).length := by rw [hL, List.length_take, List.length_drop]; omega
    rw [← hL] at hp2
    rw [hgl]
    have hdb : (A.getL l).length ≤ 140737488355328 := by omega
    clear hL hp1 hz hzz hc
    generalize A.getL l = dl at *
    refine pN_app0 (C := cd_uint8) hS rfl (by omega) ?_
    clear hS
    intro s4 w hS
    have e : ((512 + nn + pn : Nat) : Int) = 512 + (nn : Int) + pn := by omega
    rw [e] at hok
    repeat' (first | refine pN_la hS (by rfl) ?_ | refine pL_ra hS (by rfl) ?_ | (refine pN_s hS (by first | exact Nat.le_of_ble_eq_true rfl | assumption) (by rfl) ?_; clear hS; intro w hS; try simp only [List.set_cons_zero, List.set_cons_succ] at hS) | (refine pN_sa hS (by rfl) (by rfl) (by rfl) ?_; clear hS; intro w hS; try dsimp only at hS) | refine ⟨trivial, ?_⟩ | refine pA_via (by (intro K; simp (disch := omega) only [go_sem, pN_min, pN_max, w_u32, w_u64, Option.isNone_some, Option.isNone_none]; (try simp only [wrap_u32, wrap_u64]); rfl)) ?_ | fail)
    exact hok he s4 _ hS.to
  · rw [if_neg hz] at he
    rw [he] at hno
    have hzz : ¬ (l.drop (512 + nn)).take (512 + nn + pn - (512 + nn)) = List.replicate pn 0 := fun e => hz (by rw [e]; exact A.rep_zs _)
    repeat' (first | (refine pc_pithref33_gap (hgap ?_)) | (refine pA_sl2w (C := cd_uint8) (s := s) (l := l) hS (512 + nn) (512 + nn + pn) (by omega) (by omega) rfl (by omega) (by omega) ?_; intro hp1) | refine pL_st hS (by rw [htl]; omega) ?_ | (refine pc_pithref33_zeros (zeros_ok _ (by omega) hS ?_); clear hS; intro w hS) | (refine pN_lss_s ?_ ?_ <;> intro hc <;> try (exfalso; omega)) | (refine pA_neq_ss ?_ ?_ <;> intro hc <;> try (exfalso; first | omega | exact hc rfl | exact hc (by assumption) | exact absurd hc (by assumption))) | refine pIf_t ?_ | refine pIf_f ?_ | refine pL_ra hS (by rfl) ?_ | (refine pN_sa hS (by rfl) (by rfl) (by rfl) ?_; clear hS; intro w hS; try dsimp only at hS) | (refine pDr_go hS ?_; clear hS; intro w hS) | refine ⟨⟨(by first | exact run_l hS (by first | rfl | assumption) | exact run_st hS (by first | rfl | omega) | exact run_ld1 ha hS | exact fun _ => run_l hS (by rfl) | exact fun _ => run_st hS (by first | rfl | omega) | exact fun _ => run_ld1 ha hS | exact fun h => Bool.noConfusion h), trivial⟩, ?_⟩ | refine pN_via (by (intro K; simp (disch := omega) only [go_sem, pN_min, pN_max, w_u32, w_u64, Option.isNone_some, Option.isNone_none]; (try simp only [wrap_u32, wrap_u64]); rfl)) ?_ | refine pA_via (by (intro K; simp (disch := omega) only [go_sem, pN_min, pN_max, w_u32, w_u64, Option.isNone_some, Option.isNone_none]; (try simp only [wrap_u32, wrap_u64]); rfl)) ?_ | fail)
    exact hno (by decide) _ hS.to
end
end Go.Proofs.YteeepkimnpabiaaDoor

namespace Go.Proofs.YteeepkimnpabiaaDoor
open Go
set_option linter.unusedSimpArgs false
set_option linter.unnecessarySimpa false
set_option linter.unusedSectionVars false
set_option linter.unusedVariables false

namespace A
theorem zs_split {l : List UInt8} (h : Zs (l.take 512)) : Zs l ↔ Zs (l.drop 512) := by
  constructor
  · exact fun hz b hb => hz b (List.mem_of_mem_drop hb)
  · intro hz b hb
    rw [← List.take_append_drop 512 l] at hb
    rcases List.mem_append.1 hb with hb | hb
    · exact h b hb
    · exact hz b hb
theorem zs_str {l : List UInt8} {n : Nat} (h : l.length = n) : Zs l ↔ l = List.replicate n 0 := ⟨fun hz => by rw [← h]; exact zs_rep hz, fun e => by rw [e]; exact rep_zs n⟩
end A

attribute [local irreducible] oMv oV oU oCall oCallV oBi oBin oUn oLoad oStore oNil oFld oField oIdx oIndex oPick oAlloc oBox oBuild oBs oConv oMk oSl oExt oFn oIface oMap oLook oMapUp oRange oNext oAssert oPanic oRes pN pA pL pDr pIf gA pGd Calls A.made A.header A.oct A.wrong A.padn A.putB A.fS A.num A.text A.sumTo A.sumOf A.getE A.getX A.getL A.getN A.readTo
section
variable [Pan] {E w : World} {K Q : Value → World → Prop} {L M : List HA} {l r : List UInt8} {s s2 sl sl2 : Sl} {its ots : List T_api_Item}

set_option maxHeartbeats 8000000 in
set_option maxRecDepth 4000 in
theorem Items_ok' (hS : Sat E w M) [hr : Rds cd_uint8 M s l] (hl : l.length ≤ 140737488355328)
    (hQ : ∀ (sl : Sl) (its : List T_api_Item) w, its.map A.plain = (A.arch l).1.map A.item → Sat E w (rows cd_api_Item sl its :: bag (datas its) :: M) → Q (.tuple #[.slice sl.a its.length sl.c, .int .i64 (A.arch l).2]) w) :
    Calls Tryd.prog 22 #[.slice s.a l.length s.c] w (retP Q) := by
  have hbd := A.arch_len l
  obtain ⟨al, ae, hal⟩ : ∃ al ae, A.arch l = (al, ae) := ⟨_, _, rfl⟩
  have hal1 : al = (A.arch l).1 := by rw [hal]
  have hal2 : ae = (A.arch l).2 := by rw [hal]
  rw [hal] at hQ hbd
  dsimp only at hQ hbd
  refine pithref33_Items.calls ?_
  unfold pithref33_Items.F
  refine ⟨fun b o w => ∃ (s1 : Sl) (m : List UInt8) (pre : List (List UInt8)) (sl : Sl) (its : List T_api_Item), b = .slice s1.a m.length s1.c ∧ o = .slice sl.a its.length sl.c ∧ (∀ L, Rds cd_uint8 L s l → Rds cd_uint8 L s1 m) ∧ m.length ≤ 140737488355328 ∧ its.map A.plain = pre.map A.item ∧ al = pre ++ (A.arch m).1 ∧ ae = (A.arch m).2 ∧ Sat E w (rows cd_api_Item sl its :: bag (datas its) :: M),
    fun b _ _ => slN b, ⟨s, l, [], ⟨none, 0⟩, [], rfl, rfl, fun _ h => h, hl, rfl, hal1, hal2, by
      have h1 : Sat E w (rows cd_api_Item ⟨none, 0⟩ [] :: bag (datas []) :: M) := hS.bag_nil.nil cd_api_Item.e cd_api_Item.size
      exact h1⟩, ?_⟩
  clear hS hal hal1 hal2
  rintro _ _ _ w ⟨s1, m, pre, sl, its, rfl, rfl, hp, hm, hits, ha, he, hS⟩
  haveI hr1 : Rds cd_uint8 M s1 m := hp M hr
  by_cases h5 : m.length < 512
  · have hg : ¬ A.goes m := fun h => by have := h.1; omega
    have h1 : A.endE m = 1 := by rw [A.endE, if_pos (by omega)]
    rw [A.arch_no hg] at ha he
    have he : ae = A.endE m := he
    rw [h1] at he
    rw [List.append_nil] at ha
    subst he ha
    repeat' (first | (refine pN_lss_s ?_ ?_ <;> intro hc <;> try (exfalso; omega)) | refine pIf_t ?_ | refine pN_via (by (intro K; simp (disch := omega) only [go_sem, pN_min, pN_max, w_u32, w_u64, Option.isNone_some, Option.isNone_none]; (try simp only [wrap_u32, wrap_u64]); rfl)) ?_ | fail)
    exact hQ _ _ _ hits hS.to
  have hlt : (m.take 512).length = 512 := by rw [List.length_take]; omega
  have hzr : (List.replicate 512 (0 : UInt8)).length = 512 := List.length_replicate
  have hzs := A.zs_str hlt
  by_cases hz : A.Zs (m.take 512)
  · have hg : ¬ A.goes m := fun h => h.2 hz
    rw [A.arch_no hg] at ha he
    have he : ae = A.endE m := he
    rw [List.append_nil] at ha
    subst ha
    have hze := hzs.1 hz
    by_cases h10 : m.length < 1024
    · have h1 : A.endE m = 1 := by rw [A.endE, if_pos h10]
      rw [h1] at he
      subst he
      repeat' (first | refine pA_slhw (C := cd_uint8) (s := s1) (l := m) hS 512 rfl rfl (by omega) ?_ | (refine pN_lss_s ?_ ?_ <;> intro hc <;> try (exfalso; omega)) | refine pIf_f ?_ | (refine pDr_go hS ?_; clear hS; intro w hS) | refine pN_via (by (intro K; simp (disch := omega) only [go_sem, pN_min, pN_max, w_u32, w_u64, Option.isNone_some, Option.isNone_none]; (try simp only [wrap_u32, wrap_u64]); rfl)) ?_ | fail)
      intro hp5
      repeat' (first | refine pL_st hS hlt.symm ?_ | (refine pc_pithref33_zeros (zeros_ok 512 (by omega) hS ?_); clear hS; intro w hS) | (refine pN_lss_s ?_ ?_ <;> intro hc <;> try (exfalso; omega)) | (refine pA_eql_ss ?_ ?_ <;> intro hc <;> try (exfalso; first | omega | exact hc rfl | exact hc (by assumption) | exact absurd hc (by assumption))) | refine pIf_t ?_ | refine ⟨⟨(by first | exact run_l hS (by first | rfl | assumption) | exact run_st hS (by first | rfl | omega) | exact run_ld1 ha hS | exact fun _ => run_l hS (by rfl) | exact fun _ => run_st hS (by first | rfl | omega) | exact fun _ => run_ld1 ha hS | exact fun h => Bool.noConfusion h), trivial⟩, ?_⟩ | refine pN_via (by (intro K; simp (disch := omega) only [go_sem, pN_min, pN_max, w_u32, w_u64, Option.isNone_some, Option.isNone_none]; (try simp only [wrap_u32, wrap_u64]); rfl)) ?_ | fail)
      exact hQ _ _ _ hits hS.to
    have hdl : (m.drop 512).length = m.length - 512 := List.length_drop
    have hsp := A.zs_split hz
    have key : A.endE m = if m.drop 512 = List.replicate 512 0 then 0 else 2 := by
      rw [A.endE, if_neg h10]
      by_cases hq : m.drop 512 = List.replicate 512 0
      · have hl0 := congrArg List.length hq
        rw [hdl, List.length_replicate] at hl0
        rw [if_pos hq, if_neg]
        rintro (h | h)
        · omega
        · exact h (hsp.2 (by rw [hq]; exact A.rep_zs _))
      · rw [if_neg hq, if_pos]
        by_cases h11 : 1024 < m.length
        · exact .inl h11
        · refine .inr fun h => hq ?_
          exact (A.zs_str (by omega)).1 (hsp.1 h)
    rw [key] at he
    have hsl : m.length - 512 = (m.drop 512).length := hdl.symm
    by_cases hq : m.drop 512 = List.replicate 512 0
    · rw [if_pos hq] at he
      subst he
      repeat' (first | refine pA_slhw (C := cd_uint8) (s := s1) (l := m) hS 512 rfl rfl (by omega) ?_ | (refine pN_lss_s ?_ ?_ <;> intro hc <;> try (exfalso; omega)) | refine pIf_f ?_ | (refine pDr_go hS ?_; clear hS; intro w hS) | refine pN_via (by (intro K; simp (disch := omega) only [go_sem, pN_min, pN_max, w_u32, w_u64, Option.isNone_some, Option.isNone_none]; (try simp only [wrap_u32, wrap_u64]); rfl)) ?_ | fail)
      intro hp5
      repeat' (first | refine pL_st hS hlt.symm ?_ | (refine pc_pithref33_zeros (zeros_ok 512 (by omega) hS ?_); clear hS; intro w hS) | (refine pA_sl1w (C := cd_uint8) (s := s1) (l := m) hS 512 rfl rfl (by omega) ?_; intro hp6) | refine pL_st hS hsl ?_ | (refine pN_lss_s ?_ ?_ <;> intro hc <;> try (exfalso; omega)) | ((first | refine pA_eql_ss ?_ ?_ | refine pA_neq_ss ?_ ?_) <;> intro hc <;> try (exfalso; first | omega | exact hc rfl | exact hc (by assumption) | exact absurd hc (by assumption))) | refine pIf_t ?_ | refine pIf_f ?_ | (refine pDr_go hS ?_; clear hS; intro w hS) | refine ⟨⟨(by first | exact run_l hS (by first | rfl | assumption) | exact run_st hS (by first | rfl | omega) | exact run_ld1 ha hS | exact fun _ => run_l hS (by rfl) | exact fun _ => run_st hS (by first | rfl | omega) | exact fun _ => run_ld1 ha hS | exact fun h => Bool.noConfusion h), trivial⟩, ?_⟩ | refine pN_via (by (intro K; simp (disch := omega) only [go_sem, pN_min, pN_max, w_u32, w_u64, Option.isNone_some, Option.isNone_none]; (try simp only [wrap_u32, wrap_u64]); rfl)) ?_ | fail)
      exact hQ _ _ _ hits hS.to
    · rw [if_neg hq] at he
      subst he
      repeat' (first | refine pA_slhw (C := cd_uint8) (s := s1) (l := m) hS 512 rfl rfl (by omega) ?_ | (refine pN_lss_s ?_ ?_ <;> intro hc <;> try (exfalso; omega)) | refine pIf_f ?_ | (refine pDr_go hS ?_; clear hS; intro w hS) | refine pN_via (by (intro K; simp (disch := omega) only [go_sem, pN_min, pN_max, w_u32, w_u64, Option.isNone_some, Option.isNone_none]; (try simp only [wrap_u32, wrap_u64]); rfl)) ?_ | fail)
      intro hp5
      repeat' (first | refine pL_st hS hlt.symm ?_ | (refine pc_pithref33_zeros (zeros_ok 512 (by omega) hS ?_); clear hS; intro w hS) | (refine pA_sl1w (C := cd_uint8) (s := s1) (l := m) hS 512 rfl rfl (by omega) ?_; intro hp6) | refine pL_st hS hsl ?_ | (refine pN_lss_s ?_ ?_ <;> intro hc <;> try (exfalso; omega)) | ((first | refine pA_eql_ss ?_ ?_ | refine pA_neq_ss ?_ ?_) <;> intro hc <;> try (exfalso; first | omega | exact hc rfl | exact hc (by assumption) | exact absurd hc (by assumption))) | refine pIf_t ?_ | refine pIf_f ?_ | (refine pDr_go hS ?_; clear hS; intro w hS) | refine ⟨⟨(by first | exact run_l hS (by first | rfl | assumption) | exact run_st hS (by first | rfl | omega) | exact run_ld1 ha hS | exact fun _ => run_l hS (by rfl) | exact fun _ => run_st hS (by first | rfl | omega) | exact fun _ => run_ld1 ha hS | exact fun h => Bool.noConfusion h), trivial⟩, ?_⟩ | refine pN_via (by (intro K; simp (disch := omega) only [go_sem, pN_min, pN_max, w_u32, w_u64, Option.isNone_some, Option.isNone_none]; (try simp only [wrap_u32, wrap_u64]); rfl)) ?_ | fail)
      exact hQ _ _ _ hits hS.to
  · have hg : A.goes m := ⟨by omega, hz⟩
    have hze : ¬ m.take 512 = List.replicate 512 0 := fun e => hz (hzs.2 e)
    repeat' (first | refine pA_slhw (C := cd_uint8) (s := s1) (l := m) hS 512 rfl rfl (by omega) ?_ | (refine pN_lss_s ?_ ?_ <;> intro hc <;> try (exfalso; omega)) | refine pIf_f ?_ | (refine pDr_go hS ?_; clear hS; intro w hS) | refine pN_via (by (intro K; simp (disch := omega) only [go_sem, pN_min, pN_max, w_u32, w_u64, Option.isNone_some, Option.isNone_none]; (try simp only [wrap_u32, wrap_u64]); rfl)) ?_ | fail)
    intro hp5
    repeat' (first | refine pL_st hS hlt.symm ?_ | (refine pc_pithref33_zeros (zeros_ok 512 (by omega) hS ?_); clear hS; intro w hS) | (refine pA_eql_ss ?_ ?_ <;> intro hc <;> try (exfalso; first | omega | exact hc rfl | exact hc (by assumption) | exact absurd hc (by assumption))) | refine pIf_f ?_ | refine ⟨⟨(by first | exact run_l hS (by first | rfl | assumption) | exact run_st hS (by first | rfl | omega) | exact run_ld1 ha hS | exact fun _ => run_l hS (by rfl) | exact fun _ => run_st hS (by first | rfl | omega) | exact fun _ => run_ld1 ha hS | exact fun h => Bool.noConfusion h), trivial⟩, ?_⟩ | fail)
    refine pc_pithref33_Get (Get_ok' (s := s1) (l := m) hS hm (fun hne w hS => ?_) fun h0 s3 w hS => ?_)
    · rw [A.arch_err hg hne] at ha he
      have he : ae = A.getE m := he
      rw [List.append_nil] at ha
      rw [← he] at hne ⊢
      subst ha
      clear he
      repeat' (first | (refine pN_neq_s ?_ ?_ <;> intro hc <;> try (exfalso; first | omega | exact hc rfl | exact hc (by assumption) | exact absurd hc (by assumption))) | refine pIf_t ?_ | (refine pN_sa hS (by rfl) (by rfl) (by rfl) ?_; clear hS; intro w hS; try dsimp only at hS) | (refine pN_nz hS ?_; clear hS; intro a w hS) | refine pN_via (by (intro K; simp (disch := omega) only [go_sem, pN_min, pN_max, w_u32, w_u64, Option.isNone_some, Option.isNone_none]; (try simp only [wrap_u32, wrap_u64]); rfl)) ?_ | fail)
      exact hQ _ _ _ hits hS.to
    · rw [A.arch_go hg h0] at ha he
      have he : ae = (A.arch (m.drop (A.getN m))).2 := he
      obtain ⟨_, hn1, hn2⟩ := A.getN_le h0
      have hil : its.length = pre.length := by
        have := congrArg List.length hits
        rwa [List.length_map, List.length_map] at this
      have hb80 : (its.length + 1) * 80 ≤ 140737488355328 := by
        have : its.length + 1 ≤ al.length := by rw [hil, ha, List.length_append, List.length_cons]; omega
        exact Nat.le_trans (Nat.mul_le_mul_left _ (by decide : 80 ≤ 512)) (Nat.le_trans (Nat.mul_le_mul_right _ this) (Nat.le_trans hbd hl))
      have hcn : (A.getX m s3).enc.all (·.oneCell') = true := List.all_eq_true.2 fun u hu => cd_api_Item.one _ u hu
      have hln : (A.getX m s3).enc.length = 6 := cd_api_Item.len _
      have hxe : cd_api_Item.enc (A.getX m s3) = (A.getX m s3).enc := rfl
      generalize (A.getX m s3).enc = xe at *
      repeat' (first | (refine pN_sa (us := xe) hS hln.symm (by exact hln) hcn ?_; clear hS; intro w hS) | refine pN_la hS (by exact hln.symm) ?_ | (refine pN_neq_s ?_ ?_ <;> intro hc <;> try (exfalso; first | omega | exact hc rfl | exact hc (by assumption) | exact absurd hc (by assumption))) | refine pIf_f ?_ | (refine pN_nz hS ?_; clear hS; intro a w hS) | refine pN_via (by (intro K; simp (disch := omega) only [go_sem, pN_min, pN_max, w_u32, w_u64, Option.isNone_some, Option.isNone_none]; (try simp only [wrap_u32, wrap_u64]); rfl)) ?_ | fail)
      refine pN_b1 (x := A.getX m s3) hS (by rw [hxe]; rfl) (by decide) ?_
      clear hS
      intro s5 w hS
      refine pN_app (C := cd_api_Item) (s := sl) (l := its) (s2 := s5) (m := [A.getX m s3]) hS rfl rfl hb80 ?_
      clear hS
      intro s6 w hS
      haveI hr2 : Rds cd_uint8 (rows cd_api_Item s6 (its ++ [A.getX m s3]) :: rows cd_api_Item s5 [A.getX m s3] :: bag (datas its) :: M) s1 m := inferInstance
      refine pN_sl1w (C := cd_uint8) (s := s1) (l := m) hS (A.getN m) rfl rfl hn1 ?_
      intro _
      have e : m.length - A.getN m = (m.drop (A.getN m)).length := by rw [List.length_drop]
      have hlt2 : m.length - A.getN m < m.length := by omega
      rw [e]
      refine ⟨⟨s1.sub (A.getN m) cd_uint8.size, m.drop (A.getN m), pre ++ [m], s6, its ++ [A.getX m s3], rfl, rfl, fun L h => ?_, by omega, ?_, ha.trans (by rw [List.append_assoc]; rfl), he, ?_⟩, by show (m.drop (A.getN m)).length < m.length; omega⟩
      · haveI := hp L h
        have := Rds.sub (C := cd_uint8) (L := L) (s := s1) (l := m) (A.getN m) m.length hn1 (Nat.le_refl _)
        rwa [List.take_of_length_le (by simp)] at this
      · rw [List.map_append, List.map_append, hits]
        simp only [List.map_cons, List.map_nil, A.plain_getX]
      · have e : datas (its ++ [A.getX m s3]) = datas its ++ [rows cd_uint8 s3 (A.getL m)] := by
          simp only [datas, List.map_append, List.map_cons, List.map_nil, A.getX_data]
        rw [e]
        have h1 := (hS.fd2 (rows cd_uint8 s3) bag).bag_snoc
        exact h1.to

theorem Read_ok' (hS : Sat E w M) [hr : Rds cd_uint8 M s l] (hl : l.length ≤ 140737488355328)
    (hno : (A.arch l).2 ≠ 0 → ∀ w, Sat E w M → Q (.tuple #[.slice none 0 0, .int .i64 (A.arch l).2]) w)
    (hok : (A.arch l).2 = 0 → ∀ (sl : Sl) (its : List T_api_Item) w, its.map A.plain = (A.arch l).1.map A.item → Sat E w (rows cd_api_Item sl its :: bag (datas its) :: M) → Q (.tuple #[.slice sl.a its.length sl.c, .int .i64 0]) w) :
    Calls Tryd.prog 20 #[.slice s.a l.length s.c] w (retP Q) := by
  refine pithref33_Read.calls ?_
  unfold pithref33_Read.F
  refine pc_pithref33_Items (Items_ok' hS hl fun sl its w hits hS => ?_)
  generalize (A.arch l).2 = ae at *
  by_cases h0 : ae = 0
  · subst h0
    repeat' (first | (refine pN_neq_s ?_ ?_ <;> intro hc <;> try (exfalso; first | omega | exact hc rfl | exact hc (by assumption) | exact absurd hc (by assumption))) | refine pIf_f ?_ | refine pN_via (by (intro K; simp (disch := omega) only [go_sem, pN_min, pN_max, w_u32, w_u64, Option.isNone_some, Option.isNone_none]; (try simp only [wrap_u32, wrap_u64]); rfl)) ?_ | fail)
    exact hok rfl _ _ _ hits hS
  · repeat' (first | (refine pN_neq_s ?_ ?_ <;> intro hc <;> try (exfalso; first | omega | exact hc rfl | exact hc (by assumption) | exact absurd hc (by assumption))) | refine pIf_t ?_ | refine pN_via (by (intro K; simp (disch := omega) only [go_sem, pN_min, pN_max, w_u32, w_u64, Option.isNone_some, Option.isNone_none]; (try simp only [wrap_u32, wrap_u64]); rfl)) ?_ | fail)
    exact hno h0 _ hS.to
end
end Go.Proofs.YteeepkimnpabiaaDoor

namespace Go.Proofs.YteeepkimnpabiaaDoor
open Go
set_option linter.unusedSimpArgs false
set_option linter.unnecessarySimpa false
set_option linter.unusedSectionVars false
set_option linter.unusedVariables false

/-- An item handed in: its own, and where its data lie, a mark behind them. -/
abbrev Pr := T_api_Item × Sl
def yOf (p : Pr) : T_api_Item := { p.1 with Data := (p.2.sub 0 cd_uint8.size, p.1.Data.2) }
def fOf (p : Pr) : Sl × List UInt8 := (p.2, p.1.Data.2 ++ [45])
def mine : T_api_Item := ⟨[109, 105, 110, 101], [], 0, 0, 0, (⟨none, 0⟩, [])⟩
def pBag (ps : List Pr) : HA := bag (ps.map fun p => rows cd_uint8 p.2 (p.1.Data.2 ++ [45]))
def roomC (rm : Nat) (sL : Sl) (n : Nat) (sF : Sl) (m : Nat) : HA := cel rm ⟨75, [.slice sL.a n sL.c, .slice sF.a m sF.c]⟩
theorem plain_yOf (p : Pr) : A.plain (yOf p) = A.plain p.1 := by
  obtain ⟨⟨a, b, c, d, e, f⟩, s⟩ := p
  rfl
theorem run_bM (w : World) : (oBuild 24 [(0, .string ⟨#[109, 105, 110, 101]⟩)]).run Tryd.prog w = .ok (.value (.agg #[.string ⟨#[109, 105, 110, 101]⟩, .string ⟨#[]⟩, .int .i64 0, .int .i64 0, .int .i64 0, .slice none 0 0])) w := by kernel_rfl
theorem pN_bM [Pan] {w : World} {K : Value → World → Prop} (hk : K (.agg mine.enc.toArray) w) : pN Tryd.prog (oBuild 24 [(0, .string ⟨#[109, 105, 110, 101]⟩)]) w K := by rw [pN_def, run_bM, rN_value]; exact hk
theorem pBag_snoc {E w : World} {ps : List Pr} {p : Pr} {L : List HA} (hS : Sat E w (rows cd_uint8 p.2 (p.1.Data.2 ++ [45]) :: pBag ps :: L)) : Sat E w (pBag (ps ++ [p]) :: L) := by
  have h := Sat.bag_snoc (M := ps.map fun p => rows cd_uint8 p.2 (p.1.Data.2 ++ [45])) hS
  unfold pBag
  rw [List.map_append]
  exact h
theorem rds_pBag {ps : List Pr} {p : Pr} (h : p ∈ ps) : RdP cd_uint8 (pBag ps) p.2 (p.1.Data.2 ++ [45]) := RdP_bag (List.mem_map.2 ⟨p, h, rfl⟩)
theorem rds_y {ps : List Pr} {p : Pr} {L : List HA} (h : p ∈ ps) [hL : Rds cd_uint8 L p.2 (p.1.Data.2 ++ [45])] : Rds cd_uint8 L (yOf p).Data.1 (yOf p).Data.2 := by
  have := Rds.sub (C := cd_uint8) (L := L) (s := p.2) (l := p.1.Data.2 ++ [45]) 0 p.1.Data.2.length (Nat.zero_le _) (by simp)
  rw [List.drop_zero, Nat.sub_zero, List.take_left' rfl] at this
  exact this

namespace A
def putP (x : T_api_Item) : List UInt8 := if wrong x = 0 then putB x else []
def wrB (its : List T_api_Item) : List UInt8 := if werr its = 0 then whole its else []
def getP (l : List UInt8) : T_api_Item := if getE l = 0 then item l else T_api_Item.zero
def getM (l : List UInt8) : Nat := if getE l = 0 then getN l else 0
def readP (l : List UInt8) : List T_api_Item := if (arch l).2 = 0 then (arch l).1.map item else []
theorem putP_plain {x y : T_api_Item} (h : plain x = plain y) : wrong x = wrong y ∧ putP x = putP y := by
  have hw : wrong x = wrong y := by rw [← wrong_plain, h, wrong_plain]
  refine ⟨hw, ?_⟩
  unfold putP
  rw [hw, ← putB_plain, h, putB_plain]
theorem werr_plain : ∀ (l : List T_api_Item), werr (l.map plain) = werr l
  | [] => rfl
  | x :: l => by rw [List.map_cons, werr, werr, wrong_plain, werr_plain l]
theorem wrB_plain {a b : List T_api_Item} (h : a.map plain = b.map plain) : werr a = werr b ∧ wrB a = wrB b := by
  have hw : werr a = werr b := by rw [← werr_plain, h, werr_plain]
  refine ⟨hw, ?_⟩
  unfold wrB whole
  rw [hw, many_plain h]
theorem plain_zero : plain T_api_Item.zero = T_api_Item.zero := rfl
end A

attribute [local irreducible] oMv oV oU oCall oCallV oBi oBin oUn oLoad oStore oNil oFld oField oIdx oIndex oPick oAlloc oBox oBuild oBs oConv oMk oSl oExt oFn oIface oMap oLook oMapUp oRange oNext oAssert oPanic oRes pN pA pL pDr pIf gA pGd Calls A.made A.header A.oct A.wrong A.padn A.putB A.fS A.num A.text A.sumTo A.sumOf A.getE A.getX A.getL A.getN A.readTo
section
variable [Pan] {E w : World} {K Q : Value → World → Prop} {L M : List HA} {l r : List UInt8} {s s2 sl sl2 : Sl} {its ots : List T_api_Item}

/-! Both ends of an answer in one. -/
theorem Put_one (x : T_api_Item) (hn : x.Name.length ≤ 140737488355328) (hk : x.Link.length ≤ 140737488355328) (hS : Sat E w M) [hr : Rds cd_uint8 M x.Data.1 x.Data.2]
    (hQ : ∀ (G : HA) s b w, RdP cd_uint8 G s b → b = A.putP x → Sat E w (G :: M) → Q (.tuple #[.slice s.a b.length s.c, .int .i64 (A.wrong x)]) w) :
    Calls Tryd.prog 8 #[.agg x.enc.toArray] w (retP Q) :=
  Put_ok x hn hk hS (fun h w hS => hQ _ ⟨none, 0⟩ [] w RdP.rows (by rw [A.putP, if_neg h]) (hS.nil cd_uint8.e cd_uint8.size)) fun h s w hS => by
    have := hQ _ s _ w RdP.rows (by rw [A.putP, if_pos h]) hS
    rwa [h] at this
theorem Put_one' (x : T_api_Item) (hn : x.Name.length ≤ 140737488355328) (hk : x.Link.length ≤ 140737488355328) (hS : Sat E w M) [hr : Rds cd_uint8 M x.Data.1 x.Data.2]
    (hQ : ∀ (G : HA) s b w, RdP cd_uint8 G s b → b = A.putP x → Sat E w (G :: M) → Q (.tuple #[.slice s.a b.length s.c, .int .i64 (A.wrong x)]) w) :
    Calls Tryd.prog 14 #[.agg x.enc.toArray] w (retP Q) :=
  Put_ok' x hn hk hS (fun h w hS => hQ _ ⟨none, 0⟩ [] w RdP.rows (by rw [A.putP, if_neg h]) (hS.nil cd_uint8.e cd_uint8.size)) fun h s w hS => by
    have := hQ _ s _ w RdP.rowM (by rw [A.putP, if_pos h]) hS
    rwa [h] at this
theorem Write_one {n : Nat} (hn : n = its.length) (hS : Sat E w M) [hr : Rds cd_api_Item M sl its] (hd : ∀ x ∈ its, Rds cd_uint8 M x.Data.1 x.Data.2) (hnm : ∀ x ∈ its, x.Name.length ≤ 140737488355328 ∧ x.Link.length ≤ 140737488355328)
    (hl : its.length ≤ 1099511627776) (hb : ∀ k, k ≤ its.length → (∀ x ∈ its.take k, A.wrong x = 0) → (A.many (its.take k)).length + 1024 ≤ 140737488355328)
    (hQ : ∀ s b w, b = A.wrB its → Sat E w (rows cd_uint8 s b :: M) → Q (.tuple #[.slice s.a b.length s.c, .int .i64 (A.werr its)]) w) :
    Calls Tryd.prog 15 #[.slice sl.a n sl.c] w (retP Q) := by
  subst hn
  exact Write_ok hS hd hnm hl hb (fun h w hS => hQ ⟨none, 0⟩ [] w (by rw [A.wrB, if_neg h]) (hS.nil cd_uint8.e cd_uint8.size)) fun h s w hS => by
    have := hQ s _ w (by rw [A.wrB, if_pos h]) hS
    rwa [h] at this
theorem Write_one' (hS : Sat E w M) [hr : Rds cd_api_Item M sl its] (hd : ∀ x ∈ its, Rds cd_uint8 M x.Data.1 x.Data.2) (hnm : ∀ x ∈ its, x.Name.length ≤ 140737488355328 ∧ x.Link.length ≤ 140737488355328)
    (hl : its.length ≤ 1099511627776) (hb : ∀ k, k ≤ its.length → (∀ x ∈ its.take k, A.wrong x = 0) → (A.many (its.take k)).length + 1024 ≤ 140737488355328)
    (hQ : ∀ s b w, b = A.wrB its → Sat E w (rows cd_uint8 s b :: M) → Q (.tuple #[.slice s.a b.length s.c, .int .i64 (A.werr its)]) w) :
    Calls Tryd.prog 16 #[.slice sl.a its.length sl.c] w (retP Q) :=
  Write_ok' hS hd hnm hl hb (fun h w hS => hQ ⟨none, 0⟩ [] w (by rw [A.wrB, if_neg h]) (hS.nil cd_uint8.e cd_uint8.size)) fun h s w hS => by
    have := hQ s _ w (by rw [A.wrB, if_pos h]) hS
    rwa [h] at this
theorem Get_one {n : Nat} (hn : n = l.length) (hS : Sat E w M) [hr : Rds cd_uint8 M s l] (hl2 : l.length ≤ 140737488355328)
    (hQ : ∀ (x : T_api_Item) w, A.plain x = A.getP l → Sat E w (rows cd_uint8 x.Data.1 x.Data.2 :: M) → Q (.tuple #[.agg x.enc.toArray, .int .i64 (A.getM l : Nat), .int .i64 (A.getE l)]) w) :
    Calls Tryd.prog 11 #[.slice s.a n s.c] w (retP Q) := by
  subst hn
  refine Get_ok hS hl2 (fun h w hS => ?_) fun h s w hS => ?_
  · have := hQ T_api_Item.zero w (by rw [A.getP, if_neg h, A.plain_zero]) (hS.nil cd_uint8.e cd_uint8.size)
    rwa [A.getM, if_neg h] at this
  · have hd : (A.getX l s).Data = (s, A.getL l) := A.getX_data l s
    have := hQ (A.getX l s) w (by rw [A.getP, if_pos h, A.plain_getX]) (by rw [hd]; exact hS)
    rwa [A.getM, if_pos h, h] at this
theorem Get_one' (hS : Sat E w M) [hr : Rds cd_uint8 M s l] (hl2 : l.length ≤ 140737488355328)
    (hQ : ∀ (x : T_api_Item) w, A.plain x = A.getP l → Sat E w (rows cd_uint8 x.Data.1 x.Data.2 :: M) → Q (.tuple #[.agg x.enc.toArray, .int .i64 (A.getM l : Nat), .int .i64 (A.getE l)]) w) :
    Calls Tryd.prog 18 #[.slice s.a l.length s.c] w (retP Q) := by
  refine Get_ok' hS hl2 (fun h w hS => ?_) fun h s w hS => ?_
  · have := hQ T_api_Item.zero w (by rw [A.getP, if_neg h, A.plain_zero]) (hS.nil cd_uint8.e cd_uint8.size)
    rwa [A.getM, if_neg h] at this
  · have hd : (A.getX l s).Data = (s, A.getL l) := A.getX_data l s
    have := hQ (A.getX l s) w (by rw [A.getP, if_pos h, A.plain_getX]) (by rw [hd]; exact hS)
    rwa [A.getM, if_pos h, h] at this
theorem Read_one {n : Nat} (hn : n = l.length) (hS : Sat E w M) [hr : Rds cd_uint8 M s l] (hl : l.length ≤ 140737488355328)
    (hQ : ∀ (sl : Sl) (its : List T_api_Item) w, its.map A.plain = A.readP l → Sat E w (rows cd_api_Item sl its :: bag (datas its) :: M) → Q (.tuple #[.slice sl.a its.length sl.c, .int .i64 (A.arch l).2]) w) :
    Calls Tryd.prog 19 #[.slice s.a n s.c] w (retP Q) := by
  subst hn
  refine Calls.up (Read_ok hS hl (fun h w hS => ?_) fun h sl its w hi hS => ?_)
  · exact hQ ⟨none, 0⟩ [] w (by rw [A.readP, if_neg h]; rfl) (hS.bag_nil.nil cd_api_Item.e cd_api_Item.size)
  · have := hQ sl its w (by rw [A.readP, if_pos h]; exact hi) hS
    rwa [h] at this
theorem Read_one' (hS : Sat E w M) [hr : Rds cd_uint8 M s l] (hl : l.length ≤ 140737488355328)
    (hQ : ∀ (sl : Sl) (its : List T_api_Item) w, its.map A.plain = A.readP l → Sat E w (rows cd_api_Item sl its :: bag (datas its) :: M) → Q (.tuple #[.slice sl.a its.length sl.c, .int .i64 (A.arch l).2]) w) :
    Calls Tryd.prog 20 #[.slice s.a l.length s.c] w (retP Q) := by
  refine Read_ok' hS hl (fun h w hS => ?_) fun h sl its w hi hS => ?_
  · exact hQ ⟨none, 0⟩ [] w (by rw [A.readP, if_neg h]; rfl) (hS.bag_nil.nil cd_api_Item.e cd_api_Item.size)
  · have := hQ sl its w (by rw [A.readP, if_pos h]; exact hi) hS
    rwa [h] at this

set_option maxHeartbeats 8000000 in
theorem room_ok (hS : Sat E w M) [hr : Rds cd_api_Item M sl its] (hd : ∀ x ∈ its, Rds cd_uint8 M x.Data.1 x.Data.2 ∧ x.Data.2.length ≤ 1048576) (hl : its.length ≤ 1048576)
    (hQ : ∀ (rm : Nat) (sL sF : Sl) (ps : List Pr) (w : World), ps.map (·.1) = its → Sat E w (roomC rm sL (its.length + 1) sF its.length :: rows cd_api_Item sL (ps.map yOf ++ [mine]) :: rows cd_sl_uint8 sF (ps.map fOf) :: pBag ps :: M) →
      Q (.tuple #[.slice (sL.sub 0 cd_api_Item.size).a its.length (sL.sub 0 cd_api_Item.size).c, .pointer (some ⟨rm, 0, none⟩)]) w) :
    Calls Tryd.prog 13 #[.slice sl.a its.length sl.c] w (retP Q) := by
  refine pithlaw33_room.calls ?_
  unfold pithlaw33_room.F
  repeat' (first | (refine pN_bx hS (by rfl) ?_; clear hS; intro a w hS) | refine pN_via (by (intro K; simp (disch := omega) only [go_sem, pN_min, pN_max, w_u32, w_u64, Option.isNone_some, Option.isNone_none]; (try simp only [wrap_u32, wrap_u64]); rfl)) ?_ | fail)
  rename Nat => rm
  have hS : Sat E w (cel rm ⟨75, [.slice none 0 0, .slice none 0 0]⟩ :: rows cd_api_Item ⟨none, 0⟩ [] :: rows cd_sl_uint8 ⟨none, 0⟩ [] :: bag [] :: M) := by
    have h1 : Sat E w (rows cd_sl_uint8 ⟨none, 0⟩ [] :: bag [] :: _) := hS.bag_nil.nil cd_sl_uint8.e cd_sl_uint8.size
    have h2 : Sat E w (rows cd_api_Item ⟨none, 0⟩ [] :: _) := h1.nil cd_api_Item.e cd_api_Item.size
    exact h2.to
  refine ⟨fun i w => ∃ (k : Nat) (sL sF : Sl) (ps : List Pr), k ≤ its.length ∧ i = .int .i64 k ∧ ps.map (·.1) = its.take k ∧ Sat E w (roomC rm sL k sF k :: rows cd_api_Item sL (ps.map yOf) :: rows cd_sl_uint8 sF (ps.map fOf) :: pBag ps :: M), fun i _ => its.length - (RowKit.intOf i).toNat,
    ⟨0, ⟨none, 0⟩, ⟨none, 0⟩, [], Nat.zero_le _, rfl, rfl, hS⟩, ?_⟩
  clear hS
  rintro _ _ w ⟨k, sL, sF, ps, hk, rfl, hps, hS⟩
  have hpl : ps.length = k := by
    have := congrArg List.length hps
    rw [List.length_map, List.length_take] at this
    omega
  have hyl : (ps.map yOf).length = k := by rw [List.length_map, hpl]
  have hfl : (ps.map fOf).length = k := by rw [List.length_map, hpl]
  by_cases hlt : k < its.length
  · obtain ⟨x, hx⟩ : ∃ x, its[k]? = some x := ⟨its[k], by simp [hlt]⟩
    obtain ⟨hdx, hdl⟩ := hd x (List.mem_of_getElem? hx)
    haveI := hdx
    have hcn : x.enc.all (·.oneCell') = true := List.all_eq_true.2 fun u hu => cd_api_Item.one _ u hu
    unfold roomC at hS
    generalize hys : ps.map yOf = ys at *
    generalize hfs : ps.map fOf = fs at *
    repeat' (first | (refine pN_lss_s ?_ ?_ <;> intro hc <;> try (exfalso; omega)) | refine pIf_t ?_ | refine pN_l hS (by first | rfl | assumption) ?_ | refine pN_ld_at ha hS (by rfl) ?_ | (refine pN_sa hS (by rfl) (by rfl) (by rfl) ?_; clear hS; intro w hS; try dsimp only at hS) | (refine pN_nz hS ?_; clear hS; intro a w hS) | refine pN_ixk hS _ (by first | rfl | (exact (Int.toNat_of_nonneg (by omega)).symm)) (by first | rfl | omega | simpa only [go_sem] using True.intro | (simp only [go_sem]; omega)) (by assumption) fun a ha hel => ?_ | (refine pN_b1 hS (by rfl) (by decide) ?_; clear hS; intro s w hS) | (refine pN_b0 hS ?_; clear hS; intro s w hS) | (refine pN_app hS (by first | rfl | omega | simpa only [go_sem] using True.intro | (simp only [go_sem]; omega)) (by first | rfl | omega | simpa only [go_sem] using True.intro | (simp only [go_sem]; omega)) (by first | omega | (simp only [go_sem]; omega)) ?_; clear hS; intro s w hS) | refine pN_via (by (intro K; simp (disch := omega) only [go_sem, pN_min, pN_max, w_u32, w_u64, Option.isNone_some, Option.isNone_none]; (try simp only [wrap_u32, wrap_u64]); rfl)) ?_ | fail)
    have hb24 : (fs.length + [(s, x.Data.2 ++ [45])].length) * 24 ≤ 140737488355328 := by rw [List.length_singleton]; omega
    rw [List.nil_append] at hS ⊢
    refine pN_b1 (C := cd_sl_uint8) (x := (s, x.Data.2 ++ [45])) hS rfl (by decide) ?_
    clear hS
    intro s3 w hS
    refine pN_app (C := cd_sl_uint8) (s := sF) (l := fs) (s2 := s3) (m := [(s, x.Data.2 ++ [45])]) hS hfl.symm rfl hb24 ?_
    clear hS
    intro sF2 w hS
    repeat' (first | refine pN_l hS (by first | rfl | assumption) ?_ | (refine pN_s hS (by first | exact Nat.le_of_ble_eq_true rfl | assumption) (by rfl) ?_; clear hS; intro w hS; try simp only [List.set_cons_zero, List.set_cons_succ] at hS) | refine pN_via (by (intro K; simp (disch := omega) only [go_sem, pN_min, pN_max, w_u32, w_u64, Option.isNone_some, Option.isNone_none]; (try simp only [wrap_u32, wrap_u64]); rfl)) ?_ | fail)
    refine pN_slhw (C := cd_uint8) (s := s) (l := x.Data.2 ++ [45]) hS x.Data.2.length rfl rfl (by simp) ?_
    intro hrt
    repeat' (first | refine pL_l hS (by first | rfl | assumption) ?_ | refine pL_la hS (by rfl) ?_ | (refine pN_s hS (by first | exact Nat.le_of_ble_eq_true rfl | assumption) (by rfl) ?_; clear hS; intro w hS; try simp only [List.set_cons_zero, List.set_cons_succ] at hS) | (refine pDr_go hS ?_; clear hS; intro w hS) | refine pN_via (by (intro K; simp (disch := omega) only [go_sem, pN_min, pN_max, w_u32, w_u64, Option.isNone_some, Option.isNone_none]; (try simp only [wrap_u32, wrap_u64]); rfl)) ?_ | refine pA_via (by (intro K; simp (disch := omega) only [go_sem, pN_min, pN_max, w_u32, w_u64, Option.isNone_some, Option.isNone_none]; (try simp only [wrap_u32, wrap_u64]); rfl)) ?_ | fail)
    refine pN_b1 (C := cd_api_Item) (x := yOf (x, s)) hS rfl (by decide) ?_
    clear hS
    intro s5 w hS
    refine ⟨⟨run_l hS (by rfl), trivial⟩, ?_⟩
    have hb80 : (ys.length + [yOf (x, s)].length) * 80 ≤ 140737488355328 := by rw [List.length_singleton]; omega
    refine pN_app (C := cd_api_Item) (s := sL) (l := ys) (s2 := s5) (m := [yOf (x, s)]) hS hyl.symm rfl hb80 ?_
    clear hS
    intro sL2 w hS
    repeat' (first | (refine pN_s hS (by first | exact Nat.le_of_ble_eq_true rfl | assumption) (by rfl) ?_; clear hS; intro w hS; try simp only [List.set_cons_zero, List.set_cons_succ] at hS) | refine ⟨trivial, ?_⟩ | refine pN_via (by (intro K; simp (disch := omega) only [go_sem, pN_min, pN_max, w_u32, w_u64, Option.isNone_some, Option.isNone_none]; (try simp only [wrap_u32, wrap_u64]); rfl)) ?_ | refine pA_via (by (intro K; simp (disch := omega) only [go_sem, pN_min, pN_max, w_u32, w_u64, Option.isNone_some, Option.isNone_none]; (try simp only [wrap_u32, wrap_u64]); rfl)) ?_ | fail)
    have e1 : (ys ++ [yOf (x, s)]).length = k + 1 := by rw [List.length_append, hyl]; rfl
    have e2 : (fs ++ [(s, x.Data.2 ++ [45])]).length = k + 1 := by rw [List.length_append, hfl]; rfl
    rw [e1, e2] at hS
    refine ⟨⟨k + 1, sL2, sF2, ps ++ [(x, s)], hlt, rfl, ?_, ?_⟩, ?_⟩
    · rw [List.map_append, hps, List.take_add_one, hx]
      rfl
    · rw [List.map_append, List.map_append, hys, hfs]
      have h1 : Sat E w (rows cd_uint8 s (x.Data.2 ++ [45]) :: pBag ps :: cel rm ⟨75, [.slice sL2.a (k + 1 : Nat) sL2.c, .slice sF2.a (k + 1 : Nat) sF2.c]⟩ :: rows cd_api_Item sL2 (ys ++ [yOf (x, s)]) :: rows cd_sl_uint8 sF2 (fs ++ [(s, x.Data.2 ++ [45])]) :: M) := hS.to
      have h2 := pBag_snoc (p := (x, s)) h1
      have h3 : Sat E w (cel rm ⟨75, [.slice sL2.a (k + 1 : Nat) sL2.c, .slice sF2.a (k + 1 : Nat) sF2.c]⟩ :: rows cd_api_Item sL2 (ys ++ [yOf (x, s)]) :: rows cd_sl_uint8 sF2 (fs ++ [(s, x.Data.2 ++ [45])]) :: pBag (ps ++ [(x, s)]) :: M) := h2.to
      exact h3
    · show its.length - (RowKit.intOf (.int .i64 ((k + 1 : Nat) : Int))).toNat < its.length - (RowKit.intOf (.int .i64 (k : Int))).toNat
      simp only [RowKit.intOf, Int.toNat_natCast]
      omega
  · obtain rfl : k = its.length := by omega
    rw [List.take_length] at hps
    unfold roomC at hS
    generalize hys : ps.map yOf = ys at *
    generalize hfs : ps.map fOf = fs at *
    repeat' (first | (refine pN_lss_s ?_ ?_ <;> intro hc <;> try (exfalso; omega)) | refine pIf_f ?_ | refine pN_l hS (by first | rfl | assumption) ?_ | refine pN_via (by (intro K; simp (disch := omega) only [go_sem, pN_min, pN_max, w_u32, w_u64, Option.isNone_some, Option.isNone_none]; (try simp only [wrap_u32, wrap_u64]); rfl)) ?_ | fail)
    refine pN_b1 (C := cd_api_Item) (x := mine) hS rfl (by decide) ?_
    clear hS
    intro s5 w hS
    have hb80 : (ys.length + [mine].length) * 80 ≤ 140737488355328 := by rw [List.length_singleton]; omega
    refine pN_app (C := cd_api_Item) (s := sL) (l := ys) (s2 := s5) (m := [mine]) hS hyl.symm rfl hb80 ?_
    clear hS
    intro sL2 w hS
    have e1 : (ys ++ [mine]).length = its.length + 1 := by rw [List.length_append, hyl]; rfl
    repeat' (first | refine pN_l hS (by first | rfl | assumption) ?_ | (refine pN_s hS (by first | exact Nat.le_of_ble_eq_true rfl | assumption) (by rfl) ?_; clear hS; intro w hS; try simp only [List.set_cons_zero, List.set_cons_succ] at hS) | refine pN_via (by (intro K; simp (disch := omega) only [go_sem, pN_min, pN_max, w_u32, w_u64, Option.isNone_some, Option.isNone_none]; (try simp only [wrap_u32, wrap_u64]); rfl)) ?_ | fail)
    refine pN_slhw (C := cd_api_Item) (s := sL2) (l := ys ++ [mine]) hS its.length rfl rfl (by omega) ?_
    intro _
    rw [e1] at hS
    refine hQ rm sL2 sF ps w hps ?_
    unfold roomC
    rw [hys, hfs]
    exact hS.to

set_option maxHeartbeats 8000000 in
theorem kept_ok {N : List HA} {sL sF : Sl} {rm : Nat} {ps : List Pr} (hS : Sat E w N) [hc : Fnd (cel rm) N ⟨75, [.slice sL.a (its.length + 1) sL.c, .slice sF.a its.length sF.c]⟩ M] [h1 : Rds cd_api_Item N sL (ps.map yOf ++ [mine])] [h2 : Rds cd_sl_uint8 N sF (ps.map fOf)]
    (h3 : ∀ p ∈ ps, Rds cd_uint8 N p.2 (p.1.Data.2 ++ [45])) [h4 : Rds cd_api_Item N sl its] (hd : ∀ x ∈ its, Rds cd_uint8 N x.Data.1 x.Data.2 ∧ x.Data.2.length ≤ 1048576) (hl : its.length ≤ 1048576) (hps : ps.map (·.1) = its) (hQ : ∀ w, Sat E w N → Q (.bool true) w) :
    Calls Tryd.prog 17 #[.pointer (some ⟨rm, 0, none⟩), .slice sl.a its.length sl.c] w (retP Q) := by
  refine pithlaw33_Room_kept.calls ?_
  unfold pithlaw33_Room_kept.F
  have hpl : ps.length = its.length := by rw [← hps, List.length_map]
  have hyl : (ps.map yOf ++ [mine]).length = its.length + 1 := by rw [List.length_append, List.length_map, hpl]; rfl
  have hfl : (ps.map fOf).length = its.length := by rw [List.length_map, hpl]
  repeat' (first | refine pN_via (by (intro K; simp (disch := omega) only [go_sem, pN_min, pN_max, w_u32, w_u64, Option.isNone_some, Option.isNone_none]; (try simp only [wrap_u32, wrap_u64]); rfl)) ?_ | fail)
  refine ⟨fun i w => ∃ k : Nat, k ≤ its.length ∧ i = .int .i64 k ∧ Sat E w N, fun i _ => its.length - (RowKit.intOf i).toNat, ⟨0, Nat.zero_le _, rfl, hS⟩, ?_⟩
  clear hS
  rintro _ _ w ⟨k, hk, rfl, hS⟩
  by_cases hlt : k < its.length
  · obtain ⟨p, hp⟩ : ∃ p, ps[k]? = some p := ⟨ps[k]'(by omega), by simp⟩
    have hx : its[k]? = some p.1 := by rw [← hps, List.getElem?_map, hp]; rfl
    have hpm := List.mem_of_getElem? hp
    obtain ⟨hdx, hdl⟩ := hd _ (List.mem_of_getElem? hx)
    haveI := hdx
    haveI := h3 p hpm
    have hY : (ps.map yOf ++ [mine])[k]? = some (yOf p) := by rw [List.getElem?_append_left (by rw [List.length_map]; omega), List.getElem?_map, hp]; rfl
    have hF : (ps.map fOf)[k]? = some (fOf p) := by rw [List.getElem?_map, hp]; rfl
    have hsame : same (yOf p) p.1 := A.same_plain.2 (plain_yOf p)
    have h45 : (p.1.Data.2 ++ [45])[p.1.Data.2.length]? = some 45 := by rw [List.getElem?_append_right (Nat.le_refl _), Nat.sub_self]; rfl
    have htk : (p.1.Data.2 ++ [45]).take p.1.Data.2.length = p.1.Data.2 := List.take_left' rfl
    have hl1 : (p.1.Data.2 ++ [45]).length = p.1.Data.2.length + 1 := by rw [List.length_append]; rfl
    haveI hry : Rds cd_uint8 N (yOf p).Data.1 (yOf p).Data.2 := rds_y hpm
    have hfe : cd_sl_uint8.enc (fOf p) = [.slice p.2.a (p.1.Data.2 ++ [45]).length p.2.c] := rfl
    repeat' (first | (refine pc_pithlaw33_same (same_ok (yOf p) p.1 hS ?_); clear hS; intro w hS; rw [decide_eq_true hsame]) | (refine pN_lss_s ?_ ?_ <;> intro hc <;> try (exfalso; omega)) | refine pIf_t ?_ | refine gA_go (by rfl) ?_ | refine pN_l hS (by first | rfl | assumption) ?_ | refine pL_l hS (by first | rfl | assumption) ?_ | refine pN_ld1 ha hS ?_ | refine pN_ld_at ha hS (by rfl) ?_ | refine pL_ld_at ha hS (by rfl) ?_ | refine pL_la hS (by rfl) ?_ | (refine pN_sa hS (by rfl) (by rfl) (by rfl) ?_; clear hS; intro w hS; try dsimp only at hS) | (refine pDr_go hS ?_; clear hS; intro w hS) | (refine pN_nz hS ?_; clear hS; intro a w hS) | refine ⟨trivial, ?_⟩ | refine pN_ixk hS _ (by first | rfl | (exact (Int.toNat_of_nonneg (by omega)).symm)) (by first | rfl | omega | simpa only [go_sem] using True.intro | (simp only [go_sem]; omega)) (by assumption) fun a ha hel => ?_ | refine pA_ixk hS _ (by first | rfl | (exact (Int.toNat_of_nonneg (by omega)).symm)) (by first | rfl | omega | simpa only [go_sem] using True.intro | (simp only [go_sem]; omega)) (by assumption) fun a ha hel => ?_ | refine pN_via (by (intro K; simp (disch := omega) only [go_sem, pN_min, pN_max, w_u32, w_u64, Option.isNone_some, Option.isNone_none]; (try simp only [wrap_u32, wrap_u64]); rfl)) ?_ | refine pA_via (by (intro K; simp (disch := omega) only [go_sem, pN_min, pN_max, w_u32, w_u64, Option.isNone_some, Option.isNone_none]; (try simp only [wrap_u32, wrap_u64]); rfl)) ?_ | fail)
    refine pA_slhw (C := cd_uint8) (s := p.2) (l := p.1.Data.2 ++ [45]) hS p.1.Data.2.length rfl rfl (by omega) ?_
    intro hrt
    rw [htk] at hrt
    repeat' (first | (refine pA_neq_ss ?_ ?_ <;> intro hc <;> try (exfalso; first | omega | exact hc rfl | exact hc (by assumption) | exact absurd hc (by assumption))) | refine gA_go (by rfl) ?_ | refine pL_l hS (by first | rfl | assumption) ?_ | refine pL_st hS (by first | rfl | omega | simpa only [go_sem] using True.intro | (simp only [go_sem]; omega)) ?_ | refine pA_via (by (intro K; simp (disch := omega) only [go_sem, pN_min, pN_max, w_u32, w_u64, Option.isNone_some, Option.isNone_none]; (try simp only [wrap_u32, wrap_u64]); rfl)) ?_ | fail)
    refine pA_ixk (C := cd_uint8) (s := p.2) (l := p.1.Data.2 ++ [45]) hS p.1.Data.2.length rfl rfl h45 ?_
    intro a1 ha hel
    repeat' (first | (refine pA_neq_s ?_ ?_ <;> intro hc <;> try (exfalso; first | omega | exact hc rfl | exact hc (by assumption) | exact absurd hc (by assumption))) | refine pIf_f ?_ | refine gA_go (by rfl) ?_ | refine pL_ld1 ha hS ?_ | refine pN_via (by (intro K; simp (disch := omega) only [go_sem, pN_min, pN_max, w_u32, w_u64, Option.isNone_some, Option.isNone_none]; (try simp only [wrap_u32, wrap_u64]); rfl)) ?_ | refine pA_via (by (intro K; simp (disch := omega) only [go_sem, pN_min, pN_max, w_u32, w_u64, Option.isNone_some, Option.isNone_none]; (try simp only [wrap_u32, wrap_u64]); rfl)) ?_ | fail)
    refine ⟨⟨k + 1, hlt, rfl, hS.to⟩, ?_⟩
    show its.length - (RowKit.intOf (.int .i64 ((k + 1 : Nat) : Int))).toNat < its.length - (RowKit.intOf (.int .i64 (k : Int))).toNat
    simp only [RowKit.intOf, Int.toNat_natCast]
    omega
  · obtain rfl : k = its.length := by omega
    have hY : (ps.map yOf ++ [mine])[its.length]? = some mine := by rw [List.getElem?_append_right (by rw [List.length_map]; omega), List.length_map, hpl, Nat.sub_self]; rfl
    have hsame : same mine mine := A.same_plain.2 rfl
    haveI : Rds cd_uint8 N mine.Data.1 mine.Data.2 := ⟨fun E w hS => (Rds.rd (C := cd_uint8) (L := rows cd_uint8 ⟨none, 0⟩ [] :: N) (s := ⟨none, 0⟩) (l := []) E w (hS.nil cd_uint8.e cd_uint8.size))⟩
    repeat' (first | (refine pN_lss_s ?_ ?_ <;> intro hc <;> try (exfalso; omega)) | refine pIf_f ?_ | refine pN_l hS (by first | rfl | assumption) ?_ | refine pN_ld_at ha hS (by rfl) ?_ | refine pN_ixk hS _ (by first | rfl | (exact (Int.toNat_of_nonneg (by omega)).symm)) (by first | rfl | omega | simpa only [go_sem] using True.intro | (simp only [go_sem]; omega)) (by assumption) fun a ha hel => ?_ | refine pN_via (by (intro K; simp (disch := omega) only [go_sem, pN_min, pN_max, w_u32, w_u64, Option.isNone_some, Option.isNone_none]; (try simp only [wrap_u32, wrap_u64]); rfl)) ?_ | fail)
    refine pc_pithlaw33_same (same_ok mine mine hS ?_)
    clear hS
    intro w hS
    rw [decide_eq_true hsame]
    exact hQ _ hS.to
end
end Go.Proofs.YteeepkimnpabiaaDoor

namespace Go.Proofs.YteeepkimnpabiaaDoor
open Go
set_option linter.unusedSimpArgs false
set_option linter.unnecessarySimpa false
set_option linter.unusedSectionVars false
set_option linter.unusedVariables false
section
variable [Pan] {P : Program} {t e : TypeId} {z : Value} {size bytes : Nat} {v : Value} {E w : World} {L M : List HA} {K : Value → World → Prop}

theorem pN_append_wide (ht : SlT P t e z size bytes) {ty : TypeId} {cs : List Bool} {n m : Nat} {xs news : List Value} {src : Value} (hS : Sat E w (own e size v n xs :: L)) (hr : Rd w size src m news) (h1 : ∀ u ∈ news, u.oneCell' = true)
    (hb : ((n + m) + (n + m) / 4 + 192) * bytes ≤ 281474976710656) (h63 : n + m ≤ 9223372036854775807)
    (h : ∀ v' w', Sat E w' (own e size v' (n + m) (xs ++ news) :: L) → K v' w') : pN P (oBi .append #[t, t] ty cs [v, src]) w K := by
  obtain ⟨i, hi, hz, hs, hby⟩ := ht.info
  obtain ⟨hl, ao, cap, rfl, hmc, hnil, hc⟩ := hr
  have hown := hS.own_at 0 rfl
  rw [pN_def]
  cases ao with
  | none =>
    obtain ⟨rfl, rfl⟩ := hnil rfl
    have hrun := run_append_owned_none (P := P) w 0 t ty e i size ht.under hi v n xs hown
    have : news = [] := List.length_eq_zero_iff.1 (by simpa using hl)
    subst this
    have e : (oBi .append #[t, t] ty cs [v, .slice none 0 0]).run P w = .ok (.value v) w := run_oV_ok hrun
    rw [e]
    exact h _ _ (by simpa using hS)
  | some a =>
    obtain ⟨v', w', hrun, hown', hgr, hni⟩ := run_append_own_wide (P := P) w 0 t ty e i z size bytes ht.under hi hz hs hby ht.zsize ht.pos v n xs hown a m cap news hl (hc a rfl) h1 (by unfold maxLen; omega) hb (Nat.zero_le _)
    have hblk : v'.ownBlock = v.ownBlock ∨ v'.ownBlock = some w.heap.size := by
      subst hs hby
      rcases hown.2 with ⟨rfl, rfl⟩ | ⟨g, c, cur, rfl, _, hg, _, _, hcs, _⟩
      · by_cases hm : m = 0
        · left
          rw [hni.2 ⟨rfl, hm⟩]
        · right
          have hx : xs = [] := List.eq_nil_of_length_eq_zero (by simpa using hown.1)
          have hr := run_append_nil (P := P) w t ty e i z ht.under hi hz a m cap news hl (hc a rfl) (by omega) (by omega) (by have hb := hb; simp only [Nat.zero_add] at hb; exact Nat.le_trans (Nat.mul_le_mul_right _ (by omega)) hb)
          have := hr.symm.trans hrun
          injection this with h1 h2
          rw [← h1]; rfl
      · by_cases hroom : n + m ≤ c
        · left
          have hfit : n * i.size + news.length ≤ cur.size := by rw [hl, hcs, ← Nat.add_mul]; exact Nat.mul_le_mul_right _ hroom
          have hr := run_append_room (P := P) w t ty e i ht.under hi g n c cur hg a m cap news hl (hc a rfl) h1 hroom hfit
          have := hr.symm.trans hrun
          injection this with h1 h2
          rw [← h1]; rfl
        · right
          have holds : ∀ j u, xs[j]? = some u → w.cell? ((⟨g, 0, none⟩ : Addr).add j) = some u := hown.cells (g := g) rfl
          have hr := run_append_grow (P := P) w t ty e i z ht.under hi hz ⟨g, 0, none⟩ n c xs hown.1 holds a m cap news hl (hc a rfl) (by omega) (by omega) (growslice_fits_wide (by omega) hb)
          have := hr.symm.trans hrun
          injection this with h1 h2
          rw [← h1]; rfl
    have e : (oBi .append #[t, t] ty cs [v, .slice (some a) m cap]).run P w = .ok (.value v') w' := run_oV_ok hrun
    rw [e]
    exact h _ _ (hS.grown hgr hown' hblk)
end

section
variable [Pan] {P : Program} {t ty : TypeId} {α : Type} {C : Cd α} {E w : World} {L M : List HA} {s s2 : Sl} {l m : List α} {n n2 : Nat} {K : Value → World → Prop}
theorem pN_appw {cs : List Bool} (hS : Sat E w L) [hw : Row P t α C] [hf : Fnd (rows C s) L l M] [hr : Rds C L s2 m] {z : Nat} [hz : Bt C z] (hn : n = l.length) (hn2 : n2 = m.length) (hb : ((l.length + m.length) + (l.length + m.length) / 4 + 192) * z ≤ 281474976710656)
    (hk : ∀ s' w', Sat E w' (rows C s' (l ++ m) :: M) → K (.slice s'.a (l ++ m).length s'.c) w') : pN P (oBi .append #[t, t] ty cs [.slice s.a n s.c, .slice s2.a n2 s2.c]) w K := by
  subst hn hn2
  rw [← hz.eq] at hb
  have h0 := hS.fd (rows C s)
  have hrd := hS.rds (C := C) (s := s2)
  have hp := hw.bpos
  have h63 : l.length + m.length ≤ 9223372036854775807 := by
    have : (l.length + m.length + (l.length + m.length) / 4 + 192) * 1 ≤ (l.length + m.length + (l.length + m.length) / 4 + 192) * C.bytes := Nat.mul_le_mul_left _ hp
    omega
  refine pN_append_wide Row.slt h0 hrd (C.flat_one m) hb h63 fun v' w' h1 => ?_
  obtain ⟨s', rfl⟩ := own_sl h1
  rw [← C.flat_append, ← List.length_append] at h1
  rw [← List.length_append]
  exact hk s' w' h1
theorem pN_appw0 {cs : List Bool} (hS : Sat E w L) [hw : Row P t α C] [hr : Rds C L s2 m] {z : Nat} [hz : Bt C z] (hn2 : n2 = m.length) (hb : (m.length + m.length / 4 + 192) * z ≤ 281474976710656)
    (hk : ∀ s' w', Sat E w' (rows C s' m :: L) → K (.slice s'.a m.length s'.c) w') : pN P (oBi .append #[t, t] ty cs [.slice none 0 0, .slice s2.a n2 s2.c]) w K := by
  have h0 : Sat E w (rows C ⟨none, 0⟩ [] :: L) := hS.nil C.e C.size
  haveI : Rds C (rows C ⟨none, 0⟩ [] :: L) s2 m := ⟨fun E w hS => hr.rd E w hS.drop⟩
  refine pN_appw (s := ⟨none, 0⟩) (l := []) h0 rfl hn2 (by simpa using hb) fun s' w' h => ?_
  rw [List.nil_append] at h ⊢
  exact hk s' w' h
end

end Go.Proofs.YteeepkimnpabiaaDoor

namespace Go.Proofs.YteeepkimnpabiaaDoor
open Go
set_option linter.unusedSimpArgs false
set_option linter.unnecessarySimpa false
set_option linter.unusedSectionVars false
set_option linter.unusedVariables false
section
variable [Pan] {P : Program} {t e : TypeId} {z : Value} {size bytes : Nat} {v : Value} {E w : World} {L M : List HA} {K : Value → World → Prop}

theorem RdA.bag {N : List HA} {A : HA} {n : Nat} {xs : List Value} (h : A ∈ N) (hr : RdA A size v n xs) : RdA (bag N) size v n xs := fun w ⟨h1, hN, hh⟩ => by
  obtain ⟨h2, hA, hs⟩ := Sats.mem h hN
  exact hr w ⟨h2, hA, fun b o e => hh b o (hs b o e)⟩

theorem pN_append_keep (ht : SlT P t e z size bytes) {ty : TypeId} {cs : List Bool} {n m : Nat} {xs news : List Value} {src : Value} (hS : Sat E w (own e size v n xs :: L)) (hr : Rd w size src m news) (h1 : ∀ u ∈ news, u.oneCell' = true)
    (hb : ((n + m) + (n + m) / 4 + 192) * bytes ≤ 281474976710656) (h63 : n + m ≤ 9223372036854775807)
    (h : ∀ (G : HA) v' w', (∃ s : Sl, v' = .slice s.a (n + m) s.c) → RdA G size v n xs → RdA G size v' (n + m) (xs ++ news) → Sat E w' (G :: L) → K v' w') : pN P (oBi .append #[t, t] ty cs [v, src]) w K := by
  obtain ⟨i, hi, hz, hs, hby⟩ := ht.info
  have hown := hS.own_at 0 rfl
  obtain ⟨hl, ao, cap, rfl, hmc, hnil, hc⟩ := id hr
  rcases hown.2 with ⟨rfl, rfl⟩ | ⟨g, c, cur, rfl, _, hg, hnc, hmx, hcs, hct⟩
  · have hx : xs = [] := List.eq_nil_of_length_eq_zero (by simpa using hown.1)
    subst hx
    refine pN_append_wide ht hS hr h1 hb h63 fun v' w' hS => ?_
    have hv : ∃ s : Sl, v' = .slice s.a (0 + m) s.c := by
      rcases (hS.own_at 0 rfl).2 with ⟨rfl, h0⟩ | ⟨g, c, _, rfl, _⟩
      · exact ⟨⟨none, 0⟩, by rw [h0]⟩
      · exact ⟨⟨some ⟨g, 0, none⟩, c⟩, rfl⟩
    exact h _ v' w' hv (fun w _ => Rd.nil) RdA.own hS
  rw [pN_def]
  cases ao with
  | none =>
    obtain ⟨rfl, rfl⟩ := hnil rfl
    have hrun := run_append_owned_none (P := P) w 0 t ty e i size ht.under hi _ n xs hown
    have : news = [] := List.length_eq_zero_iff.1 (by simpa using hl)
    subst this
    have e1 : (oBi .append #[t, t] ty cs [.slice (some ⟨g, 0, none⟩) n c, .slice none 0 0]).run P w = .ok (.value (.slice (some ⟨g, 0, none⟩) n c)) w := run_oV_ok hrun
    rw [e1]
    exact h (own e size (.slice (some ⟨g, 0, none⟩) n c) n xs) _ _ ⟨⟨some ⟨g, 0, none⟩, c⟩, rfl⟩ RdA.own (by rw [List.append_nil]; exact RdA.own) hS
  | some a =>
    obtain ⟨v', w', hrun, hown', hgr, hni⟩ := run_append_own_wide (P := P) w 0 t ty e i z size bytes ht.under hi hz hs hby ht.zsize ht.pos _ n xs hown a m cap news hl (hc a rfl) h1 (by unfold maxLen; omega) hb (Nat.zero_le _)
    subst hs hby
    have e1 : (oBi .append #[t, t] ty cs [.slice (some ⟨g, 0, none⟩) n c, .slice (some a) m cap]).run P w = .ok (.value v') w' := run_oV_ok hrun
    rw [e1]
    by_cases hroom : n + m ≤ c
    · have hfit : n * i.size + news.length ≤ cur.size := by rw [hl, hcs, ← Nat.add_mul]; exact Nat.mul_le_mul_right _ hroom
      have hr2 := run_append_room (P := P) w t ty e i ht.under hi g n c cur hg a m cap news hl (hc a rfl) h1 hroom hfit
      have := hr2.symm.trans hrun
      injection this with h2 h3
      subst h2
      refine h _ _ _ ⟨⟨some ⟨g, 0, none⟩, c⟩, rfl⟩ (fun w2 hw => ?_) RdA.own (hS.grown hgr hown' (.inl rfl))
      obtain ⟨_, ao, cap2, e2, g1, g2, g3⟩ := RdA.own w2 hw
      injection e2 with e3 e4 e5
      subst e3 e5
      refine ⟨hown.1, _, c, rfl, hnc, fun h => (by cases h), fun a ha j u hu => g3 a ha j u ?_⟩
      rw [List.getElem?_append_left (List.getElem?_eq_some_iff.1 hu).1]
      exact hu
    · have holds : ∀ j u, xs[j]? = some u → w.cell? ((⟨g, 0, none⟩ : Addr).add j) = some u := hown.cells (g := g) rfl
      have hr2 := run_append_grow (P := P) w t ty e i z ht.under hi hz ⟨g, 0, none⟩ n c xs hown.1 holds a m cap news hl (hc a rfl) (by omega) (by omega) (growslice_fits_wide (by omega) hb)
      have := hr2.symm.trans hrun
      injection this with h2 h3
      have hS2 : Sat E w.drew (own e i.size (.slice (some ⟨g, 0, none⟩) n c) n xs :: L) := ⟨hS.os, hS.tape, hS.output, hS.sats⟩
      have hS3 := hS2.alloc (.cells (xs.toArray ++ news.toArray ++ Builtin.zeroCells z.cells (grownCap w (n + m) c e - (n + m))) e)
      rw [h3] at hS3
      have hS4 : Sat E w' (own e i.size v' (n + m) (xs ++ news) :: own e i.size (.slice (some ⟨g, 0, none⟩) n c) n xs :: L) := by
        refine hS3.weaken fun h1 hA => ?_
        rcases hown'.2 with ⟨h5, h0⟩ | ⟨g', c', cur', e5, _, hg', q1, q2, q3, q4⟩
        · rw [← h2] at h5
          cases h5
        · have hb : w.heap.size = g' := by
            rw [← h2] at e5
            injection e5 with e6
            injection e6 with e6
            injection e6 with e6
          subst hb
          have hA : h1 w.heap.size = some (.cells (xs.toArray ++ news.toArray ++ Builtin.zeroCells z.cells (grownCap w (n + m) c e - (n + m))) e) := hA
          have hg2 : w'.heap[w.heap.size]? = some (.cells (xs.toArray ++ news.toArray ++ Builtin.zeroCells z.cells (grownCap w (n + m) c e - (n + m))) e) := by
            rw [← h3]
            show (w.heap.push _)[w.heap.size]? = _
            exact Array.getElem?_push_size
          rw [← hg2, hg'] at hA
          exact ⟨hown'.1, .inr ⟨_, c', cur', e5, hA, q1, q2, q3, q4⟩⟩
      exact h (bag [_, _]) _ _ ⟨⟨some ⟨w.heap.size, 0, none⟩, _⟩, h2.symm⟩ (RdA.bag (List.mem_cons_of_mem _ (List.mem_cons_self ..)) RdA.own) (RdA.bag (List.mem_cons_self ..) RdA.own) (Sat.shutBag (M := [_, _]) hS4)
end

section
variable [Pan] {P : Program} {t ty : TypeId} {α : Type} {C : Cd α} {E w : World} {L M : List HA} {s s2 : Sl} {l m : List α} {n n2 : Nat} {K : Value → World → Prop}
theorem pN_appk {cs : List Bool} (hS : Sat E w L) [hw : Row P t α C] [hf : Fnd (rows C s) L l M] [hr : Rds C L s2 m] {z : Nat} [hz : Bt C z] (hn : n = l.length) (hn2 : n2 = m.length) (hb : ((l.length + m.length) + (l.length + m.length) / 4 + 192) * z ≤ 281474976710656)
    (hk : ∀ (G : HA) s' w', RdP C G s l → RdP C G s' (l ++ m) → Sat E w' (G :: M) → K (.slice s'.a (l ++ m).length s'.c) w') : pN P (oBi .append #[t, t] ty cs [.slice s.a n s.c, .slice s2.a n2 s2.c]) w K := by
  subst hn hn2
  rw [← hz.eq] at hb
  have h0 := hS.fd (rows C s)
  have hrd := hS.rds (C := C) (s := s2)
  have hp := hw.bpos
  have h63 : l.length + m.length ≤ 9223372036854775807 := by
    have : (l.length + m.length + (l.length + m.length) / 4 + 192) * 1 ≤ (l.length + m.length + (l.length + m.length) / 4 + 192) * C.bytes := Nat.mul_le_mul_left _ hp
    omega
  refine pN_append_keep Row.slt h0 hrd (C.flat_one m) hb h63 fun G v' w' hv r1 r2 hS => ?_
  obtain ⟨s', rfl⟩ := hv
  rw [← C.flat_append, ← List.length_append] at r2
  rw [← List.length_append]
  exact hk G s' w' ⟨r1⟩ ⟨r2⟩ hS
end
end Go.Proofs.YteeepkimnpabiaaDoor

namespace Go.Proofs.YteeepkimnpabiaaDoor
open Go
set_option linter.unusedSimpArgs false
set_option linter.unnecessarySimpa false
set_option linter.unusedSectionVars false
set_option linter.unusedVariables false

abbrev Hs := List (Sl × List UInt8)
def hBag (H : Hs) : HA := bag (H.map fun p => rows cd_uint8 p.1 p.2)
/-- What is held, and what it was told to be. -/
def heldA (x5 x6 : Nat) (H : Hs) (T : List (List UInt8)) : HA := fun h => ∃ sH sW : Sl, bag [cel x5 ⟨57, [.slice sH.a H.length sH.c]⟩, rows cd_sl_uint8 sH H, cel x6 ⟨58, [.slice sW.a T.length sW.c]⟩, rows cd_string sW T, hBag H] h
def tailL (i : Nat) : List UInt8 := List.replicate 1200 (byteOf ((i : Int) + 100))
section
variable {E w : World} {L M : List HA} {x5 x6 : Nat} {H : Hs} {T : List (List UInt8)} {s : Sl} {b : List UInt8}
theorem heldA_open (hS : Sat E w (heldA x5 x6 H T :: L)) : ∃ sH sW : Sl, Sat E w (cel x5 ⟨57, [.slice sH.a H.length sH.c]⟩ :: rows cd_sl_uint8 sH H :: cel x6 ⟨58, [.slice sW.a T.length sW.c]⟩ :: rows cd_string sW T :: hBag H :: L) := by
  obtain ⟨h1, ⟨sH, sW, hb⟩, s, hr⟩ := hS.sats
  exact ⟨sH, sW, Sat.openBag (M := [_, _, _, _, _]) ⟨hS.os, hS.tape, hS.output, h1, hb, s, hr⟩⟩
theorem heldA_shut {sH sW : Sl} (hS : Sat E w (cel x5 ⟨57, [.slice sH.a H.length sH.c]⟩ :: rows cd_sl_uint8 sH H :: cel x6 ⟨58, [.slice sW.a T.length sW.c]⟩ :: rows cd_string sW T :: hBag H :: L)) : Sat E w (heldA x5 x6 H T :: L) :=
  (Sat.shutBag (M := [_, _, _, _, _]) hS).weaken fun h hA => ⟨sH, sW, hA⟩
theorem hBag_snoc (hS : Sat E w (rows cd_uint8 s b :: hBag H :: L)) : Sat E w (hBag (H ++ [(s, b)]) :: L) := by
  have h := Sat.bag_snoc (M := H.map fun p => rows cd_uint8 p.1 p.2) hS
  unfold hBag
  rw [List.map_append]
  exact h
theorem rds_hBag {p : Sl × List UInt8} (h : p ∈ H) : RdP cd_uint8 (hBag H) p.1 p.2 := RdP_bag (List.mem_map.2 ⟨p, h, rfl⟩)
theorem rds_held {p : Sl × List UInt8} (h : p ∈ H) : RdP cd_uint8 (heldA x5 x6 H T) p.1 p.2 := ⟨fun w ⟨h1, ⟨_, _, hN⟩, hh⟩ => by
  have h2 : RdP cd_uint8 (hBag H) p.1 p.2 := rds_hBag h
  exact RdA.bag (N := [_, _, _, _, hBag H]) (by simp) h2.rd w ⟨h1, hN, hh⟩⟩
theorem bag_uncons {A : HA} {N : List HA} (hS : Sat E w (bag (A :: N) :: L)) : Sat E w (A :: bag N :: L) := Sat.out hS 0 rfl
theorem drop_cons' {α : Type} {l : List α} {i : Nat} {x : α} (h : l[i]? = some x) : l.drop i = x :: l.drop (i + 1) := by
  obtain ⟨hi, e⟩ := List.getElem?_eq_some_iff.1 h
  rw [List.drop_eq_getElem_cons hi, e]
theorem El_sub0 {α : Type} {C : Cd α} {s : Sl} {z j : Nat} {a : Addr} (h : El C (s.sub 0 z) j a) : El C s j a := by
  obtain ⟨b, hb, rfl⟩ := h
  unfold Sl.sub at hb
  dsimp only at hb
  split at hb
  · exact ⟨b, hb, rfl⟩
  · rw [Option.map_eq_some_iff] at hb
    obtain ⟨b', hb', rfl⟩ := hb
    refine ⟨b', hb', ?_⟩
    rw [Nat.zero_mul, Addr.add_zero']
/-- What is held, the first of it overwritten. -/
def ovr (i : Nat) (H : Hs) : Hs := H.zipIdx.map fun u => (u.1.1, if u.2 < i then List.replicate u.1.2.length (byteOf u.2) else u.1.2)
theorem ovr_get (i j : Nat) (H : Hs) : (ovr i H)[j]? = H[j]?.map fun q => (q.1, if j < i then List.replicate q.2.length (byteOf j) else q.2) := by
  unfold ovr
  rw [List.getElem?_map, List.getElem?_zipIdx]
  cases H[j]? <;> simp
theorem ovr_zero (H : Hs) : ovr 0 H = H := by
  apply List.ext_getElem?
  intro j
  rw [ovr_get]
  cases H[j]? <;> simp
theorem ovr_set {i : Nat} {H : Hs} {q : Sl × List UInt8} (h : H[i]? = some q) : (ovr i H).set i (q.1, List.replicate q.2.length (byteOf i)) = ovr (i + 1) H := by
  apply List.ext_getElem?
  intro j
  rw [List.getElem?_set, ovr_get, ovr_get]
  by_cases e : i = j
  · subst e
    have hl : i < (ovr i H).length := by
      have := (List.getElem?_eq_some_iff.1 h).1
      unfold ovr
      rw [List.length_map, List.length_zipIdx]
      exact this
    rw [if_pos rfl, if_pos hl, h]
    simp
  · rw [if_neg e]
    cases H[j]? with
    | none => rfl
    | some q =>
      have : (j < i) = (j < i + 1) := propext (by omega)
      simp only [Option.map_some, this]
theorem hBag_out {i : Nat} {q : Sl × List UInt8} (hS : Sat E w (hBag H :: L)) (h : H[i]? = some q) : Sat E w (rows cd_uint8 q.1 q.2 :: bag ((H.map fun p => rows cd_uint8 p.1 p.2).eraseIdx i) :: L) :=
  Sat.out hS i (by rw [List.getElem?_map, h]; rfl)
theorem hBag_into {i : Nat} {q : Sl × List UInt8} {d : List UInt8} (hS : Sat E w (rows cd_uint8 q.1 d :: bag ((H.map fun p => rows cd_uint8 p.1 p.2).eraseIdx i) :: L)) (h : H[i]? = some q) : Sat E w (hBag (H.set i (q.1, d)) :: L) := by
  have h1 := Sat.into hS (i := i) (M := H.map fun p => rows cd_uint8 p.1 p.2) (A := rows cd_uint8 q.1 q.2) (by rw [List.getElem?_map, h]; rfl)
  unfold hBag
  rw [List.map_set]
  exact h1
theorem set_rep {x : UInt8} : ∀ {k : Nat} {l : List UInt8}, k < l.length → (List.replicate k x ++ l.drop k).set k x = List.replicate (k + 1) x ++ l.drop (k + 1)
  | 0, a :: l, _ => by simp
  | k + 1, a :: l, h => by
    have := set_rep (x := x) (k := k) (l := l) (by simpa using h)
    simp only [List.replicate_succ, List.drop_succ_cons, List.cons_append, List.set_cons_succ] at this ⊢
    rw [this]

/-- The marks of ranges that ended. -/
def marks (ms : List Nat) : HA := bag (ms.map mark)
theorem marks_cons {D : Nat} {ms : List Nat} (hS : Sat E w (mark D :: marks ms :: L)) : Sat E w (marks (D :: ms) :: L) := Sat.bag_cons hS
theorem mk_all {K : World → Prop} : ∀ {ms : List Nat} {w : World}, Sat E w (marks ms :: L) → (∀ w', Sat E w' L → K w') → mkW ms w K
  | [], w, hS, hk => hk _ hS.drop
  | r :: ms, w, hS, hk => by
    have h1 : Sat E w (mark r :: marks ms :: L) := bag_uncons hS
    exact mk_go h1 fun w' h2 => mk_all h2 hk
end

attribute [local irreducible] oMv oV oU oCall oCallV oBi oBin oUn oLoad oStore oNil oFld oField oIdx oIndex oPick oAlloc oBox oBuild oBs oConv oMk oSl oExt oFn oIface oMap oLook oMapUp oRange oNext oAssert oPanic oRes pN pA pL pDr pIf gA pGd Calls A.made A.header A.oct A.wrong A.padn A.putB A.fS A.num A.text A.sumTo A.sumOf A.getE A.getX A.getL A.getN A.readTo
section
variable [Pan] {E w : World} {K Q : Value → World → Prop} {L M : List HA} {l r : List UInt8} {s s2 sl sl2 : Sl} {its ots : List T_api_Item} {x5 x6 : Nat} {H : Hs} {T : List (List UInt8)} {b : List UInt8}

set_option maxHeartbeats 4000000 in
theorem keep_ok (hS : Sat E w (heldA x5 x6 H T :: rows cd_uint8 s b :: M)) (hH : H.length ≤ 1073741824) (hT : T.length ≤ 1073741824) (hb : b.length ≤ 140737488355328)
    (hQ : ∀ w, Sat E w (heldA x5 x6 (H ++ [(s, b)]) (T ++ [b]) :: M) → Q (.tuple #[]) w) :
    Calls Tryd.prog 24 #[.slice s.a b.length s.c, .pointer (some ⟨x5, 0, none⟩), .pointer (some ⟨x6, 0, none⟩)] w (retP Q) := by
  obtain ⟨sH, sW, hS⟩ := heldA_open hS
  have hb24 : (H.length + [(s, b)].length) * 24 ≤ 140737488355328 := by rw [List.length_singleton]; omega
  have hb16 : (T.length + [b].length) * 16 ≤ 140737488355328 := by rw [List.length_singleton]; omega
  have hend : ∀ (sH sW s1 s2 : Sl) w, Sat E w (cel x6 ⟨58, [.slice sW.a (T ++ [b]).length sW.c]⟩ :: cel x5 ⟨57, [.slice sH.a (H ++ [(s, b)]).length sH.c]⟩ :: rows cd_sl_uint8 sH (H ++ [(s, b)]) :: rows cd_string sW (T ++ [b]) :: hBag H :: rows cd_uint8 s b :: M) → Q (.tuple #[]) w := fun sH sW s1 s2 w hS => by
    have h1 : Sat E w (rows cd_uint8 s b :: hBag H :: cel x6 ⟨58, [.slice sW.a (T ++ [b]).length sW.c]⟩ :: cel x5 ⟨57, [.slice sH.a (H ++ [(s, b)]).length sH.c]⟩ :: rows cd_sl_uint8 sH (H ++ [(s, b)]) :: rows cd_string sW (T ++ [b]) :: M) := hS.to
    have h2 := hBag_snoc h1
    exact hQ _ (heldA_shut (sH := sH) (sW := sW) h2.to)
  refine pithlaw33_TarLists_c1.calls ?_
  unfold pithlaw33_TarLists_c1.F
  repeat' (first | refine pL_l hS (by first | rfl | assumption) ?_ | (refine pDr_go hS ?_; clear hS; intro w hS) | refine pL_st hS (by first | rfl | omega | simpa only [go_sem] using True.intro | (simp only [go_sem]; omega)) ?_ | fail)
  refine ⟨?_, ?_⟩
  · repeat' (first | (refine pN_b1 (C := cd_sl_uint8) (x := (s, b)) hS rfl (by decide) ?_; clear hS; intro s3 w hS) | refine ⟨⟨(by first | exact run_l hS (by first | rfl | assumption) | exact run_st hS (by first | rfl | omega) | exact run_ld1 ha hS | exact fun _ => run_l hS (by rfl) | exact fun _ => run_st hS (by first | rfl | omega) | exact fun _ => run_ld1 ha hS | exact fun h => Bool.noConfusion h), (by first | exact run_l hS (by first | rfl | assumption) | exact run_st hS (by first | rfl | omega) | exact run_ld1 ha hS | exact fun _ => run_l hS (by rfl) | exact fun _ => run_st hS (by first | rfl | omega) | exact fun _ => run_ld1 ha hS | exact fun h => Bool.noConfusion h), (by first | exact run_l hS (by first | rfl | assumption) | exact run_st hS (by first | rfl | omega) | exact run_ld1 ha hS | exact fun _ => run_l hS (by rfl) | exact fun _ => run_st hS (by first | rfl | omega) | exact fun _ => run_ld1 ha hS | exact fun h => Bool.noConfusion h), trivial⟩, ?_⟩ | fail)
    refine ⟨?_, ?_⟩
    · repeat' (first | (refine pN_b1 (C := cd_string) (x := b) hS rfl (by decide) ?_; clear hS; intro s3 w hS) | (refine pN_app (C := cd_sl_uint8) (l := H) hS rfl rfl hb24 ?_; clear hS; intro sH2 w hS) | (refine pN_app (C := cd_string) (l := T) hS rfl rfl hb16 ?_; clear hS; intro sW2 w hS) | (refine pN_s hS (by first | exact Nat.le_of_ble_eq_true rfl | assumption) (by rfl) ?_; clear hS; intro w hS; try simp only [List.set_cons_zero, List.set_cons_succ] at hS) | refine ⟨trivial, ?_⟩ | refine ⟨⟨(by first | exact run_l hS (by first | rfl | assumption) | exact run_st hS (by first | rfl | omega) | exact run_ld1 ha hS | exact fun _ => run_l hS (by rfl) | exact fun _ => run_st hS (by first | rfl | omega) | exact fun _ => run_ld1 ha hS | exact fun h => Bool.noConfusion h), trivial⟩, ?_⟩ | refine ⟨⟨(by first | exact run_l hS (by first | rfl | assumption) | exact run_st hS (by first | rfl | omega) | exact run_ld1 ha hS | exact fun _ => run_l hS (by rfl) | exact fun _ => run_st hS (by first | rfl | omega) | exact fun _ => run_ld1 ha hS | exact fun h => Bool.noConfusion h), (by first | exact run_l hS (by first | rfl | assumption) | exact run_st hS (by first | rfl | omega) | exact run_ld1 ha hS | exact fun _ => run_l hS (by rfl) | exact fun _ => run_st hS (by first | rfl | omega) | exact fun _ => run_ld1 ha hS | exact fun h => Bool.noConfusion h), trivial⟩, ?_⟩ | fail)
      exact hend sH2 sW2 s s _ hS.to
    · repeat' (first | (refine pN_b1 (C := cd_string) (x := b) hS rfl (by decide) ?_; clear hS; intro s3 w hS) | (refine pN_app (C := cd_sl_uint8) (l := H) hS rfl rfl hb24 ?_; clear hS; intro sH2 w hS) | (refine pN_app (C := cd_string) (l := T) hS rfl rfl hb16 ?_; clear hS; intro sW2 w hS) | (refine pN_s hS (by first | exact Nat.le_of_ble_eq_true rfl | assumption) (by rfl) ?_; clear hS; intro w hS; try simp only [List.set_cons_zero, List.set_cons_succ] at hS) | refine ⟨trivial, ?_⟩ | refine ⟨⟨(by first | exact run_l hS (by first | rfl | assumption) | exact run_st hS (by first | rfl | omega) | exact run_ld1 ha hS | exact fun _ => run_l hS (by rfl) | exact fun _ => run_st hS (by first | rfl | omega) | exact fun _ => run_ld1 ha hS | exact fun h => Bool.noConfusion h), trivial⟩, ?_⟩ | refine ⟨⟨(by first | exact run_l hS (by first | rfl | assumption) | exact run_st hS (by first | rfl | omega) | exact run_ld1 ha hS | exact fun _ => run_l hS (by rfl) | exact fun _ => run_st hS (by first | rfl | omega) | exact fun _ => run_ld1 ha hS | exact fun h => Bool.noConfusion h), (by first | exact run_l hS (by first | rfl | assumption) | exact run_st hS (by first | rfl | omega) | exact run_ld1 ha hS | exact fun _ => run_l hS (by rfl) | exact fun _ => run_st hS (by first | rfl | omega) | exact fun _ => run_ld1 ha hS | exact fun h => Bool.noConfusion h), trivial⟩, ?_⟩ | fail)
      exact hend sH2 sW2 s s _ hS.to
  · repeat' (first | (refine pN_b1 (C := cd_sl_uint8) (x := (s, b)) hS rfl (by decide) ?_; clear hS; intro s3 w hS) | (refine pN_b1 (C := cd_string) (x := b) hS rfl (by decide) ?_; clear hS; intro s3 w hS) | (refine pN_app (C := cd_sl_uint8) (l := H) hS rfl rfl hb24 ?_; clear hS; intro sH2 w hS) | (refine pN_app (C := cd_string) (l := T) hS rfl rfl hb16 ?_; clear hS; intro sW2 w hS) | (refine pN_s hS (by first | exact Nat.le_of_ble_eq_true rfl | assumption) (by rfl) ?_; clear hS; intro w hS; try simp only [List.set_cons_zero, List.set_cons_succ] at hS) | refine ⟨trivial, ?_⟩ | refine ⟨⟨(by first | exact run_l hS (by first | rfl | assumption) | exact run_st hS (by first | rfl | omega) | exact run_ld1 ha hS | exact fun _ => run_l hS (by rfl) | exact fun _ => run_st hS (by first | rfl | omega) | exact fun _ => run_ld1 ha hS | exact fun h => Bool.noConfusion h), trivial⟩, ?_⟩ | refine ⟨⟨(by first | exact run_l hS (by first | rfl | assumption) | exact run_st hS (by first | rfl | omega) | exact run_ld1 ha hS | exact fun _ => run_l hS (by rfl) | exact fun _ => run_st hS (by first | rfl | omega) | exact fun _ => run_ld1 ha hS | exact fun h => Bool.noConfusion h), (by first | exact run_l hS (by first | rfl | assumption) | exact run_st hS (by first | rfl | omega) | exact run_ld1 ha hS | exact fun _ => run_l hS (by rfl) | exact fun _ => run_st hS (by first | rfl | omega) | exact fun _ => run_ld1 ha hS | exact fun h => Bool.noConfusion h), trivial⟩, ?_⟩ | fail)
    exact hend sH2 sW2 s s _ hS.to

set_option maxHeartbeats 4000000 in
theorem tail_ok {i : Nat} (hi : i ≤ 1073741824) (hS : Sat E w M) (hQ : ∀ s w, Sat E w (rows cd_uint8 s (tailL i) :: M) → Q (.slice s.a (tailL i).length s.c) w) :
    Calls Tryd.prog 25 #[.int .i64 i] w (retP Q) := by
  refine pithlaw33_tail.calls ?_
  unfold pithlaw33_tail.F
  refine ⟨fun v j w => ∃ (k : Nat) (s : Sl), k ≤ 1200 ∧ j = .int .i64 k ∧ v = .slice s.a (List.replicate k (byteOf ((i : Int) + 100))).length s.c ∧ Sat E w (rows cd_uint8 s (List.replicate k (byteOf ((i : Int) + 100))) :: M), fun _ j _ => 1200 - (RowKit.intOf j).toNat,
    ⟨0, ⟨none, 0⟩, Nat.zero_le _, rfl, rfl, hS.nil cd_uint8.e cd_uint8.size⟩, ?_⟩
  clear hS
  rintro _ _ _ w ⟨k, s, hk, rfl, rfl, hS⟩
  by_cases hlt : k < 1200
  · have hlr : (List.replicate k (byteOf ((i : Int) + 100))).length = k := List.length_replicate
    have hb1 : ((List.replicate k (byteOf ((i : Int) + 100))).length + [byteOf ((i : Int) + 100)].length) * 1 ≤ 140737488355328 := by rw [List.length_singleton, hlr]; omega
    have hsn : List.replicate k (byteOf ((i : Int) + 100)) ++ [byteOf ((i : Int) + 100)] = List.replicate (k + 1) (byteOf ((i : Int) + 100)) := List.replicate_succ'.symm
    generalize List.replicate k (byteOf ((i : Int) + 100)) = rp at *
    repeat' (first | (refine pN_lss_s ?_ ?_ <;> intro hc <;> try (exfalso; omega)) | refine pIf_t ?_ | refine pN_tob ?_ | (refine pN_b1 hS (by rfl) (by decide) ?_; clear hS; intro s w hS) | (refine pN_app hS (by first | rfl | omega | simpa only [go_sem] using True.intro | (simp only [go_sem]; omega)) (by first | rfl | omega | simpa only [go_sem] using True.intro | (simp only [go_sem]; omega)) (by first | omega | (simp only [go_sem]; omega)) ?_; clear hS; intro s w hS) | refine pN_via (by (intro K; simp (disch := omega) only [go_sem, pN_min, pN_max, w_u32, w_u64, Option.isNone_some, Option.isNone_none]; (try simp only [wrap_u32, wrap_u64]); rfl)) ?_ | fail)
    rw [hsn] at hS ⊢
    refine ⟨⟨k + 1, _, hlt, rfl, rfl, hS.to⟩, ?_⟩
    show 1200 - (RowKit.intOf (.int .i64 ((k + 1 : Nat) : Int))).toNat < 1200 - (RowKit.intOf (.int .i64 (k : Int))).toNat
    simp only [RowKit.intOf, Int.toNat_natCast]
    omega
  · obtain rfl : k = 1200 := by omega
    repeat' (first | (refine pN_lss_s ?_ ?_ <;> intro hc <;> try (exfalso; omega)) | refine pIf_f ?_ | fail)
    exact hQ _ _ hS
end
end Go.Proofs.YteeepkimnpabiaaDoor

namespace Go.Proofs.YteeepkimnpabiaaDoor
open Go
set_option linter.unusedSimpArgs false
set_option linter.unnecessarySimpa false
set_option linter.unusedSectionVars false
set_option linter.unusedVariables false
set_option maxRecDepth 100000

/-! pithlaw33_TarExactR: pith/pithlaw33.TarExact; temporaries: 0:l 1:b 2:l 3:b 5:c 6:marks 7:i 8:p 9:e 10:q 11:f 12:p 13:e 14:q 15:f 16:own 17:in 18:x 19:n 20:y 21:m 22:r 23:s 24:all 25:end 26:k 27:x 28:e -/
def pithlaw33_TarExactR.H : Hints := { cut := fun  | _ => none, loop := fun | 3 => ([36], 147573952520956940160) | _ => ([], 0), order := fun | 29 => [(0, 0), (1, 1), (2, 3), (3, 7), (4, 15), (5, 31), (6, 63), (7, 127), (8, 255), (9, 511), (10, 1023), (12, 2047), (11, 6143), (13, 8191), (14, 16383), (15, 32767), (16, 65535), (17, 131071), (18, 262143), (19, 524287), (20, 1048575), (21, 2097151), (22, 4194303), (23, 8388607), (24, 16777215), (25, 33554431), (26, 67108863), (27, 134217727), (28, 268435455), (29, 536870911), (30, 1073741823), (31, 2147483647), (32, 4294967295), (33, 8589934591), (34, 17179869183), (35, 34359738367), (36, 68719476735), (37, 137438953471), (38, 274877906943), (39, 549755813887), (40, 1099511627775), (41, 2199023255551), (42, 4398046511103), (43, 8796093022207), (44, 17592186044415), (45, 35184372088831)] | _ => [] }
def pithlaw33_TarExactR.F (x0 : Value) (x1 : Value) (w : World) (Q : Value → World → Prop) : Prop :=
 pN Tryd.prog (oAlloc 4) w fun x4 w1 =>
 pN Tryd.prog (oCall 13 [x0]) w1 fun x31 w2 =>
 pN Tryd.prog (oExt x31 0) w2 fun x32 w3 =>
 pN Tryd.prog (oExt x31 1) w3 fun x33 w4 =>
 pN Tryd.prog (oBi .len #[34] 3 [false] [x0]) w4 fun x35 w5 =>
 ∃ (L3 : List Nat → Value → World → Prop) (m3 : Value → World → Nat),
 L3 [] (.int .i64 0) w5 ∧
 ∀ (_k3 : Env) (v36l3 : Value) (ms3 : List Nat) (w6 : World), L3 ms3 v36l3 w6 →
 pN Tryd.prog (oBin .lss 3 (.tmp 36) (.tmp 35) v36l3 x35) w6 fun x37 w7 =>
 pIf x37
 (pN Tryd.prog (oIdx 34 x32 v36l3) w7 fun x42 w8 =>
 pN Tryd.prog (oLoad 24 x42) w8 fun x43 w9 =>
 pN Tryd.prog (oCall 8 [x43]) w9 fun x44 w10 =>
 pN Tryd.prog (oExt x44 0) w10 fun x45 w11 =>
 pN Tryd.prog (oExt x44 1) w11 fun x46 w12 =>
 pN Tryd.prog (oIdx 34 x0 v36l3) w12 fun x50 w13 =>
 pN Tryd.prog (oLoad 24 x50) w13 fun x51 w14 =>
 pN Tryd.prog (oCall 14 [x51]) w14 fun x52 w15 =>
 pN Tryd.prog (oExt x52 0) w15 fun x53 w16 =>
 pN Tryd.prog (oExt x52 1) w16 fun x54 w17 =>
 pN Tryd.prog (oConv 22 9 x45) w17 fun x56 w18 =>
 pN Tryd.prog (oConv 22 9 x53) w18 fun x58 w19 =>
 pN Tryd.prog (oBin .neq 9 (.tmp 56) (.tmp 58) x56 x58) w19 fun x59 w20 =>
 pGd (gB x59 false) (pN Tryd.prog (oMv x46) w20) w20 fun x61 w21 =>
 pGd (gB x59 false) (pN Tryd.prog (oCall 9 [x61]) w21) w21 fun x62 w22 =>
 pGd (gB x59 false) (pN Tryd.prog (oMv x54) w22) w22 fun x63 w23 =>
 pGd (gB x59 false) (pN Tryd.prog (oBin .neq 3 (.tmp 62) (.tmp 63) x62 x63) w23) w23 fun x64 w24 =>
 pN Tryd.prog (oPick x59 (.bool true) x64) w24 fun x65 w25 =>
 pIf x65
 (pN Tryd.prog (oStore 4 x4 (.bool false)) w25 fun _ w26 =>
 mkW ms3 w26 fun w27 =>
 pL Tryd.prog (oRes 4 x4) w27 fun r4 =>
 Q r4 w27)
 (pN Tryd.prog (oBin .add 3 (.tmp 36) (.const (.int .i64 1)) v36l3 (.int .i64 1)) w25 fun x66 w28 =>
 (L3 ms3 x66 w28 ∧ m3 x66 w28 < m3 v36l3 w6)))
 (pN Tryd.prog (oCall 15 [x32]) w7 fun x69 w29 =>
 pN Tryd.prog (oExt x69 0) w29 fun x70 w30 =>
 pN Tryd.prog (oExt x69 1) w30 fun x71 w31 =>
 pN Tryd.prog (oCall 16 [x0]) w31 fun x74 w32 =>
 pN Tryd.prog (oExt x74 0) w32 fun x75 w33 =>
 pN Tryd.prog (oExt x74 1) w33 fun x76 w34 =>
 pN Tryd.prog (oConv 22 9 x70) w34 fun x78 w35 =>
 pN Tryd.prog (oConv 22 9 x75) w35 fun x80 w36 =>
 pN Tryd.prog (oBin .neq 9 (.tmp 78) (.tmp 80) x78 x80) w36 fun x81 w37 =>
 pGd (gB x81 false) (pN Tryd.prog (oMv x71) w37) w37 fun x83 w38 =>
 pGd (gB x81 false) (pN Tryd.prog (oCall 9 [x83]) w38) w38 fun x84 w39 =>
 pGd (gB x81 false) (pN Tryd.prog (oMv x76) w39) w39 fun x85 w40 =>
 pGd (gB x81 false) (pN Tryd.prog (oBin .neq 3 (.tmp 84) (.tmp 85) x84 x85) w40) w40 fun x86 w41 =>
 pN Tryd.prog (oPick x81 (.bool true) x86) w41 fun x87 w42 =>
 pGd (gB x87 false) (pN Tryd.prog (oMv x33) w42) w42 fun x89 w43 =>
 pGd (gB x87 false) (pN Tryd.prog (oMv x0) w43) w43 fun x90 w44 =>
 pGd (gB x87 false) (pN Tryd.prog (oCall 17 [x89, x90]) w44) w44 fun x91 w45 =>
 pGd (gB x87 false) (pN Tryd.prog (oUn .not x91) w45) w45 fun x92 w46 =>
 pN Tryd.prog (oPick x87 (.bool true) x92) w46 fun x93 w47 =>
 pIf x93
 (pN Tryd.prog (oStore 4 x4 (.bool false)) w47 fun _ w48 =>
 mkW ms3 w48 fun w49 =>
 pL Tryd.prog (oRes 4 x4) w49 fun r4 =>
 Q r4 w49)
 (pN Tryd.prog (oBs 22 0 []) w47 fun x94 w50 =>
 pN Tryd.prog (oBi .append #[22, 22] 22 [false, false] [x94, x1]) w50 fun x96 w51 =>
 pN Tryd.prog (oBs 22 1 [(0, (bv 61))]) w51 fun x97 w52 =>
 pN Tryd.prog (oBi .append #[22, 22] 22 [false, false] [x96, x97]) w52 fun x98 w53 =>
 pN Tryd.prog (oBi .len #[22] 3 [false] [x1]) w53 fun x101 w54 =>
 pN Tryd.prog (oSl 22 x98 none (some x101) none) w54 fun x102 w55 =>
 pN Tryd.prog (oCall 11 [x102]) w55 fun x105 w56 =>
 pN Tryd.prog (oExt x105 0) w56 fun x106 w57 =>
 pN Tryd.prog (oExt x105 1) w57 fun x107 w58 =>
 pN Tryd.prog (oExt x105 2) w58 fun x108 w59 =>
 pN Tryd.prog (oAlloc 24) w59 fun x18 w60 =>
 pN Tryd.prog (oStore 24 x18 x106) w60 fun _ w61 =>
 pN Tryd.prog (oCall 18 [x1]) w61 fun x111 w62 =>
 pN Tryd.prog (oExt x111 0) w62 fun x112 w63 =>
 pN Tryd.prog (oExt x111 1) w63 fun x113 w64 =>
 pN Tryd.prog (oExt x111 2) w64 fun x114 w65 =>
 pN Tryd.prog (oAlloc 24) w65 fun x20 w66 =>
 pN Tryd.prog (oStore 24 x20 x112) w66 fun _ w67 =>
 pN Tryd.prog (oLoad 24 x18) w67 fun x115 w68 =>
 pN Tryd.prog (oLoad 24 x20) w68 fun x116 w69 =>
 pN Tryd.prog (oCall 12 [x115, x116]) w69 fun x117 w70 =>
 pN Tryd.prog (oUn .not x117) w70 fun x118 w71 =>
 pGd (gB x118 false) (pN Tryd.prog (oMv x107) w71) w71 fun x120 w72 =>
 pGd (gB x118 false) (pN Tryd.prog (oMv x113) w72) w72 fun x121 w73 =>
 pGd (gB x118 false) (pN Tryd.prog (oBin .neq 3 (.tmp 120) (.tmp 121) x120 x121) w73) w73 fun x122 w74 =>
 pN Tryd.prog (oPick x118 (.bool true) x122) w74 fun x123 w75 =>
 pGd (gB x123 false) (pN Tryd.prog (oMv x108) w75) w75 fun x125 w76 =>
 pGd (gB x123 false) (pN Tryd.prog (oCall 9 [x125]) w76) w76 fun x126 w77 =>
 pGd (gB x123 false) (pN Tryd.prog (oMv x114) w77) w77 fun x127 w78 =>
 pGd (gB x123 false) (pN Tryd.prog (oBin .neq 3 (.tmp 126) (.tmp 127) x126 x127) w78) w78 fun x128 w79 =>
 pN Tryd.prog (oPick x123 (.bool true) x128) w79 fun x129 w80 =>
 pIf x129
 (pN Tryd.prog (oStore 4 x4 (.bool false)) w80 fun _ w81 =>
 mkW ms3 w81 fun w82 =>
 pL Tryd.prog (oRes 4 x4) w82 fun r4 =>
 Q r4 w82)
 (pN Tryd.prog (oCall 19 [x102]) w80 fun x132 w83 =>
 pN Tryd.prog (oExt x132 0) w83 fun x133 w84 =>
 pN Tryd.prog (oExt x132 1) w84 fun x134 w85 =>
 pN Tryd.prog (oCall 20 [x1]) w85 fun x137 w86 =>
 pN Tryd.prog (oExt x137 0) w86 fun x138 w87 =>
 pN Tryd.prog (oExt x137 1) w87 fun x139 w88 =>
 pN Tryd.prog (oCall 21 [x133, x138]) w88 fun x142 w89 =>
 pN Tryd.prog (oUn .not x142) w89 fun x143 w90 =>
 pGd (gB x143 false) (pN Tryd.prog (oMv x134) w90) w90 fun x145 w91 =>
 pGd (gB x143 false) (pN Tryd.prog (oCall 9 [x145]) w91) w91 fun x146 w92 =>
 pGd (gB x143 false) (pN Tryd.prog (oMv x139) w92) w92 fun x147 w93 =>
 pGd (gB x143 false) (pN Tryd.prog (oBin .neq 3 (.tmp 146) (.tmp 147) x146 x147) w93) w93 fun x148 w94 =>
 pN Tryd.prog (oPick x143 (.bool true) x148) w94 fun x149 w95 =>
 pIf x149
 (pN Tryd.prog (oStore 4 x4 (.bool false)) w95 fun _ w96 =>
 mkW ms3 w96 fun w97 =>
 pL Tryd.prog (oRes 4 x4) w97 fun r4 =>
 Q r4 w97)
 (pN Tryd.prog (oCall 22 [x1]) w95 fun x152 w98 =>
 pN Tryd.prog (oExt x152 0) w98 fun x153 w99 =>
 pN Tryd.prog (oExt x152 1) w99 fun x154 w100 =>
 pN Tryd.prog (oAlloc 34) w100 fun x24 w101 =>
 pN Tryd.prog (oAlloc 3) w101 fun x25 w102 =>
 pN Tryd.prog (oStore 34 x24 x153) w102 fun _ w103 =>
 pN Tryd.prog (oStore 3 x25 x154) w103 fun _ w104 =>
 pN Tryd.prog (oAlloc 3) w104 fun x26 w105 =>
 pN Tryd.prog (oStore 3 x26 (.int .i64 0)) w105 fun _ w106 =>
 pN Tryd.prog (oCall 23 [x102]) w106 fun x156 w107 =>
 rfW Tryd.prog none ms3 w107 x156 2 (fun l1 rc1 as1 w108 K1 =>
 pN Tryd.prog (oAlloc 24) w108 fun x27 w111 =>
 pN Tryd.prog (oStore 24 x27 (nthV as1 0)) w111 fun _ w112 =>
 bgW l1 rc1 w112 fun w109 =>
 pDr w109 fun w113 =>
 pL Tryd.prog (oLoad 3 x26) w113 fun x159 =>
 pL Tryd.prog (oLoad 34 x24) w113 fun x160 =>
 pA Tryd.prog (oBi .len #[34] 3 [false] [x160]) fun x161 =>
 pA Tryd.prog (oBin .gtr 3 (.tmp 159) (.tmp 161) x159 x161) fun x162 =>
 gA (gB x162 false) (pL Tryd.prog (oLoad 3 x26) w113) fun x164 =>
 gA (gB x162 false) (pL Tryd.prog (oLoad 34 x24) w113) fun x165 =>
 gA (gB x162 false) (pA Tryd.prog (oBi .len #[34] 3 [false] [x165])) fun x166 =>
 gA (gB x162 false) (pA Tryd.prog (oBin .eql 3 (.tmp 164) (.tmp 166) x164 x166)) fun x167 =>
 gA (gB x162 false) (pA Tryd.prog (oMv x167)) fun x168 =>
 gA (gB x168 true) (pA Tryd.prog (oMv (nthV as1 1))) fun x169 =>
 gA (gB x168 true) (pL Tryd.prog (oLoad 3 x25) w113) fun x171 =>
 pGd (gB x168 true) (pN Tryd.prog (oCall 9 [x169]) w113) w113 fun x170 w114 =>
 ((((gB x168 true) = true → Sem.run Tryd.prog (oLoad 3 x25) w114 = .ok (.value x171) w114)) ∧ True) ∧ (gA (gB x168 true) (pA Tryd.prog (oBin .neq 3 (.tmp 170) (.tmp 171) x170 x171)) fun x172 =>
 gA (gB x168 true) (pA Tryd.prog (oMv x172)) fun x173 =>
 gA (gB x173 false) (pL Tryd.prog (oLoad 3 x25) w114) fun x174 =>
 gA (gB x173 false) (pA Tryd.prog (oBin .eql 3 (.tmp 174) (.const (.int .i64 0)) x174 (.int .i64 0))) fun x175 =>
 gA (gB x168 true) (pA Tryd.prog (oPick x173 (.bool true) x175)) fun x176 =>
 gA (gB x168 true) (pA Tryd.prog (oMv x176)) fun x177 =>
 gA (gB x177 false) (pL Tryd.prog (oLoad 24 x27) w114) fun x178 =>
 pGd (gB x177 false) (pN Tryd.prog (oBuild 24 []) w114) w114 fun x179 w115 =>
 ((((gB x177 false) = true → Sem.run Tryd.prog (oLoad 24 x27) w115 = .ok (.value x178) w115)) ∧ True) ∧ (pGd (gB x177 false) (pN Tryd.prog (oCall 12 [x178, x179]) w115) w115 fun x180 w116 =>
 (True) ∧ (gA (gB x177 false) (pA Tryd.prog (oUn .not x180)) fun x181 =>
 gA (gB x168 true) (pA Tryd.prog (oPick x177 (.bool true) x181)) fun x182 =>
 gA (gB x162 false) (pA Tryd.prog (oPick x168 x182 (.bool false))) fun x183 =>
 pA Tryd.prog (oPick x162 (.bool true) x183) fun x184 =>
 gA (gB x184 false) (pL Tryd.prog (oLoad 3 x26) w116) fun x186 =>
 gA (gB x184 false) (pL Tryd.prog (oLoad 34 x24) w116) fun x187 =>
 gA (gB x184 false) (pA Tryd.prog (oBi .len #[34] 3 [false] [x187])) fun x188 =>
 gA (gB x184 false) (pA Tryd.prog (oBin .lss 3 (.tmp 186) (.tmp 188) x186 x188)) fun x189 =>
 gA (gB x184 false) (pA Tryd.prog (oMv x189)) fun x190 =>
 gA (gB x190 true) (pA Tryd.prog (oMv (nthV as1 1))) fun x191 =>
 pGd (gB x190 true) (pN Tryd.prog (oCall 9 [x191]) w116) w116 fun x192 w117 =>
 (True) ∧ (gA (gB x190 true) (pA Tryd.prog (oBin .neq 3 (.tmp 192) (.const (.int .i64 0)) x192 (.int .i64 0))) fun x193 =>
 gA (gB x190 true) (pA Tryd.prog (oMv x193)) fun x194 =>
 gA (gB x194 false) (pL Tryd.prog (oLoad 24 x27) w117) fun x195 =>
 gA (gB x194 false) (pL Tryd.prog (oLoad 34 x24) w117) fun x196 =>
 gA (gB x194 false) (pL Tryd.prog (oLoad 3 x26) w117) fun x197 =>
 gA (gB x194 false) (pA Tryd.prog (oIdx 34 x196 x197)) fun x198 =>
 gA (gB x194 false) (pL Tryd.prog (oLoad 24 x198) w117) fun x199 =>
 pGd (gB x194 false) (pN Tryd.prog (oCall 12 [x195, x199]) w117) w117 fun x200 w118 =>
 (True) ∧ (gA (gB x194 false) (pA Tryd.prog (oUn .not x200)) fun x201 =>
 gA (gB x190 true) (pA Tryd.prog (oPick x194 (.bool true) x201)) fun x202 =>
 gA (gB x184 false) (pA Tryd.prog (oPick x190 x202 (.bool false))) fun x203 =>
 pA Tryd.prog (oPick x184 (.bool true) x203) fun x204 =>
 pIf x204
 (pN Tryd.prog (oStore 4 x4 (.bool false)) w118 fun _ w119 =>
 enW l1 rc1 (some .ret) K1 w119)
 (pN Tryd.prog (oLoad 3 x26) w118 fun x205 w120 =>
 pN Tryd.prog (oBin .add 3 (.tmp 205) (.const (.int .i64 1)) x205 (.int .i64 1)) w120 fun x206 w121 =>
 pN Tryd.prog (oStore 3 x26 x206) w121 fun _ w122 =>
 enW l1 rc1 none K1 w122)))))))
 (fun mr1 w110 =>
 pN Tryd.prog (oLoad 3 x25) w110 fun x207 w123 =>
 pN Tryd.prog (oBin .eql 3 (.tmp 207) (.const (.int .i64 0)) x207 (.int .i64 0)) w123 fun x208 w124 =>
 pGd (gB x208 true) (pN Tryd.prog (oLoad 3 x26) w124) w124 fun x210 w125 =>
 pGd (gB x208 true) (pN Tryd.prog (oLoad 34 x24) w125) w125 fun x211 w126 =>
 pGd (gB x208 true) (pN Tryd.prog (oBi .len #[34] 3 [false] [x211]) w126) w126 fun x212 w127 =>
 pGd (gB x208 true) (pN Tryd.prog (oBin .neq 3 (.tmp 210) (.tmp 212) x210 x212) w127) w127 fun x213 w128 =>
 pN Tryd.prog (oPick x208 x213 (.bool false)) w128 fun x214 w129 =>
 pGd (gB x214 false) (pN Tryd.prog (oLoad 3 x25) w129) w129 fun x216 w130 =>
 pGd (gB x214 false) (pN Tryd.prog (oBin .neq 3 (.tmp 216) (.const (.int .i64 0)) x216 (.int .i64 0)) w130) w130 fun x217 w131 =>
 pGd (gB x214 false) (pN Tryd.prog (oMv x217) w131) w131 fun x218 w132 =>
 pGd (gB x218 true) (pN Tryd.prog (oLoad 3 x26) w132) w132 fun x219 w133 =>
 pGd (gB x218 true) (pN Tryd.prog (oLoad 34 x24) w133) w133 fun x220 w134 =>
 pGd (gB x218 true) (pN Tryd.prog (oBi .len #[34] 3 [false] [x220]) w134) w134 fun x221 w135 =>
 pGd (gB x218 true) (pN Tryd.prog (oBin .add 3 (.tmp 221) (.const (.int .i64 1)) x221 (.int .i64 1)) w135) w135 fun x222 w136 =>
 pGd (gB x218 true) (pN Tryd.prog (oBin .neq 3 (.tmp 219) (.tmp 222) x219 x222) w136) w136 fun x223 w137 =>
 pGd (gB x214 false) (pN Tryd.prog (oPick x218 x223 (.bool false)) w137) w137 fun x224 w138 =>
 pN Tryd.prog (oPick x214 (.bool true) x224) w138 fun x225 w139 =>
 pIf x225
 (pN Tryd.prog (oStore 4 x4 (.bool false)) w139 fun _ w140 =>
 mkW mr1 w140 fun w141 =>
 pL Tryd.prog (oRes 4 x4) w141 fun r4 =>
 Q r4 w141)
 (pN Tryd.prog (oConv 22 9 x102) w139 fun x227 w142 =>
 pN Tryd.prog (oConv 22 9 x1) w142 fun x229 w143 =>
 pN Tryd.prog (oBin .eql 9 (.tmp 227) (.tmp 229) x227 x229) w143 fun x230 w144 =>
 pGd (gB x230 true) (pN Tryd.prog (oMv x98) w144) w144 fun x232 w145 =>
 pGd (gB x230 true) (pN Tryd.prog (oMv x1) w145) w145 fun x233 w146 =>
 pGd (gB x230 true) (pN Tryd.prog (oBi .len #[22] 3 [false] [x233]) w146) w146 fun x234 w147 =>
 pGd (gB x230 true) (pN Tryd.prog (oIdx 22 x232 x234) w147) w147 fun x235 w148 =>
 pGd (gB x230 true) (pN Tryd.prog (oLoad 5 x235) w148) w148 fun x236 w149 =>
 pGd (gB x230 true) (pN Tryd.prog (oBin .eql 5 (.tmp 236) (.const (.int .u8 61)) x236 (bv 61)) w149) w149 fun x237 w150 =>
 pN Tryd.prog (oPick x230 x237 (.bool false)) w150 fun x238 w151 =>
 pGd (gB x238 true) (pN Tryd.prog (oCall 10 []) w151) w151 fun x240 w152 =>
 pN Tryd.prog (oPick x238 x240 (.bool false)) w152 fun x241 w153 =>
 pN Tryd.prog (oStore 4 x4 x241) w153 fun _ w154 =>
 mkW mr1 w154 fun w155 =>
 pL Tryd.prog (oRes 4 x4) w155 fun r4 =>
 Q r4 w155))
 (fun mr1 w110 =>
 mkW mr1 w110 fun w156 =>
 pL Tryd.prog (oRes 4 x4) w156 fun r4 =>
 Q r4 w156)
 []))))
noncomputable def pithlaw33_TarExactR.c : Code := match Tryd.f4.body with | some c => c | none => .skip
theorem pithlaw33_TarExactR.eq (x0 : Value) (x1 : Value) (w : World) (Q : Value → World → Prop) : cwR Tryd.prog pithlaw33_TarExactR.H pithlaw33_TarExactR.c none (endR Tryd.prog Tryd.f4.results.toList Q) (argsE [x0, x1]) [] w = pithlaw33_TarExactR.F x0 x1 w Q := by kernel_rfl
theorem pithlaw33_TarExactR.calls {x0 : Value} {x1 : Value} {w : World} {Q : Value → World → Prop} (h : pithlaw33_TarExactR.F x0 x1 w Q) : Calls Tryd.prog 4 #[x0, x1] w (@retP Pan.no Q) :=
  calls_of_cwR (H := pithlaw33_TarExactR.H) (c := pithlaw33_TarExactR.c) (args := [x0, x1]) mixed Tryd.func4 (by kernel_rfl) (by kernel_rfl) (Nat.le_of_ble_eq_true (by kernel_rfl)) ((pithlaw33_TarExactR.eq x0 x1 w Q).mpr h)

/-! pithlaw33_TarListsR: pith/pithlaw33.TarLists; temporaries: 0:l 1:l 3:b 4:e 5:held 6:want 7:keep 8:c 9:_ 10:w 11:_ 12:own 13:r 14:e 15:seq 16:n 17:inner 18:x 19:i 20:p 21:_ 22:k 23:i 24:half 25:i 26:i 27:k 28:long 29:i 30:i 31:k -/
def pithlaw33_TarListsR.H : Hints := { cut := fun | 27 => some ([], 4835703278458516698824704) | 46 => some ([], 95780971304118053644800540777298316718260030432608000) | _ => none, loop := fun | 8 => ([47], 191561942608236107292197229974192640694853438034149120) | 30 => ([128], 187072209578015291163150720124220851908527605153792) | 36 => ([155], 93490432863011196048841964142819729413615439052800) | 42 => ([169], 95032682465804631353276402562543587070107357682860032) | 49 => ([182], 26328072911009314511015951487484219971122537115662321324876890112) | 55 => ([216], 220855777785006372640725489674837130808003168214356969216089521051926528) | 58 => ([224], 110400981601981869959161426781345387608544106410303644310119284104757248) | 65 => ([28, 239], 14473127731132135235781581477335617022400834341256632695453137197889300201472) | 70 => ([255], 65185151242703496864545643371002389368154484253356033385364161559058181863634770644525121536) | 73 => ([263], 994646457998185861934291482076555599088860096376137397678935756735748241012188304637952) | _ => ([], 0), order := fun | 20 => [(0, 0), (1, 1), (2, 3), (3, 7), (4, 15), (5, 31), (6, 63), (7, 127), (8, 255), (9, 511), (10, 1023), (11, 2047), (12, 4095)] | 34 => [(0, 0), (1, 1), (2, 3), (3, 7), (4, 15), (5, 31), (6, 63)] | 51 => [(0, 0), (1, 1), (2, 3), (3, 7), (4, 15), (5, 31), (6, 63), (7, 127), (8, 255), (9, 511), (10, 1023), (11, 2047), (12, 4095), (13, 8191), (14, 16383), (15, 32767), (16, 65535), (17, 131071), (18, 262143), (19, 524287), (20, 1048575), (21, 2097151), (22, 4194303), (23, 8388607), (24, 16777215), (25, 33554431), (26, 67108863), (27, 134217727)] | 67 => [(0, 0), (1, 1), (2, 3), (3, 7), (4, 15), (5, 31), (6, 63), (7, 127), (8, 255), (9, 511), (10, 1023)] | 78 => [(0, 0), (1, 1), (2, 3), (3, 7), (4, 15), (5, 31), (6, 63), (7, 127), (8, 255), (9, 511), (10, 1023), (11, 2047), (12, 4095), (13, 8191), (14, 16383)] | _ => [] }
def pithlaw33_TarListsR.F (x0 : Value) (w : World) (Q : Value → World → Prop) : Prop :=
 pN Tryd.prog (oBox 34 x0) w fun x1 w1 =>
 pN Tryd.prog (oAlloc 4) w1 fun x2 w2 =>
 pN Tryd.prog (oLoad 34 x1) w2 fun x33 w3 =>
 pN Tryd.prog (oCall 15 [x33]) w3 fun x34 w4 =>
 pN Tryd.prog (oExt x34 0) w4 fun x35 w5 =>
 pN Tryd.prog (oExt x34 1) w5 fun x36 w6 =>
 pN Tryd.prog (oCall 9 [x36]) w6 fun x38 w7 =>
 pN Tryd.prog (oBin .neq 3 (.tmp 38) (.const (.int .i64 0)) x38 (.int .i64 0)) w7 fun x39 w8 =>
 pIf x39
 (pN Tryd.prog (oBi .len #[22] 3 [false] [x35]) w8 fun x41 w9 =>
 pN Tryd.prog (oBin .eql 3 (.tmp 41) (.const (.int .i64 0)) x41 (.int .i64 0)) w9 fun x42 w10 =>
 pGd (gB x42 true) (pN Tryd.prog (oCall 10 []) w10) w10 fun x44 w11 =>
 pN Tryd.prog (oPick x42 x44 (.bool false)) w11 fun x45 w12 =>
 pN Tryd.prog (oStore 4 x2 x45) w12 fun _ w13 =>
 mkW [] w13 fun w14 =>
 pL Tryd.prog (oRes 4 x2) w14 fun r2 =>
 Q r2 w14)
 (pN Tryd.prog (oAlloc 57) w8 fun x5 w15 =>
 pN Tryd.prog (oAlloc 58) w15 fun x6 w16 =>
 pN Tryd.prog (oFn (.func 24) [] [x5, x6]) w16 fun x46 w17 =>
 pN Tryd.prog (oAlloc 59) w17 fun x7 w18 =>
 pN Tryd.prog (oStore 59 x7 x46) w18 fun _ w19 =>
 ∃ (L8 : List Nat → Value → World → Prop) (m8 : Value → World → Nat),
 L8 [] (.int .i64 0) w19 ∧
 ∀ (_k8 : Env) (v47l8 : Value) (ms8 : List Nat) (w20 : World), L8 ms8 v47l8 w20 →
 pN Tryd.prog (oBin .lss 3 (.tmp 47) (.const (.int .i64 2)) v47l8 (.int .i64 2)) w20 fun x48 w21 =>
 pIf x48
 (∃ I46 : List Nat → World → Prop,
 (pN Tryd.prog (oLoad 34 x1) w21 fun x50 w22 =>
 pN Tryd.prog (oCall 13 [x50]) w22 fun x51 w23 =>
 pN Tryd.prog (oExt x51 0) w23 fun x52 w24 =>
 pN Tryd.prog (oExt x51 1) w24 fun _ w25 =>
 pN Tryd.prog (oCall 15 [x52]) w25 fun x56 w26 =>
 pN Tryd.prog (oExt x56 0) w26 fun x57 w27 =>
 pN Tryd.prog (oExt x56 1) w27 fun _ w28 =>
 pN Tryd.prog (oLoad 59 x7) w28 fun x59 w29 =>
 pY Tryd.prog (oCallV x59 [x57]) w29 fun _ w30 =>
 pN Tryd.prog (oBs 22 0 []) w30 fun x62 w31 =>
 pN Tryd.prog (oBi .append #[22, 22] 22 [false, false] [x62, x57]) w31 fun x64 w32 =>
 pN Tryd.prog (oCall 19 [x64]) w32 fun x67 w33 =>
 pN Tryd.prog (oExt x67 0) w33 fun x68 w34 =>
 pN Tryd.prog (oExt x67 1) w34 fun x69 w35 =>
 pN Tryd.prog (oCall 9 [x69]) w35 fun x71 w36 =>
 pN Tryd.prog (oBin .neq 3 (.tmp 71) (.const (.int .i64 0)) x71 (.int .i64 0)) w36 fun x72 w37 =>
 pGd (gB x72 false) (pN Tryd.prog (oMv x68) w37) w37 fun x74 w38 =>
 pGd (gB x72 false) (pN Tryd.prog (oBi .len #[34] 3 [false] [x74]) w38) w38 fun x75 w39 =>
 pGd (gB x72 false) (pN Tryd.prog (oLoad 34 x1) w39) w39 fun x76 w40 =>
 pGd (gB x72 false) (pN Tryd.prog (oBi .len #[34] 3 [false] [x76]) w40) w40 fun x77 w41 =>
 pGd (gB x72 false) (pN Tryd.prog (oBin .neq 3 (.tmp 75) (.tmp 77) x75 x77) w41) w41 fun x78 w42 =>
 pN Tryd.prog (oPick x72 (.bool true) x78) w42 fun x79 w43 =>
 pIf x79
 (pN Tryd.prog (oStore 4 x2 (.bool false)) w43 fun _ w44 =>
 mkW ms8 w44 fun w45 =>
 pL Tryd.prog (oRes 4 x2) w45 fun r2 =>
 Q r2 w45)
 (pN Tryd.prog (oCall 23 [x64]) w43 fun x81 w46 =>
 pN Tryd.prog (oAlloc 51) w46 fun x15 w47 =>
 pN Tryd.prog (oStore 51 x15 x81) w47 fun _ w48 =>
 pN Tryd.prog (oAlloc 3) w48 fun x16 w49 =>
 pN Tryd.prog (oAlloc 3) w49 fun x17 w50 =>
 pN Tryd.prog (oStore 3 x16 (.int .i64 0)) w50 fun _ w51 =>
 pN Tryd.prog (oStore 3 x17 (.int .i64 0)) w51 fun _ w52 =>
 ∃ I27 : List Nat → World → Prop,
 (pN Tryd.prog (oLoad 51 x15) w52 fun x82 w53 =>
 rfW Tryd.prog none ms8 w53 x82 2 (fun l1 rc1 as1 w54 K1 =>
 pN Tryd.prog (oAlloc 24) w54 fun x18 w57 =>
 pN Tryd.prog (oStore 24 x18 (nthV as1 0)) w57 fun _ w58 =>
 bgW l1 rc1 w58 fun w55 =>
 pDr w55 fun w59 =>
 pL Tryd.prog (oLoad 3 x16) w59 fun x85 =>
 pL Tryd.prog (oLoad 34 x1) w59 fun x86 =>
 pA Tryd.prog (oBi .len #[34] 3 [false] [x86]) fun x87 =>
 pA Tryd.prog (oBin .geq 3 (.tmp 85) (.tmp 87) x85 x87) fun x88 =>
 gA (gB x88 false) (pL Tryd.prog (oLoad 24 x18) w59) fun x90 =>
 gA (gB x88 false) (pL Tryd.prog (oLoad 34 x1) w59) fun x91 =>
 gA (gB x88 false) (pL Tryd.prog (oLoad 3 x16) w59) fun x92 =>
 gA (gB x88 false) (pA Tryd.prog (oIdx 34 x91 x92)) fun x93 =>
 gA (gB x88 false) (pL Tryd.prog (oLoad 24 x93) w59) fun x94 =>
 pGd (gB x88 false) (pN Tryd.prog (oCall 12 [x90, x94]) w59) w59 fun x95 w60 =>
 (True) ∧ (gA (gB x88 false) (pA Tryd.prog (oUn .not x95)) fun x96 =>
 pA Tryd.prog (oPick x88 (.bool true) x96) fun x97 =>
 pIf x97
 (pN Tryd.prog (oStore 4 x2 (.bool false)) w60 fun _ w61 =>
 enW l1 rc1 (some .ret) K1 w61)
 (pN Tryd.prog (oLoad 59 x7) w60 fun x98 w62 =>
 pN Tryd.prog (oFld 24 x18 5) w62 fun x99 w63 =>
 pN Tryd.prog (oLoad 22 x99) w63 fun x100 w64 =>
 pY Tryd.prog (oCallV x98 [x100]) w64 fun _ w65 =>
 pN Tryd.prog (oLoad 3 x16) w65 fun x102 w66 =>
 pN Tryd.prog (oBin .add 3 (.tmp 102) (.const (.int .i64 1)) x102 (.int .i64 1)) w66 fun x103 w67 =>
 pN Tryd.prog (oStore 3 x16 x103) w67 fun _ w68 =>
 pN Tryd.prog (oLoad 3 x16) w68 fun x104 w69 =>
 pN Tryd.prog (oBin .gtr 3 (.tmp 104) (.const (.int .i64 2)) x104 (.int .i64 2)) w69 fun x105 w70 =>
 pIf x105
 (enW l1 rc1 (some (.exit 2)) K1 w70)
 (pN Tryd.prog (oLoad 51 x15) w70 fun x106 w71 =>
 rfW Tryd.prog (some l1) [] w71 x106 2 (fun l2 rc2 as2 w72 K2 =>
 bgW l2 rc2 w72 fun w73 =>
 pN Tryd.prog (oLoad 3 x17) w73 fun x109 w75 =>
 pN Tryd.prog (oBin .add 3 (.tmp 109) (.const (.int .i64 1)) x109 (.int .i64 1)) w75 fun x110 w76 =>
 pN Tryd.prog (oStore 3 x17 x110) w76 fun _ w77 =>
 enW l2 rc2 none K2 w77)
 (fun mr2 w74 =>
 enW l1 rc1 none K1 w74)
 (fun mr2 w74 =>
 enW l1 rc1 (some .ret) K1 w74)
 []))))
 (fun mr1 w56 =>
 I27 mr1 w56)
 (fun mr1 w56 =>
 mkW mr1 w56 fun w78 =>
 pL Tryd.prog (oRes 4 x2) w78 fun r2 =>
 Q r2 w78)
 [(2, fun mr1 w56 => I27 mr1 w56)]) ∧
 ∀ (_j27 : Env) (ms27 : List Nat) (w79 : World), I27 ms27 w79 →
 pN Tryd.prog (oLoad 3 x16) w79 fun x111 w80 =>
 pN Tryd.prog (oLoad 34 x1) w80 fun x112 w81 =>
 pN Tryd.prog (oBi .len #[34] 3 [false] [x112]) w81 fun x113 w82 =>
 pN Tryd.prog (oBi .min #[3, 3] 3 [false, true] [x113, (.int .i64 3)]) w82 fun x114 w83 =>
 pN Tryd.prog (oBin .neq 3 (.tmp 111) (.tmp 114) x111 x114) w83 fun x115 w84 =>
 pGd (gB x115 false) (pN Tryd.prog (oLoad 3 x17) w84) w84 fun x117 w85 =>
 pGd (gB x115 false) (pN Tryd.prog (oLoad 34 x1) w85) w85 fun x118 w86 =>
 pGd (gB x115 false) (pN Tryd.prog (oBi .len #[34] 3 [false] [x118]) w86) w86 fun x119 w87 =>
 pGd (gB x115 false) (pN Tryd.prog (oBi .min #[3, 3] 3 [false, true] [x119, (.int .i64 2)]) w87) w87 fun x120 w88 =>
 pGd (gB x115 false) (pN Tryd.prog (oLoad 34 x1) w88) w88 fun x121 w89 =>
 pGd (gB x115 false) (pN Tryd.prog (oBi .len #[34] 3 [false] [x121]) w89) w89 fun x122 w90 =>
 pGd (gB x115 false) (pN Tryd.prog (oBin .mul 3 (.tmp 120) (.tmp 122) x120 x122) w90) w90 fun x123 w91 =>
 pGd (gB x115 false) (pN Tryd.prog (oBin .neq 3 (.tmp 117) (.tmp 123) x117 x123) w91) w91 fun x124 w92 =>
 pN Tryd.prog (oPick x115 (.bool true) x124) w92 fun x125 w93 =>
 pIf x125
 (pN Tryd.prog (oStore 4 x2 (.bool false)) w93 fun _ w94 =>
 mkW ms27 w94 fun w95 =>
 pL Tryd.prog (oRes 4 x2) w95 fun r2 =>
 Q r2 w95)
 (pN Tryd.prog (oLoad 34 x1) w93 fun x126 w96 =>
 pN Tryd.prog (oBi .len #[34] 3 [false] [x126]) w96 fun x127 w97 =>
 ∃ (L30 : List Nat → Value → World → Prop) (m30 : Value → World → Nat),
 L30 ms27 (.int .i64 0) w97 ∧
 ∀ (_k30 : Env) (v128l30 : Value) (ms30 : List Nat) (w98 : World), L30 ms30 v128l30 w98 →
 pN Tryd.prog (oBin .lss 3 (.tmp 128) (.tmp 127) v128l30 x127) w98 fun x129 w99 =>
 pIf x129
 (pN Tryd.prog (oIdx 34 x52 v128l30) w99 fun x134 w100 =>
 pN Tryd.prog (oLoad 24 x134) w100 fun x135 w101 =>
 pN Tryd.prog (oCall 8 [x135]) w101 fun x136 w102 =>
 pN Tryd.prog (oExt x136 0) w102 fun x137 w103 =>
 pN Tryd.prog (oExt x136 1) w103 fun _ w104 =>
 pN Tryd.prog (oLoad 59 x7) w104 fun x139 w105 =>
 pY Tryd.prog (oCallV x139 [x137]) w105 fun _ w106 =>
 pDr w106 fun w107 =>
 pL Tryd.prog (oLoad 59 x7) w107 fun x142 =>
 pA Tryd.prog (oIdx 34 x68 v128l30) fun x145 =>
 pA Tryd.prog (oFld 24 x145 5) fun x146 =>
 pL Tryd.prog (oLoad 22 x146) w107 fun x147 =>
 pY Tryd.prog (oCallV x142 [x147]) w107 fun _ w108 =>
 (True) ∧ (pN Tryd.prog (oIdx 34 x52 v128l30) w108 fun x151 w109 =>
 pN Tryd.prog (oFld 24 x151 5) w109 fun x152 w110 =>
 pN Tryd.prog (oLoad 22 x152) w110 fun x153 w111 =>
 pN Tryd.prog (oBi .len #[22] 3 [false] [x153]) w111 fun x154 w112 =>
 ∃ (L36 : List Nat → Value → World → Prop) (m36 : Value → World → Nat),
 L36 ms30 (.int .i64 0) w112 ∧
 ∀ (_k36 : Env) (v155l36 : Value) (ms36 : List Nat) (w113 : World), L36 ms36 v155l36 w113 →
 pN Tryd.prog (oBin .lss 3 (.tmp 155) (.tmp 154) v155l36 x154) w113 fun x156 w114 =>
 pIf x156
 (pN Tryd.prog (oIdx 34 x52 v128l30) w114 fun x160 w115 =>
 pN Tryd.prog (oFld 24 x160 5) w115 fun x161 w116 =>
 pN Tryd.prog (oLoad 22 x161) w116 fun x162 w117 =>
 pN Tryd.prog (oIdx 22 x162 v155l36) w117 fun x164 w118 =>
 pN Tryd.prog (oStore 5 x164 (bv 209)) w118 fun _ w119 =>
 pN Tryd.prog (oBin .add 3 (.tmp 155) (.const (.int .i64 1)) v155l36 (.int .i64 1)) w119 fun x165 w120 =>
 (L36 ms36 x165 w120 ∧ m36 x165 w120 < m36 v155l36 w113))
 (pN Tryd.prog (oBin .add 3 (.tmp 128) (.const (.int .i64 1)) v128l30 (.int .i64 1)) w114 fun x166 w121 =>
 (L30 ms36 x166 w121 ∧ m30 x166 w121 < m30 v128l30 w98))))
 (pN Tryd.prog (oBi .len #[22] 3 [false] [x64]) w99 fun x168 w122 =>
 ∃ (L42 : List Nat → Value → World → Prop) (m42 : Value → World → Nat),
 L42 ms30 (.int .i64 0) w122 ∧
 ∀ (_k42 : Env) (v169l42 : Value) (ms42 : List Nat) (w123 : World), L42 ms42 v169l42 w123 →
 pN Tryd.prog (oBin .lss 3 (.tmp 169) (.tmp 168) v169l42 x168) w123 fun x170 w124 =>
 pIf x170
 (pN Tryd.prog (oIdx 22 x64 v169l42) w124 fun x174 w125 =>
 pN Tryd.prog (oStore 5 x174 (bv 210)) w125 fun _ w126 =>
 pN Tryd.prog (oBin .add 3 (.tmp 169) (.const (.int .i64 1)) v169l42 (.int .i64 1)) w126 fun x175 w127 =>
 (L42 ms42 x175 w127 ∧ m42 x175 w127 < m42 v169l42 w123))
 (I46 ms42 w124))))) ∧
 ∀ (_j46 : Env) (ms46 : List Nat) (w128 : World), I46 ms46 w128 →
 pN Tryd.prog (oBin .add 3 (.tmp 47) (.const (.int .i64 1)) v47l8 (.int .i64 1)) w128 fun x176 w129 =>
 (L8 ms46 x176 w129 ∧ m8 x176 w129 < m8 v47l8 w20))
 (pN Tryd.prog (oLoad 57 x5) w21 fun x177 w130 =>
 pN Tryd.prog (oBi .len #[57] 3 [false] [x177]) w130 fun x178 w131 =>
 pN Tryd.prog (oBin .quo 3 (.tmp 178) (.const (.int .i64 2)) x178 (.int .i64 2)) w131 fun x179 w132 =>
 pN Tryd.prog (oLoad 57 x5) w132 fun x180 w133 =>
 pN Tryd.prog (oBi .len #[57] 3 [false] [x180]) w133 fun x181 w134 =>
 ∃ (L49 : List Nat → Value → World → Prop) (m49 : Value → World → Nat),
 L49 ms8 (.int .i64 0) w134 ∧
 ∀ (_k49 : Env) (v182l49 : Value) (ms49 : List Nat) (w135 : World), L49 ms49 v182l49 w135 →
 pN Tryd.prog (oBin .lss 3 (.tmp 182) (.tmp 181) v182l49 x181) w135 fun x183 w136 =>
 pIf x183
 (pDr w136 fun w137 =>
 pL Tryd.prog (oLoad 57 x5) w137 fun x185 =>
 pA Tryd.prog (oIdx 57 x185 v182l49) fun x187 =>
 pL Tryd.prog (oLoad 22 x187) w137 fun x188 =>
 pL Tryd.prog (oConv 22 9 x188) w137 fun x189 =>
 pL Tryd.prog (oLoad 58 x6) w137 fun x190 =>
 pA Tryd.prog (oIdx 58 x190 v182l49) fun x192 =>
 pL Tryd.prog (oLoad 9 x192) w137 fun x193 =>
 pA Tryd.prog (oBin .neq 9 (.tmp 189) (.tmp 193) x189 x193) fun x194 =>
 gA (gB x194 false) (pA Tryd.prog (oMv v182l49)) fun x196 =>
 gA (gB x194 false) (pA Tryd.prog (oMv x179)) fun x197 =>
 gA (gB x194 false) (pA Tryd.prog (oBin .lss 3 (.tmp 196) (.tmp 197) x196 x197)) fun x198 =>
 gA (gB x194 false) (pA Tryd.prog (oMv x198)) fun x199 =>
 gA (gB x199 true) (pL Tryd.prog (oLoad 58 x6) w137) fun x200 =>
 gA (gB x199 true) (pA Tryd.prog (oMv v182l49)) fun x201 =>
 gA (gB x199 true) (pA Tryd.prog (oIdx 58 x200 x201)) fun x202 =>
 gA (gB x199 true) (pL Tryd.prog (oLoad 9 x202) w137) fun x203 =>
 gA (gB x199 true) (pL Tryd.prog (oLoad 58 x6) w137) fun x204 =>
 gA (gB x199 true) (pA Tryd.prog (oMv v182l49)) fun x205 =>
 gA (gB x199 true) (pA Tryd.prog (oMv x179)) fun x206 =>
 gA (gB x199 true) (pA Tryd.prog (oBin .add 3 (.tmp 205) (.tmp 206) x205 x206)) fun x207 =>
 gA (gB x199 true) (pA Tryd.prog (oIdx 58 x204 x207)) fun x208 =>
 gA (gB x199 true) (pL Tryd.prog (oLoad 9 x208) w137) fun x209 =>
 gA (gB x199 true) (pA Tryd.prog (oBin .neq 9 (.tmp 203) (.tmp 209) x203 x209)) fun x210 =>
 gA (gB x194 false) (pA Tryd.prog (oPick x199 x210 (.bool false))) fun x211 =>
 pA Tryd.prog (oPick x194 (.bool true) x211) fun x212 =>
 pIf x212
 (pN Tryd.prog (oStore 4 x2 (.bool false)) w137 fun _ w138 =>
 mkW ms49 w138 fun w139 =>
 pL Tryd.prog (oRes 4 x2) w139 fun r2 =>
 Q r2 w139)
 (pN Tryd.prog (oBin .add 3 (.tmp 182) (.const (.int .i64 1)) v182l49 (.int .i64 1)) w137 fun x213 w140 =>
 (L49 ms49 x213 w140 ∧ m49 x213 w140 < m49 v182l49 w135)))
 (pN Tryd.prog (oLoad 57 x5) w136 fun x214 w141 =>
 pN Tryd.prog (oBi .len #[57] 3 [false] [x214]) w141 fun x215 w142 =>
 ∃ (L55 : List Nat → Value → World → Prop) (m55 : Value → World → Nat),
 L55 ms49 (.int .i64 0) w142 ∧
 ∀ (_k55 : Env) (v216l55 : Value) (ms55 : List Nat) (w143 : World), L55 ms55 v216l55 w143 →
 pN Tryd.prog (oBin .lss 3 (.tmp 216) (.tmp 215) v216l55 x215) w143 fun x217 w144 =>
 pIf x217
 (pN Tryd.prog (oLoad 57 x5) w144 fun x219 w145 =>
 pN Tryd.prog (oIdx 57 x219 v216l55) w145 fun x221 w146 =>
 pN Tryd.prog (oLoad 22 x221) w146 fun x222 w147 =>
 pN Tryd.prog (oBi .len #[22] 3 [false] [x222]) w147 fun x223 w148 =>
 ∃ (L58 : List Nat → Value → World → Prop) (m58 : Value → World → Nat),
 L58 ms55 (.int .i64 0) w148 ∧
 ∀ (_k58 : Env) (v224l58 : Value) (ms58 : List Nat) (w149 : World), L58 ms58 v224l58 w149 →
 pN Tryd.prog (oBin .lss 3 (.tmp 224) (.tmp 223) v224l58 x223) w149 fun x225 w150 =>
 pIf x225
 (pN Tryd.prog (oLoad 57 x5) w150 fun x227 w151 =>
 pN Tryd.prog (oIdx 57 x227 v216l55) w151 fun x229 w152 =>
 pN Tryd.prog (oLoad 22 x229) w152 fun x230 w153 =>
 pN Tryd.prog (oConv 3 5 v216l55) w153 fun x233 w154 =>
 pN Tryd.prog (oIdx 22 x230 v224l58) w154 fun x234 w155 =>
 pN Tryd.prog (oStore 5 x234 x233) w155 fun _ w156 =>
 pN Tryd.prog (oBin .add 3 (.tmp 224) (.const (.int .i64 1)) v224l58 (.int .i64 1)) w156 fun x235 w157 =>
 (L58 ms58 x235 w157 ∧ m58 x235 w157 < m58 v224l58 w149))
 (pN Tryd.prog (oBin .add 3 (.tmp 216) (.const (.int .i64 1)) v216l55 (.int .i64 1)) w150 fun x236 w158 =>
 (L55 ms58 x236 w158 ∧ m55 x236 w158 < m55 v216l55 w143)))
 (pN Tryd.prog (oLoad 57 x5) w144 fun x237 w159 =>
 pN Tryd.prog (oBi .len #[57] 3 [false] [x237]) w159 fun x238 w160 =>
 ∃ (L65 : List Nat → Value → Value → World → Prop) (m65 : Value → Value → World → Nat),
 L65 ms55 (.slice none 0 0) (.int .i64 0) w160 ∧
 ∀ (_k65 : Env) (long28l65 : Value) (v239l65 : Value) (ms65 : List Nat) (w161 : World), L65 ms65 long28l65 v239l65 w161 →
 pN Tryd.prog (oBin .lss 3 (.tmp 239) (.tmp 238) v239l65 x238) w161 fun x240 w162 =>
 pIf x240
 (pDr w162 fun w163 =>
 pL Tryd.prog (oLoad 57 x5) w163 fun x243 =>
 pA Tryd.prog (oIdx 57 x243 v239l65) fun x245 =>
 pL Tryd.prog (oLoad 22 x245) w163 fun x246 =>
 pN Tryd.prog (oCall 25 [v239l65]) w163 fun x248 w164 =>
 ((Sem.run Tryd.prog (oLoad 22 x245) w164 = .ok (.value x246) w164) ∧ (Sem.run Tryd.prog (oLoad 57 x5) w164 = .ok (.value x243) w164) ∧ True) ∧ (pN Tryd.prog (oBi .append #[22, 22] 22 [false, false] [x246, x248]) w164 fun x249 w165 =>
 (True) ∧ (pN Tryd.prog (oBs 57 1 [(0, x249)]) w165 fun x250 w166 =>
 (True) ∧ (pN Tryd.prog (oBi .append #[57, 57] 57 [false, false] [long28l65, x250]) w166 fun x251 w167 =>
 (True) ∧ (pN Tryd.prog (oBin .add 3 (.tmp 239) (.const (.int .i64 1)) v239l65 (.int .i64 1)) w167 fun x252 w168 =>
 (L65 ms65 x251 x252 w168 ∧ m65 x251 x252 w168 < m65 long28l65 v239l65 w161))))))
 (pN Tryd.prog (oLoad 57 x5) w162 fun x253 w169 =>
 pN Tryd.prog (oBi .len #[57] 3 [false] [x253]) w169 fun x254 w170 =>
 ∃ (L70 : List Nat → Value → World → Prop) (m70 : Value → World → Nat),
 L70 ms65 (.int .i64 0) w170 ∧
 ∀ (_k70 : Env) (v255l70 : Value) (ms70 : List Nat) (w171 : World), L70 ms70 v255l70 w171 →
 pN Tryd.prog (oBin .lss 3 (.tmp 255) (.tmp 254) v255l70 x254) w171 fun x256 w172 =>
 pIf x256
 (pN Tryd.prog (oLoad 57 x5) w172 fun x258 w173 =>
 pN Tryd.prog (oIdx 57 x258 v255l70) w173 fun x260 w174 =>
 pN Tryd.prog (oLoad 22 x260) w174 fun x261 w175 =>
 pN Tryd.prog (oBi .len #[22] 3 [false] [x261]) w175 fun x262 w176 =>
 ∃ (L73 : List Nat → Value → World → Prop) (m73 : Value → World → Nat),
 L73 ms70 (.int .i64 0) w176 ∧
 ∀ (_k73 : Env) (v263l73 : Value) (ms73 : List Nat) (w177 : World), L73 ms73 v263l73 w177 →
 pN Tryd.prog (oBin .lss 3 (.tmp 263) (.tmp 262) v263l73 x262) w177 fun x264 w178 =>
 pIf x264
 (pN Tryd.prog (oLoad 57 x5) w178 fun x266 w179 =>
 pN Tryd.prog (oIdx 57 x266 v255l70) w179 fun x268 w180 =>
 pN Tryd.prog (oLoad 22 x268) w180 fun x269 w181 =>
 pN Tryd.prog (oIdx 22 x269 v263l73) w181 fun x271 w182 =>
 pN Tryd.prog (oLoad 5 x271) w182 fun x272 w183 =>
 pN Tryd.prog (oConv 3 5 v255l70) w183 fun x274 w184 =>
 pN Tryd.prog (oBin .neq 5 (.tmp 272) (.tmp 274) x272 x274) w184 fun x275 w185 =>
 pGd (gB x275 false) (pN Tryd.prog (oMv long28l65) w185) w185 fun x277 w186 =>
 pGd (gB x275 false) (pN Tryd.prog (oMv v255l70) w186) w186 fun x278 w187 =>
 pGd (gB x275 false) (pN Tryd.prog (oIdx 57 x277 x278) w187) w187 fun x279 w188 =>
 pGd (gB x275 false) (pN Tryd.prog (oLoad 22 x279) w188) w188 fun x280 w189 =>
 pGd (gB x275 false) (pN Tryd.prog (oMv v263l73) w189) w189 fun x281 w190 =>
 pGd (gB x275 false) (pN Tryd.prog (oIdx 22 x280 x281) w190) w190 fun x282 w191 =>
 pGd (gB x275 false) (pN Tryd.prog (oLoad 5 x282) w191) w191 fun x283 w192 =>
 pGd (gB x275 false) (pN Tryd.prog (oMv v255l70) w192) w192 fun x284 w193 =>
 pGd (gB x275 false) (pN Tryd.prog (oConv 3 5 x284) w193) w193 fun x285 w194 =>
 pGd (gB x275 false) (pN Tryd.prog (oBin .neq 5 (.tmp 283) (.tmp 285) x283 x285) w194) w194 fun x286 w195 =>
 pN Tryd.prog (oPick x275 (.bool true) x286) w195 fun x287 w196 =>
 pIf x287
 (pN Tryd.prog (oStore 4 x2 (.bool false)) w196 fun _ w197 =>
 mkW ms73 w197 fun w198 =>
 pL Tryd.prog (oRes 4 x2) w198 fun r2 =>
 Q r2 w198)
 (pN Tryd.prog (oBin .add 3 (.tmp 263) (.const (.int .i64 1)) v263l73 (.int .i64 1)) w196 fun x288 w199 =>
 (L73 ms73 x288 w199 ∧ m73 x288 w199 < m73 v263l73 w177)))
 (pDr w178 fun w200 =>
 pA Tryd.prog (oIdx 57 long28l65 v255l70) fun x291 =>
 pL Tryd.prog (oLoad 22 x291) w200 fun x292 =>
 pL Tryd.prog (oLoad 57 x5) w200 fun x293 =>
 pA Tryd.prog (oIdx 57 x293 v255l70) fun x295 =>
 pL Tryd.prog (oLoad 22 x295) w200 fun x296 =>
 pA Tryd.prog (oBi .len #[22] 3 [false] [x296]) fun x297 =>
 pA Tryd.prog (oSl 22 x292 (some x297) none none) fun x298 =>
 pL Tryd.prog (oConv 22 9 x298) w200 fun x299 =>
 pN Tryd.prog (oCall 25 [v255l70]) w200 fun x301 w201 =>
 ((Sem.run Tryd.prog (oConv 22 9 x298) w201 = .ok (.value x299) w201) ∧ (Sem.run Tryd.prog (oLoad 22 x295) w201 = .ok (.value x296) w201) ∧ (Sem.run Tryd.prog (oLoad 57 x5) w201 = .ok (.value x293) w201) ∧ (Sem.run Tryd.prog (oLoad 22 x291) w201 = .ok (.value x292) w201) ∧ True) ∧ (pL Tryd.prog (oConv 22 9 x301) w201 fun x302 =>
 pA Tryd.prog (oBin .neq 9 (.tmp 299) (.tmp 302) x299 x302) fun x303 =>
 pIf x303
 (pN Tryd.prog (oStore 4 x2 (.bool false)) w201 fun _ w202 =>
 mkW ms73 w202 fun w203 =>
 pL Tryd.prog (oRes 4 x2) w203 fun r2 =>
 Q r2 w203)
 (pN Tryd.prog (oBin .add 3 (.tmp 255) (.const (.int .i64 1)) v255l70 (.int .i64 1)) w201 fun x304 w204 =>
 (L70 ms73 x304 w204 ∧ m70 x304 w204 < m70 v255l70 w171)))))
 (pN Tryd.prog (oCall 10 []) w172 fun x305 w205 =>
 pN Tryd.prog (oStore 4 x2 x305) w205 fun _ w206 =>
 mkW ms70 w206 fun w207 =>
 pL Tryd.prog (oRes 4 x2) w207 fun r2 =>
 Q r2 w207))))))
noncomputable def pithlaw33_TarListsR.c : Code := match Tryd.f7.body with | some c => c | none => .skip
theorem pithlaw33_TarListsR.eq (x0 : Value) (w : World) (Q : Value → World → Prop) : cwR Tryd.prog pithlaw33_TarListsR.H pithlaw33_TarListsR.c none (endR Tryd.prog Tryd.f7.results.toList Q) (argsE [x0]) [] w = pithlaw33_TarListsR.F x0 w Q := by kernel_rfl
theorem pithlaw33_TarListsR.calls {x0 : Value} {w : World} {Q : Value → World → Prop} (h : pithlaw33_TarListsR.F x0 w Q) : Calls Tryd.prog 7 #[x0] w (@retP Pan.no Q) :=
  calls_of_cwR (H := pithlaw33_TarListsR.H) (c := pithlaw33_TarListsR.c) (args := [x0]) mixed Tryd.func7 (by kernel_rfl) (by kernel_rfl) (Nat.le_of_ble_eq_true (by kernel_rfl)) ((pithlaw33_TarListsR.eq x0 w Q).mpr h)

end Go.Proofs.YteeepkimnpabiaaDoor
