/-
  How a header is read: each field; Get.
-/
import Derived.Test.YteeepkimnpabiaaDoorTarK
import Derived.Test.YteeepkimnpabiaaDoorTarS
import Derived.Test.YteeepkimnpabiaaDoorPart
namespace Go.Proofs.YteeepkimnpabiaaDoor
open Go
set_option linter.unusedSimpArgs false
set_option linter.unnecessarySimpa false
set_option linter.unusedSectionVars false
set_option linter.unusedVariables false

namespace A
theorem text_len : ∀ (l : List UInt8), (text l).length ≤ l.length
  | [] => Nat.le_refl _
  | c :: l => by
    have := text_len l
    rw [text]
    split
    · simp
    · simp only [List.length_cons]; omega
/-- What stands in a field of a header. -/
def fS (k : Nat) (l : List UInt8) : List UInt8 := (l.drop (fAt k)).take (fAt k + fN k - fAt k)
theorem fS_len {l : List UInt8} (h : 512 ≤ l.length) {k : Nat} (hk : k < 12) : (fS k l).length = fN k := by
  have := fAt_end k hk
  rw [fS, List.length_take, List.length_drop]
  omega
/-- A field read. -/
def readK (l : List UInt8) : Nat → T_api_Item × Int → T_api_Item × Int
  | 0, p => ({ p.1 with Name := text (fS 0 l) }, p.2)
  | 1, p => ({ p.1 with Mode := num ((fS 1 l).take (8 - 1)) }, p.2)
  | 4, p => (p.1, num ((fS 4 l).take (12 - 1)))
  | 5, p => ({ p.1 with Time := num ((fS 5 l).take (12 - 1)) }, p.2)
  | 6, p => ({ p.1 with Kind := ixb [48, 53, 50] ((fS 6 l).getD 0 0) }, p.2)
  | 7, p => ({ p.1 with Link := text (fS 7 l) }, p.2)
  | 11, p => (if text (fS 11 l) = [] then p.1 else { p.1 with Name := text (fS 11 l) ++ (47 :: p.1.Name) }, p.2)
  | _, p => p
def readTo (l : List UInt8) : Nat → T_api_Item × Int
  | 0 => (T_api_Item.zero, 0)
  | k + 1 => readK l k (readTo l k)
theorem readTo_next (l : List UInt8) (k : Nat) : readTo l (k + 1) = readK l k (readTo l k) := rfl
theorem readTo_1 {l : List UInt8} (hl : 512 ≤ l.length) : ∀ k, k ≤ 11 → (readTo l k).1.Name.length ≤ 100
  | 0, _ => Nat.zero_le _
  | 1, _ => by
    have := text_len (fS 0 l)
    rw [fS_len hl (by omega)] at this
    exact this
  | 2, h => readTo_1 hl 1 (by omega)
  | 3, h => readTo_1 hl 1 (by omega)
  | 4, h => readTo_1 hl 1 (by omega)
  | 5, h => readTo_1 hl 1 (by omega)
  | 6, h => readTo_1 hl 1 (by omega)
  | 7, h => readTo_1 hl 1 (by omega)
  | 8, h => readTo_1 hl 1 (by omega)
  | 9, h => readTo_1 hl 1 (by omega)
  | 10, h => readTo_1 hl 1 (by omega)
  | 11, h => readTo_1 hl 1 (by omega)
  | k + 12, h => by omega
theorem readTo_bd {l : List UInt8} (hl : 512 ≤ l.length) : (readTo l 12).1.Name.length ≤ 256 ∧ (readTo l 12).1.Link.length ≤ 100 ∧ 0 ≤ (readTo l 12).2 ∧ (readTo l 12).2 < 8589934592 ∧ (readTo l 12).1.Data = (⟨none, 0⟩, []) := by
  have h0 := readTo_1 hl 11 (by omega)
  have hp := text_len (fS 11 l)
  have h7 := text_len (fS 7 l)
  rw [fS_len hl (by omega)] at hp h7
  have hp : (text (fS 11 l)).length ≤ 155 := hp
  have h7 : (text (fS 7 l)).length ≤ 100 := h7
  have hn := num_bd 11 ((fS 4 l).take (12 - 1)) (by rw [List.length_take, fS_len hl (by omega)]; rfl)
  have e : readTo l 12 = readK l 11 (readTo l 11) := rfl
  have e2 : (readTo l 11).2 = num ((fS 4 l).take (12 - 1)) := rfl
  have e3 : (readTo l 11).1.Link = text (fS 7 l) := rfl
  have e4 : (readTo l 11).1.Data = (⟨none, 0⟩, []) := rfl
  have e8 : (8 : Int) ^ 11 = 8589934592 := by decide
  rw [e]
  generalize readTo l 11 = p at *
  simp only [readK]
  split
  · exact ⟨by omega, by rw [e3]; exact h7, by rw [e2]; exact hn.1, by rw [e2]; omega, e4⟩
  · refine ⟨?_, by show p.1.Link.length ≤ _; rw [e3]; exact h7, by rw [e2]; exact hn.1, by rw [e2]; omega, e4⟩
    simp only [List.length_append, List.length_cons]
    omega
def Zs (l : List UInt8) : Prop := ∀ b ∈ l, b = 0
instance (l : List UInt8) : Decidable (Zs l) := inferInstanceAs (Decidable (∀ b ∈ l, b = 0))
/-- What Get answers: the error; how many bytes; the item's data. -/
def getE2 (l : List UInt8) (x : T_api_Item) (n : Int) : Int :=
  if wrong x ≠ 0 ∨ (x.Kind ≠ 0 ∧ 0 < n) ∨ header x n ≠ l.take 512 then 2
  else if l.length < 512 + n.toNat + padn n.toNat then 1
  else if Zs ((l.drop (512 + n.toNat)).take (512 + n.toNat + padn n.toNat - (512 + n.toNat))) then 0 else 2
def getE (l : List UInt8) : Int :=
  if l.length < 512 then 1
  else if (l.drop 148).take (156 - 148) ≠ sumField l then 3
  else getE2 l (readTo l 12).1 (readTo l 12).2
def getN (l : List UInt8) : Nat := 512 + (readTo l 12).2.toNat + padn (readTo l 12).2.toNat
def getL (l : List UInt8) : List UInt8 := (l.drop 512).take (512 + (readTo l 12).2.toNat - 512)
def getX (l : List UInt8) (s : Sl) : T_api_Item := { (readTo l 12).1 with Data := (s, getL l) }
end A
theorem readK_none : ∀ (k : Nat), rf k = none → ∀ (l : List UInt8) (p : T_api_Item × Int), A.readK l k p = p
  | 0, h, _, _ => by cases h
  | 1, h, _, _ => by cases h
  | 2, _, _, _ => rfl
  | 3, _, _, _ => rfl
  | 4, h, _, _ => by cases h
  | 5, h, _, _ => by cases h
  | 6, h, _, _ => by cases h
  | 7, h, _, _ => by cases h
  | 8, _, _, _ => rfl
  | 9, _, _, _ => rfl
  | 10, _, _, _ => rfl
  | 11, h, _, _ => by cases h
  | k + 12, _, _, _ => rfl

attribute [local irreducible] oMv oV oU oCall oCallV oBi oBin oUn oLoad oStore oNil oFld oField oIdx oIndex oPick oAlloc oBox oBuild oBs oConv oMk oSl oExt oFn oIface oMap oLook oMapUp oRange oNext oAssert oPanic oRes pN pA pL pDr pIf gA pGd Calls A.made A.header A.oct A.wrong A.padn A.putB A.fS A.num A.text A.readTo
section
variable [Pan] {E w : World} {K Q : Value → World → Prop} {L M : List HA} {l r : List UInt8} {s s2 : Sl}

instance fnyR : FnY Tryd.prog 71 := ⟨⟨_, _, _, Tryd.underlying71⟩⟩
theorem rf_call (k g : Nat) (h : rf k = some g) (args : Array Value) (w : World) : (callFunc g args).run Tryd.prog w = .ok (.enter g args) w := by
  unfold rf at h
  split at h <;> cases h
  · exact call_tar_fields_c2 args w
  · exact call_tar_fields_c4 args w
  · exact call_tar_fields_c6 args w
  · exact call_tar_fields_c8 args w
  · exact call_tar_fields_c10 args w
  · exact call_tar_fields_c12 args w
  · exact call_tar_fields_c15 args w

set_option maxHeartbeats 2000000 in
theorem read_ok {h : Nat} {x : T_api_Item} {n : Int} (hn : x.Name.length ≤ 100) (hl : 512 ≤ l.length) (k g : Nat) (hg : rf k = some g) (hS : Sat E w (headP h x n :: M)) [hr : Rds cd_uint8 M s l]
    (hQ : ∀ w, Sat E w (headP h (A.readK l k (x, n)).1 (A.readK l k (x, n)).2 :: M) → Q (.tuple #[]) w) :
    Calls Tryd.prog g #[.slice (s.sub (A.fAt k) cd_uint8.size).a (A.fN k) (s.sub (A.fAt k) cd_uint8.size).c, .pointer (some ⟨h, 0, none⟩)] w (retP Q) := by
  have hk : k < 12 := by
    by_cases hk : k < 12
    · exact hk
    · exfalso
      unfold rf at hg
      split at hg <;> first | omega | cases hg
  have hp : Rds cd_uint8 (headP h x n :: M) (s.sub (A.fAt k) cd_uint8.size) (A.fS k l) := by
    have := A.fAt_end k hk
    haveI : Rds cd_uint8 (headP h x n :: M) s l := inferInstance
    unfold A.fS
    exact Rds.sub (C := cd_uint8) (L := headP h x n :: M) (s := s) (l := l) (A.fAt k) (A.fAt k + A.fN k) (by omega) (by omega)
  have hfl := A.fS_len hl hk
  have hn100 : A.fN k ≤ 155 := by
    match k, hk with
    | 0, _ | 1, _ | 2, _ | 3, _ | 4, _ | 5, _ | 6, _ | 7, _ | 8, _ | 9, _ | 10, _ | 11, _ => decide
    | k + 12, hk => omega
  have hf0 := A.fN_pos k hk
  rw [← hfl]
  rw [← hfl] at hn100 hf0
  unfold rf at hg
  split at hg <;> cases hg
  · refine tar_fields_c2.calls ?_
    unfold tar_fields_c2.F
    refine pc_tar_text (text_ok hS (by omega) fun w hS => ?_)
    unfold headP at *
    repeat' (first | (refine pN_s hS (by first | exact Nat.le_of_ble_eq_true rfl | assumption) (by rfl) ?_; clear hS; intro w hS; try simp only [List.set_cons_zero, List.set_cons_succ] at hS) | refine pN_via (by (intro K; simp (disch := omega) only [go_sem, pN_min, pN_max, w_u32, w_u64, Option.isNone_some, Option.isNone_none]; (try simp only [wrap_u32, wrap_u64]); rfl)) ?_ | fail)
    exact hQ _ hS
  · refine tar_fields_c4.calls ?_
    unfold tar_fields_c4.F
    refine pc_tar_number (number_ok hS hf0 (by rw [hfl]; decide) ?_)
    rw [hfl]
    unfold headP at *
    repeat' (first | (refine pN_s hS (by first | exact Nat.le_of_ble_eq_true rfl | assumption) (by rfl) ?_; clear hS; intro w hS; try simp only [List.set_cons_zero, List.set_cons_succ] at hS) | refine pN_via (by (intro K; simp (disch := omega) only [go_sem, pN_min, pN_max, w_u32, w_u64, Option.isNone_some, Option.isNone_none]; (try simp only [wrap_u32, wrap_u64]); rfl)) ?_ | fail)
    exact hQ _ hS
  · refine tar_fields_c6.calls ?_
    unfold tar_fields_c6.F
    refine pc_tar_number (number_ok hS hf0 (by rw [hfl]; decide) ?_)
    rw [hfl]
    unfold headP at *
    repeat' (first | (refine pN_s hS (by first | exact Nat.le_of_ble_eq_true rfl | assumption) (by rfl) ?_; clear hS; intro w hS; try simp only [List.set_cons_zero, List.set_cons_succ] at hS) | refine pN_via (by (intro K; simp (disch := omega) only [go_sem, pN_min, pN_max, w_u32, w_u64, Option.isNone_some, Option.isNone_none]; (try simp only [wrap_u32, wrap_u64]); rfl)) ?_ | fail)
    exact hQ _ hS
  · refine tar_fields_c8.calls ?_
    unfold tar_fields_c8.F
    refine pc_tar_number (number_ok hS hf0 (by rw [hfl]; decide) ?_)
    rw [hfl]
    unfold headP at *
    repeat' (first | (refine pN_s hS (by first | exact Nat.le_of_ble_eq_true rfl | assumption) (by rfl) ?_; clear hS; intro w hS; try simp only [List.set_cons_zero, List.set_cons_succ] at hS) | refine pN_via (by (intro K; simp (disch := omega) only [go_sem, pN_min, pN_max, w_u32, w_u64, Option.isNone_some, Option.isNone_none]; (try simp only [wrap_u32, wrap_u64]); rfl)) ?_ | fail)
    exact hQ _ hS
  · refine tar_fields_c10.calls ?_
    unfold tar_fields_c10.F
    have e : (.string ⟨#[48, 53, 50]⟩ : Value) = .string ⟨List.toArray [48, 53, 50]⟩ := rfl
    rw [e]
    have hl1 : (A.fS 6 l).length = 1 := hfl
    have hd : ∀ y, (A.fS 6 l)[0]? = some y → (A.fS 6 l).getD 0 0 = y := fun y hy => by rw [List.getD_eq_getElem?_getD, hy]; rfl
    unfold headP at *
    repeat' (first | (refine pc_strings_IndexByte (sIndexByte_ok _ ?_)) | refine pN_ld1 ha hS ?_ | (refine pN_s hS (by first | exact Nat.le_of_ble_eq_true rfl | assumption) (by rfl) ?_; clear hS; intro w hS; try simp only [List.set_cons_zero, List.set_cons_succ] at hS) | refine pN_ix hS _ (by first | rfl | (exact (Int.toNat_of_nonneg (by omega)).symm)) (by first | rfl | omega | simpa only [go_sem] using True.intro | (simp only [go_sem]; omega)) (by first | omega | (simp only [go_sem]; omega)) fun a x hx ha hel => ?_ | refine pN_via (by (intro K; simp (disch := omega) only [go_sem, pN_min, pN_max, w_u32, w_u64, Option.isNone_some, Option.isNone_none]; (try simp only [wrap_u32, wrap_u64]); rfl)) ?_ | fail)
    rw [← hd _ hx] at hS
    exact hQ _ hS
  · refine tar_fields_c12.calls ?_
    unfold tar_fields_c12.F
    refine pc_tar_text (text_ok hS (by omega) fun w hS => ?_)
    unfold headP at *
    repeat' (first | (refine pN_s hS (by first | exact Nat.le_of_ble_eq_true rfl | assumption) (by rfl) ?_; clear hS; intro w hS; try simp only [List.set_cons_zero, List.set_cons_succ] at hS) | refine pN_via (by (intro K; simp (disch := omega) only [go_sem, pN_min, pN_max, w_u32, w_u64, Option.isNone_some, Option.isNone_none]; (try simp only [wrap_u32, wrap_u64]); rfl)) ?_ | fail)
    exact hQ _ hS
  · refine tar_fields_c15.calls ?_
    unfold tar_fields_c15.F
    have e : (.string ⟨#[47]⟩ : Value) = .string ⟨List.toArray [47]⟩ := rfl
    have e0 : (.string ⟨#[]⟩ : Value) = .string ⟨List.toArray []⟩ := rfl
    rw [e, e0]
    refine pc_tar_text (text_ok hS (by omega) fun w hS => ?_)
    have ht := A.text_len (A.fS 11 l)
    unfold headP at *
    simp only [A.readK] at hQ
    repeat' (first | refine pN_sadd (by first | omega | (simp only [go_sem]; omega)) ?_ | (refine pN_neq_ss ?_ ?_ <;> intro hc <;> try (exfalso; first | omega | exact hc rfl | exact hc (by assumption) | exact absurd hc (by assumption))) | refine pIf_t ?_ | refine pIf_f ?_ | refine pN_l hS (by first | rfl | assumption) ?_ | (refine pN_s hS (by first | exact Nat.le_of_ble_eq_true rfl | assumption) (by rfl) ?_; clear hS; intro w hS; try simp only [List.set_cons_zero, List.set_cons_succ] at hS) | refine pN_via (by (intro K; simp (disch := omega) only [go_sem, pN_min, pN_max, w_u32, w_u64, Option.isNone_some, Option.isNone_none]; (try simp only [wrap_u32, wrap_u64]); rfl)) ?_ | fail)
    · rename_i hc
      rw [if_pos hc] at hQ
      exact hQ _ hS
    · rename_i hc
      rw [if_neg hc] at hQ
      rw [List.append_assoc, List.singleton_append] at hS
      exact hQ _ hS

theorem Equal_n {n m : Nat} (hn : n = l.length) (hm : m = r.length) (hS : Sat E w L) (hr : Rds cd_uint8 L s l) (hr2 : Rds cd_uint8 L s2 r) (hQ : Q (.bool (decide (l = r))) w) : Calls Tryd.prog 29 #[.slice s.a n s.c, .slice s2.a m s2.c] w (retP Q) := by
  subst hn hm
  exact Equal_ok hS hQ
theorem zero_n {n : Nat} (hn : n = l.length) (hS : Sat E w L) (hr : Rds cd_uint8 L s l) (hQ : Q (.bool (decide (A.Zs l))) w) : Calls Tryd.prog 32 #[.slice s.a n s.c] w (retP Q) := by
  subst hn
  exact zero_ok hS hQ

set_option maxHeartbeats 4000000 in
set_option maxRecDepth 4000 in
theorem Get_ok (hS : Sat E w M) [hr : Rds cd_uint8 M s l] (hl2 : l.length ≤ 140737488355328)
    (hno : A.getE l ≠ 0 → ∀ w, Sat E w M → Q (.tuple #[.agg T_api_Item.zero.enc.toArray, .int .i64 0, .int .i64 (A.getE l)]) w)
    (hok : A.getE l = 0 → ∀ s w, Sat E w (rows cd_uint8 s (A.getL l) :: M) → Q (.tuple #[.agg (A.getX l s).enc.toArray, .int .i64 (A.getN l : Nat), .int .i64 0]) w) :
    Calls Tryd.prog 11 #[.slice s.a l.length s.c] w (retP Q) := by
  by_cases hl : 512 ≤ l.length
  rotate_left 1
  · have he : A.getE l = 1 := by rw [A.getE, if_pos (by omega)]
    rw [he] at hno
    refine tar_Get.calls ?_
    unfold tar_Get.F
    repeat' (first | (refine pN_lss_s ?_ ?_ <;> intro hc <;> try (exfalso; omega)) | refine pIf_t ?_ | refine pL_ra hS (by rfl) ?_ | (refine pN_sa hS (by rfl) (by rfl) (by rfl) ?_; clear hS; intro w hS; try dsimp only at hS) | (refine pN_nz hS ?_; clear hS; intro a w hS) | refine pN_via (by (intro K; simp (disch := omega) only [go_sem, pN_min, pN_max, w_u32, w_u64, Option.isNone_some, Option.isNone_none]; (try simp only [wrap_u32, wrap_u64]); rfl)) ?_ | fail)
    exact hno (by decide) _ hS.to
  by_cases ht : (l.drop 148).take (156 - 148) = A.sumField l
  rotate_left 1
  · have he : A.getE l = 3 := by rw [A.getE, if_neg (by omega), if_pos ht]
    rw [he] at hno
    exact Get_sum hS hl hl2 ht (hno (by decide))
  obtain ⟨z, hz⟩ : ∃ z, A.getE l = z := ⟨_, rfl⟩
  have he := hz
  rw [A.getE, if_neg (by omega), if_neg (fun h => h ht)] at he
  rw [hz] at hno hok
  have hb := A.readTo_bd hl
  refine tar_Get.calls ?_
  unfold tar_Get.F
  have hl8 : ((l.drop 148).take (156 - 148)).length = 156 - 148 := by rw [List.length_take, List.length_drop]; omega
  have hf8 := sumField_len l
  repeat' (first | (refine pN_lss_s ?_ ?_ <;> intro hc <;> try (exfalso; omega)) | refine pIf_f ?_ | (refine pDr_go hS ?_; clear hS; intro w hS) | (refine pN_nz hS ?_; clear hS; intro a w hS) | refine pN_via (by (intro K; simp (disch := omega) only [go_sem, pN_min, pN_max, w_u32, w_u64, Option.isNone_some, Option.isNone_none]; (try simp only [wrap_u32, wrap_u64]); rfl)) ?_ | fail)
  rename Nat => x2
  have hS : Sat E w (cel x2 ⟨24, T_api_Item.zero.enc⟩ :: M) := hS
  refine pA_sl2w (C := cd_uint8) (s := s) (l := l) hS 148 156 rfl rfl rfl (by omega) (by omega) ?_
  intro hp
  generalize (l.drop 148).take (156 - 148) = t at *
  rw [← hl8]
  refine pc_tar_sum (sum_ok (l := l) hS hl hl2 fun s2 w hS => ?_)
  rw [← hf8]
  refine ⟨trivial, ?_⟩
  refine pc_bytes_Equal (Equal_ok (l := t) (r := A.sumField l) (s := s.sub 148 cd_uint8.size) (s2 := s2) hS ?_)
  rw [decide_eq_true ht]
  refine ⟨trivial, ?_⟩
  repeat' (first | refine pIf_f ?_ | (refine pN_nz hS ?_; clear hS; intro a w hS) | refine pA_via (by (intro K; simp (disch := omega) only [go_sem, pN_min, pN_max, w_u32, w_u64, Option.isNone_some, Option.isNone_none]; (try simp only [wrap_u32, wrap_u64]); rfl)) ?_ | fail)
  have hS : Sat E w (headP a (A.readTo l 0).1 (A.readTo l 0).2 :: rows cd_uint8 s2 (A.sumField l) :: cel x2 ⟨24, T_api_Item.zero.enc⟩ :: M) := by unfold A.readTo; exact hS
  rename Nat => hd
  refine pc_tar_fields (fields_ok hS ?_)
  clear hS
  intro sf w hS
  repeat' (first | refine pN_via (by (intro K; simp (disch := omega) only [go_sem, pN_min, pN_max, w_u32, w_u64, Option.isNone_some, Option.isNone_none]; (try simp only [wrap_u32, wrap_u64]); rfl)) ?_ | fail)
  refine ⟨fun v w' => ∃ k : Nat, v = .int .i64 k ∧ k ≤ 12 ∧ Sat E w' (headP hd (A.readTo l k).1 (A.readTo l k).2 :: rows cdF sf flds :: rows cd_uint8 s2 (A.sumField l) :: cel x2 ⟨24, T_api_Item.zero.enc⟩ :: M), fun v _ => 12 - (RowKit.intOf v).toNat, ⟨0, rfl, Nat.zero_le _, hS.to⟩, ?_⟩
  clear hS
  rintro _ _ w ⟨k, rfl, hk, hS⟩
  by_cases hlt : k < 12
  · have hfk := flds_at k hlt
    have hfl : flds.length = 12 := rfl
    have hfe := A.fAt_end k hlt
    have hfn := A.fN_pos k hlt
    have hwr : IntKind.i64.wrap (((fld k).1 : Int) + ((fld k).2.1 : Int)) = ((A.fAt k + A.fN k : Nat) : Int) := by
      show IntKind.i64.wrap ((A.fAt k : Int) + (A.fN k : Int)) = _
      rw [wrap_i64 (by omega)]
      omega
    have hone : (cdF.enc (fld k)).all (·.oneCell') = true := List.all_eq_true.2 fun u hu => cdF.one _ u hu
    repeat' (first | (refine pN_lss_s ?_ ?_ <;> intro hc <;> try (exfalso; omega)) | refine pIf_t ?_ | fail)
    refine ⟨fun w' => Sat E w' (headP hd (A.readTo l (k + 1)).1 (A.readTo l (k + 1)).2 :: rows cdF sf flds :: rows cd_uint8 s2 (A.sumField l) :: cel x2 ⟨24, T_api_Item.zero.enc⟩ :: M), ?_, ?_⟩
    · repeat' (first | refine pN_ld_at ha hS (by rfl) ?_ | (refine pN_nz hS ?_; clear hS; intro a w hS) | refine pN_ixk hS _ (by first | rfl | (exact (Int.toNat_of_nonneg (by omega)).symm)) (by first | rfl | omega | simpa only [go_sem] using True.intro | (simp only [go_sem]; omega)) (by assumption) fun a ha hel => ?_ | fail)
      refine pN_sa (us := cdF.enc (fld k)) hS rfl rfl hone ?_
      clear hS
      intro w hS
      rw [show cdF.enc (fld k) = [.int .i64 (A.fAt k : Nat), .int .i64 (A.fN k : Nat), fnV (some (wf k)), fnV (rf k)] from rfl] at hS
      cases hrk : rf k with
      | none =>
        rw [A.readTo_next, readK_none k hrk]
        simp only [hrk, fnV] at hS
        repeat' (first | refine pN_neq_nilfn ?_ | refine pIf_f ?_ | refine pN_l hS (by first | rfl | assumption) ?_ | refine pN_via (by (intro K; simp (disch := omega) only [go_sem, pN_min, pN_max, w_u32, w_u64, Option.isNone_some, Option.isNone_none]; (try simp only [wrap_u32, wrap_u64]); rfl)) ?_ | fail)
        exact hS.to
      | some g =>
        simp only [hrk, fnV] at hS
        have hcv := fun args w => rf_call k g hrk args w
        repeat' (first | refine pN_neq_fn ?_ | refine pIf_t ?_ | refine pN_l hS (by first | rfl | assumption) ?_ | refine pL_l hS (by first | rfl | assumption) ?_ | (refine pDr_go hS ?_; clear hS; intro w hS) | refine pN_via (by (intro K; simp (disch := omega) only [go_sem, pN_min, pN_max, w_u32, w_u64, Option.isNone_some, Option.isNone_none]; (try simp only [wrap_u32, wrap_u64]); rfl)) ?_ | refine pA_via (by (intro K; simp (disch := omega) only [go_sem, pN_min, pN_max, w_u32, w_u64, Option.isNone_some, Option.isNone_none]; (try simp only [wrap_u32, wrap_u64]); rfl)) ?_ | fail)
        haveI hp0 : Rds cd_uint8 (rows cdF sf flds :: rows cd_uint8 s2 (A.sumField l) :: cel x2 ⟨24, T_api_Item.zero.enc⟩ :: M) s l := inferInstance
        refine pA_sl2w (C := cd_uint8) (s := s) (l := l) hS (A.fAt k) (A.fAt k + A.fN k) rfl (by omega) rfl (by omega) (by omega) ?_
        intro hp
        refine pN_callV (cap := []) hcv ?_
        have e : A.fAt k + A.fN k - A.fAt k = A.fN k := by omega
        rw [e]
        refine read_ok (x := (A.readTo l k).1) (n := (A.readTo l k).2) (M := rows cdF sf flds :: rows cd_uint8 s2 (A.sumField l) :: cel x2 ⟨24, T_api_Item.zero.enc⟩ :: M) (A.readTo_1 hl k (by omega)) hl k g hrk hS.to ?_
        clear hS
        intro w hS
        refine ⟨trivial, ?_⟩
        rw [A.readTo_next]
        exact hS
    · clear hS
      intro _ w hS
      repeat' (first | refine pN_via (by (intro K; simp (disch := omega) only [go_sem, pN_min, pN_max, w_u32, w_u64, Option.isNone_some, Option.isNone_none]; (try simp only [wrap_u32, wrap_u64]); rfl)) ?_ | fail)
      exact ⟨⟨k + 1, rfl, by omega, hS⟩, by simp [RowKit.intOf] <;> omega⟩
  · obtain rfl : k = 12 := by omega
    obtain ⟨⟨⟨name, link, kind, mode, time, data⟩, n⟩, hx⟩ : ∃ p, A.readTo l 12 = p := ⟨_, rfl⟩
    unfold A.getN A.getX A.getL at hok
    rw [hx] at hS hb he hok
    dsimp only at hb he hok
    obtain ⟨b1, b2, b3, b4, rfl⟩ := hb
    repeat' (first | (refine pN_lss_s ?_ ?_ <;> intro hc <;> try (exfalso; omega)) | refine pIf_f ?_ | (refine pDr_go hS ?_; clear hS; intro w hS) | refine pA_via (by (intro K; simp (disch := omega) only [go_sem, pN_min, pN_max, w_u32, w_u64, Option.isNone_some, Option.isNone_none]; (try simp only [wrap_u32, wrap_u64]); rfl)) ?_ | fail)
    unfold headP at hS
    dsimp only at hS
    obtain ⟨y, hy⟩ : ∃ y : T_api_Item, y = ⟨name, link, kind, mode, time, (⟨none, 0⟩, [])⟩ := ⟨_, rfl⟩
    rw [← hy] at hx he
    obtain ⟨nn, rfl⟩ : ∃ nn : Nat, n = nn := ⟨n.toNat, by omega⟩
    rw [Int.toNat_natCast] at hok
    repeat' (first | (refine pL_la_at hS (T_api_Item.enc ⟨name, link, kind, mode, time, (⟨none, 0⟩, [])⟩) rfl rfl ?_) | fail)
    refine pc_tar_wrong (wrong_ok ⟨name, link, kind, mode, time, (⟨none, 0⟩, [])⟩ (by show name.length ≤ _; omega) (by show link.length ≤ _; omega) hS fun w hS => ?_)
    rw [← hy]
    have hk : y.Kind = kind := by rw [hy]
    have hT := A.fits_name (x := y)
    by_cases h0 : A.wrong y = 0
    · by_cases hsz : kind ≠ 0 ∧ 0 < (nn : Int)
      · obtain ⟨hs1, hs2⟩ := hsz
        have hz2 : z = 2 := by rw [← he, A.getE2, if_pos (.inr (.inl ⟨by rw [hk]; exact hs1, hs2⟩))]
        repeat' (first | (refine pA_gtr_s ?_ ?_ <;> intro hc <;> try (exfalso; omega)) | (refine pA_neq_s ?_ ?_ <;> intro hc <;> try (exfalso; first | omega | exact hc rfl | exact hc (by assumption) | exact absurd hc (by assumption))) | refine pIf_t ?_ | refine gA_go (by rfl) ?_ | refine gA_no (by rfl) ?_ | refine pGd_no (by rfl) ?_ | refine pL_l hS (by first | rfl | assumption) ?_ | refine pL_ra hS (by rfl) ?_ | (refine pN_sa hS (by rfl) (by rfl) (by rfl) ?_; clear hS; intro w hS; try dsimp only at hS) | refine ⟨trivial, ?_⟩ | refine pN_via (by (intro K; simp (disch := omega) only [go_sem, pN_min, pN_max, w_u32, w_u64, Option.isNone_some, Option.isNone_none]; (try simp only [wrap_u32, wrap_u64]); rfl)) ?_ | refine pA_via (by (intro K; simp (disch := omega) only [go_sem, pN_min, pN_max, w_u32, w_u64, Option.isNone_some, Option.isNone_none]; (try simp only [wrap_u32, wrap_u64]); rfl)) ?_ | fail)
        rw [hz2] at hno
        exact hno (by decide) _ hS.to
      · obtain ⟨hf, k0, k2, m0, m1, t0, t1, d1, hpt, _, _, _⟩ := A.wrong_0 h0
        have hnl := A.fits_name hpt
        have hhl := header_len hf nn
        have hlt : (l.take 512).length = 512 := by rw [List.length_take]; omega
        have hpe : (512 - nn % 512) % 512 = A.padn nn := by unfold A.padn; rfl
        have hpl : A.padn nn < 512 := by unfold A.padn; omega
        repeat' (first | (refine pA_gtr_s ?_ ?_ <;> intro hc <;> try (exfalso; omega)) | (refine pA_neq_s ?_ ?_ <;> intro hc <;> try (exfalso; first | omega | exact hc rfl | exact hc (by assumption) | exact absurd hc (by assumption))) | refine gA_go (by rfl) ?_ | refine gA_no (by rfl) ?_ | refine pL_l hS (by first | rfl | assumption) ?_ | refine ⟨trivial, ?_⟩ | refine pA_via (by (intro K; simp (disch := omega) only [go_sem, pN_min, pN_max, w_u32, w_u64, Option.isNone_some, Option.isNone_none]; (try simp only [wrap_u32, wrap_u64]); rfl)) ?_ | fail)
        all_goals
          have hS : Sat E w (headP hd y nn :: rows cdF sf flds :: rows cd_uint8 s2 (A.sumField l) :: cel x2 ⟨24, T_api_Item.zero.enc⟩ :: M) := by rw [hy]; exact hS
          refine pA_slhw (C := cd_uint8) (s := s) (l := l) hS 512 rfl rfl (by omega) ?_
          intro hp
          repeat' (first | (refine pc_tar_header (header_ok hf (by omega) k0 k2 hS ?_); clear hS; intro s3 w hS) | refine pGd_go (by rfl) ?_ | refine ⟨trivial, ?_⟩ | fail)
          refine pc_bytes_Equal (Equal_n hhl.symm hlt.symm hS inferInstance inferInstance ?_)
          by_cases hh : A.header y nn = l.take 512
          · rw [decide_eq_true hh]
            rw [A.getE2, if_neg (fun h => h.elim (fun h => h h0) fun h => h.elim (fun h => by rw [hk] at h; omega) fun h => h hh), Int.toNat_natCast] at he
            unfold headP at hS
            by_cases htr : l.length < 512 + nn + A.padn nn
            · have hz2 : z = 1 := by rw [← he, if_pos htr]
              repeat' (first | (refine pc_tar_pad (pad_ok nn (by omega) ?_); rw [hpe]) | (refine pN_gtr_s ?_ ?_ <;> intro hc <;> try (exfalso; omega)) | refine pIf_t ?_ | refine pIf_f ?_ | refine gA_go (by rfl) ?_ | refine pL_l hS (by first | rfl | assumption) ?_ | refine pL_ra hS (by rfl) ?_ | (refine pN_sa hS (by rfl) (by rfl) (by rfl) ?_; clear hS; intro w hS; try dsimp only at hS) | (refine pDr_go hS ?_; clear hS; intro w hS) | refine ⟨trivial, ?_⟩ | refine ⟨⟨(by first | exact run_l hS (by first | rfl | assumption) | exact run_st hS (by first | rfl | omega) | exact run_ld1 ha hS | exact fun _ => run_l hS (by rfl) | exact fun _ => run_st hS (by first | rfl | omega) | exact fun _ => run_ld1 ha hS | exact fun h => Bool.noConfusion h), trivial⟩, ?_⟩ | refine pN_via (by (intro K; simp (disch := omega) only [go_sem, pN_min, pN_max, w_u32, w_u64, Option.isNone_some, Option.isNone_none]; (try simp only [wrap_u32, wrap_u64]); rfl)) ?_ | refine pA_via (by (intro K; simp (disch := omega) only [go_sem, pN_min, pN_max, w_u32, w_u64, Option.isNone_some, Option.isNone_none]; (try simp only [wrap_u32, wrap_u64]); rfl)) ?_ | fail)
              all_goals (rw [hz2] at hno; exact hno (by decide) _ hS.to)
            · rw [if_neg htr] at he
              repeat' (first | (refine pc_tar_pad (pad_ok nn (by omega) ?_); rw [hpe]) | (refine pN_gtr_s ?_ ?_ <;> intro hc <;> try (exfalso; omega)) | refine pIf_f ?_ | refine gA_go (by rfl) ?_ | refine pN_l hS (by first | rfl | assumption) ?_ | refine pL_l hS (by first | rfl | assumption) ?_ | (refine pDr_go hS ?_; clear hS; intro w hS) | refine ⟨trivial, ?_⟩ | refine ⟨⟨(by first | exact run_l hS (by first | rfl | assumption) | exact run_st hS (by first | rfl | omega) | exact run_ld1 ha hS | exact fun _ => run_l hS (by rfl) | exact fun _ => run_st hS (by first | rfl | omega) | exact fun _ => run_ld1 ha hS | exact fun h => Bool.noConfusion h), trivial⟩, ?_⟩ | refine pN_via (by (intro K; simp (disch := omega) only [go_sem, pN_min, pN_max, w_u32, w_u64, Option.isNone_some, Option.isNone_none]; (try simp only [wrap_u32, wrap_u64]); rfl)) ?_ | refine pA_via (by (intro K; simp (disch := omega) only [go_sem, pN_min, pN_max, w_u32, w_u64, Option.isNone_some, Option.isNone_none]; (try simp only [wrap_u32, wrap_u64]); rfl)) ?_ | fail)
              refine pN_sl2w (C := cd_uint8) (s := s) (l := l) hS (512 + nn) (512 + nn + A.padn nn) (by omega) (by omega) rfl (by omega) (by omega) ?_
              intro hp1
              refine pc_tar_zero (zero_n (by rw [List.length_take, List.length_drop]; omega) hS hp1 ?_)
              by_cases hzz : A.Zs ((l.drop (512 + nn)).take (512 + nn + A.padn nn - (512 + nn)))
              · rw [decide_eq_true hzz]
                rw [if_pos hzz] at he
                repeat' (first | refine pIf_f ?_ | refine pN_l hS (by first | rfl | assumption) ?_ | refine pN_via (by (intro K; simp (disch := omega) only [go_sem, pN_min, pN_max, w_u32, w_u64, Option.isNone_some, Option.isNone_none]; (try simp only [wrap_u32, wrap_u64]); rfl)) ?_ | fail)
                refine pN_sl2w (C := cd_uint8) (s := s) (l := l) hS 512 (512 + nn) (by omega) (by omega) rfl (by omega) (by omega) ?_
                intro hp2
                have hgl : 512 + nn - 512 = ((l.drop 512).take (512 + nn - 512)).length := by rw [List.length_take, List.length_drop]; omega
                generalize (l.drop 512).take (512 + nn - 512) = dl at *
                rw [hgl]
                have hdb : dl.length ≤ 140737488355328 := by omega
                refine pN_app0 (C := cd_uint8) hS rfl (by omega) fun s4 w hS => ?_
                repeat' (first | (refine pN_la_at hS (T_api_Item.enc ⟨y.Name, y.Link, y.Kind, y.Mode, y.Time, (s4, dl)⟩) rfl rfl ?_) | refine pL_ra hS (by rfl) ?_ | (refine pN_s hS (by first | exact Nat.le_of_ble_eq_true rfl | assumption) (by rfl) ?_; clear hS; intro w hS; try simp only [List.set_cons_zero, List.set_cons_succ] at hS) | (refine pN_sa hS (by rfl) (by rfl) (by rfl) ?_; clear hS; intro w hS; try dsimp only at hS) | refine pN_via (by (intro K; simp (disch := omega) only [go_sem, pN_min, pN_max, w_u32, w_u64, Option.isNone_some, Option.isNone_none]; (try simp only [wrap_u32, wrap_u64]); rfl)) ?_ | fail)
                have e : ((512 + nn + A.padn nn : Nat) : Int) = (nn : Int) + A.padn nn + 512 := by omega
                rw [e] at hok
                subst hy
                exact hok he.symm s4 _ hS.to
              · rw [decide_eq_false hzz]
                rw [if_neg hzz] at he
                repeat' (first | refine pIf_t ?_ | refine pL_ra hS (by rfl) ?_ | (refine pN_sa hS (by rfl) (by rfl) (by rfl) ?_; clear hS; intro w hS; try dsimp only at hS) | refine pN_via (by (intro K; simp (disch := omega) only [go_sem, pN_min, pN_max, w_u32, w_u64, Option.isNone_some, Option.isNone_none]; (try simp only [wrap_u32, wrap_u64]); rfl)) ?_ | fail)
                rw [← he] at hno
                exact hno (by decide) _ hS.to
          · rw [decide_eq_false hh]
            have hz2 : z = 2 := by rw [← he, A.getE2, if_pos (.inr (.inr hh))]
            repeat' (first | refine pIf_t ?_ | refine gA_go (by rfl) ?_ | refine pL_ra hS (by rfl) ?_ | (refine pN_sa hS (by rfl) (by rfl) (by rfl) ?_; clear hS; intro w hS; try dsimp only at hS) | refine ⟨trivial, ?_⟩ | refine pN_via (by (intro K; simp (disch := omega) only [go_sem, pN_min, pN_max, w_u32, w_u64, Option.isNone_some, Option.isNone_none]; (try simp only [wrap_u32, wrap_u64]); rfl)) ?_ | refine pA_via (by (intro K; simp (disch := omega) only [go_sem, pN_min, pN_max, w_u32, w_u64, Option.isNone_some, Option.isNone_none]; (try simp only [wrap_u32, wrap_u64]); rfl)) ?_ | fail)
            rw [hz2] at hno
            exact hno (by decide) _ hS.to
    · have hz2 : z = 2 := by rw [← he, A.getE2, if_pos (.inl h0)]
      repeat' (first | (refine pA_neq_s ?_ ?_ <;> intro hc <;> try (exfalso; first | omega | exact hc rfl | exact hc (by assumption) | exact absurd hc (by assumption))) | refine pIf_t ?_ | refine gA_no (by rfl) ?_ | refine pGd_no (by rfl) ?_ | refine pL_ra hS (by rfl) ?_ | (refine pN_sa hS (by rfl) (by rfl) (by rfl) ?_; clear hS; intro w hS; try dsimp only at hS) | refine ⟨trivial, ?_⟩ | refine pN_via (by (intro K; simp (disch := omega) only [go_sem, pN_min, pN_max, w_u32, w_u64, Option.isNone_some, Option.isNone_none]; (try simp only [wrap_u32, wrap_u64]); rfl)) ?_ | refine pA_via (by (intro K; simp (disch := omega) only [go_sem, pN_min, pN_max, w_u32, w_u64, Option.isNone_some, Option.isNone_none]; (try simp only [wrap_u32, wrap_u64]); rfl)) ?_ | fail)
      rw [hz2] at hno
      exact hno (by decide) _ hS.to
end

end Go.Proofs.YteeepkimnpabiaaDoor
