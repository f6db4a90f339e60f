/-
  Read: the items of an archive, all at once.
-/
import Derived.Test.YteeepkimnpabiaaDoorTarI
namespace Go.Proofs.YteeepkimnpabiaaDoor
open Go
set_option linter.unusedSimpArgs false
set_option linter.unnecessarySimpa false
set_option linter.unusedSectionVars false
set_option linter.unusedVariables false

namespace A
/-- An item without the place of its data. -/
def plain (x : T_api_Item) : T_api_Item := { x with Data := (⟨none, 0⟩, x.Data.2) }
def item (m : List UInt8) : T_api_Item := getX m ⟨none, 0⟩
theorem plain_getX (m : List UInt8) (s : Sl) : plain (getX m s) = item m := by
  simp only [plain, item, getX]
theorem arch_ind {p : List UInt8 → Prop} (h : ∀ l, (goes l → getE l = 0 → p (l.drop (getN l))) → p l) : ∀ l, p l := by
  have key : ∀ (n : Nat) (l : List UInt8), l.length ≤ n → p l := by
    intro n
    induction n with
    | zero =>
      intro l hl
      refine h l fun hg he => ?_
      have := (getN_le he).1
      omega
    | succ n ih =>
      intro l hl
      refine h l fun hg he => ih _ ?_
      have h1 := getN_le he
      have hd : (l.drop (getN l)).length = l.length - getN l := List.length_drop
      omega
  exact fun l => key l.length l (Nat.le_refl _)
theorem getX_data (m : List UInt8) (s : Sl) : (getX m s).Data = (s, getL m) := by simp only [getX]
theorem len512 (a b n : Nat) (h : a * 512 ≤ n - b) (h1 : 512 ≤ b) (h2 : b ≤ n) : (a + 1) * 512 ≤ n := by
  rw [Nat.add_mul, Nat.one_mul]
  exact Nat.le_trans (Nat.add_le_add h h1) (Nat.le_of_eq (Nat.sub_add_cancel h2))
theorem arch_len : ∀ (l : List UInt8), (arch l).1.length * 512 ≤ l.length := by
  refine arch_ind fun l ih => ?_
  by_cases hg : goes l
  · by_cases he : getE l = 0
    · have h1 := getN_le he
      have ih := ih hg he
      have hd : (l.drop (getN l)).length = l.length - getN l := List.length_drop
      rw [hd] at ih
      rw [arch_go hg he]
      exact len512 _ _ _ ih h1.2.2 h1.2.1
    · rw [arch_err hg he]
      show 0 * 512 ≤ _
      omega
  · rw [arch_no hg]
    show 0 * 512 ≤ _
    omega
theorem endE_cases (l : List UInt8) : endE l = 0 ∨ endE l = 1 ∨ endE l = 2 := by
  unfold endE
  repeat' split
  all_goals simp
theorem arch_bd : ∀ (l : List UInt8), (arch l).2 = 0 ∨ (arch l).2 = 1 ∨ (arch l).2 = 2 ∨ (arch l).2 = 3 := by
  refine arch_ind fun l ih => ?_
  by_cases hg : goes l
  · by_cases he : getE l = 0
    · rw [arch_go hg he]
      exact ih hg he
    · rw [arch_err hg he]
      exact getE_cases l
  · rw [arch_no hg]
    have := endE_cases l
    show endE l = 0 ∨ endE l = 1 ∨ endE l = 2 ∨ endE l = 3
    omega
end A

/-- The items' data, each in its own row. -/
def datas (its : List T_api_Item) : List HA := its.map fun x => rows cd_uint8 x.Data.1 x.Data.2

attribute [local irreducible] oMv oV oU oCall oCallV oBi oBin oUn oLoad oStore oNil oFld oField oIdx oIndex oPick oAlloc oBox oBuild oBs oConv oMk oSl oExt oFn oIface oMap oLook oMapUp oRange oNext oAssert oPanic oRes pN pA pL pDr pIf gA pGd Calls A.made A.header A.oct A.wrong A.padn A.putB A.fS A.num A.text A.readTo A.getE A.getX A.getL mkW bgW enW rfW jmpW pY pE
section
variable {E w : World} {K Q : Value → World → Prop} {L M : List HA} {l r : List UInt8} {s s2 : Sl}

set_option maxHeartbeats 4000000 in
theorem Read_ok (hS : Sat E w M) [hr : Rds cd_uint8 M s l] (hl : l.length ≤ 140737488355328)
    (hno : (A.arch l).2 ≠ 0 → ∀ w, Sat E w M → Q (.tuple #[.slice none 0 0, .int .i64 (A.arch l).2]) w)
    (hok : (A.arch l).2 = 0 → ∀ (sl : Sl) (its : List T_api_Item) w, its.map A.plain = (A.arch l).1.map A.item → Sat E w (rows cd_api_Item sl its :: bag (datas its) :: M) → Q (.tuple #[.slice sl.a its.length sl.c, .int .i64 0]) w) :
    Calls Tryd.prog 19 #[.slice s.a l.length s.c] w (retP Q) := by
  have hbd := A.arch_len l
  obtain ⟨al, ae, hal⟩ : ∃ al ae, A.arch l = (al, ae) := ⟨_, _, rfl⟩
  rw [hal] at hno hok hbd
  dsimp only at hno hok hbd
  refine tar_ReadR.calls ?_
  unfold tar_ReadR.F
  refine pN_nz hS ?_
  clear hS
  intro a1 w hS
  refine pN_nz hS ?_
  clear hS
  intro a2 w hS
  refine pN_nz hS ?_
  clear hS
  intro a3 w hS
  refine pc_tar_Items (Items_ok hS hl ?_)
  clear hS
  intro cb s2 w hS
  refine rf_go hS ?_
  clear hS
  intro lp D rc w hrc1 hrc2 hS hY
  have hS : Sat E w (lpB lp rc :: mark D :: cel cb ⟨22, [.slice s2.a l.length s2.c]⟩ :: rows cd_uint8 s2 l :: cel a3 ⟨34, [.slice none 0 0]⟩ :: rows cd_api_Item ⟨none, 0⟩ [] :: bag (datas []) :: cel a2 ⟨25, [.int .i64 0]⟩ :: cel a1 ⟨34, [.slice none 0 0]⟩ :: M) := by
    have h1 : Sat E w (rows cd_api_Item ⟨none, 0⟩ [] :: bag (datas []) :: _) := hS.bag_nil.nil cd_api_Item.e cd_api_Item.size
    exact h1.to
  refine pE_fn (fun a w => call_tar_Items_c1 a w) (Items_c1_ok (s := s2) (l := l) (cb := cb)
    (fun k L => ∃ (sl : Sl) (its : List T_api_Item), its.map A.plain = (al.take k).map A.item ∧ L = (lpB lp rc :: mark D :: cel cb ⟨22, [.slice s2.a l.length s2.c]⟩ :: rows cd_uint8 s2 l :: cel a3 ⟨34, [.slice sl.a its.length sl.c]⟩ :: rows cd_api_Item sl its :: bag (datas its) :: cel a2 ⟨25, [.int .i64 0]⟩ :: cel a1 ⟨34, [.slice none 0 0]⟩ :: M))
    (fun L => ae ≠ 0 ∧ L = (lpB lp (leftBy rc .ret) :: mark D :: cel a2 ⟨25, [.int .i64 ae]⟩ :: cel a1 ⟨34, [.slice none 0 0]⟩ :: M))
    ⟨⟨none, 0⟩, [], rfl, rfl⟩ hS (fun k L ⟨_, _, _, e⟩ => by subst e; infer_instance) hl ?_ ?_ ?_ ?_)
  · clear hS
    rintro R k m L s3 w hk ⟨sl, its, hits, rfl⟩ hS
    rw [hal] at hk
    have hk : al[k]? = some m := hk
    have hkl := (List.getElem?_eq_some_iff.1 hk).1
    have hil : its.length = k := by
      have := congrArg List.length hits
      rw [List.length_map, List.length_map, List.length_take] at this
      omega
    have hb80 : (its.length + 1) * 80 ≤ 140737488355328 := by
      rw [hil]
      exact Nat.le_trans (Nat.mul_le_mul_left _ (by decide : 80 ≤ 512)) (Nat.le_trans (Nat.mul_le_mul_right _ hkl) (Nat.le_trans hbd hl))
    refine hY.go hS rfl ?_
    have hcn : (A.getX m s3).enc.all (·.oneCell') = true := List.all_eq_true.2 fun u hu => cd_api_Item.one _ u hu
    have hln : (A.getX m s3).enc.length = 6 := cd_api_Item.len _
    have hxe : cd_api_Item.enc (A.getX m s3) = (A.getX m s3).enc := rfl
    generalize (A.getX m s3).enc = xe at *
    dsimp only [nthV]
    repeat' (first | (refine pN_nz hS ?_; clear hS; intro a w hS) | fail)
    refine pN_sa (us := xe) hS hln.symm (by exact hln) hcn ?_
    clear hS
    intro w hS
    repeat' (first | (refine bg_go hS ?_; clear hS; intro w hS) | refine pN_la hS (by exact hln.symm) ?_ | (refine pN_neq_s ?_ ?_ <;> intro hc <;> try (exfalso; first | omega | exact hc rfl | exact hc (by assumption) | exact absurd hc (by assumption))) | refine pIf_f ?_ | refine pN_l hS (by first | rfl | assumption) ?_ | fail)
    refine pN_b1 (x := A.getX m s3) hS (by rw [hxe]; rfl) (by decide) ?_
    clear hS
    intro s5 w hS
    refine pN_app (C := cd_api_Item) (s := sl) (l := its) (s2 := s5) (m := [A.getX m s3]) hS rfl rfl hb80 ?_
    clear hS
    intro s6 w hS
    repeat' (first | (refine pN_s hS (by first | exact Nat.le_of_ble_eq_true rfl | assumption) (by rfl) ?_; clear hS; intro w hS; try simp only [List.set_cons_zero, List.set_cons_succ] at hS) | fail)
    refine en_none hS ?_
    clear hS
    intro w hS
    refine .inl ⟨rfl, _, ⟨s6, its ++ [A.getX m s3], ?_, rfl⟩, ?_⟩
    · rw [List.map_append, hits, List.take_add_one, hk, List.map_append]
      simp only [List.map_cons, List.map_nil, A.plain_getX, Option.toList_some]
    · have e : datas (its ++ [A.getX m s3]) = datas its ++ [rows cd_uint8 s3 (A.getL m)] := by
        simp only [datas, List.map_append, List.map_cons, List.map_nil, A.getX_data]
      rw [e]
      have h1 := (hS.fd2 (rows cd_uint8 s3) bag).bag_snoc
      exact h1.to
  · clear hS
    rintro R L w hne ⟨sl, its, hits, rfl⟩ hS
    rw [hal] at hne ⊢
    have hne : ae ≠ 0 := hne
    refine hY.go hS rfl ?_
    dsimp only [nthV]
    repeat' (first | (refine bg_go hS ?_; clear hS; intro w hS) | (refine pN_neq_s ?_ ?_ <;> intro hc <;> try (exfalso; first | omega | exact hc rfl | exact hc (by assumption) | exact absurd hc (by assumption))) | refine pIf_t ?_ | (refine pN_s hS (by first | exact Nat.le_of_ble_eq_true rfl | assumption) (by rfl) ?_; clear hS; intro w hS; try simp only [List.set_cons_zero, List.set_cons_succ] at hS) | (refine pN_sa hS (by rfl) (by rfl) (by rfl) ?_; clear hS; intro w hS; try dsimp only at hS) | (refine pN_nz hS ?_; clear hS; intro a w hS) | fail)
    refine en_some hS ?_
    clear hS
    intro w hS
    exact ⟨false, rfl, _, ⟨hne, rfl⟩, hS.to⟩
  · clear hS
    rintro h0 L w ⟨sl, its, hits, rfl⟩ hS
    rw [hal] at h0 hits
    have h0 : ae = 0 := h0
    have hits : its.map A.plain = (al.take al.length).map A.item := hits
    rw [List.take_length] at hits
    refine jmp_n hS hrc1 hrc2 ?_
    clear hS
    intro w hS
    repeat' (first | refine mk_nil ?_ | (refine mk_go hS ?_; clear hS; intro w hS) | refine pN_l hS (by first | rfl | assumption) ?_ | refine pL_r hS (by rfl) ?_ | (refine pN_s hS (by first | exact Nat.le_of_ble_eq_true rfl | assumption) (by rfl) ?_; clear hS; intro w hS; try simp only [List.set_cons_zero, List.set_cons_succ] at hS) | fail)
    exact hok h0 _ its _ hits hS.to
  · clear hS
    rintro L w ⟨hne, rfl⟩ hS
    refine jmp_r hS ?_
    clear hS
    intro w hS
    repeat' (first | refine mk_nil ?_ | (refine mk_go hS ?_; clear hS; intro w hS) | refine pL_r hS (by rfl) ?_ | fail)
    exact hno hne _ hS.to
end
end Go.Proofs.YteeepkimnpabiaaDoor
