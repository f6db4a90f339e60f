/-
  What tar calls of Go's library: the first place of a byte, equality, cutting, trimming, a copy.
-/
import Derived.Test.YteeepkimnpabiaaDoorTarP
import Derived.Test.YteeepkimnpabiaaDoorLfBytes
import Derived.Test.YteeepkimnpabiaaDoorLfStrings
import Derived.Test.YteeepkimnpabiaaDoorLfStringslite
import Derived.Lib.IndexLaws
namespace Go.Proofs.YteeepkimnpabiaaDoor
open Go
set_option linter.unusedSimpArgs false
set_option linter.unnecessarySimpa false
set_option linter.unusedSectionVars false
set_option linter.unusedVariables false

instance stry : StrY Tryd.prog 9 := ⟨Tryd.underlying9⟩
instance strb : StrB Tryd.prog 9 22 cd_uint8 := ⟨Tryd.underlying9, Tryd.underlying22, Tryd.underlying5, rfl, fun _ => rfl⟩
instance inty : IntY Tryd.prog 3 .i64 := ⟨Tryd.underlying3⟩

namespace A
/-- The first place of a byte, or -1. -/
abbrev ixb (l : List UInt8) (c : UInt8) : Int := Lib.indexByte l c
theorem ixb_ge (l : List UInt8) (c : UInt8) : -1 ≤ ixb l c := Lib.indexByte_ge l c
theorem ixb_mem {l : List UInt8} {c : UInt8} : 0 ≤ ixb l c ↔ c ∈ l := by
  constructor
  · intro h
    obtain ⟨o, ho⟩ : ∃ o : Nat, ixb l c = o := ⟨(ixb l c).toNat, by omega⟩
    exact List.mem_of_getElem? (Lib.indexByte_some ho).1
  · intro h
    refine Decidable.byContradiction fun hn => ?_
    have h1 : ixb l c = -1 := by have := ixb_ge l c; omega
    obtain ⟨k, hk⟩ := List.mem_iff_getElem?.1 h
    exact Lib.indexByte_none h1 k hk
/-- What stands ahead of the first zero. -/
def text : List UInt8 → List UInt8
  | [] => []
  | b :: l => if b = 0 then [] else b :: text l
theorem text_none : ∀ {l : List UInt8}, 0 ∉ l → text l = l
  | [], _ => rfl
  | b :: l, h => by
    rw [text, if_neg (fun e => h (by rw [e]; exact List.mem_cons_self)), text_none (fun hm => h (List.mem_cons_of_mem _ hm))]
theorem text_at : ∀ {l : List UInt8} {o : Nat}, l[o]? = some 0 → (∀ k, k < o → l[k]? ≠ some 0) → text l = l.take o
  | [], o, h, _ => by simp at h
  | b :: l, 0, h, _ => by
    simp at h
    rw [text, if_pos h, List.take_zero]
  | b :: l, o + 1, h, hn => by
    have h0 : b ≠ 0 := fun e => hn 0 (by omega) (by simp [e])
    rw [text, if_neg h0, text_at (l := l) (o := o) (by simpa using h) (fun k hk => by have := hn (k + 1) (by omega); simpa using this), List.take_succ_cons]
/-- What is left without the zeros in front. -/
def trim : List UInt8 → List UInt8
  | [] => []
  | b :: l => if b = 0 then trim l else b :: l
theorem trim_nil : ∀ {l : List UInt8}, trim l = [] ↔ ∀ b ∈ l, b = 0
  | [] => by simp [trim]
  | b :: l => by
    rw [trim]
    split
    · rename_i h
      rw [trim_nil]
      simp [h]
    · rename_i h
      simp [h]
end A

section
variable [Pan] {E w : World} {K Q : Value → World → Prop} {L M : List HA} {l r : List UInt8} {s s2 : Sl}

omit [Pan] in
theorem u8_toNat (c : UInt8) : ((c.toNat : Int)).toNat.toUInt8 = c := by simp
theorem pN_ibs (c : UInt8) (hk : K (.int .i64 (A.ixb l c)) w) : pN Tryd.prog (oCall 76 [.string ⟨l.toArray⟩, bv c]) w K := by
  have h := run_callFunc_extern (P := Tryd.prog) Tryd.func76 (by kernel_rfl) (by kernel_rfl) (by kernel_rfl) (e := Extern.BytealgIndexByte.indexByte) (by kernel_rfl) #[.string ⟨l.toArray⟩, .int .u8 c.toNat] w
  rw [Lib.run_indexByteString, u8_toNat] at h
  have h2 : (oCall 76 [.string ⟨l.toArray⟩, bv c]).run Tryd.prog w = .ok (.value (.int .i64 (A.ixb l c))) w := h
  rw [pN_def, h2, rN_value]
  exact hk
omit [Pan] in
theorem bytesOf_bytes (l : List UInt8) : Lib.bytesOf (l.map fun b => (b.toNat : Int)) = l := by
  simp only [Lib.bytesOf, List.map_map]
  conv => rhs; rw [← List.map_id l]
  apply List.map_congr_left
  intro b _
  exact u8_toNat b
omit [Pan] in
theorem run_ixb {s : Sl} (hr : Rd w 1 (.slice s.a l.length s.c) l.length (bvs l)) (c : UInt8) : (Extern.BytealgIndexByte.indexByte #[.slice s.a l.length s.c, .int .u8 c.toNat]).run Tryd.prog w = .ok (.int .i64 (A.ixb l c)) w := by
  obtain ⟨hl, ao, cap, hv, hcap, hnil, hc⟩ := hr
  simp only [Value.slice.injEq, true_and] at hv
  obtain ⟨hv1, hv2⟩ := hv
  have hs := Lib.run_indexByteString (P := Tryd.prog) ⟨l.toArray⟩ (c.toNat : Int) w
  rw [u8_toNat] at hs
  rw [hv1]
  cases ao with
  | none =>
    have : l = [] := List.length_eq_zero_iff.1 (hnil rfl).1
    subst this
    exact Lib.run_indexByteNil (P := Tryd.prog) _ _ _ _
  | some a =>
    have hld := Lib.run_loadBytesX (P := Tryd.prog) w (l.map fun b => (b.toNat : Int)) a .empty (fun j x hj => by
      refine hc a rfl j _ ?_
      rw [List.getElem?_map] at hj
      obtain ⟨b, hb, rfl⟩ := Option.map_eq_some_iff.1 hj
      rw [bvs, List.getElem?_map, hb]
      rfl)
    rw [List.length_map, bytesOf_bytes] at hld
    have he : (⟨ByteArray.empty.data ++ l.toArray⟩ : ByteArray) = ⟨l.toArray⟩ := by
      apply ByteArray.ext
      show (#[] : Array UInt8) ++ l.toArray = l.toArray
      simp
    rw [he] at hld
    change Sem.run Tryd.prog (do
      let b ← Extern.Bytes.bytesOf (.slice (some a) l.length s.c)
      let c ← Extern.Bytes.asByte (.int .u8 c.toNat)
      match (List.range b.size).find? fun i => b[i]! == c with
      | some i => pure (goInt i)
      | none => pure (goInt (-1))) w = _
    change Sem.run Tryd.prog (do
      let b ← Extern.Bytes.bytesOf (.string ⟨l.toArray⟩)
      let c ← Extern.Bytes.asByte (.int .u8 c.toNat)
      match (List.range b.size).find? fun i => b[i]! == c with
      | some i => pure (goInt i)
      | none => pure (goInt (-1))) w = _ at hs
    simp only [Extern.Bytes.bytesOf, Sem.run_bind, Sem.run_pure, hld, Result.andThen] at hs ⊢
    exact hs
theorem pN_ib (c : UInt8) (hS : Sat E w L) [hr : Rds cd_uint8 L s l] (hk : K (.int .i64 (A.ixb l c)) w) : pN Tryd.prog (oCall 86 [.slice s.a l.length s.c, bv c]) w K := by
  have h := run_callFunc_extern (P := Tryd.prog) Tryd.func86 (by kernel_rfl) (by kernel_rfl) (by kernel_rfl) (e := Extern.BytealgIndexByte.indexByte) (by kernel_rfl) #[.slice s.a l.length s.c, .int .u8 c.toNat] w
  have hrd := hS.rds (C := cd_uint8) (s := s)
  rw [flat_uint8] at hrd
  rw [run_ixb hrd] at h
  have h2 : (oCall 86 [.slice s.a l.length s.c, bv c]).run Tryd.prog w = .ok (.value (.int .i64 (A.ixb l c))) w := h
  rw [pN_def, h2, rN_value]
  exact hk

attribute [local irreducible] oMv oV oU oCall oCallV oBi oBin oUn oLoad oStore oNil oFld oField oIdx oIndex oPick oAlloc oBox oBuild oBs oConv oMk oSl oExt oFn oIface oMap oLook oMapUp oRange oNext oAssert oPanic oRes pN pA pL pDr pIf gA pGd Calls
theorem sIndexByte_ok (c : UInt8) (hQ : Q (.int .i64 (A.ixb l c)) w) : Calls Tryd.prog 44 #[.string ⟨l.toArray⟩, bv c] w (retP Q) := by
  refine strings_IndexByte.calls ?_
  unfold strings_IndexByte.F
  refine pc_internal_stringslite_IndexByte ?_
  refine internal_stringslite_IndexByte.calls ?_
  unfold internal_stringslite_IndexByte.F
  exact pN_ibs c hQ
theorem bIndexByte_ok (c : UInt8) (hS : Sat E w L) [hr : Rds cd_uint8 L s l] (hQ : Q (.int .i64 (A.ixb l c)) w) : Calls Tryd.prog 81 #[.slice s.a l.length s.c, bv c] w (retP Q) := by
  refine bytes_IndexByte.calls ?_
  unfold bytes_IndexByte.F
  exact pN_ib c hS hQ
theorem Equal_ok (hS : Sat E w L) [hr : Rds cd_uint8 L s l] [hr2 : Rds cd_uint8 L s2 r] (hQ : Q (.bool (decide (l = r))) w) : Calls Tryd.prog 29 #[.slice s.a l.length s.c, .slice s2.a r.length s2.c] w (retP Q) := by
  refine bytes_Equal.calls ?_
  unfold bytes_Equal.F
  by_cases h : l = r
  · rw [decide_eq_true h] at hQ
    repeat' (first | (refine pN_eql_ss ?_ ?_ <;> intro hc <;> try (exfalso; first | omega | exact hc rfl | exact hc (by assumption) | exact absurd hc (by assumption))) | refine pN_st hS (by first | rfl | omega | simpa only [go_sem] using True.intro | (simp only [go_sem]; omega)) ?_ | fail)
    exact hQ
  · rw [decide_eq_false h] at hQ
    repeat' (first | (refine pN_eql_ss ?_ ?_ <;> intro hc <;> try (exfalso; first | omega | exact hc rfl | exact hc (by assumption) | exact absurd hc (by assumption))) | refine pN_st hS (by first | rfl | omega | simpa only [go_sem] using True.intro | (simp only [go_sem]; omega)) ?_ | fail)
    exact hQ

theorem bIndex1_ok (c : UInt8) (hS : Sat E w L) [hr : Rds cd_uint8 L s l] [hr2 : Rds cd_uint8 L s2 [c]] (hQ : Q (.int .i64 (A.ixb l c)) w) : Calls Tryd.prog 77 #[.slice s.a l.length s.c, .slice s2.a 1 s2.c] w (retP Q) := by
  refine bytes_Index.calls ?_
  unfold bytes_Index.F
  have hx : [c][0]? = some c := rfl
  have h1 : 1 = [c].length := rfl
  repeat' (first | (refine pc_bytes_IndexByte (bIndexByte_ok c hS ?_)) | (refine pN_eql_s ?_ ?_ <;> intro hc <;> try (exfalso; first | omega | exact hc rfl | exact hc (by assumption) | exact absurd hc (by assumption))) | refine pIf_t ?_ | refine pIf_f ?_ | refine pN_ld1 ha hS ?_ | refine pN_ixk hS _ (by first | rfl | (exact (Int.toNat_of_nonneg (by omega)).symm)) (by first | rfl | omega | simpa only [go_sem] using True.intro | (simp only [go_sem]; omega)) (by assumption) fun a ha hel => ?_ | refine pN_via (by (intro K; simp (disch := omega) only [go_sem, pN_min, pN_max, w_u32, w_u64, Option.isNone_some, Option.isNone_none]; (try simp only [wrap_u32, wrap_u64]); rfl)) ?_ | fail)
  exact hQ
theorem Cut0_ok (hS : Sat E w L) [hr : Rds cd_uint8 L s l] [hr2 : Rds cd_uint8 L s2 [0]] (hl : l.length ≤ 140737488355328) (hQ : ∀ (s3 : Sl) (v1 v2 : Value) (w : World), Sat E w L → Rds cd_uint8 L s3 (A.text l) → Q (.tuple #[.slice s3.a (A.text l).length s3.c, v1, v2]) w) :
    Calls Tryd.prog 71 #[.slice s.a l.length s.c, .slice s2.a 1 s2.c] w (retP Q) := by
  refine bytes_Cut.calls ?_
  unfold bytes_Cut.F
  have hge := A.ixb_ge l 0
  refine pc_bytes_Index (bIndex1_ok 0 hS ?_)
  by_cases h : 0 ≤ A.ixb l 0
  · obtain ⟨o, ho⟩ : ∃ o : Nat, A.ixb l 0 = o := ⟨(A.ixb l 0).toNat, by omega⟩
    obtain ⟨h1, h2⟩ := Lib.indexByte_some ho
    have hol := (List.getElem?_eq_some_iff.1 h1).1
    rw [ho]
    have ht := A.text_at h1 h2
    have htl : (l.take o).length = o := by rw [List.length_take]; omega
    repeat' (first | (refine pA_slhw hS o rfl rfl (by omega) ?_; intro hp) | (refine pA_sl1w hS (o + 1) (by omega) rfl (by omega) ?_; intro hp2) | (refine pN_geq_s ?_ ?_ <;> intro hc <;> try (exfalso; omega)) | refine pIf_t ?_ | (refine pDr_go hS ?_; clear hS; intro w hS) | refine pA_via (by (intro K; simp (disch := omega) only [go_sem, pN_min, pN_max, w_u32, w_u64, Option.isNone_some, Option.isNone_none]; (try simp only [wrap_u32, wrap_u64]); rfl)) ?_ | fail)
    rw [ht] at hQ
    rw [htl] at hQ
    exact hQ _ _ _ _ hS hp
  · repeat' (first | (refine pN_geq_s ?_ ?_ <;> intro hc <;> try (exfalso; omega)) | refine pIf_f ?_ | fail)
    have ht := A.text_none (l := l) fun hm => h (A.ixb_mem.2 hm)
    rw [ht] at hQ
    exact hQ _ _ _ _ hS hr
theorem Clone_ok (hS : Sat E w L) [hr : Rds cd_uint8 L s l] (hl : l.length ≤ 140737488355328) (hQ : ∀ s' w', Sat E w' (rows cd_uint8 s' l :: L) → Q (.slice s'.a l.length s'.c) w') : Calls Tryd.prog 41 #[.slice s.a l.length s.c] w (retP Q) := by
  refine bytes_Clone.calls ?_
  unfold bytes_Clone.F
  have hrd := hS.rds (C := cd_uint8) (s := s)
  obtain ⟨_, ao, cap, hv, hcap, hnil, hc⟩ := hrd
  simp only [Value.slice.injEq, true_and] at hv
  obtain ⟨hv1, hv2⟩ := hv
  cases ao with
  | none =>
    have : l = [] := List.length_eq_zero_iff.1 (hnil rfl).1
    subst this
    rw [hv1]
    repeat' (first | refine pN_eql_slc ?_ | refine pIf_t ?_ | fail)
    exact hQ ⟨none, 0⟩ _ (hS.nil 5 1)
  | some a =>
    have hd : s.a.isNone = false := by rw [hv1]; rfl
    refine pN_eql_slc ?_
    rw [hd]
    repeat' (first | refine pIf_f ?_ | (refine pN_b0 hS ?_; clear hS; intro s w hS) | (refine pN_app hS (by first | rfl | omega | simpa only [go_sem] using True.intro | (simp only [go_sem]; omega)) (by first | rfl | omega | simpa only [go_sem] using True.intro | (simp only [go_sem]; omega)) (by first | omega | (simp only [go_sem]; omega)) ?_; clear hS; intro s w hS) | fail)
    exact hQ _ _ hS
theorem trimLeftByte_ok (hS : Sat E w L) [hr : Rds cd_uint8 L s l] (hQ : ∀ s', Rds cd_uint8 L s' (A.trim l) → Q (.slice s'.a (A.trim l).length s'.c) w) : Calls Tryd.prog 72 #[.slice s.a l.length s.c, bv 0] w (retP Q) := by
  refine bytes_trimLeftByte.calls ?_
  unfold bytes_trimLeftByte.F
  refine ⟨fun v w' => ∃ (s2 : Sl) (l2 : List UInt8), v = .slice s2.a l2.length s2.c ∧ A.trim l2 = A.trim l ∧ Rds cd_uint8 L s2 l2 ∧ w' = w, fun v _ => (match v with | .slice _ n _ => n | _ => 0), ⟨s, l, rfl, rfl, hr, rfl⟩, ?_⟩
  rintro _ _ _ ⟨s2, l2, rfl, ht, hr2, rfl⟩
  cases l2 with
  | nil =>
    rw [← ht] at hQ
    repeat' (first | (refine pN_gtr_s ?_ ?_ <;> intro hc <;> try (exfalso; omega)) | (refine pN_eql_s ?_ ?_ <;> intro hc <;> try (exfalso; first | omega | exact hc rfl | exact hc (by assumption) | exact absurd hc (by assumption))) | refine pIf_t ?_ | refine pIf_f ?_ | refine pGd_no (by rfl) ?_ | refine pN_via (by (intro K; simp (disch := omega) only [go_sem, pN_min, pN_max, w_u32, w_u64, Option.isNone_some, Option.isNone_none]; (try simp only [wrap_u32, wrap_u64]); rfl)) ?_ | fail)
    exact hQ ⟨none, 0⟩ Rds.nil
  | cons b l2 =>
    have hb : (b :: l2)[0]? = some b := rfl
    have hlen : (b :: l2).length = l2.length + 1 := rfl
    by_cases h0 : b = 0
    · subst h0
      repeat' (first | (refine pN_sl1w hS 1 rfl rfl (by omega) ?_; intro hp) | (refine pN_gtr_s ?_ ?_ <;> intro hc <;> try (exfalso; omega)) | (refine pN_eql_s ?_ ?_ <;> intro hc <;> try (exfalso; first | omega | exact hc rfl | exact hc (by assumption) | exact absurd hc (by assumption))) | refine pIf_t ?_ | refine pGd_go (by rfl) ?_ | refine pN_ld1 ha hS ?_ | refine pN_ixk hS _ (by first | rfl | (exact (Int.toNat_of_nonneg (by omega)).symm)) (by first | rfl | omega | simpa only [go_sem] using True.intro | (simp only [go_sem]; omega)) (by assumption) fun a ha hel => ?_ | refine pN_via (by (intro K; simp (disch := omega) only [go_sem, pN_min, pN_max, w_u32, w_u64, Option.isNone_some, Option.isNone_none]; (try simp only [wrap_u32, wrap_u64]); rfl)) ?_ | fail)
      exact ⟨⟨_, l2, rfl, by rw [← ht]; rfl, hp, rfl⟩, by simp⟩
    · have h1 : ¬ (b.toNat : Int) = ((0 : UInt8).toNat : Int) := fun e => h0 (UInt8.toNat_inj.1 (by omega))
      rw [A.trim, if_neg h0] at ht
      repeat' (first | (refine pN_gtr_s ?_ ?_ <;> intro hc <;> try (exfalso; omega)) | (refine pN_eql_s ?_ ?_ <;> intro hc <;> try (exfalso; first | omega | exact hc rfl | exact hc (by assumption) | exact absurd hc (by assumption))) | refine pIf_f ?_ | refine pGd_go (by rfl) ?_ | refine pN_ld1 ha hS ?_ | refine pN_ixk hS _ (by first | rfl | (exact (Int.toNat_of_nonneg (by omega)).symm)) (by first | rfl | omega | simpa only [go_sem] using True.intro | (simp only [go_sem]; omega)) (by assumption) fun a ha hel => ?_ | refine pN_via (by (intro K; simp (disch := omega) only [go_sem, pN_min, pN_max, w_u32, w_u64, Option.isNone_some, Option.isNone_none]; (try simp only [wrap_u32, wrap_u64]); rfl)) ?_ | fail)
      rw [← ht] at hQ
      exact hQ _ hr2
theorem TrimLeft0_ok (hS : Sat E w L) [hr : Rds cd_uint8 L s l] (hQ : ∀ s', Rds cd_uint8 L s' (A.trim l) → Q (.slice s'.a (A.trim l).length s'.c) w) : Calls Tryd.prog 64 #[.slice s.a l.length s.c, .string ⟨#[0]⟩] w (retP Q) := by
  refine bytes_TrimLeft.calls ?_
  unfold bytes_TrimLeft.F
  cases l with
  | nil =>
    repeat' (first | (refine pN_eql_s ?_ ?_ <;> intro hc <;> try (exfalso; first | omega | exact hc rfl | exact hc (by assumption) | exact absurd hc (by assumption))) | refine pIf_t ?_ | refine pN_via (by (intro K; simp (disch := omega) only [go_sem, pN_min, pN_max, w_u32, w_u64, Option.isNone_some, Option.isNone_none]; (try simp only [wrap_u32, wrap_u64]); rfl)) ?_ | fail)
    exact hQ ⟨none, 0⟩ Rds.nil
  | cons b l =>
    have hlen : (b :: l).length = l.length + 1 := rfl
    have e : (.string ⟨#[0]⟩ : Value) = .string ⟨List.toArray [0]⟩ := rfl
    have e0 : (.string ⟨#[]⟩ : Value) = .string ⟨List.toArray []⟩ := rfl
    rw [e, e0]
    have hx : [(0 : UInt8)][0]? = some 0 := rfl
    repeat' (first | refine pN_slen ?_ | refine pN_sidx _ (by first | rfl | (exact (Int.toNat_of_nonneg (by omega)).symm)) (by first | assumption | rfl) ?_ | (refine pc_bytes_trimLeftByte (trimLeftByte_ok hS ?_); intro s' hp) | (refine pN_lss_s ?_ ?_ <;> intro hc <;> try (exfalso; omega)) | ((first | refine pN_eql_s ?_ ?_ | refine pN_eql_ss ?_ ?_) <;> intro hc <;> try (exfalso; first | omega | exact hc rfl | exact hc (by assumption) | exact absurd hc (by assumption))) | refine pIf_t ?_ | refine pIf_f ?_ | refine pGd_go (by rfl) ?_ | refine pN_via (by (intro K; simp (disch := omega) only [go_sem, pN_min, pN_max, w_u32, w_u64, Option.isNone_some, Option.isNone_none]; (try simp only [wrap_u32, wrap_u64]); rfl)) ?_ | fail)
    all_goals first
      | exact hQ _ hp
      | exact absurd hc (by decide)
      | exact absurd (show ((0 : UInt8).toNat : Int) < ((128 : UInt8).toNat : Int) by decide) hc
end

end Go.Proofs.YteeepkimnpabiaaDoor
