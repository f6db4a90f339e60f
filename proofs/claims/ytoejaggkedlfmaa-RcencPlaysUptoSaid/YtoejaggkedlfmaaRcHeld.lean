/-
  The book of answered lists of package pithlaw07: written, grown, hold.
-/
import Derived.Test.YtoejaggkedlfmaaLfPithlaw07
import Derived.Test.YtoejaggkedlfmaaTypes
namespace Go.Proofs.Ytoejaggkedlfmaa
open Go
set_option linter.unusedSimpArgs false
set_option linter.unnecessarySimpa false
set_option linter.unusedVariables false
attribute [local irreducible] oMv oV oU oCall oCallV oBi oBin oUn oLoad oStore oNil oFld oField oIdx oIndex oPick oAlloc oBox oBuild oBs oConv oMk oSl oExt oFn oIface oMap oLook oMapUp oRange oNext oAssert oPanic oRes pN pA pL pDr pIf gA pGd

/-- An entry of the book: where the list lies, what is in it, how long it was answered, its mark, what was answered, whether it was left, its length. -/
structure Hd where
  s : Sl
  l : List UInt8
  n : Nat
  mark : UInt8
  want : List UInt8
  kept : Bool
  len : Nat

def Hd.t (h : Hd) : T_pithlaw07_Held := ⟨(h.s, List.replicate h.len 0), h.n, h.mark, h.want, h.kept⟩
def Hd.part (h : Hd) : HA := rows cd_uint8 h.s h.l
def Hd.cells (h : Hd) : List Value := [.slice h.s.a h.len h.s.c, .int .i64 h.n, bv h.mark, .string ⟨h.want.toArray⟩, .bool h.kept]
theorem Hd.enc (h : Hd) : cd_pithlaw07_Held.enc h.t = h.cells := by
  show [Value.slice h.s.a (List.replicate h.len (0 : UInt8)).length h.s.c, _, _, _, _] = _
  rw [List.length_replicate]; rfl
/-- An entry as 'hold' leaves it. -/
def Hd.Held (h : Hd) : Prop := h.n ≤ 100000000000000 ∧ h.l.length = h.len ∧ if h.kept then h.l = h.want ∧ h.len = h.n else h.l = List.replicate (h.n + 3) h.mark

theorem set_fill (k : Nat) (m : UInt8) (l : List UInt8) (hk : k < l.length) : (List.replicate k m ++ l.drop k).set k m = List.replicate (k + 1) m ++ l.drop (k + 1) := by
  rw [List.set_append_right _ _ (by simp)]
  simp only [List.length_replicate, Nat.sub_self]
  rw [List.drop_eq_getElem_cons hk, List.set_cons_zero, List.replicate_succ']
  simp

section
variable {E w : World} {M : List HA} {Q : Value → World → Prop}

theorem written_ok {s : Sl} {l : List UInt8} (n len : Nat) (mark : UInt8) (want : List UInt8) (kept : Bool) (hS : Sat E w (rows cd_uint8 s l :: M)) (hl : l.length = len) (hn : n ≤ len) (hb : len ≤ 140737488355328)
    (hQ : ∀ w, Sat E w (rows cd_uint8 s (List.replicate n mark ++ l.drop n) :: M) → Q (.tuple #[]) w) :
    Calls Try.prog 85 #[.agg #[.slice s.a len s.c, .int .i64 n, bv mark, .string ⟨want.toArray⟩, .bool kept]] w (retP Q) := by
  refine pithlaw07_Held_written.calls ?_
  unfold pithlaw07_Held_written.F
  repeat' (first | (refine pN_bx hS (by rfl) ?_; clear hS; intro a w hS) | fail)
  refine ⟨fun v w => ∃ k : Nat, v = .int .i64 k ∧ k ≤ n ∧ Sat E w (cel a ⟨68, [.slice s.a len s.c, .int .i64 n, bv mark, .string ⟨want.toArray⟩, .bool kept]⟩ :: rows cd_uint8 s (List.replicate k mark ++ l.drop k) :: M), fun v _ => n - (RowKit.intOf v).toNat, ⟨0, rfl, Nat.zero_le _, by rw [List.replicate_zero, List.nil_append, List.drop_zero]; exact hS.to⟩, ?_⟩
  clear hS
  rintro _ _ w ⟨k, rfl, hk, hS⟩
  by_cases hlt : k < n
  · have hm : (List.replicate k mark ++ l.drop k).length = len := by simp; omega
    have he := set_fill k mark l (by omega)
    generalize List.replicate k mark ++ l.drop k = m at hm hS he
    repeat' (first | (refine pN_lss_s ?_ ?_ <;> intro hc <;> try (exfalso; omega)) | refine pIf_t ?_ | refine pN_l hS (by first | rfl | assumption) ?_ | refine pN_ix hS _ (by first | rfl | (exact (Int.toNat_of_nonneg (by omega)).symm)) (by first | rfl | omega | simpa only [go_sem] using True.intro | (simp only [go_sem]; omega)) (by first | omega | (simp only [go_sem]; omega)) fun a x hx ha hel => ?_ | (refine pN_sr hel hS (by rfl) (by rfl) (by first | omega | (simp only [go_sem]; omega)) ?_; clear hS; intro w hS) | refine pN_via (by (intro K; simp (disch := omega) only [go_sem, pN_min, pN_max, w_u32, w_u64, Option.isNone_some, Option.isNone_none]; (try simp only [wrap_u32, wrap_u64]); rfl)) ?_ | fail)
    rw [he] at hS
    exact ⟨⟨k + 1, rfl, by omega, hS.to⟩, by simp [RowKit.intOf] <;> omega⟩
  · obtain rfl : k = n := by omega
    repeat' (first | (refine pN_lss_s ?_ ?_ <;> intro hc <;> try (exfalso; omega)) | refine pIf_f ?_ | refine pN_l hS (by first | rfl | assumption) ?_ | refine pN_via (by (intro K; simp (disch := omega) only [go_sem, pN_min, pN_max, w_u32, w_u64, Option.isNone_some, Option.isNone_none]; (try simp only [wrap_u32, wrap_u64]); rfl)) ?_ | fail)
    exact hQ _ hS.to

theorem grown_ok {s : Sl} {l : List UInt8} (n len : Nat) (mark : UInt8) (want : List UInt8) (kept : Bool) (hS : Sat E w (rows cd_uint8 s l :: M)) (hl : l.length = len) (hb : len + 3 ≤ 140737488355328)
    (hQ : ∀ s w, Sat E w (rows cd_uint8 s (l ++ List.replicate 3 mark) :: M) → Q (.agg #[.slice s.a (len + 3) s.c, .int .i64 n, bv mark, .string ⟨want.toArray⟩, .bool kept]) w) :
    Calls Try.prog 86 #[.agg #[.slice s.a len s.c, .int .i64 n, bv mark, .string ⟨want.toArray⟩, .bool kept]] w (retP Q) := by
  refine pithlaw07_Held_grown.calls ?_
  unfold pithlaw07_Held_grown.F
  repeat' (first | (refine pN_nz hS ?_; clear hS; intro a w hS) | (refine pN_bx hS (by rfl) ?_; clear hS; intro a w hS) | fail)
  rename_i a1 _
  refine ⟨fun v w => ∃ (k : Nat) (s : Sl), v = .int .i64 k ∧ k ≤ 3 ∧ Sat E w (cel a1 ⟨68, [.slice s.a (len + k) s.c, .int .i64 n, bv mark, .string ⟨want.toArray⟩, .bool kept]⟩ :: cel a ⟨68, [.slice none 0 0, .int .i64 0, bv 0, .string ⟨#[]⟩, .bool false]⟩ :: rows cd_uint8 s (l ++ List.replicate k mark) :: M), fun v _ => 3 - (RowKit.intOf v).toNat, ⟨0, s, rfl, Nat.zero_le _, by rw [List.replicate_zero, List.append_nil]; exact hS.to⟩, ?_⟩
  clear hS
  rintro _ _ w ⟨k, s, rfl, hk, hS⟩
  by_cases hlt : k < 3
  · have hm : (l ++ List.replicate k mark).length = len + k := by simp; omega
    have he : (l ++ List.replicate k mark) ++ [mark] = l ++ List.replicate (k + 1) mark := by rw [List.append_assoc, List.replicate_succ']
    generalize l ++ List.replicate k mark = m at hm hS he
    have hm2 : (m ++ [mark]).length = len + (k + 1) := by simp; omega
    repeat' (first | (refine pN_lss_s ?_ ?_ <;> intro hc <;> try (exfalso; omega)) | refine pIf_t ?_ | refine pN_l hS (by first | rfl | assumption) ?_ | (refine pN_s hS (by first | exact Nat.le_of_ble_eq_true rfl | assumption) (by rfl) ?_; clear hS; intro w hS; try simp only [List.set_cons_zero, List.set_cons_succ] at hS) | (refine pN_b1 hS (by rfl) (by decide) ?_; clear hS; intro s w hS) | (refine pN_app hS (by first | rfl | omega | simpa only [go_sem] using True.intro | (simp only [go_sem]; omega)) (by first | rfl | omega | simpa only [go_sem] using True.intro | (simp only [go_sem]; omega)) (by first | omega | (simp only [go_sem]; omega)) ?_; clear hS; intro s w hS) | refine pN_via (by (intro K; simp (disch := omega) only [go_sem, pN_min, pN_max, w_u32, w_u64, Option.isNone_some, Option.isNone_none]; (try simp only [wrap_u32, wrap_u64]); rfl)) ?_ | fail)
    rw [hm2, he] at hS
    exact ⟨⟨k + 1, s, rfl, by omega, hS.to⟩, by simp [RowKit.intOf] <;> omega⟩
  · obtain rfl : k = 3 := by omega
    repeat' (first | (refine pN_lss_s ?_ ?_ <;> intro hc <;> try (exfalso; omega)) | refine pIf_f ?_ | refine pN_la hS (by rfl) ?_ | refine pL_ra hS (by rfl) ?_ | (refine pN_sa hS (by rfl) (by rfl) (by rfl) ?_; clear hS; intro w hS; try dsimp only at hS) | fail)
    exact hQ _ _ hS.to

theorem byte_conv (z : Int) : ∃ m : UInt8, m = byteOf z := ⟨_, rfl⟩

theorem hold_ok {s : Sl} {l : List UInt8} (hS : Sat E w (rows cd_uint8 s l :: M)) (hb : l.length ≤ 100000000000000) (k : Nat) (hk : k ≤ 1000000000000)
    (hQ : ∀ (h : Hd) w, h.Held → h.n = l.length → Sat E w (h.part :: M) → Q (.agg h.cells.toArray) w) :
    Calls Try.prog 35 #[.slice s.a l.length s.c, .int .i64 k] w (retP Q) := by
  refine pithlaw07_hold.calls ?_
  unfold pithlaw07_hold.F
  have he : List.replicate l.length (byteOf ((k : Int) * 2 + 1)) ++ l.drop l.length ++ List.replicate 3 (byteOf ((k : Int) * 2 + 1)) = List.replicate (l.length + 3) (byteOf ((k : Int) * 2 + 1)) := by
    rw [List.drop_length, List.append_nil, List.replicate_append_replicate]
  repeat' (first | (refine pc_pithlaw07_Held_written (written_ok (s := s) (l := l) l.length l.length _ _ _ (hS.fd (rows cd_uint8 s)) rfl (Nat.le_refl _) (by omega) ?_); clear hS; intro w hS) | (refine pc_pithlaw07_Held_grown (grown_ok (s := s) l.length l.length _ _ _ (hS.fd (rows cd_uint8 s)) (by simp) (by omega) ?_); clear hS; intro s w hS) | (refine pN_eql_s ?_ ?_ <;> intro hc <;> try (exfalso; first | omega | exact hc rfl | exact hc (by assumption) | exact absurd hc (by assumption))) | refine pIf_t ?_ | refine pIf_f ?_ | refine pN_tob ?_ | refine pN_l hS (by first | rfl | assumption) ?_ | refine pN_la hS (by rfl) ?_ | refine pL_ra hS (by rfl) ?_ | (refine pN_sa hS (by rfl) (by rfl) (by rfl) ?_; clear hS; intro w hS; try dsimp only at hS) | (refine pN_nz hS ?_; clear hS; intro a w hS) | refine pN_st hS (by first | rfl | omega | simpa only [go_sem] using True.intro | (simp only [go_sem]; omega)) ?_ | refine pN_via (by (intro K; simp (disch := omega) only [go_sem, pN_min, pN_max, w_u32, w_u64, Option.isNone_some, Option.isNone_none]; (try simp only [wrap_u32, wrap_u64]); rfl)) ?_ | refine ⟨_, ?_, fun _ _ h => h⟩ | fail)
  · exact hQ ⟨s, l, l.length, byteOf ((k : Int) * 2 + 1), l, true, l.length⟩ _ ⟨hb, rfl, by simp⟩ rfl (show Sat E _ (rows cd_uint8 s l :: M) from hS.to)
  · rw [he] at hS
    exact hQ ⟨s, List.replicate (l.length + 3) (byteOf ((k : Int) * 2 + 1)), l.length, byteOf ((k : Int) * 2 + 1), l, false, l.length + 3⟩ _ ⟨hb, by simp, by simp⟩ rfl (show Sat E _ (rows cd_uint8 s (List.replicate (l.length + 3) (byteOf ((k : Int) * 2 + 1))) :: M) from hS.to)
end

end Go.Proofs.Ytoejaggkedlfmaa
