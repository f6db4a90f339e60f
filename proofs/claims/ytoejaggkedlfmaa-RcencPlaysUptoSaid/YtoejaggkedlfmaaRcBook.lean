/-
  The book of answered lists of package pithlaw07, looked at: held.
-/
import Derived.Test.YtoejaggkedlfmaaRcHeld
namespace Go.Proofs.Ytoejaggkedlfmaa
open Go
set_option linter.unusedSimpArgs false
set_option linter.unnecessarySimpa false
set_option linter.unusedVariables false
attribute [local irreducible] oMv oV oU oCall oCallV oBi oBin oUn oLoad oStore oNil oFld oField oIdx oIndex oPick oAlloc oBox oBuild oBs oConv oMk oSl oExt oFn oIface oMap oLook oMapUp oRange oNext oAssert oPanic oRes pN pA pL pDr pIf gA pGd

/-- An entry after the second turn: the left ones are written full. -/
def Hd.Written (h : Hd) : Prop := h.n ≤ 100000000000000 ∧ h.l.length = h.len ∧ if h.kept then h.l = List.replicate h.n h.mark ∧ h.len = h.n else h.l = List.replicate (h.n + 3) h.mark
/-- An entry after the third turn: all are lengthened. -/
def Hd.Grown (h : Hd) : Prop := h.n ≤ 100000000000000 ∧ h.len = h.n + 3 ∧ h.l = List.replicate (h.n + 3) h.mark

theorem map_same {α β : Type} (f : α → β) (l : List α) (i : Nat) (x y : α) (hx : l[i]? = some x) (h : f y = f x) : (l.set i y).map f = l.map f := by
  rw [List.map_set, h]
  apply List.ext_getElem?
  intro j
  rw [List.getElem?_set]
  split
  · rename_i e
    subst e
    rw [if_pos (by rw [List.length_map]; exact (List.getElem?_eq_some_iff.1 hx).1), List.getElem?_map, hx]; rfl
  · rfl
theorem turn_at (P R : Hd → Prop) (hs : List Hd) (k : Nat) (hst : ∀ j h, hs[j]? = some h → if j < k then R h else P h) (h' : Hd) (hR : R h') : ∀ j h, (hs.set k h')[j]? = some h → if j < k + 1 then R h else P h := by
  intro j h e
  rw [List.getElem?_set] at e
  by_cases hjk : k = j
  · subst hjk
    rw [if_pos rfl] at e
    split at e
    · cases e; rw [if_pos (by omega)]; exact hR
    · cases e
  · rw [if_neg hjk] at e
    have := hst j h e
    by_cases hj : j < k
    · rw [if_pos hj] at this; rw [if_pos (by omega)]; exact this
    · rw [if_neg hj] at this; rw [if_neg (by omega)]; exact this
theorem turn_same (P R : Hd → Prop) (hs : List Hd) (k : Nat) (hst : ∀ j h, hs[j]? = some h → if j < k then R h else P h) (hR : ∀ h, hs[k]? = some h → R h) : ∀ j h, hs[j]? = some h → if j < k + 1 then R h else P h := by
  intro j h e
  have := hst j h e
  by_cases hjk : j = k
  · subst hjk
    rw [if_pos (by omega)]; exact hR h e
  · by_cases hj : j < k
    · rw [if_pos hj] at this; rw [if_pos (by omega)]; exact this
    · rw [if_neg hj] at this; rw [if_neg (by omega)]; exact this

section
variable {E w : World} {M : List HA} {Q : Value → World → Prop}

def parts (_ : Unit) (hs : List Hd) : HA := bag (hs.map Hd.part)
theorem parts.out {hs : List Hd} {i : Nat} {h : Hd} (hS : Sat E w (parts () hs :: M)) (hi : hs[i]? = some h) : Sat E w (rows cd_uint8 h.s h.l :: bag ((hs.map Hd.part).eraseIdx i) :: M) :=
  Sat.out hS i (by rw [List.getElem?_map, hi]; rfl)
theorem parts.into {hs : List Hd} {i : Nat} {h : Hd} (h' : Hd) (hS : Sat E w (rows cd_uint8 h'.s h'.l :: bag ((hs.map Hd.part).eraseIdx i) :: M)) (hi : hs[i]? = some h) : Sat E w (parts () (hs.set i h') :: M) := by
  have h1 : Sat E w (h'.part :: bag ((hs.map Hd.part).eraseIdx i) :: M) := hS
  have h2 := Sat.into (A := h.part) h1 (by rw [List.getElem?_map, hi]; rfl)
  rw [← List.map_set] at h2
  exact h2
theorem parts.back {hs : List Hd} {i : Nat} {h : Hd} (hS : Sat E w (rows cd_uint8 h.s h.l :: bag ((hs.map Hd.part).eraseIdx i) :: M)) (hi : hs[i]? = some h) : Sat E w (parts () hs :: M) := by
  have h1 := parts.into h hS hi
  have e := map_same (fun h : Hd => h) hs i h h hi rfl
  simp only [List.map_id'] at e
  rwa [e] at h1
theorem Hd.enc' (s : Sl) (n len : Nat) (mark : UInt8) (want : List UInt8) (kept : Bool) : cd_pithlaw07_Held.enc ⟨(s, List.replicate len 0), n, mark, want, kept⟩ = [.slice s.a len s.c, .int .i64 n, bv mark, .string ⟨want.toArray⟩, .bool kept] := Hd.enc ⟨s, [], n, mark, want, kept, len⟩
theorem Hd.get {hs : List Hd} {i : Nat} {h : Hd} (hi : hs[i]? = some h) : (hs.map Hd.t)[i]? = some ⟨(h.s, List.replicate h.len 0), h.n, h.mark, h.want, h.kept⟩ := by rw [List.getElem?_map, hi]; rfl

set_option maxHeartbeats 4000000 in
theorem held_ok (hs : List Hd) {sb : Sl} (hS : Sat E w (rows cd_pithlaw07_Held sb (hs.map Hd.t) :: parts () hs :: M)) (hlen : hs.length ≤ 1000000000000) (hh : ∀ h ∈ hs, h.Held)
    (hQ : ∀ w, Sat E w M → Q (.bool true) w) : Calls Try.prog 39 #[.slice sb.a hs.length sb.c] w (retP Q) := by
  refine pithlaw07_held.calls ?_
  unfold pithlaw07_held.F
  have hml : (hs.map Hd.t).length = hs.length := List.length_map _
  repeat' (first | refine pN_via (by (intro K; simp (disch := omega) only [go_sem, pN_min, pN_max, w_u32, w_u64, Option.isNone_some, Option.isNone_none]; (try simp only [wrap_u32, wrap_u64]); rfl)) ?_ | fail)
  have hS : Sat E w (rows cd_pithlaw07_Held ⟨none, 0⟩ [] :: rows cd_pithlaw07_Held sb (hs.map Hd.t) :: parts () hs :: M) := hS.nil 68 5
  refine ⟨fun y v w => ∃ (k : Nat) (s2 : Sl), y = .slice s2.a k s2.c ∧ v = .int .i64 k ∧ k ≤ hs.length ∧ Sat E w (rows cd_pithlaw07_Held s2 ((hs.take k).map Hd.t) :: rows cd_pithlaw07_Held sb (hs.map Hd.t) :: parts () hs :: M), fun _ v _ => hs.length - (RowKit.intOf v).toNat, ⟨0, ⟨none, 0⟩, rfl, rfl, Nat.zero_le _, hS⟩, ?_⟩
  clear hS
  rintro _ _ _ w ⟨k, s2, rfl, rfl, hk, hS⟩
  have hml2 : ((hs.take k).map Hd.t).length = k := by rw [List.length_map, List.length_take]; omega
  by_cases hlt : k < hs.length
  · obtain ⟨h, hi⟩ : ∃ h, hs[k]? = some h := ⟨hs[k]'hlt, by simp⟩
    have hx := Hd.get hi
    have hhd := hh h (List.mem_of_getElem? hi)
    have ht : (hs.take (k + 1)).map Hd.t = (hs.take k).map Hd.t ++ [h.t] := by rw [List.take_add_one, hi, List.map_append]; rfl
    have hS := parts.out (hS.fd (parts ())) hi
    obtain ⟨s1, l, n, mark, want, kept, len⟩ := h
    dsimp only at hS hx
    have hrl : (List.replicate len (0 : UInt8)).length = len := List.length_replicate
    have hll : l.length = len := hhd.2.1
    rcases kept with _ | _
    · repeat' (first | (refine pN_b1 (x := (⟨(s1, List.replicate len 0), n, mark, want, false⟩ : T_pithlaw07_Held)) hS (by rfl) (by decide) ?_; clear hS; intro s w hS) | (refine pN_lss_s ?_ ?_ <;> intro hc <;> try (exfalso; omega)) | refine pIf_t ?_ | refine pIf_f ?_ | refine pGd_no (by rfl) ?_ | refine pN_l hS (by first | rfl | assumption) ?_ | refine pN_ld_at ha hS (by rfl) ?_ | refine pN_la hS (by rfl) ?_ | (refine pN_sa hS (by rfl) (by rfl) (by rfl) ?_; clear hS; intro w hS; try dsimp only at hS) | (refine pN_nz hS ?_; clear hS; intro a w hS) | refine pN_ixk hS _ (by first | rfl | (exact (Int.toNat_of_nonneg (by omega)).symm)) (by first | rfl | omega | simpa only [go_sem] using True.intro | (simp only [go_sem]; omega)) (by assumption) fun a ha hel => ?_ | (refine pN_app hS (by first | rfl | omega | simpa only [go_sem] using True.intro | (simp only [go_sem]; omega)) (by first | rfl | omega | simpa only [go_sem] using True.intro | (simp only [go_sem]; omega)) (by first | omega | (simp only [go_sem]; omega)) ?_; clear hS; intro s w hS) | refine pN_via (by (intro K; simp (disch := omega) only [go_sem, pN_min, pN_max, w_u32, w_u64, Option.isNone_some, Option.isNone_none]; (try simp only [wrap_u32, wrap_u64]); rfl)) ?_ | fail)
      have hS : Sat E w (rows cd_uint8 s1 l :: bag ((hs.map Hd.part).eraseIdx k) :: rows cd_pithlaw07_Held s ((hs.take k).map Hd.t ++ [⟨(s1, List.replicate len 0), n, mark, want, false⟩]) :: rows cd_pithlaw07_Held sb (hs.map Hd.t) :: M) := hS.to
      have hS := parts.back (h := ⟨s1, l, n, mark, want, false, len⟩) hS hi
      refine ⟨⟨k + 1, s, by rw [List.length_append, hml2]; rfl, rfl, by omega, ?_⟩, by simp [RowKit.intOf] <;> omega⟩
      rw [ht]
      exact hS.fd2 (rows cd_pithlaw07_Held s) (rows cd_pithlaw07_Held sb)
    · obtain ⟨rfl, _⟩ : l = want ∧ len = n := by have := hhd.2.2; rwa [if_pos rfl] at this
      repeat' (first | (refine pN_b1 (x := (⟨(s1, List.replicate len 0), n, mark, l, true⟩ : T_pithlaw07_Held)) hS (by rfl) (by decide) ?_; clear hS; intro s w hS) | (refine pN_lss_s ?_ ?_ <;> intro hc <;> try (exfalso; omega)) | (refine pN_neq_ss ?_ ?_ <;> intro hc <;> try (exfalso; first | omega | exact hc rfl | exact hc (by assumption) | exact absurd hc (by assumption))) | refine pIf_t ?_ | refine pIf_f ?_ | refine pGd_go (by rfl) ?_ | refine pN_l hS (by first | rfl | assumption) ?_ | refine pN_ld_at ha hS (by rfl) ?_ | refine pN_la hS (by rfl) ?_ | (refine pN_sa hS (by rfl) (by rfl) (by rfl) ?_; clear hS; intro w hS; try dsimp only at hS) | (refine pN_nz hS ?_; clear hS; intro a w hS) | refine pN_ixk hS _ (by first | rfl | (exact (Int.toNat_of_nonneg (by omega)).symm)) (by first | rfl | omega | simpa only [go_sem] using True.intro | (simp only [go_sem]; omega)) (by assumption) fun a ha hel => ?_ | (refine pN_app hS (by first | rfl | omega | simpa only [go_sem] using True.intro | (simp only [go_sem]; omega)) (by first | rfl | omega | simpa only [go_sem] using True.intro | (simp only [go_sem]; omega)) (by first | omega | (simp only [go_sem]; omega)) ?_; clear hS; intro s w hS) | refine pN_st hS (by first | rfl | omega | simpa only [go_sem] using True.intro | (simp only [go_sem]; omega)) ?_ | refine pN_via (by (intro K; simp (disch := omega) only [go_sem, pN_min, pN_max, w_u32, w_u64, Option.isNone_some, Option.isNone_none]; (try simp only [wrap_u32, wrap_u64]); rfl)) ?_ | fail)
      have hS : Sat E w (rows cd_uint8 s1 l :: bag ((hs.map Hd.part).eraseIdx k) :: rows cd_pithlaw07_Held s ((hs.take k).map Hd.t ++ [⟨(s1, List.replicate len 0), n, mark, l, true⟩]) :: rows cd_pithlaw07_Held sb (hs.map Hd.t) :: M) := hS.to
      have hS := parts.back (h := ⟨s1, l, n, mark, l, true, len⟩) hS hi
      refine ⟨⟨k + 1, s, by rw [List.length_append, hml2]; rfl, rfl, by omega, ?_⟩, by simp [RowKit.intOf] <;> omega⟩
      rw [ht]
      exact hS.fd2 (rows cd_pithlaw07_Held s) (rows cd_pithlaw07_Held sb)
  obtain rfl : k = hs.length := by omega
  rw [List.take_length] at hS
  repeat' (first | (refine pN_lss_s ?_ ?_ <;> intro hc <;> try (exfalso; omega)) | refine pIf_f ?_ | refine pN_via (by (intro K; simp (disch := omega) only [go_sem, pN_min, pN_max, w_u32, w_u64, Option.isNone_some, Option.isNone_none]; (try simp only [wrap_u32, wrap_u64]); rfl)) ?_ | fail)
  refine ⟨fun v w => ∃ (k : Nat) (hs' : List Hd), v = .int .i64 k ∧ hs'.length = hs.length ∧ k ≤ hs.length ∧ hs'.map Hd.t = hs.map Hd.t ∧ (∀ j h, hs'[j]? = some h → if j < k then h.Written else h.Held) ∧
    Sat E w (rows cd_pithlaw07_Held s2 (hs.map Hd.t) :: parts () hs' :: M), fun v _ => hs.length - (RowKit.intOf v).toNat,
    ⟨0, hs, rfl, rfl, Nat.zero_le _, rfl, fun j h e => (by rw [if_neg (by omega)]; exact hh h (List.mem_of_getElem? e)), hS.to⟩, ?_⟩
  clear hS
  rintro _ _ w ⟨k, hs2, rfl, hn2, hk, hfl, hst, hS⟩
  by_cases hlt : k < hs.length
  · obtain ⟨h, hi⟩ : ∃ h, hs2[k]? = some h := ⟨hs2[k]'(by omega), by simp [hlt, hn2]⟩
    have hx := Hd.get hi
    rw [hfl] at hx
    have hhd := hst k h hi
    rw [if_neg (by omega)] at hhd
    repeat' (first | (refine pN_lss_s ?_ ?_ <;> intro hc <;> try (exfalso; omega)) | refine pIf_t ?_ | fail)
    refine ⟨fun w => ∃ (hs' : List Hd), hs'.length = hs.length ∧ hs'.map Hd.t = hs.map Hd.t ∧ (∀ j h, hs'[j]? = some h → if j < k + 1 then h.Written else h.Held) ∧ Sat E w (rows cd_pithlaw07_Held s2 (hs.map Hd.t) :: parts () hs' :: M), ?_, ?_⟩
    · have hS := parts.out (hS.fd (parts ())) hi
      obtain ⟨s1, l, n, mark, want, kept, len⟩ := h
      dsimp only at hS hx
      have hrl : (List.replicate len (0 : UInt8)).length = len := List.length_replicate
      have hll : l.length = len := hhd.2.1
      rcases kept with _ | _
      · repeat' (first | (rw [Hd.enc'] at ha) | refine pIf_f ?_ | refine pN_l hS (by first | rfl | assumption) ?_ | refine pN_ld_at ha hS (by rfl) ?_ | (refine pN_sa hS (by rfl) (by rfl) (by rfl) ?_; clear hS; intro w hS; try dsimp only at hS) | (refine pN_nz hS ?_; clear hS; intro a w hS) | refine pN_ixk hS _ (by first | rfl | (exact (Int.toNat_of_nonneg (by omega)).symm)) (by first | rfl | omega | simpa only [go_sem] using True.intro | (simp only [go_sem]; omega)) (by assumption) fun a ha hel => ?_ | refine pN_via (by (intro K; simp (disch := omega) only [go_sem, pN_min, pN_max, w_u32, w_u64, Option.isNone_some, Option.isNone_none]; (try simp only [wrap_u32, wrap_u64]); rfl)) ?_ | fail)
        have hS : Sat E w (rows cd_uint8 s1 l :: bag ((hs2.map Hd.part).eraseIdx k) :: rows cd_pithlaw07_Held s2 (hs.map Hd.t) :: M) := hS.to
        have hS := parts.back (h := ⟨s1, l, n, mark, want, false, len⟩) hS hi
        refine ⟨hs2, hn2, hfl, turn_same Hd.Held Hd.Written hs2 k hst fun h' e => ?_, hS.to⟩
        rw [hi] at e
        cases e
        exact ⟨hhd.1, hhd.2.1, by have := hhd.2.2; simpa using this⟩
      · obtain ⟨h1, h2⟩ : l = want ∧ len = n := by have := hhd.2.2; rwa [if_pos rfl] at this
        have hb := hhd.1
        dsimp only at hb
        repeat' (first | (rw [Hd.enc'] at ha) | (refine pc_pithlaw07_Held_written (written_ok (s := s1) (l := l) n len _ _ _ (hS.fd (rows cd_uint8 s1)) hll (by omega) (by omega) ?_); clear hS; intro w hS) | refine pIf_t ?_ | refine pN_l hS (by first | rfl | assumption) ?_ | refine pN_ld_at ha hS (by rfl) ?_ | refine pN_la hS (by rfl) ?_ | (refine pN_sa hS (by rfl) (by rfl) (by rfl) ?_; clear hS; intro w hS; try dsimp only at hS) | (refine pN_nz hS ?_; clear hS; intro a w hS) | refine pN_ixk hS _ (by first | rfl | (exact (Int.toNat_of_nonneg (by omega)).symm)) (by first | rfl | omega | simpa only [go_sem] using True.intro | (simp only [go_sem]; omega)) (by assumption) fun a ha hel => ?_ | refine pN_via (by (intro K; simp (disch := omega) only [go_sem, pN_min, pN_max, w_u32, w_u64, Option.isNone_some, Option.isNone_none]; (try simp only [wrap_u32, wrap_u64]); rfl)) ?_ | fail)
        have e : List.replicate n mark ++ l.drop n = List.replicate n mark := by rw [List.drop_of_length_le (by omega), List.append_nil]
        rw [e] at hS
        have hS : Sat E w (rows cd_uint8 s1 (List.replicate n mark) :: bag ((hs2.map Hd.part).eraseIdx k) :: rows cd_pithlaw07_Held s2 (hs.map Hd.t) :: M) := hS.to
        have hS := parts.into ⟨s1, List.replicate n mark, n, mark, want, true, len⟩ hS hi
        refine ⟨hs2.set k ⟨s1, List.replicate n mark, n, mark, want, true, len⟩, by rw [List.length_set, hn2], (map_same Hd.t hs2 k _ ⟨s1, List.replicate n mark, n, mark, want, true, len⟩ hi rfl).trans hfl, turn_at Hd.Held Hd.Written hs2 k hst _ ⟨hb, by rw [List.length_replicate, h2], by rw [if_pos rfl]; exact ⟨rfl, h2⟩⟩, hS.to⟩
    · clear hS
      rintro _ w ⟨hs3, hn3, hfl3, hst3, hS⟩
      repeat' (first | refine pN_via (by (intro K; simp (disch := omega) only [go_sem, pN_min, pN_max, w_u32, w_u64, Option.isNone_some, Option.isNone_none]; (try simp only [wrap_u32, wrap_u64]); rfl)) ?_ | fail)
      exact ⟨⟨k + 1, hs3, rfl, hn3, by omega, hfl3, hst3, hS⟩, by simp [RowKit.intOf] <;> omega⟩
  obtain rfl : k = hs.length := by omega
  repeat' (first | (refine pN_lss_s ?_ ?_ <;> intro hc <;> try (exfalso; omega)) | refine pIf_f ?_ | refine pN_via (by (intro K; simp (disch := omega) only [go_sem, pN_min, pN_max, w_u32, w_u64, Option.isNone_some, Option.isNone_none]; (try simp only [wrap_u32, wrap_u64]); rfl)) ?_ | fail)
  rw [← hfl] at hS
  refine ⟨fun v w => ∃ (k : Nat) (hs' : List Hd), v = .int .i64 k ∧ hs'.length = hs.length ∧ k ≤ hs.length ∧ (∀ j h, hs'[j]? = some h → if j < k then h.Grown else h.Written) ∧
    Sat E w (rows cd_pithlaw07_Held s2 (hs'.map Hd.t) :: parts () hs' :: M), fun v _ => hs.length - (RowKit.intOf v).toNat,
    ⟨0, hs2, rfl, hn2, Nat.zero_le _, fun j h e => (by have := hst j h e; have hj : j < hs2.length := (List.getElem?_eq_some_iff.1 e).1; rw [if_pos (by omega)] at this; rwa [if_neg (by omega)]), hS.to⟩, ?_⟩
  clear hS
  rintro _ _ w ⟨k, hs3, rfl, hn3, hk, hst3, hS⟩
  have hml3 : (hs3.map Hd.t).length = hs.length := by rw [List.length_map, hn3]
  by_cases hlt : k < hs.length
  · obtain ⟨h, hi⟩ : ∃ h, hs3[k]? = some h := ⟨hs3[k]'(by omega), by simp [hlt, hn3]⟩
    have hx := Hd.get hi
    have hhd := hst3 k h hi
    rw [if_neg (by omega)] at hhd
    repeat' (first | (refine pN_lss_s ?_ ?_ <;> intro hc <;> try (exfalso; omega)) | refine pIf_t ?_ | fail)
    refine ⟨fun w => ∃ (hs' : List Hd), hs'.length = hs.length ∧ (∀ j h, hs'[j]? = some h → if j < k + 1 then h.Grown else h.Written) ∧ Sat E w (rows cd_pithlaw07_Held s2 (hs'.map Hd.t) :: parts () hs' :: M), ?_, ?_⟩
    · have hS := parts.out (hS.fd (parts ())) hi
      obtain ⟨s1, l, n, mark, want, kept, len⟩ := h
      dsimp only at hS hx
      have hrl : (List.replicate len (0 : UInt8)).length = len := List.length_replicate
      have hll : l.length = len := hhd.2.1
      rcases kept with _ | _
      · have hl : l = List.replicate (n + 3) mark := by have := hhd.2.2; simpa using this
        have hln : len = n + 3 := by rw [← hll, hl, List.length_replicate]
        repeat' (first | (rw [Hd.enc'] at ha) | refine pIf_f ?_ | refine pN_l hS (by first | rfl | assumption) ?_ | refine pN_ld_at ha hS (by rfl) ?_ | (refine pN_sa hS (by rfl) (by rfl) (by rfl) ?_; clear hS; intro w hS; try dsimp only at hS) | (refine pN_nz hS ?_; clear hS; intro a w hS) | refine pN_ixk hS _ (by first | rfl | (exact (Int.toNat_of_nonneg (by omega)).symm)) (by first | rfl | omega | simpa only [go_sem] using True.intro | (simp only [go_sem]; omega)) (by assumption) fun a ha hel => ?_ | refine pN_via (by (intro K; simp (disch := omega) only [go_sem, pN_min, pN_max, w_u32, w_u64, Option.isNone_some, Option.isNone_none]; (try simp only [wrap_u32, wrap_u64]); rfl)) ?_ | fail)
        have hS : Sat E w (rows cd_uint8 s1 l :: bag ((hs3.map Hd.part).eraseIdx k) :: rows cd_pithlaw07_Held s2 (hs3.map Hd.t) :: M) := hS.to
        have hS := parts.back (h := ⟨s1, l, n, mark, want, false, len⟩) hS hi
        refine ⟨hs3, hn3, turn_same Hd.Written Hd.Grown hs3 k hst3 fun h' e => ?_, hS.to⟩
        rw [hi] at e
        cases e
        exact ⟨hhd.1, hln, hl⟩
      · obtain ⟨h1, h2⟩ : l = List.replicate n mark ∧ len = n := by have := hhd.2.2; rwa [if_pos rfl] at this
        have hb := hhd.1
        dsimp only at hb
        repeat' (first | (rw [Hd.enc'] at ha) | (refine pc_pithlaw07_Held_grown (grown_ok (s := s1) n len _ _ _ (hS.fd (rows cd_uint8 s1)) hll (by omega) ?_); clear hS; intro s w hS) | (refine pN_srn (x := (⟨(s, List.replicate (len + 3) 0), n, mark, want, true⟩ : T_pithlaw07_Held)) hel hS (by rfl) (Hd.enc' _ _ _ _ _ _) (by omega) ?_; clear hS; intro w hS) | refine pIf_t ?_ | refine pN_l hS (by first | rfl | assumption) ?_ | refine pN_ld_at ha hS (by rfl) ?_ | refine pN_la hS (by rfl) ?_ | (refine pN_sa hS (by rfl) (by rfl) (by rfl) ?_; clear hS; intro w hS; try dsimp only at hS) | (refine pN_nz hS ?_; clear hS; intro a w hS) | refine pN_ixk hS _ (by first | rfl | (exact (Int.toNat_of_nonneg (by omega)).symm)) (by first | rfl | omega | simpa only [go_sem] using True.intro | (simp only [go_sem]; omega)) (by assumption) fun a ha hel => ?_ | refine pN_via (by (intro K; simp (disch := omega) only [go_sem, pN_min, pN_max, w_u32, w_u64, Option.isNone_some, Option.isNone_none]; (try simp only [wrap_u32, wrap_u64]); rfl)) ?_ | fail)
        have el : l ++ List.replicate 3 mark = List.replicate (n + 3) mark := by rw [h1, List.replicate_append_replicate]
        rw [el] at hS
        have hS : Sat E w (rows cd_uint8 s (List.replicate (n + 3) mark) :: bag ((hs3.map Hd.part).eraseIdx k) :: rows cd_pithlaw07_Held s2 ((hs3.map Hd.t).set k ⟨(s, List.replicate (len + 3) 0), n, mark, want, true⟩) :: M) := hS.to
        have hS := parts.into ⟨s, List.replicate (n + 3) mark, n, mark, want, true, len + 3⟩ hS hi
        refine ⟨hs3.set k ⟨s, List.replicate (n + 3) mark, n, mark, want, true, len + 3⟩, by rw [List.length_set, hn3], turn_at Hd.Written Hd.Grown hs3 k hst3 _ ⟨hb, by dsimp only; omega, rfl⟩, ?_⟩
        rw [List.map_set]
        exact hS.fd2 (rows cd_pithlaw07_Held s2) (parts ())
    · clear hS
      rintro _ w ⟨hs4, hn4, hst4, hS⟩
      repeat' (first | refine pN_via (by (intro K; simp (disch := omega) only [go_sem, pN_min, pN_max, w_u32, w_u64, Option.isNone_some, Option.isNone_none]; (try simp only [wrap_u32, wrap_u64]); rfl)) ?_ | fail)
      exact ⟨⟨k + 1, hs4, rfl, hn4, by omega, hst4, hS⟩, by simp [RowKit.intOf] <;> omega⟩
  obtain rfl : k = hs.length := by omega
  repeat' (first | (refine pN_lss_s ?_ ?_ <;> intro hc <;> try (exfalso; omega)) | refine pIf_f ?_ | refine pN_via (by (intro K; simp (disch := omega) only [go_sem, pN_min, pN_max, w_u32, w_u64, Option.isNone_some, Option.isNone_none]; (try simp only [wrap_u32, wrap_u64]); rfl)) ?_ | fail)
  have hall : ∀ (i : Nat) (h : Hd), hs3[i]? = some h → h.Grown := fun i h e => by
    have := hst3 i h e
    have hj : i < hs3.length := (List.getElem?_eq_some_iff.1 e).1
    rwa [if_pos (by omega)] at this
  refine ⟨fun v w => ∃ (k : Nat), v = .int .i64 k ∧ k ≤ hs.length ∧ Sat E w (rows cd_pithlaw07_Held s2 (hs3.map Hd.t) :: parts () hs3 :: M), fun v _ => hs.length - (RowKit.intOf v).toNat, ⟨0, rfl, Nat.zero_le _, hS⟩, ?_⟩
  clear hS
  rintro _ _ w ⟨k, rfl, hk4, hS⟩
  by_cases hlt : k < hs.length
  · obtain ⟨h, hi⟩ : ∃ h, hs3[k]? = some h := ⟨hs3[k]'(by omega), by simp [hlt, hn3]⟩
    have hx := Hd.get hi
    obtain ⟨hb, hln, hl⟩ := hall k h hi
    have hS := parts.out (hS.fd (parts ())) hi
    obtain ⟨s1, l, n, mark, want, kept, len⟩ := h
    dsimp only at hS hx hb hln hl
    have hll : l.length = n + 3 := by rw [hl, List.length_replicate]
    repeat' (first | (rw [Hd.enc'] at ha) | (refine pN_lss_s ?_ ?_ <;> intro hc <;> try (exfalso; omega)) | (refine pN_neq_s ?_ ?_ <;> intro hc <;> try (exfalso; first | omega | exact hc rfl | exact hc (by assumption) | exact absurd hc (by assumption))) | refine pIf_t ?_ | refine pIf_f ?_ | refine pN_l hS (by first | rfl | assumption) ?_ | refine pN_ld_at ha hS (by rfl) ?_ | (refine pN_sa hS (by rfl) (by rfl) (by rfl) ?_; clear hS; intro w hS; try dsimp only at hS) | (refine pN_nz hS ?_; clear hS; intro a w hS) | refine pN_ixk hS _ (by first | rfl | (exact (Int.toNat_of_nonneg (by omega)).symm)) (by first | rfl | omega | simpa only [go_sem] using True.intro | (simp only [go_sem]; omega)) (by assumption) fun a ha hel => ?_ | refine pN_via (by (intro K; simp (disch := omega) only [go_sem, pN_min, pN_max, w_u32, w_u64, Option.isNone_some, Option.isNone_none]; (try simp only [wrap_u32, wrap_u64]); rfl)) ?_ | fail)
    rw [hln]
    refine ⟨fun v w => ∃ (q : Nat), v = .int .i64 q ∧ q ≤ n + 3 ∧ Sat E w (cel a ⟨68, [.slice s1.a len s1.c, .int .i64 n, bv mark, .string ⟨want.toArray⟩, .bool kept]⟩ :: rows cd_uint8 s1 l :: bag ((hs3.map Hd.part).eraseIdx k) :: rows cd_pithlaw07_Held s2 (hs3.map Hd.t) :: M), fun v _ => n + 3 - (RowKit.intOf v).toNat,
      ⟨0, rfl, Nat.zero_le _, hS.to⟩, ?_⟩
    clear hS
    rintro _ _ w ⟨q, rfl, hq, hS⟩
    by_cases hlq : q < n + 3
    · have hy : l[q]? = some mark := by rw [hl, List.getElem?_replicate, if_pos hlq]
      repeat' (first | (refine pN_lss_s ?_ ?_ <;> intro hc <;> try (exfalso; omega)) | (refine pN_neq_s ?_ ?_ <;> intro hc <;> try (exfalso; first | omega | exact hc rfl | exact hc (by assumption) | exact absurd hc (by assumption))) | refine pIf_t ?_ | refine pIf_f ?_ | refine pN_l hS (by first | rfl | assumption) ?_ | refine pN_ld1 ha hS ?_ | refine pN_ixk hS _ (by first | rfl | (exact (Int.toNat_of_nonneg (by omega)).symm)) (by first | rfl | omega | simpa only [go_sem] using True.intro | (simp only [go_sem]; omega)) (by assumption) fun a ha hel => ?_ | refine pN_via (by (intro K; simp (disch := omega) only [go_sem, pN_min, pN_max, w_u32, w_u64, Option.isNone_some, Option.isNone_none]; (try simp only [wrap_u32, wrap_u64]); rfl)) ?_ | fail)
      exact ⟨⟨q + 1, rfl, by omega, hS⟩, by simp [RowKit.intOf] <;> omega⟩
    · repeat' (first | (refine pN_lss_s ?_ ?_ <;> intro hc <;> try (exfalso; omega)) | refine pIf_f ?_ | refine pN_via (by (intro K; simp (disch := omega) only [go_sem, pN_min, pN_max, w_u32, w_u64, Option.isNone_some, Option.isNone_none]; (try simp only [wrap_u32, wrap_u64]); rfl)) ?_ | fail)
      have hS : Sat E w (rows cd_uint8 s1 l :: bag ((hs3.map Hd.part).eraseIdx k) :: rows cd_pithlaw07_Held s2 (hs3.map Hd.t) :: M) := hS.to
      have hS := parts.back (h := ⟨s1, l, n, mark, want, kept, len⟩) hS hi
      exact ⟨⟨k + 1, rfl, by omega, hS.to⟩, by simp [RowKit.intOf] <;> omega⟩
  · repeat' (first | (refine pN_lss_s ?_ ?_ <;> intro hc <;> try (exfalso; omega)) | refine pIf_f ?_ | fail)
    exact hQ _ hS.to
end

end Go.Proofs.Ytoejaggkedlfmaa
