/-
  The rows of the statement TreeCodes: made.
-/
import Derived.Test.YtoejaggkedlfmaaLfPithlaw09
import Derived.Test.YtoejaggkedlfmaaTree
import Derived.Test.YtoejaggkedlfmaaRef9
namespace Go.Proofs.Ytoejaggkedlfmaa
open Go
set_option linter.unusedSimpArgs false
set_option linter.unnecessarySimpa false
set_option linter.unusedSectionVars false
set_option linter.unusedVariables false
attribute [local irreducible] oMv oV oU oCall oCallV oBi oBin oUn oLoad oStore oNil oFld oField oIdx oIndex oPick oAlloc oBox oBuild oBs oConv oMk oSl oExt oFn oIface oMap oLook oMapUp oRange oNext oAssert oPanic oRes pN pA pL pDr pIf gA pGd

/-- A row on both sides. -/
def pairH (x : (Nat × Nat) × List Int) : HA := fun h => Sats [PSet x.1.1 x.2, RSet x.1.2 x.2] h
/-- All rows on both sides. -/
def bagL (ps : List (Nat × Nat)) (ls : List (List Int)) : HA := bag ((ps.zip ls).map pairH)
def ptrP (x : Nat × Nat) : Option Addr := some ⟨x.1, 0, none⟩
def ptrR (x : Nat × Nat) : Option Addr := some ⟨x.2, 0, none⟩
/-- The lists of rows in block b. -/
def Hdr (b : Nat) (ps : List (Nat × Nat)) : HA := fun h => ∃ x : Sl × Sl, Sats [cel b ⟨130, [.slice x.1.a ps.length x.1.c, .slice x.2.a ps.length x.2.c]⟩, rows cd_p_prob_Set x.1 (ps.map ptrP), rows cd_p_pithref06_Set x.2 (ps.map ptrR)] h
/-- What is known of the rows. -/
structure RowsOk (ps : List (Nat × Nat)) (ls : List (List Int)) : Prop where
  len : ls.length = ps.length
  fine : ∀ l ∈ ls, B.Fine l
  small : ∀ l ∈ ls, l.length ≤ 4096

section
variable {E w : World} {M : List HA} {Q : Value → World → Prop} {b : Nat} {ps : List (Nat × Nat)} {ls : List (List Int)} {l : List Int}

theorem Hdr.opn (hS : Sat E w (Hdr b ps :: M)) : ∃ x : Sl × Sl, Sat E w (cel b ⟨130, [.slice x.1.a ps.length x.1.c, .slice x.2.a ps.length x.2.c]⟩ :: rows cd_p_prob_Set x.1 (ps.map ptrP) :: rows cd_p_pithref06_Set x.2 (ps.map ptrR) :: M) := by
  obtain ⟨s, hS⟩ := hS.ex
  exact ⟨s, hS.open_ (M := [_, _, _]) fun _ h => h⟩
theorem Hdr.shut {s t : Sl} (hS : Sat E w (cel b ⟨130, [.slice s.a ps.length s.c, .slice t.a ps.length t.c]⟩ :: rows cd_p_prob_Set s (ps.map ptrP) :: rows cd_p_pithref06_Set t (ps.map ptrR) :: M)) : Sat E w (Hdr b ps :: M) :=
  Sat.shut (M := [_, _, _]) hS fun _ h => ⟨(s, t), h⟩

theorem Hdr.grow {s t : Sl} {p r : Nat} (hS : Sat E w (cel b ⟨130, [.slice s.a (ps.map ptrP ++ [(some ⟨p, 0, none⟩ : Option Addr)]).length s.c, .slice t.a (ps.map ptrR ++ [(some ⟨r, 0, none⟩ : Option Addr)]).length t.c]⟩ ::
    rows cd_p_prob_Set s (ps.map ptrP ++ [(some ⟨p, 0, none⟩ : Option Addr)]) :: rows cd_p_pithref06_Set t (ps.map ptrR ++ [(some ⟨r, 0, none⟩ : Option Addr)]) :: M)) : Sat E w (Hdr b (ps ++ [(p, r)]) :: M) := by
  have e1 : ps.map ptrP ++ [(some ⟨p, 0, none⟩ : Option Addr)] = (ps ++ [(p, r)]).map ptrP := by simp [ptrP]
  have e2 : ps.map ptrR ++ [(some ⟨r, 0, none⟩ : Option Addr)] = (ps ++ [(p, r)]).map ptrR := by simp [ptrR]
  rw [e1, e2, List.length_map, List.length_map] at hS
  exact Hdr.shut hS

theorem zip_get {i : Nat} {p : Nat × Nat} (hp : ps[i]? = some p) (hl : ls[i]? = some l) : ((ps.zip ls).map pairH)[i]? = some (pairH (p, l)) := by
  rw [List.getElem?_map, (List.getElem?_zip_eq_some (z := (p, l))).2 ⟨hp, hl⟩]; rfl
theorem zip_set0 : ∀ (ps : List (Nat × Nat)) (ls : List (List Int)) (i : Nat) (p : Nat × Nat), ps[i]? = some p → ∀ l : List Int, (ps.zip ls).set i (p, l) = ps.zip (ls.set i l)
  | [], _, i, p, h, _ => by simp at h
  | q :: ps, [], i, p, h, l => by simp
  | q :: ps, m :: ls, 0, p, h, l => by
    simp at h
    subst h
    rfl
  | q :: ps, m :: ls, i + 1, p, h, l => by
    have := zip_set0 ps ls i p (by simpa using h) l
    simp only [List.zip_cons_cons, List.set_cons_succ, this]
theorem zip_set (i : Nat) {p : Nat × Nat} (hp : ps[i]? = some p) (l : List Int) : ((ps.zip ls).map pairH).set i (pairH (p, l)) = (ps.zip (ls.set i l)).map pairH := by
  rw [← zip_set0 ps ls i p hp l, List.map_set]
theorem bagL.out {i : Nat} {p : Nat × Nat} (hS : Sat E w (bagL ps ls :: M)) (hp : ps[i]? = some p) (hl : ls[i]? = some l) :
    Sat E w (PSet p.1 l :: RSet p.2 l :: bag (((ps.zip ls).map pairH).eraseIdx i) :: M) := by
  have h := Sat.out hS i (zip_get hp hl)
  exact h.open_ (M := [_, _]) fun _ h => h
theorem bagL.into {i : Nat} {p : Nat × Nat} {m : List Int} (hS : Sat E w (PSet p.1 m :: RSet p.2 m :: bag (((ps.zip ls).map pairH).eraseIdx i) :: M)) (hp : ps[i]? = some p) (hl : ls[i]? = some l) :
    Sat E w (bagL ps (ls.set i m) :: M) := by
  have h1 : Sat E w (pairH (p, m) :: bag (((ps.zip ls).map pairH).eraseIdx i) :: M) := Sat.shut (M := [_, _]) hS fun _ h => h
  have h2 := Sat.into h1 (zip_get hp hl)
  rw [zip_set i hp m] at h2
  exact h2
theorem bagL.snoc {p : Nat × Nat} (hS : Sat E w (PSet p.1 l :: RSet p.2 l :: bagL ps ls :: M)) (h : ls.length = ps.length) : Sat E w (bagL (ps ++ [p]) (ls ++ [l]) :: M) := by
  have h1 : Sat E w (pairH (p, l) :: bag ((ps.zip ls).map pairH) :: M) := Sat.shut (M := [_, _]) hS fun _ h => h
  have h2 := Sat.bag_snoc h1
  have e : (ps ++ [p]).zip (ls ++ [l]) = ps.zip ls ++ [(p, l)] := by rw [List.zip_append h.symm]; rfl
  unfold bagL
  rw [e, List.map_append]
  exact h2
theorem RowsOk.snoc (h : RowsOk ps ls) (p : Nat × Nat) {n : Nat} (hn : n ≤ 4096) : RowsOk (ps ++ [p]) (ls ++ [List.replicate n 1024]) := by
  obtain ⟨h1, h2, h3⟩ := h
  refine ⟨by simp [h1], fun l hl => ?_, fun l hl => ?_⟩
  · rcases List.mem_append.1 hl with hl | hl
    · exact h2 l hl
    · rw [List.mem_singleton.1 hl]; exact B.Fine.new n
  · rcases List.mem_append.1 hl with hl | hl
    · exact h3 l hl
    · rw [List.mem_singleton.1 hl, List.length_replicate]; exact hn
theorem RowsOk.set (h : RowsOk ps ls) (i : Nat) {l : List Int} (hf : B.Fine l) (hl : l.length ≤ 4096) : RowsOk ps (ls.set i l) := by
  obtain ⟨h1, h2, h3⟩ := h
  refine ⟨by simp [h1], fun m hm => ?_, fun m hm => ?_⟩
  · rcases List.mem_or_eq_of_mem_set hm with hm | rfl
    · exact h2 m hm
    · exact hf
  · rcases List.mem_or_eq_of_mem_set hm with hm | rfl
    · exact h3 m hm
    · exact hl

theorem made_ok {W : World} {s : Sl} {lens : List Int} (hr : RdP cd_int (old W) s lens) (hb : lens.length ≤ 17592186044416) (hS : Sat W w (old W :: M))
    (hQ : ∀ b ps ls w, RowsOk ps ls → 0 < ps.length → ps.length ≤ lens.length + 1 → Sat W w (Hdr b ps :: bagL ps ls :: old W :: M) → Q (.tuple #[.pointer (some ⟨b, 0, none⟩), .bool true]) w) :
    Calls Try.prog 66 #[.slice s.a lens.length s.c] w (retP Q) := by
  refine pithlaw09_made.calls ?_
  unfold pithlaw09_made.F
  repeat' (first | (refine pN_bx hS (by rfl) ?_; clear hS; intro a w hS) | refine pN_via (by (intro K; simp (disch := omega) only [go_sem, pN_min, pN_max, w_u32, w_u64, Option.isNone_some, Option.isNone_none]; (try simp only [wrap_u32, wrap_u64]); rfl)) ?_ | fail)
  have hS : Sat W w (rows cd_p_prob_Set ⟨none, 0⟩ (([] : List (Nat × Nat)).map ptrP) :: cel a ⟨130, [.slice none 0 0, .slice none 0 0]⟩ :: old W :: M) := hS.nil 34 1
  have hS : Sat W w (rows cd_p_pithref06_Set ⟨none, 0⟩ (([] : List (Nat × Nat)).map ptrR) :: rows cd_p_prob_Set ⟨none, 0⟩ (([] : List (Nat × Nat)).map ptrP) :: cel a ⟨130, [.slice none 0 0, .slice none 0 0]⟩ :: old W :: M) := hS.nil 51 1
  have hS : Sat W w (bagL [] [] :: rows cd_p_pithref06_Set ⟨none, 0⟩ (([] : List (Nat × Nat)).map ptrR) :: rows cd_p_prob_Set ⟨none, 0⟩ (([] : List (Nat × Nat)).map ptrP) :: cel a ⟨130, [.slice none 0 0, .slice none 0 0]⟩ :: old W :: M) := Sat.bag_nil hS
  have hS : Sat W w (cel a ⟨130, [.slice none 0 0, .slice none 0 0]⟩ :: rows cd_p_prob_Set ⟨none, 0⟩ (([] : List (Nat × Nat)).map ptrP) :: rows cd_p_pithref06_Set ⟨none, 0⟩ (([] : List (Nat × Nat)).map ptrR) :: bagL [] [] :: old W :: M) := hS.to
  have hS : Sat W w (Hdr a [] :: bagL [] [] :: old W :: M) := Hdr.shut (ps := []) (s := ⟨none, 0⟩) (t := ⟨none, 0⟩) hS
  refine ⟨fun v w => ∃ (i : Nat) (ps : List (Nat × Nat)) (ls : List (List Int)), v = .int .i64 i ∧ ps.length = i ∧ (i ≤ lens.length ∨ i = 1) ∧ RowsOk ps ls ∧ Sat W w (Hdr a ps :: bagL ps ls :: old W :: M),
    fun v _ => lens.length + 1 - (RowKit.intOf v).toNat, ⟨0, [], [], rfl, rfl, Or.inl (Nat.zero_le _), ⟨rfl, by simp, by simp⟩, hS⟩, ?_⟩
  clear hS
  rintro _ _ w ⟨i, ps, ls, rfl, hi, hi2, hok, hS⟩
  have key : i < lens.length ∨ i = 0 ∨ ¬ (i < lens.length ∨ i = 0) := by omega
  repeat' (first | (refine pN_lss_s ?_ ?_ <;> intro hc <;> try (exfalso; omega)) | (refine pN_eql_s ?_ ?_ <;> intro hc <;> try (exfalso; first | omega | exact hc rfl | exact hc (by assumption) | exact absurd hc (by assumption))) | refine pIf_t ?_ | refine pIf_f ?_ | refine pGd_go (by rfl) ?_ | refine pGd_no (by rfl) ?_ | refine pN_via (by (intro K; simp (disch := omega) only [go_sem, pN_min, pN_max, w_u32, w_u64, Option.isNone_some, Option.isNone_none]; (try simp only [wrap_u32, wrap_u64]); rfl)) ?_ | fail)
  rotate_left 2
  · exact hQ _ _ _ _ hok (by omega) (by omega) hS
  all_goals
    refine ⟨fun w => ∃ (ps' : List (Nat × Nat)) (ls' : List (List Int)), ps'.length = i + 1 ∧ RowsOk ps' ls' ∧ Sat W w (Hdr a ps' :: bagL ps' ls' :: old W :: M), ?_, ?_⟩
    rotate_left 1
    · clear hS
      rintro _ w ⟨ps', ls', g1, g2, hS⟩
      repeat' (first | refine pN_via (by (intro K; simp (disch := omega) only [go_sem, pN_min, pN_max, w_u32, w_u64, Option.isNone_some, Option.isNone_none]; (try simp only [wrap_u32, wrap_u64]); rfl)) ?_ | fail)
      exact ⟨⟨i + 1, ps', ls', rfl, g1, by omega, g2, hS⟩, by simp [RowKit.intOf] <;> omega⟩
    refine ⟨fun v w => ∃ n : Int, v = .int .i64 n ∧ Sat W w (Hdr a ps :: bagL ps ls :: old W :: M), ?_, ?_⟩
    · repeat' (first | (refine pN_lss_s ?_ ?_ <;> intro hc <;> try (exfalso; omega)) | refine pIf_t ?_ | refine pIf_f ?_ | refine pN_ld1 ha hS ?_ | refine pN_ix hS _ (by first | rfl | (exact (Int.toNat_of_nonneg (by omega)).symm)) (by first | rfl | omega | simpa only [go_sem] using True.intro | (simp only [go_sem]; omega)) (by first | omega | (simp only [go_sem]; omega)) fun a x hx ha hel => ?_ | refine pN_via (by (intro K; simp (disch := omega) only [go_sem, pN_min, pN_max, w_u32, w_u64, Option.isNone_some, Option.isNone_none]; (try simp only [wrap_u32, wrap_u64]); rfl)) ?_ | fail)
      exact ⟨_, rfl, hS⟩
    clear hS
    rintro _ _ w ⟨n0, rfl, hS⟩
    refine ⟨fun v w => ∃ n : Nat, v = .int .i64 n ∧ n ≤ 4096 ∧ Sat W w (Hdr a ps :: bagL ps ls :: old W :: M), ?_, ?_⟩
    · repeat' (first | ((first | refine pN_lss_s ?_ ?_ | refine pN_gtr_s ?_ ?_) <;> intro hc <;> try (exfalso; omega)) | refine pIf_t ?_ | refine pIf_f ?_ | refine pGd_go (by rfl) ?_ | refine pGd_no (by rfl) ?_ | refine pN_via (by (intro K; simp (disch := omega) only [go_sem, pN_min, pN_max, w_u32, w_u64, Option.isNone_some, Option.isNone_none]; (try simp only [wrap_u32, wrap_u64]); rfl)) ?_ | fail)
      · exact ⟨4096, rfl, by omega, hS⟩
      · exact ⟨4096, rfl, by omega, hS⟩
      · exact ⟨n0.toNat, congrArg (Value.int .i64) (by omega), by omega, hS⟩
    clear hS
    rintro _ _ w ⟨n, rfl, hn, hS⟩
    refine pc_prob_New (New_ok hS n (by omega) (by omega) fun p w hS => ?_)
    repeat' (first | (refine pc_pithref06_New (RNew_ok hS n (by omega) (by omega) ?_); clear hS; intro r w hS) | (refine pN_neq_s ?_ ?_ <;> intro hc <;> try (exfalso; first | omega | exact hc rfl | exact hc (by assumption) | exact absurd hc (by assumption))) | refine pIf_f ?_ | refine pGd_go (by rfl) ?_ | refine pN_via (by (intro K; simp (disch := omega) only [go_sem, pN_min, pN_max, w_u32, w_u64, Option.isNone_some, Option.isNone_none]; (try simp only [wrap_u32, wrap_u64]); rfl)) ?_ | fail)
    rw [Int.toNat_natCast] at hS
    have hS : Sat W w (Hdr a ps :: PSet p (List.replicate n 1024) :: RSet r (List.replicate n 1024) :: bagL ps ls :: old W :: M) := hS.to
    obtain ⟨⟨s1, s2⟩, hS⟩ := Hdr.opn hS
    repeat' (first | refine pN_l hS (by first | rfl | assumption) ?_ | (refine pN_s hS (by first | exact Nat.le_of_ble_eq_true rfl | assumption) (by rfl) ?_; clear hS; intro w hS; try simp only [List.set_cons_zero, List.set_cons_succ] at hS) | (refine pN_b1 hS (by rfl) (by decide) ?_; clear hS; intro s w hS) | (refine pN_app hS (by first | rfl | omega | simpa only [go_sem] using True.intro | (simp only [go_sem]; omega)) (by first | rfl | omega | simpa only [go_sem] using True.intro | (simp only [go_sem]; omega)) (by first | omega | (simp only [go_sem]; omega)) ?_; clear hS; intro s w hS) | refine pN_via (by (intro K; simp (disch := omega) only [go_sem, pN_min, pN_max, w_u32, w_u64, Option.isNone_some, Option.isNone_none]; (try simp only [wrap_u32, wrap_u64]); rfl)) ?_ | fail)
    rename_i _ _ t1 _ _ _ _ _
    have hS : Sat W w (cel a ⟨130, [.slice t1.a (ps.map ptrP ++ [(some ⟨p, 0, none⟩ : Option Addr)]).length t1.c, .slice s.a (ps.map ptrR ++ [(some ⟨r, 0, none⟩ : Option Addr)]).length s.c]⟩ ::
        rows cd_p_prob_Set t1 (ps.map ptrP ++ [(some ⟨p, 0, none⟩ : Option Addr)]) :: rows cd_p_pithref06_Set s (ps.map ptrR ++ [(some ⟨r, 0, none⟩ : Option Addr)]) :: PSet p (List.replicate n 1024) :: RSet r (List.replicate n 1024) :: bagL ps ls :: old W :: M) := hS.to
    have hS := Hdr.grow hS
    have hS : Sat W w (PSet (p, r).1 (List.replicate n 1024) :: RSet (p, r).2 (List.replicate n 1024) :: bagL ps ls :: Hdr a (ps ++ [(p, r)]) :: old W :: M) := hS.to
    have hS := bagL.snoc hS hok.len
    exact ⟨_, _, by rw [List.length_append, hi]; rfl, hok.snoc (p, r) hn, hS.to⟩
end

end Go.Proofs.Ytoejaggkedlfmaa
