/-
  Package window.
-/
import Derived.Test.YtbgnnjfpiblkmaaDoorLfWindow
import Derived.Test.YtbgnnjfpiblkmaaDoorZWin
import Derived.Test.YtbgnnjfpiblkmaaDoorText
namespace Go.Proofs.YtbgnnjfpiblkmaaDoor
open Go
set_option linter.unusedSimpArgs false
set_option linter.unnecessarySimpa false
set_option linter.unusedSectionVars false
set_option linter.unusedVariables false
theorem run_min {P : Program} {t1 t2 ty : TypeId} {k : IntKind} {a b : Int} {cs : List Bool} (w : World) : (oBi .min #[t1, t2] ty cs [.int k a, .int k b]).run P w = .ok (.value (.int k (min a b))) w := by
  by_cases h : b < a
  · have e : min a b = b := by omega
    simp [oBi, builtin, Builtin.min_, Builtin.min2, h, e]
  · have e : min a b = a := by omega
    simp [oBi, builtin, Builtin.min_, Builtin.min2, h, e]
theorem pA_minv [Pan] {P : Program} {t1 t2 ty : TypeId} {k : IntKind} {a b c : Int} {cs : List Bool} {J : Value → Prop} (h : min a b = c) (hk : J (.int k c)) : pA P (oBi .min #[t1, t2] ty cs [.int k a, .int k b]) J :=
  ⟨_, fun w => run_min w, by rw [h]; exact hk⟩
attribute [local irreducible] oMv oV oU oCall oCallV oBi oBin oUn oLoad oStore oNil oFld oField oIdx oIndex oPick oAlloc oBox oBuild oBs oConv oMk oSl oExt oFn oIface oMap oLook oMapUp oRange oNext oEntry oInv oAssert oPanic oRes pN pA pL pDr pIf gA pGd

/-- A window as it lies there; as what came. -/
def WinR (b : Nat) (size : Int) (ring : List UInt8) (at_ : Nat) (pos : Nat) : HA := fun h => ∃ s : Sl, Sats [cel b ⟨74, [.int .i64 size, .slice s.a ring.length s.c, .int .i64 at_, .int .i64 pos]⟩, rows cd_uint8 s ring] h
def Win (b : Nat) (x : Z.W) : HA := fun h => ∃ y : List UInt8 × Nat, (Z.Rep x.size.toNat x.all y.1 y.2 ∧ x.Ok) ∧ WinR b x.size y.1 y.2 x.all.length h

section
variable {E w : World} {M : List HA} {Q : Value → World → Prop} {b : Nat} {size : Int} {ring : List UInt8} {at_ pos : Nat} {x : Z.W}

theorem WinR.opn (hS : Sat E w (WinR b size ring at_ pos :: M)) : ∃ s : Sl, Sat E w (cel b ⟨74, [.int .i64 size, .slice s.a ring.length s.c, .int .i64 at_, .int .i64 pos]⟩ :: rows cd_uint8 s ring :: M) := by
  obtain ⟨s, hS⟩ := hS.ex
  exact ⟨s, hS.open_ (M := [_, _]) fun _ h => h⟩
theorem WinR.shut {s : Sl} {L N : List HA} {o : Ob} (hS : Sat E w L) [h1 : Fnd (cel b) L o N] [h2 : Fnd (rows cd_uint8 s) N ring M] (ho : o = ⟨74, [.int .i64 size, .slice s.a ring.length s.c, .int .i64 at_, .int .i64 pos]⟩) : Sat E w (WinR b size ring at_ pos :: M) := by
  subst ho
  exact Sat.shut (M := [_, _]) (hS.fd2 (cel b) (rows cd_uint8 s)) fun _ h => ⟨s, h⟩
theorem Win.opn (hS : Sat E w (Win b x :: M)) : ∃ (ring : List UInt8) (at_ : Nat), Z.Rep x.size.toNat x.all ring at_ ∧ x.Ok ∧ Sat E w (WinR b x.size ring at_ x.all.length :: M) := by
  obtain ⟨y, hS⟩ := hS.ex
  have h := hS
  obtain ⟨h1, ⟨hA, _⟩, _⟩ := h.head
  exact ⟨y.1, y.2, hA.1, hA.2, hS.weaken fun _ h => h.2⟩
theorem Win.shut (hS : Sat E w (WinR b x.size ring at_ pos :: M)) (hr : Z.Rep x.size.toNat x.all ring at_) (ho : x.Ok) (hp : pos = x.all.length) : Sat E w (Win b x :: M) := by
  subst hp
  exact hS.weaken fun _ h => ⟨(ring, at_), ⟨hr, ho⟩, h⟩

theorem in_ok (hS : Sat E w (WinR b size ring at_ pos :: M)) (d : Int) (hQ : ∀ w, Sat E w (WinR b size ring at_ pos :: M) → Q (.bool (decide (1 ≤ d ∧ d ≤ ring.length))) w) :
    Calls Tryd.prog 47 #[.pointer (some ⟨b, 0, none⟩), .int .i64 d] w (retP Q) := by
  refine window_Window_in.calls ?_
  unfold window_Window_in.F
  obtain ⟨s, hS⟩ := WinR.opn hS
  repeat' (first | ((first | refine pN_leq_s ?_ ?_ | refine pN_geq_s ?_ ?_) <;> intro hc <;> try (exfalso; omega)) | refine pGd_go (by rfl) ?_ | refine pGd_no (by rfl) ?_ | refine pN_l hS (by first | rfl | assumption) ?_ | refine pN_via (by (intro K; simp (disch := omega) only [go_sem, pN_min, pN_max, w_u32, w_u64, Option.isNone_some, Option.isNone_none]; (try simp only [wrap_u32, wrap_u64]); rfl)) ?_ | fail)
  · rw [decide_eq_true (by omega)] at hQ; exact hQ _ (WinR.shut (s := s) hS rfl)
  · rw [decide_eq_false (by omega)] at hQ; exact hQ _ (WinR.shut (s := s) hS rfl)
  · rw [decide_eq_false (by omega)] at hQ; exact hQ _ (WinR.shut (s := s) hS rfl)

theorem back_ok (hS : Sat E w (WinR b size ring at_ pos :: M)) (d : Nat) (h1 : 1 ≤ d) (h2 : d ≤ ring.length) (h3 : at_ ≤ ring.length) {c : UInt8} (hc : ring[Z.ix at_ ring.length d]? = some c) (hQ : ∀ w, Sat E w (WinR b size ring at_ pos :: M) → Q (bv c) w) :
    Calls Tryd.prog 48 #[.pointer (some ⟨b, 0, none⟩), .int .i64 d] w (retP Q) := by
  refine window_Window_back.calls ?_
  unfold window_Window_back.F
  obtain ⟨s, hS⟩ := WinR.opn hS
  have hlen := rows_len (C := cd_uint8) s hS
  have hix : Z.ix at_ ring.length d < ring.length := (List.getElem?_eq_some_iff.1 hc).1
  repeat' (first | refine pN_l hS (by first | rfl | assumption) ?_ | refine pN_via (by (intro K; simp (disch := omega) only [go_sem, pN_min, pN_max, w_u32, w_u64, Option.isNone_some, Option.isNone_none]; (try simp only [wrap_u32, wrap_u64]); rfl)) ?_ | fail)
  refine ⟨fun v w => v = .int .i64 (Z.ix at_ ring.length d) ∧ Sat E w (cel b ⟨74, [.int .i64 size, .slice s.a ring.length s.c, .int .i64 at_, .int .i64 pos]⟩ :: rows cd_uint8 s ring :: M), ?_, ?_⟩
  · repeat' (first | (refine pN_lss_s ?_ ?_ <;> intro hc <;> try (exfalso; omega)) | refine pIf_t ?_ | refine pIf_f ?_ | refine pN_l hS (by first | rfl | assumption) ?_ | refine pN_via (by (intro K; simp (disch := omega) only [go_sem, pN_min, pN_max, w_u32, w_u64, Option.isNone_some, Option.isNone_none]; (try simp only [wrap_u32, wrap_u64]); rfl)) ?_ | fail)
    · refine ⟨?_, hS.to⟩
      rw [Z.ix, if_neg (by omega)]; congr 1; omega
    · refine ⟨?_, hS.to⟩
      rw [Z.ix, if_pos (by omega)]; congr 1; omega
  clear hS
  rintro _ _ w ⟨rfl, hS⟩
  repeat' (first | refine pN_l hS (by first | rfl | assumption) ?_ | refine pN_ld1 ha hS ?_ | refine pN_ixk hS _ (by first | rfl | (exact (Int.toNat_of_nonneg (by omega)).symm)) (by first | rfl | omega | simpa only [go_sem] using True.intro | (simp only [go_sem]; omega)) (by assumption) fun a ha hel => ?_ | refine pN_via (by (intro K; simp (disch := omega) only [go_sem, pN_min, pN_max, w_u32, w_u64, Option.isNone_some, Option.isNone_none]; (try simp only [wrap_u32, wrap_u64]); rfl)) ?_ | fail)
  exact hQ _ (WinR.shut (s := s) hS rfl)

theorem Last_in (hS : Sat E w (Win b x :: M)) (d : Int) (hd : x.has d) (hQ : ∀ w, Sat E w (Win b x :: M) → Q (.tuple #[bv (x.last d.toNat), .int .i64 0]) w) :
    Calls Tryd.prog 32 #[.pointer (some ⟨b, 0, none⟩), .int .i64 d] w (retP Q) := by
  refine window_Window_Last.calls ?_
  unfold window_Window_Last.F
  obtain ⟨ring, at_, hr, ho, hS⟩ := Win.opn hS
  obtain ⟨d1, d2⟩ := hd
  unfold Z.W.full at d2
  rw [← hr.len] at d2
  obtain ⟨n, rfl⟩ : ∃ n : Nat, d = n := ⟨d.toNat, by omega⟩
  rw [Int.toNat_natCast] at hQ
  have hg := hr.get n (by omega) (by omega)
  have hl := hr.len
  have hc : x.all[x.all.length - n]? = some (x.last n) := by
    rw [Z.W.last, List.getElem?_eq_getElem (show x.all.length - n < x.all.length by omega)]; rfl
  rw [hc] at hg
  have t1 : decide (1 ≤ (n : Int) ∧ (n : Int) ≤ ring.length) = true := decide_eq_true (by omega)
  refine pc_window_Window_in (in_ok hS n fun w hS => ?_)
  rw [t1]
  repeat' (first | (refine pc_window_Window_back (back_ok hS n (by omega) (by omega) hr.le hg ?_); clear hS; intro w hS) | refine pIf_f ?_ | refine pN_via (by (intro K; simp (disch := omega) only [go_sem, pN_min, pN_max, w_u32, w_u64, Option.isNone_some, Option.isNone_none]; (try simp only [wrap_u32, wrap_u64]); rfl)) ?_ | fail)
  exact hQ _ (Win.shut hS hr ho rfl)
theorem Last_no (hS : Sat E w (Win b x :: M)) (d : Int) (hd : ¬ x.has d) (hQ : ∀ w, Sat E w (Win b x :: M) → Q (.tuple #[bv 0, .int .i64 7]) w) :
    Calls Tryd.prog 32 #[.pointer (some ⟨b, 0, none⟩), .int .i64 d] w (retP Q) := by
  refine window_Window_Last.calls ?_
  unfold window_Window_Last.F
  obtain ⟨ring, at_, hr, ho, hS⟩ := Win.opn hS
  unfold Z.W.has Z.W.full at hd
  rw [← hr.len] at hd
  refine pc_window_Window_in (in_ok hS d fun w hS => ?_)
  rw [decide_eq_false hd]
  repeat' (first | refine pIf_t ?_ | refine pN_via (by (intro K; simp (disch := omega) only [go_sem, pN_min, pN_max, w_u32, w_u64, Option.isNone_some, Option.isNone_none]; (try simp only [wrap_u32, wrap_u64]); rfl)) ?_ | fail)
  exact hQ _ (Win.shut hS hr ho rfl)

theorem Pos_ok (hS : Sat E w (Win b x :: M)) (hQ : ∀ w, Sat E w (Win b x :: M) → Q (.int .i64 x.all.length) w) :
    Calls Tryd.prog 34 #[.pointer (some ⟨b, 0, none⟩)] w (retP Q) := by
  refine window_Window_Pos.calls ?_
  unfold window_Window_Pos.F
  obtain ⟨ring, at_, hr, ho, hS⟩ := Win.opn hS
  obtain ⟨s, hS⟩ := WinR.opn hS
  repeat' (first | refine pN_l hS (by first | rfl | assumption) ?_ | refine pN_via (by (intro K; simp (disch := omega) only [go_sem, pN_min, pN_max, w_u32, w_u64, Option.isNone_some, Option.isNone_none]; (try simp only [wrap_u32, wrap_u64]); rfl)) ?_ | fail)
  exact hQ _ (Win.shut (WinR.shut (s := s) hS rfl) hr ho rfl)

theorem WClear_ok (hS : Sat E w (Win b x :: M)) (hQ : ∀ w, Sat E w (Win b ⟨x.size, []⟩ :: M) → Q (.tuple #[]) w) :
    Calls Tryd.prog 27 #[.pointer (some ⟨b, 0, none⟩)] w (retP Q) := by
  refine window_Window_Clear.calls ?_
  unfold window_Window_Clear.F
  obtain ⟨ring, at_, hr, ho, hS⟩ := Win.opn hS
  obtain ⟨s, hS⟩ := WinR.opn hS
  repeat' (first | refine pN_l hS (by first | rfl | assumption) ?_ | (refine pN_sa hS (by rfl) (by rfl) (by rfl) ?_; clear hS; intro w hS; try dsimp only at hS) | refine pN_via (by (intro K; simp (disch := omega) only [go_sem, pN_min, pN_max, w_u32, w_u64, Option.isNone_some, Option.isNone_none]; (try simp only [wrap_u32, wrap_u64]); rfl)) ?_ | fail)
  have hS : Sat E w (rows cd_uint8 ⟨none, 0⟩ [] :: cel b _ :: rows cd_uint8 s ring :: M) := hS.nil 5 1
  exact hQ _ (Win.shut (x := ⟨x.size, []⟩) (WinR.shut (b := b) (s := ⟨none, 0⟩) (size := x.size) (ring := []) (at_ := 0) (pos := 0) hS rfl) (Z.Rep.new _) ⟨ho.s0, ho.s1, Nat.zero_le _⟩ rfl).to

theorem WNew_in (hS : Sat E w M) (n : Int) (h0 : 1 ≤ n) (h1 : n ≤ 4294967295) (hQ : ∀ b w, Sat E w (Win b ⟨n, []⟩ :: M) → Q (.tuple #[.pointer (some ⟨b, 0, none⟩), .int .i64 0]) w) :
    Calls Tryd.prog 16 #[.int .i64 n] w (retP Q) := by
  refine window_New.calls ?_
  unfold window_New.F
  repeat' (first | ((first | refine pN_lss_s ?_ ?_ | refine pN_gtr_s ?_ ?_) <;> intro hc <;> try (exfalso; omega)) | refine pIf_f ?_ | refine pGd_go (by rfl) ?_ | (refine pN_bx hS (by rfl) ?_; clear hS; intro a w hS) | refine pN_via (by (intro K; simp (disch := omega) only [go_sem, pN_min, pN_max, w_u32, w_u64, Option.isNone_some, Option.isNone_none]; (try simp only [wrap_u32, wrap_u64]); rfl)) ?_ | fail)
  have hS : Sat E w (rows cd_uint8 ⟨none, 0⟩ [] :: cel a _ :: M) := hS.nil 5 1
  exact hQ _ _ (Win.shut (x := ⟨n, []⟩) (WinR.shut (b := a) (s := ⟨none, 0⟩) (size := n) (ring := []) (at_ := 0) (pos := 0) hS rfl) (Z.Rep.new _) ⟨h0, h1, Nat.zero_le _⟩ rfl)
theorem WNew_no (n : Int) (h : ¬ (1 ≤ n ∧ n ≤ 4294967295)) (hQ : Q (.tuple #[.pointer none, .int .i64 7]) w) :
    Calls Tryd.prog 16 #[.int .i64 n] w (retP Q) := by
  refine window_New.calls ?_
  unfold window_New.F
  repeat' (first | ((first | refine pN_lss_s ?_ ?_ | refine pN_gtr_s ?_ ?_) <;> intro hc <;> try (exfalso; omega)) | refine pIf_t ?_ | refine pGd_go (by rfl) ?_ | refine pGd_no (by rfl) ?_ | refine pN_via (by (intro K; simp (disch := omega) only [go_sem, pN_min, pN_max, w_u32, w_u64, Option.isNone_some, Option.isNone_none]; (try simp only [wrap_u32, wrap_u64]); rfl)) ?_ | fail)
  all_goals exact hQ

theorem WFork_ok (hS : Sat E w (Win b x :: M)) (hQ : ∀ c w, Sat E w (Win c x :: Win b x :: M) → Q (.pointer (some ⟨c, 0, none⟩)) w) :
    Calls Tryd.prog 25 #[.pointer (some ⟨b, 0, none⟩)] w (retP Q) := by
  refine window_Window_Fork.calls ?_
  unfold window_Window_Fork.F
  obtain ⟨ring, at_, hr, ho, hS⟩ := Win.opn hS
  obtain ⟨s0, hS⟩ := WinR.opn hS
  have hl := hr.len
  have hs1 := ho.s1
  repeat' (first | refine pN_l hS (by first | rfl | assumption) ?_ | refine pN_la hS (by rfl) ?_ | (refine pN_s hS (by first | exact Nat.le_of_ble_eq_true rfl | assumption) (by rfl) ?_; clear hS; intro w hS; try simp only [List.set_cons_zero, List.set_cons_succ] at hS) | (refine pN_sa hS (by rfl) (by rfl) (by rfl) ?_; clear hS; intro w hS; try dsimp only at hS) | (refine pN_nz hS ?_; clear hS; intro a w hS) | (refine pN_b0 hS ?_; clear hS; intro s w hS) | (refine pN_app hS (by first | rfl | omega | simpa only [go_sem] using True.intro | (simp only [go_sem]; omega)) (by first | rfl | omega | simpa only [go_sem] using True.intro | (simp only [go_sem]; omega)) (by first | omega | (simp only [go_sem]; omega)) ?_; clear hS; intro s w hS) | refine pN_via (by (intro K; simp (disch := omega) only [go_sem, pN_min, pN_max, w_u32, w_u64, Option.isNone_some, Option.isNone_none]; (try simp only [wrap_u32, wrap_u64]); rfl)) ?_ | fail)
  rw [List.nil_append] at hS
  have hS := Win.shut (WinR.shut (b := b) (s := s0) hS rfl) hr ho rfl
  exact hQ _ _ (Win.shut (WinR.shut (b := a) (s := s) hS rfl) hr ho rfl)

/-- What a put takes: nothing of it can be in the ring. -/
theorem WPut_ok {s0 : Sl} {l : List UInt8} (hS : Sat E w (Win b x :: M)) [hl : Rds cd_uint8 M s0 l] (hn : x.all.length + l.length ≤ 4611686018427387904) (hQ : ∀ w, Sat E w (Win b ⟨x.size, x.all ++ l⟩ :: M) → Q (.tuple #[]) w) :
    Calls Tryd.prog 38 #[.pointer (some ⟨b, 0, none⟩), .slice s0.a l.length s0.c] w (retP Q) := by
  refine window_Window_Put.calls ?_
  unfold window_Window_Put.F
  obtain ⟨ring, at_, hr, ho, hS⟩ := Win.opn hS
  obtain ⟨s, hS⟩ := WinR.opn hS
  have o0 := ho.s0
  have o1 := ho.s1
  have on := ho.n
  have hlen := hr.len
  have hle := hr.le
  have e0 : ((x.all.length + l.length : Nat) : Int) = (x.all.length : Int) + (l.length : Int) := by omega
  repeat' (first | refine pN_l hS (by first | rfl | assumption) ?_ | (refine pN_s hS (by first | exact Nat.le_of_ble_eq_true rfl | assumption) (by rfl) ?_; clear hS; intro w hS; try simp only [List.set_cons_zero, List.set_cons_succ] at hS) | refine pN_via (by (intro K; simp (disch := omega) only [go_sem, pN_min, pN_max, w_u32, w_u64, Option.isNone_some, Option.isNone_none]; (try simp only [wrap_u32, wrap_u64]); rfl)) ?_ | fail)
  refine ⟨fun v w => ∃ (s1 : Sl) (g : List UInt8), v = .slice s1.a g.length s1.c ∧ (∀ L, Rds cd_uint8 L s0 l → Rds cd_uint8 L s1 g) ∧ (g = l ∨ ∃ pre, l = pre ++ g ∧ g.length = x.size.toNat) ∧ g.length ≤ x.size.toNat ∧
    Sat E w (cel b ⟨74, [.int .i64 x.size, .slice s.a ring.length s.c, .int .i64 at_, .int .i64 (x.all.length + l.length : Nat)]⟩ :: rows cd_uint8 s ring :: M), ?_, ?_⟩
  · repeat' (first | (refine pN_sl1 (C := cd_uint8) (s := s0) (l := l) hS (l.length - x.size.toNat) (by omega) rfl (by omega) ?_; intro s1 hp) | (refine pN_gtr_s ?_ ?_ <;> intro hc <;> try (exfalso; omega)) | refine pIf_t ?_ | refine pIf_f ?_ | refine pN_l hS (by first | rfl | assumption) ?_ | refine pN_via (by (intro K; simp (disch := omega) only [go_sem, pN_min, pN_max, w_u32, w_u64, Option.isNone_some, Option.isNone_none]; (try simp only [wrap_u32, wrap_u64]); rfl)) ?_ | fail)
    · refine ⟨s1, l.drop (l.length - x.size.toNat), by rw [List.length_drop], fun L h => hp.rd L h, .inr ⟨l.take (l.length - x.size.toNat), (List.take_append_drop _ _).symm, by rw [List.length_drop]; omega⟩, by rw [List.length_drop]; omega, ?_⟩
      rw [e0]; exact hS.to
    · exact ⟨s0, l, rfl, fun L h => h, .inl rfl, by omega, by rw [e0]; exact hS.to⟩
  clear hS
  rintro _ _ w ⟨s1, g, rfl, hrd, hg, hgl, hS⟩
  haveI hl1 := hrd M hl
  obtain ⟨gr, hgr⟩ : ∃ gr : Nat, gr = min g.length (x.size.toNat - ring.length) := ⟨_, rfl⟩
  have hgr2 : min (g.length : Int) (x.size - ring.length) = gr := by omega
  refine ⟨fun v w => ∃ (s2 s' : Sl) (g1 g2 ring2 : List UInt8) (at2 : Nat), v = .slice s2.a g2.length s2.c ∧ (∀ L, Rds cd_uint8 L s0 l → Rds cd_uint8 L s2 g2) ∧ g = g1 ++ g2 ∧ Z.Rep x.size.toNat (x.all ++ g1) ring2 at2 ∧ (g2 ≠ [] → ring2.length = x.size.toNat) ∧
    Sat E w (cel b ⟨74, [.int .i64 x.size, .slice s'.a ring2.length s'.c, .int .i64 at2, .int .i64 (x.all.length + l.length : Nat)]⟩ :: rows cd_uint8 s' ring2 :: M), ?_, ?_⟩
  · repeat' (first | refine pA_minv hgr2 ?_ | (refine pA_slhw (C := cd_uint8) (s := s1) (l := g) hS gr rfl rfl (by omega) ?_; intro hsub) | (refine pN_sl1 (C := cd_uint8) (s := s1) (l := g) hS gr rfl rfl (by omega) ?_; intro s2 hp) | (refine pN_app (l := ring) (m := g.take gr) (s2 := s1.sub 0 cd_uint8.size) hS rfl (by rw [List.length_take]; omega) (by rw [List.length_take]; omega) ?_; clear hS; intro s3 w hS) | (refine pN_gtr_s ?_ ?_ <;> intro hc <;> try (exfalso; omega)) | refine pIf_t ?_ | refine pIf_f ?_ | refine pN_l hS (by first | rfl | assumption) ?_ | refine pL_l hS (by first | rfl | assumption) ?_ | (refine pN_s hS (by first | exact Nat.le_of_ble_eq_true rfl | assumption) (by rfl) ?_; clear hS; intro w hS; try simp only [List.set_cons_zero, List.set_cons_succ] at hS) | (refine pDr_go hS ?_; clear hS; intro w hS) | refine ⟨trivial, ?_⟩ | refine pN_via (by (intro K; simp (disch := omega) only [go_sem, pN_min, pN_max, w_u32, w_u64, Option.isNone_some, Option.isNone_none]; (try simp only [wrap_u32, wrap_u64]); rfl)) ?_ | refine pA_via (by (intro K; simp (disch := omega) only [go_sem, pN_min, pN_max, w_u32, w_u64, Option.isNone_some, Option.isNone_none]; (try simp only [wrap_u32, wrap_u64]); rfl)) ?_ | fail)
    · refine ⟨s2, s3, g.take gr, g.drop gr, ring ++ g.take gr, (ring ++ g.take gr).length, by rw [List.length_drop], fun L h => hp.rd L (hrd L h), (List.take_append_drop _ _).symm, hr.grown _ (by rw [List.length_take]; omega) (by rw [List.length_take]; omega), fun hne => ?_, ?_⟩
      · have : (g.drop gr).length ≠ 0 := fun h => hne (List.length_eq_zero_iff.1 h)
        rw [List.length_drop] at this
        rw [List.length_append, List.length_take]
        omega
      · rw [show ((ring ++ g.take gr).length : Int) = ((ring.length + min gr g.length : Nat) : Int) from by rw [List.length_append, List.length_take]]
        exact hS.to
    · refine ⟨s1, s, [], g, ring, at_, rfl, hrd, rfl, by rw [List.append_nil]; exact hr, fun hne => ?_, hS.to⟩
      have : g.length ≠ 0 := fun h => hne (List.length_eq_zero_iff.1 h)
      omega
  clear hS
  rintro _ _ w ⟨s2, s3, g1, g2, ring2, at2, rfl, hrd2, hg12, hrep, hfull, hS⟩
  refine ⟨fun v w => ∃ (s2 : Sl) (g1 g2 ring2 : List UInt8) (at2 : Nat), v = .slice s2.a g2.length s2.c ∧ (∀ L, Rds cd_uint8 L s0 l → Rds cd_uint8 L s2 g2) ∧ g = g1 ++ g2 ∧ Z.Rep x.size.toNat (x.all ++ g1) ring2 at2 ∧ (g2 ≠ [] → ring2.length = x.size.toNat) ∧
    Sat E w (cel b ⟨74, [.int .i64 x.size, .slice s3.a ring2.length s3.c, .int .i64 at2, .int .i64 (x.all.length + l.length : Nat)]⟩ :: rows cd_uint8 s3 ring2 :: M), fun v _ => match v with | .slice _ n _ => n | _ => 0,
    ⟨s2, g1, g2, ring2, at2, rfl, hrd2, hg12, hrep, hfull, hS⟩, ?_⟩
  clear hS hrep hfull hg12 hrd2 g1 g2 ring2 at2 s2
  rintro _ _ w ⟨s2, g1, g2, ring2, at2, rfl, hrd2, hg12, hrep, hfull, hS⟩
  haveI hl2 := hrd2 M hl
  have hgl12 : g.length = g1.length + g2.length := by rw [hg12, List.length_append]
  have hrle := hrep.le
  have hrl := hrep.len
  by_cases hne : g2 = []
  · subst hne
    repeat' (first | (refine pN_gtr_s ?_ ?_ <;> intro hc <;> try (exfalso; omega)) | refine pIf_f ?_ | refine pN_via (by (intro K; simp (disch := omega) only [go_sem, pN_min, pN_max, w_u32, w_u64, Option.isNone_some, Option.isNone_none]; (try simp only [wrap_u32, wrap_u64]); rfl)) ?_ | fail)
    refine hQ _ (Win.shut (x := ⟨x.size, x.all ++ l⟩) (WinR.shut (s := s3) hS rfl) ?_ ⟨o0, o1, by rw [List.length_append]; exact hn⟩ (by rw [List.length_append]))
    rw [List.append_nil] at hg12
    subst hg12
    rcases hg with rfl | ⟨pre, rfl, hlen2⟩
    · exact hrep
    · exact Z.Rep.suffix hrep (show x.size.toNat ≤ g.length by omega)
  · have h0 : g2.length ≠ 0 := fun h => hne (List.length_eq_zero_iff.1 h)
    have hf := hfull hne
    repeat' (first | (refine pN_gtr_s ?_ ?_ <;> intro hc <;> try (exfalso; omega)) | refine pIf_t ?_ | refine pN_via (by (intro K; simp (disch := omega) only [go_sem, pN_min, pN_max, w_u32, w_u64, Option.isNone_some, Option.isNone_none]; (try simp only [wrap_u32, wrap_u64]); rfl)) ?_ | fail)
    refine ⟨fun w => ∃ at3 : Nat, at3 < ring2.length ∧ Z.Rep x.size.toNat (x.all ++ g1) ring2 at3 ∧ Sat E w (cel b ⟨74, [.int .i64 x.size, .slice s3.a ring2.length s3.c, .int .i64 at3, .int .i64 (x.all.length + l.length : Nat)]⟩ :: rows cd_uint8 s3 ring2 :: M), ?_, ?_⟩
    · repeat' (first | (refine pA_eql_s ?_ ?_ <;> intro hc <;> try (exfalso; first | omega | exact hc rfl | exact hc (by assumption) | exact absurd hc (by assumption))) | refine pIf_t ?_ | refine pIf_f ?_ | refine pL_l hS (by first | rfl | assumption) ?_ | (refine pN_s hS (by first | exact Nat.le_of_ble_eq_true rfl | assumption) (by rfl) ?_; clear hS; intro w hS; try simp only [List.set_cons_zero, List.set_cons_succ] at hS) | (refine pDr_go hS ?_; clear hS; intro w hS) | refine pN_via (by (intro K; simp (disch := omega) only [go_sem, pN_min, pN_max, w_u32, w_u64, Option.isNone_some, Option.isNone_none]; (try simp only [wrap_u32, wrap_u64]); rfl)) ?_ | refine pA_via (by (intro K; simp (disch := omega) only [go_sem, pN_min, pN_max, w_u32, w_u64, Option.isNone_some, Option.isNone_none]; (try simp only [wrap_u32, wrap_u64]); rfl)) ?_ | fail)
      · refine ⟨0, by omega, ?_, hS.to⟩
        have e1 : at2 = ring2.length := by omega
        rw [← hf, e1] at hrep
        rw [← hf]
        exact hrep.wrap
      · exact ⟨at2, by omega, hrep, hS.to⟩
    clear hS
    rintro _ w ⟨at3, ha3, hrep3, hS⟩
    have hdn : (g2.take (ring2.length - at3)).length = min g2.length (ring2.length - at3) := by rw [List.length_take, Nat.min_comm]
    repeat' (first | (refine pA_sl1w (C := cd_uint8) (s := s3) (l := ring2) hS at3 rfl rfl (by omega) ?_; intro hsub) | (refine pN_cp (C := cd_uint8) (s := s3) (s2 := s2) (l := ring2) (r := g2) (dn := ring2.length - at3) hS at3 (by omega) (by omega) rfl ?_; clear hS; intro w hS) | (refine pN_sl1 (C := cd_uint8) (s := s2) (l := g2) hS (min g2.length (ring2.length - at3)) rfl rfl (by omega) ?_; intro s4 hp) | refine pN_l hS (by first | rfl | assumption) ?_ | refine pL_l hS (by first | rfl | assumption) ?_ | (refine pN_s hS (by first | exact Nat.le_of_ble_eq_true rfl | assumption) (by rfl) ?_; clear hS; intro w hS; try simp only [List.set_cons_zero, List.set_cons_succ] at hS) | (refine pDr_go hS ?_; clear hS; intro w hS) | refine ⟨trivial, ?_⟩ | refine pN_via (by (intro K; simp (disch := omega) only [go_sem, pN_min, pN_max, w_u32, w_u64, Option.isNone_some, Option.isNone_none]; (try simp only [wrap_u32, wrap_u64]); rfl)) ?_ | refine pA_via (by (intro K; simp (disch := omega) only [go_sem, pN_min, pN_max, w_u32, w_u64, Option.isNone_some, Option.isNone_none]; (try simp only [wrap_u32, wrap_u64]); rfl)) ?_ | fail)
    obtain ⟨k, hk⟩ : ∃ k, k = min g2.length (ring2.length - at3) := ⟨_, rfl⟩
    have h5 : Z.Rep ring2.length (x.all ++ g1) ring2 at3 := by rw [hf]; exact hrep3
    have h6 := h5.turned (g2.take (ring2.length - at3)) (by rw [hdn]; omega)
    have hpl := putL_len ring2 at3 (g2.take (ring2.length - at3)) (by rw [hdn]; omega)
    have e5 : g2.take (ring2.length - at3) ++ g2.drop k = g2 := by
      by_cases hle2 : ring2.length - at3 ≤ g2.length
      · rw [show k = ring2.length - at3 from by omega, List.take_append_drop]
      · rw [List.take_of_length_le (by omega), List.drop_of_length_le (by omega), List.append_nil]
    rw [hdn, ← hk] at h6
    rw [← hk] at hS hp ⊢
    refine ⟨⟨s4, g1 ++ g2.take (ring2.length - at3), g2.drop k, putL ring2 at3 (g2.take (ring2.length - at3)), at3 + k, by rw [List.length_drop], fun L h => hp.rd L (hrd2 L h), by rw [List.append_assoc, e5]; exact hg12, ?_, fun _ => by rw [hpl]; exact hf, ?_⟩, by simp only; omega⟩
    · rw [← hf, ← List.append_assoc, putL, hdn, ← hk]
      exact h6
    · rw [hpl, show ((at3 + k : Nat) : Int) = (at3 : Int) + (k : Int) from by omega]
      exact hS.to

theorem Copy_no (hS : Sat E w (Win b x :: M)) (d n : Int) (h : ¬ (x.has d ∧ 0 ≤ n ∧ n ≤ 273)) (hQ : ∀ w, Sat E w (Win b x :: M) → Q (.tuple #[.slice none 0 0, .int .i64 7]) w) :
    Calls Tryd.prog 39 #[.pointer (some ⟨b, 0, none⟩), .int .i64 d, .int .i64 n] w (retP Q) := by
  refine window_Window_Copy.calls ?_
  unfold window_Window_Copy.F
  obtain ⟨ring, at_, hr, ho, hS⟩ := Win.opn hS
  unfold Z.W.has Z.W.full at h
  rw [← hr.len] at h
  refine pc_window_Window_in (in_ok hS d fun w hS => ?_)
  by_cases hd : 1 ≤ d ∧ d ≤ ring.length
  · rw [decide_eq_true hd]
    repeat' (first | ((first | refine pN_lss_s ?_ ?_ | refine pN_gtr_s ?_ ?_) <;> intro hc <;> try (exfalso; omega)) | refine pIf_t ?_ | refine pGd_go (by rfl) ?_ | refine pGd_no (by rfl) ?_ | refine pN_via (by (intro K; simp (disch := omega) only [go_sem, pN_min, pN_max, w_u32, w_u64, Option.isNone_some, Option.isNone_none]; (try simp only [wrap_u32, wrap_u64]); rfl)) ?_ | fail)
    all_goals exact hQ _ (Win.shut hS hr ho rfl)
  · rw [decide_eq_false hd]
    repeat' (first | refine pIf_t ?_ | refine pGd_no (by rfl) ?_ | refine pN_via (by (intro K; simp (disch := omega) only [go_sem, pN_min, pN_max, w_u32, w_u64, Option.isNone_some, Option.isNone_none]; (try simp only [wrap_u32, wrap_u64]); rfl)) ?_ | fail)
    all_goals exact hQ _ (Win.shut hS hr ho rfl)

theorem Copy_in (hS : Sat E w (Win b x :: M)) (d n : Nat) (hd : x.has d) (hn : n ≤ 273) (hb : x.all.length + n ≤ 4611686018427387904)
    (hQ : ∀ s w, Sat E w (rows cd_uint8 s (Z.cpy x.all d n) :: Win b ⟨x.size, x.all ++ Z.cpy x.all d n⟩ :: M) → Q (.tuple #[.slice s.a n s.c, .int .i64 0]) w) :
    Calls Tryd.prog 39 #[.pointer (some ⟨b, 0, none⟩), .int .i64 d, .int .i64 n] w (retP Q) := by
  refine window_Window_Copy.calls ?_
  unfold window_Window_Copy.F
  obtain ⟨ring, at_, hr, ho, hS⟩ := Win.opn hS
  have hd' := hd
  unfold Z.W.has Z.W.full at hd'
  rw [← hr.len] at hd'
  refine pc_window_Window_in (in_ok hS d fun w hS => ?_)
  rw [decide_eq_true hd']
  have hS := Win.shut hS hr ho rfl
  clear hr hd'
  repeat' (first | ((first | refine pN_lss_s ?_ ?_ | refine pN_gtr_s ?_ ?_) <;> intro hc <;> try (exfalso; omega)) | refine pIf_f ?_ | refine pGd_go (by rfl) ?_ | (refine pN_mk0 hS _ (by first | rfl | (exact (Int.toNat_of_nonneg (by omega)).symm)) (by first | omega | (simp only [go_sem]; omega)) ?_; clear hS; intro s w hS) | refine pN_via (by (intro K; simp (disch := omega) only [go_sem, pN_min, pN_max, w_u32, w_u64, Option.isNone_some, Option.isNone_none]; (try simp only [wrap_u32, wrap_u64]); rfl)) ?_ | fail)
  refine ⟨fun v k w => ∃ (i : Nat) (s : Sl), v = .slice s.a i s.c ∧ k = .int .i64 i ∧ i ≤ n ∧ Sat E w (rows cd_uint8 s (Z.cpy x.all d i) :: Win b ⟨x.size, x.all ++ Z.cpy x.all d i⟩ :: M), fun _ k _ => n - (RowKit.intOf k).toNat, ⟨0, s, rfl, rfl, Nat.zero_le _, ?_⟩, ?_⟩
  · simp only [Z.cpy, List.append_nil]
    exact hS.to
  clear hS
  rintro _ _ _ w ⟨i, s, rfl, rfl, hi, hS⟩
  have hcl := Z.cpy_len x.all d i
  by_cases hlt : i < n
  · obtain ⟨ring, at_, hr, ho', hS⟩ := Win.opn (hS.fd (Win b))
    have hlen := hr.len
    have hdr : d ≤ ring.length := by
      obtain ⟨_, h2⟩ := hd
      unfold Z.W.full at h2
      simp only [List.length_append] at hlen
      omega
    have d1 := hd.1
    have hg := hr.get d (by omega) hdr
    obtain ⟨c, hc⟩ : ∃ c, (x.all ++ Z.cpy x.all d i)[(x.all ++ Z.cpy x.all d i).length - d]? = some c := ⟨_, List.getElem?_eq_getElem (by simp only at hlen ⊢; omega)⟩
    simp only at hg
    rw [hc] at hg
    have e1 : Z.cpy x.all d (i + 1) = Z.cpy x.all d i ++ [c] := by rw [Z.cpy, hc]; rfl
    repeat' (first | (refine pN_lss_s ?_ ?_ <;> intro hc <;> try (exfalso; omega)) | refine pIf_t ?_ | fail)
    refine pc_window_Window_back (back_ok hS d (by omega) hdr hr.le hg fun w hS => ?_)
    have hS := Win.shut hS hr ho' rfl
    repeat' (first | (refine pc_window_Window_Put (WPut_ok (l := [c]) (hS.fd (Win b)) (by simp only [List.length_append, List.length_cons, List.length_nil]; omega) ?_); clear hS; intro w hS) | (refine pN_app (l := Z.cpy x.all d i) (m := [c]) hS hcl.symm rfl (by simp only [List.length_cons, List.length_nil]; omega) ?_; clear hS; intro s w hS) | (refine pN_b1 hS (by rfl) (by decide) ?_; clear hS; intro s w hS) | refine pN_via (by (intro K; simp (disch := omega) only [go_sem, pN_min, pN_max, w_u32, w_u64, Option.isNone_some, Option.isNone_none]; (try simp only [wrap_u32, wrap_u64]); rfl)) ?_ | fail)
    refine ⟨⟨i + 1, s, by rw [List.length_append, hcl]; rfl, rfl, by omega, ?_⟩, by simp [RowKit.intOf]; omega⟩
    rw [e1]
    simp only [List.append_assoc] at hS
    exact hS.to
  · obtain rfl : i = n := by omega
    repeat' (first | (refine pN_lss_s ?_ ?_ <;> intro hc <;> try (exfalso; omega)) | refine pIf_f ?_ | fail)
    exact hQ _ _ hS
end

end Go.Proofs.YtbgnnjfpiblkmaaDoor
