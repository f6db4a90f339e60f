/-
  Texts of one proof, one behind the other: LzencExact.
-/
import Derived.Test.YtbgnnjfpiblkmaaGreatDoorMg8
set_option linter.unusedSimpArgs false
set_option linter.unnecessarySimpa false
set_option linter.unusedSectionVars false
set_option linter.unusedVariables false

namespace Go.Proofs.YtbgnnjfpiblkmaaGreatDoor
open Go

abbrev Tw := (Nat × Nat) × Z.EZ
def pairH (t : Tw) : HA := fun h => Sats [LEnc t.1.1 t.2, RCod t.1.2 t.2] h
def prs (l : List Tw) : HA := bag (l.map pairH)
def prsBut (l : List Tw) (j : Nat) : HA := bag ((l.map pairH).eraseIdx j)
abbrev pE (t : Tw) : Option Addr := some ⟨t.1.1, 0, none⟩
abbrev pR (t : Tw) : Option Addr := some ⟨t.1.2, 0, none⟩
section
variable {E w : World} {M : List HA} {l : List Tw} {j b c : Nat} {e e' : Z.EZ}
theorem prs_out (hS : Sat E w (prs l :: M)) (h : l[j]? = some ((b, c), e)) : Sat E w (LEnc b e :: RCod c e :: prsBut l j :: M) := by
  have h1 := Sat.out (A := pairH ((b, c), e)) hS j (by rw [List.getElem?_map, h]; rfl)
  exact h1.open_ (M := [_, _]) fun _ h => h
theorem prs_into (hS : Sat E w (LEnc b e' :: RCod c e' :: prsBut l j :: M)) (h : l[j]? = some ((b, c), e)) : Sat E w (prs (l.set j ((b, c), e')) :: M) := by
  have h1 : Sat E w (pairH ((b, c), e') :: prsBut l j :: M) := Sat.shut (M := [_, _]) hS fun _ h => h
  have h2 := Sat.into (A := pairH ((b, c), e)) h1 (by rw [List.getElem?_map, h]; rfl)
  rw [← List.map_set] at h2
  exact h2
theorem prs_snoc (hS : Sat E w (LEnc b e :: RCod c e :: prs l :: M)) : Sat E w (prs (l ++ [((b, c), e)]) :: M) := by
  have h1 : Sat E w (pairH ((b, c), e) :: prs l :: M) := Sat.shut (M := [_, _]) hS fun _ h => h
  have h2 := Sat.bag_snoc h1
  have e1 : l.map pairH ++ [pairH ((b, c), e)] = (l ++ [((b, c), e)]).map pairH := by simp
  rw [e1] at h2
  exact h2
theorem map_set_same {α β : Type} (f : α → β) {l : List α} {j : Nat} {x y : α} (h : l[j]? = some x) (hf : f y = f x) : (l.set j y).map f = l.map f := by
  rw [List.map_set, hf]
  exact set_same (by rw [List.getElem?_map, h]; rfl)
end
structure Gd (i : Nat) (l : List Tw) : Prop where
  n1 : 1 ≤ l.length
  n4 : l.length ≤ 4
  k : ∀ t ∈ l, t.2.s.k ≤ 26 * i
  x : ∀ t ∈ l, t.2.x.all.length ≤ 1048849 * i
theorem Gd.mono {i : Nat} {l : List Tw} (h : Gd i l) : Gd (i + 1) l := ⟨h.n1, h.n4, fun t ht => by have := h.k t ht; omega, fun t ht => by have := h.x t ht; omega⟩
theorem Gd.set {i j : Nat} {l : List Tw} (h : Gd i l) {t : Tw} (hk : t.2.s.k ≤ 26 * (i + 1)) (hx : t.2.x.all.length ≤ 1048849 * (i + 1)) : Gd (i + 1) (l.set j t) :=
  ⟨by rw [List.length_set]; exact h.n1, by rw [List.length_set]; exact h.n4, fun u hu => by
    rcases List.mem_or_eq_of_mem_set hu with hu | rfl
    · have := h.k u hu; omega
    · exact hk, fun u hu => by
    rcases List.mem_or_eq_of_mem_set hu with hu | rfl
    · have := h.x u hu; omega
    · exact hx⟩
theorem Gd.snoc {i : Nat} {l : List Tw} (h : Gd i l) (h4 : l.length < 4) {t : Tw} (hk : t.2.s.k ≤ 26 * i) (hx : t.2.x.all.length ≤ 1048849 * i) : Gd (i + 1) (l ++ [t]) :=
  ⟨by rw [List.length_append]; have := h.n1; omega, by rw [List.length_append]; exact h4, fun u hu => by
    rcases List.mem_append.1 hu with hu | hu
    · have := h.k u hu; omega
    · rw [List.mem_singleton] at hu; subst hu; omega, fun u hu => by
    rcases List.mem_append.1 hu with hu | hu
    · have := h.x u hu; omega
    · rw [List.mem_singleton] at hu; subst hu; omega⟩
section
variable {W w : World} {l : List Tw} {i j b c : Nat} {e e' : Z.EZ} {s1 s2 : Sl}
def Aft (W : World) (i j b c : Nat) (v1 v2 : Value) (w : World) : Prop := ∃ (l : List Tw) (e : Z.EZ) (s1 s2 : Sl), v1 = .slice s1.a l.length s1.c ∧ v2 = .slice s2.a l.length s2.c ∧ Gd (i + 1) l ∧ l[j]? = some ((b, c), e) ∧ Sat W w [prs l, rows cd_p_lzenc_Encoder s1 (l.map pE), rows cd_p_pithref14_Coder s2 (l.map pR), old W]
theorem Aft.of (hg : Gd i l) (hl : l[j]? = some ((b, c), e)) (hk : e'.s.k ≤ 26 * (i + 1)) (hx : e'.x.all.length ≤ 1048849 * (i + 1))
    (hS : Sat W w [LEnc b e', RCod c e', prsBut l j, rows cd_p_lzenc_Encoder s1 (l.map pE), rows cd_p_pithref14_Coder s2 (l.map pR), old W]) : Aft W i j b c (.slice s1.a l.length s1.c) (.slice s2.a l.length s2.c) w := by
  have hS := prs_into hS hl
  have e1 := map_set_same pE hl (y := ((b, c), e')) rfl
  have e2 := map_set_same pR hl (y := ((b, c), e')) rfl
  rw [← e1, ← e2] at hS
  have hlt := (List.getElem?_eq_some_iff.1 hl).1
  exact ⟨l.set j ((b, c), e'), e', s1, s2, by rw [List.length_set], by rw [List.length_set], hg.set hk hx, by rw [List.getElem?_set, if_pos rfl, if_pos hlt], hS⟩
end
attribute [local irreducible] oMv oV oU oCall oCallV oBi oBin oUn oLoad oStore oNil oFld oField oIdx oIndex oPick oAlloc oBox oBuild oBs oConv oMk oSl oExt oFn oIface oMap oLook oMapUp oRange oNext oEntry oInv oAssert oPanic oRes pN pA pL pDr pIf gA pGd Calls

section
variable {E w W : World} {M N : List HA} {Q : Value → World → Prop} {b c : Nat} {e : Z.EZ}
theorem LRaw_ok {s0 : Sl} {l : List UInt8} (hS : Sat E w (LEnc b e :: M)) [hl : Rds cd_uint8 M s0 l] (hn : e.x.all.length + l.length ≤ 4611686018427387904) (hQ : ∀ w, Sat E w (LEnc b (e.raw l) :: M) → Q (.tuple #[]) w) :
    Calls Tryz.prog 24 #[pz b, .slice s0.a l.length s0.c] w (retP Q) := by
  refine lzenc_Encoder_Raw.calls ?_
  unfold lzenc_Encoder_Raw.F
  obtain ⟨he, t, wd, en, q, hS⟩ := LEnc.opn hS
  repeat' (first | (refine pc_window_Window_Put (WPut_ok (l := l) (hS.fd (Win wd)) hn ?_); clear hS; intro w hS) | refine pN_l hS (by first | rfl | assumption) ?_ | refine pN_v (hk := ?_) | fail)
  exact hQ _ (LEnc.shut (e := ⟨e.p, e.st, e.T, ⟨e.x.size, e.x.all ++ l⟩, e.s⟩) (t := t) (wd := wd) (en := en) (q := q) hS.to (he.raw l))
theorem room14_ok {s0 : Sl} {l : List UInt8} (hS : Sat E w M) [hl : Rds cd_uint8 M s0 l] (hn : l.length ≤ 1048576) (hQ : ∀ s w, Sat E w (rows cd_uint8 s (l ++ [109]) :: M) → Q (.slice s.a (l ++ [109]).length s.c) w) :
    Calls Tryz.prog 23 #[.slice s0.a l.length s0.c] w (retP Q) := by
  refine pithlaw14_room.calls ?_
  unfold pithlaw14_room.F
  have hS : Sat E _ (rows cd_uint8 ⟨none, 0⟩ [] :: _) := hS.nil 5 1
  repeat' (first | (refine pN_b1 hS (by rfl) (by decide) ?_; clear hS; intro s w hS) | (refine pN_app hS (by first | rfl | omega | simpa only [go_sem] using True.intro | (simp only [go_sem]; omega)) (by first | rfl | omega | simpa only [go_sem] using True.intro | (simp only [go_sem]; omega)) (by first | omega | (simp only [go_sem]; omega)) ?_; clear hS; intro s w hS) | (refine pN_app0 hS (by first | rfl | omega | simpa only [go_sem] using True.intro | (simp only [go_sem]; omega)) (by first | omega | (simp only [go_sem]; omega)) ?_; clear hS; intro s w hS) | fail)
  exact hQ _ _ hS.to
end

set_option maxRecDepth 8000 in
set_option maxHeartbeats 4000000 in
theorem walk_LzencExact (W : World) (hG : Glo W) (x0 : T_pithlaw14_Setup) (x1 : Sl × List T_pithlaw14_Step) (k0 k1 : Nat)
    (h0 : x0.ok W k0)
    (h1 : RdP cd_pithlaw14_Step (old W) x1.1 x1.2 ∧ x1.2.length * 96 ≤ reachBytes ∧ x1.2.length + 1 ≤ k1 ∧ ∀ c ∈ x1.2, ∃ k, k ≤ k1 ∧ c.ok W k)
    (q0 : k0 ≤ 1048576) (q1 : k1 ≤ 1048576) :
    Calls Tryz.prog 4 #[.agg x0.enc.toArray, .slice x1.1.a x1.2.length x1.1.c] W fun e W' => e = .returned (.bool true) ∧ RowKit.Below W.heap.size W W' := by
  refine walk_end (pithlaw14_LzencExact.calls ?_)
  unfold pithlaw14_LzencExact.F
  obtain ⟨r1, _, s1, g1⟩ := h1
  obtain ⟨⟨_, _, hpr⟩, hd⟩ := h0
  have hS := Sat.start W
  obtain ⟨⟨lc, lp, pb⟩, dict⟩ := x0
  have hlc := hpr.1
  dsimp only at hlc hd
  refine pN_bx (z := [.int .i64 lc, .int .i64 lp, .int .i64 pb, .int .i64 dict]) hS (by rfl) fun x9 w hS => ?_
  by_cases hok : (⟨lc, lp, pb⟩ : Z.Pr).Ok ∧ 1 ≤ dict ∧ dict ≤ 4294967295
  · have hp := hok.1
    repeat' (first | refine pN_la_at (n := 3) hS [.int .i64 lc, .int .i64 lp, .int .i64 pb] rfl rfl ?_ | (refine pc_lzenc_New (LNew_in (p := ⟨lc, lp, pb⟩) hS hp dict hok.2.1 hok.2.2 ?_); clear hS; intro eb w hS) | (refine pc_pithref14_New (R14New_in (p := ⟨lc, lp, pb⟩) hS hp dict hok.2.1 hok.2.2 ?_); clear hS; intro rb w hS) | refine pc_pithlaw14_num (num14_ok _ (by omega) ?_) | (refine pN_b1 (x := (some ⟨eb, 0, none⟩ : Option Addr)) hS rfl (by decide) ?_; clear hS; intro se w hS) | (refine pN_b1 (x := (some ⟨rb, 0, none⟩ : Option Addr)) hS rfl (by decide) ?_; clear hS; intro sr w hS) | (refine pN_neq_s ?_ ?_ <;> intro hc <;> try (exfalso; first | omega | exact hc rfl | exact hc (by assumption) | exact absurd hc (by assumption))) | refine pIf_f ?_ | refine pGd_go (by rfl) ?_ | refine pN_l hS (by first | rfl | assumption) ?_ | refine pN_v (hk := ?_) | fail)
    have hE0 := Z.EZ.Ok.new hp dict
    have hk0 : (Z.EZ.new ⟨lc, lp, pb⟩ dict).s.k = 0 := rfl
    have hx0 : (Z.EZ.new ⟨lc, lp, pb⟩ dict).x.all.length = 0 := rfl
    generalize Z.EZ.new ⟨lc, lp, pb⟩ dict = E0 at *
    have hG0 : Gd 0 [((eb, rb), E0)] := ⟨Nat.le_refl _, Nat.le_of_ble_eq_true rfl, fun u hu => by rw [List.mem_singleton] at hu; subst hu; simp only; omega, fun u hu => by rw [List.mem_singleton] at hu; subst hu; simp only; omega⟩
    have hS : Sat W w (LEnc eb E0 :: RCod rb E0 :: prsBut [((eb, rb), E0)] 0 :: [rows cd_p_lzenc_Encoder se ([((eb, rb), E0)].map pE), rows cd_p_pithref14_Coder sr ([((eb, rb), E0)].map pR), old W]) := by
      have h1 : Sat W w (LEnc eb E0 :: RCod rb E0 :: [rows cd_p_lzenc_Encoder se [some ⟨eb, 0, none⟩], rows cd_p_pithref14_Coder sr [some ⟨rb, 0, none⟩], old W]) := hS.to
      have h2 := Sat.shutBag (M := []) h1
      exact h2.perm ((List.Perm.swap _ _ _).trans ((List.Perm.swap _ _ _).cons _))
    have hS := prs_into hS rfl
    refine ⟨fun es rs v w => ∃ (i : Nat) (l : List Tw) (s1 s2 : Sl), es = .slice s1.a l.length s1.c ∧ rs = .slice s2.a l.length s2.c ∧ v = .int .i64 i ∧ i ≤ x1.2.length ∧ Gd i l ∧ Sat W w [prs l, rows cd_p_lzenc_Encoder s1 (l.map pE), rows cd_p_pithref14_Coder s2 (l.map pR), old W], fun _ _ v _ => x1.2.length - (RowKit.intOf v).toNat, ⟨0, [((eb, rb), E0)], se, sr, rfl, rfl, rfl, Nat.zero_le _, hG0, hS⟩, ?_⟩
    clear hS
    rintro _ _ _ _ w ⟨i, l, s1, s2, rfl, rfl, rfl, hi, hgd, hS⟩
    obtain ⟨ln1, ln4, _, _⟩ := id hgd
    have hlE : (l.map pE).length = l.length := List.length_map ..
    have hlR : (l.map pR).length = l.length := List.length_map ..
    by_cases hlt : i < x1.2.length
    · obtain ⟨st, hst⟩ : ∃ st, x1.2[i]? = some st := ⟨_, List.getElem?_eq_getElem hlt⟩
      obtain ⟨kk, hkk, hsto⟩ := g1 st (List.mem_of_getElem? hst)
      obtain ⟨wh, kd, y, ⟨sw, raw⟩, ⟨lc2, lp2, pb2⟩⟩ := st
      obtain ⟨hwh, _, _, ⟨k3, hk3, hraw, _, hrl, _⟩, ⟨_, _, hpr2⟩⟩ := hsto
      dsimp only at hwh hraw hrl
      have hlc2 := hpr2.1
      dsimp only at hlc2
      repeat' (first | (refine pN_lss_s ?_ ?_ <;> intro hc <;> try (exfalso; omega)) | refine pIf_t ?_ | fail)
      refine ⟨fun es rs w => ∃ (l : List Tw) (s1 s2 : Sl), es = .slice s1.a l.length s1.c ∧ rs = .slice s2.a l.length s2.c ∧ Gd (i + 1) l ∧ Sat W w [prs l, rows cd_p_lzenc_Encoder s1 (l.map pE), rows cd_p_pithref14_Coder s2 (l.map pR), old W], ?_, ?_⟩
      rotate_left 1
      · clear hS
        rintro _ _ _ w ⟨l, s1, s2, rfl, rfl, hgd, hS⟩
        repeat' (first | refine pN_v (hk := ?_) | fail)
        exact ⟨⟨i + 1, l, s1, s2, rfl, rfl, rfl, hlt, hgd, hS⟩, by simp [RowKit.intOf]; omega⟩
      refine pN_ixk hS i rfl rfl hst (fun aE haE helE => ?_)
      repeat' (first | refine pN_ld_at haE hS (by rfl) ?_ | (refine pN_lss_s ?_ ?_ <;> intro hc <;> try (exfalso; omega)) | refine pIf_t ?_ | refine pIf_f ?_ | refine pN_l hS (by first | rfl | assumption) ?_ | (refine pN_sa hS (by rfl) (by rfl) (by rfl) ?_; clear hS; intro w hS; try dsimp only at hS) | (refine pDr_go hS ?_; clear hS; intro w hS) | (refine pN_nz hS ?_; clear hS; intro a w hS) | refine pN_v (hk := ?_) | fail)
      · exact ⟨l, s1, s2, rfl, rfl, hgd.mono, hS.to⟩
      dsimp only at hc
      obtain ⟨j, hj⟩ : ∃ j : Nat, wh.tmod l.length = j := ⟨(wh.tmod l.length).toNat, by
        have := Int.tmod_nonneg (l.length : Int) (show 0 ≤ wh by omega)
        omega⟩
      have hjl : j < l.length := by
        have := Int.tmod_lt_of_pos wh (show (0 : Int) < l.length by omega)
        omega
      obtain ⟨⟨⟨b, c⟩, e⟩, hlj⟩ : ∃ t, l[j]? = some t := ⟨_, List.getElem?_eq_getElem hjl⟩
      have hpe : (l.map pE)[j]? = some (some ⟨b, 0, none⟩) := by rw [List.getElem?_map, hlj]; rfl
      have hpr : (l.map pR)[j]? = some (some ⟨c, 0, none⟩) := by rw [List.getElem?_map, hlj]; rfl
      have hke := hgd.k _ (List.mem_of_getElem? hlj)
      have hxe := hgd.x _ (List.mem_of_getElem? hlj)
      dsimp only at hke hxe
      rw [hj]
      have hS := cel_cnv (t := a) (o' := ⟨50, [.int .i64 wh, .int .i64 kd, .int .i64 y.Kind, bv y.Byte, .int .i64 y.Len, .int .i64 y.Dist, .slice sw.a raw.length sw.c, .int .i64 lc2, .int .i64 lp2, .int .i64 pb2]⟩) rfl hS
      have hS := prs_out (hS.hs (prs l)) hlj
      have he : e.Ok := (LEnc.opn hS).1
      have hmv := Z.may_vals e y
      have hb : e.s.bytes.length = e.s.k + 5 := bytes_len _
      repeat' (first | refine pL_ld1 ha hS ?_ | refine pA_ixk hS _ (by first | rfl | (exact (Int.toNat_of_nonneg (by omega)).symm)) (by first | rfl | omega | simpa only [go_sem] using True.intro | (simp only [go_sem]; omega)) (by assumption) fun a ha hel => ?_ | fail)
      refine ⟨Aft W i j b c, ?_, ?_⟩
      rotate_left 1
      · clear hS
        rintro _ _ _ w ⟨l, e, s1, s2, rfl, rfl, hgd, hlj, hS⟩
        have hke := hgd.k _ (List.mem_of_getElem? hlj)
        dsimp only at hke
        have hS := prs_out hS hlj
        obtain ⟨he, h1, bw, bm, be, hS⟩ := RCod.opn (hS.fd (RCod c))
        obtain ⟨N, ho, hr, hS⟩ := RT.opn (hS.fd (RT be bm e.p))
        dsimp only at hS
        repeat' (first | (refine pc_lzenc_Encoder_Size (LSize_ok (hS.fd (LEnc b)) (by omega) ?_); clear hS; intro w hS) | (refine pc_pithref07_Encoder_Size (RSize_ok (hS.fd (REnc be)) (by omega) ?_); clear hS; intro w hS) | refine And.intro ?_ ?_ | exact trivial | exact run_l hS rfl | (refine pA_neq_s ?_ ?_ <;> intro hc <;> try (exfalso; first | omega | exact hc rfl | exact hc (by assumption) | exact absurd hc (by assumption))) | refine pIf_f ?_ | refine pL_l hS (by first | rfl | assumption) ?_ | (refine pDr_go hS ?_; clear hS; intro w hS) | refine pA_v (hk := ?_) | fail)
        have hS := RT.shut (p := e.p) (z := ⟨e.s, e.T⟩) (hS.fd2 (REnc be) (NSets RSet Z.fresh bm)) ho hr
        have hS := RCod.shut (e := e) (c := c) (bw := bw) (bm := bm) (be := be) (hS.fd3 (cel c) (RWin bw) (RT be bm e.p)) he h1
        have hS : Sat W w (LEnc b e :: RCod c e :: prsBut l j :: [rows cd_p_lzenc_Encoder s1 (l.map pE), rows cd_p_pithref14_Coder s2 (l.map pR), old W]) := hS.to
        have hS := prs_into hS hlj
        rw [set_same hlj] at hS
        exact ⟨l, s1, s2, rfl, rfl, hgd, hS⟩
      have hg : ∀ {e' : Z.EZ} {w : World}, e'.s.k ≤ 26 * (i + 1) → e'.x.all.length ≤ 1048849 * (i + 1) → Sat W w [LEnc b e', RCod c e', prsBut l j, rows cd_p_lzenc_Encoder s1 (l.map pE), rows cd_p_pithref14_Coder s2 (l.map pR), old W] → Aft W i j b c (.slice s1.a l.length s1.c) (.slice s2.a l.length s2.c) w := fun h1 h2 h3 => Aft.of hgd hlj h1 h2 h3
      by_cases hk0 : kd = 0
      · have hp1 := Z.EZ.put_len (e := e) y
        have hp2 : (e.put y).s.k ≤ e.s.k + 26 := (he.put y).2
        repeat' (first | refine pc_pithlaw14_num (num14_ok _ (by omega) ?_) | (refine pc_lzenc_Encoder_Put (LPut_ok (y := y) hG (hS.fd (LEnc b)) (by omega) (by omega) ?_); clear hS; intro w hS) | (refine pc_pithref14_Coder_Put (R14Put_ok (y := y) (hS.fd (RCod c)) (by omega) (by omega) ?_); clear hS; intro w hS) | refine And.intro ?_ ?_ | exact trivial | exact run_la_at hS [.int .i64 y.Kind, bv y.Byte, .int .i64 y.Len, .int .i64 y.Dist] rfl rfl | refine pL_la_at (n := 4) hS [.int .i64 y.Kind, bv y.Byte, .int .i64 y.Len, .int .i64 y.Dist] rfl rfl ?_ | ((first | refine pN_eql_s ?_ ?_ | refine pA_neq_s ?_ ?_) <;> intro hc <;> try (exfalso; first | omega | exact hc rfl | exact hc (by assumption) | exact absurd hc (by assumption))) | refine pIf_t ?_ | refine pIf_f ?_ | refine pN_l hS (by first | rfl | assumption) ?_ | (refine pDr_go hS ?_; clear hS; intro w hS) | refine pN_v (hk := ?_) | refine pA_v (hk := ?_) | fail)
        exact hg (e' := e.put y) (by omega) (by omega) hS.to
      by_cases hk1 : kd = 1
      · generalize hC : e.cost y = C at *
        repeat' (first | refine pc_pithlaw14_num (num14_ok _ (by omega) ?_) | (refine pc_lzenc_Encoder_Cost (LCost_ok (y := y) hG (hS.fd (LEnc b)) (by omega) ?_); clear hS; intro w hS) | (refine pc_pithref14_Coder_Cost (R14Cost_ok (y := y) (hS.fd (RCod c)) (by omega) ?_); clear hS; intro w hS) | refine pN_la_at (n := 4) hS [.int .i64 y.Kind, bv y.Byte, .int .i64 y.Len, .int .i64 y.Dist] rfl rfl ?_ | ((first | refine pN_eql_s ?_ ?_ | refine pN_neq_s ?_ ?_) <;> intro hc <;> try (exfalso; first | omega | exact hc rfl | exact hc (by assumption) | exact absurd hc (by assumption))) | refine pIf_t ?_ | refine pIf_f ?_ | refine pGd_go (by rfl) ?_ | refine pN_l hS (by first | rfl | assumption) ?_ | refine pN_v (hk := ?_) | fail)
        exact hg (e' := e) (by omega) (by omega) hS.to
      by_cases hk2 : kd = 2
      · have hcx : e.cut.s.k = 0 ∧ e.cut.x = e.x := ⟨rfl, rfl⟩
        repeat' (first | (refine pc_lzenc_Encoder_Cut (LCut_ok (hS.fd (LEnc b)) (by omega) ?_); clear hS; intro sc w hS) | (refine pc_pithref14_Coder_Cut (R14Cut_ok (hS.fd (RCod c)) (by omega) ?_); clear hS; intro sd w hS) | refine And.intro ?_ ?_ | exact trivial | exact run_st hS rfl | ((first | refine pN_eql_s ?_ ?_ | refine pA_neq_ss ?_ ?_) <;> intro hc <;> try (exfalso; first | omega | exact hc rfl | exact hc (by assumption) | exact absurd hc (by assumption))) | refine pIf_t ?_ | refine pIf_f ?_ | refine pN_l hS (by first | rfl | assumption) ?_ | (refine pDr_go hS ?_; clear hS; intro w hS) | refine pL_st hS (by first | rfl | omega | simpa only [go_sem] using True.intro | (simp only [go_sem]; omega)) ?_ | refine pN_v (hk := ?_) | fail)
        exact hg (e' := e.cut) (by omega) (by rw [hcx.2]; omega) hS.to
      by_cases hk3 : kd = 3
      · have hdl : raw.length ≤ 1048576 := by omega
        repeat' (first | (refine pc_pithlaw14_room (room14_ok (l := raw) hS hdl ?_); clear hS; intro sm w hS) | (refine pN_eql_s ?_ ?_ <;> intro hc <;> try (exfalso; first | omega | exact hc rfl | exact hc (by assumption) | exact absurd hc (by assumption))) | refine pIf_t ?_ | refine pIf_f ?_ | refine pN_l hS (by first | rfl | assumption) ?_ | refine pN_v (hk := ?_) | fail)
        refine pN_slh hS raw.length rfl rfl (by simp) fun s4 hp4 => ?_
        have hr4 : ∀ (L : List HA) [Rds cd_uint8 L sm (raw ++ [109])], Rds cd_uint8 L s4 raw := fun L h => by
          have := hp4.rd L h
          rwa [List.take_left' rfl] at this
        repeat' (first | (refine pc_lzenc_Encoder_Raw (LRaw_ok (l := raw) (hS.fd (LEnc b)) (by omega) ?_); clear hS; intro w hS) | (refine pc_pithref14_Coder_Raw (R14Raw_ok (l := raw) (hS.fd (RCod c)) (by omega) ?_); clear hS; intro w hS) | (refine pc_pithlaw14_room (room14_ok (l := raw) hS hdl ?_); clear hS; intro sm2 w hS) | exact run_st hS rfl | refine And.intro ?_ ?_ | exact trivial | (refine pA_neq_ss ?_ ?_ <;> intro hc <;> try (exfalso; first | omega | exact hc rfl | exact hc (by assumption) | exact absurd hc (by assumption))) | refine pIf_f ?_ | refine pN_l hS (by first | rfl | assumption) ?_ | refine pL_l hS (by first | rfl | assumption) ?_ | (refine pDr_go hS ?_; clear hS; intro w hS) | refine pL_st hS (by first | rfl | omega | simpa only [go_sem] using True.intro | (simp only [go_sem]; omega)) ?_ | refine pN_v (hk := ?_) | refine pA_v (hk := ?_) | fail)
        have hml : (raw ++ [(109 : UInt8)]).length = raw.length + 1 := by simp
        have hxr : (e.raw raw).s = e.s ∧ (e.raw raw).x.all = e.x.all ++ raw := ⟨rfl, rfl⟩
        refine ⟨fun v w => ∃ (q : Nat) (m : List UInt8), v = .int .i64 q ∧ q ≤ raw.length + 1 ∧ m.length = raw.length + 1 ∧ Sat W w [rows cd_uint8 sm m, LEnc b (e.raw raw), RCod c (e.raw raw), prsBut l j, rows cd_p_lzenc_Encoder s1 (l.map pE), rows cd_p_pithref14_Coder s2 (l.map pR), old W], fun v _ => raw.length + 1 - (RowKit.intOf v).toNat, ⟨0, _, rfl, Nat.zero_le _, hml, hS.to⟩, ?_⟩
        rw [hml]
        clear hS
        rintro _ _ w ⟨q, m, rfl, hq, hm, hS⟩
        rw [← hm]
        by_cases hqlt : q < raw.length + 1
        · repeat' (first | (refine pN_lss_s ?_ ?_ <;> intro hc <;> try (exfalso; omega)) | refine pIf_t ?_ | refine pN_ix hS _ (by first | rfl | (exact (Int.toNat_of_nonneg (by omega)).symm)) (by first | rfl | omega | simpa only [go_sem] using True.intro | (simp only [go_sem]; omega)) (by first | omega | (simp only [go_sem]; omega)) fun a x hx ha hel => ?_ | (refine pN_sr hel hS (by rfl) (by rfl) (by first | omega | (simp only [go_sem]; omega)) ?_; clear hS; intro w hS) | refine pN_v (hk := ?_) | fail)
          exact ⟨⟨q + 1, m.set q 46, rfl, by omega, by rw [List.length_set], hS.to⟩, by simp [RowKit.intOf]; omega⟩
        · repeat' (first | (refine pN_lss_s ?_ ?_ <;> intro hc <;> try (exfalso; omega)) | refine pIf_f ?_ | fail)
          exact hg (e' := e.raw raw) (by rw [hxr.1]; omega) (by rw [hxr.2, List.length_append]; omega) hS.to
      by_cases hk4 : kd = 4
      · by_cases hp2 : (⟨lc2, lp2, pb2⟩ : Z.Pr).Ok
        · have hrx : (e.reset ⟨lc2, lp2, pb2⟩).s = e.s ∧ (e.reset ⟨lc2, lp2, pb2⟩).x = e.x := by rw [Z.EZ.reset, if_pos hp2]; exact ⟨rfl, rfl⟩
          repeat' (first | refine pc_pithlaw14_num (num14_ok _ (by omega) ?_) | (refine pc_lzenc_Encoder_Reset (LReset_in (p := ⟨lc2, lp2, pb2⟩) hp2 (hS.fd (LEnc b)) ?_); clear hS; intro w hS) | (refine pc_pithref14_Coder_Reset (R14Reset_in (p := ⟨lc2, lp2, pb2⟩) hp2 (hS.fd (RCod c)) ?_); clear hS; intro w hS) | refine And.intro ?_ ?_ | exact trivial | exact run_la_at hS [.int .i64 lc2, .int .i64 lp2, .int .i64 pb2] rfl rfl | refine pL_la_at (n := 3) hS [.int .i64 lc2, .int .i64 lp2, .int .i64 pb2] rfl rfl ?_ | ((first | refine pN_eql_s ?_ ?_ | refine pA_neq_s ?_ ?_) <;> intro hc <;> try (exfalso; first | omega | exact hc rfl | exact hc (by assumption) | exact absurd hc (by assumption))) | refine pIf_t ?_ | refine pIf_f ?_ | refine pN_l hS (by first | rfl | assumption) ?_ | (refine pDr_go hS ?_; clear hS; intro w hS) | refine pN_v (hk := ?_) | refine pA_v (hk := ?_) | fail)
          exact hg (e' := e.reset ⟨lc2, lp2, pb2⟩) (by rw [hrx.1]; omega) (by rw [hrx.2]; omega) hS.to
        · repeat' (first | refine pc_pithlaw14_num (num14_ok _ (by omega) ?_) | (refine pc_lzenc_Encoder_Reset (LReset_no (p := ⟨lc2, lp2, pb2⟩) hp2 hlc2 (hS.fd (LEnc b)) ?_); clear hS; intro w hS) | (refine pc_pithref14_Coder_Reset (R14Reset_no (p := ⟨lc2, lp2, pb2⟩) hp2 hlc2 (hS.fd (RCod c)) ?_); clear hS; intro w hS) | refine And.intro ?_ ?_ | exact trivial | exact run_la_at hS [.int .i64 lc2, .int .i64 lp2, .int .i64 pb2] rfl rfl | refine pL_la_at (n := 3) hS [.int .i64 lc2, .int .i64 lp2, .int .i64 pb2] rfl rfl ?_ | ((first | refine pN_eql_s ?_ ?_ | refine pA_neq_s ?_ ?_) <;> intro hc <;> try (exfalso; first | omega | exact hc rfl | exact hc (by assumption) | exact absurd hc (by assumption))) | refine pIf_t ?_ | refine pIf_f ?_ | refine pN_l hS (by first | rfl | assumption) ?_ | (refine pDr_go hS ?_; clear hS; intro w hS) | refine pN_v (hk := ?_) | refine pA_v (hk := ?_) | fail)
          exact hg (e' := e) (by omega) (by omega) hS.to
      by_cases hk5 : kd = 5
      · have hcx : e.clear.s = e.s ∧ e.clear.x.all = [] := ⟨rfl, rfl⟩
        repeat' (first | (refine pc_lzenc_Encoder_Clear (LClear_ok (hS.fd (LEnc b)) ?_); clear hS; intro w hS) | (refine pc_pithref14_Coder_Clear (R14Clear_ok (hS.fd (RCod c)) ?_); clear hS; intro w hS) | (refine pN_eql_s ?_ ?_ <;> intro hc <;> try (exfalso; first | omega | exact hc rfl | exact hc (by assumption) | exact absurd hc (by assumption))) | refine pIf_t ?_ | refine pIf_f ?_ | refine pN_l hS (by first | rfl | assumption) ?_ | refine pN_v (hk := ?_) | fail)
        exact hg (e' := e.clear) (by rw [hcx.1]; omega) (by rw [hcx.2]; simp) hS.to
      by_cases hk6 : kd = 6
      · by_cases hl4 : l.length < 4
        · repeat' (first | (refine pN_app (C := cd_p_lzenc_Encoder) hS hlE.symm rfl (by simp only [List.length_cons, List.length_nil]; omega) ?_; clear hS; intro se3 w hS) | (refine pN_app (C := cd_p_pithref14_Coder) hS hlR.symm rfl (by simp only [List.length_cons, List.length_nil]; omega) ?_; clear hS; intro sr3 w hS) | (refine pc_lzenc_Encoder_Fork (LFork_ok (hS.fd (LEnc b)) (by omega) ?_); clear hS; intro b2 w hS) | (refine pc_pithref14_Coder_Fork (R14Fork_ok (hS.fd (RCod c)) (by omega) (by omega) ?_); clear hS; intro c2 w hS) | (refine pN_b1 (x := (some ⟨b2, 0, none⟩ : Option Addr)) hS rfl (by decide) ?_; clear hS; intro se2 w hS) | (refine pN_b1 (x := (some ⟨c2, 0, none⟩ : Option Addr)) hS rfl (by decide) ?_; clear hS; intro sr2 w hS) | (refine pN_lss_s ?_ ?_ <;> intro hc <;> try (exfalso; omega)) | (refine pN_eql_s ?_ ?_ <;> intro hc <;> try (exfalso; first | omega | exact hc rfl | exact hc (by assumption) | exact absurd hc (by assumption))) | refine pIf_t ?_ | refine pIf_f ?_ | refine pN_l hS (by first | rfl | assumption) ?_ | refine pN_v (hk := ?_) | fail)
          have hS : Sat W w (LEnc b e :: RCod c e :: prsBut l j :: [LEnc b2 e, RCod c2 e, rows cd_p_lzenc_Encoder se3 (l.map pE ++ [some ⟨b2, 0, none⟩]), rows cd_p_pithref14_Coder sr3 (l.map pR ++ [some ⟨c2, 0, none⟩]), old W]) := hS.to
          have hS := prs_into hS hlj
          rw [set_same hlj] at hS
          have hS : Sat W w (LEnc b2 e :: RCod c2 e :: prs l :: [rows cd_p_lzenc_Encoder se3 (l.map pE ++ [some ⟨b2, 0, none⟩]), rows cd_p_pithref14_Coder sr3 (l.map pR ++ [some ⟨c2, 0, none⟩]), old W]) := hS.to
          have hS := prs_snoc hS
          have e1 : l.map pE ++ [some ⟨b2, 0, none⟩] = (l ++ [((b2, c2), e)]).map pE := by rw [List.map_append]; rfl
          have e2 : l.map pR ++ [some ⟨c2, 0, none⟩] = (l ++ [((b2, c2), e)]).map pR := by rw [List.map_append]; rfl
          rw [e1, e2] at hS
          rw [e1, e2]
          refine ⟨l ++ [((b2, c2), e)], e, se3, sr3, by rw [List.length_map], by rw [List.length_map], hgd.snoc hl4 hke hxe, ?_, hS⟩
          rw [List.getElem?_append_left hjl, hlj]
        · repeat' (first | (refine pN_lss_s ?_ ?_ <;> intro hc <;> try (exfalso; omega)) | (refine pN_eql_s ?_ ?_ <;> intro hc <;> try (exfalso; first | omega | exact hc rfl | exact hc (by assumption) | exact absurd hc (by assumption))) | refine pIf_t ?_ | refine pIf_f ?_ | refine pN_l hS (by first | rfl | assumption) ?_ | refine pN_v (hk := ?_) | fail)
          exact hg (e' := e) (by omega) (by omega) hS.to
      · repeat' (first | (refine pN_eql_s ?_ ?_ <;> intro hc <;> try (exfalso; first | omega | exact hc rfl | exact hc (by assumption) | exact absurd hc (by assumption))) | refine pIf_f ?_ | refine pN_l hS (by first | rfl | assumption) ?_ | refine pN_v (hk := ?_) | fail)
        exact hg (e' := e) (by omega) (by omega) hS.to
    · obtain rfl : i = x1.2.length := by omega
      repeat' (first | (refine pN_lss_s ?_ ?_ <;> intro hc <;> try (exfalso; omega)) | refine pIf_f ?_ | refine pN_v (hk := ?_) | fail)
      refine ⟨fun v w => ∃ (q : Nat) (l2 : List Tw), v = .int .i64 q ∧ q ≤ l.length ∧ l2.length = l.length ∧ l2.map pE = l.map pE ∧ l2.map pR = l.map pR ∧ (∀ t ∈ l2, t.2.s.k ≤ 26 * x1.2.length) ∧ Sat W w [prs l2, rows cd_p_lzenc_Encoder s1 (l.map pE), rows cd_p_pithref14_Coder s2 (l.map pR), old W], fun v _ => l.length - (RowKit.intOf v).toNat, ⟨0, l, rfl, Nat.zero_le _, rfl, rfl, rfl, hgd.k, hS⟩, ?_⟩
      clear hS
      rintro _ _ w ⟨q, l2, rfl, hq, hll, hmE, hmR, hks, hS⟩
      by_cases hqlt : q < l.length
      · obtain ⟨⟨⟨b, c⟩, e⟩, hlj⟩ : ∃ t, l2[q]? = some t := ⟨_, List.getElem?_eq_getElem (by omega)⟩
        have hpe : (l.map pE)[q]? = some (some ⟨b, 0, none⟩) := by rw [← hmE, List.getElem?_map, hlj]; rfl
        have hpr : (l.map pR)[q]? = some (some ⟨c, 0, none⟩) := by rw [← hmR, List.getElem?_map, hlj]; rfl
        have hke := hks _ (List.mem_of_getElem? hlj)
        dsimp only at hke
        have hS := prs_out hS hlj
        have hck : e.cut.s.k = 0 := rfl
        have hb : e.s.bytes.length = e.s.k + 5 := bytes_len _
        repeat' (first | (refine pc_lzenc_Encoder_Cut (LCut_ok (hS.fd (LEnc b)) (by omega) ?_); clear hS; intro sc w hS) | (refine pc_pithref14_Coder_Cut (R14Cut_ok (hS.fd (RCod c)) (by omega) ?_); clear hS; intro sd w hS) | (refine pc_lzenc_Encoder_Size (LSize_ok (hS.fd (LEnc b)) (by omega) ?_); clear hS; intro w hS) | refine And.intro ?_ ?_ | exact trivial | exact run_st hS rfl | exact run_ld1 (by assumption) hS | (refine pN_lss_s ?_ ?_ <;> intro hc <;> try (exfalso; omega)) | ((first | refine pA_neq_s ?_ ?_ | refine pA_neq_ss ?_ ?_) <;> intro hc <;> try (exfalso; first | omega | exact hc rfl | exact hc (by assumption) | exact absurd hc (by assumption))) | refine pIf_t ?_ | refine pIf_f ?_ | refine gA_go (by rfl) ?_ | refine pGd_go (by rfl) ?_ | refine pL_ld1 ha hS ?_ | (refine pDr_go hS ?_; clear hS; intro w hS) | refine pA_ixk hS _ (by first | rfl | (exact (Int.toNat_of_nonneg (by omega)).symm)) (by first | rfl | omega | simpa only [go_sem] using True.intro | (simp only [go_sem]; omega)) (by assumption) fun a ha hel => ?_ | refine pL_st hS (by first | rfl | omega | simpa only [go_sem] using True.intro | (simp only [go_sem]; omega)) ?_ | refine pN_v (hk := ?_) | refine pA_v (hk := ?_) | fail)
        · have hS : Sat W w (LEnc b e.cut :: RCod c e.cut :: prsBut l2 q :: [rows cd_p_lzenc_Encoder s1 (l.map pE), rows cd_p_pithref14_Coder s2 (l.map pR), old W]) := hS.to
          have hS := prs_into hS hlj
          have e1 := map_set_same pE hlj (y := ((b, c), e.cut)) rfl
          have e2 := map_set_same pR hlj (y := ((b, c), e.cut)) rfl
          refine ⟨q + 1, l2.set q ((b, c), e.cut), rfl, hqlt, by rw [List.length_set, hll], e1.trans hmE, e2.trans hmR, fun u hu => ?_, hS⟩
          rcases List.mem_or_eq_of_mem_set hu with hu | rfl
          · exact hks u hu
          · simp only; omega
        · dsimp only [RowKit.intOf]; omega
      · repeat' (first | (refine pc_pithlaw14_known (known14_ok hG hS ?_); clear hS; intro w hS) | (refine pN_lss_s ?_ ?_ <;> intro hc <;> try (exfalso; omega)) | refine pIf_f ?_ | fail)
        exact ⟨rfl, hS.to⟩
  · repeat' (first | refine pN_la_at (n := 3) hS [.int .i64 lc, .int .i64 lp, .int .i64 pb] rfl rfl ?_ | (refine pc_lzenc_New (LNew_no (p := ⟨lc, lp, pb⟩) hS dict hlc hok ?_); clear hS; intro w hS) | (refine pc_pithref14_New (R14New_no (p := ⟨lc, lp, pb⟩) hS dict hlc hok ?_); clear hS; intro w hS) | refine pc_pithlaw14_num (num14_ok _ (by split <;> omega) ?_) | (refine pc_pithlaw14_known (known14_ok hG hS ?_); clear hS; intro w hS) | (refine pN_neq_s ?_ ?_ <;> intro hc <;> try (exfalso; first | omega | exact hc rfl | exact hc (by assumption) | exact absurd hc (by assumption))) | refine pIf_t ?_ | refine pIf_f ?_ | refine pGd_go (by rfl) ?_ | refine pN_l hS (by first | rfl | assumption) ?_ | refine pN_v (hk := ?_) | fail)
    all_goals exact ⟨rfl, hS.to⟩
end Go.Proofs.YtbgnnjfpiblkmaaGreatDoor
