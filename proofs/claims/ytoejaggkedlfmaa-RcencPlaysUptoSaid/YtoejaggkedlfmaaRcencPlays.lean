/-
  The statement RcencPlays, walked.
-/
import Derived.Test.YtoejaggkedlfmaaRcBook
import Derived.Test.YtoejaggkedlfmaaRcSets
import Derived.Test.YtoejaggkedlfmaaTPure
namespace Go.Proofs.Ytoejaggkedlfmaa
open Go
set_option linter.unusedSimpArgs false
set_option linter.unnecessarySimpa false
set_option linter.unusedVariables false
attribute [local irreducible] oMv oV oU oCall oCallV oBi oBin oUn oLoad oStore oNil oFld oField oIdx oIndex oPick oAlloc oBox oBuild oBs oConv oMk oSl oExt oFn oIface oMap oLook oMapUp oRange oNext oAssert oPanic oRes pN pA pL pDr pIf gA pGd

/-- An encoder on both sides. -/
def encH (x : (Nat × Nat) × R.S) : HA := fun h => Sats [Enc x.1.1 x.2, REnc x.1.2 x.2] h
def encs (_ : Unit) (es : List ((Nat × Nat) × R.S)) : HA := bag (es.map encH)
def prT (x : (Nat × Nat) × R.S) : T_pithlaw07_Pair := ⟨some ⟨x.1.1, 0, none⟩, some ⟨x.1.2, 0, none⟩⟩

/-- What is known of all parts behind i calls. -/
structure PGood (i : Nat) (es : List ((Nat × Nat) × R.S)) (hs : List Hd) (l0 l1 : List Int) : Prop where
  pos : 0 < es.length
  few : es.length ≤ 5
  ok : ∀ x ∈ es, R.Ok x.2 ∧ x.2.k ≤ 32 * i
  book : hs.length ≤ 2 * i
  held : ∀ h ∈ hs, h.Held
  f0 : B.Fine l0
  f1 : B.Fine l1
  n0 : l0.length ≤ 40
  n1 : l1.length ≤ 40

section
variable {E w : World} {M : List HA} {Q : Value → World → Prop} {es : List ((Nat × Nat) × R.S)} {hs : List Hd} {l0 l1 : List Int} {i : Nat}

theorem encs.out {k e r : Nat} {st : R.S} (hS : Sat E w (encs () es :: M)) (hk : es[k]? = some ((e, r), st)) : Sat E w (Enc e st :: REnc r st :: bag ((es.map encH).eraseIdx k) :: M) := by
  have h := Sat.out hS k (A := encH ((e, r), st)) (by rw [List.getElem?_map, hk]; rfl)
  exact h.open_ (M := [_, _]) fun _ h => h
theorem encs.into {k e r : Nat} {st : R.S} (st' : R.S) (hS : Sat E w (Enc e st' :: REnc r st' :: bag ((es.map encH).eraseIdx k) :: M)) (hk : es[k]? = some ((e, r), st)) : Sat E w (encs () (es.set k ((e, r), st')) :: M) := by
  have h1 : Sat E w (encH ((e, r), st') :: bag ((es.map encH).eraseIdx k) :: M) := Sat.shut (M := [_, _]) hS fun _ h => h
  have h2 := Sat.into (A := encH ((e, r), st)) h1 (by rw [List.getElem?_map, hk]; rfl)
  rw [← List.map_set] at h2
  exact h2
theorem encs.back {k e r : Nat} {st : R.S} (hS : Sat E w (Enc e st :: REnc r st :: bag ((es.map encH).eraseIdx k) :: M)) (hk : es[k]? = some ((e, r), st)) : Sat E w (encs () es :: M) := by
  have h1 := encs.into st hS hk
  have e := map_same (fun h : (Nat × Nat) × R.S => h) es k _ _ hk rfl
  simp only [List.map_id'] at e
  rwa [e] at h1
theorem encs.snoc {e r : Nat} {st : R.S} (hS : Sat E w (Enc e st :: REnc r st :: encs () es :: M)) : Sat E w (encs () (es ++ [((e, r), st)]) :: M) := by
  have h1 : Sat E w (encH ((e, r), st) :: bag (es.map encH) :: M) := Sat.shut (M := [_, _]) hS fun _ h => h
  have h2 := Sat.bag_snoc h1
  unfold encs
  rw [List.map_append]
  exact h2
theorem parts.snoc (h : Hd) (hS : Sat E w (h.part :: parts () hs :: M)) : Sat E w (parts () (hs ++ [h]) :: M) := by
  have h2 := Sat.bag_snoc (M := hs.map Hd.part) hS
  unfold parts
  rw [List.map_append]
  exact h2
theorem prT_get {k e r : Nat} {st : R.S} (hk : es[k]? = some ((e, r), st)) : (es.map prT)[k]? = some ⟨some ⟨e, 0, none⟩, some ⟨r, 0, none⟩⟩ := by rw [List.getElem?_map, hk]; rfl
theorem prT_set {k e r : Nat} {st : R.S} (hk : es[k]? = some ((e, r), st)) (st' : R.S) : (es.set k ((e, r), st')).map prT = es.map prT := map_same prT es k _ _ hk rfl

theorem PGood.more (h : PGood i es hs l0 l1) : PGood (i + 1) es hs l0 l1 := { h with ok := fun x hx => ⟨(h.ok x hx).1, by have := (h.ok x hx).2; omega⟩, book := by have := h.book; omega }
theorem PGood.set (h : PGood i es hs l0 l1) (k : Nat) {p : Nat × Nat} {st st' : R.S} (hk : es[k]? = some (p, st)) (ho : R.Ok st') (hk' : st'.k ≤ st.k + 32) : PGood (i + 1) (es.set k (p, st')) hs l0 l1 := by
  have h0 := (h.ok _ (List.mem_of_getElem? hk)).2
  dsimp only at h0
  refine { h.more with pos := by rw [List.length_set]; exact h.pos, few := by rw [List.length_set]; exact h.few, ok := fun x hx => ?_ }
  rcases List.mem_or_eq_of_mem_set hx with hx | rfl
  · exact h.more.ok x hx
  · exact ⟨ho, by dsimp only; omega⟩
theorem PGood.snoc (h : PGood i es hs l0 l1) (p : Nat × Nat) {st : R.S} (ho : R.Ok st) (hk : st.k ≤ 32 * i) (h5 : es.length < 5) : PGood (i + 1) (es ++ [(p, st)]) hs l0 l1 := by
  refine { h.more with pos := by simp, few := by simp; omega, ok := fun x hx => ?_ }
  rcases List.mem_append.1 hx with hx | hx
  · exact h.more.ok x hx
  · rw [List.mem_singleton.1 hx]; exact ⟨ho, by dsimp only; omega⟩
theorem PGood.book2 (h : PGood i es hs l0 l1) {g g' : Hd} (hg : g.Held) (hg' : g'.Held) : PGood (i + 1) es (hs ++ [g] ++ [g']) l0 l1 := by
  refine { h.more with book := by have := h.book; simp; omega, held := fun x hx => ?_ }
  rcases List.mem_append.1 hx with hx | hx
  · rcases List.mem_append.1 hx with hx | hx
    · exact h.held x hx
    · rw [List.mem_singleton.1 hx]; exact hg
  · rw [List.mem_singleton.1 hx]; exact hg'
end

def PInv (W : World) (ax p0 p1 r0 r1 i : Nat) (l9 lists : Value) (w : World) : Prop := ∃ (es : List ((Nat × Nat) × R.S)) (sl : Sl) (hs : List Hd) (sh : Sl) (l0 l1 : List Int), l9 = .slice sl.a es.length sl.c ∧ lists = .slice sh.a hs.length sh.c ∧ PGood i es hs l0 l1 ∧
  Sat W w [cel ax ⟨54, [.pointer (some ⟨p0, 0, none⟩), .pointer (some ⟨p1, 0, none⟩), .pointer (some ⟨r0, 0, none⟩), .pointer (some ⟨r1, 0, none⟩)]⟩, SetsH ⟨p0, p1, r0, r1⟩ (l0, l1), rows cd_pithlaw07_Pair sl (es.map prT), encs () es, rows cd_pithlaw07_Held sh (hs.map Hd.t), parts () hs, old W]

theorem R.direct_le (v : Int) : ∀ (n : Nat) {s : R.S}, R.Ok s → (s.direct v n).k ≤ s.k + n
  | 0, _, _ => Nat.le_refl _
  | n + 1, s, h => by
    have i1 := R.direct_le v n (h.one (v / 2 ^ n % 2))
    have := R.one_k h (v / 2 ^ n % 2)
    rw [R.S.direct]
    omega
theorem pinv_enc {W w : World} {ax p0 p1 r0 r1 i k e r : Nat} {es : List ((Nat × Nat) × R.S)} {hs : List Hd} {sl sh : Sl} {m0 m1 : List Int} {st st' : R.S}
    (hS : Sat W w [cel ax ⟨54, [.pointer (some ⟨p0, 0, none⟩), .pointer (some ⟨p1, 0, none⟩), .pointer (some ⟨r0, 0, none⟩), .pointer (some ⟨r1, 0, none⟩)]⟩, PSet p0 m0, RSet r0 m0, PSet p1 m1, RSet r1 m1, Enc e st', REnc r st', bag ((es.map encH).eraseIdx k), rows cd_pithlaw07_Pair sl (es.map prT), rows cd_pithlaw07_Held sh (hs.map Hd.t), parts () hs, old W])
    (hk : es[k]? = some ((e, r), st)) (hg : PGood i (es.set k ((e, r), st')) hs m0 m1) : PInv W ax p0 p1 r0 r1 i (.slice sl.a es.length sl.c) (.slice sh.a hs.length sh.c) w := by
  have hS : Sat W w [PSet p0 m0, RSet r0 m0, PSet p1 m1, RSet r1 m1, cel ax ⟨54, [.pointer (some ⟨p0, 0, none⟩), .pointer (some ⟨p1, 0, none⟩), .pointer (some ⟨r0, 0, none⟩), .pointer (some ⟨r1, 0, none⟩)]⟩, Enc e st', REnc r st', bag ((es.map encH).eraseIdx k), rows cd_pithlaw07_Pair sl (es.map prT), rows cd_pithlaw07_Held sh (hs.map Hd.t), parts () hs, old W] := hS.to
  have hS := SetsH.shut (t := ⟨p0, p1, r0, r1⟩) hS
  have hS : Sat W w [Enc e st', REnc r st', bag ((es.map encH).eraseIdx k), cel ax ⟨54, [.pointer (some ⟨p0, 0, none⟩), .pointer (some ⟨p1, 0, none⟩), .pointer (some ⟨r0, 0, none⟩), .pointer (some ⟨r1, 0, none⟩)]⟩, SetsH ⟨p0, p1, r0, r1⟩ (m0, m1), rows cd_pithlaw07_Pair sl (es.map prT), rows cd_pithlaw07_Held sh (hs.map Hd.t), parts () hs, old W] := hS.to
  have hS := encs.into st' hS hk
  refine ⟨es.set k ((e, r), st'), sl, hs, sh, m0, m1, by rw [List.length_set], rfl, hg, ?_⟩
  rw [prT_set hk st']
  exact hS.to

theorem tmod_lt (z : Int) {n : Int} (h : 0 < n) : -n < z.tmod n ∧ z.tmod n < n := by
  refine ⟨?_, Int.tmod_lt_of_pos z h⟩
  have h1 := Int.tmod_lt_of_pos (-z) h
  rw [Int.neg_tmod] at h1
  omega

set_option maxHeartbeats 8000000 in
theorem walk_RcencPlays (W : World) (x0 x1 : Int) (x2 : Sl × List T_pithlaw07_Op) (k0 k1 k2 : Nat) (h0 : -9223372036854775808 ≤ x0 ∧ x0 < 9223372036854775808) (h1 : -9223372036854775808 ≤ x1 ∧ x1 < 9223372036854775808)
    (h2 : RdP cd_pithlaw07_Op (old W) x2.1 x2.2 ∧ x2.2.length * 56 ≤ reachBytes ∧ x2.2.length + 1 ≤ k2 ∧ ∀ c ∈ x2.2, ∃ k, k ≤ k2 ∧ c.ok W k) (q0 : k0 ≤ 1048576) (q1 : k1 ≤ 1048576) (q2 : k2 ≤ 1048576) :
    Calls Try.prog 6 #[.int .i64 x0, .int .i64 x1, .slice x2.1.a x2.2.length x2.1.c] W fun e W' => e = .returned (.bool true) ∧ RowKit.Below W.heap.size W W' := by
  refine walk_end (pithlaw07_RcencPlays.calls ?_)
  unfold pithlaw07_RcencPlays.F
  obtain ⟨r2, _, hk2, o2⟩ := h2
  have hS := Sat.start W
  refine pc_pithlaw07_sets (sets_ok hS x0 x1 fun t m0 m1 w hm0 hm1 hS => ?_)
  unfold Two.cells
  repeat' (first | (refine pN_b1 (x := (⟨_, _⟩ : T_pithlaw07_Pair)) hS (by rfl) (by decide) ?_; clear hS; intro s w hS) | (refine pc_rcenc_New (NewE_ok hS ?_); clear hS; intro e w hS) | (refine pc_pithref07_New (RNewE_ok hS ?_); clear hS; intro r w hS) | refine pGd_go (by rfl) ?_ | refine pN_ld1 ha hS ?_ | refine pN_fa ha (by rfl) fun a ha => ?_ | (refine pN_sa hS (by rfl) (by rfl) (by rfl) ?_; clear hS; intro w hS; try dsimp only at hS) | (refine pN_nz hS ?_; clear hS; intro a w hS) | refine pN_ix hS _ (by first | rfl | (exact (Int.toNat_of_nonneg (by omega)).symm)) (by first | rfl | omega | simpa only [go_sem] using True.intro | (simp only [go_sem]; omega)) (by first | omega | (simp only [go_sem]; omega)) fun a x hx ha hel => ?_ | refine pN_via (by (intro K; simp (disch := omega) only [go_sem, pN_min, pN_max, w_u32, w_u64, Option.isNone_some, Option.isNone_none]; (try simp only [wrap_u32, wrap_u64]); rfl)) ?_ | fail)
  simp only [List.getElem?_cons_zero, Option.some.injEq] at hx
  subst hx
  repeat' (first | refine pIf_f ?_ | refine pN_via (by (intro K; simp (disch := omega) only [go_sem, pN_min, pN_max, w_u32, w_u64, Option.isNone_some, Option.isNone_none]; (try simp only [wrap_u32, wrap_u64]); rfl)) ?_ | fail)
  rename_i ax _ _ _ _ _ _
  obtain ⟨p0, p1, r0, r1⟩ := t
  have hS : Sat W w [cel ax ⟨54, [.pointer (some ⟨p0, 0, none⟩), .pointer (some ⟨p1, 0, none⟩), .pointer (some ⟨r0, 0, none⟩), .pointer (some ⟨r1, 0, none⟩)]⟩, SetsH ⟨p0, p1, r0, r1⟩ (List.replicate m0 1024, List.replicate m1 1024), rows cd_pithlaw07_Pair s [⟨some ⟨e, 0, none⟩, some ⟨r, 0, none⟩⟩], Enc e R.S.new, REnc r R.S.new, old W] := hS.to
  have hS : Sat W w (parts () [] :: _) := Sat.bag_nil hS
  have hS : Sat W w (encs () [] :: _) := Sat.bag_nil hS
  have hS : Sat W w (rows cd_pithlaw07_Held ⟨none, 0⟩ [] :: _) := hS.nil 68 5
  have hS : Sat W w [Enc e R.S.new, REnc r R.S.new, encs () [], cel ax ⟨54, [.pointer (some ⟨p0, 0, none⟩), .pointer (some ⟨p1, 0, none⟩), .pointer (some ⟨r0, 0, none⟩), .pointer (some ⟨r1, 0, none⟩)]⟩, SetsH ⟨p0, p1, r0, r1⟩ (List.replicate m0 1024, List.replicate m1 1024), rows cd_pithlaw07_Pair s [⟨some ⟨e, 0, none⟩, some ⟨r, 0, none⟩⟩], rows cd_pithlaw07_Held ⟨none, 0⟩ [], parts () [], old W] := hS.to
  have hS := encs.snoc hS
  have hinv : PInv W ax p0 p1 r0 r1 0 (.slice s.a 1 s.c) (.slice none 0 0) w := by
    refine ⟨[((e, r), R.S.new)], s, [], ⟨none, 0⟩, List.replicate m0 1024, List.replicate m1 1024, rfl, rfl, ⟨by simp, by simp, fun x hx => ?_, by simp, by simp, B.Fine.new _, B.Fine.new _, by rw [List.length_replicate]; exact hm0, by rw [List.length_replicate]; exact hm1⟩, ?_⟩
    · rw [List.mem_singleton.1 hx]
      exact ⟨R.Ok.new, Nat.le_refl _⟩
    · rw [List.nil_append] at hS
      show Sat W w [cel ax ⟨54, [.pointer (some ⟨p0, 0, none⟩), .pointer (some ⟨p1, 0, none⟩), .pointer (some ⟨r0, 0, none⟩), .pointer (some ⟨r1, 0, none⟩)]⟩, SetsH ⟨p0, p1, r0, r1⟩ (List.replicate m0 1024, List.replicate m1 1024), rows cd_pithlaw07_Pair s [⟨some ⟨e, 0, none⟩, some ⟨r, 0, none⟩⟩], encs () [((e, r), R.S.new)], rows cd_pithlaw07_Held ⟨none, 0⟩ [], parts () [], old W]
      exact hS.to
  clear hS
  refine ⟨fun l9 lists v w => ∃ i : Nat, v = .int .i64 i ∧ i ≤ x2.2.length ∧ PInv W ax p0 p1 r0 r1 i l9 lists w, fun _ _ v _ => x2.2.length - (RowKit.intOf v).toNat, ⟨0, rfl, Nat.zero_le _, hinv⟩, ?_⟩
  rintro _ _ _ _ w ⟨i, rfl, hi, es, sl, hs, sh, l0, l1, rfl, rfl, hg, hS⟩
  have hml1 : (es.map prT).length = es.length := List.length_map _
  have hml2 : (hs.map Hd.t).length = hs.length := List.length_map _
  have g1 := hg.pos
  have g2 := hg.few
  have g3 := hg.book
  by_cases hlt : i < x2.2.length
  · obtain ⟨y, hy⟩ : ∃ y, x2.2[i]? = some y := ⟨x2.2[i]'hlt, by simp⟩
    obtain ⟨_, _, ok⟩ := o2 y (List.mem_of_getElem? hy)
    obtain ⟨kind, oe, os, oi, bit, z, n⟩ := y
    have hz : 0 ≤ z ∧ z < 4294967296 := by
      simp only [T_pithlaw07_Op.ok] at ok
      omega
    clear ok
    repeat' (first | (refine pN_lss_s ?_ ?_ <;> intro hc <;> try (exfalso; omega)) | refine pIf_t ?_ | fail)
    refine ⟨fun l9 lists w => PInv W ax p0 p1 r0 r1 (i + 1) l9 lists w, ?_, ?_⟩
    rotate_left 1
    · clear hS
      rintro _ _ _ w hinv
      repeat' (first | refine pN_via (by (intro K; simp (disch := omega) only [go_sem, pN_min, pN_max, w_u32, w_u64, Option.isNone_some, Option.isNone_none]; (try simp only [wrap_u32, wrap_u64]); rfl)) ?_ | fail)
      exact ⟨⟨i + 1, rfl, by omega, hinv⟩, by simp [RowKit.intOf] <;> omega⟩
    repeat' (first | refine pN_l hS (by first | rfl | assumption) ?_ | refine pN_ld_at ha hS (by rfl) ?_ | (refine pN_sa hS (by rfl) (by rfl) (by rfl) ?_; clear hS; intro w hS; try dsimp only at hS) | (refine pN_nz hS ?_; clear hS; intro a w hS) | refine pN_ixk hS _ (by first | rfl | (exact (Int.toNat_of_nonneg (by omega)).symm)) (by first | rfl | omega | simpa only [go_sem] using True.intro | (simp only [go_sem]; omega)) (by assumption) fun a ha hel => ?_ | refine pN_via (by (intro K; simp (disch := omega) only [go_sem, pN_min, pN_max, w_u32, w_u64, Option.isNone_some, Option.isNone_none]; (try simp only [wrap_u32, wrap_u64]); rfl)) ?_ | fail)
    have hS : Sat W w [cel a ⟨64, [.int .i64 kind, .int .i64 oe, .int .i64 os, .int .i64 oi, .int .i64 bit, .int .u32 z, .int .i64 n]⟩, cel ax ⟨54, [.pointer (some ⟨p0, 0, none⟩), .pointer (some ⟨p1, 0, none⟩), .pointer (some ⟨r0, 0, none⟩), .pointer (some ⟨r1, 0, none⟩)]⟩, SetsH ⟨p0, p1, r0, r1⟩ (l0, l1), rows cd_pithlaw07_Pair sl (es.map prT), encs () es, rows cd_pithlaw07_Held sh (hs.map Hd.t), parts () hs, old W] := hS
    refine ⟨fun v w => ∃ k : Nat, v = .int .i64 k ∧ k < es.length ∧ Sat W w [cel a ⟨64, [.int .i64 kind, .int .i64 oe, .int .i64 os, .int .i64 oi, .int .i64 bit, .int .u32 z, .int .i64 n]⟩, cel ax ⟨54, [.pointer (some ⟨p0, 0, none⟩), .pointer (some ⟨p1, 0, none⟩), .pointer (some ⟨r0, 0, none⟩), .pointer (some ⟨r1, 0, none⟩)]⟩, SetsH ⟨p0, p1, r0, r1⟩ (l0, l1), rows cd_pithlaw07_Pair sl (es.map prT), encs () es, rows cd_pithlaw07_Held sh (hs.map Hd.t), parts () hs, old W], ?_, ?_⟩
    · have t1 := tmod_lt oe (n := es.length) (by omega)
      generalize oe.tmod es.length = z at t1
      repeat' (first | (refine pN_lss_s ?_ ?_ <;> intro hc <;> try (exfalso; omega)) | refine pIf_t ?_ | refine pIf_f ?_ | refine pN_via (by (intro K; simp (disch := omega) only [go_sem, pN_min, pN_max, w_u32, w_u64, Option.isNone_some, Option.isNone_none]; (try simp only [wrap_u32, wrap_u64]); rfl)) ?_ | fail)
      · exact ⟨(z + es.length).toNat, congrArg (Value.int .i64) (by omega), by omega, hS⟩
      · exact ⟨z.toNat, congrArg (Value.int .i64) (by omega), by omega, hS⟩
    clear hS
    rintro _ _ w ⟨k, rfl, hk, hS⟩
    obtain ⟨⟨⟨e, r⟩, st⟩, hek⟩ : ∃ x, es[k]? = some x := ⟨es[k]'hk, by simp [hk]⟩
    have hx := prT_get hek
    have hst := hg.ok _ (List.mem_of_getElem? hek)
    dsimp only at hst
    obtain ⟨ho, hsk⟩ := hst
    have key : kind = 1 ∨ kind = 2 ∨ kind = 3 ∨ kind = 4 ∨ kind = 5 ∨ kind = 6 ∨ ¬ (kind = 1 ∨ kind = 2 ∨ kind = 3 ∨ kind = 4 ∨ kind = 5 ∨ kind = 6) := by omega
    rcases key with hk1 | hk2 | hk3 | hk4 | hk5 | hk6 | hk7
    · have hS := encs.out (hS.fd (encs ())) hek
      have hS := SetsH.opn (hS.fd (SetsH ⟨p0, p1, r0, r1⟩))
      dsimp only at hS
      have h01 : os % 2 = 0 ∨ os % 2 = 1 := by omega
      repeat' (first | (refine pN_eql_s ?_ ?_ <;> intro hc <;> try (exfalso; first | omega | exact hc rfl | exact hc (by assumption) | exact absurd hc (by assumption))) | refine pIf_t ?_ | refine pN_l hS (by first | rfl | assumption) ?_ | refine pL_l hS (by first | rfl | assumption) ?_ | refine pN_ld_at ha hS (by rfl) ?_ | (refine pN_sa hS (by rfl) (by rfl) (by rfl) ?_; clear hS; intro w hS; try dsimp only at hS) | (refine pDr_go hS ?_; clear hS; intro w hS) | (refine pN_nz hS ?_; clear hS; intro a w hS) | refine pN_ixk hS _ (by first | rfl | (exact (Int.toNat_of_nonneg (by omega)).symm)) (by first | rfl | omega | simpa only [go_sem] using True.intro | (simp only [go_sem]; omega)) (by assumption) fun a ha hel => ?_ | refine pN_via (by (intro K; simp (disch := omega) only [go_sem, pN_min, pN_max, w_u32, w_u64, Option.isNone_some, Option.isNone_none]; (try simp only [wrap_u32, wrap_u64]); rfl)) ?_ | refine pA_via (by (intro K; simp (disch := omega) only [go_sem, pN_min, pN_max, w_u32, w_u64, Option.isNone_some, Option.isNone_none]; (try simp only [wrap_u32, wrap_u64]); rfl)) ?_ | fail)
      rcases h01 with h01 | h01
      · have hf := hg.f0
        have hnn := hg.n0
        simp only [h01]
        repeat' (first | (refine ⟨⟨run_l hS (by rfl), run_l hS (by rfl), run_l hS (by rfl), run_l hS (by rfl), trivial⟩, ?_⟩) | (refine pc_rcenc_Encoder_Bit (Bit_ok (hS.fd2 (Enc e) (PSet p0)) hf (by omega) oi bit ?_); clear hS; intro w hS) | (refine pc_pithref07_Encoder_Bit (RBit_ok (hS.fd2 (REnc r) (RSet r0)) ho hf (by omega) oi bit ?_); clear hS; intro w hS) | (refine pA_neq_s ?_ ?_ <;> intro hc <;> try (exfalso; first | omega | exact hc rfl | exact hc (by assumption) | exact absurd hc (by assumption))) | refine pIf_f ?_ | refine pL_l hS (by first | rfl | assumption) ?_ | refine ⟨trivial, ?_⟩ | refine pA_via (by (intro K; simp (disch := omega) only [go_sem, pN_min, pN_max, w_u32, w_u64, Option.isNone_some, Option.isNone_none]; (try simp only [wrap_u32, wrap_u64]); rfl)) ?_ | fail)
        by_cases hc : 0 ≤ oi ∧ oi < l0.length
        · simp only [if_pos hc] at hS
          have oa : R.TS.Ok ⟨st, l0⟩ := ⟨ho, hf⟩
          have o1 := (oa.bit hc.1 hc.2 bit).1
          have o2 := (oa.bit hc.1 hc.2 bit).2
          have o3 := R.TS.bit_len ⟨st, l0⟩ oi bit
          dsimp only [R.TS.bit] at o1 o2 o3
          have o1s : R.Ok (st.cut (B.bound st.R (l0.getD oi.toNat 0)) bit) := o1.s
          exact pinv_enc (m0 := l0.set oi.toNat (B.next (l0.getD oi.toNat 0) bit)) (m1 := l1) (st' := st.cut (B.bound st.R (l0.getD oi.toNat 0)) bit) hS.to hek { hg.set k hek o1s (by omega) with f0 := o1.f, n0 := by omega }
        · simp only [if_neg hc] at hS
          exact pinv_enc (m0 := l0) (m1 := l1) (st' := st) hS.to hek (hg.set k hek ho (by omega))
      · have hf := hg.f1
        have hnn := hg.n1
        simp only [h01]
        repeat' (first | (refine ⟨⟨run_l hS (by rfl), run_l hS (by rfl), run_l hS (by rfl), run_l hS (by rfl), trivial⟩, ?_⟩) | (refine pc_rcenc_Encoder_Bit (Bit_ok (hS.fd2 (Enc e) (PSet p1)) hf (by omega) oi bit ?_); clear hS; intro w hS) | (refine pc_pithref07_Encoder_Bit (RBit_ok (hS.fd2 (REnc r) (RSet r1)) ho hf (by omega) oi bit ?_); clear hS; intro w hS) | (refine pA_neq_s ?_ ?_ <;> intro hc <;> try (exfalso; first | omega | exact hc rfl | exact hc (by assumption) | exact absurd hc (by assumption))) | refine pIf_f ?_ | refine pL_l hS (by first | rfl | assumption) ?_ | refine ⟨trivial, ?_⟩ | refine pA_via (by (intro K; simp (disch := omega) only [go_sem, pN_min, pN_max, w_u32, w_u64, Option.isNone_some, Option.isNone_none]; (try simp only [wrap_u32, wrap_u64]); rfl)) ?_ | fail)
        by_cases hc : 0 ≤ oi ∧ oi < l1.length
        · simp only [if_pos hc] at hS
          have oa : R.TS.Ok ⟨st, l1⟩ := ⟨ho, hf⟩
          have o1 := (oa.bit hc.1 hc.2 bit).1
          have o2 := (oa.bit hc.1 hc.2 bit).2
          have o3 := R.TS.bit_len ⟨st, l1⟩ oi bit
          dsimp only [R.TS.bit] at o1 o2 o3
          have o1s : R.Ok (st.cut (B.bound st.R (l1.getD oi.toNat 0)) bit) := o1.s
          exact pinv_enc (m1 := l1.set oi.toNat (B.next (l1.getD oi.toNat 0) bit)) (m0 := l0) (st' := st.cut (B.bound st.R (l1.getD oi.toNat 0)) bit) hS.to hek { hg.set k hek o1s (by omega) with f1 := o1.f, n1 := by omega }
        · simp only [if_neg hc] at hS
          exact pinv_enc (m1 := l1) (m0 := l0) (st' := st) hS.to hek (hg.set k hek ho (by omega))
    · have hS := encs.out (hS.fd (encs ())) hek
      repeat' (first | (refine pc_rcenc_Encoder_Direct (Direct_ok (hS.fd (Enc e)) (by omega) z n hz.1 hz.2 ?_); clear hS; intro w hS) | (refine pc_pithref07_Encoder_Direct (RDirect_ok (hS.fd (REnc r)) ho (by omega) z n hz.1 hz.2 ?_); clear hS; intro w hS) | ((first | refine pN_eql_s ?_ ?_ | refine pA_neq_s ?_ ?_) <;> intro hc <;> try (exfalso; first | omega | exact hc rfl | exact hc (by assumption) | exact absurd hc (by assumption))) | refine pIf_t ?_ | refine pIf_f ?_ | refine pN_l hS (by first | rfl | assumption) ?_ | refine pL_l hS (by first | rfl | assumption) ?_ | refine pN_ld_at ha hS (by rfl) ?_ | (refine pN_sa hS (by rfl) (by rfl) (by rfl) ?_; clear hS; intro w hS; try dsimp only at hS) | (refine pDr_go hS ?_; clear hS; intro w hS) | (refine pN_nz hS ?_; clear hS; intro a w hS) | refine ⟨trivial, ?_⟩ | refine ⟨⟨(by first | exact run_l hS (by first | rfl | assumption) | exact run_st hS (by first | rfl | omega) | exact run_ld1 ha hS | exact fun _ => run_l hS (by rfl) | exact fun _ => run_st hS (by first | rfl | omega) | exact fun _ => run_ld1 ha hS | exact fun h => Bool.noConfusion h), (by first | exact run_l hS (by first | rfl | assumption) | exact run_st hS (by first | rfl | omega) | exact run_ld1 ha hS | exact fun _ => run_l hS (by rfl) | exact fun _ => run_st hS (by first | rfl | omega) | exact fun _ => run_ld1 ha hS | exact fun h => Bool.noConfusion h), (by first | exact run_l hS (by first | rfl | assumption) | exact run_st hS (by first | rfl | omega) | exact run_ld1 ha hS | exact fun _ => run_l hS (by rfl) | exact fun _ => run_st hS (by first | rfl | omega) | exact fun _ => run_ld1 ha hS | exact fun h => Bool.noConfusion h), trivial⟩, ?_⟩ | refine pN_ixk hS _ (by first | rfl | (exact (Int.toNat_of_nonneg (by omega)).symm)) (by first | rfl | omega | simpa only [go_sem] using True.intro | (simp only [go_sem]; omega)) (by assumption) fun a ha hel => ?_ | refine pN_via (by (intro K; simp (disch := omega) only [go_sem, pN_min, pN_max, w_u32, w_u64, Option.isNone_some, Option.isNone_none]; (try simp only [wrap_u32, wrap_u64]); rfl)) ?_ | refine pA_via (by (intro K; simp (disch := omega) only [go_sem, pN_min, pN_max, w_u32, w_u64, Option.isNone_some, Option.isNone_none]; (try simp only [wrap_u32, wrap_u64]); rfl)) ?_ | fail)
      have hS := SetsH.opn (hS.fd (SetsH ⟨p0, p1, r0, r1⟩))
      dsimp only at hS
      by_cases hc : 0 ≤ n ∧ n ≤ 32
      · simp only [if_pos hc] at hS
        have o2 := R.direct_le z n.toNat ho
        exact pinv_enc (m0 := l0) (m1 := l1) (st' := st.direct z n.toNat) hS.to hek (hg.set k hek (R.Ok.direct z n.toNat ho) (by omega))
      · simp only [if_neg hc] at hS
        exact pinv_enc (m0 := l0) (m1 := l1) (st' := st) hS.to hek (hg.set k hek ho (by omega))
    · have hS := encs.out (hS.fd (encs ())) hek
      repeat' (first | (refine pc_rcenc_Encoder_Size (Size_ok (hS.fd (Enc _)) (by first | omega | decide) ?_); clear hS; intro w hS) | (refine pc_pithref07_Encoder_Size (RSize_ok (hS.fd (REnc r)) (by omega) ?_); clear hS; intro w hS) | ((first | refine pN_eql_s ?_ ?_ | refine pA_neq_s ?_ ?_) <;> intro hc <;> try (exfalso; first | omega | exact hc rfl | exact hc (by assumption) | exact absurd hc (by assumption))) | refine pIf_t ?_ | refine pIf_f ?_ | refine pN_l hS (by first | rfl | assumption) ?_ | refine pL_l hS (by first | rfl | assumption) ?_ | refine pN_ld_at ha hS (by rfl) ?_ | (refine pN_sa hS (by rfl) (by rfl) (by rfl) ?_; clear hS; intro w hS; try dsimp only at hS) | (refine pDr_go hS ?_; clear hS; intro w hS) | (refine pN_nz hS ?_; clear hS; intro a w hS) | refine ⟨trivial, ?_⟩ | refine ⟨⟨(by first | exact run_l hS (by first | rfl | assumption) | exact run_st hS (by first | rfl | omega) | exact run_ld1 ha hS | exact fun _ => run_l hS (by rfl) | exact fun _ => run_st hS (by first | rfl | omega) | exact fun _ => run_ld1 ha hS | exact fun h => Bool.noConfusion h), trivial⟩, ?_⟩ | refine pN_ixk hS _ (by first | rfl | (exact (Int.toNat_of_nonneg (by omega)).symm)) (by first | rfl | omega | simpa only [go_sem] using True.intro | (simp only [go_sem]; omega)) (by assumption) fun a ha hel => ?_ | refine pN_via (by (intro K; simp (disch := omega) only [go_sem, pN_min, pN_max, w_u32, w_u64, Option.isNone_some, Option.isNone_none]; (try simp only [wrap_u32, wrap_u64]); rfl)) ?_ | refine pA_via (by (intro K; simp (disch := omega) only [go_sem, pN_min, pN_max, w_u32, w_u64, Option.isNone_some, Option.isNone_none]; (try simp only [wrap_u32, wrap_u64]); rfl)) ?_ | fail)
      have hS := SetsH.opn (hS.fd (SetsH ⟨p0, p1, r0, r1⟩))
      dsimp only at hS
      exact pinv_enc (m0 := l0) (m1 := l1) (st' := st) hS.to hek (hg.set k hek ho (by omega))
    · have hS := encs.out (hS.fd (encs ())) hek
      have hbl := bytes_len st
      repeat' (first | (refine pN_eql_s ?_ ?_ <;> intro hc <;> try (exfalso; first | omega | exact hc rfl | exact hc (by assumption) | exact absurd hc (by assumption))) | refine pIf_t ?_ | refine pIf_f ?_ | refine pN_l hS (by first | rfl | assumption) ?_ | refine pN_ld_at ha hS (by rfl) ?_ | (refine pN_sa hS (by rfl) (by rfl) (by rfl) ?_; clear hS; intro w hS; try dsimp only at hS) | (refine pN_nz hS ?_; clear hS; intro a w hS) | refine pN_ixk hS _ (by first | rfl | (exact (Int.toNat_of_nonneg (by omega)).symm)) (by first | rfl | omega | simpa only [go_sem] using True.intro | (simp only [go_sem]; omega)) (by assumption) fun a ha hel => ?_ | refine pN_via (by (intro K; simp (disch := omega) only [go_sem, pN_min, pN_max, w_u32, w_u64, Option.isNone_some, Option.isNone_none]; (try simp only [wrap_u32, wrap_u64]); rfl)) ?_ | fail)
      refine pc_rcenc_Encoder_Bytes (Bytes_ok (hS.fd (Enc e)) (by omega) fun s1 w hS => ?_)
      repeat' (first | refine pN_l hS (by first | rfl | assumption) ?_ | refine pN_via (by (intro K; simp (disch := omega) only [go_sem, pN_min, pN_max, w_u32, w_u64, Option.isNone_some, Option.isNone_none]; (try simp only [wrap_u32, wrap_u64]); rfl)) ?_ | fail)
      refine pc_rcenc_Encoder_Bytes (Bytes_ok (hS.fd (Enc e)) (by omega) fun s2 w hS => ?_)
      repeat' (first | (refine pc_pithref07_Encoder_Bytes (RBytes_ok (hS.fd (REnc r)) (by omega) ?_); clear hS; intro s3 w hS) | (refine pA_neq_ss ?_ ?_ <;> intro hc <;> try (exfalso; first | omega | exact hc rfl | exact hc (by assumption) | exact absurd hc (by assumption))) | refine pIf_f ?_ | refine gA_go (by rfl) ?_ | refine pL_l hS (by first | rfl | assumption) ?_ | (refine pDr_go hS ?_; clear hS; intro w hS) | refine ⟨⟨(by first | exact run_l hS (by first | rfl | assumption) | exact run_st hS (by first | rfl | omega) | exact run_ld1 ha hS | exact fun _ => run_l hS (by rfl) | exact fun _ => run_st hS (by first | rfl | omega) | exact fun _ => run_ld1 ha hS | exact fun h => Bool.noConfusion h), trivial⟩, ?_⟩ | refine pL_st hS (by first | rfl | omega | simpa only [go_sem] using True.intro | (simp only [go_sem]; omega)) ?_ | refine pN_via (by (intro K; simp (disch := omega) only [go_sem, pN_min, pN_max, w_u32, w_u64, Option.isNone_some, Option.isNone_none]; (try simp only [wrap_u32, wrap_u64]); rfl)) ?_ | refine pA_via (by (intro K; simp (disch := omega) only [go_sem, pN_min, pN_max, w_u32, w_u64, Option.isNone_some, Option.isNone_none]; (try simp only [wrap_u32, wrap_u64]); rfl)) ?_ | fail)
      refine pc_pithlaw07_hold (hold_ok (s := s1) (l := st.bytes) (hS.fd (rows cd_uint8 s1)) (by omega) hs.length (by omega) fun g1 w hg1 _ hS => ?_)
      have hml3 : (hs.map Hd.t ++ [g1.t]).length = hs.length + 1 := by rw [List.length_append, hml2]; rfl
      repeat' (first | (refine pN_b1 (x := g1.t) hS (Hd.enc g1) (by decide) ?_; clear hS; intro s w hS) | (refine pN_app hS (by first | rfl | omega | simpa only [go_sem] using True.intro | (simp only [go_sem]; omega)) (by first | rfl | omega | simpa only [go_sem] using True.intro | (simp only [go_sem]; omega)) (by first | omega | (simp only [go_sem]; omega)) ?_; clear hS; intro s w hS) | refine pN_via (by (intro K; simp (disch := omega) only [go_sem, pN_min, pN_max, w_u32, w_u64, Option.isNone_some, Option.isNone_none]; (try simp only [wrap_u32, wrap_u64]); rfl)) ?_ | fail)
      refine pc_pithlaw07_hold (hold_ok (s := s2) (l := st.bytes) (hS.fd (rows cd_uint8 s2)) (by omega) _ (by omega) fun g2 w hg2 _ hS => ?_)
      repeat' (first | (refine pN_b1 (x := g2.t) hS (Hd.enc g2) (by decide) ?_; clear hS; intro s w hS) | (refine pN_app hS (by first | rfl | omega | simpa only [go_sem] using True.intro | (simp only [go_sem]; omega)) (by first | rfl | omega | simpa only [go_sem] using True.intro | (simp only [go_sem]; omega)) (by first | omega | (simp only [go_sem]; omega)) ?_; clear hS; intro s w hS) | fail)
      have hS : Sat W w (g1.part :: parts () hs :: g2.part :: Enc e st :: REnc r st :: bag ((es.map encH).eraseIdx k) :: rows cd_pithlaw07_Held s (hs.map Hd.t ++ [g1.t] ++ [g2.t]) :: [cel ax ⟨54, [.pointer (some ⟨p0, 0, none⟩), .pointer (some ⟨p1, 0, none⟩), .pointer (some ⟨r0, 0, none⟩), .pointer (some ⟨r1, 0, none⟩)]⟩, SetsH ⟨p0, p1, r0, r1⟩ (l0, l1), rows cd_pithlaw07_Pair sl (es.map prT), old W]) := hS.to
      have hS := parts.snoc g1 hS
      have hS : Sat W w (g2.part :: parts () (hs ++ [g1]) :: Enc e st :: REnc r st :: bag ((es.map encH).eraseIdx k) :: rows cd_pithlaw07_Held s (hs.map Hd.t ++ [g1.t] ++ [g2.t]) :: [cel ax ⟨54, [.pointer (some ⟨p0, 0, none⟩), .pointer (some ⟨p1, 0, none⟩), .pointer (some ⟨r0, 0, none⟩), .pointer (some ⟨r1, 0, none⟩)]⟩, SetsH ⟨p0, p1, r0, r1⟩ (l0, l1), rows cd_pithlaw07_Pair sl (es.map prT), old W]) := hS.to
      have hS := parts.snoc g2 hS
      have hS : Sat W w (Enc e st :: REnc r st :: bag ((es.map encH).eraseIdx k) :: parts () (hs ++ [g1] ++ [g2]) :: rows cd_pithlaw07_Held s (hs.map Hd.t ++ [g1.t] ++ [g2.t]) :: [cel ax ⟨54, [.pointer (some ⟨p0, 0, none⟩), .pointer (some ⟨p1, 0, none⟩), .pointer (some ⟨r0, 0, none⟩), .pointer (some ⟨r1, 0, none⟩)]⟩, SetsH ⟨p0, p1, r0, r1⟩ (l0, l1), rows cd_pithlaw07_Pair sl (es.map prT), old W]) := hS.to
      have hS := encs.back hS hek
      have e2 : (hs ++ [g1] ++ [g2]).map Hd.t = hs.map Hd.t ++ [g1.t] ++ [g2.t] := by simp
      have e3 : (hs.map Hd.t ++ [g1.t] ++ [g2.t]).length = (hs ++ [g1] ++ [g2]).length := by simp
      refine ⟨es, sl, hs ++ [g1] ++ [g2], s, l0, l1, rfl, by rw [e3], hg.book2 hg1 hg2, ?_⟩
      rw [e2]
      exact hS.to
    · have hS := encs.out (hS.fd (encs ())) hek
      repeat' (first | (refine pN_eql_s ?_ ?_ <;> intro hc <;> try (exfalso; first | omega | exact hc rfl | exact hc (by assumption) | exact absurd hc (by assumption))) | refine pIf_f ?_ | refine pN_l hS (by first | rfl | assumption) ?_ | refine pN_ld_at ha hS (by rfl) ?_ | (refine pN_sa hS (by rfl) (by rfl) (by rfl) ?_; clear hS; intro w hS; try dsimp only at hS) | (refine pN_nz hS ?_; clear hS; intro a w hS) | refine pN_ixk hS _ (by first | rfl | (exact (Int.toNat_of_nonneg (by omega)).symm)) (by first | rfl | omega | simpa only [go_sem] using True.intro | (simp only [go_sem]; omega)) (by assumption) fun a ha hel => ?_ | refine pN_via (by (intro K; simp (disch := omega) only [go_sem, pN_min, pN_max, w_u32, w_u64, Option.isNone_some, Option.isNone_none]; (try simp only [wrap_u32, wrap_u64]); rfl)) ?_ | fail)
      refine ⟨_, ?_, fun _ _ _ h => h⟩
      repeat' (first | (refine And.intro (a := pN _ _ _ _) (b := pN _ _ _ _) ?_ ?_) | (refine pc_rcenc_Encoder_Fork (Fork_ok' (hS.fd (Enc e)) (by omega) ?_); clear hS; intro c w hS) | (refine pc_pithref07_Encoder_Fork (RFork_ok (hS.fd (REnc r)) (by omega) ?_); clear hS; intro d w hS) | (refine pN_eql_s ?_ ?_ <;> intro hc <;> try (exfalso; first | omega | exact hc rfl | exact hc (by assumption) | exact absurd hc (by assumption))) | refine pIf_t ?_ | refine pL_l hS (by first | rfl | assumption) ?_ | (refine pN_sa hS (by rfl) (by rfl) (by rfl) ?_; clear hS; intro w hS; try dsimp only at hS) | (refine pDr_go hS ?_; clear hS; intro w hS) | (refine pN_nz hS ?_; clear hS; intro a w hS) | refine ⟨trivial, ?_⟩ | refine ⟨⟨(by first | exact run_l hS (by first | rfl | assumption) | exact run_st hS (by first | rfl | omega) | exact run_ld1 ha hS | exact fun _ => run_l hS (by rfl) | exact fun _ => run_st hS (by first | rfl | omega) | exact fun _ => run_ld1 ha hS | exact fun h => Bool.noConfusion h), trivial⟩, ?_⟩ | refine ⟨⟨(by first | exact run_l hS (by first | rfl | assumption) | exact run_st hS (by first | rfl | omega) | exact run_ld1 ha hS | exact fun _ => run_l hS (by rfl) | exact fun _ => run_st hS (by first | rfl | omega) | exact fun _ => run_ld1 ha hS | exact fun h => Bool.noConfusion h), (by first | exact run_l hS (by first | rfl | assumption) | exact run_st hS (by first | rfl | omega) | exact run_ld1 ha hS | exact fun _ => run_l hS (by rfl) | exact fun _ => run_st hS (by first | rfl | omega) | exact fun _ => run_ld1 ha hS | exact fun h => Bool.noConfusion h), trivial⟩, ?_⟩ | refine pN_via (by (intro K; simp (disch := omega) only [go_sem, pN_min, pN_max, w_u32, w_u64, Option.isNone_some, Option.isNone_none]; (try simp only [wrap_u32, wrap_u64]); rfl)) ?_ | refine pA_via (by (intro K; simp (disch := omega) only [go_sem, pN_min, pN_max, w_u32, w_u64, Option.isNone_some, Option.isNone_none]; (try simp only [wrap_u32, wrap_u64]); rfl)) ?_ | fail)
      all_goals
        refine ⟨fun w => ∃ (c d : Nat) (st2 : R.S), R.Ok st2 ∧ st2.k ≤ 32 * i ∧ Sat W w [cel a ⟨60, [.pointer (some ⟨c, 0, none⟩), .pointer (some ⟨d, 0, none⟩)]⟩, Enc c st2, REnc d st2, encs () es, cel ax ⟨54, [.pointer (some ⟨p0, 0, none⟩), .pointer (some ⟨p1, 0, none⟩), .pointer (some ⟨r0, 0, none⟩), .pointer (some ⟨r1, 0, none⟩)]⟩, SetsH ⟨p0, p1, r0, r1⟩ (l0, l1), rows cd_pithlaw07_Pair sl (es.map prT), rows cd_pithlaw07_Held sh (hs.map Hd.t), parts () hs, old W], ?_, ?_⟩
        rotate_left 1
        · clear hS
          rintro _ w ⟨c, d, st2, ho2, hk2', hS⟩
          repeat' (first | (refine pN_b1 (x := (⟨some ⟨c, 0, none⟩, some ⟨d, 0, none⟩⟩ : T_pithlaw07_Pair)) hS (by rfl) (by decide) ?_; clear hS; intro s w hS) | (refine pN_lss_s ?_ ?_ <;> intro hc <;> try (exfalso; omega)) | refine pIf_t ?_ | refine pIf_f ?_ | refine pN_l hS (by first | rfl | assumption) ?_ | refine pN_la hS (by rfl) ?_ | (refine pN_app hS (by first | rfl | omega | simpa only [go_sem] using True.intro | (simp only [go_sem]; omega)) (by first | rfl | omega | simpa only [go_sem] using True.intro | (simp only [go_sem]; omega)) (by first | omega | (simp only [go_sem]; omega)) ?_; clear hS; intro s w hS) | refine pN_via (by (intro K; simp (disch := omega) only [go_sem, pN_min, pN_max, w_u32, w_u64, Option.isNone_some, Option.isNone_none]; (try simp only [wrap_u32, wrap_u64]); rfl)) ?_ | fail)
          · have hS : Sat W w (Enc c st2 :: REnc d st2 :: encs () es :: [cel ax ⟨54, [.pointer (some ⟨p0, 0, none⟩), .pointer (some ⟨p1, 0, none⟩), .pointer (some ⟨r0, 0, none⟩), .pointer (some ⟨r1, 0, none⟩)]⟩, SetsH ⟨p0, p1, r0, r1⟩ (l0, l1), rows cd_pithlaw07_Pair s (es.map prT ++ [⟨some ⟨c, 0, none⟩, some ⟨d, 0, none⟩⟩]), rows cd_pithlaw07_Held sh (hs.map Hd.t), parts () hs, old W]) := hS.to
            have hS := encs.snoc hS
            have e2 : (es ++ [((c, d), st2)]).map prT = es.map prT ++ [⟨some ⟨c, 0, none⟩, some ⟨d, 0, none⟩⟩] := by rw [List.map_append]; rfl
            have e3 : (es.map prT ++ [(⟨some ⟨c, 0, none⟩, some ⟨d, 0, none⟩⟩ : T_pithlaw07_Pair)]).length = (es ++ [((c, d), st2)]).length := by simp
            refine ⟨es ++ [((c, d), st2)], s, hs, sh, l0, l1, by rw [e3], rfl, hg.snoc (c, d) ho2 hk2' (by omega), ?_⟩
            rw [e2]
            exact hS.to
          · exact ⟨es, sl, hs, sh, l0, l1, rfl, rfl, hg.more, hS.to⟩
        repeat' (first | (refine pN_eql_s ?_ ?_ <;> intro hc <;> try (exfalso; first | omega | exact hc rfl | exact hc (by assumption) | exact absurd hc (by assumption))) | refine pIf_f ?_ | refine pN_l hS (by first | rfl | assumption) ?_ | refine pN_via (by (intro K; simp (disch := omega) only [go_sem, pN_min, pN_max, w_u32, w_u64, Option.isNone_some, Option.isNone_none]; (try simp only [wrap_u32, wrap_u64]); rfl)) ?_ | fail)
        have hS : Sat W w (Enc e st :: REnc r st :: bag ((es.map encH).eraseIdx k) :: [cel a ⟨60, [.pointer (some ⟨c, 0, none⟩), .pointer (some ⟨d, 0, none⟩)]⟩, Enc c st, REnc d st, cel ax ⟨54, [.pointer (some ⟨p0, 0, none⟩), .pointer (some ⟨p1, 0, none⟩), .pointer (some ⟨r0, 0, none⟩), .pointer (some ⟨r1, 0, none⟩)]⟩, SetsH ⟨p0, p1, r0, r1⟩ (l0, l1), rows cd_pithlaw07_Pair sl (es.map prT), rows cd_pithlaw07_Held sh (hs.map Hd.t), parts () hs, old W]) := hS.to
        have hS := encs.back hS hek
        exact ⟨c, d, st, ho, hsk, hS.to⟩
    · have hS := encs.out (hS.fd (encs ())) hek
      repeat' (first | (refine pN_eql_s ?_ ?_ <;> intro hc <;> try (exfalso; first | omega | exact hc rfl | exact hc (by assumption) | exact absurd hc (by assumption))) | refine pIf_f ?_ | refine pN_l hS (by first | rfl | assumption) ?_ | refine pN_ld_at ha hS (by rfl) ?_ | (refine pN_sa hS (by rfl) (by rfl) (by rfl) ?_; clear hS; intro w hS; try dsimp only at hS) | (refine pN_nz hS ?_; clear hS; intro a w hS) | refine pN_ixk hS _ (by first | rfl | (exact (Int.toNat_of_nonneg (by omega)).symm)) (by first | rfl | omega | simpa only [go_sem] using True.intro | (simp only [go_sem]; omega)) (by assumption) fun a ha hel => ?_ | refine pN_via (by (intro K; simp (disch := omega) only [go_sem, pN_min, pN_max, w_u32, w_u64, Option.isNone_some, Option.isNone_none]; (try simp only [wrap_u32, wrap_u64]); rfl)) ?_ | fail)
      refine ⟨_, ?_, fun _ _ _ h => h⟩
      repeat' (first | (refine And.intro (a := pN _ _ _ _) (b := pN _ _ _ _) ?_ ?_) | (refine pc_rcenc_Encoder_Fork (Fork_ok' (hS.fd (Enc e)) (by omega) ?_); clear hS; intro c w hS) | (refine pc_pithref07_Encoder_Fork (RFork_ok (hS.fd (REnc r)) (by omega) ?_); clear hS; intro d w hS) | (refine pN_eql_s ?_ ?_ <;> intro hc <;> try (exfalso; first | omega | exact hc rfl | exact hc (by assumption) | exact absurd hc (by assumption))) | refine pIf_t ?_ | refine pIf_f ?_ | refine pL_l hS (by first | rfl | assumption) ?_ | (refine pN_sa hS (by rfl) (by rfl) (by rfl) ?_; clear hS; intro w hS; try dsimp only at hS) | (refine pDr_go hS ?_; clear hS; intro w hS) | (refine pN_nz hS ?_; clear hS; intro a w hS) | refine ⟨trivial, ?_⟩ | refine ⟨⟨(by first | exact run_l hS (by first | rfl | assumption) | exact run_st hS (by first | rfl | omega) | exact run_ld1 ha hS | exact fun _ => run_l hS (by rfl) | exact fun _ => run_st hS (by first | rfl | omega) | exact fun _ => run_ld1 ha hS | exact fun h => Bool.noConfusion h), trivial⟩, ?_⟩ | refine ⟨⟨(by first | exact run_l hS (by first | rfl | assumption) | exact run_st hS (by first | rfl | omega) | exact run_ld1 ha hS | exact fun _ => run_l hS (by rfl) | exact fun _ => run_st hS (by first | rfl | omega) | exact fun _ => run_ld1 ha hS | exact fun h => Bool.noConfusion h), (by first | exact run_l hS (by first | rfl | assumption) | exact run_st hS (by first | rfl | omega) | exact run_ld1 ha hS | exact fun _ => run_l hS (by rfl) | exact fun _ => run_st hS (by first | rfl | omega) | exact fun _ => run_ld1 ha hS | exact fun h => Bool.noConfusion h), trivial⟩, ?_⟩ | refine pN_via (by (intro K; simp (disch := omega) only [go_sem, pN_min, pN_max, w_u32, w_u64, Option.isNone_some, Option.isNone_none]; (try simp only [wrap_u32, wrap_u64]); rfl)) ?_ | refine pA_via (by (intro K; simp (disch := omega) only [go_sem, pN_min, pN_max, w_u32, w_u64, Option.isNone_some, Option.isNone_none]; (try simp only [wrap_u32, wrap_u64]); rfl)) ?_ | fail)
      all_goals
        refine ⟨fun w => ∃ (c d : Nat) (st2 : R.S), R.Ok st2 ∧ st2.k ≤ 32 * i ∧ Sat W w [cel a ⟨60, [.pointer (some ⟨c, 0, none⟩), .pointer (some ⟨d, 0, none⟩)]⟩, Enc c st2, REnc d st2, encs () es, cel ax ⟨54, [.pointer (some ⟨p0, 0, none⟩), .pointer (some ⟨p1, 0, none⟩), .pointer (some ⟨r0, 0, none⟩), .pointer (some ⟨r1, 0, none⟩)]⟩, SetsH ⟨p0, p1, r0, r1⟩ (l0, l1), rows cd_pithlaw07_Pair sl (es.map prT), rows cd_pithlaw07_Held sh (hs.map Hd.t), parts () hs, old W], ?_, ?_⟩
        rotate_left 1
        · clear hS
          rintro _ w ⟨c, d, st2, ho2, hk2', hS⟩
          repeat' (first | (refine pN_b1 (x := (⟨some ⟨c, 0, none⟩, some ⟨d, 0, none⟩⟩ : T_pithlaw07_Pair)) hS (by rfl) (by decide) ?_; clear hS; intro s w hS) | (refine pN_lss_s ?_ ?_ <;> intro hc <;> try (exfalso; omega)) | refine pIf_t ?_ | refine pIf_f ?_ | refine pN_l hS (by first | rfl | assumption) ?_ | refine pN_la hS (by rfl) ?_ | (refine pN_app hS (by first | rfl | omega | simpa only [go_sem] using True.intro | (simp only [go_sem]; omega)) (by first | rfl | omega | simpa only [go_sem] using True.intro | (simp only [go_sem]; omega)) (by first | omega | (simp only [go_sem]; omega)) ?_; clear hS; intro s w hS) | refine pN_via (by (intro K; simp (disch := omega) only [go_sem, pN_min, pN_max, w_u32, w_u64, Option.isNone_some, Option.isNone_none]; (try simp only [wrap_u32, wrap_u64]); rfl)) ?_ | fail)
          · have hS : Sat W w (Enc c st2 :: REnc d st2 :: encs () es :: [cel ax ⟨54, [.pointer (some ⟨p0, 0, none⟩), .pointer (some ⟨p1, 0, none⟩), .pointer (some ⟨r0, 0, none⟩), .pointer (some ⟨r1, 0, none⟩)]⟩, SetsH ⟨p0, p1, r0, r1⟩ (l0, l1), rows cd_pithlaw07_Pair s (es.map prT ++ [⟨some ⟨c, 0, none⟩, some ⟨d, 0, none⟩⟩]), rows cd_pithlaw07_Held sh (hs.map Hd.t), parts () hs, old W]) := hS.to
            have hS := encs.snoc hS
            have e2 : (es ++ [((c, d), st2)]).map prT = es.map prT ++ [⟨some ⟨c, 0, none⟩, some ⟨d, 0, none⟩⟩] := by rw [List.map_append]; rfl
            have e3 : (es.map prT ++ [(⟨some ⟨c, 0, none⟩, some ⟨d, 0, none⟩⟩ : T_pithlaw07_Pair)]).length = (es ++ [((c, d), st2)]).length := by simp
            refine ⟨es ++ [((c, d), st2)], s, hs, sh, l0, l1, by rw [e3], rfl, hg.snoc (c, d) ho2 hk2' (by omega), ?_⟩
            rw [e2]
            exact hS.to
          · exact ⟨es, sl, hs, sh, l0, l1, rfl, rfl, hg.more, hS.to⟩
        repeat' (first | (refine pc_rcenc_New (NewE_ok hS ?_); clear hS; intro c w hS) | (refine pc_pithref07_New (RNewE_ok hS ?_); clear hS; intro d w hS) | (refine pN_eql_s ?_ ?_ <;> intro hc <;> try (exfalso; first | omega | exact hc rfl | exact hc (by assumption) | exact absurd hc (by assumption))) | refine pIf_t ?_ | refine pN_l hS (by first | rfl | assumption) ?_ | (refine pN_sa hS (by rfl) (by rfl) (by rfl) ?_; clear hS; intro w hS; try dsimp only at hS) | refine pN_via (by (intro K; simp (disch := omega) only [go_sem, pN_min, pN_max, w_u32, w_u64, Option.isNone_some, Option.isNone_none]; (try simp only [wrap_u32, wrap_u64]); rfl)) ?_ | fail)
        have hS : Sat W w (Enc e st :: REnc r st :: bag ((es.map encH).eraseIdx k) :: [cel a ⟨60, [.pointer (some ⟨c, 0, none⟩), .pointer (some ⟨d, 0, none⟩)]⟩, Enc c R.S.new, REnc d R.S.new, cel ax ⟨54, [.pointer (some ⟨p0, 0, none⟩), .pointer (some ⟨p1, 0, none⟩), .pointer (some ⟨r0, 0, none⟩), .pointer (some ⟨r1, 0, none⟩)]⟩, SetsH ⟨p0, p1, r0, r1⟩ (l0, l1), rows cd_pithlaw07_Pair sl (es.map prT), rows cd_pithlaw07_Held sh (hs.map Hd.t), parts () hs, old W]) := hS.to
        have hS := encs.back hS hek
        exact ⟨c, d, R.S.new, R.Ok.new, Nat.zero_le _, hS.to⟩
    · repeat' (first | (refine pN_eql_s ?_ ?_ <;> intro hc <;> try (exfalso; first | omega | exact hc rfl | exact hc (by assumption) | exact absurd hc (by assumption))) | refine pIf_f ?_ | refine pN_l hS (by first | rfl | assumption) ?_ | refine pN_ld_at ha hS (by rfl) ?_ | (refine pN_sa hS (by rfl) (by rfl) (by rfl) ?_; clear hS; intro w hS; try dsimp only at hS) | (refine pN_nz hS ?_; clear hS; intro a w hS) | refine pN_ixk hS _ (by first | rfl | (exact (Int.toNat_of_nonneg (by omega)).symm)) (by first | rfl | omega | simpa only [go_sem] using True.intro | (simp only [go_sem]; omega)) (by assumption) fun a ha hel => ?_ | refine pN_via (by (intro K; simp (disch := omega) only [go_sem, pN_min, pN_max, w_u32, w_u64, Option.isNone_some, Option.isNone_none]; (try simp only [wrap_u32, wrap_u64]); rfl)) ?_ | refine ⟨_, ?_, fun _ _ _ h => h⟩ | fail)
      exact ⟨es, sl, hs, sh, l0, l1, rfl, rfl, hg.more, hS.to⟩
  · repeat' (first | (refine pN_lss_s ?_ ?_ <;> intro hc <;> try (exfalso; omega)) | refine pIf_f ?_ | refine pN_via (by (intro K; simp (disch := omega) only [go_sem, pN_min, pN_max, w_u32, w_u64, Option.isNone_some, Option.isNone_none]; (try simp only [wrap_u32, wrap_u64]); rfl)) ?_ | fail)
    refine ⟨fun v w => ∃ k : Nat, v = .int .i64 k ∧ k ≤ es.length ∧ Sat W w [cel ax ⟨54, [.pointer (some ⟨p0, 0, none⟩), .pointer (some ⟨p1, 0, none⟩), .pointer (some ⟨r0, 0, none⟩), .pointer (some ⟨r1, 0, none⟩)]⟩, SetsH ⟨p0, p1, r0, r1⟩ (l0, l1), rows cd_pithlaw07_Pair sl (es.map prT), encs () es, rows cd_pithlaw07_Held sh (hs.map Hd.t), parts () hs, old W], fun v _ => es.length - (RowKit.intOf v).toNat, ⟨0, rfl, Nat.zero_le _, hS⟩, ?_⟩
    clear hS
    rintro _ _ w ⟨k, rfl, hk, hS⟩
    by_cases hlk : k < es.length
    · obtain ⟨⟨⟨e, r⟩, st⟩, hek⟩ : ∃ x, es[k]? = some x := ⟨es[k]'hlk, by simp [hlk]⟩
      have hx := prT_get hek
      have hst := hg.ok _ (List.mem_of_getElem? hek)
      dsimp only at hst
      obtain ⟨ho, hsk⟩ := hst
      have hS := encs.out (hS.fd (encs ())) hek
      repeat' (first | (refine pc_rcenc_Encoder_Bytes (Bytes_ok (hS.fd (Enc _)) (by first | omega | decide) ?_); clear hS; intro s w hS) | (refine pc_rcenc_Encoder_Size (Size_ok (hS.fd (Enc _)) (by first | omega | decide) ?_); clear hS; intro w hS) | (refine pc_pithref07_Encoder_Size (RSize_ok (hS.fd (REnc r)) (by omega) ?_); clear hS; intro w hS) | (refine pc_pithref07_Encoder_Bytes (RBytes_ok (hS.fd (REnc r)) (by omega) ?_); clear hS; intro s3 w hS) | (refine pN_lss_s ?_ ?_ <;> intro hc <;> try (exfalso; omega)) | ((first | refine pA_neq_s ?_ ?_ | refine pA_neq_ss ?_ ?_) <;> intro hc <;> try (exfalso; first | omega | exact hc rfl | exact hc (by assumption) | exact absurd hc (by assumption))) | refine pIf_t ?_ | refine pIf_f ?_ | refine gA_go (by rfl) ?_ | refine pGd_go (by rfl) ?_ | refine pL_l hS (by first | rfl | assumption) ?_ | refine pN_ld_at ha hS (by rfl) ?_ | (refine pN_sa hS (by rfl) (by rfl) (by rfl) ?_; clear hS; intro w hS; try dsimp only at hS) | (refine pDr_go hS ?_; clear hS; intro w hS) | (refine pN_nz hS ?_; clear hS; intro a w hS) | refine ⟨trivial, ?_⟩ | refine ⟨⟨(by first | exact run_l hS (by first | rfl | assumption) | exact run_st hS (by first | rfl | omega) | exact run_ld1 ha hS | exact fun _ => run_l hS (by rfl) | exact fun _ => run_st hS (by first | rfl | omega) | exact fun _ => run_ld1 ha hS | exact fun h => Bool.noConfusion h), trivial⟩, ?_⟩ | refine pN_ixk hS _ (by first | rfl | (exact (Int.toNat_of_nonneg (by omega)).symm)) (by first | rfl | omega | simpa only [go_sem] using True.intro | (simp only [go_sem]; omega)) (by assumption) fun a ha hel => ?_ | refine pL_st hS (by first | rfl | omega | simpa only [go_sem] using True.intro | (simp only [go_sem]; omega)) ?_ | refine pN_via (by (intro K; simp (disch := omega) only [go_sem, pN_min, pN_max, w_u32, w_u64, Option.isNone_some, Option.isNone_none]; (try simp only [wrap_u32, wrap_u64]); rfl)) ?_ | refine pA_via (by (intro K; simp (disch := omega) only [go_sem, pN_min, pN_max, w_u32, w_u64, Option.isNone_some, Option.isNone_none]; (try simp only [wrap_u32, wrap_u64]); rfl)) ?_ | fail)
      have hS : Sat W w (Enc e st :: REnc r st :: bag ((es.map encH).eraseIdx k) :: [cel ax ⟨54, [.pointer (some ⟨p0, 0, none⟩), .pointer (some ⟨p1, 0, none⟩), .pointer (some ⟨r0, 0, none⟩), .pointer (some ⟨r1, 0, none⟩)]⟩, SetsH ⟨p0, p1, r0, r1⟩ (l0, l1), rows cd_pithlaw07_Pair sl (es.map prT), rows cd_pithlaw07_Held sh (hs.map Hd.t), parts () hs, old W]) := hS.to
      have hS := encs.back hS hek
      exact ⟨⟨k + 1, rfl, by omega, hS.to⟩, by simp [RowKit.intOf] <;> omega⟩
    · repeat' (first | (refine pc_pithlaw07_Sets_alike (alike_ok (t := ⟨p0, p1, r0, r1⟩) (hS.fd (SetsH ⟨p0, p1, r0, r1⟩)) hg.n0 hg.n1 ?_); clear hS; intro w hS) | (refine pc_pithlaw07_held (held_ok hs (hS.fd2 (rows cd_pithlaw07_Held sh) (parts ())) (by omega) hg.held ?_); clear hS; intro w hS) | (refine pN_lss_s ?_ ?_ <;> intro hc <;> try (exfalso; omega)) | refine pIf_f ?_ | refine pGd_go (by rfl) ?_ | refine pN_la hS (by rfl) ?_ | refine pN_via (by (intro K; simp (disch := omega) only [go_sem, pN_min, pN_max, w_u32, w_u64, Option.isNone_some, Option.isNone_none]; (try simp only [wrap_u32, wrap_u64]); rfl)) ?_ | fail)
      exact ⟨rfl, hS.to⟩

end Go.Proofs.Ytoejaggkedlfmaa
