/-
  The statement RcdecApart, walked.
-/
import Derived.Test.YtoejaggkedlfmaaDecAns
namespace Go.Proofs.Ytoejaggkedlfmaa
open Go
set_option linter.unusedSimpArgs false
set_option linter.unnecessarySimpa false
set_option linter.unusedSectionVars false
set_option linter.unusedVariables false
attribute [local irreducible] oMv oV oU oCall oCallV oBi oBin oUn oLoad oStore oNil oFld oField oIdx oIndex oPick oAlloc oBox oBuild oBs oConv oMk oSl oExt oFn oIface oMap oLook oMapUp oRange oNext oAssert oPanic oRes pN pA pL pDr pIf gA pGd

namespace D
/-- What is behind the first questions. -/
def at_ (a : A) (qs : List T_pithlaw08_Ask) (j : Nat) : A := (run a (qs.take j)).2
theorem at_0 (a : A) (qs : List T_pithlaw08_Ask) : at_ a qs 0 = a := by rw [at_, List.take_zero, run]
theorem at_ok {a : A} (h : AOk a) (qs : List T_pithlaw08_Ask) (j : Nat) : AOk (at_ a qs j) ∧ Same (at_ a qs j) a := AOk.run _ h
theorem at_step : ∀ (qs : List T_pithlaw08_Ask) (a : A) (j : Nat), j < (run a qs).1.length → ∃ q v, qs[j]? = some q ∧ (run a qs).1[j]? = some v ∧ ask (at_ a qs j) q = some (at_ a qs (j + 1), v)
  | [], a, j, h => by simp [run] at h
  | q :: qs, a, j, h => by
    simp only [run] at h
    cases e : ask a q with
    | none => rw [e] at h; simp at h
    | some zv =>
      obtain ⟨z, v⟩ := zv
      rw [e] at h
      have hr : run a (q :: qs) = (v :: (run z qs).1, (run z qs).2) := by simp only [run, e]
      have ha : ∀ i, at_ a (q :: qs) (i + 1) = at_ z qs i := fun i => by
        simp only [at_, List.take_succ_cons, run, e]
      rw [hr]
      match j, h with
      | 0, _ =>
        refine ⟨q, v, rfl, rfl, ?_⟩
        rw [ha 0, at_0, at_0, e]
      | j + 1, h =>
        obtain ⟨q', v', h1, h2, h3⟩ := at_step qs z j (by simpa using h)
        exact ⟨q', v', h1, h2, by rw [ha, ha]; exact h3⟩
end D

theorem one_cut {α : Type} {l : List α} {j : Nat} {q : α} (h : l[j]? = some q) : (l.drop j).take (j + 1 - j) = [q] := by
  obtain ⟨h1, h2⟩ := List.getElem?_eq_some_iff.1 h
  rw [show j + 1 - j = 1 from by omega, List.drop_eq_getElem_cons h1, h2]
  rfl

def cnt (l : List Bool) (i : Nat) : Nat := (l.take i).count true
theorem cnt_0 (l : List Bool) : cnt l 0 = 0 := rfl
theorem cnt_succ {l : List Bool} {i : Nat} {b : Bool} (h : l[i]? = some b) : cnt l (i + 1) = cnt l i + if b = true then 1 else 0 := by
  rw [cnt, List.take_add_one, h, Option.toList_some, List.count_append, cnt]
  cases b <;> simp
theorem cnt_le (l : List Bool) (i : Nat) : cnt l i ≤ i := Nat.le_trans List.count_le_length (by rw [List.length_take]; omega)

section
variable {E w : World} {M : List HA} {Q : Value → World → Prop} {d p : Nat} {z z' : D.A} {q : T_pithlaw08_Ask} {v : Int}
theorem answered_one {sq : Sl} (hS : Sat E w (Dec d z.1 :: PSet p z.2 :: M)) [hr : Rds cd_pithlaw08_Ask M sq [q]] (ha : D.AOk z) (he : D.ask z q = some (z', v)) (hb : z.1.b.length ≤ 140737488355328)
    (hQ : ∀ s w, Sat E w (rows cd_uint32 s [v] :: Dec d z'.1 :: PSet p z'.2 :: M) → Q (.tuple #[.slice s.a 1 s.c, .int .i64 z'.1.k]) w) :
    Calls Try.prog 56 #[.pointer (some ⟨d, 0, none⟩), .pointer (some ⟨p, 0, none⟩), .slice sq.a 1 sq.c] w (retP Q) := by
  have hrun : D.run z [q] = ([v], z') := by rw [D.run, he]; rfl
  have := answered_ok (Q := Q) (qs := [q]) (sq := sq) hS ha hb (Nat.le_of_ble_eq_true rfl) (by rw [hrun]; exact hQ)
  exact this
end

def ApHas (W : World) (d1 d2 p1 p2 bx : Nat) (n : Int) (sq sw : Sl) (qs : List T_pithlaw08_Ask) (a : D.A) (c1 c2 : Nat) (x y : Value) (w : World) : Prop :=
  ∃ (s1 s2 : Sl) (j1 j2 : Nat) (xs ys : List Int), x = .slice s1.a j1 s1.c ∧ y = .slice s2.a j2 s2.c ∧ j1 = min c1 (D.run a qs).1.length ∧ j2 = min c2 (D.run a qs).1.length ∧ xs = (D.run a qs).1.take j1 ∧ ys = (D.run a qs).1.take j2 ∧
    Sat W w [rows cd_uint32 s1 xs, rows cd_uint32 s2 ys, Dec d1 (D.at_ a qs j1).1, PSet p1 (D.at_ a qs j1).2, Dec d2 (D.at_ a qs j2).1, PSet p2 (D.at_ a qs j2).2, rows cd_uint32 sw (D.run a qs).1, cel bx ⟨98, [.int .i64 n, .slice sq.a qs.length sq.c]⟩, old W]

set_option maxHeartbeats 8000000 in
theorem walk_RcdecApart (W : World) (x0 : Sl × List UInt8) (x1 : T_pithlaw08_Plan) (x2 : Sl × List Bool) (k0 k1 k2 : Nat)
    (h0 : RdP cd_uint8 (old W) x0.1 x0.2 ∧ x0.2.length * 1 ≤ reachBytes ∧ x0.2.length + 1 ≤ k0 ∧ ∀ c ∈ x0.2, ∃ k, k ≤ k0 ∧ True) (h1 : x1.ok W k1)
    (h2 : RdP cd_bool (old W) x2.1 x2.2 ∧ x2.2.length * 1 ≤ reachBytes ∧ x2.2.length + 1 ≤ k2 ∧ ∀ c ∈ x2.2, ∃ k, k ≤ k2 ∧ True) :
    Calls Try.prog 10 #[.slice x0.1.a x0.2.length x0.1.c, .agg x1.enc.toArray, .slice x2.1.a x2.2.length x2.1.c] W fun e W' => e = .returned (.bool true) ∧ RowKit.Below W.heap.size W W' := by
  refine walk_end (pithlaw08_RcdecApart.calls ?_)
  unfold pithlaw08_RcdecApart.F
  obtain ⟨r0, s0, _, _⟩ := h0
  obtain ⟨r2, s2, _, _⟩ := h2
  have hrb : reachBytes = 140737488351232 := rfl
  obtain ⟨b, l⟩ := x0
  obtain ⟨n, sq, qs⟩ := x1
  obtain ⟨tb, tl⟩ := x2
  simp only [T_pithlaw08_Plan.ok] at h1
  obtain ⟨_, _, _, rq, lq, _⟩ := h1
  dsimp only at r0 s0 rq lq r2 s2 ⊢
  have hS := Sat.start W
  refine pN_bx (z := [.int .i64 n, .slice sq.a qs.length sq.c]) hS rfl fun bx w hS => ?_
  by_cases hn : 0 ≤ n ∧ n ≤ 64
  rotate_left 1
  · repeat' (first | (refine pc_pithlaw08_known (known_ok hS ?_); clear hS; intro w hS) | ((first | refine pN_lss_s ?_ ?_ | refine pN_gtr_s ?_ ?_) <;> intro hc <;> try (exfalso; omega)) | refine pIf_t ?_ | refine pGd_go (by rfl) ?_ | refine pGd_no (by rfl) ?_ | refine pL_l hS (by first | rfl | assumption) ?_ | (refine pDr_go hS ?_; clear hS; intro w hS) | refine pN_via (by (intro K; simp (disch := omega) only [go_sem, pN_min, pN_max, w_u32, w_u64, Option.isNone_some, Option.isNone_none]; (try simp only [wrap_u32, wrap_u64]); rfl)) ?_ | refine pA_via (by (intro K; simp (disch := omega) only [go_sem, pN_min, pN_max, w_u32, w_u64, Option.isNone_some, Option.isNone_none]; (try simp only [wrap_u32, wrap_u64]); rfl)) ?_ | fail)
    all_goals exact ⟨rfl, hS.to⟩
  obtain ⟨n, rfl⟩ : ∃ m : Nat, n = m := ⟨n.toNat, by omega⟩
  repeat' (first | ((first | refine pN_lss_s ?_ ?_ | refine pN_gtr_s ?_ ?_) <;> intro hc <;> try (exfalso; omega)) | refine pIf_f ?_ | refine pGd_go (by rfl) ?_ | refine pL_l hS (by first | rfl | assumption) ?_ | (refine pDr_go hS ?_; clear hS; intro w hS) | (refine pN_b0 hS ?_; clear hS; intro s w hS) | (refine pN_app hS (by first | rfl | omega | simpa only [go_sem] using True.intro | (simp only [go_sem]; omega)) (by first | rfl | omega | simpa only [go_sem] using True.intro | (simp only [go_sem]; omega)) (by first | omega | (simp only [go_sem]; omega)) ?_; clear hS; intro s w hS) | refine pN_via (by (intro K; simp (disch := omega) only [go_sem, pN_min, pN_max, w_u32, w_u64, Option.isNone_some, Option.isNone_none]; (try simp only [wrap_u32, wrap_u64]); rfl)) ?_ | refine pA_via (by (intro K; simp (disch := omega) only [go_sem, pN_min, pN_max, w_u32, w_u64, Option.isNone_some, Option.isNone_none]; (try simp only [wrap_u32, wrap_u64]); rfl)) ?_ | fail)
  rw [List.nil_append] at *
  rcases hst : D.start l with ⟨t, u⟩ | e
  rotate_left 1
  · have he := D.start_e hst
    repeat' (first | (refine pc_rcdec_New (DNew_no hS (by omega) hst ?_); clear hS; intro w hS) | (refine pN_b0 hS ?_; clear hS; intro s w hS) | (refine pN_app hS (by first | rfl | omega | simpa only [go_sem] using True.intro | (simp only [go_sem]; omega)) (by first | rfl | omega | simpa only [go_sem] using True.intro | (simp only [go_sem]; omega)) (by first | omega | (simp only [go_sem]; omega)) ?_; clear hS; intro s w hS) | refine pN_via (by (intro K; simp (disch := omega) only [go_sem, pN_min, pN_max, w_u32, w_u64, Option.isNone_some, Option.isNone_none]; (try simp only [wrap_u32, wrap_u64]); rfl)) ?_ | fail)
    rw [List.nil_append] at *
    repeat' (first | refine pc_pithlaw08_num (num_ok _ (by omega) ?_) | (refine pc_rcdec_New (DNew_no hS (by omega) hst ?_); clear hS; intro w hS) | (refine pc_pithlaw08_known (known_ok hS ?_); clear hS; intro w hS) | (refine pN_neq_s ?_ ?_ <;> intro hc <;> try (exfalso; first | omega | exact hc rfl | exact hc (by assumption) | exact absurd hc (by assumption))) | refine pIf_t ?_ | refine pIf_f ?_ | refine pGd_go (by rfl) ?_ | refine pN_via (by (intro K; simp (disch := omega) only [go_sem, pN_min, pN_max, w_u32, w_u64, Option.isNone_some, Option.isNone_none]; (try simp only [wrap_u32, wrap_u64]); rfl)) ?_ | fail)
    exact ⟨rfl, hS.to⟩
  obtain ⟨ho, htb, _⟩ := D.start_ok hst
  repeat' (first | (refine pc_rcdec_New (DNew_in hS (by omega) hst ?_); clear hS; intro d w hS) | (refine pN_b0 hS ?_; clear hS; intro s w hS) | (refine pN_app hS (by first | rfl | omega | simpa only [go_sem] using True.intro | (simp only [go_sem]; omega)) (by first | rfl | omega | simpa only [go_sem] using True.intro | (simp only [go_sem]; omega)) (by first | omega | (simp only [go_sem]; omega)) ?_; clear hS; intro s w hS) | refine pN_via (by (intro K; simp (disch := omega) only [go_sem, pN_min, pN_max, w_u32, w_u64, Option.isNone_some, Option.isNone_none]; (try simp only [wrap_u32, wrap_u64]); rfl)) ?_ | fail)
  rw [List.nil_append] at *
  repeat' (first | refine pc_pithlaw08_num (num_ok _ (by omega) ?_) | (refine pc_rcdec_New (DNew_in hS (by omega) hst ?_); clear hS; intro d w hS) | (refine pN_neq_s ?_ ?_ <;> intro hc <;> try (exfalso; first | omega | exact hc rfl | exact hc (by assumption) | exact absurd hc (by assumption))) | refine pIf_f ?_ | refine pGd_go (by rfl) ?_ | refine pN_via (by (intro K; simp (disch := omega) only [go_sem, pN_min, pN_max, w_u32, w_u64, Option.isNone_some, Option.isNone_none]; (try simp only [wrap_u32, wrap_u64]); rfl)) ?_ | fail)
  rename_i so _ _ d1 _ d2 _ _ _ _ _ _
  have hS : Sat W w [rows cd_uint8 so l, Dec d1 t, Dec d2 t, Dec d t, cel bx ⟨98, [.int .i64 n, .slice sq.a qs.length sq.c]⟩, old W] := hS.to
  refine ⟨fun v w => ∃ (i : Nat) (l' : List UInt8), v = .int .i64 i ∧ i ≤ l.length ∧ l'.length = l.length ∧ Sat W w [rows cd_uint8 so l', Dec d1 t, Dec d2 t, Dec d t, cel bx ⟨98, [.int .i64 n, .slice sq.a qs.length sq.c]⟩, old W], fun v _ => l.length - (RowKit.intOf v).toNat, ⟨0, _, rfl, Nat.zero_le _, rfl, hS⟩, ?_⟩
  clear hS
  rintro _ _ w ⟨i, l', rfl, hi, hl', hS⟩
  rw [← hl'] at *
  by_cases hlt : i < l'.length
  · repeat' (first | (refine pN_lss_s ?_ ?_ <;> intro hc <;> try (exfalso; omega)) | refine pIf_t ?_ | refine pN_ix hS _ (by first | rfl | (exact (Int.toNat_of_nonneg (by omega)).symm)) (by first | rfl | omega | simpa only [go_sem] using True.intro | (simp only [go_sem]; omega)) (by first | omega | (simp only [go_sem]; omega)) fun a x hx ha hel => ?_ | (refine pN_sr hel hS (by rfl) (by rfl) (by first | omega | (simp only [go_sem]; omega)) ?_; clear hS; intro w hS) | refine pN_via (by (intro K; simp (disch := omega) only [go_sem, pN_min, pN_max, w_u32, w_u64, Option.isNone_some, Option.isNone_none]; (try simp only [wrap_u32, wrap_u64]); rfl)) ?_ | fail)
    exact ⟨⟨i + 1, _, rfl, by omega, by rw [List.length_set], hS⟩, by simp [RowKit.intOf] <;> omega⟩
  repeat' (first | (refine pc_prob_New (New_ok hS n (by omega) (by omega) ?_); clear hS; intro p w hS) | (refine pN_lss_s ?_ ?_ <;> intro hc <;> try (exfalso; omega)) | refine pIf_f ?_ | refine pGd_go (by rfl) ?_ | refine pN_via (by (intro K; simp (disch := omega) only [go_sem, pN_min, pN_max, w_u32, w_u64, Option.isNone_some, Option.isNone_none]; (try simp only [wrap_u32, wrap_u64]); rfl)) ?_ | fail)
  rename_i _ p1 _ p2 _
  rw [Int.toNat_natCast] at hS
  obtain ⟨a0, e1, e2⟩ : ∃ a0 : D.A, t = a0.1 ∧ List.replicate n 1024 = a0.2 := ⟨(t, List.replicate n 1024), rfl, rfl⟩
  have ha : D.AOk a0 := ⟨by rw [← e1]; exact ho, by rw [← e2]; exact B.Fine.new n⟩
  have hab : a0.1.b = l := by rw [← e1]; exact htb
  rw [e1, e2] at hS
  clear e1 e2
  have hlen := D.run_len qs a0
  refine pc_pithlaw08_answered (answered_ok (a := a0) (hS.fd2 (Dec d) (PSet p)) ha (by rw [hab]; omega) (by omega) fun sw w hS => ?_)
  repeat' (first | refine pN_via (by (intro K; simp (disch := omega) only [go_sem, pN_min, pN_max, w_u32, w_u64, Option.isNone_some, Option.isNone_none]; (try simp only [wrap_u32, wrap_u64]); rfl)) ?_ | fail)
  have hS : Sat W w [Dec d1 a0.1, PSet p1 a0.2, Dec d2 a0.1, PSet p2 a0.2, rows cd_uint32 sw (D.run a0 qs).1, cel bx ⟨98, [.int .i64 n, .slice sq.a qs.length sq.c]⟩, old W] := hS.to
  have hb : ∀ j, (D.at_ a0 qs j).1.b.length ≤ 140737488355328 := fun j => by
    rw [(D.at_ok ha qs j).2.b, hab]
    omega
  have hstp := D.at_step qs a0
  have hok := fun j => (D.at_ok ha qs j).1
  have hS : ApHas W d1 d2 p1 p2 bx n sq sw qs a0 (cnt tl 0) (0 - cnt tl 0) (.slice none 0 0) (.slice none 0 0) w := by
    refine ⟨⟨none, 0⟩, ⟨none, 0⟩, 0, 0, [], [], rfl, rfl, by simp [cnt_0], by simp [cnt_0], rfl, rfl, ?_⟩
    have hS : Sat W w (rows cd_uint32 ⟨none, 0⟩ [] :: _) := hS.nil 26 1
    have hS : Sat W w (rows cd_uint32 ⟨none, 0⟩ [] :: _) := hS.nil 26 1
    rw [D.at_0]
    exact hS.to
  have hcl := cnt_le tl
  refine ⟨fun x y v w => ∃ i : Nat, v = .int .i64 i ∧ i ≤ tl.length ∧ ApHas W d1 d2 p1 p2 bx n sq sw qs a0 (cnt tl i) (i - cnt tl i) x y w, fun _ _ v _ => tl.length - (RowKit.intOf v).toNat, ⟨0, rfl, Nat.zero_le _, hS⟩, ?_⟩
  clear hS
  rintro _ _ _ _ w ⟨i, rfl, hi, s1, s2, j1, j2, xs, ys, rfl, rfl, hj1, hj2, hxs, hys, hS⟩
  have hxl : xs.length = j1 := by rw [hxs, List.length_take]; omega
  have hyl : ys.length = j2 := by rw [hys, List.length_take]; omega
  have hci := hcl i
  by_cases hlt : i < tl.length
  · obtain ⟨first, hf⟩ : ∃ x, tl[i]? = some x := ⟨tl[i]'hlt, by simp⟩
    have hcs := cnt_succ hf
    repeat' (first | (refine pN_lss_s ?_ ?_ <;> intro hc <;> try (exfalso; omega)) | refine pIf_t ?_ | fail)
    refine ⟨fun x y w => ApHas W d1 d2 p1 p2 bx n sq sw qs a0 (cnt tl (i + 1)) (i + 1 - cnt tl (i + 1)) x y w, ?_, ?_⟩
    rotate_left 1
    · clear hS
      intro _ x y w hS
      repeat' (first | refine pN_via (by (intro K; simp (disch := omega) only [go_sem, pN_min, pN_max, w_u32, w_u64, Option.isNone_some, Option.isNone_none]; (try simp only [wrap_u32, wrap_u64]); rfl)) ?_ | fail)
      exact ⟨⟨i + 1, rfl, by omega, hS⟩, by simp [RowKit.intOf] <;> omega⟩
    rcases first with _ | _
    · rw [if_neg Bool.false_ne_true, Nat.add_zero] at hcs
      repeat' (first | refine pN_ld1 ha hS ?_ | refine pN_ixk hS _ (by first | rfl | (exact (Int.toNat_of_nonneg (by omega)).symm)) (by first | rfl | omega | simpa only [go_sem] using True.intro | (simp only [go_sem]; omega)) (by assumption) fun a ha hel => ?_ | fail)
      refine ⟨fun v w => v = .slice s1.a j1 s1.c ∧ Sat W w [rows cd_uint32 s1 xs, rows cd_uint32 s2 ys, Dec d1 (D.at_ a0 qs j1).1, PSet p1 (D.at_ a0 qs j1).2, Dec d2 (D.at_ a0 qs j2).1, PSet p2 (D.at_ a0 qs j2).2, rows cd_uint32 sw (D.run a0 qs).1, cel bx ⟨98, [.int .i64 n, .slice sq.a qs.length sq.c]⟩, old W], ?_, ?_⟩
      · repeat' (first | refine pIf_f ?_ | refine pGd_no (by rfl) ?_ | refine pN_via (by (intro K; simp (disch := omega) only [go_sem, pN_min, pN_max, w_u32, w_u64, Option.isNone_some, Option.isNone_none]; (try simp only [wrap_u32, wrap_u64]); rfl)) ?_ | fail)
        exact ⟨rfl, hS⟩
      clear hS
      rintro _ _ w ⟨rfl, hS⟩
      by_cases hj : j2 < (D.run a0 qs).1.length
      · obtain ⟨q, v, hq, hv, hask⟩ := hstp j2 hj
        repeat' (first | (refine pN_lss_s ?_ ?_ <;> intro hc <;> try (exfalso; omega)) | refine pIf_t ?_ | refine pGd_go (by rfl) ?_ | refine pN_via (by (intro K; simp (disch := omega) only [go_sem, pN_min, pN_max, w_u32, w_u64, Option.isNone_some, Option.isNone_none]; (try simp only [wrap_u32, wrap_u64]); rfl)) ?_ | fail)
        refine pN_sl2 hS j2 (j2 + 1) rfl (by omega) rfl (by omega) (by omega) fun s4 hp => ?_
        have hr4 : ∀ (L : List HA) [Rds cd_pithlaw08_Ask L sq qs], Rds cd_pithlaw08_Ask L s4 [q] := fun L h => by
          have := hp.rd L h
          rwa [one_cut hq] at this
        rw [show j2 + 1 - j2 = 1 from by omega]
        refine pc_pithlaw08_answered (answered_one (z := D.at_ a0 qs j2) (q := q) (hS.fd2 (Dec d2) (PSet p2)) (hok j2) hask (hb j2) fun s5 w hS => ?_)
        repeat' (first | (refine pN_app hS (by first | rfl | omega | simpa only [go_sem] using True.intro | (simp only [go_sem]; omega)) (by first | rfl | omega | simpa only [go_sem] using True.intro | (simp only [go_sem]; omega)) (by first | omega | (simp only [go_sem]; omega)) ?_; clear hS; intro s w hS) | refine pN_via (by (intro K; simp (disch := omega) only [go_sem, pN_min, pN_max, w_u32, w_u64, Option.isNone_some, Option.isNone_none]; (try simp only [wrap_u32, wrap_u64]); rfl)) ?_ | fail)
        have hT : (D.run a0 qs).1.take (j2 + 1) = ys ++ [v] := by rw [List.take_add_one, hv, hys]; rfl
        refine ⟨s1, s, j1, j2 + 1, xs, ys ++ [v], rfl, by simp [hyl], by omega, by omega, hxs, hT.symm, hS.to⟩
      · repeat' (first | (refine pN_lss_s ?_ ?_ <;> intro hc <;> try (exfalso; omega)) | refine pIf_f ?_ | refine pGd_go (by rfl) ?_ | refine pN_via (by (intro K; simp (disch := omega) only [go_sem, pN_min, pN_max, w_u32, w_u64, Option.isNone_some, Option.isNone_none]; (try simp only [wrap_u32, wrap_u64]); rfl)) ?_ | fail)
        exact ⟨s1, s2, j1, j2, xs, ys, rfl, rfl, by omega, by omega, hxs, hys, hS⟩
    · rw [if_pos rfl] at hcs
      repeat' (first | refine pN_ld1 ha hS ?_ | refine pN_ixk hS _ (by first | rfl | (exact (Int.toNat_of_nonneg (by omega)).symm)) (by first | rfl | omega | simpa only [go_sem] using True.intro | (simp only [go_sem]; omega)) (by assumption) fun a ha hel => ?_ | fail)
      refine ⟨fun v w => ApHas W d1 d2 p1 p2 bx n sq sw qs a0 (cnt tl (i + 1)) (i + 1 - cnt tl (i + 1)) v (.slice s2.a j2 s2.c) w, ?_, ?_⟩
      · by_cases hj : j1 < (D.run a0 qs).1.length
        · obtain ⟨q, v, hq, hv, hask⟩ := hstp j1 hj
          repeat' (first | (refine pN_lss_s ?_ ?_ <;> intro hc <;> try (exfalso; omega)) | refine pIf_t ?_ | refine pGd_go (by rfl) ?_ | refine pN_via (by (intro K; simp (disch := omega) only [go_sem, pN_min, pN_max, w_u32, w_u64, Option.isNone_some, Option.isNone_none]; (try simp only [wrap_u32, wrap_u64]); rfl)) ?_ | fail)
          refine pN_sl2 hS j1 (j1 + 1) rfl (by omega) rfl (by omega) (by omega) fun s4 hp => ?_
          have hr4 : ∀ (L : List HA) [Rds cd_pithlaw08_Ask L sq qs], Rds cd_pithlaw08_Ask L s4 [q] := fun L h => by
            have := hp.rd L h
            rwa [one_cut hq] at this
          rw [show j1 + 1 - j1 = 1 from by omega]
          refine pc_pithlaw08_answered (answered_one (z := D.at_ a0 qs j1) (q := q) (hS.fd2 (Dec d1) (PSet p1)) (hok j1) hask (hb j1) fun s5 w hS => ?_)
          repeat' (first | (refine pN_app hS (by first | rfl | omega | simpa only [go_sem] using True.intro | (simp only [go_sem]; omega)) (by first | rfl | omega | simpa only [go_sem] using True.intro | (simp only [go_sem]; omega)) (by first | omega | (simp only [go_sem]; omega)) ?_; clear hS; intro s w hS) | refine pN_via (by (intro K; simp (disch := omega) only [go_sem, pN_min, pN_max, w_u32, w_u64, Option.isNone_some, Option.isNone_none]; (try simp only [wrap_u32, wrap_u64]); rfl)) ?_ | fail)
          have hT : (D.run a0 qs).1.take (j1 + 1) = xs ++ [v] := by rw [List.take_add_one, hv, hxs]; rfl
          refine ⟨s, s2, j1 + 1, j2, xs ++ [v], ys, by simp [hxl], rfl, by omega, by omega, hT.symm, hys, hS.to⟩
        · repeat' (first | (refine pN_lss_s ?_ ?_ <;> intro hc <;> try (exfalso; omega)) | refine pIf_f ?_ | refine pGd_go (by rfl) ?_ | refine pN_via (by (intro K; simp (disch := omega) only [go_sem, pN_min, pN_max, w_u32, w_u64, Option.isNone_some, Option.isNone_none]; (try simp only [wrap_u32, wrap_u64]); rfl)) ?_ | fail)
          exact ⟨s1, s2, j1, j2, xs, ys, rfl, rfl, by omega, by omega, hxs, hys, hS⟩
      clear hS
      intro _ v w hS
      repeat' (first | refine pIf_f ?_ | refine pGd_no (by rfl) ?_ | refine pN_via (by (intro K; simp (disch := omega) only [go_sem, pN_min, pN_max, w_u32, w_u64, Option.isNone_some, Option.isNone_none]; (try simp only [wrap_u32, wrap_u64]); rfl)) ?_ | fail)
      exact hS
  obtain rfl : i = tl.length := by omega
  repeat' (first | (refine pN_lss_s ?_ ?_ <;> intro hc <;> try (exfalso; omega)) | refine pIf_f ?_ | refine pN_via (by (intro K; simp (disch := omega) only [go_sem, pN_min, pN_max, w_u32, w_u64, Option.isNone_some, Option.isNone_none]; (try simp only [wrap_u32, wrap_u64]); rfl)) ?_ | fail)
  refine ⟨fun v w => ∃ k : Nat, v = .int .i64 k ∧ k ≤ j1 ∧ Sat W w [rows cd_uint32 s1 xs, rows cd_uint32 s2 ys, Dec d1 (D.at_ a0 qs j1).1, PSet p1 (D.at_ a0 qs j1).2, Dec d2 (D.at_ a0 qs j2).1, PSet p2 (D.at_ a0 qs j2).2, rows cd_uint32 sw (D.run a0 qs).1, cel bx ⟨98, [.int .i64 n, .slice sq.a qs.length sq.c]⟩, old W], fun v _ => j1 - (RowKit.intOf v).toNat, ⟨0, rfl, Nat.zero_le _, hS⟩, ?_⟩
  clear hS
  rintro _ _ w ⟨k, rfl, hk, hS⟩
  by_cases hlt : k < j1
  · obtain ⟨y, hy⟩ : ∃ y, xs[k]? = some y := ⟨xs[k]'(by omega), by simp⟩
    have hy2 : (D.run a0 qs).1[k]? = some y := by
      rw [hxs, List.getElem?_take, if_pos hlt] at hy
      exact hy
    repeat' (first | (refine pN_lss_s ?_ ?_ <;> intro hc <;> try (exfalso; omega)) | (refine pA_neq_s ?_ ?_ <;> intro hc <;> try (exfalso; first | omega | exact hc rfl | exact hc (by assumption) | exact absurd hc (by assumption))) | refine pIf_t ?_ | refine pIf_f ?_ | refine pL_ld1 ha hS ?_ | (refine pDr_go hS ?_; clear hS; intro w hS) | refine pA_ixk hS _ (by first | rfl | (exact (Int.toNat_of_nonneg (by omega)).symm)) (by first | rfl | omega | simpa only [go_sem] using True.intro | (simp only [go_sem]; omega)) (by assumption) fun a ha hel => ?_ | refine pN_via (by (intro K; simp (disch := omega) only [go_sem, pN_min, pN_max, w_u32, w_u64, Option.isNone_some, Option.isNone_none]; (try simp only [wrap_u32, wrap_u64]); rfl)) ?_ | fail)
    exact ⟨⟨k + 1, rfl, by omega, hS.to⟩, by simp [RowKit.intOf] <;> omega⟩
  repeat' (first | (refine pN_lss_s ?_ ?_ <;> intro hc <;> try (exfalso; omega)) | refine pIf_f ?_ | refine pN_via (by (intro K; simp (disch := omega) only [go_sem, pN_min, pN_max, w_u32, w_u64, Option.isNone_some, Option.isNone_none]; (try simp only [wrap_u32, wrap_u64]); rfl)) ?_ | fail)
  refine ⟨fun v w => ∃ k : Nat, v = .int .i64 k ∧ k ≤ j2 ∧ Sat W w [rows cd_uint32 s1 xs, rows cd_uint32 s2 ys, Dec d1 (D.at_ a0 qs j1).1, PSet p1 (D.at_ a0 qs j1).2, Dec d2 (D.at_ a0 qs j2).1, PSet p2 (D.at_ a0 qs j2).2, rows cd_uint32 sw (D.run a0 qs).1, cel bx ⟨98, [.int .i64 n, .slice sq.a qs.length sq.c]⟩, old W], fun v _ => j2 - (RowKit.intOf v).toNat, ⟨0, rfl, Nat.zero_le _, hS⟩, ?_⟩
  clear hS
  rintro _ _ w ⟨k, rfl, hk, hS⟩
  by_cases hlt : k < j2
  · obtain ⟨y, hy⟩ : ∃ y, ys[k]? = some y := ⟨ys[k]'(by omega), by simp⟩
    have hy2 : (D.run a0 qs).1[k]? = some y := by
      rw [hys, List.getElem?_take, if_pos hlt] at hy
      exact hy
    repeat' (first | (refine pN_lss_s ?_ ?_ <;> intro hc <;> try (exfalso; omega)) | (refine pA_neq_s ?_ ?_ <;> intro hc <;> try (exfalso; first | omega | exact hc rfl | exact hc (by assumption) | exact absurd hc (by assumption))) | refine pIf_t ?_ | refine pIf_f ?_ | refine pL_ld1 ha hS ?_ | (refine pDr_go hS ?_; clear hS; intro w hS) | refine pA_ixk hS _ (by first | rfl | (exact (Int.toNat_of_nonneg (by omega)).symm)) (by first | rfl | omega | simpa only [go_sem] using True.intro | (simp only [go_sem]; omega)) (by assumption) fun a ha hel => ?_ | refine pN_via (by (intro K; simp (disch := omega) only [go_sem, pN_min, pN_max, w_u32, w_u64, Option.isNone_some, Option.isNone_none]; (try simp only [wrap_u32, wrap_u64]); rfl)) ?_ | fail)
    exact ⟨⟨k + 1, rfl, by omega, hS.to⟩, by simp [RowKit.intOf] <;> omega⟩
  repeat' (first | (refine pN_lss_s ?_ ?_ <;> intro hc <;> try (exfalso; omega)) | refine pIf_f ?_ | refine pN_via (by (intro K; simp (disch := omega) only [go_sem, pN_min, pN_max, w_u32, w_u64, Option.isNone_some, Option.isNone_none]; (try simp only [wrap_u32, wrap_u64]); rfl)) ?_ | fail)
  have hct : cnt tl 0 = 0 := cnt_0 tl
  refine ⟨fun u v w => ∃ k : Nat, u = .int .i64 (cnt tl k) ∧ v = .int .i64 k ∧ k ≤ tl.length ∧ Sat W w [rows cd_uint32 s1 xs, rows cd_uint32 s2 ys, Dec d1 (D.at_ a0 qs j1).1, PSet p1 (D.at_ a0 qs j1).2, Dec d2 (D.at_ a0 qs j2).1, PSet p2 (D.at_ a0 qs j2).2, rows cd_uint32 sw (D.run a0 qs).1, cel bx ⟨98, [.int .i64 n, .slice sq.a qs.length sq.c]⟩, old W], fun _ v _ => tl.length - (RowKit.intOf v).toNat, ⟨0, rfl, rfl, Nat.zero_le _, hS⟩, ?_⟩
  clear hS
  rintro _ _ _ w ⟨k, rfl, rfl, hk, hS⟩
  have hck := hcl k
  by_cases hlt : k < tl.length
  · obtain ⟨first, hf⟩ : ∃ x, tl[k]? = some x := ⟨tl[k]'hlt, by simp⟩
    have hcs := cnt_succ hf
    repeat' (first | (refine pN_lss_s ?_ ?_ <;> intro hc <;> try (exfalso; omega)) | refine pIf_t ?_ | fail)
    refine ⟨fun v w => v = .int .i64 (cnt tl (k + 1)) ∧ Sat W w [rows cd_uint32 s1 xs, rows cd_uint32 s2 ys, Dec d1 (D.at_ a0 qs j1).1, PSet p1 (D.at_ a0 qs j1).2, Dec d2 (D.at_ a0 qs j2).1, PSet p2 (D.at_ a0 qs j2).2, rows cd_uint32 sw (D.run a0 qs).1, cel bx ⟨98, [.int .i64 n, .slice sq.a qs.length sq.c]⟩, old W], ?_, ?_⟩
    rotate_left 1
    · clear hS
      rintro _ _ w ⟨rfl, hS⟩
      repeat' (first | refine pN_via (by (intro K; simp (disch := omega) only [go_sem, pN_min, pN_max, w_u32, w_u64, Option.isNone_some, Option.isNone_none]; (try simp only [wrap_u32, wrap_u64]); rfl)) ?_ | fail)
      exact ⟨⟨k + 1, rfl, rfl, by omega, hS⟩, by simp [RowKit.intOf] <;> omega⟩
    rw [hcs]
    rcases first with _ | _
    · repeat' (first | refine pIf_f ?_ | refine pN_ld1 ha hS ?_ | refine pN_ixk hS _ (by first | rfl | (exact (Int.toNat_of_nonneg (by omega)).symm)) (by first | rfl | omega | simpa only [go_sem] using True.intro | (simp only [go_sem]; omega)) (by assumption) fun a ha hel => ?_ | fail)
      exact ⟨rfl, hS⟩
    · repeat' (first | refine pIf_t ?_ | refine pN_ld1 ha hS ?_ | refine pN_ixk hS _ (by first | rfl | (exact (Int.toNat_of_nonneg (by omega)).symm)) (by first | rfl | omega | simpa only [go_sem] using True.intro | (simp only [go_sem]; omega)) (by assumption) fun a ha hel => ?_ | refine pN_via (by (intro K; simp (disch := omega) only [go_sem, pN_min, pN_max, w_u32, w_u64, Option.isNone_some, Option.isNone_none]; (try simp only [wrap_u32, wrap_u64]); rfl)) ?_ | fail)
      exact ⟨rfl, hS⟩
  obtain rfl : k = tl.length := by omega
  repeat' (first | (refine pN_lss_s ?_ ?_ <;> intro hc <;> try (exfalso; omega)) | (refine pN_eql_s ?_ ?_ <;> intro hc <;> try (exfalso; first | omega | exact hc rfl | exact hc (by assumption) | exact absurd hc (by assumption))) | refine pIf_f ?_ | refine pGd_go (by rfl) ?_ | refine pN_via (by (intro K; simp (disch := omega) only [go_sem, pN_min, pN_max, w_u32, w_u64, Option.isNone_some, Option.isNone_none]; (try simp only [wrap_u32, wrap_u64]); rfl)) ?_ | fail)
  all_goals exact ⟨rfl, hS.to⟩

end Go.Proofs.Ytoejaggkedlfmaa
