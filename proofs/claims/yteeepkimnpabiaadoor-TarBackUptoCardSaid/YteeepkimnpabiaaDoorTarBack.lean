/-
  The statement TarBack, walked: items come back from their archive; cut ones are told.
-/
import Derived.Test.YteeepkimnpabiaaDoorTarA
namespace Go.Proofs.YteeepkimnpabiaaDoor
open Go
set_option linter.unusedSimpArgs false
set_option linter.unnecessarySimpa false
set_option linter.unusedSectionVars false
set_option linter.unusedVariables false

instance fnyI : FnY Tryd.prog 51 := ⟨⟨_, _, _, Tryd.underlying51⟩⟩

attribute [local irreducible] oMv oV oU oCall oCallV oBi oBin oUn oLoad oStore oNil oFld oField oIdx oIndex oPick oAlloc oBox oBuild oBs oConv oMk oSl oExt oFn oIface oMap oLook oMapUp oRange oNext oAssert oPanic oRes pN pA pL pDr pIf gA pGd Calls A.made A.header A.oct A.wrong A.padn A.putB A.fS A.num A.text A.readTo A.getE A.getX A.getL A.getN A.many A.whole A.werr
set_option maxRecDepth 8000 in
set_option maxHeartbeats 8000000 in
theorem walk_TarBack (W : World) (x0 : Sl × List T_api_Item) (x1 : Sl × List Int) (k0 k1 : Nat)
    (h0 : RdP cd_api_Item (old W) x0.1 x0.2 ∧ x0.2.length * 80 ≤ reachBytes ∧ x0.2.length + 1 ≤ k0 ∧ ∀ c0 ∈ x0.2, ∃ k0', k0' ≤ k0 ∧ c0.ok W k0')
    (h1 : RdP cd_int (old W) x1.1 x1.2 ∧ x1.2.length * 8 ≤ reachBytes ∧ x1.2.length + 1 ≤ k1 ∧ ∀ c0 ∈ x1.2, ∃ k1', k1' ≤ k1 ∧ (-9223372036854775808 ≤ c0 ∧ c0 < 9223372036854775808))
    (q0 : k0 ≤ 1048576) (q1 : k1 ≤ 1048576) :
    Calls Tryd.prog 5 #[.slice x0.1.a x0.2.length x0.1.c, .slice x1.1.a x1.2.length x1.1.c] W fun e W' => e = .returned (.bool true) ∧ RowKit.Below W.heap.size W W' := by
  refine walk_end (pithlaw33_TarBack.calls ?_)
  unfold pithlaw33_TarBack.F
  have hS := Sat.start W
  obtain ⟨sl, its⟩ := x0
  obtain ⟨sc, cuts⟩ := x1
  dsimp only at h0 h1 ⊢
  obtain ⟨hr, _, hl, hok⟩ := h0
  obtain ⟨hrc, _, hlc, hcb⟩ := h1
  haveI := hr
  haveI := hrc
  have hdat : ∀ x ∈ its, Rds cd_uint8 [old W] x.Data.1 x.Data.2 ∧ x.Data.2.length ≤ 1048576 ∧ x.Name.length ≤ 1048576 ∧ x.Link.length ≤ 1048576 := fun x hx => by
    obtain ⟨k, hk, ⟨⟨_, _, hn, _⟩, ⟨_, _, hk2, _⟩, _, _, _, ⟨_, _, hr, _, hd, _⟩⟩⟩ := hok x hx
    exact ⟨inferInstanceAs (Rds cd_uint8 [old W] x.Data.1 x.Data.2), by omega, by omega, by omega⟩
  clear hok
  have hbd : ∀ k, (∀ x ∈ its.take k, A.wrong x = 0) → (A.many (its.take k)).length ≤ 1099511627776 + 1073741824 := fun k hk => by
    have h2 := A.many_bd (d := 1048576) (its := its.take k) fun x hx => ⟨hk x hx, (hdat x (List.mem_of_mem_take hx)).2.1⟩
    have h3 : (its.take k).length ≤ 1048576 := by rw [List.length_take]; omega
    exact Nat.le_trans h2 (Nat.le_trans (Nat.mul_le_mul_right _ h3) (by decide))
  have hwl := A.wholeE its
  have e0 : (.slice none 0 0 : Value) = .slice (⟨none, 0⟩ : Sl).a ([] : List UInt8).length (⟨none, 0⟩ : Sl).c := rfl
  rw [e0]
  refine pc_tar_Items (Calls.up (Items_ok (s := ⟨none, 0⟩) (l := []) hS (by decide) fun cb s2 w hS => ?_))
  refine pN_eql_fn ?_
  refine pIf_f ?_
  have hS : Sat W w [old W] := hS.to
  have hwc := A.werr_cases its
  refine pc_tar_Write (calls_then (R := fun v w => ∃ (sb : Sl) (b : List UInt8), v = .tuple #[.slice sb.a b.length sb.c, .int .i64 (A.werr its)] ∧ ((A.werr its ≠ 0 ∧ b = [] ∧ Sat W w [old W]) ∨ (A.werr its = 0 ∧ b = A.whole its ∧ Sat W w [rows cd_uint8 sb b, old W])))
    (Write_ok (sl := sl) (its := its) hS (fun x hx => (hdat x hx).1) (fun x hx => by have := hdat x hx; omega) (by omega) (fun k _ hk => by have := hbd k hk; omega)
      (fun h w hS => ⟨⟨none, 0⟩, [], rfl, .inl ⟨h, rfl, hS⟩⟩) fun h s w hS => ⟨s, _, by rw [h], .inr ⟨h, rfl, hS⟩⟩) ?_)
  clear hS
  rintro _ w ⟨sb, b, rfl, hor⟩
  obtain ⟨P, hP, hS⟩ : ∃ P : HA, ((A.werr its ≠ 0 ∧ b = []) ∨ (A.werr its = 0 ∧ b = A.whole its ∧ P = rows cd_uint8 sb b)) ∧ Sat W w [P, old W] := by
    rcases hor with ⟨h1, h2, h⟩ | ⟨h1, h2, h⟩
    · exact ⟨_, .inl ⟨h1, h2⟩, h.bag_nil⟩
    · exact ⟨_, .inr ⟨h1, h2, rfl⟩, h⟩
  clear hor
  repeat' (first | refine pN_via (by (intro K; simp (disch := omega) only [go_sem, pN_min, pN_max, w_u32, w_u64, Option.isNone_some, Option.isNone_none]; (try simp only [wrap_u32, wrap_u64]); rfl)) ?_ | fail)
  refine ⟨fun bad i w => ∃ k : Nat, k ≤ its.length ∧ bad = .int .i64 (A.werr (its.take k)) ∧ i = .int .i64 k ∧ Sat W w [P, old W], fun _ i _ => its.length - (RowKit.intOf i).toNat, ⟨0, Nat.zero_le _, by rw [List.take_zero, A.werr_nil], rfl, hS⟩, ?_⟩
  clear hS
  rintro _ _ _ w ⟨k, hk, rfl, rfl, hS⟩
  by_cases hlt : k < its.length
  · obtain ⟨x, hx⟩ : ∃ x, its[k]? = some x := ⟨its[k], by simp [hlt]⟩
    obtain ⟨hd, hdl, hn1, hn2⟩ := hdat x (List.mem_of_getElem? hx)
    haveI := hd
    have hwn := A.werr_next hx
    have hwx := A.wrong_cases x
    have hwk := A.werr_cases (its.take k)
    generalize hw1 : A.werr (its.take (k + 1)) = w1 at *
    generalize A.werr (its.take k) = w0 at *
    repeat' (first | (refine pN_lss_s ?_ ?_ <;> intro hc <;> try (exfalso; omega)) | refine pIf_t ?_ | fail)
    refine ⟨fun bad w => bad = .int .i64 w1 ∧ Sat W w [P, old W], ?_, ?_⟩
    rotate_left 1
    · clear hS
      rintro _ _ w ⟨rfl, hS⟩
      repeat' (first | refine pN_via (by (intro K; simp (disch := omega) only [go_sem, pN_min, pN_max, w_u32, w_u64, Option.isNone_some, Option.isNone_none]; (try simp only [wrap_u32, wrap_u64]); rfl)) ?_ | fail)
      exact ⟨⟨k + 1, hlt, by rw [hw1], rfl, hS⟩, by simp [RowKit.intOf] <;> omega⟩
    · repeat' (first | refine pN_ld_at ha hS (by rfl) ?_ | refine pN_la hS (by rfl) ?_ | (refine pN_sa hS (by rfl) (by rfl) (by rfl) ?_; clear hS; intro w hS; try dsimp only at hS) | (refine pN_nz hS ?_; clear hS; intro a w hS) | refine pN_ixk hS _ (by first | rfl | (exact (Int.toNat_of_nonneg (by omega)).symm)) (by first | rfl | omega | simpa only [go_sem] using True.intro | (simp only [go_sem]; omega)) (by assumption) fun a ha hel => ?_ | fail)
      refine pc_tar_Put (Put_ok x (by omega) (by omega) hS (fun h0 w hS => ?_) fun h0 s1 w hS => ?_)
      · generalize A.wrong x = wx at *
        by_cases h00 : w0 = 0
        · rw [if_pos h00] at hwn
          subst hwn
          repeat' (first | (refine pc_pithlaw33_num (num_ok _ ?_)) | ((first | refine pN_eql_s ?_ ?_ | refine pN_neq_s ?_ ?_) <;> intro hc <;> try (exfalso; first | omega | exact hc rfl | exact hc (by assumption) | exact absurd hc (by assumption))) | refine pIf_t ?_ | refine pN_via (by (intro K; simp (disch := omega) only [go_sem, pN_min, pN_max, w_u32, w_u64, Option.isNone_some, Option.isNone_none]; (try simp only [wrap_u32, wrap_u64]); rfl)) ?_ | fail)
          exact ⟨rfl, hS.to⟩
        · rw [if_neg h00] at hwn
          subst hwn
          repeat' (first | (refine pc_pithlaw33_num (num_ok _ ?_)) | ((first | refine pN_eql_s ?_ ?_ | refine pN_neq_s ?_ ?_) <;> intro hc <;> try (exfalso; first | omega | exact hc rfl | exact hc (by assumption) | exact absurd hc (by assumption))) | refine pIf_t ?_ | refine pIf_f ?_ | refine pN_via (by (intro K; simp (disch := omega) only [go_sem, pN_min, pN_max, w_u32, w_u64, Option.isNone_some, Option.isNone_none]; (try simp only [wrap_u32, wrap_u64]); rfl)) ?_ | fail)
          exact ⟨rfl, hS.to⟩
      · have hww : w1 = w0 := by
          rw [hwn, h0]
          split
          · rename_i h; exact h.symm
          · rfl
        obtain ⟨b1, b2, b3⟩ := A.put_back h0 [1, 2, 3]
        obtain ⟨p1, p2, p3⟩ := A.put_512 h0
        have hsame : ∀ s, same x (A.getX (A.putB x ++ [1, 2, 3]) s) := fun s => A.same_plain.2 (by rw [A.plain_getX, b3])
        have hgd : ∀ s, (A.getX (A.putB x ++ [1, 2, 3]) s).Data = (s, A.getL (A.putB x ++ [1, 2, 3])) := A.getX_data _
        have hl3 : (A.putB x ++ [1, 2, 3]).length = (A.putB x).length + 3 := by rw [List.length_append]; rfl
        generalize hpb : A.putB x = pb at *
        repeat' (first | (refine pc_pithlaw33_num (num_ok _ ?_)) | (refine pN_neq_s ?_ ?_ <;> intro hc <;> try (exfalso; first | omega | exact hc rfl | exact hc (by assumption) | exact absurd hc (by assumption))) | refine pIf_f ?_ | (refine pN_b0 hS ?_; clear hS; intro s w hS) | (refine pN_app hS (by first | rfl | omega | simpa only [go_sem] using True.intro | (simp only [go_sem]; omega)) (by first | rfl | omega | simpa only [go_sem] using True.intro | (simp only [go_sem]; omega)) (by first | omega | (simp only [go_sem]; omega)) ?_; clear hS; intro s w hS) | refine pN_via (by (intro K; simp (disch := omega) only [go_sem, pN_min, pN_max, w_u32, w_u64, Option.isNone_some, Option.isNone_none]; (try simp only [wrap_u32, wrap_u64]); rfl)) ?_ | fail)
        rw [List.nil_append] at hS ⊢
        refine pN_bl (C := cd_uint8) [bv 1, bv 2, bv 3] [1, 2, 3] rfl rfl rfl (by decide) hS (by decide) ?_
        clear hS
        intro s3 w hS
        refine pN_app (C := cd_uint8) (s := s) (l := pb) (s2 := s3) (m := [1, 2, 3]) hS rfl rfl (by show (pb.length + 3) * 1 ≤ _; omega) ?_
        clear hS
        intro s4 w hS
        refine pc_tar_Get (Get_ok (s := s4) (l := pb ++ [1, 2, 3]) hS (by rw [hl3]; omega) (fun h => absurd b1 h) fun _ s5 w hS => ?_)
        have hd1 : (A.getX (pb ++ [1, 2, 3]) s5).Data.1 = s5 := by rw [hgd]
        have hd2 : (A.getX (pb ++ [1, 2, 3]) s5).Data.2 = A.getL (pb ++ [1, 2, 3]) := by rw [hgd]
        have hsm := hsame s5
        rw [← hd1, ← hd2] at hS
        rw [b2]
        clear hgd hsame
        generalize A.getX (pb ++ [1, 2, 3]) s5 = y at *
        repeat' (first | refine pN_la hS (by rfl) ?_ | (refine pN_sa hS (by rfl) (by rfl) (by rfl) ?_; clear hS; intro w hS; try dsimp only at hS) | (refine pN_nz hS ?_; clear hS; intro a w hS) | refine pN_via (by (intro K; simp (disch := omega) only [go_sem, pN_min, pN_max, w_u32, w_u64, Option.isNone_some, Option.isNone_none]; (try simp only [wrap_u32, wrap_u64]); rfl)) ?_ | fail)
        refine pc_pithlaw33_same (same_ok x y hS fun w hS => ?_)
        rw [decide_eq_true hsm]
        repeat' (first | (refine pc_pithlaw33_num (num_ok _ ?_)) | (refine pN_neq_s ?_ ?_ <;> intro hc <;> try (exfalso; first | omega | exact hc rfl | exact hc (by assumption) | exact absurd hc (by assumption))) | refine pIf_f ?_ | refine pGd_go (by rfl) ?_ | refine pN_via (by (intro K; simp (disch := omega) only [go_sem, pN_min, pN_max, w_u32, w_u64, Option.isNone_some, Option.isNone_none]; (try simp only [wrap_u32, wrap_u64]); rfl)) ?_ | fail)
        exact ⟨congrArg (Value.int .i64) hww.symm, hS.to⟩
  · obtain rfl : k = its.length := by omega
    rw [List.take_length]
    clear hk
    rcases hP with ⟨hne, rfl⟩ | ⟨he, rfl, rfl⟩
    · generalize A.werr its = we at *
      repeat' (first | (refine pc_pithlaw33_num (num_ok _ ?_)) | (refine pc_pithlaw33_known (known_ok hS ?_); clear hS; intro w hS) | (refine pN_lss_s ?_ ?_ <;> intro hc <;> try (exfalso; omega)) | ((first | refine pN_eql_s ?_ ?_ | refine pN_neq_s ?_ ?_) <;> intro hc <;> try (exfalso; first | omega | exact hc rfl | exact hc (by assumption) | exact absurd hc (by assumption))) | refine pIf_t ?_ | refine pIf_f ?_ | refine pGd_go (by rfl) ?_ | refine pN_via (by (intro K; simp (disch := omega) only [go_sem, pN_min, pN_max, w_u32, w_u64, Option.isNone_some, Option.isNone_none]; (try simp only [wrap_u32, wrap_u64]); rfl)) ?_ | fail)
      all_goals exact ⟨rfl, hS.to⟩
    · have hwr := A.werr_of he
      obtain ⟨r1, r2⟩ := A.whole_back its hwr
      have hcut := A.whole_cut its hwr
      have h512 := A.many_512 hwr
      have hbl : (A.whole its).length = (A.many its).length + 1024 := by rw [hwl, List.length_append, List.length_replicate]
      have hb1 := hbd its.length (by rw [List.take_length]; exact hwr)
      rw [List.take_length] at hb1
      rw [he]
      generalize A.many its = mn at *
      generalize A.whole its = b at *
      repeat' (first | (refine pc_pithlaw33_num (num_ok _ ?_)) | (refine pN_lss_s ?_ ?_ <;> intro hc <;> try (exfalso; omega)) | (refine pN_neq_s ?_ ?_ <;> intro hc <;> try (exfalso; first | omega | exact hc rfl | exact hc (by assumption) | exact absurd hc (by assumption))) | refine pIf_f ?_ | fail)
      refine pc_tar_Read (Calls.up (Read_ok (s := sb) (l := b) hS (by omega) (fun hne w hS => absurd r2 hne) fun _ sl2 ots w hits hS => ?_))
      rw [r1] at hits
      have hol : ots.length = its.length := by
        have := congrArg List.length hits
        rwa [List.length_map, List.length_map] at this
      repeat' (first | refine pN_via (by (intro K; simp (disch := omega) only [go_sem, pN_min, pN_max, w_u32, w_u64, Option.isNone_some, Option.isNone_none]; (try simp only [wrap_u32, wrap_u64]); rfl)) ?_ | fail)
      refine pc_pithlaw33_sameAll (sameAll_ok (sl := sl2) (its := ots) (sl2 := sl) (ots := its) hS (fun x hx => ?_) (fun x hx => ?_) hits (by omega) fun w hS => ?_)
      · haveI := rds_datas hx
        infer_instance
      · haveI := (hdat x hx).1
        infer_instance
      have hS : Sat W w [rows cd_uint8 sb b, old W] := hS.to
      repeat' (first | (refine pc_pithlaw33_num (num_ok _ ?_)) | (refine pN_lss_s ?_ ?_ <;> intro hc <;> try (exfalso; omega)) | (refine pN_neq_s ?_ ?_ <;> intro hc <;> try (exfalso; first | omega | exact hc rfl | exact hc (by assumption) | exact absurd hc (by assumption))) | refine pIf_f ?_ | refine pGd_go (by rfl) ?_ | refine pN_via (by (intro K; simp (disch := omega) only [go_sem, pN_min, pN_max, w_u32, w_u64, Option.isNone_some, Option.isNone_none]; (try simp only [wrap_u32, wrap_u64]); rfl)) ?_ | fail)
      refine ⟨fun i w => ∃ k : Nat, k ≤ cuts.length ∧ i = .int .i64 k ∧ Sat W w [rows cd_uint8 sb b, old W], fun i _ => cuts.length - (RowKit.intOf i).toNat, ⟨0, Nat.zero_le _, rfl, hS⟩, ?_⟩
      clear hS
      rintro _ _ w ⟨k, hk, rfl, hS⟩
      by_cases hlt2 : k < cuts.length
      · obtain ⟨n, hn⟩ : ∃ n, cuts[k]? = some n := ⟨cuts[k], by simp [hlt2]⟩
        obtain ⟨_, _, hn1, hn2⟩ := hcb n (List.mem_of_getElem? hn)
        repeat' (first | (refine pN_lss_s ?_ ?_ <;> intro hc <;> try (exfalso; omega)) | refine pIf_t ?_ | fail)
        refine ⟨fun w => Sat W w [rows cd_uint8 sb b, old W], ?_, ?_⟩
        rotate_left 1
        · clear hS
          intro _ w hS
          repeat' (first | refine pN_via (by (intro K; simp (disch := omega) only [go_sem, pN_min, pN_max, w_u32, w_u64, Option.isNone_some, Option.isNone_none]; (try simp only [wrap_u32, wrap_u64]); rfl)) ?_ | fail)
          exact ⟨⟨k + 1, hlt2, rfl, hS⟩, by simp [RowKit.intOf] <;> omega⟩
        by_cases c1 : n < 0
        · repeat' (first | (refine pN_lss_s ?_ ?_ <;> intro hc <;> try (exfalso; omega)) | refine pIf_t ?_ | refine pGd_no (by rfl) ?_ | refine pN_ld1 ha hS ?_ | refine pN_ixk hS _ (by first | rfl | (exact (Int.toNat_of_nonneg (by omega)).symm)) (by first | rfl | omega | simpa only [go_sem] using True.intro | (simp only [go_sem]; omega)) (by assumption) fun a ha hel => ?_ | refine pN_via (by (intro K; simp (disch := omega) only [go_sem, pN_min, pN_max, w_u32, w_u64, Option.isNone_some, Option.isNone_none]; (try simp only [wrap_u32, wrap_u64]); rfl)) ?_ | fail)
          exact hS
        obtain ⟨nn, rfl⟩ : ∃ nn : Nat, n = nn := ⟨n.toNat, by omega⟩
        by_cases c2 : b.length ≤ nn
        · repeat' (first | ((first | refine pN_lss_s ?_ ?_ | refine pN_geq_s ?_ ?_) <;> intro hc <;> try (exfalso; omega)) | refine pIf_t ?_ | refine pGd_go (by rfl) ?_ | refine pN_ld1 ha hS ?_ | refine pN_ixk hS _ (by first | rfl | (exact (Int.toNat_of_nonneg (by omega)).symm)) (by first | rfl | omega | simpa only [go_sem] using True.intro | (simp only [go_sem]; omega)) (by assumption) fun a ha hel => ?_ | refine pN_via (by (intro K; simp (disch := omega) only [go_sem, pN_min, pN_max, w_u32, w_u64, Option.isNone_some, Option.isNone_none]; (try simp only [wrap_u32, wrap_u64]); rfl)) ?_ | fail)
          exact hS
        have hc1 := hcut nn (by omega)
        have htl : (b.take nn).length = nn := by rw [List.length_take]; omega
        repeat' (first | ((first | refine pN_lss_s ?_ ?_ | refine pN_geq_s ?_ ?_) <;> intro hc <;> try (exfalso; omega)) | refine pIf_f ?_ | refine pGd_go (by rfl) ?_ | refine pN_ld1 ha hS ?_ | refine pN_ixk hS _ (by first | rfl | (exact (Int.toNat_of_nonneg (by omega)).symm)) (by first | rfl | omega | simpa only [go_sem] using True.intro | (simp only [go_sem]; omega)) (by assumption) fun a ha hel => ?_ | refine pN_via (by (intro K; simp (disch := omega) only [go_sem, pN_min, pN_max, w_u32, w_u64, Option.isNone_some, Option.isNone_none]; (try simp only [wrap_u32, wrap_u64]); rfl)) ?_ | fail)
        refine pN_slhw (C := cd_uint8) (s := sb) (l := b) hS nn rfl rfl (by omega) ?_
        intro hp
        generalize b.take nn = bt at *
        rw [← htl]
        refine pc_tar_Read (Calls.up (Read_ok (s := sb.sub 0 cd_uint8.size) (l := bt) hS (by omega) (fun _ w hS => ?_) fun h => absurd h (by rw [hc1]; decide)))
        rw [hc1]
        repeat' (first | (refine pc_pithlaw33_num (num_ok _ ?_)) | (refine pN_neq_s ?_ ?_ <;> intro hc <;> try (exfalso; first | omega | exact hc rfl | exact hc (by assumption) | exact absurd hc (by assumption))) | refine pIf_f ?_ | refine pGd_go (by rfl) ?_ | refine pN_via (by (intro K; simp (disch := omega) only [go_sem, pN_min, pN_max, w_u32, w_u64, Option.isNone_some, Option.isNone_none]; (try simp only [wrap_u32, wrap_u64]); rfl)) ?_ | fail)
        exact hS.to
      · repeat' (first | (refine pc_pithlaw33_known (known_ok hS ?_); clear hS; intro w hS) | (refine pN_lss_s ?_ ?_ <;> intro hc <;> try (exfalso; omega)) | refine pIf_f ?_ | fail)
        exact ⟨rfl, hS.to⟩
end Go.Proofs.YteeepkimnpabiaaDoor
