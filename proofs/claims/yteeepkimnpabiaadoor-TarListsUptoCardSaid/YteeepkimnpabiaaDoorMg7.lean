/-
  Texts of one proof, one behind the other: TarLists.
-/
import Derived.Test.YteeepkimnpabiaaDoorMg6
namespace Go.Proofs.YteeepkimnpabiaaDoor
open Go
set_option linter.unusedSimpArgs false
set_option linter.unnecessarySimpa false
set_option linter.unusedSectionVars false
set_option linter.unusedVariables false

abbrev dat (x : T_api_Item) : List UInt8 := x.Data.2
/-- What one round holds. -/
def roundT (its : List T_api_Item) : List (List UInt8) := A.whole its :: (its.take 3).map dat ++ its.flatMap fun x => [A.putB x, dat x]

theorem flat2 : ∀ (its : List T_api_Item), (its.flatMap fun x => [A.putB x, dat x]).length = its.length * 2
  | [] => rfl
  | x :: l => by
    rw [List.flatMap_cons, List.length_append, flat2 l, List.length_cons]
    show 2 + l.length * 2 = (l.length + 1) * 2
    omega
theorem flat_rep {α : Type} (D : List α) : ∀ (j : Nat), (List.replicate j D).flatten.length = j * D.length
  | 0 => by simp
  | j + 1 => by rw [List.replicate_succ, List.flatten_cons, List.length_append, flat_rep D j, Nat.succ_mul, Nat.add_comm]

attribute [local irreducible] oMv oV oU oCall oCallV oBi oBin oUn oLoad oStore oNil oFld oField oIdx oIndex oPick oAlloc oBox oBuild oBs oConv oMk oSl oExt oFn oIface oMap oLook oMapUp oRange oNext oAssert oPanic oRes pN pA pL pDr pIf gA pGd Calls A.made A.header A.oct A.wrong A.padn A.putB A.fS A.num A.text A.readTo A.getE A.getX A.getL A.getN A.many A.whole A.werr mkW bgW enW rfW jmpW pY pE
set_option maxRecDepth 8000 in
set_option maxHeartbeats 8000000 in
theorem walk_TarLists (W : World) (x0 : Sl × List T_api_Item) (k0 : Nat)
    (h0 : RdP cd_api_Item (old W) x0.1 x0.2 ∧ x0.2.length * 80 ≤ reachBytes ∧ x0.2.length + 1 ≤ k0 ∧ ∀ c0 ∈ x0.2, ∃ k0', k0' ≤ k0 ∧ c0.ok W k0')
    (q0 : k0 ≤ 1048576) :
    Calls Tryd.prog 7 #[.slice x0.1.a x0.2.length x0.1.c] W fun e W' => e = .returned (.bool true) ∧ RowKit.Below W.heap.size W W' := by
  refine walk_end (pithlaw33_TarListsR.calls ?_)
  unfold pithlaw33_TarListsR.F
  have hS := Sat.start W
  obtain ⟨sl, its⟩ := x0
  dsimp only at h0 ⊢
  obtain ⟨hr, _, hl, hok⟩ := h0
  haveI := hr
  have hdat : ∀ x ∈ its, RdP cd_uint8 (old W) x.Data.1 x.Data.2 ∧ x.Data.2.length ≤ 1048576 ∧ x.Name.length ≤ 1048576 ∧ x.Link.length ≤ 1048576 := fun x hx => by
    obtain ⟨k, hk, ⟨⟨_, _, hn, _⟩, ⟨_, _, hk2, _⟩, _, _, _, ⟨_, _, hr, _, hd, _⟩⟩⟩ := hok x hx
    exact ⟨hr, by omega, by omega, by omega⟩
  clear hok
  have hbd : ∀ k, (∀ x ∈ its.take k, A.wrong x = 0) → (A.many (its.take k)).length ≤ 1099511627776 + 1073741824 := fun k hk => by
    have h2 := A.many_bd (d := 1048576) (its := its.take k) fun x hx => ⟨hk x hx, (hdat x (List.mem_of_mem_take hx)).2.1⟩
    have h3 : (its.take k).length ≤ 1048576 := by rw [List.length_take]; omega
    exact Nat.le_trans h2 (Nat.le_trans (Nat.mul_le_mul_right _ h3) (by decide))
  have hwl := A.wholeE its
  refine pN_bx hS (by rfl) ?_
  clear hS
  intro a1 w hS
  refine pN_nz hS ?_
  clear hS
  intro a2 w hS
  repeat' (first | refine pN_l hS (by first | rfl | assumption) ?_ | fail)
  refine pc_tar_Write (Write_one (sl := sl) (its := its) rfl hS (fun x hx => ?_) (fun x hx => ?_) (by omega) (fun k _ hk => by have := hbd k hk; omega) ?_)
  · haveI := (hdat x hx).1
    infer_instance
  · obtain ⟨_, _, h1, h2⟩ := hdat x hx
    exact ⟨by omega, by omega⟩
  clear hS
  intro s1 b1 w hb1 hS
  by_cases he : A.werr its ≠ 0
  · rw [A.wrB, if_neg he] at hb1
    subst hb1
    generalize A.werr its = we at *
    repeat' (first | refine mk_nil ?_ | (refine pc_pithlaw33_num (num_ok _ ?_)) | (refine pc_pithlaw33_known (known_ok hS ?_); clear hS; intro w hS) | ((first | refine pN_eql_s ?_ ?_ | refine pN_neq_s ?_ ?_) <;> intro hc <;> try (exfalso; first | omega | exact hc rfl | exact hc (by assumption) | exact absurd hc (by assumption))) | refine pIf_t ?_ | refine pGd_go (by rfl) ?_ | refine pL_r hS (by rfl) ?_ | (refine pN_s hS (by first | exact Nat.le_of_ble_eq_true rfl | assumption) (by rfl) ?_; clear hS; intro w hS; try simp only [List.set_cons_zero, List.set_cons_succ] at hS) | refine pN_via (by (intro K; simp (disch := omega) only [go_sem, pN_min, pN_max, w_u32, w_u64, Option.isNone_some, Option.isNone_none]; (try simp only [wrap_u32, wrap_u64]); rfl)) ?_ | fail)
    exact ⟨rfl, hS.to⟩
  have he : A.werr its = 0 := by omega
  have hS : Sat W w [cel a2 ⟨4, [.bool false]⟩, cel a1 ⟨34, [.slice sl.a its.length sl.c]⟩, old W] := hS.to
  have hwr := A.werr_of he
  obtain ⟨r1, r2⟩ := A.whole_back its hwr
  have hbl : (A.whole its).length = (A.many its).length + 1024 := by rw [hwl, List.length_append, List.length_replicate]
  have hb2 := hbd its.length (by rw [List.take_length]; exact hwr)
  rw [List.take_length] at hb2
  rw [he]
  repeat' (first | (refine pc_pithlaw33_num (num_ok _ ?_)) | (refine pN_neq_s ?_ ?_ <;> intro hc <;> try (exfalso; first | omega | exact hc rfl | exact hc (by assumption) | exact absurd hc (by assumption))) | refine pIf_f ?_ | (refine pN_s hS (by first | exact Nat.le_of_ble_eq_true rfl | assumption) (by rfl) ?_; clear hS; intro w hS; try simp only [List.set_cons_zero, List.set_cons_succ] at hS) | (refine pN_nz hS ?_; clear hS; intro a w hS) | refine pN_fn ?_ | refine pN_via (by (intro K; simp (disch := omega) only [go_sem, pN_min, pN_max, w_u32, w_u64, Option.isNone_some, Option.isNone_none]; (try simp only [wrap_u32, wrap_u64]); rfl)) ?_ | fail)
  rename_i a5 _ a6 _ _
  rename Nat => a7
  have hS : Sat W w (marks [] :: heldA a5 a6 [] [] :: cel a7 ⟨59, [.func (.func 24) #[] #[.pointer (some ⟨a5, 0, none⟩), .pointer (some ⟨a6, 0, none⟩)]]⟩ :: cel a2 ⟨4, [.bool false]⟩ :: cel a1 ⟨34, [.slice sl.a its.length sl.c]⟩ :: [old W]) := by
    have h1 : Sat W w (rows cd_sl_uint8 ⟨none, 0⟩ [] :: rows cd_string ⟨none, 0⟩ [] :: hBag [] :: _) := (hS.bag_nil.nil cd_string.e cd_string.size).nil cd_sl_uint8.e cd_sl_uint8.size
    have h2 := heldA_shut (x5 := a5) (x6 := a6) (sH := ⟨none, 0⟩) (sW := ⟨none, 0⟩) (H := []) (T := []) (L := cel a7 ⟨59, [.func (.func 24) #[] #[.pointer (some ⟨a5, 0, none⟩), .pointer (some ⟨a6, 0, none⟩)]]⟩ :: cel a2 ⟨4, [.bool false]⟩ :: cel a1 ⟨34, [.slice sl.a its.length sl.c]⟩ :: [old W]) h1.to
    exact Sat.bag_nil h2
  have hDl : (roundT its).length ≤ 4194304 := by
    have h1 := flat2 its
    unfold roundT
    rw [List.length_append, List.length_cons, List.length_map, List.length_take, h1]
    omega
  have hrp : A.readP (A.whole its) = its.map A.plain := by rw [A.readP, if_pos r2, r1]
  have hwP : A.wrB its = A.whole its := by rw [A.wrB, if_pos he]
  clear hb1 hwl
  refine ⟨fun ms i w => ∃ (j : Nat) (H : Hs), j ≤ 2 ∧ i = .int .i64 j ∧ H.map (·.2) = (List.replicate j (roundT its)).flatten ∧ Sat W w (marks ms :: heldA a5 a6 H (List.replicate j (roundT its)).flatten :: cel a7 ⟨59, [.func (.func 24) #[] #[.pointer (some ⟨a5, 0, none⟩), .pointer (some ⟨a6, 0, none⟩)]]⟩ :: cel a2 ⟨4, [.bool false]⟩ :: cel a1 ⟨34, [.slice sl.a its.length sl.c]⟩ :: [old W]), fun i _ => 2 - (RowKit.intOf i).toNat,
    ⟨0, [], by omega, rfl, rfl, hS⟩, ?_⟩
  clear hS
  rintro _ _ ms w ⟨j, H, hj, rfl, hH, hS⟩
  have hTl : (List.replicate j (roundT its)).flatten.length ≤ 8388608 := by
    rw [flat_rep]
    exact Nat.mul_le_mul hj hDl
  by_cases hlt : j < 2
  · have hTn : (List.replicate (j + 1) (roundT its)).flatten = (List.replicate j (roundT its)).flatten ++ roundT its := by
      rw [List.replicate_succ', List.flatten_append, List.flatten_singleton]
    generalize hTd : (List.replicate j (roundT its)).flatten = T at *
    repeat' (first | (refine pN_lss_s ?_ ?_ <;> intro hc <;> try (exfalso; omega)) | refine pIf_t ?_ | fail)
    refine ⟨fun ms w => ∃ H : Hs, H.map (·.2) = T ++ roundT its ∧ Sat W w (marks ms :: heldA a5 a6 H (T ++ roundT its) :: cel a7 ⟨59, [.func (.func 24) #[] #[.pointer (some ⟨a5, 0, none⟩), .pointer (some ⟨a6, 0, none⟩)]]⟩ :: cel a2 ⟨4, [.bool false]⟩ :: cel a1 ⟨34, [.slice sl.a its.length sl.c]⟩ :: [old W]), ?_, ?_⟩
    rotate_left 1
    · clear hS
      rintro _ ms w ⟨H, hH, hS⟩
      repeat' (first | refine pN_via (by (intro K; simp (disch := omega) only [go_sem, pN_min, pN_max, w_u32, w_u64, Option.isNone_some, Option.isNone_none]; (try simp only [wrap_u32, wrap_u64]); rfl)) ?_ | fail)
      refine ⟨⟨j + 1, H, hlt, rfl, by rw [hTn]; exact hH, by rw [hTn]; exact hS⟩, ?_⟩
      show 2 - (RowKit.intOf (.int .i64 ((j + 1 : Nat) : Int))).toNat < 2 - (RowKit.intOf (.int .i64 (j : Int))).toNat
      simp only [RowKit.intOf, Int.toNat_natCast]
      omega
    have hHl : H.length = T.length := by rw [← hH, List.length_map]
    repeat' (first | refine pN_l hS (by first | rfl | assumption) ?_ | fail)
    refine pc_pithlaw33_room (room_ok hS (fun x hx => ?_) (by omega) ?_)
    · haveI := (hdat x hx).1
      exact ⟨inferInstance, (hdat x hx).2.1⟩
    clear hS
    intro rm sL sF ps w hps hS
    unfold roomC at hS
    have hpl : ps.length = its.length := by rw [← hps, List.length_map]
    have hyl : (ps.map yOf).length = its.length := by rw [List.length_map, hpl]
    haveI hsub : ∀ (L : List HA) [Rds cd_api_Item L sL (ps.map yOf ++ [mine])], Rds cd_api_Item L (sL.sub 0 cd_api_Item.size) (ps.map yOf) := fun L _ => by
      have := Rds.sub (C := cd_api_Item) (L := L) (s := sL) (l := ps.map yOf ++ [mine]) 0 its.length (Nat.zero_le _) (by rw [List.length_append, hyl]; exact Nat.le_add_right _ _)
      rwa [List.drop_zero, Nat.sub_zero, List.take_left' hyl] at this
    generalize sL.sub 0 cd_api_Item.size = sC at *
    have hpi : ∀ p ∈ ps, p.1 ∈ its := fun p hp => by rw [← hps]; exact List.mem_map.2 ⟨p, hp, rfl⟩
    have hpe : ∀ k, ((ps.map yOf).take k).map A.plain = (its.take k).map A.plain := fun k => by
      rw [← hps, ← List.map_take, ← List.map_take, List.map_map, List.map_map]
      exact List.map_congr_left fun p _ => plain_yOf p
    have hpe0 : (ps.map yOf).map A.plain = its.map A.plain := by
      rw [← hps, List.map_map, List.map_map]
      exact List.map_congr_left fun p _ => plain_yOf p
    obtain ⟨hw1, hw2⟩ := A.wrB_plain hpe0
    have hb2 : ∀ k, k ≤ (ps.map yOf).length → (∀ x ∈ (ps.map yOf).take k, A.wrong x = 0) → (A.many ((ps.map yOf).take k)).length + 1024 ≤ 140737488355328 := fun k _ hk => by
      have h := hbd k fun x hx => hwr x (List.mem_of_mem_take hx)
      rw [A.many_plain (hpe k)]
      omega
    repeat' (first | refine pN_via (by (intro K; simp (disch := omega) only [go_sem, pN_min, pN_max, w_u32, w_u64, Option.isNone_some, Option.isNone_none]; (try simp only [wrap_u32, wrap_u64]); rfl)) ?_ | fail)
    refine pc_tar_Write (Write_one (sl := sC) (its := ps.map yOf) hyl.symm hS (fun x hx => ?_) (fun x hx => ?_) (by omega) hb2 ?_)
    · obtain ⟨p, hp, rfl⟩ := List.mem_map.1 hx
      haveI := rds_pBag hp
      exact rds_y hp
    · obtain ⟨p, hp, rfl⟩ := List.mem_map.1 hx
      obtain ⟨_, _, h1, h2⟩ := hdat _ (hpi p hp)
      exact ⟨by show p.1.Name.length ≤ _; omega, by show p.1.Link.length ≤ _; omega⟩
    clear hS
    intro s1 b1 w hb1 hS
    rw [hw2, hwP] at hb1
    subst hb1
    rw [hw1, he]
    clear hw1 hw2 hb2 hpe hpe0
    generalize hwb : A.whole its = b at *
    have hbb : b.length ≤ 1099511627776 + 1073741824 + 1024 := by omega
    repeat' (first | refine pN_l hS (by first | rfl | assumption) ?_ | refine pN_via (by (intro K; simp (disch := omega) only [go_sem, pN_min, pN_max, w_u32, w_u64, Option.isNone_some, Option.isNone_none]; (try simp only [wrap_u32, wrap_u64]); rfl)) ?_ | fail)
    refine pY_of (pv_pithlaw33_TarLists_c1 (cap := [.pointer (some ⟨a5, 0, none⟩), .pointer (some ⟨a6, 0, none⟩)]) (keep_ok (s := s1) (b := b) (x5 := a5) (x6 := a6) (H := H) (T := T) (hS.fd2 (heldA a5 a6 H) (rows cd_uint8 s1)) (by omega) (by omega) (by omega) ?_))
    clear hS
    intro w hS
    haveI hsr : RdP cd_uint8 (heldA a5 a6 (H ++ [(s1, b)]) (T ++ [b])) s1 b := rds_held (p := (s1, b)) (by simp)
    refine pN_b0 (C := cd_uint8) hS ?_
    clear hS
    intro so0 w hS
    refine pN_app (C := cd_uint8) (s := so0) (l := []) (s2 := s1) (m := b) hS rfl rfl (by rw [List.length_nil]; omega) ?_
    clear hS
    intro so w hS
    rw [List.nil_append] at hS ⊢
    refine pc_tar_Read (Read_one (s := so) (l := b) rfl hS (by omega) ?_)
    clear hS
    intro sr ots w hots hS
    rw [hrp] at hots
    rw [r2]
    have hol : ots.length = its.length := by
      have := congrArg List.length hots
      rwa [List.length_map, List.length_map] at this
    repeat' (first | (refine pc_pithlaw33_num (num_ok _ ?_)) | (refine pN_neq_s ?_ ?_ <;> intro hc <;> try (exfalso; first | omega | exact hc rfl | exact hc (by assumption) | exact absurd hc (by assumption))) | refine pIf_f ?_ | refine pGd_go (by rfl) ?_ | refine pN_l hS (by first | rfl | assumption) ?_ | refine pN_via (by (intro K; simp (disch := omega) only [go_sem, pN_min, pN_max, w_u32, w_u64, Option.isNone_some, Option.isNone_none]; (try simp only [wrap_u32, wrap_u64]); rfl)) ?_ | fail)
    refine pc_tar_Items (Calls.up (Items_ok (s := so) (l := b) hS (by omega) ?_))
    clear hS
    intro cb sq w hS
    repeat' (first | (refine pN_s hS (by first | exact Nat.le_of_ble_eq_true rfl | assumption) (by rfl) ?_; clear hS; intro w hS; try simp only [List.set_cons_zero, List.set_cons_succ] at hS) | (refine pN_nz hS ?_; clear hS; intro a w hS) | fail)
    rename_i a15 _ _ a16 _ _ _
    rename Nat => a17
    generalize hH1 : H ++ [(s1, b)] = H1 at *
    generalize hT1 : T ++ [b] = T1 at *
    have hHT1 : H1.map (·.2) = T1 := by rw [← hH1, ← hT1, List.map_append, hH]; rfl
    have hTl1 : T1.length ≤ 8388609 := by rw [← hT1, List.length_append, List.length_singleton]; omega
    refine ⟨fun ms w => ∃ H2 : Hs, H2.map (·.2) = T1 ++ (its.take 3).map dat ∧ Sat W w (marks ms :: cel a16 ⟨3, [.int .i64 (min its.length 3 : Nat)]⟩ :: cel a17 ⟨3, [.int .i64 (min its.length 2 * its.length : Nat)]⟩ :: heldA a5 a6 H2 (T1 ++ (its.take 3).map dat) :: rows cd_uint8 so b :: rows cd_api_Item sr ots :: bag (datas ots) :: rows cd_api_Item sL (ps.map yOf ++ [mine]) :: pBag ps :: cel a7 ⟨59, [.func (.func 24) #[] #[.pointer (some ⟨a5, 0, none⟩), .pointer (some ⟨a6, 0, none⟩)]]⟩ :: cel a2 ⟨4, [.bool false]⟩ :: cel a1 ⟨34, [.slice sl.a its.length sl.c]⟩ :: [old W]), ?_, ?_⟩
    · have hal : (A.arch b).1.length = its.length := by
        have := congrArg List.length r1
        rwa [List.length_map, List.length_map] at this
      refine pN_l hS rfl ?_
      refine rf_go hS ?_
      clear hS
      intro lp D rc w hrc1 hrc2 hS hY
      have e0 : (0 : Int) = ((0 * its.length : Nat) : Int) := by rw [Nat.zero_mul]; rfl
      have hS : Sat W w (lpB lp rc :: mark D :: marks ms :: cel cb ⟨22, [.slice sq.a b.length sq.c]⟩ :: rows cd_uint8 sq b :: cel a15 ⟨51, [.func (.func 42) #[] #[.pointer (some ⟨cb, 0, none⟩)]]⟩ :: cel a16 ⟨3, [.int .i64 0]⟩ :: cel a17 ⟨3, [.int .i64 0]⟩ :: heldA a5 a6 H1 T1 :: rows cd_uint8 so b :: rows cd_api_Item sr ots :: bag (datas ots) :: rows cd_api_Item sL (ps.map yOf ++ [mine]) :: pBag ps :: cel a7 ⟨59, [.func (.func 24) #[] #[.pointer (some ⟨a5, 0, none⟩), .pointer (some ⟨a6, 0, none⟩)]]⟩ :: cel a2 ⟨4, [.bool false]⟩ :: cel a1 ⟨34, [.slice sl.a its.length sl.c]⟩ :: [old W]) := hS.to
      refine pE_fn (fun a w => call_tar_Items_c1 a w) (Items_c1_ok (s := sq) (l := b) (cb := cb)
        (fun k L => k ≤ 2 ∧ ∃ H2 : Hs, H2.map (·.2) = T1 ++ (its.take k).map dat ∧ L = (lpB lp rc :: mark D :: marks ms :: cel cb ⟨22, [.slice sq.a b.length sq.c]⟩ :: rows cd_uint8 sq b :: cel a15 ⟨51, [.func (.func 42) #[] #[.pointer (some ⟨cb, 0, none⟩)]]⟩ :: cel a16 ⟨3, [.int .i64 (k : Nat)]⟩ :: cel a17 ⟨3, [.int .i64 (k * its.length : Nat)]⟩ :: heldA a5 a6 H2 (T1 ++ (its.take k).map dat) :: rows cd_uint8 so b :: rows cd_api_Item sr ots :: bag (datas ots) :: rows cd_api_Item sL (ps.map yOf ++ [mine]) :: pBag ps :: cel a7 ⟨59, [.func (.func 24) #[] #[.pointer (some ⟨a5, 0, none⟩), .pointer (some ⟨a6, 0, none⟩)]]⟩ :: cel a2 ⟨4, [.bool false]⟩ :: cel a1 ⟨34, [.slice sl.a its.length sl.c]⟩ :: [old W]))
        (fun L => 3 ≤ its.length ∧ ∃ H2 : Hs, H2.map (·.2) = T1 ++ (its.take 3).map dat ∧ L = (lpB lp (leftBy rc (.exit 2)) :: mark D :: marks ms :: cel cb ⟨22, [.slice sq.a b.length sq.c]⟩ :: rows cd_uint8 sq b :: cel a15 ⟨51, [.func (.func 42) #[] #[.pointer (some ⟨cb, 0, none⟩)]]⟩ :: cel a16 ⟨3, [.int .i64 (3 : Nat)]⟩ :: cel a17 ⟨3, [.int .i64 (2 * its.length : Nat)]⟩ :: heldA a5 a6 H2 (T1 ++ (its.take 3).map dat) :: rows cd_uint8 so b :: rows cd_api_Item sr ots :: bag (datas ots) :: rows cd_api_Item sL (ps.map yOf ++ [mine]) :: pBag ps :: cel a7 ⟨59, [.func (.func 24) #[] #[.pointer (some ⟨a5, 0, none⟩), .pointer (some ⟨a6, 0, none⟩)]]⟩ :: cel a2 ⟨4, [.bool false]⟩ :: cel a1 ⟨34, [.slice sl.a its.length sl.c]⟩ :: [old W]))
        ⟨by omega, H1, by rw [hHT1, List.take_zero, List.map_nil, List.append_nil], by rw [Nat.zero_mul, List.take_zero, List.map_nil, List.append_nil]; rfl⟩ hS (fun k L ⟨_, _, _, e⟩ => by subst e; infer_instance) (by omega) ?_ ?_ ?_ ?_)
      · clear hS
        rintro R k m L s4 w hk ⟨hk2, H2, hH2, rfl⟩ hS
        have hkl := (List.getElem?_eq_some_iff.1 hk).1
        obtain ⟨y, hy⟩ : ∃ y, its[k]? = some y := ⟨its[k]'(by omega), by simp⟩
        have hpy : A.item m = A.plain y := by
          have h1 : ((A.arch b).1.map A.item)[k]? = (its.map A.plain)[k]? := by rw [r1]
          rw [List.getElem?_map, List.getElem?_map, hy, hk] at h1
          exact Option.some.inj h1
        have hpx : A.plain (A.getX m s4) = A.plain y := by rw [A.plain_getX, hpy]
        have hsame : same (A.getX m s4) y := A.same_plain.2 hpx
        have hdy : (A.getX m s4).Data.2 = dat y := by
          have := congrArg (fun x : T_api_Item => x.Data.2) hpx
          exact this
        obtain ⟨hdx, hdl, _, _⟩ := hdat y (List.mem_of_getElem? hy)
        haveI := hdx
        have hd1 : (A.getX m s4).Data.1 = s4 := by rw [A.getX_data]
        have hd2 : (A.getX m s4).Data.2 = A.getL m := by rw [A.getX_data]
        rw [← hd1, ← hd2] at hS
        refine hY.go hS rfl ?_
        clear hpx hd1 hd2
        generalize A.getX m s4 = xg at *
        dsimp only [nthV]
        have hTk : T1 ++ (its.take k).map dat ++ [xg.Data.2] = T1 ++ (its.take (k + 1)).map dat := by
          rw [List.take_add_one, hy, List.map_append, List.append_assoc, hdy]
          rfl
        have hTkl : (T1 ++ (its.take k).map dat).length ≤ 9388609 := by rw [List.length_append, List.length_map, List.length_take]; omega
        have hH2l : H2.length = (T1 ++ (its.take k).map dat).length := by rw [← hH2, List.length_map]
        have hH3 : (H2 ++ [(xg.Data.1, xg.Data.2)]).map (·.2) = T1 ++ (its.take (k + 1)).map dat := by rw [List.map_append, hH2, ← hTk]; rfl
        have hxl : xg.Data.2.length ≤ 140737488355328 := by rw [hdy]; exact Nat.le_trans hdl (by decide)
        repeat' (first | (refine bg_go hS ?_; clear hS; intro w hS) | (refine pA_geq_s ?_ ?_ <;> intro hc <;> try (exfalso; omega)) | refine gA_go (by rfl) ?_ | refine pGd_go (by rfl) ?_ | refine pL_l hS (by first | rfl | assumption) ?_ | refine pL_ld_at ha hS (by rfl) ?_ | refine pL_la hS (by rfl) ?_ | (refine pN_sa hS (by rfl) (by rfl) (by rfl) ?_; clear hS; intro w hS; try dsimp only at hS) | (refine pDr_go hS ?_; clear hS; intro w hS) | (refine pN_nz hS ?_; clear hS; intro a w hS) | refine pA_ixk hS _ (by first | rfl | (exact (Int.toNat_of_nonneg (by omega)).symm)) (by first | rfl | omega | simpa only [go_sem] using True.intro | (simp only [go_sem]; omega)) (by assumption) fun a ha hel => ?_ | refine pA_via (by (intro K; simp (disch := omega) only [go_sem, pN_min, pN_max, w_u32, w_u64, Option.isNone_some, Option.isNone_none]; (try simp only [wrap_u32, wrap_u64]); rfl)) ?_ | fail)
        refine pc_pithlaw33_same (same_ok xg y hS ?_)
        clear hS
        intro w hS
        rw [decide_eq_true hsame]
        repeat' (first | refine pIf_f ?_ | refine gA_go (by rfl) ?_ | refine pN_l hS (by first | rfl | assumption) ?_ | refine ⟨trivial, ?_⟩ | refine pN_via (by (intro K; simp (disch := omega) only [go_sem, pN_min, pN_max, w_u32, w_u64, Option.isNone_some, Option.isNone_none]; (try simp only [wrap_u32, wrap_u64]); rfl)) ?_ | refine pA_via (by (intro K; simp (disch := omega) only [go_sem, pN_min, pN_max, w_u32, w_u64, Option.isNone_some, Option.isNone_none]; (try simp only [wrap_u32, wrap_u64]); rfl)) ?_ | fail)
        refine pY_of (pv_pithlaw33_TarLists_c1 (cap := [.pointer (some ⟨a5, 0, none⟩), .pointer (some ⟨a6, 0, none⟩)]) (keep_ok (s := xg.Data.1) (b := xg.Data.2) (x5 := a5) (x6 := a6) (H := H2) (T := T1 ++ (its.take k).map dat) (hS.fd2 (heldA a5 a6 H2) (rows cd_uint8 xg.Data.1)) (by omega) (by omega) hxl ?_))
        clear hS
        intro w hS
        rw [hTk] at hS
        by_cases hk3 : k = 2
        · subst hk3
          repeat' (first | (refine pN_gtr_s ?_ ?_ <;> intro hc <;> try (exfalso; omega)) | refine pIf_t ?_ | refine pN_l hS (by first | rfl | assumption) ?_ | (refine pN_s hS (by first | exact Nat.le_of_ble_eq_true rfl | assumption) (by rfl) ?_; clear hS; intro w hS; try simp only [List.set_cons_zero, List.set_cons_succ] at hS) | refine pN_via (by (intro K; simp (disch := omega) only [go_sem, pN_min, pN_max, w_u32, w_u64, Option.isNone_some, Option.isNone_none]; (try simp only [wrap_u32, wrap_u64]); rfl)) ?_ | fail)
          refine en_some hS ?_
          clear hS
          intro w hS
          have e : ((2 : Nat) : Int) + 1 = ((3 : Nat) : Int) := rfl
          rw [e] at hS
          exact .inr ⟨rfl, _, ⟨by omega, _, hH3, rfl⟩, hS.to⟩
        · have hklt : k < 2 := by omega
          repeat' (first | (refine pN_gtr_s ?_ ?_ <;> intro hc <;> try (exfalso; omega)) | refine pIf_f ?_ | refine pN_l hS (by first | rfl | assumption) ?_ | (refine pN_s hS (by first | exact Nat.le_of_ble_eq_true rfl | assumption) (by rfl) ?_; clear hS; intro w hS; try simp only [List.set_cons_zero, List.set_cons_succ] at hS) | refine pN_via (by (intro K; simp (disch := omega) only [go_sem, pN_min, pN_max, w_u32, w_u64, Option.isNone_some, Option.isNone_none]; (try simp only [wrap_u32, wrap_u64]); rfl)) ?_ | fail)
          have e : (k : Int) + 1 = ((k + 1 : Nat) : Int) := rfl
          have e0 : k * its.length = k * its.length + 0 := rfl
          rw [e, e0] at hS
          refine rf_in (l₀ := lp) hS ?_
          clear hS
          intro lp2 rc2 w hrc3 hrc4 hS hY2
          have hS : Sat W w (lpB lp2 rc2 :: lpB lp (busyOf rc) :: R :: mark D :: marks ms :: cel cb ⟨22, [.slice sq.a b.length sq.c]⟩ :: rows cd_uint8 sq b :: cel a15 ⟨51, [.func (.func 42) #[] #[.pointer (some ⟨cb, 0, none⟩)]]⟩ :: cel a16 ⟨3, [.int .i64 (k + 1 : Nat)]⟩ :: cel a17 ⟨3, [.int .i64 (k * its.length + 0 : Nat)]⟩ :: heldA a5 a6 (H2 ++ [(xg.Data.1, xg.Data.2)]) (T1 ++ (its.take (k + 1)).map dat) :: rows cd_uint8 so b :: rows cd_api_Item sr ots :: bag (datas ots) :: rows cd_api_Item sL (ps.map yOf ++ [mine]) :: pBag ps :: cel a7 ⟨59, [.func (.func 24) #[] #[.pointer (some ⟨a5, 0, none⟩), .pointer (some ⟨a6, 0, none⟩)]]⟩ :: cel a2 ⟨4, [.bool false]⟩ :: cel a1 ⟨34, [.slice sl.a its.length sl.c]⟩ :: [old W]) := hS.to
          refine pE_fn (fun a w => call_tar_Items_c1 a w) (Items_c1_ok (s := sq) (l := b) (cb := cb)
            (fun i L => L = (lpB lp2 rc2 :: lpB lp (busyOf rc) :: R :: mark D :: marks ms :: cel cb ⟨22, [.slice sq.a b.length sq.c]⟩ :: rows cd_uint8 sq b :: cel a15 ⟨51, [.func (.func 42) #[] #[.pointer (some ⟨cb, 0, none⟩)]]⟩ :: cel a16 ⟨3, [.int .i64 (k + 1 : Nat)]⟩ :: cel a17 ⟨3, [.int .i64 (k * its.length + i : Nat)]⟩ :: heldA a5 a6 (H2 ++ [(xg.Data.1, xg.Data.2)]) (T1 ++ (its.take (k + 1)).map dat) :: rows cd_uint8 so b :: rows cd_api_Item sr ots :: bag (datas ots) :: rows cd_api_Item sL (ps.map yOf ++ [mine]) :: pBag ps :: cel a7 ⟨59, [.func (.func 24) #[] #[.pointer (some ⟨a5, 0, none⟩), .pointer (some ⟨a6, 0, none⟩)]]⟩ :: cel a2 ⟨4, [.bool false]⟩ :: cel a1 ⟨34, [.slice sl.a its.length sl.c]⟩ :: [old W]))
            (fun _ => False) rfl hS (fun k L e => by subst e; infer_instance) (by omega) ?_ ?_ ?_ ?_)
          · clear hS
            rintro R2 i m2 L s5 w hi rfl hS
            have hil := (List.getElem?_eq_some_iff.1 hi).1
            have hkn : k * its.length ≤ 2 * 1048576 := Nat.mul_le_mul hk2 (by omega)
            refine hY2.go hS rfl ?_
            repeat' (first | (refine bg_go hS ?_; clear hS; intro w hS) | refine pN_l hS (by first | rfl | assumption) ?_ | (refine pN_s hS (by first | exact Nat.le_of_ble_eq_true rfl | assumption) (by rfl) ?_; clear hS; intro w hS; try simp only [List.set_cons_zero, List.set_cons_succ] at hS) | refine pN_via (by (intro K; simp (disch := omega) only [go_sem, pN_min, pN_max, w_u32, w_u64, Option.isNone_some, Option.isNone_none]; (try simp only [wrap_u32, wrap_u64]); rfl)) ?_ | fail)
            have e : ((k * its.length + i : Nat) : Int) + 1 = ((k * its.length + (i + 1) : Nat) : Int) := rfl
            rw [e] at hS
            refine en_none hS ?_
            clear hS
            intro w hS
            exact .inl ⟨rfl, _, rfl, hS.to⟩
          · intro _ _ _ h
            exact absurd r2 h
          · clear hS
            rintro _ L w rfl hS
            rw [hal, ← Nat.succ_mul] at hS
            refine jmp_n hS hrc3 hrc4 ?_
            clear hS
            intro w hS
            refine en_none hS ?_
            clear hS
            intro w hS
            exact .inl ⟨rfl, _, ⟨by omega, _, hH3, rfl⟩, hS.to⟩
          · rintro L w h
            exact h.elim
      · intro _ _ _ h
        exact absurd r2 h
      · clear hS
        rintro _ L w ⟨hk2, H2, hH2, rfl⟩ hS
        rw [hal] at hk2 hH2 hS
        have e1 : its.take its.length = its.take 3 := by rw [List.take_length, List.take_of_length_le (by omega)]
        have e2 : min its.length 3 = its.length := Nat.min_eq_left (by omega)
        have e3 : min its.length 2 = its.length := Nat.min_eq_left hk2
        rw [e1] at hH2 hS
        refine jmp_n hS hrc1 hrc2 ?_
        clear hS
        intro w hS
        refine ⟨H2, hH2, ?_⟩
        rw [e2, e3]
        have h1 : Sat W w (mark D :: marks ms :: cel a16 ⟨3, [.int .i64 (its.length : Nat)]⟩ :: cel a17 ⟨3, [.int .i64 (its.length * its.length : Nat)]⟩ :: heldA a5 a6 H2 (T1 ++ (its.take 3).map dat) :: rows cd_uint8 so b :: rows cd_api_Item sr ots :: bag (datas ots) :: rows cd_api_Item sL (ps.map yOf ++ [mine]) :: pBag ps :: cel a7 ⟨59, [.func (.func 24) #[] #[.pointer (some ⟨a5, 0, none⟩), .pointer (some ⟨a6, 0, none⟩)]]⟩ :: cel a2 ⟨4, [.bool false]⟩ :: cel a1 ⟨34, [.slice sl.a its.length sl.c]⟩ :: [old W]) := hS.to
        exact marks_cons h1
      · clear hS
        rintro L w ⟨h3, H2, hH2, rfl⟩ hS
        have e2 : min its.length 3 = 3 := Nat.min_eq_right h3
        have e3 : min its.length 2 = 2 := Nat.min_eq_right (by omega)
        refine jmp_x hS ?_
        clear hS
        intro w hS
        refine ⟨H2, hH2, ?_⟩
        rw [e2, e3]
        have h1 : Sat W w (mark D :: marks ms :: cel a16 ⟨3, [.int .i64 (3 : Nat)]⟩ :: cel a17 ⟨3, [.int .i64 (2 * its.length : Nat)]⟩ :: heldA a5 a6 H2 (T1 ++ (its.take 3).map dat) :: rows cd_uint8 so b :: rows cd_api_Item sr ots :: bag (datas ots) :: rows cd_api_Item sL (ps.map yOf ++ [mine]) :: pBag ps :: cel a7 ⟨59, [.func (.func 24) #[] #[.pointer (some ⟨a5, 0, none⟩), .pointer (some ⟨a6, 0, none⟩)]]⟩ :: cel a2 ⟨4, [.bool false]⟩ :: cel a1 ⟨34, [.slice sl.a its.length sl.c]⟩ :: [old W]) := hS.to
        exact marks_cons h1
    · clear hS
      rintro _ ms w ⟨H2, hH2, hS⟩
      have hT2l : (T1 ++ (its.take 3).map dat).length ≤ 8388612 := by rw [List.length_append, List.length_map, List.length_take]; omega
      have hH2l : H2.length = (T1 ++ (its.take 3).map dat).length := by rw [← hH2, List.length_map]
      have hT2 : T ++ roundT its = (T1 ++ (its.take 3).map dat) ++ its.flatMap fun x => [A.putB x, dat x] := by
        unfold roundT
        rw [hwb, ← hT1, ← List.append_assoc]
        simp only [List.append_assoc, List.singleton_append, List.cons_append, List.nil_append]
      rw [hT2]
      generalize T1 ++ (its.take 3).map dat = T2 at *
      have hmul : ((min its.length 2 * its.length : Nat) : Int) = IntKind.i64.wrap (min (its.length : Int) 2 * its.length) := by
        have e1 : min (its.length : Int) 2 = ((min its.length 2 : Nat) : Int) := by omega
        have e2 : min its.length 2 * its.length ≤ 2 * 1048576 := Nat.mul_le_mul (Nat.min_le_right _ _) (by omega)
        rw [e1, ← Int.natCast_mul, wrap_i64 (by omega)]
      repeat' (first | (refine pN_neq_s ?_ ?_ <;> intro hc <;> try (exfalso; first | omega | exact hc rfl | exact hc (by assumption) | exact absurd hc (by assumption))) | refine pIf_f ?_ | refine pGd_go (by rfl) ?_ | refine pN_l hS (by first | rfl | assumption) ?_ | refine pN_via (by (intro K; simp (disch := omega) only [go_sem, pN_min, pN_max, w_u32, w_u64, Option.isNone_some, Option.isNone_none]; (try simp only [wrap_u32, wrap_u64]); rfl)) ?_ | fail)
      have hfl : ∀ i, ((its.take i).flatMap fun x => [A.putB x, dat x]).length ≤ 4194304 := fun i => by
        rw [flat2, List.length_take]
        omega
      refine ⟨fun ms' v w => ms = ms' ∧ ∃ (i : Nat) (H3 : Hs), i ≤ its.length ∧ v = .int .i64 i ∧ H3.map (·.2) = (T2 ++ (its.take i).flatMap fun x => [A.putB x, dat x]) ∧ Sat W w (marks ms :: heldA a5 a6 H3 (T2 ++ (its.take i).flatMap fun x => [A.putB x, dat x]) :: rows cd_uint8 so b :: rows cd_api_Item sr ots :: bag (datas (ots.drop i)) :: rows cd_api_Item sL (ps.map yOf ++ [mine]) :: pBag (ps.drop i) :: cel a7 ⟨59, [.func (.func 24) #[] #[.pointer (some ⟨a5, 0, none⟩), .pointer (some ⟨a6, 0, none⟩)]]⟩ :: cel a2 ⟨4, [.bool false]⟩ :: cel a1 ⟨34, [.slice sl.a its.length sl.c]⟩ :: [old W]), fun v _ => its.length - (RowKit.intOf v).toNat,
        ⟨rfl, 0, H2, Nat.zero_le _, rfl, by rw [hH2, List.take_zero, List.flatMap_nil, List.append_nil], by rw [List.take_zero, List.flatMap_nil, List.append_nil, List.drop_zero, List.drop_zero]; exact hS.to⟩, ?_⟩
      clear hS
      rintro _ _ _ w ⟨rfl, i, H3, hi, rfl, hH3, hS⟩
      have hT3l : (T2 ++ (its.take i).flatMap fun x => [A.putB x, dat x]).length ≤ 16777216 := by
        have := hfl i
        rw [List.length_append]
        omega
      have hH3l : H3.length = (T2 ++ (its.take i).flatMap fun x => [A.putB x, dat x]).length := by rw [← hH3, List.length_map]
      by_cases hin : i < its.length
      · obtain ⟨p, hp⟩ : ∃ p, ps[i]? = some p := ⟨ps[i]'(by omega), by simp⟩
        obtain ⟨z, hz⟩ : ∃ z, ots[i]? = some z := ⟨ots[i]'(by omega), by simp⟩
        have hx : its[i]? = some p.1 := by rw [← hps, List.getElem?_map, hp]; rfl
        have hy : (ps.map yOf)[i]? = some (yOf p) := by rw [List.getElem?_map, hp]; rfl
        have hpm := List.mem_of_getElem? hp
        have hxm := hpi p hpm
        obtain ⟨_, hdl, hn1, hn2⟩ := hdat _ hxm
        have hzd : z.Data.2 = dat p.1 := by
          have h1 : (ots.map A.plain)[i]? = (its.map A.plain)[i]? := by rw [hots]
          rw [List.getElem?_map, List.getElem?_map, hz, hx] at h1
          have h2 : A.plain z = A.plain p.1 := Option.some.inj h1
          have := congrArg (fun x : T_api_Item => x.Data.2) h2
          exact this
        have hT4 : (T2 ++ (its.take i).flatMap fun x => [A.putB x, dat x]) ++ [A.putB p.1] ++ [dat p.1] = T2 ++ (its.take (i + 1)).flatMap fun x => [A.putB x, dat x] := by
          rw [List.take_add_one, hx, List.flatMap_append, List.append_assoc, List.append_assoc]
          rfl
        generalize (T2 ++ (its.take i).flatMap fun x => [A.putB x, dat x]) = T3 at *
        have hS : Sat W w (rows cd_uint8 z.Data.1 z.Data.2 :: bag (datas (ots.drop (i + 1))) :: rows cd_uint8 p.2 (p.1.Data.2 ++ [45]) :: pBag (ps.drop (i + 1)) :: marks ms :: heldA a5 a6 H3 T3 :: rows cd_uint8 so b :: rows cd_api_Item sr ots :: rows cd_api_Item sL (ps.map yOf ++ [mine]) :: cel a7 ⟨59, [.func (.func 24) #[] #[.pointer (some ⟨a5, 0, none⟩), .pointer (some ⟨a6, 0, none⟩)]]⟩ :: cel a2 ⟨4, [.bool false]⟩ :: cel a1 ⟨34, [.slice sl.a its.length sl.c]⟩ :: [old W]) := by
          rw [drop_cons' hp, drop_cons' hz] at hS
          have h0 : Sat W w (pBag (p :: ps.drop (i + 1)) :: bag (datas (z :: ots.drop (i + 1))) :: marks ms :: heldA a5 a6 H3 T3 :: rows cd_uint8 so b :: rows cd_api_Item sr ots :: rows cd_api_Item sL (ps.map yOf ++ [mine]) :: cel a7 ⟨59, [.func (.func 24) #[] #[.pointer (some ⟨a5, 0, none⟩), .pointer (some ⟨a6, 0, none⟩)]]⟩ :: cel a2 ⟨4, [.bool false]⟩ :: cel a1 ⟨34, [.slice sl.a its.length sl.c]⟩ :: [old W]) := hS.to
          have h1 : Sat W w (rows cd_uint8 p.2 (p.1.Data.2 ++ [45]) :: pBag (ps.drop (i + 1)) :: bag (datas (z :: ots.drop (i + 1))) :: marks ms :: heldA a5 a6 H3 T3 :: rows cd_uint8 so b :: rows cd_api_Item sr ots :: rows cd_api_Item sL (ps.map yOf ++ [mine]) :: cel a7 ⟨59, [.func (.func 24) #[] #[.pointer (some ⟨a5, 0, none⟩), .pointer (some ⟨a6, 0, none⟩)]]⟩ :: cel a2 ⟨4, [.bool false]⟩ :: cel a1 ⟨34, [.slice sl.a its.length sl.c]⟩ :: [old W]) := bag_uncons h0
          have h2 : Sat W w (bag (datas (z :: ots.drop (i + 1))) :: rows cd_uint8 p.2 (p.1.Data.2 ++ [45]) :: pBag (ps.drop (i + 1)) :: marks ms :: heldA a5 a6 H3 T3 :: rows cd_uint8 so b :: rows cd_api_Item sr ots :: rows cd_api_Item sL (ps.map yOf ++ [mine]) :: cel a7 ⟨59, [.func (.func 24) #[] #[.pointer (some ⟨a5, 0, none⟩), .pointer (some ⟨a6, 0, none⟩)]]⟩ :: cel a2 ⟨4, [.bool false]⟩ :: cel a1 ⟨34, [.slice sl.a its.length sl.c]⟩ :: [old W]) := h1.to
          exact bag_uncons h2
        haveI hdy : ∀ (L : List HA) [Rds cd_uint8 L p.2 (p.1.Data.2 ++ [45])], Rds cd_uint8 L (yOf p).Data.1 (yOf p).Data.2 := fun L _ => rds_y hpm
        have hw0 : A.wrong (yOf p) = 0 := by rw [(A.putP_plain (plain_yOf p)).1]; exact hwr _ hxm
        have hpb : A.putB (yOf p) = A.putB p.1 := by rw [← A.putB_plain, plain_yOf, A.putB_plain]
        have hpl2 : (A.putB p.1).length ≤ 1099511627776 + 1073741824 := by
          have := (A.put_512 (hwr _ hxm)).2.2
          omega
        repeat' (first | (refine pN_lss_s ?_ ?_ <;> intro hc <;> try (exfalso; omega)) | refine pIf_t ?_ | refine pN_ld_at ha hS (by rfl) ?_ | refine pN_ixk hS _ (by first | rfl | (exact (Int.toNat_of_nonneg (by omega)).symm)) (by first | rfl | omega | simpa only [go_sem] using True.intro | (simp only [go_sem]; omega)) (by assumption) fun a ha hel => ?_ | fail)
        refine pc_tar_Put (Put_ok (yOf p) (by show p.1.Name.length ≤ _; omega) (by show p.1.Link.length ≤ _; omega) hS (fun h => absurd hw0 h) fun _ s6 w hS => ?_)
        rw [hpb] at hS ⊢
        repeat' (first | refine pN_l hS (by first | rfl | assumption) ?_ | refine pN_via (by (intro K; simp (disch := omega) only [go_sem, pN_min, pN_max, w_u32, w_u64, Option.isNone_some, Option.isNone_none]; (try simp only [wrap_u32, wrap_u64]); rfl)) ?_ | fail)
        refine pY_of (pv_pithlaw33_TarLists_c1 (cap := [.pointer (some ⟨a5, 0, none⟩), .pointer (some ⟨a6, 0, none⟩)]) (keep_ok (s := s6) (b := A.putB p.1) (x5 := a5) (x6 := a6) (H := H3) (T := T3) (hS.fd2 (heldA a5 a6 (H3)) (rows cd_uint8 (s6))) (by omega) (by omega) (by omega) ?_))
        clear hS
        intro w hS
        repeat' (first | refine pL_l hS (by first | rfl | assumption) ?_ | refine pL_ld1 ha hS ?_ | refine pA_fa ha (by rfl) fun a ha => ?_ | (refine pDr_go hS ?_; clear hS; intro w hS) | refine pA_ixk hS _ (by first | rfl | (exact (Int.toNat_of_nonneg (by omega)).symm)) (by first | rfl | omega | simpa only [go_sem] using True.intro | (simp only [go_sem]; omega)) (by assumption) fun a ha hel => ?_ | fail)
        refine pY_of (pv_pithlaw33_TarLists_c1 (cap := [.pointer (some ⟨a5, 0, none⟩), .pointer (some ⟨a6, 0, none⟩)]) (keep_ok (s := z.Data.1) (b := z.Data.2) (x5 := a5) (x6 := a6) (H := H3 ++ [(s6, A.putB p.1)]) (T := T3 ++ [A.putB p.1]) (hS.fd2 (heldA a5 a6 (H3 ++ [(s6, A.putB p.1)])) (rows cd_uint8 (z.Data.1))) (by rw [List.length_append, List.length_singleton]; omega) (by rw [List.length_append, List.length_singleton]; omega) (by rw [hzd]; exact Nat.le_trans hdl (by decide)) ?_))
        clear hS
        intro w hS
        rw [hzd, hT4] at hS
        have hH5 : (H3 ++ [(s6, A.putB p.1)] ++ [(z.Data.1, dat p.1)]).map (·.2) = T2 ++ (its.take (i + 1)).flatMap fun x => [A.putB x, dat x] := by
          rw [List.map_append, List.map_append, hH3, ← hT4]
          rfl
        generalize H3 ++ [(s6, A.putB p.1)] ++ [(z.Data.1, dat p.1)] = H5 at *
        generalize hT5d : (T2 ++ (its.take (i + 1)).flatMap fun x => [A.putB x, dat x]) = T5 at *
        clear hdy
        have hyl2 : (yOf p).Data.2.length = p.1.Data.2.length := rfl
        have hys : (yOf p).Data.1 = p.2.sub 0 cd_uint8.size := rfl
        repeat' (first | refine pN_ld1 ha hS ?_ | refine pN_fa ha (by rfl) fun a ha => ?_ | refine ⟨trivial, ?_⟩ | refine pN_ixk hS _ (by first | rfl | (exact (Int.toNat_of_nonneg (by omega)).symm)) (by first | rfl | omega | simpa only [go_sem] using True.intro | (simp only [go_sem]; omega)) (by assumption) fun a ha hel => ?_ | refine pN_via (by (intro K; simp (disch := omega) only [go_sem, pN_min, pN_max, w_u32, w_u64, Option.isNone_some, Option.isNone_none]; (try simp only [wrap_u32, wrap_u64]); rfl)) ?_ | fail)
        refine ⟨fun ms' v w => ms = ms' ∧ ∃ (k : Nat) (d : List UInt8), d.length = p.1.Data.2.length + 1 ∧ k ≤ p.1.Data.2.length ∧ v = .int .i64 k ∧ Sat W w (rows cd_uint8 p.2 d :: marks ms :: heldA a5 a6 H5 T5 :: rows cd_uint8 so b :: rows cd_api_Item sr ots :: bag (datas (ots.drop (i + 1))) :: rows cd_api_Item sL (ps.map yOf ++ [mine]) :: pBag (ps.drop (i + 1)) :: cel a7 ⟨59, [.func (.func 24) #[] #[.pointer (some ⟨a5, 0, none⟩), .pointer (some ⟨a6, 0, none⟩)]]⟩ :: cel a2 ⟨4, [.bool false]⟩ :: cel a1 ⟨34, [.slice sl.a its.length sl.c]⟩ :: [old W]), fun v _ => p.1.Data.2.length - (RowKit.intOf v).toNat,
          ⟨rfl, 0, p.1.Data.2 ++ [45], by rw [List.length_append]; rfl, Nat.zero_le _, rfl, hS.to⟩, ?_⟩
        clear hS
        rintro _ _ _ w ⟨rfl, k, d, hd, hkd, rfl, hS⟩
        haveI hd5 : ∀ (L : List HA) [Rds cd_uint8 L p.2 d], Rds cd_uint8 L (p.2.sub 0 cd_uint8.size) (d.take p.1.Data.2.length) := fun L _ => by
          have := Rds.sub (C := cd_uint8) (L := L) (s := p.2) (l := d) 0 p.1.Data.2.length (Nat.zero_le _) (by omega)
          rwa [List.drop_zero, Nat.sub_zero] at this
        have hdt : (d.take p.1.Data.2.length).length = p.1.Data.2.length := by rw [List.length_take]; omega
        by_cases hkn : k < p.1.Data.2.length
        · repeat' (first | (refine pN_lss_s ?_ ?_ <;> intro hc <;> try (exfalso; omega)) | refine pIf_t ?_ | refine pN_ld1 ha hS ?_ | refine pN_fa ha (by rfl) fun a ha => ?_ | refine pN_ixk hS _ (by first | rfl | (exact (Int.toNat_of_nonneg (by omega)).symm)) (by first | rfl | omega | simpa only [go_sem] using True.intro | (simp only [go_sem]; omega)) (by assumption) fun a ha hel => ?_ | fail)
          refine pN_ix (C := cd_uint8) (s := p.2.sub 0 cd_uint8.size) (l := d.take p.1.Data.2.length) hS k rfl hdt.symm (by omega) ?_
          intro a8 y8 _ _ hel
          have hel := El_sub0 hel
          repeat' (first | (refine pN_sr hel hS (by rfl) (by rfl) (by first | omega | (simp only [go_sem]; omega)) ?_; clear hS; intro w hS) | refine pN_via (by (intro K; simp (disch := omega) only [go_sem, pN_min, pN_max, w_u32, w_u64, Option.isNone_some, Option.isNone_none]; (try simp only [wrap_u32, wrap_u64]); rfl)) ?_ | fail)
          refine ⟨⟨rfl, k + 1, d.set k 209, by rw [List.length_set, hd], hkn, rfl, hS.to⟩, ?_⟩
          show p.1.Data.2.length - (RowKit.intOf (.int .i64 ((k + 1 : Nat) : Int))).toNat < p.1.Data.2.length - (RowKit.intOf (.int .i64 (k : Int))).toNat
          simp only [RowKit.intOf, Int.toNat_natCast]
          omega
        · repeat' (first | (refine pN_lss_s ?_ ?_ <;> intro hc <;> try (exfalso; omega)) | refine pIf_f ?_ | refine pN_via (by (intro K; simp (disch := omega) only [go_sem, pN_min, pN_max, w_u32, w_u64, Option.isNone_some, Option.isNone_none]; (try simp only [wrap_u32, wrap_u64]); rfl)) ?_ | fail)
          refine ⟨⟨rfl, i + 1, H5, hin, rfl, by rw [hT5d]; exact hH5, by rw [hT5d]; exact hS.to⟩, ?_⟩
          show its.length - (RowKit.intOf (.int .i64 ((i + 1 : Nat) : Int))).toNat < its.length - (RowKit.intOf (.int .i64 (i : Int))).toNat
          simp only [RowKit.intOf, Int.toNat_natCast]
          omega
      · obtain rfl : i = its.length := by omega
        rw [List.take_length, ← hT2] at hH3 hS
        repeat' (first | (refine pN_lss_s ?_ ?_ <;> intro hc <;> try (exfalso; omega)) | refine pIf_f ?_ | refine pN_via (by (intro K; simp (disch := omega) only [go_sem, pN_min, pN_max, w_u32, w_u64, Option.isNone_some, Option.isNone_none]; (try simp only [wrap_u32, wrap_u64]); rfl)) ?_ | fail)
        refine ⟨fun ms' v w => ms = ms' ∧ ∃ (k : Nat) (d : List UInt8), d.length = b.length ∧ k ≤ b.length ∧ v = .int .i64 k ∧ Sat W w (rows cd_uint8 so d :: marks ms :: heldA a5 a6 H3 (T ++ roundT its) :: cel a7 ⟨59, [.func (.func 24) #[] #[.pointer (some ⟨a5, 0, none⟩), .pointer (some ⟨a6, 0, none⟩)]]⟩ :: cel a2 ⟨4, [.bool false]⟩ :: cel a1 ⟨34, [.slice sl.a its.length sl.c]⟩ :: [old W]), fun v _ => b.length - (RowKit.intOf v).toNat,
          ⟨rfl, 0, b, rfl, Nat.zero_le _, rfl, hS.to⟩, ?_⟩
        clear hS
        rintro _ _ _ w ⟨rfl, k, d, hd, hkd, rfl, hS⟩
        by_cases hkn : k < b.length
        · repeat' (first | (refine pN_lss_s ?_ ?_ <;> intro hc <;> try (exfalso; omega)) | refine pIf_t ?_ | refine pN_ix hS _ (by first | rfl | (exact (Int.toNat_of_nonneg (by omega)).symm)) (by first | rfl | omega | simpa only [go_sem] using True.intro | (simp only [go_sem]; omega)) (by first | omega | (simp only [go_sem]; omega)) fun a x hx ha hel => ?_ | (refine pN_sr hel hS (by rfl) (by rfl) (by first | omega | (simp only [go_sem]; omega)) ?_; clear hS; intro w hS) | refine pN_via (by (intro K; simp (disch := omega) only [go_sem, pN_min, pN_max, w_u32, w_u64, Option.isNone_some, Option.isNone_none]; (try simp only [wrap_u32, wrap_u64]); rfl)) ?_ | fail)
          refine ⟨⟨rfl, k + 1, d.set k 210, by rw [List.length_set, hd], hkn, rfl, hS.to⟩, ?_⟩
          show b.length - (RowKit.intOf (.int .i64 ((k + 1 : Nat) : Int))).toNat < b.length - (RowKit.intOf (.int .i64 (k : Int))).toNat
          simp only [RowKit.intOf, Int.toNat_natCast]
          omega
        · repeat' (first | (refine pN_lss_s ?_ ?_ <;> intro hc <;> try (exfalso; omega)) | refine pIf_f ?_ | fail)
          exact ⟨H3, by rw [← hT2]; exact hH3, by rw [← hT2]; exact hS.to⟩
  · obtain rfl : j = 2 := by omega
    have hTD : (List.replicate 2 (roundT its)).flatten = roundT its ++ roundT its := by simp [List.replicate]
    rw [hTD] at hH hS
    clear hTD hTl
    have hDe : ∀ t ∈ roundT its, t.length ≤ 1099511627776 + 1073741824 + 1024 := fun t ht => by
      unfold roundT at ht
      rcases List.mem_append.1 ht with h | h
      · rcases List.mem_cons.1 h with rfl | h
        · omega
        · obtain ⟨x, hx, rfl⟩ := List.mem_map.1 h
          have := (hdat x (List.mem_of_mem_take hx)).2.1
          show x.Data.2.length ≤ _
          omega
      · obtain ⟨x, hx, h⟩ := List.mem_flatMap.1 h
        have h1 := (hdat x hx).2.1
        have h2 := (A.put_512 (hwr x hx)).2.2
        rcases List.mem_cons.1 h with rfl | h
        · omega
        · rw [List.mem_singleton] at h
          subst h
          show x.Data.2.length ≤ _
          omega
    generalize roundT its = D at *
    obtain ⟨sH, sW, hS⟩ : ∃ sH sW : Sl, Sat W w (cel a5 ⟨57, [.slice sH.a H.length sH.c]⟩ :: rows cd_sl_uint8 sH H :: cel a6 ⟨58, [.slice sW.a (D ++ D).length sW.c]⟩ :: rows cd_string sW (D ++ D) :: hBag H :: marks ms :: cel a7 ⟨59, [.func (.func 24) #[] #[.pointer (some ⟨a5, 0, none⟩), .pointer (some ⟨a6, 0, none⟩)]]⟩ :: cel a2 ⟨4, [.bool false]⟩ :: cel a1 ⟨34, [.slice sl.a its.length sl.c]⟩ :: [old W]) := heldA_open hS.to
    have hHl : H.length = D.length + D.length := by rw [← List.length_append, ← hH, List.length_map]
    repeat' (first | (refine pN_lss_s ?_ ?_ <;> intro hc <;> try (exfalso; omega)) | refine pIf_f ?_ | refine pN_l hS (by first | rfl | assumption) ?_ | refine pN_via (by (intro K; simp (disch := omega) only [go_sem, pN_min, pN_max, w_u32, w_u64, Option.isNone_some, Option.isNone_none]; (try simp only [wrap_u32, wrap_u64]); rfl)) ?_ | fail)
    have hhf : ((H.length : Int) / 2) = ((D.length : Nat) : Int) := by omega
    rw [hhf]
    have hHq : ∀ (i : Nat) (q : Sl × List UInt8), H[i]? = some q → q.2.length ≤ 140737488355328 := fun i q hq => by
      have hqt : (D ++ D)[i]? = some q.2 := by rw [← hH, List.getElem?_map, hq]; rfl
      have := hDe q.2 (by have := List.mem_of_getElem? hqt; simpa using this)
      omega
    have hDD : (D ++ D).length = H.length := by rw [hHl, List.length_append]
    refine ⟨fun ms' v w => ms = ms' ∧ ∃ i : Nat, i ≤ H.length ∧ v = .int .i64 i ∧ Sat W w (cel a5 ⟨57, [.slice sH.a H.length sH.c]⟩ :: rows cd_sl_uint8 sH H :: cel a6 ⟨58, [.slice sW.a (D ++ D).length sW.c]⟩ :: rows cd_string sW (D ++ D) :: hBag H :: marks ms :: cel a7 ⟨59, [.func (.func 24) #[] #[.pointer (some ⟨a5, 0, none⟩), .pointer (some ⟨a6, 0, none⟩)]]⟩ :: cel a2 ⟨4, [.bool false]⟩ :: cel a1 ⟨34, [.slice sl.a its.length sl.c]⟩ :: [old W]), fun v _ => H.length - (RowKit.intOf v).toNat, ⟨rfl, 0, Nat.zero_le _, rfl, hS⟩, ?_⟩
    clear hS
    rintro _ _ _ w ⟨rfl, i, hi, rfl, hS⟩
    by_cases hin : i < H.length
    · obtain ⟨q, hq⟩ : ∃ q, H[i]? = some q := ⟨H[i]'hin, by simp⟩
      have hqt : (D ++ D)[i]? = some q.2 := by rw [← hH, List.getElem?_map, hq]; rfl
      haveI : RdP cd_uint8 (hBag H) q.1 q.2 := rds_hBag (List.mem_of_getElem? hq)
      have hql := hHq i q hq
      by_cases hid : i < D.length
      · have hqt2 : (D ++ D)[((i : Int) + (D.length : Int)).toNat]? = some q.2 := by
          rw [show ((i : Int) + (D.length : Int)).toNat = i + D.length by omega, List.getElem?_append_right (by omega), Nat.add_sub_cancel]
          rwa [List.getElem?_append_left hid] at hqt
        repeat' (first | ((first | refine pN_lss_s ?_ ?_ | refine pA_lss_s ?_ ?_) <;> intro hc <;> try (exfalso; omega)) | (refine pA_neq_ss ?_ ?_ <;> intro hc <;> try (exfalso; first | omega | exact hc rfl | exact hc (by assumption) | exact absurd hc (by assumption))) | refine pIf_t ?_ | refine pIf_f ?_ | refine gA_go (by rfl) ?_ | refine pL_l hS (by first | rfl | assumption) ?_ | refine pL_ld1 ha hS ?_ | (refine pDr_go hS ?_; clear hS; intro w hS) | refine pA_ixk hS _ (by first | rfl | (exact (Int.toNat_of_nonneg (by omega)).symm)) (by first | rfl | omega | simpa only [go_sem] using True.intro | (simp only [go_sem]; omega)) (by assumption) fun a ha hel => ?_ | refine pL_st hS (by first | rfl | omega | simpa only [go_sem] using True.intro | (simp only [go_sem]; omega)) ?_ | refine pN_via (by (intro K; simp (disch := omega) only [go_sem, pN_min, pN_max, w_u32, w_u64, Option.isNone_some, Option.isNone_none]; (try simp only [wrap_u32, wrap_u64]); rfl)) ?_ | refine pA_via (by (intro K; simp (disch := omega) only [go_sem, pN_min, pN_max, w_u32, w_u64, Option.isNone_some, Option.isNone_none]; (try simp only [wrap_u32, wrap_u64]); rfl)) ?_ | fail)
        refine ⟨⟨rfl, i + 1, hin, rfl, hS⟩, ?_⟩
        show H.length - (RowKit.intOf (.int .i64 ((i + 1 : Nat) : Int))).toNat < H.length - (RowKit.intOf (.int .i64 (i : Int))).toNat
        simp only [RowKit.intOf, Int.toNat_natCast]
        omega
      · repeat' (first | ((first | refine pN_lss_s ?_ ?_ | refine pA_lss_s ?_ ?_) <;> intro hc <;> try (exfalso; omega)) | (refine pA_neq_ss ?_ ?_ <;> intro hc <;> try (exfalso; first | omega | exact hc rfl | exact hc (by assumption) | exact absurd hc (by assumption))) | refine pIf_t ?_ | refine pIf_f ?_ | refine gA_go (by rfl) ?_ | refine gA_no (by rfl) ?_ | refine pL_l hS (by first | rfl | assumption) ?_ | refine pL_ld1 ha hS ?_ | (refine pDr_go hS ?_; clear hS; intro w hS) | refine pA_ixk hS _ (by first | rfl | (exact (Int.toNat_of_nonneg (by omega)).symm)) (by first | rfl | omega | simpa only [go_sem] using True.intro | (simp only [go_sem]; omega)) (by assumption) fun a ha hel => ?_ | refine pL_st hS (by first | rfl | omega | simpa only [go_sem] using True.intro | (simp only [go_sem]; omega)) ?_ | refine pN_via (by (intro K; simp (disch := omega) only [go_sem, pN_min, pN_max, w_u32, w_u64, Option.isNone_some, Option.isNone_none]; (try simp only [wrap_u32, wrap_u64]); rfl)) ?_ | refine pA_via (by (intro K; simp (disch := omega) only [go_sem, pN_min, pN_max, w_u32, w_u64, Option.isNone_some, Option.isNone_none]; (try simp only [wrap_u32, wrap_u64]); rfl)) ?_ | fail)
        refine ⟨⟨rfl, i + 1, hin, rfl, hS⟩, ?_⟩
        show H.length - (RowKit.intOf (.int .i64 ((i + 1 : Nat) : Int))).toNat < H.length - (RowKit.intOf (.int .i64 (i : Int))).toNat
        simp only [RowKit.intOf, Int.toNat_natCast]
        omega
    · repeat' (first | (refine pN_lss_s ?_ ?_ <;> intro hc <;> try (exfalso; omega)) | refine pIf_f ?_ | refine pN_l hS (by first | rfl | assumption) ?_ | refine pN_via (by (intro K; simp (disch := omega) only [go_sem, pN_min, pN_max, w_u32, w_u64, Option.isNone_some, Option.isNone_none]; (try simp only [wrap_u32, wrap_u64]); rfl)) ?_ | fail)
      refine ⟨fun ms' v w => ms = ms' ∧ ∃ i : Nat, i ≤ H.length ∧ v = .int .i64 i ∧ Sat W w (hBag (ovr i H) :: cel a5 ⟨57, [.slice sH.a H.length sH.c]⟩ :: rows cd_sl_uint8 sH H :: marks ms :: cel a7 ⟨59, [.func (.func 24) #[] #[.pointer (some ⟨a5, 0, none⟩), .pointer (some ⟨a6, 0, none⟩)]]⟩ :: cel a2 ⟨4, [.bool false]⟩ :: cel a1 ⟨34, [.slice sl.a its.length sl.c]⟩ :: [old W]), fun v _ => H.length - (RowKit.intOf v).toNat, ⟨rfl, 0, Nat.zero_le _, rfl, by rw [ovr_zero]; exact hS.to⟩, ?_⟩
      clear hS hin hi
      rintro _ _ _ w ⟨rfl, i, hi, rfl, hS⟩
      by_cases hin : i < H.length
      · obtain ⟨q, hq⟩ : ∃ q, H[i]? = some q := ⟨H[i]'hin, by simp⟩
        have hql := hHq i q hq
        have hfq : (ovr i H)[i]? = some q := by rw [ovr_get, hq]; simp
        have hfs := ovr_set hq
        have hS := hBag_out hS hfq
        have hback : ∀ w d, Sat W w (rows cd_uint8 q.1 d :: bag (((ovr i H).map fun p => rows cd_uint8 p.1 p.2).eraseIdx i) :: cel a5 ⟨57, [.slice sH.a H.length sH.c]⟩ :: rows cd_sl_uint8 sH H :: marks ms :: cel a7 ⟨59, [.func (.func 24) #[] #[.pointer (some ⟨a5, 0, none⟩), .pointer (some ⟨a6, 0, none⟩)]]⟩ :: cel a2 ⟨4, [.bool false]⟩ :: cel a1 ⟨34, [.slice sl.a its.length sl.c]⟩ :: [old W]) → Sat W w (hBag ((ovr i H).set i (q.1, d)) :: cel a5 ⟨57, [.slice sH.a H.length sH.c]⟩ :: rows cd_sl_uint8 sH H :: marks ms :: cel a7 ⟨59, [.func (.func 24) #[] #[.pointer (some ⟨a5, 0, none⟩), .pointer (some ⟨a6, 0, none⟩)]]⟩ :: cel a2 ⟨4, [.bool false]⟩ :: cel a1 ⟨34, [.slice sl.a its.length sl.c]⟩ :: [old W]) := fun w d hS => hBag_into hS hfq
        generalize bag (((ovr i H).map fun p => rows cd_uint8 p.1 p.2).eraseIdx i) = GB at *
        repeat' (first | (refine pN_lss_s ?_ ?_ <;> intro hc <;> try (exfalso; omega)) | refine pIf_t ?_ | refine pN_l hS (by first | rfl | assumption) ?_ | refine pN_ld1 ha hS ?_ | refine pN_ixk hS _ (by first | rfl | (exact (Int.toNat_of_nonneg (by omega)).symm)) (by first | rfl | omega | simpa only [go_sem] using True.intro | (simp only [go_sem]; omega)) (by assumption) fun a ha hel => ?_ | refine pN_via (by (intro K; simp (disch := omega) only [go_sem, pN_min, pN_max, w_u32, w_u64, Option.isNone_some, Option.isNone_none]; (try simp only [wrap_u32, wrap_u64]); rfl)) ?_ | fail)
        refine ⟨fun ms' v w => ms = ms' ∧ ∃ k : Nat, k ≤ q.2.length ∧ v = .int .i64 k ∧ Sat W w (rows cd_uint8 q.1 (List.replicate k (byteOf i) ++ q.2.drop k) :: GB :: cel a5 ⟨57, [.slice sH.a H.length sH.c]⟩ :: rows cd_sl_uint8 sH H :: marks ms :: cel a7 ⟨59, [.func (.func 24) #[] #[.pointer (some ⟨a5, 0, none⟩), .pointer (some ⟨a6, 0, none⟩)]]⟩ :: cel a2 ⟨4, [.bool false]⟩ :: cel a1 ⟨34, [.slice sl.a its.length sl.c]⟩ :: [old W]), fun v _ => q.2.length - (RowKit.intOf v).toNat, ⟨rfl, 0, Nat.zero_le _, rfl, hS⟩, ?_⟩
        clear hS
        rintro _ _ _ w ⟨rfl, k, hk, rfl, hS⟩
        by_cases hkn : k < q.2.length
        · have hdl : (List.replicate k (byteOf i) ++ q.2.drop k).length = q.2.length := by rw [List.length_append, List.length_replicate, List.length_drop]; omega
          have hset := set_rep (x := byteOf i) hkn
          generalize List.replicate k (byteOf i) ++ q.2.drop k = d at *
          repeat' (first | (refine pN_lss_s ?_ ?_ <;> intro hc <;> try (exfalso; omega)) | refine pIf_t ?_ | refine pN_tob ?_ | refine pN_l hS (by first | rfl | assumption) ?_ | refine pN_ld1 ha hS ?_ | refine pN_ixk hS _ (by first | rfl | (exact (Int.toNat_of_nonneg (by omega)).symm)) (by first | rfl | omega | simpa only [go_sem] using True.intro | (simp only [go_sem]; omega)) (by assumption) fun a ha hel => ?_ | refine pN_ix hS _ (by first | rfl | (exact (Int.toNat_of_nonneg (by omega)).symm)) (by first | rfl | omega | simpa only [go_sem] using True.intro | (simp only [go_sem]; omega)) (by first | omega | (simp only [go_sem]; omega)) fun a x hx ha hel => ?_ | (refine pN_sr hel hS (by rfl) (by rfl) (by first | omega | (simp only [go_sem]; omega)) ?_; clear hS; intro w hS) | refine pN_via (by (intro K; simp (disch := omega) only [go_sem, pN_min, pN_max, w_u32, w_u64, Option.isNone_some, Option.isNone_none]; (try simp only [wrap_u32, wrap_u64]); rfl)) ?_ | fail)
          rw [hset] at hS
          refine ⟨⟨rfl, k + 1, hkn, rfl, hS.to⟩, ?_⟩
          show q.2.length - (RowKit.intOf (.int .i64 ((k + 1 : Nat) : Int))).toNat < q.2.length - (RowKit.intOf (.int .i64 (k : Int))).toNat
          simp only [RowKit.intOf, Int.toNat_natCast]
          omega
        · obtain rfl : k = q.2.length := by omega
          rw [List.drop_length, List.append_nil] at hS
          have hS := hback _ _ hS
          rw [hfs] at hS
          repeat' (first | (refine pN_lss_s ?_ ?_ <;> intro hc <;> try (exfalso; omega)) | refine pIf_f ?_ | refine pN_via (by (intro K; simp (disch := omega) only [go_sem, pN_min, pN_max, w_u32, w_u64, Option.isNone_some, Option.isNone_none]; (try simp only [wrap_u32, wrap_u64]); rfl)) ?_ | fail)
          refine ⟨⟨rfl, i + 1, hin, rfl, hS⟩, ?_⟩
          show H.length - (RowKit.intOf (.int .i64 ((i + 1 : Nat) : Int))).toNat < H.length - (RowKit.intOf (.int .i64 (i : Int))).toNat
          simp only [RowKit.intOf, Int.toNat_natCast]
          omega
      · obtain rfl : i = H.length := by omega
        repeat' (first | (refine pN_lss_s ?_ ?_ <;> intro hc <;> try (exfalso; omega)) | refine pIf_f ?_ | refine pN_l hS (by first | rfl | assumption) ?_ | refine pN_via (by (intro K; simp (disch := omega) only [go_sem, pN_min, pN_max, w_u32, w_u64, Option.isNone_some, Option.isNone_none]; (try simp only [wrap_u32, wrap_u64]); rfl)) ?_ | fail)
        have hJ : ∀ (j : Nat) (q : Sl × List UInt8), H[j]? = some q → (ovr H.length H)[j]? = some (q.1, List.replicate q.2.length (byteOf j)) := fun j q h => by
          have := (List.getElem?_eq_some_iff.1 h).1
          rw [ovr_get, h]
          simp [this]
        generalize ovr H.length H = J at *
        refine ⟨fun ms' v0 v w => ms = ms' ∧ ∃ (i : Nat) (Ls : Hs) (Gs : List HA) (sX : Sl), i ≤ H.length ∧ v0 = .slice sX.a Ls.length sX.c ∧ v = .int .i64 i ∧ Ls.length = i ∧
          (∀ (j : Nat) (q : Sl × List UInt8), j < i → H[j]? = some q → ∃ G ∈ Gs, ∃ s' : Sl, Ls[j]? = some (s', List.replicate q.2.length (byteOf j) ++ tailL j) ∧ RdP cd_uint8 G q.1 (List.replicate q.2.length (byteOf j)) ∧ RdP cd_uint8 G s' (List.replicate q.2.length (byteOf j) ++ tailL j)) ∧
          Sat W w (bag Gs :: hBag (J.drop i) :: rows cd_sl_uint8 sX Ls :: cel a5 ⟨57, [.slice sH.a H.length sH.c]⟩ :: rows cd_sl_uint8 sH H :: marks ms :: cel a7 ⟨59, [.func (.func 24) #[] #[.pointer (some ⟨a5, 0, none⟩), .pointer (some ⟨a6, 0, none⟩)]]⟩ :: cel a2 ⟨4, [.bool false]⟩ :: cel a1 ⟨34, [.slice sl.a its.length sl.c]⟩ :: [old W]), fun _ v _ => H.length - (RowKit.intOf v).toNat, ⟨rfl, 0, [], [], ⟨none, 0⟩, Nat.zero_le _, rfl, rfl, rfl, fun j q h => absurd h (Nat.not_lt_zero _), ?_⟩, ?_⟩
        · rw [List.drop_zero]
          have h1 : Sat W w (rows cd_sl_uint8 ⟨none, 0⟩ [] :: _) := hS.nil cd_sl_uint8.e cd_sl_uint8.size
          exact h1.bag_nil.to
        clear hS hin hi
        rintro _ _ _ _ w ⟨rfl, i, Ls, Gs, sX, hi, rfl, rfl, hLs, hG, hS⟩
        by_cases hin : i < H.length
        · obtain ⟨q, hq⟩ : ∃ q, H[i]? = some q := ⟨H[i]'hin, by simp⟩
          have hql := hHq i q hq
          have hJq := hJ i q hq
          rw [drop_cons' hJq] at hS
          have hrl : (List.replicate q.2.length (byteOf i)).length = q.2.length := List.length_replicate
          generalize hrd : List.replicate q.2.length (byteOf i) = rq at *
          have h0 : Sat W w (hBag ((q.1, rq) :: J.drop (i + 1)) :: bag Gs :: rows cd_sl_uint8 sX Ls :: cel a5 ⟨57, [.slice sH.a H.length sH.c]⟩ :: rows cd_sl_uint8 sH H :: marks ms :: cel a7 ⟨59, [.func (.func 24) #[] #[.pointer (some ⟨a5, 0, none⟩), .pointer (some ⟨a6, 0, none⟩)]]⟩ :: cel a2 ⟨4, [.bool false]⟩ :: cel a1 ⟨34, [.slice sl.a its.length sl.c]⟩ :: [old W]) := hS.to
          have hS : Sat W w (rows cd_uint8 q.1 rq :: hBag (J.drop (i + 1)) :: bag Gs :: rows cd_sl_uint8 sX Ls :: cel a5 ⟨57, [.slice sH.a H.length sH.c]⟩ :: rows cd_sl_uint8 sH H :: marks ms :: cel a7 ⟨59, [.func (.func 24) #[] #[.pointer (some ⟨a5, 0, none⟩), .pointer (some ⟨a6, 0, none⟩)]]⟩ :: cel a2 ⟨4, [.bool false]⟩ :: cel a1 ⟨34, [.slice sl.a its.length sl.c]⟩ :: [old W]) := bag_uncons h0
          have htl : (tailL i).length = 1200 := List.length_replicate
          repeat' (first | (refine pN_lss_s ?_ ?_ <;> intro hc <;> try (exfalso; omega)) | refine pIf_t ?_ | refine pL_l hS (by first | rfl | assumption) ?_ | refine pL_ld1 ha hS ?_ | (refine pDr_go hS ?_; clear hS; intro w hS) | refine pA_ixk hS _ (by first | rfl | (exact (Int.toNat_of_nonneg (by omega)).symm)) (by first | rfl | omega | simpa only [go_sem] using True.intro | (simp only [go_sem]; omega)) (by assumption) fun a ha hel => ?_ | fail)
          refine pc_pithlaw33_tail (tail_ok (i := i) (by omega) hS ?_)
          clear hS
          intro st w hS
          repeat' (first | refine ⟨⟨(by first | exact run_l hS (by first | rfl | assumption) | exact run_st hS (by first | rfl | omega) | exact run_ld1 ha hS | exact fun _ => run_l hS (by rfl) | exact fun _ => run_st hS (by first | rfl | omega) | exact fun _ => run_ld1 ha hS | exact fun h => Bool.noConfusion h), (by first | exact run_l hS (by first | rfl | assumption) | exact run_st hS (by first | rfl | omega) | exact run_ld1 ha hS | exact fun _ => run_l hS (by rfl) | exact fun _ => run_st hS (by first | rfl | omega) | exact fun _ => run_ld1 ha hS | exact fun h => Bool.noConfusion h), trivial⟩, ?_⟩ | fail)
          refine pN_appk (C := cd_uint8) (s := q.1) (l := rq) (s2 := st) (m := tailL i) hS hrl.symm rfl (by rw [hrl, htl]; omega) ?_
          clear hS
          intro G s' w hG1 hG2 hS
          have hb24 : (Ls.length + [(s', rq ++ tailL i)].length) * 24 ≤ 140737488355328 := by rw [List.length_singleton]; omega
          repeat' (first | refine ⟨trivial, ?_⟩ | fail)
          refine pN_b1 (C := cd_sl_uint8) (x := (s', rq ++ tailL i)) hS rfl (by decide) ?_
          clear hS
          intro s8 w hS
          repeat' (first | refine ⟨trivial, ?_⟩ | (refine pN_app hS (by first | rfl | omega | simpa only [go_sem] using True.intro | (simp only [go_sem]; omega)) (by first | rfl | omega | simpa only [go_sem] using True.intro | (simp only [go_sem]; omega)) (by first | omega | (simp only [go_sem]; omega)) ?_; clear hS; intro s w hS) | refine pN_via (by (intro K; simp (disch := omega) only [go_sem, pN_min, pN_max, w_u32, w_u64, Option.isNone_some, Option.isNone_none]; (try simp only [wrap_u32, wrap_u64]); rfl)) ?_ | fail)
          have hS1 : Sat W w (G :: bag Gs :: hBag (J.drop (i + 1)) :: rows cd_sl_uint8 s (Ls ++ [(s', rq ++ tailL i)]) :: cel a5 ⟨57, [.slice sH.a H.length sH.c]⟩ :: rows cd_sl_uint8 sH H :: marks ms :: cel a7 ⟨59, [.func (.func 24) #[] #[.pointer (some ⟨a5, 0, none⟩), .pointer (some ⟨a6, 0, none⟩)]]⟩ :: cel a2 ⟨4, [.bool false]⟩ :: cel a1 ⟨34, [.slice sl.a its.length sl.c]⟩ :: [old W]) := hS.to
          refine ⟨⟨rfl, i + 1, Ls ++ [(s', rq ++ tailL i)], G :: Gs, s, hin, rfl, rfl, by rw [List.length_append, hLs]; rfl, fun j q2 hj hq2 => ?_, Sat.bag_cons hS1⟩, ?_⟩
          · by_cases e : j = i
            · subst e
              obtain rfl : q = q2 := Option.some.inj (hq.symm.trans hq2)
              rw [hrd]
              exact ⟨G, List.mem_cons_self .., s', by rw [List.getElem?_append_right (by omega), hLs, Nat.sub_self]; rfl, hG1, hG2⟩
            · obtain ⟨G', hm, s'', h1, h2, h3⟩ := hG j q2 (by omega) hq2
              exact ⟨G', List.mem_cons_of_mem _ hm, s'', by rw [List.getElem?_append_left (List.getElem?_eq_some_iff.1 h1).1]; exact h1, h2, h3⟩
          · show H.length - (RowKit.intOf (.int .i64 ((i + 1 : Nat) : Int))).toNat < H.length - (RowKit.intOf (.int .i64 (i : Int))).toNat
            simp only [RowKit.intOf, Int.toNat_natCast]
            omega
        · obtain rfl : i = H.length := by omega
          repeat' (first | (refine pN_lss_s ?_ ?_ <;> intro hc <;> try (exfalso; omega)) | refine pIf_f ?_ | refine pN_l hS (by first | rfl | assumption) ?_ | refine pN_via (by (intro K; simp (disch := omega) only [go_sem, pN_min, pN_max, w_u32, w_u64, Option.isNone_some, Option.isNone_none]; (try simp only [wrap_u32, wrap_u64]); rfl)) ?_ | fail)
          refine ⟨fun ms' v w => ms = ms' ∧ ∃ i : Nat, i ≤ H.length ∧ v = .int .i64 i ∧ Sat W w (bag Gs :: rows cd_sl_uint8 sX Ls :: cel a5 ⟨57, [.slice sH.a H.length sH.c]⟩ :: rows cd_sl_uint8 sH H :: marks ms :: cel a7 ⟨59, [.func (.func 24) #[] #[.pointer (some ⟨a5, 0, none⟩), .pointer (some ⟨a6, 0, none⟩)]]⟩ :: cel a2 ⟨4, [.bool false]⟩ :: cel a1 ⟨34, [.slice sl.a its.length sl.c]⟩ :: [old W]), fun v _ => H.length - (RowKit.intOf v).toNat, ⟨rfl, 0, Nat.zero_le _, rfl, hS.to⟩, ?_⟩
          clear hS hin hi
          rintro _ _ _ w ⟨rfl, i, hi, rfl, hS⟩
          by_cases hin : i < H.length
          · obtain ⟨q, hq⟩ : ∃ q, H[i]? = some q := ⟨H[i]'hin, by simp⟩
            have hql := hHq i q hq
            obtain ⟨G, hm, s', h1, h2, h3⟩ := hG i q hin hq
            have hrl : (List.replicate q.2.length (byteOf i)).length = q.2.length := List.length_replicate
            have hrk : ∀ k, k < q.2.length → (List.replicate q.2.length (byteOf i))[k]? = some (byteOf i) := fun k hk => by rw [List.getElem?_replicate, if_pos hk]
            generalize List.replicate q.2.length (byteOf i) = rq at *
            haveI : RdP cd_uint8 (bag Gs) q.1 rq := ⟨RdA.bag hm h2.rd⟩
            haveI : RdP cd_uint8 (bag Gs) s' (rq ++ tailL i) := ⟨RdA.bag hm h3.rd⟩
            repeat' (first | (refine pN_lss_s ?_ ?_ <;> intro hc <;> try (exfalso; omega)) | refine pIf_t ?_ | refine pN_l hS (by first | rfl | assumption) ?_ | refine pN_ld1 ha hS ?_ | refine pN_ixk hS _ (by first | rfl | (exact (Int.toNat_of_nonneg (by omega)).symm)) (by first | rfl | omega | simpa only [go_sem] using True.intro | (simp only [go_sem]; omega)) (by assumption) fun a ha hel => ?_ | refine pN_via (by (intro K; simp (disch := omega) only [go_sem, pN_min, pN_max, w_u32, w_u64, Option.isNone_some, Option.isNone_none]; (try simp only [wrap_u32, wrap_u64]); rfl)) ?_ | fail)
            refine ⟨fun ms' v w => ms = ms' ∧ ∃ k : Nat, k ≤ q.2.length ∧ v = .int .i64 k ∧ Sat W w (bag Gs :: rows cd_sl_uint8 sX Ls :: cel a5 ⟨57, [.slice sH.a H.length sH.c]⟩ :: rows cd_sl_uint8 sH H :: marks ms :: cel a7 ⟨59, [.func (.func 24) #[] #[.pointer (some ⟨a5, 0, none⟩), .pointer (some ⟨a6, 0, none⟩)]]⟩ :: cel a2 ⟨4, [.bool false]⟩ :: cel a1 ⟨34, [.slice sl.a its.length sl.c]⟩ :: [old W]), fun v _ => q.2.length - (RowKit.intOf v).toNat, ⟨rfl, 0, Nat.zero_le _, rfl, hS⟩, ?_⟩
            clear hS
            rintro _ _ _ w ⟨rfl, k, hk, rfl, hS⟩
            by_cases hkn : k < q.2.length
            · have hk1 := hrk k hkn
              have hk2 : (rq ++ tailL i)[k]? = some (byteOf i) := by rw [List.getElem?_append_left (by omega)]; exact hk1
              repeat' (first | (refine pN_lss_s ?_ ?_ <;> intro hc <;> try (exfalso; omega)) | (refine pN_neq_s ?_ ?_ <;> intro hc <;> try (exfalso; first | omega | exact hc rfl | exact hc (by assumption) | exact absurd hc (by assumption))) | refine pIf_t ?_ | refine pIf_f ?_ | refine pGd_go (by rfl) ?_ | refine pN_tob ?_ | refine pN_l hS (by first | rfl | assumption) ?_ | refine pN_ld1 ha hS ?_ | refine pN_ixk hS _ (by first | rfl | (exact (Int.toNat_of_nonneg (by omega)).symm)) (by first | rfl | omega | simpa only [go_sem] using True.intro | (simp only [go_sem]; omega)) (by assumption) fun a ha hel => ?_ | refine pN_via (by (intro K; simp (disch := omega) only [go_sem, pN_min, pN_max, w_u32, w_u64, Option.isNone_some, Option.isNone_none]; (try simp only [wrap_u32, wrap_u64]); rfl)) ?_ | fail)
              refine ⟨⟨rfl, k + 1, hkn, rfl, hS⟩, ?_⟩
              show q.2.length - (RowKit.intOf (.int .i64 ((k + 1 : Nat) : Int))).toNat < q.2.length - (RowKit.intOf (.int .i64 (k : Int))).toNat
              simp only [RowKit.intOf, Int.toNat_natCast]
              omega
            · have hdr : (rq ++ tailL i).drop q.2.length = tailL i := List.drop_left' hrl
              have hrl2 : (rq ++ tailL i).length = q.2.length + (tailL i).length := by rw [List.length_append, hrl]
              have htl : (tailL i).length = 1200 := List.length_replicate
              have hle : (rq ++ tailL i).length - q.2.length = (tailL i).length := by omega
              repeat' (first | (refine pN_lss_s ?_ ?_ <;> intro hc <;> try (exfalso; omega)) | refine pIf_f ?_ | refine pL_l hS (by first | rfl | assumption) ?_ | refine pL_ld1 ha hS ?_ | (refine pDr_go hS ?_; clear hS; intro w hS) | refine pA_ixk hS _ (by first | rfl | (exact (Int.toNat_of_nonneg (by omega)).symm)) (by first | rfl | omega | simpa only [go_sem] using True.intro | (simp only [go_sem]; omega)) (by assumption) fun a ha hel => ?_ | refine pA_via (by (intro K; simp (disch := omega) only [go_sem, pN_min, pN_max, w_u32, w_u64, Option.isNone_some, Option.isNone_none]; (try simp only [wrap_u32, wrap_u64]); rfl)) ?_ | fail)
              refine pA_sl1w (C := cd_uint8) (s := s') (l := rq ++ tailL i) hS q.2.length rfl rfl (by omega) ?_
              rw [hdr, hle]
              intro hsl
              repeat' (first | refine pL_st hS (by first | rfl | omega | simpa only [go_sem] using True.intro | (simp only [go_sem]; omega)) ?_ | fail)
              refine pc_pithlaw33_tail (tail_ok (i := i) (by omega) hS ?_)
              clear hS
              intro st w hS
              refine ⟨⟨run_st hS rfl, run_ld1 (by assumption) hS, run_l hS (by rfl), run_ld1 (by assumption) hS, trivial⟩, ?_⟩
              repeat' (first | (refine pA_neq_ss ?_ ?_ <;> intro hc <;> try (exfalso; first | omega | exact hc rfl | exact hc (by assumption) | exact absurd hc (by assumption))) | refine pIf_f ?_ | refine pL_st hS (by first | rfl | omega | simpa only [go_sem] using True.intro | (simp only [go_sem]; omega)) ?_ | refine pN_via (by (intro K; simp (disch := omega) only [go_sem, pN_min, pN_max, w_u32, w_u64, Option.isNone_some, Option.isNone_none]; (try simp only [wrap_u32, wrap_u64]); rfl)) ?_ | fail)
              refine ⟨⟨rfl, i + 1, hin, rfl, hS.to⟩, ?_⟩
              show H.length - (RowKit.intOf (.int .i64 ((i + 1 : Nat) : Int))).toNat < H.length - (RowKit.intOf (.int .i64 (i : Int))).toNat
              simp only [RowKit.intOf, Int.toNat_natCast]
              omega
          · repeat' (first | (refine pc_pithlaw33_known (known_ok hS ?_); clear hS; intro w hS) | (refine pN_lss_s ?_ ?_ <;> intro hc <;> try (exfalso; omega)) | refine pIf_f ?_ | (refine pN_s hS (by first | exact Nat.le_of_ble_eq_true rfl | assumption) (by rfl) ?_; clear hS; intro w hS; try simp only [List.set_cons_zero, List.set_cons_succ] at hS) | fail)
            have hS1 : Sat W w (marks ms :: cel a2 ⟨4, [.bool true]⟩ :: [old W]) := hS.to
            refine mk_all hS1 ?_
            clear hS hS1
            intro w hS
            repeat' (first | refine pL_r hS (by rfl) ?_ | fail)
            exact ⟨rfl, hS.to⟩
end Go.Proofs.YteeepkimnpabiaaDoor
