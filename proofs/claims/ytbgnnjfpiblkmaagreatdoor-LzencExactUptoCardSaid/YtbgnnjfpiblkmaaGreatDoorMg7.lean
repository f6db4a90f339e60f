/-
  Texts of one proof, one behind the other: Ref14D, ZNs, Ref14E, LfLzenc, LfTree, LfRcenc, Rcenc, Tree.
-/
import Derived.Test.YtbgnnjfpiblkmaaGreatDoorRows
import Derived.Test.YtbgnnjfpiblkmaaGreatDoorMg6
set_option linter.unusedSimpArgs false
set_option linter.unnecessarySimpa false
set_option linter.unusedSectionVars false
set_option linter.unusedVariables false

namespace Go.Proofs.YtbgnnjfpiblkmaaGreatDoor
open Go
attribute [local irreducible] oMv oV oU oCall oCallV oBi oBin oUn oLoad oStore oNil oFld oField oIdx oIndex oPick oAlloc oBox oBuild oBs oConv oMk oSl oExt oFn oIface oMap oLook oMapUp oRange oNext oEntry oInv oAssert oPanic oRes pN pA pL pDr pIf gA pGd

namespace Z
def repN (n : Int) (i : Int) : List NB :=
  if i = 0 then [⟨nm [73, 115, 82, 101, 112] [n], 0, 1⟩] ++ [⟨nm [73, 115, 82, 101, 112, 48] [n], 0, 0⟩]
  else if i = 1 then [⟨nm [73, 115, 82, 101, 112] [n], 0, 1⟩] ++ [⟨nm [73, 115, 82, 101, 112, 48] [n], 0, 1⟩, ⟨nm [73, 115, 82, 101, 112, 49] [n], 0, 0⟩]
  else if i = 2 then [⟨nm [73, 115, 82, 101, 112] [n], 0, 1⟩] ++ [⟨nm [73, 115, 82, 101, 112, 48] [n], 0, 1⟩, ⟨nm [73, 115, 82, 101, 112, 49] [n], 0, 1⟩, ⟨nm [73, 115, 82, 101, 112, 50] [n], 0, 0⟩]
  else [⟨nm [73, 115, 82, 101, 112] [n], 0, 1⟩] ++ [⟨nm [73, 115, 82, 101, 112, 48] [n], 0, 1⟩, ⟨nm [73, 115, 82, 101, 112, 49] [n], 0, 1⟩, ⟨nm [73, 115, 82, 101, 112, 50] [n], 0, 1⟩]
def lenN (cs : List UInt8) (ps n : Int) : List NB :=
  if n - 2 < 8 then [⟨cs ++ [32, 67, 104, 111, 105, 99, 101], 0, 0⟩] ++ nb (nm (cs ++ [32, 76, 111, 119]) [ps]) (R.bitAt false 3 (n - 2)) 3
  else if n - 2 < 16 then [⟨cs ++ [32, 67, 104, 111, 105, 99, 101], 0, 1⟩, ⟨cs ++ [32, 67, 104, 111, 105, 99, 101, 50], 0, 0⟩] ++ nb (nm (cs ++ [32, 77, 105, 100]) [ps]) (R.bitAt false 3 (n - 2 - 8)) 3
  else [⟨cs ++ [32, 67, 104, 111, 105, 99, 101], 0, 1⟩, ⟨cs ++ [32, 67, 104, 111, 105, 99, 101, 50], 0, 1⟩] ++ nb (cs ++ [32, 72, 105, 103, 104]) (R.bitAt false 8 (n - 2 - 16)) 8
def dirN (v : Int) (n : Nat) : Nat → List NB
  | 0 => []
  | k + 1 => dirN v n k ++ [⟨[], 0, v / 2 ^ (n - 1 - k) % 2⟩]
theorem dirN_len (v : Int) (n : Nat) : ∀ k, (dirN v n k).length = k
  | 0 => rfl
  | k + 1 => by rw [dirN, List.length_append, dirN_len v n k]; rfl
def distN (n d : Int) : List NB :=
  if slot d < 4 then nb (nm [83, 108, 111, 116] [min (n - 2) 3]) (R.bitAt false 6 (slot d)) 6
  else if slot d < 14 then nb (nm [83, 108, 111, 116] [min (n - 2) 3]) (R.bitAt false 6 (slot d)) 6 ++ nb (nm [82, 101, 115, 116] [slot d]) (R.bitAt true (bitsN (slot d)) (d - least (slot d))) (bitsN (slot d))
  else nb (nm [83, 108, 111, 116] [min (n - 2) 3]) (R.bitAt false 6 (slot d)) 6 ++ dirN ((d - least (slot d)) / 16) (bitsN (slot d) - 4) (bitsN (slot d) - 4) ++ nb [65, 108, 105, 103, 110] (R.bitAt true 4 ((d - least (slot d)) % 16)) 4
def litK (p : Pr) (x : W) : Int := x.all.length % 2 ^ p.lp.toNat * 2 ^ p.lc.toNat + ((lastOr x 1).toNat : Int) / 2 ^ (8 - p.lc).toNat
def litGoN (s : List UInt8) (b t : Int) : Nat → Int → Bool → List NB
  | 0, _, _ => []
  | i + 1, m, same => ⟨s, if same then 256 * (1 + t / 2 ^ i % 2) + m else m, b / 2 ^ i % 2⟩ :: litGoN s b t i (2 * m + b / 2 ^ i % 2) (same && decide (b / 2 ^ i % 2 = t / 2 ^ i % 2))
def litN (p : Pr) (s : St) (x : W) (b : UInt8) : List NB :=
  if s.num < 7 then nb (nm [76, 105, 116, 101, 114, 97, 108] [litK p x]) (R.bitAt false 8 b.toNat) 8 else litGoN (nm [76, 105, 116, 101, 114, 97, 108] [litK p x]) b.toNat (lastOr x s.r0).toNat 8 1 true
theorem lastOr_1 {x : W} (h0 : 1 ≤ x.size) : lastOr x 1 = (x.all.getLast?).getD 0 := by
  unfold lastOr
  rw [List.getLast?_eq_getElem?]
  by_cases hh : x.has 1
  · rw [if_pos hh]
    rfl
  · rw [if_neg hh]
    have : x.all.length = 0 := by unfold W.has W.full at hh; omega
    rw [List.getElem?_eq_none (by omega)]
    rfl
end Z

section
variable {E w : World} {M : List HA} {Q : Value → World → Prop} {bm be bw c : Nat} {N : Key → List Int} {n : Key} {p : Z.Pr} {s : Z.St} {x : Z.W}

theorem pN_nb {K : Value → World → Prop} {L : List HA} {nme : List UInt8} {i b : Int} (hS : Sat E w L) (hk : ∀ s' w', Sat E w' (rows cd_pithref14_Bit s' [⟨nme, i, b⟩] :: L) → K (.slice s'.a 1 s'.c) w') :
    pN Tryz.prog (oBs 142 1 [(0, .agg #[.string ⟨nme.toArray⟩, .int .i64 i, .int .i64 b])]) w K := pN_b1 (x := (⟨nme, i, b⟩ : Z.NB)) hS rfl (by decide) hk
theorem pN_nb2 {K : Value → World → Prop} {L : List HA} {n1 n2 : List UInt8} {i1 b1 i2 b2 : Int} (hS : Sat E w L) (hk : ∀ s' w', Sat E w' (rows cd_pithref14_Bit s' [⟨n1, i1, b1⟩, ⟨n2, i2, b2⟩] :: L) → K (.slice s'.a 2 s'.c) w') :
    pN Tryz.prog (oBs 142 2 [(0, .agg #[.string ⟨n1.toArray⟩, .int .i64 i1, .int .i64 b1]), (1, .agg #[.string ⟨n2.toArray⟩, .int .i64 i2, .int .i64 b2])]) w K :=
  pN_bl (C := cd_pithref14_Bit) [_, _] [⟨n1, i1, b1⟩, ⟨n2, i2, b2⟩] rfl rfl rfl (Nat.zero_lt_succ _) hS (Nat.le_of_ble_eq_true rfl) hk
theorem pN_nb3 {K : Value → World → Prop} {L : List HA} {n1 n2 n3 : List UInt8} {i1 b1 i2 b2 i3 b3 : Int} (hS : Sat E w L) (hk : ∀ s' w', Sat E w' (rows cd_pithref14_Bit s' [⟨n1, i1, b1⟩, ⟨n2, i2, b2⟩, ⟨n3, i3, b3⟩] :: L) → K (.slice s'.a 3 s'.c) w') :
    pN Tryz.prog (oBs 142 3 [(0, .agg #[.string ⟨n1.toArray⟩, .int .i64 i1, .int .i64 b1]), (1, .agg #[.string ⟨n2.toArray⟩, .int .i64 i2, .int .i64 b2]), (2, .agg #[.string ⟨n3.toArray⟩, .int .i64 i3, .int .i64 b3])]) w K :=
  pN_bl (C := cd_pithref14_Bit) [_, _, _] [⟨n1, i1, b1⟩, ⟨n2, i2, b2⟩, ⟨n3, i3, b3⟩] rfl rfl rfl (Nat.zero_lt_succ _) hS (Nat.le_of_ble_eq_true rfl) hk
set_option maxRecDepth 8000 in
theorem R14rep_ok {st : Z.St} (i : Int) (h : 0 ≤ i ∧ i ≤ 3) (hr : st.Right) (hS : Sat E w (Cod c p bw st bm be :: M)) (hQ : ∀ s w, Sat E w (rows cd_pithref14_Bit s (Z.repN st.num i) :: Cod c p bw st bm be :: M) → Q (.slice s.a (Z.repN st.num i).length s.c) w) :
    Calls Tryz.prog 112 #[pz c, .int .i64 i] w (retP Q) := by
  refine pithref14_Coder_rep.calls ?_
  unfold pithref14_Coder_rep.F
  have hn := hr.num
  have hi : ∀ j ∈ [st.num], 0 ≤ j ∧ j < 100 := fun j hj => by rw [List.mem_singleton] at hj; omega
  have h4 : i = 0 ∨ i = 1 ∨ i = 2 ∨ i = 3 := by omega
  unfold Z.repN at hQ
  rcases h4 with rfl | rfl | rfl | rfl
  · rw [if_pos rfl] at hQ
    repeat' (first | (refine pc_pithref14_name (R14name_ok _ [st.num] hS hi (by simp) ?_); clear hS; intro w hS) | (refine pN_nb hS ?_; clear hS; intro s w hS) | (refine pN_eql_s ?_ ?_ <;> intro hc <;> try (exfalso; first | omega | exact hc rfl | exact hc (by assumption) | exact absurd hc (by assumption))) | refine pIf_t ?_ | refine pN_l hS (by first | rfl | assumption) ?_ | (refine pN_b1 hS (by rfl) (by decide) ?_; clear hS; intro s w hS) | (refine pN_app hS (by first | rfl | omega | simpa only [go_sem] using True.intro | (simp only [go_sem]; omega)) (by first | rfl | omega | simpa only [go_sem] using True.intro | (simp only [go_sem]; omega)) (by first | omega | (simp only [go_sem]; omega)) ?_; clear hS; intro s w hS) | refine pN_v (hk := ?_) | fail)
    exact hQ _ _ hS.to
  · rw [if_neg (by omega), if_pos rfl] at hQ
    repeat' (first | (refine pc_pithref14_name (R14name_ok _ [st.num] hS hi (by simp) ?_); clear hS; intro w hS) | (refine pN_nb hS ?_; clear hS; intro s w hS) | (refine pN_nb2 hS ?_; clear hS; intro s w hS) | (refine pN_eql_s ?_ ?_ <;> intro hc <;> try (exfalso; first | omega | exact hc rfl | exact hc (by assumption) | exact absurd hc (by assumption))) | refine pIf_t ?_ | refine pIf_f ?_ | refine pN_l hS (by first | rfl | assumption) ?_ | (refine pN_b1 hS (by rfl) (by decide) ?_; clear hS; intro s w hS) | (refine pN_app hS (by first | rfl | omega | simpa only [go_sem] using True.intro | (simp only [go_sem]; omega)) (by first | rfl | omega | simpa only [go_sem] using True.intro | (simp only [go_sem]; omega)) (by first | omega | (simp only [go_sem]; omega)) ?_; clear hS; intro s w hS) | refine pN_v (hk := ?_) | fail)
    exact hQ _ _ hS.to
  · rw [if_neg (by omega), if_neg (by omega), if_pos rfl] at hQ
    repeat' (first | (refine pc_pithref14_name (R14name_ok _ [st.num] hS hi (by simp) ?_); clear hS; intro w hS) | (refine pN_nb hS ?_; clear hS; intro s w hS) | (refine pN_nb3 hS ?_; clear hS; intro s w hS) | (refine pN_eql_s ?_ ?_ <;> intro hc <;> try (exfalso; first | omega | exact hc rfl | exact hc (by assumption) | exact absurd hc (by assumption))) | refine pIf_t ?_ | refine pIf_f ?_ | refine pN_l hS (by first | rfl | assumption) ?_ | (refine pN_b1 hS (by rfl) (by decide) ?_; clear hS; intro s w hS) | (refine pN_app hS (by first | rfl | omega | simpa only [go_sem] using True.intro | (simp only [go_sem]; omega)) (by first | rfl | omega | simpa only [go_sem] using True.intro | (simp only [go_sem]; omega)) (by first | omega | (simp only [go_sem]; omega)) ?_; clear hS; intro s w hS) | refine pN_v (hk := ?_) | fail)
    exact hQ _ _ hS.to
  · rw [if_neg (by omega), if_neg (by omega), if_neg (by omega)] at hQ
    repeat' (first | (refine pc_pithref14_name (R14name_ok _ [st.num] hS hi (by simp) ?_); clear hS; intro w hS) | (refine pN_nb hS ?_; clear hS; intro s w hS) | (refine pN_nb3 hS ?_; clear hS; intro s w hS) | (refine pN_eql_s ?_ ?_ <;> intro hc <;> try (exfalso; first | omega | exact hc rfl | exact hc (by assumption) | exact absurd hc (by assumption))) | refine pIf_f ?_ | refine pN_l hS (by first | rfl | assumption) ?_ | (refine pN_b1 hS (by rfl) (by decide) ?_; clear hS; intro s w hS) | (refine pN_app hS (by first | rfl | omega | simpa only [go_sem] using True.intro | (simp only [go_sem]; omega)) (by first | rfl | omega | simpa only [go_sem] using True.intro | (simp only [go_sem]; omega)) (by first | omega | (simp only [go_sem]; omega)) ?_; clear hS; intro s w hS) | refine pN_v (hk := ?_) | fail)
    exact hQ _ _ hS.to

set_option maxRecDepth 8000 in
theorem R14length_ok (cs : List UInt8) (hcs : cs.length ≤ 100) {st : Z.St} (nn : Int) (hnn : Z.isLen nn) (hp : p.Ok) (hS : Sat E w (Cod c p bw st bm be :: RWin bw x :: M)) (hQ : ∀ s w, Sat E w (rows cd_pithref14_Bit s (Z.lenN cs (Z.place p x.all.length) nn) :: Cod c p bw st bm be :: RWin bw x :: M) → Q (.slice s.a (Z.lenN cs (Z.place p x.all.length) nn).length s.c) w) :
    Calls Tryz.prog 110 #[pz c, .string ⟨cs.toArray⟩, .int .i64 nn] w (retP Q) := by
  refine pithref14_Coder_length.calls ?_
  unfold pithref14_Coder_length.F
  obtain ⟨n0, n1⟩ := hnn
  have hpl := place_bd hp x.all.length
  obtain ⟨ps, hps⟩ : ∃ ps, ps = Z.place p x.all.length := ⟨_, rfl⟩
  rw [← hps] at hpl hQ
  have hi : ∀ j ∈ [ps], 0 ≤ j ∧ j < 100 := fun j hj => by rw [List.mem_singleton] at hj; omega
  have l1 : (cs ++ [32, 67, 104, 111, 105, 99, 101]).length ≤ 1000 := by rw [List.length_append]; exact Nat.le_trans (Nat.add_le_add_right hcs _) (by decide)
  repeat' (first | refine pN_v (hk := ?_) | fail)
  refine pc_pithref14_Coder_Place (R14Place_ok hS hp fun w hS => ?_)
  rw [← hps]
  by_cases c8 : nn - 2 < 8
  · rw [Z.lenN, if_pos c8] at hQ
    repeat' (first | (refine pN_app hS (by first | rfl | (simp only [Z.nb_len, Z.dirN_len, List.length_append, List.length_cons, List.length_nil] <;> omega)) (by first | rfl | exact (Z.nb_len _ _ _).symm) (by simp only [Z.nb_len, List.length_append, List.length_cons, List.length_nil]; omega) ?_; clear hS; intro s w hS) | refine pN_sadd (by simp only [List.length_append, List.length_cons, List.length_nil]; omega) ?_ | (refine pc_pithref14_name (R14name_ok _ [ps] hS hi (by simp only [List.length_append, List.length_cons, List.length_nil]; omega) ?_); clear hS; intro w hS) | (refine pN_nb hS ?_; clear hS; intro s w hS) | (refine pc_pithref14_tree (R14tree_ok _ 3 _ (by omega) (by omega) (by omega) hS ?_); clear hS; intro s2 w hS) | (refine pN_lss_s ?_ ?_ <;> intro hc <;> try (exfalso; omega)) | refine pIf_t ?_ | (refine pN_b1 hS (by rfl) (by decide) ?_; clear hS; intro s w hS) | refine pN_v (hk := ?_) | fail)
    exact hQ _ _ hS.to
  · by_cases c16 : nn - 2 < 16
    · rw [Z.lenN, if_neg c8, if_pos c16] at hQ
      repeat' (first | (refine pN_nb2 hS ?_; clear hS; intro s w hS) | (refine pN_app hS (by first | rfl | (simp only [Z.nb_len, Z.dirN_len, List.length_append, List.length_cons, List.length_nil] <;> omega)) (by first | rfl | exact (Z.nb_len _ _ _).symm) (by simp only [Z.nb_len, List.length_append, List.length_cons, List.length_nil]; omega) ?_; clear hS; intro s w hS) | refine pN_sadd (by simp only [List.length_append, List.length_cons, List.length_nil]; omega) ?_ | (refine pc_pithref14_name (R14name_ok _ [ps] hS hi (by simp only [List.length_append, List.length_cons, List.length_nil]; omega) ?_); clear hS; intro w hS) | (refine pc_pithref14_tree (R14tree_ok _ 3 _ (by omega) (by omega) (by omega) hS ?_); clear hS; intro s2 w hS) | (refine pN_lss_s ?_ ?_ <;> intro hc <;> try (exfalso; omega)) | refine pIf_t ?_ | refine pIf_f ?_ | (refine pN_b1 hS (by rfl) (by decide) ?_; clear hS; intro s w hS) | refine pN_v (hk := ?_) | fail)
      exact hQ _ _ hS.to
    · rw [Z.lenN, if_neg c8, if_neg c16] at hQ
      repeat' (first | (refine pN_nb2 hS ?_; clear hS; intro s w hS) | (refine pN_app hS (by first | rfl | (simp only [Z.nb_len, Z.dirN_len, List.length_append, List.length_cons, List.length_nil] <;> omega)) (by first | rfl | exact (Z.nb_len _ _ _).symm) (by simp only [Z.nb_len, List.length_append, List.length_cons, List.length_nil]; omega) ?_; clear hS; intro s w hS) | refine pN_sadd (by simp only [List.length_append, List.length_cons, List.length_nil]; omega) ?_ | (refine pc_pithref14_tree (R14tree_ok _ 8 _ (by omega) (by omega) (by omega) hS ?_); clear hS; intro s2 w hS) | (refine pN_lss_s ?_ ?_ <;> intro hc <;> try (exfalso; omega)) | refine pIf_f ?_ | refine pN_v (hk := ?_) | fail)
      exact hQ _ _ hS.to

set_option maxRecDepth 8000 in
theorem R14distance_ok (nn d : Int) (hnn : Z.isLen nn) (hd : Z.isDist d) (hS : Sat E w M) (hQ : ∀ s w, Sat E w (rows cd_pithref14_Bit s (Z.distN nn d) :: M) → Q (.slice s.a (Z.distN nn d).length s.c) w) :
    Calls Tryz.prog 111 #[.int .i64 nn, .int .i64 d] w (retP Q) := by
  refine pithref14_distance.calls ?_
  unfold pithref14_distance.F
  obtain ⟨n0, n1⟩ := hnn
  have hl := Z.slot_law hd
  have hd' := hd
  obtain ⟨d0, d1⟩ := hd'
  obtain ⟨l0, l1, l2, l3, l4⟩ := hl
  obtain ⟨sv, hsv⟩ : ∃ k : Nat, Z.slot d = k := ⟨(Z.slot d).toNat, by omega⟩
  have hbig : ¬ Z.slot d < 14 → 6 ≤ Z.bitsN (Z.slot d) := fun h => Z.late_bits (by omega)
  have hsmall : ¬ Z.slot d < 4 → Z.slot d < 14 → Z.bitsN (Z.slot d) ≤ 5 := fun h h2 => (Z.rest_law _ (by omega) (by omega)).2.2.1
  have hlp := Z.least_pos l0
  unfold Z.distN at hQ
  rw [hsv] at l0 l1 l2 l3 l4 hbig hsmall hlp hQ
  obtain ⟨nb, hnb⟩ : ∃ k, Z.bitsN (sv : Int) = k := ⟨_, rfl⟩
  obtain ⟨le, hle⟩ : ∃ k, Z.least (sv : Int) = k := ⟨_, rfl⟩
  have hR : ∀ (Q : Value → World → Prop) w, Q (.tuple #[.int .i64 le, .int .i64 nb, .int .i64 0]) w → Calls Tryz.prog 155 #[.int .i64 sv] w (retP Q) := fun Q w h => R12Range_in sv (by omega) (by rw [hnb, hle]; exact h)
  rw [hle] at l3
  rw [hnb, hle] at l4 hQ
  rw [hnb] at l2 hbig hsmall
  rw [hle] at hlp
  have hi : ∀ j ∈ [min (nn - 2) 3], 0 ≤ j ∧ j < 100 := fun j hj => by rw [List.mem_singleton] at hj; omega
  have hi2 : ∀ j ∈ [(sv : Int)], 0 ≤ j ∧ j < 100 := fun j hj => by rw [List.mem_singleton] at hj; omega
  obtain ⟨mk, hmk⟩ : ∃ mk, mk = min (nn - 2) 3 := ⟨_, rfl⟩
  rw [← hmk] at hi hQ
  repeat' (first | refine pN_v (hk := ?_) | fail)
  refine ⟨fun v w => v = .int .i64 mk ∧ Sat E w M, ?_, ?_⟩
  · by_cases h3 : nn - 2 > 3
    · repeat' (first | (refine pN_gtr_s ?_ ?_ <;> intro hc <;> try (exfalso; omega)) | refine pIf_t ?_ | fail)
      exact ⟨by rw [hmk]; congr 1; omega, hS⟩
    · repeat' (first | (refine pN_gtr_s ?_ ?_ <;> intro hc <;> try (exfalso; omega)) | refine pIf_f ?_ | fail)
      exact ⟨by rw [hmk]; congr 1; omega, hS⟩
  clear hS
  rintro _ _ w ⟨rfl, hS⟩
  have hp30 : (2 : Int) ^ nb ≤ 2 ^ 30 := two_le' l2
  have e30 : (2 : Int) ^ 30 = 1073741824 := by decide
  have eq6 : (2 : Int) ^ 6 = 64 := by decide
  by_cases c4 : (sv : Int) < 4
  · rw [if_pos c4] at hQ
    repeat' (first | (refine pc_pithref12_Slot (R12Slot_in d hd ?_); rw [hsv]) | (refine pc_pithref14_name (R14name_ok _ [mk] hS hi (by simp) ?_); clear hS; intro w hS) | (refine pc_pithref14_tree (R14tree_ok _ 6 _ (by omega) (by omega) (by omega) hS ?_); clear hS; intro s2 w hS) | refine pc_pithref12_Range (hR _ _ ?_) | (refine pN_lss_s ?_ ?_ <;> intro hc <;> try (exfalso; omega)) | refine pIf_t ?_ | (refine pN_b1 hS (by rfl) (by decide) ?_; clear hS; intro s w hS) | refine pN_v (hk := ?_) | fail)
    rw [Z.nb_len] at hQ
    exact hQ _ _ hS.to
  by_cases c14 : (sv : Int) < 14
  · have h5 := hsmall c4 c14
    rw [if_neg c4, if_pos c14] at hQ
    repeat' (first | (refine pN_app hS (by first | rfl | (simp only [Z.nb_len, Z.dirN_len, List.length_append, List.length_cons, List.length_nil] <;> omega)) (by first | rfl | exact (Z.nb_len _ _ _).symm) (by simp only [Z.nb_len, List.length_append, List.length_cons, List.length_nil]; omega) ?_; clear hS; intro s w hS) | (refine pc_pithref12_Slot (R12Slot_in d hd ?_); rw [hsv]) | (refine pc_pithref14_name (R14name_ok _ [mk] hS hi (by simp) ?_); clear hS; intro w hS) | (refine pc_pithref14_name (R14name_ok _ [(sv : Int)] hS hi2 (by simp) ?_); clear hS; intro w hS) | (refine pc_pithref14_tree (R14tree_ok _ 6 _ (by omega) (by omega) (by omega) hS ?_); clear hS; intro s2 w hS) | refine pc_pithref12_Range (hR _ _ ?_) | (refine pc_pithref14_back (R14back_ok _ nb _ (by omega) (by omega) (by omega) hS ?_); clear hS; intro s3 w hS) | (refine pN_lss_s ?_ ?_ <;> intro hc <;> try (exfalso; omega)) | refine pIf_t ?_ | refine pIf_f ?_ | (refine pN_b1 hS (by rfl) (by decide) ?_; clear hS; intro s w hS) | refine pN_v (hk := ?_) | fail)
    exact hQ _ _ hS.to
  · have h6 := hbig c14
    rw [if_neg c4, if_neg c14] at hQ
    repeat' (first | (refine pc_pithref12_Slot (R12Slot_in d hd ?_); rw [hsv]) | (refine pc_pithref14_name (R14name_ok _ [mk] hS hi (by simp) ?_); clear hS; intro w hS) | (refine pc_pithref14_tree (R14tree_ok _ 6 _ (by omega) (by omega) (by omega) hS ?_); clear hS; intro s2 w hS) | refine pc_pithref12_Range (hR _ _ ?_) | (refine pN_lss_s ?_ ?_ <;> intro hc <;> try (exfalso; omega)) | refine pIf_f ?_ | (refine pN_b1 hS (by rfl) (by decide) ?_; clear hS; intro s w hS) | refine pN_v (hk := ?_) | fail)
    obtain ⟨B, hB⟩ : ∃ B, B = Z.nb (Z.nm [83, 108, 111, 116] [mk]) (R.bitAt false 6 sv) 6 := ⟨_, rfl⟩
    have hBl : B.length = 6 := by rw [hB, Z.nb_len]
    rw [← hB] at hS hQ
    refine ⟨fun a i w => ∃ (k : Nat) (s : Sl), k ≤ nb - 4 ∧ a = .slice s.a (B ++ Z.dirN ((d - le) / 16) (nb - 4) k).length s.c ∧ i = .int .i64 ((nb : Int) - 5 - k) ∧ Sat E w (rows cd_pithref14_Bit s (B ++ Z.dirN ((d - le) / 16) (nb - 4) k) :: M), fun _ i _ => (RowKit.intOf i + 1).toNat, ⟨0, s2, by omega, by simp only [Z.dirN, List.append_nil]; rw [hBl], by congr 1; simp, by simp only [Z.dirN, List.append_nil]; exact hS.to⟩, ?_⟩
    clear hS
    rintro _ _ _ w ⟨k, s, hk, rfl, rfl, hS⟩
    have hdl := Z.dirN_len ((d - le) / 16) (nb - 4) k
    by_cases hlt : k < nb - 4
    · obtain ⟨j, hj⟩ : ∃ j : Nat, (nb : Int) - 5 - k = j := ⟨((nb : Int) - 5 - k).toNat, by omega⟩
      have hj0 : (0 : Int) < 2 ^ j := Int.pow_pos (by omega)
      have hv0 : 0 ≤ (d - le) / 16 := by omega
      have hq0 : 0 ≤ (d - le) / 16 / 2 ^ j := Int.ediv_nonneg hv0 (by omega)
      have hq1 : (d - le) / 16 / 2 ^ j ≤ (d - le) / 16 := Int.ediv_le_self _ hv0
      have es : Z.dirN ((d - le) / 16) (nb - 4) (k + 1) = Z.dirN ((d - le) / 16) (nb - 4) k ++ [⟨[], 0, (d - le) / 16 / 2 ^ j % 2⟩] := by
        rw [Z.dirN, show nb - 4 - 1 - k = j from by omega]
      rw [hj]
      repeat' (first | (refine pN_app hS (by first | rfl | (simp only [Z.nb_len, Z.dirN_len, List.length_append, List.length_cons, List.length_nil] <;> omega)) (by first | rfl | exact (Z.nb_len _ _ _).symm) (by simp only [Z.nb_len, List.length_append, List.length_cons, List.length_nil]; omega) ?_; clear hS; intro s w hS) | (refine pc_pithref14_two (R14two_ok j (by omega) ?_)) | (refine pN_b1 (x := (⟨[], 0, (d - le) / 16 / 2 ^ j % 2⟩ : Z.NB)) hS rfl (by decide) ?_; clear hS; intro s3 w hS) | (refine pN_geq_s ?_ ?_ <;> intro hc <;> try (exfalso; omega)) | refine pIf_t ?_ | refine pN_v (hk := ?_) | fail)
      rw [List.append_assoc, ← es] at hS
      rw [List.append_assoc, ← es]
      exact ⟨⟨k + 1, s, hlt, rfl, by congr 1; omega, hS.to⟩, by simp only [RowKit.intOf]; omega⟩
    · obtain rfl : k = nb - 4 := by omega
      repeat' (first | (refine pN_app hS (by first | rfl | (simp only [Z.nb_len, Z.dirN_len, List.length_append, List.length_cons, List.length_nil] <;> omega)) (by first | rfl | exact (Z.nb_len _ _ _).symm) (by simp only [Z.nb_len, List.length_append, List.length_cons, List.length_nil]; omega) ?_; clear hS; intro s w hS) | (refine pc_pithref14_back (R14back_ok _ 4 _ (by omega) (by omega) (by omega) hS ?_); clear hS; intro s3 w hS) | (refine pN_geq_s ?_ ?_ <;> intro hc <;> try (exfalso; omega)) | refine pIf_f ?_ | refine pN_v (hk := ?_) | fail)
      exact hQ _ _ hS.to

set_option maxRecDepth 8000 in
theorem R14literal_ok {st : Z.St} (hS : Sat E w (Cod c p bw st bm be :: RWin bw x :: M)) (hp : p.Ok) (hr : st.Right) (hl : x.all.length ≤ 140737488355328) (h0 : 1 ≤ x.size) (b : UInt8)
    (hQ : ∀ s w, Sat E w (rows cd_pithref14_Bit s (Z.litN p st x b) :: Cod c p bw st bm be :: RWin bw x :: M) → Q (.slice s.a (Z.litN p st x b).length s.c) w) :
    Calls Tryz.prog 109 #[pz c, .int .i64 b.toNat] w (retP Q) := by
  refine pithref14_Coder_literal.calls ?_
  unfold pithref14_Coder_literal.F
  have hbl : b.toNat < 256 := b.toNat_lt
  have hL1 := Z.lastOr_1 h0
  refine pc_pithref14_Coder_Literal (R14Literal_ok hS hp hl (Z.lastOr x 1) hL1 fun w hS => ?_)
  unfold Z.litN Z.litK at hQ
  generalize Z.nm [76, 105, 116, 101, 114, 97, 108] [(x.all.length : Int) % 2 ^ p.lp.toNat * 2 ^ p.lc.toNat + ((Z.lastOr x 1).toNat : Int) / 2 ^ (8 - p.lc).toNat] = nme at hQ ⊢
  by_cases c7 : st.num < 7
  · rw [if_pos c7] at hQ
    repeat' (first | (refine pc_pithref14_tree (R14tree_ok nme 8 _ (by omega) (by omega) (by omega) hS ?_); clear hS; intro s2 w hS) | (refine pN_lss_s ?_ ?_ <;> intro hc <;> try (exfalso; omega)) | refine pIf_t ?_ | refine pN_l hS (by first | rfl | assumption) ?_ | refine pN_v (hk := ?_) | fail)
    rw [Z.nb_len] at hQ
    exact hQ _ _ hS
  · rw [if_neg c7] at hQ
    have hLast : ∀ (Q : Value → World → Prop) w, Sat E w (Cod c p bw st bm be :: RWin bw x :: M) → (∀ e w, Sat E w (Cod c p bw st bm be :: RWin bw x :: M) → Q (.tuple #[bv (Z.lastOr x st.r0), .int .i64 e]) w) → Calls Tryz.prog 153 #[pz bw, .int .i64 st.r0] w (retP Q) := fun Q w hS hQ => by
      by_cases hh : x.has st.r0
      · refine R10Last_in (hS.fd (RWin bw)) (by omega) hl _ hh fun w hS => ?_
        rw [Z.lastOr, if_pos hh] at hQ
        exact hQ _ _ hS.to
      · refine R10Last_no (hS.fd (RWin bw)) (by omega) _ hh fun w hS => ?_
        rw [Z.lastOr, if_neg hh] at hQ
        exact hQ _ _ hS.to
    repeat' (first | (refine pc_pithref10_Window_Last (hLast _ _ hS ?_); clear hS; intro e w hS) | refine And.intro trivial ?_ | (refine pN_lss_s ?_ ?_ <;> intro hc <;> try (exfalso; omega)) | refine pIf_f ?_ | refine pN_l hS (by first | rfl | assumption) ?_ | refine pL_l hS (by first | rfl | assumption) ?_ | (refine pDr_go hS ?_; clear hS; intro w hS) | refine pN_v (hk := ?_) | refine pA_v (hk := ?_) | fail)
    have hS : Sat E _ (rows cd_pithref14_Bit ⟨none, 0⟩ [] :: _) := hS.nil 146 3
    have htl : (Z.lastOr x st.r0).toNat < 256 := (Z.lastOr x st.r0).toNat_lt
    obtain ⟨bt, hbt⟩ : ∃ k : Nat, k = b.toNat := ⟨_, rfl⟩
    rw [← hbt] at hbl hQ ⊢
    refine ⟨fun a m al i w => ∃ (k : Nat) (s : Sl) (l : List Z.NB) (mm : Int) (same : Bool), k ≤ 8 ∧ a = .slice s.a l.length s.c ∧ m = .int .i64 mm ∧ al = .bool same ∧ i = .int .i64 ((k : Int) - 1) ∧ 1 ≤ mm ∧ mm < 2 ^ (9 - k) ∧ l.length = 8 - k ∧ l ++ Z.litGoN nme bt (Z.lastOr x st.r0).toNat k mm same = Z.litGoN nme bt (Z.lastOr x st.r0).toNat 8 1 true ∧ Sat E w (rows cd_pithref14_Bit s l :: Cod c p bw st bm be :: RWin bw x :: M), fun _ _ _ i _ => (RowKit.intOf i + 1).toNat, ⟨8, ⟨none, 0⟩, [], 1, true, by omega, rfl, rfl, rfl, rfl, by omega, by decide, rfl, rfl, hS⟩, ?_⟩
    clear hS
    rintro _ _ _ _ _ w ⟨k, s, l, mm, same, hk, rfl, rfl, rfl, rfl, hm1, hm2, hll, hgo, hS⟩
    have h9 : (2 : Int) ^ (9 - k) ≤ 2 ^ 9 := two_le' (by omega)
    have e9 : (2 : Int) ^ 9 = 512 := by decide
    cases k with
    | zero =>
      simp only [Z.litGoN, List.append_nil] at hgo
      repeat' (first | (refine pN_geq_s ?_ ?_ <;> intro hc <;> try (exfalso; omega)) | refine pIf_f ?_ | fail)
      rw [hgo] at hS
      rw [hgo]
      exact hQ _ _ hS
    | succ j =>
      have hj0 : (0 : Int) < 2 ^ j := Int.pow_pos (by omega)
      have hb0 : 0 ≤ (bt : Int) / 2 ^ j := Int.ediv_nonneg (by omega) (by omega)
      have hb1 : (bt : Int) / 2 ^ j ≤ bt := Int.ediv_le_self _ (by omega)
      have ht0 : 0 ≤ ((Z.lastOr x st.r0).toNat : Int) / 2 ^ j := Int.ediv_nonneg (by omega) (by omega)
      have ht1 : ((Z.lastOr x st.r0).toNat : Int) / 2 ^ j ≤ (Z.lastOr x st.r0).toNat := Int.ediv_le_self _ (by omega)
      have hm3 : 2 * mm + (bt : Int) / 2 ^ j % 2 < 2 ^ (9 - j) := by
        rw [show 9 - j = (9 - (j + 1)) + 1 from by omega, Int.pow_succ]; omega
      have ej : ((j + 1 : Nat) : Int) - 1 = j := by omega
      rw [ej]
      rw [Z.litGoN] at hgo
      obtain ⟨bb, hbb⟩ : ∃ v, v = (bt : Int) / 2 ^ j % 2 := ⟨_, rfl⟩
      obtain ⟨uu, huu⟩ : ∃ v, v = ((Z.lastOr x st.r0).toNat : Int) / 2 ^ j % 2 := ⟨_, rfl⟩
      repeat' (first | (refine pN_geq_s ?_ ?_ <;> intro hc <;> try (exfalso; omega)) | refine pIf_t ?_ | fail)
      refine ⟨fun a m al w => ∃ (s : Sl) (l : List Z.NB) (mm : Int) (same : Bool), a = .slice s.a l.length s.c ∧ m = .int .i64 mm ∧ al = .bool same ∧ 1 ≤ mm ∧ mm < 2 ^ (9 - j) ∧ l.length = 8 - j ∧ l ++ Z.litGoN nme bt (Z.lastOr x st.r0).toNat j mm same = Z.litGoN nme bt (Z.lastOr x st.r0).toNat 8 1 true ∧ Sat E w (rows cd_pithref14_Bit s l :: Cod c p bw st bm be :: RWin bw x :: M), ?_, ?_⟩
      · repeat' (first | (refine pc_pithref14_two (R14two_ok j (by omega) ?_)) | refine pN_ofb ?_ | refine pN_v (hk := ?_) | fail)
        refine ⟨fun v w => v = .int .i64 (if same then 256 * (1 + uu) + mm else mm) ∧ Sat E w (rows cd_pithref14_Bit s l :: Cod c p bw st bm be :: RWin bw x :: M), ?_, ?_⟩
        · rw [huu]
          cases same
          · repeat' (first | refine pIf_f ?_ | fail)
            exact ⟨rfl, hS⟩
          · repeat' (first | refine pIf_t ?_ | refine pN_v (hk := ?_) | fail)
            exact ⟨rfl, hS⟩
        · clear hS
          rintro _ _ w ⟨rfl, hS⟩
          have h01 : 0 ≤ (bt : Int) / 2 ^ j % 2 ∧ (bt : Int) / 2 ^ j % 2 ≤ 1 := by omega
          have h02 : 0 ≤ ((Z.lastOr x st.r0).toNat : Int) / 2 ^ j % 2 ∧ ((Z.lastOr x st.r0).toNat : Int) / 2 ^ j % 2 ≤ 1 := by omega
          rw [← hbb] at h01 hm3 hgo ⊢
          rw [← huu] at h02 hgo ⊢
          obtain ⟨at_, hat⟩ : ∃ v, v = if same then 256 * (1 + uu) + mm else mm := ⟨_, rfl⟩
          have hat2 : 0 ≤ at_ ∧ at_ < 2000 := by rw [hat]; split <;> omega
          rw [← hat] at hgo ⊢
          have hbe : decide (bb = uu) = decide (bb = uu) := rfl
          cases same
          · repeat' (first | (refine pN_nb hS ?_; clear hS; intro s2 w hS) | refine pGd_no (by rfl) ?_ | (refine pN_app hS (by first | rfl | omega | simpa only [go_sem] using True.intro | (simp only [go_sem]; omega)) (by first | rfl | omega | simpa only [go_sem] using True.intro | (simp only [go_sem]; omega)) (by first | omega | (simp only [go_sem]; omega)) ?_; clear hS; intro s w hS) | refine pN_v (hk := ?_) | fail)
            refine ⟨s, l ++ [⟨nme, at_, bb⟩], 2 * mm + bb, false, rfl, rfl, rfl, by omega, hm3, by simp; omega, ?_, hS.to⟩
            rw [List.append_assoc, ← hgo]
            rfl
          · by_cases hbu : bb = uu
            · repeat' (first | (refine pN_nb hS ?_; clear hS; intro s2 w hS) | (refine pN_eql_s ?_ ?_ <;> intro hc <;> try (exfalso; first | omega | exact hc rfl | exact hc (by assumption) | exact absurd hc (by assumption))) | refine pGd_go (by rfl) ?_ | (refine pN_app hS (by first | rfl | omega | simpa only [go_sem] using True.intro | (simp only [go_sem]; omega)) (by first | rfl | omega | simpa only [go_sem] using True.intro | (simp only [go_sem]; omega)) (by first | omega | (simp only [go_sem]; omega)) ?_; clear hS; intro s w hS) | refine pN_v (hk := ?_) | fail)
              all_goals first | (refine ⟨s, l ++ [⟨nme, at_, bb⟩], 2 * mm + bb, true, rfl, rfl, rfl, by omega, hm3, by simp; omega, ?_, hS.to⟩; rw [List.append_assoc, ← hgo, decide_eq_true hbu]; rfl) | (exfalso; omega)
            · repeat' (first | (refine pN_nb hS ?_; clear hS; intro s2 w hS) | (refine pN_eql_s ?_ ?_ <;> intro hc <;> try (exfalso; first | omega | exact hc rfl | exact hc (by assumption) | exact absurd hc (by assumption))) | refine pGd_go (by rfl) ?_ | (refine pN_app hS (by first | rfl | omega | simpa only [go_sem] using True.intro | (simp only [go_sem]; omega)) (by first | rfl | omega | simpa only [go_sem] using True.intro | (simp only [go_sem]; omega)) (by first | omega | (simp only [go_sem]; omega)) ?_; clear hS; intro s w hS) | refine pN_v (hk := ?_) | fail)
              all_goals first | (refine ⟨s, l ++ [⟨nme, at_, bb⟩], 2 * mm + bb, false, rfl, rfl, rfl, by omega, hm3, by simp; omega, ?_, hS.to⟩; rw [List.append_assoc, ← hgo, decide_eq_false hbu]; rfl) | (exfalso; omega)
      · clear hS
        rintro _ _ _ _ w ⟨s, l, mm, same, rfl, rfl, rfl, hm1, hm2, hll, hgo, hS⟩
        repeat' (first | refine pN_v (hk := ?_) | fail)
        exact ⟨⟨j, s, l, mm, same, by omega, rfl, rfl, rfl, rfl, hm1, hm2, hll, hgo, hS⟩, by simp only [RowKit.intOf]; omega⟩
end
end Go.Proofs.YtbgnnjfpiblkmaaGreatDoor

namespace Go.Proofs.YtbgnnjfpiblkmaaGreatDoor
open Go
namespace Z
theorem two_3 : (2 : Int) ^ 3 = 8 := by decide
theorem two_8 : (2 : Int) ^ 8 = 256 := by decide
theorem two_6 : (2 : Int) ^ 6 = 64 := by decide
theorem two_4 : (2 : Int) ^ 4 = 16 := by decide
theorem len7_nb {p : Pr} (hp : p.Ok) (pos : Int) (n : Int) : lenN [77, 97, 116, 99, 104] (place p pos) n = (allBits (lenOps 7 p pos n)).map (nbOf pre14) := by
  have hpl := place_bd hp pos
  have b0 := fun b => (at_7_0 pre14 p).nb b
  have b1 := fun b => (at_7_1 pre14 p).nb b
  unfold lenN lenOps
  dsimp only
  split
  · simp only [allBits_cons, allBits_nil, bits_bit, tree_bits, List.append_nil, List.map_append, List.map_cons, List.map_nil, b0]
    rw [nb_at pre14 (R.bitAt_01 _ _ _) (by decide) fun j h0 h1 => at_8 pre14 p (by omega) (by rw [two_3] at h1; omega)]
    rfl
  split
  · simp only [allBits_cons, allBits_nil, bits_bit, tree_bits, List.append_nil, List.map_append, List.map_cons, List.map_nil, b0, b1]
    rw [nb_at pre14 (R.bitAt_01 _ _ _) (by decide) fun j h0 h1 => at_9 pre14 p (by omega) (by rw [two_3] at h1; omega)]
    rfl
  · simp only [allBits_cons, allBits_nil, bits_bit, tree_bits, List.append_nil, List.map_append, List.map_cons, List.map_nil, b0, b1]
    rw [nb_at pre14 (R.bitAt_01 _ _ _) (by decide) fun j h0 h1 => at_10 pre14 p (by rw [two_8] at h1; omega)]
    rfl
theorem len11_nb {p : Pr} (hp : p.Ok) (pos : Int) (n : Int) : lenN [82, 101, 112] (place p pos) n = (allBits (lenOps 11 p pos n)).map (nbOf pre14) := by
  have hpl := place_bd hp pos
  have b0 := fun b => (at_11_0 pre14 p).nb b
  have b1 := fun b => (at_11_1 pre14 p).nb b
  unfold lenN lenOps
  dsimp only
  split
  · simp only [allBits_cons, allBits_nil, bits_bit, tree_bits, List.append_nil, List.map_append, List.map_cons, List.map_nil, b0]
    rw [nb_at pre14 (R.bitAt_01 _ _ _) (by decide) fun j h0 h1 => at_12 pre14 p (by omega) (by rw [two_3] at h1; omega)]
    rfl
  split
  · simp only [allBits_cons, allBits_nil, bits_bit, tree_bits, List.append_nil, List.map_append, List.map_cons, List.map_nil, b0, b1]
    rw [nb_at pre14 (R.bitAt_01 _ _ _) (by decide) fun j h0 h1 => at_13 pre14 p (by omega) (by rw [two_3] at h1; omega)]
    rfl
  · simp only [allBits_cons, allBits_nil, bits_bit, tree_bits, List.append_nil, List.map_append, List.map_cons, List.map_nil, b0, b1]
    rw [nb_at pre14 (R.bitAt_01 _ _ _) (by decide) fun j h0 h1 => at_14 pre14 p (by rw [two_8] at h1; omega)]
    rfl
theorem rep_nb {p : Pr} (hp : p.Ok) {s : St} (hs : s.Right) (pos d : Int) (h : 0 ≤ d ∧ d ≤ 3) : [⟨2, s.num, 1⟩].map (nbOf pre14) ++ (allBits (repOps p s pos d)).map (nbOf pre14) = if d = 0 then repN s.num d ++ [⟨nm [73, 115, 76, 111, 110, 103] [s.num, place p pos], 0, 1⟩] else repN s.num d := by
  have hpl := place_bd hp pos
  have hn := hs.num
  have b1 := fun b => (at_1 pre14 p hn (by omega : 0 ≤ place p pos ∧ place p pos < 16)).nb b
  have b2 := fun b => (at_2 pre14 p hn).nb b
  have b3 := fun b => (at_3 pre14 p hn).nb b
  have b4 := fun b => (at_4 pre14 p hn).nb b
  have b5 := fun b => (at_5 pre14 p hn).nb b
  have h4 : d = 0 ∨ d = 1 ∨ d = 2 ∨ d = 3 := by omega
  unfold repN repOps
  rcases h4 with rfl | rfl | rfl | rfl
  · simp only [if_true, allBits_cons, allBits_nil, bits_bit, List.append_nil, List.map_append, List.map_cons, List.map_nil, b1, b2, b3, b4, b5]
    rfl
  all_goals
    simp only [reduceIte, Int.reduceEq, Int.reduceLT, Int.reduceSub, show min (1 - 1 : Int) 1 = 0 from by decide, show min (2 - 1 : Int) 1 = 1 from by decide, show min (3 - 1 : Int) 1 = 1 from by decide, show min (0 : Int) 1 = 0 from by decide, show min (1 : Int) 1 = 1 from by decide, show min (2 : Int) 1 = 1 from by decide, List.cons_append, List.nil_append, allBits_cons, allBits_nil, bits_bit, List.append_nil, List.map_append, List.map_cons, List.map_nil, b1, b2, b3, b4, b5]
    rfl
theorem dirN_bits (v : Int) (n : Nat) : ∀ k, k ≤ n → dirN v n k = ((List.range k).map fun k => (⟨18, 0, v / 2 ^ (n - 1 - k) % 2⟩ : PB)).map (nbOf pre14)
  | 0, _ => rfl
  | k + 1, h => by
    rw [dirN, dirN_bits v n k (by omega), List.range_succ, List.map_append, List.map_append]
    rfl
theorem dist_nb {p : Pr} {n d : Int} (hn : isLen n) (hd : isDist d) : distN n d = (allBits (distOps n d)).map (nbOf pre14) := by
  have hl := slot_law hd
  obtain ⟨l0, l1, l2, l3, l4⟩ := hl
  obtain ⟨n0, n1⟩ := hn
  have ht : ∀ v : Int, nb (nm [83, 108, 111, 116] [min (n - 2) 3]) (R.bitAt false 6 v) 6 = (treeBits 15 (64 * min (n - 2) 3) (R.bitAt false 6 v) 6).map (nbOf pre14) := fun v => by
    rw [nb_at pre14 (R.bitAt_01 _ _ _) (by decide) fun j h0 h1 => at_15 pre14 p (by omega) (by rw [two_6] at h1; omega)]
    rfl
  unfold distN distOps
  dsimp only
  rw [ht]
  by_cases c4 : slot d < 4
  · rw [if_pos c4, if_pos ((bits_0 l0).2 c4), allBits_cons, allBits_nil, List.append_nil, tree_bits]
  · rw [if_neg c4, if_neg (fun h => c4 ((bits_0 l0).1 h))]
    by_cases c14 : slot d < 14
    · rw [if_pos c14, if_pos c14]
      simp only [allBits_cons, allBits_nil, tree_bits, back_bits, List.append_nil, List.map_append]
      congr 1
      rw [nb_at pre14 (R.bitAt_01 _ _ _) (by decide) fun j h0 h1 => at_16 pre14 p (by omega) ⟨by omega, h1⟩]
      rfl
    · rw [if_neg c14, if_neg c14]
      simp only [allBits_cons, allBits_nil, tree_bits, back_bits, List.append_nil, List.map_append]
      rw [List.append_assoc, dirN_bits _ _ _ (Nat.le_refl _), nb_at pre14 (R.bitAt_01 _ _ _) (by decide) fun j h0 h1 => at_17 pre14 p (by rw [two_4] at h1; omega)]
      rfl
theorem litGo_nb {p : Pr} {k b t : Int} (hk : 0 ≤ k ∧ 768 * k + 768 ≤ tabLen p 6) (hk2 : k < 16) : ∀ (i : Nat) (m : Int) (same : Bool), i ≤ 8 → 1 ≤ m → m < 2 ^ (9 - i) → litGoN (nm [76, 105, 116, 101, 114, 97, 108] [k]) b t i m same = (allBits (litGo (768 * k) b t i m same)).map (nbOf pre14)
  | 0, _, _, _, _, _ => rfl
  | i + 1, m, same, hi, h1, h2 => by
    have e : 9 - i = (9 - (i + 1)) + 1 := by omega
    have hm : m < 256 := by
      have : (2 : Int) ^ (9 - (i + 1)) ≤ 2 ^ 8 := two_le' (by omega)
      rw [two_8] at this; omega
    rw [litGoN, litGo, allBits_cons, bits_bit, List.map_append, List.map_cons, List.map_nil, litGo_nb hk hk2 i _ _ (by omega) (by omega) (by rw [e, Int.pow_succ]; omega)]
    have hb := fun j hj => (at_6 pre14 p hk hk2 (j := j) hj).nb (b / 2 ^ i % 2)
    cases same
    · have := hb m (by omega)
      simp only [if_false, Bool.false_eq_true, Int.add_zero] at this ⊢
      rw [this]
      rfl
    · have := hb (m + 256 * (1 + t / 2 ^ i % 2)) (by omega)
      simp only [if_true] at this ⊢
      rw [Int.add_assoc, this, Int.add_comm m]
      rfl
theorem litK_bd {p : Pr} (hp : p.Ok) (x : W) : (0 ≤ litK p x ∧ 768 * litK p x + 768 ≤ tabLen p 6) ∧ litK p x < 16 := by
  have hl := (lastOr x 1).toNat_lt
  have hc := context_bd hp x.all.length (lastOr x 1).toNat (by omega) (by omega)
  have h6 := lit_len hp
  unfold context at hc
  unfold litK
  omega
theorem lit_nb {p : Pr} (hp : p.Ok) {s : St} {x : W} (b : UInt8) : litN p s x b = (allBits (litOps p s x b)).map (nbOf pre14) := by
  have hk := litK_bd hp x
  have hc : context p x.all.length (lastOr x 1).toNat = 768 * litK p x := rfl
  unfold litN litOps
  dsimp only
  rw [hc]
  split
  · rw [allBits_cons, allBits_nil, List.append_nil, tree_bits, nb_at pre14 (R.bitAt_01 _ _ _) (by decide) fun j h0 h1 => at_6 pre14 p hk.1 hk.2 (by rw [two_8] at h1; omega)]
    rfl
  · exact litGo_nb hk.1 hk.2 8 1 true (by omega) (by omega) (by decide)

def symN (p : Pr) (s : St) (x : W) (y : Y) : List NB :=
  if y.Kind = 1 then [⟨nm [73, 115, 77, 97, 116, 99, 104] [s.num, place p x.all.length], 0, 0⟩] ++ litN p s x y.Byte
  else if y.Kind = 2 then ([⟨nm [73, 115, 77, 97, 116, 99, 104] [s.num, place p x.all.length], 0, 1⟩, ⟨nm [73, 115, 82, 101, 112] [s.num], 0, 0⟩] ++ lenN [77, 97, 116, 99, 104] (place p x.all.length) y.Len) ++ distN y.Len y.Dist
  else if y.Kind = 4 then ([⟨nm [73, 115, 77, 97, 116, 99, 104] [s.num, place p x.all.length], 0, 1⟩] ++ repN s.num 0) ++ [⟨nm [73, 115, 76, 111, 110, 103] [s.num, place p x.all.length], 0, 0⟩]
  else (if y.Dist = 0 then ([⟨nm [73, 115, 77, 97, 116, 99, 104] [s.num, place p x.all.length], 0, 1⟩] ++ repN s.num y.Dist) ++ [⟨nm [73, 115, 76, 111, 110, 103] [s.num, place p x.all.length], 0, 1⟩] else [⟨nm [73, 115, 77, 97, 116, 99, 104] [s.num, place p x.all.length], 0, 1⟩] ++ repN s.num y.Dist) ++ lenN [82, 101, 112] (place p x.all.length) y.Len
theorem symN_eq {p : Pr} (hp : p.Ok) {s : St} (hs : s.Right) {x : W} {y : Y} (hy : errY y = 0) : symN p s x y = (allBits (symOps p s x y)).map (nbOf pre14) := by
  have hpl := place_bd hp x.all.length
  have hn := hs.num
  have b0 := fun b => (at_0 pre14 p hn (by omega : 0 ≤ place p x.all.length ∧ place p x.all.length < 16)).nb b
  have b1 := fun b => (at_1 pre14 p hn (by omega : 0 ≤ place p x.all.length ∧ place p x.all.length < 16)).nb b
  have b2 := fun b => (at_2 pre14 p hn).nb b
  have b3 := fun b => (at_3 pre14 p hn).nb b
  unfold symN symOps
  dsimp only
  rcases kinds hy with hk | hk | hk | hk
  · rw [if_pos hk, if_pos hk, allBits_cons, bits_bit, List.map_append, List.map_cons, List.map_nil, b0, lit_nb hp]
    rfl
  · rw [if_neg (by omega), if_neg (by omega), if_pos hk, if_neg (by omega), if_neg (by omega), if_pos hk]
    simp only [allBits_cons, allBits_nil, bits_bit, List.append_nil, List.map_append, List.map_cons, List.map_nil, b0, b1, b2, b3]
    rfl
  · have hl := err_len hy (.inl hk)
    have hd := err_dist hy hk
    rw [if_neg (by omega), if_pos hk, if_neg (by omega), if_pos hk, len7_nb hp, dist_nb (p := p) hl hd]
    simp only [allBits_append, allBits_cons, allBits_nil, bits_bit, List.append_nil, List.map_append, List.map_cons, List.map_nil, b0, b1, b2, b3]
    rfl
  · have hl := err_len hy (.inr hk)
    have hd := err_rep hy hk
    have hr := rep_nb hp hs (x.all.length : Int) y.Dist hd
    rw [if_neg (by omega : ¬ y.Kind = 1), if_neg (by omega : ¬ y.Kind = 2), if_neg (by omega : ¬ y.Kind = 4), if_neg (by omega : ¬ y.Kind = 1), if_neg (by omega : ¬ y.Kind = 2), if_neg (by omega : ¬ y.Kind = 4), len11_nb hp]
    rw [allBits_append, allBits_append, List.map_append, List.map_append, allBits_cons, allBits_cons, allBits_nil, bits_bit, bits_bit, List.append_nil, List.map_append, List.append_assoc (List.map _ [_]), hr, List.map_cons, List.map_nil, b0]
    congr 1
    split
    · rw [List.append_assoc]; rfl
    · rfl
end Z
end Go.Proofs.YtbgnnjfpiblkmaaGreatDoor

namespace Go.Proofs.YtbgnnjfpiblkmaaGreatDoor
open Go
attribute [local irreducible] oMv oV oU oCall oCallV oBi oBin oUn oLoad oStore oNil oFld oField oIdx oIndex oPick oAlloc oBox oBuild oBs oConv oMk oSl oExt oFn oIface oMap oLook oMapUp oRange oNext oEntry oInv oAssert oPanic oRes pN pA pL pDr pIf gA pGd Calls

section
variable {E w : World} {M : List HA} {Q : Value → World → Prop} {bm be bw c : Nat} {N : Key → List Int} {n : Key} {p : Z.Pr} {s : Z.St} {x : Z.W} {y : Z.Y}

theorem repN_len (n i : Int) : (Z.repN n i).length ≤ 4 := by
  unfold Z.repN
  split
  · exact Nat.le_of_ble_eq_true rfl
  split
  · exact Nat.le_of_ble_eq_true rfl
  split
  · exact Nat.le_of_ble_eq_true rfl
  · exact Nat.le_of_ble_eq_true rfl
theorem lenN_len (cs : List UInt8) (ps n : Int) : (Z.lenN cs ps n).length ≤ 10 := by
  unfold Z.lenN
  split
  · simp [Z.nb_len]
  split
  · simp [Z.nb_len]
  · simp [Z.nb_len]
theorem distN_len {n d : Int} (hd : Z.isDist d) : (Z.distN n d).length ≤ 40 := by
  have hl := (Z.slot_law hd).2.2.1
  unfold Z.distN
  split
  · simp [Z.nb_len]
  split
  · simp only [List.length_append, Z.nb_len]; omega
  · simp only [List.length_append, Z.nb_len, Z.dirN_len]; omega
theorem litGoN_len (s : List UInt8) (b t : Int) : ∀ (i : Nat) (m : Int) (same : Bool), (Z.litGoN s b t i m same).length = i
  | 0, _, _ => rfl
  | i + 1, m, same => by rw [Z.litGoN, List.length_cons, litGoN_len s b t i]
theorem litN_len (p : Z.Pr) (s : Z.St) (x : Z.W) (b : UInt8) : (Z.litN p s x b).length ≤ 8 := by
  unfold Z.litN
  split
  · simp [Z.nb_len]
  · rw [litGoN_len]; omega

set_option maxRecDepth 8000 in
set_option maxHeartbeats 4000000 in
theorem R14Bits_no (hS : Sat E w (Cod c p bw s bm be :: RWin bw x :: M)) (hs : s.Right) (h0 : 1 ≤ x.size) (hl : x.all.length ≤ 140737488355328) (hm : Z.may x s y ≠ 0)
    (hQ : ∀ w, Sat E w (Cod c p bw s bm be :: RWin bw x :: M) → Q (.tuple #[.slice none 0 0, .int .i64 (Z.may x s y)]) w) :
    Calls Tryz.prog 69 #[pz c, .agg #[.int .i64 y.Kind, bv y.Byte, .int .i64 y.Len, .int .i64 y.Dist]] w (retP Q) := by
  refine pithref14_Coder_Bits.calls ?_
  unfold pithref14_Coder_Bits.F
  repeat' (first | refine pL_la_at (n := 5) hS s.cells rfl rfl ?_ | (refine pc_pithref10_Window_Fork (R10Fork_ok (hS.fd (RWin bw)) hl ?_); clear hS; intro bw2 w hS) | (refine pc_pithref13_Apply (R13Apply_no (hS.fd (RWin bw2)) (by omega) hs hm ?_); clear hS; intro w hS) | refine And.intro ?_ ?_ | exact trivial | exact run_la_at (n := 5) hS s.cells rfl rfl | exact run_la_at hS [.int .i64 y.Kind, bv y.Byte, .int .i64 y.Len, .int .i64 y.Dist] rfl rfl | exact run_l hS rfl | (refine pN_neq_s ?_ ?_ <;> intro hc <;> try (exfalso; first | omega | exact hc rfl | exact hc (by assumption) | exact absurd hc (by assumption))) | refine pIf_t ?_ | refine pL_l hS (by first | rfl | assumption) ?_ | refine pL_la hS (by rfl) ?_ | (refine pN_sa hS (by rfl) (by rfl) (by rfl) ?_; clear hS; intro w hS; try dsimp only at hS) | (refine pDr_go hS ?_; clear hS; intro w hS) | (refine pN_nz hS ?_; clear hS; intro a w hS) | (refine pN_bx hS (by rfl) ?_; clear hS; intro a w hS) | refine pA_v (hk := ?_) | fail)
  all_goals exact hQ _ hS.to

theorem pN_int2 {K : Value → World → Prop} {L : List HA} {a b : Int} (hS : Sat E w L) (hk : ∀ s' w', Sat E w' (rows cd_int s' [a, b] :: L) → K (.slice s'.a 2 s'.c) w') :
    pN Tryz.prog (oBs 217 2 [(0, .int .i64 a), (1, .int .i64 b)]) w K :=
  pN_bl (C := cd_int) [_, _] [a, b] rfl rfl rfl (Nat.zero_lt_succ _) hS (Nat.le_of_ble_eq_true rfl) hk
theorem R14name_1 {s0 : Sl} (nme : List UInt8) (i : Int) (hS : Sat E w M) [hl : Rds cd_int M s0 [i]] (hi : ∀ j ∈ [i], 0 ≤ j ∧ j < 100) (hb : nme.length + 3 * 1 ≤ 1000000) (hQ : ∀ w, Sat E w M → Q (.string ⟨(Z.nm nme [i]).toArray⟩) w) :
    Calls Tryz.prog 108 #[.string ⟨nme.toArray⟩, .slice s0.a 1 s0.c] w (retP Q) := R14name_ok nme [i] hS hi hb hQ
theorem R14name_2 {s0 : Sl} (nme : List UInt8) (i k : Int) (hS : Sat E w M) [hl : Rds cd_int M s0 [i, k]] (hi : ∀ j ∈ [i, k], 0 ≤ j ∧ j < 100) (hb : nme.length + 3 * 2 ≤ 1000000) (hQ : ∀ w, Sat E w M → Q (.string ⟨(Z.nm nme [i, k]).toArray⟩) w) :
    Calls Tryz.prog 108 #[.string ⟨nme.toArray⟩, .slice s0.a 2 s0.c] w (retP Q) := R14name_ok nme [i, k] hS hi hb hQ
set_option maxRecDepth 8000 in
set_option maxHeartbeats 1000000 in
theorem R14Bits_in (hS : Sat E w (Cod c p bw s bm be :: RWin bw x :: M)) (hp : p.Ok) (hs : s.Right) (h0 : 1 ≤ x.size) (hl : x.all.length + 273 ≤ 140737488355328) (hm : Z.may x s y = 0)
    (hQ : ∀ sl w, Sat E w (rows cd_pithref14_Bit sl (Z.symN p s x y) :: Cod c p bw s bm be :: RWin bw x :: M) → Q (.tuple #[.slice sl.a (Z.symN p s x y).length sl.c, .int .i64 0]) w) :
    Calls Tryz.prog 69 #[pz c, .agg #[.int .i64 y.Kind, bv y.Byte, .int .i64 y.Len, .int .i64 y.Dist]] w (retP Q) := by
  refine pithref14_Coder_Bits.calls ?_
  unfold pithref14_Coder_Bits.F
  have hy := Z.may_err hm
  have hpl := place_bd hp x.all.length
  have hn := hs.num
  obtain ⟨ps, hps⟩ : ∃ ps, ps = Z.place p x.all.length := ⟨_, rfl⟩
  unfold Z.symN at hQ
  rw [← hps] at hpl hQ
  have hi : ∀ j ∈ [s.num], 0 ≤ j ∧ j < 100 := fun j hj => by rw [List.mem_singleton] at hj; omega
  have hi2 : ∀ j ∈ [s.num, ps], 0 ≤ j ∧ j < 100 := fun j hj => by
    rcases List.mem_cons.1 hj with rfl | hj
    · omega
    · rw [List.mem_singleton] at hj; omega
  repeat' (first | (refine pN_bx hS (by rfl) ?_; clear hS; intro aY w hS) | refine pL_la_at (n := 5) hS s.cells rfl rfl ?_ | (refine pc_pithref10_Window_Fork (R10Fork_ok (hS.fd (RWin bw)) (by omega) ?_); clear hS; intro bw2 w hS) | (refine pc_pithref13_Apply (R13Apply_in (hS.fd (RWin bw2)) (by omega) hs hm (by omega) ?_); clear hS; intro sm w hS) | refine And.intro ?_ ?_ | exact trivial | exact run_la_at (n := 5) hS s.cells rfl rfl | exact run_la_at hS [.int .i64 y.Kind, bv y.Byte, .int .i64 y.Len, .int .i64 y.Dist] rfl rfl | exact run_l hS rfl | (refine pN_sa_at (us := (s.next y).cells) hS rfl (Nat.le_of_ble_eq_true rfl) rfl ?_; clear hS; intro w hS) | (refine pc_pithref14_Coder_Place (R14Place_ok (hS.fd2 (cel c) (RWin bw)) hp ?_); clear hS; intro w hS) | rw [← hps] | (refine pN_neq_s ?_ ?_ <;> intro hc <;> try (exfalso; first | omega | exact hc rfl | exact hc (by assumption) | exact absurd hc (by assumption))) | refine pIf_f ?_ | refine pN_l hS (by first | rfl | assumption) ?_ | refine pL_l hS (by first | rfl | assumption) ?_ | refine pL_la hS (by rfl) ?_ | (refine pDr_go hS ?_; clear hS; intro w hS) | (refine pN_nz hS ?_; clear hS; intro a w hS) | refine pN_v (hk := ?_) | refine pA_v (hk := ?_) | fail)
  all_goals
    rcases Z.kinds hy with hk | hk | hk | hk
    · rw [if_pos hk] at hQ
      have ll := litN_len p s x y.Byte
      repeat' (first | (refine pN_int2 hS ?_; clear hS; intro si w hS) | (refine pc_pithref14_name (R14name_2 _ s.num ps hS hi2 (by simp) ?_); clear hS; intro w hS) | (refine pN_nb hS ?_; clear hS; intro sn w hS) | (refine pN_app hS rfl rfl (by simp only [List.length_append, List.length_cons, List.length_nil]; omega) ?_; clear hS; intro sa w hS) | (refine pc_pithref14_Coder_literal (R14literal_ok (hS.fd2 (cel c) (RWin bw)) hp hs (by omega) h0 y.Byte ?_); clear hS; intro sl w hS) | (refine pN_eql_s ?_ ?_ <;> intro hc <;> try (exfalso; first | omega | exact hc rfl | exact hc (by assumption) | exact absurd hc (by assumption))) | refine pIf_t ?_ | refine pN_ofb ?_ | refine pN_l hS (by first | rfl | assumption) ?_ | refine pN_v (hk := ?_) | fail)
      exact hQ _ _ hS.to
    · rw [if_neg (by omega), if_neg (by omega), if_pos hk] at hQ
      have lr := repN_len s.num 0
      repeat' (first | (refine pN_int2 hS ?_; clear hS; intro si w hS) | (refine pc_pithref14_name (R14name_2 _ s.num ps hS hi2 (by simp) ?_); clear hS; intro w hS) | (refine pN_nb hS ?_; clear hS; intro sn w hS) | (refine pN_app hS rfl rfl (by simp only [List.length_append, List.length_cons, List.length_nil]; omega) ?_; clear hS; intro sa w hS) | (refine pc_pithref14_Coder_rep (R14rep_ok 0 (by omega) hs (hS.fd (cel c)) ?_); clear hS; intro sl w hS) | (refine pN_eql_s ?_ ?_ <;> intro hc <;> try (exfalso; first | omega | exact hc rfl | exact hc (by assumption) | exact absurd hc (by assumption))) | refine pIf_t ?_ | refine pIf_f ?_ | refine pN_l hS (by first | rfl | assumption) ?_ | refine pN_v (hk := ?_) | fail)
      exact hQ _ _ hS.to
    · rw [if_neg (by omega), if_pos hk] at hQ
      have hlen := Z.err_len hy (.inl hk)
      have hd := Z.err_dist hy hk
      have l1 := lenN_len [77, 97, 116, 99, 104] ps y.Len
      have l2 := distN_len (n := y.Len) hd
      repeat' (first | (refine pN_int2 hS ?_; clear hS; intro si w hS) | (refine pN_b1 (C := cd_int) hS rfl (by decide) ?_; clear hS; intro sb w hS) | (refine pc_pithref14_name (R14name_2 _ s.num ps hS hi2 (by simp) ?_); clear hS; intro w hS) | (refine pc_pithref14_name (R14name_1 _ s.num hS hi (by simp) ?_); clear hS; intro w hS) | (refine pN_nb2 hS ?_; clear hS; intro sn w hS) | (refine pN_app hS rfl rfl (by simp only [List.length_append, List.length_cons, List.length_nil]; omega) ?_; clear hS; intro sa w hS) | (refine pc_pithref14_Coder_length (R14length_ok [77, 97, 116, 99, 104] (by decide) y.Len hlen hp (hS.fd2 (cel c) (RWin bw)) ?_); rw [← hps]; clear hS; intro sl w hS) | (refine pc_pithref14_distance (R14distance_ok y.Len y.Dist hlen hd hS ?_); clear hS; intro sl w hS) | (refine pN_eql_s ?_ ?_ <;> intro hc <;> try (exfalso; first | omega | exact hc rfl | exact hc (by assumption) | exact absurd hc (by assumption))) | refine pIf_t ?_ | refine pIf_f ?_ | refine pN_l hS (by first | rfl | assumption) ?_ | refine pN_v (hk := ?_) | fail)
      exact hQ _ _ hS.to
    · rw [if_neg (by omega), if_neg (by omega), if_neg (by omega)] at hQ
      have hlen := Z.err_len hy (.inr hk)
      have hd := Z.err_rep hy hk
      have lr := repN_len s.num y.Dist
      have l1 := lenN_len [82, 101, 112] ps y.Len
      repeat' (first | (refine pN_int2 hS ?_; clear hS; intro si w hS) | (refine pc_pithref14_name (R14name_2 _ s.num ps hS hi2 (by simp) ?_); clear hS; intro w hS) | (refine pN_nb hS ?_; clear hS; intro sn w hS) | (refine pN_app hS rfl rfl (by simp only [List.length_append, List.length_cons, List.length_nil]; omega) ?_; clear hS; intro sa w hS) | (refine pc_pithref14_Coder_rep (R14rep_ok y.Dist hd hs (hS.fd (cel c)) ?_); clear hS; intro sl w hS) | (refine pN_eql_s ?_ ?_ <;> intro hc <;> try (exfalso; first | omega | exact hc rfl | exact hc (by assumption) | exact absurd hc (by assumption))) | refine pIf_f ?_ | refine pN_l hS (by first | rfl | assumption) ?_ | refine pN_v (hk := ?_) | fail)
      obtain ⟨B, hB⟩ : ∃ B, B = (if y.Dist = 0 then ([⟨Z.nm [73, 115, 77, 97, 116, 99, 104] [s.num, ps], 0, 1⟩] ++ Z.repN s.num y.Dist) ++ [⟨Z.nm [73, 115, 76, 111, 110, 103] [s.num, ps], 0, 1⟩] else [⟨Z.nm [73, 115, 77, 97, 116, 99, 104] [s.num, ps], 0, 1⟩] ++ Z.repN s.num y.Dist : List Z.NB) := ⟨_, rfl⟩
      have hBl : B.length ≤ 6 := by
        rw [hB]
        split
        · simp only [List.length_append, List.length_cons, List.length_nil]; omega
        · simp only [List.length_append, List.length_cons, List.length_nil]; omega
      rw [← hB] at hQ
      refine ⟨fun v w => ∃ sv, v = .slice sv.a B.length sv.c ∧ Sat E w (rows cd_pithref14_Bit sv B :: cel aY ⟨48, [.int .i64 y.Kind, bv y.Byte, .int .i64 y.Len, .int .i64 y.Dist]⟩ :: Cod c p bw s bm be :: RWin bw x :: M), ?_, ?_⟩
      · by_cases hd0 : y.Dist = 0
        · rw [if_pos hd0] at hB
          subst hB
          repeat' (first | (refine pN_nb hS ?_; clear hS; intro sn w hS) | (refine pN_app hS rfl rfl (by simp only [List.length_append, List.length_cons, List.length_nil]; omega) ?_; clear hS; intro sa w hS) | (refine pN_eql_s ?_ ?_ <;> intro hc <;> try (exfalso; first | omega | exact hc rfl | exact hc (by assumption) | exact absurd hc (by assumption))) | refine pIf_t ?_ | refine pN_l hS (by first | rfl | assumption) ?_ | refine pN_v (hk := ?_) | fail)
          exact ⟨_, rfl, hS.to⟩
        · rw [if_neg hd0] at hB
          subst hB
          repeat' (first | (refine pN_eql_s ?_ ?_ <;> intro hc <;> try (exfalso; first | omega | exact hc rfl | exact hc (by assumption) | exact absurd hc (by assumption))) | refine pIf_f ?_ | refine pN_l hS (by first | rfl | assumption) ?_ | refine pN_v (hk := ?_) | fail)
          exact ⟨_, rfl, hS.to⟩
      · clear hS
        rintro _ _ w ⟨sv, rfl, hS⟩
        repeat' (first | (refine pc_pithref14_Coder_length (R14length_ok [82, 101, 112] (by decide) y.Len hlen hp (hS.fd2 (cel c) (RWin bw)) ?_); rw [← hps]; clear hS; intro sl w hS) | refine pN_l hS (by first | rfl | assumption) ?_ | (refine pN_app hS (by first | rfl | omega | simpa only [go_sem] using True.intro | (simp only [go_sem]; omega)) (by first | rfl | omega | simpa only [go_sem] using True.intro | (simp only [go_sem]; omega)) (by first | omega | (simp only [go_sem]; omega)) ?_; clear hS; intro s w hS) | refine pN_v (hk := ?_) | fail)
        exact hQ _ _ hS.to
end
end Go.Proofs.YtbgnnjfpiblkmaaGreatDoor

namespace Go.Proofs.YtbgnnjfpiblkmaaGreatDoor
open Go
set_option maxRecDepth 100000

def lzenc_New.F [Pan] (x0 x1 : Value) (w : World) (Q : Value → World → Prop) : Prop :=
 pN Tryz.prog (oBox 23 x0) w fun x2 w1 =>
 pN Tryz.prog (oLoad 23 x2) w1 fun x11 w2 =>
 pN Tryz.prog (oCall 45 [x11]) w2 fun x12 w3 =>
 pN Tryz.prog (oExt x12 0) w3 fun _ w4 =>
 pN Tryz.prog (oExt x12 1) w4 fun x14 w5 =>
 pN Tryz.prog (oBin .neq 38 (.tmp 15) (.const (.int .i64 0)) x14 (.int .i64 0)) w5 fun x16 w6 =>
 pIf x16
 (Q (.tuple #[(.pointer none), x14]) w6)
 (pN Tryz.prog (oCall 42 [x1]) w6 fun x20 w7 =>
 pN Tryz.prog (oExt x20 0) w7 fun x21 w8 =>
 pN Tryz.prog (oExt x20 1) w8 fun x22 w9 =>
 pN Tryz.prog (oBin .neq 38 (.tmp 23) (.const (.int .i64 0)) x22 (.int .i64 0)) w9 fun x24 w10 =>
 pIf x24
 (Q (.tuple #[(.pointer none), x22]) w10)
 (pN Tryz.prog (oLoad 23 x2) w10 fun x26 w11 =>
 pN Tryz.prog (oCall 61 [x26]) w11 fun x27 w12 =>
 pN Tryz.prog (oCall 62 []) w12 fun x29 w13 =>
 pN Tryz.prog (oBuild 128 [(0, x27), (1, x21), (2, x29)]) w13 fun x30 w14 =>
 pN Tryz.prog (oBox 128 x30) w14 fun x31 w15 =>
 Q (.tuple #[x31, (.int .i64 0)]) w15))
theorem lzenc_New.calls [Pan] {x0 x1 : Value} {w : World} {Q : Value → World → Prop} (h : lzenc_New.F x0 x1 w Q) : Calls Tryz.prog 13 #[x0, x1] w (retP Q) := calls_lift mixed .z [x0, x1] Tryz.func13 (by kernel_rfl) (by kernel_rfl) h

def lzenc_Encoder_Put.H : Hints := { cut := fun | 8 => some ([], 1123700883587072) | _ => none, loop := fun  | _ => ([], 0), order := fun | 4 => [(0, 0), (1, 1), (2, 3), (3, 7), (4, 15), (7, 31), (5, 159), (6, 191), (8, 255)] | 7 => [(0, 0), (1, 1), (2, 3), (3, 7), (4, 15), (5, 31), (6, 63), (7, 127)] | _ => [] }
def lzenc_Encoder_Put.F [Pan] (x0 x1 : Value) (w : World) (Q : Value → World → Prop) : Prop :=
 pN Tryz.prog (oBox 48 x1) w fun x3 w1 =>
 pN Tryz.prog (oLoad 48 x3) w1 fun x10 w2 =>
 pN Tryz.prog (oCall 67 [x0, x10]) w2 fun x11 w3 =>
 pN Tryz.prog (oBin .neq 38 (.tmp 12) (.const (.int .i64 0)) x11 (.int .i64 0)) w3 fun x13 w4 =>
 pIf x13
 (Q x11 w4)
 (pDr w4 fun w5 =>
 pA Tryz.prog (oNil x0) fun x17 =>
 pA Tryz.prog (oFld 128 x17 2) fun x18 =>
 pL Tryz.prog (oLoad 125 x18) w5 fun x19 =>
 pL Tryz.prog (oLoad 48 x3) w5 fun x22 =>
 pN Tryz.prog (oBuild 136 [(0, x19)]) w5 fun x20 w6 =>
 ((Sem.run Tryz.prog (oLoad 48 x3) w6 = .ok (.value x22) w6) ∧ True) ∧ (pN Tryz.prog (oIface 136 x20) w6 fun x21 w7 =>
 ((Sem.run Tryz.prog (oLoad 48 x3) w7 = .ok (.value x22) w7) ∧ True) ∧ (pN Tryz.prog (oCall 68 [x0, x21, x22]) w7 fun _ w8 =>
 (True) ∧ (pDr w8 fun w9 =>
 pA Tryz.prog (oNil x0) fun x26 =>
 pA Tryz.prog (oFld 128 x26 1) fun x27 =>
 pL Tryz.prog (oLoad 97 x27) w9 fun x28 =>
 pA Tryz.prog (oNil x0) fun x30 =>
 pA Tryz.prog (oFld 128 x30 0) fun x31 =>
 pL Tryz.prog (oLoad 123 x31) w9 fun x32 =>
 pA Tryz.prog (oNil x32) fun x33 =>
 pA Tryz.prog (oFld 141 x33 1) fun x34 =>
 pL Tryz.prog (oLoad 100 x34) w9 fun x35 =>
 pL Tryz.prog (oLoad 48 x3) w9 fun x36 =>
 (pN Tryz.prog (oCall 48 [x28, x35, x36]) w9 fun x37 w10 =>
 (True) ∧ (pA Tryz.prog (oExt x37 0) fun _ =>
 pA Tryz.prog (oExt x37 1) fun x39 =>
 pA Tryz.prog (oExt x37 2) fun x40 =>
 pN Tryz.prog (oAlloc 100) w10 fun x7 w11 =>
 (True) ∧ (pN Tryz.prog (oStore 100 x7 x39) w11 fun _ w12 =>
 (True) ∧ (∃ I8 : World → Prop,
 (pN Tryz.prog (oBin .eql 38 (.tmp 41) (.const (.int .i64 0)) x40 (.int .i64 0)) w12 fun x42 w13 =>
 pIf x42
 (pDr w13 fun w14 =>
 pA Tryz.prog (oNil x0) fun x44 =>
 pA Tryz.prog (oFld 128 x44 0) fun x45 =>
 pL Tryz.prog (oLoad 123 x45) w14 fun x46 =>
 pL Tryz.prog (oLoad 100 x7) w14 fun x47 =>
 pA Tryz.prog (oNil x46) fun x48 =>
 pA Tryz.prog (oFld 141 x48 1) fun x49 =>
 pN Tryz.prog (oStore 100 x49 x47) w14 fun _ w15 =>
 (True) ∧ (I8 w15))
 (I8 w13)) ∧
 ∀ (_j8 : Env) (w16 : World), I8 w16 →
 Q x40 w16)))) ∧ (pN Tryz.prog (oAlloc 100) w9 fun x7 w17 =>
 ((Sem.run Tryz.prog (oLoad 48 x3) w17 = .ok (.value x36) w17) ∧ (Sem.run Tryz.prog (oLoad 100 x34) w17 = .ok (.value x35) w17) ∧ (Sem.run Tryz.prog (oLoad 123 x31) w17 = .ok (.value x32) w17) ∧ (Sem.run Tryz.prog (oLoad 97 x27) w17 = .ok (.value x28) w17) ∧ True) ∧ (pN Tryz.prog (oCall 48 [x28, x35, x36]) w17 fun x37 w18 =>
 (True) ∧ (pA Tryz.prog (oExt x37 0) fun _ =>
 pA Tryz.prog (oExt x37 1) fun x39 =>
 pA Tryz.prog (oExt x37 2) fun x40 =>
 pN Tryz.prog (oStore 100 x7 x39) w18 fun _ w19 =>
 (True) ∧ (∃ I8 : World → Prop,
 (pN Tryz.prog (oBin .eql 38 (.tmp 41) (.const (.int .i64 0)) x40 (.int .i64 0)) w19 fun x42 w20 =>
 pIf x42
 (pDr w20 fun w21 =>
 pA Tryz.prog (oNil x0) fun x44 =>
 pA Tryz.prog (oFld 128 x44 0) fun x45 =>
 pL Tryz.prog (oLoad 123 x45) w21 fun x46 =>
 pL Tryz.prog (oLoad 100 x7) w21 fun x47 =>
 pA Tryz.prog (oNil x46) fun x48 =>
 pA Tryz.prog (oFld 141 x48 1) fun x49 =>
 pN Tryz.prog (oStore 100 x49 x47) w21 fun _ w22 =>
 (True) ∧ (I8 w22))
 (I8 w20)) ∧
 ∀ (_j8 : Env) (w23 : World), I8 w23 →
 Q x40 w23))))))))
theorem lzenc_Encoder_Put.calls [Pan] {x0 x1 : Value} {w : World} {Q : Value → World → Prop} (h : lzenc_Encoder_Put.F x0 x1 w Q) : Calls Tryz.prog 17 #[x0, x1] w (retP Q) := calls_lift mixed lzenc_Encoder_Put.H [x0, x1] Tryz.func17 (by kernel_rfl) (by kernel_rfl) h

def lzenc_Encoder_Cost.F [Pan] (x0 x1 : Value) (w : World) (Q : Value → World → Prop) : Prop :=
 pN Tryz.prog (oBox 48 x1) w fun x3 w1 =>
 pN Tryz.prog (oLoad 48 x3) w1 fun x9 w2 =>
 pN Tryz.prog (oCall 67 [x0, x9]) w2 fun x10 w3 =>
 pN Tryz.prog (oBin .neq 38 (.tmp 11) (.const (.int .i64 0)) x10 (.int .i64 0)) w3 fun x12 w4 =>
 pIf x12
 (Q (.tuple #[(.int .i64 0), x10]) w4)
 (pN Tryz.prog (oAlloc 155) w4 fun x7 w5 =>
 pN Tryz.prog (oIface 156 x7) w5 fun x15 w6 =>
 pN Tryz.prog (oLoad 48 x3) w6 fun x16 w7 =>
 pN Tryz.prog (oCall 68 [x0, x15, x16]) w7 fun _ w8 =>
 pN Tryz.prog (oFld 155 x7 0) w8 fun x18 w9 =>
 pN Tryz.prog (oLoad 3 x18) w9 fun x19 w10 =>
 Q (.tuple #[x19, (.int .i64 0)]) w10)
theorem lzenc_Encoder_Cost.calls [Pan] {x0 x1 : Value} {w : World} {Q : Value → World → Prop} (h : lzenc_Encoder_Cost.F x0 x1 w Q) : Calls Tryz.prog 19 #[x0, x1] w (retP Q) := calls_lift mixed .z [x0, x1] Tryz.func19 (by kernel_rfl) (by kernel_rfl) h

def lzenc_Encoder_Cut.F [Pan] (x0 : Value) (w : World) (Q : Value → World → Prop) : Prop :=
 pN Tryz.prog (oNil x0) w fun x5 w1 =>
 pN Tryz.prog (oFld 128 x5 2) w1 fun x6 w2 =>
 pN Tryz.prog (oLoad 125 x6) w2 fun x7 w3 =>
 pN Tryz.prog (oCall 76 [x7]) w3 fun x8 w4 =>
 pN Tryz.prog (oCall 62 []) w4 fun x10 w5 =>
 pN Tryz.prog (oNil x0) w5 fun x11 w6 =>
 pN Tryz.prog (oFld 128 x11 2) w6 fun x12 w7 =>
 pN Tryz.prog (oStore 125 x12 x10) w7 fun _ w8 =>
 Q x8 w8
theorem lzenc_Encoder_Cut.calls [Pan] {x0 : Value} {w : World} {Q : Value → World → Prop} (h : lzenc_Encoder_Cut.F x0 w Q) : Calls Tryz.prog 21 #[x0] w (retP Q) := calls_lift mixed .z [x0] Tryz.func21 (by kernel_rfl) (by kernel_rfl) h

def lzenc_Encoder_Raw.F [Pan] (x0 x1 : Value) (w : World) (Q : Value → World → Prop) : Prop :=
 pN Tryz.prog (oNil x0) w fun x5 w1 =>
 pN Tryz.prog (oFld 128 x5 1) w1 fun x6 w2 =>
 pN Tryz.prog (oLoad 97 x6) w2 fun x7 w3 =>
 pN Tryz.prog (oCall 46 [x7, x1]) w3 fun _ w4 =>
 Q (.tuple #[]) w4
theorem lzenc_Encoder_Raw.calls [Pan] {x0 x1 : Value} {w : World} {Q : Value → World → Prop} (h : lzenc_Encoder_Raw.F x0 x1 w Q) : Calls Tryz.prog 24 #[x0, x1] w (retP Q) := calls_lift mixed .z [x0, x1] Tryz.func24 (by kernel_rfl) (by kernel_rfl) h

def lzenc_Encoder_Reset.F [Pan] (x0 x1 : Value) (w : World) (Q : Value → World → Prop) : Prop :=
 pN Tryz.prog (oBox 23 x1) w fun x3 w1 =>
 pN Tryz.prog (oLoad 23 x3) w1 fun x8 w2 =>
 pN Tryz.prog (oCall 45 [x8]) w2 fun x9 w3 =>
 pN Tryz.prog (oExt x9 0) w3 fun _ w4 =>
 pN Tryz.prog (oExt x9 1) w4 fun x11 w5 =>
 pN Tryz.prog (oBin .neq 38 (.tmp 12) (.const (.int .i64 0)) x11 (.int .i64 0)) w5 fun x13 w6 =>
 pIf x13
 (Q x11 w6)
 (pN Tryz.prog (oLoad 23 x3) w6 fun x16 w7 =>
 pN Tryz.prog (oCall 61 [x16]) w7 fun x17 w8 =>
 pN Tryz.prog (oNil x0) w8 fun x18 w9 =>
 pN Tryz.prog (oFld 128 x18 0) w9 fun x19 w10 =>
 pN Tryz.prog (oStore 123 x19 x17) w10 fun _ w11 =>
 Q (.int .i64 0) w11)
theorem lzenc_Encoder_Reset.calls [Pan] {x0 x1 : Value} {w : World} {Q : Value → World → Prop} (h : lzenc_Encoder_Reset.F x0 x1 w Q) : Calls Tryz.prog 26 #[x0, x1] w (retP Q) := calls_lift mixed .z [x0, x1] Tryz.func26 (by kernel_rfl) (by kernel_rfl) h

def lzenc_Encoder_Clear.F [Pan] (x0 : Value) (w : World) (Q : Value → World → Prop) : Prop :=
 pN Tryz.prog (oNil x0) w fun x4 w1 =>
 pN Tryz.prog (oFld 128 x4 0) w1 fun x5 w2 =>
 pN Tryz.prog (oLoad 123 x5) w2 fun x6 w3 =>
 pN Tryz.prog (oNil x6) w3 fun x7 w4 =>
 pN Tryz.prog (oFld 141 x7 0) w4 fun x8 w5 =>
 pN Tryz.prog (oLoad 23 x8) w5 fun x9 w6 =>
 pN Tryz.prog (oCall 61 [x9]) w6 fun x10 w7 =>
 pN Tryz.prog (oNil x0) w7 fun x11 w8 =>
 pN Tryz.prog (oFld 128 x11 0) w8 fun x12 w9 =>
 pN Tryz.prog (oStore 123 x12 x10) w9 fun _ w10 =>
 pN Tryz.prog (oNil x0) w10 fun x14 w11 =>
 pN Tryz.prog (oFld 128 x14 1) w11 fun x15 w12 =>
 pN Tryz.prog (oLoad 97 x15) w12 fun x16 w13 =>
 pN Tryz.prog (oCall 47 [x16]) w13 fun _ w14 =>
 Q (.tuple #[]) w14
theorem lzenc_Encoder_Clear.calls [Pan] {x0 : Value} {w : World} {Q : Value → World → Prop} (h : lzenc_Encoder_Clear.F x0 w Q) : Calls Tryz.prog 28 #[x0] w (retP Q) := calls_lift mixed .z [x0] Tryz.func28 (by kernel_rfl) (by kernel_rfl) h

def lzenc_Encoder_Fork.H : Hints := { cut := fun  | _ => none, loop := fun  | _ => ([], 0), order := fun | 1 => [(0, 0), (1, 1), (2, 3), (3, 7), (5, 15), (6, 47), (7, 111), (8, 239), (10, 495), (11, 1519), (12, 3567), (13, 7663), (4, 15855), (9, 15871), (14, 16383), (15, 32767), (16, 65535), (17, 131071)] | _ => [] }
def lzenc_Encoder_Fork.F [Pan] (x0 : Value) (w : World) (Q : Value → World → Prop) : Prop :=
 pDr w fun w1 =>
 pA Tryz.prog (oNil x0) fun x4 =>
 pA Tryz.prog (oFld 128 x4 0) fun x5 =>
 pL Tryz.prog (oLoad 123 x5) w1 fun x6 =>
 pA Tryz.prog (oNil x0) fun x9 =>
 pA Tryz.prog (oFld 128 x9 1) fun x10 =>
 pL Tryz.prog (oLoad 97 x10) w1 fun x11 =>
 pA Tryz.prog (oNil x0) fun x14 =>
 pA Tryz.prog (oFld 128 x14 2) fun x15 =>
 pL Tryz.prog (oLoad 125 x15) w1 fun x16 =>
 pN Tryz.prog (oCall 80 [x6]) w1 fun x7 w2 =>
 ((Sem.run Tryz.prog (oLoad 125 x15) w2 = .ok (.value x16) w2) ∧ (Sem.run Tryz.prog (oLoad 97 x10) w2 = .ok (.value x11) w2) ∧ True) ∧ (pN Tryz.prog (oCall 81 [x11]) w2 fun x12 w3 =>
 ((Sem.run Tryz.prog (oLoad 125 x15) w3 = .ok (.value x16) w3) ∧ True) ∧ (pN Tryz.prog (oCall 82 [x16]) w3 fun x17 w4 =>
 (True) ∧ (pN Tryz.prog (oBuild 128 [(0, x7), (1, x12), (2, x17)]) w4 fun x18 w5 =>
 (True) ∧ (pN Tryz.prog (oBox 128 x18) w5 fun x19 w6 =>
 (True) ∧ (Q x19 w6)))))
theorem lzenc_Encoder_Fork.calls [Pan] {x0 : Value} {w : World} {Q : Value → World → Prop} (h : lzenc_Encoder_Fork.F x0 w Q) : Calls Tryz.prog 30 #[x0] w (retP Q) := calls_lift mixed lzenc_Encoder_Fork.H [x0] Tryz.func30 (by kernel_rfl) (by kernel_rfl) h

def lzenc_Encoder_Size.F [Pan] (x0 : Value) (w : World) (Q : Value → World → Prop) : Prop :=
 pN Tryz.prog (oNil x0) w fun x4 w1 =>
 pN Tryz.prog (oFld 128 x4 2) w1 fun x5 w2 =>
 pN Tryz.prog (oLoad 125 x5) w2 fun x6 w3 =>
 pN Tryz.prog (oCall 86 [x6]) w3 fun x7 w4 =>
 Q x7 w4
theorem lzenc_Encoder_Size.calls [Pan] {x0 : Value} {w : World} {Q : Value → World → Prop} (h : lzenc_Encoder_Size.F x0 w Q) : Calls Tryz.prog 32 #[x0] w (retP Q) := calls_lift mixed .z [x0] Tryz.func32 (by kernel_rfl) (by kernel_rfl) h

def lzenc_Encoder_may.H : Hints := { cut := fun | 14 => some ([7], 144115188042301584) | _ => none, loop := fun  | _ => ([], 0), order := fun | 11 => [(0, 0), (1, 1), (2, 3), (3, 7), (4, 15), (5, 31), (6, 63), (7, 127), (8, 255), (9, 511), (10, 1023), (11, 2047)] | _ => [] }
def lzenc_Encoder_may.F [Pan] (x0 x1 : Value) (w : World) (Q : Value → World → Prop) : Prop :=
 pN Tryz.prog (oBox 48 x1) w fun x3 w1 =>
 pDr w1 fun w2 =>
 pA Tryz.prog (oNil x0) fun x12 =>
 pA Tryz.prog (oFld 128 x12 0) fun x13 =>
 pL Tryz.prog (oLoad 123 x13) w2 fun x14 =>
 pA Tryz.prog (oNil x14) fun x15 =>
 pA Tryz.prog (oFld 141 x15 1) fun x16 =>
 pL Tryz.prog (oLoad 100 x16) w2 fun x17 =>
 pL Tryz.prog (oLoad 48 x3) w2 fun x18 =>
 (pN Tryz.prog (oCall 92 [x17, x18]) w2 fun x19 w3 =>
 (True) ∧ (pA Tryz.prog (oExt x19 0) fun x20 =>
 pA Tryz.prog (oExt x19 1) fun x21 =>
 pN Tryz.prog (oAlloc 100) w3 fun x5 w4 =>
 (True) ∧ (pN Tryz.prog (oStore 100 x5 x20) w4 fun _ w5 =>
 (True) ∧ (pN Tryz.prog (oBin .neq 38 (.tmp 22) (.const (.int .i64 0)) x21 (.int .i64 0)) w5 fun x23 w6 =>
 pIf x23
 (Q x21 w6)
 (∃ I14 : Value → World → Prop,
 (pN Tryz.prog (oFld 48 x3 0) w6 fun x25 w7 =>
 pN Tryz.prog (oLoad 3 x25) w7 fun x26 w8 =>
 pN Tryz.prog (oBin .eql 3 (.tmp 26) (.const (.int .i64 1)) x26 (.int .i64 1)) w8 fun x28 w9 =>
 pIf x28
 (Q (.int .i64 0) w9)
 (pN Tryz.prog (oBin .eql 3 (.tmp 26) (.const (.int .i64 2)) x26 (.int .i64 2)) w9 fun x30 w10 =>
 pIf x30
 (pN Tryz.prog (oFld 48 x3 3) w10 fun x31 w11 =>
 pN Tryz.prog (oLoad 3 x31) w11 fun x32 w12 =>
 I14 x32 w12)
 (pN Tryz.prog (oBin .eql 3 (.tmp 26) (.const (.int .i64 3)) x26 (.int .i64 3)) w10 fun x34 w13 =>
 pIf x34
 (pDr w13 fun w14 =>
 pA Tryz.prog (oNil x0) fun x36 =>
 pA Tryz.prog (oFld 128 x36 0) fun x37 =>
 pL Tryz.prog (oLoad 123 x37) w14 fun x38 =>
 pA Tryz.prog (oFld 48 x3 3) fun x39 =>
 pL Tryz.prog (oLoad 3 x39) w14 fun x40 =>
 pA Tryz.prog (oNil x38) fun x41 =>
 pA Tryz.prog (oFld 141 x41 1) fun x42 =>
 pA Tryz.prog (oFld 100 x42 1) fun x43 =>
 pA Tryz.prog (oIdx 67 x43 x40) fun x44 =>
 pL Tryz.prog (oLoad 3 x44) w14 fun x45 =>
 I14 x45 w14)
 (pN Tryz.prog (oBin .eql 3 (.tmp 26) (.const (.int .i64 4)) x26 (.int .i64 4)) w13 fun x47 w15 =>
 pIf x47
 (pN Tryz.prog (oNil x0) w15 fun x49 w16 =>
 pN Tryz.prog (oFld 128 x49 0) w16 fun x50 w17 =>
 pN Tryz.prog (oLoad 123 x50) w17 fun x51 w18 =>
 pN Tryz.prog (oNil x51) w18 fun x52 w19 =>
 pN Tryz.prog (oFld 141 x52 1) w19 fun x53 w20 =>
 pN Tryz.prog (oFld 100 x53 1) w20 fun x54 w21 =>
 pN Tryz.prog (oIdx 67 x54 (.int .i64 0)) w21 fun x55 w22 =>
 pN Tryz.prog (oLoad 3 x55) w22 fun x56 w23 =>
 I14 x56 w23)
 (I14 (.int .i64 0) w15))))) ∧
 ∀ (_j14 : Env) (dist7c14 : Value) (w24 : World), I14 dist7c14 w24 →
 pN Tryz.prog (oNil x0) w24 fun x59 w25 =>
 pN Tryz.prog (oFld 128 x59 1) w25 fun x60 w26 =>
 pN Tryz.prog (oLoad 97 x60) w26 fun x61 w27 =>
 pN Tryz.prog (oCall 101 [x61, dist7c14]) w27 fun x63 w28 =>
 pN Tryz.prog (oExt x63 0) w28 fun _ w29 =>
 pN Tryz.prog (oExt x63 1) w29 fun x65 w30 =>
 Q x65 w30))))) ∧ (pN Tryz.prog (oAlloc 100) w2 fun x5 w31 =>
 ((Sem.run Tryz.prog (oLoad 48 x3) w31 = .ok (.value x18) w31) ∧ (Sem.run Tryz.prog (oLoad 100 x16) w31 = .ok (.value x17) w31) ∧ (Sem.run Tryz.prog (oLoad 123 x13) w31 = .ok (.value x14) w31) ∧ True) ∧ (pN Tryz.prog (oCall 92 [x17, x18]) w31 fun x19 w32 =>
 (True) ∧ (pA Tryz.prog (oExt x19 0) fun x20 =>
 pA Tryz.prog (oExt x19 1) fun x21 =>
 pN Tryz.prog (oStore 100 x5 x20) w32 fun _ w33 =>
 (True) ∧ (pN Tryz.prog (oBin .neq 38 (.tmp 22) (.const (.int .i64 0)) x21 (.int .i64 0)) w33 fun x23 w34 =>
 pIf x23
 (Q x21 w34)
 (∃ I14 : Value → World → Prop,
 (pN Tryz.prog (oFld 48 x3 0) w34 fun x25 w35 =>
 pN Tryz.prog (oLoad 3 x25) w35 fun x26 w36 =>
 pN Tryz.prog (oBin .eql 3 (.tmp 26) (.const (.int .i64 1)) x26 (.int .i64 1)) w36 fun x28 w37 =>
 pIf x28
 (Q (.int .i64 0) w37)
 (pN Tryz.prog (oBin .eql 3 (.tmp 26) (.const (.int .i64 2)) x26 (.int .i64 2)) w37 fun x30 w38 =>
 pIf x30
 (pN Tryz.prog (oFld 48 x3 3) w38 fun x31 w39 =>
 pN Tryz.prog (oLoad 3 x31) w39 fun x32 w40 =>
 I14 x32 w40)
 (pN Tryz.prog (oBin .eql 3 (.tmp 26) (.const (.int .i64 3)) x26 (.int .i64 3)) w38 fun x34 w41 =>
 pIf x34
 (pDr w41 fun w42 =>
 pA Tryz.prog (oNil x0) fun x36 =>
 pA Tryz.prog (oFld 128 x36 0) fun x37 =>
 pL Tryz.prog (oLoad 123 x37) w42 fun x38 =>
 pA Tryz.prog (oFld 48 x3 3) fun x39 =>
 pL Tryz.prog (oLoad 3 x39) w42 fun x40 =>
 pA Tryz.prog (oNil x38) fun x41 =>
 pA Tryz.prog (oFld 141 x41 1) fun x42 =>
 pA Tryz.prog (oFld 100 x42 1) fun x43 =>
 pA Tryz.prog (oIdx 67 x43 x40) fun x44 =>
 pL Tryz.prog (oLoad 3 x44) w42 fun x45 =>
 I14 x45 w42)
 (pN Tryz.prog (oBin .eql 3 (.tmp 26) (.const (.int .i64 4)) x26 (.int .i64 4)) w41 fun x47 w43 =>
 pIf x47
 (pN Tryz.prog (oNil x0) w43 fun x49 w44 =>
 pN Tryz.prog (oFld 128 x49 0) w44 fun x50 w45 =>
 pN Tryz.prog (oLoad 123 x50) w45 fun x51 w46 =>
 pN Tryz.prog (oNil x51) w46 fun x52 w47 =>
 pN Tryz.prog (oFld 141 x52 1) w47 fun x53 w48 =>
 pN Tryz.prog (oFld 100 x53 1) w48 fun x54 w49 =>
 pN Tryz.prog (oIdx 67 x54 (.int .i64 0)) w49 fun x55 w50 =>
 pN Tryz.prog (oLoad 3 x55) w50 fun x56 w51 =>
 I14 x56 w51)
 (I14 (.int .i64 0) w43))))) ∧
 ∀ (_j14 : Env) (dist7c14 : Value) (w52 : World), I14 dist7c14 w52 →
 pN Tryz.prog (oNil x0) w52 fun x59 w53 =>
 pN Tryz.prog (oFld 128 x59 1) w53 fun x60 w54 =>
 pN Tryz.prog (oLoad 97 x60) w54 fun x61 w55 =>
 pN Tryz.prog (oCall 101 [x61, dist7c14]) w55 fun x63 w56 =>
 pN Tryz.prog (oExt x63 0) w56 fun _ w57 =>
 pN Tryz.prog (oExt x63 1) w57 fun x65 w58 =>
 Q x65 w58)))))
theorem lzenc_Encoder_may.calls [Pan] {x0 x1 : Value} {w : World} {Q : Value → World → Prop} (h : lzenc_Encoder_may.F x0 x1 w Q) : Calls Tryz.prog 67 #[x0, x1] w (retP Q) := calls_lift mixed lzenc_Encoder_may.H [x0, x1] Tryz.func67 (by kernel_rfl) (by kernel_rfl) h

def lzenc_Encoder_code.H : Hints := { cut := fun | 21 => some ([], 13164036458569648337239709904315838159738563613118887640457805824) | _ => none, loop := fun  | _ => ([], 0), order := fun | 1 => [(0, 0), (1, 1), (2, 3), (3, 7), (4, 15), (5, 31), (6, 63), (7, 127), (8, 255), (9, 511), (10, 1023), (11, 2047), (12, 4095), (13, 8191), (14, 16383), (15, 32767), (16, 65535), (17, 131071), (18, 262143), (19, 524287)] | 3 => [(0, 0), (1, 1), (2, 3), (3, 7), (4, 15), (5, 31), (6, 63), (7, 127), (8, 255), (9, 511), (10, 1023), (11, 2047), (12, 4095)] | 5 => [(0, 0), (1, 1), (2, 3), (3, 7), (4, 15), (5, 31), (6, 63), (7, 127), (8, 255), (9, 511), (10, 1023), (11, 2047), (12, 4095)] | 7 => [(0, 0), (1, 1), (2, 3), (3, 7), (4, 15), (5, 31), (6, 63), (7, 127), (8, 255), (9, 511), (10, 1023), (11, 2047), (12, 4095)] | 8 => [(0, 0), (1, 1), (2, 3), (3, 7), (4, 15), (5, 31), (6, 63), (7, 127), (8, 255), (9, 511), (10, 1023), (11, 2047)] | 10 => [(0, 0), (1, 1), (2, 3), (3, 7), (4, 15), (5, 31), (6, 63), (7, 127), (8, 255), (9, 511), (10, 1023), (11, 2047), (12, 4095)] | 12 => [(0, 0), (1, 1), (2, 3), (3, 7), (4, 15), (5, 31), (6, 63), (7, 127), (8, 255), (9, 511), (10, 1023), (11, 2047), (12, 4095)] | 13 => [(0, 0), (1, 1), (2, 3), (3, 7), (4, 15), (5, 31), (6, 63), (7, 127), (8, 255), (9, 511), (10, 1023), (11, 2047), (12, 4095)] | 15 => [(0, 0), (1, 1), (2, 3), (3, 7), (4, 15), (5, 31), (6, 63), (7, 127), (8, 255), (9, 511), (10, 1023), (11, 2047), (12, 4095)] | 16 => [(0, 0), (1, 1), (2, 3), (3, 7), (4, 15), (5, 31), (6, 63), (7, 127), (8, 255), (9, 511), (10, 1023), (11, 2047), (12, 4095)] | 17 => [(0, 0), (1, 1), (2, 3), (3, 7), (4, 15), (5, 31), (6, 63), (7, 127), (8, 255), (9, 511), (10, 1023), (11, 2047), (12, 4095)] | 18 => [(0, 0), (1, 1), (2, 3), (3, 7), (4, 15), (5, 31), (6, 63), (7, 127), (8, 255), (9, 511), (10, 1023), (11, 2047), (12, 4095), (13, 8191), (14, 16383), (15, 32767), (16, 65535)] | 20 => [(0, 0), (1, 1), (2, 3), (3, 7), (4, 15), (5, 31), (6, 63), (7, 127), (8, 255), (9, 511), (10, 1023), (11, 2047), (12, 4095), (13, 8191), (14, 16383), (15, 32767)] | 21 => [(0, 0), (1, 1), (2, 3), (3, 7), (4, 15), (5, 31), (6, 63), (7, 127), (8, 255), (9, 511), (10, 1023), (11, 2047)] | _ => [] }
def lzenc_Encoder_code.F [Pan] (x0 x1 x2 : Value) (w : World) (Q : Value → World → Prop) : Prop :=
 pN Tryz.prog (oBox 48 x2) w fun x5 w1 =>
 pDr w1 fun w2 =>
 pA Tryz.prog (oNil x0) fun x9 =>
 pA Tryz.prog (oFld 128 x9 0) fun x10 =>
 pL Tryz.prog (oLoad 123 x10) w2 fun x11 =>
 pA Tryz.prog (oNil x11) fun x12 =>
 pA Tryz.prog (oFld 141 x12 1) fun x13 =>
 pA Tryz.prog (oFld 100 x13 0) fun x14 =>
 pL Tryz.prog (oLoad 3 x14) w2 fun x15 =>
 pA Tryz.prog (oNil x0) fun x17 =>
 pA Tryz.prog (oFld 128 x17 0) fun x18 =>
 pL Tryz.prog (oLoad 123 x18) w2 fun x19 =>
 pA Tryz.prog (oNil x0) fun x21 =>
 pA Tryz.prog (oFld 128 x21 1) fun x22 =>
 pL Tryz.prog (oLoad 97 x22) w2 fun x23 =>
 pN Tryz.prog (oCall 103 [x23]) w2 fun x24 w3 =>
 ((Sem.run Tryz.prog (oLoad 123 x18) w3 = .ok (.value x19) w3) ∧ (Sem.run Tryz.prog (oLoad 3 x14) w3 = .ok (.value x15) w3) ∧ (Sem.run Tryz.prog (oLoad 123 x10) w3 = .ok (.value x11) w3) ∧ True) ∧ (pN Tryz.prog (oCall 102 [x19, x24]) w3 fun x25 w4 =>
 ((Sem.run Tryz.prog (oLoad 3 x14) w4 = .ok (.value x15) w4) ∧ (Sem.run Tryz.prog (oLoad 123 x10) w4 = .ok (.value x11) w4) ∧ True) ∧ (pN Tryz.prog (oFld 48 x5 0) w4 fun x26 w5 =>
 pN Tryz.prog (oLoad 3 x26) w5 fun x27 w6 =>
 pN Tryz.prog (oBin .eql 3 (.tmp 27) (.const (.int .i64 1)) x27 (.int .i64 1)) w6 fun x28 w7 =>
 pIf x28
 (pDr w7 fun w8 =>
 pA Tryz.prog (oNil x0) fun x31 =>
 pA Tryz.prog (oFld 128 x31 0) fun x32 =>
 pL Tryz.prog (oLoad 123 x32) w8 fun x33 =>
 pA Tryz.prog (oNil x33) fun x34 =>
 pA Tryz.prog (oFld 141 x34 2) fun x35 =>
 pL Tryz.prog (oLoad 137 x35) w8 fun x36 =>
 pN Tryz.prog (oFn (.method "pith/lzenc.bit") [x1] []) w8 fun x38 w9 =>
 ((Sem.run Tryz.prog (oLoad 137 x35) w9 = .ok (.value x36) w9) ∧ (Sem.run Tryz.prog (oLoad 123 x32) w9 = .ok (.value x33) w9) ∧ True) ∧ (pA Tryz.prog (oNil x38) fun _ =>
 pN Tryz.prog (oInv x1 "pith/lzenc.bit" [x36, x25, (.int .i64 0)]) w9 fun _ w10 =>
 (True) ∧ (pN Tryz.prog (oFld 48 x5 1) w10 fun x44 w11 =>
 pN Tryz.prog (oLoad 5 x44) w11 fun x45 w12 =>
 pN Tryz.prog (oConv 5 3 x45) w12 fun x46 w13 =>
 pN Tryz.prog (oCall 104 [x0, x1, x46]) w13 fun _ w14 =>
 Q (.tuple #[]) w14)))
 (pDr w7 fun w15 =>
 pA Tryz.prog (oNil x0) fun x50 =>
 pA Tryz.prog (oFld 128 x50 0) fun x51 =>
 pL Tryz.prog (oLoad 123 x51) w15 fun x52 =>
 pA Tryz.prog (oNil x52) fun x53 =>
 pA Tryz.prog (oFld 141 x53 2) fun x54 =>
 pL Tryz.prog (oLoad 137 x54) w15 fun x55 =>
 pN Tryz.prog (oFn (.method "pith/lzenc.bit") [x1] []) w15 fun x57 w16 =>
 ((Sem.run Tryz.prog (oLoad 137 x54) w16 = .ok (.value x55) w16) ∧ (Sem.run Tryz.prog (oLoad 123 x51) w16 = .ok (.value x52) w16) ∧ True) ∧ (pA Tryz.prog (oNil x57) fun _ =>
 pN Tryz.prog (oInv x1 "pith/lzenc.bit" [x55, x25, (.int .i64 1)]) w16 fun _ w17 =>
 (True) ∧ (pN Tryz.prog (oFld 48 x5 0) w17 fun x61 w18 =>
 pN Tryz.prog (oLoad 3 x61) w18 fun x62 w19 =>
 pN Tryz.prog (oBin .eql 3 (.tmp 62) (.const (.int .i64 2)) x62 (.int .i64 2)) w19 fun x63 w20 =>
 pIf x63
 (pDr w20 fun w21 =>
 pA Tryz.prog (oNil x0) fun x66 =>
 pA Tryz.prog (oFld 128 x66 0) fun x67 =>
 pL Tryz.prog (oLoad 123 x67) w21 fun x68 =>
 pA Tryz.prog (oNil x68) fun x69 =>
 pA Tryz.prog (oFld 141 x69 4) fun x70 =>
 pL Tryz.prog (oLoad 137 x70) w21 fun x71 =>
 pN Tryz.prog (oFn (.method "pith/lzenc.bit") [x1] []) w21 fun x73 w22 =>
 ((Sem.run Tryz.prog (oLoad 137 x70) w22 = .ok (.value x71) w22) ∧ (Sem.run Tryz.prog (oLoad 123 x67) w22 = .ok (.value x68) w22) ∧ True) ∧ (pA Tryz.prog (oNil x73) fun _ =>
 pN Tryz.prog (oInv x1 "pith/lzenc.bit" [x71, x15, (.int .i64 0)]) w22 fun _ w23 =>
 (True) ∧ (pDr w23 fun w24 =>
 pA Tryz.prog (oNil x0) fun x80 =>
 pA Tryz.prog (oFld 128 x80 0) fun x81 =>
 pL Tryz.prog (oLoad 123 x81) w24 fun x82 =>
 pA Tryz.prog (oNil x82) fun x83 =>
 pA Tryz.prog (oFld 141 x83 9) fun x84 =>
 pL Tryz.prog (oLoad 139 x84) w24 fun x85 =>
 pA Tryz.prog (oFld 48 x5 2) fun x86 =>
 pL Tryz.prog (oLoad 3 x86) w24 fun x87 =>
 pN Tryz.prog (oCall 105 [x0, x1, x85, x87]) w24 fun _ w25 =>
 (True) ∧ (pN Tryz.prog (oLoad 48 x5) w25 fun x91 w26 =>
 pN Tryz.prog (oCall 106 [x0, x1, x91]) w26 fun _ w27 =>
 Q (.tuple #[]) w27))))
 (pDr w20 fun w28 =>
 pA Tryz.prog (oNil x0) fun x95 =>
 pA Tryz.prog (oFld 128 x95 0) fun x96 =>
 pL Tryz.prog (oLoad 123 x96) w28 fun x97 =>
 pA Tryz.prog (oNil x97) fun x98 =>
 pA Tryz.prog (oFld 141 x98 4) fun x99 =>
 pL Tryz.prog (oLoad 137 x99) w28 fun x100 =>
 pN Tryz.prog (oFn (.method "pith/lzenc.bit") [x1] []) w28 fun x102 w29 =>
 ((Sem.run Tryz.prog (oLoad 137 x99) w29 = .ok (.value x100) w29) ∧ (Sem.run Tryz.prog (oLoad 123 x96) w29 = .ok (.value x97) w29) ∧ True) ∧ (pA Tryz.prog (oNil x102) fun _ =>
 pN Tryz.prog (oInv x1 "pith/lzenc.bit" [x100, x15, (.int .i64 1)]) w29 fun _ w30 =>
 (True) ∧ (pN Tryz.prog (oFld 48 x5 0) w30 fun x106 w31 =>
 pN Tryz.prog (oLoad 3 x106) w31 fun x107 w32 =>
 pN Tryz.prog (oBin .eql 3 (.tmp 107) (.const (.int .i64 4)) x107 (.int .i64 4)) w32 fun x108 w33 =>
 pIf x108
 (pDr w33 fun w34 =>
 pA Tryz.prog (oNil x0) fun x111 =>
 pA Tryz.prog (oFld 128 x111 0) fun x112 =>
 pL Tryz.prog (oLoad 123 x112) w34 fun x113 =>
 pA Tryz.prog (oNil x113) fun x114 =>
 pA Tryz.prog (oFld 141 x114 5) fun x115 =>
 pL Tryz.prog (oLoad 137 x115) w34 fun x116 =>
 pN Tryz.prog (oFn (.method "pith/lzenc.bit") [x1] []) w34 fun x118 w35 =>
 ((Sem.run Tryz.prog (oLoad 137 x115) w35 = .ok (.value x116) w35) ∧ (Sem.run Tryz.prog (oLoad 123 x112) w35 = .ok (.value x113) w35) ∧ True) ∧ (pA Tryz.prog (oNil x118) fun _ =>
 pN Tryz.prog (oInv x1 "pith/lzenc.bit" [x116, x15, (.int .i64 0)]) w35 fun _ w36 =>
 (True) ∧ (pDr w36 fun w37 =>
 pA Tryz.prog (oNil x0) fun x124 =>
 pA Tryz.prog (oFld 128 x124 0) fun x125 =>
 pL Tryz.prog (oLoad 123 x125) w37 fun x126 =>
 pA Tryz.prog (oNil x126) fun x127 =>
 pA Tryz.prog (oFld 141 x127 3) fun x128 =>
 pL Tryz.prog (oLoad 137 x128) w37 fun x129 =>
 pN Tryz.prog (oFn (.method "pith/lzenc.bit") [x1] []) w37 fun x131 w38 =>
 ((Sem.run Tryz.prog (oLoad 137 x128) w38 = .ok (.value x129) w38) ∧ (Sem.run Tryz.prog (oLoad 123 x125) w38 = .ok (.value x126) w38) ∧ True) ∧ (pA Tryz.prog (oNil x131) fun _ =>
 pN Tryz.prog (oInv x1 "pith/lzenc.bit" [x129, x25, (.int .i64 0)]) w38 fun _ w39 =>
 (True) ∧ (Q (.tuple #[]) w39)))))
 (∃ I21 : World → Prop,
 (pN Tryz.prog (oFld 48 x5 3) w33 fun x135 w40 =>
 pN Tryz.prog (oLoad 3 x135) w40 fun x136 w41 =>
 pN Tryz.prog (oBin .eql 3 (.tmp 136) (.const (.int .i64 0)) x136 (.int .i64 0)) w41 fun x137 w42 =>
 pIf x137
 (pDr w42 fun w43 =>
 pA Tryz.prog (oNil x0) fun x140 =>
 pA Tryz.prog (oFld 128 x140 0) fun x141 =>
 pL Tryz.prog (oLoad 123 x141) w43 fun x142 =>
 pA Tryz.prog (oNil x142) fun x143 =>
 pA Tryz.prog (oFld 141 x143 5) fun x144 =>
 pL Tryz.prog (oLoad 137 x144) w43 fun x145 =>
 pN Tryz.prog (oFn (.method "pith/lzenc.bit") [x1] []) w43 fun x147 w44 =>
 ((Sem.run Tryz.prog (oLoad 137 x144) w44 = .ok (.value x145) w44) ∧ (Sem.run Tryz.prog (oLoad 123 x141) w44 = .ok (.value x142) w44) ∧ True) ∧ (pA Tryz.prog (oNil x147) fun _ =>
 pN Tryz.prog (oInv x1 "pith/lzenc.bit" [x145, x15, (.int .i64 0)]) w44 fun _ w45 =>
 (True) ∧ (pDr w45 fun w46 =>
 pA Tryz.prog (oNil x0) fun x153 =>
 pA Tryz.prog (oFld 128 x153 0) fun x154 =>
 pL Tryz.prog (oLoad 123 x154) w46 fun x155 =>
 pA Tryz.prog (oNil x155) fun x156 =>
 pA Tryz.prog (oFld 141 x156 3) fun x157 =>
 pL Tryz.prog (oLoad 137 x157) w46 fun x158 =>
 pN Tryz.prog (oFn (.method "pith/lzenc.bit") [x1] []) w46 fun x160 w47 =>
 ((Sem.run Tryz.prog (oLoad 137 x157) w47 = .ok (.value x158) w47) ∧ (Sem.run Tryz.prog (oLoad 123 x154) w47 = .ok (.value x155) w47) ∧ True) ∧ (pA Tryz.prog (oNil x160) fun _ =>
 pN Tryz.prog (oInv x1 "pith/lzenc.bit" [x158, x25, (.int .i64 1)]) w47 fun _ w48 =>
 (True) ∧ (I21 w48)))))
 (pDr w42 fun w49 =>
 pA Tryz.prog (oNil x0) fun x166 =>
 pA Tryz.prog (oFld 128 x166 0) fun x167 =>
 pL Tryz.prog (oLoad 123 x167) w49 fun x168 =>
 pA Tryz.prog (oNil x168) fun x169 =>
 pA Tryz.prog (oFld 141 x169 5) fun x170 =>
 pL Tryz.prog (oLoad 137 x170) w49 fun x171 =>
 pN Tryz.prog (oFn (.method "pith/lzenc.bit") [x1] []) w49 fun x173 w50 =>
 ((Sem.run Tryz.prog (oLoad 137 x170) w50 = .ok (.value x171) w50) ∧ (Sem.run Tryz.prog (oLoad 123 x167) w50 = .ok (.value x168) w50) ∧ True) ∧ (pA Tryz.prog (oNil x173) fun _ =>
 pN Tryz.prog (oInv x1 "pith/lzenc.bit" [x171, x15, (.int .i64 1)]) w50 fun _ w51 =>
 (True) ∧ (pDr w51 fun w52 =>
 pA Tryz.prog (oNil x0) fun x179 =>
 pA Tryz.prog (oFld 128 x179 0) fun x180 =>
 pL Tryz.prog (oLoad 123 x180) w52 fun x181 =>
 pA Tryz.prog (oNil x181) fun x182 =>
 pA Tryz.prog (oFld 141 x182 6) fun x183 =>
 pL Tryz.prog (oLoad 137 x183) w52 fun x184 =>
 pA Tryz.prog (oFld 48 x5 3) fun x186 =>
 pL Tryz.prog (oLoad 3 x186) w52 fun x187 =>
 pA Tryz.prog (oBin .sub 3 (.tmp 187) (.const (.int .i64 1)) x187 (.int .i64 1)) fun x188 =>
 pA Tryz.prog (oBi .min #[3, 3] 3 [false, true] [x188, (.int .i64 1)]) fun x189 =>
 pN Tryz.prog (oFn (.method "pith/lzenc.bit") [x1] []) w52 fun x190 w53 =>
 ((Sem.run Tryz.prog (oLoad 3 x186) w53 = .ok (.value x187) w53) ∧ (Sem.run Tryz.prog (oLoad 137 x183) w53 = .ok (.value x184) w53) ∧ (Sem.run Tryz.prog (oLoad 123 x180) w53 = .ok (.value x181) w53) ∧ True) ∧ (pA Tryz.prog (oNil x190) fun _ =>
 pN Tryz.prog (oInv x1 "pith/lzenc.bit" [x184, x15, x189]) w53 fun _ w54 =>
 (True) ∧ (pN Tryz.prog (oFld 48 x5 3) w54 fun x194 w55 =>
 pN Tryz.prog (oLoad 3 x194) w55 fun x195 w56 =>
 pN Tryz.prog (oBin .gtr 3 (.tmp 195) (.const (.int .i64 1)) x195 (.int .i64 1)) w56 fun x196 w57 =>
 pIf x196
 (pDr w57 fun w58 =>
 pA Tryz.prog (oNil x0) fun x199 =>
 pA Tryz.prog (oFld 128 x199 0) fun x200 =>
 pL Tryz.prog (oLoad 123 x200) w58 fun x201 =>
 pA Tryz.prog (oNil x201) fun x202 =>
 pA Tryz.prog (oFld 141 x202 7) fun x203 =>
 pL Tryz.prog (oLoad 137 x203) w58 fun x204 =>
 pA Tryz.prog (oFld 48 x5 3) fun x206 =>
 pL Tryz.prog (oLoad 3 x206) w58 fun x207 =>
 pA Tryz.prog (oBin .sub 3 (.tmp 207) (.const (.int .i64 2)) x207 (.int .i64 2)) fun x208 =>
 pN Tryz.prog (oFn (.method "pith/lzenc.bit") [x1] []) w58 fun x209 w59 =>
 ((Sem.run Tryz.prog (oLoad 3 x206) w59 = .ok (.value x207) w59) ∧ (Sem.run Tryz.prog (oLoad 137 x203) w59 = .ok (.value x204) w59) ∧ (Sem.run Tryz.prog (oLoad 123 x200) w59 = .ok (.value x201) w59) ∧ True) ∧ (pA Tryz.prog (oNil x209) fun _ =>
 pN Tryz.prog (oInv x1 "pith/lzenc.bit" [x204, x15, x208]) w59 fun _ w60 =>
 (True) ∧ (I21 w60)))
 (I21 w57))))))) ∧
 ∀ (_j21 : Env) (w61 : World), I21 w61 →
 pDr w61 fun w62 =>
 pA Tryz.prog (oNil x0) fun x216 =>
 pA Tryz.prog (oFld 128 x216 0) fun x217 =>
 pL Tryz.prog (oLoad 123 x217) w62 fun x218 =>
 pA Tryz.prog (oNil x218) fun x219 =>
 pA Tryz.prog (oFld 141 x219 10) fun x220 =>
 pL Tryz.prog (oLoad 139 x220) w62 fun x221 =>
 pA Tryz.prog (oFld 48 x5 2) fun x222 =>
 pL Tryz.prog (oLoad 3 x222) w62 fun x223 =>
 pN Tryz.prog (oCall 105 [x0, x1, x221, x223]) w62 fun _ w63 =>
 (True) ∧ (Q (.tuple #[]) w63))))))))))
theorem lzenc_Encoder_code.calls [Pan] {x0 x1 x2 : Value} {w : World} {Q : Value → World → Prop} (h : lzenc_Encoder_code.F x0 x1 x2 w Q) : Calls Tryz.prog 68 #[x0, x1, x2] w (retP Q) := calls_lift mixed lzenc_Encoder_code.H [x0, x1, x2] Tryz.func68 (by kernel_rfl) (by kernel_rfl) h

def lzenc_Encoder_literal.H : Hints := { cut := fun | 8 => some ([12, 14], 10633823966274491279951997965544181760) | 13 => some ([17], 623921779799831658549158739968) | _ => none, loop := fun | 7 => ([12, 13, 14], 10633823966279024751775552824949338112) | _ => ([], 0), order := fun | 1 => [(0, 0), (1, 1), (2, 3), (3, 7), (4, 15), (5, 31), (6, 63), (7, 127), (9, 255), (8, 767), (10, 1023), (11, 2047)] | 3 => [(0, 0), (1, 1), (2, 3), (3, 7), (4, 15), (5, 31), (6, 63), (7, 127), (8, 255), (9, 511), (10, 1023), (11, 2047), (12, 4095), (13, 8191)] | 4 => [(0, 0), (1, 1), (2, 3), (3, 7), (4, 15), (5, 31), (6, 63), (7, 127), (8, 255), (9, 511), (10, 1023), (11, 2047), (12, 4095), (13, 8191), (14, 16383), (15, 32767), (16, 65535), (17, 131071), (18, 262143)] | 9 => [(0, 0), (1, 1), (2, 3), (3, 7), (4, 15), (5, 31), (6, 63), (7, 127), (8, 255), (9, 511)] | 13 => [(0, 0), (1, 1), (2, 3), (3, 7), (4, 15), (5, 31), (6, 63), (7, 127), (8, 255), (9, 511), (10, 1023), (11, 2047), (12, 4095), (13, 8191)] | _ => [] }
def lzenc_Encoder_literal.F [Pan] (x0 x1 x2 : Value) (w : World) (Q : Value → World → Prop) : Prop :=
 pN Tryz.prog (oNil x0) w fun x20 w1 =>
 pN Tryz.prog (oFld 128 x20 1) w1 fun x21 w2 =>
 pN Tryz.prog (oLoad 97 x21) w2 fun x22 w3 =>
 pN Tryz.prog (oCall 101 [x22, (.int .i64 1)]) w3 fun x23 w4 =>
 pN Tryz.prog (oExt x23 0) w4 fun x24 w5 =>
 pN Tryz.prog (oExt x23 1) w5 fun _ w6 =>
 pDr w6 fun w7 =>
 pA Tryz.prog (oNil x0) fun x27 =>
 pA Tryz.prog (oFld 128 x27 0) fun x28 =>
 pL Tryz.prog (oLoad 123 x28) w7 fun x29 =>
 pA Tryz.prog (oNil x0) fun x31 =>
 pA Tryz.prog (oFld 128 x31 1) fun x32 =>
 pL Tryz.prog (oLoad 97 x32) w7 fun x33 =>
 pN Tryz.prog (oCall 103 [x33]) w7 fun x34 w8 =>
 ((Sem.run Tryz.prog (oLoad 123 x28) w8 = .ok (.value x29) w8) ∧ True) ∧ (pN Tryz.prog (oCall 143 [x29, x34, x24]) w8 fun x36 w9 =>
 (True) ∧ (pN Tryz.prog (oNil x0) w9 fun x38 w10 =>
 pN Tryz.prog (oFld 128 x38 0) w10 fun x39 w11 =>
 pN Tryz.prog (oLoad 123 x39) w11 fun x40 w12 =>
 pN Tryz.prog (oNil x40) w12 fun x41 w13 =>
 pN Tryz.prog (oFld 141 x41 1) w13 fun x42 w14 =>
 pN Tryz.prog (oLoad 100 x42) w14 fun x43 w15 =>
 pN Tryz.prog (oCall 144 [x43]) w15 fun x44 w16 =>
 pIf x44
 (pDr w16 fun w17 =>
 pA Tryz.prog (oNil x0) fun x47 =>
 pA Tryz.prog (oFld 128 x47 0) fun x48 =>
 pL Tryz.prog (oLoad 123 x48) w17 fun x49 =>
 pA Tryz.prog (oNil x49) fun x50 =>
 pA Tryz.prog (oFld 141 x50 8) fun x51 =>
 pL Tryz.prog (oLoad 137 x51) w17 fun x52 =>
 pN Tryz.prog (oFn (.method "pith/lzenc.tree") [x1] []) w17 fun x55 w18 =>
 ((Sem.run Tryz.prog (oLoad 137 x51) w18 = .ok (.value x52) w18) ∧ (Sem.run Tryz.prog (oLoad 123 x48) w18 = .ok (.value x49) w18) ∧ True) ∧ (pA Tryz.prog (oNil x55) fun _ =>
 pN Tryz.prog (oInv x1 "pith/lzenc.tree" [x52, x36, (.int .i64 8), x2]) w18 fun _ w19 =>
 (True) ∧ (Q (.tuple #[]) w19)))
 (pDr w16 fun w20 =>
 pA Tryz.prog (oNil x0) fun x61 =>
 pA Tryz.prog (oFld 128 x61 1) fun x62 =>
 pL Tryz.prog (oLoad 97 x62) w20 fun x63 =>
 pA Tryz.prog (oNil x0) fun x65 =>
 pA Tryz.prog (oFld 128 x65 0) fun x66 =>
 pL Tryz.prog (oLoad 123 x66) w20 fun x67 =>
 pA Tryz.prog (oNil x67) fun x68 =>
 pA Tryz.prog (oFld 141 x68 1) fun x69 =>
 pA Tryz.prog (oFld 100 x69 1) fun x70 =>
 pA Tryz.prog (oIdx 67 x70 (.int .i64 0)) fun x71 =>
 pL Tryz.prog (oLoad 3 x71) w20 fun x72 =>
 pN Tryz.prog (oCall 101 [x63, x72]) w20 fun x73 w21 =>
 (True) ∧ (pA Tryz.prog (oExt x73 0) fun x74 =>
 pA Tryz.prog (oExt x73 1) fun _ =>
 pN Tryz.prog (oConv 5 3 x74) w21 fun x77 w22 =>
 ∃ (L7 : Value → Value → Value → World → Prop) (m7 : Value → Value → Value → World → Nat),
 L7 (.bool true) (.int .i64 7) (.int .i64 1) w22 ∧
 ∀ (_k7 : Env) (same12l7 : Value) (i13l7 : Value) (m14l7 : Value) (w23 : World), L7 same12l7 i13l7 m14l7 w23 →
 pN Tryz.prog (oBin .geq 3 (.tmp 78) (.const (.int .i64 0)) i13l7 (.int .i64 0)) w23 fun x79 w24 =>
 pIf x79
 (∃ I8 : Value → Value → World → Prop,
 (pDr w24 fun w25 =>
 pA Tryz.prog (oBin .shr 3 (.tmp 82) (.tmp 83) x2 i13l7) fun x84 =>
 pA Tryz.prog (oBin .and 3 (.tmp 84) (.const (.int .i64 1)) x84 (.int .i64 1)) fun x85 =>
 pA Tryz.prog (oBin .shr 3 (.tmp 86) (.tmp 87) x77 i13l7) fun x88 =>
 pA Tryz.prog (oBin .and 3 (.tmp 88) (.const (.int .i64 1)) x88 (.int .i64 1)) fun x89 =>
 pN Tryz.prog (oBin .add 3 (.tmp 90) (.tmp 91) x36 m14l7) w25 fun x92 w26 =>
 ∃ I13 : Value → World → Prop,
 (pIf same12l7
 (pN Tryz.prog (oBin .add 3 (.const (.int .i64 1)) (.tmp 95) (.int .i64 1) x89) w26 fun x96 w27 =>
 pN Tryz.prog (oBin .mul 3 (.const (.int .i64 256)) (.tmp 96) (.int .i64 256) x96) w27 fun x97 w28 =>
 pN Tryz.prog (oBin .add 3 (.tmp 94) (.tmp 97) x92 x97) w28 fun x98 w29 =>
 I13 x98 w29)
 (I13 x92 w26)) ∧
 ∀ (_j13 : Env) (at17c13 : Value) (w30 : World), I13 at17c13 w30 →
 pDr w30 fun w31 =>
 pA Tryz.prog (oNil x0) fun x101 =>
 pA Tryz.prog (oFld 128 x101 0) fun x102 =>
 pL Tryz.prog (oLoad 123 x102) w31 fun x103 =>
 pA Tryz.prog (oNil x103) fun x104 =>
 pA Tryz.prog (oFld 141 x104 8) fun x105 =>
 pL Tryz.prog (oLoad 137 x105) w31 fun x106 =>
 pN Tryz.prog (oFn (.method "pith/lzenc.bit") [x1] []) w31 fun x109 w32 =>
 ((Sem.run Tryz.prog (oLoad 137 x105) w32 = .ok (.value x106) w32) ∧ (Sem.run Tryz.prog (oLoad 123 x102) w32 = .ok (.value x103) w32) ∧ True) ∧ (pA Tryz.prog (oNil x109) fun _ =>
 pN Tryz.prog (oInv x1 "pith/lzenc.bit" [x106, at17c13, x85]) w32 fun _ w33 =>
 (True) ∧ (pGd (gB same12l7 true) (pN Tryz.prog (oMv x85) w33) w33 fun x115 w34 =>
 pGd (gB same12l7 true) (pN Tryz.prog (oMv x89) w34) w34 fun x116 w35 =>
 pGd (gB same12l7 true) (pN Tryz.prog (oBin .eql 3 (.tmp 115) (.tmp 116) x115 x116) w35) w35 fun x117 w36 =>
 pN Tryz.prog (oPick same12l7 x117 (.bool false)) w36 fun x118 w37 =>
 pN Tryz.prog (oBin .mul 3 (.const (.int .i64 2)) (.tmp 119) (.int .i64 2) m14l7) w37 fun x120 w38 =>
 pN Tryz.prog (oBin .add 3 (.tmp 120) (.tmp 121) x120 x85) w38 fun x122 w39 =>
 I8 x118 x122 w39))) ∧
 ∀ (_j8 : Env) (same12c8 : Value) (m14c8 : Value) (w40 : World), I8 same12c8 m14c8 w40 →
 pN Tryz.prog (oBin .sub 3 (.tmp 80) (.const (.int .i64 1)) i13l7 (.int .i64 1)) w40 fun x81 w41 =>
 (L7 same12c8 x81 m14c8 w41 ∧ m7 same12c8 x81 m14c8 w41 < m7 same12l7 i13l7 m14l7 w23))
 (Q (.tuple #[]) w24)))))
theorem lzenc_Encoder_literal.calls [Pan] {x0 x1 x2 : Value} {w : World} {Q : Value → World → Prop} (h : lzenc_Encoder_literal.F x0 x1 x2 w Q) : Calls Tryz.prog 104 #[x0, x1, x2] w (retP Q) := calls_lift mixed lzenc_Encoder_literal.H [x0, x1, x2] Tryz.func104 (by kernel_rfl) (by kernel_rfl) h

def lzenc_Encoder_length.H : Hints := { cut := fun  | _ => none, loop := fun  | _ => ([], 0), order := fun | 1 => [(0, 0), (1, 1), (2, 3), (3, 7), (4, 15), (5, 31), (6, 63), (7, 127), (8, 255), (9, 511), (10, 1023), (11, 2047), (12, 4095), (13, 8191), (14, 16383)] | _ => [] }
def lzenc_Encoder_length.F [Pan] (x0 x1 x2 x3 : Value) (w : World) (Q : Value → World → Prop) : Prop :=
 pN Tryz.prog (oBox 139 x2) w fun x6 w1 =>
 pDr w1 fun w2 =>
 pA Tryz.prog (oBin .sub 3 (.tmp 10) (.const (.int .i64 2)) x3 (.int .i64 2)) fun x11 =>
 pA Tryz.prog (oNil x0) fun x13 =>
 pA Tryz.prog (oFld 128 x13 0) fun x14 =>
 pL Tryz.prog (oLoad 123 x14) w2 fun x15 =>
 pA Tryz.prog (oNil x0) fun x17 =>
 pA Tryz.prog (oFld 128 x17 1) fun x18 =>
 pL Tryz.prog (oLoad 97 x18) w2 fun x19 =>
 pN Tryz.prog (oCall 103 [x19]) w2 fun x20 w3 =>
 ((Sem.run Tryz.prog (oLoad 123 x14) w3 = .ok (.value x15) w3) ∧ True) ∧ (pN Tryz.prog (oCall 142 [x15, x20]) w3 fun x21 w4 =>
 (True) ∧ (pA Tryz.prog (oBin .mul 3 (.const (.int .i64 8)) (.tmp 21) (.int .i64 8) x21) fun x22 =>
 pN Tryz.prog (oBin .lss 3 (.tmp 38) (.const (.int .i64 8)) x11 (.int .i64 8)) w4 fun x39 w5 =>
 pIf x39
 (pN Tryz.prog (oFld 139 x6 0) w5 fun x41 w6 =>
 pN Tryz.prog (oLoad 137 x41) w6 fun x42 w7 =>
 pN Tryz.prog (oInv x1 "pith/lzenc.bit" [x42, (.int .i64 0), (.int .i64 0)]) w7 fun _ w8 =>
 pN Tryz.prog (oFld 139 x6 1) w8 fun x45 w9 =>
 pN Tryz.prog (oLoad 137 x45) w9 fun x46 w10 =>
 pN Tryz.prog (oInv x1 "pith/lzenc.tree" [x46, x22, (.int .i64 3), x11]) w10 fun _ w11 =>
 Q (.tuple #[]) w11)
 (pN Tryz.prog (oBin .lss 3 (.tmp 51) (.const (.int .i64 16)) x11 (.int .i64 16)) w5 fun x52 w12 =>
 pIf x52
 (pN Tryz.prog (oFld 139 x6 0) w12 fun x54 w13 =>
 pN Tryz.prog (oLoad 137 x54) w13 fun x55 w14 =>
 pN Tryz.prog (oInv x1 "pith/lzenc.bit" [x55, (.int .i64 0), (.int .i64 1)]) w14 fun _ w15 =>
 pN Tryz.prog (oFld 139 x6 0) w15 fun x58 w16 =>
 pN Tryz.prog (oLoad 137 x58) w16 fun x59 w17 =>
 pN Tryz.prog (oInv x1 "pith/lzenc.bit" [x59, (.int .i64 1), (.int .i64 0)]) w17 fun _ w18 =>
 pN Tryz.prog (oFld 139 x6 2) w18 fun x62 w19 =>
 pN Tryz.prog (oLoad 137 x62) w19 fun x63 w20 =>
 pN Tryz.prog (oBin .sub 3 (.tmp 65) (.const (.int .i64 8)) x11 (.int .i64 8)) w20 fun x66 w21 =>
 pN Tryz.prog (oInv x1 "pith/lzenc.tree" [x63, x22, (.int .i64 3), x66]) w21 fun _ w22 =>
 Q (.tuple #[]) w22)
 (pN Tryz.prog (oFld 139 x6 0) w12 fun x24 w23 =>
 pN Tryz.prog (oLoad 137 x24) w23 fun x25 w24 =>
 pN Tryz.prog (oInv x1 "pith/lzenc.bit" [x25, (.int .i64 0), (.int .i64 1)]) w24 fun _ w25 =>
 pN Tryz.prog (oFld 139 x6 0) w25 fun x28 w26 =>
 pN Tryz.prog (oLoad 137 x28) w26 fun x29 w27 =>
 pN Tryz.prog (oInv x1 "pith/lzenc.bit" [x29, (.int .i64 1), (.int .i64 1)]) w27 fun _ w28 =>
 pN Tryz.prog (oFld 139 x6 3) w28 fun x32 w29 =>
 pN Tryz.prog (oLoad 137 x32) w29 fun x33 w30 =>
 pN Tryz.prog (oBin .sub 3 (.tmp 34) (.const (.int .i64 16)) x11 (.int .i64 16)) w30 fun x35 w31 =>
 pN Tryz.prog (oInv x1 "pith/lzenc.tree" [x33, (.int .i64 0), (.int .i64 8), x35]) w31 fun _ w32 =>
 Q (.tuple #[]) w32))))
theorem lzenc_Encoder_length.calls [Pan] {x0 x1 x2 x3 : Value} {w : World} {Q : Value → World → Prop} (h : lzenc_Encoder_length.F x0 x1 x2 x3 w Q) : Calls Tryz.prog 105 #[x0, x1, x2, x3] w (retP Q) := calls_lift mixed lzenc_Encoder_length.H [x0, x1, x2, x3] Tryz.func105 (by kernel_rfl) (by kernel_rfl) h

def lzenc_Encoder_distance.H : Hints := { cut := fun  | _ => none, loop := fun  | _ => ([], 0), order := fun | 3 => [(0, 0), (1, 1), (2, 3), (3, 7), (4, 15), (5, 31), (6, 63), (7, 127), (8, 255), (9, 511), (10, 1023), (11, 2047), (12, 4095), (13, 8191), (14, 16383), (15, 32767), (16, 65535), (17, 131071)] | 6 => [(0, 0), (1, 1), (2, 3), (3, 7), (4, 15), (5, 31), (6, 63), (7, 127), (8, 255), (9, 511), (10, 1023), (11, 2047), (12, 4095), (13, 8191)] | _ => [] }
def lzenc_Encoder_distance.F [Pan] (x0 x1 x2 : Value) (w : World) (Q : Value → World → Prop) : Prop :=
 pN Tryz.prog (oBox 48 x2) w fun x5 w1 =>
 pN Tryz.prog (oFld 48 x5 3) w1 fun x13 w2 =>
 pN Tryz.prog (oLoad 3 x13) w2 fun x14 w3 =>
 pN Tryz.prog (oCall 145 [x14]) w3 fun x15 w4 =>
 pN Tryz.prog (oExt x15 0) w4 fun x16 w5 =>
 pN Tryz.prog (oExt x15 1) w5 fun _ w6 =>
 pN Tryz.prog (oCall 146 [x16]) w6 fun x20 w7 =>
 pN Tryz.prog (oExt x20 0) w7 fun x21 w8 =>
 pN Tryz.prog (oExt x20 1) w8 fun x22 w9 =>
 pN Tryz.prog (oExt x20 2) w9 fun _ w10 =>
 pDr w10 fun w11 =>
 pA Tryz.prog (oNil x0) fun x26 =>
 pA Tryz.prog (oFld 128 x26 0) fun x27 =>
 pL Tryz.prog (oLoad 123 x27) w11 fun x28 =>
 pA Tryz.prog (oNil x28) fun x29 =>
 pA Tryz.prog (oFld 141 x29 11) fun x30 =>
 pL Tryz.prog (oLoad 137 x30) w11 fun x31 =>
 pA Tryz.prog (oFld 48 x5 2) fun x32 =>
 pL Tryz.prog (oLoad 3 x32) w11 fun x33 =>
 pA Tryz.prog (oBin .sub 3 (.tmp 33) (.const (.int .i64 2)) x33 (.int .i64 2)) fun x34 =>
 pA Tryz.prog (oBi .min #[3, 3] 3 [false, true] [x34, (.int .i64 3)]) fun x35 =>
 pA Tryz.prog (oBin .mul 3 (.const (.int .i64 64)) (.tmp 35) (.int .i64 64) x35) fun x36 =>
 pN Tryz.prog (oFn (.method "pith/lzenc.tree") [x1] []) w11 fun x38 w12 =>
 ((Sem.run Tryz.prog (oLoad 3 x32) w12 = .ok (.value x33) w12) ∧ (Sem.run Tryz.prog (oLoad 137 x30) w12 = .ok (.value x31) w12) ∧ (Sem.run Tryz.prog (oLoad 123 x27) w12 = .ok (.value x28) w12) ∧ True) ∧ (pA Tryz.prog (oNil x38) fun _ =>
 pN Tryz.prog (oInv x1 "pith/lzenc.tree" [x31, x36, (.int .i64 6), x16]) w12 fun _ w13 =>
 (True) ∧ (pN Tryz.prog (oFld 48 x5 3) w13 fun x42 w14 =>
 pN Tryz.prog (oLoad 3 x42) w14 fun x43 w15 =>
 pN Tryz.prog (oBin .sub 3 (.tmp 43) (.tmp 44) x43 x21) w15 fun x45 w16 =>
 pN Tryz.prog (oBin .eql 3 (.tmp 67) (.const (.int .i64 0)) x22 (.int .i64 0)) w16 fun x68 w17 =>
 pIf x68
 (Q (.tuple #[]) w17)
 (pN Tryz.prog (oCall 147 [x16]) w17 fun x71 w18 =>
 pN Tryz.prog (oUn .not x71) w18 fun x72 w19 =>
 pIf x72
 (pDr w19 fun w20 =>
 pA Tryz.prog (oNil x0) fun x75 =>
 pA Tryz.prog (oFld 128 x75 0) fun x76 =>
 pL Tryz.prog (oLoad 123 x76) w20 fun x77 =>
 pA Tryz.prog (oNil x77) fun x78 =>
 pA Tryz.prog (oFld 141 x78 12) fun x79 =>
 pL Tryz.prog (oLoad 137 x79) w20 fun x80 =>
 (pN Tryz.prog (oCall 148 [x16]) w20 fun x82 w21 =>
 ((Sem.run Tryz.prog (oLoad 137 x79) w21 = .ok (.value x80) w21) ∧ (Sem.run Tryz.prog (oLoad 123 x76) w21 = .ok (.value x77) w21) ∧ True) ∧ (pN Tryz.prog (oFn (.method "pith/lzenc.back") [x1] []) w21 fun x85 w22 =>
 ((Sem.run Tryz.prog (oLoad 137 x79) w22 = .ok (.value x80) w22) ∧ (Sem.run Tryz.prog (oLoad 123 x76) w22 = .ok (.value x77) w22) ∧ True) ∧ (pA Tryz.prog (oNil x85) fun _ =>
 pN Tryz.prog (oInv x1 "pith/lzenc.back" [x80, x82, x22, x45]) w22 fun _ w23 =>
 (True) ∧ (Q (.tuple #[]) w23)))) ∧ (pN Tryz.prog (oFn (.method "pith/lzenc.back") [x1] []) w20 fun x85 w24 =>
 ((Sem.run Tryz.prog (oLoad 137 x79) w24 = .ok (.value x80) w24) ∧ (Sem.run Tryz.prog (oLoad 123 x76) w24 = .ok (.value x77) w24) ∧ True) ∧ (pA Tryz.prog (oNil x85) fun _ =>
 pN Tryz.prog (oCall 148 [x16]) w24 fun x82 w25 =>
 ((Sem.run Tryz.prog (oLoad 137 x79) w25 = .ok (.value x80) w25) ∧ (Sem.run Tryz.prog (oLoad 123 x76) w25 = .ok (.value x77) w25) ∧ True) ∧ (pN Tryz.prog (oInv x1 "pith/lzenc.back" [x80, x82, x22, x45]) w25 fun _ w26 =>
 (True) ∧ (Q (.tuple #[]) w26)))))
 (pN Tryz.prog (oBin .shr 3 (.tmp 47) (.const (.int .u64 4)) x45 (.int .u64 4)) w19 fun x48 w27 =>
 pN Tryz.prog (oBin .sub 3 (.tmp 49) (.const (.int .i64 4)) x22 (.int .i64 4)) w27 fun x50 w28 =>
 pN Tryz.prog (oInv x1 "pith/lzenc.direct" [x48, x50]) w28 fun _ w29 =>
 pDr w29 fun w30 =>
 pA Tryz.prog (oNil x0) fun x54 =>
 pA Tryz.prog (oFld 128 x54 0) fun x55 =>
 pL Tryz.prog (oLoad 123 x55) w30 fun x56 =>
 pA Tryz.prog (oNil x56) fun x57 =>
 pA Tryz.prog (oFld 141 x57 13) fun x58 =>
 pL Tryz.prog (oLoad 137 x58) w30 fun x59 =>
 pA Tryz.prog (oBin .and 3 (.tmp 60) (.const (.int .i64 15)) x45 (.int .i64 15)) fun x61 =>
 pN Tryz.prog (oFn (.method "pith/lzenc.back") [x1] []) w30 fun x62 w31 =>
 ((Sem.run Tryz.prog (oLoad 137 x58) w31 = .ok (.value x59) w31) ∧ (Sem.run Tryz.prog (oLoad 123 x55) w31 = .ok (.value x56) w31) ∧ True) ∧ (pA Tryz.prog (oNil x62) fun _ =>
 pN Tryz.prog (oInv x1 "pith/lzenc.back" [x59, (.int .i64 0), (.int .i64 4), x61]) w31 fun _ w32 =>
 (True) ∧ (Q (.tuple #[]) w32))))))
theorem lzenc_Encoder_distance.calls [Pan] {x0 x1 x2 : Value} {w : World} {Q : Value → World → Prop} (h : lzenc_Encoder_distance.F x0 x1 x2 w Q) : Calls Tryz.prog 106 #[x0, x1, x2] w (retP Q) := calls_lift mixed lzenc_Encoder_distance.H [x0, x1, x2] Tryz.func106 (by kernel_rfl) (by kernel_rfl) h

def lzenc_coding_back.F [Pan] (x0 x1 x2 x3 x4 : Value) (w : World) (Q : Value → World → Prop) : Prop :=
 pN Tryz.prog (oBox 136 x0) w fun x5 w1 =>
 pN Tryz.prog (oFld 136 x5 0) w1 fun x10 w2 =>
 pN Tryz.prog (oLoad 125 x10) w2 fun x11 w3 =>
 pN Tryz.prog (oCall 245 [x11, x1, x2, x3, x4]) w3 fun _ w4 =>
 Q (.tuple #[]) w4
theorem lzenc_coding_back.calls [Pan] {x0 x1 x2 x3 x4 : Value} {w : World} {Q : Value → World → Prop} (h : lzenc_coding_back.F x0 x1 x2 x3 x4 w Q) : Calls Tryz.prog 241 #[x0, x1, x2, x3, x4] w (retP Q) := calls_lift mixed .z [x0, x1, x2, x3, x4] Tryz.func241 (by kernel_rfl) (by kernel_rfl) h

def lzenc_coding_bit.F [Pan] (x0 x1 x2 x3 : Value) (w : World) (Q : Value → World → Prop) : Prop :=
 pN Tryz.prog (oBox 136 x0) w fun x4 w1 =>
 pN Tryz.prog (oFld 136 x4 0) w1 fun x8 w2 =>
 pN Tryz.prog (oLoad 125 x8) w2 fun x9 w3 =>
 pN Tryz.prog (oCall 246 [x9, x1, x2, x3]) w3 fun _ w4 =>
 Q (.tuple #[]) w4
theorem lzenc_coding_bit.calls [Pan] {x0 x1 x2 x3 : Value} {w : World} {Q : Value → World → Prop} (h : lzenc_coding_bit.F x0 x1 x2 x3 w Q) : Calls Tryz.prog 242 #[x0, x1, x2, x3] w (retP Q) := calls_lift mixed .z [x0, x1, x2, x3] Tryz.func242 (by kernel_rfl) (by kernel_rfl) h

def lzenc_coding_direct.F [Pan] (x0 x1 x2 : Value) (w : World) (Q : Value → World → Prop) : Prop :=
 pN Tryz.prog (oBox 136 x0) w fun x3 w1 =>
 pN Tryz.prog (oFld 136 x3 0) w1 fun x6 w2 =>
 pN Tryz.prog (oLoad 125 x6) w2 fun x7 w3 =>
 pN Tryz.prog (oConv 3 148 x1) w3 fun x9 w4 =>
 pN Tryz.prog (oCall 247 [x7, x9, x2]) w4 fun _ w5 =>
 Q (.tuple #[]) w5
theorem lzenc_coding_direct.calls [Pan] {x0 x1 x2 : Value} {w : World} {Q : Value → World → Prop} (h : lzenc_coding_direct.F x0 x1 x2 w Q) : Calls Tryz.prog 243 #[x0, x1, x2] w (retP Q) := calls_lift mixed .z [x0, x1, x2] Tryz.func243 (by kernel_rfl) (by kernel_rfl) h

def lzenc_coding_tree.F [Pan] (x0 x1 x2 x3 x4 : Value) (w : World) (Q : Value → World → Prop) : Prop :=
 pN Tryz.prog (oBox 136 x0) w fun x5 w1 =>
 pN Tryz.prog (oFld 136 x5 0) w1 fun x10 w2 =>
 pN Tryz.prog (oLoad 125 x10) w2 fun x11 w3 =>
 pN Tryz.prog (oCall 248 [x11, x1, x2, x3, x4]) w3 fun _ w4 =>
 Q (.tuple #[]) w4
theorem lzenc_coding_tree.calls [Pan] {x0 x1 x2 x3 x4 : Value} {w : World} {Q : Value → World → Prop} (h : lzenc_coding_tree.F x0 x1 x2 x3 x4 w Q) : Calls Tryz.prog 244 #[x0, x1, x2, x3, x4] w (retP Q) := calls_lift mixed .z [x0, x1, x2, x3, x4] Tryz.func244 (by kernel_rfl) (by kernel_rfl) h

def lzenc_costing_back.F [Pan] (x0 x1 x2 x3 x4 : Value) (w : World) (Q : Value → World → Prop) : Prop :=
 pN Tryz.prog (oCall 257 [x1, x2, x3, x4]) w fun x17 w1 =>
 pN Tryz.prog (oExt x17 0) w1 fun x18 w2 =>
 pN Tryz.prog (oExt x17 1) w2 fun _ w3 =>
 pN Tryz.prog (oNil x0) w3 fun x21 w4 =>
 pN Tryz.prog (oFld 155 x21 0) w4 fun x22 w5 =>
 pN Tryz.prog (oLoad 3 x22) w5 fun x23 w6 =>
 pN Tryz.prog (oBin .add 3 (.tmp 23) (.tmp 24) x23 x18) w6 fun x25 w7 =>
 pN Tryz.prog (oNil x0) w7 fun x26 w8 =>
 pN Tryz.prog (oFld 155 x26 0) w8 fun x27 w9 =>
 pN Tryz.prog (oStore 3 x27 x25) w9 fun _ w10 =>
 Q (.tuple #[]) w10
theorem lzenc_costing_back.calls [Pan] {x0 x1 x2 x3 x4 : Value} {w : World} {Q : Value → World → Prop} (h : lzenc_costing_back.F x0 x1 x2 x3 x4 w Q) : Calls Tryz.prog 253 #[x0, x1, x2, x3, x4] w (retP Q) := calls_lift mixed .z [x0, x1, x2, x3, x4] Tryz.func253 (by kernel_rfl) (by kernel_rfl) h

def lzenc_costing_bit.H : Hints := { cut := fun  | _ => none, loop := fun  | _ => ([], 0), order := fun | 1 => [(0, 0), (1, 1), (2, 3), (3, 7), (4, 15), (5, 31), (6, 63), (7, 127), (8, 255), (9, 511), (10, 1023)] | _ => [] }
def lzenc_costing_bit.F [Pan] (x0 x1 x2 x3 : Value) (w : World) (Q : Value → World → Prop) : Prop :=
 pN Tryz.prog (oCall 179 [x1, x2]) w fun x13 w1 =>
 pN Tryz.prog (oExt x13 0) w1 fun x14 w2 =>
 pN Tryz.prog (oExt x13 1) w2 fun _ w3 =>
 pDr w3 fun w4 =>
 pA Tryz.prog (oNil x0) fun x17 =>
 pA Tryz.prog (oFld 155 x17 0) fun x18 =>
 pL Tryz.prog (oLoad 3 x18) w4 fun x19 =>
 pN Tryz.prog (oCall 258 [x14, x3]) w4 fun x22 w5 =>
 ((Sem.run Tryz.prog (oLoad 3 x18) w5 = .ok (.value x19) w5) ∧ True) ∧ (pA Tryz.prog (oBin .add 3 (.tmp 19) (.tmp 22) x19 x22) fun x23 =>
 pA Tryz.prog (oNil x0) fun x24 =>
 pA Tryz.prog (oFld 155 x24 0) fun x25 =>
 pN Tryz.prog (oStore 3 x25 x23) w5 fun _ w6 =>
 (True) ∧ (Q (.tuple #[]) w6))
theorem lzenc_costing_bit.calls [Pan] {x0 x1 x2 x3 : Value} {w : World} {Q : Value → World → Prop} (h : lzenc_costing_bit.F x0 x1 x2 x3 w Q) : Calls Tryz.prog 254 #[x0, x1, x2, x3] w (retP Q) := calls_lift mixed lzenc_costing_bit.H [x0, x1, x2, x3] Tryz.func254 (by kernel_rfl) (by kernel_rfl) h

def lzenc_costing_direct.F [Pan] (x0 x1 x2 : Value) (w : World) (Q : Value → World → Prop) : Prop :=
 pN Tryz.prog (oNil x0) w fun x7 w1 =>
 pN Tryz.prog (oFld 155 x7 0) w1 fun x8 w2 =>
 pN Tryz.prog (oLoad 3 x8) w2 fun x9 w3 =>
 pN Tryz.prog (oBin .mul 3 (.const (.int .i64 16)) (.tmp 10) (.int .i64 16) x2) w3 fun x11 w4 =>
 pN Tryz.prog (oBin .add 3 (.tmp 9) (.tmp 11) x9 x11) w4 fun x12 w5 =>
 pN Tryz.prog (oNil x0) w5 fun x13 w6 =>
 pN Tryz.prog (oFld 155 x13 0) w6 fun x14 w7 =>
 pN Tryz.prog (oStore 3 x14 x12) w7 fun _ w8 =>
 Q (.tuple #[]) w8
theorem lzenc_costing_direct.calls [Pan] {x0 x1 x2 : Value} {w : World} {Q : Value → World → Prop} (h : lzenc_costing_direct.F x0 x1 x2 w Q) : Calls Tryz.prog 255 #[x0, x1, x2] w (retP Q) := calls_lift mixed .z [x0, x1, x2] Tryz.func255 (by kernel_rfl) (by kernel_rfl) h

def lzenc_costing_tree.F [Pan] (x0 x1 x2 x3 x4 : Value) (w : World) (Q : Value → World → Prop) : Prop :=
 pN Tryz.prog (oCall 259 [x1, x2, x3, x4]) w fun x17 w1 =>
 pN Tryz.prog (oExt x17 0) w1 fun x18 w2 =>
 pN Tryz.prog (oExt x17 1) w2 fun _ w3 =>
 pN Tryz.prog (oNil x0) w3 fun x21 w4 =>
 pN Tryz.prog (oFld 155 x21 0) w4 fun x22 w5 =>
 pN Tryz.prog (oLoad 3 x22) w5 fun x23 w6 =>
 pN Tryz.prog (oBin .add 3 (.tmp 23) (.tmp 24) x23 x18) w6 fun x25 w7 =>
 pN Tryz.prog (oNil x0) w7 fun x26 w8 =>
 pN Tryz.prog (oFld 155 x26 0) w8 fun x27 w9 =>
 pN Tryz.prog (oStore 3 x27 x25) w9 fun _ w10 =>
 Q (.tuple #[]) w10
theorem lzenc_costing_tree.calls [Pan] {x0 x1 x2 x3 x4 : Value} {w : World} {Q : Value → World → Prop} (h : lzenc_costing_tree.F x0 x1 x2 x3 x4 w Q) : Calls Tryz.prog 256 #[x0, x1, x2, x3, x4] w (retP Q) := calls_lift mixed .z [x0, x1, x2, x3, x4] Tryz.func256 (by kernel_rfl) (by kernel_rfl) h

end Go.Proofs.YtbgnnjfpiblkmaaGreatDoor

namespace Go.Proofs.YtbgnnjfpiblkmaaGreatDoor
open Go
set_option maxRecDepth 100000

def tree_there.H : Hints := { cut := fun  | _ => none, loop := fun  | _ => ([], 0), order := fun | 1 => [(0, 0), (1, 1), (2, 3), (3, 7), (4, 15), (5, 31), (6, 63), (7, 127), (8, 255), (9, 511), (10, 1023), (11, 2047), (12, 4095), (13, 8191), (14, 16383), (15, 32767), (16, 65535), (17, 131071), (18, 262143), (19, 524287), (21, 1048575), (20, 3145727), (22, 4194303), (23, 8388607), (24, 16777215), (25, 33554431)] | _ => [] }
def tree_there.F [Pan] (x0 x1 x2 : Value) (w : World) (Q : Value → World → Prop) : Prop :=
 pDr w fun w1 =>
 pA Tryz.prog (oBin .geq 3 (.tmp 7) (.const (.int .i64 0)) x2 (.int .i64 0)) fun x8 =>
 gA (gB x8 true) (pA Tryz.prog (oMv x2)) fun x10 =>
 gA (gB x8 true) (pA Tryz.prog (oBin .leq 3 (.tmp 10) (.const (.int .i64 16)) x10 (.int .i64 16))) fun x11 =>
 pA Tryz.prog (oPick x8 x11 (.bool false)) fun x12 =>
 gA (gB x12 true) (pA Tryz.prog (oMv x1)) fun x14 =>
 gA (gB x12 true) (pA Tryz.prog (oBin .geq 3 (.tmp 14) (.const (.int .i64 0)) x14 (.int .i64 0))) fun x15 =>
 pA Tryz.prog (oPick x12 x15 (.bool false)) fun x16 =>
 gA (gB x16 true) (pA Tryz.prog (oMv x1)) fun x18 =>
 gA (gB x16 true) (pA Tryz.prog (oMv x0)) fun x19 =>
 pGd (gB x16 true) (pN Tryz.prog (oCall 225 [x19]) w1) w1 fun x20 w2 =>
 (True) ∧ (gA (gB x16 true) (pA Tryz.prog (oBin .leq 3 (.tmp 18) (.tmp 20) x18 x20)) fun x21 =>
 pA Tryz.prog (oPick x16 x21 (.bool false)) fun x22 =>
 gA (gB x22 true) (pA Tryz.prog (oMv x2)) fun x24 =>
 gA (gB x22 true) (pA Tryz.prog (oBin .shl 3 (.const (.int .i64 1)) (.tmp 24) (.int .i64 1) x24)) fun x25 =>
 gA (gB x22 true) (pA Tryz.prog (oMv x0)) fun x26 =>
 gA (gB x22 true) (pA Tryz.prog (oMv x1)) fun x28 =>
 pGd (gB x22 true) (pN Tryz.prog (oCall 225 [x26]) w2) w2 fun x27 w3 =>
 (True) ∧ (gA (gB x22 true) (pA Tryz.prog (oBin .sub 3 (.tmp 27) (.tmp 28) x27 x28)) fun x29 =>
 gA (gB x22 true) (pA Tryz.prog (oBin .leq 3 (.tmp 25) (.tmp 29) x25 x29)) fun x30 =>
 pA Tryz.prog (oPick x22 x30 (.bool false)) fun x31 =>
 Q x31 w3))
theorem tree_there.calls [Pan] {x0 x1 x2 : Value} {w : World} {Q : Value → World → Prop} (h : tree_there.F x0 x1 x2 w Q) : Calls Tryz.prog 219 #[x0, x1, x2] w (retP Q) := calls_lift mixed tree_there.H [x0, x1, x2] Tryz.func219 (by kernel_rfl) (by kernel_rfl) h

def tree_down.H : Hints := { cut := fun  | _ => none, loop := fun | 3 => ([7, 12], 4294965184) | _ => ([], 0), order := fun  | _ => [] }
def tree_down.F [Pan] (x0 x1 x2 : Value) (w : World) (Q : Value → World → Prop) : Prop :=
 ∃ (L3 : Value → Value → World → Prop) (m3 : Value → Value → World → Nat),
 L3 (.int .i64 1) (.int .i64 0) w ∧
 ∀ (_k3 : Env) (m7l3 : Value) (v12l3 : Value) (w1 : World), L3 m7l3 v12l3 w1 →
 pN Tryz.prog (oBin .lss 3 (.tmp 12) (.tmp 11) v12l3 x1) w1 fun x13 w2 =>
 pIf x13
 (pN Tryz.prog (oBin .add 3 (.tmp 17) (.tmp 18) x0 m7l3) w2 fun x19 w3 =>
 pN Tryz.prog (oCallV x2 [x19, v12l3]) w3 fun x21 w4 =>
 pN Tryz.prog (oExt x21 0) w4 fun x22 w5 =>
 pN Tryz.prog (oExt x21 1) w5 fun x23 w6 =>
 pN Tryz.prog (oBin .neq 38 (.tmp 24) (.const (.int .i64 0)) x23 (.int .i64 0)) w6 fun x25 w7 =>
 pIf x25
 (Q x23 w7)
 (pN Tryz.prog (oBin .mul 3 (.const (.int .i64 2)) (.tmp 27) (.int .i64 2) m7l3) w7 fun x28 w8 =>
 pN Tryz.prog (oBin .add 3 (.tmp 28) (.tmp 29) x28 x22) w8 fun x30 w9 =>
 pN Tryz.prog (oBin .add 3 (.tmp 12) (.const (.int .i64 1)) v12l3 (.int .i64 1)) w9 fun x31 w10 =>
 (L3 x30 x31 w10 ∧ m3 x30 x31 w10 < m3 m7l3 v12l3 w1)))
 (Q (.int .i64 0) w2)
theorem tree_down.calls [Pan] {x0 x1 x2 : Value} {w : World} {Q : Value → World → Prop} (h : tree_down.F x0 x1 x2 w Q) : Calls Tryz.prog 220 #[x0, x1, x2] w (retP Q) := calls_lift mixed tree_down.H [x0, x1, x2] Tryz.func220 (by kernel_rfl) (by kernel_rfl) h

def tree_order.F [Pan] (x0 x1 x2 : Value) (w : World) (Q : Value → World → Prop) : Prop :=
 pIf x0
 (Q x2 w)
 (pN Tryz.prog (oBin .sub 3 (.tmp 9) (.const (.int .i64 1)) x1 (.int .i64 1)) w fun x10 w1 =>
 pN Tryz.prog (oBin .sub 3 (.tmp 10) (.tmp 11) x10 x2) w1 fun x12 w2 =>
 Q x12 w2)
theorem tree_order.calls [Pan] {x0 x1 x2 : Value} {w : World} {Q : Value → World → Prop} (h : tree_order.F x0 x1 x2 w Q) : Calls Tryz.prog 222 #[x0, x1, x2] w (retP Q) := calls_lift mixed .z [x0, x1, x2] Tryz.func222 (by kernel_rfl) (by kernel_rfl) h

def tree_PutBack.F [Pan] (x0 x1 x2 x3 x4 : Value) (w : World) (Q : Value → World → Prop) : Prop :=
 pN Tryz.prog (oCall 249 [x0, x1, x2, x3, x4, (.bool true)]) w fun x16 w1 =>
 Q x16 w1
theorem tree_PutBack.calls [Pan] {x0 x1 x2 x3 x4 : Value} {w : World} {Q : Value → World → Prop} (h : tree_PutBack.F x0 x1 x2 x3 x4 w Q) : Calls Tryz.prog 245 #[x0, x1, x2, x3, x4] w (retP Q) := calls_lift mixed .z [x0, x1, x2, x3, x4] Tryz.func245 (by kernel_rfl) (by kernel_rfl) h

def tree_Put.F [Pan] (x0 x1 x2 x3 x4 : Value) (w : World) (Q : Value → World → Prop) : Prop :=
 pN Tryz.prog (oCall 249 [x0, x1, x2, x3, x4, (.bool false)]) w fun x16 w1 =>
 Q x16 w1
theorem tree_Put.calls [Pan] {x0 x1 x2 x3 x4 : Value} {w : World} {Q : Value → World → Prop} (h : tree_Put.F x0 x1 x2 x3 x4 w Q) : Calls Tryz.prog 248 #[x0, x1, x2, x3, x4] w (retP Q) := calls_lift mixed .z [x0, x1, x2, x3, x4] Tryz.func248 (by kernel_rfl) (by kernel_rfl) h

def tree_put.F [Pan] (x0 x1 x2 x3 x4 x5 : Value) (w : World) (Q : Value → World → Prop) : Prop :=
 pN Tryz.prog (oBox 125 x0) w fun x6 w1 =>
 pN Tryz.prog (oBox 137 x1) w1 fun x7 w2 =>
 pN Tryz.prog (oBox 3 x3) w2 fun x9 w3 =>
 pN Tryz.prog (oBox 3 x4) w3 fun x10 w4 =>
 pN Tryz.prog (oBox 4 x5) w4 fun x11 w5 =>
 pN Tryz.prog (oLoad 137 x7) w5 fun x13 w6 =>
 pN Tryz.prog (oLoad 3 x9) w6 fun x15 w7 =>
 pN Tryz.prog (oCall 219 [x13, x2, x15]) w7 fun x16 w8 =>
 pN Tryz.prog (oUn .not x16) w8 fun x17 w9 =>
 pGd (gB x17 false) (pN Tryz.prog (oLoad 3 x10) w9) w9 fun x19 w10 =>
 pGd (gB x17 false) (pN Tryz.prog (oLoad 3 x9) w10) w10 fun x20 w11 =>
 pGd (gB x17 false) (pN Tryz.prog (oCall 251 [x19, x20]) w11) w11 fun x21 w12 =>
 pGd (gB x17 false) (pN Tryz.prog (oUn .not x21) w12) w12 fun x22 w13 =>
 pN Tryz.prog (oPick x17 (.bool true) x22) w13 fun x23 w14 =>
 pIf x23
 (Q (.int .i64 7) w14)
 (pN Tryz.prog (oLoad 3 x9) w14 fun x25 w15 =>
 pN Tryz.prog (oFn (.func 252) [] [x10, x11, x9, x6, x7]) w15 fun x26 w16 =>
 pN Tryz.prog (oCall 220 [x2, x25, x26]) w16 fun x27 w17 =>
 Q x27 w17)
theorem tree_put.calls [Pan] {x0 x1 x2 x3 x4 x5 : Value} {w : World} {Q : Value → World → Prop} (h : tree_put.F x0 x1 x2 x3 x4 x5 w Q) : Calls Tryz.prog 249 #[x0, x1, x2, x3, x4, x5] w (retP Q) := calls_lift mixed .z [x0, x1, x2, x3, x4, x5] Tryz.func249 (by kernel_rfl) (by kernel_rfl) h

def tree_holds.F [Pan] (x0 x1 : Value) (w : World) (Q : Value → World → Prop) : Prop :=
 pN Tryz.prog (oBin .geq 3 (.tmp 5) (.const (.int .i64 0)) x0 (.int .i64 0)) w fun x6 w1 =>
 pGd (gB x6 true) (pN Tryz.prog (oMv x0) w1) w1 fun x8 w2 =>
 pGd (gB x6 true) (pN Tryz.prog (oMv x1) w2) w2 fun x9 w3 =>
 pGd (gB x6 true) (pN Tryz.prog (oBin .shl 3 (.const (.int .i64 1)) (.tmp 9) (.int .i64 1) x9) w3) w3 fun x10 w4 =>
 pGd (gB x6 true) (pN Tryz.prog (oBin .lss 3 (.tmp 8) (.tmp 10) x8 x10) w4) w4 fun x11 w5 =>
 pN Tryz.prog (oPick x6 x11 (.bool false)) w5 fun x12 w6 =>
 Q x12 w6
theorem tree_holds.calls [Pan] {x0 x1 : Value} {w : World} {Q : Value → World → Prop} (h : tree_holds.F x0 x1 w Q) : Calls Tryz.prog 251 #[x0, x1] w (retP Q) := calls_lift mixed .z [x0, x1] Tryz.func251 (by kernel_rfl) (by kernel_rfl) h

def tree_put_c1.H : Hints := { cut := fun  | _ => none, loop := fun  | _ => ([], 0), order := fun | 1 => [(0, 0), (1, 1), (2, 3), (3, 7), (4, 15), (5, 31), (6, 63), (7, 127)] | _ => [] }
def tree_put_c1.F [Pan] (x0 x1 x2 x3 x4 x5 x6 : Value) (w : World) (Q : Value → World → Prop) : Prop :=
 pDr w fun w1 =>
 pL Tryz.prog (oLoad 3 x2) w1 fun x12 =>
 pL Tryz.prog (oLoad 4 x3) w1 fun x13 =>
 pL Tryz.prog (oLoad 3 x4) w1 fun x14 =>
 pN Tryz.prog (oCall 222 [x13, x14, x1]) w1 fun x16 w2 =>
 ((Sem.run Tryz.prog (oLoad 3 x2) w2 = .ok (.value x12) w2) ∧ True) ∧ (pA Tryz.prog (oBin .shr 3 (.tmp 12) (.tmp 16) x12 x16) fun x17 =>
 pA Tryz.prog (oBin .and 3 (.tmp 17) (.const (.int .i64 1)) x17 (.int .i64 1)) fun x18 =>
 pN Tryz.prog (oLoad 125 x5) w2 fun x20 w3 =>
 pN Tryz.prog (oLoad 137 x6) w3 fun x21 w4 =>
 pN Tryz.prog (oCall 246 [x20, x21, x0, x18]) w4 fun x24 w5 =>
 Q (.tuple #[x18, x24]) w5)
theorem tree_put_c1.calls [Pan] {x0 x1 x2 x3 x4 x5 x6 : Value} {w : World} {Q : Value → World → Prop} (h : tree_put_c1.F x0 x1 x2 x3 x4 x5 x6 w Q) : Calls Tryz.prog 252 #[x0, x1, x2, x3, x4, x5, x6] w (retP Q) := calls_lift mixed tree_put_c1.H [x0, x1, x2, x3, x4, x5, x6] Tryz.func252 (by kernel_rfl) (by kernel_rfl) h

def tree_CostBack.F [Pan] (x0 x1 x2 x3 : Value) (w : World) (Q : Value → World → Prop) : Prop :=
 pN Tryz.prog (oCall 260 [x0, x1, x2, x3, (.bool true)]) w fun x14 w1 =>
 pN Tryz.prog (oExt x14 0) w1 fun x15 w2 =>
 pN Tryz.prog (oExt x14 1) w2 fun x16 w3 =>
 Q (.tuple #[x15, x16]) w3
theorem tree_CostBack.calls [Pan] {x0 x1 x2 x3 : Value} {w : World} {Q : Value → World → Prop} (h : tree_CostBack.F x0 x1 x2 x3 w Q) : Calls Tryz.prog 257 #[x0, x1, x2, x3] w (retP Q) := calls_lift mixed .z [x0, x1, x2, x3] Tryz.func257 (by kernel_rfl) (by kernel_rfl) h

def tree_Cost.F [Pan] (x0 x1 x2 x3 : Value) (w : World) (Q : Value → World → Prop) : Prop :=
 pN Tryz.prog (oCall 260 [x0, x1, x2, x3, (.bool false)]) w fun x14 w1 =>
 pN Tryz.prog (oExt x14 0) w1 fun x15 w2 =>
 pN Tryz.prog (oExt x14 1) w2 fun x16 w3 =>
 Q (.tuple #[x15, x16]) w3
theorem tree_Cost.calls [Pan] {x0 x1 x2 x3 : Value} {w : World} {Q : Value → World → Prop} (h : tree_Cost.F x0 x1 x2 x3 w Q) : Calls Tryz.prog 259 #[x0, x1, x2, x3] w (retP Q) := calls_lift mixed .z [x0, x1, x2, x3] Tryz.func259 (by kernel_rfl) (by kernel_rfl) h

def tree_cost.F [Pan] (x0 x1 x2 x3 x4 : Value) (w : World) (Q : Value → World → Prop) : Prop :=
 pN Tryz.prog (oBox 137 x0) w fun x5 w1 =>
 pN Tryz.prog (oBox 3 x2) w1 fun x7 w2 =>
 pN Tryz.prog (oBox 3 x3) w2 fun x8 w3 =>
 pN Tryz.prog (oBox 4 x4) w3 fun x9 w4 =>
 pN Tryz.prog (oLoad 137 x5) w4 fun x14 w5 =>
 pN Tryz.prog (oLoad 3 x7) w5 fun x16 w6 =>
 pN Tryz.prog (oCall 219 [x14, x1, x16]) w6 fun x17 w7 =>
 pN Tryz.prog (oUn .not x17) w7 fun x18 w8 =>
 pGd (gB x18 false) (pN Tryz.prog (oLoad 3 x8) w8) w8 fun x20 w9 =>
 pGd (gB x18 false) (pN Tryz.prog (oLoad 3 x7) w9) w9 fun x21 w10 =>
 pGd (gB x18 false) (pN Tryz.prog (oCall 251 [x20, x21]) w10) w10 fun x22 w11 =>
 pGd (gB x18 false) (pN Tryz.prog (oUn .not x22) w11) w11 fun x23 w12 =>
 pN Tryz.prog (oPick x18 (.bool true) x23) w12 fun x24 w13 =>
 pIf x24
 (Q (.tuple #[(.int .i64 0), (.int .i64 7)]) w13)
 (pN Tryz.prog (oAlloc 3) w13 fun x12 w14 =>
 pN Tryz.prog (oStore 3 x12 (.int .i64 0)) w14 fun _ w15 =>
 pN Tryz.prog (oLoad 3 x7) w15 fun x26 w16 =>
 pN Tryz.prog (oFn (.func 262) [] [x8, x9, x7, x5, x12]) w16 fun x27 w17 =>
 pN Tryz.prog (oCall 220 [x1, x26, x27]) w17 fun x28 w18 =>
 pN Tryz.prog (oLoad 3 x12) w18 fun x29 w19 =>
 Q (.tuple #[x29, x28]) w19)
theorem tree_cost.calls [Pan] {x0 x1 x2 x3 x4 : Value} {w : World} {Q : Value → World → Prop} (h : tree_cost.F x0 x1 x2 x3 x4 w Q) : Calls Tryz.prog 260 #[x0, x1, x2, x3, x4] w (retP Q) := calls_lift mixed .z [x0, x1, x2, x3, x4] Tryz.func260 (by kernel_rfl) (by kernel_rfl) h

def tree_cost_c1.H : Hints := { cut := fun  | _ => none, loop := fun  | _ => ([], 0), order := fun | 1 => [(0, 0), (1, 1), (2, 3), (3, 7), (4, 15), (5, 31), (6, 63), (7, 127)] | 3 => [(0, 0), (1, 1), (2, 3), (3, 7), (4, 15), (5, 31)] | _ => [] }
def tree_cost_c1.F [Pan] (x0 x1 x2 x3 x4 x5 x6 : Value) (w : World) (Q : Value → World → Prop) : Prop :=
 pDr w fun w1 =>
 pL Tryz.prog (oLoad 3 x2) w1 fun x14 =>
 pL Tryz.prog (oLoad 4 x3) w1 fun x15 =>
 pL Tryz.prog (oLoad 3 x4) w1 fun x16 =>
 pN Tryz.prog (oCall 222 [x15, x16, x1]) w1 fun x18 w2 =>
 ((Sem.run Tryz.prog (oLoad 3 x2) w2 = .ok (.value x14) w2) ∧ True) ∧ (pA Tryz.prog (oBin .shr 3 (.tmp 14) (.tmp 18) x14 x18) fun x19 =>
 pA Tryz.prog (oBin .and 3 (.tmp 19) (.const (.int .i64 1)) x19 (.int .i64 1)) fun x20 =>
 pN Tryz.prog (oLoad 137 x5) w2 fun x22 w3 =>
 pN Tryz.prog (oCall 179 [x22, x0]) w3 fun x24 w4 =>
 pN Tryz.prog (oExt x24 0) w4 fun x25 w5 =>
 pN Tryz.prog (oExt x24 1) w5 fun x26 w6 =>
 pDr w6 fun w7 =>
 pL Tryz.prog (oLoad 3 x6) w7 fun x27 =>
 pN Tryz.prog (oCall 258 [x25, x20]) w7 fun x30 w8 =>
 ((Sem.run Tryz.prog (oLoad 3 x6) w8 = .ok (.value x27) w8) ∧ True) ∧ (pA Tryz.prog (oBin .add 3 (.tmp 27) (.tmp 30) x27 x30) fun x31 =>
 pN Tryz.prog (oStore 3 x6 x31) w8 fun _ w9 =>
 (True) ∧ (Q (.tuple #[x20, x26]) w9)))
theorem tree_cost_c1.calls [Pan] {x0 x1 x2 x3 x4 x5 x6 : Value} {w : World} {Q : Value → World → Prop} (h : tree_cost_c1.F x0 x1 x2 x3 x4 x5 x6 w Q) : Calls Tryz.prog 262 #[x0, x1, x2, x3, x4, x5, x6] w (retP Q) := calls_lift mixed tree_cost_c1.H [x0, x1, x2, x3, x4, x5, x6] Tryz.func262 (by kernel_rfl) (by kernel_rfl) h

end Go.Proofs.YtbgnnjfpiblkmaaGreatDoor

namespace Go.Proofs.YtbgnnjfpiblkmaaGreatDoor
open Go
set_option maxRecDepth 100000

def rcenc_New.F [Pan]  (w : World) (Q : Value → World → Prop) : Prop :=
 pN Tryz.prog (oBuild 190 [(1, (.int .u32 4294967295))]) w fun x1 w1 =>
 pN Tryz.prog (oBox 190 x1) w1 fun x2 w2 =>
 Q x2 w2
theorem rcenc_New.calls [Pan]  {w : World} {Q : Value → World → Prop} (h : rcenc_New.F  w Q) : Calls Tryz.prog 62 #[] w (retP Q) := calls_lift mixed .z [] Tryz.func62 (by kernel_rfl) (by kernel_rfl) h

def rcenc_Encoder_Bytes.H : Hints := { cut := fun  | _ => none, loop := fun | 3 => ([6], 1984) | _ => ([], 0), order := fun  | _ => [] }
def rcenc_Encoder_Bytes.F [Pan] (x0 : Value) (w : World) (Q : Value → World → Prop) : Prop :=
 pN Tryz.prog (oCall 82 [x0]) w fun x5 w1 =>
 ∃ (L3 : Value → World → Prop) (m3 : Value → World → Nat),
 L3 (.int .i64 0) w1 ∧
 ∀ (_k3 : Env) (v6l3 : Value) (w2 : World), L3 v6l3 w2 →
 pN Tryz.prog (oBin .lss 3 (.tmp 6) (.const (.int .i64 5)) v6l3 (.int .i64 5)) w2 fun x7 w3 =>
 pIf x7
 (pN Tryz.prog (oCall 125 [x5]) w3 fun _ w4 =>
 pN Tryz.prog (oBin .add 3 (.tmp 6) (.const (.int .i64 1)) v6l3 (.int .i64 1)) w4 fun x10 w5 =>
 (L3 x10 w5 ∧ m3 x10 w5 < m3 v6l3 w2))
 (pN Tryz.prog (oNil x5) w3 fun x12 w6 =>
 pN Tryz.prog (oFld 190 x12 4) w6 fun x13 w7 =>
 pN Tryz.prog (oLoad 30 x13) w7 fun x14 w8 =>
 Q x14 w8)
theorem rcenc_Encoder_Bytes.calls [Pan] {x0 : Value} {w : World} {Q : Value → World → Prop} (h : rcenc_Encoder_Bytes.F x0 w Q) : Calls Tryz.prog 76 #[x0] w (retP Q) := calls_lift mixed rcenc_Encoder_Bytes.H [x0] Tryz.func76 (by kernel_rfl) (by kernel_rfl) h

def rcenc_Encoder_Fork.H : Hints := { cut := fun  | _ => none, loop := fun  | _ => ([], 0), order := fun | 2 => [(0, 0), (1, 1), (2, 3), (3, 7), (4, 15), (5, 31), (6, 63), (7, 127), (8, 255), (9, 511), (10, 1023), (12, 2047), (13, 6143), (14, 14335), (15, 30719), (11, 63487), (16, 65535), (17, 131071), (18, 262143)] | _ => [] }
def rcenc_Encoder_Fork.F [Pan] (x0 : Value) (w : World) (Q : Value → World → Prop) : Prop :=
 pN Tryz.prog (oNil x0) w fun x5 w1 =>
 pN Tryz.prog (oLoad 190 x5) w1 fun x6 w2 =>
 pN Tryz.prog (oAlloc 190) w2 fun x3 w3 =>
 pN Tryz.prog (oStore 190 x3 x6) w3 fun _ w4 =>
 pDr w4 fun w5 =>
 pA Tryz.prog (oNil x0) fun x8 =>
 pA Tryz.prog (oFld 190 x8 4) fun x9 =>
 pL Tryz.prog (oLoad 30 x9) w5 fun x10 =>
 pA Tryz.prog (oBi .len #[30] 3 [false] [x10]) fun x11 =>
 pA Tryz.prog (oNil x0) fun x13 =>
 pA Tryz.prog (oFld 190 x13 3) fun x14 =>
 pL Tryz.prog (oLoad 3 x14) w5 fun x15 =>
 pA Tryz.prog (oBin .add 3 (.tmp 11) (.tmp 15) x11 x15) fun x16 =>
 pA Tryz.prog (oBin .add 3 (.tmp 16) (.const (.int .i64 8)) x16 (.int .i64 8)) fun x17 =>
 pA Tryz.prog (oNil x0) fun x20 =>
 pA Tryz.prog (oFld 190 x20 4) fun x21 =>
 pL Tryz.prog (oLoad 30 x21) w5 fun x22 =>
 pN Tryz.prog (oMk 30 (.int .i64 0) x17) w5 fun x18 w6 =>
 ((Sem.run Tryz.prog (oLoad 30 x21) w6 = .ok (.value x22) w6) ∧ True) ∧ (pN Tryz.prog (oBi .append #[30, 30] 30 [false, false] [x18, x22]) w6 fun x23 w7 =>
 (True) ∧ (pA Tryz.prog (oFld 190 x3 4) fun x24 =>
 pN Tryz.prog (oStore 30 x24 x23) w7 fun _ w8 =>
 (True) ∧ (Q x3 w8)))
theorem rcenc_Encoder_Fork.calls [Pan] {x0 : Value} {w : World} {Q : Value → World → Prop} (h : rcenc_Encoder_Fork.F x0 w Q) : Calls Tryz.prog 82 #[x0] w (retP Q) := calls_lift mixed rcenc_Encoder_Fork.H [x0] Tryz.func82 (by kernel_rfl) (by kernel_rfl) h

def rcenc_Encoder_Size.H : Hints := { cut := fun  | _ => none, loop := fun  | _ => ([], 0), order := fun | 1 => [(0, 0), (1, 1), (2, 3), (3, 7), (4, 15), (5, 31), (6, 63), (7, 127), (8, 255), (9, 511), (10, 1023), (11, 2047), (12, 4095)] | _ => [] }
def rcenc_Encoder_Size.F [Pan] (x0 : Value) (w : World) (Q : Value → World → Prop) : Prop :=
 pDr w fun w1 =>
 pA Tryz.prog (oNil x0) fun x4 =>
 pA Tryz.prog (oFld 190 x4 4) fun x5 =>
 pL Tryz.prog (oLoad 30 x5) w1 fun x6 =>
 pA Tryz.prog (oBi .len #[30] 3 [false] [x6]) fun x7 =>
 pA Tryz.prog (oBin .add 3 (.tmp 7) (.const (.int .i64 1)) x7 (.int .i64 1)) fun x8 =>
 pA Tryz.prog (oNil x0) fun x10 =>
 pA Tryz.prog (oFld 190 x10 3) fun x11 =>
 pL Tryz.prog (oLoad 3 x11) w1 fun x12 =>
 pA Tryz.prog (oBin .add 3 (.tmp 8) (.tmp 12) x8 x12) fun x13 =>
 pA Tryz.prog (oBin .add 3 (.tmp 13) (.const (.int .i64 4)) x13 (.int .i64 4)) fun x14 =>
 Q x14 w1
theorem rcenc_Encoder_Size.calls [Pan] {x0 : Value} {w : World} {Q : Value → World → Prop} (h : rcenc_Encoder_Size.F x0 w Q) : Calls Tryz.prog 86 #[x0] w (retP Q) := calls_lift mixed rcenc_Encoder_Size.H [x0] Tryz.func86 (by kernel_rfl) (by kernel_rfl) h

def rcenc_Encoder_shift.H : Hints := { cut := fun | 8 => some ([], 37778931862957161709564) | _ => none, loop := fun | 3 => ([], 576460683583946752) | _ => ([], 0), order := fun | 2 => [(0, 0), (1, 1), (2, 3), (3, 7), (4, 15), (5, 31), (6, 63), (7, 127), (8, 255), (9, 511), (10, 1023), (11, 2047), (12, 4095), (13, 8191), (14, 16383), (15, 32767)] | _ => [] }
def rcenc_Encoder_shift.F [Pan] (x0 : Value) (w : World) (Q : Value → World → Prop) : Prop :=
 ∃ I8 : World → Prop,
 (pN Tryz.prog (oNil x0) w fun x4 w1 =>
 pN Tryz.prog (oFld 190 x4 0) w1 fun x5 w2 =>
 pN Tryz.prog (oLoad 188 x5) w2 fun x6 w3 =>
 pN Tryz.prog (oBin .lss 188 (.tmp 6) (.const (.int .u64 4278190080)) x6 (.int .u64 4278190080)) w3 fun x7 w4 =>
 pGd (gB x7 false) (pN Tryz.prog (oMv x0) w4) w4 fun x9 w5 =>
 pGd (gB x7 false) (pN Tryz.prog (oNil x9) w5) w5 fun x10 w6 =>
 pGd (gB x7 false) (pN Tryz.prog (oFld 190 x10 0) w6) w6 fun x11 w7 =>
 pGd (gB x7 false) (pN Tryz.prog (oLoad 188 x11) w7) w7 fun x12 w8 =>
 pGd (gB x7 false) (pN Tryz.prog (oBin .gtr 188 (.tmp 12) (.const (.int .u64 4294967295)) x12 (.int .u64 4294967295)) w8) w8 fun x13 w9 =>
 pN Tryz.prog (oPick x7 (.bool true) x13) w9 fun x14 w10 =>
 pIf x14
 (pN Tryz.prog (oNil x0) w10 fun x16 w11 =>
 pN Tryz.prog (oFld 190 x16 0) w11 fun x17 w12 =>
 pN Tryz.prog (oLoad 188 x17) w12 fun x18 w13 =>
 pN Tryz.prog (oBin .shr 188 (.tmp 18) (.const (.int .u64 32)) x18 (.int .u64 32)) w13 fun x19 w14 =>
 pN Tryz.prog (oConv 188 5 x19) w14 fun x20 w15 =>
 pDr w15 fun w16 =>
 pA Tryz.prog (oNil x0) fun x23 =>
 pA Tryz.prog (oFld 190 x23 4) fun x24 =>
 pL Tryz.prog (oLoad 30 x24) w16 fun x25 =>
 pA Tryz.prog (oNil x0) fun x27 =>
 pA Tryz.prog (oFld 190 x27 2) fun x28 =>
 pL Tryz.prog (oLoad 5 x28) w16 fun x29 =>
 pA Tryz.prog (oBin .add 5 (.tmp 29) (.tmp 30) x29 x20) fun x31 =>
 pN Tryz.prog (oBs 30 1 [(0, x31)]) w16 fun x32 w17 =>
 ((Sem.run Tryz.prog (oLoad 30 x24) w17 = .ok (.value x25) w17) ∧ True) ∧ (pN Tryz.prog (oBi .append #[30, 30] 30 [false, false] [x25, x32]) w17 fun x33 w18 =>
 (True) ∧ (pA Tryz.prog (oNil x0) fun x34 =>
 pA Tryz.prog (oFld 190 x34 4) fun x35 =>
 pN Tryz.prog (oStore 30 x35 x33) w18 fun _ w19 =>
 (True) ∧ (∃ (L3 : World → Prop) (m3 : World → Nat),
 L3 w19 ∧
 ∀ (_k3 : Env) (w20 : World), L3 w20 →
 pN Tryz.prog (oNil x0) w20 fun x37 w21 =>
 pN Tryz.prog (oFld 190 x37 3) w21 fun x38 w22 =>
 pN Tryz.prog (oLoad 3 x38) w22 fun x39 w23 =>
 pN Tryz.prog (oBin .gtr 3 (.tmp 39) (.const (.int .i64 0)) x39 (.int .i64 0)) w23 fun x40 w24 =>
 pIf x40
 (pN Tryz.prog (oNil x0) w24 fun x50 w25 =>
 pN Tryz.prog (oFld 190 x50 4) w25 fun x51 w26 =>
 pN Tryz.prog (oLoad 30 x51) w26 fun x52 w27 =>
 pN Tryz.prog (oBin .add 5 (.const (.int .u8 255)) (.tmp 53) (bv 255) x20) w27 fun x54 w28 =>
 pN Tryz.prog (oBs 30 1 [(0, x54)]) w28 fun x55 w29 =>
 pN Tryz.prog (oBi .append #[30, 30] 30 [false, false] [x52, x55]) w29 fun x56 w30 =>
 pN Tryz.prog (oNil x0) w30 fun x57 w31 =>
 pN Tryz.prog (oFld 190 x57 4) w31 fun x58 w32 =>
 pN Tryz.prog (oStore 30 x58 x56) w32 fun _ w33 =>
 pN Tryz.prog (oNil x0) w33 fun x42 w34 =>
 pN Tryz.prog (oFld 190 x42 3) w34 fun x43 w35 =>
 pN Tryz.prog (oLoad 3 x43) w35 fun x44 w36 =>
 pN Tryz.prog (oBin .sub 3 (.tmp 44) (.const (.int .i64 1)) x44 (.int .i64 1)) w36 fun x45 w37 =>
 pN Tryz.prog (oNil x0) w37 fun x46 w38 =>
 pN Tryz.prog (oFld 190 x46 3) w38 fun x47 w39 =>
 pN Tryz.prog (oStore 3 x47 x45) w39 fun _ w40 =>
 (L3 w40 ∧ m3 w40 < m3 w20))
 (pN Tryz.prog (oNil x0) w24 fun x61 w41 =>
 pN Tryz.prog (oFld 190 x61 0) w41 fun x62 w42 =>
 pN Tryz.prog (oLoad 188 x62) w42 fun x63 w43 =>
 pN Tryz.prog (oBin .shr 188 (.tmp 63) (.const (.int .u64 24)) x63 (.int .u64 24)) w43 fun x64 w44 =>
 pN Tryz.prog (oConv 188 5 x64) w44 fun x65 w45 =>
 pN Tryz.prog (oNil x0) w45 fun x66 w46 =>
 pN Tryz.prog (oFld 190 x66 2) w46 fun x67 w47 =>
 pN Tryz.prog (oStore 5 x67 x65) w47 fun _ w48 =>
 I8 w48)))))
 (pN Tryz.prog (oNil x0) w10 fun x69 w49 =>
 pN Tryz.prog (oFld 190 x69 3) w49 fun x70 w50 =>
 pN Tryz.prog (oLoad 3 x70) w50 fun x71 w51 =>
 pN Tryz.prog (oBin .add 3 (.tmp 71) (.const (.int .i64 1)) x71 (.int .i64 1)) w51 fun x72 w52 =>
 pN Tryz.prog (oNil x0) w52 fun x73 w53 =>
 pN Tryz.prog (oFld 190 x73 3) w53 fun x74 w54 =>
 pN Tryz.prog (oStore 3 x74 x72) w54 fun _ w55 =>
 I8 w55)) ∧
 ∀ (_j8 : Env) (w56 : World), I8 w56 →
 pN Tryz.prog (oNil x0) w56 fun x77 w57 =>
 pN Tryz.prog (oFld 190 x77 0) w57 fun x78 w58 =>
 pN Tryz.prog (oLoad 188 x78) w58 fun x79 w59 =>
 pN Tryz.prog (oBin .and 188 (.tmp 79) (.const (.int .u64 16777215)) x79 (.int .u64 16777215)) w59 fun x80 w60 =>
 pN Tryz.prog (oBin .shl 188 (.tmp 80) (.const (.int .u64 8)) x80 (.int .u64 8)) w60 fun x81 w61 =>
 pN Tryz.prog (oNil x0) w61 fun x82 w62 =>
 pN Tryz.prog (oFld 190 x82 0) w62 fun x83 w63 =>
 pN Tryz.prog (oStore 188 x83 x81) w63 fun _ w64 =>
 Q (.tuple #[]) w64
theorem rcenc_Encoder_shift.calls [Pan] {x0 : Value} {w : World} {Q : Value → World → Prop} (h : rcenc_Encoder_shift.F x0 w Q) : Calls Tryz.prog 125 #[x0] w (retP Q) := calls_lift mixed rcenc_Encoder_shift.H [x0] Tryz.func125 (by kernel_rfl) (by kernel_rfl) h

def rcenc_Encoder_Bit.H : Hints := { cut := fun | 9 => some ([], 562949886312448) | _ => none, loop := fun  | _ => ([], 0), order := fun  | _ => [] }
def rcenc_Encoder_Bit.F [Pan] (x0 x1 x2 x3 : Value) (w : World) (Q : Value → World → Prop) : Prop :=
 pN Tryz.prog (oCall 179 [x1, x2]) w fun x15 w1 =>
 pN Tryz.prog (oExt x15 0) w1 fun x16 w2 =>
 pN Tryz.prog (oExt x15 1) w2 fun x17 w3 =>
 pN Tryz.prog (oBin .neq 38 (.tmp 18) (.const (.int .i64 0)) x17 (.int .i64 0)) w3 fun x19 w4 =>
 pIf x19
 (Q (.int .i64 7) w4)
 (pN Tryz.prog (oNil x0) w4 fun x21 w5 =>
 pN Tryz.prog (oFld 190 x21 1) w5 fun x22 w6 =>
 pN Tryz.prog (oLoad 148 x22) w6 fun x23 w7 =>
 pN Tryz.prog (oCall 184 [x23, x16]) w7 fun x25 w8 =>
 ∃ I9 : World → Prop,
 (pN Tryz.prog (oBin .eql 3 (.tmp 26) (.const (.int .i64 0)) x3 (.int .i64 0)) w8 fun x27 w9 =>
 pIf x27
 (pN Tryz.prog (oNil x0) w9 fun x30 w10 =>
 pN Tryz.prog (oFld 190 x30 1) w10 fun x31 w11 =>
 pN Tryz.prog (oStore 148 x31 x25) w11 fun _ w12 =>
 I9 w12)
 (pN Tryz.prog (oNil x0) w9 fun x33 w13 =>
 pN Tryz.prog (oFld 190 x33 0) w13 fun x34 w14 =>
 pN Tryz.prog (oLoad 188 x34) w14 fun x35 w15 =>
 pN Tryz.prog (oConv 148 188 x25) w15 fun x37 w16 =>
 pN Tryz.prog (oBin .add 188 (.tmp 35) (.tmp 37) x35 x37) w16 fun x38 w17 =>
 pN Tryz.prog (oNil x0) w17 fun x39 w18 =>
 pN Tryz.prog (oFld 190 x39 0) w18 fun x40 w19 =>
 pN Tryz.prog (oStore 188 x40 x38) w19 fun _ w20 =>
 pN Tryz.prog (oNil x0) w20 fun x42 w21 =>
 pN Tryz.prog (oFld 190 x42 1) w21 fun x43 w22 =>
 pN Tryz.prog (oLoad 148 x43) w22 fun x44 w23 =>
 pN Tryz.prog (oBin .sub 148 (.tmp 44) (.tmp 45) x44 x25) w23 fun x46 w24 =>
 pN Tryz.prog (oNil x0) w24 fun x47 w25 =>
 pN Tryz.prog (oFld 190 x47 1) w25 fun x48 w26 =>
 pN Tryz.prog (oStore 148 x48 x46) w26 fun _ w27 =>
 I9 w27)) ∧
 ∀ (_j9 : Env) (w28 : World), I9 w28 →
 pN Tryz.prog (oCall 250 [x0]) w28 fun _ w29 =>
 pN Tryz.prog (oCall 182 [x1, x2, x3]) w29 fun x54 w30 =>
 Q x54 w30)
theorem rcenc_Encoder_Bit.calls [Pan] {x0 x1 x2 x3 : Value} {w : World} {Q : Value → World → Prop} (h : rcenc_Encoder_Bit.F x0 x1 x2 x3 w Q) : Calls Tryz.prog 246 #[x0, x1, x2, x3] w (retP Q) := calls_lift mixed rcenc_Encoder_Bit.H [x0, x1, x2, x3] Tryz.func246 (by kernel_rfl) (by kernel_rfl) h

def rcenc_Encoder_Direct.H : Hints := { cut := fun | 5 => some ([], 35184371564544) | 9 => some ([], 8796025913344) | _ => none, loop := fun | 4 => ([2], 35184372056068) | _ => ([], 0), order := fun | 8 => [(0, 0), (1, 1), (2, 3), (3, 7), (4, 15), (5, 31), (6, 63), (7, 127), (8, 255), (9, 511), (10, 1023), (11, 2047), (12, 4095)] | _ => [] }
def rcenc_Encoder_Direct.F [Pan] (x0 x1 x2 : Value) (w : World) (Q : Value → World → Prop) : Prop :=
 pN Tryz.prog (oBin .lss 3 (.tmp 7) (.const (.int .i64 0)) x2 (.int .i64 0)) w fun x8 w1 =>
 pGd (gB x8 false) (pN Tryz.prog (oMv x2) w1) w1 fun x10 w2 =>
 pGd (gB x8 false) (pN Tryz.prog (oBin .gtr 3 (.tmp 10) (.const (.int .i64 32)) x10 (.int .i64 32)) w2) w2 fun x11 w3 =>
 pN Tryz.prog (oPick x8 (.bool true) x11) w3 fun x12 w4 =>
 pIf x12
 (Q (.int .i64 7) w4)
 (pN Tryz.prog (oBin .sub 3 (.tmp 13) (.const (.int .i64 1)) x2 (.int .i64 1)) w4 fun x14 w5 =>
 ∃ (L4 : Value → World → Prop) (m4 : Value → World → Nat),
 L4 x14 w5 ∧
 ∀ (_k4 : Env) (n2l4 : Value) (w6 : World), L4 n2l4 w6 →
 pN Tryz.prog (oBin .geq 3 (.tmp 15) (.const (.int .i64 0)) n2l4 (.int .i64 0)) w6 fun x16 w7 =>
 pIf x16
 (∃ I5 : World → Prop,
 (pN Tryz.prog (oNil x0) w7 fun x20 w8 =>
 pN Tryz.prog (oFld 190 x20 1) w8 fun x21 w9 =>
 pN Tryz.prog (oLoad 148 x21) w9 fun x22 w10 =>
 pN Tryz.prog (oBin .quo 148 (.tmp 22) (.const (.int .u32 2)) x22 (.int .u32 2)) w10 fun x23 w11 =>
 pN Tryz.prog (oNil x0) w11 fun x24 w12 =>
 pN Tryz.prog (oFld 190 x24 1) w12 fun x25 w13 =>
 pN Tryz.prog (oStore 148 x25 x23) w13 fun _ w14 =>
 ∃ I9 : World → Prop,
 (pN Tryz.prog (oBin .shr 148 (.tmp 26) (.tmp 27) x1 n2l4) w14 fun x28 w15 =>
 pN Tryz.prog (oBin .and 148 (.tmp 28) (.const (.int .u32 1)) x28 (.int .u32 1)) w15 fun x29 w16 =>
 pN Tryz.prog (oBin .eql 148 (.tmp 29) (.const (.int .u32 1)) x29 (.int .u32 1)) w16 fun x30 w17 =>
 pIf x30
 (pDr w17 fun w18 =>
 pA Tryz.prog (oNil x0) fun x32 =>
 pA Tryz.prog (oFld 190 x32 0) fun x33 =>
 pL Tryz.prog (oLoad 188 x33) w18 fun x34 =>
 pA Tryz.prog (oNil x0) fun x36 =>
 pA Tryz.prog (oFld 190 x36 1) fun x37 =>
 pL Tryz.prog (oLoad 148 x37) w18 fun x38 =>
 pL Tryz.prog (oConv 148 188 x38) w18 fun x39 =>
 pA Tryz.prog (oBin .add 188 (.tmp 34) (.tmp 39) x34 x39) fun x40 =>
 pA Tryz.prog (oNil x0) fun x41 =>
 pA Tryz.prog (oFld 190 x41 0) fun x42 =>
 pN Tryz.prog (oStore 188 x42 x40) w18 fun _ w19 =>
 (True) ∧ (I9 w19))
 (I9 w17)) ∧
 ∀ (_j9 : Env) (w20 : World), I9 w20 →
 pN Tryz.prog (oCall 250 [x0]) w20 fun _ w21 =>
 I5 w21) ∧
 ∀ (_j5 : Env) (w22 : World), I5 w22 →
 pN Tryz.prog (oBin .sub 3 (.tmp 17) (.const (.int .i64 1)) n2l4 (.int .i64 1)) w22 fun x18 w23 =>
 (L4 x18 w23 ∧ m4 x18 w23 < m4 n2l4 w6))
 (Q (.int .i64 0) w7))
theorem rcenc_Encoder_Direct.calls [Pan] {x0 x1 x2 : Value} {w : World} {Q : Value → World → Prop} (h : rcenc_Encoder_Direct.F x0 x1 x2 w Q) : Calls Tryz.prog 247 #[x0, x1, x2] w (retP Q) := calls_lift mixed rcenc_Encoder_Direct.H [x0, x1, x2] Tryz.func247 (by kernel_rfl) (by kernel_rfl) h

def rcenc_Encoder_widen.H : Hints := { cut := fun  | _ => none, loop := fun | 0 => ([], 65532) | _ => ([], 0), order := fun  | _ => [] }
def rcenc_Encoder_widen.F [Pan] (x0 : Value) (w : World) (Q : Value → World → Prop) : Prop :=
 ∃ (L0 : World → Prop) (m0 : World → Nat),
 L0 w ∧
 ∀ (_k0 : Env) (w1 : World), L0 w1 →
 pN Tryz.prog (oNil x0) w1 fun x3 w2 =>
 pN Tryz.prog (oFld 190 x3 1) w2 fun x4 w3 =>
 pN Tryz.prog (oLoad 148 x4) w3 fun x5 w4 =>
 pN Tryz.prog (oBin .lss 148 (.tmp 5) (.const (.int .u32 16777216)) x5 (.int .u32 16777216)) w4 fun x6 w5 =>
 pIf x6
 (pN Tryz.prog (oNil x0) w5 fun x8 w6 =>
 pN Tryz.prog (oFld 190 x8 1) w6 fun x9 w7 =>
 pN Tryz.prog (oLoad 148 x9) w7 fun x10 w8 =>
 pN Tryz.prog (oBin .shl 148 (.tmp 10) (.const (.int .u64 8)) x10 (.int .u64 8)) w8 fun x11 w9 =>
 pN Tryz.prog (oNil x0) w9 fun x12 w10 =>
 pN Tryz.prog (oFld 190 x12 1) w10 fun x13 w11 =>
 pN Tryz.prog (oStore 148 x13 x11) w11 fun _ w12 =>
 pN Tryz.prog (oCall 125 [x0]) w12 fun _ w13 =>
 (L0 w13 ∧ m0 w13 < m0 w1))
 (Q (.tuple #[]) w5)
theorem rcenc_Encoder_widen.calls [Pan] {x0 : Value} {w : World} {Q : Value → World → Prop} (h : rcenc_Encoder_widen.F x0 w Q) : Calls Tryz.prog 250 #[x0] w (retP Q) := calls_lift mixed rcenc_Encoder_widen.H [x0] Tryz.func250 (by kernel_rfl) (by kernel_rfl) h

end Go.Proofs.YtbgnnjfpiblkmaaGreatDoor

namespace Go.Proofs.YtbgnnjfpiblkmaaGreatDoor
open Go
attribute [local irreducible] oMv oV oU oCall oCallV oBi oBin oUn oLoad oStore oNil oFld oField oIdx oIndex oPick oAlloc oBox oBuild oBs oConv oMk oSl oExt oFn oIface oMap oLook oMapUp oRange oNext oEntry oInv oAssert oPanic oRes pN pA pL pDr pIf gA pGd

def EncE (b : Nat) (e : R.E) : HA := fun h => ∃ s : Sl, Sats [cel b ⟨190, [.int .u64 e.low, .int .u32 e.rng, bv e.held, .int .i64 e.wait, .slice s.a e.out.length s.c]⟩, rows cd_uint8 s e.out] h
def Enc (b : Nat) (s : R.S) : HA := fun h => ∃ e : R.E, R.Rep e s ∧ R.Ok s ∧ EncE b e h

section
variable {E w : World} {M : List HA} {Q : Value → World → Prop} {b : Nat} {e : R.E} {st : R.S}

theorem EncE.opn (hS : Sat E w (EncE b e :: M)) : ∃ s : Sl, Sat E w (cel b ⟨190, [.int .u64 e.low, .int .u32 e.rng, bv e.held, .int .i64 e.wait, .slice s.a e.out.length s.c]⟩ :: rows cd_uint8 s e.out :: M) := by
  obtain ⟨s, hS⟩ := hS.ex
  exact ⟨s, hS.open_ (M := [_, _]) fun _ h => h⟩
theorem EncE.shut {s : Sl} {L N : List HA} {o : Ob} {out : List UInt8} (hS : Sat E w L) (e : R.E) [h1 : Fnd (cel b) L o N] [h2 : Fnd (rows cd_uint8 s) N out M] (ho : o = ⟨190, [.int .u64 e.low, .int .u32 e.rng, bv e.held, .int .i64 e.wait, .slice s.a e.out.length s.c]⟩) (he : out = e.out) : Sat E w (EncE b e :: M) := by
  subst ho he
  exact Sat.shut (M := [_, _]) (hS.fd2 (cel b) (rows cd_uint8 s)) fun _ h => ⟨s, h⟩
theorem Enc.opn (hS : Sat E w (Enc b st :: M)) : ∃ e, R.Rep e st ∧ R.Ok st ∧ Sat E w (EncE b e :: M) := by
  obtain ⟨e, ⟨h1, h2⟩, hS⟩ := hS.opn (p := fun e => R.Rep e st ∧ R.Ok st) (B := fun e => EncE b e) fun hp ⟨e, h1, h2, h3⟩ => ⟨e, ⟨h1, h2⟩, h3⟩
  exact ⟨e, h1, h2, hS⟩
theorem Enc.shut (hS : Sat E w (EncE b e :: M)) (h1 : R.Rep e st) (h2 : R.Ok st) : Sat E w (Enc b st :: M) := hS.weaken fun _ h => ⟨e, h1, h2, h⟩

theorem shift_ok (hS : Sat E w (EncE b e :: M)) (i1 : 0 ≤ e.low) (i2 : e.low < 8589934592) (hl : e.out.length + e.wait + 1 ≤ 140737488355328) (hQ : ∀ w, Sat E w (EncE b e.shift :: M) → Q (.tuple #[]) w) : Calls Tryz.prog 125 #[.pointer (some ⟨b, 0, none⟩)] w (retP Q) := by
  refine rcenc_Encoder_shift.calls ?_
  unfold rcenc_Encoder_shift.F
  obtain ⟨s, hS⟩ := EncE.opn hS
  refine ⟨_, ?_, fun _ _ h => h⟩
  repeat' (first | ((first | refine pN_lss_s ?_ ?_ | refine pN_gtr_s ?_ ?_) <;> intro hc <;> try (exfalso; omega)) | refine pIf_t ?_ | refine pIf_f ?_ | refine pGd_go (by rfl) ?_ | refine pGd_no (by rfl) ?_ | refine pN_tob ?_ | refine pN_l hS (by first | rfl | assumption) ?_ | refine pL_l hS (by first | rfl | assumption) ?_ | (refine pN_s hS (by first | exact Nat.le_of_ble_eq_true rfl | assumption) (by rfl) ?_; clear hS; intro w hS; try simp only [List.set_cons_zero, List.set_cons_succ] at hS) | (refine pDr_go hS ?_; clear hS; intro w hS) | refine ⟨trivial, ?_⟩ | refine ⟨⟨(by first | exact run_l hS (by first | rfl | assumption) | exact run_st hS (by first | rfl | omega) | exact run_ld1 ha hS | exact fun _ => run_l hS (by rfl) | exact fun _ => run_st hS (by first | rfl | omega) | exact fun _ => run_ld1 ha hS | exact fun h => Bool.noConfusion h), trivial⟩, ?_⟩ | (refine pN_b1 hS (by rfl) (by decide) ?_; clear hS; intro s w hS) | (refine pN_app hS (by first | rfl | omega | simpa only [go_sem] using True.intro | (simp only [go_sem]; omega)) (by first | rfl | omega | simpa only [go_sem] using True.intro | (simp only [go_sem]; omega)) (by first | omega | (simp only [go_sem]; omega)) ?_; clear hS; intro s w hS) | refine pN_v (hk := ?_) | refine pA_v (hk := ?_) | fail)
  rotate_left 2
  · refine hQ _ ?_
    unfold R.E.shift
    rw [if_neg (by omega)]
    exact EncE.shut (b := b) (s := s) hS _ rfl rfl
  all_goals
    refine ⟨fun w => ∃ (j : Nat) (s : Sl), j ≤ e.wait ∧ Sat E w (cel b ⟨190, [.int .u64 e.low, .int .u32 e.rng, bv e.held, .int .i64 (e.wait - j : Nat), .slice s.a (e.out ++ [e.held + byteOf (e.low / 4294967296)] ++ List.replicate j (255 + byteOf (e.low / 4294967296))).length s.c]⟩ :: rows cd_uint8 s (e.out ++ [e.held + byteOf (e.low / 4294967296)] ++ List.replicate j (255 + byteOf (e.low / 4294967296))) :: M),
      fun w => wInt b 3 w, ⟨0, s, Nat.zero_le _, by simp only [List.replicate_zero, List.append_nil]; exact hS.to⟩, ?_⟩
    clear hS
    rintro _ w ⟨j, s, hj, hS⟩
    have hm := wInt_eq (b := b) (i := 3) hS rfl
    repeat' (first | (refine pN_gtr_s ?_ ?_ <;> intro hc <;> try (exfalso; omega)) | refine pIf_t ?_ | refine pIf_f ?_ | refine pN_tob ?_ | refine pN_l hS (by first | rfl | assumption) ?_ | (refine pN_s hS (by first | exact Nat.le_of_ble_eq_true rfl | assumption) (by rfl) ?_; clear hS; intro w hS; try simp only [List.set_cons_zero, List.set_cons_succ] at hS) | (refine pN_b1 hS (by rfl) (by decide) ?_; clear hS; intro s w hS) | (refine pN_app hS (by first | rfl | omega | simpa only [go_sem] using True.intro | (simp only [go_sem]; omega)) (by first | rfl | omega | simpa only [go_sem] using True.intro | (simp only [go_sem]; omega)) (by first | omega | (simp only [go_sem]; omega)) ?_; clear hS; intro s w hS) | refine pN_v (hk := ?_) | fail)
    · refine ⟨⟨j + 1, s, by omega, ?_⟩, ?_⟩
      · have e1 : ((e.wait - (j + 1) : Nat) : Int) = ((e.wait - j : Nat) : Int) - 1 := by omega
        rw [List.replicate_succ', ← List.append_assoc _ (List.replicate _ _), e1]
        exact hS.to
      · show wInt b 3 _ < wInt b 3 _
        rw [hm, wInt_eq (b := b) (i := 3) hS rfl]
        omega
    · refine hQ _ ?_
      unfold R.E.shift
      rw [if_pos (by omega)]
      obtain rfl : j = e.wait := by omega
      exact EncE.shut (b := b) (s := s) hS _ (by simp) rfl

theorem widen_ok (hS : Sat E w (EncE b e :: M)) (hi : R.Rep e st) (h1 : e.rng < 4294967296) (hl : st.k + 10 ≤ 140737488355328) (hQ : ∀ e' w, R.Rep e' st.widen → Sat E w (EncE b e' :: M) → Q (.tuple #[]) w) : Calls Tryz.prog 250 #[.pointer (some ⟨b, 0, none⟩)] w (retP Q) := by
  refine rcenc_Encoder_widen.calls ?_
  unfold rcenc_Encoder_widen.F
  have i0 := hi.inv.r0
  have j0 := hi.rng
  refine ⟨fun w => ∃ (e' : R.E) (st' : R.S), R.Rep e' st' ∧ st'.widen = st.widen ∧ e'.rng < 4294967296 ∧ st'.k ≤ st'.widen.k ∧ Sat E w (EncE b e' :: M), fun w => 16777216 - wInt b 1 w, ⟨e, st, hi, rfl, h1, R.widen_mono st, hS⟩, ?_⟩
  clear hS
  rintro _ w ⟨e', st', hr, hw, h2, hk, hS⟩
  obtain ⟨s, hS⟩ := EncE.opn hS
  have i1 := hr.inv.l0
  have i2 := hr.inv.sum
  have i3 := hr.inv.r0
  have i4 := hr.rng
  have i5 := hr.len
  have i6 := (R.widen_k _ st rfl (by omega)).1
  rw [hw] at hk
  have hm := wInt_eq (b := b) (i := 1) hS rfl
  repeat' (first | (refine pN_lss_s ?_ ?_ <;> intro hc <;> try (exfalso; omega)) | refine pIf_t ?_ | refine pIf_f ?_ | refine pN_l hS (by first | rfl | assumption) ?_ | (refine pN_s hS (by first | exact Nat.le_of_ble_eq_true rfl | assumption) (by rfl) ?_; clear hS; intro w hS; try simp only [List.set_cons_zero, List.set_cons_succ] at hS) | refine pN_v (hk := ?_) | fail)
  · have hS := EncE.shut (b := b) (s := s) hS { e' with rng := e'.rng * 256 } rfl rfl
    refine pc_rcenc_Encoder_shift (shift_ok hS i1 (by simp only; omega) (by simp only; omega) fun w hS => ?_)
    rw [R.shift_with] at hS
    have hr' := hr.shift (e'.rng * 256) (by omega) (by omega) (by omega)
    refine ⟨⟨_, _, hr', ?_, by simp only; omega, R.widen_mono _, hS⟩, ?_⟩
    · rw [i4, ← R.S.widen_go (by omega) (by omega), hw]
    · obtain ⟨s, hS⟩ := EncE.opn hS
      show 16777216 - wInt b 1 _ < 16777216 - wInt b 1 _
      rw [hm, wInt_eq (b := b) (i := 1) hS rfl]
      simp only
      omega
  · rw [← hw, R.S.widen_no (by omega)] at hQ
    exact hQ _ _ hr (EncE.shut (b := b) (s := s) hS e' rfl rfl)

theorem NewE_ok (hS : Sat E w M) (hQ : ∀ b w, Sat E w (Enc b R.S.new :: M) → Q (.pointer (some ⟨b, 0, none⟩)) w) : Calls Tryz.prog 62 #[] w (retP Q) := by
  refine rcenc_New.calls ?_
  unfold rcenc_New.F
  repeat' (first | (refine pN_bx hS (by rfl) ?_; clear hS; intro a w hS) | refine pN_v (hk := ?_) | fail)
  have hS : Sat E w (rows cd_uint8 ⟨none, 0⟩ [] :: cel a _ :: M) := hS.nil 5 1
  exact hQ _ _ (Enc.shut (EncE.shut (b := a) (s := ⟨none, 0⟩) hS R.E.new rfl rfl) R.Rep.new R.Ok.new)

theorem Bit_ok {p : Nat} {l : List Int} (hS : Sat E w (Enc b st :: PSet p l :: M)) (hf : B.Fine l) (hk : st.k + 10 ≤ 140737488355328) (i bit : Int)
    (hQ : ∀ w, Sat E w (Enc b (if 0 ≤ i ∧ i < l.length then st.cut (B.bound st.R (l.getD i.toNat 0)) bit else st) :: PSet p (if 0 ≤ i ∧ i < l.length then l.set i.toNat (B.next (l.getD i.toNat 0) bit) else l) :: M) → Q (.int .i64 (if 0 ≤ i ∧ i < l.length then 0 else 7)) w) :
    Calls Tryz.prog 246 #[.pointer (some ⟨b, 0, none⟩), .pointer (some ⟨p, 0, none⟩), .int .i64 i, .int .i64 bit] w (retP Q) := by
  refine rcenc_Encoder_Bit.calls ?_
  unfold rcenc_Encoder_Bit.F
  refine pc_prob_Set_At (At_ok (hS.fd (PSet p)) i fun w hS => ?_)
  by_cases h : 0 ≤ i ∧ i < l.length
  · simp only [if_pos h] at hQ ⊢
    have hx : l[i.toNat]? = some (l.getD i.toNat 0) := by
      rw [List.getD_eq_getElem?_getD, List.getElem?_eq_getElem (show i.toNat < l.length by omega)]; rfl
    generalize l.getD i.toNat 0 = x at hQ hx ⊢
    have hp := hf.get hx
    obtain ⟨e, hr, ho, hS⟩ := Enc.opn (hS.fd (Enc b))
    obtain ⟨s, hS⟩ := EncE.opn hS
    have j1 := hr.rng
    have j2 := hr.inv.l0
    have j3 := hr.inv.sum
    have j4 := ho.r0
    have j5 := ho.r1
    have c1 := B.bound_pos (rng := st.R) (p := x) j4 hp.1
    have c2 := B.bound_lt (rng := st.R) (p := x) j4
    have hc2 := ho.cut (B.bound st.R x) bit c1 c2
    have fin : ∀ (e' : R.E) (st' : R.S) (w : World), R.Rep e' st' → e'.rng < 4294967296 → st'.k = st.k → st'.widen = st.cut (B.bound st.R x) bit → Sat E w (EncE b e' :: PSet p l :: M) →
        pN Tryz.prog (oCall 250 [.pointer (some ⟨b, 0, none⟩)]) w fun _ w29 => pN Tryz.prog (oCall 182 [.pointer (some ⟨p, 0, none⟩), .int .i64 i, .int .i64 bit]) w29 fun x54 w30 => Q x54 w30 := by
      intro e' st' w h1 h2 h3 h4 hS
      refine pc_rcenc_Encoder_widen (widen_ok hS h1 h2 (by omega) fun e'' w hr' hS => ?_)
      rw [h4] at hr'
      refine pc_prob_Set_Turn (Turn_ok (hS.fd (PSet p)) i bit fun w hS => ?_)
      simp only [if_pos h] at hS ⊢
      have e : l.getD i.toNat 0 = x := by rw [List.getD_eq_getElem?_getD, hx]; rfl
      rw [e] at hS
      exact hQ _ (Enc.shut (hS.fd (EncE b)) hr' hc2)
    repeat' (first | (refine pN_neq_s ?_ ?_ <;> intro hc <;> try (exfalso; first | omega | exact hc rfl | exact hc (by assumption) | exact absurd hc (by assumption))) | refine pIf_f ?_ | refine pN_l hS (by first | rfl | assumption) ?_ | refine pN_v (hk := ?_) | fail)
    refine pc_prob_Bound (Bound_ok _ x (by omega) (by omega) ?_)
    rw [j1]
    rw [j1] at hS
    repeat' (first | (refine pN_eql_s ?_ ?_ <;> intro hc <;> try (exfalso; first | omega | exact hc rfl | exact hc (by assumption) | exact absurd hc (by assumption))) | refine pIf_t ?_ | refine pIf_f ?_ | refine pN_l hS (by first | rfl | assumption) ?_ | (refine pN_s hS (by first | exact Nat.le_of_ble_eq_true rfl | assumption) (by rfl) ?_; clear hS; intro w hS; try simp only [List.set_cons_zero, List.set_cons_succ] at hS) | refine pN_v (hk := ?_) | refine ⟨_, ?_, fun _ _ h => h⟩ | fail)
    · refine fin { e with rng := B.bound st.R x } ⟨st.N, B.bound st.R x, st.k⟩ _ ⟨⟨j2, c1, by simp only; omega, fun hh => ?_⟩, hr.val, rfl, hr.len⟩ (by simp only; omega) rfl (by rw [R.S.cut, if_pos hc]) (EncE.shut (b := b) (s := s) hS _ rfl rfl)
      have := hr.inv.held hh
      simp only
      omega
    · refine fin { e with low := e.low + B.bound st.R x, rng := st.R - B.bound st.R x } ⟨st.N + B.bound st.R x, st.R - B.bound st.R x, st.k⟩ _ ⟨⟨by simp only; omega, by simp only; omega, by simp only; omega, fun hh => ?_⟩, ?_, rfl, hr.len⟩ (by simp only; omega) rfl (by rw [R.S.cut, if_neg hc]) (EncE.shut (b := b) (s := s) hS _ rfl rfl)
      · have := hr.inv.held hh
        simp only
        omega
      · have := hr.val
        simp only [R.E.V] at this ⊢
        omega
  · simp only [if_neg h] at hQ ⊢
    repeat' (first | (refine pN_neq_s ?_ ?_ <;> intro hc <;> try (exfalso; first | omega | exact hc rfl | exact hc (by assumption) | exact absurd hc (by assumption))) | refine pIf_t ?_ | refine pN_v (hk := ?_) | fail)
    exact hQ _ hS.to

theorem Direct_ok (hS : Sat E w (Enc b st :: M)) (hk : st.k + 50 ≤ 140737488355328) (v n : Int) (v0 : 0 ≤ v) (v1 : v < 4294967296)
    (hQ : ∀ w, Sat E w (Enc b (if 0 ≤ n ∧ n ≤ 32 then st.direct v n.toNat else st) :: M) → Q (.int .i64 (if 0 ≤ n ∧ n ≤ 32 then 0 else 7)) w) :
    Calls Tryz.prog 247 #[.pointer (some ⟨b, 0, none⟩), .int .u32 v, .int .i64 n] w (retP Q) := by
  refine rcenc_Encoder_Direct.calls ?_
  unfold rcenc_Encoder_Direct.F
  by_cases h : 0 ≤ n ∧ n ≤ 32
  · simp only [if_pos h] at hQ
    repeat' (first | ((first | refine pN_lss_s ?_ ?_ | refine pN_gtr_s ?_ ?_) <;> intro hc <;> try (exfalso; omega)) | refine pIf_f ?_ | refine pGd_go (by rfl) ?_ | refine pN_v (hk := ?_) | fail)
    refine ⟨fun x w => ∃ (m : Nat) (st' : R.S), x = .int .i64 ((m : Int) - 1) ∧ m ≤ n.toNat ∧ st'.direct v m = st.direct v n.toNat ∧ st'.k + m ≤ st.k + n.toNat ∧ Sat E w (Enc b st' :: M), fun x _ => (RowKit.intOf x + 1).toNat,
      ⟨n.toNat, st, by rw [Int.toNat_of_nonneg h.1], Nat.le_refl _, rfl, Nat.le_refl _, hS⟩, ?_⟩
    clear hS
    rintro _ _ w ⟨m, st', rfl, hm, hd, hk', hS⟩
    obtain ⟨e, hr, ho, hS⟩ := Enc.opn hS
    obtain ⟨s, hS⟩ := EncE.opn hS
    have j1 := hr.rng
    have j2 := hr.inv.l0
    have j3 := hr.inv.sum
    have j4 := ho.r0
    have j5 := ho.r1
    rw [j1] at hS
    repeat' (first | (refine pN_geq_s ?_ ?_ <;> intro hc <;> try (exfalso; omega)) | refine pIf_t ?_ | refine pIf_f ?_ | refine pN_l hS (by first | rfl | assumption) ?_ | (refine pN_s hS (by first | exact Nat.le_of_ble_eq_true rfl | assumption) (by rfl) ?_; clear hS; intro w hS; try simp only [List.set_cons_zero, List.set_cons_succ] at hS) | refine pN_v (hk := ?_) | refine ⟨_, ?_, fun _ _ h => h⟩ | fail)
    · obtain ⟨j, rfl⟩ : ∃ j, m = j + 1 := ⟨m - 1, by omega⟩
      refine pN_shr_k j (by omega) (by show _ ≤ 32; omega) ?_
      have hkk := R.one_k ho (v / 2 ^ j % 2)
      have hoo := ho.one (v / 2 ^ j % 2)
      repeat' (first | (refine pN_eql_s ?_ ?_ <;> intro hc <;> try (exfalso; first | omega | exact hc rfl | exact hc (by assumption) | exact absurd hc (by assumption))) | refine pIf_t ?_ | refine pIf_f ?_ | refine pL_l hS (by first | rfl | assumption) ?_ | (refine pN_s hS (by first | exact Nat.le_of_ble_eq_true rfl | assumption) (by rfl) ?_; clear hS; intro w hS; try simp only [List.set_cons_zero, List.set_cons_succ] at hS) | (refine pDr_go hS ?_; clear hS; intro w hS) | refine ⟨trivial, ?_⟩ | refine pN_v (hk := ?_) | refine pA_v (hk := ?_) | refine pL_v (hk := ?_) | fail)
      · have hS := EncE.shut (b := b) (s := s) hS { e with low := e.low + st'.R / 2, rng := st'.R / 2 } rfl rfl
        refine pc_rcenc_Encoder_widen (widen_ok (st := ⟨st'.N + st'.R / 2, st'.R / 2, st'.k⟩) hS ⟨⟨by simp only; omega, by simp only; omega, by simp only; omega, fun hh => ?_⟩, ?_, rfl, hr.len⟩ (by simp only; omega) (by simp only; omega) fun e' w hr' hS => ?_)
        · have := hr.inv.held hh
          simp only
          omega
        · have := hr.val
          simp only [R.E.V] at this ⊢
          omega
        · have e1 : R.S.widen ⟨st'.N + st'.R / 2, st'.R / 2, st'.k⟩ = st'.one (v / 2 ^ j % 2) := by rw [R.S.one, if_pos hc]
          rw [e1] at hr'
          repeat' (first | refine pN_v (hk := ?_) | fail)
          exact ⟨⟨j, _, by congr 1; omega, by omega, hd, by omega, Enc.shut hS hr' hoo⟩, by simp [RowKit.intOf] <;> omega⟩
      · have hS := EncE.shut (b := b) (s := s) hS { e with rng := st'.R / 2 } rfl rfl
        refine pc_rcenc_Encoder_widen (widen_ok (st := ⟨st'.N, st'.R / 2, st'.k⟩) hS ⟨⟨j2, by simp only; omega, by simp only; omega, fun hh => ?_⟩, hr.val, rfl, hr.len⟩ (by simp only; omega) (by simp only; omega) fun e' w hr' hS => ?_)
        · have := hr.inv.held hh
          simp only
          omega
        · have e1 : R.S.widen ⟨st'.N, st'.R / 2, st'.k⟩ = st'.one (v / 2 ^ j % 2) := by rw [R.S.one, if_neg hc]
          rw [e1] at hr'
          repeat' (first | refine pN_v (hk := ?_) | fail)
          exact ⟨⟨j, _, by congr 1; omega, by omega, hd, by omega, Enc.shut hS hr' hoo⟩, by simp [RowKit.intOf] <;> omega⟩
    · obtain rfl : m = 0 := by omega
      rw [← hd] at hQ
      refine hQ _ (Enc.shut (EncE.shut (b := b) (s := s) hS e ?_ rfl) hr ho)
      rw [j1]
  · simp only [if_neg h] at hQ
    repeat' (first | ((first | refine pN_lss_s ?_ ?_ | refine pN_gtr_s ?_ ?_) <;> intro hc <;> try (exfalso; omega)) | refine pIf_t ?_ | refine pGd_go (by rfl) ?_ | refine pGd_no (by rfl) ?_ | refine pN_v (hk := ?_) | fail)
    all_goals exact hQ _ hS

theorem Bit_in {p : Nat} {l : List Int} (hS : Sat E w (Enc b st :: PSet p l :: M)) (hf : B.Fine l) (hk : st.k + 10 ≤ 140737488355328) (i bit : Int) {x : Int} (h0 : 0 ≤ i) (hx : l[i.toNat]? = some x)
    (hQ : ∀ w, Sat E w (Enc b (st.cut (B.bound st.R x) bit) :: PSet p (l.set i.toNat (B.next x bit)) :: M) → Q (.int .i64 0) w) :
    Calls Tryz.prog 246 #[.pointer (some ⟨b, 0, none⟩), .pointer (some ⟨p, 0, none⟩), .int .i64 i, .int .i64 bit] w (retP Q) := by
  have hlt : i.toNat < l.length := (List.getElem?_eq_some_iff.1 hx).1
  refine Bit_ok hS hf hk i bit fun w hS => ?_
  have e : l.getD i.toNat 0 = x := by rw [List.getD_eq_getElem?_getD, hx]; rfl
  rw [if_pos (by omega), if_pos (by omega), e] at hS
  rw [if_pos (by omega)]
  exact hQ w hS
theorem Direct_in (hS : Sat E w (Enc b st :: M)) (hk : st.k + 50 ≤ 140737488355328) (v : Int) (n : Nat) (v0 : 0 ≤ v) (v1 : v < 4294967296) (hn : n ≤ 32)
    (hQ : ∀ w, Sat E w (Enc b (st.direct v n) :: M) → Q (.int .i64 0) w) :
    Calls Tryz.prog 247 #[.pointer (some ⟨b, 0, none⟩), .int .u32 v, .int .i64 n] w (retP Q) := by
  refine Direct_ok hS hk v n v0 v1 fun w hS => ?_
  rw [if_pos (by omega), Int.toNat_natCast] at hS
  rw [if_pos (by omega)]
  exact hQ w hS
theorem Size_ok (hS : Sat E w (Enc b st :: M)) (hk : st.k ≤ 140737488355328) (hQ : ∀ w, Sat E w (Enc b st :: M) → Q (.int .i64 (st.k + 5 : Nat)) w) :
    Calls Tryz.prog 86 #[.pointer (some ⟨b, 0, none⟩)] w (retP Q) := by
  refine rcenc_Encoder_Size.calls ?_
  unfold rcenc_Encoder_Size.F
  obtain ⟨e, hr, ho, hS⟩ := Enc.opn hS
  obtain ⟨s, hS⟩ := EncE.opn hS
  have j := hr.len
  repeat' (first | refine pL_l hS (by first | rfl | assumption) ?_ | (refine pDr_go hS ?_; clear hS; intro w hS) | refine pA_v (hk := ?_) | fail)
  have e1 : ((e.out.length : Int) + 1 + (e.wait : Int) + 4) = ((st.k + 5 : Nat) : Int) := by omega
  rw [e1]
  exact hQ _ (Enc.shut (EncE.shut (b := b) (s := s) hS e rfl rfl) hr ho)

theorem ForkE_ok (hS : Sat E w (EncE b e :: M)) (hk : e.out.length + e.wait + 8 ≤ 140737488355328) (hQ : ∀ c w, Sat E w (EncE c e :: EncE b e :: M) → Q (.pointer (some ⟨c, 0, none⟩)) w) :
    Calls Tryz.prog 82 #[.pointer (some ⟨b, 0, none⟩)] w (retP Q) := by
  refine rcenc_Encoder_Fork.calls ?_
  unfold rcenc_Encoder_Fork.F
  obtain ⟨s0, hS⟩ := EncE.opn hS
  repeat' (first | refine pL_l hS (by first | rfl | assumption) ?_ | refine pN_la hS (by rfl) ?_ | (refine pN_s hS (by first | exact Nat.le_of_ble_eq_true rfl | assumption) (by rfl) ?_; clear hS; intro w hS; try simp only [List.set_cons_zero, List.set_cons_succ] at hS) | (refine pN_sa hS (by rfl) (by rfl) (by rfl) ?_; clear hS; intro w hS; try dsimp only at hS) | (refine pDr_go hS ?_; clear hS; intro w hS) | (refine pN_nz hS ?_; clear hS; intro a w hS) | refine ⟨trivial, ?_⟩ | refine ⟨⟨(by first | exact run_l hS (by first | rfl | assumption) | exact run_st hS (by first | rfl | omega) | exact run_ld1 ha hS | exact fun _ => run_l hS (by rfl) | exact fun _ => run_st hS (by first | rfl | omega) | exact fun _ => run_ld1 ha hS | exact fun h => Bool.noConfusion h), trivial⟩, ?_⟩ | (refine pN_app hS (by first | rfl | omega | simpa only [go_sem] using True.intro | (simp only [go_sem]; omega)) (by first | rfl | omega | simpa only [go_sem] using True.intro | (simp only [go_sem]; omega)) (by first | omega | (simp only [go_sem]; omega)) ?_; clear hS; intro s w hS) | (refine pN_mk0 hS _ (by first | rfl | (exact (Int.toNat_of_nonneg (by omega)).symm)) (by first | omega | (simp only [go_sem]; omega)) ?_; clear hS; intro s w hS) | refine pN_v (hk := ?_) | refine pA_v (hk := ?_) | fail)
  exact hQ _ _ (EncE.shut (b := a) (s := s) (EncE.shut (b := b) (s := s0) hS e rfl rfl) e rfl rfl)

theorem Fork_ok' (hS : Sat E w (Enc b st :: M)) (hk : st.k + 8 ≤ 140737488355328) (hQ : ∀ c w, Sat E w (Enc c st :: Enc b st :: M) → Q (.pointer (some ⟨c, 0, none⟩)) w) :
    Calls Tryz.prog 82 #[.pointer (some ⟨b, 0, none⟩)] w (retP Q) := by
  obtain ⟨e, hr, ho, hS⟩ := Enc.opn hS
  have j := hr.len
  refine ForkE_ok hS (by omega) fun c w hS => hQ c w ?_
  exact (Enc.shut ((Enc.shut hS hr ho).fd (EncE b)) hr ho).to

theorem Bytes_ok (hS : Sat E w (Enc b st :: M)) (hk : st.k + 18 ≤ 140737488355328) (hQ : ∀ s w, Sat E w (rows cd_uint8 s st.bytes :: Enc b st :: M) → Q (.slice s.a st.bytes.length s.c) w) :
    Calls Tryz.prog 76 #[.pointer (some ⟨b, 0, none⟩)] w (retP Q) := by
  refine rcenc_Encoder_Bytes.calls ?_
  unfold rcenc_Encoder_Bytes.F
  obtain ⟨e, hr, ho, hS⟩ := Enc.opn hS
  have j := hr.len
  have j1 := hr.rng
  have j2 := ho.r1
  refine pc_rcenc_Encoder_Fork (ForkE_ok hS (by omega) fun c w hS => ?_)
  have hS := Enc.shut (hS.fd (EncE b)) hr ho
  refine ⟨fun x w => ∃ (m : Nat) (e' : R.E) (st' : R.S), x = .int .i64 m ∧ m ≤ 5 ∧ R.Rep e' st' ∧ e'.rng < 4294967296 ∧ st'.k = st.k + m ∧ e.shifts m = e' ∧ Sat E w (EncE c e' :: Enc b st :: M), fun x _ => 5 - (RowKit.intOf x).toNat,
    ⟨0, e, st, rfl, by omega, hr, by omega, rfl, rfl, hS.to⟩, ?_⟩
  clear hS
  rintro _ _ w ⟨m, e', st', rfl, hm, hr', h1, h2, h3, hS⟩
  have k1 := hr'.inv.l0
  have k2 := hr'.inv.sum
  have k3 := hr'.inv.r0
  have k4 := hr'.len
  repeat' (first | (refine pN_lss_s ?_ ?_ <;> intro hc <;> try (exfalso; omega)) | refine pIf_t ?_ | refine pIf_f ?_ | refine pN_v (hk := ?_) | fail)
  · refine pc_rcenc_Encoder_shift (shift_ok hS k1 (by omega) (by omega) fun w hS => ?_)
    repeat' (first | refine pN_v (hk := ?_) | fail)
    refine ⟨⟨m + 1, _, _, rfl, by omega, hr'.shift0 h1, by rw [R.shift_rng]; exact h1, by simp only; omega, ?_, hS⟩, by simp [RowKit.intOf] <;> omega⟩
    rw [R.E.shifts, h3]
  · obtain rfl : m = 5 := by omega
    have hb := (hr.bytes (by omega)).1
    have e1 : e.shifts 5 = e.shift.shift.shift.shift.shift := rfl
    rw [← e1, h3] at hb
    obtain ⟨s, hS⟩ := EncE.opn hS
    repeat' (first | refine pN_l hS (by first | rfl | assumption) ?_ | fail)
    rw [hb] at hS ⊢
    exact hQ _ _ hS.to
end

end Go.Proofs.YtbgnnjfpiblkmaaGreatDoor

namespace Go.Proofs.YtbgnnjfpiblkmaaGreatDoor
open Go
attribute [local irreducible] oMv oV oU oCall oCallV oBi oBin oUn oLoad oStore oNil oFld oField oIdx oIndex oPick oAlloc oBox oBuild oBs oConv oMk oSl oExt oFn oIface oMap oLook oMapUp oRange oNext oEntry oInv oAssert oPanic oRes pN pA pL pDr pIf gA pGd

section
variable {E w : World} {M : List HA} {Q : Value → World → Prop} {b p : Nat} {s : R.S} {l : List Int}

theorem order_ok (back : Bool) (n k : Nat) (hk : k < n) (hn : n ≤ 16) (hQ : Q (.int .i64 (if back then k else n - 1 - k : Nat)) w) : Calls Tryz.prog 222 #[.bool back, .int .i64 n, .int .i64 k] w (retP Q) := by
  refine tree_order.calls ?_
  unfold tree_order.F
  cases back
  · repeat' (first | refine pIf_f ?_ | refine pN_v (hk := ?_) | fail)
    have e : (n : Int) - 1 - k = ((n - 1 - k : Nat) : Int) := by omega
    rw [e]; exact hQ
  · repeat' (first | refine pIf_t ?_ | fail)
    exact hQ

theorem there_ok (hS : Sat E w (PSet p l :: M)) (at_ n : Int) (hQ : ∀ w, Sat E w (PSet p l :: M) → Q (.bool (decide (R.There l.length at_ n))) w) : Calls Tryz.prog 219 #[.pointer (some ⟨p, 0, none⟩), .int .i64 at_, .int .i64 n] w (retP Q) := by
  refine tree_there.calls ?_
  unfold tree_there.F
  obtain ⟨sl, hS'⟩ := PSet.opn hS
  have hlen := rows_len (C := cd_int) sl hS'
  have shl : ∀ (w : World) (J : Value → Prop), 0 ≤ n → n ≤ 16 → J (.int .i64 (2 ^ n.toNat)) → pA Tryz.prog (oBin .shl 3 (.const (.int .i64 1)) (.tmp 24) (.int .i64 1) (.int .i64 n)) J := by
    intro w J h0 h1 h
    refine pA_shl_k n.toNat (Int.toNat_of_nonneg h0).symm (by show _ ≤ 64; omega) ?_
    have e : (1 : Int) * 2 ^ n.toNat = 2 ^ n.toNat := Int.one_mul _
    have h2 : (2 : Int) ^ n.toNat ≤ 2 ^ 16 := R.two_le (by omega)
    have h3 : (0 : Int) < 2 ^ n.toNat := Int.pow_pos (by omega)
    have e2 : (2 : Int) ^ 16 = 65536 := by decide
    rw [e, wrap_i64 (by omega)]
    exact h
  have fin : ∀ w b, (b = true ↔ R.There l.length at_ n) → Sat E w (PSet p l :: M) → Q (.bool b) w := by
    intro w b hb hS
    have := hQ w hS
    by_cases h : R.There l.length at_ n
    · rw [decide_eq_true h] at this
      rw [hb.2 h]; exact this
    · rw [decide_eq_false h] at this
      have : b = false := by
        cases b
        · rfl
        · exact absurd (hb.1 rfl) h
      rw [this]; assumption
  repeat' (first | (refine pc_prob_Set_Len (Len_ok (hS.fd (PSet p)) ?_); clear hS; intro w hS) | refine shl w _ (by omega) (by omega) ?_ | ((first | refine pA_leq_s ?_ ?_ | refine pA_geq_s ?_ ?_) <;> intro hc <;> try (exfalso; omega)) | refine gA_go (by rfl) ?_ | refine gA_no (by rfl) ?_ | refine pGd_go (by rfl) ?_ | refine pGd_no (by rfl) ?_ | (refine pDr_go hS ?_; clear hS; intro w hS) | refine ⟨trivial, ?_⟩ | refine pA_v (hk := ?_) | fail)
  all_goals
    refine fin _ _ ?_ hS
    unfold R.There
    first
      | (refine ⟨fun _ => (by omega), fun _ => rfl⟩)
      | (refine ⟨fun h => (by cases h), fun h => (by omega)⟩)

theorem holds_ok (v n : Int) (h0 : 0 ≤ n) (h1 : n ≤ 16) (hQ : Q (.bool (decide (R.Holds v n))) w) : Calls Tryz.prog 251 #[.int .i64 v, .int .i64 n] w (retP Q) := by
  refine tree_holds.calls ?_
  unfold tree_holds.F
  have shl : ∀ (w : World) (K : Value → World → Prop), K (.int .i64 (2 ^ n.toNat)) w → pN Tryz.prog (oBin .shl 3 (.const (.int .i64 1)) (.tmp 9) (.int .i64 1) (.int .i64 n)) w K := by
    intro w K h
    refine pN_shl_k n.toNat (Int.toNat_of_nonneg h0).symm (by show _ ≤ 64; omega) ?_
    have e : (1 : Int) * 2 ^ n.toNat = 2 ^ n.toNat := Int.one_mul _
    have h2 : (2 : Int) ^ n.toNat ≤ 2 ^ 16 := R.two_le (by omega)
    have h3 : (0 : Int) < 2 ^ n.toNat := Int.pow_pos (by omega)
    have e2 : (2 : Int) ^ 16 = 65536 := by decide
    rw [e, wrap_i64 (by omega)]
    exact h
  have fin : ∀ b, (b = true ↔ R.Holds v n) → Q (.bool b) w := by
    intro b hb
    by_cases h : R.Holds v n
    · rw [decide_eq_true h] at hQ
      rw [hb.2 h]; exact hQ
    · rw [decide_eq_false h] at hQ
      have : b = false := by
        cases b
        · rfl
        · exact absurd (hb.1 rfl) h
      rw [this]; exact hQ
  repeat' (first | refine shl w _ ?_ | ((first | refine pN_lss_s ?_ ?_ | refine pN_geq_s ?_ ?_) <;> intro hc <;> try (exfalso; omega)) | refine pGd_go (by rfl) ?_ | refine pGd_no (by rfl) ?_ | refine pN_v (hk := ?_) | fail)
  all_goals
    refine fin _ ?_
    unfold R.Holds
    first
      | (refine ⟨fun _ => (by omega), fun _ => rfl⟩)
      | (refine ⟨fun h => (by cases h), fun h => (by omega)⟩)

theorem down_ok (at_ : Int) (n : Nat) (g : Value) (bs : Nat → Int) (hb : ∀ k, 0 ≤ bs k ∧ bs k ≤ 1) (hn : n ≤ 16) (h0 : 0 ≤ at_) (h1 : at_ ≤ 1099511627776) (Inv : Nat → World → Prop)
    (hI : Inv 0 w) (step : ∀ k w (K : Value → World → Prop), k < n → Inv k w → (∀ w, Inv (k + 1) w → K (.tuple #[.int .i64 (bs k), .int .i64 0]) w) → pN Tryz.prog (oCallV g [.int .i64 (at_ + R.node bs k), .int .i64 k]) w K)
    (hQ : ∀ w, Inv n w → Q (.int .i64 0) w) : Calls Tryz.prog 220 #[.int .i64 at_, .int .i64 n, g] w (retP Q) := by
  refine tree_down.calls ?_
  unfold tree_down.F
  refine ⟨fun m v w => ∃ k : Nat, m = .int .i64 (R.node bs k) ∧ v = .int .i64 k ∧ k ≤ n ∧ Inv k w, fun _ v _ => n - (RowKit.intOf v).toNat, ⟨0, rfl, rfl, Nat.zero_le _, hI⟩, ?_⟩
  rintro _ _ _ w1 ⟨k, rfl, rfl, hk, hI⟩
  have hm := R.node_lo hb k
  have h2 : (2 : Int) ^ (k + 1) ≤ 2 ^ 17 := R.two_le (by omega)
  have h3 : (0 : Int) < 2 ^ k := Int.pow_pos (by omega)
  have e2 : (2 : Int) ^ 17 = 131072 := by decide
  have hbk := hb k
  repeat' (first | (refine pN_lss_s ?_ ?_ <;> intro hc <;> try (exfalso; omega)) | refine pIf_t ?_ | refine pIf_f ?_ | refine pN_v (hk := ?_) | fail)
  · refine step k _ _ (by omega) hI fun w hI => ?_
    repeat' (first | (refine pN_neq_s ?_ ?_ <;> intro hc <;> try (exfalso; first | omega | exact hc rfl | exact hc (by assumption) | exact absurd hc (by assumption))) | refine pIf_f ?_ | refine pN_v (hk := ?_) | fail)
    exact ⟨⟨k + 1, rfl, rfl, by omega, hI⟩, by simp [RowKit.intOf] <;> omega⟩
  · obtain rfl : k = n := by omega
    exact hQ _ hI

theorem put_c1_ok {c1 c2 c3 c4 c5 : Nat} {v : Int} {back : Bool} {n k : Nat} (place : Int)
    (hS : Sat E w (Enc b s :: PSet p l :: cel c1 ⟨3, [.int .i64 v]⟩ :: cel c2 ⟨4, [.bool back]⟩ :: cel c3 ⟨3, [.int .i64 n]⟩ :: cel c4 ⟨125, [.pointer (some ⟨b, 0, none⟩)]⟩ :: cel c5 ⟨137, [.pointer (some ⟨p, 0, none⟩)]⟩ :: M))
    (hf : B.Fine l) (hs : s.k + 10 ≤ 140737488355328) (hk : k < n) (hn : n ≤ 16) (p0 : 0 ≤ place) (p1 : place < l.length)
    (hQ : ∀ w, Sat E w (Enc b (R.TS.bit ⟨s, l⟩ place (R.bitAt back n v k)).s :: PSet p (R.TS.bit ⟨s, l⟩ place (R.bitAt back n v k)).l :: cel c1 ⟨3, [.int .i64 v]⟩ :: cel c2 ⟨4, [.bool back]⟩ :: cel c3 ⟨3, [.int .i64 n]⟩ :: cel c4 ⟨125, [.pointer (some ⟨b, 0, none⟩)]⟩ :: cel c5 ⟨137, [.pointer (some ⟨p, 0, none⟩)]⟩ :: M) → Q (.tuple #[.int .i64 (R.bitAt back n v k), .int .i64 0]) w) :
    Calls Tryz.prog 252 #[.int .i64 place, .int .i64 k, .pointer (some ⟨c1, 0, none⟩), .pointer (some ⟨c2, 0, none⟩), .pointer (some ⟨c3, 0, none⟩), .pointer (some ⟨c4, 0, none⟩), .pointer (some ⟨c5, 0, none⟩)] w (retP Q) := by
  simp only [R.TS.bit, R.bitAt] at hQ
  refine tree_put_c1.calls ?_
  unfold tree_put_c1.F
  have hx : l[place.toNat]? = some (l.getD place.toNat 0) := by
    rw [List.getD_eq_getElem?_getD, List.getElem?_eq_getElem (show place.toNat < l.length by omega)]; rfl
  have hj : (if back then k else n - 1 - k) ≤ 64 := by split <;> omega
  repeat' (first | refine pc_tree_order (order_ok back n k hk hn ?_) | refine pA_shr_k _ rfl hj ?_ | (refine pc_rcenc_Encoder_Bit (Bit_in (hS.fd2 (Enc b) (PSet p)) hf hs _ _ p0 hx ?_); clear hS; intro w hS) | refine pN_l hS (by first | rfl | assumption) ?_ | refine pL_l hS (by first | rfl | assumption) ?_ | (refine pDr_go hS ?_; clear hS; intro w hS) | refine ⟨⟨(by first | exact run_l hS (by first | rfl | assumption) | exact run_st hS (by first | rfl | omega) | exact run_ld1 ha hS | exact fun _ => run_l hS (by rfl) | exact fun _ => run_st hS (by first | rfl | omega) | exact fun _ => run_ld1 ha hS | exact fun h => Bool.noConfusion h), trivial⟩, ?_⟩ | refine pA_v (hk := ?_) | fail)
  exact hQ _ hS.to

theorem put_ok (hS : Sat E w (Enc b s :: PSet p l :: M)) (ho : R.Ok s) (hf : B.Fine l) (hs : s.k + 100 ≤ 140737488355328) (at_ n v : Int) (back : Bool) (hl : l.length ≤ 1048576)
    (hQ : ∀ w, Sat E w (Enc b (if R.There l.length at_ n ∧ R.Holds v n then R.TS.put ⟨s, l⟩ at_ (R.bitAt back n.toNat v) n.toNat else ⟨s, l⟩).s :: PSet p (if R.There l.length at_ n ∧ R.Holds v n then R.TS.put ⟨s, l⟩ at_ (R.bitAt back n.toNat v) n.toNat else ⟨s, l⟩).l :: M) →
      Q (.int .i64 (if R.There l.length at_ n ∧ R.Holds v n then 0 else 7)) w) :
    Calls Tryz.prog 249 #[.pointer (some ⟨b, 0, none⟩), .pointer (some ⟨p, 0, none⟩), .int .i64 at_, .int .i64 n, .int .i64 v, .bool back] w (retP Q) := by
  refine tree_put.calls ?_
  unfold tree_put.F
  by_cases ht : R.There l.length at_ n
  · by_cases hh : R.Holds v n
    · have hc : R.There l.length at_ n ∧ R.Holds v n := ⟨ht, hh⟩
      simp only [if_pos hc] at hQ
      have ht' := ht
      obtain ⟨n0, n1, a0, a1, a2⟩ := ht'
      refine pN_bx hS (by rfl) fun c4 w hS => ?_
      refine pN_bx hS (by rfl) fun c5 w hS => ?_
      refine pN_bx hS (by rfl) fun c3 w hS => ?_
      refine pN_bx hS (by rfl) fun c1 w hS => ?_
      refine pN_bx hS (by rfl) fun c2 w hS => ?_
      have t1 : decide (R.There l.length at_ n) = true := decide_eq_true ht
      have t2 : decide (R.Holds v n) = true := decide_eq_true hh
      repeat' (first | (refine pc_tree_there (there_ok (hS.fd (PSet p)) _ _ ?_); rw [t1]; clear hS; intro w hS) | (refine pc_tree_holds (holds_ok _ _ n0 n1 ?_); rw [t2]) | refine pIf_f ?_ | refine pGd_go (by rfl) ?_ | refine pN_l hS (by first | rfl | assumption) ?_ | refine pN_fn ?_ | refine pN_v (hk := ?_) | fail)
      obtain ⟨m, rfl⟩ : ∃ m : Nat, n = m := ⟨n.toNat, by omega⟩
      rw [Int.toNat_natCast] at hQ
      have hb := R.bitAt_01 back m v
      have oa : R.TS.Ok ⟨s, l⟩ := ⟨ho, hf⟩
      refine pc_tree_down (down_ok at_ m _ (R.bitAt back m v) hb (by omega) a0 (by omega)
        (fun k w => Sat E w (Enc b (R.TS.put ⟨s, l⟩ at_ (R.bitAt back m v) k).s :: PSet p (R.TS.put ⟨s, l⟩ at_ (R.bitAt back m v) k).l :: cel c1 ⟨3, [.int .i64 v]⟩ :: cel c2 ⟨4, [.bool back]⟩ :: cel c3 ⟨3, [.int .i64 m]⟩ :: cel c4 ⟨125, [.pointer (some ⟨b, 0, none⟩)]⟩ :: cel c5 ⟨137, [.pointer (some ⟨p, 0, none⟩)]⟩ :: M)) (by simp only [R.TS.put, R.costs]; exact hS.to) ?_ ?_)
      · intro k w K hk hS hK
        have ⟨o1, o2⟩ := oa.put ht hb k (by rw [Int.toNat_natCast]; omega)
        have hp := ht.place hb (k := k) (by rw [Int.toNat_natCast]; omega)
        have hlen := R.TS.put_len ⟨s, l⟩ at_ (R.bitAt back m v) k
        simp only at o2 hlen
        refine pv_tree_put_c1 (put_c1_ok _ hS o1.f (by omega) hk (by omega) hp.1 (by omega) fun w hS => hK w hS)
      · intro w hS
        skip
        exact hQ _ hS.to
    · have hc : ¬ (R.There l.length at_ n ∧ R.Holds v n) := fun h => hh h.2
      simp only [if_neg hc] at hQ
      have ht' := ht
      obtain ⟨n0, n1, a0, a1, a2⟩ := ht'
      have t1 : decide (R.There l.length at_ n) = true := decide_eq_true ht
      have t2 : decide (R.Holds v n) = false := decide_eq_false hh
      repeat' (first | (refine pc_tree_there (there_ok (hS.fd (PSet p)) _ _ ?_); rw [t1]; clear hS; intro w hS) | (refine pc_tree_holds (holds_ok _ _ n0 n1 ?_); rw [t2]) | refine pIf_t ?_ | refine pGd_go (by rfl) ?_ | refine pN_l hS (by first | rfl | assumption) ?_ | (refine pN_bx hS (by rfl) ?_; clear hS; intro a w hS) | refine pN_v (hk := ?_) | fail)
      exact hQ _ hS.to
  · have hc : ¬ (R.There l.length at_ n ∧ R.Holds v n) := fun h => ht h.1
    simp only [if_neg hc] at hQ
    have t1 : decide (R.There l.length at_ n) = false := decide_eq_false ht
    repeat' (first | (refine pc_tree_there (there_ok (hS.fd (PSet p)) _ _ ?_); rw [t1]; clear hS; intro w hS) | refine pIf_t ?_ | refine pGd_no (by rfl) ?_ | refine pN_l hS (by first | rfl | assumption) ?_ | (refine pN_bx hS (by rfl) ?_; clear hS; intro a w hS) | refine pN_v (hk := ?_) | fail)
    exact hQ _ hS.to

theorem cost_c1_ok {c1 c2 c3 c4 c5 : Nat} {v sum : Int} {back : Bool} {n k : Nat} (place : Int)
    (hS : Sat E w (PSet p l :: cel c5 ⟨3, [.int .i64 sum]⟩ :: cel c1 ⟨3, [.int .i64 v]⟩ :: cel c2 ⟨4, [.bool back]⟩ :: cel c3 ⟨3, [.int .i64 n]⟩ :: cel c4 ⟨137, [.pointer (some ⟨p, 0, none⟩)]⟩ :: M))
    (hk : k < n) (hn : n ≤ 16) (p0 : 0 ≤ place) (p1 : place < l.length) (s0 : -1000000 ≤ sum) (s1 : sum ≤ 1000000)
    (hQ : ∀ w, Sat E w (PSet p l :: cel c5 ⟨3, [.int .i64 (sum + B.cost (l.getD place.toNat 0) (R.bitAt back n v k))]⟩ :: cel c1 ⟨3, [.int .i64 v]⟩ :: cel c2 ⟨4, [.bool back]⟩ :: cel c3 ⟨3, [.int .i64 n]⟩ :: cel c4 ⟨137, [.pointer (some ⟨p, 0, none⟩)]⟩ :: M) → Q (.tuple #[.int .i64 (R.bitAt back n v k), .int .i64 0]) w) :
    Calls Tryz.prog 262 #[.int .i64 place, .int .i64 k, .pointer (some ⟨c1, 0, none⟩), .pointer (some ⟨c2, 0, none⟩), .pointer (some ⟨c3, 0, none⟩), .pointer (some ⟨c4, 0, none⟩), .pointer (some ⟨c5, 0, none⟩)] w (retP Q) := by
  simp only [R.bitAt] at hQ
  refine tree_cost_c1.calls ?_
  unfold tree_cost_c1.F
  have hx : l[place.toNat]? = some (l.getD place.toNat 0) := by
    rw [List.getD_eq_getElem?_getD, List.getElem?_eq_getElem (show place.toNat < l.length by omega)]; rfl
  have hj : (if back then k else n - 1 - k) ≤ 64 := by split <;> omega
  have hc := B.cost_small (l.getD place.toNat 0) (v / 2 ^ (if back then k else n - 1 - k) % 2)
  repeat' (first | refine pc_tree_order (order_ok back n k hk hn ?_) | refine pA_shr_k _ rfl hj ?_ | (refine pc_prob_Set_At (At_in (hS.fd (PSet p)) _ p0 hx ?_); clear hS; intro w hS) | refine pc_prob_Cost (Cost_ok _ _ ?_) | refine pN_l hS (by first | rfl | assumption) ?_ | refine pL_l hS (by first | rfl | assumption) ?_ | (refine pN_s hS (by first | exact Nat.le_of_ble_eq_true rfl | assumption) (by rfl) ?_; clear hS; intro w hS; try simp only [List.set_cons_zero, List.set_cons_succ] at hS) | (refine pDr_go hS ?_; clear hS; intro w hS) | refine ⟨trivial, ?_⟩ | refine ⟨⟨(by first | exact run_l hS (by first | rfl | assumption) | exact run_st hS (by first | rfl | omega) | exact run_ld1 ha hS | exact fun _ => run_l hS (by rfl) | exact fun _ => run_st hS (by first | rfl | omega) | exact fun _ => run_ld1 ha hS | exact fun h => Bool.noConfusion h), trivial⟩, ?_⟩ | refine pN_v (hk := ?_) | refine pA_v (hk := ?_) | fail)
  exact hQ _ hS.to

theorem cost_ok (hS : Sat E w (PSet p l :: M)) (at_ n v : Int) (back : Bool) (hl : l.length ≤ 1048576)
    (hQ : ∀ w, Sat E w (PSet p l :: M) → Q (.tuple #[.int .i64 (if R.There l.length at_ n ∧ R.Holds v n then R.costs l at_ (R.bitAt back n.toNat v) n.toNat else 0), .int .i64 (if R.There l.length at_ n ∧ R.Holds v n then 0 else 7)]) w) :
    Calls Tryz.prog 260 #[.pointer (some ⟨p, 0, none⟩), .int .i64 at_, .int .i64 n, .int .i64 v, .bool back] w (retP Q) := by
  refine tree_cost.calls ?_
  unfold tree_cost.F
  by_cases ht : R.There l.length at_ n
  · by_cases hh : R.Holds v n
    · have hc : R.There l.length at_ n ∧ R.Holds v n := ⟨ht, hh⟩
      simp only [if_pos hc] at hQ
      have ht' := ht
      obtain ⟨n0, n1, a0, a1, a2⟩ := ht'
      refine pN_bx hS (by rfl) fun c4 w hS => ?_
      refine pN_bx hS (by rfl) fun c3 w hS => ?_
      refine pN_bx hS (by rfl) fun c1 w hS => ?_
      refine pN_bx hS (by rfl) fun c2 w hS => ?_
      have t1 : decide (R.There l.length at_ n) = true := decide_eq_true ht
      have t2 : decide (R.Holds v n) = true := decide_eq_true hh
      repeat' (first | (refine pc_tree_there (there_ok (hS.fd (PSet p)) _ _ ?_); rw [t1]; clear hS; intro w hS) | (refine pc_tree_holds (holds_ok _ _ n0 n1 ?_); rw [t2]) | (refine pN_nz hS ?_; clear hS; intro c5 w hS) | refine pIf_f ?_ | refine pGd_go (by rfl) ?_ | refine pN_l hS (by first | rfl | assumption) ?_ | (refine pN_s hS (by first | exact Nat.le_of_ble_eq_true rfl | assumption) (by rfl) ?_; clear hS; intro w hS; try simp only [List.set_cons_zero, List.set_cons_succ] at hS) | refine pN_fn ?_ | refine pN_v (hk := ?_) | fail)
      obtain ⟨m, rfl⟩ : ∃ m : Nat, n = m := ⟨n.toNat, by omega⟩
      rw [Int.toNat_natCast] at hQ
      have hb := R.bitAt_01 back m v
      refine pc_tree_down (down_ok at_ m _ (R.bitAt back m v) hb (by omega) a0 (by omega)
        (fun k w => Sat E w (PSet p l :: cel c5 ⟨3, [.int .i64 (R.costs l at_ (R.bitAt back m v) k)]⟩ :: cel c1 ⟨3, [.int .i64 v]⟩ :: cel c2 ⟨4, [.bool back]⟩ :: cel c3 ⟨3, [.int .i64 m]⟩ :: cel c4 ⟨137, [.pointer (some ⟨p, 0, none⟩)]⟩ :: M)) (by simp only [R.TS.put, R.costs]; exact hS.to) ?_ ?_)
      · intro k w K hk hS hK
        have hp := ht.place hb (k := k) (by rw [Int.toNat_natCast]; omega)
        have hs := R.costs_small l at_ (R.bitAt back m v) k
        refine pv_tree_cost_c1 (cost_c1_ok _ hS hk (by omega) hp.1 (by omega) (by omega) (by omega) fun w hS => hK w hS)
      · intro w hS
        repeat' (first | refine pN_l hS (by first | rfl | assumption) ?_ | fail)
        exact hQ _ hS.to
    · have hc : ¬ (R.There l.length at_ n ∧ R.Holds v n) := fun h => hh h.2
      simp only [if_neg hc] at hQ
      have ht' := ht
      obtain ⟨n0, n1, a0, a1, a2⟩ := ht'
      have t1 : decide (R.There l.length at_ n) = true := decide_eq_true ht
      have t2 : decide (R.Holds v n) = false := decide_eq_false hh
      repeat' (first | (refine pc_tree_there (there_ok (hS.fd (PSet p)) _ _ ?_); rw [t1]; clear hS; intro w hS) | (refine pc_tree_holds (holds_ok _ _ n0 n1 ?_); rw [t2]) | refine pIf_t ?_ | refine pGd_go (by rfl) ?_ | refine pN_l hS (by first | rfl | assumption) ?_ | (refine pN_bx hS (by rfl) ?_; clear hS; intro a w hS) | refine pN_v (hk := ?_) | fail)
      exact hQ _ hS.to
  · have hc : ¬ (R.There l.length at_ n ∧ R.Holds v n) := fun h => ht h.1
    simp only [if_neg hc] at hQ
    have t1 : decide (R.There l.length at_ n) = false := decide_eq_false ht
    repeat' (first | (refine pc_tree_there (there_ok (hS.fd (PSet p)) _ _ ?_); rw [t1]; clear hS; intro w hS) | refine pIf_t ?_ | refine pGd_no (by rfl) ?_ | refine pN_l hS (by first | rfl | assumption) ?_ | (refine pN_bx hS (by rfl) ?_; clear hS; intro a w hS) | refine pN_v (hk := ?_) | fail)
    exact hQ _ hS.to

theorem Put_ok (hS : Sat E w (Enc b s :: PSet p l :: M)) (ho : R.Ok s) (hf : B.Fine l) (hs : s.k + 100 ≤ 140737488355328) (at_ n v : Int) (hl : l.length ≤ 1048576)
    (hQ : ∀ w, Sat E w (Enc b (if R.There l.length at_ n ∧ R.Holds v n then R.TS.put ⟨s, l⟩ at_ (R.bitAt false n.toNat v) n.toNat else ⟨s, l⟩).s :: PSet p (if R.There l.length at_ n ∧ R.Holds v n then R.TS.put ⟨s, l⟩ at_ (R.bitAt false n.toNat v) n.toNat else ⟨s, l⟩).l :: M) →
      Q (.int .i64 (if R.There l.length at_ n ∧ R.Holds v n then 0 else 7)) w) :
    Calls Tryz.prog 248 #[.pointer (some ⟨b, 0, none⟩), .pointer (some ⟨p, 0, none⟩), .int .i64 at_, .int .i64 n, .int .i64 v] w (retP Q) := by
  refine tree_Put.calls ?_
  unfold tree_Put.F
  refine pc_tree_put (put_ok hS ho hf hs at_ n v false hl fun w hS => ?_)
  exact hQ w hS
theorem Put_in (hS : Sat E w (Enc b s :: PSet p l :: M)) (ho : R.Ok s) (hf : B.Fine l) (hs : s.k + 100 ≤ 140737488355328) (at_ n v : Int) (hl : l.length ≤ 1048576) (ht : R.There l.length at_ n) (hh : R.Holds v n)
    (hQ : ∀ w, Sat E w (Enc b (R.TS.put ⟨s, l⟩ at_ (R.bitAt false n.toNat v) n.toNat).s :: PSet p (R.TS.put ⟨s, l⟩ at_ (R.bitAt false n.toNat v) n.toNat).l :: M) → Q (.int .i64 0) w) :
    Calls Tryz.prog 248 #[.pointer (some ⟨b, 0, none⟩), .pointer (some ⟨p, 0, none⟩), .int .i64 at_, .int .i64 n, .int .i64 v] w (retP Q) := by
  refine Put_ok hS ho hf hs at_ n v hl fun w hS => ?_
  rw [if_pos ⟨ht, hh⟩] at hS ⊢
  exact hQ w hS

theorem PutBack_ok (hS : Sat E w (Enc b s :: PSet p l :: M)) (ho : R.Ok s) (hf : B.Fine l) (hs : s.k + 100 ≤ 140737488355328) (at_ n v : Int) (hl : l.length ≤ 1048576)
    (hQ : ∀ w, Sat E w (Enc b (if R.There l.length at_ n ∧ R.Holds v n then R.TS.put ⟨s, l⟩ at_ (R.bitAt true n.toNat v) n.toNat else ⟨s, l⟩).s :: PSet p (if R.There l.length at_ n ∧ R.Holds v n then R.TS.put ⟨s, l⟩ at_ (R.bitAt true n.toNat v) n.toNat else ⟨s, l⟩).l :: M) →
      Q (.int .i64 (if R.There l.length at_ n ∧ R.Holds v n then 0 else 7)) w) :
    Calls Tryz.prog 245 #[.pointer (some ⟨b, 0, none⟩), .pointer (some ⟨p, 0, none⟩), .int .i64 at_, .int .i64 n, .int .i64 v] w (retP Q) := by
  refine tree_PutBack.calls ?_
  unfold tree_PutBack.F
  refine pc_tree_put (put_ok hS ho hf hs at_ n v true hl fun w hS => ?_)
  exact hQ w hS
theorem PutBack_in (hS : Sat E w (Enc b s :: PSet p l :: M)) (ho : R.Ok s) (hf : B.Fine l) (hs : s.k + 100 ≤ 140737488355328) (at_ n v : Int) (hl : l.length ≤ 1048576) (ht : R.There l.length at_ n) (hh : R.Holds v n)
    (hQ : ∀ w, Sat E w (Enc b (R.TS.put ⟨s, l⟩ at_ (R.bitAt true n.toNat v) n.toNat).s :: PSet p (R.TS.put ⟨s, l⟩ at_ (R.bitAt true n.toNat v) n.toNat).l :: M) → Q (.int .i64 0) w) :
    Calls Tryz.prog 245 #[.pointer (some ⟨b, 0, none⟩), .pointer (some ⟨p, 0, none⟩), .int .i64 at_, .int .i64 n, .int .i64 v] w (retP Q) := by
  refine PutBack_ok hS ho hf hs at_ n v hl fun w hS => ?_
  rw [if_pos ⟨ht, hh⟩] at hS ⊢
  exact hQ w hS

theorem TCost_ok (hS : Sat E w (PSet p l :: M)) (at_ n v : Int) (hl : l.length ≤ 1048576)
    (hQ : ∀ w, Sat E w (PSet p l :: M) → Q (.tuple #[.int .i64 (if R.There l.length at_ n ∧ R.Holds v n then R.costs l at_ (R.bitAt false n.toNat v) n.toNat else 0), .int .i64 (if R.There l.length at_ n ∧ R.Holds v n then 0 else 7)]) w) :
    Calls Tryz.prog 259 #[.pointer (some ⟨p, 0, none⟩), .int .i64 at_, .int .i64 n, .int .i64 v] w (retP Q) := by
  refine tree_Cost.calls ?_
  unfold tree_Cost.F
  refine pc_tree_cost (cost_ok hS at_ n v false hl fun w hS => ?_)
  repeat' (first | refine pN_v (hk := ?_) | fail)
  exact hQ w hS
theorem TCost_in (hS : Sat E w (PSet p l :: M)) (at_ n v : Int) (hl : l.length ≤ 1048576) (ht : R.There l.length at_ n) (hh : R.Holds v n)
    (hQ : ∀ w, Sat E w (PSet p l :: M) → Q (.tuple #[.int .i64 (R.costs l at_ (R.bitAt false n.toNat v) n.toNat), .int .i64 0]) w) :
    Calls Tryz.prog 259 #[.pointer (some ⟨p, 0, none⟩), .int .i64 at_, .int .i64 n, .int .i64 v] w (retP Q) := by
  refine TCost_ok hS at_ n v hl fun w hS => ?_
  rw [if_pos ⟨ht, hh⟩, if_pos ⟨ht, hh⟩]
  exact hQ w hS

theorem TCostBack_ok (hS : Sat E w (PSet p l :: M)) (at_ n v : Int) (hl : l.length ≤ 1048576)
    (hQ : ∀ w, Sat E w (PSet p l :: M) → Q (.tuple #[.int .i64 (if R.There l.length at_ n ∧ R.Holds v n then R.costs l at_ (R.bitAt true n.toNat v) n.toNat else 0), .int .i64 (if R.There l.length at_ n ∧ R.Holds v n then 0 else 7)]) w) :
    Calls Tryz.prog 257 #[.pointer (some ⟨p, 0, none⟩), .int .i64 at_, .int .i64 n, .int .i64 v] w (retP Q) := by
  refine tree_CostBack.calls ?_
  unfold tree_CostBack.F
  refine pc_tree_cost (cost_ok hS at_ n v true hl fun w hS => ?_)
  repeat' (first | refine pN_v (hk := ?_) | fail)
  exact hQ w hS
theorem TCostBack_in (hS : Sat E w (PSet p l :: M)) (at_ n v : Int) (hl : l.length ≤ 1048576) (ht : R.There l.length at_ n) (hh : R.Holds v n)
    (hQ : ∀ w, Sat E w (PSet p l :: M) → Q (.tuple #[.int .i64 (R.costs l at_ (R.bitAt true n.toNat v) n.toNat), .int .i64 0]) w) :
    Calls Tryz.prog 257 #[.pointer (some ⟨p, 0, none⟩), .int .i64 at_, .int .i64 n, .int .i64 v] w (retP Q) := by
  refine TCostBack_ok hS at_ n v hl fun w hS => ?_
  rw [if_pos ⟨ht, hh⟩, if_pos ⟨ht, hh⟩]
  exact hQ w hS
end

end Go.Proofs.YtbgnnjfpiblkmaaGreatDoor
