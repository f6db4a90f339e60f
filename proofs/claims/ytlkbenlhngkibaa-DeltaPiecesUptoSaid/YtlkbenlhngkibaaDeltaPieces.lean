/-
  The statement DeltaPieces, walked: two filters beside one another, piece by piece as the document's own; all answers are the caller's.
-/
import Derived.Test.YtlkbenlhngkibaaDeltaPair
import Derived.Test.YtlkbenlhngkibaaTypes
namespace Go.Proofs.Ytlkbenlhngkibaa
open Go

/-- A piece that came in. -/
structure Pc where
  two : Bool
  v : Value
  l : List UInt8
def Pc.cells (p : Pc) : List Value := [.bool p.two, p.v]
theorem Pc.cells_length (p : Pc) : p.cells.length = 2 := rfl

def bnd (k : Nat) : Nat := k * 1048576
theorem bnd_succ (k : Nat) : bnd (k + 1) = bnd k + 1048576 := by unfold bnd; omega
theorem bnd_le (k : Nat) (h : k ≤ 1048576) : bnd k ≤ 1099511627776 := Nat.mul_le_mul_right 1048576 h

def Pair (b r : Nat) (n : Int) (back : Bool) (l : List UInt8) : HA := fun hp => Sats [Ft b n back l, Ref r n back l] hp

theorem run_build_ref (n : Int) (b : Bool) (w : World) : (oBuild 31 [(0, .int .i64 n), (1, .bool b)]).run Try.prog w = .ok (.value (.agg #[.int .i64 n, .bool b, .slice none 0 0])) w := by kernel_rfl

theorem err_eq (n : Int) : (D.err n == 0) = decide (1 ≤ n ∧ n ≤ 256) := by
  unfold D.err
  split <;> simp [*]
theorem fp_eq (n : Int) (b : Nat) : (fp n b).isNone = !decide (1 ≤ n ∧ n ≤ 256) := by
  unfold fp
  split <;> simp [*]
theorem err_six (n : Int) (h : decide (1 ≤ n ∧ n ≤ 256) = false) : D.err n = 6 := by
  unfold D.err
  rw [if_neg (of_decide_eq_false h)]

section
variable {E w : World} {L : List HA} {Q : Value → World → Prop} {A : HA} {x : Value}

theorem mkPair {b r : Nat} {n : Int} {back : Bool} (hS : Sat E w (blk r (.cells (Value.agg #[.int .i64 n, .bool back, .slice none 0 0]).cells 31 (0, 0)) :: Ft b n back [] :: L)) : Sat E w (Pair b r n back [] :: L) := by
  have h1 : Sat E w (Ref r n back [] :: Ft b n back [] :: L) := by
    refine Sat.shut (M := [_, _]) ((hS.nil 5 1).ord [1, 0] rfl rfl) fun hp h => ?_
    exact ⟨_, h⟩
  exact Sat.shut (M := [_, _]) (h1.ord [1, 0] rfl rfl) fun hp h => h

theorem Pc.ones (p : Pc) (h1 : p.v.oneCell' = true) : ∀ u ∈ p.cells, u.oneCell' = true :=
  List.forall_mem_cons.2 ⟨rfl, List.forall_mem_cons.2 ⟨h1, fun _ h => by cases h⟩⟩

set_option maxHeartbeats 4000000 in
theorem DeltaPieces_ok (hS : Sat E w L) (ps : List Pc) (i : Nat) (hi : L[i]? = some A) (hA : RdA A 2 x ps.length (ps.map Pc.cells).flatten) (hp : ∀ p ∈ ps, RdA A 1 p.v p.l.length (bvs p.l) ∧ p.l.length ≤ 1048576) (hlen : ps.length ≤ 1048576)
    (one : Int) (back : Bool) (two : Int) (also : Bool) (hQ : ∀ w', Sat E w' L → Q (.bool true) w') :
    Calls Try.prog 3 #[.int .i64 one, .bool back, .int .i64 two, .bool also, x] w (retP Q) := by
  refine pithlaw19_DeltaPieces.calls ?_
  unfold pithlaw19_DeltaPieces.F
  have e6 : ((6 : Int) == 0) = false := rfl
  obtain ⟨_, ao, cap, rfl, _⟩ := hS.rd i hi hA
  refine pN_callQ call_delta_New (New_any hS one back fun f w1 hS1 => ?_)
  try simp (disch := omega) only [go_sem]
  refine pN_callQ call_delta_New (New_any hS1 two also fun g w2 hS2 => ?_)
  simp only [go_sem, err_eq]
  refine pN_callQ call_pithref19_Good (Good_ok one ?_)
  simp only [go_sem, bne_self_eq_false]
  refine pN_callQ call_pithref19_Good (Good_ok two ?_)
  simp only [go_sem, bne_self_eq_false, fp_eq, bne, err_eq]
  have e1 := err_six one
  have e2 := err_six two
  have n1 := fp_eq one f
  have n2 := fp_eq two g
  have q1 := err_eq one
  have q2 := err_eq two
  generalize decide (1 ≤ one ∧ one ≤ 256) = g1 at e1 n1 q1 ⊢
  generalize decide (1 ≤ two ∧ two ≤ 256) = g2 at e2 n2 q2 ⊢
  cases g1 <;> cases g2
  all_goals
    try have e1 := e1 rfl
    try have e2 := e2 rfl
    simp only [go_sem, n1, n2, q1, q2, e1, e2, e6, bne, Bool.not_true, Bool.not_false, beq_self_eq_true]
    clear e1 e2 n1 n2 q1 q2
  all_goals
    rw [pN_def, run_build_ref, rN_value]
    refine pN_box hS2 fun r w3 hS3 => ?_
    rw [pN_def, run_build_ref, rN_value]
    refine pN_box hS3 fun s w4 hS4 => ?_
    have hS5 := (mkPair ((mkPair (hS4.ord [0, 2, 1] rfl rfl)).ord [1, 2, 0] rfl rfl))
    try simp (disch := omega) only [go_sem]
    refine ⟨fun y v w' => ∃ (k : Nat) (l1 l2 : List UInt8) (hs : List Hd), v = .int .i64 k ∧ k ≤ ps.length ∧ l1.length ≤ bnd k ∧ l2.length ≤ bnd k ∧ hs.length ≤ k ∧ (∀ h ∈ hs, h.Held) ∧
      Sat E w' (own 40 5 y hs.length (flat hs) :: bag (hs.map Hd.part) :: Pair f r one back l1 :: Pair g s two also l2 :: L), fun _ v _ => ps.length - (RowKit.intOf v).toNat,
      ⟨0, [], [], [], rfl, Nat.zero_le _, Nat.zero_le _, Nat.zero_le _, Nat.zero_le _, fun _ h => (by cases h), (hS5.bag_nil).nil _ _⟩, ?_⟩
    rintro _ y _ w5 ⟨k, l1, l2, hs, rfl, hk, hl1, hl2, hhs, hheld, hS6⟩
    by_cases hlt : k < ps.length
    · try simp (disch := omega) only [go_sem]
      obtain ⟨p, hpk⟩ : ∃ p, ps[k]? = some p := ⟨ps[k], by simp [hlt]⟩
      have bs := bnd_succ k
      have bl := bnd_le k (by omega)
      obtain ⟨hpr, hpl⟩ := hp p (List.mem_of_getElem? hpk)
      refine ⟨fun y w' => ∃ (l1 l2 : List UInt8) (hs : List Hd), l1.length ≤ bnd (k + 1) ∧ l2.length ≤ bnd (k + 1) ∧ hs.length ≤ k + 1 ∧ (∀ h ∈ hs, h.Held) ∧
        Sat E w' (own 40 5 y hs.length (flat hs) :: bag (hs.map Hd.part) :: Pair f r one back l1 :: Pair g s two also l2 :: L), ?_, ?_⟩
      · refine pN_idx_n un_sl_pithlaw19_Piece sz_pithlaw19_Piece (hS6.rd (i + 4) (by simpa using hi) hA) (by omega) (by omega) fun pp hpp => ?_
        rw [Int.toNat_natCast, flat_at Pc.cells 2 Pc.cells_length ps k p hpk] at hpp
        refine pN_ld_n ag_pithlaw19_Piece sz_pithlaw19_Piece rfl hpp ?_
        refine pN_alloc zv_pithlaw19_Piece hS6 fun a w6 hS7 => ?_
        refine pN_st_all hS7 sz_pithlaw19_Piece rfl (Pc.ones p (hS7.rd (i + 5) (by simpa using hi) hpr).one) rfl fun w7 hS8 => ?_
        refine ⟨fun d c w' => ∃ (n : Int) (bk : Bool) (b r' : Nat) (l : List UInt8) (X : HA), d = .pointer (fp n b) ∧ c = .pointer (some ⟨r', 0, none⟩) ∧ l.length ≤ bnd k ∧
          Sat E w' (Pair b r' n bk l :: X :: blk a (.cells p.cells.toArray 34 (0, 0)) :: own 40 5 y hs.length (flat hs) :: bag (hs.map Hd.part) :: L) ∧
          (∀ l' M w'', l'.length ≤ bnd (k + 1) → Sat E w'' (Pair b r' n bk l' :: X :: M) → ∃ l1 l2 : List UInt8, l1.length ≤ bnd (k + 1) ∧ l2.length ≤ bnd (k + 1) ∧ Sat E w'' (Pair f r one back l1 :: Pair g s two also l2 :: M)), ?_, ?_⟩
        · try simp (disch := omega) only [go_sem]
          refine pN_ld na_bool (hS8.cellv 0 rfl 0 rfl) ?_
          rcases p.two with _ | _
          · try simp (disch := omega) only [go_sem]
            exact ⟨one, back, f, r, l1, _, rfl, rfl, hl1, hS8.ord [3, 4, 0, 1, 2] rfl rfl, fun l' M w'' hl' h => ⟨l', l2, hl', by omega, h⟩⟩
          · try simp (disch := omega) only [go_sem]
            exact ⟨two, also, g, s, l2, _, rfl, rfl, hl2, hS8.ord [4, 3, 0, 1, 2] rfl rfl, fun l' M w'' hl' h => ⟨l1, l', by omega, hl', h.ord [1, 0] rfl rfl⟩⟩
        · rintro _ _ _ w8 ⟨n, bk, b, r', l, X, rfl, rfl, hll, hS9, hback⟩
          by_cases hgood : 1 ≤ n ∧ n ≤ 256
          · rw [show fp n b = some ⟨b, 0, none⟩ from if_pos hgood]
            have hv : p.v.oneCell' = true := (hS9.rd (i + 5) (by simpa using hi) hpr).one
            try simp (disch := omega) only [go_sem]
            refine pN_ld na_sl_uint8 (hS9.cellv 2 rfl 1 rfl) ?_
            refine pN_callQ call_pithlaw19_lent (lent_ok hS9 (i + 5) (by simpa using hi) hpr (by omega) fun fl w9 hS10 => ?_)
            try simp (disch := omega) only [go_sem]
            have hx := lentA_rd fl p.l
            obtain ⟨d, rfl⟩ : ∃ d : Nat, n = d := ⟨n.toNat, by omega⟩
            have hS11 : Sat E w9 (Flt b bk d (D.hist bk d [] l) :: Ref r' d bk l :: lentA fl p.l :: X :: blk a (.cells p.cells.toArray 34 (0, 0)) :: own 40 5 y hs.length (flat hs) :: bag (hs.map Hd.part) :: L) := by
              have h := Sat.open_ (M := [Ft b d bk l, Ref r' d bk l]) (hS10.ord [1, 0] rfl rfl) fun h hh => hh
              unfold Ft at h
              rw [if_pos hgood] at h
              exact h
            refine pN_callQ call_delta_Filter_Next (Next_ok hS11 (by omega) (by omega) 1 rfl hx (by omega) fun o w10 hS12 => ?_)
            try simp only [pDr_def]
            replace hS12 := hS12.drew
            generalize w10.drew = w10 at hS12 ⊢
            have lo := D.outs_length bk d p.l (D.hist bk d [] l)
            have happ := D.outs_append bk d l [] p.l
            rw [← D.hist_append] at hS12
            generalize hO : D.outs bk d (D.hist bk d [] l) p.l = O at hS12 lo happ ⊢
            have ho : RdA (own 5 1 o p.l.length (bvs O)) 1 o O.length (bvs O) := by rw [lo]; exact RdA.own
            simp only [go_sem, pL_str_sl_uint8 (hS12.rd 0 rfl ho)]
            refine pL_ld na_sl_uint8 (hS12.cellv 5 rfl 1 rfl) ?_
            refine pN_callQ call_pithref19_Filter_Next (RNext_ok (hS12.ord [2, 0, 1] rfl rfl) (by omega) (by omega) (i + 7) (by simpa using hi) hpr (by omega) fun o2 w11 hS13 => ?_)
            rw [Int.toNat_natCast] at hS13
            have lo2 := D.outs_length bk d (l ++ p.l) []
            have lo3 := D.outs_length bk d l []
            have ho2 : RdA (own 5 1 o2 (l ++ p.l).length (bvs (D.outs bk d [] (l ++ p.l)))) 1 o2 (D.outs bk d [] (l ++ p.l)).length (bvs (D.outs bk d [] (l ++ p.l))) := by rw [lo2]; exact RdA.own
            have ho3 := ho2.subb l.length (D.outs bk d [] (l ++ p.l)).length (by rw [lo2]; simp) (Nat.le_refl _)
            have e3 : ((D.outs bk d [] (l ++ p.l)).drop l.length).take ((D.outs bk d [] (l ++ p.l)).length - l.length) = O := by
              rw [List.take_of_length_le (by simp), happ, List.drop_append, List.drop_of_length_le (by omega), lo3]
              simp
            rw [e3, lo2] at ho3
            refine ⟨⟨run_str_sl_uint8 (hS13.rd 2 rfl ho), trivial⟩, ?_⟩
            simp only [go_sem, pL_str_sl_uint8 (hS13.rd 0 rfl ho3), beq_self_eq_true, Bool.not_true]
            refine pL_ld na_sl_uint8 (hS13.cellv 6 rfl 1 rfl) ?_
            refine pN_callQ call_pithlaw19_kept (kept_ok hS13 (i + 9) (by simpa using hi) hpr 4 rfl (by omega) fun w12 hS14 => ?_)
            refine ⟨trivial, ?_⟩
            simp only [go_sem, pN_len_sl_uint8_rd _ _ (hS14.rd 4 rfl RdA.own)]
            refine ⟨fun v w' => ∃ (q : Nat) (t : List UInt8), v = .int .i64 q ∧ q ≤ p.l.length + 1 ∧ t.length = p.l.length + 1 ∧ Sat E w' (own 5 1 fl (p.l.length + 1) (bvs t) :: _), fun v _ => p.l.length + 1 - (RowKit.intOf v).toNat,
              ⟨0, p.l ++ [165], rfl, Nat.zero_le _, by simp, hS14.ord [4, 0, 1, 2, 3] rfl rfl⟩, ?_⟩
            rintro _ _ w13 ⟨q, t, rfl, hq, ht, hS15⟩
            by_cases hqt : q < p.l.length + 1
            · try simp (disch := omega) only [go_sem]
              refine pN_idx un_sl_uint8 sz_uint8 (hS15.rd 0 rfl RdA.own) (by omega) (by omega) fun pp2 hp2 => ?_
              rw [Int.toNat_natCast, bvs_getD0 _ _ (by omega)] at hp2
              refine pN_ld na_uint8 hp2 ?_
              rw [show Value.int .u8 101 = bv 101 from rfl]
              simp (disch := omega) only [go_sem]
              refine pN_idx_own un_sl_uint8 sz_uint8 (hS15.own_at 0 rfl) (by omega) (by omega) fun gg cp hv => ?_
              subst hv
              refine pN_st_own hS15 sz_uint8 rfl (by rw [bvs_length]; omega) fun w14 hS16 => ?_
              rw [Int.toNat_natCast, bvs_set] at hS16
              try simp (disch := omega) only [go_sem]
              exact ⟨⟨q + 1, _, by simp, by omega, by simpa using ht, hS16⟩, by simp [RowKit.intOf]; omega⟩
            simp (disch := omega) only [go_sem, pN_len_sl_pithlaw19_Held_rd _ _ (hS15.rd 7 rfl RdA.own)]
            have hS16 := hS15.ord [3, 0, 1, 2] rfl rfl
            rw [← lo] at hS16
            refine pN_callQ call_pithlaw19_hold (hold_ok hS16 (by omega) hs.length (by omega) fun h' w14 hh' hS17 => ?_)
            have hv' : h'.v.oneCell' = true := (hS17.rd 0 rfl RdA.own).one
            refine pN_bs st_sl_pithlaw19_Held (cells := h'.cells.toArray) (by omega) (by omega) (by kernel_rfl) rfl hS17 fun c w15 hS18 => ?_
            refine pN_append st_sl_pithlaw19_Held (hS18.ord [8, 0, 1, 2, 3, 4, 5, 6, 7] rfl rfl) ((hS18.ord [8, 0, 1, 2, 3, 4, 5, 6, 7] rfl rfl).rd 1 rfl RdA.own) (Hd.ones h' hv') (by omega) (by omega) fun y2 w16 hS19 => ?_
            have hS20 : Sat E w16 (Pair b r' d bk (l ++ p.l) :: _) := Sat.shut (M := [_, _]) (hS19.ord [6, 5, 7, 0, 9, 2, 1, 3, 4, 8] rfl rfl) fun hp h => by
              have e : Ft b d bk (l ++ p.l) = Flt b bk d (D.hist bk d [] (l ++ p.l)) := if_pos hgood
              show Sats [Ft b d bk (l ++ p.l), Ref r' d bk (l ++ p.l)] hp
              rw [e]
              exact h
            obtain ⟨m1, m2, hm1, hm2, hS21⟩ := hback (l ++ p.l) _ _ (by rw [List.length_append]; omega) hS20
            have hS22 := (hS21.ord [5, 6, 7, 8, 4, 3, 2, 0, 1] rfl rfl).drop.drop.drop.drop
            have hS23 := hS22.bag_snoc.ord [1, 0] rfl rfl
            refine ⟨m1, m2, hs ++ [h'], hm1, hm2, by simp; omega, ?_, ?_⟩
            · intro q hq
              rcases List.mem_append.1 hq with hq | hq
              · exact hheld q hq
              · simp only [List.mem_singleton] at hq
                rw [hq]; exact hh'
            · rw [flat_snoc, List.map_append, List.length_append]
              exact hS23
          · rw [show fp n b = none from if_neg hgood]
            try simp (disch := omega) only [go_sem]
            obtain ⟨m1, m2, hm1, hm2, hS10⟩ := hback l _ _ (by omega) hS9
            exact ⟨m1, m2, hs, hm1, hm2, by omega, hheld, (hS10.ord [3, 4, 0, 1, 2] rfl rfl).front 4 rfl |>.drop⟩
      · rintro _ y w6 ⟨l1, l2, hs, hl1, hl2, hhs, hheld, hS7⟩
        try simp (disch := omega) only [go_sem]
        exact ⟨⟨k + 1, l1, l2, hs, by simp, by omega, hl1, hl2, hhs, hheld, hS7⟩, by simp [RowKit.intOf]; omega⟩
    · try simp (disch := omega) only [go_sem]
      refine pN_callQ call_pithlaw19_held (held_ok hs (hS6.ord [1, 0] rfl rfl) 0 rfl RdA.own (by omega) hheld fun w6 hS7 => ?_)
      exact hQ _ hS7.drop.drop.drop
end

def Pc.of (p : T_pithlaw19_Piece) : Pc := ⟨p.Two, .slice p.B.1.a p.B.2.length p.B.1.c, p.B.2⟩

theorem walk_DeltaPieces (W : World) (x0 : Int) (x1 : Bool) (x2 : Int) (x3 : Bool) (x4 : Sl × List T_pithlaw19_Piece) (k0 k1 k2 k3 k4 : Nat) (_h0 : -9223372036854775808 ≤ x0 ∧ x0 < 9223372036854775808) (_h1 : True) (_h2 : -9223372036854775808 ≤ x2 ∧ x2 < 9223372036854775808) (_h3 : True)
    (h4 : RdP cd_pithlaw19_Piece (old W) x4.1 x4.2 ∧ x4.2.length * 32 ≤ reachBytes ∧ x4.2.length + 1 ≤ k4 ∧ ∀ b ∈ x4.2, ∃ k, k ≤ k4 ∧ b.ok W k) (_q0 : k0 ≤ 1048576) (_q1 : k1 ≤ 1048576) (_q2 : k2 ≤ 1048576) (_q3 : k3 ≤ 1048576) (q4 : k4 ≤ 1048576) :
    Calls Try.prog 3 #[.int .i64 x0, .bool x1, .int .i64 x2, .bool x3, .slice x4.1.a x4.2.length x4.1.c] W fun e W' => e = .returned (.bool true) ∧ RowKit.Below W.heap.size W W' := by
  obtain ⟨hr, _, hl, hb⟩ := h4
  refine Calls.mono (DeltaPieces_ok (Q := fun v W' => v = .bool true ∧ RowKit.Below W.heap.size W W') (Sat.start W) (x4.2.map Pc.of) 0 rfl (x := .slice x4.1.a x4.2.length x4.1.c) ?_ ?_ (by rw [List.length_map]; omega) x0 x1 x2 x3 fun w' hS => ⟨rfl, hS.below 0 rfl⟩) fun e w' he => ?_
  · have := hr.rd
    rw [List.map_map, List.length_map]
    exact this
  · intro p hp
    obtain ⟨q, hq, rfl⟩ := List.mem_map.1 hp
    obtain ⟨k, hk, _, ⟨k', hk', h1, _, h2, _⟩⟩ := hb q hq
    have h3 := h1.rd
    rw [flat_uint8] at h3
    exact ⟨h3, by simp only [Pc.of]; omega⟩
  · cases e with
    | returned v => obtain ⟨rfl, h⟩ := he; exact ⟨rfl, h⟩
    | panicked c => exact he.elim
    | outgrown => exact he.elim

end Go.Proofs.Ytlkbenlhngkibaa
