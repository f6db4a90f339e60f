/-
  Questions encoded and asked of the bytes: the same answers.
-/
import Derived.Test.YtoejaggkedlfmaaDecTrip
import Derived.Test.YtoejaggkedlfmaaTPure
namespace Go.Proofs.Ytoejaggkedlfmaa
open Go
set_option linter.unusedSimpArgs false
set_option linter.unnecessarySimpa false
set_option linter.unusedSectionVars false
set_option linter.unusedVariables false

namespace D
theorem Fol.at_ (b : List UInt8) (f s : R.S) : Fol b f s ⟨b, s.k + 5, s.R, seen f s.k - s.N⟩ := ⟨rfl, rfl, rfl, rfl⟩

/-- One bit without a probability. -/
theorem Fol.one {b : List UInt8} {f s : R.S} {d : S} (hb : Begins b f) (h : Fol b f s d) (hr : 16777216 ≤ s.R) {x : Int} (hx : x = 0 ∨ x = 1) (hi : In (s.one x) f) :
    In s f ∧ d.one.C < d.one.R ∧ d.bitAt (d.R / 2) = x ∧ ∃ t, d.one.widen = some t ∧ Fol b f (s.one x) t := by
  obtain ⟨h1, h2, h3, h4⟩ := h
  rcases hx with rfl | rfl
  · rw [R.S.one, if_neg (by omega)] at hi ⊢
    have hi2 := In.widen (s := ⟨s.N, s.R / 2, s.k⟩) (by simp only; omega) hi
    have hs := hi2.seen
    simp only at hs
    have p : (0 : Int) < 256 ^ (f.k - s.k) := Int.pow_pos (by omega)
    have his : In s f := ⟨hi2.k, hi2.lo, Int.lt_of_lt_of_le hi2.hi (Int.mul_le_mul_of_nonneg_right (by simp only; omega) (by simp only; omega))⟩
    have hlt : d.C < d.R / 2 := by rw [h3]; omega
    have ho : d.one = ⟨d.b, d.k, d.R / 2, d.C⟩ := by rw [S.one, if_pos hlt]
    have hf : Fol b f ⟨s.N, s.R / 2, s.k⟩ d.one := by rw [ho]; exact ⟨h1, h2, by simp only [h3], h4⟩
    obtain ⟨t, ht, hft⟩ := hf.widen hb (by simp only; omega) hi
    refine ⟨his, by rw [ho]; exact hlt, by rw [S.bitAt, if_pos hlt], t, ht, hft⟩
  · rw [R.S.one, if_pos rfl] at hi ⊢
    have hi2 := In.widen (s := ⟨s.N + s.R / 2, s.R / 2, s.k⟩) (by simp only; omega) hi
    have hs := hi2.seen
    simp only at hs
    have p : (0 : Int) < 256 ^ (f.k - s.k) := Int.pow_pos (by omega)
    have his : In s f := by
      refine ⟨hi2.k, Int.le_trans (Int.mul_le_mul_of_nonneg_right (show s.N ≤ s.N + s.R / 2 by omega) (by omega)) hi2.lo, Int.lt_of_lt_of_le hi2.hi (Int.mul_le_mul_of_nonneg_right (by simp only; omega) (by simp only; omega))⟩
    have hge : ¬ d.C < d.R / 2 := by rw [h3]; omega
    have ho : d.one = ⟨d.b, d.k, d.R / 2, d.C - d.R / 2⟩ := by rw [S.one, if_neg hge]
    have hf : Fol b f ⟨s.N + s.R / 2, s.R / 2, s.k⟩ d.one := by rw [ho]; exact ⟨h1, h2, by simp only [h3], by simp only [h4, h3]; omega⟩
    obtain ⟨t, ht, hft⟩ := hf.widen hb (by simp only; omega) hi
    refine ⟨his, by rw [ho, h3]; simp only [h4]; omega, by rw [S.bitAt, if_neg hge], t, ht, hft⟩

theorem bits_top (v : Int) (n : Nat) : v % 2 ^ (n + 1) = v / 2 ^ n % 2 * 2 ^ n + v % 2 ^ n := by
  rw [Int.pow_succ]
  have p : (0 : Int) < 2 ^ n := Int.pow_pos (by omega)
  generalize (2 : Int) ^ n = q at p
  have h1 := Int.emod_add_mul_ediv v q
  have h2 := Int.emod_add_mul_ediv (v / q) 2
  have h3 := Int.emod_add_mul_ediv v (q * 2)
  have h4 : v / q / 2 = v / (q * 2) := by rw [Int.ediv_ediv_of_nonneg (by omega)]
  rw [h4] at h2
  generalize v / (q * 2) = d at h2 h3
  generalize v / q = c at h1 h2 ⊢
  generalize c % 2 = e at h2 ⊢
  grind
theorem Fol.direct {b : List UInt8} {f : R.S} (hb : Begins b f) (v : Int) : ∀ (n : Nat) {s : R.S} {d : S} (u : Int), R.Ok s → Fol b f s d → In (s.direct v n) f →
    In s f ∧ ∃ t, d.direct u n = .ok t (u * 2 ^ n + v % 2 ^ n) ∧ Fol b f (s.direct v n) t
  | 0, s, d, u, ho, h, hi => ⟨hi, d, by simp [S.direct, Int.emod_one], h⟩
  | n + 1, s, d, u, ho, h, hi => by
    simp only [R.S.direct] at hi ⊢
    obtain ⟨hi2, _⟩ := Fol.direct hb v n (s := s.one (v / 2 ^ n % 2)) 0 (ho.one _) (Fol.at_ b f _) hi
    obtain ⟨h1, h2, h3, t, h4, h5⟩ := h.one hb ho.r0 (by omega) hi2
    obtain ⟨_, t2, h6, h7⟩ := Fol.direct hb v n (2 * u + v / 2 ^ n % 2) (ho.one _) h5 hi
    refine ⟨h1, t2, ?_, h7⟩
    rw [S.direct, if_neg (by omega), h4, h3]
    simp only [h6]
    rw [bits_top, Int.pow_succ]
    congr 1
    grind
end D

namespace R
/-- One question encoded. -/
def TS.ask (a : TS) (q : T_pithlaw08_Ask) : TS := if q.Direct = true then ⟨a.s.direct q.V q.N.toNat, a.l⟩ else a.bit q.I (q.V % 2)
/-- May it be asked of a row of so many? -/
def may (n : Nat) (q : T_pithlaw08_Ask) : Bool := if q.Direct = true then decide (0 ≤ q.N ∧ q.N ≤ 32) else decide (0 ≤ q.I ∧ q.I < n)
def told (q : T_pithlaw08_Ask) : Int := if q.Direct = true then q.V % 2 ^ q.N.toNat else q.V % 2
def TS.run (a : TS) : List T_pithlaw08_Ask → TS
  | [] => a
  | q :: qs => (a.ask q).run qs
theorem TS.ask_len (a : TS) (q : T_pithlaw08_Ask) : (a.ask q).l.length = a.l.length := by
  unfold TS.ask; split
  · rfl
  · exact TS.bit_len _ _ _
theorem TS.run_len : ∀ (qs : List T_pithlaw08_Ask) (a : TS), (a.run qs).l.length = a.l.length
  | [], a => rfl
  | q :: qs, a => by rw [TS.run, TS.run_len qs, TS.ask_len]
theorem TS.run_snoc : ∀ (qs : List T_pithlaw08_Ask) (a : TS) (q : T_pithlaw08_Ask), a.run (qs ++ [q]) = (a.run qs).ask q
  | [], a, q => rfl
  | q0 :: qs, a, q => by simp only [List.cons_append, TS.run, TS.run_snoc qs]

theorem one_k2 {s : S} (h : Ok s) (x y : Int) : ((s.one x).one y).k ≤ s.k + 1 := by
  have hr := h.r0
  have hr1 := h.r1
  have key : ∀ z : S, z.k ≤ s.k + 1 → 33554432 ≤ z.R → (z.one y).k ≤ s.k + 1 := fun z hz hzr => by
    unfold S.one
    split
    · rw [S.widen_no (by simp only; omega)]; exact hz
    · rw [S.widen_no (by simp only; omega)]; exact hz
  by_cases c : s.R / 2 < 16777216
  · refine key _ (one_k h x) ?_
    unfold S.one
    split
    · rw [S.widen_go (by simp only; omega) c, S.widen_no (by simp only; omega)]; simp only; omega
    · rw [S.widen_go (by simp only; omega) c, S.widen_no (by simp only; omega)]; simp only; omega
  · have e : (s.one x).k = s.k := by
      unfold S.one
      split
      · rw [S.widen_no (by simp only; omega)]
      · rw [S.widen_no (by simp only; omega)]
    have := one_k (h.one x) y
    omega
theorem direct_k2 (v : Int) : ∀ (n : Nat) {s : S}, Ok s → (s.direct v n).k ≤ s.k + (n + 1) / 2
  | 0, s, h => by simp [S.direct]
  | 1, s, h => by simp only [S.direct]; exact one_k h _
  | n + 2, s, h => by
    have := direct_k2 v n (s := (s.one (v / 2 ^ (n + 1) % 2)).one (v / 2 ^ n % 2)) ((h.one _).one _)
    have h2 := one_k2 h (v / 2 ^ (n + 1) % 2) (v / 2 ^ n % 2)
    simp only [S.direct]
    omega
theorem bit_mid {a : TS} (h : a.Ok) {i : Int} (h0 : 0 ≤ i) (h1 : i < a.l.length) : 65536 ≤ B.bound a.s.R (a.l.getD i.toNat 0) ∧ 65536 ≤ a.s.R - B.bound a.s.R (a.l.getD i.toNat 0) := by
  have hx : a.l[i.toNat]? = some (a.l.getD i.toNat 0) := by
    rw [List.getD_eq_getElem?_getD, List.getElem?_eq_getElem (show i.toNat < a.l.length by omega)]; rfl
  have hp := h.f.get hx
  exact D.bound_mid h.s.r0 hp.1 hp.2
theorem TS.Ok.ask {a : TS} (h : a.Ok) {q : T_pithlaw08_Ask} (hm : may a.l.length q = true) : (a.ask q).Ok ∧ (a.ask q).s.k ≤ a.s.k + 16 := by
  unfold TS.ask
  unfold may at hm
  split
  · rename_i hd
    rw [if_pos hd] at hm
    have hm := of_decide_eq_true hm
    have := direct_k2 q.V q.N.toNat h.s
    exact ⟨⟨Ok.direct _ _ h.s, h.f⟩, by simp only; omega⟩
  · rename_i hd
    rw [if_neg hd] at hm
    have hm := of_decide_eq_true hm
    obtain ⟨h1, h2⟩ := h.bit hm.1 hm.2 (q.V % 2)
    exact ⟨h1, by omega⟩
theorem TS.Ok.run : ∀ (qs : List T_pithlaw08_Ask) {a : TS}, a.Ok → (∀ q ∈ qs, may a.l.length q = true) → (a.run qs).Ok ∧ (a.run qs).s.k ≤ a.s.k + 16 * qs.length
  | [], a, h, _ => ⟨h, Nat.le_refl _⟩
  | q :: qs, a, h, hm => by
    obtain ⟨h1, h2⟩ := h.ask (hm q List.mem_cons_self)
    obtain ⟨h3, h4⟩ := TS.Ok.run qs h1 fun q' hq => by rw [TS.ask_len]; exact hm q' (List.mem_cons_of_mem _ hq)
    exact ⟨h3, by rw [TS.run, List.length_cons]; omega⟩
end R

namespace D
theorem Fol.ask {b : List UInt8} {f : R.S} (hb : Begins b f) {a : R.TS} {d : S} (h : Fol b f a.s d) (ho : a.Ok) {q : T_pithlaw08_Ask} (hm : R.may a.l.length q = true) (hi : In (a.ask q).s f) :
    In a.s f ∧ ∃ t, D.ask (d, a.l) q = some ((t, (a.ask q).l), R.told q) ∧ Fol b f (a.ask q).s t := by
  unfold R.TS.ask at hi ⊢
  unfold R.may at hm
  unfold D.ask R.told
  split at hm
  · rename_i hd
    have hm := of_decide_eq_true hm
    simp only [if_pos hd] at hi ⊢
    obtain ⟨h1, t, h2, h3⟩ := Fol.direct hb q.V q.N.toNat 0 ho.s h hi
    rw [Int.zero_mul, Int.zero_add] at h2
    refine ⟨h1, t, ?_, h3⟩
    simp only [S.dirQ, if_pos hm, h2, if_true]
  · rename_i hd
    have hm := of_decide_eq_true hm
    simp only [if_neg hd, R.TS.bit] at hi ⊢
    have hc := R.bit_mid ho hm.1 hm.2
    obtain ⟨h1, t, h2, h3⟩ := h.bit hb (q.V % 2) (by omega) hc.1 hc.2 hi
    refine ⟨h1, t, ?_, h3⟩
    simp only [S.bitQ, if_pos hm, h.R, h2, if_true]
theorem Fol.run {b : List UInt8} {f : R.S} (hb : Begins b f) : ∀ (qs : List T_pithlaw08_Ask) {a : R.TS} {d : S}, Fol b f a.s d → a.Ok → (∀ q ∈ qs, R.may a.l.length q = true) → In (a.run qs).s f →
    In a.s f ∧ ∃ t, D.run (d, a.l) qs = (qs.map R.told, (t, (a.run qs).l)) ∧ Fol b f (a.run qs).s t
  | [], a, d, h, ho, hm, hi => ⟨hi, d, rfl, h⟩
  | q :: qs, a, d, h, ho, hm, hi => by
    rw [R.TS.run] at hi ⊢
    have h0 := hm q List.mem_cons_self
    have o1 := (ho.ask h0).1
    have hm' : ∀ q' ∈ qs, R.may (a.ask q).l.length q' = true := fun q' hq => by rw [R.TS.ask_len]; exact hm q' (List.mem_cons_of_mem _ hq)
    obtain ⟨h1, _⟩ := Fol.run hb qs (Fol.at_ b f _) o1 hm' hi
    obtain ⟨h2, t, h3, h4⟩ := h.ask hb ho h0 h1
    obtain ⟨_, t2, h5, h6⟩ := Fol.run hb qs h4 o1 hm' hi
    refine ⟨h2, t2, ?_, h6⟩
    rw [D.run, h3]
    simp only [h5, List.map_cons]
/-- At the front. -/
theorem Fol.start {b : List UInt8} {f : R.S} (hb : Begins b f) (hi : In R.S.new f) : ∃ t, D.start b = .ok t () ∧ Fol b f R.S.new t := by
  have hs := hi.seen
  have hl := hb.len
  have hN : R.S.new.N = 0 := rfl
  have hR : R.S.new.R = 4294967295 := rfl
  have hK : R.S.new.k = 0 := rfl
  rw [hN, hR, hK] at hs
  obtain ⟨b0, hb0⟩ : ∃ x, b[0]? = some x := ⟨b[0]'(by omega), by simp⟩
  have e := hb.seen (k := 0) (by omega)
  rw [Nat.zero_add] at e
  have hsplit : b.take 5 = b0 :: (b.drop 1).take 4 := by
    cases b with
    | nil => simp at hl
    | cons x l => simp at hb0; subst hb0; rfl
  have hn := R.num_append [b0] ((b.drop 1).take 4)
  have hl4 : ((b.drop 1).take 4).length = 4 := by rw [List.length_take, List.length_drop]; omega
  rw [List.singleton_append, ← hsplit, e, hl4] at hn
  have h1 : R.num [b0] = b0.toNat := by simp [R.num]
  have h4 : (256 : Int) ^ 4 = 4294967296 := by decide
  rw [h1, h4] at hn
  have hfb := front_bd b 4 (by omega)
  have hfe : front b 4 = R.num ((b.drop 1).take 4) := rfl
  have hz : b0.toNat = 0 := by omega
  have hb00 : b0 = 0 := UInt8.toNat_inj.1 hz
  subst hb00
  have hft : front b 4 = seen f 0 := by omega
  refine ⟨⟨b, 5, 4294967295, front b 4⟩, ?_, ⟨rfl, rfl, rfl, by rw [hN, hK]; simp only [hft]; omega⟩⟩
  rw [D.start, if_neg (by omega), hb0, if_neg]
  rintro (h | h)
  · exact h rfl
  · omega
theorem seen_self (f : R.S) : seen f f.k = f.N := by rw [seen, Nat.sub_self, Int.pow_zero, Int.ediv_one]
/-- Whatever is encoded comes back. -/
theorem back {n : Nat} {qs : List T_pithlaw08_Ask} (hm : ∀ q ∈ qs, R.may n q = true) (more : List UInt8) :
    ∃ d t, D.start ((R.TS.run ⟨R.S.new, List.replicate n 1024⟩ qs).s.bytes ++ more) = .ok d () ∧ D.run (d, List.replicate n 1024) qs = (qs.map R.told, (t, (R.TS.run ⟨R.S.new, List.replicate n 1024⟩ qs).l)) ∧
      t.k = (R.TS.run ⟨R.S.new, List.replicate n 1024⟩ qs).s.bytes.length ∧ t.C = 0 ∧ t.b = (R.TS.run ⟨R.S.new, List.replicate n 1024⟩ qs).s.bytes ++ more := by
  have ho : R.TS.Ok ⟨R.S.new, List.replicate n 1024⟩ := ⟨R.Ok.new, B.Fine.new n⟩
  have hm' : ∀ q ∈ qs, R.may (R.TS.mk R.S.new (List.replicate n 1024)).l.length q = true := fun q hq => by simp only [List.length_replicate]; exact hm q hq
  have hf := (R.TS.Ok.run qs ho hm').1
  have hself := In.self (f := (R.TS.run ⟨R.S.new, List.replicate n 1024⟩ qs).s) (by have := hf.s.r0; omega)
  have hb := Begins.of hf.s more
  have hi := (Fol.run hb qs (Fol.at_ _ _ _) ho hm' hself).1
  obtain ⟨d, h1, h2⟩ := Fol.start hb hi
  obtain ⟨_, t, h3, h4⟩ := Fol.run hb qs h2 ho hm' hself
  refine ⟨d, t, h1, h3, ?_, ?_, h4.b⟩
  · rw [h4.k]; exact (R.digits_length _ _).symm
  · rw [h4.C, seen_self, Int.sub_self]
end D

end Go.Proofs.Ytoejaggkedlfmaa
