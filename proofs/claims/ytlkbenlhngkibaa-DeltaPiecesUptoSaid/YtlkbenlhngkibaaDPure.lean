/-
  Differences and sums of bytes at a distance, as plain functions of lists; the ring that holds the last plain bytes. No program here.
-/
namespace Go.Proofs.Ytlkbenlhngkibaa.D

/-- The byte d before the end, 0 ahead of the first. -/
def bk (h : List UInt8) (d : Nat) : UInt8 := if d ≤ h.length then h.getD (h.length - d) 0 else 0

/-- What the filter keeps of a byte; what it answers. -/
def plain (back : Bool) (d : Nat) (h : List UInt8) (c : UInt8) : UInt8 := if back then c + bk h d else c
def outb (back : Bool) (d : Nat) (h : List UInt8) (c : UInt8) : UInt8 := if back then c + bk h d else c - bk h d

def hist (back : Bool) (d : Nat) : List UInt8 → List UInt8 → List UInt8
  | h, [] => h
  | h, c :: r => hist back d (h ++ [plain back d h c]) r

def outs (back : Bool) (d : Nat) : List UInt8 → List UInt8 → List UInt8
  | _, [] => []
  | h, c :: r => outb back d h c :: outs back d (h ++ [plain back d h c]) r

theorem outs_length (back : Bool) (d : Nat) : ∀ (l h : List UInt8), (outs back d h l).length = l.length
  | [], _ => rfl
  | c :: r, h => by simp [outs, outs_length back d r]

theorem hist_length (back : Bool) (d : Nat) : ∀ (l h : List UInt8), (hist back d h l).length = h.length + l.length
  | [], _ => rfl
  | c :: r, h => by simp only [hist, hist_length back d r, List.length_append, List.length_cons, List.length_nil]; omega

theorem hist_snoc (back : Bool) (d : Nat) : ∀ (l h : List UInt8) (c : UInt8), hist back d h (l ++ [c]) = hist back d h l ++ [plain back d (hist back d h l) c]
  | [], _, _ => rfl
  | _ :: r, h, c => by simp only [List.cons_append, hist, hist_snoc back d r]

theorem outs_snoc (back : Bool) (d : Nat) : ∀ (l h : List UInt8) (c : UInt8), outs back d h (l ++ [c]) = outs back d h l ++ [outb back d (hist back d h l) c]
  | [], _, _ => rfl
  | _ :: r, h, c => by simp only [List.cons_append, outs, hist, outs_snoc back d r]

theorem outs_append (back : Bool) (d : Nat) : ∀ (l h m : List UInt8), outs back d h (l ++ m) = outs back d h l ++ outs back d (hist back d h l) m
  | [], _, _ => rfl
  | _ :: r, h, m => by simp only [List.cons_append, outs, hist, outs_append back d r]

theorem hist_append (back : Bool) (d : Nat) : ∀ (l h m : List UInt8), hist back d h (l ++ m) = hist back d (hist back d h l) m
  | [], _, _ => rfl
  | _ :: r, h, m => by simp only [List.cons_append, hist, hist_append back d r]

/-- The ring: the place where the next plain byte goes is the number of bytes so far, modulo 256. -/
def Ring (h ring : List UInt8) : Prop := ring.length = 256 ∧ ∀ d, 1 ≤ d → d ≤ 256 → ring.getD ((h.length % 256 + 256 - d) % 256) 0 = bk h d

theorem Ring.start : Ring [] (List.replicate 256 0) := by
  refine ⟨List.length_replicate, fun d h1 h2 => ?_⟩
  have : ¬ d ≤ 0 := by omega
  simp only [bk, List.length_nil, this, if_false]
  rw [List.getD_eq_getElem?_getD, List.getElem?_replicate]
  split <;> rfl

theorem bk_snoc_one (h : List UInt8) (p : UInt8) : bk (h ++ [p]) 1 = p := by
  simp [bk, List.getD]

theorem bk_snoc_succ (h : List UInt8) (p : UInt8) (d : Nat) (hd : 1 ≤ d) : bk (h ++ [p]) (d + 1) = bk h d := by
  simp only [bk, List.length_append, List.length_cons, List.length_nil]
  by_cases hl : d ≤ h.length
  · have e : h.length + (0 + 1) - (d + 1) = h.length - d := by omega
    rw [if_pos (by omega), if_pos hl, e]
    simp only [List.getD]
    rw [List.getElem?_append_left (by omega)]
  · rw [if_neg (by omega), if_neg hl]

theorem Ring.step {h ring : List UInt8} (hr : Ring h ring) (p : UInt8) : Ring (h ++ [p]) (ring.set (h.length % 256) p) := by
  obtain ⟨hl, hb⟩ := hr
  refine ⟨by simpa using hl, fun d h1 h2 => ?_⟩
  simp only [List.length_append, List.length_cons, List.length_nil]
  match d, h1 with
  | 1, _ =>
    rw [bk_snoc_one]
    have e : ((h.length + (0 + 1)) % 256 + 256 - 1) % 256 = h.length % 256 := by omega
    rw [e]
    simp only [List.getD, List.getElem?_set_self (by omega : h.length % 256 < ring.length), Option.getD_some]
  | d + 2, _ =>
    rw [bk_snoc_succ h p (d + 1) (by omega), ← hb (d + 1) (by omega) (by omega)]
    have e : ((h.length + (0 + 1)) % 256 + 256 - (d + 2)) % 256 = (h.length % 256 + 256 - (d + 1)) % 256 := by omega
    have hne : h.length % 256 ≠ (h.length % 256 + 256 - (d + 1)) % 256 := by omega
    rw [e]
    simp only [List.getD]
    rw [List.getElem?_set_ne hne]

theorem there_back (d : Nat) : ∀ (l h : List UInt8), outs true d h (outs false d h l) = l
  | [], _ => rfl
  | c :: r, h => by
    have e : c - bk h d + bk h d = c := by simp
    simp only [outs, outb, plain, if_true, Bool.false_eq_true, if_false]
    rw [e, there_back d r]

theorem back_there (d : Nat) : ∀ (l h : List UInt8), outs false d h (outs true d h l) = l
  | [], _ => rfl
  | c :: r, h => by
    have e : c + bk h d - bk h d = c := by simp
    simp only [outs, outb, plain, if_true, Bool.false_eq_true, if_false]
    rw [e, back_there d r]

theorem outs_get (back : Bool) (d : Nat) : ∀ (l h : List UInt8) (i : Nat), (outs back d h l)[i]? = (l[i]?).map fun c => outb back d (hist back d h (l.take i)) c
  | [], _, i => by simp [outs]
  | c :: r, h, 0 => by simp [outs, hist]
  | c :: r, h, i + 1 => by simp only [outs, List.getElem?_cons_succ, List.take_succ_cons, hist, outs_get back d r]

theorem hist_false (d : Nat) : ∀ (l h : List UInt8), hist false d h l = h ++ l
  | [], h => by simp [hist]
  | c :: r, h => by simp [hist, plain, hist_false d r]

theorem hist_true (d : Nat) : ∀ (l h : List UInt8), hist true d h l = h ++ outs true d h l
  | [], h => by simp [hist, outs]
  | c :: r, h => by simp [hist, outs, plain, outb, hist_true d r]

theorem outs_take (back : Bool) (d : Nat) : ∀ (l h : List UInt8) (i : Nat), (outs back d h l).take i = outs back d h (l.take i)
  | [], _, i => by simp [outs]
  | c :: r, h, 0 => by simp [outs]
  | c :: r, h, i + 1 => by simp only [outs, List.take_succ_cons, outs_take back d r]

theorem bk_take (l : List UInt8) (i d : Nat) (hd : 1 ≤ d) (hi : i ≤ l.length) : bk (l.take i) d = if d ≤ i then l.getD (i - d) 0 else 0 := by
  unfold bk
  rw [List.length_take, Nat.min_eq_left hi]
  by_cases h : d ≤ i
  · rw [if_pos h, if_pos h]
    simp only [List.getD, List.getElem?_take]
    rw [if_pos (by omega)]
  · rw [if_neg h, if_neg h]

/-- The differences, place by place. -/
theorem enc_get (d : Nat) (l : List UInt8) (i : Nat) (hd : 1 ≤ d) (hi : i < l.length) : (outs false d [] l).getD i 0 = l.getD i 0 - (if d ≤ i then l.getD (i - d) 0 else 0) := by
  rw [List.getD_eq_getElem?_getD, outs_get, hist_false, List.nil_append, List.getElem?_eq_getElem hi]
  simp only [Option.map_some, Option.getD_some, outb, Bool.false_eq_true, if_false]
  rw [bk_take l i d hd (by omega)]
  simp [List.getD, hi]

/-- The sums. -/
theorem dec_get (d : Nat) (l : List UInt8) (i : Nat) (hd : 1 ≤ d) (hi : i < l.length) : (outs true d [] l).getD i 0 = l.getD i 0 + (if d ≤ i then (outs true d [] l).getD (i - d) 0 else 0) := by
  have hl := outs_length true d l []
  rw [List.getD_eq_getElem?_getD, outs_get, hist_true, List.nil_append, ← outs_take, List.getElem?_eq_getElem hi]
  simp only [Option.map_some, Option.getD_some, outb, if_true]
  rw [bk_take _ i d hd (by omega)]
  simp [List.getD, hi]

theorem getD_set (l : List UInt8) (a i : Nat) (v : UInt8) (ha : a < l.length) : (l.set a v).getD i 0 = if i = a then v else l.getD i 0 := by
  simp only [List.getD, List.getElem?_set]
  by_cases h : a = i
  · subst h; simp [ha]
  · rw [if_neg h, if_neg (fun e => h e.symm)]

theorem u8a (p q r : UInt8) : q - (p + r) - (q - p) = -r := by
  apply UInt8.toNat_inj.1
  have := p.toNat_lt; have := q.toNat_lt; have := r.toNat_lt
  simp only [UInt8.toNat_sub, UInt8.toNat_add, UInt8.toNat_neg, UInt8.size]
  omega
theorem u8b (p q r : UInt8) : (p + r) - q - (p - q) = r := by
  apply UInt8.toNat_inj.1
  have := p.toNat_lt; have := q.toNat_lt; have := r.toNat_lt
  simp only [UInt8.toNat_sub, UInt8.toNat_add]
  omega
theorem u8c (p q : UInt8) : p - q - (p - q) = 0 := by simp
theorem u8d (p x y : UInt8) : (p + x) - (p + y) = x - y := by
  apply UInt8.toNat_inj.1
  have := p.toNat_lt; have := x.toNat_lt; have := y.toNat_lt
  simp only [UInt8.toNat_sub, UInt8.toNat_add]
  omega
theorem u8e (p r x : UInt8) : (p + r + x) - (p + x) = r := by
  apply UInt8.toNat_inj.1
  have := p.toNat_lt; have := x.toNat_lt; have := r.toNat_lt
  simp only [UInt8.toNat_sub, UInt8.toNat_add]
  omega

/-- One byte turned, in the differences. -/
theorem one_enc (d : Nat) (l : List UInt8) (a i : Nat) (t : UInt8) (hd : 1 ≤ d) (ha : a < l.length) (hi : i < l.length) :
    (outs false d [] (l.set a (l.getD a 0 + t))).getD i 0 - (outs false d [] l).getD i 0 = if i = a + d then -t else if i = a then t else 0 := by
  rw [enc_get d l i hd hi, enc_get d _ i hd (by simpa using hi), getD_set l a i _ ha, getD_set l a (i - d) _ ha]
  by_cases h1 : i = a + d
  · have h2 : ¬ i = a := by omega
    have h3 : i - d = a := by omega
    have h4 : d ≤ i := by omega
    rw [if_pos h1, if_neg h2, if_pos h4, if_pos h4, if_pos h3, h3]
    exact u8a _ _ _
  · rw [if_neg h1]
    by_cases h2 : i = a
    · have h3 : d ≤ i → ¬ i - d = a := by omega
      rw [if_pos h2, if_pos h2, ← h2]
      by_cases h4 : d ≤ i
      · rw [if_pos h4, if_pos h4, if_neg (by omega)]
        exact u8b _ _ _
      · rw [if_neg h4, if_neg h4]
        exact u8b _ _ _
    · rw [if_neg h2, if_neg h2]
      by_cases h4 : d ≤ i
      · rw [if_pos h4, if_pos h4, if_neg (by omega)]
        exact u8c _ _
      · rw [if_neg h4, if_neg h4]
        exact u8c _ _

/-- In the sums. -/
theorem one_dec (d : Nat) (l : List UInt8) (a : Nat) (t : UInt8) (hd : 1 ≤ d) (ha : a < l.length) : ∀ i, i < l.length →
    (outs true d [] (l.set a (l.getD a 0 + t))).getD i 0 - (outs true d [] l).getD i 0 = if a ≤ i ∧ (i - a) % d = 0 then t else 0 := by
  intro i
  induction i using Nat.strongRecOn with
  | _ i ih =>
    intro hi
    rw [dec_get d l i hd hi, dec_get d _ i hd (by simpa using hi), getD_set l a i _ ha]
    by_cases h2 : i = a
    · subst h2
      have hc : i ≤ i ∧ (i - i) % d = 0 := ⟨Nat.le_refl _, by simp⟩
      rw [if_pos rfl, if_pos hc]
      by_cases h4 : d ≤ i
      · rw [if_pos h4, if_pos h4]
        have h5 := ih (i - d) (by omega) (by omega)
        rw [if_neg (by omega)] at h5
        have h6 : (outs true d [] (l.set i (l.getD i 0 + t))).getD (i - d) 0 = (outs true d [] l).getD (i - d) 0 := by
          have := congrArg (· + (outs true d [] l).getD (i - d) 0) h5
          simpa using this
        rw [h6]
        exact u8e _ _ _
      · rw [if_neg h4, if_neg h4]
        exact u8e _ _ _
    · rw [if_neg h2]
      by_cases h4 : d ≤ i
      · rw [if_pos h4, if_pos h4, u8d, ih (i - d) (by omega) (by omega)]
        by_cases h5 : a ≤ i - d
        · have e : (i - a) % d = (i - d - a) % d := by
            rw [show i - a = (i - d - a) + d from by omega, Nat.add_mod_right]
          by_cases h6 : (i - d - a) % d = 0
          · rw [if_pos ⟨h5, h6⟩, if_pos ⟨by omega, by rw [e]; exact h6⟩]
          · rw [if_neg (fun h => h6 h.2), if_neg (fun h => h6 (by rw [← e]; exact h.2))]
        · rw [if_neg (fun h => h5 h.1), if_neg]
          rintro ⟨h6, h7⟩
          have : i - a < d := by omega
          rw [Nat.mod_eq_of_lt this] at h7
          omega
      · rw [if_neg h4, if_neg h4, u8d, if_neg]
        · simp
        · rintro ⟨h6, h7⟩
          have : i - a < d := by omega
          rw [Nat.mod_eq_of_lt this] at h7
          omega

/-- Rows that repeat. -/
def reps (row : List UInt8) : Nat → List UInt8
  | 0 => []
  | n + 1 => reps row n ++ row

theorem reps_length (row : List UInt8) : ∀ n, (reps row n).length = n * row.length
  | 0 => by simp [reps]
  | n + 1 => by simp only [reps, List.length_append, reps_length row n, Nat.add_mul, Nat.one_mul]

theorem reps_get (row : List UInt8) (hr : 0 < row.length) : ∀ n i, i < n * row.length → (reps row n).getD i 0 = row.getD (i % row.length) 0
  | 0, i, h => by simp at h
  | n + 1, i, h => by
    simp only [reps, List.getD]
    have hl := reps_length row n
    by_cases hi : i < n * row.length
    · rw [List.getElem?_append_left (by omega)]
      exact reps_get row hr n i hi
    · rw [List.getElem?_append_right (by omega), hl]
      have h1 : i - n * row.length < row.length := by
        rw [Nat.add_mul, Nat.one_mul] at h; omega
      have : i % row.length = i - n * row.length := by
        rw [← Nat.mod_eq_of_lt h1, show i = (i - n * row.length) + n * row.length from by omega, Nat.add_mul_mod_self_right]
        simp
      rw [this]

theorem rows_enc (row : List UInt8) (hr : 0 < row.length) (n i : Nat) (hi : i < n * row.length) :
    (outs false row.length [] (reps row n)).getD i 0 = if i < row.length then row.getD i 0 else 0 := by
  rw [enc_get _ _ _ hr (by rw [reps_length]; exact hi), reps_get row hr n i hi]
  by_cases h : i < row.length
  · rw [if_pos h, if_neg (by omega), Nat.mod_eq_of_lt h]; simp
  · rw [if_neg h, if_pos (by omega), reps_get row hr n _ (by omega)]
    have : (i - row.length) % row.length = i % row.length := by
      rw [← Nat.add_mod_right (i - row.length), Nat.sub_add_cancel (by omega)]
    rw [this]; simp

end Go.Proofs.Ytlkbenlhngkibaa.D
