/-
  Differences and sums of bytes at a distance, as plain functions of lists; the ring that holds the last plain bytes. No program here.
-/
namespace Go.Proofs.Ytlkbenlhngkibaa.D

/-- The byte d before the end, 0 ahead of the first. -/
def bk (h : List UInt8) (d : Nat) : UInt8 := if d ≤ h.length then h.getD (h.length - d) 0 else 0

/-- What the filter keeps of a byte; what it answers. -/
def plain (back : Bool) (d : Nat) (h : List UInt8) (c : UInt8) : UInt8 := if back then c + bk h d else c
def outb (back : Bool) (d : Nat) (h : List UInt8) (c : UInt8) : UInt8 := if back then c + bk h d else c - bk h d

def hist (back : Bool) (d : Nat) : List UInt8 → List UInt8 → List UInt8
  | h, [] => h
  | h, c :: r => hist back d (h ++ [plain back d h c]) r

def outs (back : Bool) (d : Nat) : List UInt8 → List UInt8 → List UInt8
  | _, [] => []
  | h, c :: r => outb back d h c :: outs back d (h ++ [plain back d h c]) r

theorem outs_length (back : Bool) (d : Nat) : ∀ (l h : List UInt8), (outs back d h l).length = l.length
  | [], _ => rfl
  | c :: r, h => by simp [outs, outs_length back d r]

theorem hist_length (back : Bool) (d : Nat) : ∀ (l h : List UInt8), (hist back d h l).length = h.length + l.length
  | [], _ => rfl
  | c :: r, h => by simp only [hist, hist_length back d r, List.length_append, List.length_cons, List.length_nil]; omega

theorem hist_snoc (back : Bool) (d : Nat) : ∀ (l h : List UInt8) (c : UInt8), hist back d h (l ++ [c]) = hist back d h l ++ [plain back d (hist back d h l) c]
  | [], _, _ => rfl
  | _ :: r, h, c => by simp only [List.cons_append, hist, hist_snoc back d r]

theorem outs_snoc (back : Bool) (d : Nat) : ∀ (l h : List UInt8) (c : UInt8), outs back d h (l ++ [c]) = outs back d h l ++ [outb back d (hist back d h l) c]
  | [], _, _ => rfl
  | _ :: r, h, c => by simp only [List.cons_append, outs, hist, outs_snoc back d r]

theorem outs_append (back : Bool) (d : Nat) : ∀ (l h m : List UInt8), outs back d h (l ++ m) = outs back d h l ++ outs back d (hist back d h l) m
  | [], _, _ => rfl
  | _ :: r, h, m => by simp only [List.cons_append, outs, hist, outs_append back d r]

theorem hist_append (back : Bool) (d : Nat) : ∀ (l h m : List UInt8), hist back d h (l ++ m) = hist back d (hist back d h l) m
  | [], _, _ => rfl
  | _ :: r, h, m => by simp only [List.cons_append, hist, hist_append back d r]

/-- The ring: the place where the next plain byte goes is the number of bytes so far, modulo 256. -/
def Ring (h ring : List UInt8) : Prop := ring.length = 256 ∧ ∀ d, 1 ≤ d → d ≤ 256 → ring.getD ((h.length % 256 + 256 - d) % 256) 0 = bk h d

theorem Ring.start : Ring [] (List.replicate 256 0) := by
  refine ⟨List.length_replicate, fun d h1 h2 => ?_⟩
  have : ¬ d ≤ 0 := by omega
  simp only [bk, List.length_nil, this, if_false]
  rw [List.getD_eq_getElem?_getD, List.getElem?_replicate]
  split <;> rfl

theorem bk_snoc_one (h : List UInt8) (p : UInt8) : bk (h ++ [p]) 1 = p := by
  simp [bk, List.getD]

theorem bk_snoc_succ (h : List UInt8) (p : UInt8) (d : Nat) (hd : 1 ≤ d) : bk (h ++ [p]) (d + 1) = bk h d := by
  simp only [bk, List.length_append, List.length_cons, List.length_nil]
  by_cases hl : d ≤ h.length
  · have e : h.length + (0 + 1) - (d + 1) = h.length - d := by omega
    rw [if_pos (by omega), if_pos hl, e]
    simp only [List.getD]
    rw [List.getElem?_append_left (by omega)]
  · rw [if_neg (by omega), if_neg hl]

theorem Ring.step {h ring : List UInt8} (hr : Ring h ring) (p : UInt8) : Ring (h ++ [p]) (ring.set (h.length % 256) p) := by
  obtain ⟨hl, hb⟩ := hr
  refine ⟨by simpa using hl, fun d h1 h2 => ?_⟩
  simp only [List.length_append, List.length_cons, List.length_nil]
  match d, h1 with
  | 1, _ =>
    rw [bk_snoc_one]
    have e : ((h.length + (0 + 1)) % 256 + 256 - 1) % 256 = h.length % 256 := by omega
    rw [e]
    simp only [List.getD, List.getElem?_set_self (by omega : h.length % 256 < ring.length), Option.getD_some]
  | d + 2, _ =>
    rw [bk_snoc_succ h p (d + 1) (by omega), ← hb (d + 1) (by omega) (by omega)]
    have e : ((h.length + (0 + 1)) % 256 + 256 - (d + 2)) % 256 = (h.length % 256 + 256 - (d + 1)) % 256 := by omega
    have hne : h.length % 256 ≠ (h.length % 256 + 256 - (d + 1)) % 256 := by omega
    rw [e]
    simp only [List.getD]
    rw [List.getElem?_set_ne hne]

theorem there_back (d : Nat) : ∀ (l h : List UInt8), outs true d h (outs false d h l) = l
  | [], _ => rfl
  | c :: r, h => by
    have e : c - bk h d + bk h d = c := by simp
    simp only [outs, outb, plain, if_true, Bool.false_eq_true, if_false]
    rw [e, there_back d r]

theorem back_there (d : Nat) : ∀ (l h : List UInt8), outs false d h (outs true d h l) = l
  | [], _ => rfl
  | c :: r, h => by
    have e : c + bk h d - bk h d = c := by simp
    simp only [outs, outb, plain, if_true, Bool.false_eq_true, if_false]
    rw [e, back_there d r]

end Go.Proofs.Ytlkbenlhngkibaa.D
