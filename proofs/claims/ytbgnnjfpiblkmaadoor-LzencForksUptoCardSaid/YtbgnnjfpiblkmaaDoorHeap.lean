/-
  What memory holds, part by part: a list of parts that lie apart from one another. No program is named here.
-/
import Derived.Test.YtbgnnjfpiblkmaaDoorStep
import Derived.Maps.AppendAt
namespace Go.Proofs.YtbgnnjfpiblkmaaDoor
open Go
set_option linter.unusedSimpArgs false
set_option linter.unnecessarySimpa false
set_option linter.unusedSectionVars false
set_option linter.unusedVariables false

abbrev Hp := Nat → Option Obj
abbrev HA := Hp → Prop

def hpOf (w : World) : Hp := fun b => w.heap[b]?

def Sub (h h' : Hp) : Prop := ∀ (b : Nat) (o : Obj), h b = some o → h' b = some o

/-- The heap without a part. -/
def less (h h1 : Hp) : Hp := fun b => match h1 b with
  | some _ => none
  | none => h b

def Sats : List HA → Hp → Prop
  | [], _ => True
  | A :: L, h => ∃ h1, A h1 ∧ Sub h1 h ∧ Sats L (less h h1)

structure Sat (E w : World) (L : List HA) : Prop where
  os : w.os = E.os
  tape : w.tape = E.tape
  output : w.output = E.output
  sats : Sats L (hpOf w)

theorem Sub.refl (h : Hp) : Sub h h := fun _ _ e => e
theorem Sub.trans {a b c : Hp} (h : Sub a b) (h' : Sub b c) : Sub a c := fun _ _ e => h' _ _ (h _ _ e)
theorem less_sub (h h1 : Hp) : Sub (less h h1) h := by
  intro b o e
  simp only [less] at e
  split at e
  · cases e
  · exact e
theorem Sub.less {h h' : Hp} (hs : Sub h h') (h1 : Hp) : Sub (less h h1) (less h' h1) := by
  intro b o e
  simp only [Go.Proofs.YtbgnnjfpiblkmaaDoor.less] at e ⊢
  split at e
  · cases e
  · exact hs b o e

theorem Sats.mono {L : List HA} : ∀ {h h' : Hp}, Sats L h → Sub h h' → Sats L h' := by
  induction L with
  | nil => intro h h' _ _; trivial
  | cons A L ih =>
    intro h h' ⟨h1, hA, hs, hr⟩ hsub
    exact ⟨h1, hA, hs.trans hsub, ih hr (hsub.less h1)⟩

theorem less_comm (h h1 h2 : Hp) : less (less h h1) h2 = less (less h h2) h1 := by
  funext b
  simp only [less]
  cases h1 b <;> cases h2 b <;> rfl

theorem Sats.swap {A B : HA} {L : List HA} {h : Hp} (hs : Sats (A :: B :: L) h) : Sats (B :: A :: L) h := by
  obtain ⟨h1, hA, s1, h2, hB, s2, hr⟩ := hs
  refine ⟨h2, hB, s2.trans (less_sub _ _), h1, hA, ?_, by rw [less_comm]; exact hr⟩
  intro b o e
  simp only [less]
  cases e2 : h2 b with
  | none => exact s1 b o e
  | some o2 =>
    have := s2 b o2 e2
    simp only [less, e] at this
    cases this

theorem Sats.perm {L L' : List HA} (hp : L.Perm L') : ∀ {h : Hp}, Sats L h → Sats L' h := by
  induction hp with
  | nil => intro h hs; exact hs
  | cons A _ ih => intro h ⟨h1, hA, hs, hr⟩; exact ⟨h1, hA, hs, ih hr⟩
  | swap A B L => intro h hs; exact hs.swap
  | trans _ _ ih1 ih2 => intro h hs; exact ih2 (ih1 hs)

theorem Sats.cons_mono {A : HA} {L L' : List HA} {h : Hp} (hL : ∀ h, Sats L h → Sats L' h) (hs : Sats (A :: L) h) : Sats (A :: L') h := by
  obtain ⟨h1, hA, s, hr⟩ := hs
  exact ⟨h1, hA, s, hL _ hr⟩

section
variable {E w w' : World} {A B : HA} {L L' M : List HA}

theorem Sat.perm (hs : Sat E w L) (hp : L.Perm L') : Sat E w L' := ⟨hs.os, hs.tape, hs.output, hs.sats.perm hp⟩

theorem perm_front : ∀ (L : List HA) (i : Nat) (A : HA), L[i]? = some A → L.Perm (A :: L.eraseIdx i)
  | [], i, A, h => by simp at h
  | B :: L, 0, A, h => by simp at h; subst h; exact List.Perm.refl _
  | B :: L, i + 1, A, h => by
    have h' : L[i]? = some A := by simpa using h
    exact ((perm_front L i A h').cons B).trans (List.Perm.swap A B _)

/-- Part i to the front. -/
theorem Sat.front (hs : Sat E w L) (i : Nat) (h : L[i]? = some A) : Sat E w (A :: L.eraseIdx i) := hs.perm (perm_front L i A h)

def pickI : List HA → List Nat → List HA
  | _, [] => []
  | L, i :: is => L.getD i (fun _ => True) :: pickI L is

theorem Sat.drop (hs : Sat E w (A :: L)) : Sat E w L := by
  obtain ⟨h1, _, s, hr⟩ := hs.sats
  exact ⟨hs.os, hs.tape, hs.output, hr.mono (less_sub _ _)⟩

theorem Sat.drew (hs : Sat E w L) : Sat E w.drew L := ⟨hs.os, hs.tape, hs.output, hs.sats⟩

theorem Sat.head (hs : Sat E w (A :: L)) : ∃ h1, A h1 ∧ ∀ (b : Nat) (o : Obj), h1 b = some o → w.heap[b]? = some o := by
  obtain ⟨h1, hA, s, _⟩ := hs.sats
  exact ⟨h1, hA, s⟩

theorem Sats.mem {L : List HA} {A : HA} (hm : A ∈ L) : ∀ {h : Hp}, Sats L h → ∃ h1, A h1 ∧ Sub h1 h := by
  induction L with
  | nil => cases hm
  | cons B L ih =>
    intro h ⟨h1, hB, s, hr⟩
    rcases List.mem_cons.1 hm with rfl | hm
    · exact ⟨h1, hB, s⟩
    · obtain ⟨h2, hA, s2⟩ := ih hm hr
      exact ⟨h2, hA, s2.trans (less_sub _ _)⟩

/-- A fact on memory out of one part. -/
theorem Sat.get (hs : Sat E w L) (i : Nat) (hi : L[i]? = some A) : ∃ h1, A h1 ∧ ∀ (b : Nat) (o : Obj), h1 b = some o → w.heap[b]? = some o := by
  obtain ⟨h1, hA, s⟩ := hs.sats.mem (List.mem_of_getElem? hi)
  exact ⟨h1, hA, s⟩

/-- The front part turns; what else is there stays; new blocks may come. -/
theorem Sat.turn (hs : Sat E w (A :: L)) (ho : w'.os = w.os) (ht : w'.tape = w.tape) (hu : w'.output = w.output)
    (h : ∀ h1, A h1 → (∀ (b : Nat) (o : Obj), h1 b = some o → w.heap[b]? = some o) → ∃ h2, B h2 ∧ (∀ (b : Nat) (o : Obj), h2 b = some o → w'.heap[b]? = some o) ∧
      ∀ (b : Nat) (o : Obj), w.heap[b]? = some o → h1 b = none → w'.heap[b]? = some o ∧ h2 b = none) : Sat E w' (B :: L) := by
  obtain ⟨h1, hA, s, hr⟩ := hs.sats
  obtain ⟨h2, hB, s2, hk⟩ := h h1 hA s
  refine ⟨ho.trans hs.os, ht.trans hs.tape, hu.trans hs.output, h2, hB, s2, hr.mono ?_⟩
  intro b o e
  simp only [less] at e ⊢
  cases e1 : h1 b with
  | some o1 => rw [e1] at e; cases e
  | none =>
    rw [e1] at e
    obtain ⟨k1, k2⟩ := hk b o e e1
    rw [k2]; exact k1

/-- A new part, in new blocks. -/
theorem Sat.add (hs : Sat E w L) (ho : w'.os = w.os) (ht : w'.tape = w.tape) (hu : w'.output = w.output)
    (hk : ∀ (b : Nat) (o : Obj), w.heap[b]? = some o → w'.heap[b]? = some o)
    (h : ∃ h2, B h2 ∧ (∀ (b : Nat) (o : Obj), h2 b = some o → w'.heap[b]? = some o) ∧ ∀ (b : Nat) (o : Obj), w.heap[b]? = some o → h2 b = none) : Sat E w' (B :: L) := by
  obtain ⟨h2, hB, s2, hn⟩ := h
  refine ⟨ho.trans hs.os, ht.trans hs.tape, hu.trans hs.output, h2, hB, s2, hs.sats.mono ?_⟩
  intro b o e
  simp only [less]
  rw [hn b o e]; exact hk b o e

/-- Nothing that is spoken of has turned. -/
theorem Sat.keep (hs : Sat E w L) (ho : w'.os = w.os) (ht : w'.tape = w.tape) (hu : w'.output = w.output)
    (hk : ∀ (b : Nat) (o : Obj), w.heap[b]? = some o → w'.heap[b]? = some o) : Sat E w' L :=
  ⟨ho.trans hs.os, ht.trans hs.tape, hu.trans hs.output, hs.sats.mono hk⟩

/-! A part opened into several, and shut -/

theorem Sats.append {L M : List HA} : ∀ {h : Hp}, Sats (L ++ M) h ↔ ∃ h1, Sats L h1 ∧ Sub h1 h ∧ Sats M (less h h1) := by
  induction L with
  | nil =>
    intro h
    constructor
    · intro hs; exact ⟨fun _ => none, trivial, fun b o e => (by cases e), hs⟩
    · rintro ⟨h1, _, s, hm⟩; exact hm.mono (less_sub _ _)
  | cons A L ih =>
    intro h
    constructor
    · rintro ⟨ha, hA, sa, hr⟩
      obtain ⟨hl, hL, sl, hM⟩ := ih.1 hr
      refine ⟨fun b => match ha b with | some o => some o | none => hl b, ⟨ha, hA, ?_, ?_⟩, ?_, ?_⟩
      · intro b o e; simp only [e]
      · refine hL.mono ?_
        intro b o e
        simp only [less]
        cases e1 : ha b with
        | some o1 =>
          have := sl b o e
          simp only [less, e1] at this; cases this
        | none => exact e
      · intro b o e
        dsimp only at e
        cases e1 : ha b with
        | some o1 => rw [e1] at e; cases e; exact sa b _ e1
        | none => rw [e1] at e; exact less_sub _ _ b o (sl b o e)
      · refine hM.mono ?_
        intro b o e
        simp only [less] at e ⊢
        cases e1 : ha b with
        | some o1 => cases e2 : hl b <;> simp [e1, e2] at e
        | none =>
          simp only [e1] at e ⊢
          exact e
    · rintro ⟨h1, ⟨ha, hA, sa, hL⟩, s1, hM⟩
      refine ⟨ha, hA, sa.trans s1, ih.2 ⟨less h1 ha, hL, s1.less ha, hM.mono ?_⟩⟩
      intro b o e
      simp only [less] at e ⊢
      cases e1 : h1 b with
      | some o1 => simp [e1] at e
      | none =>
        simp only [e1] at e
        have e2 : ha b = none := by
          cases e2 : ha b with
          | none => rfl
          | some o2 => rw [sa b o2 e2] at e1; cases e1
        simp only [e2]
        exact e

theorem Sat.open_ (hs : Sat E w (A :: L)) (h : ∀ h, A h → Sats M h) : Sat E w (M ++ L) := by
  obtain ⟨h1, hA, s, hr⟩ := hs.sats
  exact ⟨hs.os, hs.tape, hs.output, Sats.append.2 ⟨h1, h h1 hA, s, hr⟩⟩

theorem Sat.shut (hs : Sat E w (M ++ L)) (h : ∀ h, Sats M h → A h) : Sat E w (A :: L) := by
  obtain ⟨h1, hM, s, hr⟩ := Sats.append.1 hs.sats
  exact ⟨hs.os, hs.tape, hs.output, h1, h h1 hM, s, hr⟩

theorem Sat.ex {α : Type} {F : α → HA} (hs : Sat E w ((fun h => ∃ x, F x h) :: L)) : ∃ x, Sat E w (F x :: L) := by
  obtain ⟨h1, ⟨x, hA⟩, s, hr⟩ := hs.sats
  exact ⟨x, hs.os, hs.tape, hs.output, h1, hA, s, hr⟩

theorem Sat.weaken (hs : Sat E w (A :: L)) (h : ∀ h, A h → B h) : Sat E w (B :: L) := by
  obtain ⟨h1, hA, s, hr⟩ := hs.sats
  exact ⟨hs.os, hs.tape, hs.output, h1, h h1 hA, s, hr⟩

/-! ### Parts -/

/-- One block. -/
def blk (b : Nat) (o : Obj) : HA := fun h => h b = some o

/-- All that was there at the beginning. -/
def old (W : World) : HA := fun h => ∀ b, h b = W.heap[b]?

theorem Sat.start (W : World) : Sat W W [old W] := ⟨rfl, rfl, rfl, fun b => W.heap[b]?, fun _ => rfl, fun _ _ e => e, trivial⟩

theorem Sat.blk_at {b : Nat} {o : Obj} (hs : Sat E w L) (i : Nat) (hi : L[i]? = some (blk b o)) : w.heap[b]? = some o := by
  obtain ⟨h1, hA, s⟩ := hs.get i hi
  exact s b o hA

theorem Sat.old_at {W : World} (hs : Sat E w L) (i : Nat) (hi : L[i]? = some (old W)) : ∀ (b : Nat) (o : Obj), W.heap[b]? = some o → w.heap[b]? = some o := by
  obtain ⟨h1, hA, s⟩ := hs.get i hi
  exact fun b o e => s b o ((hA b).trans e)

theorem Sat.size_le {W : World} (hs : Sat E w L) (i : Nat) (hi : L[i]? = some (old W)) : W.heap.size ≤ w.heap.size := by
  have h := hs.old_at i hi
  rcases Nat.lt_or_ge w.heap.size W.heap.size with hlt | hge
  · have := h w.heap.size _ (Array.getElem?_eq_getElem hlt)
    simp at this
  · exact hge

/-- At the end: nothing old has turned. -/
theorem Sat.below {W : World} (hs : Sat W w L) (i : Nat) (hi : L[i]? = some (old W)) : RowKit.Below W.heap.size W w := by
  refine ⟨hs.os, hs.tape, hs.output, hs.size_le i hi, fun k hk => ?_⟩
  have h := hs.old_at i hi k _ (Array.getElem?_eq_getElem hk)
  rw [h, Array.getElem?_eq_getElem hk]

/-- A store into a block that is known. -/
theorem Sat.store {b : Nat} {cs : Array Value} {e : TypeId} (hs : Sat E w (blk b (.cells cs e (0, 0)) :: L)) (i : Nat) (v : Value) :
    Sat E (w.setCell ⟨b, i, none⟩ v) (blk b (.cells (cs.setIfInBounds i v) e (0, 0)) :: L) := by
  refine hs.turn rfl rfl rfl fun h1 hA s => ?_
  refine ⟨fun k => if k = b then some (.cells (cs.setIfInBounds i v) e (0, 0)) else h1 k, by simp [blk], ?_, ?_⟩
  · intro k o ek
    simp only [World.setCell, Array.getElem?_modify]
    by_cases hkb : k = b
    · subst hkb
      simp only [if_true] at ek ⊢
      rw [s k _ hA]
      simpa using ek
    · simp only [if_neg hkb] at ek
      rw [if_neg (fun e => hkb e.symm)]
      exact s k o ek
  · intro k o ek hn
    have hkb : k ≠ b := fun e => by subst e; rw [hA] at hn; cases hn
    simp only [World.setCell, Array.getElem?_modify]
    rw [if_neg (fun e => hkb e.symm), if_neg hkb]
    exact ⟨ek, hn⟩

/-- A new block. -/
theorem Sat.alloc (hs : Sat E w L) (o : Obj) : Sat E (w.alloc o) (blk w.heap.size o :: L) := by
  refine hs.add rfl rfl rfl ?_ ⟨fun b => if b = w.heap.size then some o else none, by simp [blk], ?_, ?_⟩
  · intro b o' e
    have hlt : b < w.heap.size := (Array.getElem?_eq_some_iff.1 e).1
    simp only [World.alloc, Array.getElem?_push]
    rw [if_neg (by omega)]; exact e
  · intro b o' e
    dsimp only at e
    split at e
    · rename_i hb; cases e; subst hb; exact heap_alloc_new w _
    · cases e
  · intro b o' e
    have hlt : b < w.heap.size := (Array.getElem?_eq_some_iff.1 e).1
    dsimp only
    rw [if_neg (by omega)]

/-- A slice that owns its row: as the guide's 'ownsRow', of a part of memory. -/
def own (e : TypeId) (size : Nat) (v : Value) (n : Nat) (xs : List Value) : HA := fun h =>
  xs.length = n * size ∧
  ((v = .slice none 0 0 ∧ n = 0) ∨
   ∃ g cap cur, v = .slice (some ⟨g, 0, none⟩) n cap ∧ h g = some (.cells cur e (0, 0)) ∧ n ≤ cap ∧ cap ≤ maxLen ∧ cur.size = cap * size ∧ cur.toList.take (n * size) = xs)

theorem own_row {e : TypeId} {size : Nat} {v : Value} {n : Nat} {xs : List Value} {h : Hp} (ho : own e size v n xs h) (hs : ∀ (b : Nat) (o : Obj), h b = some o → w.heap[b]? = some o) : w.ownsRow 0 e size v n xs := by
  obtain ⟨hl, h | ⟨g, cap, cur, hv, hg, r⟩⟩ := ho
  · exact ⟨hl, .inl h⟩
  · exact ⟨hl, .inr ⟨g, cap, cur, hv, Nat.zero_le _, hs _ _ hg, r⟩⟩

theorem Sat.own_at {e : TypeId} {size : Nat} {v : Value} {n : Nat} {xs : List Value} (hs : Sat E w L) (i : Nat) (hi : L[i]? = some (own e size v n xs)) : w.ownsRow 0 e size v n xs := by
  obtain ⟨h1, hA, s⟩ := hs.get i hi
  exact own_row hA s

/-- Behind a law on append. -/
theorem Sat.grown {e : TypeId} {size : Nat} {v v' : Value} {n n' : Nat} {xs xs' : List Value} (hs : Sat E w (own e size v n xs :: L)) (hg : w.grownBy w' v.ownBlock)
    (ho : w'.ownsRow 0 e size v' n' xs') (hb : v'.ownBlock = v.ownBlock ∨ v'.ownBlock = some w.heap.size) : Sat E w' (own e size v' n' xs' :: L) := by
  refine hs.turn hg.os hg.tape hg.output fun h1 hA s => ?_
  obtain ⟨hl, ho⟩ := ho
  obtain ⟨_, hA⟩ := hA
  have keep : ∀ (b : Nat) (o : Obj), w.heap[b]? = some o → h1 b = none → w'.heap[b]? = some o := by
    intro b o e hn
    have hlt : b < w.heap.size := (Array.getElem?_eq_some_iff.1 e).1
    rw [hg.block b hlt ?_]; exact e
    intro hb
    rcases hA with ⟨rfl, _⟩ | ⟨g, cap, cur, rfl, hg1, _⟩
    · cases hb
    · simp only [Value.ownBlock, Option.some.injEq] at hb
      rw [hb, hg1] at hn; cases hn
  rcases ho with ⟨hv', hn'⟩ | ⟨g, cap, cur, hv', _, hg', r⟩
  · exact ⟨fun _ => none, ⟨hl, .inl ⟨hv', hn'⟩⟩, fun b o e => (by cases e), fun b o e hn => ⟨keep b o e hn, rfl⟩⟩
  · refine ⟨fun b => if b = g then some (.cells cur e (0, 0)) else none, ⟨hl, .inr ⟨g, cap, cur, hv', by simp, r⟩⟩, ?_, ?_⟩
    · intro b o eb
      dsimp only at eb
      split at eb
      · rename_i hbg; subst hbg; cases eb; exact hg'
      · cases eb
    · intro b o eb hn
      refine ⟨keep b o eb hn, ?_⟩
      dsimp only
      split
      · rename_i hbg
        subst hbg
        exfalso
        have hlt : b < w.heap.size := (Array.getElem?_eq_some_iff.1 eb).1
        subst hv'
        simp only [Value.ownBlock] at hb
        rcases hb with hb | hb
        · rcases hA with ⟨rfl, _⟩ | ⟨g2, cap2, cur2, rfl, hg2, _⟩
          · cases hb
          · simp only [Option.some.injEq] at hb
            subst hb
            rw [hg2] at hn; cases hn
        · simp only [Option.some.injEq] at hb
          omega
      · rfl
end

end Go.Proofs.YtbgnnjfpiblkmaaDoor
