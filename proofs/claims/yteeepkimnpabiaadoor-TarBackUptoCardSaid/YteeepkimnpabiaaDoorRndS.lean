/-
  Ranges over a function, over parts of memory: the loop's record and its mark as parts. No program is named here.
-/
import Derived.Test.YteeepkimnpabiaaDoorRndC
import Derived.Test.YteeepkimnpabiaaDoorKey
namespace Go.Proofs.YteeepkimnpabiaaDoor
open Go
set_option linter.unusedSimpArgs false
set_option linter.unnecessarySimpa false
set_option linter.unusedSectionVars false
set_option linter.unusedVariables false

/-- A loop's record; a mark. -/
def lpB (l : Nat) (rc : Loop) : HA := blk l (.loop rc)
def mark (r : Nat) : HA := blk r (.deferred (some []))
abbrev ylV (l : Nat) : Value := .func (.yield l) #[] #[]

section
variable {P : Program} {E w w' : World} {L M : List HA} {l r : Nat} {rc : Loop} {K : World → Prop} {KV : Value → World → Prop} {ms : List Nat}

theorem Sat.put_blk {b : Nat} {o o' : Obj} (hS : Sat E w (blk b o :: L)) : Sat E (w.putObj b o') (blk b o' :: L) := by
  refine hS.turn rfl rfl rfl fun h1 hA s => ?_
  have hb := s b o hA
  have hlt : b < w.heap.size := (Array.getElem?_eq_some_iff.1 hb).1
  refine ⟨fun k => if k = b then some o' else h1 k, by simp [blk], ?_, ?_⟩
  · intro k o ek
    dsimp only at ek
    split at ek
    · rename_i hkb; subst hkb; cases ek; exact World.putObj_heap_same hlt
    · rename_i hkb; rw [World.putObj_heap_other hkb]; exact s k o ek
  · intro k o ek hn
    have hkb : k ≠ b := fun e => by subst e; rw [hA] at hn; cases hn
    dsimp only
    rw [if_neg hkb, World.putObj_heap_other hkb]
    exact ⟨ek, hn⟩

theorem lpB_at (hS : Sat E w L) [h : Fnd (lpB l) L rc M] : w.heap[l]? = some (.loop rc) := (hS.fd (lpB l)).blk_at 0 rfl

theorem bg_go (hS : Sat E w L) [h : Fnd (lpB l) L rc M] (hk : ∀ w', Sat E w' (lpB l (busyOf rc) :: M) → K w') : bgW l rc w K :=
  ⟨lpB_at hS, hk _ (Sat.put_blk (hS.fd (lpB l)))⟩
theorem en_none (hS : Sat E w L) [h : Fnd (lpB l) L (busyOf rc) M] (hk : ∀ w', Sat E w' (lpB l rc :: M) → KV (.bool true) w') : enW l rc none KV w :=
  ⟨lpB_at hS, hk _ (Sat.put_blk (hS.fd (lpB l)))⟩
theorem en_some (hS : Sat E w L) {c : Code} [h : Fnd (lpB l) L (busyOf rc) M] (hk : ∀ w', Sat E w' (lpB l (leftBy rc c) :: M) → KV (.bool false) w') : enW l rc (some c) KV w :=
  ⟨lpB_at hS, hk _ (Sat.put_blk (hS.fd (lpB l)))⟩
theorem mk_nil (hk : K w) : mkW [] w K := hk
theorem mk_go (hS : Sat E w L) [h : Has (mark r) L M] (hk : ∀ w', Sat E w' M → mkW ms w' K) : mkW (r :: ms) w K := by
  have h1 : Sat E w (mark r :: M) := hS.perm h.perm
  exact ⟨h1.blk_at 0 rfl, hk _ (Sat.put_blk h1).drop⟩

section
variable {N R : List Nat → World → Prop} {X : LX}
theorem jmp_n (hS : Sat E w L) [h : Fnd (lpB l) L rc M] (hst : rc.state = .ready) (hp : rc.pending = none) (hk : ∀ w', Sat E w' M → N ms w') : jmpW l ms N R X w := by
  refine ⟨rc, lpB_at hS, by rw [hst]; simp, ?_⟩
  rw [hp]
  exact hk _ (Sat.put_blk (hS.fd (lpB l))).drop
theorem jmp_r (hS : Sat E w L) [h : Fnd (lpB l) L (leftBy rc .ret) M] (hk : ∀ w', Sat E w' M → R ms w') : jmpW l ms N R X w :=
  ⟨_, lpB_at hS, by simp [leftBy], hk _ (Sat.put_blk (hS.fd (lpB l))).drop⟩
theorem jmp_x (hS : Sat E w L) {id : Nat} [h : Fnd (lpB l) L (leftBy rc (.exit id)) M] (hk : ∀ w', Sat E w' M → jx X id ms w') : jmpW l ms N R X w :=
  ⟨_, lpB_at hS, by simp [leftBy], hk _ (Sat.put_blk (hS.fd (lpB l))).drop⟩

/-- What a call of yield comes to. -/
def YR (P : Program) (l : Nat) (rc : Loop) (np : Nat) (B : Nat → Loop → List Value → World → (Value → World → Prop) → Prop) : Prop :=
  ∀ (Z : Pan) (args : List Value) (w' : World) (K : Value → World → Prop), args.length = np → w'.heap[l]? = some (.loop rc) → B l rc args w' K → @pY Z P (oCallV (ylV l) args) w' K
theorem YR.go {np : Nat} {B : Nat → Loop → List Value → World → (Value → World → Prop) → Prop} {args : List Value} [Z : Pan] (h : YR P l rc np B) (hS : Sat E w L) [hf : Fnd (lpB l) L rc M] (hn : args.length = np) (hB : B l rc args w KV) : pY P (oCallV (ylV l) args) w KV :=
  h Z args w KV hn (lpB_at hS) hB

variable {g : Value} {np : Nat} {B : Nat → Loop → List Value → World → (Value → World → Prop) → Prop}
/-- A range over a function, outermost. -/
theorem rf_go (hS : Sat E w L) (hk : ∀ (l D : Nat) (rc : Loop) (w' : World), rc.state = .ready → rc.pending = none → Sat E w' (lpB l rc :: mark D :: L) → YR P l rc np B → pE P (oCallV g [ylV l]) w' fun _ w₂ => jmpW l (D :: ms) N R X w₂) :
    rfW P none ms w g np B N R X := by
  intro rc h1 h2 hy
  have hs1 := (hS.alloc (.deferred (some []))).alloc (.loop rc)
  rw [World.size_alloc] at hs1
  exact hk _ _ rc _ h1 h2 hs1 hy
/-- In a round. -/
theorem rf_in {l₀ : Nat} {rc₀ : Loop} (hS : Sat E w L) [h : Fnd (lpB l₀) L rc₀ M] (hk : ∀ (l : Nat) (rc : Loop) (w' : World), rc.state = .ready → rc.pending = none → Sat E w' (lpB l rc :: L) → YR P l rc np B → pE P (oCallV g [ylV l]) w' fun _ w₂ => jmpW l ms N R X w₂) :
    rfW P (some l₀) ms w g np B N R X := by
  refine ⟨⟨_, lpB_at hS⟩, fun rc h1 h2 hy => ?_⟩
  exact hk _ rc _ h1 h2 (hS.alloc (.loop rc)) hy
end

/-- The function that is ranged over is a closure. -/
theorem pE_fn {f : FuncId} {cap : List Value} {y : Value} {Q : Value → World → Prop} (hc : ∀ (args : Array Value) (w : World), (callFunc f args).run P w = .ok (.enter f args) w)
    (h : Calls P f (y :: cap).toArray w (@retP Pan.no Q)) : pE P (oCallV (.func (.func f) #[] cap.toArray) [y]) w Q := by
  refine ⟨f, (y :: cap).toArray, ?_, h⟩
  have e : oCallV (.func (.func f) #[] cap.toArray) [y] = callFunc f ((#[] ++ #[y]) ++ cap.toArray) := rfl
  rw [e, hc]
  simp
theorem pY_mono [Pan] {m : Sem Next} {KV' : Value → World → Prop} (h : pY P m w KV) (hk : ∀ v w, KV v w → KV' v w) : pY P m w KV' := by
  have hr : ∀ (e : Ending) (w' : World), retP KV e w' → retP KV' e w' := fun e w' he => by
    cases e with
    | returned v => exact hk _ _ he
    | panicked c => exact he
    | outgrown => exact he
  unfold pY rY at *
  split
  · rename_i heq
    rw [heq] at h
    exact RoundIn.mono h hr
  · rename_i hn
    have h2 : rN P (m.run P w) KV := by
      split at h
      · rename_i heq; exact absurd heq (hn _ _ _ _ _ _)
      · exact h
    unfold rN at *
    split at h2
    · exact hk _ _ h2
    · exact hk _ _ h2
    · exact Calls.mono h2 hr
    · exact h2
    · exact h2.elim
/-- pN behind an operation that might have been a call of yield. -/
theorem pY_via [Pan] {m : Sem Next} (h : pN P m w KV) : pY P m w KV := pY_of h
end
end Go.Proofs.YteeepkimnpabiaaDoor
