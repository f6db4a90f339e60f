/-
  A second walk: the weakest condition of a function's code as a function of its code, over environments in place of frames, so that a whole body unfolds into a plain proposition. No program is named here.
-/
import Derived.Test.YtbgnnjfpiblkmaaDoorPrim
namespace Go.Proofs.YtbgnnjfpiblkmaaDoor
open Go
set_option linter.unusedSimpArgs false
set_option linter.unnecessarySimpa false
set_option linter.unusedSectionVars false
set_option linter.unusedVariables false

abbrev PQ := Exit → Env → World → Prop

/-- What is to hold where a panic goes on. By default: there is none. -/
class Pan where
  z : List PanicEntry → World → Prop
instance (priority := low) Pan.no : Pan := ⟨fun _ _ => False⟩

/-- What a call must come to. -/
def retP [Pan] (K : Value → World → Prop) : Ending → World → Prop
  | .returned v, w => K v w
  | .panicked c, w => Pan.z c w
  | _, _ => False
/-- What never panics may be called anywhere. -/
theorem Calls.up {Z : Pan} {P : Program} {f : FuncId} {args : Array Value} {w : World} {K : Value → World → Prop} (h : Calls P f args w (@retP Pan.no K)) : Calls P f args w (@retP Z K) :=
  Calls.mono h fun e w' he => by
    cases e with
    | returned v => exact he
    | panicked c => exact he.elim
    | outgrown => exact he

/-- What a run leaves to be shown. -/
def rN [Pan] (P : Program) (r : Result Next) (K : Value → World → Prop) : Prop :=
  match r with
  | .ok (.value v) w' => K v w'
  | .ok .skip w' => K undef w'
  | .ok (.enter f args) w' => Calls P f args w' (retP K)
  | .halt (.panic v) w' => Pan.z [{ v, recovered := false }] w'
  | _ => False

/-- One operation: it gives a value, or it calls. -/
def pN [Pan] (P : Program) (m : Sem Next) (w : World) (K : Value → World → Prop) : Prop := rN P (m.run P w) K

def pGd (b : Bool) (m : (Value → World → Prop) → Prop) (w : World) (K : Value → World → Prop) : Prop :=
  if b then m K else K undef w

def gB (v : Value) (want : Bool) : Bool :=
  match v with
  | .bool b => b == want
  | _ => false

def wantE (ops : Array Oper) (ρ : Env) (j : Nat) (want : Bool) : Bool :=
  match (ops[j]?).bind (·.dst) with
  | some t => gB (ρ t) want
  | none => false

def opW [Pan] (P : Program) (ops : Array Oper) (o : Oper) (ρ : Env) (w : World) (K : Value → World → Prop) : Prop :=
  match o.guard with
  | none => match o.op with
    | .move x => K (ev ρ x) w
    | .assign x => K (ev ρ x) w
    | _ => pN P (execE ρ o) w K
  | some (j, want) => pGd (wantE ops ρ j want) (pN P (execE ρ o) w) w K

def rgW [Pan] (P : Program) (ops : Array Oper) : List Oper → Env → World → (Env → World → Prop) → Prop
  | [], ρ, w, K => K ρ w
  | o :: rest, ρ, w, K => opW P ops o ρ w fun v w' => rgW P ops rest (ρ.put o.dst v) w' K

abbrev thenE (next : Env → World → Prop) (Q : PQ) : PQ
  | .normal, ρ, w => next ρ w
  | e, ρ, w => Q e ρ w

abbrev inBlockE (id : Nat) (Q : PQ) : PQ
  | .exit k, ρ, w => if k = id then Q .normal ρ w else Q (.exit k) ρ w
  | e, ρ, w => Q e ρ w

def pIf (v : Value) (A B : Prop) : Prop :=
  match v with
  | .bool true => A
  | .bool false => B
  | _ => False

/-- The temporaries that a code writes. -/
def opWrites : List Oper → List Nat
  | [] => []
  | o :: r => match o.dst with
    | some d => d :: opWrites r
    | none => opWrites r

def writes : Code → List Nat
  | .region _ ops _ => opWrites ops.toList
  | .seq x y => writes x ++ writes y
  | .cond _ x y => writes x ++ writes y
  | .block _ c => writes c
  | .loop c => writes c
  | _ => []

def firstRg : Code → Option Nat
  | .region id _ _ => some id
  | .seq x y => (firstRg x).or (firstRg y)
  | .cond _ x y => (firstRg x).or (firstRg y)
  | .block _ c => firstRg c
  | .loop c => firstRg c
  | _ => none

def mkE (ρ : Env) (mods : Nat) (j : Env) : List Nat → List Value → Env
  | l :: ls, v :: vs => fun t => match Nat.beq t l with
    | true => v
    | false => mkE ρ mods j ls vs t
  | _, _ => fun t => match mods.testBit t with
    | true => j t
    | false => ρ t

def PT : Nat → Type
  | 0 => World → Prop
  | n + 1 => Value → PT n

def MT : Nat → Type
  | 0 => World → Nat
  | n + 1 => Value → MT n

def apP : (n : Nat) → PT n → List Value → World → Prop
  | 0, I, _, w => I w
  | n + 1, I, v :: vs, w => apP n (I v) vs w
  | n + 1, I, [], w => apP n (I undef) [] w

def apM : (n : Nat) → MT n → List Value → World → Nat
  | 0, I, _, w => I w
  | n + 1, I, v :: vs, w => apM n (I v) vs w
  | n + 1, I, [], w => apM n (I undef) [] w

def allV : Nat → (List Value → Prop) → Prop
  | 0, p => p []
  | n + 1, p => ∀ v, allV n fun vs => p (v :: vs)

/-- Where the walk forgets: behind which code (by the first region of what follows it), at which loop (by its first region), and what is kept. -/
structure Hints where
  cut : Nat → Option (List Nat × Nat)
  loop : Nat → List Nat × Nat
  order : Nat → List (Nat × Nat)

/-! ### That it serves -/

/-- What stays of a frame: its size; what is deferred; the temporaries below lo. -/
structure Frm where
  n : Nat
  lo : Nat
  ds : List Deferred
  base : Env

/-- A frame and an environment that are one. -/
structure Fits (n : Frm) (a : Act) (ρ : Env) : Prop where
  size : a.tmps.size = n.n
  defers : a.defers = n.ds
  get : ∀ t, a.tmps.getD t undef = ρ t
  low : ∀ t, t < n.lo → ρ t = n.base t

/-- A frame in which a panic goes on. -/
structure PZ [Pan] (n : Frm) (a : Act) (c : List PanicEntry) (w : World) : Prop where
  defers : a.defers = n.ds
  low : ∀ t, t < n.lo → a.tmps.getD t undef = n.base t
  z : Pan.z c w

theorem Fits.pz [Pan] {n : Frm} {a : Act} {ρ : Env} (h : Fits n a ρ) {c : List PanicEntry} {w : World} (hz : Pan.z c w) : PZ n a c w := ⟨h.defers, fun t ht => (h.get t).trans (h.low t ht), hz⟩
theorem PZ.less [Pan] {n : Frm} {a : Act} {d : Option Tmp} {v : Value} {c : List PanicEntry} {w : World} (hd : ∀ t, d = some t → n.lo ≤ t) (h : PZ n (a.put d v) c w) : PZ n a c w := by
  cases d with
  | none => exact h
  | some d =>
    refine ⟨h.defers, fun t ht => ?_, h.z⟩
    rw [← h.low t ht]
    have hne : d ≠ t := (Nat.ne_of_lt (Nat.lt_of_lt_of_le ht (hd d rfl))).symm
    simp only [Act.put, Array.getD_eq_getD_getElem?, Array.getElem?_setIfInBounds]
    rw [if_neg hne]

theorem Fits.eval {n : Frm} {a : Act} {ρ : Env} (h : Fits n a ρ) : a.eval = ev ρ := by
  funext x
  cases x with
  | tmp t => exact h.get t
  | const v => rfl
  | global g => rfl
  | func f => rfl

theorem Fits.put {n : Frm} {a : Act} {ρ : Env} (h : Fits n a ρ) {d : Option Tmp} (hd : ∀ t, d = some t → n.lo ≤ t ∧ t < n.n) (v : Value) : Fits n (a.put d v) (ρ.put d v) := by
  cases d with
  | none => exact h
  | some d =>
    have hn := (hd d rfl).2
    refine ⟨by simp [Act.put, h.size], h.defers, fun t => ?_, fun t ht => (by
      rw [Env.put_some, if_neg (Nat.ne_of_lt (Nat.lt_of_lt_of_le ht (hd d rfl).1))]; exact h.low t ht)⟩
    rw [Env.put_some]
    simp only [Act.put]
    by_cases ht : t = d
    · subst ht
      simp [h.size, hn]
    · rw [if_neg ht, ← h.get t]
      simp only [Array.getD_eq_getD_getElem?, Array.getElem?_setIfInBounds]
      rw [if_neg (fun e => ht e.symm)]

theorem Fits.yielded {n : Frm} {a : Act} {ρ : Env} (h : Fits n a ρ) (ops : Array Oper) (j : Nat) (want : Bool) : (yielded ops a.tmps j == some want) = wantE ops ρ j want := by
  simp only [Go.yielded, wantE]
  cases (ops[j]?).bind (·.dst) with
  | none => rfl
  | some t =>
    simp only [Option.bind_some]
    rw [← h.get t, Array.getD_eq_getD_getElem?]
    cases a.tmps[t]? with
    | none => rfl
    | some v => cases v <;> rfl

/-- The frame's temporaries below n that are not written stay. -/
def UpQ [Pan] (n : Frm) (a : Act) (ws : List Nat) (Q : PQ) : Exit → Act → World → Prop
  | .panic c, a', w => PZ n a' c w
  | .outgrown, _, _ => False
  | .goto _, _, _ => False
  | e, a', w => (∀ t, t ∉ ws → a'.tmps.getD t undef = a.tmps.getD t undef) ∧ ∃ ρ', Fits n a' ρ' ∧ Q e ρ' w

theorem pN_wp [Pan] {P : Program} {n : Frm} {a : Act} {ρ : Env} (hf : Fits n a ρ) {o : Oper} {w : World} {K : Value → World → Prop} {next : Act → World → Prop} {Q : Exit → Act → World → Prop}
    (hQ : ∀ c w, PZ n a c w → Q (.panic c) a w) (h : pN P (execE ρ o) w K) (hK : ∀ v w', K v w' → next (a.put o.dst v) w') : o.wp P a w next Q := by
  unfold Oper.wp
  rw [hf.eval]
  rw [execE_eq] at h
  unfold pN rN at h
  split at h
  · rename_i v w' hr; rw [hr]; exact hK _ _ h
  · rename_i w' hr; rw [hr]; exact hK _ _ h
  · rename_i f args w' hr
    rw [hr]
    refine Calls.mono h fun e w'' he => ?_
    cases e with
    | returned v => exact hK _ _ he
    | panicked c => exact hQ _ _ (hf.pz he)
    | outgrown => exact he.elim
  · rename_i v w' hr; rw [hr]; exact hQ _ _ (hf.pz h)
  · exact h.elim

theorem opW_none [Pan] {P : Program} {ops : Array Oper} {o : Oper} {ρ : Env} {w : World} {K : Value → World → Prop} (hg : o.guard = none) (h : opW P ops o ρ w K) : pN P (execE ρ o) w K := by
  unfold opW at h
  rw [hg] at h
  dsimp only at h
  split at h
  · rename_i x hx; unfold execE; rw [hx]; exact h
  · rename_i x hx; unfold execE; rw [hx]; exact h
  · exact h

theorem rgW_wp [Pan] {P : Program} {n : Frm} {ops : Array Oper} (l : List Oper) : ∀ {a : Act} {ρ : Env} {w : World} {K : Env → World → Prop} {Q : Exit → Act → World → Prop},
    (∀ c a w, PZ n a c w → Q (.panic c) a w) → (∀ t ∈ opWrites l, n.lo ≤ t ∧ t < n.n) → Fits n a ρ → rgW P ops l ρ w K →
    (∀ a' ρ' w', (∀ t, t ∉ opWrites l → a'.tmps.getD t undef = a.tmps.getD t undef) → Fits n a' ρ' → K ρ' w' → Q .normal a' w') →
    wpList P ops Q l a w := by
  induction l with
  | nil =>
    intro a ρ w K Q hQ hw hf h hK
    exact hK a ρ w (fun _ _ => rfl) hf h
  | cons o rest ih =>
    intro a ρ w K Q hQ hw hf h hK
    have hd : ∀ t, o.dst = some t → n.lo ≤ t ∧ t < n.n := fun t ht => hw t (by simp [opWrites, ht])
    have hrest : ∀ t ∈ opWrites rest, n.lo ≤ t ∧ t < n.n := fun t ht => hw t (by
      simp only [opWrites]; split
      · exact List.mem_cons_of_mem _ ht
      · exact ht)
    have hgo : ∀ v w', rgW P ops rest (ρ.put o.dst v) w' K → wpList P ops Q rest (a.put o.dst v) w' := by
      intro v w' hr
      refine ih hQ hrest (hf.put hd v) hr fun a' ρ' w'' hk hf' hK' => hK a' ρ' w'' (fun t ht => ?_) hf' hK'
      have ht' : t ∉ opWrites rest := fun hm => ht (by
        simp only [opWrites]; split
        · exact List.mem_cons_of_mem _ hm
        · exact hm)
      rw [hk t ht']
      cases hdst : o.dst with
      | none => rfl
      | some d =>
        have hne : d ≠ t := fun e => ht (by simp [opWrites, hdst, e])
        simp only [Act.put, Array.getD_eq_getD_getElem?, Array.getElem?_setIfInBounds]
        rw [if_neg hne]
    simp only [rgW] at h
    cases hg : o.guard with
    | none =>
      exact wpList_plain hg fun K' hK' => pN_wp hf (fun c w h => hQ c a w h) (opW_none hg h) fun v w' hr => hK' _ _ (hgo v w' hr)
    | some g =>
      obtain ⟨j, want⟩ := g
      simp only [opW, hg] at h
      refine wpList_step fun K' hK' => ?_
      simp only [Region.wanted, hg, hf.yielded ops]
      simp only [pGd] at h
      split
      · rename_i hy
        rw [if_pos hy] at h
        exact pN_wp hf (fun c w h => hQ c a w h) h fun v w' hr => hK' _ _ (hgo v w' hr)
      · rename_i hy
        rw [if_neg hy] at h
        exact hK' _ _ (hgo _ _ h)

theorem mkE_self (ρ ρ' : Env) (mods : Nat) (h : ∀ t, mods.testBit t = false → ρ' t = ρ t) (live : List Nat) : mkE ρ mods ρ' live (live.map ρ') = ρ' := by
  induction live with
  | nil =>
    funext t
    simp only [mkE]
    split
    · rfl
    · rename_i hm; rw [h t hm]
  | cons l ls ih =>
    funext t
    simp only [List.map_cons, mkE]
    split
    · rename_i e; rw [Nat.eq_of_beq_eq_true e]
    · rw [ih]

theorem allV_get {n : Nat} : ∀ {p : List Value → Prop}, allV n p → ∀ vs : List Value, vs.length = n → p vs := by
  induction n with
  | zero => intro p h vs hv; rw [List.length_eq_zero_iff.1 hv]; exact h
  | succ n ih =>
    intro p h vs hv
    match vs, hv with
    | v :: vs, hv => exact ih (h v) vs (by simpa using hv)

end Go.Proofs.YtbgnnjfpiblkmaaDoor
