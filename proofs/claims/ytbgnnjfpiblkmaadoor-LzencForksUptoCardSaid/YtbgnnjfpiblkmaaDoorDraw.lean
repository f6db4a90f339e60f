/-
  A region that leaves its order open, for the second walk: what only reads may be taken first; of each load that was taken first it is asked that it reads the same behind every operation that need not wait for it.
-/
import Derived.Orders
import Derived.Test.YtbgnnjfpiblkmaaDoorCw
namespace Go.Proofs.YtbgnnjfpiblkmaaDoor
open Go
set_option linter.unusedSimpArgs false
set_option linter.unnecessarySimpa false
set_option linter.unusedSectionVars false
set_option linter.unusedVariables false

section
variable {P : Program} {ops : Array Oper} {Q : Exit → Act → World → Prop}

def YieldsW (P : Program) (ops : Array Oper) (o : Oper) (v : Value) (a : Act) (w : World) : Prop :=
  (Region.wanted o (yielded ops a.tmps) = true ∧ (execOp a.eval o).run P w = .ok (.value v) w) ∨
  (Region.wanted o (yielded ops a.tmps) = false ∧ v = undef)

theorem YieldsW.wpOp {i : Nat} {o : Oper} {v : Value} {a : Act} {w : World} (hi : ops[i]? = some o) (hy : YieldsW P ops o v a w)
    {K : Act → World → Prop} (h : K (a.put o.dst v) w) : wpOp P ops Q i K a w := by
  unfold Go.wpOp
  simp only [hi]
  rcases hy with ⟨hw, hv⟩ | ⟨hw, rfl⟩
  · simp only [hw, if_true, Oper.wp, hv, Oper.upon]; exact .inl h
  · simp only [hw, Bool.false_eq_true, if_false]; exact h

theorem YieldsW.of_same {o : Oper} {v : Value} {a a' : Act} {w : World} (hy : YieldsW P ops o v a w) (he : execOp a'.eval o = execOp a.eval o)
    (hw : Region.wanted o (yielded ops a'.tmps) = Region.wanted o (yielded ops a.tmps)) : YieldsW P ops o v a' w := by
  unfold YieldsW at *
  rw [he, hw]
  exact hy

theorem wpOp_putW {j : Nat} {oi oj : Oper} {v : Value} (φ : World → Prop) (hj : ops[j]? = some oj) (hap : oi.apart ops oj = true)
    (hsi : ∀ cs b, oi.op ≠ .select cs b) (hsj : ∀ cs b, oj.op ≠ .select cs b)
    (hQ : ∀ c a w, Q (.panic c) (a.put oi.dst v) w → Q (.panic c) a w) {K : Act → World → Prop} {a : Act} {w : World}
    (hy : ∀ w, φ w → YieldsW P ops oi v a w) (h : wpOp P ops Q j K (a.put oi.dst v) w) :
    wpOp P ops Q j (fun a' w' => (∀ w, φ w → YieldsW P ops oi v a' w) ∧ K (a'.put oi.dst v) w') a w := by
  obtain ⟨h1, h2, h3⟩ := Oper.apart_spec hap
  have keep : ∀ (a : Act), (∀ w, φ w → YieldsW P ops oi v a w) → ∀ u, (∀ w, φ w → YieldsW P ops oi v (a.put oj.dst u) w) := fun a hy u w hw =>
    (hy w hw).of_same (execOp_put oi hsi a oj.dst u h3) (wanted_put oi a oj.dst u h3)
  have keepD : ∀ d, (∀ w, φ w → YieldsW P ops oi v { a with defers := d :: a.defers } w) := fun d w hw => (hy w hw).of_same rfl rfl
  unfold wpOp at *
  simp only [hj] at *
  rw [wanted_put oj a oi.dst v h1] at h
  split
  · rename_i hw
    simp only [hw, if_true] at h
    rcases h with h | ⟨hasks, hlets⟩
    case inr => exact .inr ⟨by unfold Oper.asks at *; rw [execOp_put oj hsj a oi.dst v h1] at hasks; exact hasks, hlets⟩
    refine .inl ?_
    unfold Oper.wp at *
    rw [execOp_put oj hsj a oi.dst v h1] at h
    generalize (execOp a.eval oj).run P w = r at *
    cases r with
    | ok n w' =>
      cases n <;> simp only [Oper.upon] at h ⊢
      case value u => exact ⟨keep a hy u, by rw [← Act.put_comm a v u h2]; exact h⟩
      case skip => exact ⟨keep a hy _, by rw [← Act.put_comm a v undef h2]; exact h⟩
      case defer d =>
        refine ⟨keep _ (keepD d) _, ?_⟩
        rw [← Act.put_comm _ v undef h2, ← Act.put_defers]
        exact h
      case enter f args =>
        refine Calls.mono h fun e w'' he => ?_
        cases e with
        | returned u => exact ⟨keep a hy u, by rw [← Act.put_comm a v u h2]; exact he⟩
        | panicked c => exact hQ _ _ _ he
        | outgrown => exact he
      case row row args => exact Rows.mono h fun u w'' he => ⟨keep a hy u, by rw [← Act.put_comm a v u h2]; exact he⟩
    | halt x w' =>
      cases x <;> simp only [Oper.upon] at h ⊢
      case panic u => exact hQ _ _ _ h
  · rename_i hw
    simp only [hw] at h
    exact ⟨keep a hy _, by rw [← Act.put_comm a v undef h2]; exact h⟩

/-- i must have come up ahead of j. -/
def bfB (ops : Array Oper) : Nat → Nat → Nat → Bool
  | 0, _, _ => false
  | f + 1, i, j => match ops[j]? with
    | some o => o.after.toList.any fun e => Region.binds .any e && (Nat.beq e.on i || bfB ops f i e.on)
    | none => false

abbrev Trk := List (Nat × (World → Prop))

def dropT (ops : Array Oper) (j : Nat) (l : Trk) : Trk := l.filter fun p => !bfB ops ops.size p.1 j

def wpAnyT (P : Program) (ops : Array Oper) (Q : Exit → Act → World → Prop) : Nat → Array Bool → Trk → Act → World → Prop
  | 0, listed, _, a, w => Region.ready .any ops listed = [] ∧ Q .normal a w
  | fuel + 1, listed, trk, a, w =>
    (Region.ready .any ops listed = [] → Q .normal a w) ∧
    ∀ i ∈ Region.ready .any ops listed, wpOp P ops Q i (fun a' w' => (∀ p ∈ dropT ops i trk, p.2 w') ∧ wpAnyT P ops Q fuel (listed.setIfInBounds i true) (dropT ops i trk) a' w') a w

theorem wpAny_of_T : ∀ (fuel : Nat) (listed : Array Bool) (trk : Trk) (a : Act) (w : World), wpAnyT P ops Q fuel listed trk a w → wpAny P .any ops Q fuel listed a w
  | 0, _, _, _, _, h => h
  | fuel + 1, _, _, _, _, h => ⟨h.1, fun i hi => wpOp_mono (fun a' w' h' => wpAny_of_T fuel _ _ a' w' h'.2) (h.2 i hi)⟩

theorem wpAnyT_less : ∀ (fuel : Nat) (listed : Array Bool) (trk trk' : Trk) (a : Act) (w : World), (∀ p ∈ trk', p ∈ trk) → wpAnyT P ops Q fuel listed trk a w → wpAnyT P ops Q fuel listed trk' a w
  | 0, _, _, _, _, _, _, h => h
  | fuel + 1, _, trk, trk', _, _, hs, h => ⟨h.1, fun i hi => wpOp_mono (fun a' w' h' => by
      have hs' : ∀ p ∈ dropT ops i trk', p ∈ dropT ops i trk := fun p hp => by
        simp only [dropT, List.mem_filter] at hp ⊢
        exact ⟨hs p hp.1, hp.2⟩
      exact ⟨fun p hp => h'.1 p (hs' p hp), wpAnyT_less fuel _ _ _ a' w' hs' h'.2⟩) (h.2 i hi)⟩

/-- What is listed has all that it waits for listed. -/
def Clo (ops : Array Oper) (listed : Array Bool) : Prop :=
  ∀ j o, ops[j]? = some o → listed.getD j false = true → ∀ e ∈ o.after, Region.binds .any e = true → listed.getD e.on false = true

theorem Clo.bf {listed : Array Bool} (h : Clo ops listed) : ∀ (f i j : Nat), bfB ops f i j = true → (∃ o, ops[j]? = some o ∧ ∀ e ∈ o.after, Region.binds .any e = true → listed.getD e.on false = true) → listed.getD i false = true
  | 0, _, _, hb, _ => by simp [bfB] at hb
  | f + 1, i, j, hb, ⟨o, ho, hall⟩ => by
    simp only [bfB, ho, List.any_eq_true, Bool.and_eq_true, Bool.or_eq_true] at hb
    obtain ⟨e, he, hbe, hi⟩ := hb
    have hl := hall e (by simpa using he) hbe
    rcases hi with hi | hi
    · rw [← Nat.eq_of_beq_eq_true hi]; exact hl
    · cases hoe : ops[e.on]? with
      | none => cases f <;> simp [bfB, hoe] at hi
      | some oe => exact Clo.bf h f i e.on hi ⟨oe, hoe, fun e' he' hb' => h e.on oe hoe hl e' he' hb'⟩

theorem Clo.add {listed : Array Bool} (h : Clo ops listed) {j : Nat} (hj : j ∈ Region.ready .any ops listed) : Clo ops (listed.setIfInBounds j true) := by
  intro k o ho hk e he hb
  obtain ⟨h0, oj, hoj, hall⟩ := mem_ready.1 hj
  by_cases hjk : j = k
  · subst hjk
    rw [ho] at hoj; cases hoj
    exact getD_set_true (hall e he hb)
  · rw [getD_set_ne false hjk] at hk
    exact getD_set_true (h k o ho hk e he hb)

theorem wpAnyT_first {i : Nat} {oi : Oper} {v : Value} {φ : World → Prop} (hi : ops[i]? = some oi) (hsel : ∀ (j : Nat) (o : Oper) cs b, ops[j]? = some o → o.op ≠ .select cs b)
    (hQ : ∀ c a w, Q (.panic c) (a.put oi.dst v) w → Q (.panic c) a w) :
    ∀ (fuel : Nat) (listed : Array Bool) (trk : Trk) (a : Act) (w : World), Clo ops listed →
      (∀ j oj, ops[j]? = some oj → j ≠ i → listed.getD j true = false → (∀ e ∈ oj.after, Region.binds .any e = true → e.on ≠ i) → oi.apart ops oj = true) →
      i ∈ Region.ready .any ops listed → (∀ w, φ w → YieldsW P ops oi v a w) → φ w → (∀ p ∈ trk, p.2 w) →
      wpAnyT P ops Q fuel (listed.setIfInBounds i true) ((i, φ) :: trk) (a.put oi.dst v) w → wpAnyT P ops Q (fuel + 1) listed trk a w := by
  intro fuel
  induction fuel with
  | zero =>
    intro listed trk a w _ _ hr hy hφ ht H
    refine ⟨fun h => (by rw [h] at hr; cases hr), fun j hj => ?_⟩
    by_cases hji : j = i
    · subst hji
      exact (hy w hφ).wpOp hi ⟨fun p hp => ht p (by simp only [dropT, List.mem_filter] at hp; exact hp.1), H⟩
    · have := ready_mono hj hji
      rw [H.1] at this
      cases this
  | succ fuel ih =>
    intro listed trk a w hcl hfree hr hy hφ ht H
    refine ⟨fun h => (by rw [h] at hr; cases hr), fun j hj => ?_⟩
    by_cases hji : j = i
    · subst hji
      refine (hy w hφ).wpOp hi ⟨fun p hp => ht p (by simp only [dropT, List.mem_filter] at hp; exact hp.1), wpAnyT_less _ _ _ _ _ _ (fun p hp => ?_) H⟩
      simp only [dropT, List.mem_filter] at hp
      exact List.mem_cons_of_mem _ hp.1
    · have h1 := H.2 j (ready_mono hj hji)
      obtain ⟨hjun, oj, hoj, hall⟩ := mem_ready.1 hj
      have hiun := (mem_ready.1 hr).1
      have hnl : listed.getD i false ≠ true := fun hl => by
        rcases Nat.lt_or_ge i listed.size with h' | h'
        · simp [h'] at hiun hl; rw [hiun] at hl; cases hl
        · simp [Array.getElem?_eq_none h'] at hl
      have hnot : ∀ e ∈ oj.after, Region.binds .any e = true → e.on ≠ i := fun e he hb heq => hnl (heq ▸ hall e he hb)
      have hnb : bfB ops ops.size i j = false := by
        cases hb : bfB ops ops.size i j with
        | false => rfl
        | true => exact absurd (hcl.bf _ _ _ hb ⟨oj, hoj, hall⟩) hnl
      have hdrop : dropT ops j ((i, φ) :: trk) = (i, φ) :: dropT ops j trk := by
        simp [dropT, hnb]
      have h2 := wpOp_putW φ hoj (hfree j oj hoj hji hjun hnot) (fun cs b => hsel i oi cs b hi) (fun cs b => hsel j oj cs b hoj) hQ hy h1
      have hfree' : ∀ k ok, ops[k]? = some ok → k ≠ i → (listed.setIfInBounds j true).getD k true = false →
          (∀ e ∈ ok.after, Region.binds .any e = true → e.on ≠ i) → oi.apart ops ok = true := fun k ok hk hki hun hno => by
        refine hfree k ok hk hki ?_ hno
        by_cases hjk : j = k
        · subst hjk; exact hjun
        · rw [getD_set_ne true hjk] at hun; exact hun
      refine wpOp_mono (fun a' w' h3 => ?_) h2
      obtain ⟨hy', hobl, H'⟩ := h3
      rw [hdrop] at hobl H'
      refine ⟨fun p hp => hobl p (List.mem_cons_of_mem _ hp), ih (listed.setIfInBounds j true) _ a' w' (hcl.add hj) hfree' (ready_mono hr (Ne.symm hji)) hy' (hobl (i, φ) List.mem_cons_self) (fun p hp => hobl p (List.mem_cons_of_mem _ hp)) ?_⟩
      rw [Array.setIfInBounds_comm _ _ hji]
      exact H'

end

/-! ### The condition of a region as a proposition -/

/-- 0: yields in whatever world; 1: a load; 2: anything else. -/
def kindOf : Op → Nat
  | .move _ | .assign _ | .pick .. | .nilCheck _ | .binOp .. | .unOp .. | .fieldAddr .. | .field .. | .indexAddr .. | .index .. | .extract .. | .slice .. => 0
  | .call { callee := .builtin .len, .. } | .call { callee := .builtin .cap, .. } | .call { callee := .builtin .min, .. } | .call { callee := .builtin .max, .. } => 0
  | .load .. => 1
  | .convert _ d _ => (match Nat.beq d 38 with | true => 2 | false => 1)
  | _ => 2

def pA (P : Program) (m : Sem Next) (K : Value → Prop) : Prop := ∃ v, (∀ w, m.run P w = .ok (.value v) w) ∧ K v

def pL (P : Program) (m : Sem Next) (w : World) (K : Value → Prop) : Prop := ∃ v, m.run P w = .ok (.value v) w ∧ K v

/-- The loads that were taken first, each with its guard, its operation and what it gave. -/
abbrev Held := List (Nat × Option Bool × Sem Next × Value)

def hkp (g : Option Bool) (A : Prop) : Prop :=
  match g with
  | none => A
  | some b => b = true → A

def heldOk (P : Program) (ops : Array Oper) (j : Nat) (w : World) : Held → Prop
  | [] => True
  | (i, g, m, v) :: r => match bfB ops ops.size i j with
    | true => heldOk P ops j w r
    | false => hkp g (m.run P w = .ok (.value v) w) ∧ heldOk P ops j w r

def dropH (ops : Array Oper) (j : Nat) : Held → Held
  | [] => []
  | (i, g, m, v) :: r => match bfB ops ops.size i j with
    | true => dropH ops j r
    | false => (i, g, m, v) :: dropH ops j r

def pickFirst (ops : Array Oper) : List Nat → Option Nat
  | [] => none
  | i :: r => match (ops[i]?).map (fun o => Nat.blt (kindOf o.op) 2) with
    | some true => some i
    | _ => pickFirst ops r

def allL : List Nat → (Nat → Prop) → Prop
  | [], _ => True
  | [i], p => p i
  | i :: r, p => p i ∧ allL r p

/-- An operation that is taken first. -/
def gA (b : Bool) (m : (Value → Prop) → Prop) (K : Value → Prop) : Prop := if b then m K else K undef

def takeM (P : Program) (o : Oper) (ρ : Env) (w : World) : (Value → Prop) → Prop :=
  match Nat.beq (kindOf o.op) 0 with
  | true => pA P (execE ρ o)
  | false => pL P (execE ρ o) w

def takeW (P : Program) (o : Oper) (g : Option Bool) (ρ : Env) (w : World) (K : Value → Prop) : Prop :=
  match g with
  | none => match o.op with
    | .move x => K (ev ρ x)
    | .assign x => K (ev ρ x)
    | _ => takeM P o ρ w K
  | some b => gA b (takeM P o ρ w) K

def guardB (ops : Array Oper) (o : Oper) (ρ : Env) : Option Bool :=
  match o.guard with
  | none => none
  | some (j, want) => some (wantE ops ρ j want)

def holdsH (i : Nat) (o : Oper) (g : Option Bool) (ρ : Env) (v : Value) (h : Held) : Held :=
  match Nat.beq (kindOf o.op) 0 with
  | true => h
  | false => (i, g, execE ρ o, v) :: h

def dw [Pan] (P : Program) (ops : Array Oper) : Nat → Array Bool → Held → Env → World → (Env → World → Prop) → Prop
  | 0, L, _, ρ, w, K => match Region.ready .any ops L with
    | [] => K ρ w
    | _ => False
  | f + 1, L, h, ρ, w, K =>
    match pickFirst ops (Region.ready .any ops L) with
    | some i => match ops[i]?, Region.free .any ops L i with
      | some o, true => takeW P o (guardB ops o ρ) ρ w fun v => dw P ops f (L.setIfInBounds i true) (holdsH i o (guardB ops o ρ) ρ v h) (ρ.put o.dst v) w K
      | _, _ => False
    | none => match Region.ready .any ops L with
      | [] => K ρ w
      | js => allL js fun j => match ops[j]? with
        | some o => opW P ops o ρ w fun v w' => heldOk P ops j w' h ∧ dw P ops f (L.setIfInBounds j true) (dropH ops j h) (ρ.put o.dst v) w' K
        | none => False

section
variable {P : Program} {ops : Array Oper} {n : Frm}

/-- What is held, as what is tracked. -/
def trkOf (P : Program) (h : Held) : Trk := h.map fun p => (p.1, fun w => hkp p.2.1 (p.2.2.1.run P w = .ok (.value p.2.2.2) w))

theorem trkOf_drop (j : Nat) (h : Held) : dropT ops j (trkOf P h) = trkOf P (dropH ops j h) := by
  induction h with
  | nil => rfl
  | cons p r ih =>
    obtain ⟨i, g, m, v⟩ := p
    have ih' : dropT ops j (trkOf P r) = trkOf P (dropH ops j r) := ih
    cases hb : bfB ops ops.size i j with
    | true => simp only [dropH, hb]; rw [← ih']; simp [dropT, trkOf, hb]
    | false =>
      simp only [dropH, hb]
      have e : trkOf P ((i, g, m, v) :: dropH ops j r) = (i, fun w => hkp g (m.run P w = .ok (.value v) w)) :: trkOf P (dropH ops j r) := rfl
      rw [e, ← ih']
      simp [dropT, trkOf, hb]

theorem heldOk_all (j : Nat) (w : World) (h : Held) (hh : heldOk P ops j w h) : ∀ p ∈ trkOf P (dropH ops j h), p.2 w := by
  induction h with
  | nil => intro p hp; simp [trkOf, dropH] at hp
  | cons q r ih =>
    obtain ⟨i, g, m, v⟩ := q
    cases hb : bfB ops ops.size i j with
    | true =>
      simp only [heldOk, hb] at hh
      simp only [dropH, hb]
      exact ih hh
    | false =>
      simp only [heldOk, hb] at hh
      simp only [dropH, hb]
      intro p hp
      have hp' : p ∈ (i, fun w => hkp g (m.run P w = .ok (.value v) w)) :: trkOf P (dropH ops j r) := hp
      rcases List.mem_cons.1 hp' with rfl | hp'
      · exact hh.1
      · exact ih hh.2 p hp'

theorem allL_mem {l : List Nat} {p : Nat → Prop} (h : allL l p) : ∀ i ∈ l, p i := by
  induction l with
  | nil => intro i hi; cases hi
  | cons x r ih =>
    intro i hi
    cases r with
    | nil => simp only [List.mem_singleton] at hi; subst hi; exact h
    | cons y r =>
      rcases List.mem_cons.1 hi with rfl | hi
      · exact h.1
      · exact ih h.2 i hi

theorem pickFirst_mem {l : List Nat} {i : Nat} (h : pickFirst ops l = some i) : i ∈ l := by
  induction l with
  | nil => cases h
  | cons x r ih =>
    simp only [pickFirst] at h
    split at h
    · cases h; exact List.mem_cons_self
    · exact List.mem_cons_of_mem _ (ih h)

theorem wanted_eq {a : Act} {ρ : Env} (hf : Fits n a ρ) (o : Oper) : Region.wanted o (yielded ops a.tmps) = (guardB ops o ρ).getD true := by
  unfold Region.wanted guardB
  cases o.guard with
  | none => rfl
  | some g => obtain ⟨j, want⟩ := g; exact hf.yielded ops j want

theorem run_move_ev {ρ : Env} {o : Oper} {x : Operand} (h : o.op = .move x ∨ o.op = .assign x) (w : World) : (execE ρ o).run P w = .ok (.value (ev ρ x)) w := by
  rcases h with h | h <;> · simp only [execE, h]; rfl

/-- What a 'taken first' gives: a value that it yields now, and in every world where what is held of it holds. -/
theorem takeW_yields {a : Act} {ρ : Env} (hf : Fits n a ρ) {o : Oper} {w : World} {K : Value → Prop} (h : takeW P o (guardB ops o ρ) ρ w K) :
    ∃ v, K v ∧ ((Nat.beq (kindOf o.op) 0 = true ∧ ∀ w, YieldsW P ops o v a w) ∨
      (Nat.beq (kindOf o.op) 0 = false ∧ (∀ w, hkp (guardB ops o ρ) ((execE ρ o).run P w = .ok (.value v) w) → YieldsW P ops o v a w) ∧
        hkp (guardB ops o ρ) ((execE ρ o).run P w = .ok (.value v) w))) := by
  have hw := wanted_eq (ops := ops) hf o
  have hM : ∀ K : Value → Prop, takeM P o ρ w K → ∃ v, K v ∧ ((Nat.beq (kindOf o.op) 0 = true ∧ ∀ w, (execE ρ o).run P w = .ok (.value v) w) ∨ (Nat.beq (kindOf o.op) 0 = false ∧ (execE ρ o).run P w = .ok (.value v) w)) := by
    intro K h
    unfold takeM at h
    cases hk : Nat.beq (kindOf o.op) 0 with
    | true =>
      rw [hk] at h
      obtain ⟨v, hv, hK⟩ := h
      exact ⟨v, hK, .inl ⟨rfl, hv⟩⟩
    | false =>
      rw [hk] at h
      obtain ⟨v, hv, hK⟩ := h
      exact ⟨v, hK, .inr ⟨rfl, hv⟩⟩
  unfold takeW at h
  cases hg : guardB ops o ρ with
  | none =>
    rw [hg] at h hw
    simp only [Option.getD_none] at hw
    have pure0 : ∀ v, (∀ w, (execE ρ o).run P w = .ok (.value v) w) → ∀ w, YieldsW P ops o v a w := fun v hv w => .inl ⟨hw, by rw [hf.eval, ← execE_eq]; exact hv w⟩
    dsimp only at h
    split at h
    · rename_i x hx
      exact ⟨_, h, .inl ⟨by simp [kindOf, hx], pure0 _ fun w => run_move_ev (.inl hx) w⟩⟩
    · rename_i x hx
      exact ⟨_, h, .inl ⟨by simp [kindOf, hx], pure0 _ fun w => run_move_ev (.inr hx) w⟩⟩
    · obtain ⟨v, hK, ⟨hk, hv⟩ | ⟨hk, hv⟩⟩ := hM K h
      · exact ⟨v, hK, .inl ⟨hk, pure0 v hv⟩⟩
      · exact ⟨v, hK, .inr ⟨hk, fun w' h' => .inl ⟨hw, by rw [hf.eval, ← execE_eq]; exact h'⟩, hv⟩⟩
  | some b =>
    rw [hg] at h hw
    simp only [Option.getD_some] at hw
    dsimp only [gA] at h
    cases b with
    | false =>
      simp only [Bool.false_eq_true, if_false] at h
      refine ⟨undef, h, ?_⟩
      cases hk : Nat.beq (kindOf o.op) 0 with
      | true => exact .inl ⟨rfl, fun w => .inr ⟨hw, rfl⟩⟩
      | false => exact .inr ⟨rfl, fun w _ => .inr ⟨hw, rfl⟩, fun hb => by simp at hb⟩
    | true =>
      simp only [if_true] at h
      obtain ⟨v, hK, ⟨hk, hv⟩ | ⟨hk, hv⟩⟩ := hM K h
      · exact ⟨v, hK, .inl ⟨hk, fun w => .inl ⟨hw, by rw [hf.eval, ← execE_eq]; exact hv w⟩⟩⟩
      · exact ⟨v, hK, .inr ⟨hk, fun w' h' => .inl ⟨hw, by rw [hf.eval, ← execE_eq]; exact h' rfl⟩, fun _ => hv⟩⟩

theorem opWrites_mem {ops : Array Oper} {j : Nat} {o : Oper} {d : Nat} (hj : ops[j]? = some o) (hd : o.dst = some d) : d ∈ opWrites ops.toList := by
  have hm : o ∈ ops.toList := by simpa using Array.mem_of_getElem? hj
  generalize ops.toList = l at hm
  induction l with
  | nil => cases hm
  | cons x r ih =>
    rcases List.mem_cons.1 hm with rfl | hm
    · simp [opWrites, hd]
    · simp only [opWrites]
      split
      · exact List.mem_cons_of_mem _ (ih hm)
      · exact ih hm

theorem wpAnyT_top {i : Nat} {Q : Exit → Act → World → Prop} {f : Nat} {L : Array Bool} {trk : Trk} {a : Act} {w : World} (H : wpAnyT P ops Q f L trk a w) : wpAnyT P ops Q f L ((i, fun _ => True) :: trk) a w := by
  have gen : ∀ (f : Nat) (L : Array Bool) (trk trk' : Trk) (a : Act) (w : World), (∀ p ∈ trk', p ∈ trk ∨ ∀ w, p.2 w) → wpAnyT P ops Q f L trk a w → wpAnyT P ops Q f L trk' a w := by
    intro f
    induction f with
    | zero => intro L trk trk' a w _ h; exact h
    | succ f ih =>
      intro L trk trk' a w hs h
      refine ⟨h.1, fun i hi => wpOp_mono (fun a' w' h' => ?_) (h.2 i hi)⟩
      have hs' : ∀ p ∈ dropT ops i trk', p ∈ dropT ops i trk ∨ ∀ w, p.2 w := fun p hp => by
        simp only [dropT, List.mem_filter] at hp ⊢
        rcases hs p hp.1 with h | h
        · exact .inl ⟨h, hp.2⟩
        · exact .inr h
      exact ⟨fun p hp => (hs' p hp).elim (h'.1 p) (fun h => h w'), ih _ _ _ a' w' hs' h'.2⟩
  refine gen f L trk _ a w (fun p hp => ?_) H
  rcases List.mem_cons.1 hp with rfl | hp
  · exact .inr fun _ => trivial
  · exact .inl hp

theorem dw_any [Pan] (hs : Region.noSelect ops = true) (hn : ∀ t ∈ opWrites ops.toList, n.lo ≤ t ∧ t < n.n) {Q : Exit → Act → World → Prop} (hQ : ∀ c a w, Q (.panic c) a w ↔ PZ n a c w) (a₀ : Act) {K : Env → World → Prop}
    (hK : ∀ a' ρ' w', (∀ t, t ∉ opWrites ops.toList → a'.tmps.getD t undef = a₀.tmps.getD t undef) → Fits n a' ρ' → K ρ' w' → Q .normal a' w') :
    ∀ (f : Nat) (L : Array Bool) (h : Held) (ρ : Env) (a : Act) (w : World), Clo ops L → Fits n a ρ → (∀ t, t ∉ opWrites ops.toList → a.tmps.getD t undef = a₀.tmps.getD t undef) →
      (∀ p ∈ trkOf P h, p.2 w) → dw P ops f L h ρ w K → wpAnyT P ops Q f L (trkOf P h) a w := by
  have hput : ∀ {a : Act} {j : Nat} {o : Oper} (v : Value), ops[j]? = some o → (∀ t, t ∉ opWrites ops.toList → a.tmps.getD t undef = a₀.tmps.getD t undef) →
      (∀ t, t ∉ opWrites ops.toList → (a.put o.dst v).tmps.getD t undef = a₀.tmps.getD t undef) := by
    intro a j o v hj hk t ht
    rw [← hk t ht]
    cases hd : o.dst with
    | none => rfl
    | some d =>
      have hne : d ≠ t := fun e => ht (e ▸ opWrites_mem hj hd)
      simp only [Act.put, Array.getD_eq_getD_getElem?, Array.getElem?_setIfInBounds]
      rw [if_neg hne]
  have hdst : ∀ {j : Nat} {o : Oper}, ops[j]? = some o → ∀ t, o.dst = some t → n.lo ≤ t ∧ t < n.n := fun hj t ht => hn t (opWrites_mem hj ht)
  intro f
  induction f with
  | zero =>
    intro L h ρ a w _ hf hk _ hd
    simp only [dw] at hd
    split at hd
    · rename_i hr; exact ⟨hr, hK a ρ w hk hf hd⟩
    · exact hd.elim
  | succ f ih =>
    intro L h ρ a w hcl hf hk ht hd
    simp only [dw] at hd
    split at hd
    · rename_i i hpick
      have hmem := pickFirst_mem hpick
      split at hd
      · rename_i o hi hfree
        obtain ⟨v, hKv, hy⟩ := takeW_yields (ops := ops) hf hd
        have hf' : Fits n (a.put o.dst v) (ρ.put o.dst v) := hf.put (hdst hi) v
        rcases hy with ⟨hkind, hy⟩ | ⟨hkind, hy, hnow⟩
        · simp only [holdsH, hkind] at hKv
          have H := ih _ _ _ _ _ (hcl.add hmem) hf' (hput v hi hk) ht hKv
          refine wpAnyT_first (φ := fun _ => True) hi (Region.noSelect_spec hs) (fun c a w h => (hQ _ _ _).2 (PZ.less (fun t ht => (hdst hi t ht).1) ((hQ _ _ _).1 h))) f L _ a w hcl (Region.free_spec hi hfree) hmem (fun w _ => hy w) trivial ht ?_
          exact wpAnyT_top H
        · simp only [holdsH, hkind] at hKv
          have ht' : ∀ p ∈ trkOf P ((i, guardB ops o ρ, execE ρ o, v) :: h), p.2 w := by
            intro p hp
            rcases List.mem_cons.1 (show p ∈ (i, fun w => hkp (guardB ops o ρ) ((execE ρ o).run P w = .ok (.value v) w)) :: trkOf P h from hp) with rfl | hp
            · exact hnow
            · exact ht p hp
          have H := ih _ _ _ _ _ (hcl.add hmem) hf' (hput v hi hk) ht' hKv
          exact wpAnyT_first (φ := fun w => hkp (guardB ops o ρ) ((execE ρ o).run P w = .ok (.value v) w)) hi (Region.noSelect_spec hs) (fun c a w h => (hQ _ _ _).2 (PZ.less (fun t ht => (hdst hi t ht).1) ((hQ _ _ _).1 h))) f L _ a w hcl (Region.free_spec hi hfree) hmem hy hnow ht H
      · exact hd.elim
    · split at hd
      · rename_i hr
        refine ⟨fun _ => hK a ρ w hk hf hd, fun i hi => ?_⟩
        rw [hr] at hi; cases hi
      · rename_i js hne
        refine ⟨fun h0 => absurd h0 hne, fun j hj => ?_⟩
        have hdj := allL_mem hd j hj
        obtain ⟨_, o, hoj, _⟩ := mem_ready.1 hj
        simp only [hoj] at hdj
        have hgo : ∀ v w', (heldOk P ops j w' h ∧ dw P ops f (L.setIfInBounds j true) (dropH ops j h) (ρ.put o.dst v) w' K) →
            (∀ p ∈ dropT ops j (trkOf P h), p.2 w') ∧ wpAnyT P ops Q f (L.setIfInBounds j true) (dropT ops j (trkOf P h)) (a.put o.dst v) w' := by
          intro v w' ⟨hho, hdw⟩
          rw [trkOf_drop]
          have h1 := heldOk_all j w' h hho
          exact ⟨h1, ih _ _ _ _ _ (hcl.add hj) (hf.put (hdst hoj) v) (hput v hoj hk) h1 hdw⟩
        unfold wpOp
        simp only [hoj]
        have hw := wanted_eq (ops := ops) hf o
        cases hg : o.guard with
        | none =>
          simp only [guardB, hg] at hw
          simp only [Option.getD_none] at hw
          rw [if_pos hw]
          exact .inl (pN_wp hf (fun c w h => (hQ _ _ _).2 h) (opW_none hg hdj) hgo)
        | some g =>
          obtain ⟨k, want⟩ := g
          simp only [guardB, hg] at hw
          simp only [Option.getD_some] at hw
          simp only [opW, hg, pGd] at hdj
          rw [hw]
          split
          · rename_i hy
            rw [if_pos hy] at hdj
            exact .inl (pN_wp hf (fun c w h => (hQ _ _ _).2 h) hdj hgo)
          · rename_i hy
            rw [if_neg hy] at hdj
            exact hgo _ _ hdj

end


/-! ### The same by a list: which operation is taken, one behind the other -/

/-- The list: each operation's number, and which have come up before it (bit by bit). -/
abbrev Scr := List (Nat × Nat)

def nthO : List Oper → Nat → Option Oper
  | [], _ => none
  | o :: _, 0 => some o
  | _ :: r, n + 1 => nthO r n

def readyM (l : List Oper) (i L : Nat) : Bool :=
  !L.testBit i && match nthO l i with
    | some o => o.after.toList.all fun e => !Region.binds .any e || L.testBit e.on
    | none => false

def belowB : Nat → (Nat → Bool) → Bool
  | 0, _ => true
  | n + 1, p => p n && belowB n p

def freeM (ops : Array Oper) (l : List Oper) (n i L : Nat) : Bool :=
  match nthO l i with
  | some oi => belowB n fun j => Nat.beq j i || L.testBit j || match nthO l j with
    | some oj => (oj.after.toList.any fun e => Region.binds .any e && Nat.beq e.on i) || oi.apart ops oj
    | none => true
  | none => false

def okS (ops : Array Oper) (l : List Oper) (n : Nat) : Scr → Nat → Bool
  | [], L => belowB n fun j => L.testBit j
  | (i, M) :: r, L => Nat.beq M L && readyM l i M && (match nthO l i with
      | some o => (match Nat.blt (kindOf o.op) 2 with
        | true => freeM ops l n i M
        | false => belowB n fun j => Nat.beq j i || !readyM l j M)
      | none => false) && okS ops l n r (M ||| 2 ^ i)

def dwS [Pan] (P : Program) (ops : Array Oper) (l : List Oper) : Scr → Held → Env → World → (Env → World → Prop) → Prop
  | [], _, ρ, w, K => K ρ w
  | (i, _) :: r, h, ρ, w, K => match nthO l i with
    | some o => match Nat.blt (kindOf o.op) 2 with
      | true => takeW P o (guardB ops o ρ) ρ w fun v => dwS P ops l r (holdsH i o (guardB ops o ρ) ρ v h) (ρ.put o.dst v) w K
      | false => opW P ops o ρ w fun v w' => heldOk P ops i w' h ∧ dwS P ops l r (dropH ops i h) (ρ.put o.dst v) w' K
    | none => False

section
variable {P : Program} {ops : Array Oper} {n : Nat}

theorem nthO_eq (l : List Oper) : ∀ i, nthO l i = l[i]? := by
  induction l with
  | nil => intro i; cases i <;> rfl
  | cons o r ih => intro i; cases i with
    | zero => rfl
    | succ i => simp [nthO, ih]

theorem belowB_spec {p : Nat → Bool} : ∀ {n : Nat}, belowB n p = true → ∀ j, j < n → p j = true
  | 0, _, j, hj => by omega
  | n + 1, h, j, hj => by
    simp only [belowB, Bool.and_eq_true] at h
    by_cases e : j = n
    · subst e; exact h.1
    · exact belowB_spec h.2 j (by omega)

/-- The bits and the list of marks are one. -/
def RelM (n L : Nat) (listed : Array Bool) : Prop := listed.size = n ∧ ∀ j, j < n → listed.getD j false = L.testBit j

theorem RelM.getD {L : Nat} {listed : Array Bool} (h : RelM n L listed) {j : Nat} (hj : j < n) (d : Bool) : listed.getD j d = L.testBit j := by
  rw [← h.2 j hj]
  simp [h.1, hj]

theorem RelM.set {L : Nat} {listed : Array Bool} (h : RelM n L listed) (i : Nat) (hi : i < n) : RelM n (L ||| 2 ^ i) (listed.setIfInBounds i true) := by
  refine ⟨by simp [h.1], fun j hj => ?_⟩
  by_cases e : i = j
  · subst e
    simp [h.1, hi]
  · rw [getD_set_ne false e, h.2 j hj, Nat.testBit_or, Nat.testBit_two_pow]
    simp [e]

theorem readyM_iff {L : Nat} {listed : Array Bool} (h : RelM ops.size L listed) (hb : ∀ (j : Nat) (o : Oper), ops[j]? = some o → ∀ e ∈ o.after, Region.binds .any e = true → e.on < ops.size) (i : Nat) (hi : i < ops.size) :
    readyM ops.toList i L = true ↔ i ∈ Region.ready .any ops listed := by
  rw [mem_ready, h.getD hi true]
  simp only [readyM, nthO_eq, Array.getElem?_toList, Bool.and_eq_true, Bool.not_eq_true']
  constructor
  · rintro ⟨h0, h1⟩
    refine ⟨h0, ?_⟩
    cases ho : ops[i]? with
    | none => simp [ho] at h1
    | some o =>
      refine ⟨o, rfl, fun e he hbe => ?_⟩
      rw [ho] at h1
      simp only [List.all_eq_true, Bool.or_eq_true, Bool.not_eq_true'] at h1
      have := (h1 e (by simpa using he)).resolve_left (by simp [hbe])
      rw [h.2 e.on (hb i o ho e he hbe)]; exact this
  · rintro ⟨h0, o, ho, hall⟩
    refine ⟨h0, ?_⟩
    rw [ho]
    simp only [List.all_eq_true, Bool.or_eq_true, Bool.not_eq_true']
    intro e he
    cases hbe : Region.binds .any e with
    | false => exact .inl rfl
    | true =>
      refine .inr ?_
      rw [← h.2 e.on (hb i o ho e (by simpa using he) hbe)]
      exact hall e (by simpa using he) hbe

theorem dwS_any [Pan] {n : Frm} (hs : Region.noSelect ops = true) (hn : ∀ t ∈ opWrites ops.toList, n.lo ≤ t ∧ t < n.n) (hb : ∀ (j : Nat) (o : Oper), ops[j]? = some o → ∀ e ∈ o.after, Region.binds .any e = true → e.on < ops.size)
    {Q : Exit → Act → World → Prop} (hQ : ∀ c a w, Q (.panic c) a w ↔ PZ n a c w) (a₀ : Act) {K : Env → World → Prop}
    (hK : ∀ a' ρ' w', (∀ t, t ∉ opWrites ops.toList → a'.tmps.getD t undef = a₀.tmps.getD t undef) → Fits n a' ρ' → K ρ' w' → Q .normal a' w') :
    ∀ (s : Scr) (M : Nat) (L : Array Bool) (h : Held) (ρ : Env) (a : Act) (w : World), RelM ops.size M L → okS ops ops.toList ops.size s M = true → Clo ops L → Fits n a ρ → (∀ t, t ∉ opWrites ops.toList → a.tmps.getD t undef = a₀.tmps.getD t undef) →
      (∀ p ∈ trkOf P h, p.2 w) → dwS P ops ops.toList s h ρ w K → wpAnyT P ops Q s.length L (trkOf P h) a w := by
  have hput : ∀ {a : Act} {j : Nat} {o : Oper} (v : Value), ops[j]? = some o → (∀ t, t ∉ opWrites ops.toList → a.tmps.getD t undef = a₀.tmps.getD t undef) →
      (∀ t, t ∉ opWrites ops.toList → (a.put o.dst v).tmps.getD t undef = a₀.tmps.getD t undef) := by
    intro a j o v hj hk t ht
    rw [← hk t ht]
    cases hd : o.dst with
    | none => rfl
    | some d =>
      have hne : d ≠ t := fun e => ht (e ▸ opWrites_mem hj hd)
      simp only [Act.put, Array.getD_eq_getD_getElem?, Array.getElem?_setIfInBounds]
      rw [if_neg hne]
  have hdst : ∀ {j : Nat} {o : Oper}, ops[j]? = some o → ∀ t, o.dst = some t → n.lo ≤ t ∧ t < n.n := fun hj t ht => hn t (opWrites_mem hj ht)
  intro s
  induction s with
  | nil =>
    intro M L h ρ a w hrel hok _ hf hk _ hd
    refine ⟨?_, hK a ρ w hk hf hd⟩
    simp only [okS] at hok
    refine List.eq_nil_iff_forall_not_mem.2 fun j hj => ?_
    obtain ⟨h0, o, ho, _⟩ := mem_ready.1 hj
    have hlt := (Array.getElem?_eq_some_iff.1 ho).1
    rw [hrel.getD hlt true, belowB_spec hok j hlt] at h0
    cases h0
  | cons p r ih =>
    obtain ⟨i, M'⟩ := p
    intro M L h ρ a w hrel hok hcl hf hk ht hd
    simp only [okS, Bool.and_eq_true] at hok
    obtain ⟨⟨⟨hM, hrdy⟩, hcase⟩, hok'⟩ := hok
    have hM := Nat.eq_of_beq_eq_true hM
    subst hM
    simp only [dwS] at hd
    rw [nthO_eq, Array.getElem?_toList] at hcase hd
    cases hi : ops[i]? with
    | none => rw [hi] at hcase; cases hcase
    | some o =>
      rw [hi] at hcase hd
      have hlt := (Array.getElem?_eq_some_iff.1 hi).1
      have hmem := (readyM_iff hrel hb i hlt).1 hrdy
      have hrel' := hrel.set i hlt
      cases hkd : Nat.blt (kindOf o.op) 2 with
      | true =>
        simp only [hkd] at hcase hd
        obtain ⟨v, hKv, hy⟩ := takeW_yields (ops := ops) hf hd
        have hf' : Fits n (a.put o.dst v) (ρ.put o.dst v) := hf.put (hdst hi) v
        have hfree : ∀ j oj, ops[j]? = some oj → j ≠ i → L.getD j true = false → (∀ e ∈ oj.after, Region.binds .any e = true → e.on ≠ i) → o.apart ops oj = true := by
          intro j oj hj hne hun hno
          have hjlt := (Array.getElem?_eq_some_iff.1 hj).1
          simp only [freeM, nthO_eq, Array.getElem?_toList, hi] at hcase
          have := belowB_spec hcase j hjlt
          simp only [hj, Bool.or_eq_true] at this
          rcases this with (h1 | h1) | h1 | h1
          · exact absurd (Nat.eq_of_beq_eq_true h1) hne
          · rw [hrel.getD hjlt true] at hun; rw [hun] at h1; cases h1
          · obtain ⟨e, he, hbe⟩ := List.any_eq_true.1 h1
            simp only [Bool.and_eq_true] at hbe
            exact absurd (Nat.eq_of_beq_eq_true hbe.2) (hno e (by simpa using he) hbe.1)
          · exact h1
        rcases hy with ⟨hkind, hy⟩ | ⟨hkind, hy, hnow⟩
        · simp only [holdsH, hkind] at hKv
          have H := ih _ _ _ _ _ _ hrel' hok' (hcl.add hmem) hf' (hput v hi hk) ht hKv
          refine wpAnyT_first (φ := fun _ => True) hi (Region.noSelect_spec hs) (fun c a w h => (hQ _ _ _).2 (PZ.less (fun t ht => (hdst hi t ht).1) ((hQ _ _ _).1 h))) _ L _ a w hcl hfree hmem (fun w _ => hy w) trivial ht ?_
          exact wpAnyT_top H
        · simp only [holdsH, hkind] at hKv
          have ht' : ∀ p ∈ trkOf P ((i, guardB ops o ρ, execE ρ o, v) :: h), p.2 w := by
            intro p hp
            rcases List.mem_cons.1 (show p ∈ (i, fun w => hkp (guardB ops o ρ) ((execE ρ o).run P w = .ok (.value v) w)) :: trkOf P h from hp) with rfl | hp
            · exact hnow
            · exact ht p hp
          have H := ih _ _ _ _ _ _ hrel' hok' (hcl.add hmem) hf' (hput v hi hk) ht' hKv
          exact wpAnyT_first (φ := fun w => hkp (guardB ops o ρ) ((execE ρ o).run P w = .ok (.value v) w)) hi (Region.noSelect_spec hs) (fun c a w h => (hQ _ _ _).2 (PZ.less (fun t ht => (hdst hi t ht).1) ((hQ _ _ _).1 h))) _ L _ a w hcl hfree hmem hy hnow ht H
      | false =>
        simp only [hkd] at hcase hd
        refine ⟨fun h0 => (by rw [h0] at hmem; cases hmem), fun j hj => ?_⟩
        have hji : j = i := by
          obtain ⟨_, oj, hoj, _⟩ := mem_ready.1 hj
          have hjlt := (Array.getElem?_eq_some_iff.1 hoj).1
          have := belowB_spec hcase j hjlt
          simp only [Bool.or_eq_true, Bool.not_eq_true'] at this
          rcases this with h1 | h1
          · exact Nat.eq_of_beq_eq_true h1
          · rw [(readyM_iff hrel hb j hjlt).2 hj] at h1; cases h1
        subst hji
        have hgo : ∀ v w', (heldOk P ops j w' h ∧ dwS P ops ops.toList r (dropH ops j h) (ρ.put o.dst v) w' K) →
            (∀ p ∈ dropT ops j (trkOf P h), p.2 w') ∧ wpAnyT P ops Q r.length (L.setIfInBounds j true) (dropT ops j (trkOf P h)) (a.put o.dst v) w' := by
          intro v w' ⟨hho, hdw⟩
          rw [trkOf_drop]
          have h1 := heldOk_all j w' h hho
          exact ⟨h1, ih _ _ _ _ _ _ hrel' hok' (hcl.add hj) (hf.put (hdst hi) v) (hput v hi hk) h1 hdw⟩
        unfold wpOp
        simp only [hi]
        have hw := wanted_eq (ops := ops) hf o
        cases hg : o.guard with
        | none =>
          simp only [guardB, hg] at hw
          simp only [Option.getD_none] at hw
          rw [if_pos hw]
          exact .inl (pN_wp hf (fun c w h => (hQ _ _ _).2 h) (opW_none hg hd) hgo)
        | some g =>
          obtain ⟨k, want⟩ := g
          simp only [guardB, hg] at hw
          simp only [Option.getD_some] at hw
          simp only [opW, hg, pGd] at hd
          rw [hw]
          split
          · rename_i hy
            rw [if_pos hy] at hd
            exact .inl (pN_wp hf (fun c w h => (hQ _ _ _).2 h) hd hgo)
          · rename_i hy
            rw [if_neg hy] at hd
            exact hgo _ _ hd
end

end Go.Proofs.YtbgnnjfpiblkmaaDoor
