/-
  Ranges over a function, and functions that call yield: the condition of a code that may stand in a round, and that it serves. After Cw, Draw and Code, at fences whose frames may be a round's. No program is named here.
-/
import Derived.OrdersIn
import Derived.TacticsIn
import Derived.RangeFuncRecord
import Derived.Test.YteeepkimnpabiaaDoorCode
namespace Go.Proofs.YteeepkimnpabiaaDoor
open Go
set_option linter.unusedSimpArgs false
set_option linter.unnecessarySimpa false
set_option linter.unusedSectionVars false
set_option linter.unusedVariables false

/-- No bound; the frames' rounds as said. -/
abbrev Fr (r : Option Nat) : Fence := { Fence.wide with round := r }
theorem Fr.all (r : Option Nat) (f : FuncId) : (Fr r).fn f := trivial
theorem Fr.room (r : Option Nat) (n : Nat) : (Fr r).room n := fun _ h => by cases h
theorem Fr.deep (r : Option Nat) (n : Nat) : (Fr r).depth.isSome = true → 1 ≤ n := fun h => by cases h
theorem Fr.calls {r : Option Nat} {n : Nat} {P : Program} {f : FuncId} {args : Array Value} {w : World} {R : Ending → World → Prop} (h : Calls P f args w R) : CallsIn (Fr r) n P f args w R := (callsIn_wide (n := n)).2 h

def notDf (o : Oper) : Bool := match o.op with
  | .defer _ => false
  | _ => true
theorem notDf_sem {o : Oper} (h : notDf o = true) (r : Option Nat) (ρ : Operand → Value) : Oper.semAt r ρ o = execOp ρ o :=
  Oper.semAt_eq r ρ o fun c hc => by simp [notDf, hc] at h

/-- A round that is asked for. -/
def rY [Pan] (P : Program) (r : Result Next) (K : Value → World → Prop) : Prop :=
  match r with
  | .ok (.round l f tmps assign body) w' => RoundIn (Fr none) 0 P l f tmps assign body w' (retP K)
  | r => rN P r K
/-- An operation that may be a call of yield. -/
def pY [Pan] (P : Program) (m : Sem Next) (w : World) (K : Value → World → Prop) : Prop := rY P (m.run P w) K
theorem pY_of [Pan] {P : Program} {m : Sem Next} {w : World} {K : Value → World → Prop} (h : pN P m w K) : pY P m w K := by
  unfold pN at h
  unfold pY rY
  split
  · rename_i hr; rw [hr] at h; exact h.elim
  · exact h

def mayY : Op → Bool
  | .call { callee := .value (.tmp _), .. } => true
  | _ => false
def pX [Pan] (P : Program) (op : Op) (m : Sem Next) (w : World) (K : Value → World → Prop) : Prop :=
  match mayY op with
  | true => pY P m w K
  | false => pN P m w K
theorem pX_up [Pan] {P : Program} {op : Op} {m : Sem Next} {w : World} {K : Value → World → Prop} (h : pX P op m w K) : pY P m w K := by
  unfold pX at h
  split at h
  · exact h
  · exact pY_of h

def opR [Pan] (P : Program) (ops : Array Oper) (o : Oper) (ρ : Env) (w : World) (K : Value → World → Prop) : Prop :=
  match o.guard with
  | none => match o.op with
    | .move x => K (ev ρ x) w
    | .assign x => K (ev ρ x) w
    | op => pX P op (execE ρ o) w K
  | some (j, want) => pGd (wantE ops ρ j want) (pX P o.op (execE ρ o) w) w K

def rgR [Pan] (P : Program) (ops : Array Oper) : List Oper → Env → World → (Env → World → Prop) → Prop
  | [], ρ, w, K => K ρ w
  | o :: rest, ρ, w, K => opR P ops o ρ w fun v w' => rgR P ops rest (ρ.put o.dst v) w' K

def dwR [Pan] (P : Program) (ops : Array Oper) : Nat → Array Bool → Held → Env → World → (Env → World → Prop) → Prop
  | 0, L, _, ρ, w, K => match Region.ready .any ops L with
    | [] => K ρ w
    | _ => False
  | f + 1, L, h, ρ, w, K =>
    match pickFirst ops (Region.ready .any ops L) with
    | some i => match ops[i]?, Region.free .any ops L i with
      | some o, true => takeW P o (guardB ops o ρ) ρ w fun v => dwR P ops f (L.setIfInBounds i true) (holdsH i o (guardB ops o ρ) ρ v h) (ρ.put o.dst v) w K
      | _, _ => False
    | none => match Region.ready .any ops L with
      | [] => K ρ w
      | js => allL js fun j => match ops[j]? with
        | some o => opR P ops o ρ w fun v w' => heldOk P ops j w' h ∧ dwR P ops f (L.setIfInBounds j true) (dropH ops j h) (ρ.put o.dst v) w' K
        | none => False

def dwSR [Pan] (P : Program) (ops : Array Oper) (l : List Oper) : Scr → Held → Env → World → (Env → World → Prop) → Prop
  | [], _, ρ, w, K => K ρ w
  | (i, _) :: r, h, ρ, w, K => match nthO l i with
    | some o => match Nat.blt (kindOf o.op) 2 with
      | true => takeW P o (guardB ops o ρ) ρ w fun v => dwSR P ops l r (holdsH i o (guardB ops o ρ) ρ v h) (ρ.put o.dst v) w K
      | false => opR P ops o ρ w fun v w' => heldOk P ops i w' h ∧ dwSR P ops l r (dropH ops i h) (ρ.put o.dst v) w' K
    | none => False

/-! ### Regions serve -/
section
variable [Pan] {P : Program} {n : Frm} {r : Option Nat}

theorem pY_wp {a : Act} {ρ : Env} (hf : Fits n a ρ) {o : Oper} (hd : notDf o = true) {w : World} {K : Value → World → Prop} {next : Act → World → Prop} {Q : Exit → Act → World → Prop}
    (hQ : ∀ c w, PZ n a c w → Q (.panic c) a w) (h : pY P (execE ρ o) w K) (hK : ∀ v w', K v w' → next (a.put o.dst v) w') : o.wpIn (Fr r) 0 P a w next Q := by
  refine ⟨fun _ _ => trivial, ?_⟩
  rw [notDf_sem hd, hf.eval]
  rw [execE_eq] at h
  unfold pY rY at h
  have hret : ∀ (e : Ending) (w'' : World), retP K e w'' → (match (motive := Ending → World → Prop) e, w'' with
      | .returned v, w'' => next (a.put o.dst v) w''
      | .panicked chain, w'' => Q (.panic chain) a w''
      | .outgrown, _ => LetsOut Q) := by
    intro e w'' he
    cases e with
    | returned v => exact hK _ _ he
    | panicked c => exact hQ _ _ (hf.pz he)
    | outgrown => exact he.elim
  split at h
  · rename_i l f tmps assign body w' hr
    rw [hr]
    exact ⟨Fr.deep _ _, RoundIn.mono h hret⟩
  · unfold rN at h
    split at h
    · rename_i v w' hr; rw [hr]; exact hK _ _ h
    · rename_i w' hr; rw [hr]; exact hK _ _ h
    · rename_i f args w' hr
      rw [hr]
      exact ⟨Fr.deep _ _, Fr.calls (Calls.mono h hret)⟩
    · rename_i v w' hr; rw [hr]; exact hQ _ _ (hf.pz h)
    · exact h.elim

theorem opR_none {ops : Array Oper} {o : Oper} {ρ : Env} {w : World} {K : Value → World → Prop} (hg : o.guard = none) (h : opR P ops o ρ w K) : pY P (execE ρ o) w K := by
  unfold opR at h
  rw [hg] at h
  dsimp only at h
  split at h
  · rename_i x hx; unfold execE; rw [hx]; exact h
  · rename_i x hx; unfold execE; rw [hx]; exact h
  · exact pX_up h

theorem rgR_wp {ops : Array Oper} (l : List Oper) : ∀ {a : Act} {ρ : Env} {w : World} {K : Env → World → Prop} {Q : Exit → Act → World → Prop},
    (∀ c a w, PZ n a c w → Q (.panic c) a w) → (∀ o ∈ l, notDf o = true) → (∀ t ∈ opWrites l, n.lo ≤ t ∧ t < n.n) → Fits n a ρ → rgR P ops l ρ w K →
    (∀ a' ρ' w', (∀ t, t ∉ opWrites l → a'.tmps.getD t undef = a.tmps.getD t undef) → Fits n a' ρ' → K ρ' w' → Q .normal a' w') →
    wpListIn (Fr r) 0 P ops Q l a w := by
  induction l with
  | nil =>
    intro a ρ w K Q hQ hnd hw hf h hK
    exact hK a ρ w (fun _ _ => rfl) hf h
  | cons o rest ih =>
    intro a ρ w K Q hQ hnd hw hf h hK
    have hd : ∀ t, o.dst = some t → n.lo ≤ t ∧ t < n.n := fun t ht => hw t (by simp [opWrites, ht])
    have ho := hnd o List.mem_cons_self
    have hrest : ∀ t ∈ opWrites rest, n.lo ≤ t ∧ t < n.n := fun t ht => hw t (by
      simp only [opWrites]; split
      · exact List.mem_cons_of_mem _ ht
      · exact ht)
    have hgo : ∀ v w', rgR P ops rest (ρ.put o.dst v) w' K → wpListIn (Fr r) 0 P ops Q rest (a.put o.dst v) w' := by
      intro v w' hr
      refine ih hQ (fun o h => hnd o (List.mem_cons_of_mem _ h)) hrest (hf.put hd v) hr fun a' ρ' w'' hk hf' hK' => hK a' ρ' w'' (fun t ht => ?_) hf' hK'
      have ht' : t ∉ opWrites rest := fun hm => ht (by
        simp only [opWrites]; split
        · exact List.mem_cons_of_mem _ hm
        · exact hm)
      rw [hk t ht']
      cases hdst : o.dst with
      | none => rfl
      | some d =>
        have hne : d ≠ t := fun e => ht (by simp [opWrites, hdst, e])
        simp only [Act.put, Array.getD_eq_getD_getElem?, Array.getElem?_setIfInBounds]
        rw [if_neg hne]
    simp only [rgR] at h
    cases hg : o.guard with
    | none =>
      exact wpListIn_plain hg fun K' hK' => pY_wp hf ho (fun c w h => hQ c a w h) (opR_none hg h) fun v w' hr => hK' _ _ (hgo v w' hr)
    | some g =>
      obtain ⟨j, want⟩ := g
      simp only [opR, hg] at h
      refine wpListIn_step fun K' hK' => ?_
      simp only [Region.wanted, hg, hf.yielded ops]
      simp only [pGd] at h
      split
      · rename_i hy
        rw [if_pos hy] at h
        exact pY_wp hf ho (fun c w h => hQ c a w h) (pX_up h) fun v w' hr => hK' _ _ (hgo v w' hr)
      · rename_i hy
        rw [if_neg hy] at h
        exact ⟨fun _ _ => trivial, hK' _ _ (hgo _ _ h)⟩
end

section
variable {P : Program} {ops : Array Oper} {Q : Exit → Act → World → Prop} {r : Option Nat}

theorem YieldsW.wpOpI {i : Nat} {o : Oper} {v : Value} {a : Act} {w : World} (hi : ops[i]? = some o) (hd : notDf o = true) (hy : YieldsW P ops o v a w)
    {K : Act → World → Prop} (h : K (a.put o.dst v) w) : wpOpIn (Fr r) 0 P ops Q i K a w := by
  unfold Go.wpOpIn
  simp only [hi]
  rcases hy with ⟨hw, hv⟩ | ⟨hw, rfl⟩
  · rw [if_pos hw]
    refine ⟨fun _ _ => trivial, ?_⟩
    rw [notDf_sem hd, hv]
    exact h
  · rw [if_neg (by simp [hw])]
    exact ⟨fun _ _ => trivial, h⟩

theorem wpOpI_putW {j : Nat} {oi oj : Oper} {v : Value} (φ : World → Prop) (hj : ops[j]? = some oj) (hdj : notDf oj = true) (hap : oi.apart ops oj = true)
    (hsi : ∀ cs b, oi.op ≠ .select cs b) (hsj : ∀ cs b, oj.op ≠ .select cs b)
    (hQ : ∀ c a w, Q (.panic c) (a.put oi.dst v) w → Q (.panic c) a w) (hL : ¬ LetsOut Q) {K : Act → World → Prop} {a : Act} {w : World}
    (hy : ∀ w, φ w → YieldsW P ops oi v a w) (h : wpOpIn (Fr r) 0 P ops Q j K (a.put oi.dst v) w) :
    wpOpIn (Fr r) 0 P ops Q j (fun a' w' => (∀ w, φ w → YieldsW P ops oi v a' w) ∧ K (a'.put oi.dst v) w') a w := by
  obtain ⟨h1, h2, h3⟩ := Oper.apart_spec hap
  have keep : ∀ (a : Act), (∀ w, φ w → YieldsW P ops oi v a w) → ∀ u, (∀ w, φ w → YieldsW P ops oi v (a.put oj.dst u) w) := fun a hy u w hw =>
    (hy w hw).of_same (execOp_put oi hsi a oj.dst u h3) (wanted_put oi a oj.dst u h3)
  have keepD : ∀ d, (∀ w, φ w → YieldsW P ops oi v { a with defers := d :: a.defers } w) := fun d w hw => (hy w hw).of_same rfl rfl
  unfold Go.wpOpIn at *
  simp only [hj] at *
  rw [wanted_put oj a oi.dst v h1] at h
  split
  · rename_i hw
    simp only [hw, if_true] at h
    refine ⟨fun _ _ => trivial, ?_⟩
    have h := h.2
    rw [notDf_sem hdj, execOp_put oj hsj a oi.dst v h1] at h
    rw [notDf_sem hdj]
    generalize (execOp a.eval oj).run P w = r at *
    cases r with
    | ok n w' =>
      cases n <;> simp only [Oper.uponIn] at h ⊢
      case value u => exact ⟨keep a hy u, by rw [← Act.put_comm a v u h2]; exact h⟩
      case skip => exact ⟨keep a hy _, by rw [← Act.put_comm a v undef h2]; exact h⟩
      case defer d =>
        refine ⟨keep _ (keepD d) _, ?_⟩
        rw [← Act.put_comm _ v undef h2, ← Act.put_defers]
        exact h
      case enter f args =>
        refine ⟨h.1, CallsIn.mono h.2 fun e w'' he => ?_⟩
        cases e with
        | returned u => exact ⟨keep a hy u, by rw [← Act.put_comm a v u h2]; exact he⟩
        | panicked c => exact hQ _ _ _ he
        | outgrown => exact he
      case row row args => exact ⟨h.1, RowsIn.mono h.2 fun u w'' he => ⟨keep a hy u, by rw [← Act.put_comm a v u h2]; exact he⟩⟩
      case round l f tmps assign body =>
        refine ⟨h.1, RoundIn.mono h.2 fun e w'' he => ?_⟩
        cases e with
        | returned u => exact ⟨keep a hy u, by rw [← Act.put_comm a v u h2]; exact he⟩
        | panicked c => exact hQ _ _ _ he
        | outgrown => exact he
    | halt x w' =>
      cases x <;> simp only [Oper.uponIn] at h ⊢
      case panic u => exact hQ _ _ _ h
  · rename_i hw
    simp only [hw] at h
    exact ⟨fun _ _ => trivial, keep a hy _, by rw [← Act.put_comm a v undef h2]; exact h.2⟩

def wpAnyTI (r : Option Nat) (P : Program) (ops : Array Oper) (Q : Exit → Act → World → Prop) : Nat → Array Bool → Trk → Act → World → Prop
  | 0, listed, _, a, w => Region.ready .any ops listed = [] ∧ Q .normal a w
  | fuel + 1, listed, trk, a, w =>
    (Region.ready .any ops listed = [] → Q .normal a w) ∧
    ∀ i ∈ Region.ready .any ops listed, wpOpIn (Fr r) 0 P ops Q i (fun a' w' => (∀ p ∈ dropT ops i trk, p.2 w') ∧ wpAnyTI r P ops Q fuel (listed.setIfInBounds i true) (dropT ops i trk) a' w') a w

theorem wpAnyIn_of_T : ∀ (fuel : Nat) (listed : Array Bool) (trk : Trk) (a : Act) (w : World), wpAnyTI r P ops Q fuel listed trk a w → wpAnyIn (Fr r) 0 P .any ops Q fuel listed a w
  | 0, _, _, _, _, h => h
  | fuel + 1, _, _, _, _, h => ⟨h.1, fun i hi => wpOpIn_mono (fun a' w' h' => wpAnyIn_of_T fuel _ _ a' w' h'.2) (h.2 i hi)⟩

theorem wpAnyTI_less : ∀ (fuel : Nat) (listed : Array Bool) (trk trk' : Trk) (a : Act) (w : World), (∀ p ∈ trk', p ∈ trk) → wpAnyTI r P ops Q fuel listed trk a w → wpAnyTI r P ops Q fuel listed trk' a w
  | 0, _, _, _, _, _, _, h => h
  | fuel + 1, _, trk, trk', _, _, hs, h => ⟨h.1, fun i hi => wpOpIn_mono (fun a' w' h' => by
      have hs' : ∀ p ∈ dropT ops i trk', p ∈ dropT ops i trk := fun p hp => by
        simp only [dropT, List.mem_filter] at hp ⊢
        exact ⟨hs p hp.1, hp.2⟩
      exact ⟨fun p hp => h'.1 p (hs' p hp), wpAnyTI_less fuel _ _ _ a' w' hs' h'.2⟩) (h.2 i hi)⟩

theorem wpAnyTI_first {i : Nat} {oi : Oper} {v : Value} {φ : World → Prop} (hi : ops[i]? = some oi) (hdi : notDf oi = true) (hnd : ∀ (j : Nat) (o : Oper), ops[j]? = some o → notDf o = true) (hsel : ∀ (j : Nat) (o : Oper) cs b, ops[j]? = some o → o.op ≠ .select cs b)
    (hQ : ∀ c a w, Q (.panic c) (a.put oi.dst v) w → Q (.panic c) a w) (hL : ¬ LetsOut Q) :
    ∀ (fuel : Nat) (listed : Array Bool) (trk : Trk) (a : Act) (w : World), Clo ops listed →
      (∀ j oj, ops[j]? = some oj → j ≠ i → listed.getD j true = false → (∀ e ∈ oj.after, Region.binds .any e = true → e.on ≠ i) → oi.apart ops oj = true) →
      i ∈ Region.ready .any ops listed → (∀ w, φ w → YieldsW P ops oi v a w) → φ w → (∀ p ∈ trk, p.2 w) →
      wpAnyTI r P ops Q fuel (listed.setIfInBounds i true) ((i, φ) :: trk) (a.put oi.dst v) w → wpAnyTI r P ops Q (fuel + 1) listed trk a w := by
  intro fuel
  induction fuel with
  | zero =>
    intro listed trk a w _ _ hr hy hφ ht H
    refine ⟨fun h => (by rw [h] at hr; cases hr), fun j hj => ?_⟩
    by_cases hji : j = i
    · subst hji
      exact (hy w hφ).wpOpI hi hdi ⟨fun p hp => ht p (by simp only [dropT, List.mem_filter] at hp; exact hp.1), H⟩
    · have := ready_mono hj hji
      rw [H.1] at this
      cases this
  | succ fuel ih =>
    intro listed trk a w hcl hfree hr hy hφ ht H
    refine ⟨fun h => (by rw [h] at hr; cases hr), fun j hj => ?_⟩
    by_cases hji : j = i
    · subst hji
      refine (hy w hφ).wpOpI hi hdi ⟨fun p hp => ht p (by simp only [dropT, List.mem_filter] at hp; exact hp.1), wpAnyTI_less _ _ _ _ _ _ (fun p hp => ?_) H⟩
      simp only [dropT, List.mem_filter] at hp
      exact List.mem_cons_of_mem _ hp.1
    · have h1 := H.2 j (ready_mono hj hji)
      obtain ⟨hjun, oj, hoj, hall⟩ := mem_ready.1 hj
      have hiun := (mem_ready.1 hr).1
      have hnl : listed.getD i false ≠ true := fun hl => by
        rcases Nat.lt_or_ge i listed.size with h' | h'
        · simp [h'] at hiun hl; rw [hiun] at hl; cases hl
        · simp [Array.getElem?_eq_none h'] at hl
      have hnot : ∀ e ∈ oj.after, Region.binds .any e = true → e.on ≠ i := fun e he hb heq => hnl (heq ▸ hall e he hb)
      have hnb : bfB ops ops.size i j = false := by
        cases hb : bfB ops ops.size i j with
        | false => rfl
        | true => exact absurd (hcl.bf _ _ _ hb ⟨oj, hoj, hall⟩) hnl
      have hdrop : dropT ops j ((i, φ) :: trk) = (i, φ) :: dropT ops j trk := by
        simp [dropT, hnb]
      have h2 := wpOpI_putW φ hoj (hnd j oj hoj) (hfree j oj hoj hji hjun hnot) (fun cs b => hsel i oi cs b hi) (fun cs b => hsel j oj cs b hoj) hQ hL hy h1
      have hfree' : ∀ k ok, ops[k]? = some ok → k ≠ i → (listed.setIfInBounds j true).getD k true = false →
          (∀ e ∈ ok.after, Region.binds .any e = true → e.on ≠ i) → oi.apart ops ok = true := fun k ok hk hki hun hno => by
        refine hfree k ok hk hki ?_ hno
        by_cases hjk : j = k
        · subst hjk; exact hjun
        · rw [getD_set_ne true hjk] at hun; exact hun
      refine wpOpIn_mono (fun a' w' h3 => ?_) h2
      obtain ⟨hy', hobl, H'⟩ := h3
      rw [hdrop] at hobl H'
      refine ⟨fun p hp => hobl p (List.mem_cons_of_mem _ hp), ih (listed.setIfInBounds j true) _ a' w' (hcl.add hj) hfree' (ready_mono hr (Ne.symm hji)) hy' (hobl (i, φ) List.mem_cons_self) (fun p hp => hobl p (List.mem_cons_of_mem _ hp)) ?_⟩
      rw [Array.setIfInBounds_comm _ _ hji]
      exact H'

theorem wpAnyTI_top {i : Nat} {f : Nat} {L : Array Bool} {trk : Trk} {a : Act} {w : World} (H : wpAnyTI r P ops Q f L trk a w) : wpAnyTI r P ops Q f L ((i, fun _ => True) :: trk) a w := by
  have gen : ∀ (f : Nat) (L : Array Bool) (trk trk' : Trk) (a : Act) (w : World), (∀ p ∈ trk', p ∈ trk ∨ ∀ w, p.2 w) → wpAnyTI r P ops Q f L trk a w → wpAnyTI r P ops Q f L trk' a w := by
    intro f
    induction f with
    | zero => intro L trk trk' a w _ h; exact h
    | succ f ih =>
      intro L trk trk' a w hs h
      refine ⟨h.1, fun i hi => wpOpIn_mono (fun a' w' h' => ?_) (h.2 i hi)⟩
      have hs' : ∀ p ∈ dropT ops i trk', p ∈ dropT ops i trk ∨ ∀ w, p.2 w := fun p hp => by
        simp only [dropT, List.mem_filter] at hp ⊢
        rcases hs p hp.1 with h | h
        · exact .inl ⟨h, hp.2⟩
        · exact .inr h
      exact ⟨fun p hp => (hs' p hp).elim (h'.1 p) (fun h => h w'), ih _ _ _ a' w' hs' h'.2⟩
  refine gen f L trk _ a w (fun p hp => ?_) H
  rcases List.mem_cons.1 hp with rfl | hp
  · exact .inr fun _ => trivial
  · exact .inl hp
end

section
variable {P : Program} {ops : Array Oper} {rd : Option Nat}

theorem dwR_any [Pan] {n : Frm} (hs : Region.noSelect ops = true) (hnd : ∀ (j : Nat) (o : Oper), ops[j]? = some o → notDf o = true) (hn : ∀ t ∈ opWrites ops.toList, n.lo ≤ t ∧ t < n.n) {Q : Exit → Act → World → Prop} (hQ : ∀ c a w, Q (.panic c) a w ↔ PZ n a c w) (hL : ¬ LetsOut Q) (a₀ : Act) {K : Env → World → Prop}
    (hK : ∀ a' ρ' w', (∀ t, t ∉ opWrites ops.toList → a'.tmps.getD t undef = a₀.tmps.getD t undef) → Fits n a' ρ' → K ρ' w' → Q .normal a' w') :
    ∀ (f : Nat) (L : Array Bool) (h : Held) (ρ : Env) (a : Act) (w : World), Clo ops L → Fits n a ρ → (∀ t, t ∉ opWrites ops.toList → a.tmps.getD t undef = a₀.tmps.getD t undef) →
      (∀ p ∈ trkOf P h, p.2 w) → dwR P ops f L h ρ w K → wpAnyTI rd P ops Q f L (trkOf P h) a w := by
  have hput : ∀ {a : Act} {j : Nat} {o : Oper} (v : Value), ops[j]? = some o → (∀ t, t ∉ opWrites ops.toList → a.tmps.getD t undef = a₀.tmps.getD t undef) →
      (∀ t, t ∉ opWrites ops.toList → (a.put o.dst v).tmps.getD t undef = a₀.tmps.getD t undef) := by
    intro a j o v hj hk t ht
    rw [← hk t ht]
    cases hd : o.dst with
    | none => rfl
    | some d =>
      have hne : d ≠ t := fun e => ht (e ▸ opWrites_mem hj hd)
      simp only [Act.put, Array.getD_eq_getD_getElem?, Array.getElem?_setIfInBounds]
      rw [if_neg hne]
  have hdst : ∀ {j : Nat} {o : Oper}, ops[j]? = some o → ∀ t, o.dst = some t → n.lo ≤ t ∧ t < n.n := fun hj t ht => hn t (opWrites_mem hj ht)
  intro f
  induction f with
  | zero =>
    intro L h ρ a w _ hf hk _ hd
    simp only [dwR] at hd
    split at hd
    · rename_i hr; exact ⟨hr, hK a ρ w hk hf hd⟩
    · exact hd.elim
  | succ f ih =>
    intro L h ρ a w hcl hf hk ht hd
    simp only [dwR] at hd
    split at hd
    · rename_i i hpick
      have hmem := pickFirst_mem hpick
      split at hd
      · rename_i o hi hfree
        obtain ⟨v, hKv, hy⟩ := takeW_yields (ops := ops) hf hd
        have hf' : Fits n (a.put o.dst v) (ρ.put o.dst v) := hf.put (hdst hi) v
        rcases hy with ⟨hkind, hy⟩ | ⟨hkind, hy, hnow⟩
        · simp only [holdsH, hkind] at hKv
          have H := ih _ _ _ _ _ (hcl.add hmem) hf' (hput v hi hk) ht hKv
          refine wpAnyTI_first (φ := fun _ => True) hi (hnd _ _ hi) hnd (Region.noSelect_spec hs) (fun c a w h => (hQ _ _ _).2 (PZ.less (fun t ht => (hdst hi t ht).1) ((hQ _ _ _).1 h))) hL f L _ a w hcl (Region.free_spec hi hfree) hmem (fun w _ => hy w) trivial ht ?_
          exact wpAnyTI_top H
        · simp only [holdsH, hkind] at hKv
          have ht' : ∀ p ∈ trkOf P ((i, guardB ops o ρ, execE ρ o, v) :: h), p.2 w := by
            intro p hp
            rcases List.mem_cons.1 (show p ∈ (i, fun w => hkp (guardB ops o ρ) ((execE ρ o).run P w = .ok (.value v) w)) :: trkOf P h from hp) with rfl | hp
            · exact hnow
            · exact ht p hp
          have H := ih _ _ _ _ _ (hcl.add hmem) hf' (hput v hi hk) ht' hKv
          exact wpAnyTI_first (φ := fun w => hkp (guardB ops o ρ) ((execE ρ o).run P w = .ok (.value v) w)) hi (hnd _ _ hi) hnd (Region.noSelect_spec hs) (fun c a w h => (hQ _ _ _).2 (PZ.less (fun t ht => (hdst hi t ht).1) ((hQ _ _ _).1 h))) hL f L _ a w hcl (Region.free_spec hi hfree) hmem hy hnow ht H
      · exact hd.elim
    · split at hd
      · rename_i hr
        refine ⟨fun _ => hK a ρ w hk hf hd, fun i hi => ?_⟩
        rw [hr] at hi; cases hi
      · rename_i js hne
        refine ⟨fun h0 => absurd h0 hne, fun j hj => ?_⟩
        have hdj := allL_mem hd j hj
        obtain ⟨_, o, hoj, _⟩ := mem_ready.1 hj
        simp only [hoj] at hdj
        have hgo : ∀ v w', (heldOk P ops j w' h ∧ dwR P ops f (L.setIfInBounds j true) (dropH ops j h) (ρ.put o.dst v) w' K) →
            (∀ p ∈ dropT ops j (trkOf P h), p.2 w') ∧ wpAnyTI rd P ops Q f (L.setIfInBounds j true) (dropT ops j (trkOf P h)) (a.put o.dst v) w' := by
          intro v w' ⟨hho, hdw⟩
          rw [trkOf_drop]
          have h1 := heldOk_all j w' h hho
          exact ⟨h1, ih _ _ _ _ _ (hcl.add hj) (hf.put (hdst hoj) v) (hput v hoj hk) h1 hdw⟩
        unfold Go.wpOpIn
        simp only [hoj]
        have hw := wanted_eq (ops := ops) hf o
        cases hg : o.guard with
        | none =>
          simp only [guardB, hg] at hw
          simp only [Option.getD_none] at hw
          rw [if_pos hw]
          exact pY_wp hf (hnd _ _ hoj) (fun c w h => (hQ _ _ _).2 h) (opR_none hg hdj) hgo
        | some g =>
          obtain ⟨k, want⟩ := g
          simp only [guardB, hg] at hw
          simp only [Option.getD_some] at hw
          simp only [opR, hg, pGd] at hdj
          rw [hw]
          split
          · rename_i hy
            rw [if_pos hy] at hdj
            exact pY_wp hf (hnd _ _ hoj) (fun c w h => (hQ _ _ _).2 h) (pX_up hdj) hgo
          · rename_i hy
            rw [if_neg hy] at hdj
            exact ⟨fun _ _ => trivial, hgo _ _ hdj⟩

theorem dwSR_any [Pan] {n : Frm} (hs : Region.noSelect ops = true) (hnd : ∀ (j : Nat) (o : Oper), ops[j]? = some o → notDf o = true) (hn : ∀ t ∈ opWrites ops.toList, n.lo ≤ t ∧ t < n.n) (hb : ∀ (j : Nat) (o : Oper), ops[j]? = some o → ∀ e ∈ o.after, Region.binds .any e = true → e.on < ops.size)
    {Q : Exit → Act → World → Prop} (hQ : ∀ c a w, Q (.panic c) a w ↔ PZ n a c w) (hL : ¬ LetsOut Q) (a₀ : Act) {K : Env → World → Prop}
    (hK : ∀ a' ρ' w', (∀ t, t ∉ opWrites ops.toList → a'.tmps.getD t undef = a₀.tmps.getD t undef) → Fits n a' ρ' → K ρ' w' → Q .normal a' w') :
    ∀ (s : Scr) (M : Nat) (L : Array Bool) (h : Held) (ρ : Env) (a : Act) (w : World), RelM ops.size M L → okS ops ops.toList ops.size s M = true → Clo ops L → Fits n a ρ → (∀ t, t ∉ opWrites ops.toList → a.tmps.getD t undef = a₀.tmps.getD t undef) →
      (∀ p ∈ trkOf P h, p.2 w) → dwSR P ops ops.toList s h ρ w K → wpAnyTI rd P ops Q s.length L (trkOf P h) a w := by
  have hput : ∀ {a : Act} {j : Nat} {o : Oper} (v : Value), ops[j]? = some o → (∀ t, t ∉ opWrites ops.toList → a.tmps.getD t undef = a₀.tmps.getD t undef) →
      (∀ t, t ∉ opWrites ops.toList → (a.put o.dst v).tmps.getD t undef = a₀.tmps.getD t undef) := by
    intro a j o v hj hk t ht
    rw [← hk t ht]
    cases hd : o.dst with
    | none => rfl
    | some d =>
      have hne : d ≠ t := fun e => ht (e ▸ opWrites_mem hj hd)
      simp only [Act.put, Array.getD_eq_getD_getElem?, Array.getElem?_setIfInBounds]
      rw [if_neg hne]
  have hdst : ∀ {j : Nat} {o : Oper}, ops[j]? = some o → ∀ t, o.dst = some t → n.lo ≤ t ∧ t < n.n := fun hj t ht => hn t (opWrites_mem hj ht)
  intro s
  induction s with
  | nil =>
    intro M L h ρ a w hrel hok _ hf hk _ hd
    refine ⟨?_, hK a ρ w hk hf hd⟩
    simp only [okS] at hok
    refine List.eq_nil_iff_forall_not_mem.2 fun j hj => ?_
    obtain ⟨h0, o, ho, _⟩ := mem_ready.1 hj
    have hlt := (Array.getElem?_eq_some_iff.1 ho).1
    rw [hrel.getD hlt true, belowB_spec hok j hlt] at h0
    cases h0
  | cons p r ih =>
    obtain ⟨i, M'⟩ := p
    intro M L h ρ a w hrel hok hcl hf hk ht hd
    simp only [okS, Bool.and_eq_true] at hok
    obtain ⟨⟨⟨hM, hrdy⟩, hcase⟩, hok'⟩ := hok
    have hM := Nat.eq_of_beq_eq_true hM
    subst hM
    simp only [dwSR] at hd
    rw [nthO_eq, Array.getElem?_toList] at hcase hd
    cases hi : ops[i]? with
    | none => rw [hi] at hcase; cases hcase
    | some o =>
      rw [hi] at hcase hd
      have hlt := (Array.getElem?_eq_some_iff.1 hi).1
      have hmem := (readyM_iff hrel hb i hlt).1 hrdy
      have hrel' := hrel.set i hlt
      cases hkd : Nat.blt (kindOf o.op) 2 with
      | true =>
        simp only [hkd] at hcase hd
        obtain ⟨v, hKv, hy⟩ := takeW_yields (ops := ops) hf hd
        have hf' : Fits n (a.put o.dst v) (ρ.put o.dst v) := hf.put (hdst hi) v
        have hfree : ∀ j oj, ops[j]? = some oj → j ≠ i → L.getD j true = false → (∀ e ∈ oj.after, Region.binds .any e = true → e.on ≠ i) → o.apart ops oj = true := by
          intro j oj hj hne hun hno
          have hjlt := (Array.getElem?_eq_some_iff.1 hj).1
          simp only [freeM, nthO_eq, Array.getElem?_toList, hi] at hcase
          have := belowB_spec hcase j hjlt
          simp only [hj, Bool.or_eq_true] at this
          rcases this with (h1 | h1) | h1 | h1
          · exact absurd (Nat.eq_of_beq_eq_true h1) hne
          · rw [hrel.getD hjlt true] at hun; rw [hun] at h1; cases h1
          · obtain ⟨e, he, hbe⟩ := List.any_eq_true.1 h1
            simp only [Bool.and_eq_true] at hbe
            exact absurd (Nat.eq_of_beq_eq_true hbe.2) (hno e (by simpa using he) hbe.1)
          · exact h1
        rcases hy with ⟨hkind, hy⟩ | ⟨hkind, hy, hnow⟩
        · simp only [holdsH, hkind] at hKv
          have H := ih _ _ _ _ _ _ hrel' hok' (hcl.add hmem) hf' (hput v hi hk) ht hKv
          refine wpAnyTI_first (φ := fun _ => True) hi (hnd _ _ hi) hnd (Region.noSelect_spec hs) (fun c a w h => (hQ _ _ _).2 (PZ.less (fun t ht => (hdst hi t ht).1) ((hQ _ _ _).1 h))) hL _ L _ a w hcl hfree hmem (fun w _ => hy w) trivial ht ?_
          exact wpAnyTI_top H
        · simp only [holdsH, hkind] at hKv
          have ht' : ∀ p ∈ trkOf P ((i, guardB ops o ρ, execE ρ o, v) :: h), p.2 w := by
            intro p hp
            rcases List.mem_cons.1 (show p ∈ (i, fun w => hkp (guardB ops o ρ) ((execE ρ o).run P w = .ok (.value v) w)) :: trkOf P h from hp) with rfl | hp
            · exact hnow
            · exact ht p hp
          have H := ih _ _ _ _ _ _ hrel' hok' (hcl.add hmem) hf' (hput v hi hk) ht' hKv
          exact wpAnyTI_first (φ := fun w => hkp (guardB ops o ρ) ((execE ρ o).run P w = .ok (.value v) w)) hi (hnd _ _ hi) hnd (Region.noSelect_spec hs) (fun c a w h => (hQ _ _ _).2 (PZ.less (fun t ht => (hdst hi t ht).1) ((hQ _ _ _).1 h))) hL _ L _ a w hcl hfree hmem hy hnow ht H
      | false =>
        simp only [hkd] at hcase hd
        refine ⟨fun h0 => (by rw [h0] at hmem; cases hmem), fun j hj => ?_⟩
        have hji : j = i := by
          obtain ⟨_, oj, hoj, _⟩ := mem_ready.1 hj
          have hjlt := (Array.getElem?_eq_some_iff.1 hoj).1
          have := belowB_spec hcase j hjlt
          simp only [Bool.or_eq_true, Bool.not_eq_true'] at this
          rcases this with h1 | h1
          · exact Nat.eq_of_beq_eq_true h1
          · rw [(readyM_iff hrel hb j hjlt).2 hj] at h1; cases h1
        subst hji
        have hgo : ∀ v w', (heldOk P ops j w' h ∧ dwSR P ops ops.toList r (dropH ops j h) (ρ.put o.dst v) w' K) →
            (∀ p ∈ dropT ops j (trkOf P h), p.2 w') ∧ wpAnyTI rd P ops Q r.length (L.setIfInBounds j true) (dropT ops j (trkOf P h)) (a.put o.dst v) w' := by
          intro v w' ⟨hho, hdw⟩
          rw [trkOf_drop]
          have h1 := heldOk_all j w' h hho
          exact ⟨h1, ih _ _ _ _ _ _ hrel' hok' (hcl.add hj) (hf.put (hdst hi) v) (hput v hi hk) h1 hdw⟩
        unfold Go.wpOpIn
        simp only [hi]
        have hw := wanted_eq (ops := ops) hf o
        cases hg : o.guard with
        | none =>
          simp only [guardB, hg] at hw
          simp only [Option.getD_none] at hw
          rw [if_pos hw]
          exact pY_wp hf (hnd _ _ hi) (fun c w h => (hQ _ _ _).2 h) (opR_none hg hd) hgo
        | some g =>
          obtain ⟨k, want⟩ := g
          simp only [guardB, hg] at hw
          simp only [Option.getD_some] at hw
          simp only [opR, hg, pGd] at hd
          rw [hw]
          split
          · rename_i hy
            rw [if_pos hy] at hd
            exact pY_wp hf (hnd _ _ hi) (fun c w h => (hQ _ _ _).2 h) (pX_up hd) hgo
          · rename_i hy
            rw [if_neg hy] at hd
            exact ⟨fun _ _ => trivial, hgo _ _ hd⟩
end

end Go.Proofs.YteeepkimnpabiaaDoor
