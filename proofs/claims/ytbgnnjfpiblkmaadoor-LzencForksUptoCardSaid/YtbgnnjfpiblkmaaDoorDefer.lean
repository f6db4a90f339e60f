/-
  Functions that defer one call of a function value; functions that are entered as deferred calls and recover. No program is named here.
-/
import Derived.Recover
import Derived.Test.YtbgnnjfpiblkmaaDoorCode
namespace Go.Proofs.YtbgnnjfpiblkmaaDoor
open Go
set_option linter.unusedSimpArgs false
set_option linter.unnecessarySimpa false
set_option linter.unusedSectionVars false
set_option linter.unusedVariables false

/-! ### A region in which recover stands, in any order -/

section
variable {P : Program} {ops : Array Oper} {QS : Exit → Act → List Frame → World → Prop} {md : Region.Mode}

def wpOpS (P : Program) (ops : Array Oper) (Q : Exit → Act → List Frame → World → Prop) (i : Nat) (K : Act → List Frame → World → Prop) (a : Act) (cs : List Frame) (w : World) : Prop :=
  match ops[i]? with
  | none => K a cs w
  | some o =>
    if Region.wanted o (yielded ops a.tmps) then
      match (execOp a.eval o).run P w with
      | .ok .recover w' =>
        match recoverD cs with
        | some (v, cs') => K (a.put o.dst v) cs' w'
        | none => K (a.put o.dst .nilIface) cs w'
      | r => o.upon P a (fun a' w' => K a' cs w') (fun e a' w' => Q e a' cs w') r
    else K (a.put o.dst undef) cs w

theorem wpOpsS_cons (i : Nat) (rest : List Nat) (a : Act) (cs : List Frame) (w : World) : wpOpsS P ops QS (i :: rest) a cs w = wpOpS P ops QS i (wpOpsS P ops QS rest) a cs w := by
  cases h : ops[i]? with
  | none => simp [wpOpsS, wpOpS, h]
  | some o => simp only [wpOpsS, wpOpS, h] <;> rfl

theorem upon_mono2 {o : Oper} {a : Act} {r : Result Next} {K K' : Act → World → Prop} {Q Q' : Exit → Act → World → Prop} (h : ∀ a w, K a w → K' a w) (hp : ∀ c a w, Q (.panic c) a w → Q' (.panic c) a w) (ho : LetsOut Q → LetsOut Q')
    (hh : o.upon P a K Q r) : o.upon P a K' Q' r := by
  cases r with
  | ok n w' =>
    cases n <;> simp only [Oper.upon] at hh ⊢ <;>
      first
        | exact h _ _ hh
        | exact Calls.mono hh (fun e w'' he => by cases e <;> first | exact h _ _ he | exact hp _ _ _ he | exact ho he)
        | exact Rows.mono hh (fun _ _ he => h _ _ he)
  | halt x w' => cases x <;> simp only [Oper.upon] at hh ⊢ <;> exact hp _ _ _ hh

theorem wpOpS_mono {i : Nat} {a : Act} {cs : List Frame} {w : World} {K K' : Act → List Frame → World → Prop} (h : ∀ a cs w, K a cs w → K' a cs w)
    (hh : wpOpS P ops QS i K a cs w) : wpOpS P ops QS i K' a cs w := by
  unfold wpOpS at *
  split
  · exact h _ _ _ (by simpa [*] using hh)
  · rename_i o ho
    simp only [ho] at hh
    split
    · rename_i hw
      simp only [hw, if_true] at hh
      split
      · rename_i w' hr
        simp only [hr] at hh
        split
        · rename_i v cs' hc; simp only [hc] at hh; exact h _ _ _ hh
        · rename_i hc; simp only [hc] at hh; exact h _ _ _ hh
      · rename_i r hnot
        split at hh
        · rename_i w' hr; exact absurd hr (hnot w')
        · exact upon_mono2 (fun a w => h a cs w) (fun c a w h => h) (fun h => h) hh
    · rename_i hw; simp only [hw] at hh; exact h _ _ _ hh

def wpAnyS (P : Program) (md : Region.Mode) (ops : Array Oper) (Q : Exit → Act → List Frame → World → Prop) : Nat → Array Bool → Act → List Frame → World → Prop
  | 0, listed, a, cs, w => Region.ready md ops listed = [] ∧ Q .normal a cs w
  | fuel + 1, listed, a, cs, w =>
    (Region.ready md ops listed = [] → Q .normal a cs w) ∧
    ∀ i ∈ Region.ready md ops listed, wpOpS P ops Q i (wpAnyS P md ops Q fuel (listed.setIfInBounds i true)) a cs w

theorem wpAnyS_sound : ∀ (fuel t : Nat) (listed : Array Bool) (a : Act) (cs : List Frame) (w : World), wpAnyS P md ops QS fuel listed a cs w →
    wpOpsS P ops QS (Region.linearise.go md ops fuel t listed []) a cs w := by
  intro fuel
  induction fuel with
  | zero => intro t listed a cs w h; simpa [Region.linearise.go, wpOpsS] using h.2
  | succ fuel ih =>
    intro t listed a cs w h
    obtain ⟨h₀, h₁⟩ := h
    simp only [Region.linearise.go]
    change wpOpsS P ops QS (match (Region.ready md ops listed)[t % (Region.ready md ops listed).length]? with
      | some i => Region.linearise.go md ops fuel (t / (Region.ready md ops listed).length) (listed.setIfInBounds i true) [i]
      | none => [].reverse) a cs w
    cases hi : (Region.ready md ops listed)[t % (Region.ready md ops listed).length]? with
    | none =>
      have hnil : Region.ready md ops listed = [] := by
        cases hr : Region.ready md ops listed with
        | nil => rfl
        | cons x xs =>
          rw [hr] at hi
          have hlt : t % (x :: xs).length < (x :: xs).length := Nat.mod_lt _ (by simp)
          simp at hi
          simp at hlt
          omega
      simpa [wpOpsS] using h₀ hnil
    | some i =>
      simp only []
      rw [linearise_go_acc, List.reverse_singleton, List.singleton_append, wpOpsS_cons]
      exact wpOpS_mono (fun a cs w => ih _ _ a cs w) (h₁ i (List.mem_of_getElem? hi))

theorem wpS_region_any {id : Nat} {a : Act} {cs : List Frame} {w : World} (hm : P.follows .mixedOrders = true)
    (h : wpAnyS P .any ops QS ops.size (Array.replicate ops.size false) a cs { w with drawn := w.drawn + 1 }) : (Code.region id ops true).wpS P QS a cs w := by
  intro b k hb hr
  have h1 := wpAnyS_sound ops.size (w.tape w.drawn (.order b.fn id)) _ a cs _ h
  obtain ⟨e, a', cs', w', q, r⟩ := wp_opsS _ a cs _ h1 b k hb hr
  refine ⟨e, a', cs', w', q, .of_steps (.one ?_) r⟩
  have := step_region_draw (P := P) (b := b) (a := a) (k := k) (cs := cs) (w := w) (ops := ops) (id := id)
  simp only [Region.schedule, hm, Bool.true_or, if_true] at this
  exact this

/-! ### recover as a value -/

def recList : List Oper → Nat → Value → List Oper
  | [], _, _ => []
  | o :: l, 0, v => { o with op := .assign (.const v) } :: l
  | o :: l, n + 1, v => o :: recList l n v
def recOps (ops : Array Oper) (r : Nat) (v : Value) : Array Oper := (recList ops.toList r v).toArray

theorem recList_get : ∀ (l : List Oper) (r : Nat) (v : Value) (i : Nat), (recList l r v)[i]? = if i = r then (l[i]?).map (fun o => { o with op := .assign (.const v) }) else l[i]?
  | [], r, v, i => by simp [recList]
  | o :: l, 0, v, i => by cases i <;> simp [recList]
  | o :: l, r + 1, v, i => by
    cases i with
    | zero => simp [recList]
    | succ i => simp [recList, recList_get l r v i]
theorem recList_length : ∀ (l : List Oper) (r : Nat) (v : Value), (recList l r v).length = l.length
  | [], _, _ => rfl
  | o :: l, 0, v => rfl
  | o :: l, r + 1, v => by simp [recList, recList_length l r v]
theorem recOps_get (ops : Array Oper) (r : Nat) (v : Value) (i : Nat) : (recOps ops r v)[i]? = if i = r then (ops[i]?).map (fun o => { o with op := .assign (.const v) }) else ops[i]? := by
  simp only [recOps, List.getElem?_toArray, recList_get, Array.getElem?_toList]
theorem recOps_size (ops : Array Oper) (r : Nat) (v : Value) : (recOps ops r v).size = ops.size := by simp [recOps, recList_length]
theorem recOps_map {α : Type} (f : Oper → α) (hf : ∀ o v, f { o with op := .assign (.const v) } = f o) (ops : Array Oper) (r : Nat) (v : Value) (i : Nat) : ((recOps ops r v)[i]?).map f = (ops[i]?).map f := by
  rw [recOps_get]
  split
  · cases ops[i]? with
    | none => rfl
    | some o => simp [hf o v]
  · rfl
theorem recOps_ready (ops : Array Oper) (r : Nat) (v : Value) (listed : Array Bool) : Region.ready md (recOps ops r v) listed = Region.ready md ops listed := by
  unfold Region.ready
  rw [recOps_size]
  congr 1
  funext i
  rw [recOps_map (fun o => o.after.all fun e => !Region.binds md e || listed.getD e.on false) (fun _ _ => rfl)]
theorem recOps_yielded (ops : Array Oper) (r : Nat) (v : Value) (tmps : Array Value) : yielded (recOps ops r v) tmps = yielded ops tmps := by
  funext j
  unfold yielded
  have h : ((recOps ops r v)[j]?).bind (·.dst) = (ops[j]?).bind (·.dst) := by
    rw [recOps_get]
    split
    · cases ops[j]? <;> rfl
    · rfl
  rw [h]

/-- recover stands there, and waits for nothing. -/
structure RecAt (P : Program) (ops : Array Oper) (r : Nat) : Prop where
  is : ∃ o, ops[r]? = some o ∧ (∀ ρ w, (execOp ρ o).run P w = .ok .recover w) ∧ o.guard = none ∧ o.after = #[]

theorem wpAnyS_of (r : Nat) (v : Value) (cs cs2 : List Frame) (hr : RecAt P ops r) (hv : recoverD cs = some (v, cs2) ∨ (recoverD cs = none ∧ v = .nilIface ∧ cs2 = cs)) {Q : Exit → Act → World → Prop} (hQ : ∀ c a w, ¬ Q (.panic c) a w) (hO : ¬ LetsOut Q) :
    ∀ (fuel : Nat) (listed : Array Bool) (a : Act) (w : World), listed.size = ops.size → wpAny P .any (recOps ops r v) Q fuel listed a w →
      wpAnyS P .any ops (fun e a' cs' w' => cs' = cs2 ∧ Q e a' w') fuel listed a (if listed.getD r false = true then cs2 else cs) w := by
  obtain ⟨o, ho, hrun, hg, haft⟩ := hr.is
  have hrlt : r < ops.size := (Array.getElem?_eq_some_iff.1 ho).1
  have done : ∀ listed : Array Bool, listed.size = ops.size → Region.ready .any ops listed = [] → listed.getD r false = true := by
    intro listed hs h0
    have h1 : r ∉ Region.ready .any ops listed := by rw [h0]; exact List.not_mem_nil
    rw [mem_ready] at h1
    cases hl : listed.getD r true with
    | true => simpa [hs, hrlt] using hl
    | false => exact absurd ⟨hl, o, ho, fun e he => by rw [haft] at he; simp at he⟩ h1
  intro fuel
  induction fuel with
  | zero =>
    intro listed a w hs h
    obtain ⟨h0, h1⟩ := h
    rw [recOps_ready] at h0
    exact ⟨h0, by rw [if_pos (done listed hs h0)], h1⟩
  | succ fuel ih =>
    intro listed a w hs h
    obtain ⟨h0, h1⟩ := h
    rw [recOps_ready] at h0 h1
    refine ⟨fun h2 => ⟨by rw [if_pos (done listed hs h2)], h0 h2⟩, fun i hi => ?_⟩
    have hw := h1 i hi
    have hs' : (listed.setIfInBounds i true).size = ops.size := by simpa using hs
    obtain ⟨hun, oi, hoi, _⟩ := mem_ready.1 hi
    by_cases hir : i = r
    · subst hir
      have hl : listed.getD i false = false := by simpa [hs, hrlt] using hun
      have hl2 : (listed.setIfInBounds i true).getD i false = true := by simp [hs, hrlt]
      rw [hl]
      unfold wpOp at hw
      rw [recOps_get, if_pos rfl, ho] at hw
      simp only [Option.map_some, Region.wanted, hg, if_true] at hw
      have hw := hw.resolve_right fun h => hO h.2
      simp only [Oper.wp, Oper.upon, execOp] at hw
      have hw : wpAny P .any (recOps ops i v) Q fuel (listed.setIfInBounds i true) (a.put o.dst v) w := hw
      have H := ih _ _ _ hs' hw
      rw [hl2] at H
      unfold wpOpS
      simp only [ho, Region.wanted, hg, if_true, hrun, Bool.false_eq_true, if_false]
      rcases hv with hv | ⟨hv, rfl, rfl⟩
      · simp only [hv]; exact H
      · simp only [hv]; simpa using H
    · have hl2 : (listed.setIfInBounds i true).getD r false = listed.getD r false := getD_set_ne false hir
      unfold wpOp at hw
      rw [recOps_get, if_neg hir, hoi, recOps_yielded] at hw
      simp only at hw
      unfold wpOpS
      simp only [hoi]
      split
      · rename_i hwt
        simp only [hwt, if_true] at hw
        have hw := hw.resolve_right fun h => hO h.2
        unfold Oper.wp at hw
        split
        · rename_i w' hrr
          rw [hrr] at hw
          exact hw.elim
        · refine upon_mono2 (fun a w h => ?_) (fun c a w h => absurd h (hQ c a w)) (fun h => absurd h hO) hw
          have H := ih _ a w hs' h
          rw [hl2] at H
          exact H
      · rename_i hwt
        simp only [hwt] at hw
        have H := ih _ _ _ hs' hw
        rw [hl2] at H
        exact H
end

/-! ### A deferred call that recovers -/

section
variable {P : Program} {H : Hints} {v : Value}

theorem wpS_mono {c : Code} {Q Q' : Exit → Act → List Frame → World → Prop} {a : Act} {cs : List Frame} {w : World} (h : c.wpS P Q a cs w) (hq : ∀ e a cs w, Q e a cs w → Q' e a cs w) : c.wpS P Q' a cs w :=
  fun b k hb hr => let ⟨e, a', cs', w', q, r⟩ := h b k hb hr; ⟨e, a', cs', w', hq _ _ _ _ q, r⟩

/-- A code with recover on its way, and the same with a value in recover's place. -/
inductive RSp (P : Program) (H : Hints) (v : Value) : Code → Code → Prop
  | here (id : Nat) (ops : Array Oper) (r : Nat) : RecAt P ops r → RSp P H v (.region id ops true) (.region id (recOps ops r v) true)
  | left (x x' y : Code) : RSp P H v x x' → (firstRg y).bind H.cut = none → RSp P H v (.seq x y) (.seq x' y)
  | right (id : Nat) (ops : Array Oper) (b : Bool) (y y' : Code) : RSp P H v y y' → (firstRg y').bind H.cut = none → RSp P H v (.seq (.region id ops b) y) (.seq (.region id ops b) y')

/-- A code with a value in recover's place. -/
def recCode (rid r : Nat) (v : Value) : Code → Code
  | .region id ops b => match Nat.beq id rid with
    | true => .region id (recOps ops r v) b
    | false => .region id ops b
  | .seq x y => .seq (recCode rid r v x) (recCode rid r v y)
  | c => c

def recB (ops : Array Oper) (r : Nat) : Bool :=
  match nthO ops.toList r with
  | some o => match o.op, o.guard, o.after.toList with
    | .call { callee := .builtin .recover, args := a, .. }, none, [] => Nat.beq a.size 0
    | _, _, _ => false
  | none => false

/-- The spine that is served: regions, the one with recover, and what follows it. -/
def rspB (H : Hints) (rid r : Nat) : Code → Bool
  | .seq (.region id ops b) y => ((firstRg y).bind H.cut).isNone && match Nat.beq id rid with
    | true => b && recB ops r && noRg rid y
    | false => rspB H rid r y
  | _ => false
where noRg (rid : Nat) : Code → Bool
  | .region id _ _ => !Nat.beq id rid
  | .seq x y => noRg rid x && noRg rid y
  | _ => true

theorem recB_at {ops : Array Oper} {r : Nat} (h : recB ops r = true) : RecAt P ops r := by
  unfold recB at h
  rw [nthO_eq, Array.getElem?_toList] at h
  split at h
  · rename_i o ho
    split at h
    · rename_i a ats hop hg haft
      have ha := Nat.eq_of_beq_eq_true h
      refine ⟨o, ho, fun ρ w => ?_, hg, by simpa using haft⟩
      obtain ⟨dst, op, type, pos, after, guard⟩ := o
      subst hop
      have ha2 : a = #[] := by simpa using ha
      subst ha2
      rfl
    · cases h
  · cases h
theorem recCode_no (rid r : Nat) (v : Value) : ∀ y : Code, rspB.noRg rid y = true → recCode rid r v y = y := by
  intro y
  induction y with
  | region id ops b =>
    intro h
    simp only [rspB.noRg, Bool.not_eq_true'] at h
    simp only [recCode, h]
  | seq x y ihx ihy =>
    intro h
    simp only [rspB.noRg, Bool.and_eq_true] at h
    simp only [recCode, ihx h.1, ihy h.2]
  | _ => intro _; rfl
theorem firstRg_rec (rid r : Nat) (v : Value) : ∀ y : Code, firstRg (recCode rid r v y) = firstRg y := by
  intro y
  induction y with
  | region id ops b => simp only [recCode]; split <;> rfl
  | seq x y ihx ihy => simp only [recCode, firstRg, ihx, ihy]
  | _ => rfl
theorem rsp_of (P : Program) (H : Hints) (rid r : Nat) (v : Value) : ∀ {c : Code}, rspB H rid r c = true → RSp P H v c (recCode rid r v c) := by
  intro c
  induction c with
  | seq x y _ ihy =>
    intro h
    cases x with
    | region id ops b =>
      simp only [rspB, Bool.and_eq_true, Option.isNone_iff_eq_none] at h
      obtain ⟨hcut, h⟩ := h
      cases hid : Nat.beq id rid with
      | true =>
        simp only [hid, Bool.and_eq_true] at h
        obtain ⟨⟨rfl, h1⟩, h2⟩ := h
        simp only [recCode, hid, recCode_no rid r v y h2]
        exact .left _ _ _ (.here id ops r (recB_at h1)) hcut
      | false =>
        simp only [hid] at h
        simp only [recCode, hid]
        exact .right _ _ _ _ _ (ihy h) (by rw [firstRg_rec]; exact hcut)
    | _ => simp [rspB] at h
  | _ => intro h; simp [rspB] at h

theorem cw_wpS (hm : P.follows .mixedOrders = true) {n : Frm} {cs cs2 : List Frame} (hv : recoverD cs = some (v, cs2) ∨ (recoverD cs = none ∧ v = .nilIface ∧ cs2 = cs)) {c c' : Code} (hc : RSp P H v c c') :
    ∀ {Q : PQ} {ρ : Env} {w : World} {a : Act}, served H n c' = true → Fits n a ρ → @cw Pan.no P H c' Q ρ w →
      c.wpS P (fun e a' cs' w' => cs' = cs2 ∧ @UpQ Pan.no n a (writes c') Q e a' w') a cs w := by
  induction hc with
  | here id ops r hr =>
    intro Q ρ w a hs hf h
    have hO : ¬ LetsOut (@UpQ Pan.no n a (writes (.region id (recOps ops r v) true)) Q) := fun ⟨_, _, h⟩ => h
    refine wpS_region_any hm ?_
    have key : wpAny P .any (recOps ops r v) (@UpQ Pan.no n a (writes (.region id (recOps ops r v) true)) Q) ops.size (Array.replicate ops.size false) a { w with drawn := w.drawn + 1 } := by
      simp only [served, Bool.and_eq_true] at hs
      obtain ⟨⟨hs1, hs2⟩, hs3⟩ := hs
      simp only [List.all_eq_true] at hs1
      simp only [cw, pDr] at h
      have hsz := recOps_size ops r v
      rw [← hsz]
      refine wpAny_of_T _ _ [] _ _ ?_
      have hcl : Clo (recOps ops r v) (Array.replicate (recOps ops r v).size false) := by
        intro j o ho hl
        have hlt := (Array.getElem?_eq_some_iff.1 ho).1
        simp [hlt] at hl
      have hlt : ∀ t ∈ opWrites (recOps ops r v).toList, n.lo ≤ t ∧ t < n.n := fun t ht => by
        have := hs1 t ht
        simp only [Bool.and_eq_true, Nat.blt_eq, Nat.ble_eq] at this
        exact ⟨this.2, this.1⟩
      cases ho : H.order id with
      | nil =>
        rw [ho] at h
        exact dw_any (P := P) hs2 hlt (Q := @UpQ Pan.no n a (writes (.region id (recOps ops r v) true)) Q) (fun c a w => Iff.rfl) a
          (fun a' ρ' w' hk hf' hq => ⟨hk, ρ', hf', hq⟩) (recOps ops r v).size _ [] ρ a _ hcl hf (fun _ _ => rfl) (fun p hp => by cases hp) h
      | cons p rr =>
        rw [ho] at h hs3
        simp only [Bool.and_eq_true] at hs3
        obtain ⟨⟨hok, hlen⟩, hed⟩ := hs3
        have hlen := Nat.eq_of_beq_eq_true hlen
        simp only [Array.length_toList] at hok hlen hed
        have hb : ∀ (j : Nat) (o : Oper), (recOps ops r v)[j]? = some o → ∀ e ∈ o.after, Region.binds .any e = true → e.on < (recOps ops r v).size := by
          intro j o hj e he _
          simp only [List.all_eq_true] at hed
          have := hed o (by simpa using Array.mem_of_getElem? hj) e (by simpa using he)
          simpa [Nat.blt_eq] using this
        have hrel : RelM (recOps ops r v).size 0 (Array.replicate (recOps ops r v).size false) := ⟨by simp, fun j hj => by simp [hj]⟩
        have H := dwS_any (P := P) hs2 hlt hb (Q := @UpQ Pan.no n a (writes (.region id (recOps ops r v) true)) Q) (fun c a w => Iff.rfl) a
          (fun a' ρ' w' hk hf' hq => ⟨hk, ρ', hf', hq⟩) (p :: rr) 0 _ [] ρ a _ hrel hok hcl hf (fun _ _ => rfl) (fun p hp => by cases hp) h
        rw [hlen] at H
        exact H
    have H := wpAnyS_of r v cs cs2 hr hv (fun c a w h => h.z) hO ops.size _ a _ (by simp) key
    have e : (Array.replicate ops.size false).getD r false = false := by
      simp only [Array.getD_eq_getD_getElem?, Array.getElem?_replicate]
      split <;> rfl
    rw [e] at H
    simpa using H
  | left x x' y hx hcut ih =>
    intro Q ρ w a hs hf h
    simp only [served, Bool.and_eq_true, hcut] at hs
    simp only [cw, hcut] at h
    refine wpS_seq (wpS_mono (ih hs.1.1 hf h) fun e a' cs' w' hq => ?_)
    obtain ⟨rfl, hq⟩ := hq
    cases e with
    | panic c => exact ⟨rfl, hq⟩
    | outgrown => exact hq.elim
    | goto l => exact hq.elim
    | normal =>
      obtain ⟨hk, ρ', hf', hq'⟩ := hq
      refine wpS_mono (wpS_of_wp (wp_mono (cw_wp (n := n) hm y hs.1.2 hf' hq') fun e a'' w'' h => (⟨rfl, UpQ.next hk e a'' w'' h⟩ : cs' = cs' ∧ _))) fun e a cs w h => h
    | exit id => exact ⟨rfl, UpQ.mono (ws := writes x') (Q := Q) (by simp [writes]; intro t ht; exact .inl ht) (fun _ _ _ h => h) (.exit id) a' w' hq⟩
    | ret => exact ⟨rfl, UpQ.mono (ws := writes x') (Q := Q) (by simp [writes]; intro t ht; exact .inl ht) (fun _ _ _ h => h) .ret a' w' hq⟩
  | right id ops b y y' hy hcut ih =>
    intro Q ρ w a hs hf h
    simp only [served, Bool.and_eq_true, hcut] at hs
    simp only [cw, hcut] at h
    have h1 := cw_wp (n := n) hm (.region id ops b) (by cases b <;> simpa [served] using hs.1.1) hf (Q := fun e ρ' w' => match e with
      | .normal => @cw Pan.no P H y' Q ρ' w'
      | _ => False) (by cases b <;> simpa only [cw] using h)
    refine wpS_seq (wpS_of_wp (wp_mono h1 fun e a' w' hq => ?_))
    cases e with
    | panic c => exact hq.z.elim
    | outgrown => exact hq.elim
    | goto l => exact hq.elim
    | exit id => exact hq.2.choose_spec.2.elim
    | ret => exact hq.2.choose_spec.2.elim
    | normal =>
      obtain ⟨hk, ρ', hf', hq'⟩ := hq
      exact wpS_mono (ih hs.1.2 hf' hq') fun e a'' cs' w'' h => ⟨h.1, UpQ.next hk e a'' w'' h.2⟩

/-- A function that is entered as a deferred call, where a panic goes on, or none. -/
theorem callsD_of_cw (hm : P.follows .mixedOrders = true) {f : FuncId} {fn : Func} {c c' : Code} {args : List Value} {w : World} {K : Value → World → Prop} {u u2 : FrameMode}
    (hu : (∃ older, u = .panicking ({ v := v, recovered := false } :: older) ∧ u2 = .panicking ({ v := v, recovered := true } :: older)) ∨ (u = .returning ∧ v = .nilIface ∧ u2 = .returning))
    (hfn : P.funcs[f]? = some fn) (hb : fn.body = some c) (hc : RSp P H v c c') (hs : served H (Frm.new fn.ntmps) c' = true) (ha : args.length ≤ fn.ntmps)
    (h : @cw Pan.no P H c' (endQ P fn.results.toList K) (argsE args) w) : CallsD P f args.toArray u w fun e u' w' => u' = u2 ∧ ∃ r, e = .returned r ∧ K r w' := by
  refine callsD_of_wpS hfn hb fun c₀ cs hu₀ => ?_
  have hf := fits_new fn.ntmps args ha
  have hv : recoverD (c₀ :: cs) = some (v, { c₀ with mode := u2 } :: cs) ∨ (recoverD (c₀ :: cs) = none ∧ v = .nilIface ∧ { c₀ with mode := u2 } :: cs = c₀ :: cs) := by
    rcases hu with ⟨older, rfl, rfl⟩ | ⟨rfl, rfl, rfl⟩
    · left; simp [recoverD, hu₀]
    · right
      refine ⟨by simp [recoverD, hu₀], rfl, ?_⟩
      rw [← hu₀]
  refine wpS_mono (cw_wpS hm hv hc hs hf h) fun e a' cs' w' hq => ?_
  obtain ⟨rfl, hq⟩ := hq
  cases e with
  | panic c => exact hq.z.elim
  | outgrown => exact hq.elim
  | goto l => exact hq.elim
  | exit id => obtain ⟨_, ρ', _, hq⟩ := hq; exact hq.elim
  | normal =>
    obtain ⟨_, ρ', hf', hq⟩ := hq
    obtain ⟨vs, hr, hK⟩ := resW_run _ _ hq
    exact ⟨hf'.defers, u2, rfl, _, results_one hf' fn w' P vs hr, rfl, _, rfl, by simpa using hK⟩
  | ret =>
    obtain ⟨_, ρ', hf', hq⟩ := hq
    obtain ⟨vs, hr, hK⟩ := resW_run _ _ hq
    exact ⟨hf'.defers, u2, rfl, _, results_one hf' fn w' P vs hr, rfl, _, rfl, by simpa using hK⟩
end

/-! ### A function that defers one call -/

/-- An operation that defers a call. -/
def pDf (P : Program) (m : Sem Next) (w : World) (K : Deferred → Prop) : Prop := ∃ d, m.run P w = .ok (.defer d) w ∧ K d

/-- A deferred call, where a frame returns or panics, and what is behind it: the frame returns. -/
def dE (P : Program) (d : Deferred) (u : FrameMode) (w : World) (K : World → Prop) : Prop :=
  ∃ fv cap f args, d.target = .fn fv cap ∧ (invoke d.target d.args).run P w = .ok (.enter f args) w ∧ CallsD P f args u w fun e u' w' => (∃ v, e = .returned v) ∧ settle u' = .returning ∧ K w'

/-- A region whose last operation defers. -/
def rgD [Pan] (P : Program) (ops : Array Oper) : List Oper → Env → World → (Deferred → Env → World → Prop) → Prop
  | [], _, _, _ => False
  | [o], ρ, w, K => pDf P (execE ρ o) w fun d => K d (ρ.put o.dst undef) w
  | o :: rest, ρ, w, K => opW P ops o ρ w fun v w' => rgD P ops rest (ρ.put o.dst v) w' K

def isDf : List Oper → Bool
  | [] => false
  | [o] => match o.op, o.guard with
    | .defer _, none => true
    | _, _ => false
  | _ :: r => isDf r

/-- What is behind the deferring region: with what is to hold where a panic goes on. -/
def cwZ (P : Program) (H : Hints) (rs : List ResultVar) (K : Value → World → Prop) (y : Code) (d : Deferred) (ρ : Env) (w : World) : Prop :=
  ∃ Z : Pan, (∀ ch w', Z.z ch w' → dE P d (.panicking ch) w' fun w'' => resW P rs [] ρ w'' K) ∧
    @cw Z P H y (fun e ρ' w' => match e with
      | .normal => dE P d .returning w' fun w'' => resW P rs [] ρ' w'' K
      | .ret => dE P d .returning w' fun w'' => resW P rs [] ρ' w'' K
      | _ => False) ρ w

def cwD [Pan] (P : Program) (H : Hints) (rs : List ResultVar) (K : Value → World → Prop) : Code → Env → World → Prop
  | .seq x y, ρ, w => match x with
    | .region _ ops false => match isDf ops.toList with
      | true => rgD P ops ops.toList ρ w fun d ρ' w' => cwZ P H rs K y d ρ' w'
      | false => rgW P ops ops.toList ρ w fun ρ' w' => cwD P H rs K y ρ' w'
    | x => match (firstRg y).bind H.cut with
      | none => cw P H x (thenE (fun ρ' w' => cwD P H rs K y ρ' w') (endQ P rs K)) ρ w
      | some (live, mods) => cutW (fun Q' => cw P H x Q' ρ w) (fun ρ' w' => cwD P H rs K y ρ' w') live mods (endQ P rs K) ρ
  | _, _, _ => False

def rsIn (lo : Nat) : List ResultVar → Bool
  | [] => true
  | .tmp t :: r => Nat.blt t lo && rsIn lo r
  | .cell a _ :: r => Nat.blt a lo && rsIn lo r

def servedD (H : Hints) (n lo : Nat) : Code → Bool
  | .seq x y => match x with
    | .region _ ops false => ((opWrites ops.toList).all fun t => Nat.blt t n) && match isDf ops.toList with
      | true => served H ⟨n, lo, [], fun _ => undef⟩ y
      | false => servedD H n lo y
    | x => served H (Frm.new n) x && servedD H n lo y && (match (firstRg y).bind H.cut with
      | none => true
      | some (_, mods) => (writes x).all fun t => mods.testBit t)
  | _ => false

theorem served_frm {H : Hints} {n m : Frm} (h1 : n.n = m.n) (h2 : n.lo = m.lo) : ∀ c : Code, served H n c = served H m c := by
  intro c
  induction c with
  | region id ops b => cases b <;> simp only [served, h1, h2]
  | seq x y ihx ihy => simp only [served, ihx, ihy]
  | cond c x y ihx ihy => simp only [served, ihx, ihy]
  | block id c ih => simp only [served, ih]
  | loop c ih => simp only [served, ih]
  | _ => rfl

section
variable [Pan] {P : Program} {H : Hints}

theorem rgD_wp {n : Frm} {ops : Array Oper} (l : List Oper) : ∀ {a : Act} {ρ : Env} {w : World} {K : Deferred → Env → World → Prop} {Q : Exit → Act → World → Prop}, isDf l = true → 
    (∀ c a w, PZ n a c w → Q (.panic c) a w) → (∀ t ∈ opWrites l, n.lo ≤ t ∧ t < n.n) → Fits n a ρ → rgD P ops l ρ w K →
    (∀ d a' ρ' w', Fits { n with ds := d :: n.ds } a' ρ' → K d ρ' w' → Q .normal a' w') → wpList P ops Q l a w := by
  induction l with
  | nil => intro a ρ w K Q hd; cases hd
  | cons o rest ih =>
    intro a ρ w K Q hdf hQ hw hf h hK
    have hd : ∀ t, o.dst = some t → n.lo ≤ t ∧ t < n.n := fun t ht => hw t (by simp [opWrites, ht])
    cases rest with
    | nil =>
      obtain ⟨d, hr, h⟩ := h
      have hg : o.guard = none := by
        simp only [isDf] at hdf
        split at hdf
        · assumption
        · cases hdf
      refine wpList_plain hg fun K' hK' => ?_
      unfold Oper.wp
      rw [hf.eval, ← execE_eq, hr]
      simp only [Oper.upon]
      refine hK' _ _ ?_
      refine hK d _ _ w ?_ h
      have hf2 := hf.put hd undef
      refine ⟨by rw [← hf2.size]; cases o.dst <;> rfl, ?_, fun t => ?_, fun t ht => hf2.low t ht⟩
      · cases o.dst <;> simp [Act.put, hf.defers]
      · rw [← hf2.get t]
        cases o.dst <;> rfl
    | cons o2 rest =>
      have hrest : ∀ t ∈ opWrites (o2 :: rest), n.lo ≤ t ∧ t < n.n := fun t ht => hw t (by
        rw [opWrites]; split
        · exact List.mem_cons_of_mem _ ht
        · exact ht)
      have hgo : ∀ v w', rgD P ops (o2 :: rest) (ρ.put o.dst v) w' K → wpList P ops Q (o2 :: rest) (a.put o.dst v) w' := fun v w' hr =>
        ih (by simpa only [isDf] using hdf) hQ hrest (hf.put hd v) hr hK
      simp only [rgD] at h
      cases hg : o.guard with
      | none => exact wpList_plain hg fun K' hK' => pN_wp hf (fun c w h => hQ c a w h) (opW_none hg h) fun v w' hr => hK' _ _ (hgo v w' hr)
      | some g =>
        obtain ⟨j, want⟩ := g
        simp only [opW, hg] at h
        refine wpList_step fun K' hK' => ?_
        simp only [Region.wanted, hg, hf.yielded ops]
        simp only [pGd] at h
        split
        · rename_i hy
          rw [if_pos hy] at h
          exact pN_wp hf (fun c w h => hQ c a w h) h fun v w' hr => hK' _ _ (hgo v w' hr)
        · rename_i hy
          rw [if_neg hy] at h
          exact hK' _ _ (hgo _ _ h)

theorem resW_congr {lo : Nat} {ρ ρ' : Env} (hl : ∀ t, t < lo → ρ' t = ρ t) {w : World} {K : Value → World → Prop} : ∀ (rs : List ResultVar) (acc : List Value), rsIn lo rs = true → resW P rs acc ρ w K → resW P rs acc ρ' w K
  | [], acc, _, h => h
  | .tmp t :: r, acc, hr, h => by
    simp only [rsIn, Bool.and_eq_true, Nat.blt_eq] at hr
    simp only [resW] at h ⊢
    rw [hl t hr.1]
    exact resW_congr hl r _ hr.2 h
  | .cell a t :: r, acc, hr, h => by
    simp only [rsIn, Bool.and_eq_true, Nat.blt_eq] at hr
    simp only [resW] at h ⊢
    rw [hl a hr.1]
    obtain ⟨v, h1, h2⟩ := h
    exact ⟨v, h1, resW_congr hl r _ hr.2 h2⟩

theorem leaves_end {fn : Func} {n : Frm} {a : Act} {ρ : Env} {w : World} {K : Value → World → Prop} (hf : Fits n a ρ) (h : resW P fn.results.toList [] ρ w K) : Leaves P fn a.tmps (retP K) [] .returning w := by
  obtain ⟨vs, hr, hK⟩ := resW_run _ _ h
  exact ⟨_, results_one hf fn w P vs hr, by simpa [retP] using hK⟩

theorem leaves_dE {fn : Func} {a : Act} {ρ : Env} {w : World} {K : Value → World → Prop} {u : FrameMode} (hu : u ≠ .run) {d : Deferred} {lo : Nat} (hrs : rsIn lo fn.results.toList = true) (hl : ∀ t, t < lo → a.tmps.getD t undef = ρ t)
    (h : dE P d u w fun w'' => resW P fn.results.toList [] ρ w'' K) : Leaves P fn a.tmps (retP K) [d] u w := by
  obtain ⟨fv, cap, f, args, ht, hi, h⟩ := h
  refine ⟨hu, fv, cap, f, args, ht, hi, h.mono fun e u' w' he => ?_⟩
  obtain ⟨⟨v, rfl⟩, hs, hK⟩ := he
  show Leaves P fn a.tmps (retP K) [] (settle u') w'
  rw [hs]
  have hf : Fits ⟨a.tmps.size, 0, a.defers, fun _ => undef⟩ a (fun t => a.tmps.getD t undef) := ⟨rfl, rfl, fun _ => rfl, fun t ht => absurd ht (Nat.not_lt_zero t)⟩
  exact leaves_end hf (resW_congr hl _ _ hrs hK)

omit [Pan] in
theorem cwZ_wp (hm : P.follows .mixedOrders = true) {fn : Func} {lo : Nat} {K : Value → World → Prop} {R : Ending → World → Prop} {y : Code} {d : Deferred} {ρ : Env} {a : Act} {w : World}
    (hL : ∀ (u : FrameMode) (a : Act) (ρ : Env) (w : World), u ≠ .run → (∀ t, t < lo → a.tmps.getD t undef = ρ t) → (dE P d u w fun w'' => resW P fn.results.toList [] ρ w'' K) → Leaves P fn a.tmps R [d] u w)
    (hs : served H ⟨fn.ntmps, lo, [], fun _ => undef⟩ y = true) (hf : Fits { Frm.new fn.ntmps with ds := [d] } a ρ) (hz : cwZ P H fn.results.toList K y d ρ w) : y.wp P (bodyPostD P fn R) a w := by
  obtain ⟨Z, hz1, hz2⟩ := hz
  have hfF : Fits ⟨fn.ntmps, lo, [d], ρ⟩ a ρ := ⟨hf.size, hf.defers, hf.get, fun _ _ => rfl⟩
  have s2 : served H ⟨fn.ntmps, lo, [d], ρ⟩ y = true := (served_frm (H := H) (n := ⟨fn.ntmps, lo, [d], ρ⟩) (m := ⟨fn.ntmps, lo, [], fun _ => undef⟩) rfl rfl y).trans hs
  refine wp_mono (@cw_wp Z P hm H _ y _ _ _ _ s2 hfF hz2) fun e a'' w'' hq => ?_
  cases e with
  | panic c =>
    show Leaves P fn a''.tmps R a''.defers (.panicking c) w''
    rw [hq.defers]
    exact hL _ _ _ _ (by simp) hq.low (hz1 _ _ hq.z)
  | outgrown => exact hq.elim
  | goto l => exact hq.elim
  | exit id => exact hq.2.choose_spec.2.elim
  | normal =>
    obtain ⟨_, ρ2, hf2, hq⟩ := hq
    show Leaves P fn a''.tmps R a''.defers .returning w''
    rw [hf2.defers]
    exact hL _ _ _ _ (by simp) (fun t _ => hf2.get t) hq
  | ret =>
    obtain ⟨_, ρ2, hf2, hq⟩ := hq
    show Leaves P fn a''.tmps R a''.defers .returning w''
    rw [hf2.defers]
    exact hL _ _ _ _ (by simp) (fun t _ => hf2.get t) hq

theorem cwD_wp (hm : P.follows .mixedOrders = true) {fn : Func} {lo : Nat} {K : Value → World → Prop} (hrs : rsIn lo fn.results.toList = true) : ∀ (c : Code) {ρ : Env} {w : World} {a : Act},
    servedD H fn.ntmps lo c = true → Fits (Frm.new fn.ntmps) a ρ → cwD P H fn.results.toList K c ρ w → c.wp P (bodyPostD P fn (retP K)) a w := by
  intro c
  induction c with
  | seq x y _ ihy =>
    intro ρ w a hs hf h
    refine wp_seq ?_
    have fin : ∀ {e : Exit} {a' : Act} {w' : World} {ws : List Nat} {Q : Env → World → Prop} (_ : @UpQ _ (Frm.new fn.ntmps) a ws (thenE Q (endQ P fn.results.toList K)) e a' w') (_ : e ≠ .normal), bodyPostD P fn (retP K) e a' w' := by
      intro e a' w' ws Q hq hne
      cases e with
      | normal => exact absurd rfl hne
      | panic c => 
        show Leaves P fn a'.tmps (retP K) a'.defers (.panicking c) w'
        rw [hq.defers]
        exact hq.z
      | outgrown => exact hq.elim
      | goto l => exact hq.elim
      | exit id => exact hq.2.choose_spec.2.elim
      | ret =>
        obtain ⟨_, ρ', hf', hq'⟩ := hq
        show Leaves P fn a'.tmps (retP K) a'.defers .returning w'
        rw [hf'.defers]
        exact leaves_end hf' hq'
    have pn : ∀ c a' w', PZ (Frm.new fn.ntmps) a' c w' → bodyPostD P fn (retP K) (.panic c) a' w' := fun c a' w' hq => by
      show Leaves P fn a'.tmps (retP K) a'.defers (.panicking c) w'
      rw [hq.defers]
      exact hq.z
    have gen : served H (Frm.new fn.ntmps) x = true → servedD H fn.ntmps lo y = true → (match (firstRg y).bind H.cut with
        | none => true
        | some (_, mods) => (writes x).all fun t => mods.testBit t) = true → (match (firstRg y).bind H.cut with
        | none => cw P H x (thenE (fun ρ' w' => cwD P H fn.results.toList K y ρ' w') (endQ P fn.results.toList K)) ρ w
        | some (live, mods) => cutW (fun Q' => cw P H x Q' ρ w) (fun ρ' w' => cwD P H fn.results.toList K y ρ' w') live mods (endQ P fn.results.toList K) ρ) →
        x.wp P (Exit.then (y.wp P (bodyPostD P fn (retP K))) (bodyPostD P fn (retP K))) a w := by
      intro s1 s2 s3 h
      split at h
      · refine wp_mono (cw_wp hm x s1 hf h) fun e a' w' hq => ?_
        cases e with
        | normal =>
          obtain ⟨_, ρ', hf', hq'⟩ := hq
          exact ihy s2 hf' hq'
        | panic c => exact fin hq (by simp)
        | outgrown => exact fin hq (by simp)
        | goto l => exact fin hq (by simp)
        | exit id => exact fin hq (by simp)
        | ret => exact fin hq (by simp)
      · rename_i live mods hcut
        rw [hcut] at s3
        simp only [List.all_eq_true] at s3
        have hmods : ∀ t, mods.testBit t = false → t ∉ writes x := by
          intro t ht hm
          rw [s3 t hm] at ht; cases ht
        obtain ⟨I, hx, hy⟩ := h
        refine wp_mono (cw_wp hm x s1 hf hx) fun e a' w' hq => ?_
        cases e with
        | normal =>
          obtain ⟨hk, ρ', hf', hq'⟩ := hq
          have hy' := allV_get (hy ρ') (live.map ρ') (by simp) w' hq'
          have hme : mkE ρ mods ρ' live (live.map ρ') = ρ' := mkE_self ρ ρ' _ (fun t ht => by rw [← hf'.get t, hk t (hmods t ht), hf.get t]) live
          dsimp only at hy'
          rw [hme] at hy'
          exact ihy s2 hf' hy'
        | panic c => exact fin (Q := fun ρ' w' => apP live.length I (live.map ρ') w') hq (by simp)
        | outgrown => exact fin (Q := fun ρ' w' => apP live.length I (live.map ρ') w') hq (by simp)
        | goto l => exact fin (Q := fun ρ' w' => apP live.length I (live.map ρ') w') hq (by simp)
        | exit id => exact fin (Q := fun ρ' w' => apP live.length I (live.map ρ') w') hq (by simp)
        | ret => exact fin (Q := fun ρ' w' => apP live.length I (live.map ρ') w') hq (by simp)
    cases x with
    | region id ops b =>
      cases b with
      | false =>
        simp only [servedD, Bool.and_eq_true, List.all_eq_true] at hs
        simp only [cwD] at h
        have hlt : ∀ t ∈ opWrites ops.toList, (Frm.new fn.ntmps).lo ≤ t ∧ t < (Frm.new fn.ntmps).n := fun t ht => ⟨Nat.zero_le _, by simpa [Nat.blt_eq] using hs.1 t ht⟩
        cases hdf : isDf ops.toList with
        | true =>
          rw [hdf] at h hs
          refine wp_region_list (rgD_wp ops.toList hdf (fun c a w h => pn c a w h) hlt hf h fun d a' ρ' w' hf' hz => ?_)
          exact cwZ_wp hm (R := retP K) (fun u a ρ w hu hl h => leaves_dE hu hrs hl h) hs.2 hf' hz
        | false =>
          rw [hdf] at h hs
          refine wp_region_list (rgW_wp ops.toList (fun c a w h => pn c a w h) hlt hf h fun a' ρ' w' _ hf' hq => ?_)
          exact ihy hs.2 hf' hq
      | true =>
        simp only [servedD, Bool.and_eq_true] at hs
        simp only [cwD] at h
        exact gen hs.1.1 hs.1.2 hs.2 h
    | _ =>
      simp only [servedD, Bool.and_eq_true] at hs
      simp only [cwD] at h
      exact gen hs.1.1 hs.1.2 hs.2 h
  | _ => intro ρ w a hs; simp [servedD] at hs

theorem calls_of_cwD (hm : P.follows .mixedOrders = true) {f : FuncId} {fn : Func} {c : Code} {args : List Value} {w : World} {K : Value → World → Prop} (lo : Nat)
    (hfn : P.funcs[f]? = some fn) (hb : fn.body = some c) (hs : servedD H fn.ntmps lo c = true) (hrs : rsIn lo fn.results.toList = true) (ha : args.length ≤ fn.ntmps)
    (h : cwD P H fn.results.toList K c (argsE args) w) : Calls P f args.toArray w (retP K) :=
  calls_of_wp_defers hfn hb (cwD_wp hm hrs c hs (fits_new fn.ntmps args ha) h)
end

end Go.Proofs.YtbgnnjfpiblkmaaDoor
