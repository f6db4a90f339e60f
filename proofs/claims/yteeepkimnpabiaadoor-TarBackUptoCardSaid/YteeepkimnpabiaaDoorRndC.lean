/-
  Ranges over a function: the condition of a whole code that may stand in a round, of a whole function that ranges over a function or calls yield, and that it serves. No program is named here.
-/
import Derived.Test.YteeepkimnpabiaaDoorRnd
namespace Go.Proofs.YteeepkimnpabiaaDoor
open Go
set_option linter.unusedSimpArgs false
set_option linter.unnecessarySimpa false
set_option linter.unusedSectionVars false
set_option linter.unusedVariables false

/-- Exits, with the marks that the frame holds of its ranges. -/
abbrev PR := Exit → Env → List Nat → World → Prop

abbrev thenR (next : Env → List Nat → World → Prop) (Q : PR) : PR
  | .normal, ρ, ms, w => next ρ ms w
  | e, ρ, ms, w => Q e ρ ms w
abbrev inBlockR (id : Nat) (Q : PR) : PR
  | .exit k, ρ, ms, w => if k = id then Q .normal ρ ms w else Q (.exit k) ρ ms w
  | e, ρ, ms, w => Q e ρ ms w
abbrev loopR (n : Nat) (I : List Nat → PT n) (m : MT n) (live : List Nat) (k : Nat) (Q : PR) : PR
  | .normal, ρ, ms, w => apP n (I ms) (live.map ρ) w ∧ apM n m (live.map ρ) w < k
  | e, ρ, ms, w => Q e ρ ms w
def cutR (x : PR → Prop) (y : Env → List Nat → World → Prop) (live : List Nat) (mods : Nat) (Q : PR) (ρ : Env) : Prop :=
  ∃ I : List Nat → PT live.length, x (thenR (fun ρ' ms' w' => apP live.length (I ms') (live.map ρ') w') Q) ∧
    ∀ j : Env, allV live.length fun vs => ∀ ms' w', apP live.length (I ms') vs w' → y (mkE ρ mods j live vs) ms' w'

def nthV : List Value → Nat → Value
  | [], _ => undef
  | v :: _, 0 => v
  | _ :: r, n + 1 => nthV r n
def putsE (ρ : Env) : List Nat → Nat → List Value → Env
  | p :: ps, i, vs => putsE (ρ.put (some p) (nthV vs i)) ps (i + 1) vs
  | [], _, _ => ρ
def exitsOf : Code → List Nat
  | .exit id => [id]
  | .seq x y => exitsOf x ++ exitsOf y
  | .cond _ x y => exitsOf x ++ exitsOf y
  | .block _ c => exitsOf c
  | .loop c => exitsOf c
  | .rangeFunc _ _ _ c => exitsOf c
  | _ => []

def mkD (r : Nat) : Deferred := { target := .collected r, args := #[] }
def busyOf (r : Loop) : Loop := { r with state := .busy }
def leftBy (r : Loop) (c : Code) : Loop := { r with state := .done, pending := some c }
def spent (r : Loop) : Loop := { r with state := .exhausted }
/-- A round begins. -/
def bgW (l : Nat) (rc : Loop) (w : World) (K : World → Prop) : Prop := w.heap[l]? = some (.loop rc) ∧ K (w.putObj l (.loop (busyOf rc)))
/-- A round ends: off its end, or by a jump. -/
def enW (l : Nat) (rc : Loop) (c : Option Code) (K : Value → World → Prop) (w : World) : Prop :=
  w.heap[l]? = some (.loop (busyOf rc)) ∧ match c with
    | none => K (.bool true) (w.putObj l (.loop rc))
    | some c => K (.bool false) (w.putObj l (.loop (leftBy rc c)))
abbrev rndQ (l : Nat) (rc : Loop) (K : Value → World → Prop) : PR
  | .normal, _, _, w => enW l rc none K w
  | .ret, _, _, w => enW l rc (some .ret) K w
  | .exit id, _, _, w => enW l rc (some (.exit id)) K w
  | _, _, _, _ => False

abbrev LX := List (Nat × (List Nat → World → Prop))
def jx : LX → Nat → List Nat → World → Prop
  | [], _, _, _ => False
  | (k, q) :: r, id, ms, w => match Nat.beq k id with
    | true => q ms w
    | false => jx r id ms w
/-- Where the function that was ranged over has returned: the pending jump. -/
def jmpW (l : Nat) (ms : List Nat) (N R : List Nat → World → Prop) (X : LX) (w : World) : Prop :=
  ∃ rc : Loop, w.heap[l]? = some (.loop rc) ∧ rc.state ≠ .busy ∧ match rc.pending with
    | none => N ms (w.putObj l (.loop (spent rc)))
    | some .ret => R ms (w.putObj l (.loop (spent rc)))
    | some (.exit id) => jx X id ms (w.putObj l (.loop (spent rc)))
    | _ => False
def pE (P : Program) (m : Sem Next) (w : World) (K : Value → World → Prop) : Prop := ∃ f args, m.run P w = .ok (.enter f args) w ∧ Calls P f args w (@retP Pan.no K)

def rfB (P : Program) (ms : List Nat) (l : Nat) (rc : Loop) (w : World) (g : Value) (np : Nat) (B : Nat → Loop → List Value → World → (Value → World → Prop) → Prop) (N R : List Nat → World → Prop) (X : LX) : Prop :=
  (∀ (Z : Pan) (args : List Value) (w' : World) (K : Value → World → Prop), args.length = np → w'.heap[l]? = some (.loop rc) → B l rc args w' K → @pY Z P (oCallV (.func (.yield l) #[] #[]) args) w' K) →
  pE P (oCallV g [.func (.yield l) #[] #[]]) w fun _ w₂ => jmpW l ms N R X w₂

/-- A range over a function: outermost, or in a round. -/
def rfW (P : Program) (rd : Option Nat) (ms : List Nat) (w : World) (g : Value) (np : Nat) (B : Nat → Loop → List Value → World → (Value → World → Prop) → Prop) (N R : List Nat → World → Prop) (X : LX) : Prop :=
  match rd with
  | none => ∀ rc : Loop, rc.state = .ready → rc.pending = none → rfB P (w.heap.size :: ms) (w.heap.size + 1) rc ((w.alloc (.deferred (some []))).alloc (.loop rc)) g np B N R X
  | some l₀ => (∃ r, w.heap[l₀]? = some (.loop r)) ∧ ∀ rc : Loop, rc.state = .ready → rc.pending = none → rfB P ms w.heap.size rc (w.alloc (.loop rc)) g np B N R X

def cwR (P : Program) (H : Hints) : Code → Option Nat → PR → Env → List Nat → World → Prop
  | .skip, _, Q, ρ, ms, w => Q .normal ρ ms w
  | .seq x y, rd, Q, ρ, ms, w => match (firstRg y).bind H.cut with
    | none => cwR P H x rd (thenR (fun ρ' ms' w' => cwR P H y rd Q ρ' ms' w') Q) ρ ms w
    | some (live, mods) => cutR (fun Q' => cwR P H x rd Q' ρ ms w) (fun ρ' ms' w' => cwR P H y rd Q ρ' ms' w') live mods Q ρ
  | .region id ops b, _, Q, ρ, ms, w => match b with
    | false => @rgR Pan.no P ops ops.toList ρ w fun ρ' w' => Q .normal ρ' ms w'
    | true => pDr w fun w => match H.order id with
      | [] => @dwR Pan.no P ops ops.size (Array.replicate ops.size false) [] ρ w fun ρ' w' => Q .normal ρ' ms w'
      | s => @dwSR Pan.no P ops ops.toList s [] ρ w fun ρ' w' => Q .normal ρ' ms w'
  | .cond c x y, rd, Q, ρ, ms, w => pIf (ev ρ c) (cwR P H x rd Q ρ ms w) (cwR P H y rd Q ρ ms w)
  | .block id c, rd, Q, ρ, ms, w => cwR P H c rd (inBlockR id Q) ρ ms w
  | .loop c, rd, Q, ρ, ms, w => match (firstRg c).map H.loop with
    | some (live, mods) => ∃ (I : List Nat → PT live.length) (m : MT live.length), apP live.length (I ms) (live.map ρ) w ∧
      ∀ j : Env, allV live.length fun vs => ∀ ms' w', apP live.length (I ms') vs w' →
        cwR P H c rd (loopR live.length I m live (apM live.length m vs w') Q) (mkE ρ mods j live vs) ms' w'
    | none => False
  | .rangeFunc g ps assign body, rd, Q, ρ, ms, w => rfW P rd ms w (ev ρ g) ps.toList.length
      (fun l rc args w K => cwR P H assign (some l) (thenR (fun ρ' ms' w' => bgW l rc w' fun w'' => cwR P H body (some l) (rndQ l rc K) ρ' ms' w'') (fun _ _ _ _ => False)) (putsE ρ ps.toList 0 args) [] w)
      (Q .normal ρ) (Q .ret ρ) ((exitsOf body).map fun id => (id, Q (.exit id) ρ))
  | .exit id, _, Q, ρ, ms, w => Q (.exit id) ρ ms w
  | .ret, _, Q, ρ, ms, w => Q .ret ρ ms w
  | _, _, _, _, _, _ => False

def servedR (H : Hints) (n : Nat) : Code → Bool
  | .skip | .exit _ | .ret => true
  | .seq x y => servedR H n x && servedR H n y && (match (firstRg y).bind H.cut with
    | none => true
    | some (_, mods) => (writes x).all fun t => mods.testBit t)
  | .region id ops b => ((opWrites ops.toList).all fun t => Nat.blt t n) && (ops.toList.all notDf) && match b with
    | false => true
    | true => Region.noSelect ops && (match H.order id with
      | [] => true
      | s => okS ops ops.toList ops.toList.length s 0 && Nat.beq s.length ops.toList.length && (ops.toList.all fun o => o.after.toList.all fun e => Nat.blt e.on ops.toList.length))
  | .cond _ x y => servedR H n x && servedR H n y
  | .block _ c => servedR H n c
  | .loop c => servedR H n c && (match (firstRg c).map H.loop with
    | some (_, mods) => (writes c).all fun t => mods.testBit t
    | none => false)
  | .rangeFunc _ ps assign body => servedR H n assign && servedR H n body && ps.toList.all fun t => Nat.blt t n
  | _ => false

/-! ### That it serves -/
abbrev FrmR (n : Nat) (ms : List Nat) : Frm := ⟨n, 0, ms.map mkD, fun _ => undef⟩

def UpR (n : Nat) (a : Act) (ws : List Nat) (Q : PR) : Exit → Act → World → Prop
  | .panic _, _, _ => False
  | .outgrown, _, _ => False
  | .goto _, _, _ => False
  | e, a', w => (∀ t, t ∉ ws → a'.tmps.getD t undef = a.tmps.getD t undef) ∧ ∃ ρ' ms', Fits (FrmR n ms') a' ρ' ∧ Q e ρ' ms' w

theorem UpR.mono {n : Nat} {a : Act} {ws ws' : List Nat} {Q : PR} (hw : ∀ t ∈ ws, t ∈ ws') : ∀ e a' w, UpR n a ws Q e a' w → UpR n a ws' Q e a' w := by
  intro e a' w h
  cases e <;> first | exact h | exact ⟨fun t ht => h.1 t fun hm => ht (hw t hm), h.2⟩
theorem UpR.next {n : Nat} {a a₁ : Act} {ws ws' : List Nat} {Q : PR} (hk : ∀ t, t ∉ ws → a₁.tmps.getD t undef = a.tmps.getD t undef) : ∀ e a' w, UpR n a₁ ws' Q e a' w → UpR n a (ws ++ ws') Q e a' w := by
  intro e a' w h
  have key : ∀ t, t ∉ ws ++ ws' → (∀ t, t ∉ ws' → a'.tmps.getD t undef = a₁.tmps.getD t undef) → a'.tmps.getD t undef = a.tmps.getD t undef := by
    intro t ht h1
    simp only [List.mem_append, not_or] at ht
    rw [h1 t ht.2, hk t ht.1]
  cases e <;> first | exact h | exact ⟨fun t ht => key t ht h.1, h.2⟩

theorem UpR.letsOut {n : Nat} {a : Act} {ws : List Nat} {Q : PR} : ¬ LetsOut (UpR n a ws Q) := fun ⟨_, _, h⟩ => h

theorem nthV_app (v : Value) (r : List Value) : ∀ pre : List Value, nthV (pre ++ v :: r) pre.length = v
  | [] => rfl
  | u :: pre => nthV_app v r pre
theorem puts_fits {n : Nat} {ms : List Nat} : ∀ (ps : List Nat) (pre vs : List Value) {a : Act} {ρ : Env}, Fits (FrmR n ms) a ρ → (∀ p ∈ ps, p < n) → vs.length = ps.length →
    Fits (FrmR n ms) { a with tmps := (ps.zip vs).foldl (fun tmps (t, v) => tmps.setIfInBounds t v) a.tmps } (putsE ρ ps pre.length (pre ++ vs))
  | [], _, [], _, _, hf, _, _ => hf
  | p :: ps, pre, v :: vs, a, ρ, hf, h, hl => by
    have h1 := hf.put (d := some p) (fun t ht => by cases ht; exact ⟨Nat.zero_le _, h p List.mem_cons_self⟩) v
    have h2 := puts_fits ps (pre ++ [v]) vs h1 (fun q hq => h q (List.mem_cons_of_mem _ hq)) (by simpa using hl)
    simp only [putsE, nthV_app]
    simp only [List.length_append, List.length_singleton, List.append_assoc, List.singleton_append] at h2
    exact h2

theorem fits_round {n : Nat} {ms : List Nat} {a : Act} {ρ : Env} (hf : Fits (FrmR n ms) a ρ) : Fits (FrmR n []) { tmps := a.tmps, defers := [] } ρ := ⟨hf.size, rfl, hf.get, fun t ht => absurd ht (Nat.not_lt_zero t)⟩
theorem fits_more {n : Nat} {ms ms' : List Nat} {a : Act} {ρ : Env} (hf : Fits (FrmR n ms) a ρ) : Fits (FrmR n ms') { tmps := a.tmps, defers := ms'.map mkD } ρ := ⟨hf.size, rfl, hf.get, fun t ht => absurd ht (Nat.not_lt_zero t)⟩

theorem jx_get {X : LX} {id : Nat} {ms : List Nat} {w : World} (h : jx X id ms w) : ∃ q, (id, q) ∈ X ∧ q ms w := by
  induction X with
  | nil => exact h.elim
  | cons p r ih =>
    obtain ⟨k, q⟩ := p
    simp only [jx] at h
    cases e : Nat.beq k id with
    | true => rw [e] at h; rw [← Nat.eq_of_beq_eq_true e]; exact ⟨q, List.mem_cons_self, h⟩
    | false => rw [e] at h; obtain ⟨q', h1, h2⟩ := ih h; exact ⟨q', List.mem_cons_of_mem _ h1, h2⟩

theorem rfB_wp {P : Program} {n : Nat} {g : Operand} {ps : Array Tmp} {assign body : Code} {a : Act} {ρ : Env} {ms ms' : List Nat} {w₁ : World} {l : Nat} {rd : Option Nat} {fn : FuncId} {ws : List Nat} {Q : PR} {blk : Nat}
    {B : Nat → Loop → List Value → World → (Value → World → Prop) → Prop} (hf : Fits (FrmR n ms) a ρ)
    (hB : ∀ (args : List Value) (w' : World) (K : Value → World → Prop) (rc : Loop), args.length = ps.toList.length → rc = { state := .ready, pending := none, fn := fn, tmps := a.tmps, params := ps, assign := assign, body := body, defers := blk } → w'.heap[l]? = some (.loop rc) → B l rc args w' K →
      RoundIn (Fr none) 0 P l fn ((ps.zip args.toArray).foldl (fun tmps (t, a) => tmps.setIfInBounds t a) a.tmps) assign body w' (@retP Pan.no K))
    (hb : rfB P ms' l { state := .ready, pending := none, fn := fn, tmps := a.tmps, params := ps, assign := assign, body := body, defers := blk } w₁ (ev ρ g) ps.toList.length B (Q .normal ρ) (Q .ret ρ) ((exitsOf body).map fun id => (id, Q (.exit id) ρ))) :
    ∃ (d : Deferred) (f : FuncId) (args : Array Value) (w₂ : World), (resolve a.eval (rangeCall g l) 0).run P w₁ = .ok d w₁ ∧ (invoke d.target d.args).run P w₁ = .ok (.enter f args) w₂ ∧
      CallsIn (Fr rd) 0 P f args w₂ (rangePost (Fr rd) 0 P l (UpR n a ws Q) { tmps := a.tmps, defers := ms'.map mkD }) := by
  obtain ⟨f, args, hrun, hcall⟩ := hb fun Z args w' K hl hw hBB => by
    have hR := hB args w' K _ hl rfl hw hBB
    have hy : (oCallV (.func (.yield l) #[] #[]) args).run P w' = .ok (.round l fn ((ps.zip args.toArray).foldl (fun tmps (t, a) => tmps.setIfInBounds t a) a.tmps) assign body) w' := by
      have := run_yield (P := P) (args := args.toArray) hw (by simpa using hl)
      have e : oCallV (.func (.yield l) #[] #[]) args = Instr.yield l args.toArray := by
        simp only [oCallV, Deferred.ofValue, pure_bind, invoke, Array.empty_append, Array.append_empty]
      rw [e]; exact this
    unfold pY rY
    rw [hy]
    exact RoundIn.mono hR fun e w' he => by
      cases e with
      | returned v => exact he
      | panicked c => exact he.elim
      | outgrown => exact he.elim
  have e : (resolve a.eval (rangeCall g l) 0) = Deferred.ofValue (ev ρ g) #[.func (.yield l) #[] #[]] := by
    rw [hf.eval]
    simp [resolve, rangeCall, ev]
  unfold oCallV at hrun
  rw [Sem.run_bind] at hrun
  have hinv : ∀ (s : Value) (xs : Array Value) (d : Deferred) (w' : World), (Deferred.ofValue s xs).run P w₁ = .ok d w' → w' = w₁ := by
    intro s xs d w' h
    unfold Deferred.ofValue at h
    split at h <;> first | (cases h; rfl) | (simp [Sem.run, runtimePanic, stuck] at h) | skip
    all_goals (cases h)
  cases hd : (Deferred.ofValue (ev ρ g) #[.func (.yield l) #[] #[]]).run P w₁ with
  | halt x w' =>
    have hd' : (Deferred.ofValue (ev ρ g) ([Value.func (.yield l) #[] #[]] : List Value).toArray).run P w₁ = .halt x w' := hd
    rw [hd'] at hrun
    simp [Result.andThen] at hrun
  | ok d w' =>
    obtain rfl := hinv _ _ _ _ hd
    have hd' : (Deferred.ofValue (ev ρ g) ([Value.func (.yield l) #[] #[]] : List Value).toArray).run P w' = .ok d w' := hd
    rw [hd', Result.andThen_ok] at hrun
    refine ⟨d, f, args, w', by rw [e]; exact hd, hrun, Fr.calls (Calls.mono hcall fun e w₂ he => ?_)⟩
    cases e with
    | panicked c => exact he.elim
    | outgrown => exact he.elim
    | returned v =>
      obtain ⟨rc, hrc, hst, hp⟩ := he
      refine ⟨rc.pending, w₂.putObj l (.loop (spent rc)), run_endLoop hrc hst, ?_⟩
      generalize w₂.putObj l (.loop (spent rc)) = W at hp ⊢
      have hf2 : Fits (FrmR n ms') { tmps := a.tmps, defers := ms'.map mkD } ρ := fits_more hf
      cases hpd : rc.pending with
      | none => rw [hpd] at hp; exact ⟨fun _ _ => rfl, ρ, ms', hf2, hp⟩
      | some c =>
        rw [hpd] at hp
        cases c with
        | ret => exact wpIn_ret ⟨fun _ _ => rfl, ρ, ms', hf2, hp⟩
        | exit id =>
          obtain ⟨q, hq, hqq⟩ := jx_get hp
          obtain ⟨id', _, he⟩ := List.mem_map.1 hq
          cases he
          exact wpIn_exit ⟨fun _ _ => rfl, ρ, ms', hf2, hqq⟩
        | _ => exact hp.elim

theorem cwR_wp {P : Program} (hm : P.follows .mixedOrders = true) {H : Hints} {n : Nat} (c : Code) : ∀ {rd : Option Nat} {Q : PR} {ρ : Env} {ms : List Nat} {w : World} {a : Act},
    servedR H n c = true → Fits (FrmR n ms) a ρ → cwR P H c rd Q ρ ms w → c.wpIn (Fr rd) 0 P (UpR n a (writes c) Q) a w := by
  induction c with
  | skip => intro rd Q ρ ms w a _ hf h; exact wpIn_skip ⟨fun _ _ => rfl, ρ, ms, hf, h⟩
  | exit id => intro rd Q ρ ms w a _ hf h; exact wpIn_exit ⟨fun _ _ => rfl, ρ, ms, hf, h⟩
  | ret => intro rd Q ρ ms w a _ hf h; exact wpIn_ret ⟨fun _ _ => rfl, ρ, ms, hf, h⟩
  | region id ops draw =>
    intro rd Q ρ ms w a hs hf h
    simp only [servedR, Bool.and_eq_true] at hs
    obtain ⟨⟨hs1, hnd⟩, hs2⟩ := hs
    simp only [List.all_eq_true] at hs1 hnd
    have hndj : ∀ (j : Nat) (o : Oper), ops[j]? = some o → notDf o = true := fun j o ho => hnd o (by simpa using Array.mem_of_getElem? ho)
    have hlt : ∀ t ∈ opWrites ops.toList, (FrmR n ms).lo ≤ t ∧ t < (FrmR n ms).n := fun t ht => ⟨Nat.zero_le _, by simpa [Nat.blt_eq] using hs1 t ht⟩
    cases draw with
    | true =>
      simp only [Bool.and_eq_true] at hs2
      obtain ⟨hs2, hs3⟩ := hs2
      simp only [cwR, pDr] at h
      refine wpIn_region_any hm (wpAnyIn_of_T _ _ [] _ _ ?_)
      have hcl : Clo ops (Array.replicate ops.size false) := by
        intro j o ho hl
        have hlt := (Array.getElem?_eq_some_iff.1 ho).1
        simp [hlt] at hl
      have hq : ∀ c a' w, UpR n a (writes (.region id ops true)) Q (.panic c) a' w ↔ @PZ Pan.no (FrmR n ms) a' c w := fun c a' w => ⟨fun h => h.elim, fun h => h.z⟩
      cases ho : H.order id with
      | nil =>
        rw [ho] at h
        exact dwR_any (P := P) (rd := rd) hs2 hndj hlt (Q := UpR n a (writes (.region id ops true)) Q) hq UpR.letsOut a
          (fun a' ρ' w' hk hf' hq => ⟨hk, ρ', ms, hf', hq⟩) ops.size _ [] ρ a _ hcl hf (fun _ _ => rfl) (fun p hp => by cases hp) h
      | cons p r =>
        rw [ho] at h hs3
        simp only [Bool.and_eq_true] at hs3
        obtain ⟨⟨hok, hlen⟩, hed⟩ := hs3
        have hlen := Nat.eq_of_beq_eq_true hlen
        simp only [Array.length_toList] at hok hlen hed
        have hb : ∀ (j : Nat) (o : Oper), ops[j]? = some o → ∀ e ∈ o.after, Region.binds .any e = true → e.on < ops.size := by
          intro j o hj e he _
          simp only [List.all_eq_true] at hed
          have := hed o (by simpa using Array.mem_of_getElem? hj) e (by simpa using he)
          simpa [Nat.blt_eq] using this
        have hrel : RelM ops.size 0 (Array.replicate ops.size false) := ⟨by simp, fun j hj => by simp [hj]⟩
        have H := dwSR_any (P := P) (rd := rd) hs2 hndj hlt hb (Q := UpR n a (writes (.region id ops true)) Q) hq UpR.letsOut a
          (fun a' ρ' w' hk hf' hq => ⟨hk, ρ', ms, hf', hq⟩) (p :: r) 0 _ [] ρ a _ hrel hok hcl hf (fun _ _ => rfl) (fun p hp => by cases hp) h
        rw [hlen] at H
        exact H
    | false =>
      exact wpIn_region_list (rgR_wp (n := FrmR n ms) ops.toList (fun c a w h => h.z) hnd hlt hf h fun a' ρ' w' hk hf' hq => ⟨hk, ρ', ms, hf', hq⟩)
  | seq x y ihx ihy =>
    intro rd Q ρ ms w a hs hf h
    simp only [servedR, Bool.and_eq_true] at hs
    simp only [cwR] at h
    refine wpIn_seq ?_
    have fin : ∀ {Q' : Env → List Nat → World → Prop} e a' w, UpR n a (writes x) (thenR Q' Q) e a' w → e ≠ .normal → Exit.then (y.wpIn (Fr rd) 0 P (UpR n a (writes (.seq x y)) Q)) (UpR n a (writes (.seq x y)) Q) e a' w := by
      intro Q' e a' w hq hne
      have hw : ∀ t ∈ writes x, t ∈ writes (.seq x y) := by simp [writes]; intro t ht; exact .inl ht
      cases e with
      | normal => exact absurd rfl hne
      | panic c => exact hq.elim
      | outgrown => exact hq.elim
      | goto l => exact hq.elim
      | exit id => exact ⟨fun t ht => hq.1 t fun hm => ht (hw t hm), hq.2⟩
      | ret => exact ⟨fun t ht => hq.1 t fun hm => ht (hw t hm), hq.2⟩
    split at h
    · have hs := hs.1
      refine wpIn_mono (ihx hs.1 hf h) fun e a' w' hq => ?_
      cases e with
      | normal =>
        obtain ⟨hk, ρ', ms', hf', hq'⟩ := hq
        exact wpIn_mono (ihy hs.2 hf' hq') (UpR.next hk)
      | _ => exact fin _ _ _ hq (by simp)
    · rename_i live mods hcut
      have hmods : ∀ t, mods.testBit t = false → t ∉ writes x := by
        have := hs.2
        rw [hcut] at this
        simp only [List.all_eq_true] at this
        intro t ht hm
        rw [this t hm] at ht; cases ht
      have hs := hs.1
      obtain ⟨I, hx, hy⟩ := h
      refine wpIn_mono (ihx hs.1 hf hx) fun e a' w' hq => ?_
      cases e with
      | normal =>
        obtain ⟨hk, ρ', ms', hf', hq'⟩ := hq
        have hy' := allV_get (hy ρ') (live.map ρ') (by simp) ms' w' hq'
        have hm : mkE ρ mods ρ' live (live.map ρ') = ρ' := mkE_self ρ ρ' _ (fun t ht => by rw [← hf'.get t, hk t (hmods t ht), hf.get t]) live
        dsimp only at hy'
        rw [hm] at hy'
        exact wpIn_mono (ihy hs.2 hf' hy') (UpR.next hk)
      | _ => exact fin _ _ _ hq (by simp)
  | cond c x y ihx ihy =>
    intro rd Q ρ ms w a hs hf h
    simp only [servedR, Bool.and_eq_true] at hs
    simp only [cwR] at h
    have hc : a.eval c = ev ρ c := by rw [hf.eval]
    unfold pIf at h
    split at h
    · rename_i hv
      exact wpIn_cond_true (hc.trans hv) (wpIn_mono (ihx hs.1 hf h) (UpR.mono (by simp [writes]; intro t ht; exact .inl ht)))
    · rename_i hv
      exact wpIn_cond_false (hc.trans hv) (wpIn_mono (ihy hs.2 hf h) (UpR.mono (by simp [writes]; intro t ht; exact .inr ht)))
    · exact h.elim
  | block id c ih =>
    intro rd Q ρ ms w a hs hf h
    simp only [servedR] at hs
    simp only [cwR] at h
    refine wpIn_block (wpIn_mono (ih hs hf h) fun e a' w' hq => ?_)
    cases e with
    | panic c => exact hq.elim
    | outgrown => exact hq.elim
    | goto l => exact hq.elim
    | normal => exact hq
    | ret => exact hq
    | exit k =>
      obtain ⟨hk, ρ', ms', hf', hq'⟩ := hq
      simp only [inBlockR] at hq'
      simp only [Exit.inBlock]
      split
      · rename_i e; rw [if_pos e] at hq'; exact ⟨hk, ρ', ms', hf', hq'⟩
      · rename_i e; rw [if_neg e] at hq'; exact ⟨hk, ρ', ms', hf', hq'⟩
  | loop c ih =>
    intro rd Q ρ ms w a hs hf h
    simp only [servedR, Bool.and_eq_true] at hs
    simp only [cwR] at h
    obtain ⟨hs, hmm⟩ := hs
    split at h
    rotate_left
    · exact h.elim
    rename_i live mods hlm
    rw [hlm] at hmm
    simp only [List.all_eq_true] at hmm
    have hmods : ∀ t, mods.testBit t = false → t ∉ writes c := by
      intro t ht hm
      rw [hmm t hm] at ht; cases ht
    obtain ⟨I, m, h0, hstep⟩ := h
    refine wpIn_loop (fun a' w' => (∀ t, t ∉ writes c → a'.tmps.getD t undef = a.tmps.getD t undef) ∧ a'.tmps.size = n ∧ ∃ ms', a'.defers = ms'.map mkD ∧ apP live.length (I ms') (live.map fun t => a'.tmps.getD t undef) w')
      (fun a' w' => apM live.length m (live.map fun t => a'.tmps.getD t undef) w') ⟨fun _ _ => rfl, hf.size, ms, hf.defers, ?_⟩ ?_
    · have e : (fun t => a.tmps.getD t undef) = ρ := funext hf.get
      rw [e]; exact h0
    · intro a₁ w₁ ⟨hk, hsz, ms₁, hdf, hI⟩
      have hf₁ : Fits (FrmR n ms₁) a₁ (fun t => a₁.tmps.getD t undef) := ⟨hsz, hdf, fun _ => rfl, fun t ht => absurd ht (Nat.not_lt_zero t)⟩
      have hs' := allV_get (hstep fun t => a₁.tmps.getD t undef) (live.map fun t => a₁.tmps.getD t undef) (by simp) ms₁ w₁ hI
      rw [mkE_self ρ _ _ (fun t ht => by rw [hk t (hmods t ht), hf.get t]) live] at hs'
      refine wpIn_mono (ih hs hf₁ hs') fun e a' w' hq => ?_
      cases e with
      | panic c => exact hq.elim
      | outgrown => exact hq.elim
      | goto l => exact hq.elim
      | normal =>
        obtain ⟨hk', ρ', ms', hf', hq'⟩ := hq
        have e : (fun t => a'.tmps.getD t undef) = ρ' := funext hf'.get
        refine ⟨⟨fun t ht => (hk' t ht).trans (hk t ht), hf'.size, ms', hf'.defers, ?_⟩, ?_⟩
        · rw [e]; exact hq'.1
        · rw [e]; exact hq'.2
      | exit k => exact ⟨fun t ht => (hq.1 t ht).trans (hk t ht), hq.2⟩
      | ret => exact ⟨fun t ht => (hq.1 t ht).trans (hk t ht), hq.2⟩
  | rangeFunc g ps assign body iha ihb =>
    intro rd Q ρ ms w a hs hf h
    simp only [servedR, Bool.and_eq_true, List.all_eq_true] at hs
    obtain ⟨⟨hs1, hs2⟩, hs3⟩ := hs
    simp only [cwR] at h
    have hps : ∀ p ∈ ps.toList, p < n := fun p hp => by simpa [Nat.blt_eq] using hs3 p hp
    -- a round, out of its body
    have round : ∀ (fn : FuncId) (blk l : Nat) (args : List Value) (w' : World) (K : Value → World → Prop) (rc : Loop), args.length = ps.toList.length → rc = { state := .ready, pending := none, fn := fn, tmps := a.tmps, params := ps, assign := assign, body := body, defers := blk } → w'.heap[l]? = some (.loop rc) →
        cwR P H assign (some l) (thenR (fun ρ' ms' w' => bgW l rc w' fun w'' => cwR P H body (some l) (rndQ l rc K) ρ' ms' w'') (fun _ _ _ _ => False)) (putsE ρ ps.toList 0 args) [] w' →
        RoundIn (Fr none) 0 P l fn ((ps.zip args.toArray).foldl (fun tmps (t, a) => tmps.setIfInBounds t a) a.tmps) assign body w' (@retP Pan.no K) := by
      intro fn blk l args w' K rc hl hrc hw hB
      have hf0 := puts_fits ps.toList [] args (fits_round hf) hps (by simpa using hl)
      have ez : (ps.zip args.toArray).foldl (fun tmps (t, a) => tmps.setIfInBounds t a) a.tmps = (ps.toList.zip args).foldl (fun tmps (t, a) => tmps.setIfInBounds t a) a.tmps := by
        rw [← Array.foldl_toList, Array.toList_zip]
      rw [ez]
      refine roundIn_of_wpIn (F := Fr none) trivial ?_
      refine wpIn_mono (iha (rd := some l) hs1 hf0 hB) fun e a' w₁ hq => ?_
      cases e with
      | panic c => exact hq.elim
      | outgrown => exact hq.elim
      | goto l => exact hq.elim
      | exit k => exact hq.2.choose_spec.choose_spec.2.elim
      | ret => exact hq.2.choose_spec.choose_spec.2.elim
      | normal =>
        obtain ⟨_, ρ', ms', hf', hb1, hb2⟩ := hq
        have hrdy : rc.state = .ready := by rw [hrc]
        refine ⟨_, run_beginRound hb1 hrdy, wpIn_mono (ihb (rd := some l) hs2 hf' hb2) fun e a'' w₂ hq => ?_⟩
        have hback : ({ busyOf rc with state := if (none : Option Code).isNone then .ready else .done, pending := none } : Loop) = rc := by rw [hrc]; rfl
        have hleft : ∀ c : Code, ({ busyOf rc with state := if (some c).isNone then .ready else .done, pending := some c } : Loop) = leftBy rc c := fun c => rfl
        cases e with
        | panic c => exact hq.elim
        | outgrown => exact hq.elim
        | goto l => exact hq.elim
        | normal =>
          obtain ⟨_, _, _, _, h1, h2⟩ := hq
          refine ⟨_, _, run_endRound none h1, ?_⟩
          rw [hback]; exact h2
        | ret =>
          obtain ⟨_, _, _, _, h1, h2⟩ := hq
          exact ⟨_, _, run_endRound (some .ret) h1, h2⟩
        | exit id =>
          obtain ⟨_, _, _, _, h1, h2⟩ := hq
          exact ⟨_, _, run_endRound (some (.exit id)) h1, h2⟩
    refine wpIn_rangeFunc fun fn _ => ?_
    unfold rfW at h
    cases rd with
    | none =>
      dsimp only at h
      have hb := h { state := .ready, pending := none, fn := fn, tmps := a.tmps, params := ps, assign := assign, body := body, defers := w.heap.size } rfl rfl
      obtain ⟨d, f, args, w₂, h1, h2, h3⟩ := rfB_wp (rd := none) (ws := writes (.rangeFunc g ps assign body)) hf (fun args w' K rc => round fn _ _ args w' K rc) hb
      refine ⟨_, _, _, d, _, f, args, w₂, run_enterLoop_outer fn a.tmps ps assign body, h1, fun _ _ => trivial, h2, Fr.deep _ _, ?_⟩
      have e : ([{ target := .collected w.heap.size, args := #[] }] : List Deferred) ++ a.defers = (w.heap.size :: ms).map mkD := by rw [hf.defers]; rfl
      rw [e]; exact h3
    | some l₀ =>
      dsimp only at h
      obtain ⟨⟨r, hr⟩, h⟩ := h
      have hb := h { state := .ready, pending := none, fn := fn, tmps := a.tmps, params := ps, assign := assign, body := body, defers := r.defers } rfl rfl
      obtain ⟨d, f, args, w₂, h1, h2, h3⟩ := rfB_wp (rd := some l₀) (ws := writes (.rangeFunc g ps assign body)) hf (fun args w' K rc => round fn _ _ args w' K rc) hb
      refine ⟨w.heap.size, [], _, d, _, f, args, w₂, ?_, h1, fun _ _ => trivial, h2, Fr.deep _ _, ?_⟩
      · unfold Instr.enterLoop
        simp only [Sem.run_bind, run_getLoop hr, run_newObj_alloc, Result.andThen, Sem.run_pure]
      · have e : ([] : List Deferred) ++ a.defers = ms.map mkD := by rw [hf.defers]; rfl
        rw [e]; exact h3
  | scope c => intro rd Q ρ ms w a hs; simp [servedR] at hs
  | label l => intro rd Q ρ ms w a hs; simp [servedR] at hs
  | goto l => intro rd Q ρ ms w a hs; simp [servedR] at hs
  | refuse s => intro rd Q ρ ms w a hs; simp [servedR] at hs

/-! ### A whole function -/
/-- At the end: the marks are met, one by one. -/
def mkW : List Nat → World → (World → Prop) → Prop
  | [], w, K => K w
  | r :: ms, w, K => w.heap[r]? = some (.deferred (some [])) ∧ mkW ms (w.putObj r (.deferred none)) K
abbrev endR (P : Program) (rs : List ResultVar) (K : Value → World → Prop) : PR
  | .normal, ρ, ms, w => mkW ms w fun w => @resW P rs [] ρ w K
  | .ret, ρ, ms, w => mkW ms w fun w => @resW P rs [] ρ w K
  | _, _, _, _ => False

theorem leavesM {P : Program} {fn : Func} {n : Nat} {ρ : Env} {K : Value → World → Prop} (ms : List Nat) : ∀ {a : Act} {w : World}, Fits (FrmR n ms) a ρ → mkW ms w (fun w => @resW P fn.results.toList [] ρ w K) →
    LeavesInM (Fr none) 0 P fn a.tmps (@retP Pan.no K) (ms.map mkD) .returning w := by
  induction ms with
  | nil =>
    intro a w hf h
    obtain ⟨vs, hr, hK⟩ := resW_run _ _ h
    exact ⟨_, results_one hf fn w P vs hr, by simpa [retP] using hK⟩
  | cons r ms ih =>
    intro a w hf h
    obtain ⟨h1, h2⟩ := h
    have hf2 : Fits (FrmR n ms) { tmps := a.tmps, defers := ms.map mkD } ρ := ⟨hf.size, rfl, hf.get, fun t ht => absurd ht (Nat.not_lt_zero t)⟩
    exact ⟨by simp, .inl ⟨r, _, rfl, run_takeDeferred h1, ih (a := { tmps := a.tmps, defers := ms.map mkD }) hf2 h2⟩⟩

theorem calls_of_cwR {P : Program} (hm : P.follows .mixedOrders = true) {H : Hints} {f : FuncId} {fn : Func} {c : Code} {args : List Value} {w : World} {K : Value → World → Prop}
    (hfn : P.funcs[f]? = some fn) (hb : fn.body = some c) (hs : servedR H fn.ntmps c = true) (ha : args.length ≤ fn.ntmps)
    (h : cwR P H c none (endR P fn.results.toList K) (argsE args) [] w) : Calls P f args.toArray w (@retP Pan.no K) := by
  refine (callsIn_wide (n := 0)).1 ?_
  refine callsIn_of_wp_marks (F := Fr none) hfn hb trivial ?_
  have hf : Fits (FrmR fn.ntmps []) { tmps := args.toArray ++ Array.replicate (fn.ntmps - args.toArray.size) undef, defers := [] } (argsE args) := fits_new fn.ntmps args ha
  refine wpIn_mono (cwR_wp hm c hs hf h) fun e a' w' hq => ?_
  cases e with
  | panic c => exact hq.elim
  | outgrown => exact hq.elim
  | goto l => exact hq.elim
  | exit id => exact hq.2.choose_spec.choose_spec.2.elim
  | normal =>
    obtain ⟨_, ρ', ms', hf', hq⟩ := hq
    show LeavesInM (Fr none) 0 P fn a'.tmps (@retP Pan.no K) a'.defers .returning w'
    rw [hf'.defers]
    exact leavesM ms' hf' hq
  | ret =>
    obtain ⟨_, ρ', ms', hf', hq⟩ := hq
    show LeavesInM (Fr none) 0 P fn a'.tmps (@retP Pan.no K) a'.defers .returning w'
    rw [hf'.defers]
    exact leavesM ms' hf' hq

end Go.Proofs.YteeepkimnpabiaaDoor
