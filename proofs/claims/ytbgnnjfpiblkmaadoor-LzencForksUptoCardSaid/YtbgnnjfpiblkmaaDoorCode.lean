/-
  The condition of a whole code, of a whole function, and that it serves. No program is named here.
-/
import Derived.Test.YtbgnnjfpiblkmaaDoorDraw
namespace Go.Proofs.YtbgnnjfpiblkmaaDoor
open Go
set_option linter.unusedSimpArgs false
set_option linter.unnecessarySimpa false
set_option linter.unusedSectionVars false
set_option linter.unusedVariables false

/-- A draw of the order: a count of the world goes on. -/
def pDr (w : World) (K : World → Prop) : Prop := K { w with drawn := w.drawn + 1 }

abbrev loopQ (n : Nat) (I : PT n) (m : MT n) (live : List Nat) (k : Nat) (Q : PQ) : PQ
  | .normal, ρ, w => apP n I (live.map ρ) w ∧ apM n m (live.map ρ) w < k
  | e, ρ, w => Q e ρ w

def cutW (x : PQ → Prop) (y : Env → World → Prop) (live : List Nat) (mods : Nat) (Q : PQ) (ρ : Env) : Prop :=
  ∃ I : PT live.length, x (thenE (fun ρ' w' => apP live.length I (live.map ρ') w') Q) ∧
    ∀ j : Env, allV live.length fun vs => ∀ w', apP live.length I vs w' → y (mkE ρ mods j live vs) w'

def cw [Pan] (P : Program) (H : Hints) : Code → PQ → Env → World → Prop
  | .skip, Q, ρ, w => Q .normal ρ w
  | .seq x y, Q, ρ, w => match (firstRg y).bind H.cut with
    | none => cw P H x (thenE (fun ρ' w' => cw P H y Q ρ' w') Q) ρ w
    | some (live, mods) => cutW (fun Q' => cw P H x Q' ρ w) (fun ρ' w' => cw P H y Q ρ' w') live mods Q ρ
  | .region _ ops false, Q, ρ, w => rgW P ops ops.toList ρ w fun ρ' w' => Q .normal ρ' w'
  | .region id ops true, Q, ρ, w => pDr w fun w => match H.order id with
    | [] => dw P ops ops.size (Array.replicate ops.size false) [] ρ w fun ρ' w' => Q .normal ρ' w'
    | s => dwS P ops ops.toList s [] ρ w fun ρ' w' => Q .normal ρ' w'
  | .cond c x y, Q, ρ, w => pIf (ev ρ c) (cw P H x Q ρ w) (cw P H y Q ρ w)
  | .block id c, Q, ρ, w => cw P H c (inBlockE id Q) ρ w
  | .loop c, Q, ρ, w => match (firstRg c).map H.loop with
    | some (live, mods) => ∃ (I : PT live.length) (m : MT live.length), apP live.length I (live.map ρ) w ∧
      ∀ j : Env, allV live.length fun vs => ∀ w', apP live.length I vs w' →
        cw P H c (loopQ live.length I m live (apM live.length m vs w') Q) (mkE ρ mods j live vs) w'
    | none => False
  | .exit id, Q, ρ, w => Q (.exit id) ρ w
  | .ret, Q, ρ, w => Q .ret ρ w
  | _, _, _, _ => False

/-- The codes that are served, and that no temporary beyond the frame is written. -/
def served (H : Hints) (n : Frm) : Code → Bool
  | .skip | .exit _ | .ret => true
  | .seq x y => served H n x && served H n y && (match (firstRg y).bind H.cut with
    | none => true
    | some (_, mods) => (writes x).all fun t => mods.testBit t)
  | .region _ ops false => (opWrites ops.toList).all fun t => Nat.blt t n.n && Nat.ble n.lo t
  | .region id ops true => ((opWrites ops.toList).all fun t => Nat.blt t n.n && Nat.ble n.lo t) && Region.noSelect ops && (match H.order id with
    | [] => true
    | s => okS ops ops.toList ops.toList.length s 0 && Nat.beq s.length ops.toList.length && (ops.toList.all fun o => o.after.toList.all fun e => Nat.blt e.on ops.toList.length))
  | .cond _ x y => served H n x && served H n y
  | .block _ c => served H n c
  | .loop c => served H n c && (match (firstRg c).map H.loop with
    | some (_, mods) => (writes c).all fun t => mods.testBit t
    | none => false)
  | _ => false

theorem UpQ.mono [Pan] {n : Frm} {a : Act} {ws ws' : List Nat} {Q Q' : PQ} (hw : ∀ t ∈ ws, t ∈ ws') (hq : ∀ e ρ w, Q e ρ w → Q' e ρ w) : ∀ e a' w, UpQ n a ws Q e a' w → UpQ n a ws' Q' e a' w := by
  intro e a' w h
  cases e with
  | panic c => exact h
  | outgrown => exact h
  | goto l => exact h
  | normal => exact ⟨fun t ht => h.1 t fun hm => ht (hw t hm), h.2.choose, h.2.choose_spec.1, hq _ _ _ h.2.choose_spec.2⟩
  | exit id => exact ⟨fun t ht => h.1 t fun hm => ht (hw t hm), h.2.choose, h.2.choose_spec.1, hq _ _ _ h.2.choose_spec.2⟩
  | ret => exact ⟨fun t ht => h.1 t fun hm => ht (hw t hm), h.2.choose, h.2.choose_spec.1, hq _ _ _ h.2.choose_spec.2⟩

/-- What stands behind a code, said of frames: from the frame as it was ahead of the first part. -/
theorem UpQ.next [Pan] {n : Frm} {a a₁ : Act} {ws ws' : List Nat} {Q : PQ} (hk : ∀ t, t ∉ ws → a₁.tmps.getD t undef = a.tmps.getD t undef) : ∀ e a' w, UpQ n a₁ ws' Q e a' w → UpQ n a (ws ++ ws') Q e a' w := by
  intro e a' w h
  have key : ∀ t, t ∉ ws ++ ws' → (∀ t, t ∉ ws' → a'.tmps.getD t undef = a₁.tmps.getD t undef) → a'.tmps.getD t undef = a.tmps.getD t undef := by
    intro t ht h1
    simp only [List.mem_append, not_or] at ht
    rw [h1 t ht.2, hk t ht.1]
  cases e with
  | panic c => exact h
  | outgrown => exact h
  | goto l => exact h
  | normal => exact ⟨fun t ht => key t ht h.1, h.2⟩
  | exit id => exact ⟨fun t ht => key t ht h.1, h.2⟩
  | ret => exact ⟨fun t ht => key t ht h.1, h.2⟩

theorem cw_wp [Pan] {P : Program} (hm : P.follows .mixedOrders = true) {H : Hints} {n : Frm} (c : Code) : ∀ {Q : PQ} {ρ : Env} {w : World} {a : Act},
    served H n c = true → Fits n a ρ → cw P H c Q ρ w → c.wp P (UpQ n a (writes c) Q) a w := by
  induction c with
  | skip => intro Q ρ w a _ hf h; exact wp_skip ⟨fun _ _ => rfl, ρ, hf, h⟩
  | exit id => intro Q ρ w a _ hf h; exact wp_exit ⟨fun _ _ => rfl, ρ, hf, h⟩
  | ret => intro Q ρ w a _ hf h; exact wp_ret ⟨fun _ _ => rfl, ρ, hf, h⟩
  | region id ops draw =>
    intro Q ρ w a hs hf h
    cases draw with
    | true =>
      simp only [served, Bool.and_eq_true] at hs
      obtain ⟨⟨hs1, hs2⟩, hs3⟩ := hs
      simp only [List.all_eq_true] at hs1
      simp only [cw, pDr] at h
      refine wp_region_any hm (wpAny_of_T _ _ [] _ _ ?_)
      have hcl : Clo ops (Array.replicate ops.size false) := by
        intro j o ho hl
        have hlt := (Array.getElem?_eq_some_iff.1 ho).1
        simp [hlt] at hl
      have hlt : ∀ t ∈ opWrites ops.toList, n.lo ≤ t ∧ t < n.n := fun t ht => by
        have := hs1 t ht
        simp only [Bool.and_eq_true, Nat.blt_eq, Nat.ble_eq] at this
        exact ⟨this.2, this.1⟩
      cases ho : H.order id with
      | nil =>
        rw [ho] at h
        exact dw_any (P := P) hs2 hlt (Q := UpQ n a (writes (.region id ops true)) Q) (fun c a w => Iff.rfl) a
          (fun a' ρ' w' hk hf' hq => ⟨hk, ρ', hf', hq⟩) ops.size _ [] ρ a _ hcl hf (fun _ _ => rfl) (fun p hp => by cases hp) h
      | cons p r =>
        rw [ho] at h hs3
        simp only [Bool.and_eq_true] at hs3
        obtain ⟨⟨hok, hlen⟩, hed⟩ := hs3
        have hlen := Nat.eq_of_beq_eq_true hlen
        simp only [Array.length_toList] at hok hlen hed
        have hb : ∀ (j : Nat) (o : Oper), ops[j]? = some o → ∀ e ∈ o.after, Region.binds .any e = true → e.on < ops.size := by
          intro j o hj e he _
          simp only [List.all_eq_true] at hed
          have := hed o (by simpa using Array.mem_of_getElem? hj) e (by simpa using he)
          simpa [Nat.blt_eq] using this
        have hrel : RelM ops.size 0 (Array.replicate ops.size false) := ⟨by simp, fun j hj => by simp [hj]⟩
        have H := dwS_any (P := P) hs2 hlt hb (Q := UpQ n a (writes (.region id ops true)) Q) (fun c a w => Iff.rfl) a
          (fun a' ρ' w' hk hf' hq => ⟨hk, ρ', hf', hq⟩) (p :: r) 0 _ [] ρ a _ hrel hok hcl hf (fun _ _ => rfl) (fun p hp => by cases hp) h
        rw [hlen] at H
        exact H
    | false =>
      refine wp_region_list (rgW_wp (n := n) ops.toList (fun c a w h => h) ?_ hf h fun a' ρ' w' hk hf' hq => ⟨hk, ρ', hf', hq⟩)
      intro t ht
      simp only [served, List.all_eq_true] at hs
      have := hs t ht
      simp only [Bool.and_eq_true, Nat.blt_eq, Nat.ble_eq] at this
      exact ⟨this.2, this.1⟩
  | seq x y ihx ihy =>
    intro Q ρ w a hs hf h
    simp only [served, Bool.and_eq_true] at hs
    simp only [cw] at h
    refine wp_seq ?_
    split at h
    · have hs := hs.1
      refine wp_mono (ihx hs.1 hf h) fun e a' w' hq => ?_
      cases e with
      | panic c => exact hq
      | outgrown => exact hq.elim
      | goto l => exact hq.elim
      | normal =>
        obtain ⟨hk, ρ', hf', hq'⟩ := hq
        exact wp_mono (ihy hs.2 hf' hq') (UpQ.next hk)
      | exit id => exact UpQ.mono (ws := writes x) (Q := Q) (by simp [writes]; intro t ht; exact .inl ht) (fun _ _ _ h => h) (.exit id) a' w' hq
      | ret => exact UpQ.mono (ws := writes x) (Q := Q) (by simp [writes]; intro t ht; exact .inl ht) (fun _ _ _ h => h) .ret a' w' hq
    · rename_i live mods hcut
      have hmods : ∀ t, mods.testBit t = false → t ∉ writes x := by
        have := hs.2
        rw [hcut] at this
        simp only [List.all_eq_true] at this
        intro t ht hm
        rw [this t hm] at ht; cases ht
      have hs := hs.1
      obtain ⟨I, hx, hy⟩ := h
      refine wp_mono (ihx hs.1 hf hx) fun e a' w' hq => ?_
      cases e with
      | panic c => exact hq
      | outgrown => exact hq.elim
      | goto l => exact hq.elim
      | normal =>
        obtain ⟨hk, ρ', hf', hq'⟩ := hq
        have hy' := allV_get (hy ρ') (live.map ρ') (by simp) w' hq'
        have hm : mkE ρ mods ρ' live (live.map ρ') = ρ' := mkE_self ρ ρ' _ (fun t ht => by rw [← hf'.get t, hk t (hmods t ht), hf.get t]) live
        dsimp only at hy'
        rw [hm] at hy'
        exact wp_mono (ihy hs.2 hf' hy') (UpQ.next hk)
      | exit id => exact UpQ.mono (ws := writes x) (Q := Q) (by simp [writes]; intro t ht; exact .inl ht) (fun _ _ _ h => h) (.exit id) a' w' hq
      | ret => exact UpQ.mono (ws := writes x) (Q := Q) (by simp [writes]; intro t ht; exact .inl ht) (fun _ _ _ h => h) .ret a' w' hq
  | cond c x y ihx ihy =>
    intro Q ρ w a hs hf h
    simp only [served, Bool.and_eq_true] at hs
    simp only [cw] at h
    have hc : a.eval c = ev ρ c := by rw [hf.eval]
    unfold pIf at h
    split at h
    · rename_i hv
      exact wp_cond_true (hc.trans hv) (wp_mono (ihx hs.1 hf h) (UpQ.mono (by simp [writes]; intro t ht; exact .inl ht) (fun _ _ _ h => h)))
    · rename_i hv
      exact wp_cond_false (hc.trans hv) (wp_mono (ihy hs.2 hf h) (UpQ.mono (by simp [writes]; intro t ht; exact .inr ht) (fun _ _ _ h => h)))
    · exact h.elim
  | block id c ih =>
    intro Q ρ w a hs hf h
    simp only [served] at hs
    simp only [cw] at h
    refine wp_block (wp_mono (ih hs hf h) fun e a' w' hq => ?_)
    cases e with
    | panic c => exact hq
    | outgrown => exact hq.elim
    | goto l => exact hq.elim
    | normal => exact hq
    | ret => exact hq
    | exit k =>
      obtain ⟨hk, ρ', hf', hq'⟩ := hq
      simp only [inBlockE] at hq'
      simp only [Exit.inBlock]
      split
      · rename_i e; rw [if_pos e] at hq'; exact ⟨hk, ρ', hf', hq'⟩
      · rename_i e; rw [if_neg e] at hq'; exact ⟨hk, ρ', hf', hq'⟩
  | loop c ih =>
    intro Q ρ w a hs hf h
    simp only [served, Bool.and_eq_true] at hs
    simp only [cw] at h
    obtain ⟨hs, hmm⟩ := hs
    split at h
    rotate_left
    · exact h.elim
    rename_i live mods hlm
    rw [hlm] at hmm
    simp only [List.all_eq_true] at hmm
    have hmods : ∀ t, mods.testBit t = false → t ∉ writes c := by
      intro t ht hm
      rw [hmm t hm] at ht; cases ht
    obtain ⟨I, m, h0, hstep⟩ := h
    refine wp_loop (fun a' w' => (∀ t, t ∉ writes c → a'.tmps.getD t undef = a.tmps.getD t undef) ∧ a'.tmps.size = n.n ∧ a'.defers = n.ds ∧ (∀ t, t < n.lo → a'.tmps.getD t undef = n.base t) ∧ apP live.length I (live.map fun t => a'.tmps.getD t undef) w')
      (fun a' w' => apM live.length m (live.map fun t => a'.tmps.getD t undef) w') ⟨fun _ _ => rfl, hf.size, hf.defers, fun t ht => (hf.get t).trans (hf.low t ht), ?_⟩ ?_
    · have e : (fun t => a.tmps.getD t undef) = ρ := funext hf.get
      rw [e]; exact h0
    · intro a₁ w₁ ⟨hk, hsz, hdf, hlow, hI⟩
      have hf₁ : Fits n a₁ (fun t => a₁.tmps.getD t undef) := ⟨hsz, hdf, fun _ => rfl, hlow⟩
      have hs' := allV_get (hstep fun t => a₁.tmps.getD t undef) (live.map fun t => a₁.tmps.getD t undef) (by simp) w₁ hI
      rw [mkE_self ρ _ _ (fun t ht => by rw [hk t (hmods t ht), hf.get t]) live] at hs'
      refine wp_mono (ih hs hf₁ hs') fun e a' w' hq => ?_
      cases e with
      | panic c => exact hq
      | outgrown => exact hq.elim
      | goto l => exact hq.elim
      | normal =>
        obtain ⟨hk', ρ', hf', hq'⟩ := hq
        have e : (fun t => a'.tmps.getD t undef) = ρ' := funext hf'.get
        refine ⟨⟨fun t ht => (hk' t ht).trans (hk t ht), hf'.size, hf'.defers, fun t ht => (hf'.get t).trans (hf'.low t ht), ?_⟩, ?_⟩
        · rw [e]; exact hq'.1
        · rw [e]; exact hq'.2
      | exit k => exact ⟨fun t ht => (hq.1 t ht).trans (hk t ht), hq.2⟩
      | ret => exact ⟨fun t ht => (hq.1 t ht).trans (hk t ht), hq.2⟩
  | rangeFunc f ps asg body => intro Q ρ w a hs; simp [served] at hs
  | scope c => intro Q ρ w a hs; simp [served] at hs
  | label l => intro Q ρ w a hs; simp [served] at hs
  | goto l => intro Q ρ w a hs; simp [served] at hs
  | refuse s => intro Q ρ w a hs; simp [served] at hs

/-! ### A whole function -/

def argsE : List Value → Env
  | [] => fun _ => undef
  | v :: r => fun t => match t with
    | 0 => v
    | t + 1 => argsE r t

def fin : List Value → Value
  | [v] => v
  | vs => .tuple vs.toArray

def oRes (t : TypeId) (a : Value) : Sem Next := oV (do loadVar t (← asAddr a))

def resW (P : Program) : List ResultVar → List Value → Env → World → (Value → World → Prop) → Prop
  | [], acc, _, w, K => K (fin acc) w
  | .tmp t :: r, acc, ρ, w, K => resW P r (acc ++ [ρ t]) ρ w K
  | .cell a t :: r, acc, ρ, w, K => pL P (oRes t (ρ a)) w fun v => resW P r (acc ++ [v]) ρ w K

abbrev endQ (P : Program) (rs : List ResultVar) (K : Value → World → Prop) : PQ
  | .normal, ρ, w => resW P rs [] ρ w K
  | .ret, ρ, w => resW P rs [] ρ w K
  | _, _, _ => False

def one (ρ : Env) : ResultVar → Sem Value
  | .tmp t => pure (ρ t)
  | .cell a t => do loadVar t (← asAddr (ρ a))

theorem resW_run {P : Program} {ρ : Env} {w : World} {K : Value → World → Prop} (rs : List ResultVar) : ∀ (acc : List Value), resW P rs acc ρ w K →
    ∃ vs, (rs.mapM (one ρ)).run P w = .ok vs w ∧ K (fin (acc ++ vs)) w := by
  induction rs with
  | nil => intro acc h; exact ⟨[], rfl, by simpa [resW] using h⟩
  | cons r rs ih =>
    intro acc h
    cases r with
    | tmp t =>
      obtain ⟨vs, hr, hK⟩ := ih _ h
      refine ⟨ρ t :: vs, ?_, by simpa using hK⟩
      rw [List.mapM_cons]
      simp only [one, pure_bind, Sem.run_bind, hr, Result.andThen_ok]
      rfl
    | cell a t =>
      obtain ⟨v, hv, h⟩ := h
      obtain ⟨vs, hr, hK⟩ := ih _ h
      refine ⟨v :: vs, ?_, by simpa using hK⟩
      rw [List.mapM_cons]
      have hv' : (one ρ (.cell a t)).run P w = .ok v w := by
        simp only [oRes, oV] at hv
        rw [Sem.run_bind] at hv
        simp only [one]
        revert hv
        generalize (do loadVar t (← asAddr (ρ a)) : Sem Value).run P w = r
        intro hv
        cases r with
        | ok x w' =>
          simp only [Result.andThen_ok] at hv
          have hv2 : (Result.ok (Next.value x) w' : Result Next) = .ok (.value v) w := hv
          cases hv2
          rfl
        | halt x w' => simp [Result.andThen] at hv
      simp only [Sem.run_bind, hv', hr, Result.andThen_ok]
      rfl

theorem results_one {n : Frm} {a : Act} {ρ : Env} (hf : Fits n a ρ) (fn : Func) (w : World) (P : Program) (vs : List Value) (h : (fn.results.toList.mapM (one ρ)).run P w = .ok vs w) :
    (results fn a.tmps).run P w = .ok (fin vs) w := by
  have e : (fun r : ResultVar => (match r with
      | .tmp t => pure (a.tmps.getD t undef)
      | .cell x t => do loadVar t (← asAddr (a.tmps.getD x undef)) : Sem Value)) = one ρ := by
    funext r
    cases r with
    | tmp t => simp only [one, hf.get t]
    | cell x t => simp only [one, hf.get x]
  have e2 : results fn a.tmps = (do
      let vs ← fn.results.mapM (fun r : ResultVar => (match r with
      | .tmp t => pure (a.tmps.getD t undef)
      | .cell x t => do loadVar t (← asAddr (a.tmps.getD x undef)) : Sem Value))
      pure (if h : vs.size = 1 then vs[0] else .tuple vs)) := rfl
  rw [e2, e]
  rw [Array.mapM_eq_mapM_toList]
  simp only [Sem.run_bind, map_eq_pure_bind, bind_assoc, pure_bind, h, Result.andThen_ok]
  show Result.ok (if h : vs.toArray.size = 1 then vs.toArray[0] else .tuple vs.toArray) w = _
  congr 1
  match vs with
  | [] => rfl
  | [v] => rfl
  | v :: u :: r => simp [fin]

/-- A frame as it is entered. -/
abbrev Frm.new (n : Nat) : Frm := ⟨n, 0, [], fun _ => undef⟩

theorem fits_new (n : Nat) (args : List Value) (ha : args.length ≤ n) : Fits (Frm.new n) { tmps := args.toArray ++ Array.replicate (n - args.toArray.size) undef, defers := [] } (argsE args) := by
  refine ⟨by simp; omega, rfl, fun t => ?_, fun t ht => absurd ht (Nat.not_lt_zero t)⟩
  have key : ∀ (l : List Value) (k t : Nat), (l ++ List.replicate k undef)[t]?.getD undef = argsE l t := by
    intro l
    induction l with
    | nil => intro k t; simp only [List.nil_append, argsE, List.getElem?_replicate]; split <;> rfl
    | cons v r ih =>
      intro k t
      cases t with
      | zero => simp [argsE]
      | succ t => simpa [argsE] using ih k t
  have := key args (n - args.length) t
  rw [← this]
  simp only [Array.getD_eq_getD_getElem?]
  congr 1
  rw [← Array.getElem?_toList]
  simp

theorem calls_of_cw [Pan] {P : Program} (hm : P.follows .mixedOrders = true) {H : Hints} {f : FuncId} {fn : Func} {c : Code} {args : List Value} {w : World} {K : Value → World → Prop}
    (hfn : P.funcs[f]? = some fn) (hb : fn.body = some c) (hs : served H (Frm.new fn.ntmps) c = true) (ha : args.length ≤ fn.ntmps)
    (h : cw P H c (endQ P fn.results.toList K) (argsE args) w) : Calls P f args.toArray w (retP K) := by
  refine calls_of_wp hfn hb ?_
  have hf := fits_new fn.ntmps args ha
  refine wp_mono (cw_wp hm c hs hf h) fun e a' w' hq => ?_
  cases e with
  | panic c => exact ⟨hq.defers, hq.z⟩
  | outgrown => exact hq.elim
  | goto l => exact hq.elim
  | exit id => obtain ⟨_, ρ', _, hq⟩ := hq; exact hq.elim
  | normal =>
    obtain ⟨_, ρ', hf', hq⟩ := hq
    obtain ⟨vs, hr, hK⟩ := resW_run _ _ hq
    exact ⟨hf'.defers, _, results_one hf' fn w' P vs hr, by simpa [retP] using hK⟩
  | ret =>
    obtain ⟨_, ρ', hf', hq⟩ := hq
    obtain ⟨vs, hr, hK⟩ := resW_run _ _ hq
    exact ⟨hf'.defers, _, results_one hf' fn w' P vs hr, by simpa [retP] using hK⟩

end Go.Proofs.YtbgnnjfpiblkmaaDoor
