/-
  Texts of one proof, one behind the other: RndS, TarI, TarJ, TarQ, TarV, TarB, TarA, TarE, LfPithref33, TarX, TarY, TarZ.
-/
import Derived.Test.YteeepkimnpabiaaDoorRows
import Derived.Test.YteeepkimnpabiaaDoorMg4
namespace Go.Proofs.YteeepkimnpabiaaDoor
open Go
set_option linter.unusedSimpArgs false
set_option linter.unnecessarySimpa false
set_option linter.unusedSectionVars false
set_option linter.unusedVariables false

/-- A loop's record; a mark. -/
def lpB (l : Nat) (rc : Loop) : HA := blk l (.loop rc)
def mark (r : Nat) : HA := blk r (.deferred (some []))
abbrev ylV (l : Nat) : Value := .func (.yield l) #[] #[]

section
variable {P : Program} {E w w' : World} {L M : List HA} {l r : Nat} {rc : Loop} {K : World → Prop} {KV : Value → World → Prop} {ms : List Nat}

theorem Sat.put_blk {b : Nat} {o o' : Obj} (hS : Sat E w (blk b o :: L)) : Sat E (w.putObj b o') (blk b o' :: L) := by
  refine hS.turn rfl rfl rfl fun h1 hA s => ?_
  have hb := s b o hA
  have hlt : b < w.heap.size := (Array.getElem?_eq_some_iff.1 hb).1
  refine ⟨fun k => if k = b then some o' else h1 k, by simp [blk], ?_, ?_⟩
  · intro k o ek
    dsimp only at ek
    split at ek
    · rename_i hkb; subst hkb; cases ek; exact World.putObj_heap_same hlt
    · rename_i hkb; rw [World.putObj_heap_other hkb]; exact s k o ek
  · intro k o ek hn
    have hkb : k ≠ b := fun e => by subst e; rw [hA] at hn; cases hn
    dsimp only
    rw [if_neg hkb, World.putObj_heap_other hkb]
    exact ⟨ek, hn⟩

theorem lpB_at (hS : Sat E w L) [h : Fnd (lpB l) L rc M] : w.heap[l]? = some (.loop rc) := (hS.fd (lpB l)).blk_at 0 rfl

theorem bg_go (hS : Sat E w L) [h : Fnd (lpB l) L rc M] (hk : ∀ w', Sat E w' (lpB l (busyOf rc) :: M) → K w') : bgW l rc w K :=
  ⟨lpB_at hS, hk _ (Sat.put_blk (hS.fd (lpB l)))⟩
theorem en_none (hS : Sat E w L) [h : Fnd (lpB l) L (busyOf rc) M] (hk : ∀ w', Sat E w' (lpB l rc :: M) → KV (.bool true) w') : enW l rc none KV w :=
  ⟨lpB_at hS, hk _ (Sat.put_blk (hS.fd (lpB l)))⟩
theorem en_some (hS : Sat E w L) {c : Code} [h : Fnd (lpB l) L (busyOf rc) M] (hk : ∀ w', Sat E w' (lpB l (leftBy rc c) :: M) → KV (.bool false) w') : enW l rc (some c) KV w :=
  ⟨lpB_at hS, hk _ (Sat.put_blk (hS.fd (lpB l)))⟩
theorem mk_nil (hk : K w) : mkW [] w K := hk
theorem mk_go (hS : Sat E w L) [h : Has (mark r) L M] (hk : ∀ w', Sat E w' M → mkW ms w' K) : mkW (r :: ms) w K := by
  have h1 : Sat E w (mark r :: M) := hS.perm h.perm
  exact ⟨h1.blk_at 0 rfl, hk _ (Sat.put_blk h1).drop⟩

section
variable {N R : List Nat → World → Prop} {X : LX}
theorem jmp_n (hS : Sat E w L) [h : Fnd (lpB l) L rc M] (hst : rc.state = .ready) (hp : rc.pending = none) (hk : ∀ w', Sat E w' M → N ms w') : jmpW l ms N R X w := by
  refine ⟨rc, lpB_at hS, by rw [hst]; simp, ?_⟩
  rw [hp]
  exact hk _ (Sat.put_blk (hS.fd (lpB l))).drop
theorem jmp_r (hS : Sat E w L) [h : Fnd (lpB l) L (leftBy rc .ret) M] (hk : ∀ w', Sat E w' M → R ms w') : jmpW l ms N R X w :=
  ⟨_, lpB_at hS, by simp [leftBy], hk _ (Sat.put_blk (hS.fd (lpB l))).drop⟩
theorem jmp_x (hS : Sat E w L) {id : Nat} [h : Fnd (lpB l) L (leftBy rc (.exit id)) M] (hk : ∀ w', Sat E w' M → jx X id ms w') : jmpW l ms N R X w :=
  ⟨_, lpB_at hS, by simp [leftBy], hk _ (Sat.put_blk (hS.fd (lpB l))).drop⟩

/-- What a call of yield comes to. -/
def YR (P : Program) (l : Nat) (rc : Loop) (np : Nat) (B : Nat → Loop → List Value → World → (Value → World → Prop) → Prop) : Prop :=
  ∀ (Z : Pan) (args : List Value) (w' : World) (K : Value → World → Prop), args.length = np → w'.heap[l]? = some (.loop rc) → B l rc args w' K → @pY Z P (oCallV (ylV l) args) w' K
theorem YR.go {np : Nat} {B : Nat → Loop → List Value → World → (Value → World → Prop) → Prop} {args : List Value} [Z : Pan] (h : YR P l rc np B) (hS : Sat E w L) [hf : Fnd (lpB l) L rc M] (hn : args.length = np) (hB : B l rc args w KV) : pY P (oCallV (ylV l) args) w KV :=
  h Z args w KV hn (lpB_at hS) hB

variable {g : Value} {np : Nat} {B : Nat → Loop → List Value → World → (Value → World → Prop) → Prop}
/-- A range over a function, outermost. -/
theorem rf_go (hS : Sat E w L) (hk : ∀ (l D : Nat) (rc : Loop) (w' : World), rc.state = .ready → rc.pending = none → Sat E w' (lpB l rc :: mark D :: L) → YR P l rc np B → pE P (oCallV g [ylV l]) w' fun _ w₂ => jmpW l (D :: ms) N R X w₂) :
    rfW P none ms w g np B N R X := by
  intro rc h1 h2 hy
  have hs1 := (hS.alloc (.deferred (some []))).alloc (.loop rc)
  rw [World.size_alloc] at hs1
  exact hk _ _ rc _ h1 h2 hs1 hy
/-- In a round. -/
theorem rf_in {l₀ : Nat} {rc₀ : Loop} (hS : Sat E w L) [h : Fnd (lpB l₀) L rc₀ M] (hk : ∀ (l : Nat) (rc : Loop) (w' : World), rc.state = .ready → rc.pending = none → Sat E w' (lpB l rc :: L) → YR P l rc np B → pE P (oCallV g [ylV l]) w' fun _ w₂ => jmpW l ms N R X w₂) :
    rfW P (some l₀) ms w g np B N R X := by
  refine ⟨⟨_, lpB_at hS⟩, fun rc h1 h2 hy => ?_⟩
  exact hk _ rc _ h1 h2 (hS.alloc (.loop rc)) hy
end

/-- The function that is ranged over is a closure. -/
theorem pE_fn {f : FuncId} {cap : List Value} {y : Value} {Q : Value → World → Prop} (hc : ∀ (args : Array Value) (w : World), (callFunc f args).run P w = .ok (.enter f args) w)
    (h : Calls P f (y :: cap).toArray w (@retP Pan.no Q)) : pE P (oCallV (.func (.func f) #[] cap.toArray) [y]) w Q := by
  refine ⟨f, (y :: cap).toArray, ?_, h⟩
  have e : oCallV (.func (.func f) #[] cap.toArray) [y] = callFunc f ((#[] ++ #[y]) ++ cap.toArray) := rfl
  rw [e, hc]
  simp
theorem pY_mono [Pan] {m : Sem Next} {KV' : Value → World → Prop} (h : pY P m w KV) (hk : ∀ v w, KV v w → KV' v w) : pY P m w KV' := by
  have hr : ∀ (e : Ending) (w' : World), retP KV e w' → retP KV' e w' := fun e w' he => by
    cases e with
    | returned v => exact hk _ _ he
    | panicked c => exact he
    | outgrown => exact he
  unfold pY rY at *
  split
  · rename_i heq
    rw [heq] at h
    exact RoundIn.mono h hr
  · rename_i hn
    have h2 : rN P (m.run P w) KV := by
      split at h
      · rename_i heq; exact absurd heq (hn _ _ _ _ _ _)
      · exact h
    unfold rN at *
    split at h2
    · exact hk _ _ h2
    · exact hk _ _ h2
    · exact Calls.mono h2 hr
    · exact h2
    · exact h2.elim
/-- pN behind an operation that might have been a call of yield. -/
theorem pY_via [Pan] {m : Sem Next} (h : pN P m w KV) : pY P m w KV := pY_of h
end
end Go.Proofs.YteeepkimnpabiaaDoor

namespace Go.Proofs.YteeepkimnpabiaaDoor
open Go
set_option linter.unusedSimpArgs false
set_option linter.unnecessarySimpa false
set_option linter.unusedSectionVars false
set_option linter.unusedVariables false

def slN : Value → Nat
  | .slice _ n _ => n
  | _ => 0
namespace A
/-- Does an item stand there? -/
def goes (l : List UInt8) : Prop := 512 ≤ l.length ∧ ¬ Zs (l.take 512)
instance (l : List UInt8) : Decidable (goes l) := inferInstanceAs (Decidable (_ ∧ _))
def endE (l : List UInt8) : Int := if l.length < 1024 then 1 else if 1024 < l.length ∨ ¬ Zs l then 2 else 0
/-- An archive: where each item begins; the error at the end. -/
def arch (l : List UInt8) : List (List UInt8) × Int :=
  if h : goes l then (if getE l = 0 then (l :: (arch (l.drop (getN l))).1, (arch (l.drop (getN l))).2) else ([], getE l)) else ([], endE l)
termination_by l.length
decreasing_by all_goals (have := h.1; rw [List.length_drop, getN]; omega)
theorem arch_no {l : List UInt8} (h : ¬ goes l) : arch l = ([], endE l) := by rw [arch, dif_neg h]
theorem arch_err {l : List UInt8} (h : goes l) (he : getE l ≠ 0) : arch l = ([], getE l) := by rw [arch, dif_pos h, if_neg he]
theorem arch_go {l : List UInt8} (h : goes l) (he : getE l = 0) : arch l = (l :: (arch (l.drop (getN l))).1, (arch (l.drop (getN l))).2) := by rw [arch, dif_pos h, if_pos he]
theorem getN_le {l : List UInt8} (h : getE l = 0) : 512 ≤ l.length ∧ getN l ≤ l.length ∧ 512 ≤ getN l := by
  unfold getE at h
  split at h
  · omega
  · rename_i h1
    split at h
    · omega
    · unfold getE2 at h
      split at h
      · omega
      · split at h
        · omega
        · unfold getN
          omega
theorem getE_cases (l : List UInt8) : getE l = 0 ∨ getE l = 1 ∨ getE l = 2 ∨ getE l = 3 := by
  unfold getE getE2
  repeat' split
  all_goals simp
end A

attribute [local irreducible] oMv oV oU oCall oCallV oBi oBin oUn oLoad oStore oNil oFld oField oIdx oIndex oPick oAlloc oBox oBuild oBs oConv oMk oSl oExt oFn oIface oMap oLook oMapUp oRange oNext oAssert oPanic oRes pN pA pL pDr pIf gA pGd Calls A.made A.header A.oct A.wrong A.padn A.putB A.fS A.num A.text A.readTo A.getE A.getX A.getL mkW bgW enW rfW jmpW pY pE
section
variable {E w : World} {K Q : Value → World → Prop} {L M : List HA} {l r : List UInt8} {s s2 : Sl}

set_option maxHeartbeats 4000000 in
/-- One after the other, whatever is done with each. -/
theorem Items_c1_ok {yl : Value} {cb : Nat} (B : Nat → List HA → Prop) (Bx : List HA → Prop) (hB0 : B 0 L) (hS : Sat E w L) [hc : Fnd (cel cb) L ⟨22, [.slice s.a l.length s.c]⟩ M]
    (hrd : ∀ k L, B k L → Rds cd_uint8 L s l) (hl : l.length ≤ 140737488355328)
    (hY : ∀ (R : HA) (k : Nat) (m : List UInt8) (L : List HA) (s : Sl) (w : World), (A.arch l).1[k]? = some m → B k L → Sat E w (R :: rows cd_uint8 s (A.getL m) :: L) →
      pY Tryd.prog (oCallV yl [.agg (A.getX m s).enc.toArray, .int .i64 0]) w fun v w' => (v = .bool true ∧ ∃ L', B (k + 1) L' ∧ Sat E w' (R :: L')) ∨ (v = .bool false ∧ ∃ L', Bx L' ∧ Sat E w' (R :: L')))
    (hE : ∀ (R : HA) (L : List HA) (w : World), (A.arch l).2 ≠ 0 → B (A.arch l).1.length L → Sat E w (R :: L) →
      pY Tryd.prog (oCallV yl [.agg T_api_Item.zero.enc.toArray, .int .i64 (A.arch l).2]) w fun v w' => ∃ b : Bool, v = .bool b ∧ ∃ L', Bx L' ∧ Sat E w' (R :: L'))
    (hQ1 : (A.arch l).2 = 0 → ∀ L w, B (A.arch l).1.length L → Sat E w L → Q (.tuple #[]) w) (hQ2 : ∀ L w, Bx L → Sat E w L → Q (.tuple #[]) w) :
    Calls Tryd.prog 42 #[yl, .pointer (some ⟨cb, 0, none⟩)] w (retP Q) := by
  obtain ⟨al, ae, hal⟩ : ∃ al ae, A.arch l = (al, ae) := ⟨_, _, rfl⟩
  have hal1 : al = (A.arch l).1 := by rw [hal]
  have hal2 : ae = (A.arch l).2 := by rw [hal]
  rw [hal] at hY hE hQ1
  dsimp only at hY hE hQ1
  refine tar_Items_c1R.calls ?_
  unfold tar_Items_c1R.F
  haveI hr := hrd 0 L hB0
  repeat' (first | refine pN_l hS (by first | rfl | assumption) ?_ | fail)
  refine ⟨fun ms v w => ms = [] ∧ ∃ (s1 : Sl) (m : List UInt8) (pre : List (List UInt8)) (L : List HA), v = .slice s1.a m.length s1.c ∧ (∀ L, Rds cd_uint8 L s l → Rds cd_uint8 L s1 m) ∧ m.length ≤ 140737488355328 ∧ B pre.length L ∧ Sat E w L ∧ al = pre ++ (A.arch m).1 ∧ ae = (A.arch m).2,
    fun v _ => slN v, ⟨rfl, s, l, [], L, rfl, fun _ h => h, hl, hB0, hS, hal1, hal2⟩, ?_⟩
  clear hS hr hB0 hc hal hal1 hal2
  rintro _ _ _ w ⟨rfl, s1, m, pre, L, rfl, hp, hm, hB, hS, ha, he⟩
  haveI hr : Rds cd_uint8 L s1 m := hp L (hrd _ _ hB)
  by_cases hg : A.goes m
  · have hm5 := hg.1
    have hlt : (m.take 512).length = 512 := by rw [List.length_take]; omega
    have hnz := hg.2
    repeat' (first | (refine pN_geq_s ?_ ?_ <;> intro hc <;> try (exfalso; omega)) | refine pGd_go (by rfl) ?_ | refine pN_via (by (intro K; simp (disch := omega) only [go_sem, pN_min, pN_max, w_u32, w_u64, Option.isNone_some, Option.isNone_none]; (try simp only [wrap_u32, wrap_u64]); rfl)) ?_ | fail)
    refine pN_slhw (C := cd_uint8) (s := s1) (l := m) hS 512 rfl rfl (by omega) ?_
    intro hp5
    repeat' (first | refine pGd_go (by rfl) ?_ | fail)
    refine pc_tar_zero (zero_n hlt.symm hS hp5 ?_)
    rw [decide_eq_false hnz]
    repeat' (first | refine pIf_t ?_ | refine pGd_go (by rfl) ?_ | refine pN_via (by (intro K; simp (disch := omega) only [go_sem, pN_min, pN_max, w_u32, w_u64, Option.isNone_some, Option.isNone_none]; (try simp only [wrap_u32, wrap_u64]); rfl)) ?_ | fail)
    refine pc_tar_Get (Get_ok (s := s1) (l := m) hS hm (fun hne w hS => ?_) fun h0 s2 w hS => ?_)
    · have har := A.arch_err hg hne
      rw [har] at ha he
      rw [List.append_nil] at ha
      have he : ae = A.getE m := he
      have hlen : al.length = pre.length := by rw [ha]
      rw [← he] at hne ⊢
      rw [← hlen] at hB
      repeat' (first | refine pN_la hS (by rfl) ?_ | (refine pN_sa hS (by rfl) (by rfl) (by rfl) ?_; clear hS; intro w hS; try dsimp only at hS) | (refine pN_nz hS ?_; clear hS; intro a w hS) | refine pN_via (by (intro K; simp (disch := omega) only [go_sem, pN_min, pN_max, w_u32, w_u64, Option.isNone_some, Option.isNone_none]; (try simp only [wrap_u32, wrap_u64]); rfl)) ?_ | fail)
      refine pY_mono (hE _ L w hne hB hS) ?_
      clear hS
      rintro _ w ⟨b, rfl, L', hX, hS⟩
      have hS : Sat E w L' := hS.drop
      cases b
      all_goals
        repeat' (first | refine mk_nil ?_ | (refine pN_neq_s ?_ ?_ <;> intro hc <;> try (exfalso; first | omega | exact hc rfl | exact hc (by assumption) | exact absurd hc (by assumption))) | refine pIf_t ?_ | refine pGd_go (by rfl) ?_ | refine pGd_no (by rfl) ?_ | refine pN_via (by (intro K; simp (disch := omega) only [go_sem, pN_min, pN_max, w_u32, w_u64, Option.isNone_some, Option.isNone_none]; (try simp only [wrap_u32, wrap_u64]); rfl)) ?_ | fail)
        exact hQ2 _ _ hX hS
    · have har := A.arch_go hg h0
      obtain ⟨_, hn1, hn2⟩ := A.getN_le h0
      rw [har] at ha he
      have he : ae = (A.arch (m.drop (A.getN m))).2 := he
      have hk : al[pre.length]? = some m := by rw [ha]; simp
      have hgx : (A.getX m s2).enc = [.string ⟨(A.getX m s2).Name.toArray⟩, .string ⟨(A.getX m s2).Link.toArray⟩, .int .i64 (A.getX m s2).Kind, .int .i64 (A.getX m s2).Mode, .int .i64 (A.getX m s2).Time, .slice (A.getX m s2).Data.1.a (A.getX m s2).Data.2.length (A.getX m s2).Data.1.c] := rfl
      have hcn : (A.getX m s2).enc.all (·.oneCell') = true := by rw [hgx]; rfl
      have hln : (A.getX m s2).enc.length = 6 := rfl
      have hYk := fun w L => hY (cel w ⟨24, (A.getX m s2).enc⟩) pre.length m L s2
      generalize hxe : (A.getX m s2).enc = xe at *
      repeat' (first | (refine pN_nz hS ?_; clear hS; intro a w hS) | refine pN_via (by (intro K; simp (disch := omega) only [go_sem, pN_min, pN_max, w_u32, w_u64, Option.isNone_some, Option.isNone_none]; (try simp only [wrap_u32, wrap_u64]); rfl)) ?_ | fail)
      refine pN_sa (us := xe) hS hln.symm (by exact hln) hcn ?_
      clear hS
      intro w hS
      repeat' (first | refine pN_la hS (by exact hln.symm) ?_ | fail)
      refine pY_mono (hYk _ _ _ hk hB hS) ?_
      clear hS
      rintro _ w (⟨rfl, L', hB', hS⟩ | ⟨rfl, L', hX, hS⟩)
      · have hS : Sat E w L' := hS.drop
        haveI hr2 : Rds cd_uint8 L' s1 m := hp L' (hrd _ _ hB')
        repeat' (first | (refine pN_neq_s ?_ ?_ <;> intro hc <;> try (exfalso; first | omega | exact hc rfl | exact hc (by assumption) | exact absurd hc (by assumption))) | refine pIf_f ?_ | refine pGd_go (by rfl) ?_ | refine pN_via (by (intro K; simp (disch := omega) only [go_sem, pN_min, pN_max, w_u32, w_u64, Option.isNone_some, Option.isNone_none]; (try simp only [wrap_u32, wrap_u64]); rfl)) ?_ | fail)
        refine pN_sl1w (C := cd_uint8) (s := s1) (l := m) hS (A.getN m) rfl rfl hn1 ?_
        intro _
        have e : m.length - A.getN m = (m.drop (A.getN m)).length := by rw [List.length_drop]
        have hlt2 : m.length - A.getN m < m.length := by omega
        rw [e]
        refine ⟨⟨rfl, s1.sub (A.getN m) cd_uint8.size, m.drop (A.getN m), pre ++ [m], L', rfl, fun L h => ?_, by omega, by rw [List.length_append]; exact hB', hS, ha.trans (by rw [List.append_assoc]; rfl), he⟩, by show (m.drop (A.getN m)).length < m.length; omega⟩
        haveI := hp L h
        have := Rds.sub (C := cd_uint8) (L := L) (s := s1) (l := m) (A.getN m) m.length hn1 (Nat.le_refl _)
        rwa [List.take_of_length_le (by simp)] at this
      · have hS : Sat E w L' := hS.drop
        repeat' (first | refine mk_nil ?_ | refine pIf_t ?_ | refine pGd_no (by rfl) ?_ | refine pN_via (by (intro K; simp (disch := omega) only [go_sem, pN_min, pN_max, w_u32, w_u64, Option.isNone_some, Option.isNone_none]; (try simp only [wrap_u32, wrap_u64]); rfl)) ?_ | fail)
        exact hQ2 _ _ hX hS
  · have har := A.arch_no hg
    rw [har] at ha he
    rw [List.append_nil] at ha
    have he : ae = A.endE m := he
    have hlen : al.length = pre.length := by rw [ha]
    rw [← hlen] at hB
    clear ha har hY
    by_cases c1 : m.length < 1024
    · have h1 : A.endE m = 1 := by rw [A.endE, if_pos c1]
      rw [h1] at he
      subst he
      by_cases c5 : 512 ≤ m.length
      · have hz : A.Zs (m.take 512) := Decidable.not_not.1 fun h => hg ⟨c5, h⟩
        have hlt : (m.take 512).length = 512 := by rw [List.length_take]; omega
        repeat' (first | (refine pN_geq_s ?_ ?_ <;> intro hc <;> try (exfalso; omega)) | refine pGd_go (by rfl) ?_ | refine pN_via (by (intro K; simp (disch := omega) only [go_sem, pN_min, pN_max, w_u32, w_u64, Option.isNone_some, Option.isNone_none]; (try simp only [wrap_u32, wrap_u64]); rfl)) ?_ | fail)
        refine pN_slhw (C := cd_uint8) (s := s1) (l := m) hS 512 rfl rfl (by omega) ?_
        intro hp5
        repeat' (first | refine pGd_go (by rfl) ?_ | fail)
        refine pc_tar_zero (zero_n hlt.symm hS hp5 ?_)
        rw [decide_eq_true hz]
        repeat' (first | (refine pN_lss_s ?_ ?_ <;> intro hc <;> try (exfalso; omega)) | refine pIf_t ?_ | refine pIf_f ?_ | refine pGd_go (by rfl) ?_ | refine pN_via (by (intro K; simp (disch := omega) only [go_sem, pN_min, pN_max, w_u32, w_u64, Option.isNone_some, Option.isNone_none]; (try simp only [wrap_u32, wrap_u64]); rfl)) ?_ | fail)
        refine pY_mono (hE (bag []) L w (by decide) hB hS.bag_nil) ?_
        clear hS
        rintro _ w ⟨b, rfl, L', hX, hS⟩
        have hS : Sat E w L' := hS.drop
        repeat' (first | refine mk_nil ?_ | fail)
        exact hQ2 _ _ hX hS
      · repeat' (first | ((first | refine pN_lss_s ?_ ?_ | refine pN_geq_s ?_ ?_) <;> intro hc <;> try (exfalso; omega)) | refine pIf_t ?_ | refine pIf_f ?_ | refine pGd_no (by rfl) ?_ | refine pN_via (by (intro K; simp (disch := omega) only [go_sem, pN_min, pN_max, w_u32, w_u64, Option.isNone_some, Option.isNone_none]; (try simp only [wrap_u32, wrap_u64]); rfl)) ?_ | fail)
        refine pY_mono (hE (bag []) L w (by decide) hB hS.bag_nil) ?_
        clear hS
        rintro _ w ⟨b, rfl, L', hX, hS⟩
        have hS : Sat E w L' := hS.drop
        repeat' (first | refine mk_nil ?_ | fail)
        exact hQ2 _ _ hX hS
    · have c5 : 512 ≤ m.length := by omega
      have hz : A.Zs (m.take 512) := Decidable.not_not.1 fun h => hg ⟨c5, h⟩
      have hlt : (m.take 512).length = 512 := by rw [List.length_take]; omega
      repeat' (first | (refine pN_geq_s ?_ ?_ <;> intro hc <;> try (exfalso; omega)) | refine pGd_go (by rfl) ?_ | refine pN_via (by (intro K; simp (disch := omega) only [go_sem, pN_min, pN_max, w_u32, w_u64, Option.isNone_some, Option.isNone_none]; (try simp only [wrap_u32, wrap_u64]); rfl)) ?_ | fail)
      refine pN_slhw (C := cd_uint8) (s := s1) (l := m) hS 512 rfl rfl (by omega) ?_
      intro hp5
      repeat' (first | refine pGd_go (by rfl) ?_ | fail)
      refine pc_tar_zero (zero_n hlt.symm hS hp5 ?_)
      rw [decide_eq_true hz]
      by_cases c2 : 1024 < m.length
      · have h1 : A.endE m = 2 := by rw [A.endE, if_neg c1, if_pos (.inl c2)]
        rw [h1] at he
        subst he
        repeat' (first | ((first | refine pN_lss_s ?_ ?_ | refine pN_gtr_s ?_ ?_) <;> intro hc <;> try (exfalso; omega)) | refine pIf_t ?_ | refine pIf_f ?_ | refine pGd_go (by rfl) ?_ | refine pGd_no (by rfl) ?_ | refine pN_via (by (intro K; simp (disch := omega) only [go_sem, pN_min, pN_max, w_u32, w_u64, Option.isNone_some, Option.isNone_none]; (try simp only [wrap_u32, wrap_u64]); rfl)) ?_ | fail)
        refine pY_mono (hE (bag []) L w (by decide) hB hS.bag_nil) ?_
        clear hS
        rintro _ w ⟨b, rfl, L', hX, hS⟩
        have hS : Sat E w L' := hS.drop
        repeat' (first | refine mk_nil ?_ | fail)
        exact hQ2 _ _ hX hS
      · repeat' (first | ((first | refine pN_lss_s ?_ ?_ | refine pN_gtr_s ?_ ?_) <;> intro hc <;> try (exfalso; omega)) | refine pIf_f ?_ | refine pGd_go (by rfl) ?_ | refine pN_via (by (intro K; simp (disch := omega) only [go_sem, pN_min, pN_max, w_u32, w_u64, Option.isNone_some, Option.isNone_none]; (try simp only [wrap_u32, wrap_u64]); rfl)) ?_ | fail)
        refine pc_tar_zero (zero_n rfl hS hr ?_)
        by_cases c3 : A.Zs m
        · have h1 : A.endE m = 0 := by rw [A.endE, if_neg c1, if_neg (fun h => h.elim c2 fun h => h c3)]
          rw [h1] at he
          rw [decide_eq_true c3]
          repeat' (first | refine mk_nil ?_ | refine pIf_f ?_ | refine pGd_go (by rfl) ?_ | refine pN_via (by (intro K; simp (disch := omega) only [go_sem, pN_min, pN_max, w_u32, w_u64, Option.isNone_some, Option.isNone_none]; (try simp only [wrap_u32, wrap_u64]); rfl)) ?_ | fail)
          exact hQ1 he _ _ hB hS
        · have h1 : A.endE m = 2 := by rw [A.endE, if_neg c1, if_pos (.inr c3)]
          rw [h1] at he
          subst he
          rw [decide_eq_false c3]
          repeat' (first | refine pIf_t ?_ | refine pGd_go (by rfl) ?_ | refine pN_via (by (intro K; simp (disch := omega) only [go_sem, pN_min, pN_max, w_u32, w_u64, Option.isNone_some, Option.isNone_none]; (try simp only [wrap_u32, wrap_u64]); rfl)) ?_ | fail)
          refine pY_mono (hE (bag []) L w (by decide) hB hS.bag_nil) ?_
          clear hS
          rintro _ w ⟨b, rfl, L', hX, hS⟩
          have hS : Sat E w L' := hS.drop
          repeat' (first | refine mk_nil ?_ | fail)
          exact hQ2 _ _ hX hS

theorem Items_ok (hS : Sat E w M) [hr : Rds cd_uint8 M s l] (hl : l.length ≤ 140737488355328)
    (hQ : ∀ cb s w, Sat E w (cel cb ⟨22, [.slice s.a l.length s.c]⟩ :: rows cd_uint8 s l :: M) → Q (.func (.func 42) #[] #[.pointer (some ⟨cb, 0, none⟩)]) w) :
    Calls Tryd.prog 23 #[.slice s.a l.length s.c] w (retP Q) := by
  refine tar_Items.calls ?_
  unfold tar_Items.F
  repeat' (first | refine pN_l hS (by first | rfl | assumption) ?_ | (refine pN_bx hS (by rfl) ?_; clear hS; intro a w hS) | fail)
  refine pc_bytes_Clone (Clone_ok hS hl ?_)
  clear hS
  intro s2 w hS
  repeat' (first | (refine pN_s hS (by first | exact Nat.le_of_ble_eq_true rfl | assumption) (by rfl) ?_; clear hS; intro w hS; try simp only [List.set_cons_zero, List.set_cons_succ] at hS) | refine pN_fn ?_ | fail)
  exact hQ a s2 _ hS.to

end
end Go.Proofs.YteeepkimnpabiaaDoor

namespace Go.Proofs.YteeepkimnpabiaaDoor
open Go
set_option linter.unusedSimpArgs false
set_option linter.unnecessarySimpa false
set_option linter.unusedSectionVars false
set_option linter.unusedVariables false

namespace A
/-- An item without the place of its data. -/
def plain (x : T_api_Item) : T_api_Item := { x with Data := (⟨none, 0⟩, x.Data.2) }
def item (m : List UInt8) : T_api_Item := getX m ⟨none, 0⟩
theorem plain_getX (m : List UInt8) (s : Sl) : plain (getX m s) = item m := by
  simp only [plain, item, getX]
theorem arch_ind {p : List UInt8 → Prop} (h : ∀ l, (goes l → getE l = 0 → p (l.drop (getN l))) → p l) : ∀ l, p l := by
  have key : ∀ (n : Nat) (l : List UInt8), l.length ≤ n → p l := by
    intro n
    induction n with
    | zero =>
      intro l hl
      refine h l fun hg he => ?_
      have := (getN_le he).1
      omega
    | succ n ih =>
      intro l hl
      refine h l fun hg he => ih _ ?_
      have h1 := getN_le he
      have hd : (l.drop (getN l)).length = l.length - getN l := List.length_drop
      omega
  exact fun l => key l.length l (Nat.le_refl _)
theorem getX_data (m : List UInt8) (s : Sl) : (getX m s).Data = (s, getL m) := by simp only [getX]
theorem len512 (a b n : Nat) (h : a * 512 ≤ n - b) (h1 : 512 ≤ b) (h2 : b ≤ n) : (a + 1) * 512 ≤ n := by
  rw [Nat.add_mul, Nat.one_mul]
  exact Nat.le_trans (Nat.add_le_add h h1) (Nat.le_of_eq (Nat.sub_add_cancel h2))
theorem arch_len : ∀ (l : List UInt8), (arch l).1.length * 512 ≤ l.length := by
  refine arch_ind fun l ih => ?_
  by_cases hg : goes l
  · by_cases he : getE l = 0
    · have h1 := getN_le he
      have ih := ih hg he
      have hd : (l.drop (getN l)).length = l.length - getN l := List.length_drop
      rw [hd] at ih
      rw [arch_go hg he]
      exact len512 _ _ _ ih h1.2.2 h1.2.1
    · rw [arch_err hg he]
      show 0 * 512 ≤ _
      omega
  · rw [arch_no hg]
    show 0 * 512 ≤ _
    omega
theorem endE_cases (l : List UInt8) : endE l = 0 ∨ endE l = 1 ∨ endE l = 2 := by
  unfold endE
  repeat' split
  all_goals simp
theorem arch_bd : ∀ (l : List UInt8), (arch l).2 = 0 ∨ (arch l).2 = 1 ∨ (arch l).2 = 2 ∨ (arch l).2 = 3 := by
  refine arch_ind fun l ih => ?_
  by_cases hg : goes l
  · by_cases he : getE l = 0
    · rw [arch_go hg he]
      exact ih hg he
    · rw [arch_err hg he]
      exact getE_cases l
  · rw [arch_no hg]
    have := endE_cases l
    show endE l = 0 ∨ endE l = 1 ∨ endE l = 2 ∨ endE l = 3
    omega
end A

/-- The items' data, each in its own row. -/
def datas (its : List T_api_Item) : List HA := its.map fun x => rows cd_uint8 x.Data.1 x.Data.2

attribute [local irreducible] oMv oV oU oCall oCallV oBi oBin oUn oLoad oStore oNil oFld oField oIdx oIndex oPick oAlloc oBox oBuild oBs oConv oMk oSl oExt oFn oIface oMap oLook oMapUp oRange oNext oAssert oPanic oRes pN pA pL pDr pIf gA pGd Calls A.made A.header A.oct A.wrong A.padn A.putB A.fS A.num A.text A.readTo A.getE A.getX A.getL mkW bgW enW rfW jmpW pY pE
section
variable {E w : World} {K Q : Value → World → Prop} {L M : List HA} {l r : List UInt8} {s s2 : Sl}

set_option maxHeartbeats 4000000 in
theorem Read_ok (hS : Sat E w M) [hr : Rds cd_uint8 M s l] (hl : l.length ≤ 140737488355328)
    (hno : (A.arch l).2 ≠ 0 → ∀ w, Sat E w M → Q (.tuple #[.slice none 0 0, .int .i64 (A.arch l).2]) w)
    (hok : (A.arch l).2 = 0 → ∀ (sl : Sl) (its : List T_api_Item) w, its.map A.plain = (A.arch l).1.map A.item → Sat E w (rows cd_api_Item sl its :: bag (datas its) :: M) → Q (.tuple #[.slice sl.a its.length sl.c, .int .i64 0]) w) :
    Calls Tryd.prog 19 #[.slice s.a l.length s.c] w (retP Q) := by
  have hbd := A.arch_len l
  obtain ⟨al, ae, hal⟩ : ∃ al ae, A.arch l = (al, ae) := ⟨_, _, rfl⟩
  rw [hal] at hno hok hbd
  dsimp only at hno hok hbd
  refine tar_ReadR.calls ?_
  unfold tar_ReadR.F
  refine pN_nz hS ?_
  clear hS
  intro a1 w hS
  refine pN_nz hS ?_
  clear hS
  intro a2 w hS
  refine pN_nz hS ?_
  clear hS
  intro a3 w hS
  refine pc_tar_Items (Items_ok hS hl ?_)
  clear hS
  intro cb s2 w hS
  refine rf_go hS ?_
  clear hS
  intro lp D rc w hrc1 hrc2 hS hY
  have hS : Sat E w (lpB lp rc :: mark D :: cel cb ⟨22, [.slice s2.a l.length s2.c]⟩ :: rows cd_uint8 s2 l :: cel a3 ⟨34, [.slice none 0 0]⟩ :: rows cd_api_Item ⟨none, 0⟩ [] :: bag (datas []) :: cel a2 ⟨25, [.int .i64 0]⟩ :: cel a1 ⟨34, [.slice none 0 0]⟩ :: M) := by
    have h1 : Sat E w (rows cd_api_Item ⟨none, 0⟩ [] :: bag (datas []) :: _) := hS.bag_nil.nil cd_api_Item.e cd_api_Item.size
    exact h1.to
  refine pE_fn (fun a w => call_tar_Items_c1 a w) (Items_c1_ok (s := s2) (l := l) (cb := cb)
    (fun k L => ∃ (sl : Sl) (its : List T_api_Item), its.map A.plain = (al.take k).map A.item ∧ L = (lpB lp rc :: mark D :: cel cb ⟨22, [.slice s2.a l.length s2.c]⟩ :: rows cd_uint8 s2 l :: cel a3 ⟨34, [.slice sl.a its.length sl.c]⟩ :: rows cd_api_Item sl its :: bag (datas its) :: cel a2 ⟨25, [.int .i64 0]⟩ :: cel a1 ⟨34, [.slice none 0 0]⟩ :: M))
    (fun L => ae ≠ 0 ∧ L = (lpB lp (leftBy rc .ret) :: mark D :: cel a2 ⟨25, [.int .i64 ae]⟩ :: cel a1 ⟨34, [.slice none 0 0]⟩ :: M))
    ⟨⟨none, 0⟩, [], rfl, rfl⟩ hS (fun k L ⟨_, _, _, e⟩ => by subst e; infer_instance) hl ?_ ?_ ?_ ?_)
  · clear hS
    rintro R k m L s3 w hk ⟨sl, its, hits, rfl⟩ hS
    rw [hal] at hk
    have hk : al[k]? = some m := hk
    have hkl := (List.getElem?_eq_some_iff.1 hk).1
    have hil : its.length = k := by
      have := congrArg List.length hits
      rw [List.length_map, List.length_map, List.length_take] at this
      omega
    have hb80 : (its.length + 1) * 80 ≤ 140737488355328 := by
      rw [hil]
      exact Nat.le_trans (Nat.mul_le_mul_left _ (by decide : 80 ≤ 512)) (Nat.le_trans (Nat.mul_le_mul_right _ hkl) (Nat.le_trans hbd hl))
    refine hY.go hS rfl ?_
    have hcn : (A.getX m s3).enc.all (·.oneCell') = true := List.all_eq_true.2 fun u hu => cd_api_Item.one _ u hu
    have hln : (A.getX m s3).enc.length = 6 := cd_api_Item.len _
    have hxe : cd_api_Item.enc (A.getX m s3) = (A.getX m s3).enc := rfl
    generalize (A.getX m s3).enc = xe at *
    dsimp only [nthV]
    repeat' (first | (refine pN_nz hS ?_; clear hS; intro a w hS) | fail)
    refine pN_sa (us := xe) hS hln.symm (by exact hln) hcn ?_
    clear hS
    intro w hS
    repeat' (first | (refine bg_go hS ?_; clear hS; intro w hS) | refine pN_la hS (by exact hln.symm) ?_ | (refine pN_neq_s ?_ ?_ <;> intro hc <;> try (exfalso; first | omega | exact hc rfl | exact hc (by assumption) | exact absurd hc (by assumption))) | refine pIf_f ?_ | refine pN_l hS (by first | rfl | assumption) ?_ | fail)
    refine pN_b1 (x := A.getX m s3) hS (by rw [hxe]; rfl) (by decide) ?_
    clear hS
    intro s5 w hS
    refine pN_app (C := cd_api_Item) (s := sl) (l := its) (s2 := s5) (m := [A.getX m s3]) hS rfl rfl hb80 ?_
    clear hS
    intro s6 w hS
    repeat' (first | (refine pN_s hS (by first | exact Nat.le_of_ble_eq_true rfl | assumption) (by rfl) ?_; clear hS; intro w hS; try simp only [List.set_cons_zero, List.set_cons_succ] at hS) | fail)
    refine en_none hS ?_
    clear hS
    intro w hS
    refine .inl ⟨rfl, _, ⟨s6, its ++ [A.getX m s3], ?_, rfl⟩, ?_⟩
    · rw [List.map_append, hits, List.take_add_one, hk, List.map_append]
      simp only [List.map_cons, List.map_nil, A.plain_getX, Option.toList_some]
    · have e : datas (its ++ [A.getX m s3]) = datas its ++ [rows cd_uint8 s3 (A.getL m)] := by
        simp only [datas, List.map_append, List.map_cons, List.map_nil, A.getX_data]
      rw [e]
      have h1 := (hS.fd2 (rows cd_uint8 s3) bag).bag_snoc
      exact h1.to
  · clear hS
    rintro R L w hne ⟨sl, its, hits, rfl⟩ hS
    rw [hal] at hne ⊢
    have hne : ae ≠ 0 := hne
    refine hY.go hS rfl ?_
    dsimp only [nthV]
    repeat' (first | (refine bg_go hS ?_; clear hS; intro w hS) | (refine pN_neq_s ?_ ?_ <;> intro hc <;> try (exfalso; first | omega | exact hc rfl | exact hc (by assumption) | exact absurd hc (by assumption))) | refine pIf_t ?_ | (refine pN_s hS (by first | exact Nat.le_of_ble_eq_true rfl | assumption) (by rfl) ?_; clear hS; intro w hS; try simp only [List.set_cons_zero, List.set_cons_succ] at hS) | (refine pN_sa hS (by rfl) (by rfl) (by rfl) ?_; clear hS; intro w hS; try dsimp only at hS) | (refine pN_nz hS ?_; clear hS; intro a w hS) | fail)
    refine en_some hS ?_
    clear hS
    intro w hS
    exact ⟨false, rfl, _, ⟨hne, rfl⟩, hS.to⟩
  · clear hS
    rintro h0 L w ⟨sl, its, hits, rfl⟩ hS
    rw [hal] at h0 hits
    have h0 : ae = 0 := h0
    have hits : its.map A.plain = (al.take al.length).map A.item := hits
    rw [List.take_length] at hits
    refine jmp_n hS hrc1 hrc2 ?_
    clear hS
    intro w hS
    repeat' (first | refine mk_nil ?_ | (refine mk_go hS ?_; clear hS; intro w hS) | refine pN_l hS (by first | rfl | assumption) ?_ | refine pL_r hS (by rfl) ?_ | (refine pN_s hS (by first | exact Nat.le_of_ble_eq_true rfl | assumption) (by rfl) ?_; clear hS; intro w hS; try simp only [List.set_cons_zero, List.set_cons_succ] at hS) | fail)
    exact hok h0 _ its _ hits hS.to
  · clear hS
    rintro L w ⟨hne, rfl⟩ hS
    refine jmp_r hS ?_
    clear hS
    intro w hS
    repeat' (first | refine mk_nil ?_ | (refine mk_go hS ?_; clear hS; intro w hS) | refine pL_r hS (by rfl) ?_ | fail)
    exact hno hne _ hS.to
end
end Go.Proofs.YteeepkimnpabiaaDoor

namespace Go.Proofs.YteeepkimnpabiaaDoor
open Go
set_option linter.unusedSimpArgs false
set_option linter.unnecessarySimpa false
set_option linter.unusedSectionVars false
set_option linter.unusedVariables false
namespace A

theorem getE_0 {l : List UInt8} (h : getE l = 0) : 512 ≤ l.length ∧ Told l ∧ wrong (readTo l 12).1 = 0 ∧ ¬ ((readTo l 12).1.Kind ≠ 0 ∧ 0 < (readTo l 12).2) ∧ header (readTo l 12).1 (readTo l 12).2 = l.take 512 ∧
    512 + (readTo l 12).2.toNat + padn (readTo l 12).2.toNat ≤ l.length ∧ Zs ((l.drop (512 + (readTo l 12).2.toNat)).take (512 + (readTo l 12).2.toNat + padn (readTo l 12).2.toNat - (512 + (readTo l 12).2.toNat))) := by
  unfold getE at h
  split at h
  · omega
  · rename_i h1
    split at h
    · omega
    · rename_i h2
      unfold getE2 at h
      split at h
      · omega
      · rename_i h3
        split at h
        · omega
        · rename_i h4
          split at h
          · rename_i h5
            refine ⟨by omega, Classical.byContradiction h2, Decidable.not_not.1 fun e => h3 (.inl e), fun e => h3 (.inr (.inl e)), Decidable.not_not.1 fun e => h3 (.inr (.inr e)), by omega, h5⟩
          · omega

theorem wrong_intro {x : T_api_Item} (k0 : 0 ≤ x.Kind) (k3 : x.Kind < 3) (hl : x.Kind ≠ 2 → x.Link = []) (hd : x.Kind ≠ 0 → x.Data.2 = []) (hp : (parted x.Name).2.2 = true) (hl2 : x.Kind = 2 → 0 < x.Link.length ∧ x.Link.length ≤ 100 ∧ ¬ 0 ∈ x.Link)
    (m0 : 0 ≤ x.Mode) (m1 : x.Mode < 4096) (t0 : 0 ≤ x.Time) (t1 : x.Time < 8589934592) (d1 : x.Data.2.length < 8589934592) : wrong x = 0 := by
  unfold wrong
  rw [if_neg, if_neg, if_neg]
  · omega
  · rintro (h | ⟨h1, h2⟩)
    · rw [hp] at h; cases h
    · obtain ⟨a, b, c⟩ := hl2 h1
      rcases h2 with h2 | h2 | h2
      · omega
      · omega
      · exact c h2
  · rintro (h | h | ⟨h1, h2⟩ | ⟨h1, h2⟩)
    · omega
    · omega
    · rw [hl h1] at h2; exact h2 rfl
    · rw [hd h1] at h2; simp at h2
theorem header_data (x : T_api_Item) (d : Sl × List UInt8) (n : Int) : header { x with Data := d } n = header x n := by
  obtain ⟨a, b, c, e, f, g⟩ := x
  rfl
theorem padn_512 (n : Nat) : padn (512 + n) = padn n := by unfold padn; omega
theorem zs_rep {l : List UInt8} (h : Zs l) : l = List.replicate l.length 0 := List.eq_replicate_iff.2 ⟨rfl, h⟩
theorem rep_zs (n : Nat) : Zs (List.replicate n 0) := fun b hb => (List.mem_replicate.1 hb).2

theorem len_seg {l : List UInt8} {a c : Nat} (h : a + c ≤ l.length) : ((l.drop a).take (a + c - a)).length = c := by
  rw [List.length_take, List.length_drop]
  omega
/-- What Get takes is right, and its bytes are what Put makes. -/
theorem got {l : List UInt8} (h : getE l = 0) (s : Sl) : wrong (getX l s) = 0 ∧ putB (getX l s) = l.take (getN l) := by
  obtain ⟨h1, _, hw, hk, hh, hlen, hz⟩ := getE_0 h
  obtain ⟨b1, b2, b3, b4, b5⟩ := readTo_bd h1
  unfold getX getN getL
  obtain ⟨hf, k0, k3, m0, m1, t0, t1, _, hp, hl2, hl, _⟩ := wrong_0 hw
  generalize readTo l 12 = p at *
  obtain ⟨x, n⟩ := p
  dsimp only at *
  obtain ⟨nn, rfl⟩ : ∃ nn : Nat, n = nn := ⟨n.toNat, by omega⟩
  rw [Int.toNat_natCast] at *
  have hdl : ((l.drop 512).take (512 + nn - 512)).length = nn := by rw [List.length_take, List.length_drop]; omega
  constructor
  · refine wrong_intro k0 k3 hl (fun hk0 => ?_) hp hl2 m0 m1 t0 t1 ?_
    · have : nn = 0 := Decidable.byContradiction fun hn => hk ⟨hk0, by omega⟩
      subst this
      exact List.length_eq_zero_iff.1 hdl
    · dsimp only
      rw [hdl]
      omega
  · unfold putB
    rw [header_data]
    dsimp only
    rw [hdl, hh, padn_512]
    have e1 : (l.drop (512 + nn)).take (512 + nn + padn nn - (512 + nn)) = List.replicate (padn nn) 0 := by
      have := zs_rep hz
      rw [len_seg hlen] at this
      exact this
    rw [← e1, show 512 + nn - 512 = nn from by omega, show 512 + nn + padn nn - (512 + nn) = padn nn from by omega]
    rw [List.take_add, List.take_add]

theorem putB_plain (x : T_api_Item) : putB (plain x) = putB x := by
  unfold putB plain
  rw [header_data]
theorem wrong_plain (x : T_api_Item) : wrong (plain x) = wrong x := by
  obtain ⟨a, b, c, e, f, g⟩ := x
  rfl
theorem same_plain {x y : T_api_Item} : same x y ↔ plain x = plain y := by
  obtain ⟨a, b, c, e, f, g⟩ := x
  obtain ⟨a', b', c', e', f', g'⟩ := y
  simp [same, plain]

/-- An archive of items. -/
def many (its : List T_api_Item) : List UInt8 := (its.map putB).flatten
def whole (its : List T_api_Item) : List UInt8 := many its ++ List.replicate 1024 0
/-- The first error. -/
def werr : List T_api_Item → Int
  | [] => 0
  | x :: r => if wrong x = 0 then werr r else wrong x
theorem many_plain {a b : List T_api_Item} (h : a.map plain = b.map plain) : many a = many b := by
  have e : ∀ l : List T_api_Item, many l = ((l.map plain).map putB).flatten := fun l => by
    unfold many
    rw [List.map_map]
    exact congrArg List.flatten (List.map_congr_left fun x _ => (putB_plain x).symm)
  rw [e, e, h]

theorem arch_sole : ∀ (l : List UInt8), (∀ m ∈ (arch l).1, getE m = 0) ∧ ((arch l).2 = 0 → l = many ((arch l).1.map item) ++ List.replicate 1024 0) := by
  refine arch_ind fun l ih => ?_
  by_cases hg : goes l
  · by_cases he : getE l = 0
    · obtain ⟨i1, i2⟩ := ih hg he
      obtain ⟨h1, h2⟩ := got he ⟨none, 0⟩
      rw [arch_go hg he]
      dsimp only
      refine ⟨fun m hm => ?_, fun h => ?_⟩
      · rcases List.mem_cons.1 hm with rfl | hm
        · exact he
        · exact i1 m hm
      · have e : many ((l :: (arch (l.drop (getN l))).1).map item) = l.take (getN l) ++ many ((arch (l.drop (getN l))).1.map item) := by
          unfold many
          rw [List.map_cons, List.map_cons, List.flatten_cons]
          unfold item
          rw [h2]
        rw [e, List.append_assoc, ← i2 h, List.take_append_drop]
    · rw [arch_err hg he]
      exact ⟨fun m hm => (by cases hm), fun h => absurd h he⟩
  · rw [arch_no hg]
    refine ⟨fun m hm => (by cases hm), fun h => ?_⟩
    have h : endE l = 0 := h
    unfold endE at h
    split at h
    · omega
    · rename_i h1
      split at h
      · omega
      · rename_i h2
        have hz : Zs l := Decidable.not_not.1 fun e => h2 (.inr e)
        have hl : l.length = 1024 := by
          have : ¬ 1024 < l.length := fun e => h2 (.inl e)
          omega
        rw [← hl]
        exact zs_rep hz
end A
end Go.Proofs.YteeepkimnpabiaaDoor

namespace Go.Proofs.YteeepkimnpabiaaDoor
open Go
set_option linter.unusedSimpArgs false
set_option linter.unnecessarySimpa false
set_option linter.unusedSectionVars false
set_option linter.unusedVariables false

/-- One of many rows is read. -/
theorem RdP_bag {α : Type} {C : Cd α} {s : Sl} {l : List α} {N : List HA} (h : rows C s l ∈ N) : RdP C (bag N) s l := ⟨fun w ⟨h1, hN, hh⟩ => by
  obtain ⟨h2, hA, hs⟩ := Sats.mem h hN
  exact RdA.own w ⟨h2, hA, fun b o e => hh b o (hs b o e)⟩⟩
theorem rds_datas {its : List T_api_Item} {x : T_api_Item} (h : x ∈ its) : RdP cd_uint8 (bag (datas its)) x.Data.1 x.Data.2 := RdP_bag (List.mem_map.2 ⟨x, h, rfl⟩)

namespace A
theorem many_0 (its : List T_api_Item) : many (its.take 0) = [] := by rw [List.take_zero]; rfl
theorem many_take {its : List T_api_Item} {k : Nat} {x : T_api_Item} (h : its[k]? = some x) : many (its.take (k + 1)) = many (its.take k) ++ putB x := by
  unfold many
  rw [List.take_add_one, h]
  simp
theorem werr_at : ∀ {its : List T_api_Item} {k : Nat} {x : T_api_Item}, its[k]? = some x → (∀ y ∈ its.take k, wrong y = 0) → wrong x ≠ 0 → werr its = wrong x
  | [], k, x, h, _, _ => by simp at h
  | y :: r, 0, x, h, _, hx => by
    simp at h
    subst h
    rw [werr, if_neg hx]
  | y :: r, k + 1, x, h, hy, hx => by
    rw [werr, if_pos (hy y (by simp)), werr_at (k := k) (by simpa using h) (fun z hz => hy z (by rw [List.take_succ_cons]; exact List.mem_cons_of_mem _ hz)) hx]
theorem werr_0 : ∀ {its : List T_api_Item}, (∀ y ∈ its, wrong y = 0) → werr its = 0
  | [], _ => rfl
  | y :: r, h => by rw [werr, if_pos (h y List.mem_cons_self), werr_0 fun z hz => h z (List.mem_cons_of_mem _ hz)]
theorem werr_of : ∀ {its : List T_api_Item}, werr its = 0 → ∀ y ∈ its, wrong y = 0
  | [], _, y, hy => by cases hy
  | x :: r, h, y, hy => by
    rw [werr] at h
    split at h
    · rename_i hx
      rcases List.mem_cons.1 hy with rfl | hy
      · exact hx
      · exact werr_of h y hy
    · rename_i hx; exact absurd h hx
end A

attribute [local irreducible] oMv oV oU oCall oCallV oBi oBin oUn oLoad oStore oNil oFld oField oIdx oIndex oPick oAlloc oBox oBuild oBs oConv oMk oSl oExt oFn oIface oMap oLook oMapUp oRange oNext oAssert oPanic oRes pN pA pL pDr pIf gA pGd Calls A.made A.header A.oct A.wrong A.padn A.putB A.fS A.num A.text A.readTo A.getE A.getX A.getL A.many
section
variable [Pan] {E w : World} {K Q : Value → World → Prop} {L M : List HA} {l r : List UInt8} {s s2 sl : Sl} {its : List T_api_Item}

set_option maxRecDepth 8000 in
set_option maxHeartbeats 4000000 in
theorem Write_ok (hS : Sat E w M) [hr : Rds cd_api_Item M sl its] (hd : ∀ x ∈ its, Rds cd_uint8 M x.Data.1 x.Data.2) (hnm : ∀ x ∈ its, x.Name.length ≤ 140737488355328 ∧ x.Link.length ≤ 140737488355328)
    (hl : its.length ≤ 1099511627776) (hb : ∀ k, k ≤ its.length → (∀ x ∈ its.take k, A.wrong x = 0) → (A.many (its.take k)).length + 1024 ≤ 140737488355328)
    (hno : A.werr its ≠ 0 → ∀ w, Sat E w M → Q (.tuple #[.slice none 0 0, .int .i64 (A.werr its)]) w)
    (hok : A.werr its = 0 → ∀ s w, Sat E w (rows cd_uint8 s (A.whole its) :: M) → Q (.tuple #[.slice s.a (A.whole its).length s.c, .int .i64 0]) w) :
    Calls Tryd.prog 15 #[.slice sl.a its.length sl.c] w (retP Q) := by
  refine tar_Write.calls ?_
  unfold tar_Write.F
  repeat' (first | refine pN_via (by (intro K; simp (disch := omega) only [go_sem, pN_min, pN_max, w_u32, w_u64, Option.isNone_some, Option.isNone_none]; (try simp only [wrap_u32, wrap_u64]); rfl)) ?_ | fail)
  refine ⟨fun o i w => ∃ (k : Nat) (so : Sl), k ≤ its.length ∧ (∀ x ∈ its.take k, A.wrong x = 0) ∧ o = .slice so.a (A.many (its.take k)).length so.c ∧ i = .int .i64 k ∧ Sat E w (rows cd_uint8 so (A.many (its.take k)) :: M), fun _ i _ => its.length - (RowKit.intOf i).toNat,
    ⟨0, ⟨none, 0⟩, Nat.zero_le _, fun x hx => (by simp at hx), by rw [A.many_0]; rfl, rfl, by rw [A.many_0]; exact hS.nil cd_uint8.e cd_uint8.size⟩, ?_⟩
  clear hS
  rintro _ _ _ w ⟨k, so, hk, hw, rfl, rfl, hS⟩
  have hbk := hb k hk hw
  by_cases hlt : k < its.length
  · obtain ⟨x, hx⟩ : ∃ x, its[k]? = some x := ⟨its[k], by simp [hlt]⟩
    have hm : x ∈ its := List.mem_of_getElem? hx
    haveI := hd x hm
    obtain ⟨hn1, hn2⟩ := hnm x hm
    have hbk1 := hb (k + 1) hlt
    rw [A.many_take hx] at hbk1
    have hmt := A.many_take hx
    generalize hmk : A.many (its.take k) = mk at *
    repeat' (first | (refine pN_lss_s ?_ ?_ <;> intro hc <;> try (exfalso; omega)) | refine pIf_t ?_ | refine pN_ld_at ha hS (by rfl) ?_ | refine pN_la hS (by rfl) ?_ | (refine pN_sa hS (by rfl) (by rfl) (by rfl) ?_; clear hS; intro w hS; try dsimp only at hS) | (refine pN_nz hS ?_; clear hS; intro a w hS) | refine pN_ixk hS _ (by first | rfl | (exact (Int.toNat_of_nonneg (by omega)).symm)) (by first | rfl | omega | simpa only [go_sem] using True.intro | (simp only [go_sem]; omega)) (by assumption) fun a ha hel => ?_ | fail)
    refine pc_tar_Put (Put_ok x hn1 hn2 hS (fun h0 w hS => ?_) fun h0 s1 w hS => ?_)
    · repeat' (first | (refine pN_neq_s ?_ ?_ <;> intro hc <;> try (exfalso; first | omega | exact hc rfl | exact hc (by assumption) | exact absurd hc (by assumption))) | refine pIf_t ?_ | refine pN_via (by (intro K; simp (disch := omega) only [go_sem, pN_min, pN_max, w_u32, w_u64, Option.isNone_some, Option.isNone_none]; (try simp only [wrap_u32, wrap_u64]); rfl)) ?_ | fail)
      have hwe := A.werr_at hx hw h0
      rw [← hwe] at h0 ⊢
      exact hno h0 _ hS.to
    · have hwk : ∀ y ∈ its.take (k + 1), A.wrong y = 0 := fun y hy => by
        rw [List.take_add_one, hx] at hy
        rcases List.mem_append.1 hy with hy | hy
        · exact hw y hy
        · obtain rfl : y = x := by simpa using hy
          exact h0
      have hb1 := hbk1 hwk
      rw [List.length_append] at hb1
      repeat' (first | (refine pN_neq_s ?_ ?_ <;> intro hc <;> try (exfalso; first | omega | exact hc rfl | exact hc (by assumption) | exact absurd hc (by assumption))) | refine pIf_f ?_ | (refine pN_app hS (by first | rfl | omega | simpa only [go_sem] using True.intro | (simp only [go_sem]; omega)) (by first | rfl | omega | simpa only [go_sem] using True.intro | (simp only [go_sem]; omega)) (by first | omega | (simp only [go_sem]; omega)) ?_; clear hS; intro s w hS) | refine pN_via (by (intro K; simp (disch := omega) only [go_sem, pN_min, pN_max, w_u32, w_u64, Option.isNone_some, Option.isNone_none]; (try simp only [wrap_u32, wrap_u64]); rfl)) ?_ | fail)
      exact ⟨⟨k + 1, s, hlt, hwk, by rw [hmt], rfl, by rw [hmt]; exact hS.to⟩, by simp [RowKit.intOf] <;> omega⟩
  · obtain rfl : k = its.length := by omega
    rw [List.take_length] at hw hS hbk ⊢
    have h0 := A.werr_0 hw
    have hwl : A.whole its = A.many its ++ List.replicate 1024 0 := rfl
    have hz : cd_uint8.zero = 0 := rfl
    generalize hmk : A.many its = mk at *
    repeat' (first | (refine pN_lss_s ?_ ?_ <;> intro hc <;> try (exfalso; omega)) | refine pIf_f ?_ | fail)
    refine pN_appz (C := cd_uint8) (s := so) (l := mk) hS 1024 rfl rfl (by omega) ?_
    clear hS
    intro s1 w hS
    rw [hz, ← hwl] at hS ⊢
    exact hok h0 _ _ hS
end
end Go.Proofs.YteeepkimnpabiaaDoor

namespace Go.Proofs.YteeepkimnpabiaaDoor
open Go
set_option linter.unusedSimpArgs false
set_option linter.unnecessarySimpa false
set_option linter.unusedSectionVars false
set_option linter.unusedVariables false
namespace A

theorem text_fill : ∀ (s : List UInt8) (m : Nat), 0 ∉ s → text (s ++ List.replicate m 0) = s
  | [], 0, _ => rfl
  | [], m + 1, _ => by rw [List.nil_append, List.replicate_succ, text, if_pos rfl]
  | b :: s, m, h => by
    rw [List.cons_append, text, if_neg (fun e => h (by rw [e]; exact List.mem_cons_self)), text_fill s m fun hm => h (List.mem_cons_of_mem _ hm)]
theorem digit_num {d : Int} (h : 0 ≤ d ∧ d < 8) : (((48 + byteOf d : UInt8).toNat % 8 : Nat) : Int) = d := by
  have h2 := byteOf_nat d
  have : (48 : UInt8).toNat = 48 := rfl
  rw [UInt8.toNat_add, h2]
  omega
theorem num_acc : ∀ (l : List UInt8) (a : Int), l.foldl (fun (v : Int) c => 8 * v + c.toNat % 8) a = a * 8 ^ l.length + num l
  | [], a => by simp [num]
  | c :: l, a => by
    have e1 : num (c :: l) = l.foldl (fun (v : Int) c => 8 * v + c.toNat % 8) (8 * 0 + c.toNat % 8) := rfl
    rw [e1, List.foldl_cons, num_acc l, num_acc l (8 * 0 + _), List.length_cons, Int.pow_succ]
    generalize (8 : Int) ^ l.length = p
    generalize ((c.toNat : Int) % 8) = d
    generalize num l = z
    grind
theorem pow_mod (z : Int) (n : Nat) : z % 8 ^ (n + 1) = z / 8 ^ n % 8 * 8 ^ n + z % 8 ^ n := by
  have hp : (0 : Int) < 8 ^ n := Int.pow_pos (by omega)
  rw [Int.pow_succ]
  generalize (8 : Int) ^ n = p at *
  have h1 := Int.emod_def (z / p) 8
  have h2 := Int.mul_ediv_add_emod z p
  have h3 := Int.emod_def z (p * 8)
  rw [← Int.ediv_ediv_of_nonneg (Int.le_of_lt hp)] at h3
  rw [h3, h1]
  generalize z / p = q at *
  generalize q / 8 = c at *
  grind
theorem num_oct (v : Int) : ∀ n, num (oct v n) = v % 8 ^ n
  | 0 => by simp [num, oct]
  | n + 1 => by
    rw [oct_at, num, List.foldl_cons, num_acc, oct_len, num_oct v n, pow_mod]
    have hd := digit_num (d := v / 8 ^ n % 8) (by omega)
    have e : ((48 + byteOf (v / 8 ^ n % 8) : UInt8).toNat : Int) % 8 = v / 8 ^ n % 8 := by omega
    rw [e]
    generalize v / 8 ^ n % 8 = d
    grind
theorem num_field (v : Int) (n : Nat) (h0 : 0 ≤ v) (h1 : v < 8 ^ n) : num ((oct v n ++ [0]).take n) = v := by
  rw [List.take_left' (oct_len v n), num_oct, Int.emod_eq_of_lt h0 h1]
theorem ixb_letter {k : Int} (h0 : 0 ≤ k) (h3 : k < 3) : ixb [48, 53, 50] (letter k) = k := by
  obtain rfl | rfl | rfl : k = 0 ∨ k = 1 ∨ k = 2 := by omega
  all_goals decide

/-- The header's pieces. -/
def blocks (x : T_api_Item) (n : Int) : List (List UInt8) :=
  [fill (parted x.Name).2.1 100, oct x.Mode 7 ++ [0], oct 0 7 ++ [0], oct 0 7 ++ [0], oct n 11 ++ [0], oct x.Time 11 ++ [0], sumField (made x n 12), [letter x.Kind], fill x.Link 100,
    [117, 115, 116, 97, 114, 0, 48, 48] ++ List.replicate 64 0, oct 0 7 ++ [0], oct 0 7 ++ [0], fill (parted x.Name).1 155, List.replicate 12 0]
theorem header_blocks (x : T_api_Item) (n : Int) : header x n = (blocks x n).flatten := by
  unfold header front back blocks
  generalize sumField (made x n 12) = f
  simp only [List.flatten_cons, List.flatten_nil, List.append_assoc, List.append_nil]
theorem seg {bs : List (List UInt8)} {k : Nat} {b : List UInt8} (h : bs[k]? = some b) (t : List UInt8) {a c : Nat} (ha : (bs.take k).flatten.length = a) (hc : b.length = c) : ((bs.flatten ++ t).drop a).take c = b := by
  have e : bs = bs.take k ++ (b :: bs.drop (k + 1)) := by
    obtain ⟨hlt, rfl⟩ := List.getElem?_eq_some_iff.1 h
    rw [← List.drop_eq_getElem_cons hlt, List.take_append_drop]
  have e2 : bs.flatten = (bs.take k).flatten ++ (b ++ (bs.drop (k + 1)).flatten) := by
    conv => lhs; rw [e]
    rw [List.flatten_append, List.flatten_cons]
  rw [e2, List.append_assoc, List.drop_left' ha, List.append_assoc, List.take_left' hc]
theorem fill_len {s : List UInt8} {n : Nat} (h : s.length ≤ n) : (fill s n).length = n := by
  unfold fill
  rw [List.length_append, List.length_replicate]
  omega
theorem fS_seg {x : T_api_Item} (h : Fits x) (n : Int) (t : List UInt8) : fS 0 (header x n ++ t) = fill (parted x.Name).2.1 100 ∧ fS 1 (header x n ++ t) = oct x.Mode 7 ++ [0] ∧ fS 4 (header x n ++ t) = oct n 11 ++ [0] ∧ fS 5 (header x n ++ t) = oct x.Time 11 ++ [0] ∧
    fS 6 (header x n ++ t) = [letter x.Kind] ∧ fS 7 (header x n ++ t) = fill x.Link 100 ∧ fS 11 (header x n ++ t) = fill (parted x.Name).1 155 := by
  have l0 := fill_len h.rest
  have l7 := fill_len h.link
  have l11 := fill_len h.pre
  have ls := sumField_len (made x n 12)
  have o8 : ∀ v, (oct v 7 ++ [0]).length = 8 := fun v => by rw [List.length_append, oct_len]; rfl
  have o12 : ∀ v, (oct v 11 ++ [0]).length = 12 := fun v => by rw [List.length_append, oct_len]; rfl
  have u72 : ([117, 115, 116, 97, 114, 0, 48, 48] ++ List.replicate 64 (0 : UInt8)).length = 72 := rfl
  rw [header_blocks]
  unfold fS
  refine ⟨seg (k := 0) rfl t rfl l0, seg (k := 1) rfl t ?_ (o8 _), seg (k := 4) rfl t ?_ (o12 _), seg (k := 5) rfl t ?_ (o12 _), seg (k := 7) rfl t ?_ rfl, seg (k := 8) rfl t ?_ l7, seg (k := 12) rfl t ?_ l11⟩
  all_goals
    unfold blocks
    generalize fill (parted x.Name).2.1 100 = a0 at *
    generalize fill x.Link 100 = a7 at *
    generalize fill (parted x.Name).1 155 = a11 at *
    generalize sumField (made x n 12) = asum at *
    generalize [117, 115, 116, 97, 114, 0, 48, 48] ++ List.replicate 64 (0 : UInt8) = au at *
    simp only [List.take_succ_cons, List.take_zero, List.flatten_cons, List.flatten_nil, List.append_nil]
    simp only [List.length_append, o8, o12, l0, l7, l11, ls, u72, fAt, oct_len, List.length_cons, List.length_nil]

theorem parted_join {l : List UInt8} (h : (parted l).2.2 = true) : 0 ∉ (parted l).2.1 ∧ 0 ∉ (parted l).1 ∧ (if (parted l).1 = [] then (parted l).2.1 else (parted l).1 ++ (47 :: (parted l).2.1)) = l := by
  unfold parted at *
  split at h
  · cases h
  · rename_i h1
    rw [if_neg h1]
    have h0 : 0 ∉ l := fun e => h1 (.inr e)
    split at h
    · rename_i h2
      rw [if_pos h2]
      exact ⟨h0, by simp, rfl⟩
    · rename_i h2
      rw [if_neg h2]
      cases hs : slash l (max 1 (l.length - 101)) with
      | none => rw [hs] at h; cases h
      | some i =>
        obtain ⟨h3, h4, h5⟩ := slash_some hs
        dsimp only
        have hne : l.take i ≠ [] := fun e => by
          have := congrArg List.length e
          rw [List.length_take, List.length_nil] at this
          omega
        rw [if_neg hne]
        refine ⟨fun e => h0 (List.mem_of_mem_drop e), fun e => h0 (List.mem_of_mem_take e), ?_⟩
        obtain ⟨_, h6⟩ := List.getElem?_eq_some_iff.1 h5
        rw [← h6, ← List.drop_eq_getElem_cons h4, List.take_append_drop]
/-- The item that a header tells. -/
def bare (x : T_api_Item) : T_api_Item := { x with Data := (⟨none, 0⟩, []) }
theorem head_num (v : Int) (b : List UInt8) (h : b = oct v 7 ++ [0]) (h0 : 0 ≤ v) (h1 : v < 4096) : num (b.take (8 - 1)) = v := by
  rw [h]
  refine num_field v 7 h0 (Int.lt_of_lt_of_le h1 ?_)
  decide
theorem head_num12 (v : Int) (b : List UInt8) (h : b = oct v 11 ++ [0]) (h0 : 0 ≤ v) (h1 : v < 8589934592) : num (b.take (12 - 1)) = v := by
  rw [h]
  refine num_field v 11 h0 (Int.lt_of_lt_of_le h1 ?_)
  decide
theorem readTo_made {x : T_api_Item} (hw : wrong x = 0) (n : Int) (n0 : 0 ≤ n) (n1 : n < 8589934592) (t : List UInt8) : readTo (header x n ++ t) 12 = (bare x, n) := by
  obtain ⟨hf, k0, k3, m0, m1, t0, t1, _, hp, hl, hl0, _⟩ := wrong_0 hw
  obtain ⟨s0, s1, s4, s5, s6, s7, s11⟩ := fS_seg hf n t
  obtain ⟨j0, j1, j2⟩ := parted_join hp
  have hlk : 0 ∉ x.Link := by
    by_cases hk : x.Kind = 2
    · exact (hl hk).2.2
    · rw [hl0 hk]; simp
  have r0 : text (fS 0 (header x n ++ t)) = (parted x.Name).2.1 := by rw [s0]; exact text_fill _ _ j0
  have r1 := head_num _ _ s1 m0 m1
  have r4 := head_num12 _ _ s4 n0 n1
  have r5 := head_num12 _ _ s5 t0 t1
  have r6 : ixb [48, 53, 50] ((fS 6 (header x n ++ t)).getD 0 0) = x.Kind := by rw [s6]; exact ixb_letter k0 k3
  have r7 : text (fS 7 (header x n ++ t)) = x.Link := by rw [s7]; exact text_fill _ _ hlk
  have r11 : text (fS 11 (header x n ++ t)) = (parted x.Name).1 := by rw [s11]; exact text_fill _ _ j1
  have e : readTo (header x n ++ t) 12 = readK (header x n ++ t) 11 ({ Name := (parted x.Name).2.1, Link := x.Link, Kind := x.Kind, Mode := x.Mode, Time := x.Time, Data := (⟨none, 0⟩, []) }, n) := by
    rw [readTo_next]
    refine congrArg _ ?_
    simp only [readTo, readK, r0, r1, r4, r5, r6, r7, T_api_Item.zero]
  rw [e]
  simp only [readK, r11]
  generalize (parted x.Name).1 = a at *
  generalize (parted x.Name).2.1 = b at *
  obtain ⟨nm, lk, kd, md, tm, dt⟩ := x
  dsimp only at *
  split at j2
  · rename_i h
    rw [if_pos h, j2]
    rfl
  · rename_i h
    rw [if_neg h, j2]
    rfl
theorem wrong_bare {x : T_api_Item} (hw : wrong x = 0) : wrong (bare x) = 0 := by
  obtain ⟨hf, k0, k3, m0, m1, t0, t1, _, hp, hl, hl0, _⟩ := wrong_0 hw
  exact wrong_intro k0 k3 hl0 (fun _ => rfl) hp hl m0 m1 t0 t1 (show (0 : Nat) < 8589934592 by decide)
theorem header_bare (x : T_api_Item) (n : Int) : header (bare x) n = header x n := header_data x _ n
/-- What stands behind the header of an item. -/
theorem getE_made {x : T_api_Item} (hw : wrong x = 0) (t : List UInt8) : getE (header x x.Data.2.length ++ t) =
    if t.length < x.Data.2.length + padn x.Data.2.length then 1 else if Zs ((t.drop x.Data.2.length).take (padn x.Data.2.length)) then 0 else 2 := by
  obtain ⟨hf, _, _, _, _, _, _, hd, _, _, _, hk⟩ := wrong_0 hw
  have hh := header_len hf x.Data.2.length
  have hr := readTo_made hw x.Data.2.length (by omega) (by omega) t
  have ht := told_header hf x.Data.2.length t
  have htk : (header x x.Data.2.length ++ t).take 512 = header x x.Data.2.length := List.take_left' hh
  unfold getE
  rw [if_neg (by rw [List.length_append, hh]; omega), if_neg (fun h => h ht), hr]
  dsimp only
  unfold getE2
  rw [wrong_bare hw, header_bare, htk]
  have hnot : ¬ ((0 : Int) ≠ 0 ∨ ((bare x).Kind ≠ 0 ∧ 0 < (x.Data.2.length : Int)) ∨ header x x.Data.2.length ≠ header x x.Data.2.length) := by
    rintro (h | ⟨h1, h2⟩ | h)
    · exact h rfl
    · have := hk h1
      rw [this] at h2
      exact absurd h2 (by decide)
    · exact h rfl
  rw [if_neg hnot, Int.toNat_natCast, List.length_append, hh]
  have ed : (header x x.Data.2.length ++ t).drop (512 + x.Data.2.length) = t.drop x.Data.2.length := by
    rw [← List.drop_drop, List.drop_left' hh]
  rw [ed]
  have e1 : 512 + x.Data.2.length + padn x.Data.2.length - (512 + x.Data.2.length) = padn x.Data.2.length := by omega
  rw [e1]
  by_cases h1 : t.length < x.Data.2.length + padn x.Data.2.length
  · rw [if_pos h1, if_pos (by omega)]
  · rw [if_neg h1, if_neg (by omega)]
theorem putB_len {x : T_api_Item} (hw : wrong x = 0) : (putB x).length = 512 + x.Data.2.length + padn x.Data.2.length := by
  have hh := header_len (wrong_0 hw).1 x.Data.2.length
  unfold putB
  rw [List.length_append, List.length_append, hh, List.length_replicate, padn_512]
/-- What Put made is read. -/
theorem put_back {x : T_api_Item} (hw : wrong x = 0) (t : List UInt8) : getE (putB x ++ t) = 0 ∧ getN (putB x ++ t) = (putB x).length ∧ item (putB x ++ t) = plain x := by
  obtain ⟨hf, _, _, _, _, _, _, hd, _, _, _, _⟩ := wrong_0 hw
  have hh := header_len hf x.Data.2.length
  have hl := putB_len hw
  have e : putB x ++ t = header x x.Data.2.length ++ (x.Data.2 ++ (List.replicate (padn x.Data.2.length) 0 ++ t)) := by
    unfold putB
    rw [padn_512]
    simp only [List.append_assoc]
  have hr := readTo_made hw x.Data.2.length (by omega) (by omega) (x.Data.2 ++ (List.replicate (padn x.Data.2.length) 0 ++ t))
  refine ⟨?_, ?_, ?_⟩
  · rw [e, getE_made hw, if_neg (by simp only [List.length_append, List.length_replicate]; omega), if_pos]
    rw [List.drop_left' rfl, List.take_left' List.length_replicate]
    exact rep_zs _
  · unfold getN
    rw [e, hr]
    dsimp only
    rw [Int.toNat_natCast, hl]
  · unfold item getX getL
    rw [e, hr]
    dsimp only
    have e1 : (512 : Nat) + ((x.Data.2.length : Int)).toNat - 512 = x.Data.2.length := by rw [Int.toNat_natCast]; omega
    rw [List.drop_left' hh, e1, List.take_left' rfl]
    rfl
theorem has_ustar {x : T_api_Item} (h : Fits x) (n : Int) : ¬ Zs (header x n) := fun hz => by
  have : (117 : UInt8) ∈ header x n := by
    rw [header_blocks]
    exact List.mem_flatten.2 ⟨[117, 115, 116, 97, 114, 0, 48, 48] ++ List.replicate 64 0, by unfold blocks; simp, by simp⟩
  exact absurd (hz _ this) (by decide)
theorem goes_put {x : T_api_Item} (hw : wrong x = 0) (t : List UInt8) : goes (header x x.Data.2.length ++ t) := by
  have hh := header_len (wrong_0 hw).1 x.Data.2.length
  refine ⟨by rw [List.length_append, hh]; omega, ?_⟩
  rw [List.take_left' hh]
  exact has_ustar (wrong_0 hw).1 _
theorem many_cons (x : T_api_Item) (its : List T_api_Item) : many (x :: its) = putB x ++ many its := rfl
/-- What Write made is read. -/
theorem whole_back : ∀ (its : List T_api_Item), (∀ x ∈ its, wrong x = 0) → (arch (whole its)).1.map item = its.map plain ∧ (arch (whole its)).2 = 0
  | [], _ => by
    obtain ⟨n, hn⟩ : ∃ n : Nat, n = 1024 := ⟨_, rfl⟩
    have e : whole [] = List.replicate n 0 := by rw [hn]; rfl
    have hg : ¬ goes (List.replicate n (0 : UInt8)) := fun h => h.2 (by rw [List.take_replicate]; exact rep_zs _)
    have hk : endE (List.replicate n 0) = 0 := by
      unfold endE
      rw [List.length_replicate, if_neg (by omega), if_neg]
      rintro (h | h)
      · omega
      · exact h (rep_zs _)
    rw [e, arch_no hg, hk]
    exact ⟨rfl, rfl⟩
  | x :: its, h => by
    have hx := h x List.mem_cons_self
    obtain ⟨i1, i2⟩ := whole_back its fun y hy => h y (List.mem_cons_of_mem _ hy)
    have e : whole (x :: its) = putB x ++ whole its := by unfold whole; rw [many_cons, List.append_assoc]
    obtain ⟨p1, p2, p3⟩ := put_back hx (whole its)
    have hg : goes (putB x ++ whole its) := by
      have e2 : putB x ++ whole its = header x x.Data.2.length ++ (x.Data.2 ++ List.replicate (padn (512 + x.Data.2.length)) 0 ++ whole its) := by
        unfold putB
        simp only [List.append_assoc]
      rw [e2]
      exact goes_put hx _
    rw [e, arch_go hg p1, p2, List.drop_left' rfl]
    exact ⟨by rw [List.map_cons, List.map_cons, p3, i1], i2⟩
/-- What is cut off is told. -/
theorem whole_cut : ∀ (its : List T_api_Item), (∀ x ∈ its, wrong x = 0) → ∀ n, n < (whole its).length → (arch ((whole its).take n)).2 = 1
  | [], _, n, hn => by
    have e : whole [] = List.replicate 1024 0 := rfl
    rw [e, List.length_replicate] at hn
    have e2 : (whole []).take n = List.replicate n 0 := by rw [e, List.take_replicate, Nat.min_eq_left (by omega)]
    have hg : ¬ goes (List.replicate n (0 : UInt8)) := fun h => h.2 (by rw [List.take_replicate]; exact rep_zs _)
    rw [e2, arch_no hg]
    have hk : endE (List.replicate n 0) = 1 := by
      unfold endE
      rw [List.length_replicate, if_pos hn]
    exact hk
  | x :: its, h, n, hn => by
    have hx := h x List.mem_cons_self
    have ih := whole_cut its fun y hy => h y (List.mem_cons_of_mem _ hy)
    have e : whole (x :: its) = putB x ++ whole its := by unfold whole; rw [many_cons, List.append_assoc]
    have hl := putB_len hx
    have hh := header_len (wrong_0 hx).1 x.Data.2.length
    have ep : putB x = header x x.Data.2.length ++ (x.Data.2 ++ List.replicate (padn (512 + x.Data.2.length)) 0) := by unfold putB; rw [List.append_assoc]
    rw [e] at hn ⊢
    rw [List.length_append] at hn
    by_cases h1 : (putB x).length ≤ n
    · have e2 : (putB x ++ whole its).take n = putB x ++ (whole its).take (n - (putB x).length) := by rw [List.take_append, List.take_of_length_le h1]
      obtain ⟨p1, p2, p3⟩ := put_back hx ((whole its).take (n - (putB x).length))
      have hg : goes (putB x ++ (whole its).take (n - (putB x).length)) := by
        rw [ep, List.append_assoc]
        exact goes_put hx _
      rw [e2, arch_go hg p1, p2, List.drop_left' rfl]
      exact ih _ (by omega)
    · have e2 : (putB x ++ whole its).take n = (putB x).take n := List.take_append_of_le_length (by omega)
      rw [e2]
      by_cases h5 : n < 512
      · have hlen : ((putB x).take n).length = n := by rw [List.length_take]; omega
        have hg : ¬ goes ((putB x).take n) := fun h => by have := h.1; omega
        rw [arch_no hg]
        have hk : endE ((putB x).take n) = 1 := by
          unfold endE
          rw [if_pos (by omega)]
        exact hk
      · have e3 : (putB x).take n = header x x.Data.2.length ++ (x.Data.2 ++ List.replicate (padn (512 + x.Data.2.length)) 0).take (n - 512) := by
          rw [ep, List.take_append, List.take_of_length_le (by omega), hh]
        have hg := goes_put hx ((x.Data.2 ++ List.replicate (padn (512 + x.Data.2.length)) 0).take (n - 512))
        have hE := getE_made hx ((x.Data.2 ++ List.replicate (padn (512 + x.Data.2.length)) 0).take (n - 512))
        rw [if_pos (by rw [List.length_take]; omega)] at hE
        rw [e3, arch_err hg (by rw [hE]; decide)]
        exact hE
end A
end Go.Proofs.YteeepkimnpabiaaDoor

namespace Go.Proofs.YteeepkimnpabiaaDoor
open Go
set_option linter.unusedSimpArgs false
set_option linter.unnecessarySimpa false
set_option linter.unusedSectionVars false
set_option linter.unusedVariables false

namespace A
theorem put_512 {x : T_api_Item} (h : wrong x = 0) : (putB x).length % 512 = 0 ∧ 512 ≤ (putB x).length ∧ (putB x).length ≤ x.Data.2.length + 1024 := by
  rw [putB_len h]
  unfold padn
  omega
theorem many_512 : ∀ {its : List T_api_Item}, (∀ x ∈ its, wrong x = 0) → (many its).length % 512 = 0
  | [], _ => rfl
  | x :: its, h => by
    have h1 := (put_512 (h x List.mem_cons_self)).1
    have h2 := many_512 (its := its) fun y hy => h y (List.mem_cons_of_mem _ hy)
    rw [many_cons, List.length_append]
    omega
theorem many_bd {d : Nat} : ∀ {its : List T_api_Item}, (∀ x ∈ its, wrong x = 0 ∧ x.Data.2.length ≤ d) → (many its).length ≤ its.length * (d + 1024)
  | [], _ => Nat.zero_le _
  | x :: its, h => by
    have h1 := h x List.mem_cons_self
    have h3 := (put_512 h1.1).2.2
    have h2 := many_bd (its := its) fun y hy => h y (List.mem_cons_of_mem _ hy)
    rw [many_cons, List.length_append, List.length_cons, Nat.add_mul, Nat.one_mul]
    omega
theorem werr_next {its : List T_api_Item} {k : Nat} {x : T_api_Item} (h : its[k]? = some x) : werr (its.take (k + 1)) = if werr (its.take k) = 0 then wrong x else werr (its.take k) := by
  rw [List.take_add_one, h]
  generalize its.take k = l
  induction l with
  | nil =>
    show werr [x] = if (0 : Int) = 0 then wrong x else 0
    rw [if_pos rfl, werr]
    split
    · rename_i h0; rw [h0]; rfl
    · rfl
  | cons y l ih =>
    rw [List.cons_append, werr, werr]
    split
    · exact ih
    · rfl
theorem wholeE (its : List T_api_Item) : whole its = many its ++ List.replicate 1024 0 := rfl
theorem werr_nil : werr [] = 0 := rfl
theorem wrong_cases (x : T_api_Item) : wrong x = 0 ∨ wrong x = 6 ∨ wrong x = 7 ∨ wrong x = 8 := by
  unfold wrong
  repeat' split
  all_goals simp
theorem werr_cases : ∀ (l : List T_api_Item), werr l = 0 ∨ werr l = 6 ∨ werr l = 7 ∨ werr l = 8
  | [] => .inl rfl
  | x :: l => by
    rw [werr]
    split
    · exact werr_cases l
    · exact wrong_cases x
end A

theorem calls_then [Pan] {P : Program} {f : FuncId} {args : Array Value} {w : World} {R K : Value → World → Prop} (h : Calls P f args w (retP R)) (hk : ∀ v w, R v w → K v w) : Calls P f args w (retP K) :=
  Calls.mono h fun e w he => by
    cases e with
    | returned v => exact hk _ _ he
    | panicked c => exact he
    | outgrown => exact he

attribute [local irreducible] oMv oV oU oCall oCallV oBi oBin oUn oLoad oStore oNil oFld oField oIdx oIndex oPick oAlloc oBox oBuild oBs oConv oMk oSl oExt oFn oIface oMap oLook oMapUp oRange oNext oAssert oPanic oRes pN pA pL pDr pIf gA pGd Calls A.made A.header A.oct A.wrong A.padn A.putB A.fS A.num A.text A.readTo A.getE A.getX A.getL A.many
section
variable [Pan] {E w : World} {K Q : Value → World → Prop} {L M : List HA} {l r : List UInt8} {s s2 sl sl2 : Sl} {its ots : List T_api_Item}

set_option maxRecDepth 8000 in
theorem sameAll_ok (hS : Sat E w M) [hr : Rds cd_api_Item M sl its] [hr2 : Rds cd_api_Item M sl2 ots] (hd : ∀ x ∈ its, Rds cd_uint8 M x.Data.1 x.Data.2) (hd2 : ∀ x ∈ ots, Rds cd_uint8 M x.Data.1 x.Data.2)
    (h : its.map A.plain = ots.map A.plain) (hl : its.length ≤ 1099511627776) (hQ : ∀ w, Sat E w M → Q (.bool true) w) :
    Calls Tryd.prog 21 #[.slice sl.a its.length sl.c, .slice sl2.a ots.length sl2.c] w (retP Q) := by
  refine pithlaw33_sameAll.calls ?_
  unfold pithlaw33_sameAll.F
  have hlen : its.length = ots.length := by
    have := congrArg List.length h
    rwa [List.length_map, List.length_map] at this
  repeat' (first | (refine pN_neq_s ?_ ?_ <;> intro hc <;> try (exfalso; first | omega | exact hc rfl | exact hc (by assumption) | exact absurd hc (by assumption))) | refine pIf_f ?_ | refine pN_via (by (intro K; simp (disch := omega) only [go_sem, pN_min, pN_max, w_u32, w_u64, Option.isNone_some, Option.isNone_none]; (try simp only [wrap_u32, wrap_u64]); rfl)) ?_ | fail)
  refine ⟨fun i w => ∃ k : Nat, k ≤ its.length ∧ i = .int .i64 k ∧ Sat E w M, fun i _ => its.length - (RowKit.intOf i).toNat, ⟨0, Nat.zero_le _, rfl, hS⟩, ?_⟩
  clear hS
  rintro _ _ w ⟨k, hk, rfl, hS⟩
  by_cases hlt : k < its.length
  · obtain ⟨x, hx⟩ : ∃ x, its[k]? = some x := ⟨its[k], by simp [hlt]⟩
    obtain ⟨y, hy⟩ : ∃ y, ots[k]? = some y := ⟨ots[k], by simp [show k < ots.length by omega]⟩
    haveI := hd x (List.mem_of_getElem? hx)
    haveI := hd2 y (List.mem_of_getElem? hy)
    have hsame : same x y := A.same_plain.2 (by
      have := congrArg (fun t => t[k]?) h
      simpa [hx, hy] using this)
    repeat' (first | (refine pN_lss_s ?_ ?_ <;> intro hc <;> try (exfalso; omega)) | refine pIf_t ?_ | refine pL_ld_at ha hS (by rfl) ?_ | (refine pDr_go hS ?_; clear hS; intro w hS) | refine pA_ixk hS _ (by first | rfl | (exact (Int.toNat_of_nonneg (by omega)).symm)) (by first | rfl | omega | simpa only [go_sem] using True.intro | (simp only [go_sem]; omega)) (by assumption) fun a ha hel => ?_ | fail)
    refine pc_pithlaw33_same (same_ok x y hS fun w hS => ?_)
    rw [decide_eq_true hsame]
    repeat' (first | refine pIf_f ?_ | refine ⟨trivial, ?_⟩ | refine pN_via (by (intro K; simp (disch := omega) only [go_sem, pN_min, pN_max, w_u32, w_u64, Option.isNone_some, Option.isNone_none]; (try simp only [wrap_u32, wrap_u64]); rfl)) ?_ | refine pA_via (by (intro K; simp (disch := omega) only [go_sem, pN_min, pN_max, w_u32, w_u64, Option.isNone_some, Option.isNone_none]; (try simp only [wrap_u32, wrap_u64]); rfl)) ?_ | fail)
    exact ⟨⟨k + 1, hlt, rfl, hS⟩, by simp [RowKit.intOf] <;> omega⟩
  · repeat' (first | (refine pN_lss_s ?_ ?_ <;> intro hc <;> try (exfalso; omega)) | refine pIf_f ?_ | fail)
    exact hQ _ hS
end
end Go.Proofs.YteeepkimnpabiaaDoor

namespace Go.Proofs.YteeepkimnpabiaaDoor
open Go
set_option linter.unusedSimpArgs false
set_option linter.unnecessarySimpa false
set_option linter.unusedSectionVars false
set_option linter.unusedVariables false
namespace A

/-- Octal digits. -/
def Digs (l : List UInt8) : Prop := ∀ c ∈ l, 48 ≤ c ∧ c ≤ 55
instance (l : List UInt8) : Decidable (Digs l) := inferInstanceAs (Decidable (∀ c ∈ l, 48 ≤ c ∧ c ≤ 55))
/-- A number of octal digits and a zero at the end; -1: it is none. -/
def numR (l : List UInt8) : Int := if Digs (l.take (l.length - 1)) ∧ l.getD (l.length - 1) 0 = 0 then num (l.take (l.length - 1)) else -1
theorem num_pos : ∀ (l : List UInt8), 0 ≤ num l := fun l => (num_bd l.length l rfl).1
theorem numR_pos {l : List UInt8} (h : 0 ≤ numR l) : numR l = num (l.take (l.length - 1)) := by
  unfold numR at *
  split
  · rfl
  · rename_i hn; rw [if_neg hn] at h; omega
theorem oct_digs (v : Int) : ∀ n, Digs (oct v n)
  | 0 => fun c hc => by cases hc
  | n + 1 => fun c hc => by
    rw [oct_at] at hc
    rcases List.mem_cons.1 hc with rfl | hc
    · have h2 := byteOf_nat (v / 8 ^ n % 8)
      have : (48 : UInt8).toNat = 48 := rfl
      have h3 : (48 + byteOf (v / 8 ^ n % 8) : UInt8).toNat = 48 + (v / 8 ^ n % 8).toNat := by
        rw [UInt8.toNat_add, h2]
        omega
      have : (55 : UInt8).toNat = 55 := rfl
      constructor <;> rw [UInt8.le_iff_toNat_le] <;> omega
    · exact oct_digs v n c hc
theorem numR_oct (v : Int) (n : Nat) (h0 : 0 ≤ v) (h1 : v < 8 ^ n) : numR (oct v n ++ [0]) = v := by
  have hl : (oct v n ++ [0]).length - 1 = n := by rw [List.length_append, oct_len]; rfl
  have ht : (oct v n ++ [0]).take n = oct v n := List.take_left' (oct_len v n)
  unfold numR
  rw [hl, ht, if_pos]
  · rw [num_oct, Int.emod_eq_of_lt h0 h1]
  · refine ⟨oct_digs v n, ?_⟩
    rw [List.getD_eq_getElem?_getD, List.getElem?_append_right (by rw [oct_len]; omega), oct_len, Nat.sub_self]
    rfl

/-- What the document's reader takes a header for. -/
def nameR (h : List UInt8) : List UInt8 := if text (fS 11 h) = [] then text (fS 0 h) else text (fS 11 h) ++ (47 :: text (fS 0 h))
def itemR (h : List UInt8) : T_api_Item := ⟨nameR h, text (fS 7 h), ixb [48, 53, 50] ((fS 6 h).getD 0 0), numR (fS 1 h), numR (fS 5 h), (⟨none, 0⟩, [])⟩
def sizeR (h : List UInt8) : Int := numR (fS 4 h)
theorem readTo_eq (h : List UInt8) : readTo h 12 = (⟨nameR h, text (fS 7 h), ixb [48, 53, 50] ((fS 6 h).getD 0 0), num ((fS 1 h).take (8 - 1)), num ((fS 5 h).take (12 - 1)), (⟨none, 0⟩, [])⟩, num ((fS 4 h).take (12 - 1))) := by
  rw [readTo_next]
  have e : readTo h 11 = (⟨text (fS 0 h), text (fS 7 h), ixb [48, 53, 50] ((fS 6 h).getD 0 0), num ((fS 1 h).take (8 - 1)), num ((fS 5 h).take (12 - 1)), (⟨none, 0⟩, [])⟩, num ((fS 4 h).take (12 - 1))) := by
    simp only [readTo, readK, T_api_Item.zero]
  rw [e]
  simp only [readK, nameR]
  split <;> rfl
/-- Is the header the one of the item with so many bytes of data, the sum apart? -/
def likeR (h : List UInt8) (x : T_api_Item) (n : Int) : Prop := front x n ++ back x = h.take 148 ++ h.drop 156
def okR (h : List UInt8) : Prop := 0 ≤ sizeR h ∧ ¬ (0 < sizeR h ∧ (itemR h).Kind ≠ 0) ∧ wrong (itemR h) = 0 ∧ likeR h (itemR h) (sizeR h)
instance (h : List UInt8) (x : T_api_Item) (n : Int) : Decidable (likeR h x n) := inferInstanceAs (Decidable (_ = _))
instance (h : List UInt8) : Decidable (okR h) := inferInstanceAs (Decidable (_ ∧ _ ∧ _ ∧ _))

theorem told_sum {h : List UInt8} {x : T_api_Item} (hf : Fits x) (n : Int) (hl : h.length = 512) (ht : Told h) (he : likeR h x n) : header x n = h := by
  have h1 := front_len hf n
  have h2 := back_len hf
  have h3 := sumField_len (made x n 12)
  have e1 : front x n = h.take 148 := by
    have := congrArg (List.take 148) he
    rwa [List.take_left' h1, List.take_left' (by rw [List.length_take]; omega)] at this
  have e2 : back x = h.drop 156 := by
    have := congrArg (List.drop 148) he
    rwa [List.drop_left' h1, List.drop_left' (by rw [List.length_take]; omega)] at this
  have e3 : sumField (made x n 12) = sumField h := by
    unfold sumField sumOf
    rw [sumTo_congr (l := made x n 12) (m := h) 512 fun j hj hn => ?_]
    have ed : h = front x n ++ (h.drop 148).take (156 - 148) ++ back x := by
      rw [e1, e2, show (156 : Nat) = 148 + (156 - 148) from rfl, ← List.drop_drop, List.append_assoc, Nat.add_sub_cancel_left, List.take_append_drop, List.take_append_drop]
    have hml : ((h.drop 148).take (156 - 148)).length = 8 := by rw [List.length_take, List.length_drop]; omega
    rw [made_12 hf n]
    conv => rhs; rw [ed]
    generalize (h.drop 148).take (156 - 148) = mid at *
    rw [List.append_assoc, List.append_assoc, getD_app, getD_app (a := front x n)]
    split
    · rfl
    · rw [h1, getD_app, getD_app (a := mid), List.length_replicate, hml, if_neg (by omega), if_neg (by omega)]
  unfold header
  unfold Told at ht
  rw [e3, ← ht, e1, e2, show (156 : Nat) = 148 + (156 - 148) from rfl, ← List.drop_drop, List.append_assoc, Nat.add_sub_cancel_left, List.take_append_drop, List.take_append_drop]
/-- The document's reader and the program's are one. -/
theorem readers {h : List UInt8} (hl : h.length = 512) (ht : Told h) : (okR h ↔ (wrong (readTo h 12).1 = 0 ∧ ¬ ((readTo h 12).1.Kind ≠ 0 ∧ 0 < (readTo h 12).2) ∧ header (readTo h 12).1 (readTo h 12).2 = h)) ∧ (okR h → (itemR h, sizeR h) = readTo h 12) := by
  have l1 : (fS 1 h).length = 8 := fS_len (by omega) (by omega)
  have l4 : (fS 4 h).length = 12 := fS_len (by omega) (by omega)
  have l5 : (fS 5 h).length = 12 := fS_len (by omega) (by omega)
  have key : okR h → (itemR h, sizeR h) = readTo h 12 := by
    rintro ⟨h1, _, h2, _⟩
    obtain ⟨_, _, _, m0, _, t0, _, _⟩ := wrong_0 h2
    have a1 := numR_pos (l := fS 1 h) m0
    have a5 := numR_pos (l := fS 5 h) t0
    have a4 := numR_pos (l := fS 4 h) h1
    rw [l1] at a1
    rw [l5] at a5
    rw [l4] at a4
    rw [readTo_eq, itemR, sizeR, a1, a5, a4]
  refine ⟨⟨fun hk => ?_, fun ⟨hw, hk, hh⟩ => ?_⟩, key⟩
  · have e := key hk
    obtain ⟨h1, h2, h3, h4⟩ := hk
    have e1 : (readTo h 12).1 = itemR h := by rw [← e]
    have e2 : (readTo h 12).2 = sizeR h := by rw [← e]
    rw [e1, e2]
    exact ⟨h3, fun hc => h2 ⟨hc.2, hc.1⟩, told_sum (wrong_0 h3).1 _ hl ht h4⟩
  · obtain ⟨b1, b2, b3, b4, b5⟩ := readTo_bd (l := h) (by omega)
    obtain ⟨hf, _, _, m0, m1, t0, t1, _⟩ := wrong_0 hw
    obtain ⟨s0, s1, s4, s5, _⟩ := fS_seg hf (readTo h 12).2 []
    rw [List.append_nil, hh] at s1 s4 s5
    have e8 : (8 : Int) ^ 7 = 2097152 := by decide
    have e11 : (8 : Int) ^ 11 = 8589934592 := by decide
    have n1 := numR_oct _ 7 m0 (by rw [e8]; omega)
    have n4 := numR_oct _ 11 b3 (by rw [e11]; exact b4)
    have n5 := numR_oct _ 11 t0 (by rw [e11]; exact t1)
    rw [← s1] at n1
    rw [← s4] at n4
    rw [← s5] at n5
    have er := readTo_eq h
    have e1 : itemR h = (readTo h 12).1 := by
      rw [itemR, n1, n5, er]
    have e2 : sizeR h = (readTo h 12).2 := n4
    refine ⟨by rw [e2]; exact b3, fun hc => hk ?_, by rw [e1]; exact hw, ?_⟩
    · rw [e1, e2] at hc
      exact ⟨hc.2, hc.1⟩
    · rw [e1, e2]
      unfold likeR
      have h1 := front_len hf (readTo h 12).2
      have h3 := sumField_len (made (readTo h 12).1 (readTo h 12).2 12)
      have d1 : h.take 148 = front (readTo h 12).1 (readTo h 12).2 := by
        conv => lhs; rw [← hh]
        unfold header
        rw [List.append_assoc, List.take_left' h1]
      have d2 : h.drop 156 = back (readTo h 12).1 := by
        conv => lhs; rw [← hh]
        unfold header
        rw [List.drop_left' (by rw [List.length_append, h1, h3])]
      rw [d1, d2]
end A
end Go.Proofs.YteeepkimnpabiaaDoor

namespace Go.Proofs.YteeepkimnpabiaaDoor
open Go
set_option linter.unusedSimpArgs false
set_option linter.unnecessarySimpa false
set_option linter.unusedSectionVars false
set_option linter.unusedVariables false
set_option maxRecDepth 100000

/-! pithref33_Put: pith/pithref33.Put; temporaries: 0:x 1:x 4:e 5:h -/
def pithref33_Put.H : Hints := { cut := fun  | _ => none, loop := fun  | _ => ([], 0), order := fun | 5 => [(0, 0), (1, 1), (2, 3), (3, 7), (4, 15), (5, 31), (6, 63), (7, 127), (8, 255), (9, 511), (10, 1023), (11, 2047), (12, 4095), (13, 8191)] | _ => [] }
def pithref33_Put.F [Pan] (x0 : Value) (w : World) (Q : Value → World → Prop) : Prop :=
 pN Tryd.prog (oBox 24 x0) w fun x1 w1 =>
 pN Tryd.prog (oLoad 24 x1) w1 fun x6 w2 =>
 pN Tryd.prog (oCall 33 [x6]) w2 fun x7 w3 =>
 pN Tryd.prog (oBin .neq 3 (.tmp 8) (.const (.int .i64 0)) x7 (.int .i64 0)) w3 fun x9 w4 =>
 pIf x9
 (Q (.tuple #[(.slice none 0 0), x7]) w4)
 (pN Tryd.prog (oLoad 24 x1) w4 fun x11 w5 =>
 pN Tryd.prog (oCall 34 [x11]) w5 fun x12 w6 =>
 pDr w6 fun w7 =>
 pA Tryd.prog (oFld 24 x1 5) fun x14 =>
 pL Tryd.prog (oLoad 22 x14) w7 fun x15 =>
 pL Tryd.prog (oConv 22 9 x15) w7 fun x16 =>
 pA Tryd.prog (oBin .add 9 (.tmp 13) (.tmp 16) x12 x16) fun x17 =>
 pA Tryd.prog (oFld 24 x1 5) fun x18 =>
 pL Tryd.prog (oLoad 22 x18) w7 fun x19 =>
 pA Tryd.prog (oBi .len #[22] 3 [false] [x19]) fun x20 =>
 pN Tryd.prog (oCall 36 [x20]) w7 fun x21 w8 =>
 ((Sem.run Tryd.prog (oConv 22 9 x15) w8 = .ok (.value x16) w8) ∧ (Sem.run Tryd.prog (oLoad 22 x14) w8 = .ok (.value x15) w8) ∧ True) ∧ (pN Tryd.prog (oCall 35 [x21]) w8 fun x22 w9 =>
 ((Sem.run Tryd.prog (oConv 22 9 x15) w9 = .ok (.value x16) w9) ∧ (Sem.run Tryd.prog (oLoad 22 x14) w9 = .ok (.value x15) w9) ∧ True) ∧ (pA Tryd.prog (oBin .add 9 (.tmp 17) (.tmp 22) x17 x22) fun x23 =>
 pN Tryd.prog (oConv 9 22 x23) w9 fun x24 w10 =>
 (True) ∧ (Q (.tuple #[x24, (.int .i64 0)]) w10))))
noncomputable def pithref33_Put.c : Code := match Tryd.f14.body with | some c => c | none => .skip
theorem pithref33_Put.eq [Pan] (x0 : Value) (w : World) (Q : Value → World → Prop) : cw Tryd.prog pithref33_Put.H pithref33_Put.c (endQ Tryd.prog Tryd.f14.results.toList Q) (argsE [x0]) w = pithref33_Put.F x0 w Q := by kernel_rfl
theorem pithref33_Put.calls [Pan] {x0 : Value} {w : World} {Q : Value → World → Prop} (h : pithref33_Put.F x0 w Q) : Calls Tryd.prog 14 #[x0] w (retP Q) :=
  calls_of_cw (H := pithref33_Put.H) (c := pithref33_Put.c) (args := [x0]) mixed Tryd.func14 (by kernel_rfl) (by kernel_rfl) (Nat.le_of_ble_eq_true (by kernel_rfl)) ((pithref33_Put.eq x0 w Q).mpr h)

/-! pithref33_Write: pith/pithref33.Write; temporaries: 0:l 1:l 4:b 5:i 6:p 7:e -/
def pithref33_Write.H : Hints := { cut := fun  | _ => none, loop := fun | 3 => ([4, 5], 268435452) | _ => ([], 0), order := fun  | _ => [] }
def pithref33_Write.F [Pan] (x0 : Value) (w : World) (Q : Value → World → Prop) : Prop :=
 ∃ (L3 : Value → Value → World → Prop) (m3 : Value → Value → World → Nat),
 L3 (.slice none 0 0) (.int .i64 0) w ∧
 ∀ (_k3 : Env) (b4l3 : Value) (i5l3 : Value) (w1 : World), L3 b4l3 i5l3 w1 →
 pN Tryd.prog (oBi .len #[34] 3 [false] [x0]) w1 fun x10 w2 =>
 pN Tryd.prog (oBin .lss 3 (.tmp 8) (.tmp 10) i5l3 x10) w2 fun x11 w3 =>
 pIf x11
 (pN Tryd.prog (oIdx 34 x0 i5l3) w3 fun x17 w4 =>
 pN Tryd.prog (oLoad 24 x17) w4 fun x18 w5 =>
 pN Tryd.prog (oCall 14 [x18]) w5 fun x19 w6 =>
 pN Tryd.prog (oExt x19 0) w6 fun x20 w7 =>
 pN Tryd.prog (oExt x19 1) w7 fun x21 w8 =>
 pN Tryd.prog (oBin .neq 3 (.tmp 22) (.const (.int .i64 0)) x21 (.int .i64 0)) w8 fun x23 w9 =>
 pIf x23
 (Q (.tuple #[(.slice none 0 0), x21]) w9)
 (pN Tryd.prog (oBi .append #[22, 22] 22 [false, false] [b4l3, x20]) w9 fun x27 w10 =>
 pN Tryd.prog (oBin .add 3 (.tmp 12) (.const (.int .i64 1)) i5l3 (.int .i64 1)) w10 fun x13 w11 =>
 (L3 x27 x13 w11 ∧ m3 x27 x13 w11 < m3 b4l3 i5l3 w1)))
 (pN Tryd.prog (oBi .append #[22, 3] 22 [false, true] [b4l3, (.int .i64 1024)]) w3 fun x29 w12 =>
 Q (.tuple #[x29, (.int .i64 0)]) w12)
noncomputable def pithref33_Write.c : Code := match Tryd.f16.body with | some c => c | none => .skip
theorem pithref33_Write.eq [Pan] (x0 : Value) (w : World) (Q : Value → World → Prop) : cw Tryd.prog pithref33_Write.H pithref33_Write.c (endQ Tryd.prog Tryd.f16.results.toList Q) (argsE [x0]) w = pithref33_Write.F x0 w Q := by kernel_rfl
theorem pithref33_Write.calls [Pan] {x0 : Value} {w : World} {Q : Value → World → Prop} (h : pithref33_Write.F x0 w Q) : Calls Tryd.prog 16 #[x0] w (retP Q) :=
  calls_of_cw (H := pithref33_Write.H) (c := pithref33_Write.c) (args := [x0]) mixed Tryd.func16 (by kernel_rfl) (by kernel_rfl) (Nat.le_of_ble_eq_true (by kernel_rfl)) ((pithref33_Write.eq x0 w Q).mpr h)

/-! pithref33_Get: pith/pithref33.Get; temporaries: 0:b 1:b 5:h 6:x 7:n 8:ok 9:same 10:end -/
def pithref33_Get.H : Hints := { cut := fun  | _ => none, loop := fun  | _ => ([], 0), order := fun | 4 => [(0, 0), (1, 1), (2, 3), (3, 7), (4, 15), (5, 31), (6, 63)] | 15 => [(0, 0), (1, 1), (2, 3), (3, 7), (4, 15), (5, 31), (6, 63), (7, 127), (8, 255), (9, 511)] | 17 => [(0, 0), (1, 1), (2, 3), (3, 7), (4, 15), (5, 31), (6, 63), (7, 127), (8, 255)] | _ => [] }
def pithref33_Get.F [Pan] (x0 : Value) (w : World) (Q : Value → World → Prop) : Prop :=
 pN Tryd.prog (oAlloc 24) w fun x2 w1 =>
 pN Tryd.prog (oBi .len #[22] 3 [false] [x0]) w1 fun x12 w2 =>
 pN Tryd.prog (oBin .lss 3 (.tmp 12) (.const (.int .i64 512)) x12 (.int .i64 512)) w2 fun x13 w3 =>
 pIf x13
 (pN Tryd.prog (oBuild 24 []) w3 fun x14 w4 =>
 pN Tryd.prog (oStore 24 x2 x14) w4 fun _ w5 =>
 pL Tryd.prog (oRes 24 x2) w5 fun r2 =>
 Q (.tuple #[r2, (.int .i64 0), (.int .i64 1)]) w5)
 (pN Tryd.prog (oSl 22 x0 none (some (.int .i64 512)) none) w3 fun x16 w6 =>
 pN Tryd.prog (oConv 22 9 x16) w6 fun x17 w7 =>
 pDr w7 fun w8 =>
 pA Tryd.prog (oSl 9 x17 (some (.int .i64 148)) (some (.int .i64 156)) none) fun x19 =>
 pN Tryd.prog (oCall 38 [x17]) w8 fun x21 w9 =>
 (True) ∧ (pN Tryd.prog (oCall 37 [x21, (.int .i64 6)]) w9 fun x22 w10 =>
 (True) ∧ (pA Tryd.prog (oBin .add 9 (.tmp 22) (.const (.string ⟨#[0, 32]⟩)) x22 (.string ⟨#[0, 32]⟩)) fun x23 =>
 pA Tryd.prog (oBin .neq 9 (.tmp 19) (.tmp 23) x19 x23) fun x24 =>
 pIf x24
 (pN Tryd.prog (oBuild 24 []) w10 fun x25 w11 =>
 pN Tryd.prog (oStore 24 x2 x25) w11 fun _ w12 =>
 pL Tryd.prog (oRes 24 x2) w12 fun r2 =>
 Q (.tuple #[r2, (.int .i64 0), (.int .i64 3)]) w12)
 (pN Tryd.prog (oCall 39 [x17]) w10 fun x28 w13 =>
 pN Tryd.prog (oExt x28 0) w13 fun x29 w14 =>
 pN Tryd.prog (oExt x28 1) w14 fun x30 w15 =>
 pN Tryd.prog (oExt x28 2) w15 fun x31 w16 =>
 pN Tryd.prog (oAlloc 24) w16 fun x6 w17 =>
 pN Tryd.prog (oStore 24 x6 x29) w17 fun _ w18 =>
 pN Tryd.prog (oUn .not x31) w18 fun x33 w19 =>
 pIf x33
 (pN Tryd.prog (oBuild 24 []) w19 fun x34 w20 =>
 pN Tryd.prog (oStore 24 x2 x34) w20 fun _ w21 =>
 pL Tryd.prog (oRes 24 x2) w21 fun r2 =>
 Q (.tuple #[r2, (.int .i64 0), (.int .i64 2)]) w21)
 (pN Tryd.prog (oLoad 24 x6) w19 fun x36 w22 =>
 pN Tryd.prog (oCall 40 [x17, x36, x30]) w22 fun x38 w23 =>
 pN Tryd.prog (oUn .not x38) w23 fun x40 w24 =>
 pIf x40
 (pN Tryd.prog (oBuild 24 []) w24 fun x41 w25 =>
 pN Tryd.prog (oStore 24 x2 x41) w25 fun _ w26 =>
 pL Tryd.prog (oRes 24 x2) w26 fun r2 =>
 Q (.tuple #[r2, (.int .i64 0), (.int .i64 2)]) w26)
 (pN Tryd.prog (oBin .add 3 (.const (.int .i64 512)) (.tmp 42) (.int .i64 512) x30) w24 fun x43 w27 =>
 pN Tryd.prog (oCall 36 [x30]) w27 fun x45 w28 =>
 pN Tryd.prog (oBin .add 3 (.tmp 43) (.tmp 45) x43 x45) w28 fun x46 w29 =>
 pN Tryd.prog (oBi .len #[22] 3 [false] [x0]) w29 fun x48 w30 =>
 pN Tryd.prog (oBin .lss 3 (.tmp 48) (.tmp 49) x48 x46) w30 fun x50 w31 =>
 pIf x50
 (pN Tryd.prog (oBuild 24 []) w31 fun x51 w32 =>
 pN Tryd.prog (oStore 24 x2 x51) w32 fun _ w33 =>
 pL Tryd.prog (oRes 24 x2) w33 fun r2 =>
 Q (.tuple #[r2, (.int .i64 0), (.int .i64 1)]) w33)
 (pDr w31 fun w34 =>
 pA Tryd.prog (oBin .add 3 (.const (.int .i64 512)) (.tmp 53) (.int .i64 512) x30) fun x54 =>
 pA Tryd.prog (oSl 22 x0 (some x54) (some x46) none) fun x56 =>
 pL Tryd.prog (oConv 22 9 x56) w34 fun x57 =>
 pN Tryd.prog (oCall 36 [x30]) w34 fun x59 w35 =>
 ((Sem.run Tryd.prog (oConv 22 9 x56) w35 = .ok (.value x57) w35) ∧ True) ∧ (pN Tryd.prog (oCall 35 [x59]) w35 fun x60 w36 =>
 ((Sem.run Tryd.prog (oConv 22 9 x56) w36 = .ok (.value x57) w36) ∧ True) ∧ (pA Tryd.prog (oBin .neq 9 (.tmp 57) (.tmp 60) x57 x60) fun x61 =>
 pIf x61
 (pN Tryd.prog (oBuild 24 []) w36 fun x62 w37 =>
 pN Tryd.prog (oStore 24 x2 x62) w37 fun _ w38 =>
 pL Tryd.prog (oRes 24 x2) w38 fun r2 =>
 Q (.tuple #[r2, (.int .i64 0), (.int .i64 2)]) w38)
 (pDr w36 fun w39 =>
 pA Tryd.prog (oFld 24 x6 5) fun x63 =>
 pL Tryd.prog (oLoad 22 x63) w39 fun x64 =>
 pA Tryd.prog (oBin .add 3 (.const (.int .i64 512)) (.tmp 66) (.int .i64 512) x30) fun x67 =>
 pA Tryd.prog (oSl 22 x0 (some (.int .i64 512)) (some x67) none) fun x68 =>
 pN Tryd.prog (oBi .append #[22, 22] 22 [false, false] [x64, x68]) w39 fun x69 w40 =>
 (True) ∧ (pA Tryd.prog (oFld 24 x6 5) fun x70 =>
 pN Tryd.prog (oStore 22 x70 x69) w40 fun _ w41 =>
 (True) ∧ (pN Tryd.prog (oLoad 24 x6) w41 fun x71 w42 =>
 pN Tryd.prog (oStore 24 x2 x71) w42 fun _ w43 =>
 pL Tryd.prog (oRes 24 x2) w43 fun r2 =>
 Q (.tuple #[r2, x46, (.int .i64 0)]) w43))))))))))))
noncomputable def pithref33_Get.c : Code := match Tryd.f18.body with | some c => c | none => .skip
theorem pithref33_Get.eq [Pan] (x0 : Value) (w : World) (Q : Value → World → Prop) : cw Tryd.prog pithref33_Get.H pithref33_Get.c (endQ Tryd.prog Tryd.f18.results.toList Q) (argsE [x0]) w = pithref33_Get.F x0 w Q := by kernel_rfl
theorem pithref33_Get.calls [Pan] {x0 : Value} {w : World} {Q : Value → World → Prop} (h : pithref33_Get.F x0 w Q) : Calls Tryd.prog 18 #[x0] w (retP Q) :=
  calls_of_cw (H := pithref33_Get.H) (c := pithref33_Get.c) (args := [x0]) mixed Tryd.func18 (by kernel_rfl) (by kernel_rfl) (Nat.le_of_ble_eq_true (by kernel_rfl)) ((pithref33_Get.eq x0 w Q).mpr h)

/-! pithref33_Read: pith/pithref33.Read; temporaries: 0:b 1:b 4:l 5:e -/
def pithref33_Read.H : Hints := { cut := fun  | _ => none, loop := fun  | _ => ([], 0), order := fun  | _ => [] }
def pithref33_Read.F [Pan] (x0 : Value) (w : World) (Q : Value → World → Prop) : Prop :=
 pN Tryd.prog (oCall 22 [x0]) w fun x8 w1 =>
 pN Tryd.prog (oExt x8 0) w1 fun x9 w2 =>
 pN Tryd.prog (oExt x8 1) w2 fun x10 w3 =>
 pN Tryd.prog (oBin .neq 3 (.tmp 11) (.const (.int .i64 0)) x10 (.int .i64 0)) w3 fun x12 w4 =>
 pIf x12
 (Q (.tuple #[(.slice none 0 0), x10]) w4)
 (Q (.tuple #[x9, (.int .i64 0)]) w4)
noncomputable def pithref33_Read.c : Code := match Tryd.f20.body with | some c => c | none => .skip
theorem pithref33_Read.eq [Pan] (x0 : Value) (w : World) (Q : Value → World → Prop) : cw Tryd.prog pithref33_Read.H pithref33_Read.c (endQ Tryd.prog Tryd.f20.results.toList Q) (argsE [x0]) w = pithref33_Read.F x0 w Q := by kernel_rfl
theorem pithref33_Read.calls [Pan] {x0 : Value} {w : World} {Q : Value → World → Prop} (h : pithref33_Read.F x0 w Q) : Calls Tryd.prog 20 #[x0] w (retP Q) :=
  calls_of_cw (H := pithref33_Read.H) (c := pithref33_Read.c) (args := [x0]) mixed Tryd.func20 (by kernel_rfl) (by kernel_rfl) (Nat.le_of_ble_eq_true (by kernel_rfl)) ((pithref33_Read.eq x0 w Q).mpr h)

/-! pithref33_Items: pith/pithref33.Items; temporaries: 0:b 1:b 4:l 5:x 6:n 7:e -/
def pithref33_Items.H : Hints := { cut := fun  | _ => none, loop := fun | 2 => ([0, 4], 35184372088829) | _ => ([], 0), order := fun | 4 => [(0, 0), (1, 1), (2, 3), (3, 7), (4, 15)] | 7 => [(0, 0), (1, 1), (2, 3), (3, 7), (4, 15)] | _ => [] }
def pithref33_Items.F [Pan] (x0 : Value) (w : World) (Q : Value → World → Prop) : Prop :=
 ∃ (L2 : Value → Value → World → Prop) (m2 : Value → Value → World → Nat),
 L2 x0 (.slice none 0 0) w ∧
 ∀ (_k2 : Env) (b0l2 : Value) (l4l2 : Value) (w1 : World), L2 b0l2 l4l2 w1 →
 pN Tryd.prog (oBi .len #[22] 3 [false] [b0l2]) w1 fun x9 w2 =>
 pN Tryd.prog (oBin .lss 3 (.tmp 9) (.const (.int .i64 512)) x9 (.int .i64 512)) w2 fun x10 w3 =>
 pIf x10
 (Q (.tuple #[l4l2, (.int .i64 1)]) w3)
 (pDr w3 fun w4 =>
 pA Tryd.prog (oSl 22 b0l2 none (some (.int .i64 512)) none) fun x13 =>
 pL Tryd.prog (oConv 22 9 x13) w4 fun x14 =>
 pN Tryd.prog (oCall 35 [(.int .i64 512)]) w4 fun x15 w5 =>
 ((Sem.run Tryd.prog (oConv 22 9 x13) w5 = .ok (.value x14) w5) ∧ True) ∧ (pA Tryd.prog (oBin .eql 9 (.tmp 14) (.tmp 15) x14 x15) fun x16 =>
 pIf x16
 (pN Tryd.prog (oBi .len #[22] 3 [false] [b0l2]) w5 fun x18 w6 =>
 pN Tryd.prog (oBin .lss 3 (.tmp 18) (.const (.int .i64 1024)) x18 (.int .i64 1024)) w6 fun x19 w7 =>
 pIf x19
 (Q (.tuple #[l4l2, (.int .i64 1)]) w7)
 (pDr w7 fun w8 =>
 pA Tryd.prog (oSl 22 b0l2 (some (.int .i64 512)) none none) fun x22 =>
 pL Tryd.prog (oConv 22 9 x22) w8 fun x23 =>
 pN Tryd.prog (oCall 35 [(.int .i64 512)]) w8 fun x24 w9 =>
 ((Sem.run Tryd.prog (oConv 22 9 x22) w9 = .ok (.value x23) w9) ∧ True) ∧ (pA Tryd.prog (oBin .neq 9 (.tmp 23) (.tmp 24) x23 x24) fun x25 =>
 pIf x25
 (Q (.tuple #[l4l2, (.int .i64 2)]) w9)
 (Q (.tuple #[l4l2, (.int .i64 0)]) w9))))
 (pN Tryd.prog (oCall 18 [b0l2]) w5 fun x30 w10 =>
 pN Tryd.prog (oExt x30 0) w10 fun x31 w11 =>
 pN Tryd.prog (oExt x30 1) w11 fun x32 w12 =>
 pN Tryd.prog (oExt x30 2) w12 fun x33 w13 =>
 pN Tryd.prog (oAlloc 24) w13 fun x5 w14 =>
 pN Tryd.prog (oStore 24 x5 x31) w14 fun _ w15 =>
 pN Tryd.prog (oBin .neq 3 (.tmp 34) (.const (.int .i64 0)) x33 (.int .i64 0)) w15 fun x35 w16 =>
 pIf x35
 (Q (.tuple #[l4l2, x33]) w16)
 (pN Tryd.prog (oLoad 24 x5) w16 fun x39 w17 =>
 pN Tryd.prog (oBs 34 1 [(0, x39)]) w17 fun x40 w18 =>
 pN Tryd.prog (oBi .append #[34, 34] 34 [false, false] [l4l2, x40]) w18 fun x41 w19 =>
 pN Tryd.prog (oSl 22 b0l2 (some x32) none none) w19 fun x44 w20 =>
 (L2 x44 x41 w20 ∧ m2 x44 x41 w20 < m2 b0l2 l4l2 w1)))))
noncomputable def pithref33_Items.c : Code := match Tryd.f22.body with | some c => c | none => .skip
theorem pithref33_Items.eq [Pan] (x0 : Value) (w : World) (Q : Value → World → Prop) : cw Tryd.prog pithref33_Items.H pithref33_Items.c (endQ Tryd.prog Tryd.f22.results.toList Q) (argsE [x0]) w = pithref33_Items.F x0 w Q := by kernel_rfl
theorem pithref33_Items.calls [Pan] {x0 : Value} {w : World} {Q : Value → World → Prop} (h : pithref33_Items.F x0 w Q) : Calls Tryd.prog 22 #[x0] w (retP Q) :=
  calls_of_cw (H := pithref33_Items.H) (c := pithref33_Items.c) (args := [x0]) mixed Tryd.func22 (by kernel_rfl) (by kernel_rfl) (Nat.le_of_ble_eq_true (by kernel_rfl)) ((pithref33_Items.eq x0 w Q).mpr h)

/-! pithref33_Right: pith/pithref33.Right; temporaries: 0:x 1:x 3:_ 4:_ 5:ok -/
def pithref33_Right.H : Hints := { cut := fun | 2 => some ([34], 34359738304) | 5 => some ([64], 36893483749372592128) | 7 => some ([88], 618969982749201990030458880) | _ => none, loop := fun  | _ => ([], 0), order := fun  | _ => [] }
def pithref33_Right.F [Pan] (x0 : Value) (w : World) (Q : Value → World → Prop) : Prop :=
 pN Tryd.prog (oBox 24 x0) w fun x1 w1 =>
 ∃ I2 : Value → World → Prop,
 (pN Tryd.prog (oFld 24 x1 2) w1 fun x6 w2 =>
 pN Tryd.prog (oLoad 3 x6) w2 fun x7 w3 =>
 pN Tryd.prog (oBin .lss 3 (.tmp 7) (.const (.int .i64 0)) x7 (.int .i64 0)) w3 fun x8 w4 =>
 pGd (gB x8 false) (pN Tryd.prog (oFld 24 x1 2) w4) w4 fun x10 w5 =>
 pGd (gB x8 false) (pN Tryd.prog (oLoad 3 x10) w5) w5 fun x11 w6 =>
 pGd (gB x8 false) (pN Tryd.prog (oBin .gtr 3 (.tmp 11) (.const (.int .i64 2)) x11 (.int .i64 2)) w6) w6 fun x12 w7 =>
 pN Tryd.prog (oPick x8 (.bool true) x12) w7 fun x13 w8 =>
 pGd (gB x13 false) (pN Tryd.prog (oFld 24 x1 2) w8) w8 fun x15 w9 =>
 pGd (gB x13 false) (pN Tryd.prog (oLoad 3 x15) w9) w9 fun x16 w10 =>
 pGd (gB x13 false) (pN Tryd.prog (oBin .neq 3 (.tmp 16) (.const (.int .i64 2)) x16 (.int .i64 2)) w10) w10 fun x17 w11 =>
 pGd (gB x13 false) (pN Tryd.prog (oMv x17) w11) w11 fun x18 w12 =>
 pGd (gB x18 true) (pN Tryd.prog (oFld 24 x1 1) w12) w12 fun x19 w13 =>
 pGd (gB x18 true) (pN Tryd.prog (oLoad 9 x19) w13) w13 fun x20 w14 =>
 pGd (gB x18 true) (pN Tryd.prog (oBin .neq 9 (.tmp 20) (.const (.string ⟨#[]⟩)) x20 (.string ⟨#[]⟩)) w14) w14 fun x21 w15 =>
 pGd (gB x13 false) (pN Tryd.prog (oPick x18 x21 (.bool false)) w15) w15 fun x22 w16 =>
 pN Tryd.prog (oPick x13 (.bool true) x22) w16 fun x23 w17 =>
 pGd (gB x23 false) (pN Tryd.prog (oFld 24 x1 2) w17) w17 fun x25 w18 =>
 pGd (gB x23 false) (pN Tryd.prog (oLoad 3 x25) w18) w18 fun x26 w19 =>
 pGd (gB x23 false) (pN Tryd.prog (oBin .neq 3 (.tmp 26) (.const (.int .i64 0)) x26 (.int .i64 0)) w19) w19 fun x27 w20 =>
 pGd (gB x23 false) (pN Tryd.prog (oMv x27) w20) w20 fun x28 w21 =>
 pGd (gB x28 true) (pN Tryd.prog (oFld 24 x1 5) w21) w21 fun x29 w22 =>
 pGd (gB x28 true) (pN Tryd.prog (oLoad 22 x29) w22) w22 fun x30 w23 =>
 pGd (gB x28 true) (pN Tryd.prog (oBi .len #[22] 3 [false] [x30]) w23) w23 fun x31 w24 =>
 pGd (gB x28 true) (pN Tryd.prog (oBin .gtr 3 (.tmp 31) (.const (.int .i64 0)) x31 (.int .i64 0)) w24) w24 fun x32 w25 =>
 pGd (gB x23 false) (pN Tryd.prog (oPick x28 x32 (.bool false)) w25) w25 fun x33 w26 =>
 pN Tryd.prog (oPick x23 (.bool true) x33) w26 fun x34 w27 =>
 I2 x34 w27) ∧
 ∀ (_j2 : Env) (v34c2 : Value) (w28 : World), I2 v34c2 w28 →
 pIf v34c2
 (Q (.int .i64 6) w28)
 (pN Tryd.prog (oFld 24 x1 0) w28 fun x36 w29 =>
 pN Tryd.prog (oLoad 9 x36) w29 fun x37 w30 =>
 pN Tryd.prog (oCall 65 [x37]) w30 fun x38 w31 =>
 pN Tryd.prog (oExt x38 0) w31 fun _ w32 =>
 pN Tryd.prog (oExt x38 1) w32 fun _ w33 =>
 pN Tryd.prog (oExt x38 2) w33 fun x41 w34 =>
 ∃ I5 : Value → World → Prop,
 (pN Tryd.prog (oUn .not x41) w34 fun x43 w35 =>
 pGd (gB x43 false) (pN Tryd.prog (oFld 24 x1 2) w35) w35 fun x45 w36 =>
 pGd (gB x43 false) (pN Tryd.prog (oLoad 3 x45) w36) w36 fun x46 w37 =>
 pGd (gB x43 false) (pN Tryd.prog (oBin .eql 3 (.tmp 46) (.const (.int .i64 2)) x46 (.int .i64 2)) w37) w37 fun x47 w38 =>
 pGd (gB x43 false) (pN Tryd.prog (oMv x47) w38) w38 fun x48 w39 =>
 pGd (gB x48 true) (pN Tryd.prog (oFld 24 x1 1) w39) w39 fun x49 w40 =>
 pGd (gB x48 true) (pN Tryd.prog (oLoad 9 x49) w40) w40 fun x50 w41 =>
 pGd (gB x48 true) (pN Tryd.prog (oBin .eql 9 (.tmp 50) (.const (.string ⟨#[]⟩)) x50 (.string ⟨#[]⟩)) w41) w41 fun x51 w42 =>
 pGd (gB x48 true) (pN Tryd.prog (oMv x51) w42) w42 fun x52 w43 =>
 pGd (gB x52 false) (pN Tryd.prog (oFld 24 x1 1) w43) w43 fun x53 w44 =>
 pGd (gB x52 false) (pN Tryd.prog (oLoad 9 x53) w44) w44 fun x54 w45 =>
 pGd (gB x52 false) (pN Tryd.prog (oBi .len #[9] 3 [false] [x54]) w45) w45 fun x55 w46 =>
 pGd (gB x52 false) (pN Tryd.prog (oBin .gtr 3 (.tmp 55) (.const (.int .i64 100)) x55 (.int .i64 100)) w46) w46 fun x56 w47 =>
 pGd (gB x48 true) (pN Tryd.prog (oPick x52 (.bool true) x56) w47) w47 fun x57 w48 =>
 pGd (gB x48 true) (pN Tryd.prog (oMv x57) w48) w48 fun x58 w49 =>
 pGd (gB x58 false) (pN Tryd.prog (oFld 24 x1 1) w49) w49 fun x59 w50 =>
 pGd (gB x58 false) (pN Tryd.prog (oLoad 9 x59) w50) w50 fun x60 w51 =>
 pGd (gB x58 false) (pN Tryd.prog (oCall 66 [x60]) w51) w51 fun x61 w52 =>
 pGd (gB x48 true) (pN Tryd.prog (oPick x58 (.bool true) x61) w52) w52 fun x62 w53 =>
 pGd (gB x43 false) (pN Tryd.prog (oPick x48 x62 (.bool false)) w53) w53 fun x63 w54 =>
 pN Tryd.prog (oPick x43 (.bool true) x63) w54 fun x64 w55 =>
 I5 x64 w55) ∧
 ∀ (_j5 : Env) (v64c5 : Value) (w56 : World), I5 v64c5 w56 →
 pIf v64c5
 (Q (.int .i64 8) w56)
 (∃ I7 : Value → World → Prop,
 (pN Tryd.prog (oFld 24 x1 3) w56 fun x65 w57 =>
 pN Tryd.prog (oLoad 3 x65) w57 fun x66 w58 =>
 pN Tryd.prog (oBin .lss 3 (.tmp 66) (.const (.int .i64 0)) x66 (.int .i64 0)) w58 fun x67 w59 =>
 pGd (gB x67 false) (pN Tryd.prog (oFld 24 x1 3) w59) w59 fun x69 w60 =>
 pGd (gB x67 false) (pN Tryd.prog (oLoad 3 x69) w60) w60 fun x70 w61 =>
 pGd (gB x67 false) (pN Tryd.prog (oBin .gtr 3 (.tmp 70) (.const (.int .i64 4095)) x70 (.int .i64 4095)) w61) w61 fun x71 w62 =>
 pN Tryd.prog (oPick x67 (.bool true) x71) w62 fun x72 w63 =>
 pGd (gB x72 false) (pN Tryd.prog (oFld 24 x1 4) w63) w63 fun x74 w64 =>
 pGd (gB x72 false) (pN Tryd.prog (oLoad 3 x74) w64) w64 fun x75 w65 =>
 pGd (gB x72 false) (pN Tryd.prog (oBin .lss 3 (.tmp 75) (.const (.int .i64 0)) x75 (.int .i64 0)) w65) w65 fun x76 w66 =>
 pN Tryd.prog (oPick x72 (.bool true) x76) w66 fun x77 w67 =>
 pGd (gB x77 false) (pN Tryd.prog (oFld 24 x1 4) w67) w67 fun x79 w68 =>
 pGd (gB x77 false) (pN Tryd.prog (oLoad 3 x79) w68) w68 fun x80 w69 =>
 pGd (gB x77 false) (pN Tryd.prog (oBin .gtr 3 (.tmp 80) (.const (.int .i64 8589934591)) x80 (.int .i64 8589934591)) w69) w69 fun x81 w70 =>
 pN Tryd.prog (oPick x77 (.bool true) x81) w70 fun x82 w71 =>
 pGd (gB x82 false) (pN Tryd.prog (oFld 24 x1 5) w71) w71 fun x84 w72 =>
 pGd (gB x82 false) (pN Tryd.prog (oLoad 22 x84) w72) w72 fun x85 w73 =>
 pGd (gB x82 false) (pN Tryd.prog (oBi .len #[22] 3 [false] [x85]) w73) w73 fun x86 w74 =>
 pGd (gB x82 false) (pN Tryd.prog (oBin .gtr 3 (.tmp 86) (.const (.int .i64 8589934591)) x86 (.int .i64 8589934591)) w74) w74 fun x87 w75 =>
 pN Tryd.prog (oPick x82 (.bool true) x87) w75 fun x88 w76 =>
 I7 x88 w76) ∧
 ∀ (_j7 : Env) (v88c7 : Value) (w77 : World), I7 v88c7 w77 →
 pIf v88c7
 (Q (.int .i64 7) w77)
 (Q (.int .i64 0) w77)))
noncomputable def pithref33_Right.c : Code := match Tryd.f33.body with | some c => c | none => .skip
theorem pithref33_Right.eq [Pan] (x0 : Value) (w : World) (Q : Value → World → Prop) : cw Tryd.prog pithref33_Right.H pithref33_Right.c (endQ Tryd.prog Tryd.f33.results.toList Q) (argsE [x0]) w = pithref33_Right.F x0 w Q := by kernel_rfl
theorem pithref33_Right.calls [Pan] {x0 : Value} {w : World} {Q : Value → World → Prop} (h : pithref33_Right.F x0 w Q) : Calls Tryd.prog 33 #[x0] w (retP Q) :=
  calls_of_cw (H := pithref33_Right.H) (c := pithref33_Right.c) (args := [x0]) mixed Tryd.func33 (by kernel_rfl) (by kernel_rfl) (Nat.le_of_ble_eq_true (by kernel_rfl)) ((pithref33_Right.eq x0 w Q).mpr h)

/-! pithref33_Header: pith/pithref33.Header; temporaries: 0:x 1:x 3:prefix 4:rest 5:_ 6:z 7:flags 8:a 9:b 10:n -/
def pithref33_Header.H : Hints := { cut := fun  | _ => none, loop := fun  | _ => ([], 0), order := fun | 4 => [(0, 0), (2, 1), (3, 5), (7, 13), (9, 141), (11, 653), (12, 2701), (13, 6797), (17, 14989), (18, 146061), (1, 408205), (4, 408207), (5, 408223), (6, 408255), (8, 408319), (10, 408575), (14, 409599), (15, 425983), (16, 458751), (19, 524287), (20, 1048575), (21, 2097151), (22, 4194303)] | 5 => [(0, 0), (1, 1), (2, 3), (3, 7), (4, 15), (5, 31), (6, 63), (12, 127), (14, 4223), (16, 20607), (7, 86143), (8, 86271), (9, 86527), (10, 87039), (11, 88063), (13, 90111), (15, 98303), (17, 131071), (18, 262143), (19, 524287), (20, 1048575), (21, 2097151)] | _ => [] }
def pithref33_Header.F [Pan] (x0 : Value) (w : World) (Q : Value → World → Prop) : Prop :=
 pN Tryd.prog (oBox 24 x0) w fun x1 w1 =>
 pN Tryd.prog (oFld 24 x1 0) w1 fun x12 w2 =>
 pN Tryd.prog (oLoad 9 x12) w2 fun x13 w3 =>
 pN Tryd.prog (oCall 65 [x13]) w3 fun x14 w4 =>
 pN Tryd.prog (oExt x14 0) w4 fun x15 w5 =>
 pN Tryd.prog (oExt x14 1) w5 fun x16 w6 =>
 pN Tryd.prog (oExt x14 2) w6 fun _ w7 =>
 pN Tryd.prog (oCall 37 [(.int .i64 0), (.int .i64 7)]) w7 fun x18 w8 =>
 pN Tryd.prog (oBin .add 9 (.tmp 18) (.const (.string ⟨#[0]⟩)) x18 (.string ⟨#[0]⟩)) w8 fun x19 w9 =>
 pN Tryd.prog (oBs 58 3 [(0, (.string ⟨#[48]⟩)), (1, (.string ⟨#[53]⟩)), (2, (.string ⟨#[50]⟩))]) w9 fun x20 w10 =>
 pDr w10 fun w11 =>
 pA Tryd.prog (oFld 24 x1 3) fun x23 =>
 pL Tryd.prog (oLoad 3 x23) w11 fun x24 =>
 pA Tryd.prog (oFld 24 x1 5) fun x32 =>
 pL Tryd.prog (oLoad 22 x32) w11 fun x33 =>
 pA Tryd.prog (oBi .len #[22] 3 [false] [x33]) fun x34 =>
 pA Tryd.prog (oFld 24 x1 4) fun x38 =>
 pL Tryd.prog (oLoad 3 x38) w11 fun x39 =>
 pN Tryd.prog (oCall 67 [x16, (.int .i64 100)]) w11 fun x22 w12 =>
 ((Sem.run Tryd.prog (oLoad 3 x38) w12 = .ok (.value x39) w12) ∧ (Sem.run Tryd.prog (oLoad 22 x32) w12 = .ok (.value x33) w12) ∧ (Sem.run Tryd.prog (oLoad 3 x23) w12 = .ok (.value x24) w12) ∧ True) ∧ (pN Tryd.prog (oCall 37 [x24, (.int .i64 7)]) w12 fun x25 w13 =>
 ((Sem.run Tryd.prog (oLoad 3 x38) w13 = .ok (.value x39) w13) ∧ (Sem.run Tryd.prog (oLoad 22 x32) w13 = .ok (.value x33) w13) ∧ True) ∧ (pA Tryd.prog (oBin .add 9 (.tmp 22) (.tmp 25) x22 x25) fun x26 =>
 pA Tryd.prog (oBin .add 9 (.tmp 26) (.const (.string ⟨#[0]⟩)) x26 (.string ⟨#[0]⟩)) fun x27 =>
 pA Tryd.prog (oBin .add 9 (.tmp 27) (.tmp 28) x27 x19) fun x29 =>
 pA Tryd.prog (oBin .add 9 (.tmp 29) (.tmp 30) x29 x19) fun x31 =>
 pN Tryd.prog (oCall 37 [x34, (.int .i64 11)]) w13 fun x35 w14 =>
 ((Sem.run Tryd.prog (oLoad 3 x38) w14 = .ok (.value x39) w14) ∧ True) ∧ (pA Tryd.prog (oBin .add 9 (.tmp 31) (.tmp 35) x31 x35) fun x36 =>
 pA Tryd.prog (oBin .add 9 (.tmp 36) (.const (.string ⟨#[0]⟩)) x36 (.string ⟨#[0]⟩)) fun x37 =>
 pN Tryd.prog (oCall 37 [x39, (.int .i64 11)]) w14 fun x40 w15 =>
 (True) ∧ (pA Tryd.prog (oBin .add 9 (.tmp 37) (.tmp 40) x37 x40) fun x41 =>
 pA Tryd.prog (oBin .add 9 (.tmp 41) (.const (.string ⟨#[0]⟩)) x41 (.string ⟨#[0]⟩)) fun x42 =>
 pDr w15 fun w16 =>
 pA Tryd.prog (oFld 24 x1 2) fun x44 =>
 pL Tryd.prog (oLoad 3 x44) w16 fun x45 =>
 pA Tryd.prog (oIdx 58 x20 x45) fun x46 =>
 pL Tryd.prog (oLoad 9 x46) w16 fun x47 =>
 pA Tryd.prog (oFld 24 x1 1) fun x48 =>
 pL Tryd.prog (oLoad 9 x48) w16 fun x49 =>
 pN Tryd.prog (oCall 67 [x49, (.int .i64 100)]) w16 fun x50 w17 =>
 ((Sem.run Tryd.prog (oLoad 9 x46) w17 = .ok (.value x47) w17) ∧ (Sem.run Tryd.prog (oLoad 3 x44) w17 = .ok (.value x45) w17) ∧ True) ∧ (pA Tryd.prog (oBin .add 9 (.tmp 47) (.tmp 50) x47 x50) fun x51 =>
 pA Tryd.prog (oBin .add 9 (.tmp 51) (.const (.string ⟨#[117, 115, 116, 97, 114, 0, 48, 48]⟩)) x51 (.string ⟨#[117, 115, 116, 97, 114, 0, 48, 48]⟩)) fun x52 =>
 pN Tryd.prog (oCall 35 [(.int .i64 64)]) w17 fun x53 w18 =>
 ((Sem.run Tryd.prog (oLoad 9 x46) w18 = .ok (.value x47) w18) ∧ (Sem.run Tryd.prog (oLoad 3 x44) w18 = .ok (.value x45) w18) ∧ True) ∧ (pA Tryd.prog (oBin .add 9 (.tmp 52) (.tmp 53) x52 x53) fun x54 =>
 pA Tryd.prog (oBin .add 9 (.tmp 54) (.tmp 55) x54 x19) fun x56 =>
 pA Tryd.prog (oBin .add 9 (.tmp 56) (.tmp 57) x56 x19) fun x58 =>
 pN Tryd.prog (oCall 67 [x15, (.int .i64 155)]) w18 fun x60 w19 =>
 ((Sem.run Tryd.prog (oLoad 9 x46) w19 = .ok (.value x47) w19) ∧ (Sem.run Tryd.prog (oLoad 3 x44) w19 = .ok (.value x45) w19) ∧ True) ∧ (pA Tryd.prog (oBin .add 9 (.tmp 58) (.tmp 60) x58 x60) fun x61 =>
 pN Tryd.prog (oCall 35 [(.int .i64 12)]) w19 fun x62 w20 =>
 ((Sem.run Tryd.prog (oLoad 9 x46) w20 = .ok (.value x47) w20) ∧ (Sem.run Tryd.prog (oLoad 3 x44) w20 = .ok (.value x45) w20) ∧ True) ∧ (pA Tryd.prog (oBin .add 9 (.tmp 61) (.tmp 62) x61 x62) fun x63 =>
 pN Tryd.prog (oBin .add 9 (.tmp 64) (.const (.string ⟨#[32, 32, 32, 32, 32, 32, 32, 32]⟩)) x42 (.string ⟨#[32, 32, 32, 32, 32, 32, 32, 32]⟩)) w20 fun x65 w21 =>
 pN Tryd.prog (oBin .add 9 (.tmp 65) (.tmp 66) x65 x63) w21 fun x67 w22 =>
 pN Tryd.prog (oCall 38 [x67]) w22 fun x68 w23 =>
 pN Tryd.prog (oCall 37 [x68, (.int .i64 6)]) w23 fun x71 w24 =>
 pN Tryd.prog (oBin .add 9 (.tmp 69) (.tmp 71) x42 x71) w24 fun x72 w25 =>
 pN Tryd.prog (oBin .add 9 (.tmp 72) (.const (.string ⟨#[0, 32]⟩)) x72 (.string ⟨#[0, 32]⟩)) w25 fun x73 w26 =>
 pN Tryd.prog (oBin .add 9 (.tmp 73) (.tmp 74) x73 x63) w26 fun x75 w27 =>
 Q x75 w27))))))))
noncomputable def pithref33_Header.c : Code := match Tryd.f34.body with | some c => c | none => .skip
theorem pithref33_Header.eq [Pan] (x0 : Value) (w : World) (Q : Value → World → Prop) : cw Tryd.prog pithref33_Header.H pithref33_Header.c (endQ Tryd.prog Tryd.f34.results.toList Q) (argsE [x0]) w = pithref33_Header.F x0 w Q := by kernel_rfl
theorem pithref33_Header.calls [Pan] {x0 : Value} {w : World} {Q : Value → World → Prop} (h : pithref33_Header.F x0 w Q) : Calls Tryd.prog 34 #[x0] w (retP Q) :=
  calls_of_cw (H := pithref33_Header.H) (c := pithref33_Header.c) (args := [x0]) mixed Tryd.func34 (by kernel_rfl) (by kernel_rfl) (Nat.le_of_ble_eq_true (by kernel_rfl)) ((pithref33_Header.eq x0 w Q).mpr h)

/-! pithref33_zeros: pith/pithref33.zeros; temporaries: 0:n 1:n -/
def pithref33_zeros.H : Hints := { cut := fun  | _ => none, loop := fun  | _ => ([], 0), order := fun  | _ => [] }
def pithref33_zeros.F [Pan] (x0 : Value) (w : World) (Q : Value → World → Prop) : Prop :=
 pN Tryd.prog (oMk 22 x0 x0) w fun x4 w1 =>
 pN Tryd.prog (oConv 22 9 x4) w1 fun x5 w2 =>
 Q x5 w2
noncomputable def pithref33_zeros.c : Code := match Tryd.f35.body with | some c => c | none => .skip
theorem pithref33_zeros.eq [Pan] (x0 : Value) (w : World) (Q : Value → World → Prop) : cw Tryd.prog pithref33_zeros.H pithref33_zeros.c (endQ Tryd.prog Tryd.f35.results.toList Q) (argsE [x0]) w = pithref33_zeros.F x0 w Q := by kernel_rfl
theorem pithref33_zeros.calls [Pan] {x0 : Value} {w : World} {Q : Value → World → Prop} (h : pithref33_zeros.F x0 w Q) : Calls Tryd.prog 35 #[x0] w (retP Q) :=
  calls_of_cw (H := pithref33_zeros.H) (c := pithref33_zeros.c) (args := [x0]) mixed Tryd.func35 (by kernel_rfl) (by kernel_rfl) (Nat.le_of_ble_eq_true (by kernel_rfl)) ((pithref33_zeros.eq x0 w Q).mpr h)

/-! pithref33_gap: pith/pithref33.gap; temporaries: 0:n 1:n 3:k -/
def pithref33_gap.H : Hints := { cut := fun  | _ => none, loop := fun | 2 => ([3], 2040) | _ => ([], 0), order := fun  | _ => [] }
def pithref33_gap.F [Pan] (x0 : Value) (w : World) (Q : Value → World → Prop) : Prop :=
 ∃ (L2 : Value → World → Prop) (m2 : Value → World → Nat),
 L2 (.int .i64 0) w ∧
 ∀ (_k2 : Env) (k3l2 : Value) (w1 : World), L2 k3l2 w1 →
 pN Tryd.prog (oBin .add 3 (.tmp 4) (.tmp 5) x0 k3l2) w1 fun x6 w2 =>
 pN Tryd.prog (oBin .rem 3 (.tmp 6) (.const (.int .i64 512)) x6 (.int .i64 512)) w2 fun x7 w3 =>
 pN Tryd.prog (oBin .neq 3 (.tmp 7) (.const (.int .i64 0)) x7 (.int .i64 0)) w3 fun x8 w4 =>
 pIf x8
 (pN Tryd.prog (oBin .add 3 (.tmp 9) (.const (.int .i64 1)) k3l2 (.int .i64 1)) w4 fun x10 w5 =>
 (L2 x10 w5 ∧ m2 x10 w5 < m2 k3l2 w1))
 (Q k3l2 w4)
noncomputable def pithref33_gap.c : Code := match Tryd.f36.body with | some c => c | none => .skip
theorem pithref33_gap.eq [Pan] (x0 : Value) (w : World) (Q : Value → World → Prop) : cw Tryd.prog pithref33_gap.H pithref33_gap.c (endQ Tryd.prog Tryd.f36.results.toList Q) (argsE [x0]) w = pithref33_gap.F x0 w Q := by kernel_rfl
theorem pithref33_gap.calls [Pan] {x0 : Value} {w : World} {Q : Value → World → Prop} (h : pithref33_gap.F x0 w Q) : Calls Tryd.prog 36 #[x0] w (retP Q) :=
  calls_of_cw (H := pithref33_gap.H) (c := pithref33_gap.c) (args := [x0]) mixed Tryd.func36 (by kernel_rfl) (by kernel_rfl) (Nat.le_of_ble_eq_true (by kernel_rfl)) ((pithref33_gap.eq x0 w Q).mpr h)

/-! pithref33_octal: pith/pithref33.octal; temporaries: 0:v 1:n 2:v 3:n 5:s 6:i -/
def pithref33_octal.H : Hints := { cut := fun  | _ => none, loop := fun | 3 => ([0, 5, 6], 4194273) | _ => ([], 0), order := fun  | _ => [] }
def pithref33_octal.F [Pan] (x0 : Value) (x1 : Value) (w : World) (Q : Value → World → Prop) : Prop :=
 ∃ (L3 : Value → Value → Value → World → Prop) (m3 : Value → Value → Value → World → Nat),
 L3 x0 (.string ⟨#[]⟩) (.int .i64 0) w ∧
 ∀ (_k3 : Env) (v0l3 : Value) (s5l3 : Value) (i6l3 : Value) (w1 : World), L3 v0l3 s5l3 i6l3 w1 →
 pN Tryd.prog (oBin .lss 3 (.tmp 7) (.tmp 8) i6l3 x1) w1 fun x9 w2 =>
 pIf x9
 (pN Tryd.prog (oBin .rem 3 (.tmp 12) (.const (.int .i64 8)) v0l3 (.int .i64 8)) w2 fun x13 w3 =>
 pN Tryd.prog (oBin .add 3 (.const (.int .i64 48)) (.tmp 13) (.int .i64 48) x13) w3 fun x14 w4 =>
 pN Tryd.prog (oConv 3 5 x14) w4 fun x15 w5 =>
 pN Tryd.prog (oBs 22 1 [(0, x15)]) w5 fun x16 w6 =>
 pN Tryd.prog (oConv 22 9 x16) w6 fun x17 w7 =>
 pN Tryd.prog (oBin .add 9 (.tmp 17) (.tmp 18) x17 s5l3) w7 fun x19 w8 =>
 pN Tryd.prog (oBin .quo 3 (.tmp 20) (.const (.int .i64 8)) v0l3 (.int .i64 8)) w8 fun x21 w9 =>
 pN Tryd.prog (oBin .add 3 (.tmp 10) (.const (.int .i64 1)) i6l3 (.int .i64 1)) w9 fun x11 w10 =>
 (L3 x21 x19 x11 w10 ∧ m3 x21 x19 x11 w10 < m3 v0l3 s5l3 i6l3 w1))
 (Q s5l3 w2)
noncomputable def pithref33_octal.c : Code := match Tryd.f37.body with | some c => c | none => .skip
theorem pithref33_octal.eq [Pan] (x0 : Value) (x1 : Value) (w : World) (Q : Value → World → Prop) : cw Tryd.prog pithref33_octal.H pithref33_octal.c (endQ Tryd.prog Tryd.f37.results.toList Q) (argsE [x0, x1]) w = pithref33_octal.F x0 x1 w Q := by kernel_rfl
theorem pithref33_octal.calls [Pan] {x0 : Value} {x1 : Value} {w : World} {Q : Value → World → Prop} (h : pithref33_octal.F x0 x1 w Q) : Calls Tryd.prog 37 #[x0, x1] w (retP Q) :=
  calls_of_cw (H := pithref33_octal.H) (c := pithref33_octal.c) (args := [x0, x1]) mixed Tryd.func37 (by kernel_rfl) (by kernel_rfl) (Nat.le_of_ble_eq_true (by kernel_rfl)) ((pithref33_octal.eq x0 x1 w Q).mpr h)

/-! pithref33_sum: pith/pithref33.sum; temporaries: 0:h 1:h 3:n 4:i -/
def pithref33_sum.H : Hints := { cut := fun | 4 => some ([3], 33552392) | _ => none, loop := fun | 3 => ([3, 4], 33554424) | _ => ([], 0), order := fun  | _ => [] }
def pithref33_sum.F [Pan] (x0 : Value) (w : World) (Q : Value → World → Prop) : Prop :=
 ∃ (L3 : Value → Value → World → Prop) (m3 : Value → Value → World → Nat),
 L3 (.int .i64 0) (.int .i64 0) w ∧
 ∀ (_k3 : Env) (n3l3 : Value) (i4l3 : Value) (w1 : World), L3 n3l3 i4l3 w1 →
 pN Tryd.prog (oBi .len #[9] 3 [false] [x0]) w1 fun x7 w2 =>
 pN Tryd.prog (oBin .lss 3 (.tmp 5) (.tmp 7) i4l3 x7) w2 fun x8 w3 =>
 pIf x8
 (∃ I4 : Value → World → Prop,
 (pN Tryd.prog (oBin .geq 3 (.tmp 11) (.const (.int .i64 148)) i4l3 (.int .i64 148)) w3 fun x12 w4 =>
 pGd (gB x12 true) (pN Tryd.prog (oMv i4l3) w4) w4 fun x14 w5 =>
 pGd (gB x12 true) (pN Tryd.prog (oBin .lss 3 (.tmp 14) (.const (.int .i64 156)) x14 (.int .i64 156)) w5) w5 fun x15 w6 =>
 pN Tryd.prog (oPick x12 x15 (.bool false)) w6 fun x16 w7 =>
 pIf x16
 (pN Tryd.prog (oBin .add 3 (.tmp 17) (.const (.int .i64 32)) n3l3 (.int .i64 32)) w7 fun x18 w8 =>
 I4 x18 w8)
 (pN Tryd.prog (oIndex 9 x0 i4l3) w7 fun x22 w9 =>
 pN Tryd.prog (oConv 5 3 x22) w9 fun x23 w10 =>
 pN Tryd.prog (oBin .add 3 (.tmp 19) (.tmp 23) n3l3 x23) w10 fun x24 w11 =>
 I4 x24 w11)) ∧
 ∀ (_j4 : Env) (n3c4 : Value) (w12 : World), I4 n3c4 w12 →
 pN Tryd.prog (oBin .add 3 (.tmp 9) (.const (.int .i64 1)) i4l3 (.int .i64 1)) w12 fun x10 w13 =>
 (L3 n3c4 x10 w13 ∧ m3 n3c4 x10 w13 < m3 n3l3 i4l3 w1))
 (Q n3l3 w3)
noncomputable def pithref33_sum.c : Code := match Tryd.f38.body with | some c => c | none => .skip
theorem pithref33_sum.eq [Pan] (x0 : Value) (w : World) (Q : Value → World → Prop) : cw Tryd.prog pithref33_sum.H pithref33_sum.c (endQ Tryd.prog Tryd.f38.results.toList Q) (argsE [x0]) w = pithref33_sum.F x0 w Q := by kernel_rfl
theorem pithref33_sum.calls [Pan] {x0 : Value} {w : World} {Q : Value → World → Prop} (h : pithref33_sum.F x0 w Q) : Calls Tryd.prog 38 #[x0] w (retP Q) :=
  calls_of_cw (H := pithref33_sum.H) (c := pithref33_sum.c) (args := [x0]) mixed Tryd.func38 (by kernel_rfl) (by kernel_rfl) (Nat.le_of_ble_eq_true (by kernel_rfl)) ((pithref33_sum.eq x0 w Q).mpr h)

/-! pithref33_parsed: pith/pithref33.parsed; temporaries: 0:h 1:h 5:kind 6:flags 7:i 8:x 9:prefix 10:n 11:e -/
def pithref33_parsed.H : Hints := { cut := fun | 5 => some ([5], 8323104) | 9 => some ([8], 137430565120) | 12 => some ([], 280375465082880) | _ => none, loop := fun | 4 => ([5, 7], 8384672) | _ => ([], 0), order := fun | 6 => [(0, 0), (1, 1), (2, 3), (3, 7), (4, 15), (5, 31)] | _ => [] }
def pithref33_parsed.F [Pan] (x0 : Value) (w : World) (Q : Value → World → Prop) : Prop :=
 pN Tryd.prog (oAlloc 24) w fun x2 w1 =>
 ∃ (L4 : Value → Value → World → Prop) (m4 : Value → Value → World → Nat),
 L4 (.int .i64 (-1)) (.int .i64 0) w1 ∧
 ∀ (_k4 : Env) (kind5l4 : Value) (i7l4 : Value) (w2 : World), L4 kind5l4 i7l4 w2 →
 pN Tryd.prog (oBin .lss 3 (.tmp 12) (.const (.int .i64 3)) i7l4 (.int .i64 3)) w2 fun x13 w3 =>
 pIf x13
 (∃ I5 : Value → World → Prop,
 (pDr w3 fun w4 =>
 pA Tryd.prog (oIndex 9 x0 (.int .i64 156)) fun x17 =>
 pA Tryd.prog (oIndex 9 (.string ⟨#[48, 53, 50]⟩) i7l4) fun x20 =>
 pA Tryd.prog (oBin .eql 5 (.tmp 17) (.tmp 20) x17 x20) fun x21 =>
 pIf x21
 (I5 i7l4 w4)
 (I5 kind5l4 w4)) ∧
 ∀ (_j5 : Env) (kind5c5 : Value) (w5 : World), I5 kind5c5 w5 →
 pN Tryd.prog (oBin .add 3 (.tmp 14) (.const (.int .i64 1)) i7l4 (.int .i64 1)) w5 fun x15 w6 =>
 (L4 kind5c5 x15 w6 ∧ m4 kind5c5 x15 w6 < m4 kind5l4 i7l4 w2))
 (∃ I9 : Value → World → Prop,
 (pDr w3 fun w7 =>
 pA Tryd.prog (oSl 9 x0 none (some (.int .i64 100)) none) fun x24 =>
 pA Tryd.prog (oSl 9 x0 (some (.int .i64 157)) (some (.int .i64 257)) none) fun x27 =>
 pA Tryd.prog (oSl 9 x0 (some (.int .i64 100)) (some (.int .i64 108)) none) fun x31 =>
 pA Tryd.prog (oSl 9 x0 (some (.int .i64 136)) (some (.int .i64 148)) none) fun x34 =>
 (pN Tryd.prog (oCall 68 [x24]) w7 fun x25 w8 =>
 (True) ∧ ((pN Tryd.prog (oCall 68 [x27]) w8 fun x28 w9 =>
 (True) ∧ ((pN Tryd.prog (oCall 69 [x31]) w9 fun x32 w10 =>
 (True) ∧ ((pN Tryd.prog (oCall 69 [x34]) w10 fun x35 w11 =>
 (True) ∧ ((pN Tryd.prog (oBuild 24 [(0, x25), (1, x28), (2, kind5l4), (3, x32), (4, x35)]) w11 fun x36 w12 =>
 (True) ∧ (pN Tryd.prog (oAlloc 24) w12 fun x8 w13 =>
 (True) ∧ (pN Tryd.prog (oStore 24 x8 x36) w13 fun _ w14 =>
 (True) ∧ (I9 x8 w14)))) ∧ (pN Tryd.prog (oAlloc 24) w11 fun x8 w15 =>
 (True) ∧ (pN Tryd.prog (oBuild 24 [(0, x25), (1, x28), (2, kind5l4), (3, x32), (4, x35)]) w15 fun x36 w16 =>
 (True) ∧ (pN Tryd.prog (oStore 24 x8 x36) w16 fun _ w17 =>
 (True) ∧ (I9 x8 w17)))))) ∧ (pN Tryd.prog (oAlloc 24) w10 fun x8 w18 =>
 (True) ∧ (pN Tryd.prog (oCall 69 [x34]) w18 fun x35 w19 =>
 (True) ∧ (pN Tryd.prog (oBuild 24 [(0, x25), (1, x28), (2, kind5l4), (3, x32), (4, x35)]) w19 fun x36 w20 =>
 (True) ∧ (pN Tryd.prog (oStore 24 x8 x36) w20 fun _ w21 =>
 (True) ∧ (I9 x8 w21))))))) ∧ (pN Tryd.prog (oAlloc 24) w9 fun x8 w22 =>
 (True) ∧ (pN Tryd.prog (oCall 69 [x31]) w22 fun x32 w23 =>
 (True) ∧ (pN Tryd.prog (oCall 69 [x34]) w23 fun x35 w24 =>
 (True) ∧ (pN Tryd.prog (oBuild 24 [(0, x25), (1, x28), (2, kind5l4), (3, x32), (4, x35)]) w24 fun x36 w25 =>
 (True) ∧ (pN Tryd.prog (oStore 24 x8 x36) w25 fun _ w26 =>
 (True) ∧ (I9 x8 w26)))))))) ∧ (pN Tryd.prog (oAlloc 24) w8 fun x8 w27 =>
 (True) ∧ (pN Tryd.prog (oCall 68 [x27]) w27 fun x28 w28 =>
 (True) ∧ (pN Tryd.prog (oCall 69 [x31]) w28 fun x32 w29 =>
 (True) ∧ (pN Tryd.prog (oCall 69 [x34]) w29 fun x35 w30 =>
 (True) ∧ (pN Tryd.prog (oBuild 24 [(0, x25), (1, x28), (2, kind5l4), (3, x32), (4, x35)]) w30 fun x36 w31 =>
 (True) ∧ (pN Tryd.prog (oStore 24 x8 x36) w31 fun _ w32 =>
 (True) ∧ (I9 x8 w32))))))))) ∧ (pN Tryd.prog (oAlloc 24) w7 fun x8 w33 =>
 (True) ∧ (pN Tryd.prog (oCall 68 [x24]) w33 fun x25 w34 =>
 (True) ∧ (pN Tryd.prog (oCall 68 [x27]) w34 fun x28 w35 =>
 (True) ∧ (pN Tryd.prog (oCall 69 [x31]) w35 fun x32 w36 =>
 (True) ∧ (pN Tryd.prog (oCall 69 [x34]) w36 fun x35 w37 =>
 (True) ∧ (pN Tryd.prog (oBuild 24 [(0, x25), (1, x28), (2, kind5l4), (3, x32), (4, x35)]) w37 fun x36 w38 =>
 (True) ∧ (pN Tryd.prog (oStore 24 x8 x36) w38 fun _ w39 =>
 (True) ∧ (I9 x8 w39))))))))) ∧
 ∀ (_j9 : Env) (x8c9 : Value) (w40 : World), I9 x8c9 w40 →
 pN Tryd.prog (oSl 9 x0 (some (.int .i64 345)) (some (.int .i64 500)) none) w40 fun x38 w41 =>
 pN Tryd.prog (oCall 68 [x38]) w41 fun x39 w42 =>
 ∃ I12 : World → Prop,
 (pN Tryd.prog (oBin .neq 9 (.tmp 40) (.const (.string ⟨#[]⟩)) x39 (.string ⟨#[]⟩)) w42 fun x41 w43 =>
 pIf x41
 (pN Tryd.prog (oBin .add 9 (.tmp 42) (.const (.string ⟨#[47]⟩)) x39 (.string ⟨#[47]⟩)) w43 fun x43 w44 =>
 pN Tryd.prog (oFld 24 x8c9 0) w44 fun x44 w45 =>
 pN Tryd.prog (oLoad 9 x44) w45 fun x45 w46 =>
 pN Tryd.prog (oBin .add 9 (.tmp 43) (.tmp 45) x43 x45) w46 fun x46 w47 =>
 pN Tryd.prog (oFld 24 x8c9 0) w47 fun x47 w48 =>
 pN Tryd.prog (oStore 9 x47 x46) w48 fun _ w49 =>
 I12 w49)
 (I12 w43)) ∧
 ∀ (_j12 : Env) (w50 : World), I12 w50 →
 pN Tryd.prog (oSl 9 x0 (some (.int .i64 124)) (some (.int .i64 136)) none) w50 fun x49 w51 =>
 pN Tryd.prog (oCall 69 [x49]) w51 fun x50 w52 =>
 pN Tryd.prog (oLoad 24 x8c9) w52 fun x51 w53 =>
 pN Tryd.prog (oCall 33 [x51]) w53 fun x52 w54 =>
 pN Tryd.prog (oBin .lss 3 (.tmp 53) (.const (.int .i64 0)) x50 (.int .i64 0)) w54 fun x54 w55 =>
 pGd (gB x54 false) (pN Tryd.prog (oMv x50) w55) w55 fun x56 w56 =>
 pGd (gB x54 false) (pN Tryd.prog (oBin .gtr 3 (.tmp 56) (.const (.int .i64 0)) x56 (.int .i64 0)) w56) w56 fun x57 w57 =>
 pGd (gB x54 false) (pN Tryd.prog (oMv x57) w57) w57 fun x58 w58 =>
 pGd (gB x58 true) (pN Tryd.prog (oMv kind5l4) w58) w58 fun x59 w59 =>
 pGd (gB x58 true) (pN Tryd.prog (oBin .neq 3 (.tmp 59) (.const (.int .i64 0)) x59 (.int .i64 0)) w59) w59 fun x60 w60 =>
 pGd (gB x54 false) (pN Tryd.prog (oPick x58 x60 (.bool false)) w60) w60 fun x61 w61 =>
 pN Tryd.prog (oPick x54 (.bool true) x61) w61 fun x62 w62 =>
 pGd (gB x62 false) (pN Tryd.prog (oMv x52) w62) w62 fun x64 w63 =>
 pGd (gB x62 false) (pN Tryd.prog (oBin .neq 3 (.tmp 64) (.const (.int .i64 0)) x64 (.int .i64 0)) w63) w63 fun x65 w64 =>
 pN Tryd.prog (oPick x62 (.bool true) x65) w64 fun x66 w65 =>
 pIf x66
 (pN Tryd.prog (oBuild 24 []) w65 fun x67 w66 =>
 pN Tryd.prog (oStore 24 x2 x67) w66 fun _ w67 =>
 pL Tryd.prog (oRes 24 x2) w67 fun r2 =>
 Q (.tuple #[r2, (.int .i64 0), (.bool false)]) w67)
 (pN Tryd.prog (oLoad 24 x8c9) w65 fun x68 w68 =>
 pN Tryd.prog (oStore 24 x2 x68) w68 fun _ w69 =>
 pL Tryd.prog (oRes 24 x2) w69 fun r2 =>
 Q (.tuple #[r2, x50, (.bool true)]) w69))
noncomputable def pithref33_parsed.c : Code := match Tryd.f39.body with | some c => c | none => .skip
theorem pithref33_parsed.eq [Pan] (x0 : Value) (w : World) (Q : Value → World → Prop) : cw Tryd.prog pithref33_parsed.H pithref33_parsed.c (endQ Tryd.prog Tryd.f39.results.toList Q) (argsE [x0]) w = pithref33_parsed.F x0 w Q := by kernel_rfl
theorem pithref33_parsed.calls [Pan] {x0 : Value} {w : World} {Q : Value → World → Prop} (h : pithref33_parsed.F x0 w Q) : Calls Tryd.prog 39 #[x0] w (retP Q) :=
  calls_of_cw (H := pithref33_parsed.H) (c := pithref33_parsed.c) (args := [x0]) mixed Tryd.func39 (by kernel_rfl) (by kernel_rfl) (Nat.le_of_ble_eq_true (by kernel_rfl)) ((pithref33_parsed.eq x0 w Q).mpr h)

/-! pithref33_like: pith/pithref33.like; temporaries: 0:h 1:x 2:n 3:h 4:x 5:n 7:w -/
def pithref33_like.H : Hints := { cut := fun  | _ => none, loop := fun  | _ => ([], 0), order := fun | 2 => [(0, 0), (1, 1), (2, 3), (5, 7), (6, 39), (3, 103), (4, 111), (7, 127), (8, 255)] | 3 => [(0, 0), (1, 1), (2, 3), (3, 7), (4, 15), (5, 31), (6, 63), (7, 127), (8, 255), (9, 511), (10, 1023), (11, 2047)] | _ => [] }
def pithref33_like.F [Pan] (x0 : Value) (x1 : Value) (x2 : Value) (w : World) (Q : Value → World → Prop) : Prop :=
 pN Tryd.prog (oBox 24 x1) w fun x4 w1 =>
 pN Tryd.prog (oLoad 24 x4) w1 fun x8 w2 =>
 pN Tryd.prog (oCall 34 [x8]) w2 fun x9 w3 =>
 pDr w3 fun w4 =>
 pA Tryd.prog (oSl 9 x9 none (some (.int .i64 124)) none) fun x11 =>
 pA Tryd.prog (oSl 9 x9 (some (.int .i64 135)) none none) fun x16 =>
 pN Tryd.prog (oCall 37 [x2, (.int .i64 11)]) w4 fun x13 w5 =>
 (True) ∧ (pA Tryd.prog (oBin .add 9 (.tmp 11) (.tmp 13) x11 x13) fun x14 =>
 pA Tryd.prog (oBin .add 9 (.tmp 14) (.tmp 16) x14 x16) fun x17 =>
 pDr w5 fun w6 =>
 pA Tryd.prog (oSl 9 x17 none (some (.int .i64 148)) none) fun x19 =>
 pA Tryd.prog (oSl 9 x17 (some (.int .i64 156)) none none) fun x21 =>
 pA Tryd.prog (oBin .add 9 (.tmp 19) (.tmp 21) x19 x21) fun x22 =>
 pA Tryd.prog (oSl 9 x0 none (some (.int .i64 148)) none) fun x24 =>
 pA Tryd.prog (oSl 9 x0 (some (.int .i64 156)) none none) fun x26 =>
 pA Tryd.prog (oBin .add 9 (.tmp 24) (.tmp 26) x24 x26) fun x27 =>
 pA Tryd.prog (oBin .eql 9 (.tmp 22) (.tmp 27) x22 x27) fun x28 =>
 Q x28 w6)
noncomputable def pithref33_like.c : Code := match Tryd.f40.body with | some c => c | none => .skip
theorem pithref33_like.eq [Pan] (x0 : Value) (x1 : Value) (x2 : Value) (w : World) (Q : Value → World → Prop) : cw Tryd.prog pithref33_like.H pithref33_like.c (endQ Tryd.prog Tryd.f40.results.toList Q) (argsE [x0, x1, x2]) w = pithref33_like.F x0 x1 x2 w Q := by kernel_rfl
theorem pithref33_like.calls [Pan] {x0 : Value} {x1 : Value} {x2 : Value} {w : World} {Q : Value → World → Prop} (h : pithref33_like.F x0 x1 x2 w Q) : Calls Tryd.prog 40 #[x0, x1, x2] w (retP Q) :=
  calls_of_cw (H := pithref33_like.H) (c := pithref33_like.c) (args := [x0, x1, x2]) mixed Tryd.func40 (by kernel_rfl) (by kernel_rfl) (Nat.le_of_ble_eq_true (by kernel_rfl)) ((pithref33_like.eq x0 x1 x2 w Q).mpr h)

/-! pithref33_Cut: pith/pithref33.Cut; temporaries: 0:name 1:name 5:i -/
def pithref33_Cut.H : Hints := { cut := fun  | _ => none, loop := fun | 6 => ([5], 1125899906777148) | _ => ([], 0), order := fun | 9 => [(0, 0), (1, 1), (2, 3), (3, 7), (4, 15), (5, 31), (6, 63), (7, 127), (8, 255), (9, 511), (10, 1023), (11, 2047), (12, 4095), (13, 8191), (14, 16383), (15, 32767), (16, 65535), (17, 131071), (18, 262143)] | _ => [] }
def pithref33_Cut.F [Pan] (x0 : Value) (w : World) (Q : Value → World → Prop) : Prop :=
 pN Tryd.prog (oBin .eql 9 (.tmp 6) (.const (.string ⟨#[]⟩)) x0 (.string ⟨#[]⟩)) w fun x7 w1 =>
 pGd (gB x7 false) (pN Tryd.prog (oMv x0) w1) w1 fun x9 w2 =>
 pGd (gB x7 false) (pN Tryd.prog (oCall 66 [x9]) w2) w2 fun x10 w3 =>
 pN Tryd.prog (oPick x7 (.bool true) x10) w3 fun x11 w4 =>
 pIf x11
 (Q (.tuple #[(.string ⟨#[]⟩), (.string ⟨#[]⟩), (.bool false)]) w4)
 (pN Tryd.prog (oBi .len #[9] 3 [false] [x0]) w4 fun x13 w5 =>
 pN Tryd.prog (oBin .leq 3 (.tmp 13) (.const (.int .i64 100)) x13 (.int .i64 100)) w5 fun x14 w6 =>
 pIf x14
 (Q (.tuple #[(.string ⟨#[]⟩), x0, (.bool true)]) w6)
 (∃ (L6 : Value → World → Prop) (m6 : Value → World → Nat),
 L6 (.int .i64 1) w6 ∧
 ∀ (_k6 : Env) (i5l6 : Value) (w7 : World), L6 i5l6 w7 →
 pN Tryd.prog (oBi .len #[9] 3 [false] [x0]) w7 fun x18 w8 =>
 pN Tryd.prog (oBin .lss 3 (.tmp 16) (.tmp 18) i5l6 x18) w8 fun x19 w9 =>
 pIf x19
 (pN Tryd.prog (oIndex 9 x0 i5l6) w9 fun x24 w10 =>
 pN Tryd.prog (oBin .eql 5 (.tmp 24) (.const (.int .u8 47)) x24 (bv 47)) w10 fun x25 w11 =>
 pGd (gB x25 true) (pN Tryd.prog (oMv x0) w11) w11 fun x27 w12 =>
 pGd (gB x25 true) (pN Tryd.prog (oBi .len #[9] 3 [false] [x27]) w12) w12 fun x28 w13 =>
 pGd (gB x25 true) (pN Tryd.prog (oMv i5l6) w13) w13 fun x29 w14 =>
 pGd (gB x25 true) (pN Tryd.prog (oBin .sub 3 (.tmp 28) (.tmp 29) x28 x29) w14) w14 fun x30 w15 =>
 pGd (gB x25 true) (pN Tryd.prog (oBin .sub 3 (.tmp 30) (.const (.int .i64 1)) x30 (.int .i64 1)) w15) w15 fun x31 w16 =>
 pGd (gB x25 true) (pN Tryd.prog (oBin .leq 3 (.tmp 31) (.const (.int .i64 100)) x31 (.int .i64 100)) w16) w16 fun x32 w17 =>
 pN Tryd.prog (oPick x25 x32 (.bool false)) w17 fun x33 w18 =>
 pIf x33
 (pDr w18 fun w19 =>
 pA Tryd.prog (oSl 9 x0 none (some i5l6) none) fun x36 =>
 pA Tryd.prog (oBin .add 3 (.tmp 38) (.const (.int .i64 1)) i5l6 (.int .i64 1)) fun x39 =>
 pA Tryd.prog (oSl 9 x0 (some x39) none none) fun x40 =>
 pA Tryd.prog (oBin .leq 3 (.tmp 41) (.const (.int .i64 155)) i5l6 (.int .i64 155)) fun x42 =>
 gA (gB x42 true) (pA Tryd.prog (oMv i5l6)) fun x44 =>
 gA (gB x42 true) (pA Tryd.prog (oMv x0)) fun x45 =>
 gA (gB x42 true) (pA Tryd.prog (oBi .len #[9] 3 [false] [x45])) fun x46 =>
 gA (gB x42 true) (pA Tryd.prog (oBin .sub 3 (.tmp 46) (.const (.int .i64 1)) x46 (.int .i64 1))) fun x47 =>
 gA (gB x42 true) (pA Tryd.prog (oBin .lss 3 (.tmp 44) (.tmp 47) x44 x47)) fun x48 =>
 pA Tryd.prog (oPick x42 x48 (.bool false)) fun x49 =>
 Q (.tuple #[x36, x40, x49]) w19)
 (pN Tryd.prog (oBin .add 3 (.tmp 20) (.const (.int .i64 1)) i5l6 (.int .i64 1)) w18 fun x21 w20 =>
 (L6 x21 w20 ∧ m6 x21 w20 < m6 i5l6 w7)))
 (Q (.tuple #[(.string ⟨#[]⟩), (.string ⟨#[]⟩), (.bool false)]) w9)))
noncomputable def pithref33_Cut.c : Code := match Tryd.f65.body with | some c => c | none => .skip
theorem pithref33_Cut.eq [Pan] (x0 : Value) (w : World) (Q : Value → World → Prop) : cw Tryd.prog pithref33_Cut.H pithref33_Cut.c (endQ Tryd.prog Tryd.f65.results.toList Q) (argsE [x0]) w = pithref33_Cut.F x0 w Q := by kernel_rfl
theorem pithref33_Cut.calls [Pan] {x0 : Value} {w : World} {Q : Value → World → Prop} (h : pithref33_Cut.F x0 w Q) : Calls Tryd.prog 65 #[x0] w (retP Q) :=
  calls_of_cw (H := pithref33_Cut.H) (c := pithref33_Cut.c) (args := [x0]) mixed Tryd.func65 (by kernel_rfl) (by kernel_rfl) (Nat.le_of_ble_eq_true (by kernel_rfl)) ((pithref33_Cut.eq x0 w Q).mpr h)

/-! pithref33_has: pith/pithref33.has; temporaries: 0:s 1:s 3:i -/
def pithref33_has.H : Hints := { cut := fun  | _ => none, loop := fun | 2 => ([3], 16380) | _ => ([], 0), order := fun  | _ => [] }
def pithref33_has.F [Pan] (x0 : Value) (w : World) (Q : Value → World → Prop) : Prop :=
 ∃ (L2 : Value → World → Prop) (m2 : Value → World → Nat),
 L2 (.int .i64 0) w ∧
 ∀ (_k2 : Env) (i3l2 : Value) (w1 : World), L2 i3l2 w1 →
 pN Tryd.prog (oBi .len #[9] 3 [false] [x0]) w1 fun x6 w2 =>
 pN Tryd.prog (oBin .lss 3 (.tmp 4) (.tmp 6) i3l2 x6) w2 fun x7 w3 =>
 pIf x7
 (pN Tryd.prog (oIndex 9 x0 i3l2) w3 fun x12 w4 =>
 pN Tryd.prog (oBin .eql 5 (.tmp 12) (.const (.int .u8 0)) x12 (bv 0)) w4 fun x13 w5 =>
 pIf x13
 (Q (.bool true) w5)
 (pN Tryd.prog (oBin .add 3 (.tmp 8) (.const (.int .i64 1)) i3l2 (.int .i64 1)) w5 fun x9 w6 =>
 (L2 x9 w6 ∧ m2 x9 w6 < m2 i3l2 w1)))
 (Q (.bool false) w3)
noncomputable def pithref33_has.c : Code := match Tryd.f66.body with | some c => c | none => .skip
theorem pithref33_has.eq [Pan] (x0 : Value) (w : World) (Q : Value → World → Prop) : cw Tryd.prog pithref33_has.H pithref33_has.c (endQ Tryd.prog Tryd.f66.results.toList Q) (argsE [x0]) w = pithref33_has.F x0 w Q := by kernel_rfl
theorem pithref33_has.calls [Pan] {x0 : Value} {w : World} {Q : Value → World → Prop} (h : pithref33_has.F x0 w Q) : Calls Tryd.prog 66 #[x0] w (retP Q) :=
  calls_of_cw (H := pithref33_has.H) (c := pithref33_has.c) (args := [x0]) mixed Tryd.func66 (by kernel_rfl) (by kernel_rfl) (Nat.le_of_ble_eq_true (by kernel_rfl)) ((pithref33_has.eq x0 w Q).mpr h)

/-! pithref33_filled: pith/pithref33.filled; temporaries: 0:s 1:n 2:s 3:n -/
def pithref33_filled.H : Hints := { cut := fun  | _ => none, loop := fun  | _ => ([], 0), order := fun  | _ => [] }
def pithref33_filled.F [Pan] (x0 : Value) (x1 : Value) (w : World) (Q : Value → World → Prop) : Prop :=
 pN Tryd.prog (oBi .len #[9] 3 [false] [x0]) w fun x8 w1 =>
 pN Tryd.prog (oBin .sub 3 (.tmp 6) (.tmp 8) x1 x8) w1 fun x9 w2 =>
 pN Tryd.prog (oCall 35 [x9]) w2 fun x10 w3 =>
 pN Tryd.prog (oBin .add 9 (.tmp 5) (.tmp 10) x0 x10) w3 fun x11 w4 =>
 Q x11 w4
noncomputable def pithref33_filled.c : Code := match Tryd.f67.body with | some c => c | none => .skip
theorem pithref33_filled.eq [Pan] (x0 : Value) (x1 : Value) (w : World) (Q : Value → World → Prop) : cw Tryd.prog pithref33_filled.H pithref33_filled.c (endQ Tryd.prog Tryd.f67.results.toList Q) (argsE [x0, x1]) w = pithref33_filled.F x0 x1 w Q := by kernel_rfl
theorem pithref33_filled.calls [Pan] {x0 : Value} {x1 : Value} {w : World} {Q : Value → World → Prop} (h : pithref33_filled.F x0 x1 w Q) : Calls Tryd.prog 67 #[x0, x1] w (retP Q) :=
  calls_of_cw (H := pithref33_filled.H) (c := pithref33_filled.c) (args := [x0, x1]) mixed Tryd.func67 (by kernel_rfl) (by kernel_rfl) (Nat.le_of_ble_eq_true (by kernel_rfl)) ((pithref33_filled.eq x0 x1 w Q).mpr h)

/-! pithref33_text: pith/pithref33.text; temporaries: 0:s 1:s 3:i -/
def pithref33_text.H : Hints := { cut := fun  | _ => none, loop := fun | 2 => ([3], 131068) | _ => ([], 0), order := fun  | _ => [] }
def pithref33_text.F [Pan] (x0 : Value) (w : World) (Q : Value → World → Prop) : Prop :=
 ∃ (L2 : Value → World → Prop) (m2 : Value → World → Nat),
 L2 (.int .i64 0) w ∧
 ∀ (_k2 : Env) (i3l2 : Value) (w1 : World), L2 i3l2 w1 →
 pN Tryd.prog (oBi .len #[9] 3 [false] [x0]) w1 fun x6 w2 =>
 pN Tryd.prog (oBin .lss 3 (.tmp 4) (.tmp 6) i3l2 x6) w2 fun x7 w3 =>
 pIf x7
 (pN Tryd.prog (oIndex 9 x0 i3l2) w3 fun x12 w4 =>
 pN Tryd.prog (oBin .eql 5 (.tmp 12) (.const (.int .u8 0)) x12 (bv 0)) w4 fun x13 w5 =>
 pIf x13
 (pN Tryd.prog (oSl 9 x0 none (some i3l2) none) w5 fun x16 w6 =>
 Q x16 w6)
 (pN Tryd.prog (oBin .add 3 (.tmp 8) (.const (.int .i64 1)) i3l2 (.int .i64 1)) w5 fun x9 w7 =>
 (L2 x9 w7 ∧ m2 x9 w7 < m2 i3l2 w1)))
 (Q x0 w3)
noncomputable def pithref33_text.c : Code := match Tryd.f68.body with | some c => c | none => .skip
theorem pithref33_text.eq [Pan] (x0 : Value) (w : World) (Q : Value → World → Prop) : cw Tryd.prog pithref33_text.H pithref33_text.c (endQ Tryd.prog Tryd.f68.results.toList Q) (argsE [x0]) w = pithref33_text.F x0 w Q := by kernel_rfl
theorem pithref33_text.calls [Pan] {x0 : Value} {w : World} {Q : Value → World → Prop} (h : pithref33_text.F x0 w Q) : Calls Tryd.prog 68 #[x0] w (retP Q) :=
  calls_of_cw (H := pithref33_text.H) (c := pithref33_text.c) (args := [x0]) mixed Tryd.func68 (by kernel_rfl) (by kernel_rfl) (Nat.le_of_ble_eq_true (by kernel_rfl)) ((pithref33_text.eq x0 w Q).mpr h)

/-! pithref33_number: pith/pithref33.number; temporaries: 0:s 1:s 3:v 4:i -/
def pithref33_number.H : Hints := { cut := fun  | _ => none, loop := fun | 3 => ([3, 4], 1073741820) | _ => ([], 0), order := fun  | _ => [] }
def pithref33_number.F [Pan] (x0 : Value) (w : World) (Q : Value → World → Prop) : Prop :=
 ∃ (L3 : Value → Value → World → Prop) (m3 : Value → Value → World → Nat),
 L3 (.int .i64 0) (.int .i64 0) w ∧
 ∀ (_k3 : Env) (v3l3 : Value) (i4l3 : Value) (w1 : World), L3 v3l3 i4l3 w1 →
 pN Tryd.prog (oBi .len #[9] 3 [false] [x0]) w1 fun x7 w2 =>
 pN Tryd.prog (oBin .sub 3 (.tmp 7) (.const (.int .i64 1)) x7 (.int .i64 1)) w2 fun x8 w3 =>
 pN Tryd.prog (oBin .lss 3 (.tmp 5) (.tmp 8) i4l3 x8) w3 fun x9 w4 =>
 pIf x9
 (pN Tryd.prog (oIndex 9 x0 i4l3) w4 fun x14 w5 =>
 pN Tryd.prog (oBin .lss 5 (.tmp 14) (.const (.int .u8 48)) x14 (bv 48)) w5 fun x15 w6 =>
 pGd (gB x15 false) (pN Tryd.prog (oMv x0) w6) w6 fun x17 w7 =>
 pGd (gB x15 false) (pN Tryd.prog (oMv i4l3) w7) w7 fun x18 w8 =>
 pGd (gB x15 false) (pN Tryd.prog (oIndex 9 x17 x18) w8) w8 fun x19 w9 =>
 pGd (gB x15 false) (pN Tryd.prog (oBin .gtr 5 (.tmp 19) (.const (.int .u8 55)) x19 (bv 55)) w9) w9 fun x20 w10 =>
 pN Tryd.prog (oPick x15 (.bool true) x20) w10 fun x21 w11 =>
 pIf x21
 (Q (.int .i64 (-1)) w11)
 (pN Tryd.prog (oBin .mul 3 (.const (.int .i64 8)) (.tmp 22) (.int .i64 8) v3l3) w11 fun x23 w12 =>
 pN Tryd.prog (oIndex 9 x0 i4l3) w12 fun x26 w13 =>
 pN Tryd.prog (oBin .sub 5 (.tmp 26) (.const (.int .u8 48)) x26 (bv 48)) w13 fun x27 w14 =>
 pN Tryd.prog (oConv 5 3 x27) w14 fun x28 w15 =>
 pN Tryd.prog (oBin .add 3 (.tmp 23) (.tmp 28) x23 x28) w15 fun x29 w16 =>
 pN Tryd.prog (oBin .add 3 (.tmp 10) (.const (.int .i64 1)) i4l3 (.int .i64 1)) w16 fun x11 w17 =>
 (L3 x29 x11 w17 ∧ m3 x29 x11 w17 < m3 v3l3 i4l3 w1)))
 (pN Tryd.prog (oBi .len #[9] 3 [false] [x0]) w4 fun x32 w18 =>
 pN Tryd.prog (oBin .sub 3 (.tmp 32) (.const (.int .i64 1)) x32 (.int .i64 1)) w18 fun x33 w19 =>
 pN Tryd.prog (oIndex 9 x0 x33) w19 fun x34 w20 =>
 pN Tryd.prog (oBin .neq 5 (.tmp 34) (.const (.int .u8 0)) x34 (bv 0)) w20 fun x35 w21 =>
 pIf x35
 (Q (.int .i64 (-1)) w21)
 (Q v3l3 w21))
noncomputable def pithref33_number.c : Code := match Tryd.f69.body with | some c => c | none => .skip
theorem pithref33_number.eq [Pan] (x0 : Value) (w : World) (Q : Value → World → Prop) : cw Tryd.prog pithref33_number.H pithref33_number.c (endQ Tryd.prog Tryd.f69.results.toList Q) (argsE [x0]) w = pithref33_number.F x0 w Q := by kernel_rfl
theorem pithref33_number.calls [Pan] {x0 : Value} {w : World} {Q : Value → World → Prop} (h : pithref33_number.F x0 w Q) : Calls Tryd.prog 69 #[x0] w (retP Q) :=
  calls_of_cw (H := pithref33_number.H) (c := pithref33_number.c) (args := [x0]) mixed Tryd.func69 (by kernel_rfl) (by kernel_rfl) (Nat.le_of_ble_eq_true (by kernel_rfl)) ((pithref33_number.eq x0 w Q).mpr h)

end Go.Proofs.YteeepkimnpabiaaDoor

namespace Go.Proofs.YteeepkimnpabiaaDoor
open Go
set_option linter.unusedSimpArgs false
set_option linter.unnecessarySimpa false
set_option linter.unusedSectionVars false
set_option linter.unusedVariables false

namespace A
/-- What a header's bytes add up to, whatever its length. -/
theorem sumTo_0 (l : List UInt8) : sumTo l 0 = 0 := rfl
theorem sumTo_next (l : List UInt8) (j : Nat) : sumTo l (j + 1) = sumTo l j + (if 148 ≤ j ∧ j < 156 then 32 else (l.getD j 0)).toNat := by
  rw [sumTo]
  split <;> rfl
theorem oct_0 (v : Int) : oct v 0 = [] := rfl
theorem byteOf_48 {d : Int} (h : 0 ≤ d ∧ d < 8) : byteOf (48 + d) = 48 + byteOf d := by
  apply UInt8.toNat_inj.1
  rw [UInt8.toNat_add, byteOf_nat, byteOf_nat]
  have : (48 : UInt8).toNat = 48 := rfl
  omega
theorem sub_48 {x : UInt8} (h1 : 48 ≤ x.toNat) (h2 : x.toNat ≤ 55) : ((x - 48).toNat : Int) = x.toNat % 8 := by
  have c : (48 : UInt8).toNat = 48 := rfl
  rw [UInt8.toNat_sub_of_le _ _ (UInt8.le_iff_toNat_le.2 (by rw [c]; exact h1)), c]
  omega
theorem num_0 (l : List UInt8) : num (l.take 0) = 0 := by rw [List.take_zero]; rfl
theorem num_take {l : List UInt8} {j : Nat} {x : UInt8} (h : l[j]? = some x) : num (l.take (j + 1)) = 8 * num (l.take j) + x.toNat % 8 := by
  rw [List.take_add_one, h]
  exact num_snoc _ _
theorem digs_take {l : List UInt8} {j : Nat} {x : UInt8} (h : l[j]? = some x) (hd : Digs (l.take j)) (d1 : 48 ≤ x.toNat) (d2 : x.toNat ≤ 55) : Digs (l.take (j + 1)) := fun c hc => by
  rw [List.take_add_one, h] at hc
  rcases List.mem_append.1 hc with hc | hc
  · exact hd c hc
  · obtain rfl : c = x := by simpa using hc
    exact ⟨UInt8.le_iff_toNat_le.2 d1, UInt8.le_iff_toNat_le.2 d2⟩
theorem numR_bad {l : List UInt8} {j : Nat} {x : UInt8} (h : l[j]? = some x) (hj : j < l.length - 1) (hx : ¬ (48 ≤ x.toNat ∧ x.toNat ≤ 55)) : numR l = -1 := by
  unfold numR
  rw [if_neg]
  rintro ⟨h1, _⟩
  have h2 := h1 x (List.mem_iff_getElem?.2 ⟨j, by rw [List.getElem?_take, if_pos hj]; exact h⟩)
  exact hx ⟨UInt8.le_iff_toNat_le.1 h2.1, UInt8.le_iff_toNat_le.1 h2.2⟩
theorem numR_good {l : List UInt8} (hd : Digs (l.take (l.length - 1))) (h : l.getD (l.length - 1) 0 = 0) : numR l = num (l.take (l.length - 1)) := by
  unfold numR
  rw [if_pos ⟨hd, h⟩]
theorem numR_end {l : List UInt8} {x : UInt8} (h : l.getD (l.length - 1) 0 = x) (hx : x ≠ 0) : numR l = -1 := by
  unfold numR
  rw [if_neg]
  rintro ⟨_, h2⟩
  exact hx (h.symm.trans h2)
theorem text_cons (c : UInt8) (l : List UInt8) : text (c :: l) = if c = 0 then [] else c :: text l := rfl
theorem has_take {l : List UInt8} {k : Nat} {x : UInt8} (h : l[k]? = some x) : l.take (k + 1) = l.take k ++ [x] := by rw [List.take_add_one, h]; rfl
theorem zero_take {l : List UInt8} {k : Nat} {x : UInt8} (h : l[k]? = some x) (hx : x ≠ 0) (h0 : 0 ∉ l.take k) : 0 ∉ l.take (k + 1) := by
  rw [has_take h]
  intro hm
  rcases List.mem_append.1 hm with hm | hm
  · exact h0 hm
  · exact hx (List.mem_singleton.1 hm).symm
theorem text_hit {l : List UInt8} {k : Nat} (h : l[k]? = some 0) (h0 : 0 ∉ l.take k) : text l = l.take k :=
  text_at h fun j hj he => h0 (List.mem_iff_getElem?.2 ⟨j, by rw [List.getElem?_take, if_pos hj]; exact he⟩)
theorem oct_snoc (v : Int) : ∀ n, oct v (n + 1) = oct (v / 8) n ++ [48 + byteOf (v % 8)]
  | 0 => by rw [oct_at]; simp [oct]
  | n + 1 => by
    rw [oct_at, oct_snoc v n, oct_at]
    have e : v / 8 ^ (n + 1) = v / 8 / 8 ^ n := by
      rw [Int.pow_succ, Int.mul_comm, ← Int.ediv_ediv_of_nonneg (by omega)]
    rw [e]
    rfl
end A

attribute [local irreducible] oMv oV oU oCall oCallV oBi oBin oUn oLoad oStore oNil oFld oField oIdx oIndex oPick oAlloc oBox oBuild oBs oConv oMk oSl oExt oFn oIface oMap oLook oMapUp oRange oNext oAssert oPanic oRes pN pA pL pDr pIf gA pGd Calls A.made A.header A.oct A.wrong A.padn A.putB A.fS A.num A.text A.sumTo A.sumOf
section
variable [Pan] {E w : World} {K Q : Value → World → Prop} {L M : List HA} {l r : List UInt8} {s s2 sl sl2 : Sl} {its ots : List T_api_Item}

theorem has_ok (hl : l.length ≤ 140737488355328) (hQ : Q (.bool (decide (0 ∈ l))) w) : Calls Tryd.prog 66 #[.string ⟨l.toArray⟩] w (retP Q) := by
  refine pithref33_has.calls ?_
  unfold pithref33_has.F
  refine ⟨fun i w' => ∃ k : Nat, k ≤ l.length ∧ i = .int .i64 k ∧ 0 ∉ l.take k ∧ w' = w, fun i _ => l.length - (RowKit.intOf i).toNat, ⟨0, Nat.zero_le _, rfl, by simp, rfl⟩, ?_⟩
  rintro _ _ _ ⟨k, hk, rfl, h0, rfl⟩
  by_cases hlt : k < l.length
  · obtain ⟨x, hx⟩ : ∃ x, l[k]? = some x := ⟨l[k], by simp [hlt]⟩
    by_cases hx0 : x = 0
    · subst hx0
      rw [decide_eq_true (List.mem_of_getElem? hx)] at hQ
      repeat' (first | refine pN_slen ?_ | refine pN_sidx _ (by first | rfl | (exact (Int.toNat_of_nonneg (by omega)).symm)) (by first | assumption | rfl) ?_ | (refine pN_lss_s ?_ ?_ <;> intro hc <;> try (exfalso; omega)) | (refine pN_eql_s ?_ ?_ <;> intro hc <;> try (exfalso; first | omega | exact hc rfl | exact hc (by assumption) | exact absurd hc (by assumption))) | refine pIf_t ?_ | fail)
      exact hQ
    · have hxi : ¬ (x.toNat : Int) = ((0 : UInt8).toNat : Int) := fun e => hx0 (UInt8.toNat_inj.1 (Int.ofNat_inj.1 e))
      repeat' (first | refine pN_slen ?_ | refine pN_sidx _ (by first | rfl | (exact (Int.toNat_of_nonneg (by omega)).symm)) (by first | assumption | rfl) ?_ | (refine pN_lss_s ?_ ?_ <;> intro hc <;> try (exfalso; omega)) | (refine pN_eql_s ?_ ?_ <;> intro hc <;> try (exfalso; first | omega | exact hc rfl | exact hc (by assumption) | exact absurd hc (by assumption))) | refine pIf_t ?_ | refine pIf_f ?_ | refine pN_via (by (intro K; simp (disch := omega) only [go_sem, pN_min, pN_max, w_u32, w_u64, Option.isNone_some, Option.isNone_none]; (try simp only [wrap_u32, wrap_u64]); rfl)) ?_ | fail)
      exact ⟨⟨k + 1, hlt, rfl, A.zero_take hx hx0 h0, rfl⟩, by simp [RowKit.intOf] <;> omega⟩
  · obtain rfl : k = l.length := by omega
    rw [List.take_length] at h0
    rw [decide_eq_false h0] at hQ
    repeat' (first | refine pN_slen ?_ | (refine pN_lss_s ?_ ?_ <;> intro hc <;> try (exfalso; omega)) | refine pIf_f ?_ | fail)
    exact hQ

theorem zeros_ok (n : Nat) (hn : n ≤ 140737488355328) (hS : Sat E w L) (hQ : ∀ w, Sat E w L → Q (.string ⟨(List.replicate n 0).toArray⟩) w) : Calls Tryd.prog 35 #[.int .i64 n] w (retP Q) := by
  refine pithref33_zeros.calls ?_
  unfold pithref33_zeros.F
  refine pN_mk (C := cd_uint8) hS n rfl (by omega) ?_
  clear hS
  intro s w hS
  have hz : cd_uint8.zero = 0 := rfl
  rw [hz] at hS
  repeat' (first | refine pN_st hS (by rw [List.length_replicate]) ?_ | fail)
  exact hQ _ hS.to

theorem filled_ok (n : Nat) (hl : l.length ≤ n) (hn : n ≤ 140737488355328) (hS : Sat E w L) (hQ : ∀ w, Sat E w L → Q (.string ⟨(A.fill l n).toArray⟩) w) : Calls Tryd.prog 67 #[.string ⟨l.toArray⟩, .int .i64 n] w (retP Q) := by
  refine pithref33_filled.calls ?_
  unfold pithref33_filled.F
  have e : (n : Int) - (l.length : Int) = ((n - l.length : Nat) : Int) := by omega
  repeat' (first | refine pN_slen ?_ | refine pN_via (by (intro K; simp (disch := omega) only [go_sem, pN_min, pN_max, w_u32, w_u64, Option.isNone_some, Option.isNone_none]; (try simp only [wrap_u32, wrap_u64]); rfl)) ?_ | fail)
  rw [e]
  refine pc_pithref33_zeros (zeros_ok _ (by omega) hS fun w hS => ?_)
  have hf : A.fill l n = l ++ List.replicate (n - l.length) 0 := rfl
  rw [hf] at hQ
  have hrl : (List.replicate (n - l.length) (0 : UInt8)).length = n - l.length := List.length_replicate
  generalize List.replicate (n - l.length) (0 : UInt8) = z at *
  repeat' (first | refine pN_sadd (by first | omega | (simp only [go_sem]; omega)) ?_ | fail)
  exact hQ _ hS

theorem gap_ok (n : Nat) (hn : n ≤ 140737488355328) (hQ : Q (.int .i64 (A.padn n : Nat)) w) : Calls Tryd.prog 36 #[.int .i64 n] w (retP Q) := by
  refine pithref33_gap.calls ?_
  unfold pithref33_gap.F
  have hp : A.padn n = (512 - n % 512) % 512 := by unfold A.padn; rfl
  generalize A.padn n = p at *
  refine ⟨fun k w' => ∃ j : Nat, j ≤ p ∧ k = .int .i64 j ∧ w' = w, fun k _ => p - (RowKit.intOf k).toNat, ⟨0, Nat.zero_le _, rfl, rfl⟩, ?_⟩
  rintro _ _ _ ⟨j, hj, rfl, rfl⟩
  by_cases hlt : j = p
  · subst hlt
    repeat' (first | (refine pN_neq_s ?_ ?_ <;> intro hc <;> try (exfalso; first | omega | exact hc rfl | exact hc (by assumption) | exact absurd hc (by assumption))) | refine pIf_f ?_ | refine pN_via (by (intro K; simp (disch := omega) only [go_sem, pN_min, pN_max, w_u32, w_u64, Option.isNone_some, Option.isNone_none]; (try simp only [wrap_u32, wrap_u64]); rfl)) ?_ | fail)
    exact hQ
  · repeat' (first | (refine pN_neq_s ?_ ?_ <;> intro hc <;> try (exfalso; first | omega | exact hc rfl | exact hc (by assumption) | exact absurd hc (by assumption))) | refine pIf_t ?_ | refine pN_via (by (intro K; simp (disch := omega) only [go_sem, pN_min, pN_max, w_u32, w_u64, Option.isNone_some, Option.isNone_none]; (try simp only [wrap_u32, wrap_u64]); rfl)) ?_ | fail)
    exact ⟨⟨j + 1, by omega, rfl, rfl⟩, by simp [RowKit.intOf] <;> omega⟩

theorem text_ok' (hl : l.length ≤ 140737488355328) (hQ : Q (.string ⟨(A.text l).toArray⟩) w) : Calls Tryd.prog 68 #[.string ⟨l.toArray⟩] w (retP Q) := by
  refine pithref33_text.calls ?_
  unfold pithref33_text.F
  refine ⟨fun i w' => ∃ k : Nat, k ≤ l.length ∧ i = .int .i64 k ∧ 0 ∉ l.take k ∧ w' = w, fun i _ => l.length - (RowKit.intOf i).toNat, ⟨0, Nat.zero_le _, rfl, by simp, rfl⟩, ?_⟩
  rintro _ _ _ ⟨k, hk, rfl, h0, rfl⟩
  by_cases hlt : k < l.length
  · obtain ⟨x, hx⟩ : ∃ x, l[k]? = some x := ⟨l[k], by simp [hlt]⟩
    by_cases hx0 : x = 0
    · subst hx0
      rw [A.text_hit hx h0] at hQ
      repeat' (first | refine pN_slen ?_ | refine pN_sidx _ (by first | rfl | (exact (Int.toNat_of_nonneg (by omega)).symm)) (by first | assumption | rfl) ?_ | refine pN_sslh _ (by first | rfl | (exact (Int.toNat_of_nonneg (by omega)).symm)) (by first | omega | (simp only [go_sem]; omega)) ?_ | (refine pN_lss_s ?_ ?_ <;> intro hc <;> try (exfalso; omega)) | (refine pN_eql_s ?_ ?_ <;> intro hc <;> try (exfalso; first | omega | exact hc rfl | exact hc (by assumption) | exact absurd hc (by assumption))) | refine pIf_t ?_ | fail)
      exact hQ
    · have hxi : ¬ (x.toNat : Int) = ((0 : UInt8).toNat : Int) := fun e => hx0 (UInt8.toNat_inj.1 (Int.ofNat_inj.1 e))
      repeat' (first | refine pN_slen ?_ | refine pN_sidx _ (by first | rfl | (exact (Int.toNat_of_nonneg (by omega)).symm)) (by first | assumption | rfl) ?_ | (refine pN_lss_s ?_ ?_ <;> intro hc <;> try (exfalso; omega)) | (refine pN_eql_s ?_ ?_ <;> intro hc <;> try (exfalso; first | omega | exact hc rfl | exact hc (by assumption) | exact absurd hc (by assumption))) | refine pIf_t ?_ | refine pIf_f ?_ | refine pN_via (by (intro K; simp (disch := omega) only [go_sem, pN_min, pN_max, w_u32, w_u64, Option.isNone_some, Option.isNone_none]; (try simp only [wrap_u32, wrap_u64]); rfl)) ?_ | fail)
      exact ⟨⟨k + 1, hlt, rfl, A.zero_take hx hx0 h0, rfl⟩, by simp [RowKit.intOf] <;> omega⟩
  · obtain rfl : k = l.length := by omega
    rw [List.take_length] at h0
    rw [A.text_none h0] at hQ
    repeat' (first | refine pN_slen ?_ | (refine pN_lss_s ?_ ?_ <;> intro hc <;> try (exfalso; omega)) | refine pIf_f ?_ | fail)
    exact hQ

theorem sum_ok' (hl : l.length = 512) (hQ : Q (.int .i64 (A.sumOf l : Nat)) w) : Calls Tryd.prog 38 #[.string ⟨l.toArray⟩] w (retP Q) := by
  refine pithref33_sum.calls ?_
  unfold pithref33_sum.F
  have hso : A.sumOf l = A.sumTo l 512 := by unfold A.sumOf; rfl
  refine ⟨fun n i w' => ∃ k : Nat, k ≤ 512 ∧ n = .int .i64 (A.sumTo l k : Nat) ∧ i = .int .i64 k ∧ w' = w, fun _ i _ => 512 - (RowKit.intOf i).toNat, ⟨0, Nat.zero_le _, by rw [A.sumTo_0]; rfl, rfl, rfl⟩, ?_⟩
  rintro _ _ _ w1 ⟨k, hk, rfl, rfl, rfl⟩
  by_cases hlt : k < 512
  · obtain ⟨x, hx⟩ : ∃ x, l[k]? = some x := ⟨l[k]'(by omega), by simp⟩
    have hd : l.getD k 0 = x := by rw [List.getD_eq_getElem?_getD, hx]; rfl
    have hst := A.sumTo_next l k
    have hbd := A.sumTo_bd l k
    have hb2 := A.sumTo_bd l (k + 1)
    rw [hd] at hst
    have hx8 := x.toNat_lt
    repeat' (first | refine pN_slen ?_ | (refine pN_lss_s ?_ ?_ <;> intro hc <;> try (exfalso; omega)) | refine pIf_t ?_ | fail)
    refine ⟨fun v w' => v = .int .i64 (A.sumTo l (k + 1) : Nat) ∧ w' = w1, ?_, ?_⟩
    · generalize A.sumTo l (k + 1) = n1 at *
      generalize A.sumTo l k = n0 at *
      by_cases hc : 148 ≤ k ∧ k < 156
      · rw [if_pos hc] at hst
        obtain ⟨hc1, hc2⟩ := hc
        have h32 : (32 : UInt8).toNat = 32 := rfl
        repeat' (first | ((first | refine pN_lss_s ?_ ?_ | refine pN_geq_s ?_ ?_) <;> intro hc <;> try (exfalso; omega)) | refine pIf_t ?_ | refine pGd_go (by rfl) ?_ | refine pN_via (by (intro K; simp (disch := omega) only [go_sem, pN_min, pN_max, w_u32, w_u64, Option.isNone_some, Option.isNone_none]; (try simp only [wrap_u32, wrap_u64]); rfl)) ?_ | fail)
        exact ⟨congrArg (Value.int .i64) (by omega), rfl⟩
      · rw [if_neg hc] at hst
        have hc3 : k < 148 ∨ 156 ≤ k := by omega
        repeat' (first | refine pN_sidx _ (by first | rfl | (exact (Int.toNat_of_nonneg (by omega)).symm)) (by first | assumption | rfl) ?_ | ((first | refine pN_lss_s ?_ ?_ | refine pN_geq_s ?_ ?_) <;> intro hc <;> try (exfalso; omega)) | refine pIf_f ?_ | refine pGd_go (by rfl) ?_ | refine pGd_no (by rfl) ?_ | refine pN_ofb ?_ | refine pN_via (by (intro K; simp (disch := omega) only [go_sem, pN_min, pN_max, w_u32, w_u64, Option.isNone_some, Option.isNone_none]; (try simp only [wrap_u32, wrap_u64]); rfl)) ?_ | fail)
        all_goals exact ⟨congrArg (Value.int .i64) (by omega), rfl⟩
    · rintro _ _ _ ⟨rfl, rfl⟩
      repeat' (first | refine pN_via (by (intro K; simp (disch := omega) only [go_sem, pN_min, pN_max, w_u32, w_u64, Option.isNone_some, Option.isNone_none]; (try simp only [wrap_u32, wrap_u64]); rfl)) ?_ | fail)
      exact ⟨⟨k + 1, hlt, rfl, rfl, rfl⟩, by simp [RowKit.intOf] <;> omega⟩
  · obtain rfl : k = 512 := by omega
    rw [hso] at hQ
    repeat' (first | refine pN_slen ?_ | (refine pN_lss_s ?_ ?_ <;> intro hc <;> try (exfalso; omega)) | refine pIf_f ?_ | fail)
    exact hQ

set_option maxHeartbeats 1000000 in
theorem octal_ok' (v : Int) (n : Nat) (h0 : 0 ≤ v) (h1 : v < 9223372036854775808) (hn : n ≤ 20) (hS : Sat E w L) (hQ : ∀ w, Sat E w L → Q (.string ⟨(A.oct v n).toArray⟩) w) :
    Calls Tryd.prog 37 #[.int .i64 v, .int .i64 n] w (retP Q) := by
  refine pithref33_octal.calls ?_
  unfold pithref33_octal.F
  refine ⟨fun a o i w => ∃ j : Nat, j ≤ n ∧ a = .int .i64 (v / 8 ^ j) ∧ o = .string ⟨(A.oct v j).toArray⟩ ∧ i = .int .i64 j ∧ Sat E w L, fun _ _ i _ => n - (RowKit.intOf i).toNat,
    ⟨0, Nat.zero_le _, by rw [Int.pow_zero, Int.ediv_one], by rw [A.oct_0], rfl, hS⟩, ?_⟩
  clear hS
  rintro _ _ _ _ w ⟨j, hj, rfl, rfl, rfl, hS⟩
  by_cases hlt : j < n
  · have e8 : v / 8 ^ (j + 1) = v / 8 ^ j / 8 := by rw [Int.pow_succ, Int.ediv_ediv_of_nonneg (Int.pow_nonneg (by omega))]
    have hp : (0 : Int) < 8 ^ j := Int.pow_pos (by omega)
    have hv0 : 0 ≤ v / 8 ^ j := Int.ediv_nonneg h0 (Int.le_of_lt hp)
    have hv1 : v / 8 ^ j ≤ v := Int.ediv_le_self _ h0
    have hoc := A.oct_at v j
    have hol := A.oct_len v j
    generalize v / 8 ^ j = vj at *
    generalize A.oct v j = oj at *
    have eb := A.byteOf_48 (d := vj % 8) (by omega)
    repeat' (first | refine pN_sadd (by first | omega | (simp only [go_sem]; omega)) ?_ | (refine pN_lss_s ?_ ?_ <;> intro hc <;> try (exfalso; omega)) | refine pIf_t ?_ | refine pN_tob ?_ | (refine pN_b1 hS (by rfl) (by decide) ?_; clear hS; intro s w hS) | refine pN_st hS (by first | rfl | omega | simpa only [go_sem] using True.intro | (simp only [go_sem]; omega)) ?_ | refine pN_via (by (intro K; simp (disch := omega) only [go_sem, pN_min, pN_max, w_u32, w_u64, Option.isNone_some, Option.isNone_none]; (try simp only [wrap_u32, wrap_u64]); rfl)) ?_ | fail)
    rw [eb, List.singleton_append, ← hoc, ← e8]
    exact ⟨⟨j + 1, hlt, rfl, rfl, rfl, hS.to⟩, by simp [RowKit.intOf] <;> omega⟩
  · obtain rfl : j = n := by omega
    repeat' (first | (refine pN_lss_s ?_ ?_ <;> intro hc <;> try (exfalso; omega)) | refine pIf_f ?_ | fail)
    exact hQ _ hS

set_option maxHeartbeats 1000000 in
theorem number_ok' (h0 : 0 < l.length) (hl : l.length ≤ 20) (hQ : Q (.int .i64 (A.numR l)) w) : Calls Tryd.prog 69 #[.string ⟨l.toArray⟩] w (retP Q) := by
  refine pithref33_number.calls ?_
  unfold pithref33_number.F
  refine ⟨fun a i w' => ∃ j : Nat, j ≤ l.length - 1 ∧ a = .int .i64 (A.num (l.take j)) ∧ i = .int .i64 j ∧ A.Digs (l.take j) ∧ w' = w, fun _ i _ => l.length - (RowKit.intOf i).toNat, ⟨0, Nat.zero_le _, by rw [A.num_0], rfl, fun c hc => by simp at hc, rfl⟩, ?_⟩
  rintro _ _ _ w1 ⟨j, hj, rfl, rfl, hd, rfl⟩
  by_cases hlt : j < l.length - 1
  · obtain ⟨x, hx⟩ : ∃ x, l[j]? = some x := ⟨l[j]'(by omega), by simp⟩
    have hb := A.num_bd j (l.take j) (by rw [List.length_take]; omega)
    have hp8 : (8 : Int) ^ j ≤ 8 ^ 19 := by
      norm_cast
      exact Nat.pow_le_pow_right (by omega) (by omega)
    have e19 : (8 : Int) ^ 19 = 144115188075855872 := by decide
    have hx8 := x.toNat_lt
    have c48 : (48 : UInt8).toNat = 48 := rfl
    have c55 : (55 : UInt8).toNat = 55 := rfl
    have hnt := A.num_take hx
    by_cases hdx : 48 ≤ x.toNat ∧ x.toNat ≤ 55
    · obtain ⟨d1, d2⟩ := hdx
      have hdn : A.Digs (l.take (j + 1)) := A.digs_take hx hd d1 d2
      have hx48 : ((x - 48).toNat : Int) = x.toNat % 8 := A.sub_48 d1 d2
      repeat' (first | refine pN_slen ?_ | refine pN_sidx _ (by first | rfl | (exact (Int.toNat_of_nonneg (by omega)).symm)) (by first | assumption | rfl) ?_ | ((first | refine pN_lss_s ?_ ?_ | refine pN_gtr_s ?_ ?_) <;> intro hc <;> try (exfalso; omega)) | refine pIf_t ?_ | refine pIf_f ?_ | refine pGd_go (by rfl) ?_ | refine pN_ofb ?_ | refine pN_via (by (intro K; simp (disch := omega) only [go_sem, pN_min, pN_max, w_u32, w_u64, Option.isNone_some, Option.isNone_none]; (try simp only [wrap_u32, wrap_u64]); rfl)) ?_ | fail)
      rw [hx48, ← hnt]
      exact ⟨⟨j + 1, by omega, rfl, rfl, hdn, rfl⟩, by simp [RowKit.intOf] <;> omega⟩
    · rw [A.numR_bad hx hlt hdx] at hQ
      repeat' (first | refine pN_slen ?_ | refine pN_sidx _ (by first | rfl | (exact (Int.toNat_of_nonneg (by omega)).symm)) (by first | assumption | rfl) ?_ | ((first | refine pN_lss_s ?_ ?_ | refine pN_gtr_s ?_ ?_) <;> intro hc <;> try (exfalso; omega)) | refine pIf_t ?_ | refine pGd_go (by rfl) ?_ | refine pGd_no (by rfl) ?_ | refine pN_via (by (intro K; simp (disch := omega) only [go_sem, pN_min, pN_max, w_u32, w_u64, Option.isNone_some, Option.isNone_none]; (try simp only [wrap_u32, wrap_u64]); rfl)) ?_ | fail)
      all_goals exact hQ
  · obtain rfl : j = l.length - 1 := by omega
    obtain ⟨x, hx⟩ : ∃ x, l[l.length - 1]? = some x := ⟨l[l.length - 1]'(by omega), by simp⟩
    have hgd : l.getD (l.length - 1) 0 = x := by rw [List.getD_eq_getElem?_getD, hx]; rfl
    have hxt : l[((l.length : Int) - 1).toNat]? = some x := by rw [show ((l.length : Int) - 1).toNat = l.length - 1 from by omega]; exact hx
    by_cases hx0 : x = 0
    · subst hx0
      rw [A.numR_good hd hgd] at hQ
      repeat' (first | refine pN_slen ?_ | refine pN_sidx _ (by first | rfl | (exact (Int.toNat_of_nonneg (by omega)).symm)) (by first | assumption | rfl) ?_ | (refine pN_lss_s ?_ ?_ <;> intro hc <;> try (exfalso; omega)) | (refine pN_neq_s ?_ ?_ <;> intro hc <;> try (exfalso; first | omega | exact hc rfl | exact hc (by assumption) | exact absurd hc (by assumption))) | refine pIf_f ?_ | refine pN_via (by (intro K; simp (disch := omega) only [go_sem, pN_min, pN_max, w_u32, w_u64, Option.isNone_some, Option.isNone_none]; (try simp only [wrap_u32, wrap_u64]); rfl)) ?_ | fail)
      exact hQ
    · rw [A.numR_end hgd hx0] at hQ
      have hxi : ¬ (x.toNat : Int) = ((0 : UInt8).toNat : Int) := fun e => hx0 (UInt8.toNat_inj.1 (Int.ofNat_inj.1 e))
      repeat' (first | refine pN_slen ?_ | refine pN_sidx _ (by first | rfl | (exact (Int.toNat_of_nonneg (by omega)).symm)) (by first | assumption | rfl) ?_ | (refine pN_lss_s ?_ ?_ <;> intro hc <;> try (exfalso; omega)) | (refine pN_neq_s ?_ ?_ <;> intro hc <;> try (exfalso; first | omega | exact hc rfl | exact hc (by assumption) | exact absurd hc (by assumption))) | refine pIf_t ?_ | refine pIf_f ?_ | refine pN_via (by (intro K; simp (disch := omega) only [go_sem, pN_min, pN_max, w_u32, w_u64, Option.isNone_some, Option.isNone_none]; (try simp only [wrap_u32, wrap_u64]); rfl)) ?_ | fail)
      exact hQ

set_option maxHeartbeats 1000000 in
theorem Cut_ok' (hl : l.length ≤ 140737488355328) (hS : Sat E w L) (hQ : ∀ w, Sat E w L → Q (.tuple #[.string ⟨(A.parted l).1.toArray⟩, .string ⟨(A.parted l).2.1.toArray⟩, .bool (A.parted l).2.2]) w) :
    Calls Tryd.prog 65 #[.string ⟨l.toArray⟩] w (retP Q) := by
  refine pithref33_Cut.calls ?_
  unfold pithref33_Cut.F
  have e0 : (.string ⟨#[]⟩ : Value) = .string ⟨List.toArray []⟩ := rfl
  rw [e0]
  by_cases h1 : l = [] ∨ 0 ∈ l
  · have hp : A.parted l = ([], [], false) := by rw [A.parted, if_pos h1]
    rw [hp] at hQ
    by_cases h2 : l = []
    · repeat' (first | (refine pN_eql_ss ?_ ?_ <;> intro hc <;> try (exfalso; first | omega | exact hc rfl | exact hc (by assumption) | exact absurd hc (by assumption))) | refine pIf_t ?_ | refine pGd_no (by rfl) ?_ | refine pN_via (by (intro K; simp (disch := omega) only [go_sem, pN_min, pN_max, w_u32, w_u64, Option.isNone_some, Option.isNone_none]; (try simp only [wrap_u32, wrap_u64]); rfl)) ?_ | fail)
      all_goals exact hQ _ hS
    · have h3 : decide (0 ∈ l) = true := decide_eq_true (h1.resolve_left h2)
      repeat' (first | (refine pc_pithref33_has (has_ok hl ?_); rw [h3]) | (refine pN_eql_ss ?_ ?_ <;> intro hc <;> try (exfalso; first | omega | exact hc rfl | exact hc (by assumption) | exact absurd hc (by assumption))) | refine pIf_t ?_ | refine pGd_go (by rfl) ?_ | refine pN_via (by (intro K; simp (disch := omega) only [go_sem, pN_min, pN_max, w_u32, w_u64, Option.isNone_some, Option.isNone_none]; (try simp only [wrap_u32, wrap_u64]); rfl)) ?_ | fail)
      all_goals exact hQ _ hS
  have h2 : ¬ l = [] := fun e => h1 (.inl e)
  have h3 : decide (0 ∈ l) = false := decide_eq_false fun e => h1 (.inr e)
  by_cases h4 : l.length ≤ 100
  · have hp : A.parted l = ([], l, true) := by rw [A.parted, if_neg h1, if_pos h4]
    rw [hp] at hQ
    repeat' (first | (refine pc_pithref33_has (has_ok hl ?_); rw [h3]) | refine pN_slen ?_ | (refine pN_leq_s ?_ ?_ <;> intro hc <;> try (exfalso; omega)) | (refine pN_eql_ss ?_ ?_ <;> intro hc <;> try (exfalso; first | omega | exact hc rfl | exact hc (by assumption) | exact absurd hc (by assumption))) | refine pIf_t ?_ | refine pIf_f ?_ | refine pGd_go (by rfl) ?_ | refine pN_via (by (intro K; simp (disch := omega) only [go_sem, pN_min, pN_max, w_u32, w_u64, Option.isNone_some, Option.isNone_none]; (try simp only [wrap_u32, wrap_u64]); rfl)) ?_ | fail)
    all_goals exact hQ _ hS
  have hpn : A.slash l (max 1 (l.length - 101)) = none → A.parted l = ([], [], false) := fun e => by rw [A.parted, if_neg h1, if_neg h4, e]
  have hps : ∀ i, A.slash l (max 1 (l.length - 101)) = some i → A.parted l = (l.take i, l.drop (i + 1), decide (i ≤ 155 ∧ i + 1 < l.length)) := fun i e => by rw [A.parted, if_neg h1, if_neg h4, e]
  generalize hm0 : max 1 (l.length - 101) = m0 at *
  repeat' (first | (refine pc_pithref33_has (has_ok hl ?_); rw [h3]) | refine pN_slen ?_ | (refine pN_leq_s ?_ ?_ <;> intro hc <;> try (exfalso; omega)) | (refine pN_eql_ss ?_ ?_ <;> intro hc <;> try (exfalso; first | omega | exact hc rfl | exact hc (by assumption) | exact absurd hc (by assumption))) | refine pIf_f ?_ | refine pGd_go (by rfl) ?_ | refine pN_via (by (intro K; simp (disch := omega) only [go_sem, pN_min, pN_max, w_u32, w_u64, Option.isNone_some, Option.isNone_none]; (try simp only [wrap_u32, wrap_u64]); rfl)) ?_ | fail)
  refine ⟨fun v w' => ∃ i : Nat, v = .int .i64 i ∧ 1 ≤ i ∧ i ≤ l.length ∧ A.slash l m0 = A.slash l (max i m0) ∧ Sat E w' L, fun v _ => l.length - (RowKit.intOf v).toNat, ⟨1, rfl, Nat.le_refl _, by omega, by rw [show max 1 m0 = m0 from by omega], hS⟩, ?_⟩
  clear hS
  rintro _ _ w1 ⟨i, rfl, hi, hi2, hsl, hS⟩
  by_cases hlt : i < l.length
  · obtain ⟨x, hx⟩ : ∃ x, l[i]? = some x := ⟨l[i]'hlt, by simp⟩
    have hnext : ¬ (x = 47 ∧ m0 ≤ i) → A.slash l m0 = A.slash l (max (i + 1) m0) := fun hn => by
      by_cases hmi : m0 ≤ i
      · rw [hsl, show max i m0 = i from by omega, A.slash_miss hx fun e => hn ⟨e, hmi⟩, show max (i + 1) m0 = i + 1 from by omega]
      · rw [show max (i + 1) m0 = m0 from by omega]
    by_cases h47 : x = 47
    · subst h47
      by_cases hmi : m0 ≤ i
      · rw [show max i m0 = i from by omega, A.slash_hit hx] at hsl
        rw [hps _ hsl] at hQ
        by_cases h5 : i ≤ 155
        · by_cases h6 : i + 1 < l.length
          · rw [decide_eq_true ⟨h5, h6⟩] at hQ
            repeat' (first | refine pN_slen ?_ | refine pA_slen ?_ | refine pN_sidx _ (by first | rfl | (exact (Int.toNat_of_nonneg (by omega)).symm)) (by first | assumption | rfl) ?_ | refine pA_ssl1 _ (by first | rfl | (exact (Int.toNat_of_nonneg (by omega)).symm)) (by first | omega | (simp only [go_sem]; omega)) ?_ | refine pA_sslh _ (by first | rfl | (exact (Int.toNat_of_nonneg (by omega)).symm)) (by first | omega | (simp only [go_sem]; omega)) ?_ | ((first | refine pN_lss_s ?_ ?_ | refine pA_lss_s ?_ ?_ | refine pN_leq_s ?_ ?_ | refine pA_leq_s ?_ ?_) <;> intro hc <;> try (exfalso; omega)) | (refine pN_eql_s ?_ ?_ <;> intro hc <;> try (exfalso; first | omega | exact hc rfl | exact hc (by assumption) | exact absurd hc (by assumption))) | refine pIf_t ?_ | refine gA_go (by rfl) ?_ | refine pGd_go (by rfl) ?_ | (refine pDr_go hS ?_; clear hS; intro w hS) | refine pN_via (by (intro K; simp (disch := omega) only [go_sem, pN_min, pN_max, w_u32, w_u64, Option.isNone_some, Option.isNone_none]; (try simp only [wrap_u32, wrap_u64]); rfl)) ?_ | refine pA_via (by (intro K; simp (disch := omega) only [go_sem, pN_min, pN_max, w_u32, w_u64, Option.isNone_some, Option.isNone_none]; (try simp only [wrap_u32, wrap_u64]); rfl)) ?_ | fail)
            exact hQ _ hS
          · rw [decide_eq_false (fun h => h6 h.2)] at hQ
            repeat' (first | refine pN_slen ?_ | refine pA_slen ?_ | refine pN_sidx _ (by first | rfl | (exact (Int.toNat_of_nonneg (by omega)).symm)) (by first | assumption | rfl) ?_ | refine pA_ssl1 _ (by first | rfl | (exact (Int.toNat_of_nonneg (by omega)).symm)) (by first | omega | (simp only [go_sem]; omega)) ?_ | refine pA_sslh _ (by first | rfl | (exact (Int.toNat_of_nonneg (by omega)).symm)) (by first | omega | (simp only [go_sem]; omega)) ?_ | ((first | refine pN_lss_s ?_ ?_ | refine pA_lss_s ?_ ?_ | refine pN_leq_s ?_ ?_ | refine pA_leq_s ?_ ?_) <;> intro hc <;> try (exfalso; omega)) | (refine pN_eql_s ?_ ?_ <;> intro hc <;> try (exfalso; first | omega | exact hc rfl | exact hc (by assumption) | exact absurd hc (by assumption))) | refine pIf_t ?_ | refine gA_go (by rfl) ?_ | refine pGd_go (by rfl) ?_ | (refine pDr_go hS ?_; clear hS; intro w hS) | refine pN_via (by (intro K; simp (disch := omega) only [go_sem, pN_min, pN_max, w_u32, w_u64, Option.isNone_some, Option.isNone_none]; (try simp only [wrap_u32, wrap_u64]); rfl)) ?_ | refine pA_via (by (intro K; simp (disch := omega) only [go_sem, pN_min, pN_max, w_u32, w_u64, Option.isNone_some, Option.isNone_none]; (try simp only [wrap_u32, wrap_u64]); rfl)) ?_ | fail)
            exact hQ _ hS
        · rw [decide_eq_false (fun h => h5 h.1)] at hQ
          repeat' (first | refine pN_slen ?_ | refine pN_sidx _ (by first | rfl | (exact (Int.toNat_of_nonneg (by omega)).symm)) (by first | assumption | rfl) ?_ | refine pA_ssl1 _ (by first | rfl | (exact (Int.toNat_of_nonneg (by omega)).symm)) (by first | omega | (simp only [go_sem]; omega)) ?_ | refine pA_sslh _ (by first | rfl | (exact (Int.toNat_of_nonneg (by omega)).symm)) (by first | omega | (simp only [go_sem]; omega)) ?_ | ((first | refine pN_lss_s ?_ ?_ | refine pN_leq_s ?_ ?_ | refine pA_leq_s ?_ ?_) <;> intro hc <;> try (exfalso; omega)) | (refine pN_eql_s ?_ ?_ <;> intro hc <;> try (exfalso; first | omega | exact hc rfl | exact hc (by assumption) | exact absurd hc (by assumption))) | refine pIf_t ?_ | refine gA_no (by rfl) ?_ | refine pGd_go (by rfl) ?_ | (refine pDr_go hS ?_; clear hS; intro w hS) | refine pN_via (by (intro K; simp (disch := omega) only [go_sem, pN_min, pN_max, w_u32, w_u64, Option.isNone_some, Option.isNone_none]; (try simp only [wrap_u32, wrap_u64]); rfl)) ?_ | refine pA_via (by (intro K; simp (disch := omega) only [go_sem, pN_min, pN_max, w_u32, w_u64, Option.isNone_some, Option.isNone_none]; (try simp only [wrap_u32, wrap_u64]); rfl)) ?_ | fail)
          exact hQ _ hS
      · have hn := hnext fun h => hmi h.2
        repeat' (first | refine pN_slen ?_ | refine pN_sidx _ (by first | rfl | (exact (Int.toNat_of_nonneg (by omega)).symm)) (by first | assumption | rfl) ?_ | ((first | refine pN_lss_s ?_ ?_ | refine pN_leq_s ?_ ?_) <;> intro hc <;> try (exfalso; omega)) | (refine pN_eql_s ?_ ?_ <;> intro hc <;> try (exfalso; first | omega | exact hc rfl | exact hc (by assumption) | exact absurd hc (by assumption))) | refine pIf_t ?_ | refine pIf_f ?_ | refine pGd_go (by rfl) ?_ | refine pN_via (by (intro K; simp (disch := omega) only [go_sem, pN_min, pN_max, w_u32, w_u64, Option.isNone_some, Option.isNone_none]; (try simp only [wrap_u32, wrap_u64]); rfl)) ?_ | fail)
        exact ⟨⟨i + 1, rfl, by omega, by omega, hn, hS⟩, by simp [RowKit.intOf] <;> omega⟩
    · have h48 : ¬ (x.toNat : Int) = ((47 : UInt8).toNat : Int) := fun e => h47 (UInt8.toNat_inj.1 (by omega))
      have hn := hnext fun h => h47 h.1
      repeat' (first | refine pN_slen ?_ | refine pN_sidx _ (by first | rfl | (exact (Int.toNat_of_nonneg (by omega)).symm)) (by first | assumption | rfl) ?_ | (refine pN_lss_s ?_ ?_ <;> intro hc <;> try (exfalso; omega)) | (refine pN_eql_s ?_ ?_ <;> intro hc <;> try (exfalso; first | omega | exact hc rfl | exact hc (by assumption) | exact absurd hc (by assumption))) | refine pIf_t ?_ | refine pIf_f ?_ | refine pGd_no (by rfl) ?_ | refine pN_via (by (intro K; simp (disch := omega) only [go_sem, pN_min, pN_max, w_u32, w_u64, Option.isNone_some, Option.isNone_none]; (try simp only [wrap_u32, wrap_u64]); rfl)) ?_ | fail)
      exact ⟨⟨i + 1, rfl, by omega, by omega, hn, hS⟩, by simp [RowKit.intOf] <;> omega⟩
  · rw [A.slash_out (l := l) (i := max i m0) (by omega)] at hsl
    rw [hpn hsl] at hQ
    repeat' (first | refine pN_slen ?_ | (refine pN_lss_s ?_ ?_ <;> intro hc <;> try (exfalso; omega)) | refine pIf_f ?_ | fail)
    exact hQ _ hS
end
end Go.Proofs.YteeepkimnpabiaaDoor

namespace Go.Proofs.YteeepkimnpabiaaDoor
open Go
set_option linter.unusedSimpArgs false
set_option linter.unnecessarySimpa false
set_option linter.unusedSectionVars false
set_option linter.unusedVariables false

namespace A
theorem sum_blank {x : T_api_Item} (h : Fits x) (n : Int) : sumOf (front x n ++ [32, 32, 32, 32, 32, 32, 32, 32] ++ back x) = sumOf (made x n 12) := by
  have h1 := front_len h n
  unfold sumOf
  refine sumTo_congr 512 fun j hj hn => ?_
  rw [made_12 h n, List.append_assoc, List.append_assoc, getD_app, getD_app (a := front x n)]
  split
  · rfl
  · rw [h1, getD_app, getD_app (a := List.replicate 8 0), List.length_replicate]
    have e : ([32, 32, 32, 32, 32, 32, 32, 32] : List UInt8).length = 8 := rfl
    rw [e, if_neg (by omega), if_neg (by omega)]
theorem putB_eq (x : T_api_Item) : putB x = header x x.Data.2.length ++ x.Data.2 ++ List.replicate (padn (512 + x.Data.2.length)) 0 := rfl
theorem padn_lt (n : Nat) : padn n < 512 := by unfold padn; omega
theorem header_str (x : T_api_Item) (n : Int) : header x n = front x n ++ oct (sumOf (made x n 12)) 6 ++ [0, 32] ++ back x := by
  unfold header sumField
  simp only [List.append_assoc]
theorem front_str (x : T_api_Item) (n : Int) : front x n = fill (parted x.Name).2.1 100 ++ oct x.Mode 7 ++ [0] ++ (oct 0 7 ++ [0]) ++ (oct 0 7 ++ [0]) ++ oct n 11 ++ [0] ++ oct x.Time 11 ++ [0] := by
  unfold front
  simp only [List.append_assoc]
theorem back_str (x : T_api_Item) : back x = [letter x.Kind] ++ fill x.Link 100 ++ [117, 115, 116, 97, 114, 0, 48, 48] ++ List.replicate 64 0 ++ (oct 0 7 ++ [0]) ++ (oct 0 7 ++ [0]) ++ fill (parted x.Name).1 155 ++ List.replicate 12 0 := by
  unfold back
  simp only [List.append_assoc]
end A

attribute [local irreducible] oMv oV oU oCall oCallV oBi oBin oUn oLoad oStore oNil oFld oField oIdx oIndex oPick oAlloc oBox oBuild oBs oConv oMk oSl oExt oFn oIface oMap oLook oMapUp oRange oNext oAssert oPanic oRes pN pA pL pDr pIf gA pGd Calls A.made A.header A.oct A.wrong A.padn A.putB A.fS A.num A.text A.sumTo A.sumOf A.front A.back A.parted
section
variable [Pan] {E w : World} {K Q : Value → World → Prop} {L M : List HA} {l r : List UInt8} {s s2 sl sl2 : Sl} {its ots : List T_api_Item}

set_option maxHeartbeats 4000000 in
theorem Right_ok' (x : T_api_Item) (hn : x.Name.length ≤ 140737488355328) (hk : x.Link.length ≤ 140737488355328) (hS : Sat E w L) (hQ : ∀ w, Sat E w L → Q (.int .i64 (A.wrong x)) w) :
    Calls Tryd.prog 33 #[.agg x.enc.toArray] w (retP Q) := by
  refine pithref33_Right.calls ?_
  unfold pithref33_Right.F
  obtain ⟨name, link, kind, mode, time, data⟩ := x
  obtain ⟨w6, w8, w7, w0⟩ : (kind < 0 ∨ 3 ≤ kind ∨ (kind ≠ 2 ∧ link.length ≠ 0) ∨ (kind ≠ 0 ∧ 0 < data.2.length) → A.wrong ⟨name, link, kind, mode, time, data⟩ = 6) ∧
      (¬ (kind < 0 ∨ 3 ≤ kind ∨ (kind ≠ 2 ∧ link.length ≠ 0) ∨ (kind ≠ 0 ∧ 0 < data.2.length)) → ((A.parted name).2.2 = false ∨ (kind = 2 ∧ (link.length = 0 ∨ 100 < link.length ∨ 0 ∈ link))) → A.wrong ⟨name, link, kind, mode, time, data⟩ = 8) ∧
      (¬ (kind < 0 ∨ 3 ≤ kind ∨ (kind ≠ 2 ∧ link.length ≠ 0) ∨ (kind ≠ 0 ∧ 0 < data.2.length)) → ¬ ((A.parted name).2.2 = false ∨ (kind = 2 ∧ (link.length = 0 ∨ 100 < link.length ∨ 0 ∈ link))) → (mode < 0 ∨ 4096 ≤ mode ∨ time < 0 ∨ 8589934592 ≤ time ∨ 8589934592 ≤ data.2.length) → A.wrong ⟨name, link, kind, mode, time, data⟩ = 7) ∧
      (¬ (kind < 0 ∨ 3 ≤ kind ∨ (kind ≠ 2 ∧ link.length ≠ 0) ∨ (kind ≠ 0 ∧ 0 < data.2.length)) → ¬ ((A.parted name).2.2 = false ∨ (kind = 2 ∧ (link.length = 0 ∨ 100 < link.length ∨ 0 ∈ link))) → ¬ (mode < 0 ∨ 4096 ≤ mode ∨ time < 0 ∨ 8589934592 ≤ time ∨ 8589934592 ≤ data.2.length) → A.wrong ⟨name, link, kind, mode, time, data⟩ = 0) :=
    ⟨fun h => by rw [A.wrong, if_pos h], fun h h2 => by rw [A.wrong, if_neg h, if_pos h2], fun h h2 h3 => by rw [A.wrong, if_neg h, if_neg h2, if_pos h3], fun h h2 h3 => by rw [A.wrong, if_neg h, if_neg h2, if_neg h3]⟩
  dsimp only [T_api_Item.enc] at hn hk ⊢
  generalize A.wrong ⟨name, link, kind, mode, time, data⟩ = res at *
  have e0 : (.string ⟨#[]⟩ : Value) = .string ⟨List.toArray []⟩ := rfl
  rw [e0]
  have hlk : (link = [] ∧ link.length = 0) ∨ (¬ link = [] ∧ 0 < link.length) := by
    rcases link with _ | ⟨b, t⟩ <;> simp
  refine pN_bx hS (by rfl) ?_
  clear hS
  intro a w hS
  have hC := fun {K : Value → World → Prop} {w : World} (hS : Sat E w (cel a ⟨24, [.string ⟨name.toArray⟩, .string ⟨link.toArray⟩, .int .i64 kind, .int .i64 mode, .int .i64 time, .slice data.1.a data.2.length data.1.c]⟩ :: L)) => Cut_ok' (Q := K) hn hS
  generalize A.parted name = pn at *
  obtain ⟨p1, p2, p3⟩ := pn
  dsimp only at *
  have hH := fun {K : Value → World → Prop} {w : World} => has_ok (Q := K) (w := w) hk
  refine ⟨fun v w' => v = .bool (decide (kind < 0 ∨ 3 ≤ kind ∨ (kind ≠ 2 ∧ link.length ≠ 0) ∨ (kind ≠ 0 ∧ 0 < data.2.length))) ∧ Sat E w' (cel a ⟨24, [.string ⟨name.toArray⟩, .string ⟨link.toArray⟩, .int .i64 kind, .int .i64 mode, .int .i64 time, .slice data.1.a data.2.length data.1.c]⟩ :: L), ?_, ?_⟩
  · clear hQ w6 w8 w7 w0
    rcases hlk with ⟨hl0, hll⟩ | ⟨hl0, hll⟩
    all_goals
      repeat' (first | ((first | refine pN_lss_s ?_ ?_ | refine pN_gtr_s ?_ ?_) <;> intro hc <;> try (exfalso; omega)) | ((first | refine pN_neq_s ?_ ?_ | refine pN_neq_ss ?_ ?_) <;> intro hc <;> try (exfalso; first | omega | exact hc rfl | exact hc (by assumption) | exact absurd hc (by assumption))) | refine pGd_go (by rfl) ?_ | refine pGd_no (by rfl) ?_ | refine pN_l hS (by first | rfl | assumption) ?_ | refine pN_via (by (intro K; simp (disch := omega) only [go_sem, pN_min, pN_max, w_u32, w_u64, Option.isNone_some, Option.isNone_none]; (try simp only [wrap_u32, wrap_u64]); rfl)) ?_ | fail)
      all_goals first
        | exact ⟨congrArg Value.bool (decide_eq_true (by omega)).symm, hS⟩
        | exact ⟨congrArg Value.bool (decide_eq_false (by omega)).symm, hS⟩
  clear hS
  rintro _ _ w ⟨rfl, hS⟩
  by_cases C1 : kind < 0 ∨ 3 ≤ kind ∨ (kind ≠ 2 ∧ link.length ≠ 0) ∨ (kind ≠ 0 ∧ 0 < data.2.length)
  · rw [decide_eq_true C1]
    refine pIf_t ?_
    have := w6 C1
    subst this
    exact hQ _ hS.to
  rw [decide_eq_false C1]
  refine pIf_f ?_
  have w8 := w8 C1
  have w7 := w7 C1
  have w0 := w0 C1
  clear w6 C1
  repeat' (first | (refine pc_pithref33_Cut (hC hS ?_); clear hS; intro w hS) | refine pN_l hS (by first | rfl | assumption) ?_ | refine pN_via (by (intro K; simp (disch := omega) only [go_sem, pN_min, pN_max, w_u32, w_u64, Option.isNone_some, Option.isNone_none]; (try simp only [wrap_u32, wrap_u64]); rfl)) ?_ | fail)
  refine ⟨fun v w' => v = .bool (decide (p3 = false ∨ (kind = 2 ∧ (link.length = 0 ∨ 100 < link.length ∨ 0 ∈ link)))) ∧ Sat E w' (cel a ⟨24, [.string ⟨name.toArray⟩, .string ⟨link.toArray⟩, .int .i64 kind, .int .i64 mode, .int .i64 time, .slice data.1.a data.2.length data.1.c]⟩ :: L), ?_, ?_⟩
  · clear hQ w8 w7 w0
    cases p3
    · repeat' (first | refine pGd_no (by rfl) ?_ | refine pN_via (by (intro K; simp (disch := omega) only [go_sem, pN_min, pN_max, w_u32, w_u64, Option.isNone_some, Option.isNone_none]; (try simp only [wrap_u32, wrap_u64]); rfl)) ?_ | fail)
      exact ⟨congrArg Value.bool (decide_eq_true (.inl rfl)).symm, hS⟩
    · simp only [Bool.true_eq_false, false_or]
      by_cases hm0 : 0 ∈ link
      · have hm := decide_eq_true hm0
        simp only [hm0, or_true, and_true]
        rcases hlk with ⟨hl0, hll⟩ | ⟨hl0, hll⟩
        all_goals
          repeat' (first | (refine pc_pithref33_has (hH ?_); rw [hm]) | refine pN_slen ?_ | (refine pN_gtr_s ?_ ?_ <;> intro hc <;> try (exfalso; omega)) | ((first | refine pN_eql_s ?_ ?_ | refine pN_eql_ss ?_ ?_) <;> intro hc <;> try (exfalso; first | omega | exact hc rfl | exact hc (by assumption) | exact absurd hc (by assumption))) | refine pGd_go (by rfl) ?_ | refine pGd_no (by rfl) ?_ | refine pN_l hS (by first | rfl | assumption) ?_ | refine pN_via (by (intro K; simp (disch := omega) only [go_sem, pN_min, pN_max, w_u32, w_u64, Option.isNone_some, Option.isNone_none]; (try simp only [wrap_u32, wrap_u64]); rfl)) ?_ | fail)
          all_goals first
            | exact ⟨congrArg Value.bool (decide_eq_true (by omega)).symm, hS⟩
            | exact ⟨congrArg Value.bool (decide_eq_false (by omega)).symm, hS⟩
      · have hm := decide_eq_false hm0
        simp only [hm0, or_false]
        rcases hlk with ⟨hl0, hll⟩ | ⟨hl0, hll⟩
        all_goals
          repeat' (first | (refine pc_pithref33_has (hH ?_); rw [hm]) | refine pN_slen ?_ | (refine pN_gtr_s ?_ ?_ <;> intro hc <;> try (exfalso; omega)) | ((first | refine pN_eql_s ?_ ?_ | refine pN_eql_ss ?_ ?_) <;> intro hc <;> try (exfalso; first | omega | exact hc rfl | exact hc (by assumption) | exact absurd hc (by assumption))) | refine pGd_go (by rfl) ?_ | refine pGd_no (by rfl) ?_ | refine pN_l hS (by first | rfl | assumption) ?_ | refine pN_via (by (intro K; simp (disch := omega) only [go_sem, pN_min, pN_max, w_u32, w_u64, Option.isNone_some, Option.isNone_none]; (try simp only [wrap_u32, wrap_u64]); rfl)) ?_ | fail)
          all_goals first
            | exact ⟨congrArg Value.bool (decide_eq_true (by omega)).symm, hS⟩
            | exact ⟨congrArg Value.bool (decide_eq_false (by omega)).symm, hS⟩
  clear hS
  rintro _ _ w ⟨rfl, hS⟩
  by_cases C2 : p3 = false ∨ (kind = 2 ∧ (link.length = 0 ∨ 100 < link.length ∨ 0 ∈ link))
  · rw [decide_eq_true C2]
    refine pIf_t ?_
    have := w8 C2
    subst this
    exact hQ _ hS.to
  rw [decide_eq_false C2]
  refine pIf_f ?_
  have w7 := w7 C2
  have w0 := w0 C2
  clear w8 C2
  refine ⟨fun v w' => v = .bool (decide (mode < 0 ∨ 4096 ≤ mode ∨ time < 0 ∨ 8589934592 ≤ time ∨ 8589934592 ≤ data.2.length)) ∧ Sat E w' (cel a ⟨24, [.string ⟨name.toArray⟩, .string ⟨link.toArray⟩, .int .i64 kind, .int .i64 mode, .int .i64 time, .slice data.1.a data.2.length data.1.c]⟩ :: L), ?_, ?_⟩
  · clear hQ w7 w0
    repeat' (first | ((first | refine pN_lss_s ?_ ?_ | refine pN_gtr_s ?_ ?_) <;> intro hc <;> try (exfalso; omega)) | refine pGd_go (by rfl) ?_ | refine pGd_no (by rfl) ?_ | refine pN_l hS (by first | rfl | assumption) ?_ | refine pN_via (by (intro K; simp (disch := omega) only [go_sem, pN_min, pN_max, w_u32, w_u64, Option.isNone_some, Option.isNone_none]; (try simp only [wrap_u32, wrap_u64]); rfl)) ?_ | fail)
    all_goals first
      | exact ⟨congrArg Value.bool (decide_eq_true (by omega)).symm, hS⟩
      | exact ⟨congrArg Value.bool (decide_eq_false (by omega)).symm, hS⟩
  clear hS
  rintro _ _ w ⟨rfl, hS⟩
  by_cases C3 : mode < 0 ∨ 4096 ≤ mode ∨ time < 0 ∨ 8589934592 ≤ time ∨ 8589934592 ≤ data.2.length
  · rw [decide_eq_true C3]
    refine pIf_t ?_
    have := w7 C3
    subst this
    exact hQ _ hS.to
  · rw [decide_eq_false C3]
    refine pIf_f ?_
    have := w0 C3
    subst this
    exact hQ _ hS.to
end
end Go.Proofs.YteeepkimnpabiaaDoor

namespace Go.Proofs.YteeepkimnpabiaaDoor
open Go
set_option linter.unusedSimpArgs false
set_option linter.unnecessarySimpa false
set_option linter.unusedSectionVars false
set_option linter.unusedVariables false

attribute [local irreducible] oMv oV oU oCall oCallV oBi oBin oUn oLoad oStore oNil oFld oField oIdx oIndex oPick oAlloc oBox oBuild oBs oConv oMk oSl oExt oFn oIface oMap oLook oMapUp oRange oNext oAssert oPanic oRes pN pA pL pDr pIf gA pGd Calls A.made A.header A.oct A.wrong A.padn A.putB A.fS A.num A.text A.sumTo A.sumOf A.front A.back A.parted A.fill
section
variable [Pan] {E w : World} {K Q : Value → World → Prop} {L M : List HA} {l r : List UInt8} {s s2 sl sl2 : Sl} {its ots : List T_api_Item}

set_option maxHeartbeats 8000000 in
theorem Header_ok' (x : T_api_Item) (hw : A.wrong x = 0) (hS : Sat E w L) (hQ : ∀ w, Sat E w L → Q (.string ⟨(A.header x x.Data.2.length).toArray⟩) w) :
    Calls Tryd.prog 34 #[.agg x.enc.toArray] w (retP Q) := by
  refine pithref33_Header.calls ?_
  unfold pithref33_Header.F
  obtain ⟨hf, k0, k3, m0, m1, t0, t1, d1, hp, _, _, _⟩ := A.wrong_0 hw
  have hnm := A.fits_name hp
  have l0 := A.fill_len hf.rest
  have l7 := A.fill_len hf.link
  have l11 := A.fill_len hf.pre
  have hb := A.sum_blank hf x.Data.2.length
  have hh := A.header_str x x.Data.2.length
  have hfr := A.front_str x x.Data.2.length
  have hbk := A.back_str x
  have hfl := A.front_len hf x.Data.2.length
  have hbl := A.back_len hf
  have hsb := A.sumOf_bd (A.made x x.Data.2.length 12)
  obtain ⟨r1, r2, r3⟩ := hf
  obtain ⟨name, link, kind, mode, time, data⟩ := x
  dsimp only [T_api_Item.enc] at *
  have hC := fun {K : Value → World → Prop} {w : World} {L : List HA} (hS : Sat E w L) => Cut_ok' (Q := K) (l := name) (by omega) hS
  generalize A.parted name = pn at *
  obtain ⟨p1, p2, p3⟩ := pn
  dsimp only at *
  rw [hh] at hQ
  generalize A.sumOf (A.made ⟨name, link, kind, mode, time, data⟩ data.2.length 12) = sm at *
  generalize A.front ⟨name, link, kind, mode, time, data⟩ data.2.length = fr at *
  generalize A.back ⟨name, link, kind, mode, time, data⟩ = bk at *
  have o1 : (A.oct 0 7).length = 7 := A.oct_len _ 7
  have o2 : (A.oct mode 7).length = 7 := A.oct_len _ 7
  have o3 : (A.oct (data.2.length : Nat) 11).length = 11 := A.oct_len _ 11
  have o4 : (A.oct time 11).length = 11 := A.oct_len _ 11
  have o5 : (A.oct sm 6).length = 6 := A.oct_len _ 6
  have u64 : (List.replicate 64 (0 : UInt8)).length = 64 := List.length_replicate
  have u12 : (List.replicate 12 (0 : UInt8)).length = 12 := List.length_replicate
  refine pN_bx hS (by rfl) ?_
  clear hS
  intro a w hS
  repeat' (first | (refine pc_pithref33_Cut (hC hS ?_); clear hS; intro w hS) | (refine pc_pithref33_octal (octal_ok' _ 7 (by omega) (by omega) (by omega) hS ?_); clear hS; intro w hS) | refine pN_sadd (by first | omega | (simp only [go_sem]; omega)) ?_ | refine pN_l hS (by first | rfl | assumption) ?_ | refine pN_via (by (intro K; simp (disch := omega) only [go_sem, pN_min, pN_max, w_u32, w_u64, Option.isNone_some, Option.isNone_none]; (try simp only [wrap_u32, wrap_u64]); rfl)) ?_ | fail)
  refine pN_bl (C := cd_string) [.string ⟨List.toArray [48]⟩, .string ⟨List.toArray [53]⟩, .string ⟨List.toArray [50]⟩] [[48], [53], [50]] rfl rfl rfl (Nat.le_of_ble_eq_true rfl) hS (Nat.le_of_ble_eq_true rfl) ?_
  clear hS
  intro sf w hS
  have hlk : ([[48], [53], [50]] : List (List UInt8))[kind.toNat]? = some [A.letter kind] := by
    obtain rfl | rfl | rfl : kind = 0 ∨ kind = 1 ∨ kind = 2 := by omega
    all_goals rfl
  have hlt : ([A.letter kind]).length = 1 := rfl
  generalize A.letter kind = lt at *
  repeat' (first | (refine pc_pithref33_octal (octal_ok' _ 7 (by omega) (by omega) (by omega) hS ?_); clear hS; intro w hS) | (refine pc_pithref33_octal (octal_ok' _ 11 (by omega) (by omega) (by omega) hS ?_); clear hS; intro w hS) | (refine pc_pithref33_filled (filled_ok 100 (by omega) (by omega) hS ?_); clear hS; intro w hS) | (refine pc_pithref33_filled (filled_ok 155 (by omega) (by omega) hS ?_); clear hS; intro w hS) | (refine pc_pithref33_zeros (zeros_ok 64 (by omega) hS ?_); clear hS; intro w hS) | (refine pc_pithref33_zeros (zeros_ok 12 (by omega) hS ?_); clear hS; intro w hS) | refine pN_sadd (by first | omega | (simp only [go_sem]; omega)) ?_ | refine pA_sadd (by first | omega | (simp only [go_sem]; omega)) ?_ | refine pL_l hS (by first | rfl | assumption) ?_ | refine pL_ld1 ha hS ?_ | (refine pDr_go hS ?_; clear hS; intro w hS) | refine ⟨trivial, ?_⟩ | refine ⟨⟨(by first | exact run_l hS (by first | rfl | assumption) | exact run_st hS (by first | rfl | omega) | exact run_ld1 ha hS | exact fun _ => run_l hS (by rfl) | exact fun _ => run_st hS (by first | rfl | omega) | exact fun _ => run_ld1 ha hS | exact fun h => Bool.noConfusion h), trivial⟩, ?_⟩ | refine ⟨⟨(by first | exact run_l hS (by first | rfl | assumption) | exact run_st hS (by first | rfl | omega) | exact run_ld1 ha hS | exact fun _ => run_l hS (by rfl) | exact fun _ => run_st hS (by first | rfl | omega) | exact fun _ => run_ld1 ha hS | exact fun h => Bool.noConfusion h), (by first | exact run_l hS (by first | rfl | assumption) | exact run_st hS (by first | rfl | omega) | exact run_ld1 ha hS | exact fun _ => run_l hS (by rfl) | exact fun _ => run_st hS (by first | rfl | omega) | exact fun _ => run_ld1 ha hS | exact fun h => Bool.noConfusion h), trivial⟩, ?_⟩ | refine ⟨⟨(by first | exact run_l hS (by first | rfl | assumption) | exact run_st hS (by first | rfl | omega) | exact run_ld1 ha hS | exact fun _ => run_l hS (by rfl) | exact fun _ => run_st hS (by first | rfl | omega) | exact fun _ => run_ld1 ha hS | exact fun h => Bool.noConfusion h), (by first | exact run_l hS (by first | rfl | assumption) | exact run_st hS (by first | rfl | omega) | exact run_ld1 ha hS | exact fun _ => run_l hS (by rfl) | exact fun _ => run_st hS (by first | rfl | omega) | exact fun _ => run_ld1 ha hS | exact fun h => Bool.noConfusion h), (by first | exact run_l hS (by first | rfl | assumption) | exact run_st hS (by first | rfl | omega) | exact run_ld1 ha hS | exact fun _ => run_l hS (by rfl) | exact fun _ => run_st hS (by first | rfl | omega) | exact fun _ => run_ld1 ha hS | exact fun h => Bool.noConfusion h), trivial⟩, ?_⟩ | refine pA_ixk hS _ (by first | rfl | (exact (Int.toNat_of_nonneg (by omega)).symm)) (by first | rfl | omega | simpa only [go_sem] using True.intro | (simp only [go_sem]; omega)) (by assumption) fun a ha hel => ?_ | refine pA_via (by (intro K; simp (disch := omega) only [go_sem, pN_min, pN_max, w_u32, w_u64, Option.isNone_some, Option.isNone_none]; (try simp only [wrap_u32, wrap_u64]); rfl)) ?_ | fail)
  rw [← hfr, ← hbk]
  clear hfr hbk
  have h8 : ([32, 32, 32, 32, 32, 32, 32, 32] : List UInt8).length = 8 := rfl
  have hl512 : (fr ++ [32, 32, 32, 32, 32, 32, 32, 32] ++ bk).length = 512 := by rw [List.length_append, List.length_append, hfl, hbl, h8]
  refine pc_pithref33_sum (sum_ok' hl512 ?_)
  rw [hb]
  repeat' (first | (refine pc_pithref33_octal (octal_ok' _ 6 (by omega) (by omega) (by omega) hS ?_); clear hS; intro w hS) | refine pN_sadd (by first | omega | (simp only [go_sem]; omega)) ?_ | fail)
  exact hQ _ hS.to

set_option maxHeartbeats 4000000 in
theorem Put_ok' (x : T_api_Item) (hn : x.Name.length ≤ 140737488355328) (hk : x.Link.length ≤ 140737488355328) (hS : Sat E w M) [hr : Rds cd_uint8 M x.Data.1 x.Data.2]
    (hno : A.wrong x ≠ 0 → ∀ w, Sat E w M → Q (.tuple #[.slice none 0 0, .int .i64 (A.wrong x)]) w)
    (hok : A.wrong x = 0 → ∀ s w, Sat E w (rowM cd_uint8 s (A.putB x) :: M) → Q (.tuple #[.slice s.a (A.putB x).length s.c, .int .i64 0]) w) :
    Calls Tryd.prog 14 #[.agg x.enc.toArray] w (retP Q) := by
  refine pithref33_Put.calls ?_
  unfold pithref33_Put.F
  obtain ⟨y, hy⟩ : ∃ y, y = x := ⟨x, rfl⟩
  have hR := fun {K : Value → World → Prop} {w : World} {L : List HA} (hS : Sat E w L) => Right_ok' (Q := K) x hn hk hS
  have hH := fun {K : Value → World → Prop} {w : World} {L : List HA} (h0 : A.wrong x = 0) (hS : Sat E w L) => Header_ok' (Q := K) x h0 hS
  rw [← hy] at hno hok hR hH
  obtain ⟨name, link, kind, mode, time, data⟩ := x
  dsimp only at hn hk hr
  dsimp only [T_api_Item.enc]
  have hde : y.Data = data := by rw [hy]
  have hye : y.enc = [.string ⟨name.toArray⟩, .string ⟨link.toArray⟩, .int .i64 kind, .int .i64 mode, .int .i64 time, .slice data.1.a data.2.length data.1.c] := by rw [hy]; rfl
  rw [hye] at hR hH
  refine pN_bx hS (by rfl) ?_
  clear hS
  intro ab w hS
  repeat' (first | refine pN_la hS (by rfl) ?_ | fail)
  refine pc_pithref33_Right (hR hS ?_)
  clear hS
  intro w hS
  by_cases h0 : A.wrong y = 0
  · rw [h0]
    have hh := header_len (A.wrong_0 h0).1 y.Data.2.length
    have hd1 := (A.wrong_0 h0).2.2.2.2.2.2.2.1
    have hpb : A.putB y = A.header y y.Data.2.length ++ data.2 ++ List.replicate (A.padn data.2.length) 0 := by
      rw [A.putB_eq, hde, A.padn_512]
    rw [hpb] at hok
    have hpl := A.padn_lt data.2.length
    have hzl : (List.replicate (A.padn data.2.length) (0 : UInt8)).length = A.padn data.2.length := List.length_replicate
    rw [hde] at hd1
    generalize hpn : A.padn data.2.length = pn at *
    generalize A.header y y.Data.2.length = hd at *
    repeat' (first | (refine pN_neq_s ?_ ?_ <;> intro hc <;> try (exfalso; first | omega | exact hc rfl | exact hc (by assumption) | exact absurd hc (by assumption))) | refine pIf_f ?_ | refine pN_la hS (by rfl) ?_ | fail)
    refine pc_pithref33_Header (hH h0 hS ?_)
    clear hS
    intro w hS
    repeat' (first | (refine pc_pithref33_gap (gap_ok _ (by omega) ?_); rw [hpn]) | (refine pc_pithref33_zeros (zeros_ok _ (by omega) hS ?_); clear hS; intro w hS) | refine pA_sadd (by first | omega | (simp only [go_sem]; omega)) ?_ | refine pL_l hS (by first | rfl | assumption) ?_ | (refine pDr_go hS ?_; clear hS; intro w hS) | refine ⟨⟨(by first | exact run_l hS (by first | rfl | assumption) | exact run_st hS (by first | rfl | omega) | exact run_ld1 ha hS | exact fun _ => run_l hS (by rfl) | exact fun _ => run_st hS (by first | rfl | omega) | exact fun _ => run_ld1 ha hS | exact fun h => Bool.noConfusion h), (by first | exact run_l hS (by first | rfl | assumption) | exact run_st hS (by first | rfl | omega) | exact run_ld1 ha hS | exact fun _ => run_l hS (by rfl) | exact fun _ => run_st hS (by first | rfl | omega) | exact fun _ => run_ld1 ha hS | exact fun h => Bool.noConfusion h), trivial⟩, ?_⟩ | refine pL_st hS (by first | rfl | omega | simpa only [go_sem] using True.intro | (simp only [go_sem]; omega)) ?_ | refine pA_via (by (intro K; simp (disch := omega) only [go_sem, pN_min, pN_max, w_u32, w_u64, Option.isNone_some, Option.isNone_none]; (try simp only [wrap_u32, wrap_u64]); rfl)) ?_ | fail)
    refine pN_tobs hS (by unfold maxLen; simp only [List.length_append]; omega) ?_
    clear hS
    intro s w hS
    exact ⟨trivial, hok h0 s _ hS.to⟩
  · repeat' (first | (refine pN_neq_s ?_ ?_ <;> intro hc <;> try (exfalso; first | omega | exact hc rfl | exact hc (by assumption) | exact absurd hc (by assumption))) | refine pIf_t ?_ | fail)
    exact hno h0 _ hS.to

set_option maxRecDepth 8000 in
set_option maxHeartbeats 4000000 in
theorem Write_ok' (hS : Sat E w M) [hr : Rds cd_api_Item M sl its] (hd : ∀ x ∈ its, Rds cd_uint8 M x.Data.1 x.Data.2) (hnm : ∀ x ∈ its, x.Name.length ≤ 140737488355328 ∧ x.Link.length ≤ 140737488355328)
    (hl : its.length ≤ 1099511627776) (hb : ∀ k, k ≤ its.length → (∀ x ∈ its.take k, A.wrong x = 0) → (A.many (its.take k)).length + 1024 ≤ 140737488355328)
    (hno : A.werr its ≠ 0 → ∀ w, Sat E w M → Q (.tuple #[.slice none 0 0, .int .i64 (A.werr its)]) w)
    (hok : A.werr its = 0 → ∀ s w, Sat E w (rows cd_uint8 s (A.whole its) :: M) → Q (.tuple #[.slice s.a (A.whole its).length s.c, .int .i64 0]) w) :
    Calls Tryd.prog 16 #[.slice sl.a its.length sl.c] w (retP Q) := by
  refine pithref33_Write.calls ?_
  unfold pithref33_Write.F
  refine ⟨fun o i w => ∃ (k : Nat) (so : Sl), k ≤ its.length ∧ (∀ x ∈ its.take k, A.wrong x = 0) ∧ o = .slice so.a (A.many (its.take k)).length so.c ∧ i = .int .i64 k ∧ Sat E w (rows cd_uint8 so (A.many (its.take k)) :: M), fun _ i _ => its.length - (RowKit.intOf i).toNat,
    ⟨0, ⟨none, 0⟩, Nat.zero_le _, fun x hx => (by simp at hx), by rw [A.many_0]; rfl, rfl, by rw [A.many_0]; exact hS.nil cd_uint8.e cd_uint8.size⟩, ?_⟩
  clear hS
  rintro _ _ _ w ⟨k, so, hk, hw, rfl, rfl, hS⟩
  have hbk := hb k hk hw
  by_cases hlt : k < its.length
  · obtain ⟨x, hx⟩ : ∃ x, its[k]? = some x := ⟨its[k], by simp [hlt]⟩
    have hm : x ∈ its := List.mem_of_getElem? hx
    haveI := hd x hm
    obtain ⟨hn1, hn2⟩ := hnm x hm
    have hbk1 := hb (k + 1) hlt
    rw [A.many_take hx] at hbk1
    have hmt := A.many_take hx
    generalize hmk : A.many (its.take k) = mk at *
    repeat' (first | (refine pN_lss_s ?_ ?_ <;> intro hc <;> try (exfalso; omega)) | refine pIf_t ?_ | refine pN_ld_at ha hS (by rfl) ?_ | refine pN_ixk hS _ (by first | rfl | (exact (Int.toNat_of_nonneg (by omega)).symm)) (by first | rfl | omega | simpa only [go_sem] using True.intro | (simp only [go_sem]; omega)) (by assumption) fun a ha hel => ?_ | refine pN_via (by (intro K; simp (disch := omega) only [go_sem, pN_min, pN_max, w_u32, w_u64, Option.isNone_some, Option.isNone_none]; (try simp only [wrap_u32, wrap_u64]); rfl)) ?_ | fail)
    refine pc_pithref33_Put (Put_ok' x hn1 hn2 hS (fun h0 w hS => ?_) fun h0 s1 w hS => ?_)
    · repeat' (first | (refine pN_neq_s ?_ ?_ <;> intro hc <;> try (exfalso; first | omega | exact hc rfl | exact hc (by assumption) | exact absurd hc (by assumption))) | refine pIf_t ?_ | refine pN_via (by (intro K; simp (disch := omega) only [go_sem, pN_min, pN_max, w_u32, w_u64, Option.isNone_some, Option.isNone_none]; (try simp only [wrap_u32, wrap_u64]); rfl)) ?_ | fail)
      have hwe := A.werr_at hx hw h0
      rw [← hwe] at h0 ⊢
      exact hno h0 _ hS.to
    · have hwk : ∀ y ∈ its.take (k + 1), A.wrong y = 0 := fun y hy => by
        rw [List.take_add_one, hx] at hy
        rcases List.mem_append.1 hy with hy | hy
        · exact hw y hy
        · obtain rfl : y = x := by simpa using hy
          exact h0
      have hb1 := hbk1 hwk
      rw [List.length_append] at hb1
      repeat' (first | (refine pN_neq_s ?_ ?_ <;> intro hc <;> try (exfalso; first | omega | exact hc rfl | exact hc (by assumption) | exact absurd hc (by assumption))) | refine pIf_f ?_ | (refine pN_app hS (by first | rfl | omega | simpa only [go_sem] using True.intro | (simp only [go_sem]; omega)) (by first | rfl | omega | simpa only [go_sem] using True.intro | (simp only [go_sem]; omega)) (by first | omega | (simp only [go_sem]; omega)) ?_; clear hS; intro s w hS) | refine pN_via (by (intro K; simp (disch := omega) only [go_sem, pN_min, pN_max, w_u32, w_u64, Option.isNone_some, Option.isNone_none]; (try simp only [wrap_u32, wrap_u64]); rfl)) ?_ | fail)
      exact ⟨⟨k + 1, s, hlt, hwk, by rw [hmt], rfl, by rw [hmt]; exact hS.to⟩, by simp [RowKit.intOf] <;> omega⟩
  · obtain rfl : k = its.length := by omega
    rw [List.take_length] at hw hS hbk ⊢
    have h0 := A.werr_0 hw
    have hwl := A.wholeE its
    have hz : cd_uint8.zero = 0 := rfl
    generalize hmk : A.many its = mk at *
    repeat' (first | (refine pN_lss_s ?_ ?_ <;> intro hc <;> try (exfalso; omega)) | refine pIf_f ?_ | refine pN_via (by (intro K; simp (disch := omega) only [go_sem, pN_min, pN_max, w_u32, w_u64, Option.isNone_some, Option.isNone_none]; (try simp only [wrap_u32, wrap_u64]); rfl)) ?_ | fail)
    refine pN_appz (C := cd_uint8) (s := so) (l := mk) hS 1024 rfl rfl (by omega) ?_
    clear hS
    intro s1 w hS
    rw [hz, ← hwl] at hS ⊢
    exact hok h0 _ _ hS
end
end Go.Proofs.YteeepkimnpabiaaDoor
