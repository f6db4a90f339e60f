/-
  Parts of a slice; the nil slice as an own one. No program is named here.
-/
import Derived.Test.YtbgnnjfpiblkmaaDoorBytes
namespace Go.Proofs.YtbgnnjfpiblkmaaDoor
open Go
set_option linter.unusedSimpArgs false
set_option linter.unnecessarySimpa false
set_option linter.unusedSectionVars false
set_option linter.unusedVariables false

section
variable [Pan] {P : Program} {E w w' : World} {K : Value → World → Prop} {J : Value → Prop} {L : List HA} {A : HA} {t e : TypeId} {z v : Value} {size bytes n : Nat} {xs : List Value}

omit [Pan] in
/-- The part from l up to h of a slice value. -/
def subV (v : Value) (l h size : Nat) : Value :=
  match v with
  | .slice a _ c => sliced a l h c size
  | v => v

theorem Rd.sub (hr : Rd w size v n xs) (l h : Nat) (hl : l ≤ h) (hn : h ≤ n) : Rd w size (subV v l h size) (h - l) ((xs.drop (l * size)).take ((h - l) * size)) := by
  obtain ⟨hx, ao, cap, rfl, hc, hnil, hcell⟩ := hr
  have h1 : l * size + (h - l) * size = h * size := by rw [← Nat.add_mul]; congr 1; omega
  have h2 : h * size ≤ n * size := Nat.mul_le_mul_right _ hn
  refine ⟨by simp only [List.length_take, List.length_drop]; omega, _, _, rfl, by omega, ?_, ?_⟩
  · intro h0
    have : ao = none := by
      split at h0
      · exact h0
      · simpa using h0
    obtain ⟨rfl, rfl⟩ := hnil this
    omega
  · intro a ha j u hu
    by_cases hcl : cap = l
    · have : h - l = 0 := by omega
      simp [this] at hu
    · rw [if_neg hcl] at ha
      cases ao with
      | none => cases ha
      | some b =>
        simp only [Option.map_some, Option.some.injEq] at ha
        subst ha
        rw [List.getElem?_take] at hu
        split at hu
        · rw [List.getElem?_drop] at hu
          have := hcell b rfl _ _ hu
          rw [← this]
          congr 1
          simp only [Addr.add]
          by_cases e1 : l * size = 0
          · by_cases e2 : j = 0 <;> simp [e1, e2]
          · by_cases e2 : j = 0 <;> simp [e1, e2, Nat.add_assoc]
        · cases hu

theorem RdA.sub (hr : RdA A size v n xs) (l h : Nat) (hl : l ≤ h) (hn : h ≤ n) : RdA A size (subV v l h size) (h - l) ((xs.drop (l * size)).take ((h - l) * size)) :=
  fun w hw => (hr w hw).sub l h hl hn

theorem bvs_sub (l : List UInt8) (a k : Nat) : ((bvs l).drop (a * 1)).take (k * 1) = bvs ((l.drop a).take k) := by
  simp [bvs, List.map_drop, List.map_take]

theorem Rd.subb {l : List UInt8} (hr : Rd w 1 v l.length (bvs l)) (a b : Nat) (h1 : a ≤ b) (h2 : b ≤ l.length) : Rd w 1 (subV v a b 1) ((l.drop a).take (b - a)).length (bvs ((l.drop a).take (b - a))) := by
  have := hr.sub a b h1 h2
  rw [bvs_sub] at this
  rw [show ((l.drop a).take (b - a)).length = b - a from by simp only [List.length_take, List.length_drop]; omega]
  exact this
theorem RdA.subb {l : List UInt8} (hr : RdA A 1 v l.length (bvs l)) (a b : Nat) (h1 : a ≤ b) (h2 : b ≤ l.length) : RdA A 1 (subV v a b 1) ((l.drop a).take (b - a)).length (bvs ((l.drop a).take (b - a))) :=
  fun w hw => (hr w hw).subb a b h1 h2

theorem SlT.elem (ht : SlT P t e z size bytes) : P.elem t = e := by
  simp [Program.elem, ht.under]

theorem SlT.under' (ht : SlT P t e z size bytes) : P.underlying t = some (.slice (P.elem t)) := by rw [ht.elem]; exact ht.under

theorem run_sl (ht : SlT P t e z size bytes) (hr : Rd w size v n xs) (k k' : IntKind) (a b : Nat) (h1 : a ≤ b) (h2 : b ≤ n) (w' : World) :
    (oSl t v (some (.int k a)) (some (.int k' b)) none).run P w' = .ok (.value (subV v a b size)) w' := by
  obtain ⟨hx, ao, cap, rfl, hc, hnil, hcell⟩ := hr
  refine run_oV_ok ?_
  rw [run_sliceAt_slice w' t _ _ _ _ ht.under', run_slice_lh w' t ao n cap ht.under' k k' a b (by omega) (by omega) (by omega), ht.elem, ht.sizeOf]
  rfl
theorem run_sl_l (ht : SlT P t e z size bytes) (hr : Rd w size v n xs) (k : IntKind) (a : Nat) (h1 : a ≤ n) (w' : World) :
    (oSl t v (some (.int k a)) none none).run P w' = .ok (.value (subV v a n size)) w' := by
  obtain ⟨hx, ao, cap, rfl, hc, hnil, hcell⟩ := hr
  refine run_oV_ok ?_
  rw [run_sliceAt_slice w' t _ _ _ _ ht.under', run_slice_l w' t ao n cap ht.under' k a (by omega) (by omega), ht.elem, ht.sizeOf]
  rfl
theorem run_sl_h (ht : SlT P t e z size bytes) (hr : Rd w size v n xs) (k : IntKind) (b : Nat) (h1 : b ≤ n) (w' : World) :
    (oSl t v none (some (.int k b)) none).run P w' = .ok (.value (subV v 0 b size)) w' := by
  obtain ⟨hx, ao, cap, rfl, hc, hnil, hcell⟩ := hr
  refine run_oV_ok ?_
  rw [run_sliceAt_slice w' t _ _ _ _ ht.under', run_slice_h w' t ao n cap ht.under' k b (by omega) (by omega), ht.elem, ht.sizeOf]
  rfl
theorem run_sl_a (ht : SlT P t e z size bytes) (hr : Rd w size v n xs) (w' : World) :
    (oSl t v none none none).run P w' = .ok (.value (subV v 0 n size)) w' := by
  obtain ⟨hx, ao, cap, rfl, hc, hnil, hcell⟩ := hr
  refine run_oV_ok ?_
  rw [run_sliceAt_slice w' t _ _ _ _ ht.under', run_slice_all w' t ao n cap ht.under', ht.elem, ht.sizeOf]
  rfl

theorem pN_sl (ht : SlT P t e z size bytes) (hr : Rd w' size v n xs) {k k' : IntKind} {i j : Int} (h0 : 0 ≤ i) (h1 : i ≤ j) (h2 : j ≤ n) (h : K (subV v i.toNat j.toNat size) w) : pN P (oSl t v (some (.int k i)) (some (.int k' j)) none) w K := by
  obtain ⟨a, rfl⟩ : ∃ a : Nat, i = a := ⟨i.toNat, by omega⟩
  obtain ⟨b, rfl⟩ : ∃ b : Nat, j = b := ⟨j.toNat, by omega⟩
  rw [pN_def, run_sl ht hr k k' a b (by omega) (by omega)]
  exact h
theorem pN_sl_l (ht : SlT P t e z size bytes) (hr : Rd w' size v n xs) {k : IntKind} {i : Int} (h0 : 0 ≤ i) (h1 : i ≤ n) (h : K (subV v i.toNat n size) w) : pN P (oSl t v (some (.int k i)) none none) w K := by
  obtain ⟨a, rfl⟩ : ∃ a : Nat, i = a := ⟨i.toNat, by omega⟩
  rw [pN_def, run_sl_l ht hr k a (by omega)]
  exact h
theorem pN_sl_h (ht : SlT P t e z size bytes) (hr : Rd w' size v n xs) {k : IntKind} {i : Int} (h0 : 0 ≤ i) (h1 : i ≤ n) (h : K (subV v 0 i.toNat size) w) : pN P (oSl t v none (some (.int k i)) none) w K := by
  obtain ⟨a, rfl⟩ : ∃ a : Nat, i = a := ⟨i.toNat, by omega⟩
  rw [pN_def, run_sl_h ht hr k a (by omega)]
  exact h
theorem pN_sl_a (ht : SlT P t e z size bytes) (hr : Rd w' size v n xs) (h : K (subV v 0 n size) w) : pN P (oSl t v none none none) w K := by
  rw [pN_def, run_sl_a ht hr]
  exact h

theorem pA_sl (ht : SlT P t e z size bytes) (hr : Rd w' size v n xs) {k k' : IntKind} {i j : Int} (h0 : 0 ≤ i) (h1 : i ≤ j) (h2 : j ≤ n) (h : J (subV v i.toNat j.toNat size)) : pA P (oSl t v (some (.int k i)) (some (.int k' j)) none) J := by
  obtain ⟨a, rfl⟩ : ∃ a : Nat, i = a := ⟨i.toNat, by omega⟩
  obtain ⟨b, rfl⟩ : ∃ b : Nat, j = b := ⟨j.toNat, by omega⟩
  exact ⟨_, fun w => run_sl ht hr k k' a b (by omega) (by omega) w, h⟩
theorem pA_sl_l (ht : SlT P t e z size bytes) (hr : Rd w' size v n xs) {k : IntKind} {i : Int} (h0 : 0 ≤ i) (h1 : i ≤ n) (h : J (subV v i.toNat n size)) : pA P (oSl t v (some (.int k i)) none none) J := by
  obtain ⟨a, rfl⟩ : ∃ a : Nat, i = a := ⟨i.toNat, by omega⟩
  exact ⟨_, fun w => run_sl_l ht hr k a (by omega) w, h⟩
theorem pA_sl_h (ht : SlT P t e z size bytes) (hr : Rd w' size v n xs) {k : IntKind} {i : Int} (h0 : 0 ≤ i) (h1 : i ≤ n) (h : J (subV v 0 i.toNat size)) : pA P (oSl t v none (some (.int k i)) none) J := by
  obtain ⟨a, rfl⟩ : ∃ a : Nat, i = a := ⟨i.toNat, by omega⟩
  exact ⟨_, fun w => run_sl_h ht hr k a (by omega) w, h⟩
theorem pA_sl_a (ht : SlT P t e z size bytes) (hr : Rd w' size v n xs) (h : J (subV v 0 n size)) : pA P (oSl t v none none none) J :=
  ⟨_, fun w => run_sl_a ht hr w, h⟩

/-- The nil slice owns nothing. -/
theorem Sat.nil (hs : Sat E w L) (e : TypeId) (size : Nat) : Sat E w (own e size (.slice none 0 0) 0 [] :: L) := by
  exact ⟨hs.os, hs.tape, hs.output, fun _ => none, ⟨by simp, .inl ⟨rfl, rfl⟩⟩, fun _ _ e => (by cases e), hs.sats⟩

/-! ### Parts in another order -/

omit [Pan] in
def emp : HA := fun h => ∀ b, h b = none

theorem Sats.nothing : ∀ {L : List HA} {h : Hp}, Sats L h → Sats (emp :: L) h := fun hs => ⟨fun _ => none, fun _ => rfl, fun _ _ e => (by cases e), hs⟩

theorem Sats.pad : ∀ (n : Nat) {L : List HA} {h : Hp}, Sats L h → Sats ((List.range n).map (fun i => L.getD i emp) ++ L.drop n) h
  | 0, L, h, hs => by simpa using hs
  | n + 1, [], h, hs => by
    have := Sats.pad n hs
    rw [List.range_succ_eq_map, List.map_cons, List.map_map, List.cons_append]
    refine Sats.nothing ?_
    simpa [Function.comp_def] using this
  | n + 1, A :: L, h, hs => by
    obtain ⟨h1, hA, s, hr⟩ := hs
    have := Sats.pad n hr
    rw [List.range_succ_eq_map, List.map_cons, List.map_map, List.cons_append]
    refine ⟨h1, hA, s, ?_⟩
    simpa [Function.comp_def] using this

/-- The first parts in the order given. -/
theorem Sat.ord {M : List HA} (hs : Sat E w L) (is : List Nat) (hp : is.isPerm (List.range is.length) = true) (hM : is.map (fun i => L.getD i emp) ++ L.drop is.length = M) : Sat E w M := by
  subst hM
  have h := Sats.pad is.length hs.sats
  refine ⟨hs.os, hs.tape, hs.output, h.perm (List.Perm.append_right _ ?_)⟩
  exact ((List.isPerm_iff.1 hp).symm).map _
end

end Go.Proofs.YtbgnnjfpiblkmaaDoor
