/-
  What an argument reads as, told as plain data. No program is named here but the bulk of the seat's own rows.
-/
import Derived.Test.YtbgnnjfpiblkmaaDoorKey
import Derived.Test.YtbgnnjfpiblkmaaDoorRows
import Derived.ProofKit
import Derived.OpenShut
import Derived.ShutString
import Derived.ChangeOld
import Derived.SizedLaws
import Derived.Deep.Slices
import Derived.Deep.CondSized
namespace Go.Proofs.YtbgnnjfpiblkmaaDoor
open Go Go.RowKit Go.ChangeShapes Go.Deep
set_option linter.unusedSimpArgs false
set_option linter.unnecessarySimpa false
set_option linter.unusedSectionVars false
set_option linter.unusedVariables false

/-! ### Bulk -/

theorem bulk_pos {H : Type} (d : DataW H) : 1 ≤ Rows.uptoBulk d := by
  cases d with
  | lit l => cases l <;> simp [Rows.uptoBulk]
  | _ => simp [Rows.uptoBulk]
theorem bulk_mem {H : Type} {d : DataW H} : ∀ {l : List (DataW H)}, d ∈ l → Rows.uptoBulk d ≤ Rows.uptoBulkAll l
  | [], h => by cases h
  | x :: r, h => by
    simp only [Rows.uptoBulkAll]
    rcases List.mem_cons.1 h with rfl | h
    · omega
    · have := bulk_mem h; omega
theorem bulk_length {H : Type} : ∀ (l : List (DataW H)), l.length ≤ Rows.uptoBulkAll l
  | [] => by simp [Rows.uptoBulkAll]
  | x :: r => by have := bulk_pos x; have := bulk_length r; simp only [Rows.uptoBulkAll, List.length_cons]; omega
theorem bulk_small {H : Type} {ds : List (DataW H)} (h : Rows.uptoSmall H ds = true) : ∀ d ∈ ds, Rows.uptoBulk d ≤ 1048576 := by
  intro d hd
  have h1 : Rows.uptoBulkAll ds ≤ 1048576 := of_decide_eq_true h
  have := bulk_mem hd
  omega

theorem weights_all {H : Type} {P : Program} {e : TypeId} {d : DataW H} {n : Nat} : ∀ {l : List (DataW H)}, d ∈ l → n ∈ d.weights P e → n ∈ DataW.weightsAll P e l
  | [], h, _ => by cases h
  | x :: r, h, hn => by
    simp only [DataW.weightsAll, List.mem_append]
    rcases List.mem_cons.1 h with rfl | h
    · exact .inl hn
    · exact .inr (weights_all h hn)

/-! ### Reading -/

/-- How a value of a type reads: its cells, and what is known of it and of its bulk. -/
structure Opn (P : Program) (W : World) (t : TypeId) {β : Type} (enc : β → List Value) (ok : β → Nat → Prop) : Prop where
  get : ∀ {H : Type} (en : TypeId × Value → H) (fuel : Nat) (cs : List Value) (x : DataW H × List MemPlace),
    DataW.trod en P W 0 (fun _ => true) true fuel t cs = some x → (∀ n ∈ x.1.weights P t, n ≤ reachBytes) → ∃ b, cs = enc b ∧ ok b (Rows.uptoBulk x.1)

section
variable {P : Program} {W : World} {t : TypeId}

theorem trod_pos {H : Type} {en : TypeId × Value → H} {fuel : Nat} {cs : List Value} {x : DataW H × List MemPlace} (h : DataW.trod en P W 0 (fun _ => true) true fuel t cs = some x) : ∃ n, fuel = n + 1 := by
  cases fuel with
  | zero => simp [DataW.trod] at h
  | succ n => exact ⟨n, rfl⟩

theorem opn_int {k : IntKind} (ht : P.underlying t = some (.int k)) : Opn P W t (fun n : Int => [.int k n]) (fun n _ => (Lit.int k n).wf = true) := by
  refine ⟨fun {H} en fuel cs x hx _ => ?_⟩
  obtain ⟨n, rfl⟩ := trod_pos hx
  unfold DataW.trod at hx
  rw [ht] at hx
  split at hx <;> simp_all
theorem Opn.mono {β : Type} {enc : β → List Value} {ok ok' : β → Nat → Prop} (h : Opn P W t enc ok) (hm : ∀ b k, ok b k → ok' b k) : Opn P W t enc ok' := by
  refine ⟨fun {H} en fuel cs x hx hw => ?_⟩
  obtain ⟨b, hb, hk⟩ := h.get en fuel cs x hx hw
  exact ⟨b, hb, hm _ _ hk⟩
theorem opn_i64 (ht : P.underlying t = some (.int .i64)) : Opn P W t (fun n : Int => [.int .i64 n]) (fun n _ => -9223372036854775808 ≤ n ∧ n < 9223372036854775808) :=
  Opn.mono (opn_int ht) fun n _ h => by
    simp [Lit.wf, IntKind.min, IntKind.max, IntKind.signed, IntKind.bits] at h
    omega
theorem opn_u32 (ht : P.underlying t = some (.int .u32)) : Opn P W t (fun n : Int => [.int .u32 n]) (fun n _ => 0 ≤ n ∧ n < 4294967296) :=
  Opn.mono (opn_int ht) fun n _ h => by
    simp [Lit.wf, IntKind.min, IntKind.max, IntKind.signed, IntKind.bits] at h
    omega
theorem opn_u64 (ht : P.underlying t = some (.int .u64)) : Opn P W t (fun n : Int => [.int .u64 n]) (fun n _ => 0 ≤ n ∧ n < 18446744073709551616) :=
  Opn.mono (opn_int ht) fun n _ h => by
    simp [Lit.wf, IntKind.min, IntKind.max, IntKind.signed, IntKind.bits] at h
    omega
theorem opn_u8 (ht : P.underlying t = some (.int .u8)) : Opn P W t (fun n : UInt8 => [bv n]) (fun _ _ => True) := by
  refine ⟨fun {H} en fuel cs x hx hw => ?_⟩
  obtain ⟨n, rfl, h⟩ := (opn_int ht).get en fuel cs x hx hw
  simp [Lit.wf, IntKind.min, IntKind.max, IntKind.signed, IntKind.bits] at h
  refine ⟨UInt8.ofNat n.toNat, ?_, trivial⟩
  unfold bv
  simp only [UInt8.toNat_ofNat', List.cons.injEq, Value.int.injEq, true_and, and_true]
  omega
theorem opn_bool (ht : P.underlying t = some .bool) : Opn P W t (fun b : Bool => [.bool b]) (fun _ _ => True) := by
  refine ⟨fun {H} en fuel cs x hx _ => ?_⟩
  obtain ⟨n, rfl⟩ := trod_pos hx
  unfold DataW.trod at hx
  rw [ht] at hx
  split at hx <;> simp_all
theorem opn_str (ht : P.underlying t = some .string) : Opn P W t (fun l : List UInt8 => [.string ⟨l.toArray⟩]) (fun l k => l.length ≤ reachBytes ∧ l.length + 1 ≤ k) := by
  refine ⟨fun {H} en fuel cs x hx hw => ?_⟩
  obtain ⟨n, rfl⟩ := trod_pos hx
  unfold DataW.trod at hx
  rw [ht] at hx
  split at hx <;> simp_all
  obtain ⟨_, rfl⟩ := hx
  rename_i s _
  refine ⟨s.data.toList, by simp, ?_, ?_⟩
  · simpa [DataW.weights] using hw
  · simp [Rows.uptoBulk]

/-- A slice. -/
theorem opn_slice {β : Type} {C : Cd β} {ok : β → Nat → Prop} (ht : P.underlying t = some (.slice C.e)) (hs : P.cellsOf C.e = C.size) (hb : P.bytesOf C.e = C.bytes) (h : Opn P W C.e C.enc ok) :
    Opn P W t (fun p : Sl × List β => [.slice p.1.a p.2.length p.1.c])
      (fun p k => RdP C (old W) p.1 p.2 ∧ p.2.length * C.bytes ≤ reachBytes ∧ p.2.length + 1 ≤ k ∧ ∀ b ∈ p.2, ∃ k', k' ≤ k ∧ ok b k') := by
  refine ⟨fun {H} en fuel cs x hx hw => ?_⟩
  rcases open_slice ht hx with ⟨rfl, rfl⟩ | ⟨a, len, cap, m, n, D, Pl, rfl, _, hl, hm, hmm, rfl, hel⟩
  · exact ⟨(⟨none, 0⟩, []), rfl, ⟨RdA.old Rd.nil⟩, by simp, by simp [Rows.uptoBulk], by simp⟩
  · simp only [if_true] at hmm
    subst hmm
    have hwt : ∀ i, i < len → ∀ n ∈ (D i).weights P C.e, n ≤ reachBytes := by
      intro i hi n hn
      refine hw n ?_
      simp only [DataW.weights, ht, List.mem_cons, List.mem_append]
      exact .inr (.inl (weights_all (List.mem_map.2 ⟨i, by simpa using hi, rfl⟩) hn))
    have hD : ∀ i, i < len → ∃ b, (W.cells? 0 (a.add (i * C.size)) C.size = some (C.enc b)) ∧ ok b (Rows.uptoBulk (D i)) := by
      intro i hi
      obtain ⟨cs', h1, h2⟩ := hel i (by omega)
      rw [hs] at h1
      obtain ⟨b, rfl, hk⟩ := h.get en n cs' _ h2 (hwt i hi)
      exact ⟨b, h1, hk⟩
    have hinh : Inhabited β := ⟨C.zero⟩
    obtain ⟨V, hV⟩ := choose_lt hD
    have hlen : ((List.range len).map V).length = len := by simp
    have hget : ∀ i, i < len → ((List.range len).map V)[i]? = some (V i) := by intro i hi; simp [hi]
    refine ⟨(⟨some a, m⟩, (List.range len).map V), by simp, ⟨RdA.old ?_⟩, ?_, ?_, ?_⟩
    · refine ⟨C.flat_len _, some a, m, rfl, by rw [hlen]; exact hl, fun h => by simp at h, fun a' ha j u hu => ?_⟩
      cases ha
      have hj : j < (C.flat ((List.range len).map V)).length := (List.getElem?_eq_some_iff.1 hu).1
      rw [C.flat_len, hlen] at hj
      have hpos : 0 < C.size := by
        rcases Nat.eq_zero_or_pos C.size with h0 | h0
        · rw [h0] at hj; omega
        · exact h0
      have hi : j / C.size < len := by
        rw [Nat.div_lt_iff_lt_mul hpos]; exact hj
      have hr : j % C.size < C.size := Nat.mod_lt _ hpos
      have e1 : j / C.size * C.size + j % C.size = j := by rw [Nat.mul_comm]; exact Nat.div_add_mod _ _
      have e2 := C.flat_get _ _ _ (hget _ hi)
      have e3 : (C.enc (V (j / C.size)))[j % C.size]? = some u := by
        rw [← e2, List.getElem?_take, if_pos hr, List.getElem?_drop, e1]
        exact hu
      obtain ⟨_, _, h3⟩ := World.cells?_some (hV _ hi).1
      have := h3 _ hr
      rw [Addr.add_add, e1] at this
      rw [this]; exact e3
    · simp only [hlen]
      have := hw ((((List.range len).map D).length + ((List.range (m - len)).map fun j => D (len + j)).length) * P.bytesOf C.e) (by
        simp only [DataW.weights, ht]
        exact List.mem_cons_self)
      simp only [List.length_map, List.length_range, hb] at this
      exact Nat.le_trans (Nat.mul_le_mul_right _ (Nat.le_add_right _ _)) this
    · simp only [hlen, Rows.uptoBulk]
      have := bulk_length ((List.range len).map D)
      simp only [List.length_map, List.length_range] at this
      omega
    · intro b hb
      simp only [List.mem_map, List.mem_range] at hb
      obtain ⟨i, hi, rfl⟩ := hb
      refine ⟨_, ?_, (hV i hi).2⟩
      have := bulk_mem (List.mem_map.2 ⟨i, by simpa using hi, rfl⟩ : D i ∈ (List.range len).map D)
      simp only [Rows.uptoBulk]
      omega

/-- A field of a struct. -/
theorem opn_field {fs : Array Field} {H : Type} {en : TypeId × Value → H} {n : Nat} {cs : List Value} {xs : List (DataW H × List MemPlace)} (ht : P.underlying t = some (.struct fs))
    (hw : ∀ n ∈ (DataW.agg (xs.map (·.1))).weights P t, n ≤ reachBytes)
    (hf : ∀ (i : Nat) (f : Field), fs[i]? = some f → DataW.trod en P W 0 (fun _ => true) true n f.type ((cs.drop f.offset).take (P.cellsOf f.type)) = xs[i]?)
    (i ft off sz : Nat) (hi' : ∃ f, fs[i]? = some f ∧ f.type = ft ∧ f.offset = off) (hc : P.cellsOf ft = sz) (hl : i < xs.length) {β : Type} {enc : β → List Value} {ok : β → Nat → Prop} (h : Opn P W ft enc ok) :
    ∃ b, (cs.drop off).take sz = enc b ∧ ∃ k', k' ≤ Rows.uptoBulk (DataW.agg (xs.map (·.1))) ∧ ok b k' := by
  obtain ⟨f, hi, rfl, rfl⟩ := hi'
  subst hc
  have h1 := hf i f hi
  rw [List.getElem?_eq_getElem hl] at h1
  obtain ⟨b, hb, hk⟩ := h.get en n _ _ h1 fun m hm => hw m (by
    simp only [DataW.weights, ht]
    exact DataW.weights_mem_each (j := i) (t := f.type) (d := xs[i].1) (by simp [hi]) (by simp [hl]) m hm)
  refine ⟨b, hb, _, ?_, hk⟩
  have := bulk_mem (List.mem_map.2 ⟨xs[i], List.getElem_mem hl, rfl⟩ : xs[i].1 ∈ xs.map (·.1))
  simp only [Rows.uptoBulk]
  omega

/-- A whole argument. -/
theorem opn_arg {β : Type} {enc : β → List Value} {ok : β → Nat → Prop} (h : Opn P W t enc ok) {H : Type} {en : TypeId × Value → H} {v : Value} {d : DataW H} {p : List MemPlace} (hd : DataW.Trod en P W 0 (fun _ => true) true t v d p)
    (hw : ∀ n ∈ d.weights P t, n ≤ reachBytes) : ∃ b, v.cells.toList = enc b ∧ ok b (Rows.uptoBulk d) := by
  obtain ⟨fuel, hf⟩ := hd
  exact h.get en fuel _ _ hf hw
end

theorem walk_end {P : Program} {f : FuncId} {args : Array Value} {W : World} (h : Calls P f args W (retP fun v w => v = .bool true ∧ Sat W w [old W])) : Calls P f args W fun e W' => e = .returned (.bool true) ∧ Below W.heap.size W W' :=
  h.mono fun e w he => by
    cases e with
    | returned v => obtain ⟨rfl, hS⟩ := he; exact ⟨rfl, hS.below 0 rfl⟩
    | panicked c => exact he.elim
    | outgrown => exact he.elim

theorem cells_one {v u : Value} (h : v.cells.toList = [u]) (hv : v.oneCell' = true) : v = u := by
  cases v <;> first | (simp [Value.cells] at h; exact h) | cases hv
theorem cells_agg {cs : Array Value} {l : List Value} (h : (Value.agg cs).cells.toList = l) : Value.agg cs = .agg l.toArray := by
  simp only [Value.cells] at h
  rw [← h]

end Go.Proofs.YtbgnnjfpiblkmaaDoor
