/-
  Texts of one proof, one behind the other: LaySf, SrtI, MapD, DepI, LwH, SnN, SnG, Clr, SnNw, SnO, GloS, SnapNeeds.
-/
import Derived.Shelf.SlSortCmp.NoneTotal
import Derived.Lib.BytesEntry
import Derived.SevenTiedAt
import Derived.Test.YtikmogfhhggafaaGreatDoorMg7
set_option linter.unusedSimpArgs false
set_option linter.unnecessarySimpa false
set_option linter.unusedSectionVars false
set_option linter.unusedVariables false

namespace Go.Proofs.YtikmogfhhggafaaGreatDoor
open Go
def laysSf_ren : Go.Shelf.Ren := ⟨fun | 6 => 66 | 15 => 105 | 14 => 104 | 28 => 143 | 29 => 144 | 20 => 135 | 21 => 136 | 22 => 137 | 23 => 138 | 24 => 139 | 25 => 140 | 26 => 141 | 27 => 142 | 46 => 183 | 47 => 184 | 48 => 185 | 49 => 186 | 50 => 187 | 57 => 208 | n => n, fun | 22 => 52 | 24 => 58 | 25 => 134 | 3 => 3 | 39 => 97 | 0 => 0 | 53 => 213 | 55 => 212 | 4 => 4 | 46 => 234 | 45 => 233 | 50 => 136 | 5 => 5 | 9 => 9 | 66 => 265 | 70 => 269 | 76 => 291 | 77 => 292 | n => n, fun | n => n⟩
theorem laysSf : Go.Proofs.SlLaysF0.n6 Tryz.prog laysSf_ren := ⟨
  by kernel_rfl, ⟨Tryz.f66.name, by decide, Tryz.func66.trans (congrArg some (by kernel_rfl))⟩, ⟨Tryz.f104.name, by decide, Tryz.func104.trans (congrArg some (by kernel_rfl))⟩, Tryz.func105.trans (congrArg some (by kernel_rfl)),
  ⟨Tryz.f135.name, by decide, Tryz.func135.trans (congrArg some (by kernel_rfl))⟩, ⟨Tryz.f136.name, by decide, Tryz.func136.trans (congrArg some (by kernel_rfl))⟩, ⟨Tryz.f137.name, by decide, Tryz.func137.trans (congrArg some (by kernel_rfl))⟩,
  ⟨Tryz.f138.name, by decide, Tryz.func138.trans (congrArg some (by kernel_rfl))⟩, ⟨Tryz.f139.name, by decide, Tryz.func139.trans (congrArg some (by kernel_rfl))⟩, ⟨Tryz.f140.name, by decide, Tryz.func140.trans (congrArg some (by kernel_rfl))⟩,
  ⟨Tryz.f141.name, by decide, Tryz.func141.trans (congrArg some (by kernel_rfl))⟩, ⟨Tryz.f142.name, by decide, Tryz.func142.trans (congrArg some (by kernel_rfl))⟩, Tryz.func143.trans (congrArg some (by kernel_rfl)),
  Tryz.func144.trans (congrArg some (by kernel_rfl)), ⟨Tryz.f183.name, by decide, Tryz.func183.trans (congrArg some (by kernel_rfl))⟩, Tryz.func184.trans (congrArg some (by kernel_rfl)), Tryz.func185.trans (congrArg some (by kernel_rfl)),
  ⟨Tryz.f186.name, by decide, Tryz.func186.trans (congrArg some (by kernel_rfl))⟩, ⟨Tryz.f187.name, by decide, Tryz.func187.trans (congrArg some (by kernel_rfl))⟩, ⟨Tryz.f208.name, by decide, Tryz.func208.trans (congrArg some (by kernel_rfl))⟩,
  Tryz.underlying0, Tryz.isAgg0, Tryz.sizeOf0, Tryz.zeroValue0, Tryz.underlying3, Tryz.isAgg3, Tryz.sizeOf3, Tryz.zeroValue3, Tryz.underlying4, Tryz.isAgg4, Tryz.sizeOf4, Tryz.zeroValue4, Tryz.underlying5,
  Tryz.isAgg5, Tryz.sizeOf5, Tryz.zeroValue5, Tryz.underlying9, Tryz.isAgg9, Tryz.sizeOf9, Tryz.zeroValue9, Tryz.underlying52, Tryz.isAgg52, Tryz.sizeOf52, Tryz.zeroValue52, Tryz.underlying134, Tryz.isAgg134,
  Tryz.sizeOf134, Tryz.zeroValue134, Tryz.underlying97, Tryz.isAgg97, Tryz.sizeOf97, Tryz.zeroValue97, Tryz.underlying233, Tryz.isAgg233, Tryz.sizeOf233, Tryz.zeroValue233, Tryz.underlying234, Tryz.isAgg234,
  Tryz.sizeOf234, Tryz.zeroValue234, Tryz.underlying136, Tryz.isAgg136, Tryz.sizeOf136, Tryz.zeroValue136, Tryz.underlying213, Tryz.isAgg213, Tryz.sizeOf213, Tryz.zeroValue213, Tryz.underlying212, Tryz.isAgg212,
  Tryz.sizeOf212, Tryz.zeroValue212, Tryz.underlying265, Tryz.isAgg265, Tryz.sizeOf265, Tryz.zeroValue265, Tryz.underlying269, Tryz.isAgg269, Tryz.sizeOf269, Tryz.zeroValue269, Tryz.underlying291, Tryz.isAgg291,
  Tryz.sizeOf291, Tryz.zeroValue291, Tryz.underlying292, Tryz.isAgg292, Tryz.sizeOf292, Tryz.zeroValue292⟩
end Go.Proofs.YtikmogfhhggafaaGreatDoor

namespace Go.Proofs.YtikmogfhhggafaaGreatDoor
open Go

theorem bytesOf_u8 (l : List UInt8) : Lib.bytesOf (l.map fun b => (b.toNat : Int)) = l := by
  induction l with
  | nil => rfl
  | cons b l ih =>
    unfold Lib.bytesOf at ih ⊢
    rw [List.map_cons, List.map_cons, ih]
    simp
theorem run_bytesAt {P : Program} {w : World} (a : Addr) (l : List UInt8) (n c : Nat) (hn : n = l.length) (h : ∀ j b, l[j]? = some b → w.cell? (a.add j) = some (bv b)) : (Extern.Bytes.bytesOf (.slice (some a) n c)).run P w = .ok ⟨l.toArray⟩ w := by
  subst hn
  have h1 := Lib.run_loadBytesX (P := P) w (l.map fun b => (b.toNat : Int)) a .empty (fun j x hj => by
    rw [List.getElem?_map] at hj
    cases hb : l[j]? with
    | none => rw [hb] at hj; cases hj
    | some b =>
      rw [hb] at hj
      have hj : (b.toNat : Int) = x := Option.some.inj hj
      rw [h j b hb, ← hj]; rfl)
  rw [List.length_map, bytesOf_u8] at h1
  show (Extern.Bytes.loadBytes a l.length .empty).run P w = _
  rw [h1]
  congr 2
  exact Array.empty_append
theorem run_cmpB {w : World} {P : Program} (a b : Addr) (x y : List UInt8) (n m c d : Nat) (hn : n = x.length) (hm : m = y.length) (hx : ∀ j v, x[j]? = some v → w.cell? (a.add j) = some (bv v)) (hy : ∀ j v, y[j]? = some v → w.cell? (b.add j) = some (bv v)) :
    (Extern.BytealgCompare.compare #[.slice (some a) n c, .slice (some b) m d]).run P w = .ok (.int .i64 (Lib.compareBytes x y)) w := by
  have h1 := run_bytesAt (P := P) a x n c hn hx
  have h2 := run_bytesAt (P := P) b y m d hm hy
  change Sem.run P (do pure (goInt (Extern.BytealgCompare.cmp (← Extern.Bytes.bytesOf (.slice (some a) n c)) (← Extern.Bytes.bytesOf (.slice (some b) m d))))) w = _
  simp only [Sem.run_bind, h1, h2, Result.andThen, Sem.run_pure]
  rw [Lib.cmp_eq]
  rfl
theorem pN_cmb [Pan] {w : World} {K : Value → World → Prop} (a b : Addr) (x y : List UInt8) (n m c d : Nat) (hn : n = x.length) (hm : m = y.length) (hx : ∀ j v, x[j]? = some v → w.cell? (a.add j) = some (bv v)) (hy : ∀ j v, y[j]? = some v → w.cell? (b.add j) = some (bv v)) (hk : K (.int .i64 (Lib.compareBytes x y)) w) :
    pN Tryz.prog (oCall 106 [.slice (some a) n c, .slice (some b) m d]) w K := by
  have h := run_callFunc_extern (P := Tryz.prog) Tryz.func106 (by kernel_rfl) (by kernel_rfl) (by kernel_rfl) (e := Extern.BytealgCompare.compare) (by kernel_rfl) #[.slice (some a) n c, .slice (some b) m d] w
  rw [run_cmpB a b x y n m c d hn hm hx hy] at h
  have h2 : (oCall 106 [.slice (some a) n c, .slice (some b) m d]).run Tryz.prog w = .ok (.value (.int .i64 (Lib.compareBytes x y))) w := h
  rw [pN_def, h2, rN_value]
  exact hk
theorem run_bxx {P : Program} {w : World} {b : TypeId} {u : Value} : (oBox b u).run P w = .ok (.value (.pointer (some ⟨w.heap.size, 0, none⟩))) (w.alloc (.cells u.cells b)) := by
  refine run_oV_ok ?_
  simp [Instr.box, newVar, newRow]
theorem run_aslf {P : Program} {t : TypeId} {n b i : Nat} [h : Ar P t n] (h0 : 0 < n) (w : World) :
    (oSl t (.pointer (some ⟨b, i, none⟩)) none none none).run P w = .ok (.value (.slice (some ⟨b, i, none⟩) n n)) w := by
  obtain ⟨e, ht, hs, _⟩ := h.ex
  refine run_oV_ok ?_
  have h2 : ¬ n = 0 := by omega
  simp [Instr.sliceAt, run_underlying ht, Instr.sureAddr, Instr.sliceBounds, Instr.sliceBound, asIntOf, hs, h2, Addr.add_lit]
theorem pA_aslf [Pan] {P : Program} {t : TypeId} {n b i : Nat} {J : Value → Prop} [h : Ar P t n] (h0 : 0 < n) (hk : J (.slice (some ⟨b, i, none⟩) n n)) : pA P (oSl t (.pointer (some ⟨b, i, none⟩)) none none none) J := ⟨_, run_aslf h0, hk⟩
instance ar_idS : Ar Tryz.prog 58 32 := ⟨_, Tryz.underlying58, Tryz.sizeOf5, Tryz.isAgg5⟩

def cfI (x y : I32) : Int := Lib.compareBytes x.l y.l
theorem ltOf_cfI : Go.Proofs.ltOf cfI = S.lessI := by
  funext x y
  exact cmp_lt x.l y.l
theorem swo_cfI : Sort.SWO (Go.Proofs.ltOf cfI) := by
  rw [ltOf_cfI]
  exact ⟨S.lessI_ord.irr, S.lessI_ord.tr, S.lessI_ord.nt⟩

abbrev two (x y : I32) (w : World) : World := (w.alloc (.cells (bvs x.l).toArray 58)).alloc (.cells (bvs y.l).toArray 58)
theorem two_h1 {w : World} {x y : I32} : (two x y w).drew.heap[w.heap.size]? = some (.cells (bvs x.l).toArray 58 (0, 0)) := by
  show ((w.heap.push _).push _)[w.heap.size]? = _
  rw [Array.getElem?_push_lt (by simp), Array.getElem_push_eq]
theorem two_h2 {w : World} {x y : I32} : (two x y w).drew.heap[w.heap.size + 1]? = some (.cells (bvs y.l).toArray 58 (0, 0)) := by
  show ((w.heap.push _).push _)[w.heap.size + 1]? = _
  rw [← Array.size_push (xs := w.heap) (.cells (bvs x.l).toArray 58), Array.getElem?_push_size]
theorem bvs_get8 {l : List UInt8} {j : Nat} {v : UInt8} (h : l[j]? = some v) : (bvs l)[j]? = some (bv v) := by rw [bvs, List.getElem?_map, h]; rfl
theorem two_cells {w : World} {x y : I32} : (∀ j v, x.l[j]? = some v → (two x y w).drew.cell? ((⟨w.heap.size, 0, none⟩ : Addr).add j) = some (bv v)) ∧ (∀ j v, y.l[j]? = some v → (two x y w).drew.cell? ((⟨w.heap.size + 1, 0, none⟩ : Addr).add j) = some (bv v)) := by
  constructor
  · intro j v hv
    rw [Addr.add_lit, Nat.zero_add, cell_of_blk two_h1]
    simpa using bvs_get8 hv
  · intro j v hv
    rw [Addr.add_lit, Nat.zero_add, cell_of_blk two_h2]
    simpa using bvs_get8 hv
theorem two_grow (x y : I32) (w : World) : ∃ q os, (two x y w).drew = Sort.grow (w.drewN q) os :=
  ⟨1, #[.cells (bvs x.l).toArray 58, .cells (bvs y.l).toArray 58], by
    show World.mk _ _ _ _ _ = World.mk _ _ _ _ _
    congr 1⟩
attribute [local irreducible] oMv oV oU oCall oCallV oBi oBin oUn oLoad oStore oNil oFld oField oIdx oIndex oPick oAlloc oBox oBuild oBs oConv oMk oSl oExt oFn oIface oMap oLook oMapUp oRange oNext oEntry oInv oAssert oPanic oRes pN pA pL pDr pIf gA pGd Calls
def CmpAt (g : Nat) : Prop := ∀ (x y : I32) (w : World), Calls Tryz.prog g #[.agg (bvs x.l).toArray, .agg (bvs y.l).toArray] w fun e w' => e = .returned (.int .i64 (cfI x y)) ∧ ∃ q os', w' = Sort.grow (w.drewN q) os'
theorem BCompare_ok [Pan] {w : World} {Q : Value → World → Prop} (a b : Addr) (x y : List UInt8) (n m c d : Nat) (hn : n = x.length) (hm : m = y.length) (hx : ∀ j v, x[j]? = some v → w.cell? (a.add j) = some (bv v)) (hy : ∀ j v, y[j]? = some v → w.cell? (b.add j) = some (bv v)) (hQ : Q (.int .i64 (Lib.compareBytes x y)) w) :
    Calls Tryz.prog 68 #[.slice (some a) n c, .slice (some b) m d] w (retP Q) := by
  refine bytes_Compare.calls ?_
  unfold bytes_Compare.F
  refine pN_cmb a b x y n m c d hn hm hx hy ?_
  exact hQ
theorem ret_end [Pan] {g : Nat} {args : Array Value} {w : World} {v : Value} {R : World → Prop} (h : Calls Tryz.prog g args w (@retP Pan.no fun u w' => u = v ∧ R w')) : Calls Tryz.prog g args w fun e w' => e = .returned v ∧ R w' :=
  Calls.mono h fun e w' he => by
    cases e with
    | returned u => obtain ⟨rfl, hr⟩ := (he : u = v ∧ R w'); exact ⟨rfl, hr⟩
    | panicked c => exact False.elim he
    | outgrown => exact False.elim he
theorem cmpAt_depot : CmpAt 70 := fun x y w => by
  refine ret_end (depot_order.calls ?_)
  unfold depot_order.F
  rw [pN_def, run_bxx, rN_value, pN_def, run_bxx, rN_value]
  have hsz : (w.alloc (.cells (Value.agg (bvs x.l).toArray).cells 58)).heap.size = w.heap.size + 1 := Array.size_push ..
  rw [hsz]
  obtain ⟨h1, h2⟩ := @two_cells w x y
  rw [pDr_def]
  refine pA_aslf (n := 32) (Nat.succ_pos _) ?_
  refine pA_aslf (n := 32) (Nat.succ_pos _) ?_
  refine pc_bytes_Compare (BCompare_ok ⟨w.heap.size, 0, none⟩ ⟨w.heap.size + 1, 0, none⟩ x.l y.l 32 32 32 32 x.h.symm y.h.symm h1 h2 ?_)
  exact ⟨trivial, rfl, two_grow x y w⟩
theorem cmpAt_needs : CmpAt 67 := fun x y w => by
  refine ret_end (snap_Needs_c1.calls ?_)
  unfold snap_Needs_c1.F
  rw [pN_def, run_bxx, rN_value, pN_def, run_bxx, rN_value]
  have hsz : (w.alloc (.cells (Value.agg (bvs x.l).toArray).cells 58)).heap.size = w.heap.size + 1 := Array.size_push ..
  rw [hsz]
  obtain ⟨h1, h2⟩ := @two_cells w x y
  rw [pDr_def]
  refine pA_aslf (n := 32) (Nat.succ_pos _) ?_
  refine pA_aslf (n := 32) (Nat.succ_pos _) ?_
  refine pc_bytes_Compare (BCompare_ok ⟨w.heap.size, 0, none⟩ ⟨w.heap.size + 1, 0, none⟩ x.l y.l 32 32 32 32 x.h.symm y.h.symm h1 h2 ?_)
  exact ⟨trivial, rfl, two_grow x y w⟩

section
variable [Pan] {E w : World} {Q : Value → World → Prop} {M : List HA} {s : Sl}

theorem SortI_ok {l : List I32} (g0 : Nat) (hg0 : ∀ args w, (callFunc g0 args).run Tryz.prog w = .ok (.enter g0 args) w) (hcmp : CmpAt g0) (hS : Sat E w (rows (cdI 58) s l :: M)) (hl : l.length ≤ 1099511627776) (hQ : ∀ w, Sat E w (rows (cdI 58) s (S.sortI l) :: M) → Q (.tuple #[]) w) :
    Calls Tryz.prog 66 #[.slice s.a l.length s.c, .func (.func g0) #[] #[]] w (retP Q) := by
  by_cases h0 : l = []
  · subst h0
    refine (AnyF.slices_SortFunc_none laysSf s.a s.c (.func (.func g0) #[] #[]) w).mono ?_
    rintro e w' ⟨rfl, rfl⟩
    rw [(S.sortI_perm []).eq_nil] at hQ
    exact hQ _ hS
  · obtain ⟨g, cur, ha, hg, hsz, ht⟩ := rows_blk hS h0
    have hH : Sort.HoldsK (cdI 58).enc 32 w g 0 l.toArray := fun j hj => by
      have hj : j < l.length * 32 := by simpa using hj
      have hsz : l.length * 32 ≤ cur.size := hsz
      have ht : cur.toList.take (l.length * 32) = (cdI 58).flat l := ht
      obtain ⟨c1, c2⟩ := rows_cell hg (j := j) (by omega)
      rw [Nat.zero_add]
      refine ⟨?_, c2⟩
      have hfl := flatK_flat (cdI 58) l
      have hk : (Sort.flatK (cdI 58).enc 32 l.toArray).toList = (cdI 58).flat l := hfl
      have hs : j < (Sort.flatK (cdI 58).enc 32 l.toArray).size := by simpa using hj
      rw [c1, ← Array.getElem?_toList, ← List.getElem?_take_of_lt hj, ht, ← hk, Array.getElem?_toList, Array.getElem?_eq_getElem hs, getElem!_pos (Sort.flatK (cdI 58).enc 32 l.toArray) j hs]
      rfl
    rw [ha]
    have hgl : g < w.heap.size := (Array.getElem?_eq_some_iff.1 hg).1
    have hlen : l.toArray.size = l.length := by simp
    have hsz62 : l.toArray.size < 4611686018427387904 := by rw [hlen]; omega
    have hcon := AnyQ.slices_SortFunc_total laysSf 32 Tryz.isAgg58 Tryz.sizeOf58 (cdI 58).enc (cdI 58).len (cdI 58).one cfI swo_cfI g0 #[] g 0 s.c l.toArray w hg0 (fun _ _ _ _ x y => hcmp x y _) hH hgl hsz62 (fun x y h1 h2 => by rw [ltOf_cfI] at h1 h2; exact S.lessI_tri h1 h2)
    rw [hlen, ltOf_cfI] at hcon
    refine hcon.mono ?_
    rintro e w' ⟨rfl, n, os, rfl⟩
    have hp := S.sortI_perm l
    refine hQ _ (hS.put (g := g) (n := n) (os := os) (f := Sort.putCells id 0 (Sort.flatK (cdI 58).enc 32 (S.sortI l).toArray)) ha h0 rfl hp.length_eq fun c hc => ⟨putCells_size .., ?_⟩)
    have hk : (Sort.flatK (cdI 58).enc 32 (S.sortI l).toArray).toList = (cdI 58).flat (S.sortI l) := flatK_flat (cdI 58) (S.sortI l)
    have hc : l.length * 32 ≤ c.size := hc
    have hz : (Sort.flatK (cdI 58).enc 32 (S.sortI l).toArray).size = l.length * 32 := by simp [hp.length_eq]
    have := putCells_take id (Sort.flatK (cdI 58).enc 32 (S.sortI l).toArray) c (by rw [hz]; exact hc)
    rw [hz, hk, List.map_id] at this
    exact this
end
end Go.Proofs.YtikmogfhhggafaaGreatDoor

namespace Go.Proofs.YtikmogfhhggafaaGreatDoor
open Go Go.ChangeMaps Go.MapKept

section
variable {κ : Type} {ke : κ → Value} [DecidableEq κ]
def mera : List (κ × Value) → κ → List (κ × Value)
  | [], _ => []
  | p :: l, k => if p.1 = k then l else p :: mera l k
theorem mera_none (hi : ∀ a b, ke a = ke b → a = b) : ∀ {es : List MapEntry} {l : List (κ × Value)} {k : κ}, eks es = kvs ke l → (∀ e ∈ es, e.key ≠ ke k) → mera l k = l
  | [], [], _, _, _ => rfl
  | [], p :: l, _, h, _ => by cases h
  | e :: es, [], _, h, _ => by cases h
  | e :: es, p :: l, k, h, hn => by
    simp only [eks, kvs, List.map_cons, List.cons.injEq, Prod.mk.injEq] at h
    have h1 := hn e List.mem_cons_self
    rw [mera, if_neg (fun e' => h1 (by rw [h.1.1, e'])), mera_none hi h.2 fun e he => hn e (List.mem_cons_of_mem _ he)]
theorem mera_some (hi : ∀ a b, ke a = ke b → a = b) : ∀ {es : List MapEntry} {l : List (κ × Value)} {k : κ} {j : Nat} {e : MapEntry}, eks es = kvs ke l → (es.map (·.key)).Nodup → es[j]? = some e → e.key = ke k → eks (es.eraseIdx j) = kvs ke (mera l k)
  | [], _, _, _, _, _, _, h, _ => by simp at h
  | e :: es, [], _, _, _, h, _, _, _ => by cases h
  | e :: es, p :: l, k, 0, e', h, _, hj, hk => by
    simp only [eks, kvs, List.map_cons, List.cons.injEq, Prod.mk.injEq] at h
    simp only [List.getElem?_cons_zero, Option.some.injEq] at hj
    subst hj
    rw [mera, if_pos (hi _ _ (by rw [← h.1.1, hk])), List.eraseIdx_cons_zero]
    exact h.2
  | e :: es, p :: l, k, j + 1, e', h, hn, hj, hk => by
    have h' := h
    simp only [eks, kvs, List.map_cons, List.cons.injEq, Prod.mk.injEq] at h'
    rw [List.getElem?_cons_succ] at hj
    rw [List.map_cons, List.nodup_cons] at hn
    rw [mera, if_neg fun e' => hn.1 (List.mem_map.2 ⟨_, List.mem_of_getElem? hj, by rw [hk, h'.1.1, e']⟩), List.eraseIdx_cons_succ]
    have ih := mera_some hi h'.2 hn.2 hj hk
    simp only [eks, kvs, List.map_cons, List.cons.injEq, Prod.mk.injEq] at ih ⊢
    exact ⟨h'.1, ih⟩
end
section
variable [Pan] {P : Program} {E w : World} {K : Value → World → Prop} {L M : List HA} {κ : Type} [DecidableEq κ] {ke : κ → Value} {t t2 ty : TypeId} {z : Value} {b : Nat} {l : List (κ × Value)} {cs : List Bool}
theorem pN_mdel (hS : Sat E w L) [h : Fnd (mp ke b) L l M] [hT : MapT P t ke z] (k : κ) (hk : ∀ w', Sat E w' (mp ke b (mera l k) :: M) → K (.tuple #[]) w') : pN P (oBi .delete #[t, t2] ty cs [.map (some b), ke k]) w K := by
  obtain ⟨kt, e, ht, hz, hK⟩ := hT.ex
  obtain ⟨es, clock, hb, hs, he⟩ := mp_at (ke := ke) (b := b) hS
  have h0 : Sat E w ((fun h => h b = some (.map es clock)) :: M) := by
    obtain ⟨h1, ⟨es', clock', hb', _, _⟩, hsub, hr⟩ := (hS.fd (mp ke b)).sats
    have : w.heap[b]? = some (.map es' clock') := hsub _ _ hb'
    rw [hb] at this
    simp only [Option.some.injEq, Obj.map.injEq] at this
    obtain ⟨rfl, rfl⟩ := this
    exact ⟨hS.os, hS.tape, hS.output, h1, hb', hsub, hr⟩
  rcases hK.find k es.toList w (eks_keys he) with ⟨h1, h2⟩ | ⟨j, e0, h1, h2, h3⟩
  · have hr : (Builtin.delete_ #[t, t2] ty #[.map (some b), ke k]).run P w = .ok (.tuple #[]) (setBlock w b (.map es clock)) := by
      simp [Builtin.delete_, run_underlying ht, MapKept.run_getObj_map hb, hK.check k, h1, MapKept.run_setObj_map _ hb, Result.andThen, setBlock]
    have hr2 : (oBi .delete #[t, t2] ty cs [.map (some b), ke k]).run P w = .ok (.value (.tuple #[])) (setBlock w b (.map es clock)) := run_oV_ok hr
    rw [pN_def, hr2, rN_value]
    refine hk _ (h0.set_blk (fun h e => e) fun h e => ⟨_, _, if_pos rfl, hs, ?_⟩)
    rw [mera_none hK.inj he h2]; exact he
  · have hjl : j < es.toList.length := (List.getElem?_eq_some_iff.1 h2).1
    have hjs : j < es.size := by simpa using hjl
    have hsub : (es.eraseIdxIfInBounds j).toList = es.toList.eraseIdx j := by
      unfold Array.eraseIdxIfInBounds
      rw [dif_pos hjs]
      simp
    have hr : (Builtin.delete_ #[t, t2] ty #[.map (some b), ke k]).run P w = .ok (.tuple #[]) (setBlock w b (.map (es.eraseIdxIfInBounds j) clock)) := by
      simp [Builtin.delete_, run_underlying ht, MapKept.run_getObj_map hb, hK.check k, h1, MapKept.run_setObj_map _ hb, Result.andThen, setBlock]
    have hr2 : (oBi .delete #[t, t2] ty cs [.map (some b), ke k]).run P w = .ok (.value (.tuple #[])) (setBlock w b (.map (es.eraseIdxIfInBounds j) clock)) := run_oV_ok hr
    rw [pN_def, hr2, rN_value]
    refine hk _ (h0.set_blk (fun h e => e) fun h e => ⟨_, _, if_pos rfl, ⟨?_, ?_, ?_⟩, ?_⟩)
    · intro x hx
      rw [hsub] at hx
      exact hs.1 x ((List.eraseIdx_sublist _ _).subset hx)
    · rw [hsub]
      exact hs.2.1.sublist ((List.eraseIdx_sublist _ _).map _)
    · rw [hsub]
      exact hs.2.2.sublist ((List.eraseIdx_sublist _ _).map _)
    · rw [hsub]
      exact mera_some hK.inj he hs.2.2 h2 h3
end
end Go.Proofs.YtikmogfhhggafaaGreatDoor

namespace Go.Proofs.YtikmogfhhggafaaGreatDoor
open Go
namespace D
section
variable {κ β : Type} [DecidableEq κ]
theorem mera_era : ∀ (l : List (κ × Value)) (k : κ), mera l k = era l k
  | [], _ => rfl
  | (a, v) :: l, k => by rw [mera, era, mera_era l k]
theorem era_map {κ' γ : Type} [DecidableEq κ'] {g : κ → κ'} (hg : ∀ a b, g a = g b → a = b) (f : β → γ) : ∀ (l : List (κ × β)) (k : κ), era (l.map fun x => (g x.1, f x.2)) (g k) = (era l k).map fun x => (g x.1, f x.2)
  | [], _ => rfl
  | (a, v) :: l, k => by
    rw [List.map_cons, era, era, era_map hg f l k]
    by_cases h : a = k
    · rw [if_pos h, if_pos (by rw [h])]
    · rw [if_neg h, if_neg fun e => h (hg _ _ e)]; rfl
theorem era_sub : ∀ (l : List (κ × β)) (k : κ), (era l k).Sublist l
  | [], _ => List.Sublist.refl _
  | (a, v) :: l, k => by
    rw [era]
    split
    · exact List.sublist_cons_self _ _
    · exact (era_sub l k).cons_cons _
theorem look_era_other : ∀ (l : List (κ × β)) (x y : κ), x ≠ y → look (era l x) y = look l y
  | [], _, _, _ => rfl
  | (a, v) :: l, x, y, h => by
    rw [era]
    split
    · rename_i h1
      subst h1
      rw [look, if_neg h]
    · rw [look, look]
      split
      · rfl
      · exact look_era_other l x y h
theorem look_era_same : ∀ {l : List (κ × β)} {x : κ}, (l.map (·.1)).Nodup → look (era l x) x = none
  | [], _, _ => rfl
  | (a, v) :: l, x, h => by
    rw [List.map_cons, List.nodup_cons] at h
    rw [era]
    split
    · rename_i h1
      subst h1
      exact look_none.2 fun p hp e => h.1 (List.mem_map.2 ⟨p, hp, e⟩)
    · rename_i h1
      rw [look, if_neg h1]
      exact look_era_same h.2
end
def T.drop1 (d : T) (i : I32) : T := { d with ps := era d.ps i }
def T.drops (d : T) (l : List I32) : T := l.foldl T.drop1 d
theorem drops_take {d : T} {l : List I32} {j : Nat} {i : I32} (h : l[j]? = some i) : d.drops (l.take (j + 1)) = (d.drops (l.take j)).drop1 i := by
  unfold T.drops
  rw [List.take_add_one, h, List.foldl_append]
  rfl
theorem drops_k : ∀ (l : List I32) (d : T), (d.drops l).k = d.k
  | [], _ => rfl
  | i :: l, d => drops_k l (d.drop1 i)
theorem drops_ns : ∀ (l : List I32) (d : T), (d.drops l).ns = d.ns
  | [], _ => rfl
  | i :: l, d => drops_ns l (d.drop1 i)
theorem drop1_in {d : T} {U : List B} (h : d.In U) (i : I32) : (d.drop1 i).In U := ⟨fun x hx => h.all x ((era_sub d.ps i).subset hx)⟩
theorem drops_in {U : List B} : ∀ (l : List I32) {d : T}, d.In U → (d.drops l).In U
  | [], _, h => h
  | i :: l, _, h => drops_in l (drop1_in h i)
def T.Nd (d : T) : Prop := (d.ps.map (·.1)).Nodup
theorem drop1_nd {d : T} (h : d.Nd) (i : I32) : (d.drop1 i).Nd := h.sublist ((era_sub d.ps i).map _)
theorem drops_nd : ∀ (l : List I32) {d : T}, d.Nd → (d.drops l).Nd
  | [], _, h => h
  | i :: l, _, h => drops_nd l (drop1_nd h i)
theorem look_drop1 {d : T} (h : d.Nd) (i j : I32) : look (d.drop1 i).ps j = if i = j then none else look d.ps j := by
  by_cases e : i = j
  · subst e; rw [if_pos rfl]; exact look_era_same h
  · rw [if_neg e]; exact look_era_other d.ps i j e
theorem look_drops : ∀ (l : List I32) {d : T}, d.Nd → ∀ j, look (d.drops l).ps j = if j ∈ l then none else look d.ps j
  | [], d, _, j => by rw [if_neg (by simp)]; rfl
  | i :: l, d, h, j => by
    show look ((d.drop1 i).drops l).ps j = _
    rw [look_drops l (drop1_nd h i) j, look_drop1 h]
    by_cases e : j ∈ l
    · rw [if_pos e, if_pos (List.mem_cons_of_mem _ e)]
    · rw [if_neg e]
      by_cases e2 : i = j
      · rw [if_pos e2, if_pos (by rw [e2]; exact List.mem_cons_self)]
      · rw [if_neg e2, if_neg (fun h => by
          rcases List.mem_cons.1 h with h | h
          · exact e2 h.symm
          · exact e h)]
theorem key_look {κ β : Type} [DecidableEq κ] {l : List (κ × β)} {x : κ} : x ∈ l.map (·.1) ↔ ∃ v, look l x = some v := by
  constructor
  · intro h
    cases e : look l x with
    | some v => exact ⟨v, rfl⟩
    | none =>
      obtain ⟨p, hp, rfl⟩ := List.mem_map.1 h
      exact absurd rfl (look_none.1 e p hp)
  · rintro ⟨v, h⟩
    exact List.mem_map.2 ⟨_, look_mem h, rfl⟩
theorem sums_mem {d : T} {i : I32} : i ∈ d.sums ↔ d.has i = true := by
  unfold T.sums T.has
  rw [(S.sortI_perm _).mem_iff, key_look]
  cases look d.ps i <;> simp
theorem sums_rise {d : T} (h : d.Nd) : d.sums.Pairwise fun x y => S.lessI x y = true := by
  unfold T.sums
  have h1 := S.sortI_up (d.ps.map (·.1))
  have h2 : (S.sortI (d.ps.map (·.1))).Nodup := (S.sortI_perm _).nodup_iff.2 h
  exact (h1.and h2).imp fun {a b} hh => by
    cases e : S.lessI a b with
    | true => rfl
    | false => exact absurd (S.lessI_tri e hh.1) hh.2
end D
theorem keep_sats_era {κ α : Type} [DecidableEq κ] {C : Cd α} : ∀ (l : List (κ × (Sl × List α))) (k : κ) (h : Hp), Sats (keep C l) h → Sats (keep C (D.era l k)) h
  | [], _, _, hs => hs
  | (a, u) :: l, k, h, hs => by
    rw [D.era]
    split
    · exact Sats.drop1 hs
    · exact Sats.cons_mono (fun h => keep_sats_era l k h) hs
theorem keep_era {κ α : Type} [DecidableEq κ] {E w : World} {M : List HA} {C : Cd α} {l : List (κ × (Sl × List α))} (k : κ) (hS : Sat E w (bag (keep C l) :: M)) : Sat E w (bag (keep C (D.era l k)) :: M) :=
  Sat.shutBag (hS.weaken (B := fun h => Sats (keep C (D.era l k)) h) (fun h hh => keep_sats_era l k h hh) |>.open_ fun h hh => hh)
theorem vals_era {κ α : Type} [DecidableEq κ] (l : List (κ × (Sl × List α))) (k : κ) : mera (vals l) k = vals (D.era l k) := by
  rw [D.mera_era]
  exact D.era_map (g := id) (fun a b h => h) slv l k
theorem Told.era {d : D.T} {pl : List PE} {nl : List NE} (h : Told d pl nl) (i : I32) : Told (d.drop1 i) (D.era pl i) nl := by
  refine ⟨?_, h.ns⟩
  show D.era d.ps i = _
  rw [h.ps]
  exact D.era_map (g := id) (fun a b h => h) (fun x : Sl × List UInt8 => x.2) pl i
theorem mp_nodup {κ : Type} {ke : κ → Value} {E w : World} {L M : List HA} {b : Nat} {l : List (κ × Value)} (hS : Sat E w L) [h : Fnd (mp ke b) L l M] : (l.map (·.1)).Nodup := by
  obtain ⟨es, clock, hb, hs, he⟩ := mp_at (ke := ke) (b := b) hS
  have h1 : (es.toList.map (·.key)) = (l.map (·.1)).map ke := by
    have := congrArg (List.map Prod.fst) he
    simpa [eks, kvs, Function.comp_def] using this
  have h2 := hs.2.2
  rw [h1] at h2
  exact List.Pairwise.of_map ke (fun a b hab e => hab (by rw [e])) h2
theorem Dep.nd {E w : World} {M : List HA} {c : T_api_Config} {b : Nat} {d : D.T} (hS : Sat E w (Dep c b d :: M)) : d.Nd := by
  obtain ⟨mb, nb, pl, nl, ht, hS⟩ := Dep.opn hS
  have h := mp_nodup (ke := idV) (b := mb) hS
  rw [D.vals_keys] at h
  unfold D.T.Nd
  rw [ht.ps, List.map_map]
  exact h
theorem depot_enters : ∀ args w, (callFunc 70 args).run Tryz.prog w = .ok (.enter 70 args) w := enters_of Tryz.func70 (by kernel_rfl) rfl
instance mt_named : MapT Tryz.prog 56 idV (.int .i64 0) := ⟨_, _, Tryz.underlying56, Tryz.zeroValue3, inferInstance⟩
attribute [local irreducible] oMv oV oU oCall oCallV oBi oBin oUn oLoad oStore oNil oFld oField oIdx oIndex oPick oAlloc oBox oBuild oBs oConv oMk oSl oExt oFn oIface oMap oLook oMapUp oRange oNext oEntry oInv oAssert oPanic oRes pN pA pL pDr pIf gA pGd Calls
section
variable [Pan] {E w W : World} {K Q : Value → World → Prop} {L M N N' : List HA} {s s2 : Sl} {c : T_api_Config} {b : Nat} {d : D.T} {li : List I32}

set_option maxHeartbeats 1000000 in
theorem DIDs_ok (hS : Sat E w L) [hf : Fnd (Dep c b) L d N] (hl : d.ps.length ≤ 1099511627776) (hQ : ∀ s w, Sat E w (rows (cdI 58) s d.sums :: Dep c b d :: N) → Q (.slice s.a d.sums.length s.c) w) :
    Calls Tryz.prog 19 #[.pointer (some ⟨b, 0, none⟩)] w (retP Q) := by
  refine depot_Depot_IDs.calls ?_
  unfold depot_Depot_IDs.F
  have hS1 := hS.fd (Dep c b)
  clear hS hf
  obtain ⟨mb, nb, pl, nl, ht, hS⟩ := Dep.opn hS1
  clear hS1
  have hkeys : pl.map (·.1) = d.ps.map (·.1) := by rw [ht.ps, List.map_map]; rfl
  have hpl : pl.length ≤ 1099511627776 := by rw [ht.ps, List.length_map] at hl; exact hl
  repeat' (first | (refine pN_rng (P := Tryz.prog) (t := 126) (ke := idV) (b := mb) hS ?_; clear hS; intro r w hS) | ((first | refine pN_lss_s ?_ ?_ | refine pA_lss_s ?_ ?_ | refine pN_lss_sb ?_ ?_ | refine pN_leq_s ?_ ?_ | refine pA_leq_s ?_ ?_ | refine pN_leq_sb ?_ ?_ | refine pN_gtr_s ?_ ?_ | refine pA_gtr_s ?_ ?_ | refine pN_gtr_sb ?_ ?_ | refine pN_geq_s ?_ ?_ | refine pA_geq_s ?_ ?_ | refine pN_geq_sb ?_ ?_) <;> intro hc <;> try (exfalso; omega)) | ((first | refine pN_eql_s ?_ ?_ | refine pA_eql_s ?_ ?_ | refine pN_eql_sb ?_ ?_ | refine pA_eql_sb ?_ ?_ | refine pN_eql_ss ?_ ?_ | refine pA_eql_ss ?_ ?_ | refine pN_neq_s ?_ ?_ | refine pA_neq_s ?_ ?_ | refine pN_neq_sb ?_ ?_ | refine pA_neq_sb ?_ ?_ | refine pN_neq_ss ?_ ?_ | refine pA_neq_ss ?_ ?_) <;> intro hc <;> try (exfalso; first | omega | exact hc rfl | exact hc (by assumption) | exact absurd hc (by assumption))) | refine pIf_t ?_ | refine pIf_f ?_ | refine gA_go (by rfl) ?_ | refine gA_no (by rfl) ?_ | refine pGd_go (by rfl) ?_ | refine pGd_no (by rfl) ?_ | refine pN_tob ?_ | refine pL_tob ?_ | refine pN_ofb ?_ | refine pL_ofb ?_ | refine pN_l hS (by first | rfl | assumption) ?_ | refine pL_l hS (by first | rfl | assumption) ?_ | refine pN_ld1 ha hS ?_ | refine pL_ld1 ha hS ?_ | refine pN_ld_at ha hS (by rfl) ?_ | refine pL_ld_at ha hS (by rfl) ?_ | refine pN_fa ha (by rfl) fun a ha => ?_ | refine pA_fa ha (by rfl) fun a ha => ?_ | refine pN_la hS (by rfl) ?_ | refine pL_la hS (by rfl) ?_ | refine pL_r hS (by rfl) ?_ | refine pL_ra hS (by rfl) ?_ | (refine pN_s hS (by first | exact Nat.le_of_ble_eq_true rfl | assumption) (by rfl) ?_; clear hS; intro w hS; try simp only [List.set_cons_zero, List.set_cons_succ] at hS) | (refine pN_sa hS (by rfl) (by rfl) (by rfl) ?_; clear hS; intro w hS; try dsimp only at hS) | (refine pDr_go hS ?_; clear hS; intro w hS) | (refine pN_nz hS ?_; clear hS; intro a w hS) | (refine pN_bx hS (by rfl) ?_; clear hS; intro a w hS) | refine ⟨trivial, ?_⟩ | refine ⟨⟨(by first | exact run_l hS (by first | rfl | assumption) | exact run_st hS (by first | rfl | omega) | exact run_ld1 ha hS | exact fun _ => run_l hS (by rfl) | exact fun _ => run_st hS (by first | rfl | omega) | exact fun _ => run_ld1 ha hS | exact fun h => Bool.noConfusion h), trivial⟩, ?_⟩ | refine ⟨⟨(by first | exact run_l hS (by first | rfl | assumption) | exact run_st hS (by first | rfl | omega) | exact run_ld1 ha hS | exact fun _ => run_l hS (by rfl) | exact fun _ => run_st hS (by first | rfl | omega) | exact fun _ => run_ld1 ha hS | exact fun h => Bool.noConfusion h), (by first | exact run_l hS (by first | rfl | assumption) | exact run_st hS (by first | rfl | omega) | exact run_ld1 ha hS | exact fun _ => run_l hS (by rfl) | exact fun _ => run_st hS (by first | rfl | omega) | exact fun _ => run_ld1 ha hS | exact fun h => Bool.noConfusion h), trivial⟩, ?_⟩ | refine ⟨⟨(by first | exact run_l hS (by first | rfl | assumption) | exact run_st hS (by first | rfl | omega) | exact run_ld1 ha hS | exact fun _ => run_l hS (by rfl) | exact fun _ => run_st hS (by first | rfl | omega) | exact fun _ => run_ld1 ha hS | exact fun h => Bool.noConfusion h), (by first | exact run_l hS (by first | rfl | assumption) | exact run_st hS (by first | rfl | omega) | exact run_ld1 ha hS | exact fun _ => run_l hS (by rfl) | exact fun _ => run_st hS (by first | rfl | omega) | exact fun _ => run_ld1 ha hS | exact fun h => Bool.noConfusion h), (by first | exact run_l hS (by first | rfl | assumption) | exact run_st hS (by first | rfl | omega) | exact run_ld1 ha hS | exact fun _ => run_l hS (by rfl) | exact fun _ => run_st hS (by first | rfl | omega) | exact fun _ => run_ld1 ha hS | exact fun h => Bool.noConfusion h), trivial⟩, ?_⟩ | refine pN_ixk hS _ (by first | rfl | (exact (Int.toNat_of_nonneg (by omega)).symm)) (by first | rfl | omega | simpa only [go_sem] using True.intro | (simp only [go_sem]; omega)) (by assumption) fun a ha hel => ?_ | refine pA_ixk hS _ (by first | rfl | (exact (Int.toNat_of_nonneg (by omega)).symm)) (by first | rfl | omega | simpa only [go_sem] using True.intro | (simp only [go_sem]; omega)) (by assumption) fun a ha hel => ?_ | refine pN_ix hS _ (by first | rfl | (exact (Int.toNat_of_nonneg (by omega)).symm)) (by first | rfl | omega | simpa only [go_sem] using True.intro | (simp only [go_sem]; omega)) (by first | omega | (simp only [go_sem]; omega)) fun a x hx ha hel => ?_ | refine pA_ix hS _ (by first | rfl | (exact (Int.toNat_of_nonneg (by omega)).symm)) (by first | rfl | omega | simpa only [go_sem] using True.intro | (simp only [go_sem]; omega)) (by first | omega | (simp only [go_sem]; omega)) fun a x hx ha hel => ?_ | (refine pN_sr hel hS (by rfl) (by rfl) (by first | omega | (simp only [go_sem]; omega)) ?_; clear hS; intro w hS) | (refine pN_b1 hS (by rfl) (by decide) ?_; clear hS; intro s w hS) | (refine pN_b0 hS ?_; clear hS; intro s w hS) | (refine pN_app hS (by first | rfl | omega | simpa only [go_sem] using True.intro | (simp only [go_sem]; omega)) (by first | rfl | omega | simpa only [go_sem] using True.intro | (simp only [go_sem]; omega)) (by first | omega | (simp only [go_sem]; omega)) ?_; clear hS; intro s w hS) | (refine pN_app0 hS (by first | rfl | omega | simpa only [go_sem] using True.intro | (simp only [go_sem]; omega)) (by first | omega | (simp only [go_sem]; omega)) ?_; clear hS; intro s w hS) | (refine pN_mk hS _ (by first | rfl | (exact (Int.toNat_of_nonneg (by omega)).symm)) (by first | omega | (simp only [go_sem]; omega)) ?_; clear hS; intro s w hS) | (refine pN_mk0 hS _ (by first | rfl | (exact (Int.toNat_of_nonneg (by omega)).symm)) (by first | omega | (simp only [go_sem]; omega)) ?_; clear hS; intro s w hS) | refine pN_st hS (by first | rfl | omega | simpa only [go_sem] using True.intro | (simp only [go_sem]; omega)) ?_ | refine pL_st hS (by first | rfl | omega | simpa only [go_sem] using True.intro | (simp only [go_sem]; omega)) ?_ | refine pN_fn ?_ | refine pN_v (hk := ?_) | refine pA_v (hk := ?_) | refine pL_v (hk := ?_) | fail)
  refine ⟨fun v w => ∃ (got : List I32) (left : List (I32 × Value)) (cur : Option (I32 × Value)) (so : Sl), v = .slice so.a got.length so.c ∧ (got ++ left.map (·.1)).Perm (pl.map (·.1)) ∧
    Sat E w (rows (cdI 58) so got :: mrng idV mb r ⟨vals pl, left, cur⟩ :: cel b ⟨129, depC c d.k mb nb⟩ :: mp nke nb (vals nl) :: bag (keep cd_uint8 pl) :: bag (keep (cdI 58) nl) :: N), fun _ w => wRng mb r w,
    ⟨[], vals pl, none, ⟨none, 0⟩, rfl, by rw [List.nil_append, D.vals_keys], ?_⟩, ?_⟩
  · have h8 : Sat E w (rows (cdI 58) ⟨none, 0⟩ [] :: _) := hS.nil (cdI 58).e (cdI 58).size
    exact h8.to
  clear hS
  rintro _ _ w ⟨got, left, cur, so, rfl, hp, hS⟩
  have hms := wRng_eq (ke := idV) (b := mb) (r := r) hS
  have hgl := hp.length_eq
  rw [List.length_append, List.length_map, List.length_map] at hgl
  refine pN_nxt (ke := idV) (b := mb) (r := r) hS (fun h0 => ?_) (fun i pp w hi hS => ?_)
  · have h0 : left = [] := h0
    subst h0
    rw [List.map_nil, List.append_nil] at hp
    have hml : got.length ≤ 1099511627776 := by simp only [List.length_nil] at hgl; omega
    refine pN_extn rfl ?_
    refine pIf_f ?_
    have hS2 := mrng_end (ke := idV) (b := mb) (r := r) hS
    have hS : Sat E w (rows (cdI 58) so got :: depP c b d.k mb nb pl nl N) := hS2.to
    have hnm : S.sortI got = d.sums := by
      unfold D.T.sums
      rw [← hkeys]
      exact sortI_perm_eq hp
    have hnl2 : got.length = d.sums.length := by rw [← hnm]; exact (S.sortI_perm _).length_eq.symm
    refine pc_slices_SortFunc___api_ID_api_ID_ (SortI_ok _ depot_enters cmpAt_depot hS hml ?_)
    rw [hnm, hnl2]
    clear hS hS2
    intro w hS
    have hS : Sat E w (depP c b d.k mb nb pl nl (rows (cdI 58) so d.sums :: N)) := hS.to
    exact hQ _ _ (Dep.shut ht rfl hS).to
  · have hi : left[i]? = some pp := hi
    have hpe := erase_perm hi
    have hll := hpe.length_eq
    rw [List.length_cons] at hll
    have hp2 : ((got ++ [pp.1]) ++ (left.eraseIdx i).map (·.1)).Perm (pl.map (·.1)) := by
      rw [List.append_assoc]
      exact ((hpe.map (·.1)).append_left got).trans hp
    repeat' (first | (refine pN_ent (ke := idV) (b := mb) (r := r) (p := pp) hS rfl ?_) | (refine pN_sid hS pp.1 (by rfl) ?_; clear hS; intro w hS) | refine pN_la_at (n := 32) hS (bvs pp.1.l) (i32t _) (i32n _) ?_ | (refine pN_b1 (x := pp.1) hS rfl (by decide) ?_; clear hS; intro s3 w hS) | ((first | refine pN_lss_s ?_ ?_ | refine pA_lss_s ?_ ?_ | refine pN_lss_sb ?_ ?_ | refine pN_leq_s ?_ ?_ | refine pA_leq_s ?_ ?_ | refine pN_leq_sb ?_ ?_ | refine pN_gtr_s ?_ ?_ | refine pA_gtr_s ?_ ?_ | refine pN_gtr_sb ?_ ?_ | refine pN_geq_s ?_ ?_ | refine pA_geq_s ?_ ?_ | refine pN_geq_sb ?_ ?_) <;> intro hc <;> try (exfalso; omega)) | ((first | refine pN_eql_s ?_ ?_ | refine pA_eql_s ?_ ?_ | refine pN_eql_sb ?_ ?_ | refine pA_eql_sb ?_ ?_ | refine pN_eql_ss ?_ ?_ | refine pA_eql_ss ?_ ?_ | refine pN_neq_s ?_ ?_ | refine pA_neq_s ?_ ?_ | refine pN_neq_sb ?_ ?_ | refine pA_neq_sb ?_ ?_ | refine pN_neq_ss ?_ ?_ | refine pA_neq_ss ?_ ?_) <;> intro hc <;> try (exfalso; first | omega | exact hc rfl | exact hc (by assumption) | exact absurd hc (by assumption))) | refine pIf_t ?_ | refine pIf_f ?_ | refine gA_go (by rfl) ?_ | refine gA_no (by rfl) ?_ | refine pGd_go (by rfl) ?_ | refine pGd_no (by rfl) ?_ | refine pN_tob ?_ | refine pL_tob ?_ | refine pN_ofb ?_ | refine pL_ofb ?_ | refine pN_l hS (by first | rfl | assumption) ?_ | refine pL_l hS (by first | rfl | assumption) ?_ | refine pN_ld1 ha hS ?_ | refine pL_ld1 ha hS ?_ | refine pN_ld_at ha hS (by rfl) ?_ | refine pL_ld_at ha hS (by rfl) ?_ | refine pN_fa ha (by rfl) fun a ha => ?_ | refine pA_fa ha (by rfl) fun a ha => ?_ | refine pN_la hS (by rfl) ?_ | refine pL_la hS (by rfl) ?_ | refine pL_r hS (by rfl) ?_ | refine pL_ra hS (by rfl) ?_ | (refine pN_s hS (by first | exact Nat.le_of_ble_eq_true rfl | assumption) (by rfl) ?_; clear hS; intro w hS; try simp only [List.set_cons_zero, List.set_cons_succ] at hS) | (refine pN_sa hS (by rfl) (by rfl) (by rfl) ?_; clear hS; intro w hS; try dsimp only at hS) | (refine pDr_go hS ?_; clear hS; intro w hS) | (refine pN_nz hS ?_; clear hS; intro a w hS) | (refine pN_bx hS (by rfl) ?_; clear hS; intro a w hS) | refine ⟨trivial, ?_⟩ | refine ⟨⟨(by first | exact run_l hS (by first | rfl | assumption) | exact run_st hS (by first | rfl | omega) | exact run_ld1 ha hS | exact fun _ => run_l hS (by rfl) | exact fun _ => run_st hS (by first | rfl | omega) | exact fun _ => run_ld1 ha hS | exact fun h => Bool.noConfusion h), trivial⟩, ?_⟩ | refine ⟨⟨(by first | exact run_l hS (by first | rfl | assumption) | exact run_st hS (by first | rfl | omega) | exact run_ld1 ha hS | exact fun _ => run_l hS (by rfl) | exact fun _ => run_st hS (by first | rfl | omega) | exact fun _ => run_ld1 ha hS | exact fun h => Bool.noConfusion h), (by first | exact run_l hS (by first | rfl | assumption) | exact run_st hS (by first | rfl | omega) | exact run_ld1 ha hS | exact fun _ => run_l hS (by rfl) | exact fun _ => run_st hS (by first | rfl | omega) | exact fun _ => run_ld1 ha hS | exact fun h => Bool.noConfusion h), trivial⟩, ?_⟩ | refine ⟨⟨(by first | exact run_l hS (by first | rfl | assumption) | exact run_st hS (by first | rfl | omega) | exact run_ld1 ha hS | exact fun _ => run_l hS (by rfl) | exact fun _ => run_st hS (by first | rfl | omega) | exact fun _ => run_ld1 ha hS | exact fun h => Bool.noConfusion h), (by first | exact run_l hS (by first | rfl | assumption) | exact run_st hS (by first | rfl | omega) | exact run_ld1 ha hS | exact fun _ => run_l hS (by rfl) | exact fun _ => run_st hS (by first | rfl | omega) | exact fun _ => run_ld1 ha hS | exact fun h => Bool.noConfusion h), (by first | exact run_l hS (by first | rfl | assumption) | exact run_st hS (by first | rfl | omega) | exact run_ld1 ha hS | exact fun _ => run_l hS (by rfl) | exact fun _ => run_st hS (by first | rfl | omega) | exact fun _ => run_ld1 ha hS | exact fun h => Bool.noConfusion h), trivial⟩, ?_⟩ | refine pN_ixk hS _ (by first | rfl | (exact (Int.toNat_of_nonneg (by omega)).symm)) (by first | rfl | omega | simpa only [go_sem] using True.intro | (simp only [go_sem]; omega)) (by assumption) fun a ha hel => ?_ | refine pA_ixk hS _ (by first | rfl | (exact (Int.toNat_of_nonneg (by omega)).symm)) (by first | rfl | omega | simpa only [go_sem] using True.intro | (simp only [go_sem]; omega)) (by assumption) fun a ha hel => ?_ | refine pN_ix hS _ (by first | rfl | (exact (Int.toNat_of_nonneg (by omega)).symm)) (by first | rfl | omega | simpa only [go_sem] using True.intro | (simp only [go_sem]; omega)) (by first | omega | (simp only [go_sem]; omega)) fun a x hx ha hel => ?_ | refine pA_ix hS _ (by first | rfl | (exact (Int.toNat_of_nonneg (by omega)).symm)) (by first | rfl | omega | simpa only [go_sem] using True.intro | (simp only [go_sem]; omega)) (by first | omega | (simp only [go_sem]; omega)) fun a x hx ha hel => ?_ | (refine pN_sr hel hS (by rfl) (by rfl) (by first | omega | (simp only [go_sem]; omega)) ?_; clear hS; intro w hS) | (refine pN_b1 hS (by rfl) (by decide) ?_; clear hS; intro s w hS) | (refine pN_b0 hS ?_; clear hS; intro s w hS) | (refine pN_app hS (by first | rfl | omega | simpa only [go_sem] using True.intro | (simp only [go_sem]; omega)) (by first | rfl | omega | simpa only [go_sem] using True.intro | (simp only [go_sem]; omega)) (by first | omega | (simp only [go_sem]; omega)) ?_; clear hS; intro s w hS) | (refine pN_app0 hS (by first | rfl | omega | simpa only [go_sem] using True.intro | (simp only [go_sem]; omega)) (by first | omega | (simp only [go_sem]; omega)) ?_; clear hS; intro s w hS) | (refine pN_mk hS _ (by first | rfl | (exact (Int.toNat_of_nonneg (by omega)).symm)) (by first | omega | (simp only [go_sem]; omega)) ?_; clear hS; intro s w hS) | (refine pN_mk0 hS _ (by first | rfl | (exact (Int.toNat_of_nonneg (by omega)).symm)) (by first | omega | (simp only [go_sem]; omega)) ?_; clear hS; intro s w hS) | refine pN_st hS (by first | rfl | omega | simpa only [go_sem] using True.intro | (simp only [go_sem]; omega)) ?_ | refine pL_st hS (by first | rfl | omega | simpa only [go_sem] using True.intro | (simp only [go_sem]; omega)) ?_ | refine pN_fn ?_ | refine pN_v (hk := ?_) | refine pA_v (hk := ?_) | refine pL_v (hk := ?_) | refine ⟨_, ?_, fun _ _ h => h⟩ | refine ⟨_, ?_, fun _ _ _ h => h⟩ | refine ⟨_, ?_, fun _ _ _ _ h => h⟩ | refine ⟨_, ?_, fun _ _ _ _ _ h => h⟩ | fail)
    have hS : Sat E w (rows (cdI 58) s (got ++ [pp.1]) :: mrng idV mb r ⟨vals pl, left.eraseIdx i, some pp⟩ :: cel b ⟨129, depC c d.k mb nb⟩ :: mp nke nb (vals nl) :: bag (keep cd_uint8 pl) :: bag (keep (cdI 58) nl) :: N) := hS.to
    refine ⟨⟨got ++ [pp.1], left.eraseIdx i, some pp, s, by first | rfl | rw [List.length_append], hp2, hS⟩, ?_⟩
    dsimp only
    rw [wRng_eq (ke := idV) (b := mb) (r := r) hS, hms]
    show (left.eraseIdx i).length < left.length
    omega

set_option maxHeartbeats 1000000 in
theorem DDrop_ok (hS : Sat E w L) [hf : Fnd (Dep c b) L d N] [hr : Rds (cdI 58) N s li] (hl : li.length ≤ 1099511627776) (hn : li.Nodup) (hh : ∀ i ∈ li, d.has i = true) (hQ : ∀ w, Sat E w (Dep c b (d.drops li) :: N) → Q (.int .i64 0) w) :
    Calls Tryz.prog 20 #[.pointer (some ⟨b, 0, none⟩), .slice s.a li.length s.c] w (retP Q) := by
  refine depot_Depot_Drop.calls ?_
  unfold depot_Depot_Drop.F
  have hS1 := hS.fd (Dep c b)
  clear hS hf
  refine pN_mkm hS1 idV ?_
  clear hS1
  intro nm w hS
  repeat' (first | ((first | refine pN_lss_s ?_ ?_ | refine pA_lss_s ?_ ?_ | refine pN_lss_sb ?_ ?_ | refine pN_leq_s ?_ ?_ | refine pA_leq_s ?_ ?_ | refine pN_leq_sb ?_ ?_ | refine pN_gtr_s ?_ ?_ | refine pA_gtr_s ?_ ?_ | refine pN_gtr_sb ?_ ?_ | refine pN_geq_s ?_ ?_ | refine pA_geq_s ?_ ?_ | refine pN_geq_sb ?_ ?_) <;> intro hc <;> try (exfalso; omega)) | ((first | refine pN_eql_s ?_ ?_ | refine pA_eql_s ?_ ?_ | refine pN_eql_sb ?_ ?_ | refine pA_eql_sb ?_ ?_ | refine pN_eql_ss ?_ ?_ | refine pA_eql_ss ?_ ?_ | refine pN_neq_s ?_ ?_ | refine pA_neq_s ?_ ?_ | refine pN_neq_sb ?_ ?_ | refine pA_neq_sb ?_ ?_ | refine pN_neq_ss ?_ ?_ | refine pA_neq_ss ?_ ?_) <;> intro hc <;> try (exfalso; first | omega | exact hc rfl | exact hc (by assumption) | exact absurd hc (by assumption))) | refine pIf_t ?_ | refine pIf_f ?_ | refine gA_go (by rfl) ?_ | refine gA_no (by rfl) ?_ | refine pGd_go (by rfl) ?_ | refine pGd_no (by rfl) ?_ | refine pN_tob ?_ | refine pL_tob ?_ | refine pN_ofb ?_ | refine pL_ofb ?_ | refine pN_l hS (by first | rfl | assumption) ?_ | refine pL_l hS (by first | rfl | assumption) ?_ | refine pN_ld1 ha hS ?_ | refine pL_ld1 ha hS ?_ | refine pN_ld_at ha hS (by rfl) ?_ | refine pL_ld_at ha hS (by rfl) ?_ | refine pN_fa ha (by rfl) fun a ha => ?_ | refine pA_fa ha (by rfl) fun a ha => ?_ | refine pN_la hS (by rfl) ?_ | refine pL_la hS (by rfl) ?_ | refine pL_r hS (by rfl) ?_ | refine pL_ra hS (by rfl) ?_ | (refine pN_s hS (by first | exact Nat.le_of_ble_eq_true rfl | assumption) (by rfl) ?_; clear hS; intro w hS; try simp only [List.set_cons_zero, List.set_cons_succ] at hS) | (refine pN_sa hS (by rfl) (by rfl) (by rfl) ?_; clear hS; intro w hS; try dsimp only at hS) | (refine pDr_go hS ?_; clear hS; intro w hS) | (refine pN_nz hS ?_; clear hS; intro a w hS) | (refine pN_bx hS (by rfl) ?_; clear hS; intro a w hS) | refine ⟨trivial, ?_⟩ | refine ⟨⟨(by first | exact run_l hS (by first | rfl | assumption) | exact run_st hS (by first | rfl | omega) | exact run_ld1 ha hS | exact fun _ => run_l hS (by rfl) | exact fun _ => run_st hS (by first | rfl | omega) | exact fun _ => run_ld1 ha hS | exact fun h => Bool.noConfusion h), trivial⟩, ?_⟩ | refine ⟨⟨(by first | exact run_l hS (by first | rfl | assumption) | exact run_st hS (by first | rfl | omega) | exact run_ld1 ha hS | exact fun _ => run_l hS (by rfl) | exact fun _ => run_st hS (by first | rfl | omega) | exact fun _ => run_ld1 ha hS | exact fun h => Bool.noConfusion h), (by first | exact run_l hS (by first | rfl | assumption) | exact run_st hS (by first | rfl | omega) | exact run_ld1 ha hS | exact fun _ => run_l hS (by rfl) | exact fun _ => run_st hS (by first | rfl | omega) | exact fun _ => run_ld1 ha hS | exact fun h => Bool.noConfusion h), trivial⟩, ?_⟩ | refine ⟨⟨(by first | exact run_l hS (by first | rfl | assumption) | exact run_st hS (by first | rfl | omega) | exact run_ld1 ha hS | exact fun _ => run_l hS (by rfl) | exact fun _ => run_st hS (by first | rfl | omega) | exact fun _ => run_ld1 ha hS | exact fun h => Bool.noConfusion h), (by first | exact run_l hS (by first | rfl | assumption) | exact run_st hS (by first | rfl | omega) | exact run_ld1 ha hS | exact fun _ => run_l hS (by rfl) | exact fun _ => run_st hS (by first | rfl | omega) | exact fun _ => run_ld1 ha hS | exact fun h => Bool.noConfusion h), (by first | exact run_l hS (by first | rfl | assumption) | exact run_st hS (by first | rfl | omega) | exact run_ld1 ha hS | exact fun _ => run_l hS (by rfl) | exact fun _ => run_st hS (by first | rfl | omega) | exact fun _ => run_ld1 ha hS | exact fun h => Bool.noConfusion h), trivial⟩, ?_⟩ | refine pN_ixk hS _ (by first | rfl | (exact (Int.toNat_of_nonneg (by omega)).symm)) (by first | rfl | omega | simpa only [go_sem] using True.intro | (simp only [go_sem]; omega)) (by assumption) fun a ha hel => ?_ | refine pA_ixk hS _ (by first | rfl | (exact (Int.toNat_of_nonneg (by omega)).symm)) (by first | rfl | omega | simpa only [go_sem] using True.intro | (simp only [go_sem]; omega)) (by assumption) fun a ha hel => ?_ | refine pN_ix hS _ (by first | rfl | (exact (Int.toNat_of_nonneg (by omega)).symm)) (by first | rfl | omega | simpa only [go_sem] using True.intro | (simp only [go_sem]; omega)) (by first | omega | (simp only [go_sem]; omega)) fun a x hx ha hel => ?_ | refine pA_ix hS _ (by first | rfl | (exact (Int.toNat_of_nonneg (by omega)).symm)) (by first | rfl | omega | simpa only [go_sem] using True.intro | (simp only [go_sem]; omega)) (by first | omega | (simp only [go_sem]; omega)) fun a x hx ha hel => ?_ | (refine pN_sr hel hS (by rfl) (by rfl) (by first | omega | (simp only [go_sem]; omega)) ?_; clear hS; intro w hS) | (refine pN_b1 hS (by rfl) (by decide) ?_; clear hS; intro s w hS) | (refine pN_b0 hS ?_; clear hS; intro s w hS) | (refine pN_app hS (by first | rfl | omega | simpa only [go_sem] using True.intro | (simp only [go_sem]; omega)) (by first | rfl | omega | simpa only [go_sem] using True.intro | (simp only [go_sem]; omega)) (by first | omega | (simp only [go_sem]; omega)) ?_; clear hS; intro s w hS) | (refine pN_app0 hS (by first | rfl | omega | simpa only [go_sem] using True.intro | (simp only [go_sem]; omega)) (by first | omega | (simp only [go_sem]; omega)) ?_; clear hS; intro s w hS) | (refine pN_mk hS _ (by first | rfl | (exact (Int.toNat_of_nonneg (by omega)).symm)) (by first | omega | (simp only [go_sem]; omega)) ?_; clear hS; intro s w hS) | (refine pN_mk0 hS _ (by first | rfl | (exact (Int.toNat_of_nonneg (by omega)).symm)) (by first | omega | (simp only [go_sem]; omega)) ?_; clear hS; intro s w hS) | refine pN_st hS (by first | rfl | omega | simpa only [go_sem] using True.intro | (simp only [go_sem]; omega)) ?_ | refine pL_st hS (by first | rfl | omega | simpa only [go_sem] using True.intro | (simp only [go_sem]; omega)) ?_ | refine pN_fn ?_ | refine pN_v (hk := ?_) | refine pA_v (hk := ?_) | refine pL_v (hk := ?_) | fail)
  refine ⟨fun v w => ∃ (j : Nat) (t : List (I32 × Value)), v = .int .i64 j ∧ j ≤ li.length ∧ (∀ i, mget t i ≠ none → i ∈ li.take j) ∧ Sat E w (mp idV nm t :: Dep c b d :: N), fun v _ => li.length - (RowKit.intOf v).toNat, ⟨0, [], rfl, by omega, fun i h => absurd rfl h, hS⟩, ?_⟩
  clear hS
  rintro _ _ w ⟨j, t, rfl, hj, ht, hS⟩
  by_cases hlt : j < li.length
  · obtain ⟨i, hi⟩ : ∃ i, li[j]? = some i := ⟨li[j], List.getElem?_eq_getElem _⟩
    have hhi := hh i (List.mem_of_getElem? hi)
    have hni : i ∉ li.take j := fun hm => by
      have h1 : li = li.take (j + 1) ++ li.drop (j + 1) := (List.take_append_drop _ _).symm
      rw [h1, List.take_add_one, hi] at hn
      exact (List.nodup_append.1 (List.nodup_append.1 hn).1).2.2 i hm i (by simp) rfl
    repeat' (first | refine pN_ld_at ha hS (i32n i) ?_ | (refine pN_sid hS i (by rfl) ?_; clear hS; intro w hS) | refine pN_la_at (n := 32) hS (bvs i.l) (i32t _) (i32n _) ?_ | (refine pc_depot_Depot_Has (DHas_ok (c := c) hS i ?_); rw [hhi]; clear hS; intro w hS) | ((first | refine pN_lss_s ?_ ?_ | refine pA_lss_s ?_ ?_ | refine pN_lss_sb ?_ ?_ | refine pN_leq_s ?_ ?_ | refine pA_leq_s ?_ ?_ | refine pN_leq_sb ?_ ?_ | refine pN_gtr_s ?_ ?_ | refine pA_gtr_s ?_ ?_ | refine pN_gtr_sb ?_ ?_ | refine pN_geq_s ?_ ?_ | refine pA_geq_s ?_ ?_ | refine pN_geq_sb ?_ ?_) <;> intro hc <;> try (exfalso; omega)) | ((first | refine pN_eql_s ?_ ?_ | refine pA_eql_s ?_ ?_ | refine pN_eql_sb ?_ ?_ | refine pA_eql_sb ?_ ?_ | refine pN_eql_ss ?_ ?_ | refine pA_eql_ss ?_ ?_ | refine pN_neq_s ?_ ?_ | refine pA_neq_s ?_ ?_ | refine pN_neq_sb ?_ ?_ | refine pA_neq_sb ?_ ?_ | refine pN_neq_ss ?_ ?_ | refine pA_neq_ss ?_ ?_) <;> intro hc <;> try (exfalso; first | omega | exact hc rfl | exact hc (by assumption) | exact absurd hc (by assumption))) | refine pIf_t ?_ | refine pIf_f ?_ | refine gA_go (by rfl) ?_ | refine gA_no (by rfl) ?_ | refine pGd_go (by rfl) ?_ | refine pGd_no (by rfl) ?_ | refine pN_tob ?_ | refine pL_tob ?_ | refine pN_ofb ?_ | refine pL_ofb ?_ | refine pN_l hS (by first | rfl | assumption) ?_ | refine pL_l hS (by first | rfl | assumption) ?_ | refine pN_ld1 ha hS ?_ | refine pL_ld1 ha hS ?_ | refine pN_ld_at ha hS (by rfl) ?_ | refine pL_ld_at ha hS (by rfl) ?_ | refine pN_fa ha (by rfl) fun a ha => ?_ | refine pA_fa ha (by rfl) fun a ha => ?_ | refine pN_la hS (by rfl) ?_ | refine pL_la hS (by rfl) ?_ | refine pL_r hS (by rfl) ?_ | refine pL_ra hS (by rfl) ?_ | (refine pN_s hS (by first | exact Nat.le_of_ble_eq_true rfl | assumption) (by rfl) ?_; clear hS; intro w hS; try simp only [List.set_cons_zero, List.set_cons_succ] at hS) | (refine pN_sa hS (by rfl) (by rfl) (by rfl) ?_; clear hS; intro w hS; try dsimp only at hS) | (refine pDr_go hS ?_; clear hS; intro w hS) | (refine pN_nz hS ?_; clear hS; intro a w hS) | (refine pN_bx hS (by rfl) ?_; clear hS; intro a w hS) | refine ⟨trivial, ?_⟩ | refine ⟨⟨(by first | exact run_l hS (by first | rfl | assumption) | exact run_st hS (by first | rfl | omega) | exact run_ld1 ha hS | exact fun _ => run_l hS (by rfl) | exact fun _ => run_st hS (by first | rfl | omega) | exact fun _ => run_ld1 ha hS | exact fun h => Bool.noConfusion h), trivial⟩, ?_⟩ | refine ⟨⟨(by first | exact run_l hS (by first | rfl | assumption) | exact run_st hS (by first | rfl | omega) | exact run_ld1 ha hS | exact fun _ => run_l hS (by rfl) | exact fun _ => run_st hS (by first | rfl | omega) | exact fun _ => run_ld1 ha hS | exact fun h => Bool.noConfusion h), (by first | exact run_l hS (by first | rfl | assumption) | exact run_st hS (by first | rfl | omega) | exact run_ld1 ha hS | exact fun _ => run_l hS (by rfl) | exact fun _ => run_st hS (by first | rfl | omega) | exact fun _ => run_ld1 ha hS | exact fun h => Bool.noConfusion h), trivial⟩, ?_⟩ | refine ⟨⟨(by first | exact run_l hS (by first | rfl | assumption) | exact run_st hS (by first | rfl | omega) | exact run_ld1 ha hS | exact fun _ => run_l hS (by rfl) | exact fun _ => run_st hS (by first | rfl | omega) | exact fun _ => run_ld1 ha hS | exact fun h => Bool.noConfusion h), (by first | exact run_l hS (by first | rfl | assumption) | exact run_st hS (by first | rfl | omega) | exact run_ld1 ha hS | exact fun _ => run_l hS (by rfl) | exact fun _ => run_st hS (by first | rfl | omega) | exact fun _ => run_ld1 ha hS | exact fun h => Bool.noConfusion h), (by first | exact run_l hS (by first | rfl | assumption) | exact run_st hS (by first | rfl | omega) | exact run_ld1 ha hS | exact fun _ => run_l hS (by rfl) | exact fun _ => run_st hS (by first | rfl | omega) | exact fun _ => run_ld1 ha hS | exact fun h => Bool.noConfusion h), trivial⟩, ?_⟩ | refine pN_ixk hS _ (by first | rfl | (exact (Int.toNat_of_nonneg (by omega)).symm)) (by first | rfl | omega | simpa only [go_sem] using True.intro | (simp only [go_sem]; omega)) (by assumption) fun a ha hel => ?_ | refine pA_ixk hS _ (by first | rfl | (exact (Int.toNat_of_nonneg (by omega)).symm)) (by first | rfl | omega | simpa only [go_sem] using True.intro | (simp only [go_sem]; omega)) (by assumption) fun a ha hel => ?_ | refine pN_ix hS _ (by first | rfl | (exact (Int.toNat_of_nonneg (by omega)).symm)) (by first | rfl | omega | simpa only [go_sem] using True.intro | (simp only [go_sem]; omega)) (by first | omega | (simp only [go_sem]; omega)) fun a x hx ha hel => ?_ | refine pA_ix hS _ (by first | rfl | (exact (Int.toNat_of_nonneg (by omega)).symm)) (by first | rfl | omega | simpa only [go_sem] using True.intro | (simp only [go_sem]; omega)) (by first | omega | (simp only [go_sem]; omega)) fun a x hx ha hel => ?_ | (refine pN_sr hel hS (by rfl) (by rfl) (by first | omega | (simp only [go_sem]; omega)) ?_; clear hS; intro w hS) | (refine pN_b1 hS (by rfl) (by decide) ?_; clear hS; intro s w hS) | (refine pN_b0 hS ?_; clear hS; intro s w hS) | (refine pN_app hS (by first | rfl | omega | simpa only [go_sem] using True.intro | (simp only [go_sem]; omega)) (by first | rfl | omega | simpa only [go_sem] using True.intro | (simp only [go_sem]; omega)) (by first | omega | (simp only [go_sem]; omega)) ?_; clear hS; intro s w hS) | (refine pN_app0 hS (by first | rfl | omega | simpa only [go_sem] using True.intro | (simp only [go_sem]; omega)) (by first | omega | (simp only [go_sem]; omega)) ?_; clear hS; intro s w hS) | (refine pN_mk hS _ (by first | rfl | (exact (Int.toNat_of_nonneg (by omega)).symm)) (by first | omega | (simp only [go_sem]; omega)) ?_; clear hS; intro s w hS) | (refine pN_mk0 hS _ (by first | rfl | (exact (Int.toNat_of_nonneg (by omega)).symm)) (by first | omega | (simp only [go_sem]; omega)) ?_; clear hS; intro s w hS) | refine pN_st hS (by first | rfl | omega | simpa only [go_sem] using True.intro | (simp only [go_sem]; omega)) ?_ | refine pL_st hS (by first | rfl | omega | simpa only [go_sem] using True.intro | (simp only [go_sem]; omega)) ?_ | refine pN_fn ?_ | refine pN_v (hk := ?_) | refine pA_v (hk := ?_) | refine pL_v (hk := ?_) | fail)
    refine pN_lko (P := Tryz.prog) (t := 56) (ke := idV) (b := nm) hS i (fun v hv => ?_) (fun hv => ?_)
    · exact absurd (ht i (by rw [hv]; simp)) hni
    · have hnx : ∀ (v : Value) (i' : I32), mget (mput t i v) i' ≠ none → i' ∈ li.take (j + 1) := fun v i' h => by
        rw [List.take_add_one, hi]
        by_cases e : i = i'
        · subst e; exact List.mem_append.2 (.inr (by simp))
        · refine List.mem_append.2 (.inl (ht i' ?_))
          rw [D.mget_look, D.mput_upd, D.look_upd_other _ _ _ _ e] at h
          rw [D.mget_look]
          exact h
      repeat' (first | refine pN_la_at (n := 32) hS (bvs i.l) (i32t _) (i32n _) ?_ | (refine pN_mup (P := Tryz.prog) (t := 56) (ke := idV) (b := nm) hS i _ ?_; clear hS; intro w hS) | ((first | refine pN_lss_s ?_ ?_ | refine pA_lss_s ?_ ?_ | refine pN_lss_sb ?_ ?_ | refine pN_leq_s ?_ ?_ | refine pA_leq_s ?_ ?_ | refine pN_leq_sb ?_ ?_ | refine pN_gtr_s ?_ ?_ | refine pA_gtr_s ?_ ?_ | refine pN_gtr_sb ?_ ?_ | refine pN_geq_s ?_ ?_ | refine pA_geq_s ?_ ?_ | refine pN_geq_sb ?_ ?_) <;> intro hc <;> try (exfalso; omega)) | ((first | refine pN_eql_s ?_ ?_ | refine pA_eql_s ?_ ?_ | refine pN_eql_sb ?_ ?_ | refine pA_eql_sb ?_ ?_ | refine pN_eql_ss ?_ ?_ | refine pA_eql_ss ?_ ?_ | refine pN_neq_s ?_ ?_ | refine pA_neq_s ?_ ?_ | refine pN_neq_sb ?_ ?_ | refine pA_neq_sb ?_ ?_ | refine pN_neq_ss ?_ ?_ | refine pA_neq_ss ?_ ?_) <;> intro hc <;> try (exfalso; first | omega | exact hc rfl | exact hc (by assumption) | exact absurd hc (by assumption))) | refine pIf_t ?_ | refine pIf_f ?_ | refine gA_go (by rfl) ?_ | refine gA_no (by rfl) ?_ | refine pGd_go (by rfl) ?_ | refine pGd_no (by rfl) ?_ | refine pN_tob ?_ | refine pL_tob ?_ | refine pN_ofb ?_ | refine pL_ofb ?_ | refine pN_l hS (by first | rfl | assumption) ?_ | refine pL_l hS (by first | rfl | assumption) ?_ | refine pN_ld1 ha hS ?_ | refine pL_ld1 ha hS ?_ | refine pN_ld_at ha hS (by rfl) ?_ | refine pL_ld_at ha hS (by rfl) ?_ | refine pN_fa ha (by rfl) fun a ha => ?_ | refine pA_fa ha (by rfl) fun a ha => ?_ | refine pN_la hS (by rfl) ?_ | refine pL_la hS (by rfl) ?_ | refine pL_r hS (by rfl) ?_ | refine pL_ra hS (by rfl) ?_ | (refine pN_s hS (by first | exact Nat.le_of_ble_eq_true rfl | assumption) (by rfl) ?_; clear hS; intro w hS; try simp only [List.set_cons_zero, List.set_cons_succ] at hS) | (refine pN_sa hS (by rfl) (by rfl) (by rfl) ?_; clear hS; intro w hS; try dsimp only at hS) | (refine pDr_go hS ?_; clear hS; intro w hS) | (refine pN_nz hS ?_; clear hS; intro a w hS) | (refine pN_bx hS (by rfl) ?_; clear hS; intro a w hS) | refine ⟨trivial, ?_⟩ | refine ⟨⟨(by first | exact run_l hS (by first | rfl | assumption) | exact run_st hS (by first | rfl | omega) | exact run_ld1 ha hS | exact fun _ => run_l hS (by rfl) | exact fun _ => run_st hS (by first | rfl | omega) | exact fun _ => run_ld1 ha hS | exact fun h => Bool.noConfusion h), trivial⟩, ?_⟩ | refine ⟨⟨(by first | exact run_l hS (by first | rfl | assumption) | exact run_st hS (by first | rfl | omega) | exact run_ld1 ha hS | exact fun _ => run_l hS (by rfl) | exact fun _ => run_st hS (by first | rfl | omega) | exact fun _ => run_ld1 ha hS | exact fun h => Bool.noConfusion h), (by first | exact run_l hS (by first | rfl | assumption) | exact run_st hS (by first | rfl | omega) | exact run_ld1 ha hS | exact fun _ => run_l hS (by rfl) | exact fun _ => run_st hS (by first | rfl | omega) | exact fun _ => run_ld1 ha hS | exact fun h => Bool.noConfusion h), trivial⟩, ?_⟩ | refine ⟨⟨(by first | exact run_l hS (by first | rfl | assumption) | exact run_st hS (by first | rfl | omega) | exact run_ld1 ha hS | exact fun _ => run_l hS (by rfl) | exact fun _ => run_st hS (by first | rfl | omega) | exact fun _ => run_ld1 ha hS | exact fun h => Bool.noConfusion h), (by first | exact run_l hS (by first | rfl | assumption) | exact run_st hS (by first | rfl | omega) | exact run_ld1 ha hS | exact fun _ => run_l hS (by rfl) | exact fun _ => run_st hS (by first | rfl | omega) | exact fun _ => run_ld1 ha hS | exact fun h => Bool.noConfusion h), (by first | exact run_l hS (by first | rfl | assumption) | exact run_st hS (by first | rfl | omega) | exact run_ld1 ha hS | exact fun _ => run_l hS (by rfl) | exact fun _ => run_st hS (by first | rfl | omega) | exact fun _ => run_ld1 ha hS | exact fun h => Bool.noConfusion h), trivial⟩, ?_⟩ | refine pN_ixk hS _ (by first | rfl | (exact (Int.toNat_of_nonneg (by omega)).symm)) (by first | rfl | omega | simpa only [go_sem] using True.intro | (simp only [go_sem]; omega)) (by assumption) fun a ha hel => ?_ | refine pA_ixk hS _ (by first | rfl | (exact (Int.toNat_of_nonneg (by omega)).symm)) (by first | rfl | omega | simpa only [go_sem] using True.intro | (simp only [go_sem]; omega)) (by assumption) fun a ha hel => ?_ | refine pN_ix hS _ (by first | rfl | (exact (Int.toNat_of_nonneg (by omega)).symm)) (by first | rfl | omega | simpa only [go_sem] using True.intro | (simp only [go_sem]; omega)) (by first | omega | (simp only [go_sem]; omega)) fun a x hx ha hel => ?_ | refine pA_ix hS _ (by first | rfl | (exact (Int.toNat_of_nonneg (by omega)).symm)) (by first | rfl | omega | simpa only [go_sem] using True.intro | (simp only [go_sem]; omega)) (by first | omega | (simp only [go_sem]; omega)) fun a x hx ha hel => ?_ | (refine pN_sr hel hS (by rfl) (by rfl) (by first | omega | (simp only [go_sem]; omega)) ?_; clear hS; intro w hS) | (refine pN_b1 hS (by rfl) (by decide) ?_; clear hS; intro s w hS) | (refine pN_b0 hS ?_; clear hS; intro s w hS) | (refine pN_app hS (by first | rfl | omega | simpa only [go_sem] using True.intro | (simp only [go_sem]; omega)) (by first | rfl | omega | simpa only [go_sem] using True.intro | (simp only [go_sem]; omega)) (by first | omega | (simp only [go_sem]; omega)) ?_; clear hS; intro s w hS) | (refine pN_app0 hS (by first | rfl | omega | simpa only [go_sem] using True.intro | (simp only [go_sem]; omega)) (by first | omega | (simp only [go_sem]; omega)) ?_; clear hS; intro s w hS) | (refine pN_mk hS _ (by first | rfl | (exact (Int.toNat_of_nonneg (by omega)).symm)) (by first | omega | (simp only [go_sem]; omega)) ?_; clear hS; intro s w hS) | (refine pN_mk0 hS _ (by first | rfl | (exact (Int.toNat_of_nonneg (by omega)).symm)) (by first | omega | (simp only [go_sem]; omega)) ?_; clear hS; intro s w hS) | refine pN_st hS (by first | rfl | omega | simpa only [go_sem] using True.intro | (simp only [go_sem]; omega)) ?_ | refine pL_st hS (by first | rfl | omega | simpa only [go_sem] using True.intro | (simp only [go_sem]; omega)) ?_ | refine pN_fn ?_ | refine pN_v (hk := ?_) | refine pA_v (hk := ?_) | refine pL_v (hk := ?_) | refine ⟨_, ?_, fun _ _ h => h⟩ | refine ⟨_, ?_, fun _ _ _ h => h⟩ | refine ⟨_, ?_, fun _ _ _ _ h => h⟩ | refine ⟨_, ?_, fun _ _ _ _ _ h => h⟩ | fail)
      have hS : Sat E w (mp idV nm (mput t i (.int .i64 j)) :: Dep c b d :: N) := hS.to
      exact ⟨⟨j + 1, _, rfl, by omega, hnx _, hS⟩, by simp [RowKit.intOf] <;> omega⟩
  · obtain rfl : j = li.length := by omega
    have hS : Sat E w (Dep c b d :: N) := hS.to
    repeat' (first | ((first | refine pN_lss_s ?_ ?_ | refine pA_lss_s ?_ ?_ | refine pN_lss_sb ?_ ?_ | refine pN_leq_s ?_ ?_ | refine pA_leq_s ?_ ?_ | refine pN_leq_sb ?_ ?_ | refine pN_gtr_s ?_ ?_ | refine pA_gtr_s ?_ ?_ | refine pN_gtr_sb ?_ ?_ | refine pN_geq_s ?_ ?_ | refine pA_geq_s ?_ ?_ | refine pN_geq_sb ?_ ?_) <;> intro hc <;> try (exfalso; omega)) | ((first | refine pN_eql_s ?_ ?_ | refine pA_eql_s ?_ ?_ | refine pN_eql_sb ?_ ?_ | refine pA_eql_sb ?_ ?_ | refine pN_eql_ss ?_ ?_ | refine pA_eql_ss ?_ ?_ | refine pN_neq_s ?_ ?_ | refine pA_neq_s ?_ ?_ | refine pN_neq_sb ?_ ?_ | refine pA_neq_sb ?_ ?_ | refine pN_neq_ss ?_ ?_ | refine pA_neq_ss ?_ ?_) <;> intro hc <;> try (exfalso; first | omega | exact hc rfl | exact hc (by assumption) | exact absurd hc (by assumption))) | refine pIf_t ?_ | refine pIf_f ?_ | refine gA_go (by rfl) ?_ | refine gA_no (by rfl) ?_ | refine pGd_go (by rfl) ?_ | refine pGd_no (by rfl) ?_ | refine pN_tob ?_ | refine pL_tob ?_ | refine pN_ofb ?_ | refine pL_ofb ?_ | refine pN_l hS (by first | rfl | assumption) ?_ | refine pL_l hS (by first | rfl | assumption) ?_ | refine pN_ld1 ha hS ?_ | refine pL_ld1 ha hS ?_ | refine pN_ld_at ha hS (by rfl) ?_ | refine pL_ld_at ha hS (by rfl) ?_ | refine pN_fa ha (by rfl) fun a ha => ?_ | refine pA_fa ha (by rfl) fun a ha => ?_ | refine pN_la hS (by rfl) ?_ | refine pL_la hS (by rfl) ?_ | refine pL_r hS (by rfl) ?_ | refine pL_ra hS (by rfl) ?_ | (refine pN_s hS (by first | exact Nat.le_of_ble_eq_true rfl | assumption) (by rfl) ?_; clear hS; intro w hS; try simp only [List.set_cons_zero, List.set_cons_succ] at hS) | (refine pN_sa hS (by rfl) (by rfl) (by rfl) ?_; clear hS; intro w hS; try dsimp only at hS) | (refine pDr_go hS ?_; clear hS; intro w hS) | (refine pN_nz hS ?_; clear hS; intro a w hS) | (refine pN_bx hS (by rfl) ?_; clear hS; intro a w hS) | refine ⟨trivial, ?_⟩ | refine ⟨⟨(by first | exact run_l hS (by first | rfl | assumption) | exact run_st hS (by first | rfl | omega) | exact run_ld1 ha hS | exact fun _ => run_l hS (by rfl) | exact fun _ => run_st hS (by first | rfl | omega) | exact fun _ => run_ld1 ha hS | exact fun h => Bool.noConfusion h), trivial⟩, ?_⟩ | refine ⟨⟨(by first | exact run_l hS (by first | rfl | assumption) | exact run_st hS (by first | rfl | omega) | exact run_ld1 ha hS | exact fun _ => run_l hS (by rfl) | exact fun _ => run_st hS (by first | rfl | omega) | exact fun _ => run_ld1 ha hS | exact fun h => Bool.noConfusion h), (by first | exact run_l hS (by first | rfl | assumption) | exact run_st hS (by first | rfl | omega) | exact run_ld1 ha hS | exact fun _ => run_l hS (by rfl) | exact fun _ => run_st hS (by first | rfl | omega) | exact fun _ => run_ld1 ha hS | exact fun h => Bool.noConfusion h), trivial⟩, ?_⟩ | refine ⟨⟨(by first | exact run_l hS (by first | rfl | assumption) | exact run_st hS (by first | rfl | omega) | exact run_ld1 ha hS | exact fun _ => run_l hS (by rfl) | exact fun _ => run_st hS (by first | rfl | omega) | exact fun _ => run_ld1 ha hS | exact fun h => Bool.noConfusion h), (by first | exact run_l hS (by first | rfl | assumption) | exact run_st hS (by first | rfl | omega) | exact run_ld1 ha hS | exact fun _ => run_l hS (by rfl) | exact fun _ => run_st hS (by first | rfl | omega) | exact fun _ => run_ld1 ha hS | exact fun h => Bool.noConfusion h), (by first | exact run_l hS (by first | rfl | assumption) | exact run_st hS (by first | rfl | omega) | exact run_ld1 ha hS | exact fun _ => run_l hS (by rfl) | exact fun _ => run_st hS (by first | rfl | omega) | exact fun _ => run_ld1 ha hS | exact fun h => Bool.noConfusion h), trivial⟩, ?_⟩ | refine pN_ixk hS _ (by first | rfl | (exact (Int.toNat_of_nonneg (by omega)).symm)) (by first | rfl | omega | simpa only [go_sem] using True.intro | (simp only [go_sem]; omega)) (by assumption) fun a ha hel => ?_ | refine pA_ixk hS _ (by first | rfl | (exact (Int.toNat_of_nonneg (by omega)).symm)) (by first | rfl | omega | simpa only [go_sem] using True.intro | (simp only [go_sem]; omega)) (by assumption) fun a ha hel => ?_ | refine pN_ix hS _ (by first | rfl | (exact (Int.toNat_of_nonneg (by omega)).symm)) (by first | rfl | omega | simpa only [go_sem] using True.intro | (simp only [go_sem]; omega)) (by first | omega | (simp only [go_sem]; omega)) fun a x hx ha hel => ?_ | refine pA_ix hS _ (by first | rfl | (exact (Int.toNat_of_nonneg (by omega)).symm)) (by first | rfl | omega | simpa only [go_sem] using True.intro | (simp only [go_sem]; omega)) (by first | omega | (simp only [go_sem]; omega)) fun a x hx ha hel => ?_ | (refine pN_sr hel hS (by rfl) (by rfl) (by first | omega | (simp only [go_sem]; omega)) ?_; clear hS; intro w hS) | (refine pN_b1 hS (by rfl) (by decide) ?_; clear hS; intro s w hS) | (refine pN_b0 hS ?_; clear hS; intro s w hS) | (refine pN_app hS (by first | rfl | omega | simpa only [go_sem] using True.intro | (simp only [go_sem]; omega)) (by first | rfl | omega | simpa only [go_sem] using True.intro | (simp only [go_sem]; omega)) (by first | omega | (simp only [go_sem]; omega)) ?_; clear hS; intro s w hS) | (refine pN_app0 hS (by first | rfl | omega | simpa only [go_sem] using True.intro | (simp only [go_sem]; omega)) (by first | omega | (simp only [go_sem]; omega)) ?_; clear hS; intro s w hS) | (refine pN_mk hS _ (by first | rfl | (exact (Int.toNat_of_nonneg (by omega)).symm)) (by first | omega | (simp only [go_sem]; omega)) ?_; clear hS; intro s w hS) | (refine pN_mk0 hS _ (by first | rfl | (exact (Int.toNat_of_nonneg (by omega)).symm)) (by first | omega | (simp only [go_sem]; omega)) ?_; clear hS; intro s w hS) | refine pN_st hS (by first | rfl | omega | simpa only [go_sem] using True.intro | (simp only [go_sem]; omega)) ?_ | refine pL_st hS (by first | rfl | omega | simpa only [go_sem] using True.intro | (simp only [go_sem]; omega)) ?_ | refine pN_fn ?_ | refine pN_v (hk := ?_) | refine pA_v (hk := ?_) | refine pL_v (hk := ?_) | fail)
    refine ⟨fun v w => ∃ j : Nat, v = .int .i64 j ∧ j ≤ li.length ∧ Sat E w (Dep c b (d.drops (li.take j)) :: N), fun v _ => li.length - (RowKit.intOf v).toNat, ⟨0, rfl, by omega, by rw [List.take_zero]; exact hS⟩, ?_⟩
    clear hS
    rintro _ _ w ⟨j, rfl, hj, hS⟩
    by_cases hlt2 : j < li.length
    · obtain ⟨i, hi⟩ : ∃ i, li[j]? = some i := ⟨li[j], List.getElem?_eq_getElem _⟩
      have hdx := D.drops_take (d := d) hi
      generalize d.drops (li.take j) = d0 at *
      obtain ⟨mb, nb, pl, nl, htd, hS⟩ := Dep.opn hS
      repeat' (first | refine pN_ld_at ha hS (i32n i) ?_ | (refine pN_sid hS i (by rfl) ?_; clear hS; intro w hS) | refine pL_la_at (n := 32) hS (bvs i.l) (i32t _) (i32n _) ?_ | (refine pN_mdel (P := Tryz.prog) (t := 126) (ke := idV) (b := mb) hS i ?_; clear hS; intro w hS) | refine And.intro ?_ ?_ | exact trivial | ((first | refine pN_lss_s ?_ ?_ | refine pA_lss_s ?_ ?_ | refine pN_lss_sb ?_ ?_ | refine pN_leq_s ?_ ?_ | refine pA_leq_s ?_ ?_ | refine pN_leq_sb ?_ ?_ | refine pN_gtr_s ?_ ?_ | refine pA_gtr_s ?_ ?_ | refine pN_gtr_sb ?_ ?_ | refine pN_geq_s ?_ ?_ | refine pA_geq_s ?_ ?_ | refine pN_geq_sb ?_ ?_) <;> intro hc <;> try (exfalso; omega)) | ((first | refine pN_eql_s ?_ ?_ | refine pA_eql_s ?_ ?_ | refine pN_eql_sb ?_ ?_ | refine pA_eql_sb ?_ ?_ | refine pN_eql_ss ?_ ?_ | refine pA_eql_ss ?_ ?_ | refine pN_neq_s ?_ ?_ | refine pA_neq_s ?_ ?_ | refine pN_neq_sb ?_ ?_ | refine pA_neq_sb ?_ ?_ | refine pN_neq_ss ?_ ?_ | refine pA_neq_ss ?_ ?_) <;> intro hc <;> try (exfalso; first | omega | exact hc rfl | exact hc (by assumption) | exact absurd hc (by assumption))) | refine pIf_t ?_ | refine pIf_f ?_ | refine gA_go (by rfl) ?_ | refine gA_no (by rfl) ?_ | refine pGd_go (by rfl) ?_ | refine pGd_no (by rfl) ?_ | refine pN_tob ?_ | refine pL_tob ?_ | refine pN_ofb ?_ | refine pL_ofb ?_ | refine pN_l hS (by first | rfl | assumption) ?_ | refine pL_l hS (by first | rfl | assumption) ?_ | refine pN_ld1 ha hS ?_ | refine pL_ld1 ha hS ?_ | refine pN_ld_at ha hS (by rfl) ?_ | refine pL_ld_at ha hS (by rfl) ?_ | refine pN_fa ha (by rfl) fun a ha => ?_ | refine pA_fa ha (by rfl) fun a ha => ?_ | refine pN_la hS (by rfl) ?_ | refine pL_la hS (by rfl) ?_ | refine pL_r hS (by rfl) ?_ | refine pL_ra hS (by rfl) ?_ | (refine pN_s hS (by first | exact Nat.le_of_ble_eq_true rfl | assumption) (by rfl) ?_; clear hS; intro w hS; try simp only [List.set_cons_zero, List.set_cons_succ] at hS) | (refine pN_sa hS (by rfl) (by rfl) (by rfl) ?_; clear hS; intro w hS; try dsimp only at hS) | (refine pDr_go hS ?_; clear hS; intro w hS) | (refine pN_nz hS ?_; clear hS; intro a w hS) | (refine pN_bx hS (by rfl) ?_; clear hS; intro a w hS) | refine ⟨trivial, ?_⟩ | refine ⟨⟨(by first | exact run_l hS (by first | rfl | assumption) | exact run_st hS (by first | rfl | omega) | exact run_ld1 ha hS | exact fun _ => run_l hS (by rfl) | exact fun _ => run_st hS (by first | rfl | omega) | exact fun _ => run_ld1 ha hS | exact fun h => Bool.noConfusion h), trivial⟩, ?_⟩ | refine ⟨⟨(by first | exact run_l hS (by first | rfl | assumption) | exact run_st hS (by first | rfl | omega) | exact run_ld1 ha hS | exact fun _ => run_l hS (by rfl) | exact fun _ => run_st hS (by first | rfl | omega) | exact fun _ => run_ld1 ha hS | exact fun h => Bool.noConfusion h), (by first | exact run_l hS (by first | rfl | assumption) | exact run_st hS (by first | rfl | omega) | exact run_ld1 ha hS | exact fun _ => run_l hS (by rfl) | exact fun _ => run_st hS (by first | rfl | omega) | exact fun _ => run_ld1 ha hS | exact fun h => Bool.noConfusion h), trivial⟩, ?_⟩ | refine ⟨⟨(by first | exact run_l hS (by first | rfl | assumption) | exact run_st hS (by first | rfl | omega) | exact run_ld1 ha hS | exact fun _ => run_l hS (by rfl) | exact fun _ => run_st hS (by first | rfl | omega) | exact fun _ => run_ld1 ha hS | exact fun h => Bool.noConfusion h), (by first | exact run_l hS (by first | rfl | assumption) | exact run_st hS (by first | rfl | omega) | exact run_ld1 ha hS | exact fun _ => run_l hS (by rfl) | exact fun _ => run_st hS (by first | rfl | omega) | exact fun _ => run_ld1 ha hS | exact fun h => Bool.noConfusion h), (by first | exact run_l hS (by first | rfl | assumption) | exact run_st hS (by first | rfl | omega) | exact run_ld1 ha hS | exact fun _ => run_l hS (by rfl) | exact fun _ => run_st hS (by first | rfl | omega) | exact fun _ => run_ld1 ha hS | exact fun h => Bool.noConfusion h), trivial⟩, ?_⟩ | refine pN_ixk hS _ (by first | rfl | (exact (Int.toNat_of_nonneg (by omega)).symm)) (by first | rfl | omega | simpa only [go_sem] using True.intro | (simp only [go_sem]; omega)) (by assumption) fun a ha hel => ?_ | refine pA_ixk hS _ (by first | rfl | (exact (Int.toNat_of_nonneg (by omega)).symm)) (by first | rfl | omega | simpa only [go_sem] using True.intro | (simp only [go_sem]; omega)) (by assumption) fun a ha hel => ?_ | refine pN_ix hS _ (by first | rfl | (exact (Int.toNat_of_nonneg (by omega)).symm)) (by first | rfl | omega | simpa only [go_sem] using True.intro | (simp only [go_sem]; omega)) (by first | omega | (simp only [go_sem]; omega)) fun a x hx ha hel => ?_ | refine pA_ix hS _ (by first | rfl | (exact (Int.toNat_of_nonneg (by omega)).symm)) (by first | rfl | omega | simpa only [go_sem] using True.intro | (simp only [go_sem]; omega)) (by first | omega | (simp only [go_sem]; omega)) fun a x hx ha hel => ?_ | (refine pN_sr hel hS (by rfl) (by rfl) (by first | omega | (simp only [go_sem]; omega)) ?_; clear hS; intro w hS) | (refine pN_b1 hS (by rfl) (by decide) ?_; clear hS; intro s w hS) | (refine pN_b0 hS ?_; clear hS; intro s w hS) | (refine pN_app hS (by first | rfl | omega | simpa only [go_sem] using True.intro | (simp only [go_sem]; omega)) (by first | rfl | omega | simpa only [go_sem] using True.intro | (simp only [go_sem]; omega)) (by first | omega | (simp only [go_sem]; omega)) ?_; clear hS; intro s w hS) | (refine pN_app0 hS (by first | rfl | omega | simpa only [go_sem] using True.intro | (simp only [go_sem]; omega)) (by first | omega | (simp only [go_sem]; omega)) ?_; clear hS; intro s w hS) | (refine pN_mk hS _ (by first | rfl | (exact (Int.toNat_of_nonneg (by omega)).symm)) (by first | omega | (simp only [go_sem]; omega)) ?_; clear hS; intro s w hS) | (refine pN_mk0 hS _ (by first | rfl | (exact (Int.toNat_of_nonneg (by omega)).symm)) (by first | omega | (simp only [go_sem]; omega)) ?_; clear hS; intro s w hS) | refine pN_st hS (by first | rfl | omega | simpa only [go_sem] using True.intro | (simp only [go_sem]; omega)) ?_ | refine pL_st hS (by first | rfl | omega | simpa only [go_sem] using True.intro | (simp only [go_sem]; omega)) ?_ | refine pN_fn ?_ | refine pN_v (hk := ?_) | refine pA_v (hk := ?_) | refine pL_v (hk := ?_) | fail)
      · rw [vals_era] at hS
        have hS : Sat E w (bag (keep cd_uint8 pl) :: cel b ⟨129, depC c d0.k mb nb⟩ :: mp idV mb (vals (D.era pl i)) :: mp nke nb (vals nl) :: bag (keep (cdI 58) nl) :: N) := hS.to
        have hS : Sat E w (depP c b d0.k mb nb (D.era pl i) nl N) := (keep_era i hS).to
        exact ⟨j + 1, rfl, by omega, by rw [hdx]; exact Dep.shut (htd.era i) rfl hS⟩
      · simp [RowKit.intOf] <;> omega
    · obtain rfl : j = li.length := by omega
      rw [List.take_length] at hS
      repeat' (first | ((first | refine pN_lss_s ?_ ?_ | refine pA_lss_s ?_ ?_ | refine pN_lss_sb ?_ ?_ | refine pN_leq_s ?_ ?_ | refine pA_leq_s ?_ ?_ | refine pN_leq_sb ?_ ?_ | refine pN_gtr_s ?_ ?_ | refine pA_gtr_s ?_ ?_ | refine pN_gtr_sb ?_ ?_ | refine pN_geq_s ?_ ?_ | refine pA_geq_s ?_ ?_ | refine pN_geq_sb ?_ ?_) <;> intro hc <;> try (exfalso; omega)) | ((first | refine pN_eql_s ?_ ?_ | refine pA_eql_s ?_ ?_ | refine pN_eql_sb ?_ ?_ | refine pA_eql_sb ?_ ?_ | refine pN_eql_ss ?_ ?_ | refine pA_eql_ss ?_ ?_ | refine pN_neq_s ?_ ?_ | refine pA_neq_s ?_ ?_ | refine pN_neq_sb ?_ ?_ | refine pA_neq_sb ?_ ?_ | refine pN_neq_ss ?_ ?_ | refine pA_neq_ss ?_ ?_) <;> intro hc <;> try (exfalso; first | omega | exact hc rfl | exact hc (by assumption) | exact absurd hc (by assumption))) | refine pIf_t ?_ | refine pIf_f ?_ | refine gA_go (by rfl) ?_ | refine gA_no (by rfl) ?_ | refine pGd_go (by rfl) ?_ | refine pGd_no (by rfl) ?_ | refine pN_tob ?_ | refine pL_tob ?_ | refine pN_ofb ?_ | refine pL_ofb ?_ | refine pN_l hS (by first | rfl | assumption) ?_ | refine pL_l hS (by first | rfl | assumption) ?_ | refine pN_ld1 ha hS ?_ | refine pL_ld1 ha hS ?_ | refine pN_ld_at ha hS (by rfl) ?_ | refine pL_ld_at ha hS (by rfl) ?_ | refine pN_fa ha (by rfl) fun a ha => ?_ | refine pA_fa ha (by rfl) fun a ha => ?_ | refine pN_la hS (by rfl) ?_ | refine pL_la hS (by rfl) ?_ | refine pL_r hS (by rfl) ?_ | refine pL_ra hS (by rfl) ?_ | (refine pN_s hS (by first | exact Nat.le_of_ble_eq_true rfl | assumption) (by rfl) ?_; clear hS; intro w hS; try simp only [List.set_cons_zero, List.set_cons_succ] at hS) | (refine pN_sa hS (by rfl) (by rfl) (by rfl) ?_; clear hS; intro w hS; try dsimp only at hS) | (refine pDr_go hS ?_; clear hS; intro w hS) | (refine pN_nz hS ?_; clear hS; intro a w hS) | (refine pN_bx hS (by rfl) ?_; clear hS; intro a w hS) | refine ⟨trivial, ?_⟩ | refine ⟨⟨(by first | exact run_l hS (by first | rfl | assumption) | exact run_st hS (by first | rfl | omega) | exact run_ld1 ha hS | exact fun _ => run_l hS (by rfl) | exact fun _ => run_st hS (by first | rfl | omega) | exact fun _ => run_ld1 ha hS | exact fun h => Bool.noConfusion h), trivial⟩, ?_⟩ | refine ⟨⟨(by first | exact run_l hS (by first | rfl | assumption) | exact run_st hS (by first | rfl | omega) | exact run_ld1 ha hS | exact fun _ => run_l hS (by rfl) | exact fun _ => run_st hS (by first | rfl | omega) | exact fun _ => run_ld1 ha hS | exact fun h => Bool.noConfusion h), (by first | exact run_l hS (by first | rfl | assumption) | exact run_st hS (by first | rfl | omega) | exact run_ld1 ha hS | exact fun _ => run_l hS (by rfl) | exact fun _ => run_st hS (by first | rfl | omega) | exact fun _ => run_ld1 ha hS | exact fun h => Bool.noConfusion h), trivial⟩, ?_⟩ | refine ⟨⟨(by first | exact run_l hS (by first | rfl | assumption) | exact run_st hS (by first | rfl | omega) | exact run_ld1 ha hS | exact fun _ => run_l hS (by rfl) | exact fun _ => run_st hS (by first | rfl | omega) | exact fun _ => run_ld1 ha hS | exact fun h => Bool.noConfusion h), (by first | exact run_l hS (by first | rfl | assumption) | exact run_st hS (by first | rfl | omega) | exact run_ld1 ha hS | exact fun _ => run_l hS (by rfl) | exact fun _ => run_st hS (by first | rfl | omega) | exact fun _ => run_ld1 ha hS | exact fun h => Bool.noConfusion h), (by first | exact run_l hS (by first | rfl | assumption) | exact run_st hS (by first | rfl | omega) | exact run_ld1 ha hS | exact fun _ => run_l hS (by rfl) | exact fun _ => run_st hS (by first | rfl | omega) | exact fun _ => run_ld1 ha hS | exact fun h => Bool.noConfusion h), trivial⟩, ?_⟩ | refine pN_ixk hS _ (by first | rfl | (exact (Int.toNat_of_nonneg (by omega)).symm)) (by first | rfl | omega | simpa only [go_sem] using True.intro | (simp only [go_sem]; omega)) (by assumption) fun a ha hel => ?_ | refine pA_ixk hS _ (by first | rfl | (exact (Int.toNat_of_nonneg (by omega)).symm)) (by first | rfl | omega | simpa only [go_sem] using True.intro | (simp only [go_sem]; omega)) (by assumption) fun a ha hel => ?_ | refine pN_ix hS _ (by first | rfl | (exact (Int.toNat_of_nonneg (by omega)).symm)) (by first | rfl | omega | simpa only [go_sem] using True.intro | (simp only [go_sem]; omega)) (by first | omega | (simp only [go_sem]; omega)) fun a x hx ha hel => ?_ | refine pA_ix hS _ (by first | rfl | (exact (Int.toNat_of_nonneg (by omega)).symm)) (by first | rfl | omega | simpa only [go_sem] using True.intro | (simp only [go_sem]; omega)) (by first | omega | (simp only [go_sem]; omega)) fun a x hx ha hel => ?_ | (refine pN_sr hel hS (by rfl) (by rfl) (by first | omega | (simp only [go_sem]; omega)) ?_; clear hS; intro w hS) | (refine pN_b1 hS (by rfl) (by decide) ?_; clear hS; intro s w hS) | (refine pN_b0 hS ?_; clear hS; intro s w hS) | (refine pN_app hS (by first | rfl | omega | simpa only [go_sem] using True.intro | (simp only [go_sem]; omega)) (by first | rfl | omega | simpa only [go_sem] using True.intro | (simp only [go_sem]; omega)) (by first | omega | (simp only [go_sem]; omega)) ?_; clear hS; intro s w hS) | (refine pN_app0 hS (by first | rfl | omega | simpa only [go_sem] using True.intro | (simp only [go_sem]; omega)) (by first | omega | (simp only [go_sem]; omega)) ?_; clear hS; intro s w hS) | (refine pN_mk hS _ (by first | rfl | (exact (Int.toNat_of_nonneg (by omega)).symm)) (by first | omega | (simp only [go_sem]; omega)) ?_; clear hS; intro s w hS) | (refine pN_mk0 hS _ (by first | rfl | (exact (Int.toNat_of_nonneg (by omega)).symm)) (by first | omega | (simp only [go_sem]; omega)) ?_; clear hS; intro s w hS) | refine pN_st hS (by first | rfl | omega | simpa only [go_sem] using True.intro | (simp only [go_sem]; omega)) ?_ | refine pL_st hS (by first | rfl | omega | simpa only [go_sem] using True.intro | (simp only [go_sem]; omega)) ?_ | refine pN_fn ?_ | refine pN_v (hk := ?_) | refine pA_v (hk := ?_) | refine pL_v (hk := ?_) | refine ⟨_, ?_, fun _ _ h => h⟩ | refine ⟨_, ?_, fun _ _ _ h => h⟩ | refine ⟨_, ?_, fun _ _ _ _ h => h⟩ | refine ⟨_, ?_, fun _ _ _ _ _ h => h⟩ | fail)
      exact hQ _ hS
end
end Go.Proofs.YtikmogfhhggafaaGreatDoor

namespace Go.Proofs.YtikmogfhhggafaaGreatDoor
open Go
namespace S
def nL : NKey := ⟨[108], by decide⟩
def none13 : D.B := [110, 111, 32, 115, 117, 99, 104, 32, 105, 116, 101, 109, 0]
def datOf (l : List It) (e : L.En) : D.B := match l.find? fun x => decide (x.Name = e.name) with
  | some x => x.Data.2
  | none => []
theorem nodup_name {l : List It} (h : (l.map (·.Name)).Nodup) {x y : It} (hx : x ∈ l) (hy : y ∈ l) (e : x.Name = y.Name) : x = y := by
  induction l with
  | nil => cases hx
  | cons z l ih =>
    rw [List.map_cons, List.nodup_cons] at h
    rcases List.mem_cons.1 hx with h1 | h1 <;> rcases List.mem_cons.1 hy with h2 | h2
    · rw [h1, h2]
    · exact absurd (by rw [← h1, e]; exact List.mem_map_of_mem h2) h.1
    · exact absurd (by rw [← h2, ← e]; exact List.mem_map_of_mem h1) h.1
    · exact ih h.2 h1 h2
theorem datOf_en {k : C.K} {l : List It} (h : (l.map (·.Name)).Nodup) {x : It} (hx : x ∈ l) : datOf l (en k x) = x.Data.2 := by
  unfold datOf
  cases e : l.find? fun y => decide (y.Name = (en k x).name) with
  | none =>
    have := List.find?_eq_none.1 e x hx
    exact absurd (decide_eq_true rfl) this
  | some y =>
    have h1 := List.find?_some e
    have h2 := List.mem_of_find?_eq_some e
    have h3 : y.Name = x.Name := of_decide_eq_true h1
    rw [nodup_name h h2 hx h3]
theorem full_en {k : C.K} {l : List It} (h : (l.map (·.Name)).Nodup) {x : It} (hx : x ∈ l) : full (en k x) ⟨none, 0⟩ (datOf l (en k x)) = plainI x := by
  rw [datOf_en h hx]; rfl
theorem fulls_ens {k : C.K} {l : List It} (h : (l.map (·.Name)).Nodup) : fulls (datOf l) (l.map (en k)) = l.map plainI := by
  unfold fulls
  rw [List.map_map]
  exact List.map_congr_left fun x hx => full_en h hx
theorem name_no0 {x : It} (h : A.wrong x = 0) : x.Name ≠ none13 := by
  intro e
  have := (fine_of h).name
  rw [e] at this
  revert this
  decide
end S
attribute [local irreducible] oMv oV oU oCall oCallV oBi oBin oUn oLoad oStore oNil oFld oField oIdx oIndex oPick oAlloc oBox oBuild oBs oConv oMk oSl oExt oFn oIface oMap oLook oMapUp oRange oNext oEntry oInv oAssert oPanic oRes pN pA pL pDr pIf gA pGd Calls
section
variable [Pan] {E w W : World} {K Q : Value → World → Prop} {LL M N N' : List HA} {c : T_api_Config} {db : Nat} {d : D.T} {la lb : List I32} {na nb : List (List UInt8)} {sa sb : Sl}

theorem sameIDs_ok (hS : Sat E w M) [ha : Rds (cdI 58) M sa la] [hb : Rds (cdI 58) M sb lb] (hla : la.length ≤ 1099511627776) (hQ : ∀ w, Sat E w M → Q (.bool (decide (la = lb))) w) :
    Calls Tryz.prog 22 #[.slice sa.a la.length sa.c, .slice sb.a lb.length sb.c] w (retP Q) := by
  refine pithlaw36_sameIDs.calls ?_
  unfold pithlaw36_sameIDs.F
  by_cases hl : la.length = lb.length
  · repeat' (first | (refine pN_neq_s ?_ ?_ <;> intro hc <;> try (exfalso; first | omega | exact hc rfl | exact hc (by assumption) | exact absurd hc (by assumption))) | refine pIf_f ?_ | refine pN_v (hk := ?_) | fail)
    refine ⟨fun v w => ∃ j : Nat, v = .int .i64 j ∧ j ≤ la.length ∧ la.take j = lb.take j ∧ Sat E w M, fun v _ => la.length - (RowKit.intOf v).toNat, ⟨0, rfl, by omega, by rw [List.take_zero, List.take_zero], hS⟩, ?_⟩
    clear hS
    rintro _ _ w ⟨j, rfl, hj, he, hS⟩
    by_cases hlt : j < la.length
    · obtain ⟨x, hx⟩ : ∃ x, la[j]? = some x := ⟨la[j], by simp [hlt]⟩
      obtain ⟨y, hy⟩ : ∃ y, lb[j]? = some y := ⟨lb[j], by simp [show j < lb.length by omega]⟩
      have hnx : la.take (j + 1) = la.take j ++ [x] := by rw [List.take_add_one, hx]; rfl
      have hny : lb.take (j + 1) = lb.take j ++ [y] := by rw [List.take_add_one, hy]; rfl
      repeat' (first | refine pL_ld_at ha hS (i32n _) ?_ | (refine pA_neq_id (a := x) (b := y) (fun hxy => ?_) fun hxy => ?_) | (refine pN_lss_s ?_ ?_ <;> intro hc <;> try (exfalso; omega)) | refine pIf_t ?_ | refine pIf_f ?_ | (refine pDr_go hS ?_; clear hS; intro w hS) | refine pA_ixk hS _ (by first | rfl | (exact (Int.toNat_of_nonneg (by omega)).symm)) (by first | rfl | omega | simpa only [go_sem] using True.intro | (simp only [go_sem]; omega)) (by assumption) fun a ha hel => ?_ | refine pN_v (hk := ?_) | fail)
      · exact ⟨⟨j + 1, rfl, by omega, by rw [hnx, hny, he, hxy], hS⟩, by simp [RowKit.intOf] <;> omega⟩
      · have hne : la ≠ lb := fun e => by rw [e, hy] at hx; exact hxy (Option.some.inj hx).symm
        rw [decide_eq_false hne] at hQ
        exact hQ _ hS
    · obtain rfl : j = la.length := by omega
      rw [List.take_length, hl, List.take_length] at he
      rw [decide_eq_true he] at hQ
      repeat' (first | (refine pN_lss_s ?_ ?_ <;> intro hc <;> try (exfalso; omega)) | refine pIf_f ?_ | fail)
      exact hQ _ hS
  · have hne : la ≠ lb := fun e => hl (by rw [e])
    rw [decide_eq_false hne] at hQ
    repeat' (first | (refine pN_neq_s ?_ ?_ <;> intro hc <;> try (exfalso; first | omega | exact hc rfl | exact hc (by assumption) | exact absurd hc (by assumption))) | refine pIf_t ?_ | refine pN_v (hk := ?_) | fail)
    exact hQ _ hS
theorem sameNames_ok (hS : Sat E w M) [ha : Rds cd_string M sa na] [hb : Rds cd_string M sb nb] (hla : na.length ≤ 1099511627776) (hQ : ∀ w, Sat E w M → Q (.bool (decide (na = nb))) w) :
    Calls Tryz.prog 33 #[.slice sa.a na.length sa.c, .slice sb.a nb.length sb.c] w (retP Q) := by
  refine pithlaw36_sameNames.calls ?_
  unfold pithlaw36_sameNames.F
  by_cases hl : na.length = nb.length
  · repeat' (first | (refine pN_neq_s ?_ ?_ <;> intro hc <;> try (exfalso; first | omega | exact hc rfl | exact hc (by assumption) | exact absurd hc (by assumption))) | refine pIf_f ?_ | refine pN_v (hk := ?_) | fail)
    refine ⟨fun v w => ∃ j : Nat, v = .int .i64 j ∧ j ≤ na.length ∧ na.take j = nb.take j ∧ Sat E w M, fun v _ => na.length - (RowKit.intOf v).toNat, ⟨0, rfl, by omega, by rw [List.take_zero, List.take_zero], hS⟩, ?_⟩
    clear hS
    rintro _ _ w ⟨j, rfl, hj, he, hS⟩
    by_cases hlt : j < na.length
    · obtain ⟨x, hx⟩ : ∃ x, na[j]? = some x := ⟨na[j], by simp [hlt]⟩
      obtain ⟨y, hy⟩ : ∃ y, nb[j]? = some y := ⟨nb[j], by simp [show j < nb.length by omega]⟩
      have hnx : na.take (j + 1) = na.take j ++ [x] := by rw [List.take_add_one, hx]; rfl
      have hny : nb.take (j + 1) = nb.take j ++ [y] := by rw [List.take_add_one, hy]; rfl
      repeat' (first | refine pA_ixk (s := sa) (l := na) hS j (by omega) (by omega) hx fun ad ha hel => ?_ | refine pA_ixk (s := sb) (l := nb) hS j (by omega) (by omega) hy fun ad ha hel => ?_ | (refine pN_lss_s ?_ ?_ <;> intro hc <;> try (exfalso; omega)) | (refine pA_neq_ss ?_ ?_ <;> intro hc <;> try (exfalso; first | omega | exact hc rfl | exact hc (by assumption) | exact absurd hc (by assumption))) | refine pIf_t ?_ | refine pIf_f ?_ | refine pL_ld1 ha hS ?_ | (refine pDr_go hS ?_; clear hS; intro w hS) | refine pN_v (hk := ?_) | fail)
      · exact ⟨⟨j + 1, rfl, by omega, by rw [hnx, hny, he, hc], hS⟩, by simp [RowKit.intOf] <;> omega⟩
      · have hne : na ≠ nb := fun e => by rw [e, hy] at hx; exact hc (Option.some.inj hx).symm
        rw [decide_eq_false hne] at hQ
        exact hQ _ hS
    · obtain rfl : j = na.length := by omega
      rw [List.take_length, hl, List.take_length] at he
      rw [decide_eq_true he] at hQ
      repeat' (first | (refine pN_lss_s ?_ ?_ <;> intro hc <;> try (exfalso; omega)) | refine pIf_f ?_ | fail)
      exact hQ _ hS
  · have hne : na ≠ nb := fun e => hl (by rw [e])
    rw [decide_eq_false hne] at hQ
    repeat' (first | (refine pN_neq_s ?_ ?_ <;> intro hc <;> try (exfalso; first | omega | exact hc rfl | exact hc (by assumption) | exact absurd hc (by assumption))) | refine pIf_t ?_ | refine pN_v (hk := ?_) | fail)
    exact hQ _ hS

structure Told1 (d : D.T) (k : C.K) (l : List T_api_Item) (root : List I32) : Prop where
  t : S.Tells d S.nL.1 (l.map (S.en k)) root
  rl : root.length ≤ 1099511627776
  bl : ∀ q, d.get root = some q → q.length ≤ 1099511627776
  dat : ∀ x ∈ l, d.get (D.ids k x.Data.2) = some x.Data.2
  names : d.names = [S.nL.1]
structure Items1 (k : C.K) (l : List T_api_Item) : Prop where
  ok : ∀ x ∈ l, A.wrong x = 0 ∧ x.Data.2.length ≤ 1048576 ∧ x.Name.length ≤ 1048576 ∧ x.Link.length ≤ 1048576
  nd : (l.map (·.Name)).Nodup
  len : l.length ≤ 1048576
  k : k.legal
theorem Items1.hd {k : C.K} {l : List T_api_Item} {root : List I32} (h : Items1 k l) (ht : Told1 d k l root) : ∀ e ∈ l.map (S.en k), e.sums.length ≤ 1099511627776 ∧ (e.kind = 0 → d.get e.sums = some (S.datOf l e)) ∧ (e.kind ≠ 0 → S.datOf l e = []) ∧ (S.datOf l e).length ≤ 140737488355328 := fun e he => by
  obtain ⟨x, hx, rfl⟩ := List.mem_map.1 he
  obtain ⟨o1, o2, _, _⟩ := h.ok x hx
  refine ⟨Nat.le_trans (S.ids_bound h.k o2) (Nat.le_of_ble_eq_true rfl), fun _ => ?_, fun hk => ?_, ?_⟩
  · rw [S.datOf_en h.nd hx]; exact ht.dat x hx
  · rw [S.datOf_en h.nd hx]; exact (S.fine_of o1).data hk
  · rw [S.datOf_en h.nd hx]; omega
set_option maxHeartbeats 4000000 in
theorem lholds_ok {k : C.K} {l : List T_api_Item} {root : List I32} {su : Sl} (hi : Items1 k l) (ht : Told1 d k l root) (hS : Sat E w LL) [hf : Fnd (Dep c db) LL d N] [hr : Rds cd_api_Item N su l] (hdat : ∀ x ∈ l, Rds cd_uint8 N x.Data.1 x.Data.2)
    (hQ : ∀ w, Sat E w (Dep c db d :: N) → Q (.bool true) w) :
    Calls Tryz.prog 23 #[.pointer (some ⟨db, 0, none⟩), .slice su.a l.length su.c] w (retP Q) := by
  refine pithlaw36_holds.calls ?_
  unfold pithlaw36_holds.F
  have hS1 := hS.fd (Dep c db)
  clear hS hf
  have hS := hS1
  clear hS1
  have hel : (l.map (S.en k)).length ≤ 1048576 := by rw [List.length_map]; exact hi.len
  have hfu := S.fulls_ens (k := k) hi.nd
  have hhd := hi.hd ht
  have hnl : d.ns.length ≤ 1099511627776 := by
    have h2 : d.names.length = (d.ns.map (·.1)).length := (S.sortN_perm _).length_eq
    rw [ht.names, List.length_map] at h2
    simp only [List.length_cons, List.length_nil] at h2
    omega
  have hn1 : d.names.length = 1 := by rw [ht.names]; rfl
  refine pc_snap_Items (Items_ok (c := c) hS S.nL ht.t ht.rl ht.bl (by omega) (S.datOf l) hhd ?_)
  clear hS
  intro outs so w hout hS
  rw [hfu] at hout
  have hol : outs.length = l.length := by have := congrArg List.length hout; rwa [List.length_map, List.length_map] at this
  have hll := hi.len
  have hwl := A.many_bd (its := l) fun x hx => ⟨(hi.ok x hx).1, (hi.ok x hx).2.1⟩
  have hbd : ∀ j, (A.many (l.take j)).length + 1024 ≤ 140737488355328 := fun j => by
    have h1 := A.many_bd (its := l.take j) fun x hx => ⟨(hi.ok x (List.mem_of_mem_take hx)).1, (hi.ok x (List.mem_of_mem_take hx)).2.1⟩
    have h2 : (l.take j).length ≤ 1048576 := by rw [List.length_take]; omega
    have h3 : (l.take j).length * 1049600 ≤ 1048576 * 1049600 := Nat.mul_le_mul_right _ h2
    omega
  repeat' (first | (refine pc_snap_Tar (Tar_ok (c := c) hS S.nL ht.t ht.rl ht.bl hel (S.datOf l) hhd l hfu.symm hi.ok ?_); clear hS; intro st w hS) | (refine pc_tar_Write (Write_ok (sl := su) (its := l) hS (fun x hx => by haveI := hdat x hx; infer_instance) (fun x hx => by have := hi.ok x hx; omega) (by omega) (fun x hx => (hi.ok x hx).1) (fun j _ => hbd j) ?_); clear hS; intro sw w hS) | (refine pc_pithlaw36_num (Lnum_ok _ ?_)) | (refine pN_neq_s ?_ ?_ <;> intro hc <;> try (exfalso; first | omega | exact hc rfl | exact hc (by assumption) | exact absurd hc (by assumption))) | refine pGd_go (by rfl) ?_ | refine pN_v (hk := ?_) | fail)
  refine pc_pithlaw36_sameAll (lsameAll_ok (la := outs) (lb := l) (sa := so) (sb := su) hS (fun x hx => by haveI := itR_rd hx; infer_instance) (fun x hx => by haveI := hdat x hx; infer_instance) (by omega) ?_)
  rw [decide_eq_true hout]
  clear hS
  intro w hS
  generalize A.whole l = wh at *
  repeat' (first | (refine pN_neq_ss (l := wh) (r := wh) ?_ ?_ <;> intro hc <;> try (exact absurd rfl hc)) | (refine pc_snap_List (List_ok (c := c) hS hnl ?_); clear hS; intro sn w hS) | (refine pN_b1 (C := cd_string) (x := S.nL.1) hS rfl (by decide) ?_; clear hS; intro s1 w hS) | (refine pc_pithlaw36_sameNames (sameNames_ok (na := d.names) (nb := [S.nL.1]) (sa := sn) (sb := s1) hS (by omega) ?_); rw [decide_eq_true ht.names]; clear hS; intro w hS) | refine pIf_f ?_ | refine pGd_go (by rfl) ?_ | refine pN_st hS (by first | rfl | omega | simpa only [go_sem] using True.intro | (simp only [go_sem]; omega)) ?_ | refine pN_v (hk := ?_) | fail)
  have hS : Sat E w (Dep c db d :: N) := hS.to
  refine ⟨fun v w => ∃ j : Nat, v = .int .i64 j ∧ j ≤ l.length ∧ Sat E w (Dep c db d :: N), fun v _ => l.length - (RowKit.intOf v).toNat, ⟨0, rfl, by omega, hS⟩, ?_⟩
  clear hS
  rintro _ _ w ⟨j, rfl, hj, hS⟩
  by_cases hlt : j < l.length
  · obtain ⟨x, hx⟩ : ∃ x, l[j]? = some x := ⟨l[j], List.getElem?_eq_getElem _⟩
    have hxm := List.mem_of_getElem? hx
    haveI := hdat x hxm
    repeat' (first | refine pN_ixk hS j (by omega) (by omega) hx fun ad ha hel => ?_ | (refine pN_lss_s ?_ ?_ <;> intro hc <;> try (exfalso; omega)) | refine pIf_t ?_ | refine pN_l hS (by first | rfl | assumption) ?_ | refine pN_ld_at ha hS (by rfl) ?_ | (refine pN_sa hS (by rfl) (by rfl) (by rfl) ?_; clear hS; intro w hS; try dsimp only at hS) | (refine pN_nz hS ?_; clear hS; intro a w hS) | refine pN_v (hk := ?_) | fail)
    refine pc_snap_Find (Find_ok (c := c) hS S.nL ht.t ht.rl ht.bl (by omega) x.Name (S.datOf l) hhd (fun hno => absurd rfl (hno (S.en k x) (List.mem_map.2 ⟨x, hxm, rfl⟩))) fun e he hen => ?_)
    obtain ⟨y, hy, rfl⟩ := List.mem_map.1 he
    obtain rfl := S.nodup_name hi.nd hy hxm hen
    rw [S.datOf_en hi.nd hy]
    clear hS
    intro s3 w hS
    have hsm : S.same y (S.full (S.en k y) s3 y.Data.2) = true := decide_eq_true ⟨rfl, rfl, rfl, rfl, rfl, rfl⟩
    repeat' (first | (refine pc_pithlaw36_num (Lnum_ok _ ?_)) | (refine pN_neq_s ?_ ?_ <;> intro hc <;> try (exfalso; first | omega | exact hc rfl | exact hc (by assumption) | exact absurd hc (by assumption))) | refine pGd_go (by rfl) ?_ | refine pN_la hS (by rfl) ?_ | (refine pN_sa hS (by rfl) (by rfl) (by rfl) ?_; clear hS; intro w hS; try dsimp only at hS) | (refine pN_nz hS ?_; clear hS; intro a w hS) | refine pN_v (hk := ?_) | fail)
    have hS : Sat E w (cel a ⟨49, T_api_Item.enc (S.full (S.en k y) s3 y.Data.2)⟩ :: rows cd_uint8 s3 y.Data.2 :: Dep c db d :: N) := hS.to
    haveI hr4 : Rds cd_uint8 (cel a ⟨49, T_api_Item.enc (S.full (S.en k y) s3 y.Data.2)⟩ :: rows cd_uint8 s3 y.Data.2 :: Dep c db d :: N) (S.full (S.en k y) s3 y.Data.2).Data.1 (S.full (S.en k y) s3 y.Data.2).Data.2 := by
      show Rds cd_uint8 _ s3 y.Data.2
      infer_instance
    refine pc_pithlaw36_same (lsame_ok y (S.full (S.en k y) s3 y.Data.2) hS ?_)
    rw [hsm]
    clear hS
    intro w hS
    repeat' (first | refine pIf_f ?_ | refine pGd_go (by rfl) ?_ | refine pN_v (hk := ?_) | fail)
    exact ⟨⟨j + 1, rfl, by omega, hS.to⟩, by simp [RowKit.intOf] <;> omega⟩
  · obtain rfl : j = l.length := by omega
    repeat' (first | (refine pN_lss_s ?_ ?_ <;> intro hc <;> try (exfalso; omega)) | refine pIf_f ?_ | fail)
    refine pc_snap_Find (Find_ok (c := c) hS S.nL ht.t ht.rl ht.bl (by omega) S.none13 (S.datOf l) hhd (fun hno w hS => ?_) fun e he hen => ?_)
    · repeat' (first | (refine pc_pithlaw36_num (Lnum_ok _ ?_)) | (refine pN_eql_s ?_ ?_ <;> intro hc <;> try (exfalso; first | omega | exact hc rfl | exact hc (by assumption) | exact absurd hc (by assumption))) | refine pN_v (hk := ?_) | fail)
      exact hQ _ hS
    · obtain ⟨y, hy, rfl⟩ := List.mem_map.1 he
      exact absurd hen (S.name_no0 (hi.ok y hy).1)
end
end Go.Proofs.YtikmogfhhggafaaGreatDoor

namespace Go.Proofs.YtikmogfhhggafaaGreatDoor
open Go
namespace S
def comp (l : List I32) : List I32 := l.foldl (fun acc x => if acc.getLast? = some x then acc else acc ++ [x]) []
theorem comp_nil : comp [] = [] := rfl
theorem comp_snoc (l : List I32) (x : I32) : comp (l ++ [x]) = if (comp l).getLast? = some x then comp l else comp l ++ [x] := by
  unfold comp
  rw [List.foldl_append]; rfl
theorem comp_last : ∀ (n : Nat) (l : List I32), l.length = n → (comp l).getLast? = l.getLast?
  | 0, l, h => by rw [List.length_eq_zero_iff.1 h]; rfl
  | n + 1, l, h => by
    obtain ⟨m, x, rfl⟩ : ∃ m x, l = m ++ [x] := ⟨l.dropLast, l.getLast (by intro e; rw [e] at h; cases h), (List.dropLast_concat_getLast _).symm⟩
    rw [comp_snoc, List.getLast?_concat]
    split
    · rename_i h1; exact h1
    · rw [List.getLast?_concat]
theorem comp_at (l : List I32) (x : I32) : comp (l ++ [x]) = if l.getLast? = some x then comp l else comp l ++ [x] := by
  rw [comp_snoc, comp_last l.length l rfl]
theorem comp_mem : ∀ (n : Nat) (l : List I32), l.length = n → ∀ y, y ∈ comp l ↔ y ∈ l
  | 0, l, h, y => by rw [List.length_eq_zero_iff.1 h]; exact Iff.rfl
  | n + 1, l, h, y => by
    obtain ⟨m, x, rfl⟩ : ∃ m x, l = m ++ [x] := ⟨l.dropLast, l.getLast (by intro e; rw [e] at h; cases h), (List.dropLast_concat_getLast _).symm⟩
    have ih := comp_mem n m (by simpa using h) y
    rw [comp_at]
    split
    · rename_i h1
      rw [ih, List.mem_append]
      constructor
      · exact .inl
      · rintro (h2 | h2)
        · exact h2
        · rw [List.mem_singleton.1 h2]; exact List.mem_of_getLast? h1
    · rw [List.mem_append, List.mem_append, ih]
theorem comp_len : ∀ (n : Nat) (l : List I32), l.length = n → (comp l).length ≤ l.length
  | 0, l, h => by rw [List.length_eq_zero_iff.1 h]; exact Nat.le_refl _
  | n + 1, l, h => by
    obtain ⟨m, x, rfl⟩ : ∃ m x, l = m ++ [x] := ⟨l.dropLast, l.getLast (by intro e; rw [e] at h; cases h), (List.dropLast_concat_getLast _).symm⟩
    have ih := comp_len n m (by simpa using h)
    rw [comp_at]
    split
    · rw [List.length_append]; omega
    · rw [List.length_append, List.length_append]; simp only [List.length_singleton]; omega
theorem comp_rise : ∀ (n : Nat) (l : List I32), l.length = n → U.Up lessI l → (comp l).Pairwise fun x y => lessI x y = true
  | 0, l, h, _ => by rw [List.length_eq_zero_iff.1 h]; exact List.Pairwise.nil
  | n + 1, l, h, hu => by
    obtain ⟨m, x, rfl⟩ : ∃ m x, l = m ++ [x] := ⟨l.dropLast, l.getLast (by intro e; rw [e] at h; cases h), (List.dropLast_concat_getLast _).symm⟩
    obtain ⟨u1, _, u3⟩ := U.Up.app.1 hu
    have ih := comp_rise n m (by simpa using h) u1
    rw [comp_at]
    split
    · exact ih
    · rename_i h1
      refine List.pairwise_append.2 ⟨ih, List.pairwise_singleton _ _, fun a ha b hb => ?_⟩
      obtain rfl := List.mem_singleton.1 hb
      have ham := (comp_mem m.length m rfl a).1 ha
      have h2 : lessI b a = false := u3 a ham b (by simp)
      cases h3 : lessI a b with
      | true => rfl
      | false =>
        exfalso
        have hab := lessI_tri h3 h2
        subst hab
        -- the last one stands before none of the others
        obtain ⟨q, hq⟩ : ∃ q, m.getLast? = some q := by
          cases e : m.getLast? with
          | none => rw [List.getLast?_eq_none_iff] at e; rw [e] at ham; cases ham
          | some q => exact ⟨q, rfl⟩
        have hqm := List.mem_of_getLast? hq
        have h4 : lessI a q = false := u3 q hqm a (by simp)
        have h5 : lessI q a = false := by
          obtain ⟨i, hi⟩ := List.mem_iff_getElem?.1 ham
          rw [List.getLast?_eq_getElem?] at hq
          have hil := (List.getElem?_eq_some_iff.1 hi).1
          exact u1.at_ lessI_ord hi hq (by omega)
        have := lessI_tri h4 h5
        rw [← this] at hq
        exact h1 hq
theorem rise_eq {l m : List I32} (hl : l.Pairwise fun x y => lessI x y = true) (hm : m.Pairwise fun x y => lessI x y = true) (h : ∀ x, x ∈ l ↔ x ∈ m) : l = m := by
  have nd : ∀ {l : List I32}, (l.Pairwise fun x y => lessI x y = true) → l.Nodup := fun h => h.imp fun {a b} hh e => by rw [e, lessI_ord.irr] at hh; cases hh
  have up : ∀ {l : List I32}, (l.Pairwise fun x y => lessI x y = true) → l.Pairwise fun x y => lessI y x = false := fun h => h.imp fun {a b} hh => lessI_ord.asym hh
  exact List.Perm.eq_of_pairwise (le := fun x y => lessI y x = false) (fun a b _ _ h1 h2 => lessI_tri h2 h1) (up hl) (up hm) ((List.perm_ext_iff_of_nodup (nd hl) (nd hm)).2 h)
def allsOf (r : List I32) (es : List L.En) : List I32 := r ++ (es.map (·.sums)).flatten
def needsOf (r : List I32) (es : List L.En) : List I32 := comp (sortI (allsOf r es))
theorem needs_rise (r : List I32) (es : List L.En) : (needsOf r es).Pairwise fun x y => lessI x y = true := comp_rise _ _ rfl (sortI_up _)
theorem needs_mem {r : List I32} {es : List L.En} {i : I32} : i ∈ needsOf r es ↔ i ∈ r ∨ ∃ e ∈ es, i ∈ e.sums := by
  unfold needsOf allsOf
  rw [comp_mem _ _ rfl, (sortI_perm _).mem_iff, List.mem_append, List.mem_flatten]
  constructor
  · rintro (h | ⟨L, hL, h⟩)
    · exact .inl h
    · obtain ⟨e, he, rfl⟩ := List.mem_map.1 hL
      exact .inr ⟨e, he, h⟩
  · rintro (h | ⟨e, he, h⟩)
    · exact .inl h
    · exact .inr ⟨_, List.mem_map.2 ⟨e, he, rfl⟩, h⟩
theorem needs_len (r : List I32) (es : List L.En) : (needsOf r es).length ≤ (allsOf r es).length := by
  have := comp_len _ (sortI (allsOf r es)) rfl
  rw [(sortI_perm _).length_eq] at this
  exact this
theorem alls_take {r : List I32} {es : List L.En} {j : Nat} {e : L.En} (h : es[j]? = some e) : allsOf r (es.take (j + 1)) = allsOf r (es.take j) ++ e.sums := by
  unfold allsOf
  rw [List.take_add_one, h]
  simp
theorem alls_le (r : List I32) (es : List L.En) (j : Nat) : (allsOf r (es.take j)).length ≤ (allsOf r es).length := by
  unfold allsOf
  have h : es = es.take j ++ es.drop j := (List.take_append_drop j es).symm
  conv => rhs; rw [h]
  simp only [List.map_append, List.flatten_append, List.length_append]
  omega
end S
end Go.Proofs.YtikmogfhhggafaaGreatDoor

namespace Go.Proofs.YtikmogfhhggafaaGreatDoor
open Go
namespace S
theorem save_0 {d : D.T} {n : D.B} {l : List It} (hn : n.length ≤ 254) (h : rightI l = 0) : save d n l = (0, saved d n (sort l)) := by
  obtain ⟨h1, h2⟩ := right_0 h
  unfold save
  rw [if_neg (by omega), if_neg (by rw [werr_0 h1]; decide), if_neg (by rw [h2]; decide)]
theorem need_univ {k : C.K} {ls : List (List It)} {l : List It} (h : l ∈ ls) : ∀ p ∈ need k (sort l), p ∈ univ k ls := by
  intro p hp
  have h1 : p ∈ parts k l := by
    unfold need at hp
    unfold parts
    rcases List.mem_append.1 hp with hp | hp
    · exact List.mem_append.2 (.inl hp)
    · refine List.mem_append.2 (.inr ?_)
      obtain ⟨P, hP, hp⟩ := List.mem_flatten.1 hp
      obtain ⟨x, hx, rfl⟩ := List.mem_map.1 hP
      exact List.mem_flatten.2 ⟨_, List.mem_map.2 ⟨x, (sort_perm l).mem_iff.1 hx, rfl⟩, hp⟩
  exact List.mem_cons_of_mem _ (List.mem_flatten.2 ⟨_, List.mem_map.2 ⟨l, h, rfl⟩, h1⟩)
theorem loose_univ {k : C.K} (hk : k.legal) (ls : List (List It)) : ∀ p ∈ C.pieces k loose, p ∈ univ k ls := by
  have h1 : (loose.length : Int) < k.least := by
    have h2 : loose.length = 34 := rfl
    have := hk.1
    omega
  rw [C.pieces_one (by decide) h1]
  intro p hp
  rw [List.mem_singleton.1 hp]
  exact List.mem_cons_self
theorem put_in {d : D.T} {U : List D.B} (h : d.In U) {b : D.B} (hb : ∀ p ∈ C.pieces d.k b, p ∈ U) : (d.put b).In U := D.in_puts _ h hb
theorem put1_has_iff (d : D.T) (p : D.B) (i : I32) : (d.put1 p).has i = true ↔ d.has i = true ∨ i = H.sum p := by
  unfold D.T.put1
  split
  · rename_i h
    exact ⟨.inl, fun h2 => h2.elim id fun e => by rw [e]; exact h⟩
  · unfold D.T.has
    by_cases e : H.sum p = i
    · subst e
      rw [D.look_upd_same]
      simp
    · simp only [D.look_upd_other _ _ _ _ e]
      constructor
      · exact .inl
      · rintro (h | h)
        · exact h
        · exact absurd h.symm e
theorem puts_has_iff : ∀ (l : List D.B) (d : D.T) (i : I32), (d.puts l).has i = true ↔ d.has i = true ∨ ∃ p ∈ l, i = H.sum p
  | [], d, i => by
    show d.has i = true ↔ _
    simp
  | p :: l, d, i => by
    show ((d.put1 p).puts l).has i = true ↔ _
    rw [puts_has_iff l, put1_has_iff]
    simp only [List.mem_cons, exists_eq_or_imp, or_assoc]
theorem saved_has {d : D.T} {n : D.B} {l : List It} {i : I32} : (saved d n l).has i = true ↔ d.has i = true ∨ ∃ p ∈ need d.k l, i = H.sum p := by
  rw [saved_puts]
  show (d.puts _).has i = true ↔ _
  rw [puts_has_iff]
  unfold need
  constructor
  · rintro (h | ⟨p, hp, e⟩)
    · exact .inl h
    · refine .inr ⟨p, ?_, e⟩
      rcases List.mem_append.1 hp with h | h
      · exact List.mem_append.2 (.inr h)
      · exact List.mem_append.2 (.inl h)
  · rintro (h | ⟨p, hp, e⟩)
    · exact .inl h
    · refine .inr ⟨p, ?_, e⟩
      rcases List.mem_append.1 hp with h | h
      · exact List.mem_append.2 (.inr h)
      · exact List.mem_append.2 (.inl h)
def rootOf (k : C.K) (l : List It) : List I32 := D.ids k (list k l)
def needs (k : C.K) (l : List It) : List I32 := needsOf (rootOf k l) (l.map (en k))
theorem needs_eq (k : C.K) (l : List It) : needsOf (rootOf k l) (l.map (en k)) = needs k l := rfl
theorem needs_in {k : C.K} {l : List It} {i : I32} : i ∈ needs k l ↔ i ∈ rootOf k l ∨ ∃ x ∈ l, i ∈ D.ids k x.Data.2 := by
  unfold needs
  rw [needs_mem]
  constructor
  · rintro (h | ⟨e, he, h⟩)
    · exact .inl h
    · obtain ⟨x, hx, rfl⟩ := List.mem_map.1 he
      exact .inr ⟨x, hx, h⟩
  · rintro (h | ⟨x, hx, h⟩)
    · exact .inl h
    · exact .inr ⟨en k x, List.mem_map.2 ⟨x, hx, rfl⟩, h⟩
theorem needs_sum {k : C.K} {l : List It} {i : I32} : i ∈ needs k l ↔ ∃ p ∈ need k l, i = H.sum p := by
  unfold needs rootOf
  rw [needs_mem]
  unfold need
  constructor
  · rintro (h | ⟨e, he, h⟩)
    · obtain ⟨p, hp, rfl⟩ := List.mem_map.1 h
      exact ⟨p, List.mem_append.2 (.inl hp), rfl⟩
    · obtain ⟨x, hx, rfl⟩ := List.mem_map.1 he
      obtain ⟨p, hp, rfl⟩ := List.mem_map.1 (h : i ∈ D.ids k x.Data.2)
      exact ⟨p, List.mem_append.2 (.inr (List.mem_flatten.2 ⟨_, List.mem_map.2 ⟨x, hx, rfl⟩, hp⟩)), rfl⟩
  · rintro ⟨p, hp, rfl⟩
    rcases List.mem_append.1 hp with h | h
    · exact .inl (List.mem_map_of_mem h)
    · obtain ⟨P, hP, h⟩ := List.mem_flatten.1 h
      obtain ⟨x, hx, rfl⟩ := List.mem_map.1 hP
      exact .inr ⟨en k x, List.mem_map.2 ⟨x, hx, rfl⟩, (List.mem_map_of_mem h : H.sum p ∈ D.ids k x.Data.2)⟩
theorem needs_ne (k : C.K) (l : List It) : needs k l ≠ [] := by
  intro h
  have h1 := ids_ne k (list_ne k l)
  obtain ⟨i, r, hr⟩ : ∃ i r, D.ids k (list k l) = i :: r := by
    cases e : D.ids k (list k l) with
    | nil => exact absurd e h1
    | cons i r => exact ⟨i, r, rfl⟩
  have h2 : i ∈ needs k l := needs_mem.2 (.inl (by unfold rootOf; rw [hr]; exact List.mem_cons_self))
  rw [h] at h2
  cases h2
theorem get_congr {d e : D.T} : ∀ {l : List I32}, (∀ i ∈ l, D.look d.ps i = D.look e.ps i) → d.get l = e.get l
  | [], _ => rfl
  | i :: l, h => by
    rw [D.T.get, D.T.get, h i List.mem_cons_self, get_congr fun j hj => h j (List.mem_cons_of_mem _ hj)]
theorem get_none_of {d : D.T} : ∀ {l : List I32} {i : I32}, i ∈ l → D.look d.ps i = none → d.get l = none
  | j :: l, i, h, hn => by
    rw [D.T.get]
    rcases List.mem_cons.1 h with rfl | h
    · rw [hn]
    · cases D.look d.ps j with
      | none => rfl
      | some p => simp only [get_none_of h hn]
structure Full (d : D.T) (k : C.K) (l : List It) (U : List D.B) : Prop where
  dk : d.k = k
  into : d.In U
  nd : d.Nd
  ns : D.look d.ns nL.1 = some (rootOf k l)
  names : d.names = [nL.1]
  has : ∀ p ∈ need k l, D.look d.ps (H.sum p) = some p
theorem Full.getR {d : D.T} {k : C.K} {l : List It} {U : List D.B} (h : Full d k l U) : d.get (rootOf k l) = some (list k l) := by
  have := D.get_ids (d := d) (b := list k l) fun p hp => h.has p (by rw [h.dk] at hp; exact List.mem_append.2 (.inl hp))
  rw [h.dk] at this
  exact this
theorem Full.told {d : D.T} {k : C.K} {l : List It} {U : List D.B} (h : Full d k l U) (hi : Items1 k l) (hr : Rise l) (hll : (list k l).length ≤ 1099511627776) : Told1 d k l (rootOf k l) := by
  have hg := h.getR
  refine ⟨⟨h.ns, list k l, hg, rlist_of (fun x hx => (hi.ok x hx).1) hr (by have := hi.len; omega)⟩, ?_, fun q hq => ?_, fun x hx => ?_, h.names⟩
  · exact Nat.le_trans (by unfold rootOf; rw [D.ids, List.length_map]; exact C.pieces_len _ _) hll
  · rw [hg] at hq; cases hq; exact hll
  · have := D.get_ids (d := d) (b := x.Data.2) fun p hp => h.has p (by
      rw [h.dk] at hp
      exact List.mem_append.2 (.inr (List.mem_flatten.2 ⟨_, List.mem_map.2 ⟨x, hx, rfl⟩, hp⟩)))
    rw [h.dk] at this
    exact this
theorem Full.needs_has {d : D.T} {k : C.K} {l : List It} {U : List D.B} (h : Full d k l U) {i : I32} (hi : i ∈ needs k l) : d.has i = true := by
  obtain ⟨p, hp, rfl⟩ := needs_sum.1 hi
  unfold D.T.has
  rw [h.has p hp]; rfl
theorem names_upd {d : D.T} {r : List I32} (hr : r ≠ []) (h : d.ns = [] ∨ ∃ q, d.ns = [(nL.1, q)]) : (d.set nL.1 r).names = [nL.1] ∧ (d.set nL.1 r).ns = [(nL.1, r)] := by
  have h1 : (d.set nL.1 r).ns = [(nL.1, r)] := by
    unfold D.T.set
    rw [if_neg hr]
    show D.upd d.ns nL.1 r = _
    rcases h with h | ⟨q, h⟩
    · rw [h]; rfl
    · rw [h, D.upd, if_pos rfl]
  refine ⟨?_, h1⟩
  unfold D.T.names
  rw [h1]
  exact List.perm_singleton.1 (sortN_perm _)
theorem saved_full {d : D.T} {k : C.K} {l : List It} {U : List D.B} (hk : d.k = k) (hd : d.In U) (hn : d.ns = [] ∨ ∃ q, d.ns = [(nL.1, q)]) (hc : D.NC U) (hU : ∀ p ∈ need k l, p ∈ U) (hnd : (saved d nL.1 l).Nd) : Full (saved d nL.1 l) k l U ∧ (saved d nL.1 l).ns = [(nL.1, rootOf k l)] := by
  subst hk
  have hns : (d.puts ((l.map fun x => C.pieces d.k x.Data.2).flatten ++ C.pieces d.k (list d.k l))).ns = d.ns := D.puts_ns _ d
  have h1 := names_upd (d := d.puts ((l.map fun x => C.pieces d.k x.Data.2).flatten ++ C.pieces d.k (list d.k l))) (r := D.ids d.k (list d.k l)) (ids_ne d.k (list_ne d.k l)) (by rw [hns]; exact hn)
  rw [← saved_puts] at h1
  refine ⟨⟨saved_k _ _ _, saved_in hd hU _, hnd, ?_, h1.1, fun p hp => look_saved hd hc hU _ hp⟩, h1.2⟩
  rw [h1.2]
  show (if nL.1 = nL.1 then some _ else _) = _
  rw [if_pos rfl]; rfl
theorem Full.drops {d : D.T} {k : C.K} {l : List It} {U : List D.B} (h : Full d k l U) {q : List I32} (hq : ∀ i ∈ q, i ∉ needs k l) : Full (d.drops q) k l U := by
  refine ⟨by rw [D.drops_k]; exact h.dk, D.drops_in q h.into, D.drops_nd q h.nd, by rw [D.drops_ns]; exact h.ns, by unfold D.T.names; rw [D.drops_ns]; exact h.names, fun p hp => ?_⟩
  rw [D.look_drops q h.nd, if_neg (fun hm => hq _ hm (needs_sum.2 ⟨p, hp, rfl⟩))]
  exact h.has p hp
theorem sums_just {d : D.T} {k : C.K} {l : List It} (hnd : d.Nd) (h : ∀ i, d.has i = true ↔ i ∈ needs k l) : d.sums = needs k l :=
  rise_eq (D.sums_rise hnd) (needs_rise _ _) fun i => by rw [D.sums_mem]; exact h i
end S
end Go.Proofs.YtikmogfhhggafaaGreatDoor

namespace Go.Proofs.YtikmogfhhggafaaGreatDoor
open Go
section
variable [Pan] {P : Program} {E w : World} {K : Value → World → Prop} {L M : List HA} {v : Value} {t ty : TypeId} {α : Type} {C : Cd α} {s : Sl} {l : List α}

theorem pN_clr {cs : List Bool} {m c : Nat} (hS : Sat E w L) [hw : Row P t α C] [hf : Fnd (rows C s) L l M] (o : Nat) (ho : o ≤ l.length) (hm : m = l.length - o)
    (hk : ∀ w', Sat E w' (rows C s (l.take o ++ List.replicate (l.length - o) C.zero) :: M) → K (.tuple #[]) w') : pN P (oBi .clear #[t] ty cs [.slice (s.sub o C.size).a m c]) w K := by
  have hS0 := hS.fd (rows C s)
  have hsl := Row.slt (P := P) (t := t) (C := C)
  by_cases h0 : o = l.length
  · have hm0 : m = 0 := by omega
    subst hm0
    have hr : (Builtin.clear_ #[t] ty #[.slice (s.sub o C.size).a 0 c]).run P w = .ok (.tuple #[]) w := by
      cases (s.sub o C.size).a <;> simp [Builtin.clear_, run_underlying hsl.under]
    have hr2 : (oBi .clear #[t] ty cs [.slice (s.sub o C.size).a 0 c]).run P w = .ok (.value (.tuple #[])) w := run_oV_ok hr
    rw [pN_def, hr2, rN_value]
    refine hk _ ?_
    have e : l.take o ++ List.replicate (l.length - o) C.zero = l := by
      rw [h0, List.take_length, Nat.sub_self, List.replicate_zero, List.append_nil]
    rw [e]
    exact hS0
  · obtain ⟨g, hg, hc⟩ := rows_at (C := C) (s := s) hS (by omega)
    rw [sub_addr hg (by omega)]
    have hfl := C.flat_len l
    unfold rows at hS0
    rw [hg] at hS0
    obtain ⟨cur, ⟨hl, hnc, hcm, hsz, htk⟩, hS1⟩ := hS0.own_blk
    have hzf := zeroCells_flat (P := P) (t := t) (C := C) (l.length - o)
    have hus : (C.flat (List.replicate (l.length - o) C.zero)).length = (l.length - o) * C.size := by rw [C.flat_len, List.length_replicate]
    have hmul : o * C.size + (l.length - o) * C.size = l.length * C.size := by rw [← Nat.add_mul]; congr 1; omega
    have hle : l.length * C.size ≤ cur.size := by rw [hsz]; exact Nat.mul_le_mul_right _ hnc
    have hst := run_storeCells_at P g (o * C.size) C.e (C.flat (List.replicate (l.length - o) C.zero)) 0 cur w (hS1.blk_at 0 rfl) (by rw [Nat.add_zero, hus]; omega) (C.flat_one _)
    rw [Nat.add_zero] at hst
    obtain ⟨i, hi, hz, hs, hby⟩ := hsl.info
    have hzv : (zeroValue C.e).run P w = .ok (Classical.choose hw.st) w := by simp [zeroValue, typeInfo, hi, hz]
    have hmm : ∃ m', m = m' + 1 := ⟨m - 1, by omega⟩
    have hr : (Builtin.clear_ #[t] ty #[.slice (some ⟨g, o * C.size, none⟩) m c]).run P w = .ok (.tuple #[]) (w.setRow g (cur.toList.take (o * C.size) ++ C.flat (List.replicate (l.length - o) C.zero) ++ cur.toList.drop (o * C.size + (C.flat (List.replicate (l.length - o) C.zero)).length)).toArray) := by
      rw [← hm] at hzf
      obtain ⟨m', rfl⟩ := hmm
      simp only [Builtin.clear_, List.getElem?_toArray, List.getElem?_cons_zero, Sem.run_bind, run_underlying hsl.under, Result.andThen_ok, hzv, hzf]
      rw [← hm] at hst ⊢
      rw [hst]
      rfl
    have hr2 : (oBi .clear #[t] ty cs [.slice (some ⟨g, o * C.size, none⟩) m c]).run P w = .ok (.value (.tuple #[])) _ := run_oV_ok hr
    rw [pN_def, hr2, rN_value]
    refine hk _ ?_
    have hfin := (hS1.row (cur.toList.take (o * C.size) ++ C.flat (List.replicate (l.length - o) C.zero) ++ cur.toList.drop (o * C.size + (C.flat (List.replicate (l.length - o) C.zero)).length)).toArray)
    refine hfin.weaken fun hp hb => ?_
    have h3 := blk_own (n := l.length) (size := C.size) hnc hcm (cur := (cur.toList.take (o * C.size) ++ C.flat (List.replicate (l.length - o) C.zero) ++ cur.toList.drop (o * C.size + (C.flat (List.replicate (l.length - o) C.zero)).length)).toArray) (by simp only [List.size_toArray, List.length_append, List.length_take, List.length_drop, Array.length_toList, hus]; omega) hb
    have e : ((cur.toList.take (o * C.size) ++ C.flat (List.replicate (l.length - o) C.zero) ++ cur.toList.drop (o * C.size + (C.flat (List.replicate (l.length - o) C.zero)).length)).toArray).toList.take (l.length * C.size) = C.flat (l.take o ++ List.replicate (l.length - o) C.zero) := by
      rw [C.flat_append, ← C.flat_take, ← htk]
      rw [List.toList_toArray]
      have h5 : (cur.toList.take (o * C.size) ++ C.flat (List.replicate (l.length - o) C.zero)).length = l.length * C.size := by
        rw [List.length_append, List.length_take, hus, Array.length_toList]; omega
      rw [List.take_append_of_le_length (by omega), List.take_of_length_le (by omega), List.take_take, Nat.min_eq_left (by omega)]
    rw [e] at h3
    have h6 : (l.take o ++ List.replicate (l.length - o) C.zero).length = l.length := by rw [List.length_append, List.length_take, List.length_replicate]; omega
    unfold rows
    rw [h6, hg]
    exact h3
omit [Pan] in
theorem Sat.cut (hS : Sat E w (rows C s l :: M)) (k : Nat) (h0 : 0 < k) (hk : k ≤ l.length) : Sat E w (rows C s (l.take k) :: M) := by
  refine hS.weaken fun h ⟨hl, ho⟩ => ?_
  have h1 : (l.take k).length = k := by rw [List.length_take]; omega
  rcases ho with ⟨_, h2⟩ | ⟨g, cap, cur, hv, hg, hn, hm, hsz, ht⟩
  · omega
  · have hv1 : s.a = some ⟨g, 0, none⟩ := by injection hv
    have hv2 : s.c = cap := by injection hv
    refine ⟨by rw [C.flat_len], .inr ⟨g, cap, cur, by rw [hv1, hv2], hg, by omega, hm, hsz, ?_⟩⟩
    rw [h1, ← C.flat_take, ← ht, List.take_take, Nat.min_eq_left (Nat.mul_le_mul_right _ hk)]
end
end Go.Proofs.YtikmogfhhggafaaGreatDoor

namespace Go.Proofs.YtikmogfhhggafaaGreatDoor
open Go
section
variable [Pan] {P : Program} {J : Value → Prop} {t : TypeId} {xo yo : Operand} {a b : I32}
theorem pA_eql_id [h : A32 P t] (ht : a = b → J (.bool true)) (hf : ¬ a = b → J (.bool false)) : pA P (oBin .eql t xo yo (.agg (bvs a.l).toArray) (.agg (bvs b.l).toArray)) J := by
  refine pA_of (v := .bool (decide (a = b))) (fun w => run_eql_id w) ?_
  by_cases e : a = b
  · rw [decide_eq_true e]; exact ht e
  · rw [decide_eq_false e]; exact hf e
end
theorem Addr.add_none (a : Addr) : a.add 0 = a := by unfold Addr.add; simp
theorem Sl.sub_zero (s : Sl) (n : Nat) : s.sub 0 n = s := by
  unfold Sl.sub
  obtain ⟨a, c⟩ := s
  cases a with
  | none => simp
  | some a => simp [Addr.add_none]
attribute [local irreducible] oMv oV oU oCall oCallV oBi oBin oUn oLoad oStore oNil oFld oField oIdx oIndex oPick oAlloc oBox oBuild oBs oConv oMk oSl oExt oFn oIface oMap oLook oMapUp oRange oNext oEntry oInv oAssert oPanic oRes pN pA pL pDr pIf gA pGd Calls S.comp
section
variable [Pan] {E w W : World} {K Q : Value → World → Prop} {LL M N N' : List HA} {s : Sl} {c : T_api_Config} {db : Nat} {d : D.T}

set_option maxHeartbeats 4000000 in
theorem Compact_ok {l : List I32} (hS : Sat E w (rows (cdI 58) s l :: M)) (hl : l.length ≤ 1099511627776) (hQ : ∀ w, Sat E w (rows (cdI 58) s (S.comp l) :: M) → Q (.slice s.a (S.comp l).length s.c) w) :
    Calls Tryz.prog 69 #[.slice s.a l.length s.c] w (retP Q) := by
  refine slices_Compact___api_ID_api_ID_.calls ?_
  unfold slices_Compact___api_ID_api_ID_.F
  by_cases h2 : l.length < 2
  · have hc : S.comp l = l := by
      match l, h2 with
      | [], _ => exact S.comp_nil
      | [x], _ => exact (S.comp_at [] x).trans (by rw [S.comp_nil]; rfl)
    rw [hc] at hQ
    repeat' (first | (refine pN_lss_s ?_ ?_ <;> intro hc <;> try (exfalso; omega)) | refine pIf_t ?_ | refine pN_v (hk := ?_) | fail)
    exact hQ _ hS
  repeat' (first | (refine pN_lss_s ?_ ?_ <;> intro hc <;> try (exfalso; omega)) | refine pIf_f ?_ | refine pN_v (hk := ?_) | fail)
  refine ⟨fun v w => ∃ k : Nat, v = .int .i64 k ∧ 1 ≤ k ∧ k ≤ l.length ∧ S.comp (l.take k) = l.take k ∧ Sat E w (rows (cdI 58) s l :: M), fun v _ => l.length - (RowKit.intOf v).toNat, ⟨1, rfl, by omega, by omega, ?_, hS⟩, ?_⟩
  · obtain ⟨x0, hx0⟩ : ∃ x, l[0]? = some x := ⟨l[0], List.getElem?_eq_getElem _⟩
    have h1 : l.take (0 + 1) = l.take 0 ++ [x0] := by rw [List.take_add_one, hx0]; rfl
    rw [List.take_zero, List.nil_append] at h1
    have h3 := S.comp_at [] x0
    rw [S.comp_nil] at h3
    show S.comp (l.take (0 + 1)) = l.take (0 + 1)
    rw [h1]
    exact h3
  clear hS
  rintro _ _ w ⟨k, rfl, hk1, hk, hcp, hS⟩
  by_cases hlt : k < l.length
  · obtain ⟨x, hx⟩ : ∃ x, l[k]? = some x := ⟨l[k], List.getElem?_eq_getElem _⟩
    obtain ⟨y, hy⟩ : ∃ y, l[k - 1]? = some y := ⟨l[k - 1], List.getElem?_eq_getElem _⟩
    have htk : l.take (k + 1) = l.take k ++ [x] := by rw [List.take_add_one, hx]; rfl
    have hlast : (l.take k).getLast? = some y := by
      rw [List.getLast?_eq_getElem?, List.length_take, Nat.min_eq_left hk, List.getElem?_take_of_lt (by omega)]
      exact hy
    have hnx := S.comp_at (l.take k) x
    rw [← htk, hlast, hcp] at hnx
    repeat' (first | refine pA_ixk hS k (by omega) (by omega) hx fun ad ha hel => ?_ | refine pA_ixk hS (k - 1) (by omega) (by omega) hy fun ad ha hel => ?_ | refine pL_ld_at ha hS (i32n _) ?_ | (refine pN_lss_s ?_ ?_ <;> intro hc <;> try (exfalso; omega)) | refine pIf_t ?_ | (refine pDr_go hS ?_; clear hS; intro w hS) | refine pN_v (hk := ?_) | refine pA_v (hk := ?_) | fail)
    refine pA_eql_id (a := x) (b := y) (fun hxy => ?_) fun hxy => ?_
    rotate_left 1
    · rw [if_neg (fun e => hxy (Option.some.inj e).symm)] at hnx
      repeat' (first | refine pIf_f ?_ | refine pN_v (hk := ?_) | fail)
      exact ⟨⟨k + 1, rfl, by omega, by omega, by rw [hnx, htk], hS⟩, by simp [RowKit.intOf] <;> omega⟩
    rw [if_pos (by rw [hxy])] at hnx
    refine pIf_t ?_
    refine pN_sl_l (Row.slt (C := cdI 58)) (hS.rds (C := cdI 58) (s := s)) (by omega) (by omega) ?_
    rw [Int.toNat_natCast, subV_sl]
    refine ⟨fun v v' w => ∃ (k3 k2 : Nat) (R : List I32), v = .int .i64 k3 ∧ v' = .int .i64 k2 ∧ 1 ≤ k2 ∧ k + k2 ≤ l.length ∧ k3 + 1 ≤ k + k2 ∧ 1 ≤ k3 ∧ R.length = l.length ∧ R.take k3 = S.comp (l.take (k + k2)) ∧ R.drop (k + k2 - 1) = l.drop (k + k2 - 1) ∧ Sat E w (rows (cdI 58) s R :: M), fun _ v _ => l.length - (RowKit.intOf v).toNat,
      ⟨k, 1, l, rfl, rfl, Nat.le_refl _, hlt, by omega, hk1, rfl, hnx.symm, rfl, hS⟩, ?_⟩
    clear hS
    rintro _ _ _ w ⟨k3, k2, R, rfl, rfl, h21, hkk, h3k, h31, hRl, hRt, hRd, hS⟩
    have hkl : k ≤ R.length := by omega
    haveI hsub : Rds (cdI 58) (rows (cdI 58) s R :: M) (s.sub k (cdI 58).size) (R.drop k) := by
      have := Rds.sub (C := cdI 58) (L := rows (cdI 58) s R :: M) (s := s) (l := R) k R.length hkl (Nat.le_refl _)
      rwa [List.take_of_length_le (by simp)] at this
    have hdl : (R.drop k).length = l.length - k := by rw [List.length_drop, hRl]
    by_cases hlt2 : k + k2 < l.length
    · obtain ⟨u, hu⟩ : ∃ u, l[k + k2]? = some u := ⟨l[k + k2], List.getElem?_eq_getElem _⟩
      obtain ⟨v, hv⟩ : ∃ v, l[k + k2 - 1]? = some v := ⟨l[k + k2 - 1], List.getElem?_eq_getElem _⟩
      have hdr : ∀ j, k + k2 - 1 ≤ j → R[j]? = l[j]? := fun j hj => by
        have h1 : (R.drop (k + k2 - 1))[j - (k + k2 - 1)]? = (l.drop (k + k2 - 1))[j - (k + k2 - 1)]? := by rw [hRd]
        rw [List.getElem?_drop, List.getElem?_drop] at h1
        have e : k + k2 - 1 + (j - (k + k2 - 1)) = j := by omega
        rw [e] at h1
        exact h1
      have hu' : (R.drop k)[k2]? = some u := by rw [List.getElem?_drop, hdr _ (by omega), hu]
      have hv' : (R.drop k)[k2 - 1]? = some v := by
        rw [List.getElem?_drop, hdr _ (by omega)]
        have e : k + (k2 - 1) = k + k2 - 1 := by omega
        rw [e, hv]
      have htk2 : l.take (k + (k2 + 1)) = l.take (k + k2) ++ [u] := by
        rw [← Nat.add_assoc, List.take_add_one, hu]; rfl
      have hlast2 : (l.take (k + k2)).getLast? = some v := by
        rw [List.getLast?_eq_getElem?, List.length_take, Nat.min_eq_left hkk, List.getElem?_take_of_lt (by omega)]
        exact hv
      have hnx2 := S.comp_at (l.take (k + k2)) u
      rw [← htk2, hlast2] at hnx2
      have hdr2 : R.drop (k + (k2 + 1) - 1) = l.drop (k + (k2 + 1) - 1) := by
        have h1 := congrArg (List.drop 1) hRd
        rw [List.drop_drop, List.drop_drop] at h1
        have e : k + k2 - 1 + 1 = k + (k2 + 1) - 1 := by omega
        rw [e] at h1
        exact h1
      rw [← hdl]
      repeat' (first | (refine pN_lss_s ?_ ?_ <;> intro hc <;> try (exfalso; omega)) | refine pIf_t ?_ | refine pN_v (hk := ?_) | fail)
      refine ⟨fun v w => ∃ (k3' : Nat) (R' : List I32), v = .int .i64 k3' ∧ k3' + 1 ≤ k + (k2 + 1) ∧ 1 ≤ k3' ∧ R'.length = l.length ∧ R'.take k3' = S.comp (l.take (k + (k2 + 1))) ∧ R'.drop (k + (k2 + 1) - 1) = l.drop (k + (k2 + 1) - 1) ∧ Sat E w (rows (cdI 58) s R' :: M), ?_, ?_⟩
      · repeat' (first | refine pA_ixk hS k2 (by omega) (by omega) hu' fun ad ha hel => ?_ | refine pA_ixk hS (k2 - 1) (by omega) (by omega) hv' fun ad ha hel => ?_ | refine pL_ld_at ha hS (i32n _) ?_ | (refine pDr_go hS ?_; clear hS; intro w hS) | refine pA_v (hk := ?_) | fail)
        refine pA_neq_id (a := u) (b := v) (fun huv => ?_) fun huv => ?_
        · rw [if_pos (by rw [huv])] at hnx2
          repeat' (first | refine pIf_f ?_ | fail)
          exact ⟨k3, R, rfl, by omega, h31, hRl, by rw [hnx2]; exact hRt, hdr2, hS⟩
        · rw [if_neg (fun e => huv (Option.some.inj e).symm)] at hnx2
          have hk3 : k3 < R.length := by omega
          obtain ⟨z, hz⟩ : ∃ z, R[k3]? = some z := ⟨R[k3], List.getElem?_eq_getElem _⟩
          repeat' (first | refine pN_ixk hS k2 (by omega) (by omega) hu' fun ad ha hel => ?_ | refine pN_ld_at ha hS (i32n _) ?_ | refine pN_ixk (s := s) (l := R) hS k3 (by omega) (by omega) hz fun ad ha hel => ?_ | (refine pN_srn (x := u) hel hS (by rfl) (by rfl) (by omega) ?_; clear hS; intro w hS) | refine pIf_t ?_ | refine pN_v (hk := ?_) | fail)
          refine ⟨k3 + 1, R.set k3 u, rfl, by omega, by omega, by rw [List.length_set]; exact hRl, ?_, ?_, hS⟩
          · rw [hnx2, ← hRt, List.take_add_one, List.getElem?_set_self (by omega), List.take_set_of_le (Nat.le_refl _)]
            rfl
          · rw [List.drop_set_of_lt (by omega)]
            exact hdr2
      · clear hS hsub
        rintro _ _ w ⟨k3', R', rfl, q1, q2, q3, q4, q5, hS⟩
        repeat' (first | refine pN_v (hk := ?_) | fail)
        exact ⟨⟨k3', k2 + 1, R', rfl, rfl, by omega, by omega, q1, q2, q3, q4, q5, hS⟩, by simp [RowKit.intOf] <;> omega⟩
    · have hke : k + k2 = l.length := by omega
      rw [hke, List.take_length] at hRt
      have hk3l : k3 ≤ R.length := by omega
      rw [← hdl]
      repeat' (first | (refine pN_lss_s ?_ ?_ <;> intro hc <;> try (exfalso; omega)) | refine pIf_f ?_ | refine pN_v (hk := ?_) | fail)
      rw [← hRl]
      refine pN_sl_l (Row.slt (C := cdI 58)) (hS.rds (C := cdI 58) (s := s)) (by omega) (by omega) ?_
      rw [Int.toNat_natCast, subV_sl]
      refine pN_clr (C := cdI 58) (s := s) (l := R) hS k3 hk3l rfl ?_
      clear hS hsub
      intro w hS
      have hzl : (R.take k3 ++ List.replicate (R.length - k3) (cdI 58).zero).length = R.length := by rw [List.length_append, List.length_take, List.length_replicate]; omega
      have hzt : (R.take k3 ++ List.replicate (R.length - k3) (cdI 58).zero).take k3 = S.comp l := by
        rw [List.take_append_of_le_length (by rw [List.length_take]; omega), List.take_take, Nat.min_self, hRt]
      generalize R.take k3 ++ List.replicate (R.length - k3) (cdI 58).zero = Z at *
      rw [← hzl]
      refine pN_sl_h (Row.slt (C := cdI 58)) (hS.rds (C := cdI 58) (s := s)) (by omega) (by omega) ?_
      rw [Int.toNat_natCast, subV_sl, Sl.sub_zero, Nat.sub_zero]
      have hS := hS.cut k3 (by omega) (by omega)
      rw [hzt] at hS
      have hcl : (S.comp l).length = k3 := by rw [← hzt, List.length_take]; omega
      rw [hcl] at hQ
      exact hQ _ hS
  · obtain rfl : k = l.length := by omega
    rw [List.take_length] at hcp
    rw [hcp] at hQ
    repeat' (first | (refine pN_lss_s ?_ ?_ <;> intro hc <;> try (exfalso; omega)) | refine pIf_f ?_ | refine pN_v (hk := ?_) | fail)
    exact hQ _ hS

theorem order_enters : ∀ args w, (callFunc 67 args).run Tryz.prog w = .ok (.enter 67 args) w := enters_of Tryz.func67 (by kernel_rfl) rfl
set_option maxHeartbeats 2000000 in
theorem Needs_ok (hS : Sat E w LL) [hf : Fnd (Dep c db) LL d N] (n : NKey) {es : List L.En} {root : List I32} (ht : S.Tells d n.1 es root) (hbl : ∀ q, d.get root = some q → q.length ≤ 1099511627776) (hal : (S.allsOf root es).length ≤ 1099511627776) (hel : es.length ≤ 1099511627776)
    (hQ : ∀ s w, Sat E w (rows (cdI 58) s (S.needsOf root es) :: Dep c db d :: N) → Q (.tuple #[.slice s.a (S.needsOf root es).length s.c, .int .i64 0]) w) :
    Calls Tryz.prog 17 #[.pointer (some ⟨db, 0, none⟩), nke n] w (retP Q) := by
  refine snap_Needs.calls ?_
  unfold snap_Needs.F
  have hrl : root.length ≤ 1099511627776 := by
    have : (S.allsOf root es).length = root.length + ((es.map (·.sums)).flatten).length := by unfold S.allsOf; rw [List.length_append]
    omega
  refine pc_snap_listed (slisted_ok (c := c) hS n ht hrl hbl ?_)
  clear hS
  intro ee se sr w hee hba hS
  have hell : ee.length = es.length := by rw [← hee, List.length_map]
  have hal2 := S.alls_le root es
  repeat' (first | (refine pc_slices_Clone___api_ID_api_ID_ (SCloneI_ok (s := sr) (li := root) hS hrl ?_); clear hS; intro s2 w hS) | (refine pN_neq_s ?_ ?_ <;> intro hc <;> try (exfalso; first | omega | exact hc rfl | exact hc (by assumption) | exact absurd hc (by assumption))) | refine pIf_f ?_ | refine pN_v (hk := ?_) | fail)
  refine ⟨fun v v' w => ∃ (j : Nat) (so : Sl), v = .slice so.a (S.allsOf root (es.take j)).length so.c ∧ v' = .int .i64 j ∧ j ≤ ee.length ∧
    Sat E w (rows (cdI 58) so (S.allsOf root (es.take j)) :: rows cdE se ee :: bag (eeR ee) :: Dep c db d :: N), fun _ v _ => ee.length - (RowKit.intOf v).toNat,
    ⟨0, s2, ?_, rfl, by omega, ?_⟩, ?_⟩
  · have e : S.allsOf root (es.take 0) = root := by unfold S.allsOf; simp
    rw [e]
  · have e : S.allsOf root (es.take 0) = root := by unfold S.allsOf; simp
    rw [e]
    exact hS.to
  clear hS
  rintro _ _ _ w ⟨j, so, rfl, rfl, hj, hS⟩
  have hb1 := hal2 j
  by_cases hlt : j < ee.length
  · obtain ⟨p, hp⟩ : ∃ p, ee[j]? = some p := ⟨ee[j], List.getElem?_eq_getElem _⟩
    have hm := List.mem_of_getElem? hp
    have hes : es[j]? = some (enOf p) := by rw [← hee, List.getElem?_map, hp]; rfl
    have hnx := S.alls_take (r := root) hes
    have hb2 := hal2 (j + 1)
    rw [hnx, List.length_append] at hb2
    have hsm : (enOf p).sums = p.2.2 := rfl
    rw [hsm] at hnx hb2
    haveI : RdP (cdI 58) (bag (eeR ee)) p.2.1 p.2.2 := eeR_rd hm
    generalize S.allsOf root (es.take j) = A0 at *
    repeat' (first | (refine pN_lss_s ?_ ?_ <;> intro hc <;> try (exfalso; omega)) | refine pIf_t ?_ | refine pN_l hS (by first | rfl | assumption) ?_ | refine pN_ld_at ha hS (by rfl) ?_ | (refine pN_sa hS (by rfl) (by rfl) (by rfl) ?_; clear hS; intro w hS; try dsimp only at hS) | (refine pN_nz hS ?_; clear hS; intro a w hS) | refine pN_ixk hS _ (by first | rfl | (exact (Int.toNat_of_nonneg (by omega)).symm)) (by first | rfl | omega | simpa only [go_sem] using True.intro | (simp only [go_sem]; omega)) (by assumption) fun a ha hel => ?_ | (refine pN_app hS (by first | rfl | omega | simpa only [go_sem] using True.intro | (simp only [go_sem]; omega)) (by first | rfl | omega | simpa only [go_sem] using True.intro | (simp only [go_sem]; omega)) (by first | omega | (simp only [go_sem]; omega)) ?_; clear hS; intro s w hS) | refine pN_v (hk := ?_) | fail)
    exact ⟨⟨j + 1, s, by rw [hnx], rfl, by omega, by rw [hnx]; exact hS.to⟩, by simp [RowKit.intOf] <;> omega⟩
  · obtain rfl : j = ee.length := by omega
    rw [hell, List.take_length] at hS ⊢
    have hnl : S.needsOf root es = S.comp (S.sortI (S.allsOf root es)) := rfl
    rw [hnl] at hQ
    have hsl : (S.sortI (S.allsOf root es)).length = (S.allsOf root es).length := (S.sortI_perm _).length_eq
    generalize S.allsOf root es = A1 at *
    have hS1 : Sat E w (rows (cdI 58) so A1 :: Dep c db d :: N) := hS.to
    repeat' (first | (refine pN_lss_s ?_ ?_ <;> intro hc <;> try (exfalso; omega)) | refine pIf_f ?_ | fail)
    refine pc_slices_SortFunc___api_ID_api_ID_ (SortI_ok _ order_enters cmpAt_needs hS1 (by omega) ?_)
    clear hS hS1
    intro w hS
    rw [← hsl]
    generalize S.sortI A1 = A2 at *
    refine pc_slices_Compact___api_ID_api_ID_ (Compact_ok hS (by omega) ?_)
    clear hS
    intro w hS
    exact hQ so _ hS
end
end Go.Proofs.YtikmogfhhggafaaGreatDoor

namespace Go.Proofs.YtikmogfhhggafaaGreatDoor
open Go
theorem rds_el {t : TypeId} {L : List HA} {s : Sl} {l : List I32} {i : I32} {ad : Addr} (ha : EA (cdI t) s l ad (bvs i.l)) [h : Rds (cdI t) L s l] : Rds cd_uint8 L ⟨some ad, 32⟩ i.l := ⟨fun E w hS => by
  have h1 := ha.at_ E w L h hS
  refine ⟨by rw [cd_uint8.flat_len], some ad, 32, by rw [i.h], by rw [i.h]; exact Nat.le_refl _, fun h => (by cases h), fun a ha2 j u hu => ?_⟩
  cases ha2
  rw [cd_uint8.flat_single bv (fun _ => rfl)] at hu
  exact h1 j u hu⟩
attribute [local irreducible] oMv oV oU oCall oCallV oBi oBin oUn oLoad oStore oNil oFld oField oIdx oIndex oPick oAlloc oBox oBuild oBs oConv oMk oSl oExt oFn oIface oMap oLook oMapUp oRange oNext oEntry oInv oAssert oPanic oRes pN pA pL pDr pIf gA pGd Calls
section
variable [Pan] {E w W : World} {K Q : Value → World → Prop} {LL M N N' : List HA} {c : T_api_Config} {db : Nat} {d : D.T}

theorem slisted_no (hS : Sat E w LL) [hf : Fnd (Dep c db) LL d N] (n : NKey) {root : List I32} (hr : D.look d.ns n.1 = some root) (hrl : root.length ≤ 1099511627776) (hb : ∀ j q, d.get (root.take j) = some q → q.length ≤ 140737488355328) (hg : d.get root = none)
    (hQ : ∀ w, Sat E w (Dep c db d :: N) → Q (.tuple #[.slice none 0 0, .slice none 0 0, .int .i64 1]) w) :
    Calls Tryz.prog 61 #[.pointer (some ⟨db, 0, none⟩), nke n] w (retP Q) := by
  refine snap_listed.calls ?_
  unfold snap_listed.F
  refine pc_depot_Depot_Root (DRoot_ok (c := c) hS n (fun q hq => by rw [hr] at hq; cases hq; exact hrl) (fun hno => by rw [hr] at hno; cases hno) fun q hq => ?_)
  rw [hr] at hq
  cases hq
  clear hS
  intro sr w hS
  repeat' (first | (refine pc_depot_Depot_Get (DGet_ok (c := c) (s := sr) (li := root) hS hrl hb (fun _ => ?_) (fun q hq => by rw [hg] at hq; cases hq)); clear hS; intro w hS) | (refine pN_neq_s ?_ ?_ <;> intro hc <;> try (exfalso; first | omega | exact hc rfl | exact hc (by assumption) | exact absurd hc (by assumption))) | refine pIf_t ?_ | refine pIf_f ?_ | refine pN_v (hk := ?_) | fail)
  exact hQ _ hS.to
theorem item_no (p : EE) (hp : p.1 = S.bare (enOf p)) (hS : Sat E w LL) [hf : Fnd (Dep c db) LL d N] [hr : Rds (cdI 58) N p.2.1 p.2.2] (hl : p.2.2.length ≤ 1099511627776) (hk : p.1.Kind = 0) (hg : d.get p.2.2 = none) (hb : ∀ j q, d.get (p.2.2.take j) = some q → q.length ≤ 140737488355328)
    (hQ : ∀ w, Sat E w (Dep c db d :: N) → Q (.tuple #[.agg #[.string ⟨#[]⟩, .string ⟨#[]⟩, .int .i64 0, .int .i64 0, .int .i64 0, .slice none 0 0], .int .i64 1]) w) :
    Calls Tryz.prog 71 #[.pointer (some ⟨db, 0, none⟩), .agg (cdE.enc p).toArray] w (retP Q) := by
  refine snap_item.calls ?_
  unfold snap_item.F
  obtain ⟨x, sx, li⟩ := p
  dsimp only at hk hr hl hg hb
  have hp : x = ⟨x.Name, x.Link, x.Kind, x.Mode, x.Time, (⟨none, 0⟩, [])⟩ := hp
  obtain ⟨nm, lk, kd, md, tm, dt⟩ := x
  obtain rfl : dt = (⟨none, 0⟩, []) := by injection hp
  dsimp only at hk
  have hS1 := hS.fd (Dep c db)
  clear hS hf hp
  have hS := hS1
  clear hS1
  refine pN_bx (z := cdE.enc ((⟨nm, lk, kd, md, tm, (⟨none, 0⟩, [])⟩ : T_api_Item), (sx, li))) hS rfl ?_
  clear hS
  intro eb w hS
  repeat' (first | (refine pN_nz hS ?_; clear hS; intro a w hS) | refine pN_v (hk := ?_) | fail)
  revert a
  intro x4 hS
  refine pN_la_at (n := 6) hS [.string ⟨nm.toArray⟩, .string ⟨lk.toArray⟩, .int .i64 kd, .int .i64 md, .int .i64 tm, .slice none 0 0] rfl rfl ?_
  repeat' (first | (refine pc_depot_Depot_Get (DGet_ok (c := c) (s := sx) (li := li) hS hl hb (fun _ => ?_) (fun q hq => by rw [hg] at hq; cases hq)); clear hS; intro w hS) | refine pL_ra (n := 6) hS rfl ?_ | (refine pN_neq_s ?_ ?_ <;> intro hc <;> try (exfalso; first | omega | exact hc rfl | exact hc (by assumption) | exact absurd hc (by assumption))) | refine pIf_t ?_ | refine pIf_f ?_ | refine pN_l hS (by first | rfl | assumption) ?_ | (refine pN_sa hS (by rfl) (by rfl) (by rfl) ?_; clear hS; intro w hS; try dsimp only at hS) | (refine pN_nz hS ?_; clear hS; intro a w hS) | refine pN_v (hk := ?_) | fail)
  exact hQ _ hS.to

structure Cut1 (d : D.T) (es : List L.En) : Prop where
  len : ∀ e ∈ es, e.sums.length ≤ 1099511627776
  pre : ∀ e ∈ es, ∀ j q, d.get (e.sums.take j) = some q → q.length ≤ 140737488355328
  no : ∃ e ∈ es, e.kind = 0 ∧ d.get e.sums = none
set_option maxHeartbeats 2000000 in
theorem Items_no (hS : Sat E w LL) [hf : Fnd (Dep c db) LL d N] (n : NKey) {es : List L.En} {root : List I32} (ht : S.Tells d n.1 es root) (hrl : root.length ≤ 1099511627776) (hbl : ∀ q, d.get root = some q → q.length ≤ 1099511627776) (hel : es.length ≤ 1099511627776)
    (hct : Cut1 d es) (hQ : ∀ w, Sat E w (Dep c db d :: N) → Q (.tuple #[.slice none 0 0, .int .i64 1]) w) :
    Calls Tryz.prog 24 #[.pointer (some ⟨db, 0, none⟩), nke n] w (retP Q) := by
  refine snap_Items.calls ?_
  unfold snap_Items.F
  refine pc_snap_listed (slisted_ok (c := c) hS n ht hrl hbl ?_)
  clear hS
  intro ee se sr w hee hba hS
  have hell : ee.length = es.length := by rw [← hee, List.length_map]
  repeat' (first | (refine pN_neq_s ?_ ?_ <;> intro hc <;> try (exfalso; first | omega | exact hc rfl | exact hc (by assumption) | exact absurd hc (by assumption))) | refine pIf_f ?_ | refine pN_v (hk := ?_) | fail)
  refine ⟨fun v v' w => ∃ (j : Nat) (outs : List T_api_Item) (so : Sl), v = .slice so.a outs.length so.c ∧ v' = .int .i64 j ∧ j ≤ ee.length ∧ outs.length = j ∧ (∀ e ∈ es.take j, e.kind = 0 → d.get e.sums ≠ none) ∧
    Sat E w (rows cd_api_Item so outs :: Dep c db d :: rows cdE se ee :: bag (eeR ee) :: N), fun _ v _ => ee.length - (RowKit.intOf v).toNat,
    ⟨0, [], ⟨none, 0⟩, rfl, rfl, by omega, rfl, fun e he => by simp at he, ?_⟩, ?_⟩
  · have h8 : Sat E w (rows cd_api_Item ⟨none, 0⟩ [] :: _) := hS.nil cd_api_Item.e cd_api_Item.size
    exact h8.to
  clear hS
  rintro _ _ _ w ⟨j, outs, so, rfl, rfl, hj, hol, hno, hS⟩
  by_cases hlt : j < ee.length
  · obtain ⟨p, hp⟩ : ∃ p, ee[j]? = some p := ⟨ee[j], List.getElem?_eq_getElem _⟩
    have hm := List.mem_of_getElem? hp
    have hes : es[j]? = some (enOf p) := by rw [← hee, List.getElem?_map, hp]; rfl
    have hem := List.mem_of_getElem? hes
    have hb := hba p hm
    haveI : RdP (cdI 58) (bag (eeR ee)) p.2.1 p.2.2 := eeR_rd hm
    have hl1 : p.2.2.length ≤ 1099511627776 := hct.len _ hem
    have hp1 : ∀ j q, d.get (p.2.2.take j) = some q → q.length ≤ 140737488355328 := hct.pre _ hem
    have hfin : ∀ (so : Sl) (x : T_api_Item) w, (p.1.Kind = 0 → d.get p.2.2 ≠ none) → Sat E w (rows cd_api_Item so (outs ++ [x]) :: Dep c db d :: rows cdE se ee :: bag (eeR ee) :: N) → ∃ (j' : Nat) (outs' : List T_api_Item) (so' : Sl), Value.slice so.a (outs ++ [x]).length so.c = .slice so'.a outs'.length so'.c ∧ Value.int .i64 ((j : Int) + 1) = .int .i64 j' ∧ j' ≤ ee.length ∧ outs'.length = j' ∧ (∀ e ∈ es.take j', e.kind = 0 → d.get e.sums ≠ none) ∧
        Sat E w (rows cd_api_Item so' outs' :: Dep c db d :: rows cdE se ee :: bag (eeR ee) :: N) := fun so x w hk hS => by
      refine ⟨j + 1, outs ++ [x], so, rfl, rfl, hlt, by rw [List.length_append, hol]; rfl, fun e he => ?_, hS⟩
      rw [List.take_add_one, hes] at he
      rcases List.mem_append.1 he with he | he
      · exact hno e he
      · obtain rfl : e = enOf p := by simpa using he
        exact hk
    by_cases hk : p.1.Kind = 0
    · cases hg : d.get p.2.2 with
      | none =>
        repeat' (first | (refine pc_snap_item (item_no (c := c) (d := d) p hb hS hl1 hk hg hp1 ?_); clear hS; intro w hS) | (refine pN_lss_s ?_ ?_ <;> intro hc <;> try (exfalso; omega)) | (refine pN_neq_s ?_ ?_ <;> intro hc <;> try (exfalso; first | omega | exact hc rfl | exact hc (by assumption) | exact absurd hc (by assumption))) | refine pIf_t ?_ | refine pN_ld_at ha hS (by rfl) ?_ | refine pN_la hS (by rfl) ?_ | (refine pN_sa hS (by rfl) (by rfl) (by rfl) ?_; clear hS; intro w hS; try dsimp only at hS) | (refine pN_nz hS ?_; clear hS; intro a w hS) | refine pN_ixk hS _ (by first | rfl | (exact (Int.toNat_of_nonneg (by omega)).symm)) (by first | rfl | omega | simpa only [go_sem] using True.intro | (simp only [go_sem]; omega)) (by assumption) fun a ha hel => ?_ | refine pN_v (hk := ?_) | fail)
        exact hQ _ hS.to
      | some bs =>
        have hbs : bs.length ≤ 140737488355328 := hp1 p.2.2.length bs (by rw [List.take_length]; exact hg)
        repeat' (first | (refine pc_snap_item (item_ok (c := c) (d := d) p hb hS hl1 (bs := bs) (fun _ => hg) (fun h => absurd hk h) hbs ?_); clear hS; intro si w hS) | (refine pN_lss_s ?_ ?_ <;> intro hc <;> try (exfalso; omega)) | (refine pN_neq_s ?_ ?_ <;> intro hc <;> try (exfalso; first | omega | exact hc rfl | exact hc (by assumption) | exact absurd hc (by assumption))) | refine pIf_t ?_ | refine pIf_f ?_ | refine pN_ld_at ha hS (by rfl) ?_ | refine pN_la hS (by rfl) ?_ | (refine pN_sa hS (by rfl) (by rfl) (by rfl) ?_; clear hS; intro w hS; try dsimp only at hS) | (refine pN_nz hS ?_; clear hS; intro a w hS) | refine pN_ixk hS _ (by first | rfl | (exact (Int.toNat_of_nonneg (by omega)).symm)) (by first | rfl | omega | simpa only [go_sem] using True.intro | (simp only [go_sem]; omega)) (by assumption) fun a ha hel => ?_ | (refine pN_b1 hS (by rfl) (by decide) ?_; clear hS; intro s w hS) | (refine pN_app hS (by first | rfl | omega | simpa only [go_sem] using True.intro | (simp only [go_sem]; omega)) (by first | rfl | omega | simpa only [go_sem] using True.intro | (simp only [go_sem]; omega)) (by first | omega | (simp only [go_sem]; omega)) ?_; clear hS; intro s w hS) | refine pN_v (hk := ?_) | fail)
        exact ⟨hfin _ _ _ (fun _ => by rw [hg]; simp) hS.to, by simp [RowKit.intOf] <;> omega⟩
    · repeat' (first | (refine pc_snap_item (item_ok (c := c) (d := d) p hb hS hl1 (bs := []) (fun h => absurd h hk) (fun _ => rfl) (Nat.zero_le _) ?_); clear hS; intro si w hS) | (refine pN_lss_s ?_ ?_ <;> intro hc <;> try (exfalso; omega)) | (refine pN_neq_s ?_ ?_ <;> intro hc <;> try (exfalso; first | omega | exact hc rfl | exact hc (by assumption) | exact absurd hc (by assumption))) | refine pIf_t ?_ | refine pIf_f ?_ | refine pN_ld_at ha hS (by rfl) ?_ | refine pN_la hS (by rfl) ?_ | (refine pN_sa hS (by rfl) (by rfl) (by rfl) ?_; clear hS; intro w hS; try dsimp only at hS) | (refine pN_nz hS ?_; clear hS; intro a w hS) | refine pN_ixk hS _ (by first | rfl | (exact (Int.toNat_of_nonneg (by omega)).symm)) (by first | rfl | omega | simpa only [go_sem] using True.intro | (simp only [go_sem]; omega)) (by assumption) fun a ha hel => ?_ | (refine pN_b1 hS (by rfl) (by decide) ?_; clear hS; intro s w hS) | (refine pN_app hS (by first | rfl | omega | simpa only [go_sem] using True.intro | (simp only [go_sem]; omega)) (by first | rfl | omega | simpa only [go_sem] using True.intro | (simp only [go_sem]; omega)) (by first | omega | (simp only [go_sem]; omega)) ?_; clear hS; intro s w hS) | refine pN_v (hk := ?_) | fail)
      exact ⟨hfin _ _ _ (fun h => absurd h hk) hS.to, by simp [RowKit.intOf] <;> omega⟩
  · obtain rfl : j = ee.length := by omega
    rw [hell, List.take_length] at hno
    obtain ⟨e, he, hk, hg⟩ := hct.no
    exact absurd hg (hno e he hk)
theorem Items_cut (hS : Sat E w LL) [hf : Fnd (Dep c db) LL d N] (n : NKey) {root : List I32} (hr : D.look d.ns n.1 = some root) (hrl : root.length ≤ 1099511627776) (hb : ∀ j q, d.get (root.take j) = some q → q.length ≤ 140737488355328) (hg : d.get root = none)
    (hQ : ∀ w, Sat E w (Dep c db d :: N) → Q (.tuple #[.slice none 0 0, .int .i64 1]) w) :
    Calls Tryz.prog 24 #[.pointer (some ⟨db, 0, none⟩), nke n] w (retP Q) := by
  refine snap_Items.calls ?_
  unfold snap_Items.F
  refine pc_snap_listed (slisted_no (c := c) hS n hr hrl hb hg ?_)
  clear hS
  intro w hS
  repeat' (first | (refine pN_neq_s ?_ ?_ <;> intro hc <;> try (exfalso; first | omega | exact hc rfl | exact hc (by assumption) | exact absurd hc (by assumption))) | refine pIf_t ?_ | refine pN_v (hk := ?_) | fail)
  exact hQ _ hS
theorem Needs_cut (hS : Sat E w LL) [hf : Fnd (Dep c db) LL d N] (n : NKey) {root : List I32} (hr : D.look d.ns n.1 = some root) (hrl : root.length ≤ 1099511627776) (hb : ∀ j q, d.get (root.take j) = some q → q.length ≤ 140737488355328) (hg : d.get root = none)
    (hQ : ∀ w, Sat E w (Dep c db d :: N) → Q (.tuple #[.slice none 0 0, .int .i64 1]) w) :
    Calls Tryz.prog 17 #[.pointer (some ⟨db, 0, none⟩), nke n] w (retP Q) := by
  refine snap_Needs.calls ?_
  unfold snap_Needs.F
  refine pc_snap_listed (slisted_no (c := c) hS n hr hrl hb hg ?_)
  clear hS
  intro w hS
  repeat' (first | (refine pN_neq_s ?_ ?_ <;> intro hc <;> try (exfalso; first | omega | exact hc rfl | exact hc (by assumption) | exact absurd hc (by assumption))) | refine pIf_t ?_ | refine pN_v (hk := ?_) | fail)
  exact hQ _ hS
end
end Go.Proofs.YtikmogfhhggafaaGreatDoor

namespace Go.Proofs.YtikmogfhhggafaaGreatDoor
open Go

theorem laid_get {P : Program} {W : World} : ∀ {l : List (String × DataW Unit)} {ps : List MemPlace} {n : String} {d : DataW Unit}, DataW.LaidVars P W l ps → (n, d) ∈ l →
    ∃ g t cs fuel p, P.globalNamed n = some g ∧ (P.globals[g]?).map (·.type) = some t ∧ W.var? P n = some cs ∧ DataW.trod (fun _ => ()) P W 0 (fun _ => true) false fuel t cs.toList = some (d, p)
  | [], _, _, _, _, h => by cases h
  | (n0, d0) :: r, ps, n, d, ⟨g, t, cs, fuel, p, q, h1, h2, h3, h4, h5, _⟩, h => by
    rcases List.mem_cons.1 h with e | h
    · cases e; exact ⟨g, t, cs, fuel, p, h1, h2, h3, h4⟩
    · exact laid_get h5 h

theorem laid_ks {kd : IntKind} {W : World} {l : List (String × DataW Unit)} {ps : List MemPlace} (hl : DataW.LaidVars Tryz.prog W l ps) {n : String} {g t e m : Nat} (zs : List Int) (hm : (n, DataW.agg (zs.map fun z => .lit (.int kd z))) ∈ l)
    (hg : Tryz.prog.globalNamed n = some g) (ht : (Tryz.prog.globals[g]?).map (·.type) = some t) (hu : Tryz.prog.underlying t = some (.array m e)) (hc : Tryz.prog.cellsOf e = 1) (he : Tryz.prog.underlying e = some (.int kd)) (i : Nat) (z : Int) (hi : i < m) (hz : zs[i]? = some z) : W.cell? ⟨g, i, none⟩ = some (.int kd z) := by
  obtain ⟨g', t', cs, fuel, p, hg', ht', hv, hd⟩ := laid_get hl hm
  obtain rfl := Option.some.inj (hg.symm.trans hg')
  obtain rfl := Option.some.inj (ht.symm.trans ht')
  obtain ⟨xs, k, _, ex, _, hln, hel⟩ := DataW.trod_array hu hd
  have hE := hel i hi
  have hlt : i < zs.length := (List.getElem?_eq_some_iff.1 hz).1
  have e3 : (xs.map (·.1)) = zs.map fun z => .lit (.int kd z) := (DataW.agg.inj (Prod.mk.inj ex).1).symm
  have hxl : xs.length = zs.length := by have := congrArg List.length e3; simpa using this
  rw [hc, Nat.mul_one, List.getElem?_eq_getElem (by omega)] at hE
  obtain ⟨y, e1, e2, _⟩ := DataW.trod_int he hE
  have e4 : (xs.map (·.1))[i]? = (zs.map fun z => (DataW.lit (.int kd z) : DataW Unit))[i]? := by rw [e3]
  rw [List.getElem?_map, List.getElem?_map, List.getElem?_eq_getElem (by omega : i < xs.length), hz, e2] at e4
  simp only [Option.map_some, Option.some.injEq, DataW.lit.injEq, Lit.int.injEq, true_and] at e4
  subst e4
  rw [World.var?_cell hg hv i]
  have h0 : ((cs.toList.drop i).take 1)[0]? = some (.int kd y) := by rw [e1]; rfl
  have : cs.toList[i]? = some (.int kd y) := by simpa using h0
  simpa using this

theorem glo_of_laid {W : World} {l : List (String × DataW Unit)} (h : laidMetH Tryz.prog l W) (hp : (l.filter fun x => x.2.handleName?.isSome) = []) (m1 : ("pith/sha.first", Rows.laid_pith_sha_first) ∈ l) (m2 : ("pith/sha.rounds", Rows.laid_pith_sha_rounds) ∈ l)
    (m3 : ("pith/varint.bounds", Rows.laid_pith_varint_bounds) ∈ l) : GloS W := by
  unfold laidMetH at h
  rw [hp] at h
  obtain ⟨ps, hv, _⟩ := h
  refine ⟨fun i hi => ?_, fun i hi => ?_, fun i u hu => ?_⟩
  · have hz : (H.first.map fun x => (x.toNat : Int))[i]? = some ((H.nth H.first i).toNat : Int) := by
      have hl : i < H.first.length := hi
      rw [List.getElem?_map, List.getElem?_eq_getElem hl, H.nth, List.getD_eq_getElem?_getD, List.getElem?_eq_getElem hl]; rfl
    exact laid_ks (kd := .u32) hv (H.first.map fun x => (x.toNat : Int)) m1 (by kernel_rfl) (by kernel_rfl) Tryz.underlying214 (by kernel_rfl) Tryz.underlying213 i _ hi hz
  · have hz : (H.consts.map fun x => (x.toNat : Int))[i]? = some ((H.nth H.consts i).toNat : Int) := by
      have hl : i < H.consts.length := hi
      rw [List.getElem?_map, List.getElem?_eq_getElem hl, H.nth, List.getD_eq_getElem?_getD, List.getElem?_eq_getElem hl]; rfl
    exact laid_ks (kd := .u32) hv (H.consts.map fun x => (x.toNat : Int)) m2 (by kernel_rfl) (by kernel_rfl) Tryz.underlying257 (by kernel_rfl) Tryz.underlying213 i _ hi hz
  · have hu2 : ∃ z : Int, u = .int .u64 z ∧ ([128, 16384, 2097152, 268435456, 34359738368, 4398046511104, 562949953421312, 72057594037927936, 9223372036854775808] : List Int)[i]? = some z := by
      have e : bndV = ([128, 16384, 2097152, 268435456, 34359738368, 4398046511104, 562949953421312, 72057594037927936, 9223372036854775808] : List Int).map (Value.int .u64) := rfl
      rw [e, List.getElem?_map] at hu
      obtain ⟨z, hz, hzu⟩ := Option.map_eq_some_iff.1 hu
      exact ⟨z, hzu.symm, hz⟩
    obtain ⟨z, rfl, hz⟩ := hu2
    have hi : i < 9 := (List.getElem?_eq_some_iff.1 hz).1
    exact laid_ks (kd := .u64) hv _ m3 (by kernel_rfl) (by kernel_rfl) Tryz.underlying290 (by kernel_rfl) Tryz.underlying212 i z hi hz
end Go.Proofs.YtikmogfhhggafaaGreatDoor

namespace Go.Proofs.YtikmogfhhggafaaGreatDoor
open Go
namespace S
theorem puts_ps_len : ∀ (l : List D.B) (d : D.T), (d.puts l).ps.length ≤ d.ps.length + l.length
  | [], d => Nat.le_refl _
  | p :: l, d => by
    have h1 := puts_ps_len l (d.put1 p)
    have h2 : (d.put1 p).ps.length ≤ d.ps.length + 1 := by
      unfold D.T.put1
      split
      · omega
      · have : ∀ (m : List (I32 × D.B)) (i : I32) (v : D.B), (D.upd m i v).length ≤ m.length + 1 := by
          intro m i v
          induction m with
          | nil => exact Nat.le_refl _
          | cons x m ih =>
            obtain ⟨a, u⟩ := x
            rw [D.upd]
            split
            · simp
            · simp only [List.length_cons]; omega
        exact this _ _ _
    show ((d.put1 p).puts l).ps.length ≤ _
    rw [List.length_cons]
    omega
theorem datas_16 {k : C.K} (hk : k.legal) : ∀ (l : List It), (∀ x ∈ l, x.Data.2.length ≤ 1048576) → ((l.map fun x => C.pieces k x.Data.2).flatten).length ≤ l.length * 16384
  | [], _ => Nat.zero_le _
  | x :: l, h => by
    have ih := datas_16 hk l fun y hy => h y (List.mem_cons_of_mem _ hy)
    have h1 := C.pieces_64 hk x.Data.2
    have h2 := h x List.mem_cons_self
    rw [List.map_cons, List.flatten_cons, List.length_append, List.length_cons, Nat.add_mul]
    omega
theorem need_len {k : C.K} {l : List It} (hi : Items1 k l) (hll : (list k l).length ≤ 1099511627776) : (need k l).length ≤ 34359738368 + 1 := by
  have h1 := datas_16 hi.k l fun x hx => (hi.ok x hx).2.1
  have h2 := C.pieces_64 hi.k (list k l)
  have h3 : l.length * 16384 ≤ 1048576 * 16384 := Nat.mul_le_mul_right _ hi.len
  unfold need
  rw [List.length_append]
  omega
theorem alls_len {k : C.K} {l : List It} (hi : Items1 k l) (hll : (list k l).length ≤ 1099511627776) : (allsOf (rootOf k l) (l.map (en k))).length ≤ 1099511627776 := by
  have h0 := need_len hi hll
  have h1 : (allsOf (rootOf k l) (l.map (en k))).length = (need k l).length := by
    have e : allsOf (rootOf k l) (l.map (en k)) = (need k l).map H.sum := by
      unfold allsOf rootOf need
      rw [List.map_append, List.map_map]
      congr 1
      rw [List.map_flatten, List.map_map]
      rfl
    rw [e, List.length_map]
  omega
theorem pre_le {d e : D.T} (hs : ∀ i v, D.look e.ps i = some v → D.look d.ps i = some v) {l : List I32} {b : D.B} (h : d.get l = some b) (j : Nat) (q : D.B) (hq : e.get (l.take j) = some q) : q.length ≤ b.length := by
  have hup : ∀ (m : List I32) (q : D.B), e.get m = some q → d.get m = some q := by
    intro m
    induction m with
    | nil => intro q h; exact h
    | cons i m ih =>
      intro q h
      rw [D.T.get] at h ⊢
      cases e1 : D.look e.ps i with
      | none => rw [e1] at h; cases h
      | some v =>
        rw [e1] at h
        rw [hs i v e1]
        cases e2 : e.get m with
        | none => simp only [e2] at h; cases h
        | some r =>
          simp only [e2] at h
          simp only [ih r e2]
          exact h
  exact D.get_pre h (hup _ q hq)
theorem drops_app (d : D.T) (l m : List I32) : d.drops (l ++ m) = (d.drops l).drops m := List.foldl_append ..
def outOf (V Sm : List I32) (j : Nat) : List I32 := (Sm.take j).filter fun i => decide (i ∉ V)
theorem out_0 (V Sm : List I32) : outOf V Sm 0 = [] := by unfold outOf; rw [List.take_zero]; rfl
theorem out_in {V Sm : List I32} {j : Nat} {i : I32} (h : Sm[j]? = some i) (hi : i ∈ V) : outOf V Sm (j + 1) = outOf V Sm j := by
  unfold outOf
  rw [List.take_add_one, h, List.filter_append]
  simp [hi]
theorem out_no {V Sm : List I32} {j : Nat} {i : I32} (h : Sm[j]? = some i) (hi : i ∉ V) : outOf V Sm (j + 1) = outOf V Sm j ++ [i] := by
  unfold outOf
  rw [List.take_add_one, h, List.filter_append]
  simp [hi]
theorem out_mem {V Sm : List I32} {j : Nat} {i : I32} : i ∈ outOf V Sm j ↔ i ∈ Sm.take j ∧ i ∉ V := by
  unfold outOf
  rw [List.mem_filter, decide_eq_true_iff]
end S
def ivI (l : List (I32 × Int)) : List (I32 × Value) := l.map fun x => (x.1, .int .i64 x.2)
theorem ivI_get (l : List (I32 × Int)) (k : I32) : mget (ivI l) k = (D.look l k).map (Value.int .i64) := by
  rw [D.mget_look]
  exact D.look_map (g := id) (fun a b h => h) (Value.int .i64) l k
theorem ivI_put (l : List (I32 × Int)) (k : I32) (x : Int) : mput (ivI l) k (.int .i64 x) = ivI (D.upd l k x) := by
  rw [D.mput_upd]
  exact D.upd_map (g := id) (fun a b h => h) (Value.int .i64) l k x
theorem ivI_getD (l : List (I32 × Int)) (k : I32) : (mget (ivI l) k).getD (.int .i64 0) = .int .i64 ((D.look l k).getD 0) := by
  rw [ivI_get]
  cases D.look l k <;> rfl
theorem run_aslg {P : Program} {t : TypeId} {n : Nat} {ad : Addr} [h : Ar P t n] (h0 : 0 < n) (w : World) : (oSl t (.pointer (some ad)) none none none).run P w = .ok (.value (.slice (some ad) n n)) w := by
  obtain ⟨e, ht, hs, _⟩ := h.ex
  refine run_oV_ok ?_
  have h2 : ¬ n = 0 := by omega
  simp [Instr.sliceAt, run_underlying ht, Instr.sureAddr, Instr.sliceBounds, Instr.sliceBound, asIntOf, hs, h2, Addr.add_none]
theorem pA_aslg [Pan] {P : Program} {t : TypeId} {n : Nat} {ad : Addr} {J : Value → Prop} [h : Ar P t n] (h0 : 0 < n) (hk : J (.slice (some ad) n n)) : pA P (oSl t (.pointer (some ad)) none none none) J := ⟨_, run_aslg h0, hk⟩
attribute [local irreducible] oMv oV oU oCall oCallV oBi oBin oUn oLoad oStore oNil oFld oField oIdx oIndex oPick oAlloc oBox oBuild oBs oConv oMk oSl oExt oFn oIface oMap oLook oMapUp oRange oNext oEntry oInv oAssert oPanic oRes pN pA pL pDr pIf gA pGd Calls S.needs S.saved S.univ S.rootOf S.list S.outOf H.sum

set_option maxHeartbeats 8000000 in
theorem walk_SnapNeeds (W : World) (hG : GloS W) (x0 : T_pithlaw36_Setup) (x1 : Sl × List T_api_Item) (x2 : Int) (k0 k1 k2 : Nat)
    (h0 : x0.ok W k0)
    (h1 : RdP cd_api_Item (old W) x1.1 x1.2 ∧ x1.2.length * 80 ≤ reachBytes ∧ x1.2.length + 1 ≤ k1 ∧ ∀ c0 ∈ x1.2, ∃ k0', k0' ≤ k1 ∧ c0.ok W k0')
    (h2 : -9223372036854775808 ≤ x2 ∧ x2 < 9223372036854775808)
    (q0 : k0 ≤ 1048576) (q1 : k1 ≤ 1048576) (q2 : k2 ≤ 1048576) :
    Calls Tryz.prog 4 #[.agg x0.enc.toArray, .slice x1.1.a x1.2.length x1.1.c, .int .i64 x2] W fun e W' => e = .returned (.bool true) ∧ RowKit.Below W.heap.size W W' := by
  refine walk_end (pithlaw36_SnapNeeds.calls ?_)
  unfold pithlaw36_SnapNeeds.F
  have hS := Sat.start W
  obtain ⟨sl, l⟩ := x1
  dsimp only at h1 ⊢
  obtain ⟨hrl, _, hll, hokl⟩ := h1
  haveI := hrl
  have hdl : ∀ x ∈ l, RdP cd_uint8 (old W) x.Data.1 x.Data.2 ∧ x.Data.2.length ≤ 1048576 ∧ x.Name.length ≤ 1048576 ∧ x.Link.length ≤ 1048576 := fun x hx => by
    obtain ⟨k, hk, ⟨⟨_, _, hn, _⟩, ⟨_, _, hk2, _⟩, _, _, _, ⟨_, _, hr, _, hd, _⟩⟩⟩ := hokl x hx
    exact ⟨hr, by omega, by omega, by omega⟩
  clear hokl
  have hll : l.length ≤ 1048576 := by omega
  refine pN_bx (z := x0.enc) hS rfl ?_
  clear hS
  intro ob w hS
  by_cases hok : D.okC x0.C ∧ (kutV x0.f_K).legal
  rotate_left 1
  · repeat' (first | (refine pc_pithlaw36_begin (begin_no x0 hok hS ?_); clear hS; intro w hS) | (refine pc_pithlaw36_known (lknown_ok hG hS ?_); clear hS; intro w hS) | refine pIf_t ?_ | refine pGd_go (by rfl) ?_ | refine pGd_no (by rfl) ?_ | refine pN_la hS (by rfl) ?_ | refine pN_v (hk := ?_) | fail)
    exact ⟨rfl, hS.to⟩
  obtain ⟨hc, hk⟩ := hok
  by_cases hr1 : S.rightI l = 0
  rotate_left 1
  · repeat' (first | (refine pc_pithlaw36_begin (begin_in x0 hc hk hS ?_); clear hS; intro db w hS) | (refine pc_pithlaw36_right (lright_ok (sl := sl) (its := l) hS (fun x hx => by haveI := (hdl x hx).1; infer_instance) (fun x hx => by have := hdl x hx; omega) (by omega) ?_); clear hS; intro w hS) | (refine pc_pithlaw36_known (lknown_ok hG hS ?_); clear hS; intro w hS) | (refine pN_neq_s ?_ ?_ <;> intro hc <;> try (exfalso; first | omega | exact hc rfl | exact hc (by assumption) | exact absurd hc (by assumption))) | refine pIf_t ?_ | refine pGd_go (by rfl) ?_ | refine pGd_no (by rfl) ?_ | refine pN_la hS (by rfl) ?_ | refine pN_v (hk := ?_) | fail)
    exact ⟨rfl, hS.to⟩
  by_cases hx2 : 0 ≤ x2
  rotate_left 1
  · repeat' (first | (refine pc_pithlaw36_begin (begin_in x0 hc hk hS ?_); clear hS; intro db w hS) | (refine pc_pithlaw36_right (lright_ok (sl := sl) (its := l) hS (fun x hx => by haveI := (hdl x hx).1; infer_instance) (fun x hx => by have := hdl x hx; omega) (by omega) ?_); clear hS; intro w hS) | (refine pc_pithlaw36_known (lknown_ok hG hS ?_); clear hS; intro w hS) | (refine pN_lss_s ?_ ?_ <;> intro hc <;> try (exfalso; omega)) | (refine pN_neq_s ?_ ?_ <;> intro hc <;> try (exfalso; first | omega | exact hc rfl | exact hc (by assumption) | exact absurd hc (by assumption))) | refine pIf_t ?_ | refine pGd_go (by rfl) ?_ | refine pGd_no (by rfl) ?_ | refine pN_la hS (by rfl) ?_ | refine pN_v (hk := ?_) | fail)
    exact ⟨rfl, hS.to⟩
  obtain ⟨hwl, htl⟩ := S.right_0 hr1
  have hpm := S.sort_perm l
  have hi1 : Items1 (kutV x0.f_K) (S.sort l) := ⟨fun x hx => ⟨hwl x (hpm.mem_iff.1 hx), (hdl x (hpm.mem_iff.1 hx)).2⟩, (hpm.map _).nodup_iff.2 ((sort_nodup l).1 htl), by rw [hpm.length_eq]; exact hll, hk⟩
  have hdL : ∀ x ∈ S.sort l, RdP cd_uint8 (old W) x.Data.1 x.Data.2 := fun x hx => (hdl x (hpm.mem_iff.1 hx)).1
  have hLl : (S.list (kutV x0.f_K) (S.sort l)).length ≤ 1099511627776 := S.list_le hk (fun x hx => (hi1.ok x hx).1) (fun x hx => (hi1.ok x hx).2.1) hi1.len
  repeat' (first | (refine pc_pithlaw36_begin (begin_in x0 hc hk hS ?_); clear hS; intro db w hS) | (refine pc_pithlaw36_right (lright_ok (sl := sl) (its := l) hS (fun x hx => by haveI := (hdl x hx).1; infer_instance) (fun x hx => by have := hdl x hx; omega) (by omega) ?_); clear hS; intro w hS) | (refine pN_b1 (C := cd_sl_api_Item) (x := (sl, l)) hS rfl (by decide) ?_; clear hS; intro sq w hS) | (refine pN_lss_s ?_ ?_ <;> intro hc <;> try (exfalso; omega)) | (refine pN_neq_s ?_ ?_ <;> intro hc <;> try (exfalso; first | omega | exact hc rfl | exact hc (by assumption) | exact absurd hc (by assumption))) | refine pGd_go (by rfl) ?_ | refine pN_la hS (by rfl) ?_ | refine pN_v (hk := ?_) | fail)
  refine pc_pithlaw36_collide (collide_ok (ll := [(sl, l)]) x0 hk hG hS (Nat.le_of_ble_eq_true rfl) (fun p hp => ?_) (fun w hS => ?_) fun hnc w hS => ?_)
  · obtain rfl := List.mem_singleton.1 hp
    exact ⟨by show Rds cd_api_Item _ sl l; infer_instance, hll, hr1, hLl, fun x hx => ⟨by haveI := (hdl x hx).1; infer_instance, (hdl x hx).2⟩⟩
  · repeat' (first | (refine pc_pithlaw36_known (lknown_ok hG hS ?_); clear hS; intro w hS) | refine pIf_t ?_ | refine pGd_go (by rfl) ?_ | refine pN_v (hk := ?_) | fail)
    exact ⟨rfl, hS.to⟩
  have hnc : D.NC (S.univ (kutV x0.f_K) [l]) := hnc
  have hU := S.need_univ (k := kutV x0.f_K) (ls := [l]) (l := l) List.mem_cons_self
  have hUo := S.loose_univ hk [l]
  have hrs := S.rise_of (S.sort_up l) htl
  generalize kutV x0.f_K = k at *
  generalize S.univ k [l] = U at *
  have hS : Sat W w [Dep x0.C db (D.new k), old W] := hS.to
  repeat' (first | refine pIf_f ?_ | refine pN_v (hk := ?_) | fail)
  refine pN_bl (C := cd_uint8) (S.loose.map bv) S.loose rfl rfl rfl (Nat.succ_pos _) hS (Nat.le_of_ble_eq_true rfl) ?_
  clear hS
  intro so w hS
  refine pN_mks (C := cd_uint8) (s := so) (l := S.loose) hS (Nat.succ_pos _) Tryz.underlying5 rfl ?_
  clear hS
  intro w hS
  refine pc_depot_Depot_Put (DPut_ok (c := x0.C) (d := D.new k) hG hk hS (Nat.le_of_ble_eq_true rfl) ?_)
  clear hS
  intro sp w hS
  obtain ⟨d1, hd1⟩ : ∃ d1, d1 = (D.new k).put S.loose := ⟨_, rfl⟩
  have hk1 : d1.k = k := by rw [hd1]; exact D.put_k _ _
  have hI1 : d1.In U := by rw [hd1]; exact S.put_in (D.in_new k U) hUo
  have hn1 : d1.ns = [] := by rw [hd1]; exact D.put_ns _ _
  have hp1 : d1.ps.length ≤ 1 := by
    rw [hd1]
    refine Nat.le_trans (S.puts_ps_len (C.pieces k S.loose) (D.new k)) ?_
    have h34 : (S.loose.length : Int) < k.least := by
      have h2 : S.loose.length = 34 := rfl
      have := hk.1
      omega
    rw [C.pieces_one (by decide) h34]
    exact Nat.le_refl _
  have hS : Sat W w [Dep x0.C db d1, old W] := by rw [hd1]; exact hS.to
  clear hd1 hUo
  obtain ⟨d2, hd2⟩ : ∃ d2, d2 = S.saved d1 S.nL.1 (S.sort l) := ⟨_, rfl⟩
  have hsv : S.save d1 S.nL.1 l = (0, d2) := by rw [hd2]; exact S.save_0 (by decide) hr1
  have hk1l : d1.k.legal := by rw [hk1]; exact hk
  have hl1 : (S.list d1.k (S.sort l)).length ≤ 1099511627776 := by rw [hk1]; exact hLl
  refine pc_snap_Save (Save_ok (c := x0.C) (d := d1) (its := l) (sl := sl) (n := S.nL) hG hk1l hS (by decide) (fun x hx => by haveI := (hdl x hx).1; infer_instance) (fun x hx => by have := hdl x hx; omega) (by omega) hl1 ?_)
  rw [hsv]
  clear hS
  intro w hS
  dsimp only at hS ⊢
  have hnd2 : d2.Nd := Dep.nd hS
  obtain ⟨hF, hns2⟩ := S.saved_full (d := d1) (l := S.sort l) hk1 hI1 (.inl hn1) hnc hU (by rw [← hd2]; exact hnd2)
  rw [← hd2] at hF hns2
  have hp2 : d2.ps.length ≤ 1099511627776 := by
    have h1 := S.need_len hi1 hLl
    rw [hd2, S.saved_puts]
    show (D.T.puts _ _).ps.length ≤ _
    refine Nat.le_trans (S.puts_ps_len _ d1) ?_
    have h3 : ((S.sort l).map fun x => C.pieces d1.k x.Data.2).flatten.length + (C.pieces d1.k (S.list d1.k (S.sort l))).length = (S.need k (S.sort l)).length := by
      rw [hk1]
      unfold S.need
      rw [List.length_append]; omega
    rw [List.length_append, h3]
    omega
  clear hsv hd2 hl1 hk1l
  generalize hLe : S.sort l = L at *
  have hT := hF.told hi1 hrs hLl
  have hVn := S.needs_ne k L
  have hVr : (S.needs k L).Pairwise fun x y => S.lessI x y = true := by rw [← S.needs_eq]; exact S.needs_rise _ _
  have hVh : ∀ i ∈ S.needs k L, d2.has i = true := fun i hi => hF.needs_has hi
  have hVl : (S.needs k L).length ≤ 1099511627776 := by rw [← S.needs_eq]; exact Nat.le_trans (S.needs_len _ _) (S.alls_len hi1 hLl)
  have hal := S.alls_len hi1 hLl
  have hVe : S.needsOf (S.rootOf k L) (L.map (S.en k)) = S.needs k L := S.needs_eq k L
  have helL : (L.map (S.en k)).length ≤ 1099511627776 := by rw [List.length_map]; have := hi1.len; omega
  have hVs := fun i => S.needs_sum (k := k) (l := L) (i := i)
  have hVi := fun i => S.needs_in (k := k) (l := L) (i := i)
  have hdr := fun q => hF.drops (q := q)
  have hju := fun d hd => S.sums_just (d := d) (k := k) (l := L) hd
  have hV0 : 0 < (S.needs k L).length := List.length_pos_iff.2 hVn
  generalize S.needs k L = V at *
  repeat' (first | (refine pc_pithlaw36_num (Lnum_ok _ ?_)) | (refine pc_snap_Needs (Needs_ok (c := x0.C) hS S.nL hT.t hT.bl hal helL ?_); rw [hVe]; clear hS; intro sv w hS) | (refine pN_mkm hS idV ?_; clear hS; intro nm w hS) | ((first | refine pN_eql_s ?_ ?_ | refine pN_neq_s ?_ ?_) <;> intro hc <;> try (exfalso; first | omega | exact hc rfl | exact hc (by assumption) | exact absurd hc (by assumption))) | refine pIf_f ?_ | refine pGd_go (by rfl) ?_ | refine pN_v (hk := ?_) | fail)
  have h8 : Sat W w (mp idV nm [] :: rows (cdI 58) sv V :: Dep x0.C db d2 :: [old W]) := hS.to
  refine ⟨fun v w => ∃ (j : Nat) (t : List (I32 × Int)), v = .int .i64 j ∧ j ≤ V.length ∧ (∀ i, D.look t i ≠ none ↔ i ∈ V.take j) ∧ (∀ i n, D.look t i = some n → n ≠ 0) ∧ Sat W w (mp idV nm (ivI t) :: rows (cdI 58) sv V :: Dep x0.C db d2 :: [old W]), fun v _ => V.length - (RowKit.intOf v).toNat, ⟨0, [], rfl, by omega, fun i => by simp [D.look], fun i n h => (by cases h), h8⟩, ?_⟩
  clear hS h8
  rintro _ _ w ⟨j, t, rfl, hj, ht1, ht2, hS⟩
  by_cases hlt : j < V.length
  · obtain ⟨i, hi⟩ : ∃ i, V[j]? = some i := ⟨V[j], List.getElem?_eq_getElem _⟩
    have hhi := hVh i (List.mem_of_getElem? hi)
    have hnx : ∀ i', D.look (D.upd t i ((j : Int) + 1)) i' ≠ none ↔ i' ∈ V.take (j + 1) := fun i' => by
      rw [List.take_add_one, hi]
      by_cases e : i = i'
      · subst e; rw [D.look_upd_same]; simp
      · rw [D.look_upd_other _ _ _ _ e, ht1, List.mem_append]
        constructor
        · exact .inl
        · rintro (h | h)
          · exact h
          · exact absurd (by simpa using h : i' = i).symm e
    have hnx2 : ∀ i' n, D.look (D.upd t i ((j : Int) + 1)) i' = some n → n ≠ 0 := fun i' n h => by
      by_cases e : i = i'
      · subst e; rw [D.look_upd_same] at h; cases h; omega
      · rw [D.look_upd_other _ _ _ _ e] at h; exact ht2 i' n h
    have hfin : ∀ w, Sat W w (mp idV nm (mput (ivI t) i (.int .i64 ((j : Int) + 1))) :: rows (cdI 58) sv V :: Dep x0.C db d2 :: [old W]) → ∃ (j' : Nat) (t : List (I32 × Int)), Value.int .i64 ((j : Int) + 1) = .int .i64 j' ∧ j' ≤ V.length ∧ (∀ i, D.look t i ≠ none ↔ i ∈ V.take j') ∧ (∀ i n, D.look t i = some n → n ≠ 0) ∧ Sat W w (mp idV nm (ivI t) :: rows (cdI 58) sv V :: Dep x0.C db d2 :: [old W]) := fun w hS => by
      rw [ivI_put] at hS
      exact ⟨j + 1, _, rfl, hlt, hnx, hnx2, hS⟩
    clear hnx hnx2 ht1 ht2
    have hprev : j = 0 ∨ ∃ q, V[j - 1]? = some q ∧ (Op.bytesLess i.l q.l || i.l == q.l) = false ∧ 0 < j := by
      by_cases h0 : j = 0
      · exact .inl h0
      · obtain ⟨q, hq⟩ : ∃ q, V[j - 1]? = some q := ⟨V[j - 1]'(by omega), List.getElem?_eq_getElem _⟩
        refine .inr ⟨q, hq, ?_, by omega⟩
        obtain ⟨l1, e1⟩ := List.getElem?_eq_some_iff.1 hq
        obtain ⟨l2, e2⟩ := List.getElem?_eq_some_iff.1 hi
        have h3 := List.pairwise_iff_getElem.1 hVr (j - 1) j l1 l2 (by omega)
        rw [e1, e2] at h3
        have h3 : Op.bytesLess q.l i.l = true := h3
        have h4 : Op.bytesLess i.l q.l = false := S.less_ord.asym h3
        have h5 : i.l ≠ q.l := fun e => by rw [e, S.less_irr] at h3; cases h3
        rw [h4, Bool.false_or]
        exact beq_eq_false_iff_ne.2 h5
    rcases hprev with h0 | ⟨q, hq, hle, h0⟩
    · repeat' (first | refine pN_ixk hS j (by omega) (by omega) hi fun ad ha hel => ?_ | refine pN_ld_at ha hS (i32n i) ?_ | (refine pN_nz (t := 58) hS ?_; clear hS; intro ca w hS) | (refine pN_sid hS i (by rfl) ?_; clear hS; intro w hS) | refine pN_la_at (n := 32) hS (bvs i.l) (i32t _) (i32n _) ?_ | refine pL_la_at (n := 32) hS (bvs i.l) (i32t _) (i32n _) ?_ | (refine pN_mup (P := Tryz.prog) (t := 56) (ke := idV) (b := nm) hS i (.int .i64 ((j : Int) + 1)) ?_; clear hS; intro w hS) | (refine pc_depot_Depot_Has (DHas_ok (c := x0.C) hS i ?_); rw [hhi]; clear hS; intro w hS) | refine And.intro ?_ ?_ | exact trivial | ((first | refine pN_lss_s ?_ ?_ | refine pA_gtr_s ?_ ?_) <;> intro hc <;> try (exfalso; omega)) | refine pIf_t ?_ | refine pIf_f ?_ | refine gA_go (by rfl) ?_ | refine gA_no (by rfl) ?_ | refine pGd_go (by rfl) ?_ | (refine pDr_go hS ?_; clear hS; intro w hS) | refine pN_v (hk := ?_) | refine pA_v (hk := ?_) | fail)
      · exact hfin _ hS.to
      · simp [RowKit.intOf] <;> omega
    · repeat' (first | refine pN_ixk hS j (by omega) (by omega) hi fun ad ha hel => ?_ | refine pN_ld_at ha hS (i32n i) ?_ | (refine pN_nz (t := 58) hS ?_; clear hS; intro ca w hS) | (refine pN_sid hS i (by rfl) ?_; clear hS; intro w hS) | refine pN_la_at (n := 32) hS (bvs i.l) (i32t _) (i32n _) ?_ | refine pL_la_at (n := 32) hS (bvs i.l) (i32t _) (i32n _) ?_ | (refine pN_mup (P := Tryz.prog) (t := 56) (ke := idV) (b := nm) hS i (.int .i64 ((j : Int) + 1)) ?_; clear hS; intro w hS) | refine pA_ixk hS (j - 1) (by omega) (by omega) hq fun ad ha hel => ?_ | refine pA_aslg (n := 32) (Nat.succ_pos _) ?_ | (haveI hrc := rd_cel (b := ca) (e := 58) i.h; refine pL_st (s := ⟨some ⟨ca, 0, none⟩, 32⟩) (l := i.l) hS i.h.symm ?_) | refine pL_st (hr := rds_el ha) (s := ⟨some ad, 32⟩) (l := q.l) hS q.h.symm ?_ | (rw [pA_leq_l, hle]) | (refine pc_depot_Depot_Has (DHas_ok (c := x0.C) hS i ?_); rw [hhi]; clear hS; intro w hS) | refine And.intro ?_ ?_ | exact trivial | ((first | refine pN_lss_s ?_ ?_ | refine pA_gtr_s ?_ ?_) <;> intro hc <;> try (exfalso; omega)) | refine pIf_t ?_ | refine pIf_f ?_ | refine gA_go (by rfl) ?_ | refine pGd_go (by rfl) ?_ | (refine pDr_go hS ?_; clear hS; intro w hS) | refine pN_v (hk := ?_) | refine pA_v (hk := ?_) | fail)
      · exact hfin _ hS.to
      · simp [RowKit.intOf] <;> omega
  obtain rfl : j = V.length := by omega
  rw [List.take_length] at ht1
  clear hVh
  repeat' (first | (refine pc_depot_Depot_IDs (DIDs_ok (c := x0.C) hS hp2 ?_); clear hS; intro sd w hS) | (refine pN_lss_s ?_ ?_ <;> intro hc <;> try (exfalso; omega)) | refine pIf_f ?_ | refine pN_v (hk := ?_) | fail)
  have hSr := D.sums_rise hnd2
  have hSm := fun i => D.sums_mem (d := d2) (i := i)
  have hSl : d2.sums.length ≤ 1099511627776 := by
    have : d2.sums.length = (d2.ps.map (·.1)).length := (S.sortI_perm _).length_eq
    rw [this, List.length_map]; exact hp2
  generalize d2.sums = Sm at *
  have h9 : Sat W w (Dep x0.C db d2 :: mp idV nm (ivI t) :: rows (cdI 58) sd Sm :: rows (cdI 58) sv V :: [old W]) := hS.to
  refine ⟨fun v w => ∃ j : Nat, v = .int .i64 j ∧ j ≤ Sm.length ∧ Sat W w (Dep x0.C db (d2.drops (S.outOf V Sm j)) :: mp idV nm (ivI t) :: rows (cdI 58) sd Sm :: rows (cdI 58) sv V :: [old W]), fun v _ => Sm.length - (RowKit.intOf v).toNat, ⟨0, rfl, by omega, by rw [S.out_0]; exact h9⟩, ?_⟩
  clear hS
  rintro _ _ w ⟨j, rfl, hj2, hS⟩
  by_cases hlt2 : j < Sm.length
  · obtain ⟨i, hi⟩ : ∃ i, Sm[j]? = some i := ⟨Sm[j], List.getElem?_eq_getElem _⟩
    have hgd := ivI_getD t i
    by_cases hiV : i ∈ V
    · have hon := S.out_in hi hiV
      obtain ⟨n, hn⟩ : ∃ n, D.look t i = some n := by
        cases e : D.look t i with
        | none => exact absurd e ((ht1 i).2 hiV)
        | some n => exact ⟨n, rfl⟩
      have hn0 := ht2 i n hn
      rw [hn] at hgd
      have hgd : (mget (ivI t) i).getD (.int .i64 0) = .int .i64 n := hgd
      repeat' (first | refine pN_ixk hS j (by omega) (by omega) hi fun ad ha hel => ?_ | refine pN_ld_at ha hS (i32n i) ?_ | (refine pN_nz (t := 58) hS ?_; clear hS; intro ca w hS) | (refine pN_sid hS i (by rfl) ?_; clear hS; intro w hS) | refine pN_la_at (n := 32) hS (bvs i.l) (i32t _) (i32n _) ?_ | (refine pN_lk (P := Tryz.prog) (t := 56) (ke := idV) (b := nm) hS i ?_; rw [hgd]) | (refine pN_lss_s ?_ ?_ <;> intro hc <;> try (exfalso; omega)) | (refine pN_eql_s ?_ ?_ <;> intro hc <;> try (exfalso; first | omega | exact hc rfl | exact hc (by assumption) | exact absurd hc (by assumption))) | refine pIf_t ?_ | refine pIf_f ?_ | refine pGd_no (by rfl) ?_ | refine pN_v (hk := ?_) | fail)
      exact ⟨⟨j + 1, rfl, by omega, by rw [hon]; exact hS.to⟩, by simp [RowKit.intOf] <;> omega⟩
    · have hon := S.out_no hi hiV
      have hgd : (mget (ivI t) i).getD (.int .i64 0) = .int .i64 0 := by
        cases e : D.look t i with
        | none => rw [hgd, e]; rfl
        | some n => exact absurd ((ht1 i).1 (by rw [e]; simp)) hiV
      have hhd : (d2.drops (S.outOf V Sm j)).has i = true := by
        have h1 : d2.has i = true := (hSm i).1 (List.mem_of_getElem? hi)
        unfold D.T.has at h1 ⊢
        rw [D.look_drops _ hnd2, if_neg (fun hm => ?_)]
        · exact h1
        · have h2 := (S.out_mem.1 hm).1
          have hnd : Sm.Nodup := hSr.imp fun {a b} hh e => by rw [e, S.lessI_ord.irr] at hh; cases hh
          have h3 : Sm = Sm.take (j + 1) ++ Sm.drop (j + 1) := (List.take_append_drop _ _).symm
          rw [h3, List.take_add_one, hi] at hnd
          exact (List.nodup_append.1 (List.nodup_append.1 hnd).1).2.2 i h2 i (by simp) rfl
      have hdrp : (d2.drops (S.outOf V Sm j)).drops [i] = d2.drops (S.outOf V Sm (j + 1)) := by rw [hon, S.drops_app]
      repeat' (first | refine pN_ixk hS j (by omega) (by omega) hi fun ad ha hel => ?_ | refine pN_ld_at ha hS (i32n i) ?_ | (refine pN_nz (t := 58) hS ?_; clear hS; intro ca w hS) | (refine pN_sid hS i (by rfl) ?_; clear hS; intro w hS) | refine pN_la_at (n := 32) hS (bvs i.l) (i32t _) (i32n _) ?_ | (refine pN_lk (P := Tryz.prog) (t := 56) (ke := idV) (b := nm) hS i ?_; rw [hgd]) | (refine pN_b1 (x := i) hS rfl (by decide) ?_; clear hS; intro s3 w hS) | (refine pc_depot_Depot_Drop (DDrop_ok (c := x0.C) (s := s3) (li := [i]) hS (Nat.le_of_ble_eq_true rfl) (List.nodup_cons.2 ⟨by simp, List.nodup_nil⟩) (fun x hx => by rw [List.mem_singleton.1 hx]; exact hhd) ?_); rw [hdrp]; clear hS; intro w hS) | (refine pc_pithlaw36_num (Lnum_ok _ ?_)) | (refine pN_lss_s ?_ ?_ <;> intro hc <;> try (exfalso; omega)) | ((first | refine pN_eql_s ?_ ?_ | refine pN_neq_s ?_ ?_) <;> intro hc <;> try (exfalso; first | omega | exact hc rfl | exact hc (by assumption) | exact absurd hc (by assumption))) | refine pIf_t ?_ | refine pIf_f ?_ | refine pGd_go (by rfl) ?_ | refine pN_v (hk := ?_) | fail)
      exact ⟨⟨j + 1, rfl, by omega, hS.to⟩, by simp [RowKit.intOf] <;> omega⟩
  obtain rfl : j = Sm.length := by omega
  have hF3 := hdr (S.outOf V Sm Sm.length) fun i hi => (S.out_mem.1 hi).2
  have hs3 : (d2.drops (S.outOf V Sm Sm.length)).sums = V := hju _ hF3.nd fun i => by
    constructor
    · intro h
      unfold D.T.has at h
      rw [D.look_drops _ hnd2] at h
      split at h
      · cases h
      · rename_i hno
        by_cases hiV : i ∈ V
        · exact hiV
        · exact absurd (S.out_mem.2 ⟨by rw [List.take_length]; exact (hSm i).2 h, hiV⟩) hno
    · intro hiV
      obtain ⟨p, hp, rfl⟩ := (hVs i).1 hiV
      unfold D.T.has
      rw [hF3.has p hp]; rfl
  have hns3 : (d2.drops (S.outOf V Sm Sm.length)).ns = [(S.nL.1, S.rootOf k L)] := by rw [D.drops_ns]; exact hns2
  generalize d2.drops (S.outOf V Sm Sm.length) = d3 at *
  have hp3 : d3.ps.length ≤ 1099511627776 := by
    have : d3.sums.length = (d3.ps.map (·.1)).length := (S.sortI_perm _).length_eq
    rw [hs3, List.length_map] at this
    omega
  have hT3 := hF3.told hi1 hrs hLl
  repeat' (first | (refine pc_pithlaw36_sorted (lsorted_ok (sl := sl) (its := l) hS (by omega) (fun _ => ?_) (fun h => absurd h (by rw [hLe, htl]; decide))); rw [hLe]; clear hS; intro su w hS) | (refine pc_depot_Depot_IDs (DIDs_ok (c := x0.C) hS hp3 ?_); clear hS; intro s3 w hS) | (refine pc_pithlaw36_sameIDs (sameIDs_ok (la := d3.sums) (lb := V) (sa := s3) (sb := sv) hS (by rw [hs3]; exact hVl) ?_); rw [decide_eq_true hs3]; clear hS; intro w hS) | (refine pc_pithlaw36_holds (lholds_ok (c := x0.C) (su := su) hi1 hT3 hS (fun x hx => by haveI := hdL x hx; infer_instance) ?_); clear hS; intro w hS) | (refine pN_lss_s ?_ ?_ <;> intro hc <;> try (exfalso; omega)) | refine pIf_f ?_ | refine pGd_go (by rfl) ?_ | refine pN_v (hk := ?_) | fail)
  obtain ⟨m, hm1, hm2⟩ : ∃ m : Nat, x2 % (V.length : Int) = m ∧ m < V.length := ⟨x2.toNat % V.length, by
    obtain ⟨a, rfl⟩ := Int.eq_ofNat_of_zero_le hx2
    rw [Int.toNat_natCast]; rfl, Nat.mod_lt _ hV0⟩
  obtain ⟨n0, hn0⟩ : ∃ n0, V[m]? = some n0 := ⟨V[m], List.getElem?_eq_getElem _⟩
  have hnV := List.mem_of_getElem? hn0
  have hh0 : ∀ x ∈ [n0], d3.has x = true := fun x hx => by
    rw [List.mem_singleton.1 hx]
    obtain ⟨p, hp, rfl⟩ := (hVs n0).1 hnV
    unfold D.T.has
    rw [hF3.has p hp]; rfl
  have hlk4 := fun i => D.look_drops [n0] hF3.nd i
  have hk4 : (d3.drops [n0]).k = k := by rw [D.drops_k]; exact hF3.dk
  have hI4 := D.drops_in [n0] hF3.into
  have hns4 : (d3.drops [n0]).ns = [(S.nL.1, S.rootOf k L)] := by rw [D.drops_ns]; exact hns3
  have hS : Sat W w [Dep x0.C db d3, rows cd_api_Item su L, rows (cdI 58) sv V, old W] := hS.to
  repeat' (first | refine pN_ixk hS m hm1 rfl hn0 fun ad ha hel => ?_ | refine pN_ld_at ha hS (i32n n0) ?_ | (refine pN_b1 (x := n0) hS rfl (by decide) ?_; clear hS; intro s4 w hS) | (refine pc_depot_Depot_Drop (DDrop_ok (c := x0.C) (s := s4) (li := [n0]) hS (Nat.le_of_ble_eq_true rfl) (List.nodup_cons.2 ⟨by simp, List.nodup_nil⟩) hh0 ?_); clear hS; intro w hS) | (refine pc_pithlaw36_num (Lnum_ok _ ?_)) | (refine pN_neq_s ?_ ?_ <;> intro hc <;> try (exfalso; first | omega | exact hc rfl | exact hc (by assumption) | exact absurd hc (by assumption))) | refine pIf_f ?_ | fail)
  have hS : Sat W w [Dep x0.C db (d3.drops [n0]), rows cd_api_Item su L, rows (cdI 58) sv V, old W] := hS.to
  generalize d3.drops [n0] = d4 at *
  have hsub : ∀ i v, D.look d4.ps i = some v → D.look d3.ps i = some v := fun i v h => by
    rw [hlk4] at h
    split at h
    · cases h
    · exact h
  have hlkr : D.look d4.ns S.nL.1 = some (S.rootOf k L) := by
    rw [hns4]
    show (if S.nL.1 = S.nL.1 then some _ else _) = _
    rw [if_pos rfl]
  have hgR3 := hF3.getR
  have hpreR : ∀ j q, d4.get ((S.rootOf k L).take j) = some q → q.length ≤ 140737488355328 := fun j q hq => by
    have := S.pre_le hsub hgR3 j q hq
    omega
  obtain ⟨d5, hd5⟩ : ∃ d5, d5 = S.saved d4 S.nL.1 L := ⟨_, rfl⟩
  have hsv4 : S.save d4 S.nL.1 l = (0, d5) := by rw [hd5, ← hLe]; exact S.save_0 (by decide) hr1
  have hk4l : d4.k.legal := by rw [hk4]; exact hk
  have hl4 : (S.list d4.k (S.sort l)).length ≤ 1099511627776 := by rw [hk4, hLe]; exact hLl
  have hfin5 : d5.Nd → S.Full d5 k L U ∧ d5.sums = V ∧ d5.ps.length ≤ 1099511627776 := fun hnd5 => by
    rw [hd5] at hnd5 ⊢
    have hF5 := (S.saved_full (d := d4) (l := L) hk4 hI4 (.inr ⟨_, hns4⟩) hnc hU hnd5).1
    have hs5 : (S.saved d4 S.nL.1 L).sums = V := hju _ hnd5 fun i => by
      rw [S.saved_has, hk4, hVs]
      constructor
      · rintro (h | h)
        · have h3 : i ∈ d3.sums := D.sums_mem.2 (by
            unfold D.T.has at h ⊢
            cases e : D.look d4.ps i with
            | none => rw [e] at h; cases h
            | some v => rw [hsub i v e]; rfl)
          rw [hs3] at h3
          exact (hVs i).1 h3
        · exact h
      · exact .inr
    refine ⟨hF5, hs5, ?_⟩
    have : (S.saved d4 S.nL.1 L).sums.length = ((S.saved d4 S.nL.1 L).ps.map (·.1)).length := (S.sortI_perm _).length_eq
    rw [hs5, List.length_map] at this
    omega
  clear hd5
  by_cases hA : n0 ∈ S.rootOf k L
  · have hgN : d4.get (S.rootOf k L) = none := S.get_none_of hA (by rw [hlk4, if_pos List.mem_cons_self])
    repeat' (first | (refine pc_pithlaw36_num (Lnum_ok _ ?_)) | (refine pc_snap_Items (Items_cut (c := x0.C) hS S.nL hlkr hT3.rl hpreR hgN ?_); clear hS; intro w hS) | (refine pc_snap_Needs (Needs_cut (c := x0.C) hS S.nL hlkr hT3.rl hpreR hgN ?_); clear hS; intro w hS) | ((first | refine pN_eql_s ?_ ?_ | refine pN_neq_s ?_ ?_) <;> intro hc <;> try (exfalso; first | omega | exact hc rfl | exact hc (by assumption) | exact absurd hc (by assumption))) | refine pIf_f ?_ | refine pGd_go (by rfl) ?_ | refine pGd_no (by rfl) ?_ | refine pN_v (hk := ?_) | fail)
    have hS : Sat W w [Dep x0.C db d4, rows cd_api_Item su L, rows (cdI 58) sv V, old W] := hS.to
    repeat' (first | (refine pc_pithlaw36_num (Lnum_ok _ ?_)) | (refine pc_snap_Save (Save_ok (c := x0.C) (d := d4) (its := l) (sl := sl) (n := S.nL) hG hk4l hS (by decide) (fun x hx => by haveI := (hdl x hx).1; infer_instance) (fun x hx => by have := hdl x hx; omega) (by omega) hl4 ?_); rw [hsv4]; clear hS; intro w hS; dsimp only at hS ⊢) | (refine pN_eql_s ?_ ?_ <;> intro hc <;> try (exfalso; first | omega | exact hc rfl | exact hc (by assumption) | exact absurd hc (by assumption))) | refine pGd_go (by rfl) ?_ | refine pN_v (hk := ?_) | fail)
    have hS : Sat W w [Dep x0.C db d5, rows cd_api_Item su L, rows (cdI 58) sv V, old W] := hS.to
    have hnd5 : d5.Nd := Dep.nd hS
    obtain ⟨hF5, hs5, hp5⟩ := hfin5 hnd5
    have hT5 := hF5.told hi1 hrs hLl
    repeat' (first | (refine pc_depot_Depot_IDs (DIDs_ok (c := x0.C) hS hp5 ?_); clear hS; intro s5 w hS) | (refine pc_pithlaw36_sameIDs (sameIDs_ok (la := d5.sums) (lb := V) (sa := s5) (sb := sv) hS (by rw [hs5]; exact hVl) ?_); rw [decide_eq_true hs5]; clear hS; intro w hS) | (refine pc_pithlaw36_holds (lholds_ok (c := x0.C) (su := su) hi1 hT5 hS (fun x hx => by haveI := hdL x hx; infer_instance) ?_); clear hS; intro w hS) | (refine pc_pithlaw36_known (lknown_ok hG hS ?_); clear hS; intro w hS) | refine pGd_go (by rfl) ?_ | refine pN_v (hk := ?_) | fail)
    exact ⟨rfl, hS.to⟩
  · have hgR4 : d4.get (S.rootOf k L) = some (S.list k L) := by
      rw [← hgR3]
      refine S.get_congr fun i hi => ?_
      rw [hlk4, if_neg (fun hm => hA (by rw [← List.mem_singleton.1 hm]; exact hi))]
    have hT4 : S.Tells d4 S.nL.1 (L.map (S.en k)) (S.rootOf k L) := by
      obtain ⟨b, hb, hr⟩ := hT3.t.get
      rw [hgR3] at hb
      exact ⟨hlkr, S.list k L, hgR4, by rw [Option.some.inj hb]; exact hr⟩
    have hbl4 : ∀ q, d4.get (S.rootOf k L) = some q → q.length ≤ 1099511627776 := fun q hq => by rw [hgR4] at hq; cases hq; exact hLl
    have hC1 : Cut1 d4 (L.map (S.en k)) := by
      refine ⟨fun e he => ?_, fun e he j q hq => ?_, ?_⟩
      · obtain ⟨x, hx, rfl⟩ := List.mem_map.1 he
        exact Nat.le_trans (S.ids_bound hk (hi1.ok x hx).2.1) (Nat.le_of_ble_eq_true rfl)
      · obtain ⟨x, hx, rfl⟩ := List.mem_map.1 he
        have h1 := S.pre_le hsub (hT3.dat x hx) j q hq
        have h2 := (hi1.ok x hx).2.1
        omega
      · rcases (hVi n0).1 hnV with h | ⟨x, hx, h⟩
        · exact absurd h hA
        · refine ⟨S.en k x, List.mem_map.2 ⟨x, hx, rfl⟩, ?_, S.get_none_of h (by rw [hlk4, if_pos List.mem_cons_self])⟩
          by_cases hk0 : x.Kind = 0
          · exact hk0
          · have := (S.fine_of (hi1.ok x hx).1).data hk0
            rw [this, S.ids_nil] at h
            cases h
    repeat' (first | (refine pc_pithlaw36_num (Lnum_ok _ ?_)) | (refine pc_snap_Items (Items_no (c := x0.C) hS S.nL hT4 hT3.rl hbl4 helL hC1 ?_); clear hS; intro w hS) | (refine pc_snap_Needs (Needs_ok (c := x0.C) hS S.nL hT4 hbl4 hal helL ?_); rw [hVe]; clear hS; intro sa w hS) | (refine pc_pithlaw36_sameIDs (sameIDs_ok (la := V) (lb := V) (sa := sa) (sb := sv) hS hVl ?_); rw [decide_eq_true rfl]; clear hS; intro w hS) | ((first | refine pN_eql_s ?_ ?_ | refine pN_neq_s ?_ ?_) <;> intro hc <;> try (exfalso; first | omega | exact hc rfl | exact hc (by assumption) | exact absurd hc (by assumption))) | refine pIf_f ?_ | refine pGd_go (by rfl) ?_ | refine pGd_no (by rfl) ?_ | refine pN_v (hk := ?_) | fail)
    have hS : Sat W w [Dep x0.C db d4, rows cd_api_Item su L, rows (cdI 58) sv V, old W] := hS.to
    repeat' (first | (refine pc_pithlaw36_num (Lnum_ok _ ?_)) | (refine pc_snap_Save (Save_ok (c := x0.C) (d := d4) (its := l) (sl := sl) (n := S.nL) hG hk4l hS (by decide) (fun x hx => by haveI := (hdl x hx).1; infer_instance) (fun x hx => by have := hdl x hx; omega) (by omega) hl4 ?_); rw [hsv4]; clear hS; intro w hS; dsimp only at hS ⊢) | (refine pN_eql_s ?_ ?_ <;> intro hc <;> try (exfalso; first | omega | exact hc rfl | exact hc (by assumption) | exact absurd hc (by assumption))) | refine pGd_go (by rfl) ?_ | refine pN_v (hk := ?_) | fail)
    have hS : Sat W w [Dep x0.C db d5, rows cd_api_Item su L, rows (cdI 58) sv V, old W] := hS.to
    have hnd5 : d5.Nd := Dep.nd hS
    obtain ⟨hF5, hs5, hp5⟩ := hfin5 hnd5
    have hT5 := hF5.told hi1 hrs hLl
    repeat' (first | (refine pc_depot_Depot_IDs (DIDs_ok (c := x0.C) hS hp5 ?_); clear hS; intro s5 w hS) | (refine pc_pithlaw36_sameIDs (sameIDs_ok (la := d5.sums) (lb := V) (sa := s5) (sb := sv) hS (by rw [hs5]; exact hVl) ?_); rw [decide_eq_true hs5]; clear hS; intro w hS) | (refine pc_pithlaw36_holds (lholds_ok (c := x0.C) (su := su) hi1 hT5 hS (fun x hx => by haveI := hdL x hx; infer_instance) ?_); clear hS; intro w hS) | (refine pc_pithlaw36_known (lknown_ok hG hS ?_); clear hS; intro w hS) | refine pGd_go (by rfl) ?_ | refine pN_v (hk := ?_) | fail)
    exact ⟨rfl, hS.to⟩
end Go.Proofs.YtikmogfhhggafaaGreatDoor
