/-
  Texts of one proof, one behind the other: Bk7, LzencBack.
-/
import Derived.Test.YtbgnnjfpiblkmaaGreatDoorMg7
set_option linter.unusedSimpArgs false
set_option linter.unnecessarySimpa false
set_option linter.unusedSectionVars false
set_option linter.unusedVariables false

namespace Go.Proofs.YtbgnnjfpiblkmaaGreatDoor
open Go
instance : DecidableEq Z.Y := fun a b => decidable_of_iff (a.Kind = b.Kind ∧ a.Byte = b.Byte ∧ a.Len = b.Len ∧ a.Dist = b.Dist) ⟨fun h => by
  obtain ⟨a1, a2, a3, a4⟩ := a
  obtain ⟨b1, b2, b3, b4⟩ := b
  obtain ⟨h1, h2, h3, h4⟩ := h
  simp only at h1 h2 h3 h4
  rw [h1, h2, h3, h4], fun h => by rw [h]; exact ⟨rfl, rfl, rfl, rfl⟩⟩
abbrev symV (y : Z.Y) : Value := .agg #[.int .i64 y.Kind, bv y.Byte, .int .i64 y.Len, .int .i64 y.Dist]
theorem eqs_sym (y z : Z.Y) (w : World) : (Op.equalIn 10000 48 (symV y) (symV z)).run Tryz.prog w = .ok (decide (y = z)) w := by
  have u3 := Tryz.underlying3
  have a3 := Tryz.isAgg3
  have z3 := Tryz.sizeOf3
  have u5 := Tryz.underlying5
  have a5 := Tryz.isAgg5
  have z5 := Tryz.sizeOf5
  have hS : Tryz.prog.underlying 48 = some (.struct (Tryz.prog.fieldsOf 48)) := by kernel_rfl
  rw [show (10000 : Nat) = 9999 + 1 from rfl, run_equalIn_agg w 9999 48 _ _ hS (by kernel_rfl)]
  simp only [Program.fieldsOf, Tryz.underlying48]
  obtain ⟨a, b, c, d⟩ := y
  obtain ⟨a', b', c', d'⟩ := z
  unfold bv
  go_simp
  by_cases h2 : b = b'
  · subst h2
    by_cases h1 : a = a' <;> by_cases h3 : c = c' <;> by_cases h4 : d = d' <;> simp [h1, h3, h4]
  · have h5 : ¬ (b.toNat : Int) = b'.toNat := fun h => h2 (UInt8.toNat_inj.1 (by omega))
    by_cases h1 : a = a' <;> by_cases h3 : c = c' <;> by_cases h4 : d = d' <;> simp [h1, h2, h3, h4, h5]
section
variable {K : Value → World → Prop} {xo yo : Operand} {w : World} {y z : Z.Y}
theorem run_neq_sym : (oBin .neq 48 xo yo (symV y) (symV z)).run Tryz.prog w = .ok (.value (.bool (!decide (y = z)))) w :=
  run_bin_of 48 xo yo (run_eqGuard_agg w _ _ _ _ _ _ (by kernel_rfl)) (by rw [run_neq_struct, eqs_sym]; rfl)
theorem pN_nes (ht : y = z → K (.bool false) w) (hf : ¬ y = z → K (.bool true) w) : pN Tryz.prog (oBin .neq 48 xo yo (symV y) (symV z)) w K := by
  rw [pN_def, run_neq_sym, rN_value]
  by_cases h : y = z
  · rw [decide_eq_true h]; exact ht h
  · rw [decide_eq_false h]; exact hf h
end

namespace Z
theorem EZ.valid_append : ∀ (a : List Y) (e : EZ) (b : List Y), e.valid (a ++ b) ↔ e.valid a ∧ (e.putV a).valid b
  | [], e, b => ⟨fun h => ⟨trivial, h⟩, fun h => h.2⟩
  | y :: a, e, b => by
    show (e.may y = 0 ∧ (e.put1 y).valid (a ++ b)) ↔ (e.may y = 0 ∧ (e.put1 y).valid a) ∧ ((e.put1 y).putV a).valid b
    rw [valid_append a (e.put1 y) b, and_assoc]
theorem EZ.putV_append : ∀ (a : List Y) (e : EZ) (b : List Y), e.putV (a ++ b) = (e.putV a).putV b
  | [], _, _ => rfl
  | y :: a, e, b => putV_append a (e.put1 y) b
theorem putV_in {b : List UInt8} {f : R.S} (hb : D.Begins b f) : ∀ (ys : List Y) {e : EZ}, e.Ok → e.valid ys → D.In (e.putV ys).s f → D.In e.s f
  | [], _, _, _, h => h
  | y :: ys, e, he, hv, h => by
    obtain ⟨hm, hv⟩ := hv
    have h1 := putV_in hb ys (he.put1 hm).1 hv h
    exact (EZ.fol hb he hm (z := ⟨_, e.T⟩) (D.Fol.at_ b f _) rfl h1).1
structure EZ.Rl (e : EZ) : Prop where
  s : 1 ≤ e.x.size
  r0 : e.st.r0 ≤ e.x.size
  r1 : e.st.r1 ≤ e.x.size
  r2 : e.st.r2 ≤ e.x.size
  r3 : e.st.r3 ≤ e.x.size
theorem EZ.Rl.new {p : Pr} {d : Int} (h : 1 ≤ d) : (EZ.new p d).Rl := ⟨h, h, h, h, h⟩
theorem EZ.Rl.put1 {e : EZ} (h : e.Rl) {y : Y} (hm : e.may y = 0) : (e.put1 y).Rl := by
  have hy := may_err hm
  obtain ⟨a, b0, b1, b2, b3⟩ := h
  have hd : y.Kind ≠ 1 → dist e.st y ≤ e.x.size := fun hk => by
    have := (may_has hm hk).2
    unfold W.full at this
    omega
  have key : ∀ s : St, s.r0 ≤ e.x.size → s.r1 ≤ e.x.size → s.r2 ≤ e.x.size → s.r3 ≤ e.x.size → s = e.st.next y → (e.put1 y).Rl := fun s h0 h1 h2 h3 hs => by
    subst hs; exact ⟨a, h0, h1, h2, h3⟩
  rcases kinds hy with hk | hk | hk | hk
  · refine key _ ?_ ?_ ?_ ?_ rfl <;> simp [St.next, hk] <;> assumption
  · refine key _ ?_ ?_ ?_ ?_ rfl <;> simp [St.next, hk] <;> assumption
  · have := hd (by omega)
    have e1 : dist e.st y = y.Dist := by rw [dist, if_pos hk]
    rw [e1] at this
    refine key _ ?_ ?_ ?_ ?_ rfl <;> simp [St.next, hk] <;> assumption
  · have h4 := err_rep hy hk
    have h4 : y.Dist = 0 ∨ y.Dist = 1 ∨ y.Dist = 2 ∨ y.Dist = 3 := by omega
    rcases h4 with h4 | h4 | h4 | h4 <;> (refine key _ ?_ ?_ ?_ ?_ rfl <;> simp [St.next, hk, h4] <;> assumption)
theorem EZ.Rl.putV : ∀ (ys : List Y) {e : EZ}, e.Rl → e.valid ys → (e.putV ys).Rl
  | [], _, h, _ => h
  | y :: ys, e, h, hv => Rl.putV ys (h.put1 hv.1) hv.2
theorem used_idem (y : Y) : used (used y) = used y := by
  unfold used
  by_cases h1 : y.Kind = 1
  · simp [h1]
  · by_cases h4 : y.Kind = 4
    · simp [h4]
    · simp [h1, h4]
end Z
attribute [local irreducible] oMv oV oU oCall oCallV oBi oBin oUn oLoad oStore oNil oFld oField oIdx oIndex oPick oAlloc oBox oBuild oBs oConv oMk oSl oExt oFn oIface oMap oLook oMapUp oRange oNext oEntry oInv oAssert oPanic oRes pN pA pL pDr pIf gA pGd Calls

section
variable {E w W : World} {M N : List HA} {Q : Value → World → Prop} {r bm : Nat} {sa s0 sw : Sl} {e : Z.EZ} {ys : List Z.Y} {dv : Value} {Nm : Key → List Int}
set_option maxRecDepth 8000 in
set_option maxHeartbeats 4000000 in
theorem qreads_ok (hG : Glo W) (he : e.Ok) (hs : e.s = R.S.new) (hv : e.valid ys) (hl : e.Rl) (hx : e.x.all.length + 273 * ys.length + 1000 ≤ 140737488355328) (hn : ys.length ≤ 1048576) (hr : Z.Rel Z.preR 1024 e.p Nm e.T)
    (hS : Sat E w (cel r ⟨79, rdrV dv e.p e.st sa e.x.all.length bm false⟩ :: rows cd_uint8 sa e.x.all :: QSets bm Nm :: rows cd_uint8 s0 (e.putV ys).s.bytes :: M)) [h : Has (old W) M N] [hw : Rds cd_api_Symbol M sw (ys.map Z.used)]
    (hQ : ∀ d sa Nm w, Z.Rel Z.preR 1024 e.p Nm (e.putV ys).T → Sat E w (cel r ⟨79, rdrC d e.p (e.putV ys).st sa (e.putV ys).x.all.length bm false⟩ :: rows cd_uint8 sa (e.putV ys).x.all :: QSets bm Nm :: M) → Q (.bool true) w) :
    Calls Tryz.prog 36 #[pz r, .slice s0.a (e.putV ys).s.bytes.length s0.c, .slice sw.a (ys.map Z.used).length sw.c] w (retP Q) := by
  refine pithlaw14_Reader_reads.calls ?_
  unfold pithlaw14_Reader_reads.F
  have ho := (Z.EZ.Ok.putV ys he hv).1
  have hok := (Z.EZ.Ok.putV ys he hv).2
  have hb := D.Begins.of ho.s []
  rw [List.append_nil] at hb
  have hself := D.In.self (f := (e.putV ys).s) (by have := ho.s.r0; omega)
  have hin := Z.putV_in hb ys he hv hself
  have hin' := hin
  rw [hs] at hin'
  obtain ⟨ds, hd1, hd2⟩ := D.Fol.start hb hin'
  rw [← hs] at hd2
  have hbl : (e.putV ys).s.bytes.length = (e.putV ys).s.k + 5 := R.digits_length _ _
  have hk0 : e.s.k = 0 := by rw [hs]; rfl
  generalize hB : (e.putV ys).s.bytes = B at *
  have hBl : B.length ≤ 225000000000000 := by omega
  have hml : (ys.map Z.used).length = ys.length := List.length_map ..
  repeat' (first | (refine pc_rcdec_New (DNew_in hS hBl hd1 ?_); clear hS; intro d w hS) | refine pc_pithlaw14_num (num14_ok _ (by omega) ?_) | (refine pN_neq_s ?_ ?_ <;> intro hc <;> try (exfalso; first | omega | exact hc rfl | exact hc (by assumption) | exact absurd hc (by assumption))) | refine pIf_f ?_ | refine pGd_go (by rfl) ?_ | (refine pN_s hS (by first | exact Nat.le_of_ble_eq_true rfl | assumption) (by rfl) ?_; clear hS; intro w hS; try simp only [List.set_cons_zero, List.set_cons_succ] at hS) | refine pN_v (hk := ?_) | fail)
  have hdo := D.start_ok hd1
  have hS := QRd.shut (p := e.p) (B := B) (z := some ⟨ds, e.T⟩) (y := ⟨ds, e.T⟩) (hS.fd2 (Dec d) (NSets PSet Z.freshR bm)) ⟨hdo.1, he.T⟩ hd2.b (fun _ h => by cases h; rfl) hr
  have hS : Sat E w (cel r ⟨79, rdrC d e.p e.st sa e.x.all.length bm false⟩ :: QRd e.p B d bm (some ⟨ds, e.T⟩) :: rows cd_uint8 sa e.x.all :: M) := hS.to
  refine ⟨fun v w => ∃ (al c : List Z.Y) (sa : Sl) (z : Z.RS), ys = al ++ c ∧ v = .int .i64 al.length ∧ D.Fol B (e.putV ys).s (e.putV al).s z.d ∧ (e.putV al).T = z.T ∧ Sat E w (cel r ⟨79, rdrC d e.p (e.putV al).st sa (e.putV al).x.all.length bm false⟩ :: QRd e.p B d bm (some z) :: rows cd_uint8 sa (e.putV al).x.all :: M), fun v _ => ys.length - (RowKit.intOf v).toNat, ⟨[], ys, sa, ⟨ds, e.T⟩, rfl, rfl, hd2, rfl, hS⟩, ?_⟩
  clear hS
  rintro _ _ w ⟨al, c, sa, z, hac, rfl, hf, hT, hS⟩
  have hva := (Z.EZ.valid_append al e c).1 (by rw [← hac]; exact hv)
  have hoa := (Z.EZ.Ok.putV al he hva.1).1
  have hla := hl.putV al hva.1
  have hpa : (e.putV al).p = e.p := Z.EZ.putV_p al e
  have hxa : (e.putV al).x.all.length ≤ e.x.all.length + 273 * al.length := by
    rw [Z.EZ.putV_x]
    have h1 := Z.EZ.outs_len al hva.1
    have h2 := Z.sizes_pos al hva.1
    simp only [List.length_append]; omega
  have hal : al.length + c.length = ys.length := by rw [hac, List.length_append]
  cases c with
  | cons y c =>
    simp only [List.length_cons] at hal
    obtain ⟨hm, hvc⟩ := hva.2
    have hin2 : D.In ((e.putV al).put1 y).s (e.putV ys).s := by
      refine Z.putV_in hb c (hoa.put1 hm).1 hvc ?_
      have : ((e.putV al).put1 y).putV c = e.putV ys := by rw [hac, Z.EZ.putV_append]; rfl
      rw [this]; exact hself
    obtain ⟨_, z', hrun, hf', hT'⟩ := Z.EZ.fol hb hoa hm hf hT hin2
    rw [hpa] at hrun
    have hwant : (ys.map Z.used)[al.length]? = some (Z.used y) := by rw [hac, List.map_append, List.getElem?_append_right (by simp)]; simp
    repeat' (first | (refine pN_nz hS ?_; clear hS; intro ay w hS) | (refine pN_lss_s ?_ ?_ <;> intro hc <;> try (exfalso; omega)) | refine pIf_t ?_ | refine pN_ld_at ha hS (by rfl) ?_ | (refine pN_sa hS (by rfl) (by rfl) (by rfl) ?_; clear hS; intro w hS; try dsimp only at hS) | refine pN_ixk hS _ (by first | rfl | (exact (Int.toNat_of_nonneg (by omega)).symm)) (by first | rfl | omega | simpa only [go_sem] using True.intro | (simp only [go_sem]; omega)) (by assumption) fun a ha hel => ?_ | fail)
    refine pc_pithlaw14_Reader_symbol (qsymbol_ok (x := (e.putV al).x) he.p hoa.st hBl (by omega) hla.s hla.r0 (z := some z) (hS.fd3 (cel r) (QRd e.p B d bm) (rows cd_uint8 sa)) fun z2 v w g hS => ?_)
    obtain ⟨rfl, rfl⟩ : z2 = some z' ∧ v = Z.used y := by
      have g : (Z.symRd e.p (e.putV al).st (e.putV al).x).run z = z2.map fun s => (s, v) := g
      rw [hrun] at g
      cases z2 with
      | none => cases g
      | some u => simp only [Option.map_some, Option.some.injEq, Prod.mk.injEq] at g; exact ⟨by rw [g.1], g.2.symm⟩
    simp only [Option.isNone_some] at hS
    have hS := Z.cel_cnv2 (t := ay) (o' := ⟨48, [.int .i64 (Z.used y).Kind, bv (Z.used y).Byte, .int .i64 (Z.used y).Len, .int .i64 (Z.used y).Dist]⟩) rfl (hS.fd (cel ay))
    repeat' (first | refine pN_nes (fun _ => ?_) (fun h => absurd rfl h) | (refine pN_nz hS ?_; clear hS; intro az w hS) | refine pIf_f ?_ | refine pGd_go (by rfl) ?_ | refine pN_l hS (by first | rfl | assumption) ?_ | refine pN_la hS (by rfl) ?_ | (refine pN_sa hS (by rfl) (by rfl) (by rfl) ?_; clear hS; intro w hS; try dsimp only at hS) | refine pN_v (hk := ?_) | fail)
    have hmu : Z.may (e.putV al).x (e.putV al).st (Z.used y) = 0 := by rw [Z.may_used]; exact hm
    refine pc_pithlaw14_Reader_apply (qapply_ok hG hoa.st hmu (Z.used_idem y) (by omega) (hS.fd2 (cel r) (rows cd_uint8 sa)) fun sb w hS => ?_)
    rw [Z.next_used, Z.made_used] at hS
    repeat' (first | refine pIf_f ?_ | refine pN_l hS (by first | rfl | assumption) ?_ | refine pN_v (hk := ?_) | fail)
    refine ⟨⟨al ++ [y], c, sb, z', by rw [hac]; simp, by simp, ?_, ?_, ?_⟩, by simp only [RowKit.intOf]; omega⟩
    · rw [Z.EZ.putV_append]; exact hf'
    · rw [Z.EZ.putV_append]; exact hT'
    · rw [Z.EZ.putV_append]
      have hS : Sat E w (cel r ⟨79, rdrC d e.p ((e.putV al).st.next y) sb ((e.putV al).x.all ++ Z.made (e.putV al).x (e.putV al).st y).length bm false⟩ :: QRd e.p B d bm (some z') :: rows cd_uint8 sb ((e.putV al).x.all ++ Z.made (e.putV al).x (e.putV al).st y) :: M) := hS.to
      exact hS
  | nil =>
    rw [List.append_nil] at hac
    subst hac
    obtain ⟨y', N', hyo, hyb, hys, hrel, hS⟩ := QRd.opn (hS.fd (QRd e.p B d bm))
    have hz := hys z rfl
    rw [← hz] at hf hT
    have hk1 : y'.d.k = y'.d.b.length := by rw [hf.k, hf.b]; omega
    have hc1 : y'.d.C = 0 := by rw [hf.C, D.seen_self, Int.sub_self]
    have hdec : decide (y'.d.k = y'.d.b.length ∧ y'.d.C = 0) = true := decide_eq_true ⟨hk1, hc1⟩
    repeat' (first | (refine pc_rcdec_Decoder_Done (Done_ok (hS.fd (Dec d)) ?_); rw [hdec]; clear hS; intro w hS) | (refine pN_lss_s ?_ ?_ <;> intro hc <;> try (exfalso; omega)) | refine pIf_f ?_ | fail)
    exact hQ d sa N' _ (by rw [hT]; exact hrel) hS.to
end
end Go.Proofs.YtbgnnjfpiblkmaaGreatDoor

namespace Go.Proofs.YtbgnnjfpiblkmaaGreatDoor
open Go
namespace Z
theorem EZ.Rl.cut {e : EZ} (h : e.Rl) : e.cut.Rl := ⟨h.s, h.r0, h.r1, h.r2, h.r3⟩
theorem EZ.Rl.raw {e : EZ} (h : e.Rl) (b : List UInt8) : (e.raw b).Rl := ⟨h.s, h.r0, h.r1, h.r2, h.r3⟩
theorem EZ.Rl.clear {e : EZ} (h : e.Rl) : e.clear.Rl := ⟨h.s, h.s, h.s, h.s, h.s⟩
theorem EZ.Rl.reset {e : EZ} (h : e.Rl) {p : Pr} (hp : p.Ok) : (e.reset p).Rl := by
  rw [EZ.reset, if_pos hp]; exact ⟨h.s, h.s, h.s, h.s, h.s⟩
theorem new_relR {p : Pr} (hp : p.Ok) : Rel preR 1024 p (fun _ => freshR) (T0 p) := Rel.new preR (by decide) hp
end Z
def Bk (W : World) (eb r : Nat) (sx : Sl) (L : List T_pithlaw14_Step) (i : Nat) (v : Value) (w : World) : Prop :=
  ∃ (e : Z.EZ) (ys : List Z.Y) (sw sa : Sl) (bm : Nat) (Nm : Key → List Int) (dv : Value), v = .slice sw.a (ys.map Z.used).length sw.c ∧ e.Ok ∧ e.s = R.S.new ∧ e.valid ys ∧ e.Rl ∧ ys.length ≤ i ∧ e.x.all.length + 273 * ys.length ≤ 1048849 * i ∧ Z.Rel Z.preR 1024 e.p Nm e.T ∧
    Sat W w [LEnc eb (e.putV ys), cel r ⟨79, rdrV dv e.p e.st sa e.x.all.length bm false⟩, rows cd_uint8 sa e.x.all, QSets bm Nm, rows cd_api_Symbol sw (ys.map Z.used), rows cd_pithlaw14_Step sx L, old W]
attribute [local irreducible] oMv oV oU oCall oCallV oBi oBin oUn oLoad oStore oNil oFld oField oIdx oIndex oPick oAlloc oBox oBuild oBs oConv oMk oSl oExt oFn oIface oMap oLook oMapUp oRange oNext oEntry oInv oAssert oPanic oRes pN pA pL pDr pIf gA pGd Calls

section
variable {E w W : World} {M N : List HA} {Q : Value → World → Prop} {b c : Nat} {e : Z.EZ}
theorem LRaw_ok {s0 : Sl} {l : List UInt8} (hS : Sat E w (LEnc b e :: M)) [hl : Rds cd_uint8 M s0 l] (hn : e.x.all.length + l.length ≤ 4611686018427387904) (hQ : ∀ w, Sat E w (LEnc b (e.raw l) :: M) → Q (.tuple #[]) w) :
    Calls Tryz.prog 24 #[pz b, .slice s0.a l.length s0.c] w (retP Q) := by
  refine lzenc_Encoder_Raw.calls ?_
  unfold lzenc_Encoder_Raw.F
  obtain ⟨he, t, wd, en, q, hS⟩ := LEnc.opn hS
  repeat' (first | (refine pc_window_Window_Put (WPut_ok (l := l) (hS.fd (Win wd)) hn ?_); clear hS; intro w hS) | refine pN_l hS (by first | rfl | assumption) ?_ | refine pN_v (hk := ?_) | fail)
  exact hQ _ (LEnc.shut (e := ⟨e.p, e.st, e.T, ⟨e.x.size, e.x.all ++ l⟩, e.s⟩) (t := t) (wd := wd) (en := en) (q := q) hS.to (he.raw l))
end

set_option maxRecDepth 8000 in
set_option maxHeartbeats 4000000 in
theorem walk_LzencBack (W : World) (hG : Glo W) (x0 : T_pithlaw14_Setup) (x1 : Sl × List T_pithlaw14_Step) (k0 k1 : Nat)
    (h0 : x0.ok W k0)
    (h1 : RdP cd_pithlaw14_Step (old W) x1.1 x1.2 ∧ x1.2.length * 96 ≤ reachBytes ∧ x1.2.length + 1 ≤ k1 ∧ ∀ c ∈ x1.2, ∃ k, k ≤ k1 ∧ c.ok W k)
    (q0 : k0 ≤ 1048576) (q1 : k1 ≤ 1048576) :
    Calls Tryz.prog 5 #[.agg x0.enc.toArray, .slice x1.1.a x1.2.length x1.1.c] W fun e W' => e = .returned (.bool true) ∧ RowKit.Below W.heap.size W W' := by
  refine walk_end (pithlaw14_LzencBack.calls ?_)
  unfold pithlaw14_LzencBack.F
  obtain ⟨r1, _, s1, g1⟩ := h1
  obtain ⟨⟨_, _, hpr⟩, hd⟩ := h0
  have hS := Sat.start W
  obtain ⟨⟨lc, lp, pb⟩, dict⟩ := x0
  have hlc := hpr.1
  dsimp only at hlc hd
  refine pN_bx (z := [.int .i64 lc, .int .i64 lp, .int .i64 pb, .int .i64 dict]) hS (by rfl) fun x9 w hS => ?_
  by_cases hok : (⟨lc, lp, pb⟩ : Z.Pr).Ok ∧ 1 ≤ dict ∧ dict ≤ 4294967295
  rotate_left 1
  · repeat' (first | refine pN_la_at (n := 3) hS [.int .i64 lc, .int .i64 lp, .int .i64 pb] rfl rfl ?_ | (refine pc_lzenc_New (LNew_no (p := ⟨lc, lp, pb⟩) hS dict hlc hok ?_); clear hS; intro w hS) | refine pc_pithlaw14_num (num14_ok _ (by split <;> omega) ?_) | (refine pc_pithlaw14_known (known14_ok hG hS ?_); clear hS; intro w hS) | (refine pN_neq_s ?_ ?_ <;> intro hc <;> try (exfalso; first | omega | exact hc rfl | exact hc (by assumption) | exact absurd hc (by assumption))) | refine pIf_t ?_ | refine pGd_go (by rfl) ?_ | refine pGd_no (by rfl) ?_ | refine pN_l hS (by first | rfl | assumption) ?_ | refine pN_v (hk := ?_) | fail)
    all_goals exact ⟨rfl, hS.to⟩
  · have hp := hok.1
    repeat' (first | refine pN_la_at (n := 3) hS [.int .i64 lc, .int .i64 lp, .int .i64 pb] rfl rfl ?_ | (refine pc_lzenc_New (LNew_in (p := ⟨lc, lp, pb⟩) hS hp dict hok.2.1 hok.2.2 ?_); clear hS; intro eb w hS) | refine pc_pithlaw14_num (num14_ok _ (by omega) ?_) | (refine pN_bx hS (by rfl) ?_; clear hS; intro rb w hS) | (refine pc_pithlaw14_Reader_begin (qbegin_ok (p := ⟨lc, lp, pb⟩) (sa := ⟨none, 0⟩) (n := 0) (hS.fd (cel rb)) ?_); clear hS; intro bm w hS) | (refine pN_b1 (x := (⟨0, 2, ⟨0, 0, 0, 0⟩, (⟨none, 0⟩, []), ⟨0, 0, 0⟩⟩ : T_pithlaw14_Step)) hS rfl (Nat.le_of_ble_eq_true rfl) ?_; clear hS; intro sc w hS) | (refine pN_neq_s ?_ ?_ <;> intro hc <;> try (exfalso; first | omega | exact hc rfl | exact hc (by assumption) | exact absurd hc (by assumption))) | refine pIf_f ?_ | refine pGd_go (by rfl) ?_ | refine pN_l hS (by first | rfl | assumption) ?_ | (refine pN_b0 hS ?_; clear hS; intro s w hS) | (refine pN_app hS (by first | rfl | omega | simpa only [go_sem] using True.intro | (simp only [go_sem]; omega)) (by first | rfl | omega | simpa only [go_sem] using True.intro | (simp only [go_sem]; omega)) (by first | omega | (simp only [go_sem]; omega)) ?_; clear hS; intro s w hS) | refine pN_v (hk := ?_) | fail)
    simp only [List.nil_append] at hS ⊢
    obtain ⟨L, hL⟩ : ∃ L, L = x1.2 ++ [(⟨0, 2, ⟨0, 0, 0, 0⟩, (⟨none, 0⟩, []), ⟨0, 0, 0⟩⟩ : T_pithlaw14_Step)] := ⟨_, rfl⟩
    rw [← hL] at hS ⊢
    have hLl : L.length = x1.2.length + 1 := by rw [hL]; simp
    have hnil : RdP cd_uint8 (old W) ⟨none, 0⟩ ([] : List UInt8) := ⟨RdA.old Rd.nil⟩
    have hLr : ∀ st ∈ L, (RdP cd_uint8 (old W) st.Raw.1 st.Raw.2 ∧ st.Raw.2.length ≤ 1048576) ∧ (-9223372036854775808 ≤ st.Props.LC ∧ st.Props.LC < 9223372036854775808) := fun st hst => by
      rw [hL] at hst
      rcases List.mem_append.1 hst with hst | hst
      · obtain ⟨kk, hkk, _, _, _, ⟨k3, hk3, hraw, _, hrl, _⟩, ⟨_, _, hpr2⟩⟩ := g1 st hst
        exact ⟨⟨hraw, by omega⟩, hpr2.1⟩
      · rw [List.mem_singleton] at hst
        subst hst
        exact ⟨⟨hnil, Nat.zero_le _⟩, by decide⟩
    have hLk : ∀ (i : Nat) (st : T_pithlaw14_Step), L[i]? = some st → st.Kind = 0 → i < x1.2.length := fun i st hst hk => by
      by_cases hi : i < x1.2.length
      · exact hi
      · rw [hL, List.getElem?_append_right (by omega)] at hst
        obtain ⟨q, hq⟩ : ∃ q, i - x1.2.length = q := ⟨_, rfl⟩
        rw [hq] at hst
        cases q with
        | zero => simp at hst; subst hst; exact absurd hk (by decide)
        | succ q => simp at hst
    have hE0 := Z.EZ.Ok.new hp dict
    have hR0 := Z.EZ.Rl.new (p := ⟨lc, lp, pb⟩) (d := dict) hok.2.1
    have hrel0 := Z.new_relR hp
    refine ⟨fun v i w => ∃ k : Nat, i = .int .i64 k ∧ k ≤ L.length ∧ Bk W eb rb s L k v w, fun _ i _ => L.length - (RowKit.intOf i).toNat, ⟨0, rfl, Nat.zero_le _, ?_⟩, ?_⟩
    · have hS : Sat W w (LEnc eb (Z.EZ.new ⟨lc, lp, pb⟩ dict) :: cel rb ⟨79, rdrV (.pointer none) ⟨lc, lp, pb⟩ Z.St.new ⟨none, 0⟩ 0 bm false⟩ :: QSets bm (fun _ => Z.freshR) :: rows cd_pithlaw14_Step s L :: [old W]) := hS.to
      have hS : Sat W w (rows cd_api_Symbol ⟨none, 0⟩ [] :: _) := hS.nil 48 4
      have hS2 : Sat W w (rows cd_uint8 ⟨none, 0⟩ [] :: _) := hS.nil 5 1
      have hS2 : Sat W w [LEnc eb (Z.EZ.new ⟨lc, lp, pb⟩ dict), cel rb ⟨79, rdrV (.pointer none) ⟨lc, lp, pb⟩ Z.St.new ⟨none, 0⟩ 0 bm false⟩, rows cd_uint8 ⟨none, 0⟩ [], QSets bm (fun _ => Z.freshR), rows cd_api_Symbol ⟨none, 0⟩ [], rows cd_pithlaw14_Step s L, old W] := hS2.to
      exact ⟨Z.EZ.new ⟨lc, lp, pb⟩ dict, [], ⟨none, 0⟩, ⟨none, 0⟩, bm, _, .pointer none, rfl, hE0, rfl, trivial, hR0, Nat.zero_le _, Nat.zero_le _, hrel0, hS2⟩
    clear hS
    rintro _ _ _ w ⟨i, rfl, hi, e, ys, sw, sa, bm, Nm, dv, rfl, he, hs, hv, hl, hyl, hxl, hrel, hS⟩
    have hml : (ys.map Z.used).length = ys.length := List.length_map ..
    have hLl2 := hLl
    by_cases hlt : i < L.length
    rotate_left 1
    · repeat' (first | (refine pc_pithlaw14_known (known14_ok hG hS ?_); clear hS; intro w hS) | (refine pN_lss_s ?_ ?_ <;> intro hc <;> try (exfalso; omega)) | refine pIf_f ?_ | fail)
      exact ⟨rfl, hS.to⟩
    obtain ⟨st, hst⟩ : ∃ st, L[i]? = some st := ⟨_, List.getElem?_eq_getElem hlt⟩
    have hst2 := hLk i st hst
    obtain ⟨⟨hraw, hrl⟩, hlc2⟩ := hLr st (List.mem_of_getElem? hst)
    obtain ⟨wh, kd, y, ⟨sr, raw⟩, ⟨lc2, lp2, pb2⟩⟩ := st
    dsimp only at hraw hrl hlc2 hst2
    have hoe := Z.EZ.Ok.putV ys he hv
    have hle := hl.putV ys hv
    have hxe : (e.putV ys).x.all.length ≤ e.x.all.length + 273 * ys.length := by
      rw [Z.EZ.putV_x]
      have h1 := Z.EZ.outs_len ys hv
      have h2 := Z.sizes_pos ys hv
      simp only [List.length_append]; omega
    have hk0 : e.s.k = 0 := by rw [hs]; rfl
    repeat' (first | (refine pN_lss_s ?_ ?_ <;> intro hc <;> try (exfalso; omega)) | refine pIf_t ?_ | fail)
    refine ⟨Bk W eb rb s L (i + 1), ?_, ?_⟩
    rotate_left 1
    · clear hS
      rintro _ _ w hB
      repeat' (first | refine pN_v (hk := ?_) | fail)
      exact ⟨⟨i + 1, rfl, hlt, hB⟩, by simp only [RowKit.intOf]; omega⟩
    refine pN_ixk hS i rfl rfl hst (fun aE haE helE => ?_)
    repeat' (first | refine pN_ld_at haE hS (by rfl) ?_ | (refine pN_nz hS ?_; clear hS; intro ax w hS) | (refine pN_sa hS (by rfl) (by rfl) (by rfl) ?_; clear hS; intro w hS; try dsimp only at hS) | fail)
    have hS := Z.cel_cnv2 (t := ax) (o' := ⟨50, [.int .i64 wh, .int .i64 kd, .int .i64 y.Kind, bv y.Byte, .int .i64 y.Len, .int .i64 y.Dist, .slice sr.a raw.length sr.c, .int .i64 lc2, .int .i64 lp2, .int .i64 pb2]⟩) rfl (hS.fd (cel ax))
    have hmv := Z.may_vals (e.putV ys) y
    refine ⟨fun v w => kd ≠ 0 ∧ v = .slice sw.a (ys.map Z.used).length sw.c ∧ Sat W w [LEnc eb (e.putV ys), cel rb ⟨79, rdrV dv e.p e.st sa e.x.all.length bm false⟩, rows cd_uint8 sa e.x.all, QSets bm Nm, rows cd_api_Symbol sw (ys.map Z.used), rows cd_pithlaw14_Step s L, cel ax ⟨50, [.int .i64 wh, .int .i64 kd, .int .i64 y.Kind, bv y.Byte, .int .i64 y.Len, .int .i64 y.Dist, .slice sr.a raw.length sr.c, .int .i64 lc2, .int .i64 lp2, .int .i64 pb2]⟩, old W], ?_, ?_⟩
    · by_cases hkd : kd = 0
      · have hi2 := hst2 hkd
        repeat' (first | (refine pN_eql_s ?_ ?_ <;> intro hc <;> try (exfalso; first | omega | exact hc rfl | exact hc (by assumption) | exact absurd hc (by assumption))) | refine pIf_t ?_ | refine pN_l hS (by first | rfl | assumption) ?_ | refine pN_v (hk := ?_) | fail)
        refine ⟨Bk W eb rb s L (i + 1), ?_, ?_⟩
        rotate_left 1
        · clear hS
          rintro _ _ w hB
          repeat' (first | (refine pN_lss_s ?_ ?_ <;> intro hc <;> try (exfalso; omega)) | refine pIf_t ?_ | refine pN_v (hk := ?_) | fail)
          exact hB
        by_cases hm : (e.putV ys).may y = 0
        · repeat' (first | refine pN_la_at (n := 4) hS [.int .i64 y.Kind, bv y.Byte, .int .i64 y.Len, .int .i64 y.Dist] rfl rfl ?_ | (refine pc_lzenc_Encoder_Put (LPut_ok (y := y) hG (hS.fd (LEnc eb)) (by omega) (by omega) ?_); rw [hm]; clear hS; intro w hS) | refine pc_pithlaw14_num (num14_ok _ (by omega) ?_) | (refine pc_pithlaw14_used (qused_ok (y := y) hS ?_); clear hS; intro w hS) | (refine pN_b1 (x := Z.used y) hS rfl (Nat.le_of_ble_eq_true rfl) ?_; clear hS; intro sd w hS) | (refine pN_app (C := cd_api_Symbol) hS rfl rfl (by simp only [List.length_cons, List.length_nil]; omega) ?_; clear hS; intro se w hS) | (refine pN_eql_s ?_ ?_ <;> intro hc <;> try (exfalso; first | omega | exact hc rfl | exact hc (by assumption) | exact absurd hc (by assumption))) | refine pIf_t ?_ | refine pN_v (hk := ?_) | fail)
          have e1 : (e.putV ys).put y = e.putV (ys ++ [y]) := by rw [Z.EZ.putV_snoc, Z.EZ.put, if_pos hm]
          have e2 : ys.map Z.used ++ [Z.used y] = (ys ++ [y]).map Z.used := by simp
          rw [e1, e2] at hS
          rw [e2]
          exact ⟨e, ys ++ [y], se, sa, bm, Nm, dv, rfl, he, hs, (Z.EZ.valid_snoc ys e y).2 ⟨hv, hm⟩, hl, by simp; omega, by simp; omega, hrel, hS.to⟩
        · have hne : (e.putV ys).put y = e.putV ys := by rw [Z.EZ.put, if_neg hm]
          repeat' (first | refine pN_la_at (n := 4) hS [.int .i64 y.Kind, bv y.Byte, .int .i64 y.Len, .int .i64 y.Dist] rfl rfl ?_ | (refine pc_lzenc_Encoder_Put (LPut_ok (y := y) hG (hS.fd (LEnc eb)) (by omega) (by omega) ?_); rw [hne]; clear hS; intro w hS) | refine pc_pithlaw14_num (num14_ok _ (by omega) ?_) | (refine pN_eql_s ?_ ?_ <;> intro hc <;> try (exfalso; first | omega | exact hc rfl | exact hc (by assumption) | exact absurd hc (by assumption))) | refine pIf_f ?_ | refine pN_v (hk := ?_) | fail)
          exact ⟨e, ys, sw, sa, bm, Nm, dv, rfl, he, hs, hv, hl, by omega, by omega, hrel, hS.to⟩
      · repeat' (first | (refine pN_eql_s ?_ ?_ <;> intro hc <;> try (exfalso; first | omega | exact hc rfl | exact hc (by assumption) | exact absurd hc (by assumption))) | refine pIf_f ?_ | refine pN_l hS (by first | rfl | assumption) ?_ | refine pN_v (hk := ?_) | fail)
        exact ⟨hkd, rfl, hS.to⟩
    clear hS
    rintro _ _ w ⟨hkd, rfl, hS⟩
    have hcv : (e.putV ys).cut.Ok := hoe.1.cut
    repeat' (first | (refine pc_lzenc_Encoder_Cut (LCut_ok (hS.fd (LEnc eb)) (by omega) ?_); clear hS; intro sb w hS) | fail)
    refine pc_pithlaw14_Reader_reads (qreads_ok hG he hs hv hl (by omega) (by omega) hrel (hS.fd4 (cel rb) (rows cd_uint8 sa) (NSets PSet Z.freshR bm) (rows cd_uint8 sb)) fun d sf Nf w hrel2 hS => ?_)
    have hcs : (e.putV ys).cut.s = R.S.new := rfl
    have hpp : (e.putV ys).p = e.p := Z.EZ.putV_p ys e
    have hcl := hle.cut
    rw [← hpp] at hrel2 hS
    have hS : Sat W w [cel rb ⟨79, rdrV (pz d) (e.putV ys).p (e.putV ys).st sf (e.putV ys).x.all.length bm false⟩, rows cd_uint8 sf (e.putV ys).x.all, QSets bm Nf, LEnc eb (e.putV ys).cut, rows cd_pithlaw14_Step s L, cel ax ⟨50, [.int .i64 wh, .int .i64 kd, .int .i64 y.Kind, bv y.Byte, .int .i64 y.Len, .int .i64 y.Dist, .slice sr.a raw.length sr.c, .int .i64 lc2, .int .i64 lp2, .int .i64 pb2]⟩, old W] := hS.to
    have hS : Sat W w [cel rb ⟨79, rdrV (pz d) (e.putV ys).cut.p (e.putV ys).cut.st sf (e.putV ys).cut.x.all.length bm false⟩, rows cd_uint8 sf (e.putV ys).cut.x.all, QSets bm Nf, LEnc eb (e.putV ys).cut, rows cd_pithlaw14_Step s L, cel ax ⟨50, [.int .i64 wh, .int .i64 kd, .int .i64 y.Kind, bv y.Byte, .int .i64 y.Len, .int .i64 y.Dist, .slice sr.a raw.length sr.c, .int .i64 lc2, .int .i64 lp2, .int .i64 pb2]⟩, old W] := hS
    have hxc : (e.putV ys).cut.x.all.length ≤ 1048849 * i := Nat.le_trans hxe hxl
    have hrelc : Z.Rel Z.preR 1024 (e.putV ys).cut.p Nf (e.putV ys).cut.T := hrel2
    clear hrel2 hxe hle hmv
    generalize (e.putV ys).cut = f at *
    have hS : Sat W w (rows cd_api_Symbol ⟨none, 0⟩ [] :: _) := hS.nil 48 4
    have hend : ∀ {g : Z.EZ} {sg : Sl} {bg : Nat} {Ng : Key → List Int} {w : World}, g.Ok → g.s = R.S.new → g.Rl → g.x.all.length ≤ 1048849 * (i + 1) → Z.Rel Z.preR 1024 g.p Ng g.T → Sat W w [LEnc eb g, cel rb ⟨79, rdrV (pz d) g.p g.st sg g.x.all.length bg false⟩, rows cd_uint8 sg g.x.all, QSets bg Ng, rows cd_api_Symbol ⟨none, 0⟩ [], rows cd_pithlaw14_Step s L, old W] → Bk W eb rb s L (i + 1) (.slice none 0 0) w :=
      fun h1 h2 h3 h4 h5 h6 => ⟨_, [], ⟨none, 0⟩, _, _, _, pz d, rfl, h1, h2, trivial, h3, Nat.zero_le _, by simpa using h4, h5, h6⟩
    by_cases hk3 : kd = 3
    · repeat' (first | (refine pc_lzenc_Encoder_Raw (LRaw_ok (l := raw) (hS.fd (LEnc eb)) (by omega) ?_); clear hS; intro w hS) | refine And.intro ?_ ?_ | exact trivial | (refine pN_app (C := cd_uint8) hS rfl rfl (by omega) ?_; clear hS; intro sg w hS) | (refine pN_eql_s ?_ ?_ <;> intro hc <;> try (exfalso; first | omega | exact hc rfl | exact hc (by assumption) | exact absurd hc (by assumption))) | refine pIf_t ?_ | refine pIf_f ?_ | refine pN_l hS (by first | rfl | assumption) ?_ | refine pL_l hS (by first | rfl | assumption) ?_ | (refine pN_s hS (by first | exact Nat.le_of_ble_eq_true rfl | assumption) (by rfl) ?_; clear hS; intro w hS; try simp only [List.set_cons_zero, List.set_cons_succ] at hS) | (refine pDr_go hS ?_; clear hS; intro w hS) | refine pN_v (hk := ?_) | refine pA_v (hk := ?_) | fail)
      have hS : Sat W w [LEnc eb (f.raw raw), cel rb ⟨79, rdrV (pz d) f.p f.st sg (f.x.all ++ raw).length bm false⟩, rows cd_uint8 sg (f.x.all ++ raw), QSets bm Nf, rows cd_api_Symbol ⟨none, 0⟩ [], rows cd_pithlaw14_Step s L, old W] := hS.to
      exact hend (g := f.raw raw) (hcv.raw raw) hcs (hcl.raw raw) (by show (f.x.all ++ raw).length ≤ _; rw [List.length_append]; omega) hrelc hS
    by_cases hk4 : kd = 4
    · by_cases hp2 : (⟨lc2, lp2, pb2⟩ : Z.Pr).Ok
      · have hfr : f.reset ⟨lc2, lp2, pb2⟩ = ⟨⟨lc2, lp2, pb2⟩, Z.St.new, Z.T0 ⟨lc2, lp2, pb2⟩, f.x, f.s⟩ := by rw [Z.EZ.reset, if_pos hp2]
        have hrO := hcv.reset ⟨lc2, lp2, pb2⟩
        have hrL := hcl.reset hp2
        rw [hfr] at hrO hrL
        repeat' (first | refine pN_la_at (n := 3) hS [.int .i64 lc2, .int .i64 lp2, .int .i64 pb2] rfl rfl ?_ | (refine pc_lzenc_Encoder_Reset (LReset_in (p := ⟨lc2, lp2, pb2⟩) hp2 (hS.fd (LEnc eb)) ?_); rw [hfr]; clear hS; intro w hS) | refine pc_pithlaw14_num (num14_ok _ (by omega) ?_) | (refine pN_sa_at (us := [.int .i64 lc2, .int .i64 lp2, .int .i64 pb2]) hS rfl (Nat.le_of_ble_eq_true rfl) rfl ?_; clear hS; intro w hS) | (refine pN_eql_s ?_ ?_ <;> intro hc <;> try (exfalso; first | omega | exact hc rfl | exact hc (by assumption) | exact absurd hc (by assumption))) | refine pIf_t ?_ | refine pIf_f ?_ | refine pN_l hS (by first | rfl | assumption) ?_ | refine pN_v (hk := ?_) | fail)
        have hS := Z.cel_cnv2 (t := rb) (o' := ⟨79, rdrV (pz d) ⟨lc2, lp2, pb2⟩ f.st sf f.x.all.length bm false⟩) rfl (hS.fd (cel rb))
        repeat' (first | (refine pc_pithlaw14_Reader_begin (qbegin_ok (p := ⟨lc2, lp2, pb2⟩) (sa := sf) (n := f.x.all.length) (hS.fd (cel rb)) ?_); clear hS; intro bg w hS) | fail)
        have hS : Sat W w [LEnc eb ⟨⟨lc2, lp2, pb2⟩, Z.St.new, Z.T0 ⟨lc2, lp2, pb2⟩, f.x, f.s⟩, cel rb ⟨79, rdrV (pz d) ⟨lc2, lp2, pb2⟩ Z.St.new sf f.x.all.length bg false⟩, rows cd_uint8 sf f.x.all, QSets bg (fun _ => Z.freshR), rows cd_api_Symbol ⟨none, 0⟩ [], rows cd_pithlaw14_Step s L, old W] := hS.to
        exact hend (g := ⟨⟨lc2, lp2, pb2⟩, Z.St.new, Z.T0 ⟨lc2, lp2, pb2⟩, f.x, f.s⟩) hrO hcs hrL (by show f.x.all.length ≤ _; omega) (Z.new_relR hp2) hS
      · repeat' (first | refine pN_la_at (n := 3) hS [.int .i64 lc2, .int .i64 lp2, .int .i64 pb2] rfl rfl ?_ | (refine pc_lzenc_Encoder_Reset (LReset_no (p := ⟨lc2, lp2, pb2⟩) hp2 hlc2 (hS.fd (LEnc eb)) ?_); clear hS; intro w hS) | refine pc_pithlaw14_num (num14_ok _ (by omega) ?_) | (refine pN_eql_s ?_ ?_ <;> intro hc <;> try (exfalso; first | omega | exact hc rfl | exact hc (by assumption) | exact absurd hc (by assumption))) | refine pIf_t ?_ | refine pIf_f ?_ | refine pN_l hS (by first | rfl | assumption) ?_ | refine pN_v (hk := ?_) | fail)
        have hS : Sat W w [LEnc eb f, cel rb ⟨79, rdrV (pz d) f.p f.st sf f.x.all.length bm false⟩, rows cd_uint8 sf f.x.all, QSets bm Nf, rows cd_api_Symbol ⟨none, 0⟩ [], rows cd_pithlaw14_Step s L, old W] := hS.to
        exact hend (g := f) hcv hcs hcl (by omega) hrelc hS
    by_cases hk5 : kd = 5
    · repeat' (first | (refine pc_lzenc_Encoder_Clear (LClear_ok (hS.fd (LEnc eb)) ?_); clear hS; intro w hS) | (refine pc_pithlaw14_Reader_begin (qbegin_ok (p := f.p) (sa := sf) (n := f.x.all.length) (hS.fd (cel rb)) ?_); clear hS; intro bg w hS) | (refine pN_eql_s ?_ ?_ <;> intro hc <;> try (exfalso; first | omega | exact hc rfl | exact hc (by assumption) | exact absurd hc (by assumption))) | refine pIf_t ?_ | refine pIf_f ?_ | refine pN_l hS (by first | rfl | assumption) ?_ | (refine pN_s hS (by first | exact Nat.le_of_ble_eq_true rfl | assumption) (by rfl) ?_; clear hS; intro w hS; try simp only [List.set_cons_zero, List.set_cons_succ] at hS) | refine pN_v (hk := ?_) | fail)
      have hS := Z.cel_cnv2 (t := rb) (o' := ⟨79, rdrV (pz d) f.p Z.St.new ⟨none, 0⟩ 0 bg false⟩) rfl (hS.fd (cel rb))
      have hS : Sat W w (rows cd_uint8 ⟨none, 0⟩ [] :: _) := hS.nil 5 1
      have hS : Sat W w [LEnc eb f.clear, cel rb ⟨79, rdrV (pz d) f.p Z.St.new ⟨none, 0⟩ 0 bg false⟩, rows cd_uint8 ⟨none, 0⟩ [], QSets bg (fun _ => Z.freshR), rows cd_api_Symbol ⟨none, 0⟩ [], rows cd_pithlaw14_Step s L, old W] := hS.to
      exact hend (g := f.clear) hcv.clear hcs hcl.clear (Nat.zero_le _) (Z.new_relR hcv.p) hS
    · repeat' (first | (refine pN_eql_s ?_ ?_ <;> intro hc <;> try (exfalso; first | omega | exact hc rfl | exact hc (by assumption) | exact absurd hc (by assumption))) | refine pIf_f ?_ | refine pN_l hS (by first | rfl | assumption) ?_ | refine pN_v (hk := ?_) | fail)
      have hS : Sat W w [LEnc eb f, cel rb ⟨79, rdrV (pz d) f.p f.st sf f.x.all.length bm false⟩, rows cd_uint8 sf f.x.all, QSets bm Nf, rows cd_api_Symbol ⟨none, 0⟩ [], rows cd_pithlaw14_Step s L, old W] := hS.to
      exact hend (g := f) hcv hcs hcl (by omega) hrelc hS
end Go.Proofs.YtbgnnjfpiblkmaaGreatDoor
