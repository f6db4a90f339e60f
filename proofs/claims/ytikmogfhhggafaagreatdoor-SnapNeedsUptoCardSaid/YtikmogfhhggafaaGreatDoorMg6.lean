/-
  Texts of one proof, one behind the other: TarW, TarF, TarPut, SnR, SnS, SnL, LfBytealg, Stab, Stab2, Stab3, SnV.
-/
import Derived.Laws.Cover3
import Derived.Test.YtikmogfhhggafaaGreatDoorRows
import Derived.Lib.Bytealg
import Derived.Test.YtikmogfhhggafaaGreatDoorMg5
set_option linter.unusedSimpArgs false
set_option linter.unnecessarySimpa false
set_option linter.unusedSectionVars false
set_option linter.unusedVariables false

namespace Go.Proofs.YtikmogfhhggafaaGreatDoor
open Go
attribute [local irreducible] oMv oV oU oCall oCallV oBi oBin oUn oLoad oStore oNil oFld oField oIdx oIndex oPick oAlloc oBox oBuild oBs oConv oMk oSl oExt oFn oIface oMap oLook oMapUp oRange oNext oEntry oInv oAssert oPanic oRes pN pA pL pDr pIf gA pGd Calls

section
variable [Pan] {E w : World} {K Q : Value → World → Prop} {L M : List HA} {l r : List UInt8} {s s2 : Sl}

set_option maxHeartbeats 2000000 in
theorem wrong_ok (x : T_api_Item) (hn : x.Name.length ≤ 140737488355328) (hk : x.Link.length ≤ 140737488355328) (hS : Sat E w L) (hQ : ∀ w, Sat E w L → Q (.int .i64 (A.wrong x)) w) :
    Calls Tryz.prog 88 #[.agg x.enc.toArray] w (retP Q) := by
  refine tar_wrong.calls ?_
  unfold tar_wrong.F
  obtain ⟨name, link, kind, mode, time, data⟩ := x
  obtain ⟨w6, w8, w7, w0⟩ : (kind < 0 ∨ 3 ≤ kind ∨ (kind ≠ 2 ∧ link.length ≠ 0) ∨ (kind ≠ 0 ∧ 0 < data.2.length) → A.wrong ⟨name, link, kind, mode, time, data⟩ = 6) ∧
      (¬ (kind < 0 ∨ 3 ≤ kind ∨ (kind ≠ 2 ∧ link.length ≠ 0) ∨ (kind ≠ 0 ∧ 0 < data.2.length)) → ((A.parted name).2.2 = false ∨ (kind = 2 ∧ (link.length = 0 ∨ 100 < link.length ∨ 0 ∈ link))) → A.wrong ⟨name, link, kind, mode, time, data⟩ = 8) ∧
      (¬ (kind < 0 ∨ 3 ≤ kind ∨ (kind ≠ 2 ∧ link.length ≠ 0) ∨ (kind ≠ 0 ∧ 0 < data.2.length)) → ¬ ((A.parted name).2.2 = false ∨ (kind = 2 ∧ (link.length = 0 ∨ 100 < link.length ∨ 0 ∈ link))) → (mode < 0 ∨ 4096 ≤ mode ∨ time < 0 ∨ 8589934592 ≤ time ∨ 8589934592 ≤ data.2.length) → A.wrong ⟨name, link, kind, mode, time, data⟩ = 7) ∧
      (¬ (kind < 0 ∨ 3 ≤ kind ∨ (kind ≠ 2 ∧ link.length ≠ 0) ∨ (kind ≠ 0 ∧ 0 < data.2.length)) → ¬ ((A.parted name).2.2 = false ∨ (kind = 2 ∧ (link.length = 0 ∨ 100 < link.length ∨ 0 ∈ link))) → ¬ (mode < 0 ∨ 4096 ≤ mode ∨ time < 0 ∨ 8589934592 ≤ time ∨ 8589934592 ≤ data.2.length) → A.wrong ⟨name, link, kind, mode, time, data⟩ = 0) :=
    ⟨fun h => by rw [A.wrong, if_pos h], fun h h2 => by rw [A.wrong, if_neg h, if_pos h2], fun h h2 h3 => by rw [A.wrong, if_neg h, if_neg h2, if_pos h3], fun h h2 h3 => by rw [A.wrong, if_neg h, if_neg h2, if_neg h3]⟩
  dsimp only [T_api_Item.enc] at hn hk ⊢
  generalize A.wrong ⟨name, link, kind, mode, time, data⟩ = res at *
  have e0 : (.string ⟨#[]⟩ : Value) = .string ⟨List.toArray []⟩ := rfl
  rw [e0]
  have hlk : (link = [] ∧ link.length = 0) ∨ (¬ link = [] ∧ 0 < link.length) := by
    rcases link with _ | ⟨b, t⟩ <;> simp
  have hm : (0 ∈ link ∧ 0 ≤ A.ixb link 0) ∨ (¬ 0 ∈ link ∧ ¬ 0 ≤ A.ixb link 0) := by
    by_cases h : 0 ∈ link
    · exact .inl ⟨h, A.ixb_mem.2 h⟩
    · exact .inr ⟨h, fun e => h (A.ixb_mem.1 e)⟩
  have hnb : (A.parted name).2.2 = true ∨ (A.parted name).2.2 = false := by cases (A.parted name).2.2 <;> simp
  refine pN_bx hS (by rfl) ?_
  clear hS
  intro a w hS
  repeat' (first | (refine pc_tar_parted (parted_ok (L := _ :: L) hn ?_ hS); clear hS; intro w hS) | (refine pN_eql_s ?_ ?_ <;> intro hc <;> try (exfalso; first | omega | exact hc rfl | exact hc (by assumption) | exact absurd hc (by assumption))) | refine pN_l hS (by first | rfl | assumption) ?_ | refine pN_v (hk := ?_) | fail)
  all_goals
    have hS : Sat E w (cel a ⟨49, [.string ⟨name.toArray⟩, .string ⟨link.toArray⟩, .int .i64 kind, .int .i64 mode, .int .i64 time, .slice data.1.a data.2.length data.1.c]⟩ :: L) := hS
    refine ⟨fun w' => res = 0 ∧ Sat E w' L, ?_, ?_⟩
    rotate_left 1
    · clear hS
      rintro _ w ⟨rfl, hS⟩
      exact hQ _ hS
    refine ⟨fun v w' => v = .bool (decide (kind < 0 ∨ 3 ≤ kind ∨ (kind ≠ 2 ∧ link.length ≠ 0) ∨ (kind ≠ 0 ∧ 0 < data.2.length))) ∧ Sat E w' (cel a ⟨49, [.string ⟨name.toArray⟩, .string ⟨link.toArray⟩, .int .i64 kind, .int .i64 mode, .int .i64 time, .slice data.1.a data.2.length data.1.c]⟩ :: L), ?_, ?_⟩
    · rcases hlk with ⟨hl0, hll⟩ | ⟨hl0, hll⟩
      all_goals
        repeat' (first | ((first | refine pN_lss_s ?_ ?_ | refine pN_gtr_s ?_ ?_ | refine pN_geq_s ?_ ?_) <;> intro hc <;> try (exfalso; omega)) | ((first | refine pN_neq_s ?_ ?_ | refine pN_neq_ss ?_ ?_) <;> intro hc <;> try (exfalso; first | omega | exact hc rfl | exact hc (by assumption) | exact absurd hc (by assumption))) | refine pIf_t ?_ | refine pIf_f ?_ | refine pGd_go (by rfl) ?_ | refine pGd_no (by rfl) ?_ | refine pN_l hS (by first | rfl | assumption) ?_ | refine pN_v (hk := ?_) | fail)
        all_goals first
          | exact ⟨congrArg Value.bool (decide_eq_true (by omega)).symm, hS⟩
          | exact ⟨congrArg Value.bool (decide_eq_false (by omega)).symm, hS⟩
    clear hS
    rintro _ _ w ⟨rfl, hS⟩
    by_cases C1 : kind < 0 ∨ 3 ≤ kind ∨ (kind ≠ 2 ∧ link.length ≠ 0) ∨ (kind ≠ 0 ∧ 0 < data.2.length)
    · rw [decide_eq_true C1]
      refine pIf_t ?_
      have := w6 C1
      subst this
      exact hQ _ hS.to
    rw [decide_eq_false C1]
    refine pIf_f ?_
    refine ⟨fun v w' => v = .bool (decide ((A.parted name).2.2 = false ∨ (kind = 2 ∧ (link.length = 0 ∨ 100 < link.length ∨ 0 ∈ link)))) ∧ Sat E w' (cel a ⟨49, [.string ⟨name.toArray⟩, .string ⟨link.toArray⟩, .int .i64 kind, .int .i64 mode, .int .i64 time, .slice data.1.a data.2.length data.1.c]⟩ :: L), ?_, ?_⟩
    · rcases hnb with hb | hb
      · rw [hb]
        rcases hlk with ⟨hl0, hll⟩ | ⟨hl0, hll⟩
        all_goals rcases hm with ⟨hm0, hmi⟩ | ⟨hm0, hmi⟩
        all_goals simp only [hm0, or_true, or_false, and_true, Bool.true_eq_false, false_or]
        all_goals
          repeat' (first | (refine pc_strings_IndexByte (sIndexByte_ok 0 ?_)) | refine pN_slen ?_ | ((first | refine pN_gtr_s ?_ ?_ | refine pN_geq_s ?_ ?_) <;> intro hc <;> try (exfalso; omega)) | (refine pN_eql_ss ?_ ?_ <;> intro hc <;> try (exfalso; first | omega | exact hc rfl | exact hc (by assumption) | exact absurd hc (by assumption))) | refine pIf_f ?_ | refine pGd_go (by rfl) ?_ | refine pGd_no (by rfl) ?_ | refine pN_l hS (by first | rfl | assumption) ?_ | refine pN_v (hk := ?_) | fail)
          all_goals first
            | exact ⟨congrArg Value.bool (decide_eq_true (by omega)).symm, hS⟩
            | exact ⟨congrArg Value.bool (decide_eq_false (by omega)).symm, hS⟩
      · rw [hb]
        repeat' (first | refine pIf_t ?_ | refine pN_v (hk := ?_) | fail)
        exact ⟨congrArg Value.bool (decide_eq_true (.inl rfl)).symm, hS⟩
    clear hS
    rintro _ _ w ⟨rfl, hS⟩
    by_cases C2 : (A.parted name).2.2 = false ∨ (kind = 2 ∧ (link.length = 0 ∨ 100 < link.length ∨ 0 ∈ link))
    · rw [decide_eq_true C2]
      refine pIf_t ?_
      have := w8 C1 C2
      subst this
      exact hQ _ hS.to
    rw [decide_eq_false C2]
    refine pIf_f ?_
    refine ⟨fun v w' => v = .bool (decide (mode < 0 ∨ 4096 ≤ mode ∨ time < 0 ∨ 8589934592 ≤ time ∨ 8589934592 ≤ data.2.length)) ∧ Sat E w' (cel a ⟨49, [.string ⟨name.toArray⟩, .string ⟨link.toArray⟩, .int .i64 kind, .int .i64 mode, .int .i64 time, .slice data.1.a data.2.length data.1.c]⟩ :: L), ?_, ?_⟩
    · repeat' (first | ((first | refine pN_lss_s ?_ ?_ | refine pN_geq_s ?_ ?_) <;> intro hc <;> try (exfalso; omega)) | refine pIf_t ?_ | refine pIf_f ?_ | refine pGd_go (by rfl) ?_ | refine pGd_no (by rfl) ?_ | refine pN_l hS (by first | rfl | assumption) ?_ | refine pN_v (hk := ?_) | fail)
      all_goals first
        | exact ⟨congrArg Value.bool (decide_eq_true (by omega)).symm, hS⟩
        | exact ⟨congrArg Value.bool (decide_eq_false (by omega)).symm, hS⟩
    clear hS
    rintro _ _ w ⟨rfl, hS⟩
    by_cases C3 : mode < 0 ∨ 4096 ≤ mode ∨ time < 0 ∨ 8589934592 ≤ time ∨ 8589934592 ≤ data.2.length
    · rw [decide_eq_true C3]
      refine pIf_t ?_
      have := w7 C1 C2 C3
      subst this
      exact hQ _ hS.to
    · rw [decide_eq_false C3]
      refine pIf_f ?_
      exact ⟨w0 C1 C2 C3, hS.to⟩
end

end Go.Proofs.YtikmogfhhggafaaGreatDoor

namespace Go.Proofs.YtikmogfhhggafaaGreatDoor
open Go

abbrev Fld := Nat × Nat × Option Nat × Option Nat
def fnV : Option Nat → Value
  | some g => .func (.func g) #[] #[]
  | none => .nilFunc
theorem fnV_one (o : Option Nat) : (fnV o).oneCell' = true := by cases o <;> rfl
def cdF : Cd Fld := { e := 210, size := 4, bytes := 32, zero := (0, 0, none, none), enc := fun x => [.int .i64 (x.1 : Nat), .int .i64 (x.2.1 : Nat), fnV x.2.2.1, fnV x.2.2.2], len := fun _ => rfl, one := by intro b u hu; simp only [List.mem_cons, List.not_mem_nil, or_false] at hu; rcases hu with rfl | rfl | rfl | rfl <;> first | rfl | exact fnV_one _ }
instance btF : Bt cdF 32 := ⟨rfl⟩
instance rowF : Row Tryz.prog 206 Fld cdF := ⟨⟨(.agg #[(.int .i64 0), (.int .i64 0), .nilFunc, .nilFunc]), ⟨Tryz.underlying206, info_parts (by kernel_rfl), rfl, by decide⟩, rfl⟩, by decide⟩

def wf : Nat → Nat
  | 0 => 155 | 1 => 158 | 2 => 162 | 3 => 162 | 4 => 163 | 5 => 165 | 6 => 167 | 7 => 169 | 8 => 171 | 9 => 162 | 10 => 162 | _ => 172
def rf : Nat → Option Nat
  | 0 => some 156 | 1 => some 160 | 4 => some 164 | 5 => some 166 | 6 => some 168 | 7 => some 170 | 11 => some 173 | _ => none
def fld (k : Nat) : Fld := (A.fAt k, A.fN k, some (wf k), rf k)
def flds : List Fld := (List.range 12).map fld
theorem flds_at (k : Nat) (h : k < 12) : flds[k]? = some (fld k) := by simp [flds, h]

theorem run_bF1 (a n : Int) (f g : Nat) (w : World) : (oBuild 210 [(0, .int .i64 a), (1, .int .i64 n), (2, .func (.func f) #[] #[]), (3, .func (.func g) #[] #[])]).run Tryz.prog w = .ok (.value (.agg #[.int .i64 a, .int .i64 n, .func (.func f) #[] #[], .func (.func g) #[] #[]])) w := by kernel_rfl
theorem run_bF0 (a n : Int) (f : Nat) (w : World) : (oBuild 210 [(0, .int .i64 a), (1, .int .i64 n), (2, .func (.func f) #[] #[]), (3, .nilFunc)]).run Tryz.prog w = .ok (.value (.agg #[.int .i64 a, .int .i64 n, .func (.func f) #[] #[], .nilFunc])) w := by kernel_rfl
theorem pN_bF1 [Pan] {w : World} {K : Value → World → Prop} {a n : Int} {f g : Nat} (hk : K (.agg #[.int .i64 a, .int .i64 n, .func (.func f) #[] #[], .func (.func g) #[] #[]]) w) : pN Tryz.prog (oBuild 210 [(0, .int .i64 a), (1, .int .i64 n), (2, .func (.func f) #[] #[]), (3, .func (.func g) #[] #[])]) w K := by rw [pN_def, run_bF1, rN_value]; exact hk
theorem pN_bF0 [Pan] {w : World} {K : Value → World → Prop} {a n : Int} {f : Nat} (hk : K (.agg #[.int .i64 a, .int .i64 n, .func (.func f) #[] #[], .nilFunc]) w) : pN Tryz.prog (oBuild 210 [(0, .int .i64 a), (1, .int .i64 n), (2, .func (.func f) #[] #[]), (3, .nilFunc)]) w K := by rw [pN_def, run_bF0, rN_value]; exact hk
theorem sumField_len (l : List UInt8) : (A.sumField l).length = 8 := by simp [A.sumField, A.oct_len]
theorem header_put {x : T_api_Item} (h : A.Fits x) (n : Int) : putL (A.made x n 12) 148 (A.sumField (A.made x n 12)) = A.header x n := by
  have h1 := A.front_len h n
  have h2 := A.made_12 h n
  have h3 := sumField_len (A.made x n 12)
  rw [A.header]
  generalize A.sumField (A.made x n 12) = f at *
  rw [putL, h2, h3]
  rw [List.append_assoc (A.front x n), List.take_append, List.drop_append, h1, List.take_of_length_le (by omega), List.drop_eq_nil_of_le (by omega)]
  simp
theorem header_len {x : T_api_Item} (h : A.Fits x) (n : Int) : (A.header x n).length = 512 := by
  rw [← header_put h n, putL_len _ _ _ (by rw [sumField_len, A.made_len h n 12 (by omega)]; omega), A.made_len h n 12 (by omega)]
theorem made_0 (x : T_api_Item) (n : Int) : List.replicate 512 cd_uint8.zero = A.made x n 0 := rfl
theorem made_next (x : T_api_Item) (n : Int) (k : Nat) : putL (A.made x n k) (A.fAt k) (A.fW x n k) = A.made x n (k + 1) := rfl
attribute [local irreducible] oMv oV oU oCall oCallV oBi oBin oUn oLoad oStore oNil oFld oField oIdx oIndex oPick oAlloc oBox oBuild oBs oConv oMk oSl oExt oFn oIface oMap oLook oMapUp oRange oNext oEntry oInv oAssert oPanic oRes pN pA pL pDr pIf gA pGd Calls A.made A.header A.oct A.wrong
section
variable [Pan] {E w : World} {K Q : Value → World → Prop} {L M : List HA} {l r : List UInt8} {s s2 : Sl}

def fldV (k : Nat) : Value := .agg #[.int .i64 (A.fAt k : Nat), .int .i64 (A.fN k : Nat), fnV (some (wf k)), fnV (rf k)]
theorem fields_ok (hS : Sat E w M) (hQ : ∀ s w, Sat E w (rows cdF s flds :: M) → Q (.slice s.a 12 s.c) w) : Calls Tryz.prog 122 #[] w (retP Q) := by
  refine tar_fields.calls ?_
  unfold tar_fields.F
  repeat first | refine pN_bF1 ?_ | refine pN_bF0 ?_
  refine pN_bl (C := cdF) ((List.range 12).map fldV) flds rfl rfl rfl (Nat.le_of_ble_eq_true rfl) hS (Nat.le_of_ble_eq_true rfl) ?_
  clear hS
  intro s w hS
  exact hQ _ _ hS

def headP (h : Nat) (x : T_api_Item) (n : Int) : HA := cel h ⟨165, [.string ⟨x.Name.toArray⟩, .string ⟨x.Link.toArray⟩, .int .i64 x.Kind, .int .i64 x.Mode, .int .i64 x.Time, .slice x.Data.1.a x.Data.2.length x.Data.1.c, .int .i64 n]⟩

theorem take_all {l : List UInt8} {n : Nat} (h : l.length ≤ n) : l.take n = l := List.take_of_length_le h
set_option maxHeartbeats 2000000 in
theorem write_ok {h : Nat} {x : T_api_Item} {n : Int} (hf : A.Fits x) (hn : x.Name.length ≤ 140737488355328) (k0 : 0 ≤ x.Kind) (k2 : x.Kind < 3) (hl : l.length = 512) (k : Nat) (hk : k < 12) (hS : Sat E w (rows cd_uint8 s l :: headP h x n :: M))
    (hQ : ∀ w, Sat E w (rows cd_uint8 s (putL l (A.fAt k) (A.fW x n k)) :: headP h x n :: M) → Q (.tuple #[]) w) :
    Calls Tryz.prog (wf k) #[.slice (s.sub (A.fAt k) cd_uint8.size).a (A.fN k) (s.sub (A.fAt k) cd_uint8.size).c, .pointer (some ⟨h, 0, none⟩)] w (retP Q) := by
  have hr := hf.rest
  have hp := hf.pre
  have hlk := hf.link
  unfold headP at *
  match k, hk with
  | 0, _ =>
    refine tar_fields_c1.calls ?_
    unfold tar_fields_c1.F
    repeat' (first | (refine pc_tar_parted (parted_ok (L := _ :: _ :: M) hn ?_ hS); clear hS; intro w hS) | refine pN_l hS (by first | rfl | assumption) ?_ | refine pN_v (hk := ?_) | fail)
    refine pN_cps (dn := 100) hS (fun _ => rfl) 0 (by omega) (by omega) ?_
    clear hS
    intro w hS
    rw [take_all hr] at hS
    exact hQ _ hS
  | 1, _ =>
    refine tar_fields_c3.calls ?_
    unfold tar_fields_c3.F
    repeat' (first | refine pN_l hS (by first | rfl | assumption) ?_ | refine pN_v (hk := ?_) | fail)
    refine pc_tar_octal (octal_ok hS 100 8 (by omega) (by omega) (by omega) _ ?_)
    exact fun w hS => hQ w hS
  | 2, _ => exact none_ok _ hS 108 8 (by omega) (by omega) (by omega) fun w hS => hQ w hS
  | 3, _ => exact none_ok _ hS 116 8 (by omega) (by omega) (by omega) fun w hS => hQ w hS
  | 4, _ =>
    refine tar_fields_c5.calls ?_
    unfold tar_fields_c5.F
    repeat' (first | refine pN_l hS (by first | rfl | assumption) ?_ | refine pN_v (hk := ?_) | fail)
    refine pc_tar_octal (octal_ok hS 124 12 (by omega) (by omega) (by omega) _ ?_)
    exact fun w hS => hQ w hS
  | 5, _ =>
    refine tar_fields_c7.calls ?_
    unfold tar_fields_c7.F
    repeat' (first | refine pN_l hS (by first | rfl | assumption) ?_ | refine pN_v (hk := ?_) | fail)
    refine pc_tar_octal (octal_ok hS 136 12 (by omega) (by omega) (by omega) _ ?_)
    exact fun w hS => hQ w hS
  | 6, _ =>
    refine tar_fields_c9.calls ?_
    unfold tar_fields_c9.F
    have e : (.string ⟨#[48, 53, 50]⟩ : Value) = .string ⟨List.toArray [48, 53, 50]⟩ := rfl
    rw [e]
    obtain ⟨kn, hkn⟩ : ∃ kn : Nat, x.Kind = kn := ⟨x.Kind.toNat, by omega⟩
    have hx : ([48, 53, 50] : List UInt8)[kn]? = some (A.letter x.Kind) := by
      rw [hkn]
      have : kn < 3 := by omega
      match kn, this with
      | 0, _ => rfl
      | 1, _ => rfl
      | 2, _ => rfl
    repeat' (first | refine pN_l hS (by first | rfl | assumption) ?_ | refine pN_v (hk := ?_) | fail)
    refine pN_sidx kn hkn hx ?_
    haveI hr1 := Rds.sub (C := cd_uint8) (L := rows cd_uint8 s l :: cel h ⟨165, [.string ⟨x.Name.toArray⟩, .string ⟨x.Link.toArray⟩, .int .i64 x.Kind, .int .i64 x.Mode, .int .i64 x.Time, .slice x.Data.1.a x.Data.2.length x.Data.1.c, .int .i64 n]⟩ :: M) (s := s) (l := l) 156 157 (by omega) (by omega)
    obtain ⟨g, hg, hc⟩ := rows_at (C := cd_uint8) (s := s) hS (by omega)
    have hl1 : ((l.drop 156).take (157 - 156)).length = 1 := by rw [List.length_take, List.length_drop]; omega
    refine pN_ix hS (C := cd_uint8) (s := s.sub 156 cd_uint8.size) 0 rfl hl1.symm (by omega) fun a y hy ha hel => ?_
    refine pN_sr (hel.sub (by omega)) hS rfl rfl (by omega) ?_
    clear hS
    intro w hS
    have e1 : l.set (156 + 0) (A.letter x.Kind) = putL l (A.fAt 6) (A.fW x n 6) := by
      rw [List.set_eq_take_append_cons_drop, if_pos (by omega)]
      simp [putL, A.fAt, A.fW]
    rw [e1] at hS
    exact hQ _ hS
  | 7, _ =>
    refine tar_fields_c11.calls ?_
    unfold tar_fields_c11.F
    repeat' (first | refine pN_l hS (by first | rfl | assumption) ?_ | refine pN_v (hk := ?_) | fail)
    refine pN_cps (dn := 100) hS (fun _ => rfl) 157 (by omega) (by omega) ?_
    clear hS
    intro w hS
    rw [take_all hlk] at hS
    exact hQ _ hS
  | 8, _ =>
    refine tar_fields_c13.calls ?_
    unfold tar_fields_c13.F
    refine pN_cps (dn := 8) (r := [117, 115, 116, 97, 114, 0, 48, 48]) hS (fun _ => rfl) 257 (by omega) (by omega) ?_
    clear hS
    intro w hS
    exact hQ _ hS
  | 9, _ => exact none_ok _ hS 329 8 (by omega) (by omega) (by omega) fun w hS => hQ w hS
  | 10, _ => exact none_ok _ hS 337 8 (by omega) (by omega) (by omega) fun w hS => hQ w hS
  | 11, _ =>
    refine tar_fields_c14.calls ?_
    unfold tar_fields_c14.F
    repeat' (first | (refine pc_tar_parted (parted_ok (L := _ :: _ :: M) hn ?_ hS); clear hS; intro w hS) | refine pN_l hS (by first | rfl | assumption) ?_ | refine pN_v (hk := ?_) | fail)
    refine pN_cps (dn := 155) hS (fun _ => rfl) 345 (by omega) (by omega) ?_
    clear hS
    intro w hS
    rw [take_all hp] at hS
    exact hQ _ hS
  | k + 12, hk => omega

theorem wf_call (k : Nat) (hk : k < 12) (args : Array Value) (w : World) : (callFunc (wf k) args).run Tryz.prog w = .ok (.enter (wf k) args) w := by
  match k, hk with
  | 0, _ => exact call_tar_fields_c1 args w
  | 1, _ => exact call_tar_fields_c3 args w
  | 2, _ | 3, _ | 9, _ | 10, _ => exact call_tar_none args w
  | 4, _ => exact call_tar_fields_c5 args w
  | 5, _ => exact call_tar_fields_c7 args w
  | 6, _ => exact call_tar_fields_c9 args w
  | 7, _ => exact call_tar_fields_c11 args w
  | 8, _ => exact call_tar_fields_c13 args w
  | 11, _ => exact call_tar_fields_c14 args w
  | k + 12, hk => omega

set_option maxHeartbeats 2000000 in
theorem header_ok {h : Nat} {x : T_api_Item} {n : Int} (hf : A.Fits x) (hn : x.Name.length ≤ 140737488355328) (k0 : 0 ≤ x.Kind) (k2 : x.Kind < 3) (hS : Sat E w (headP h x n :: M))
    (hQ : ∀ s w, Sat E w (rows cd_uint8 s (A.header x n) :: headP h x n :: M) → Q (.slice s.a 512 s.c) w) :
    Calls Tryz.prog 89 #[.pointer (some ⟨h, 0, none⟩)] w (retP Q) := by
  refine tar_header.calls ?_
  unfold tar_header.F
  repeat' (first | (refine pN_mk hS _ (by first | rfl | (exact (Int.toNat_of_nonneg (by omega)).symm)) (by first | omega | (simp only [go_sem]; omega)) ?_; clear hS; intro s w hS) | fail)
  rw [made_0 x n] at hS
  refine pc_tar_fields (fields_ok hS ?_)
  clear hS
  intro sf w hS
  repeat' (first | refine pN_v (hk := ?_) | fail)
  refine ⟨fun v w' => ∃ k : Nat, v = .int .i64 k ∧ k ≤ 12 ∧ Sat E w' (rows cd_uint8 s (A.made x n k) :: headP h x n :: rows cdF sf flds :: M), fun v _ => 12 - (RowKit.intOf v).toNat, ⟨0, rfl, Nat.zero_le _, hS.to⟩, ?_⟩
  clear hS
  rintro _ _ w ⟨k, rfl, hk, hS⟩
  by_cases hlt : k < 12
  · have hfk := flds_at k hlt
    have hml := A.made_len hf n k hk
    have hfl : flds.length = 12 := rfl
    have hfe := A.fAt_end k hlt
    have hfn := A.fN_pos k hlt
    have hcv := fun args w => wf_call k hlt args w
    have hwr : IntKind.i64.wrap (((fld k).1 : Int) + ((fld k).2.1 : Int)) = ((A.fAt k + A.fN k : Nat) : Int) := by
      show IntKind.i64.wrap ((A.fAt k : Int) + (A.fN k : Int)) = _
      rw [wrap_i64 (by omega)]
      omega
    have hone : (cdF.enc (fld k)).all (·.oneCell') = true := List.all_eq_true.2 fun u hu => cdF.one _ u hu
    repeat' (first | (refine pN_lss_s ?_ ?_ <;> intro hc <;> try (exfalso; omega)) | refine pIf_t ?_ | refine pN_ld_at ha hS (by rfl) ?_ | (refine pN_nz hS ?_; clear hS; intro a w hS) | refine pN_ixk hS _ (by first | rfl | (exact (Int.toNat_of_nonneg (by omega)).symm)) (by first | rfl | omega | simpa only [go_sem] using True.intro | (simp only [go_sem]; omega)) (by assumption) fun a ha hel => ?_ | fail)
    refine pN_sa (us := cdF.enc (fld k)) hS rfl rfl hone ?_
    clear hS
    intro w hS
    dsimp only at hS
    repeat' (first | refine pL_l hS (by first | rfl | assumption) ?_ | (refine pDr_go hS ?_; clear hS; intro w hS) | refine pA_v (hk := ?_) | fail)
    refine pA_sl2w (C := cd_uint8) (s := s) (l := A.made x n k) hS (A.fAt k) (A.fAt k + A.fN k) rfl hwr hml.symm (by omega) (by omega) ?_
    intro hp
    refine pN_callV (cap := []) hcv ?_
    have e : A.fAt k + A.fN k - A.fAt k = A.fN k := by omega
    rw [e]
    refine write_ok (n := n) (s := s) (l := A.made x n k) (M := rows cdF sf flds :: M) hf hn k0 k2 hml k hlt hS.to ?_
    clear hS
    intro w hS
    rw [made_next] at hS
    refine ⟨trivial, ?_⟩
    repeat' (first | refine pN_v (hk := ?_) | fail)
    exact ⟨⟨k + 1, rfl, by omega, hS⟩, by simp [RowKit.intOf] <;> omega⟩
  · obtain rfl : k = 12 := by omega
    repeat' (first | (refine pN_lss_s ?_ ?_ <;> intro hc <;> try (exfalso; omega)) | refine pIf_f ?_ | (refine pDr_go hS ?_; clear hS; intro w hS) | fail)
    have hml := A.made_len hf n 12 hk
    refine pA_sl1w (C := cd_uint8) (s := s) (l := A.made x n 12) hS 148 rfl hml.symm (by omega) ?_
    intro hp
    have h512 : (Value.slice s.a 512 s.c) = .slice s.a (A.made x n 12).length s.c := by rw [hml]
    rw [h512]
    refine pc_tar_sum (sum_ok (l := A.made x n 12) hS (by omega) (by omega) ?_)
    clear hS
    intro s2 w hS
    refine ⟨trivial, ?_⟩
    refine pN_cp (C := cd_uint8) (s := s) (s2 := s2) (l := A.made x n 12) (r := A.sumField (A.made x n 12)) (dn := (A.made x n 12).length - 148) hS 148 (by omega) (by omega) (sumField_len _).symm ?_
    clear hS
    intro w hS
    rw [take_all (by rw [sumField_len]; omega), header_put hf n] at hS
    refine ⟨trivial, ?_⟩
    rw [hml]
    exact hQ _ _ hS.to
end

end Go.Proofs.YtikmogfhhggafaaGreatDoor

namespace Go.Proofs.YtikmogfhhggafaaGreatDoor
open Go

namespace A
theorem parted_bd {l : List UInt8} (h : (parted l).2.2 = true) : (parted l).2.1.length ≤ 100 ∧ (parted l).1.length ≤ 155 := by
  unfold parted at h ⊢
  split at h
  · cases h
  · rename_i h1
    rw [if_neg h1]
    split at h
    · rename_i h2
      rw [if_pos h2]
      exact ⟨h2, by simp⟩
    · rename_i h2
      rw [if_neg h2]
      cases hs : slash l (max 1 (l.length - 101)) with
      | none => rw [hs] at h; cases h
      | some i =>
        rw [hs] at h
        dsimp only at h ⊢
        have h3 := of_decide_eq_true h
        have h4 := slash_some hs
        simp only [List.length_drop, List.length_take]
        omega
theorem wrong_0 {x : T_api_Item} (h : wrong x = 0) : Fits x ∧ 0 ≤ x.Kind ∧ x.Kind < 3 ∧ 0 ≤ x.Mode ∧ x.Mode < 4096 ∧ 0 ≤ x.Time ∧ x.Time < 8589934592 ∧ x.Data.2.length < 8589934592 ∧ (parted x.Name).2.2 = true ∧ (x.Kind = 2 → 0 < x.Link.length ∧ x.Link.length ≤ 100 ∧ ¬ 0 ∈ x.Link) ∧ (x.Kind ≠ 2 → x.Link = []) ∧ (x.Kind ≠ 0 → x.Data.2 = []) := by
  unfold wrong at h
  split at h
  · omega
  · rename_i h1
    split at h
    · omega
    · rename_i h2
      split at h
      · omega
      · rename_i h3
        have hp : (parted x.Name).2.2 = true := by
          cases hb : (parted x.Name).2.2
          · exact absurd (.inl hb) h2
          · rfl
        have hl : x.Kind = 2 → 0 < x.Link.length ∧ x.Link.length ≤ 100 ∧ ¬ 0 ∈ x.Link := fun hk => by
          have h4 : ¬ (x.Link.length = 0 ∨ 100 < x.Link.length ∨ 0 ∈ x.Link) := fun h => h2 (.inr ⟨hk, h⟩)
          exact ⟨by have : ¬ x.Link.length = 0 := fun e => h4 (.inl e); omega, by have : ¬ 100 < x.Link.length := fun e => h4 (.inr (.inl e)); omega, fun e => h4 (.inr (.inr e))⟩
        have hl0 : x.Kind ≠ 2 → x.Link = [] := fun hk => List.length_eq_zero_iff.1 (by omega)
        have hd0 : x.Kind ≠ 0 → x.Data.2 = [] := fun hk => List.length_eq_zero_iff.1 (by omega)
        have hb := parted_bd hp
        refine ⟨⟨hb.1, hb.2, ?_⟩, by omega, by omega, by omega, by omega, by omega, by omega, by omega, hp, hl, hl0, hd0⟩
        by_cases hk : x.Kind = 2
        · exact (hl hk).2.1
        · rw [hl0 hk]; simp
theorem fits_name {x : T_api_Item} (h : (parted x.Name).2.2 = true) : x.Name.length ≤ 256 := by
  have hb := parted_bd h
  unfold parted at h hb
  split at h
  · cases h
  · rename_i h1
    rw [if_neg h1] at hb
    split at h
    · omega
    · rename_i h2
      rw [if_neg h2] at hb
      cases hs : slash x.Name (max 1 (x.Name.length - 101)) with
      | none => rw [hs] at h; cases h
      | some i =>
        rw [hs] at hb
        have h4 := slash_some hs
        simp only [List.length_drop, List.length_take] at hb
        omega
def padn (n : Nat) : Nat := (512 - n % 512) % 512
def putB (x : T_api_Item) : List UInt8 := header x x.Data.2.length ++ x.Data.2 ++ List.replicate (padn (512 + x.Data.2.length)) 0
end A

theorem run_bH (a b : ByteArray) (c d e m : Int) (p : Option Addr) (n q : Nat) (w : World) : (oBuild 165 [(0, .agg #[.string a, .string b, .int .i64 c, .int .i64 d, .int .i64 e, .slice p n q]), (1, .int .i64 m)]).run Tryz.prog w = .ok (.value (.agg #[.string a, .string b, .int .i64 c, .int .i64 d, .int .i64 e, .slice p n q, .int .i64 m])) w := by kernel_rfl
theorem pN_bH [Pan] {w : World} {K : Value → World → Prop} {a b : ByteArray} {c d e m : Int} {p : Option Addr} {n q : Nat} (hk : K (.agg #[.string a, .string b, .int .i64 c, .int .i64 d, .int .i64 e, .slice p n q, .int .i64 m]) w) :
    pN Tryz.prog (oBuild 165 [(0, .agg #[.string a, .string b, .int .i64 c, .int .i64 d, .int .i64 e, .slice p n q]), (1, .int .i64 m)]) w K := by rw [pN_def, run_bH, rN_value]; exact hk

attribute [local irreducible] oMv oV oU oCall oCallV oBi oBin oUn oLoad oStore oNil oFld oField oIdx oIndex oPick oAlloc oBox oBuild oBs oConv oMk oSl oExt oFn oIface oMap oLook oMapUp oRange oNext oEntry oInv oAssert oPanic oRes pN pA pL pDr pIf gA pGd Calls A.made A.header A.oct A.wrong A.padn
section
variable [Pan] {E w : World} {K Q : Value → World → Prop} {L M : List HA} {l r : List UInt8} {s s2 : Sl}

set_option maxHeartbeats 2000000 in
theorem Put_ok (x : T_api_Item) (hn : x.Name.length ≤ 140737488355328) (hk : x.Link.length ≤ 140737488355328) (hS : Sat E w M) [hr : Rds cd_uint8 M x.Data.1 x.Data.2]
    (hno : A.wrong x ≠ 0 → ∀ w, Sat E w M → Q (.tuple #[.slice none 0 0, .int .i64 (A.wrong x)]) w)
    (hok : A.wrong x = 0 → ∀ s w, Sat E w (rows cd_uint8 s (A.putB x) :: M) → Q (.tuple #[.slice s.a (A.putB x).length s.c, .int .i64 0]) w) :
    Calls Tryz.prog 49 #[.agg x.enc.toArray] w (retP Q) := by
  refine tar_Put.calls ?_
  unfold tar_Put.F
  obtain ⟨y, hy⟩ : ∃ y, y = x := ⟨x, rfl⟩
  obtain ⟨name, link, kind, mode, time, data⟩ := x
  dsimp only at hn hk hr
  refine pN_bx hS (by rfl) ?_
  clear hS
  intro ab w hS
  repeat' (first | refine pN_la hS (by rfl) ?_ | fail)
  refine pc_tar_wrong (wrong_ok ⟨name, link, kind, mode, time, data⟩ hn hk hS ?_)
  clear hS
  intro w hS
  rw [← hy] at hno hok ⊢
  by_cases h0 : A.wrong y = 0
  · obtain ⟨hf, k0, k2, m0, m1, t0, t1, d1, hpt, hl, hl0, hd0⟩ := A.wrong_0 h0
    rw [h0]
    have hdl : data.2.length < 8589934592 := by rw [hy] at d1; exact d1
    repeat' (first | refine pN_bH ?_ | (refine pN_neq_s ?_ ?_ <;> intro hc <;> try (exfalso; first | omega | exact hc rfl | exact hc (by assumption) | exact absurd hc (by assumption))) | refine pIf_f ?_ | refine pL_l hS (by first | rfl | assumption) ?_ | refine pL_la hS (by rfl) ?_ | (refine pDr_go hS ?_; clear hS; intro w hS) | (refine pN_bx hS (by rfl) ?_; clear hS; intro a w hS) | refine ⟨⟨(by first | exact run_l hS (by first | rfl | assumption) | exact run_st hS (by first | rfl | omega) | exact run_ld1 ha hS | exact fun _ => run_l hS (by rfl) | exact fun _ => run_st hS (by first | rfl | omega) | exact fun _ => run_ld1 ha hS | exact fun h => Bool.noConfusion h), trivial⟩, ?_⟩ | refine pA_v (hk := ?_) | fail)
    have hS : Sat E w (headP a y (data.2.length : Nat) :: cel ab ⟨49, T_api_Item.enc ⟨name, link, kind, mode, time, data⟩⟩ :: M) := by subst hy; exact hS
    have hnl := A.fits_name hpt
    have hd : y.Data.2 = data.2 := by rw [hy]
    refine pc_tar_header (header_ok (x := y) (n := (data.2.length : Nat)) hf (by omega) k0 k2 hS ?_)
    clear hS
    intro s w hS
    have hhl := header_len hf (data.2.length : Nat)
    have hpb : A.putB y = A.header y (data.2.length : Nat) ++ data.2 ++ List.replicate (A.padn (512 + data.2.length)) 0 := by rw [A.putB, hd]
    rw [hpb] at hok
    generalize A.header y (data.2.length : Nat) = hd at *
    have hpl : A.padn (512 + data.2.length) < 512 := by unfold A.padn; omega
    have hal : (hd ++ data.2).length = 512 + data.2.length := by rw [List.length_append, hhl]
    have hpe : (512 - (512 + data.2.length) % 512) % 512 = A.padn (512 + data.2.length) := by unfold A.padn; rfl
    repeat' (first | refine ⟨trivial, ?_⟩ | refine ⟨⟨(by first | exact run_l hS (by first | rfl | assumption) | exact run_st hS (by first | rfl | omega) | exact run_ld1 ha hS | exact fun _ => run_l hS (by rfl) | exact fun _ => run_st hS (by first | rfl | omega) | exact fun _ => run_ld1 ha hS | exact fun h => Bool.noConfusion h), trivial⟩, ?_⟩ | (refine pN_app hS (by first | rfl | omega | simpa only [go_sem] using True.intro | (simp only [go_sem]; omega)) (by first | rfl | omega | simpa only [go_sem] using True.intro | (simp only [go_sem]; omega)) (by first | omega | (simp only [go_sem]; omega)) ?_; clear hS; intro s w hS) | refine pN_v (hk := ?_) | fail)
    rw [hhl]
    refine pc_tar_pad (pad_ok (512 + data.2.length) (by omega) ?_)
    rw [hpe]
    refine pN_appz (C := cd_uint8) hS (A.padn (512 + data.2.length)) rfl rfl (by omega) ?_
    clear hS
    intro s w hS
    have hS : Sat E w (rows cd_uint8 s (hd ++ data.2 ++ List.replicate (A.padn (512 + data.2.length)) 0) :: headP a y (data.2.length : Nat) :: cel ab ⟨49, T_api_Item.enc ⟨name, link, kind, mode, time, data⟩⟩ :: M) := hS
    exact hok h0 _ _ hS.to
  · repeat' (first | (refine pN_neq_s ?_ ?_ <;> intro hc <;> try (exfalso; first | omega | exact hc rfl | exact hc (by assumption) | exact absurd hc (by assumption))) | refine pIf_t ?_ | fail)
    exact hno h0 _ hS.to
end

end Go.Proofs.YtikmogfhhggafaaGreatDoor

namespace Go.Proofs.YtikmogfhhggafaaGreatDoor
open Go

theorem Part.trans {α : Type} {C : Cd α} {s s' s2 : Sl} {l l' l2 : List α} (h : Part C s l s' l') (h2 : Part C s' l' s2 l2) : Part C s l s2 l2 := ⟨fun L hL => by
  have := h.rd L hL
  exact h2.rd L this⟩
section
variable [Pan] {P : Program} {E w : World} {K : Value → World → Prop} {J : Value → Prop} {L : List HA} {t e : TypeId} {s : Sl}
theorem pN_arat {n m : Nat} (h : P.underlying t = some (.array m e)) (hn : m ≤ n) (hk : K (.pointer s.a) w) : pN P (oV (Instr.arrayAt t (.slice s.a n s.c))) w K := by
  rw [pN_def, run_oV_ok (run_arrayAt (P := P) (w := w) t e m s.a n s.c h hn), rN_value]; exact hk
theorem pL_arld (hS : Sat E w L) [Ag P t 32] (i : I32) [hr : Rds cd_uint8 L s i.l] (hk : J (.agg (bvs i.l).toArray)) : pL P (oLoad t (.pointer s.a)) w J := by
  obtain ⟨_, ao, cap, hv, hcap, hnil, hc⟩ := hS.rds (C := cd_uint8) (s := s)
  simp only [Value.slice.injEq, true_and] at hv
  obtain ⟨hv1, hv2⟩ := hv
  cases ao with
  | none => have := (hnil rfl).1; have := i.h; omega
  | some a =>
    rw [hv1]
    refine ⟨_, run_load_agg (cs := bvs i.l) Ag.ag (by rw [← i32n i]; exact Ag.sz) fun j u hu => hc a rfl j u ?_, hk⟩
    rw [cd_uint8.flat_single bv (fun _ => rfl)]
    exact hu
end

abbrev rdP (r : Nat) (s : Sl) (b : List UInt8) : HA := cel r ⟨224, [.slice s.a b.length s.c]⟩
abbrev rdO (s : Sl) (b : List UInt8) : Ob := ⟨224, [.slice s.a b.length s.c]⟩
namespace L
theorem take_some {n : Nat} {b t q : List UInt8} (h : take n b = some (t, q)) : n ≤ b.length ∧ t = b.take n ∧ q = b.drop n := by
  unfold take at h
  split at h
  · rename_i hn
    simp only [Option.some.injEq, Prod.mk.injEq] at h
    exact ⟨hn, h.1.symm, h.2.symm⟩
  · cases h
theorem number_some {b q : List UInt8} {v : Nat} (h : number b = some (v, q)) : (C.get 0 0 b).2.2 = 0 ∧ v = (C.get 0 0 b).1 ∧ q = b.drop (C.get 0 0 b).2.1 ∧ (C.get 0 0 b).2.1 ≤ b.length ∧ v < 9223372036854775808 := by
  unfold number at h
  split at h
  · rename_i hn
    simp only [Option.some.injEq, Prod.mk.injEq] at h
    have h1 := C.get_at b 0 0 hn
    have h2 := C.get_lt b 0 0 (by decide) (by omega)
    exact ⟨hn, h.1.symm, h.2.symm, by omega, by rw [← h.1]; exact h2⟩
  · cases h
theorem rtext_some {b t q : List UInt8} (h : rtext b = some (t, q)) : ∃ n r, number b = some (n, r) ∧ take n r = some (t, q) := by
  unfold rtext at h
  split at h
  · rename_i n r hn
    exact ⟨n, r, hn, h⟩
  · cases h
theorem number_len {b q : List UInt8} {v : Nat} (h : number b = some (v, q)) : q.length ≤ b.length := by
  obtain ⟨_, _, h, _⟩ := number_some h
  rw [h, List.length_drop]; omega
theorem take_len {n : Nat} {b t q : List UInt8} (h : take n b = some (t, q)) : q.length ≤ b.length := by
  obtain ⟨_, _, h⟩ := take_some h
  rw [h, List.length_drop]; omega
theorem rtext_len {b t q : List UInt8} (h : rtext b = some (t, q)) : q.length ≤ b.length ∧ t.length ≤ b.length := by
  obtain ⟨n, r, h1, h2⟩ := rtext_some h
  have e1 := number_len h1
  have e2 := take_len h2
  obtain ⟨_, h3, _⟩ := take_some h2
  rw [h3, List.length_take]; omega
theorem rrow_some {right : En → Bool} {b q : List UInt8} {e : En} (h : rrow right b = some (e, q)) : ∃ kb b1 m b2 t b3 n b4, take 1 b = some (kb, b1) ∧ number b1 = some (m, b2) ∧ number b2 = some (t, b3) ∧ rtext b3 = some (n, b4) ∧ rtail ⟨((kb.headD 0).toNat : Int), m, t, n, [], []⟩ b4 = some (e, q) ∧ right e = true := by
  unfold rrow at h
  split at h
  · rename_i e0 b0 hh
    unfold rhead at hh
    split at hh
    · rename_i kb b1 h1
      split at hh
      · rename_i m b2 h2
        split at hh
        · rename_i t b3 h3
          split at hh
          · rename_i n b4 h4
            simp only [Option.some.injEq, Prod.mk.injEq] at hh
            obtain ⟨rfl, rfl⟩ := hh
            split at h
            · rename_i e1 b5 h5
              split at h
              · rename_i hr
                simp only [Option.some.injEq, Prod.mk.injEq] at h
                obtain ⟨rfl, rfl⟩ := h
                exact ⟨kb, b1, m, b2, t, b3, n, b4, h1, h2, h3, h4, h5, hr⟩
              · cases h
            · cases h
          · cases hh
        · cases hh
      · cases hh
    · cases hh
  · cases h
theorem rtail_0 {e0 e : En} {b q : List UInt8} (k : e0.kind = 0) (h : rtail e0 b = some (e, q)) : ∃ n r l, number b = some (n, r) ∧ rsums n r = some (l, q) ∧ e = { e0 with sums := l } := by
  unfold rtail at h
  rw [if_pos k] at h
  split at h
  · rename_i n r hn
    split at h
    · rename_i l q' hl
      simp only [Option.some.injEq, Prod.mk.injEq] at h
      obtain ⟨rfl, rfl⟩ := h
      exact ⟨n, r, l, hn, hl, rfl⟩
    · cases h
  · cases h
theorem rtail_2 {e0 e : En} {b q : List UInt8} (k : e0.kind = 2) (h : rtail e0 b = some (e, q)) : ∃ l, rtext b = some (l, q) ∧ e = { e0 with link := l } := by
  unfold rtail at h
  rw [if_neg (by omega), if_pos k] at h
  split at h
  · rename_i l q' hl
    simp only [Option.some.injEq, Prod.mk.injEq] at h
    obtain ⟨rfl, rfl⟩ := h
    exact ⟨l, hl, rfl⟩
  · cases h
theorem rtail_1 {e0 e : En} {b q : List UInt8} (k0 : e0.kind ≠ 0) (k2 : e0.kind ≠ 2) (h : rtail e0 b = some (e, q)) : e = e0 ∧ q = b := by
  unfold rtail at h
  rw [if_neg k0, if_neg k2] at h
  simp only [Option.some.injEq, Prod.mk.injEq] at h
  exact ⟨h.1.symm, h.2.symm⟩
theorem rsums_s {n : Nat} {b q : List UInt8} {l : List I32} (h : rsums (n + 1) b = some (l, q)) : ∃ i l', take 32 b = some (i.l, b.drop 32) ∧ rsums n (b.drop 32) = some (l', q) ∧ l = i :: l' := by
  rw [rsums] at h
  split at h
  · rename_i hb
    split at h
    · rename_i l' q' hl
      simp only [Option.some.injEq, Prod.mk.injEq] at h
      obtain ⟨rfl, rfl⟩ := h
      exact ⟨⟨b.take 32, by rw [List.length_take]; omega⟩, l', by unfold take; rw [if_pos hb], hl, rfl⟩
    · cases h
  · cases h
theorem rsums_0 {b q : List UInt8} {l : List I32} (h : rsums 0 b = some (l, q)) : l = [] ∧ q = b := by
  rw [rsums] at h
  simp only [Option.some.injEq, Prod.mk.injEq] at h
  exact ⟨h.1.symm, h.2.symm⟩
theorem rsums_len : ∀ {n : Nat} {b q : List UInt8} {l : List I32}, rsums n b = some (l, q) → l.length = n ∧ 32 * n ≤ b.length
  | 0, b, q, l, h => by obtain ⟨rfl, rfl⟩ := rsums_0 h; simp
  | n + 1, b, q, l, h => by
    obtain ⟨i, l', h1, h2, rfl⟩ := rsums_s h
    have h3 := rsums_len h2
    have h4 := (take_some h1).1
    rw [List.length_drop] at h3
    rw [List.length_cons]; omega
end L
attribute [local irreducible] oMv oV oU oCall oCallV oBi oBin oUn oLoad oStore oNil oFld oField oIdx oIndex oPick oAlloc oBox oBuild oBs oConv oMk oSl oExt oFn oIface oMap oLook oMapUp oRange oNext oEntry oInv oAssert oPanic oRes pN pA pL pDr pIf gA pGd Calls C.put C.get L.number L.take L.rtext
section
variable [Pan] {E w W : World} {K Q : Value → World → Prop} {LL M N N' : List HA} {b q : List UInt8} {s s2 : Sl} {r : Nat}

theorem form_ok (hQ : Q (.tuple #[]) w) : Calls Tryz.prog 132 #[.bool true] w (retP Q) := by
  refine snap_form.calls ?_
  unfold snap_form.F
  repeat' (first | refine pIf_f ?_ | refine pN_v (hk := ?_) | fail)
  exact hQ

theorem rtake_ok (hS : Sat E w LL) [hf : Fnd (cel r) LL (rdO s b) M] [hr : Rds cd_uint8 M s b] (n : Nat) {t : List UInt8} (h : L.take n b = some (t, q))
    (hQ : ∀ s1 s2, Part cd_uint8 s b s1 t → Part cd_uint8 s b s2 q → ∀ w, Sat E w (rdP r s2 q :: M) → Q (.slice s1.a n s1.c) w) :
    Calls Tryz.prog 180 #[.pointer (some ⟨r, 0, none⟩), .int .i64 n] w (retP Q) := by
  refine snap_reader_take.calls ?_
  unfold snap_reader_take.F
  obtain ⟨hn, rfl, rfl⟩ := L.take_some h
  have hS1 := hS.fd (cel r)
  clear hS hf
  have hS := hS1
  clear hS1
  have hdl : (b.drop n).length = b.length - n := List.length_drop
  repeat' (first | (refine pc_snap_form (form_ok ?_)) | (refine pN_slh (C := cd_uint8) (s := s) (l := b) hS n rfl rfl hn ?_; intro s1 hp1) | (refine pN_sl1 (C := cd_uint8) (s := s) (l := b) hS n rfl rfl hn ?_; intro s2 hp2) | (refine pN_leq_s ?_ ?_ <;> intro hc <;> try (exfalso; omega)) | refine pN_l hS (by first | rfl | assumption) ?_ | (refine pN_s hS (by first | exact Nat.le_of_ble_eq_true rfl | assumption) (by rfl) ?_; clear hS; intro w hS; try simp only [List.set_cons_zero, List.set_cons_succ] at hS) | refine pN_v (hk := ?_) | fail)
  rw [← hdl] at hS
  exact hQ _ _ hp1 hp2 _ hS

theorem rnum_ok (hS : Sat E w LL) [hf : Fnd (cel r) LL (rdO s b) M] [hr : Rds cd_uint8 M s b] (hbl : b.length < 4611686018427387904) {v : Nat} (h : L.number b = some (v, q))
    (hQ : ∀ s2, Part cd_uint8 s b s2 q → ∀ w, Sat E w (rdP r s2 q :: M) → Q (.int .i64 v) w) :
    Calls Tryz.prog 130 #[.pointer (some ⟨r, 0, none⟩)] w (retP Q) := by
  refine snap_reader_number.calls ?_
  unfold snap_reader_number.F
  obtain ⟨h0, hv, hq, hn, hv2⟩ := L.number_some h
  have hS1 := hS.fd (cel r)
  clear hS hf
  have hS := hS1
  clear hS1
  have hdl : (b.drop (C.get 0 0 b).2.1).length = b.length - (C.get 0 0 b).2.1 := List.length_drop
  rw [← hq] at hdl
  repeat' (first | (refine pc_varint_Get (VGet_ok hS hbl ?_); rw [h0, ← hv]; clear hS; intro w hS; generalize (C.get 0 0 b).2.1 = n at *) | (refine pc_snap_form (form_ok ?_)) | (refine pN_sl1 (C := cd_uint8) (s := s) (l := b) hS _ rfl rfl hn ?_; intro s2 hp2; rw [← hq] at hp2) | (refine pN_eql_s ?_ ?_ <;> intro hc <;> try (exfalso; first | omega | exact hc rfl | exact hc (by assumption) | exact absurd hc (by assumption))) | refine pN_l hS (by first | rfl | assumption) ?_ | (refine pN_s hS (by first | exact Nat.le_of_ble_eq_true rfl | assumption) (by rfl) ?_; clear hS; intro w hS; try simp only [List.set_cons_zero, List.set_cons_succ] at hS) | refine pN_v (hk := ?_) | fail)
  rw [← hdl] at hS
  exact hQ _ hp2 _ hS

theorem rtxt_ok (hS : Sat E w LL) [hf : Fnd (cel r) LL (rdO s b) M] [hr : Rds cd_uint8 M s b] (hbl : b.length < 4611686018427387904) {t : List UInt8} (h : L.rtext b = some (t, q))
    (hQ : ∀ s2, Part cd_uint8 s b s2 q → ∀ w, Sat E w (rdP r s2 q :: M) → Q (.string ⟨t.toArray⟩) w) :
    Calls Tryz.prog 181 #[.pointer (some ⟨r, 0, none⟩)] w (retP Q) := by
  refine snap_reader_text.calls ?_
  unfold snap_reader_text.F
  obtain ⟨n, r1, hnum, htk⟩ := L.rtext_some h
  refine pc_snap_reader_number (rnum_ok hS hbl hnum ?_)
  clear hS
  intro s3 hp3 w hS
  haveI := hp3.rd M hr
  refine pc_snap_reader_take (rtake_ok hS n htk ?_)
  clear hS
  intro s4 s5 hp4 hp5 w hS
  haveI := hp4.rd M inferInstance
  have htl : t.length = n := by
    obtain ⟨h1, h2, _⟩ := L.take_some htk
    rw [h2, List.length_take]; omega
  repeat' (first | refine pN_st hS (by first | rfl | omega | simpa only [go_sem] using True.intro | (simp only [go_sem]; omega)) ?_ | fail)
  exact hQ _ (hp3.trans hp5) _ hS

abbrev enC (n l : List UInt8) (k m t : Int) (s : Sl) (j : Nat) : List Value := [.string ⟨n.toArray⟩, .string ⟨l.toArray⟩, .int .i64 k, .int .i64 m, .int .i64 t, .slice none 0 0, .slice s.a j s.c]
set_option maxHeartbeats 4000000 in
theorem rent_ok (hS : Sat E w LL) [hf : Fnd (cel r) LL (rdO s b) M] [hr : Rds cd_uint8 M s b] (hbl : b.length ≤ 140737488355328) {e : L.En} (h : L.rrow S.right b = some (e, q))
    (hQ : ∀ ss s2, Part cd_uint8 s b s2 q → ∀ w, Sat E w (rows (cdI 58) ss e.sums :: rdP r s2 q :: M) → Q (.agg (enC e.name e.link e.kind e.mode e.time ss e.sums.length).toArray) w) :
    Calls Tryz.prog 131 #[.pointer (some ⟨r, 0, none⟩)] w (retP Q) := by
  refine snap_reader_entry.calls ?_
  unfold snap_reader_entry.F
  obtain ⟨kb, b1, m, b2, t, b3, n, b4, h1, h2, h3, h4, h5, hright⟩ := L.rrow_some h
  clear h
  have hS1 := hS.fd (cel r)
  clear hS hf
  have hS := hS1
  clear hS1
  refine pN_nz hS ?_
  clear hS
  intro x2 w hS
  refine pN_nz hS ?_
  clear hS
  intro x3 w hS
  refine pc_snap_reader_take (rtake_ok hS 1 h1 ?_)
  clear hS
  intro s1 s2 hp1 hp2 w hS
  obtain ⟨hb1, hkb, hq1⟩ := L.take_some h1
  obtain ⟨c0, hc0⟩ : ∃ c0, kb = [c0] := by
    cases hb : b with
    | nil => rw [hb] at hb1; simp at hb1
    | cons c0 bb => exact ⟨c0, by rw [hkb, hb]; rfl⟩
  subst hc0
  haveI := hp1.rd M hr
  have hkk : ((([c0] : List UInt8).headD 0).toNat : Int) = (c0.toNat : Int) := rfl
  rw [hkk] at h5
  have hk0 : ([c0] : List UInt8)[0]? = some c0 := rfl
  have l1 := L.take_len h1
  have l2 := L.number_len h2
  have l3 := L.number_len h3
  have l4 := L.rtext_len h4
  haveI := hp2.rd M hr
  repeat' (first | refine pN_ofb ?_ | refine pN_ld1 ha hS ?_ | (refine pN_s hS (by first | exact Nat.le_of_ble_eq_true rfl | assumption) (by rfl) ?_; clear hS; intro w hS; try simp only [List.set_cons_zero, List.set_cons_succ] at hS) | refine pN_ixk hS _ (by first | rfl | (exact (Int.toNat_of_nonneg (by omega)).symm)) (by first | rfl | omega | simpa only [go_sem] using True.intro | (simp only [go_sem]; omega)) (by assumption) fun a ha hel => ?_ | refine pN_v (hk := ?_) | fail)
  refine pc_snap_reader_number (rnum_ok hS (by omega) h2 ?_)
  clear hS
  intro s3 hp3 w hS
  have hp3 := hp2.trans hp3
  haveI := hp3.rd M hr
  repeat' (first | (refine pN_s hS (by first | exact Nat.le_of_ble_eq_true rfl | assumption) (by rfl) ?_; clear hS; intro w hS; try simp only [List.set_cons_zero, List.set_cons_succ] at hS) | refine pN_v (hk := ?_) | fail)
  refine pc_snap_reader_number (rnum_ok hS (by omega) h3 ?_)
  clear hS
  intro s4 hp4 w hS
  have hp4 := hp3.trans hp4
  haveI := hp4.rd M hr
  repeat' (first | (refine pN_s hS (by first | exact Nat.le_of_ble_eq_true rfl | assumption) (by rfl) ?_; clear hS; intro w hS; try simp only [List.set_cons_zero, List.set_cons_succ] at hS) | refine pN_v (hk := ?_) | fail)
  refine pc_snap_reader_text (rtxt_ok hS (by omega) h4 ?_)
  clear hS
  intro s5 hp5 w hS
  have hp5 := hp4.trans hp5
  haveI := hp5.rd M hr
  repeat' (first | (refine pN_s hS (by first | exact Nat.le_of_ble_eq_true rfl | assumption) (by rfl) ?_; clear hS; intro w hS; try simp only [List.set_cons_zero, List.set_cons_succ] at hS) | refine pN_v (hk := ?_) | fail)
  obtain ⟨zc, hzc⟩ : ∃ zc, zc = [Value.string ⟨#[]⟩, .string ⟨#[]⟩, .int .i64 0, .int .i64 0, .int .i64 0, .slice none 0 0, .slice none 0 0] := ⟨_, rfl⟩
  have hS : Sat E w (cel x3 ⟨118, enC n [] c0.toNat m t ⟨none, 0⟩ 0⟩ :: rdP r s5 b4 :: cel x2 ⟨118, zc⟩ :: M) := by subst hzc; exact hS.to
  clear hp1 hp2 hp3 hp4 h1 h2 h3 h4
  refine ⟨fun w => ∃ ss s2, Part cd_uint8 s b s2 q ∧ Sat E w (cel x3 ⟨118, enC e.name e.link e.kind e.mode e.time ss e.sums.length⟩ :: rows (cdI 58) ss e.sums :: rdP r s2 q :: cel x2 ⟨118, zc⟩ :: M), ?_, ?_⟩
  · by_cases k0 : (c0.toNat : Int) = 0
    · obtain ⟨cnt, b5, l, h6, h7, rfl⟩ := L.rtail_0 k0 h5
      have l5 := L.number_len h6
      obtain ⟨l6, l7⟩ := L.rsums_len h7
      repeat' (first | (refine pN_eql_s ?_ ?_ <;> intro hc <;> try (exfalso; first | omega | exact hc rfl | exact hc (by assumption) | exact absurd hc (by assumption))) | refine pIf_t ?_ | refine pN_l hS (by first | rfl | assumption) ?_ | refine pN_v (hk := ?_) | fail)
      refine pc_snap_reader_number (rnum_ok hS (by omega) h6 ?_)
      clear hS
      intro s6 hp6 w hS
      have hp6 := hp5.trans hp6
      refine ⟨fun v w => ∃ (j : Nat) (l0 l1 : List I32) (bj : List UInt8) (sj ss : Sl), v = .int .i64 j ∧ l = l0 ++ l1 ∧ l0.length = j ∧ L.rsums l1.length bj = some (l1, q) ∧ Part cd_uint8 s b sj bj ∧
        Sat E w (cel x3 ⟨118, enC n [] c0.toNat m t ss l0.length⟩ :: rows (cdI 58) ss l0 :: rdP r sj bj :: cel x2 ⟨118, zc⟩ :: M), fun v _ => cnt - (RowKit.intOf v).toNat,
        ⟨0, [], l, b5, s6, ⟨none, 0⟩, rfl, rfl, rfl, by rw [l6]; exact h7, hp6, ?_⟩, ?_⟩
      · have h8 : Sat E w (rows (cdI 58) ⟨none, 0⟩ [] :: _) := hS.nil (cdI 58).e (cdI 58).size
        exact h8.to
      clear hS
      rintro _ _ w ⟨j, l0, l1, bj, sj, ss, rfl, hl, hj, hrs, hpj, hS⟩
      have hll := congrArg List.length hl
      rw [List.length_append] at hll
      cases l1 with
      | cons i l1 =>
        rw [List.length_cons] at hll hrs
        obtain ⟨i2, l2', h8, h9, h10⟩ := L.rsums_s hrs
        obtain ⟨rfl, rfl⟩ := List.cons.inj h10
        haveI := hpj.rd M hr
        repeat' (first | (refine pN_lss_s ?_ ?_ <;> intro hc <;> try (exfalso; omega)) | refine pIf_t ?_ | refine pL_l hS (by first | rfl | assumption) ?_ | (refine pDr_go hS ?_; clear hS; intro w hS) | refine pA_v (hk := ?_) | fail)
        refine pc_snap_reader_take (rtake_ok hS 32 h8 ?_)
        clear hS
        intro sa sb hpa hpb w hS
        haveI := hpa.rd M inferInstance
        refine ⟨⟨run_l hS rfl, trivial⟩, ?_⟩
        refine pN_arat Tryz.underlying58 (Nat.le_refl _) ?_
        refine ⟨⟨run_l hS rfl, trivial⟩, ?_⟩
        refine pL_arld (s := sa) hS i ?_
        refine pN_b1 (x := i) hS rfl (by decide) ?_
        clear hS
        intro sc w hS
        refine ⟨⟨run_l hS rfl, trivial⟩, ?_⟩
        repeat' (first | (refine pN_s hS (by first | exact Nat.le_of_ble_eq_true rfl | assumption) (by rfl) ?_; clear hS; intro w hS; try simp only [List.set_cons_zero, List.set_cons_succ] at hS) | refine ⟨trivial, ?_⟩ | (refine pN_app hS (by first | rfl | omega | simpa only [go_sem] using True.intro | (simp only [go_sem]; omega)) (by first | rfl | omega | simpa only [go_sem] using True.intro | (simp only [go_sem]; omega)) (by first | omega | (simp only [go_sem]; omega)) ?_; clear hS; intro s w hS) | refine pN_v (hk := ?_) | refine pA_v (hk := ?_) | fail)
        refine ⟨⟨j + 1, l0 ++ [i], l1, _, sb, s, rfl, by rw [hl, List.append_assoc]; rfl, by rw [List.length_append, hj]; rfl, h9, hpj.trans hpb, hS.to⟩, by simp [RowKit.intOf] <;> omega⟩
      | nil =>
        obtain ⟨_, rfl⟩ := L.rsums_0 hrs
        rw [List.append_nil] at hl
        subst hl
        rw [List.length_nil] at hll
        repeat' (first | (refine pN_lss_s ?_ ?_ <;> intro hc <;> try (exfalso; omega)) | refine pIf_f ?_ | fail)
        exact ⟨ss, sj, hpj, hS.to⟩
    · by_cases k2 : (c0.toNat : Int) = 2
      · obtain ⟨lk, h6, rfl⟩ := L.rtail_2 k2 h5
        repeat' (first | (refine pN_eql_s ?_ ?_ <;> intro hc <;> try (exfalso; first | omega | exact hc rfl | exact hc (by assumption) | exact absurd hc (by assumption))) | refine pIf_t ?_ | refine pIf_f ?_ | refine pN_l hS (by first | rfl | assumption) ?_ | refine pN_v (hk := ?_) | fail)
        refine pc_snap_reader_text (rtxt_ok hS (by omega) h6 ?_)
        clear hS
        intro s6 hp6 w hS
        have hp6 := hp5.trans hp6
        repeat' (first | (refine pN_s hS (by first | exact Nat.le_of_ble_eq_true rfl | assumption) (by rfl) ?_; clear hS; intro w hS; try simp only [List.set_cons_zero, List.set_cons_succ] at hS) | refine pN_v (hk := ?_) | fail)
        have h8 : Sat E w (rows (cdI 58) ⟨none, 0⟩ [] :: _) := hS.nil (cdI 58).e (cdI 58).size
        exact ⟨⟨none, 0⟩, s6, hp6, h8.to⟩
      · obtain ⟨rfl, rfl⟩ := L.rtail_1 k0 k2 h5
        repeat' (first | (refine pN_eql_s ?_ ?_ <;> intro hc <;> try (exfalso; first | omega | exact hc rfl | exact hc (by assumption) | exact absurd hc (by assumption))) | refine pIf_f ?_ | refine pN_l hS (by first | rfl | assumption) ?_ | refine pN_v (hk := ?_) | fail)
        have h8 : Sat E w (rows (cdI 58) ⟨none, 0⟩ [] :: _) := hS.nil (cdI 58).e (cdI 58).size
        exact ⟨⟨none, 0⟩, s5, hp5, h8.to⟩
  · have hen : e.name.length ≤ 140737488355328 ∧ e.link.length ≤ 140737488355328 := by
      by_cases k0 : (c0.toNat : Int) = 0
      · obtain ⟨cnt, b5, l, h6, h7, rfl⟩ := L.rtail_0 k0 h5
        exact ⟨by show n.length ≤ _; omega, by show ([] : List UInt8).length ≤ _; simp⟩
      · by_cases k2 : (c0.toNat : Int) = 2
        · obtain ⟨lk, h6, rfl⟩ := L.rtail_2 k2 h5
          have := L.rtext_len h6
          exact ⟨by show n.length ≤ _; omega, by show lk.length ≤ _; omega⟩
        · obtain ⟨rfl, rfl⟩ := L.rtail_1 k0 k2 h5
          exact ⟨by show n.length ≤ _; omega, by show ([] : List UInt8).length ≤ _; simp⟩
    have hw0 : A.wrong (S.bare e) = 0 := of_decide_eq_true hright
    clear hS
    rintro _ w ⟨ss, s2, hp, hS⟩
    subst hzc
    haveI hnil : ∀ L, Rds cd_uint8 L (S.bare e).Data.1 (S.bare e).Data.2 := fun L => Rds.nil
    repeat' (first | refine pN_la_at (n := 6) hS (S.bare e).enc rfl rfl ?_ | (refine pc_tar_Put (Put_ok (S.bare e) hen.1 hen.2 hS (fun hne => absurd hw0 hne) fun _ sp w hS => ?_)) | (refine pc_snap_form (form_ok ?_)) | (refine pN_eql_s ?_ ?_ <;> intro hc <;> try (exfalso; first | omega | exact hc rfl | exact hc (by assumption) | exact absurd hc (by assumption))) | refine pN_la hS (by rfl) ?_ | refine pL_ra hS (by rfl) ?_ | (refine pN_sa hS (by rfl) (by rfl) (by rfl) ?_; clear hS; intro w hS; try dsimp only at hS) | refine pN_v (hk := ?_) | fail)
    exact hQ _ _ hp _ hS.to
end
end Go.Proofs.YtikmogfhhggafaaGreatDoor

namespace Go.Proofs.YtikmogfhhggafaaGreatDoor
open Go
namespace L
theorem rrows_s {right : En → Bool} {n : Nat} {last : Option (List UInt8)} {b q : List UInt8} {l : List En} (h : rrows right (n + 1) last b = some (l, q)) :
    ∃ e r l', rrow right b = some (e, r) ∧ (match last with | some x => Op.bytesLess x e.name | none => true) = true ∧ rrows right n (some e.name) r = some (l', q) ∧ l = e :: l' := by
  rw [rrows] at h
  cases hr : rrow right b with
  | none => rw [hr] at h; cases h
  | some p =>
    obtain ⟨e, r⟩ := p
    rw [hr] at h
    simp only at h
    cases last with
    | none =>
      simp only [if_true] at h
      cases hl : rrows right n (some e.name) r with
      | none => rw [hl] at h; cases h
      | some p2 =>
        obtain ⟨l', q'⟩ := p2
        rw [hl] at h
        simp only [Option.some.injEq, Prod.mk.injEq] at h
        obtain ⟨rfl, rfl⟩ := h
        exact ⟨e, r, l', rfl, rfl, hl, rfl⟩
    | some x =>
      by_cases hc : Op.bytesLess x e.name = true
      · simp only [hc, if_true] at h
        cases hl : rrows right n (some e.name) r with
        | none => rw [hl] at h; cases h
        | some p2 =>
          obtain ⟨l', q'⟩ := p2
          rw [hl] at h
          simp only [Option.some.injEq, Prod.mk.injEq] at h
          obtain ⟨rfl, rfl⟩ := h
          exact ⟨e, r, l', rfl, hc, hl, rfl⟩
      · simp only [hc] at h; cases h
theorem rrows_0 {right : En → Bool} {last : Option (List UInt8)} {b q : List UInt8} {l : List En} (h : rrows right 0 last b = some (l, q)) : l = [] ∧ q = b := by
  rw [rrows] at h
  simp only [Option.some.injEq, Prod.mk.injEq] at h
  exact ⟨h.1.symm, h.2.symm⟩
theorem rrow_len {right : En → Bool} {b q : List UInt8} {e : En} (h : rrow right b = some (e, q)) : q.length + 1 ≤ b.length := by
  obtain ⟨kb, b1, m, b2, t, b3, n, b4, h1, h2, h3, h4, h5, _⟩ := rrow_some h
  have e0 := (take_some h1).1
  have e1 : b1.length = b.length - 1 := by rw [(take_some h1).2.2, List.length_drop]
  have e2 := number_len h2
  have e3 := number_len h3
  have e4 := (rtext_len h4).1
  have e5 : q.length ≤ b4.length := by
    by_cases k0 : ((kb.headD 0).toNat : Int) = 0
    · obtain ⟨cnt, b5, l, h6, h7, _⟩ := rtail_0 k0 h5
      have := number_len h6
      have h8 : ∀ {n : Nat} {b q : List UInt8} {l : List I32}, rsums n b = some (l, q) → q.length ≤ b.length := by
        intro n
        induction n with
        | zero => intro b q l h; obtain ⟨_, rfl⟩ := rsums_0 h; exact Nat.le_refl _
        | succ n ih =>
          intro b q l h
          obtain ⟨i, l', _, h2, _⟩ := rsums_s h
          have := ih h2
          rw [List.length_drop] at this
          omega
      have := h8 h7
      omega
    · by_cases k2 : ((kb.headD 0).toNat : Int) = 2
      · obtain ⟨lk, h6, _⟩ := rtail_2 k2 h5
        exact (rtext_len h6).1
      · obtain ⟨_, rfl⟩ := rtail_1 k0 k2 h5
        exact Nat.le_refl _
  omega
theorem rrows_len {right : En → Bool} : ∀ {n : Nat} {last : Option (List UInt8)} {b q : List UInt8} {l : List En}, rrows right n last b = some (l, q) → l.length = n ∧ n ≤ b.length
  | 0, last, b, q, l, h => by obtain ⟨rfl, _⟩ := rrows_0 h; exact ⟨rfl, Nat.zero_le _⟩
  | n + 1, last, b, q, l, h => by
    obtain ⟨e, r, l', h1, _, h2, rfl⟩ := rrows_s h
    obtain ⟨h3, h4⟩ := rrows_len h2
    have := rrow_len h1
    exact ⟨by rw [List.length_cons, h3], by omega⟩
theorem rlist_some {right : En → Bool} {b : List UInt8} {l : List En} (h : rlist right b = some l) : ∃ n r, number b = some (n, r) ∧ rrows right n none r = some (l, []) ∧ n = l.length ∧ n ≤ b.length := by
  unfold rlist at h
  split at h
  · rename_i n r hn
    split at h
    · rename_i l' q' hl
      split at h
      · rename_i hq
        simp only [Option.some.injEq] at h
        subst h hq
        obtain ⟨h1, h2⟩ := rrows_len hl
        have := number_len hn
        exact ⟨n, r, hn, hl, h1.symm, by omega⟩
      · cases h
    · cases h
  · cases h
end L
def eeR (ee : List EE) : List HA := ee.map fun p => rows (cdI 58) p.2.1 p.2.2
theorem eeR_snoc {E w : World} {M : List HA} {ee : List EE} (p : EE) (hS : Sat E w (rows (cdI 58) p.2.1 p.2.2 :: bag (eeR ee) :: M)) : Sat E w (bag (eeR (ee ++ [p])) :: M) := by
  have h1 := (hS.perm (List.Perm.swap _ _ _)).openBag
  have e : eeR ee ++ (rows (cdI 58) p.2.1 p.2.2 :: M) = eeR (ee ++ [p]) ++ M := by simp [eeR]
  rw [e] at h1
  exact h1.shutBag
theorem eeR_rd {ee : List EE} {p : EE} (h : p ∈ ee) : RdP (cdI 58) (bag (eeR ee)) p.2.1 p.2.2 := ⟨fun w ⟨h1, hN, hh⟩ => by
  obtain ⟨h2, hA, hs⟩ := Sats.mem (List.mem_map.2 ⟨p, h, rfl⟩ : rows (cdI 58) p.2.1 p.2.2 ∈ eeR ee) hN
  exact RdA.own w ⟨h2, hA, fun b o e => hh b o (hs b o e)⟩⟩
theorem bare_snoc {ee : List EE} {e : L.En} {ss : Sl} (h : ∀ p ∈ ee, p.1 = S.bare (enOf p)) : ∀ p ∈ ee ++ [(S.bare e, (ss, e.sums))], p.1 = S.bare (enOf p) := fun p hp => by
  rcases List.mem_append.1 hp with hp | hp
  · exact h p hp
  · obtain rfl : p = (S.bare e, (ss, e.sums)) := by simpa using hp
    rfl
theorem pN_eqni [Pan] {w : World} {K : Value → World → Prop} {x : Nat} (hk : K (.bool true) w) : pN Tryz.prog (oBin .eql 20 (.tmp x) (.const .nilIface) .nilIface .nilIface) w K := by
  have : (oBin .eql 20 (.tmp x) (.const .nilIface) .nilIface .nilIface).run Tryz.prog w = .ok (.value (.bool true)) w := by kernel_rfl
  rw [pN_def, this]; exact hk
attribute [local irreducible] oMv oV oU oCall oCallV oBi oBin oUn oLoad oStore oNil oFld oField oIdx oIndex oPick oAlloc oBox oBuild oBs oConv oMk oSl oExt oFn oIface oMap oLook oMapUp oRange oNext oEntry oInv oAssert oPanic oRes pN pA pL pDr pIf gA pGd Calls C.put C.get L.number L.take L.rtext L.rrow L.rrows
section
variable {E w W : World} {K Q : Value → World → Prop} {LL M N N' : List HA} {b q : List UInt8} {s s2 : Sl} {r : Nat}

theorem rdC_idle {x2 x3 : Nat} (hS : Sat E w M) (hQ : ∀ w, Sat E w M → Q (.tuple #[]) w) : snap_read_c1.F .nilIface (.pointer (some ⟨x2, 0, none⟩)) (.pointer (some ⟨x3, 0, none⟩)) w Q := by
  unfold snap_read_c1.F
  refine pN_eqni ?_
  repeat' (first | refine pIf_t ?_ | fail)
  exact hQ _ hS

set_option maxHeartbeats 4000000 in
theorem sread_ok [Pan] (hS : Sat E w M) [hr : Rds cd_uint8 M s b] (hbl : b.length ≤ 1099511627776) {es : List L.En} (h : L.rlist S.right b = some es)
    (hQ : ∀ (ee : List EE) se w, ee.map enOf = es → (∀ p ∈ ee, p.1 = S.bare (enOf p)) → Sat E w (rows cdE se ee :: bag (eeR ee) :: M) → Q (.tuple #[.slice se.a ee.length se.c, .int .i64 0]) w) :
    Calls Tryz.prog 101 #[.slice s.a b.length s.c] w (retP Q) := by
  refine snap_read.calls ?_
  unfold snap_read.F
  obtain ⟨n, r1, hnum, hrows, hn, hnb⟩ := L.rlist_some h
  have hl1 := L.number_len hnum
  clear h
  refine pN_nz hS ?_
  clear hS
  intro x2 w hS
  refine pN_nz hS ?_
  clear hS
  intro x3 w hS
  refine pN_fn ?_
  refine pDf_fn ?_
  let Z : Pan := ⟨fun _ _ => False⟩
  refine ⟨Z, fun _ _ h => h.elim, ?_⟩
  repeat' (first | (refine pN_bx hS (by rfl) ?_; clear hS; intro a w hS) | refine pN_v (hk := ?_) | fail)
  revert a
  intro rb hS
  have hS : Sat E w (cel rb (rdO s b) :: cel x3 ⟨38, [.int .i64 0]⟩ :: cel x2 ⟨116, [.slice none 0 0]⟩ :: M) := hS.to
  refine pc_snap_reader_number (rnum_ok hS (by omega) hnum ?_)
  clear hS
  intro s1 hp1 w hS
  refine ⟨fun v w => ∃ (ee : List EE) (rest : List L.En) (bj : List UInt8) (sj se : Sl), v = .int .i64 ee.length ∧ es = ee.map enOf ++ rest ∧ (∀ p ∈ ee, p.1 = S.bare (enOf p)) ∧ L.rrows S.right rest.length (ee.getLast?.map (·.1.Name)) bj = some (rest, []) ∧ Part cd_uint8 s b sj bj ∧ bj.length ≤ b.length ∧
    Sat E w (cel rb (rdO sj bj) :: cel x3 ⟨38, [.int .i64 0]⟩ :: cel x2 ⟨116, [.slice se.a ee.length se.c]⟩ :: rows cdE se ee :: bag (eeR ee) :: M), fun v _ => n - (RowKit.intOf v).toNat,
    ⟨[], es, r1, s1, ⟨none, 0⟩, rfl, rfl, fun p h => (by cases h), by rw [← hn]; exact hrows, hp1, hl1, ?_⟩, ?_⟩
  · have h8 : Sat E w (rows cdE ⟨none, 0⟩ [] :: _) := hS.nil cdE.e cdE.size
    have h9 : Sat E w (bag (eeR []) :: rows cdE ⟨none, 0⟩ [] :: _) := h8.bag_nil
    exact h9.to
  clear hS
  rintro _ _ w ⟨ee, rest, bj, sj, se, rfl, hes, hba, hrr, hpj, hbj, hS⟩
  have hll := congrArg List.length hes
  rw [List.length_append, List.length_map, ← hn] at hll
  cases rest with
  | cons e rest =>
    rw [List.length_cons] at hll hrr
    obtain ⟨e2, r2, rest2, h1, h2, h3, h4⟩ := L.rrows_s hrr
    obtain ⟨rfl, rfl⟩ := List.cons.inj h4
    haveI := hpj.rd M hr
    have hl2 := L.rrow_len h1
    repeat' (first | (refine pN_lss_s ?_ ?_ <;> intro hc <;> try (exfalso; omega)) | refine pIf_t ?_ | fail)
    refine pc_snap_reader_entry (rent_ok hS (by omega) h1 ?_)
    clear hS
    intro ss s2 hp2 w hS
    repeat' (first | (refine pA_eql_s ?_ ?_ <;> intro hc <;> try (exfalso; first | omega | exact hc rfl | exact hc (by assumption) | exact absurd hc (by assumption))) | refine gA_go (by rfl) ?_ | refine gA_no (by rfl) ?_ | refine pL_l hS (by first | rfl | assumption) ?_ | refine pL_ld1 ha hS ?_ | refine pA_fa ha (by rfl) fun a ha => ?_ | (refine pN_sa hS (by rfl) (by rfl) (by rfl) ?_; clear hS; intro w hS; try dsimp only at hS) | (refine pDr_go hS ?_; clear hS; intro w hS) | (refine pN_nz hS ?_; clear hS; intro a w hS) | refine pA_ix hS _ (by first | rfl | (exact (Int.toNat_of_nonneg (by omega)).symm)) (by first | rfl | omega | simpa only [go_sem] using True.intro | (simp only [go_sem]; omega)) (by first | omega | (simp only [go_sem]; omega)) fun a x hx ha hel => ?_ | refine pA_v (hk := ?_) | fail)
    · repeat' (first | (refine pc_snap_form (form_ok ?_)) | (refine pN_b1 (x := (S.bare e, (ss, e.sums))) hS rfl (by decide) ?_; clear hS; intro s3 w hS) | (refine pN_app (C := cdE) (s := se) (l := ee) hS rfl rfl (by rw [List.length_cons, List.length_nil]; omega) ?_; clear hS; intro s4 w hS) | refine pN_l hS (by first | rfl | assumption) ?_ | refine pN_la hS (by rfl) ?_ | (refine pN_s hS (by first | exact Nat.le_of_ble_eq_true rfl | assumption) (by rfl) ?_; clear hS; intro w hS; try simp only [List.set_cons_zero, List.set_cons_succ] at hS) | refine ⟨trivial, ?_⟩ | refine pN_v (hk := ?_) | fail)
      have hS : Sat E w (rows (cdI 58) ss e.sums :: bag (eeR ee) :: cel rb (rdO s2 r2) :: cel x3 ⟨38, [.int .i64 0]⟩ :: cel x2 ⟨116, [.slice s4.a (ee ++ [(S.bare e, (ss, e.sums))]).length s4.c]⟩ :: rows cdE s4 (ee ++ [(S.bare e, (ss, e.sums))]) :: M) := hS.to
      have hS := eeR_snoc (S.bare e, (ss, e.sums)) hS
      refine ⟨⟨ee ++ [(S.bare e, (ss, e.sums))], rest, r2, s2, s4, by rw [List.length_append]; rfl, by rw [List.map_append, List.append_assoc]; exact hes, bare_snoc hba, by rw [List.getLast?_concat]; exact h3, hpj.trans hp2, by omega, hS.to⟩, by simp [RowKit.intOf] <;> omega⟩
    · have hgl : ee.getLast? = some x := by
        rw [List.getLast?_eq_getElem?]
        have e1 : ((ee.length : Int) - 1).toNat = ee.length - 1 := by omega
        rw [e1] at hx
        exact hx
      rw [hgl] at h2
      have h2 : Op.bytesLess x.1.Name e.name = true := h2
      rw [h2]
      repeat' (first | (refine pc_snap_form (form_ok ?_)) | (refine pN_b1 (x := (S.bare e, (ss, e.sums))) hS rfl (by decide) ?_; clear hS; intro s3 w hS) | (refine pN_app (C := cdE) (s := se) (l := ee) hS rfl rfl (by rw [List.length_cons, List.length_nil]; omega) ?_; clear hS; intro s4 w hS) | refine pN_l hS (by first | rfl | assumption) ?_ | refine pN_la hS (by rfl) ?_ | (refine pN_s hS (by first | exact Nat.le_of_ble_eq_true rfl | assumption) (by rfl) ?_; clear hS; intro w hS; try simp only [List.set_cons_zero, List.set_cons_succ] at hS) | refine ⟨trivial, ?_⟩ | refine pN_v (hk := ?_) | fail)
      have hS : Sat E w (rows (cdI 58) ss e.sums :: bag (eeR ee) :: cel rb (rdO s2 r2) :: cel x3 ⟨38, [.int .i64 0]⟩ :: cel x2 ⟨116, [.slice s4.a (ee ++ [(S.bare e, (ss, e.sums))]).length s4.c]⟩ :: rows cdE s4 (ee ++ [(S.bare e, (ss, e.sums))]) :: M) := hS.to
      have hS := eeR_snoc (S.bare e, (ss, e.sums)) hS
      refine ⟨⟨ee ++ [(S.bare e, (ss, e.sums))], rest, r2, s2, s4, by rw [List.length_append]; rfl, by rw [List.map_append, List.append_assoc]; exact hes, bare_snoc hba, by rw [List.getLast?_concat]; exact h3, hpj.trans hp2, by omega, hS.to⟩, by simp [RowKit.intOf] <;> omega⟩
  | nil =>
    obtain ⟨_, hbn⟩ := L.rrows_0 hrr
    subst hbn
    rw [List.append_nil] at hes
    rw [List.length_nil, Nat.add_zero] at hll
    repeat' (first | refine pc_snap_form (form_ok ?_) | (refine pN_lss_s ?_ ?_ <;> intro hc <;> try (exfalso; omega)) | (refine pN_eql_s ?_ ?_ <;> intro hc <;> try (exfalso; first | omega | exact hc rfl | exact hc (by assumption) | exact absurd hc (by assumption))) | refine pIf_f ?_ | refine pN_l hS (by first | rfl | assumption) ?_ | (refine pN_s hS (by first | exact Nat.le_of_ble_eq_true rfl | assumption) (by rfl) ?_; clear hS; intro w hS; try simp only [List.set_cons_zero, List.set_cons_succ] at hS) | refine pN_v (hk := ?_) | fail)
    refine dE_of call_snap_read_c1 (u2 := .returning) (cap := [.pointer (some ⟨x2, 0, none⟩), .pointer (some ⟨x3, 0, none⟩)]) (args := []) (Q := fun r w => Sat E w (cel x3 ⟨38, [.int .i64 0]⟩ :: cel x2 ⟨116, [.slice se.a ee.length se.c]⟩ :: cel rb (rdO sj []) :: rows cdE se ee :: bag (eeR ee) :: M)) rfl ?_ (snap_read_c1.idles (rdC_idle hS fun w hS => hS))
    clear hS
    rintro _ w hS
    repeat' (first | refine pL_r hS (by rfl) ?_ | fail)
    exact hQ ee se _ hes.symm hba hS.to
end
end Go.Proofs.YtikmogfhhggafaaGreatDoor

namespace Go.Proofs.YtikmogfhhggafaaGreatDoor
open Go
namespace D
theorem get_pre {d : T} {l : List I32} {b q : B} {j : Nat} (h : d.get l = some b) (h2 : d.get (l.take j) = some q) : q.length ≤ b.length := by
  have h3 := get_app (d := d) (l.take j) (l.drop j)
  rw [List.take_append_drop, h, h2] at h3
  cases h4 : d.get (l.drop j) with
  | none => rw [h4] at h3; cases h3
  | some r =>
    rw [h4] at h3
    have h3 : some b = some (q ++ r) := h3
    rw [Option.some.inj h3, List.length_append]; omega
end D
section
variable [Pan] {P : Program} {J : Value → Prop} {t : TypeId} {xo yo : Operand} {a b : I32}
theorem pA_neq_id [h : A32 P t] (ht : a = b → J (.bool false)) (hf : ¬ a = b → J (.bool true)) : pA P (oBin .neq t xo yo (.agg (bvs a.l).toArray) (.agg (bvs b.l).toArray)) J := by
  refine pA_of (v := .bool (!decide (a = b))) (fun w => run_neq_id w) ?_
  by_cases e : a = b
  · rw [decide_eq_true e]; exact ht e
  · rw [decide_eq_false e]; exact hf e
end
attribute [local irreducible] oMv oV oU oCall oCallV oBi oBin oUn oLoad oStore oNil oFld oField oIdx oIndex oPick oAlloc oBox oBuild oBs oConv oMk oSl oExt oFn oIface oMap oLook oMapUp oRange oNext oEntry oInv oAssert oPanic oRes pN pA pL pDr pIf gA pGd Calls
section
variable [Pan] {E w W : World} {K Q : Value → World → Prop} {LL M N N' : List HA} {b q : List UInt8} {s s2 : Sl} {c : T_api_Config} {db : Nat} {d : D.T} {la lb : List I32} {sa sb : Sl}

theorem slisted_ok (hS : Sat E w LL) [hf : Fnd (Dep c db) LL d N] (n : NKey) {es : List L.En} {root : List I32} (ht : S.Tells d n.1 es root) (hrl : root.length ≤ 1099511627776) (hbl : ∀ q, d.get root = some q → q.length ≤ 1099511627776)
    (hQ : ∀ (ee : List EE) se sr w, ee.map enOf = es → (∀ p ∈ ee, p.1 = S.bare (enOf p)) → Sat E w (rows cdE se ee :: bag (eeR ee) :: rows (cdI 58) sr root :: Dep c db d :: N) → Q (.tuple #[.slice se.a ee.length se.c, .slice sr.a root.length sr.c, .int .i64 0]) w) :
    Calls Tryz.prog 61 #[.pointer (some ⟨db, 0, none⟩), nke n] w (retP Q) := by
  refine snap_listed.calls ?_
  unfold snap_listed.F
  obtain ⟨bs, hg, hrd⟩ := ht.get
  have hb1 := hbl _ hg
  refine pc_depot_Depot_Root (DRoot_ok (c := c) hS n (fun q hq => by rw [ht.ns] at hq; cases hq; exact hrl) (fun hno => by rw [ht.ns] at hno; cases hno) fun q hq => ?_)
  rw [ht.ns] at hq
  cases hq
  clear hS
  intro sr w hS
  repeat' (first | (refine pc_depot_Depot_Get (DGet_ok (c := c) (s := sr) (li := root) hS hrl (fun j q hq => by have := D.get_pre hg hq; omega) (fun hno => by rw [hg] at hno; cases hno) ?_)) | (refine pN_neq_s ?_ ?_ <;> intro hc <;> try (exfalso; first | omega | exact hc rfl | exact hc (by assumption) | exact absurd hc (by assumption))) | refine pIf_f ?_ | refine pN_v (hk := ?_) | fail)
  intro q hq
  rw [hg] at hq
  cases hq
  clear hS
  intro sb w hS
  repeat' (first | (refine pc_snap_read (sread_ok (s := sb) (b := bs) hS hb1 hrd ?_); clear hS; intro ee se w hee hba hS) | (refine pN_neq_s ?_ ?_ <;> intro hc <;> try (exfalso; first | omega | exact hc rfl | exact hc (by assumption) | exact absurd hc (by assumption))) | refine pIf_f ?_ | refine pN_v (hk := ?_) | fail)
  exact hQ ee se sr _ hee hba hS.to
end
end Go.Proofs.YtikmogfhhggafaaGreatDoor

namespace Go.Proofs.YtikmogfhhggafaaGreatDoor
open Go
set_option maxRecDepth 100000

def internal_bytealg_CompareString.F [Pan] (x0 x1 : Value) (w : World) (Q : Value → World → Prop) : Prop :=
 pN Tryz.prog (oCall 178 [x0, x1]) w fun x7 w1 =>
 Q x7 w1
theorem internal_bytealg_CompareString.calls [Pan] {x0 x1 : Value} {w : World} {Q : Value → World → Prop} (h : internal_bytealg_CompareString.F x0 x1 w Q) : Calls Tryz.prog 128 #[x0, x1] w (retP Q) := calls_lift mixed .z [x0, x1] Tryz.func128 (by kernel_rfl) (by kernel_rfl) h

end Go.Proofs.YtikmogfhhggafaaGreatDoor

namespace Go.Proofs.YtikmogfhhggafaaGreatDoor
open Go

theorem cmp_lt : ∀ (l r : List UInt8), decide (Lib.compareBytes l r < 0) = Op.bytesLess l r
  | [], [] => rfl
  | [], _ :: _ => rfl
  | _ :: _, [] => rfl
  | a :: l, b :: r => by
    rw [Lib.compareBytes, Op.bytesLess]
    by_cases h : a < b
    · simp [h]
    · by_cases h2 : b < a
      · have hne : a ≠ b := fun e => by subst e; exact h h2
        simp [h, h2, hne]
      · have e : a = b := by
          rw [UInt8.lt_iff_toNat_lt] at h h2
          exact UInt8.toNat_inj.1 (by omega)
        subst e
        simp [h, cmp_lt l r]
section
variable [Pan] {w : World} {K : Value → World → Prop} {l r : List UInt8}
theorem pN_cms (hk : K (.int .i64 (Lib.compareBytes l r)) w) : pN Tryz.prog (oCall 178 [.string ⟨l.toArray⟩, .string ⟨r.toArray⟩]) w K := by
  have h := run_callFunc_extern (P := Tryz.prog) Tryz.func178 (by kernel_rfl) (by kernel_rfl) (by kernel_rfl) (e := Extern.BytealgCompare.compare) (by kernel_rfl) #[.string ⟨l.toArray⟩, .string ⟨r.toArray⟩] w
  rw [Lib.run_compareString] at h
  have h2 : (oCall 178 [.string ⟨l.toArray⟩, .string ⟨r.toArray⟩]).run Tryz.prog w = .ok (.value (.int .i64 (Lib.compareBytes l r))) w := h
  rw [pN_def, h2, rN_value]
  exact hk
end

attribute [local irreducible] oMv oV oU oCall oCallV oBi oBin oUn oLoad oStore oNil oFld oField oIdx oIndex oPick oAlloc oBox oBuild oBs oConv oMk oSl oExt oFn oIface oMap oLook oMapUp oRange oNext oEntry oInv oAssert oPanic oRes pN pA pL pDr pIf gA pGd Calls
section
variable [Pan] {E w : World} {K Q : Value → World → Prop} {L M : List HA} {l r : List UInt8}

theorem SCompare_ok (hS : Sat E w M) (hQ : ∀ w, Sat E w M → Q (.int .i64 (Lib.compareBytes l r)) w) : Calls Tryz.prog 98 #[.string ⟨l.toArray⟩, .string ⟨r.toArray⟩] w (retP Q) := by
  refine strings_Compare.calls ?_
  unfold strings_Compare.F
  refine pN_callQ Tryz.call128 ?_
  refine internal_bytealg_CompareString.calls ?_
  unfold internal_bytealg_CompareString.F
  refine pN_cms ?_
  exact hQ _ hS

abbrev cmpV (bc : Nat) : Value := .func (.func 97) #[] #[.pointer (some ⟨bc, 0, none⟩)]
theorem itemName_ok (x : T_api_Item) (hS : Sat E w M) (hQ : ∀ w, Sat E w M → Q (.string ⟨x.Name.toArray⟩) w) : Calls Tryz.prog 58 #[.agg x.enc.toArray] w (retP Q) := by
  refine snap_itemName.calls ?_
  unfold snap_itemName.F
  repeat' (first | refine pN_l hS (by first | rfl | assumption) ?_ | (refine pN_bx hS (by rfl) ?_; clear hS; intro a w hS) | refine pN_v (hk := ?_) | fail)
  exact hQ _ hS.to

set_option maxHeartbeats 1000000 in
theorem cmp_ok {bc : Nat} {N : List HA} (x y : T_api_Item) (hS : Sat E w M) [Fnd (cel bc) M ⟨115, [.func (.func 58) #[] #[]]⟩ N] (hQ : ∀ w, Sat E w M → Q (.int .i64 (Lib.compareBytes x.Name y.Name)) w) : pN Tryz.prog (oCallV (cmpV bc) [.agg x.enc.toArray, .agg y.enc.toArray]) w Q := by
  refine pN_callV (cap := [.pointer (some ⟨bc, 0, none⟩)]) call_snap_byName_api_Item__c1 ?_
  refine snap_byName_api_Item__c1.calls ?_
  unfold snap_byName_api_Item__c1.F
  repeat' (first | refine pL_l hS (by first | rfl | assumption) ?_ | refine pL_la hS (by rfl) ?_ | (refine pDr_go hS ?_; clear hS; intro w hS) | (refine pN_bx hS (by rfl) ?_; clear hS; intro a w hS) | fail)
  refine pN_callV (cap := []) call_snap_itemName (itemName_ok x hS ?_)
  clear hS
  intro w hS
  refine ⟨⟨run_la_at (n := 6) hS y.enc rfl rfl, run_l hS (by rfl), trivial⟩, ?_⟩
  refine pN_callV (cap := []) call_snap_itemName (itemName_ok y hS ?_)
  clear hS
  intro w hS
  refine ⟨trivial, pc_strings_Compare (SCompare_ok hS ?_)⟩
  clear hS
  intro w hS
  exact ⟨trivial, hQ _ hS.to⟩
end
section
variable [Pan] {E w W : World} {K Q : Value → World → Prop} {J : Value → Prop} {L M N : List HA} {l r : List T_api_Item} {s s2 : Sl} {b : Nat}

set_option maxHeartbeats 1000000 in
theorem SwapR_ok {A X P Y Z : List T_api_Item} (n : Nat) (cmp : Value) (hx : X.length = n) (hy : Y.length = n) (hS : Sat E w (rows cd_api_Item s (A ++ (X ++ (P ++ (Y ++ Z)))) :: M)) {m : Nat} (hm : m = A.length + n + P.length + n + Z.length) (hb : m ≤ 1099511627776)
    {a b : Nat} (ha : a = A.length) (hbb : b = A.length + n + P.length)
    (hQ : ∀ w, Sat E w (rows cd_api_Item s (A ++ (Y ++ (P ++ (X ++ Z)))) :: M) → Q (.tuple #[]) w) :
    Calls Tryz.prog 219 #[.slice s.a m s.c, .int .i64 a, .int .i64 b, .int .i64 n, cmp] w (retP Q) := by
  refine slices_swapRangeCmpFunc_api_Item_.calls ?_
  unfold slices_swapRangeCmpFunc_api_Item_.F
  rw [← U.swp_0] at hS
  refine ⟨fun v w => ∃ i : Nat, v = .int .i64 i ∧ i ≤ n ∧ Sat E w (rows cd_api_Item s (U.swp A X P Y Z i) :: M), fun v _ => n - (RowKit.intOf v).toNat, ⟨0, rfl, by omega, hS⟩, ?_⟩
  clear hS
  rintro _ _ w ⟨i, rfl, hi, hS⟩
  by_cases hlt : i < n
  · obtain ⟨x, y, h1, h2, h3⟩ := U.swp_step (A := A) (N := P) (Z := Z) hx hy hlt
    have hl := U.swp_len (A := A) (N := P) (Z := Z) (i := i) hx hy
    rw [← hbb] at h2 h3 hl hm
    rw [← ha] at h1 h3
    generalize U.swp A X P Y Z i = D at *
    obtain ⟨z, h4⟩ : ∃ z, (D.set (a + i) y)[b + i]? = some z := ⟨(D.set (a + i) y)[b + i]'(by rw [List.length_set]; omega), List.getElem?_eq_getElem _⟩
    repeat' (first | refine pA_ixk hS (b + i) (by omega) (by rw [List.length_set]; omega) h4 fun ad ha hel => ?_ | refine pA_ixk hS (b + i) (by omega) (by omega) h2 fun ad ha hel => ?_ | refine pA_ixk hS (a + i) (by omega) (by omega) h1 fun ad ha hel => ?_ | (refine pN_srn (x := y) hel hS (by rfl) (by rfl) (by omega) ?_; clear hS; intro w hS) | (refine pN_srn (x := x) hel hS (by rfl) (by rfl) (by rw [List.length_set]; omega) ?_; clear hS; intro w hS) | (refine pN_lss_s ?_ ?_ <;> intro hc <;> try (exfalso; omega)) | refine pIf_t ?_ | refine pL_ld_at ha hS (by rfl) ?_ | (refine pDr_go hS ?_; clear hS; intro w hS) | refine ⟨trivial, ?_⟩ | refine pN_v (hk := ?_) | refine pA_v (hk := ?_) | fail)
    rw [h3] at hS
    exact ⟨⟨i + 1, rfl, by omega, hS⟩, by simp [RowKit.intOf] <;> omega⟩
  · obtain rfl : i = n := by omega
    rw [U.swp_all hx hy] at hS
    repeat' (first | (refine pN_lss_s ?_ ?_ <;> intro hc <;> try (exfalso; omega)) | refine pIf_f ?_ | fail)
    exact hQ _ hS

theorem half (l : List T_api_Item) {k : Nat} (h : k ≤ l.length) : ∃ X Y, l = X ++ Y ∧ X.length = k ∧ Y.length = l.length - k := ⟨l.take k, l.drop k, (List.take_append_drop k l).symm, by rw [List.length_take]; omega, by rw [List.length_drop]⟩

set_option maxHeartbeats 1000000 in
theorem Rotate_ok {A S T Z : List T_api_Item} (cmp : Value) (h1 : 0 < S.length) (h2 : 0 < T.length) (hS : Sat E w (rows cd_api_Item s (A ++ (S ++ (T ++ Z))) :: M)) {n : Nat} (hn : n = A.length + S.length + T.length + Z.length) (hb : n ≤ 1099511627776)
    {a m b : Nat} (ha : a = A.length) (hm : m = A.length + S.length) (hbb : b = A.length + S.length + T.length)
    (hQ : ∀ w, Sat E w (rows cd_api_Item s (A ++ (T ++ (S ++ Z))) :: M) → Q (.tuple #[]) w) :
    Calls Tryz.prog 207 #[.slice s.a n s.c, .int .i64 a, .int .i64 m, .int .i64 b, cmp] w (retP Q) := by
  refine slices_rotateCmpFunc_api_Item_.calls ?_
  unfold slices_rotateCmpFunc_api_Item_.F
  generalize hG : A ++ (T ++ (S ++ Z)) = G at *
  have hi1 : ((m : Int) - (a : Int)) = ((S.length : Nat) : Int) := by omega
  have hi2 : ((b : Int) - (m : Int)) = ((T.length : Nat) : Int) := by omega
  repeat' (first | refine pN_v (hk := ?_) | fail)
  rw [hi1, hi2]
  refine ⟨fun x y w => ∃ (i j : Nat) (A' P R Z' : List T_api_Item), x = .int .i64 i ∧ y = .int .i64 j ∧ P.length = i ∧ R.length = j ∧ 0 < i ∧ 0 < j ∧ m = A'.length + i ∧ n = A'.length + i + j + Z'.length ∧ A' ++ (R ++ (P ++ Z')) = G ∧ Sat E w (rows cd_api_Item s (A' ++ (P ++ (R ++ Z'))) :: M), fun x y _ => (RowKit.intOf x).toNat + (RowKit.intOf y).toNat,
    ⟨_, _, A, S, T, Z, rfl, rfl, rfl, rfl, h1, h2, hm, hn, hG, hS⟩, ?_⟩
  clear hS
  rintro _ _ _ w ⟨i, j, A', P, R, Z', rfl, rfl, hP, hR, hi, hj, hmi, hni, hG', hS⟩
  by_cases hij : i = j
  · subst hij
    have hS : Sat E w (rows cd_api_Item s (A' ++ (P ++ ([] ++ (R ++ Z')))) :: M) := hS
    have he : ((m : Int) - (i : Int)) = ((A'.length : Nat) : Int) := by omega
    repeat' (first | (refine pN_neq_s ?_ ?_ <;> intro hc <;> try (exfalso; first | omega | exact hc rfl | exact hc (by assumption) | exact absurd hc (by assumption))) | refine pIf_f ?_ | refine pN_v (hk := ?_) | fail)
    rw [he]
    refine pc_slices_swapRangeCmpFunc_api_Item_ (SwapR_ok i cmp hP hR hS (by rw [List.length_nil]; omega) hb rfl (by rw [List.length_nil]; omega) ?_)
    clear hS
    intro w hS
    skip
    rw [List.nil_append, hG'] at hS
    exact hQ _ hS
  · by_cases hgt : j < i
    · obtain ⟨P1, P2, rfl, hp1, hp2⟩ := half P (k := j) (by omega)
      rw [hP] at hp2
      have hS : Sat E w (rows cd_api_Item s (A' ++ (P1 ++ (P2 ++ (R ++ Z')))) :: M) := by rw [List.append_assoc] at hS; exact hS
      have he : ((m : Int) - (i : Int)) = ((A'.length : Nat) : Int) := by omega
      have he2 : ((i : Int) - (j : Int)) = ((i - j : Nat) : Int) := by omega
      repeat' (first | (refine pN_gtr_s ?_ ?_ <;> intro hc <;> try (exfalso; omega)) | (refine pN_neq_s ?_ ?_ <;> intro hc <;> try (exfalso; first | omega | exact hc rfl | exact hc (by assumption) | exact absurd hc (by assumption))) | refine pIf_t ?_ | refine pN_v (hk := ?_) | fail)
      rw [he]
      refine pc_slices_swapRangeCmpFunc_api_Item_ (SwapR_ok j cmp hp1 hR hS (by omega) hb rfl (by omega) ?_)
      clear hS
      intro w hS
      repeat' (first | refine pN_v (hk := ?_) | fail)
      rw [he2]
      refine ⟨⟨i - j, j, A' ++ R, P2, P1, Z', rfl, rfl, hp2, hp1, by omega, by omega, by rw [List.length_append]; omega, by rw [List.length_append]; omega, ?_, ?_⟩, by simp [RowKit.intOf] <;> omega⟩
      · rw [← hG']; simp only [List.append_assoc]
      · rw [List.append_assoc]; exact hS
    · obtain ⟨Q1, Q2, rfl, hq1, hq2⟩ := half R (k := j - i) (by omega)
      rw [hR] at hq2
      have hS : Sat E w (rows cd_api_Item s (A' ++ (P ++ (Q1 ++ (Q2 ++ Z')))) :: M) := by rw [List.append_assoc] at hS; exact hS
      have he : ((m : Int) - (i : Int)) = ((A'.length : Nat) : Int) := by omega
      have he2 : ((j : Int) - (i : Int)) = ((j - i : Nat) : Int) := by omega
      have he3 : ((m : Int) + (j : Int) - (i : Int)) = ((A'.length + i + Q1.length : Nat) : Int) := by omega
      repeat' (first | (refine pN_gtr_s ?_ ?_ <;> intro hc <;> try (exfalso; omega)) | (refine pN_neq_s ?_ ?_ <;> intro hc <;> try (exfalso; first | omega | exact hc rfl | exact hc (by assumption) | exact absurd hc (by assumption))) | refine pIf_t ?_ | refine pIf_f ?_ | refine pN_v (hk := ?_) | fail)
      rw [he, he3]
      refine pc_slices_swapRangeCmpFunc_api_Item_ (SwapR_ok i cmp hP (by omega) hS (by omega) hb rfl rfl ?_)
      clear hS
      intro w hS
      repeat' (first | refine pN_v (hk := ?_) | fail)
      rw [he2]
      refine ⟨⟨i, j - i, A', Q2, Q1, P ++ Z', rfl, rfl, by omega, hq1, by omega, by omega, by omega, by rw [List.length_append]; omega, ?_, ?_⟩, by simp [RowKit.intOf] <;> omega⟩
      · rw [← hG']; simp only [List.append_assoc]
      · exact hS

abbrev capOb : Ob := ⟨115, [.func (.func 58) #[] #[]]⟩
theorem bef_t {x y : T_api_Item} (h : Lib.compareBytes x.Name y.Name < 0) : S.before x y = true := by rw [S.before, ← cmp_lt]; exact decide_eq_true h
theorem bef_f {x y : T_api_Item} (h : ¬ Lib.compareBytes x.Name y.Name < 0) : S.before x y = false := by rw [S.before, ← cmp_lt]; exact decide_eq_false h

set_option maxHeartbeats 2000000 in
theorem InsSort_ok {bc : Nat} {A X Z : List T_api_Item} (hS : Sat E w (rows cd_api_Item s (A ++ (X ++ Z)) :: M)) [hf : Fnd (cel bc) M capOb N] {m : Nat} (hm : m = A.length + X.length + Z.length) (hb : m ≤ 1099511627776) {a b : Nat} (ha : a = A.length) (hbb : b = A.length + X.length)
    (hQ : ∀ X' w, X'.Perm X → U.Up S.before X' → Sat E w (rows cd_api_Item s (A ++ (X' ++ Z)) :: M) → Q (.tuple #[]) w) :
    Calls Tryz.prog 176 #[.slice s.a m s.c, .int .i64 a, .int .i64 b, cmpV bc] w (retP Q) := by
  refine slices_insertionSortCmpFunc_api_Item_.calls ?_
  unfold slices_insertionSortCmpFunc_api_Item_.F
  cases X with
  | nil =>
    have hab : b = a := by rw [hbb, ha]; rfl
    subst hab
    repeat' (first | refine pN_v (hk := ?_) | fail)
    refine ⟨fun v w => v = .int .i64 ((b : Int) + 1) ∧ Sat E w (rows cd_api_Item s (A ++ ([] ++ Z)) :: M), fun _ _ => 0, ⟨rfl, hS⟩, ?_⟩
    clear hS
    rintro _ _ w ⟨rfl, hS⟩
    repeat' (first | (refine pN_lss_s ?_ ?_ <;> intro hc <;> try (exfalso; omega)) | refine pIf_f ?_ | fail)
    exact hQ [] _ (List.Perm.refl _) U.Up.nil hS
  | cons x0 X0 =>
    have hbb : b = A.length + (X0.length + 1) := hbb
    have hm : m = A.length + (X0.length + 1) + Z.length := hm
    repeat' (first | refine pN_v (hk := ?_) | fail)
    refine ⟨fun v w => ∃ (X1 X2 : List T_api_Item), v = .int .i64 ((a : Int) + X1.length) ∧ (X1 ++ X2).Perm (x0 :: X0) ∧ X1.length + X2.length = X0.length + 1 ∧ U.Up S.before X1 ∧ Sat E w (rows cd_api_Item s (A ++ (X1 ++ (X2 ++ Z))) :: M), fun v _ => b - (RowKit.intOf v).toNat,
      ⟨[x0], X0, rfl, List.Perm.refl _, by rw [List.length_singleton]; omega, U.Up.one x0, hS⟩, ?_⟩
    clear hS
    rintro _ _ w ⟨X1, X2, rfl, hp, hl, hu, hS⟩
    cases X2 with
    | nil =>
      rw [List.length_nil] at hl
      rw [List.append_nil] at hp
      repeat' (first | (refine pN_lss_s ?_ ?_ <;> intro hc <;> try (exfalso; omega)) | refine pIf_f ?_ | fail)
      exact hQ X1 _ hp hu hS
    | cons x X2 =>
      rw [List.length_cons] at hl
      have hi0 : ((a : Int) + (X1.length : Int)) = ((a + X1.length : Nat) : Int) := by omega
      rw [hi0]
      repeat' (first | (refine pN_lss_s ?_ ?_ <;> intro hc <;> try (exfalso; omega)) | refine pIf_t ?_ | fail)
      refine ⟨fun v w => ∃ (P R : List T_api_Item), v = .int .i64 ((a + P.length : Nat) : Int) ∧ U.Up S.before (P ++ R) ∧ (∀ r ∈ R, S.before x r = true) ∧ (P ++ R).Perm X1 ∧ P.length + R.length = X1.length ∧ Sat E w (rows cd_api_Item s (A ++ (P ++ x :: (R ++ (X2 ++ Z)))) :: M), fun v _ => (RowKit.intOf v).toNat,
        ⟨X1, [], rfl, by rw [List.append_nil]; exact hu, fun r hr => by (cases hr), by rw [List.append_nil], rfl, hS⟩, ?_⟩
      clear hS
      rintro _ _ w ⟨P, R, rfl, hup, hr, hpr, hlr, hS⟩
      have hfin : (∀ p, P.getLast? = some p → S.before x p = false) → ((P ++ x :: R) ++ X2).Perm (x0 :: X0) ∧ U.Up S.before (P ++ x :: R) := fun h => by
        refine ⟨?_, U.Up.ins S.before_ord hup hr h⟩
        refine List.Perm.trans ?_ hp
        have e1 : (P ++ x :: R).Perm (X1 ++ [x]) := by
          refine List.perm_middle.trans ?_
          refine (hpr.cons x).trans ?_
          exact (List.perm_append_singleton x X1).symm
        have := e1.append_right X2
        rw [List.append_assoc X1] at this
        exact this
      by_cases hP : P = []
      · subst hP
        obtain ⟨f1, f2⟩ := hfin (fun p h => by cases h)
        have hj0 : ((a + ([] : List T_api_Item).length : Nat) : Int) = (a : Int) := rfl
        rw [hj0]
        have hlr : R.length = X1.length := by rw [← hlr, List.length_nil]; omega
        repeat' (first | (refine pA_gtr_s ?_ ?_ <;> intro hc <;> try (exfalso; omega)) | refine pIf_f ?_ | refine gA_no (by rfl) ?_ | refine pGd_no (by rfl) ?_ | (refine pDr_go hS ?_; clear hS; intro w hS) | refine ⟨trivial, ?_⟩ | refine pN_v (hk := ?_) | refine pA_v (hk := ?_) | fail)
        refine ⟨⟨x :: R, X2, by rw [List.length_cons, hlr]; congr 1, f1, by rw [List.length_cons]; omega, f2, hS⟩, by simp [RowKit.intOf] <;> omega⟩
      · obtain ⟨P0, y, rfl⟩ := U.last_cut hP
        obtain ⟨q, hq⟩ : ∃ q, q = (A ++ P0).length := ⟨_, rfl⟩
        have hqa : q = a + P0.length := by rw [hq, List.length_append, ha]
        have hj1 : ((a + (P0 ++ [y]).length : Nat) : Int) = ((q + 1 : Nat) : Int) := by rw [List.length_append, List.length_singleton]; omega
        have hlr : P0.length + 1 + R.length = X1.length := by rw [← hlr, List.length_append, List.length_singleton]
        rw [hj1]
        have hD : A ++ ((P0 ++ [y]) ++ x :: (R ++ (X2 ++ Z))) = (A ++ P0) ++ y :: (x :: (R ++ (X2 ++ Z))) := by simp
        rw [hD] at hS
        have g0 := U.get_mid (A ++ P0) (x :: (R ++ (X2 ++ Z))) y
        have g1 := U.get_nb (A ++ P0) (R ++ (X2 ++ Z)) y x
        have hsw := U.swap_nb (A ++ P0) (R ++ (X2 ++ Z)) y x
        have hlen : ((A ++ P0) ++ y :: (x :: (R ++ (X2 ++ Z)))).length = m := by simp only [List.length_append, List.length_cons]; omega
        have hD2 : (A ++ P0) ++ x :: (y :: (R ++ (X2 ++ Z))) = A ++ (P0 ++ x :: ((y :: R) ++ (X2 ++ Z))) := by simp
        rw [hD2] at hsw
        rw [← hq] at g0 g1 hsw
        have hbt := fun h => bef_t (x := x) (y := y) h
        have hbf := fun h => bef_f (x := x) (y := y) h
        have hD3 : (A ++ P0) ++ y :: (x :: (R ++ (X2 ++ Z))) = A ++ (((P0 ++ [y]) ++ x :: R) ++ (X2 ++ Z)) := by simp
        obtain ⟨D, hDD⟩ : ∃ D, D = (A ++ P0) ++ y :: (x :: (R ++ (X2 ++ Z))) := ⟨_, rfl⟩
        rw [← hDD] at hS g0 g1 hsw hlen hD3
        obtain ⟨z, h4⟩ : ∃ z, (D.set (q + 1) y)[q]? = some z := ⟨(D.set (q + 1) y)[q]'(by rw [List.length_set]; omega), List.getElem?_eq_getElem _⟩
        have hca : ¬ (((q + 1 : Nat) : Int) ≤ (a : Int)) := by omega
        repeat' (first | refine pA_ixk hS q (by omega) (by rw [List.length_set]; omega) h4 fun ad ha hel => ?_ | refine pA_ixk hS (q + 1) (by omega) (by omega) g1 fun ad ha hel => ?_ | refine pA_ixk hS q (by omega) (by omega) g0 fun ad ha hel => ?_ | (refine cmp_ok x y hS ?_; clear hS; intro w hS) | refine pA_lss_s (fun hcc => ?_) (fun hcc => ?_) | (refine pN_srn (x := y) hel hS (by rfl) (by rfl) (by omega) ?_; clear hS; intro w hS) | (refine pN_srn (x := x) hel hS (by rfl) (by rfl) (by rw [List.length_set]; omega) ?_; clear hS; intro w hS) | (refine pA_gtr_s ?_ ?_ <;> intro hc <;> try (exfalso; omega)) | refine pIf_t ?_ | refine pIf_f ?_ | refine gA_go (by rfl) ?_ | refine pGd_go (by rfl) ?_ | refine pL_ld_at ha hS (by rfl) ?_ | (refine pDr_go hS ?_; clear hS; intro w hS) | refine ⟨trivial, ?_⟩ | refine pN_v (hk := ?_) | refine pA_v (hk := ?_) | fail)
        · rw [hsw] at hS
          have hq1 : (((q + 1 : Nat) : Int) - 1) = ((a + P0.length : Nat) : Int) := by omega
          rw [hq1]
          have e0 : (P0 ++ [y]) ++ R = P0 ++ (y :: R) := by simp
          rw [e0] at hup hpr
          refine ⟨⟨P0, y :: R, rfl, hup, fun r hr' => ?_, hpr, by rw [List.length_cons]; omega, hS⟩, by simp [RowKit.intOf] <;> omega⟩
          rcases List.mem_cons.1 hr' with rfl | hr'
          · exact hbt hcc
          · exact hr r hr'
        · rw [hD3] at hS
          obtain ⟨f1, f2⟩ := hfin (fun p hp => by
            rw [List.getLast?_concat, Option.some.injEq] at hp
            subst hp
            exact hbf hcc)
          have hll : ((P0 ++ [y]) ++ x :: R).length = X1.length + 1 := by simp only [List.length_append, List.length_cons, List.length_nil]; omega
          have hi1 : (((a + X1.length : Nat) : Int) + 1) = (a : Int) + ((P0 ++ [y]) ++ x :: R).length := by rw [hll]; omega
          rw [hi1]
          refine ⟨⟨(P0 ++ [y]) ++ x :: R, X2, rfl, f1, by rw [hll]; omega, f2, hS⟩, by rw [hll]; simp [RowKit.intOf] <;> omega⟩
end
end Go.Proofs.YtikmogfhhggafaaGreatDoor

namespace Go.Proofs.YtikmogfhhggafaaGreatDoor
open Go
attribute [local irreducible] oMv oV oU oCall oCallV oBi oBin oUn oLoad oStore oNil oFld oField oIdx oIndex oPick oAlloc oBox oBuild oBs oConv oMk oSl oExt oFn oIface oMap oLook oMapUp oRange oNext oEntry oInv oAssert oPanic oRes pN pA pL pDr pIf gA pGd Calls
section
variable [Pan] {E w W : World} {K Q : Value → World → Prop} {J : Value → Prop} {L M N : List HA} {l r : List T_api_Item} {s s2 : Sl} {b : Nat}

theorem mid_ok {i j h : Nat} (hh : h = (i + j) / 2) (hb : i + j < 9223372036854775808) : IntKind.i64.wrap (IntKind.u64.wrap ((i : Int) + (j : Int)) / 2 ^ 1) = (h : Int) := by
  rw [wrap_u64, wrap_i64] <;> omega

set_option maxHeartbeats 4000000 in
theorem SymMerge_ok {bc : Nat} : ∀ (k : Nat) {w : World} {Q : Value → World → Prop} {A X T Z : List T_api_Item}, X.length + T.length ≤ k → 0 < X.length → 0 < T.length → U.Up S.before X → U.Up S.before T →
    ∀ (hS : Sat E w (rows cd_api_Item s (A ++ (X ++ (T ++ Z))) :: M)) [hf : Fnd (cel bc) M capOb N] {m : Nat} (hm : m = A.length + X.length + T.length + Z.length) (hb : m ≤ 1099511627776) {a c b : Nat} (ha : a = A.length) (hc : c = A.length + X.length) (hbb : b = A.length + X.length + T.length)
    (hQ : ∀ G w, G.Perm (X ++ T) → U.Up S.before G → Sat E w (rows cd_api_Item s (A ++ (G ++ Z)) :: M) → Q (.tuple #[]) w),
    Calls Tryz.prog 177 #[.slice s.a m s.c, .int .i64 a, .int .i64 c, .int .i64 b, cmpV bc] w (retP Q) := by
  intro k
  induction k with
  | zero => intro w Q A X T Z hk h1; omega
  | succ k ih =>
  intro w Q A X T Z hk hX hT uX uT hS hf m hm hb a c b ha hc hbb hQ
  refine slices_symMergeCmpFunc_api_Item_.calls ?_
  unfold slices_symMergeCmpFunc_api_Item_.F
  by_cases hX1 : X.length = 1
  · obtain ⟨x, rfl⟩ : ∃ x, X = [x] := List.length_eq_one_iff.1 hX1
    have hcc : c = a + 1 := by omega
    have hm : m = A.length + T.length + 1 + Z.length := by rw [hX1] at hm; omega
    have hbT : b = c + T.length := by omega
    obtain ⟨D, hD⟩ : ∃ D, D = A ++ ([x] ++ (T ++ Z)) := ⟨_, rfl⟩
    have hDl : D.length = m := by rw [hD, hm]; simp only [List.length_append, List.length_singleton]; omega
    have g0 : D[a]? = some x := by rw [hD, ha]; exact U.get_mid A (T ++ Z) x
    have gT : ∀ k t, T[k]? = some t → D[c + k]? = some t := fun k t h => by
      have hk := (List.getElem?_eq_some_iff.1 h).1
      rw [hD, hcc, ha, show A ++ ([x] ++ (T ++ Z)) = (A ++ [x]) ++ (T ++ Z) by simp, List.getElem?_append_right (by simp only [List.length_append, List.length_singleton]; omega)]
      rw [show A.length + 1 + k - (A ++ [x]).length = k by simp only [List.length_append, List.length_singleton]; omega, List.getElem?_append_left hk, h]
    repeat' (first | (refine pN_eql_s ?_ ?_ <;> intro hc <;> try (exfalso; first | omega | exact hc rfl | exact hc (by assumption) | exact absurd hc (by assumption))) | refine pIf_t ?_ | refine pN_v (hk := ?_) | fail)
    refine ⟨fun v v' w => ∃ p q : Nat, v = .int .i64 ((c + p : Nat) : Int) ∧ v' = .int .i64 ((c + q : Nat) : Int) ∧ p ≤ q ∧ q ≤ T.length ∧ (∀ k t, k < p → T[k]? = some t → S.before t x = true) ∧ (∀ k t, q ≤ k → T[k]? = some t → S.before t x = false) ∧ Sat E w (rows cd_api_Item s D :: M), fun v v' _ => (RowKit.intOf v').toNat - (RowKit.intOf v).toNat,
      ⟨0, T.length, by rw [Nat.add_zero], by rw [hbT], by omega, by omega, fun k t h => by omega, fun k t h1 h2 => by have := (List.getElem?_eq_some_iff.1 h2).1; omega, by rw [hD]; exact hS⟩, ?_⟩
    clear hS
    rintro _ _ _ w ⟨p, q, rfl, rfl, hpq, hq, hlo, hhi, hS⟩
    by_cases hlt : p < q
    · obtain ⟨h, hh⟩ : ∃ h, h = (p + q) / 2 := ⟨_, rfl⟩
      have hmid := mid_ok (i := c + p) (j := c + q) (h := c + h) (by omega) (by omega)
      obtain ⟨t, ht⟩ : ∃ t, T[h]? = some t := ⟨T[h]'(by omega), List.getElem?_eq_getElem _⟩
      have g1 := gT h t ht
      have hbt := fun h => bef_t (x := t) (y := x) h
      have hbf := fun h => bef_f (x := t) (y := x) h
      repeat' (first | refine pN_shr_k 1 rfl (by decide) ?_ | refine pA_ixk hS (c + h) (by omega) (by omega) g1 fun ad ha hel => ?_ | refine pA_ixk hS a rfl (by omega) g0 fun ad ha hel => ?_ | (refine cmp_ok t x hS ?_; clear hS; intro w hS) | refine pA_lss_s (fun hcc => ?_) (fun hcc => ?_) | (refine pN_lss_s ?_ ?_ <;> intro hc <;> try (exfalso; omega)) | refine pIf_t ?_ | refine pIf_f ?_ | refine pL_ld_at ha hS (by rfl) ?_ | (refine pDr_go hS ?_; clear hS; intro w hS) | refine ⟨trivial, ?_⟩ | refine pN_v (hk := ?_) | fail)
      · have hbt := hbt hcc
        have he : (((c + p : Nat) : Int) + ((c + q : Nat) : Int)) / 2 ^ 1 + 1 = ((c + (h + 1) : Nat) : Int) := by omega
        rw [he]
        exact ⟨⟨h + 1, q, rfl, rfl, by omega, hq, fun k u hk hu => uT.lt_le S.before_ord ht hu (by omega) hbt, hhi, hS⟩, by simp [RowKit.intOf] <;> omega⟩
      · have hbf := hbf hcc
        have he : (((c + p : Nat) : Int) + ((c + q : Nat) : Int)) / 2 ^ 1 = ((c + h : Nat) : Int) := by omega
        rw [he]
        exact ⟨⟨p, h, rfl, rfl, by omega, by omega, hlo, fun k u hk hu => uT.nlt_ge S.before_ord ht hu (by omega) hbf, hS⟩, by simp [RowKit.intOf] <;> omega⟩
    · obtain rfl : p = q := by omega
      have hT1 := U.mem_take_at hlo
      have hT2 := U.mem_drop_at hhi
      have hup := U.Up.front S.before_ord (T1 := T.take p) (T2 := T.drop p) (by rw [List.take_append_drop]; exact uT) hT1 hT2
      have hper : (T.take p ++ x :: T.drop p).Perm ([x] ++ T) := by
        refine List.perm_middle.trans ?_
        rw [List.take_append_drop]; exact List.Perm.refl _
      have hthr0 := U.thr_0 A T Z x
      have hD0 : D = U.thr A (T.take p) (T.drop p ++ Z) x 0 := by
        rw [hD, U.thr_0]; simp [← List.append_assoc]
      have hfin : U.thr A (T.take p) (T.drop p ++ Z) x p = A ++ ((T.take p ++ x :: T.drop p) ++ Z) := by
        have := U.thr_all A (T.take p) (T.drop p ++ Z) x
        rw [List.length_take, Nat.min_eq_left hq] at this
        rw [this]; simp
      have hthl : ∀ r, r ≤ p → (U.thr A (T.take p) (T.drop p ++ Z) x r).length = m := fun r hr => by
        rw [U.thr_len _ _ _ _ _ (by rw [List.length_take]; omega), List.length_take, List.length_append, List.length_drop]; omega
      rw [hD0] at hS
      repeat' (first | (refine pN_lss_s ?_ ?_ <;> intro hc <;> try (exfalso; omega)) | refine pIf_f ?_ | fail)
      refine ⟨fun v w => ∃ r : Nat, v = .int .i64 ((a + r : Nat) : Int) ∧ r ≤ p ∧ Sat E w (rows cd_api_Item s (U.thr A (T.take p) (T.drop p ++ Z) x r) :: M), fun v _ => c + p - (RowKit.intOf v).toNat, ⟨0, by rw [Nat.add_zero], by omega, hS⟩, ?_⟩
      clear hS
      rintro _ _ w ⟨r, rfl, hr, hS⟩
      have hlr := hthl r hr
      by_cases hrp : r < p
      · obtain ⟨y, hy, e1, e2, e3⟩ := U.thr_step A (T.take p) (T.drop p ++ Z) x (r := r) (by rw [List.length_take]; omega)
        have g1 := U.get_mid (A ++ (T.take p).take r) (y :: ((T.take p).drop (r + 1) ++ (T.drop p ++ Z))) x
        have g2 := U.get_nb (A ++ (T.take p).take r) ((T.take p).drop (r + 1) ++ (T.drop p ++ Z)) x y
        have hsw := U.swap_nb' (A ++ (T.take p).take r) ((T.take p).drop (r + 1) ++ (T.drop p ++ Z)) x y
        rw [← e1] at g1 g2 hsw
        rw [← e2] at hsw
        rw [e3, ← ha] at g1 g2 hsw
        generalize U.thr A (T.take p) (T.drop p ++ Z) x r = B at *
        obtain ⟨z, h4⟩ : ∃ z, (B.set (a + r) y)[a + r + 1]? = some z := ⟨(B.set (a + r) y)[a + r + 1]'(by rw [List.length_set]; omega), List.getElem?_eq_getElem _⟩
        repeat' (first | refine pA_ixk hS (a + r + 1) (by omega) (by rw [List.length_set]; omega) h4 fun ad ha hel => ?_ | refine pA_ixk hS (a + r + 1) (by omega) (by omega) g2 fun ad ha hel => ?_ | refine pA_ixk hS (a + r) (by omega) (by omega) g1 fun ad ha hel => ?_ | (refine pN_srn (x := y) hel hS (by rfl) (by rfl) (by omega) ?_; clear hS; intro w hS) | (refine pN_srn (x := x) hel hS (by rfl) (by rfl) (by rw [List.length_set]; omega) ?_; clear hS; intro w hS) | (refine pN_lss_s ?_ ?_ <;> intro hc <;> try (exfalso; omega)) | refine pIf_t ?_ | refine pL_ld_at ha hS (by rfl) ?_ | (refine pDr_go hS ?_; clear hS; intro w hS) | refine ⟨trivial, ?_⟩ | refine pN_v (hk := ?_) | refine pA_v (hk := ?_) | fail)
        rw [hsw] at hS
        exact ⟨⟨r + 1, rfl, by omega, hS⟩, by simp [RowKit.intOf] <;> omega⟩
      · obtain rfl : r = p := by omega
        rw [hfin] at hS
        repeat' (first | (refine pN_lss_s ?_ ?_ <;> intro hc <;> try (exfalso; omega)) | refine pIf_f ?_ | refine pN_v (hk := ?_) | fail)
        exact hQ _ _ hper hup hS
  by_cases hT1 : T.length = 1
  · obtain ⟨y, rfl⟩ : ∃ y, T = [y] := List.length_eq_one_iff.1 hT1
    have hbc : b = c + 1 := by omega
    have hca : c = a + X.length := by omega
    have hm : m = A.length + X.length + 1 + Z.length := by rw [hT1] at hm; omega
    have hX2 : ¬ (c : Int) - (a : Int) = 1 := by omega
    have hbc1 : (b : Int) - (c : Int) = 1 := by omega
    obtain ⟨D, hD⟩ : ∃ D, D = A ++ (X ++ ([y] ++ Z)) := ⟨_, rfl⟩
    have hDl : D.length = m := by rw [hD, hm]; simp only [List.length_append, List.length_singleton]; omega
    have g0 : D[c]? = some y := by
      rw [hD, show A ++ (X ++ ([y] ++ Z)) = (A ++ X) ++ y :: Z by simp, hc, show A.length + X.length = (A ++ X).length by rw [List.length_append]]
      exact U.get_mid (A ++ X) Z y
    have gX : ∀ k t, X[k]? = some t → D[a + k]? = some t := fun k t h => by
      have hk := (List.getElem?_eq_some_iff.1 h).1
      rw [hD, ha, List.getElem?_append_right (by omega), show A.length + k - A.length = k by omega, List.getElem?_append_left hk, h]
    repeat' (first | (refine pN_eql_s ?_ ?_ <;> intro hc <;> try (exfalso; first | omega | exact hc rfl | exact hc (by assumption) | exact absurd hc (by assumption))) | refine pIf_t ?_ | refine pIf_f ?_ | refine pN_v (hk := ?_) | fail)
    refine ⟨fun v v' w => ∃ p q : Nat, v = .int .i64 ((a + p : Nat) : Int) ∧ v' = .int .i64 ((a + q : Nat) : Int) ∧ p ≤ q ∧ q ≤ X.length ∧ (∀ k t, k < p → X[k]? = some t → S.before y t = false) ∧ (∀ k t, q ≤ k → X[k]? = some t → S.before y t = true) ∧ Sat E w (rows cd_api_Item s D :: M), fun v v' _ => (RowKit.intOf v').toNat - (RowKit.intOf v).toNat,
      ⟨0, X.length, by rw [Nat.add_zero], by rw [hca], by omega, by omega, fun k t h => by omega, fun k t h1 h2 => by have := (List.getElem?_eq_some_iff.1 h2).1; omega, by rw [hD]; exact hS⟩, ?_⟩
    clear hS
    rintro _ _ _ w ⟨p, q, rfl, rfl, hpq, hq, hlo, hhi, hS⟩
    by_cases hlt : p < q
    · obtain ⟨h, hh⟩ : ∃ h, h = (p + q) / 2 := ⟨_, rfl⟩
      obtain ⟨t, ht⟩ : ∃ t, X[h]? = some t := ⟨X[h]'(by omega), List.getElem?_eq_getElem _⟩
      have g1 := gX h t ht
      have hbt := fun h => bef_t (x := y) (y := t) h
      have hbf := fun h => bef_f (x := y) (y := t) h
      repeat' (first | refine pN_shr_k 1 rfl (by decide) ?_ | refine pA_ixk hS (a + h) (by omega) (by omega) g1 fun ad ha hel => ?_ | refine pA_ixk hS c rfl (by omega) g0 fun ad ha hel => ?_ | (refine cmp_ok y t hS ?_; clear hS; intro w hS) | refine pA_lss_s (fun hcc => ?_) (fun hcc => ?_) | (refine pN_lss_s ?_ ?_ <;> intro hc <;> try (exfalso; omega)) | refine pIf_t ?_ | refine pIf_f ?_ | refine pL_ld_at ha hS (by rfl) ?_ | (refine pDr_go hS ?_; clear hS; intro w hS) | refine ⟨trivial, ?_⟩ | refine pN_v (hk := ?_) | refine pA_v (hk := ?_) | fail)
      · have hbt := hbt hcc
        have he : (((a + p : Nat) : Int) + ((a + q : Nat) : Int)) / 2 ^ 1 = ((a + h : Nat) : Int) := by omega
        rw [he]
        exact ⟨⟨p, h, rfl, rfl, by omega, by omega, hlo, fun k u hk hu => uX.lt_ge S.before_ord ht hu (by omega) hbt, hS⟩, by simp [RowKit.intOf] <;> omega⟩
      · have hbf := hbf hcc
        have he : (((a + p : Nat) : Int) + ((a + q : Nat) : Int)) / 2 ^ 1 + 1 = ((a + (h + 1) : Nat) : Int) := by omega
        rw [he]
        exact ⟨⟨h + 1, q, rfl, rfl, by omega, hq, fun k u hk hu => uX.nlt_le S.before_ord ht hu (by omega) hbf, hhi, hS⟩, by simp [RowKit.intOf] <;> omega⟩
    · obtain rfl : p = q := by omega
      have hX1 := U.mem_take_at hlo
      have hX2 := U.mem_drop_at hhi
      have hup := U.Up.back S.before_ord (S1 := X.take p) (S2 := X.drop p) (by rw [List.take_append_drop]; exact uX) hX1 hX2
      have hper : (X.take p ++ y :: X.drop p).Perm (X ++ [y]) := by
        refine List.perm_middle.trans ?_
        rw [List.take_append_drop]; exact (List.perm_append_singleton y X).symm
      have hD0 : D = U.thr (A ++ X.take p) (X.drop p) Z y (X.length - p) := by
        have := U.thr_all (A ++ X.take p) (X.drop p) Z y
        rw [List.length_drop] at this
        rw [hD, this, List.append_assoc, ← List.append_assoc (X.take p), List.take_append_drop]; rfl
      have hfin : U.thr (A ++ X.take p) (X.drop p) Z y 0 = A ++ ((X.take p ++ y :: X.drop p) ++ Z) := by
        rw [U.thr_0]; simp
      have hAl : (A ++ X.take p).length = a + p := by rw [List.length_append, List.length_take]; omega
      have hthl : ∀ r, r ≤ X.length - p → (U.thr (A ++ X.take p) (X.drop p) Z y r).length = m := fun r hr => by
        rw [U.thr_len _ _ _ _ _ (by rw [List.length_drop]; omega), List.length_drop, hAl]; omega
      rw [hD0] at hS
      have hc0 : (c : Int) = ((a + p + (X.length - p) : Nat) : Int) := by omega
      repeat' (first | (refine pN_lss_s ?_ ?_ <;> intro hc <;> try (exfalso; omega)) | refine pIf_f ?_ | fail)
      refine ⟨fun v w => ∃ r : Nat, v = .int .i64 ((a + p + r : Nat) : Int) ∧ r ≤ X.length - p ∧ Sat E w (rows cd_api_Item s (U.thr (A ++ X.take p) (X.drop p) Z y r) :: M), fun v _ => (RowKit.intOf v).toNat, ⟨X.length - p, by rw [hc0], by omega, hS⟩, ?_⟩
      clear hS
      rintro _ _ w ⟨r, rfl, hr, hS⟩
      have hlr := hthl r hr
      by_cases hrp : 0 < r
      · obtain ⟨r', rfl⟩ : ∃ r', r = r' + 1 := ⟨r - 1, by omega⟩
        obtain ⟨x, hx, e1, e2, e3⟩ := U.thr_step (A ++ X.take p) (X.drop p) Z y (r := r') (by rw [List.length_drop]; omega)
        rw [hAl] at e3
        have g1 := U.get_mid ((A ++ X.take p) ++ (X.drop p).take r') (y :: ((X.drop p).drop (r' + 1) ++ Z)) x
        have g2 := U.get_nb ((A ++ X.take p) ++ (X.drop p).take r') ((X.drop p).drop (r' + 1) ++ Z) x y
        have hsw := U.swap_nb ((A ++ X.take p) ++ (X.drop p).take r') ((X.drop p).drop (r' + 1) ++ Z) x y
        rw [← e2] at g1 g2 hsw
        rw [← e1] at hsw
        rw [e3] at g1 g2 hsw
        generalize U.thr (A ++ X.take p) (X.drop p) Z y (r' + 1) = B at *
        obtain ⟨z, h4⟩ : ∃ z, (B.set (a + p + r' + 1) x)[a + p + r']? = some z := ⟨(B.set (a + p + r' + 1) x)[a + p + r']'(by rw [List.length_set]; omega), List.getElem?_eq_getElem _⟩
        repeat' (first | refine pA_ixk hS (a + p + r') (by omega) (by rw [List.length_set]; omega) h4 fun ad ha hel => ?_ | refine pA_ixk hS (a + p + r' + 1) (by omega) (by omega) g2 fun ad ha hel => ?_ | refine pA_ixk hS (a + p + r') (by omega) (by omega) g1 fun ad ha hel => ?_ | (refine pN_srn (x := x) hel hS (by rfl) (by rfl) (by omega) ?_; clear hS; intro w hS) | (refine pN_srn (x := y) hel hS (by rfl) (by rfl) (by rw [List.length_set]; omega) ?_; clear hS; intro w hS) | (refine pN_gtr_s ?_ ?_ <;> intro hc <;> try (exfalso; omega)) | refine pIf_t ?_ | refine pL_ld_at ha hS (by rfl) ?_ | (refine pDr_go hS ?_; clear hS; intro w hS) | refine ⟨trivial, ?_⟩ | refine pN_v (hk := ?_) | refine pA_v (hk := ?_) | fail)
        rw [hsw] at hS
        exact ⟨⟨r', by congr 1; omega, by omega, hS⟩, by simp [RowKit.intOf] <;> omega⟩
      · obtain rfl : r = 0 := by omega
        rw [hfin] at hS
        repeat' (first | (refine pN_gtr_s ?_ ?_ <;> intro hc <;> try (exfalso; omega)) | refine pIf_f ?_ | fail)
        exact hQ _ _ hper hup hS
  have hX2 : ¬ (c : Int) - (a : Int) = 1 := by omega
  have hT2 : ¬ (b : Int) - (c : Int) = 1 := by omega
  obtain ⟨d, hd⟩ : ∃ d, d = (a + b) / 2 := ⟨_, rfl⟩
  have hdi : ((a : Int) + (b : Int)) / 2 ^ 1 = (d : Int) := by omega
  obtain ⟨D, hD⟩ : ∃ D, D = A ++ (X ++ (T ++ Z)) := ⟨_, rfl⟩
  have hDl : D.length = m := by rw [hD, hm]; simp only [List.length_append]; omega
  have gX : ∀ k t, X[k]? = some t → D[a + k]? = some t := fun k t h => by
    have hk := (List.getElem?_eq_some_iff.1 h).1
    rw [hD, ha, List.getElem?_append_right (by omega), show A.length + k - A.length = k by omega, List.getElem?_append_left hk, h]
  have gT : ∀ k t, T[k]? = some t → D[c + k]? = some t := fun k t h => by
    have hk := (List.getElem?_eq_some_iff.1 h).1
    rw [hD, ← List.append_assoc, hc, List.getElem?_append_right (by rw [List.length_append]; omega), List.length_append, show A.length + X.length + k - (A.length + X.length) = k by omega, List.getElem?_append_left hk, h]
  repeat' (first | refine pN_shr_k 1 rfl (by decide) ?_ | (refine pN_eql_s ?_ ?_ <;> intro hc <;> try (exfalso; first | omega | exact hc rfl | exact hc (by assumption) | exact absurd hc (by assumption))) | refine pIf_f ?_ | refine pN_v (hk := ?_) | fail)
  rw [hdi]
  -- where the halves may part
  obtain ⟨lo, hlo⟩ : ∃ lo, lo = if d < c then d + c - b else a := ⟨_, rfl⟩
  obtain ⟨hi, hhi⟩ : ∃ hi, hi = if d < c then d else c := ⟨_, rfl⟩
  have hlh : a ≤ lo ∧ lo ≤ hi ∧ hi ≤ c ∧ d + c - lo ≤ b ∧ c ≤ d + c - hi := by
    by_cases h : d < c
    · rw [if_pos h] at hlo hhi; omega
    · rw [if_neg h] at hlo hhi; omega
  refine ⟨fun v v' w => v = .int .i64 (lo : Int) ∧ v' = .int .i64 (hi : Int) ∧ Sat E w (rows cd_api_Item s D :: M), ?_, ?_⟩
  · by_cases h : d < c
    · rw [if_pos h] at hlo hhi
      have e1 : (d : Int) + (c : Int) - (b : Int) = (lo : Int) := by omega
      repeat' (first | (refine pN_gtr_s ?_ ?_ <;> intro hc <;> try (exfalso; omega)) | refine pIf_t ?_ | refine pN_v (hk := ?_) | fail)
      rw [e1, hhi]
      exact ⟨rfl, rfl, hD ▸ hS⟩
    · rw [if_neg h] at hlo hhi
      repeat' (first | (refine pN_gtr_s ?_ ?_ <;> intro hc <;> try (exfalso; omega)) | refine pIf_f ?_ | fail)
      rw [hlo, hhi]
      exact ⟨rfl, rfl, hD ▸ hS⟩
  clear hS
  rintro _ _ _ w ⟨rfl, rfl, hS⟩
  repeat' (first | refine pN_v (hk := ?_) | fail)
  refine ⟨fun v v' w => ∃ p q : Nat, v = .int .i64 (p : Int) ∧ v' = .int .i64 (q : Int) ∧ lo ≤ p ∧ p ≤ q ∧ q ≤ hi ∧ (p = lo ∨ ∃ x t, X[p - 1 - a]? = some x ∧ T[d + c - p - c]? = some t ∧ S.before t x = false) ∧ (q = hi ∨ ∃ x t, X[q - a]? = some x ∧ T[d + c - 1 - q - c]? = some t ∧ S.before t x = true) ∧ Sat E w (rows cd_api_Item s D :: M), fun v v' _ => (RowKit.intOf v').toNat - (RowKit.intOf v).toNat,
    ⟨lo, hi, rfl, rfl, Nat.le_refl _, hlh.2.1, Nat.le_refl _, .inl rfl, .inl rfl, hS⟩, ?_⟩
  clear hS
  rintro _ _ _ w ⟨p, q, rfl, rfl, hp, hpq, hq, hl1, hl2, hS⟩
  by_cases hlt : p < q
  · obtain ⟨h, hh⟩ : ∃ h, h = (p + q) / 2 := ⟨_, rfl⟩
    obtain ⟨x, hx⟩ : ∃ x, X[h - a]? = some x := ⟨X[h - a]'(by omega), List.getElem?_eq_getElem _⟩
    obtain ⟨t, ht⟩ : ∃ t, T[d + c - 1 - h - c]? = some t := ⟨T[d + c - 1 - h - c]'(by omega), List.getElem?_eq_getElem _⟩
    have g1 := gX _ x hx
    have g2 := gT _ t ht
    rw [show a + (h - a) = h by omega] at g1
    rw [show c + (d + c - 1 - h - c) = d + c - 1 - h by omega] at g2
    have hbt := fun h => bef_t (x := t) (y := x) h
    have hbf := fun h => bef_f (x := t) (y := x) h
    repeat' (first | refine pN_shr_k 1 rfl (by decide) ?_ | refine pA_ixk hS (d + c - 1 - h) (by omega) (by omega) g2 fun ad ha hel => ?_ | refine pA_ixk hS h (by omega) (by omega) g1 fun ad ha hel => ?_ | (refine cmp_ok t x hS ?_; clear hS; intro w hS) | refine pA_lss_s (fun hcc => ?_) (fun hcc => ?_) | (refine pN_lss_s ?_ ?_ <;> intro hc <;> try (exfalso; omega)) | refine pIf_t ?_ | refine pIf_f ?_ | refine pL_ld_at ha hS (by rfl) ?_ | (refine pDr_go hS ?_; clear hS; intro w hS) | refine ⟨trivial, ?_⟩ | refine pN_v (hk := ?_) | refine pA_v (hk := ?_) | fail)
    · have hbt := hbt hcc
      have he : ((p : Int) + (q : Int)) / 2 ^ 1 = (h : Int) := by omega
      rw [he]
      exact ⟨⟨p, h, rfl, rfl, hp, by omega, by omega, hl1, .inr ⟨x, t, hx, ht, hbt⟩, hS⟩, by simp [RowKit.intOf] <;> omega⟩
    · have hbf := hbf hcc
      have he : ((p : Int) + (q : Int)) / 2 ^ 1 + 1 = ((h + 1 : Nat) : Int) := by omega
      rw [he]
      exact ⟨⟨h + 1, q, rfl, rfl, by omega, by omega, hq, .inr ⟨x, t, by rw [Nat.add_sub_cancel]; exact hx, by rw [show d + c - (h + 1) - c = d + c - 1 - h - c by omega]; exact ht, hbf⟩, hl2, hS⟩, by simp [RowKit.intOf] <;> omega⟩
  · obtain rfl : p = q := by omega
    obtain ⟨e, he⟩ : ∃ e, e = d + c - p := ⟨_, rfl⟩
    have hei : (d : Int) + (c : Int) - (p : Int) = (e : Int) := by omega
    obtain ⟨X1, X2, rfl, hx1, hx2⟩ := half X (k := p - a) (by omega)
    obtain ⟨T1, T2, rfl, ht1, ht2⟩ := half T (k := e - c) (by omega)
    have hXW := U.Up.hXW S.before_ord uX uT (by
      rcases hl1 with h | ⟨x, t, e1, e2, e3⟩
      · by_cases hdc : d < c
        · rw [if_pos hdc] at hlo
          exact .inr (.inl (List.eq_nil_of_length_eq_zero (by omega)))
        · rw [if_neg hdc] at hlo
          exact .inl (List.eq_nil_of_length_eq_zero (by omega))
      · by_cases h0 : p = a
        · exact .inl (List.eq_nil_of_length_eq_zero (by omega))
        · refine .inr (.inr ⟨x, t, ?_, ?_, e3⟩)
          · rw [List.getElem?_append_left (by omega)] at e1
            rw [List.getLast?_eq_getElem?, ← e1]; congr 1; omega
          · rw [List.getElem?_append_right (by omega)] at e2
            rw [List.head?_eq_getElem?, ← e2]; congr 1; omega)
    have hYS := U.Up.hYS S.before_ord uX uT (by
      rcases hl2 with h | ⟨x, t, e1, e2, e3⟩
      · by_cases hdc : d < c
        · rw [if_pos hdc] at hhi
          exact .inr (.inl (List.eq_nil_of_length_eq_zero (by omega)))
        · rw [if_neg hdc] at hhi
          exact .inl (List.eq_nil_of_length_eq_zero (by omega))
      · by_cases h0 : e = c
        · exact .inr (.inl (List.eq_nil_of_length_eq_zero (by omega)))
        · refine .inr (.inr ⟨x, t, ?_, ?_, e3⟩)
          · rw [List.getElem?_append_right (by omega)] at e1
            rw [List.head?_eq_getElem?, ← e1]; congr 1; omega
          · rw [List.getElem?_append_left (by omega)] at e2
            rw [List.getLast?_eq_getElem?, ← e2]; congr 1; omega)
    clear gX gT hl1 hl2
    simp only [List.length_append] at hX hT hX1 hT1 hX2 hT2 hk hm hbb hc hx1 hx2 ht1 ht2
    have hD2 : D = (A ++ X1) ++ (X2 ++ (T1 ++ (T2 ++ Z))) := by rw [hD]; simp only [List.append_assoc]
    have hAX : (A ++ X1).length = p := by rw [List.length_append]; omega
    have hTZ : (T2 ++ Z).length = T2.length + Z.length := List.length_append
    repeat' (first | (refine pN_lss_s ?_ ?_ <;> intro hc <;> try (exfalso; omega)) | refine pIf_f ?_ | refine pN_v (hk := ?_) | fail)
    rw [hei]
    refine ⟨fun w => Sat E w (rows cd_api_Item s ((A ++ X1) ++ (T1 ++ (X2 ++ (T2 ++ Z)))) :: M), ?_, ?_⟩
    · by_cases h1 : p < c ∧ c < e
      · rw [hD2] at hS
        repeat' (first | (refine pN_lss_s ?_ ?_ <;> intro hc <;> try (exfalso; omega)) | refine pIf_t ?_ | refine pGd_go (by rfl) ?_ | refine pN_v (hk := ?_) | fail)
        refine pc_slices_rotateCmpFunc_api_Item_ (Rotate_ok (A := A ++ X1) (S := X2) (T := T1) (Z := T2 ++ Z) (cmpV bc) (by omega) (by omega) hS (by omega) hb (by omega) (by omega) (by omega) ?_)
        clear hS
        intro w hS
        exact hS
      · have hsame : (A ++ X1) ++ (T1 ++ (X2 ++ (T2 ++ Z))) = D := by
          rw [hD2]
          by_cases h2 : p < c
          · have : T1 = [] := List.eq_nil_of_length_eq_zero (by omega)
            rw [this]; rfl
          · have : X2 = [] := List.eq_nil_of_length_eq_zero (by omega)
            rw [this]; rfl
        rw [hsame]
        by_cases h2 : p < c
        · have h3 : ¬ c < e := fun h => h1 ⟨h2, h⟩
          repeat' (first | (refine pN_lss_s ?_ ?_ <;> intro hc <;> try (exfalso; omega)) | refine pIf_f ?_ | refine pGd_go (by rfl) ?_ | refine pN_v (hk := ?_) | fail)
          exact hS
        · repeat' (first | (refine pN_lss_s ?_ ?_ <;> intro hc <;> try (exfalso; omega)) | refine pIf_f ?_ | refine pGd_no (by rfl) ?_ | refine pN_v (hk := ?_) | fail)
          exact hS
    clear hS
    rintro _ w hS
    have hpX := (U.Up.app.1 uX)
    have hpT := (U.Up.app.1 uT)
    have hS : Sat E w (rows cd_api_Item s (A ++ (X1 ++ (T1 ++ (X2 ++ (T2 ++ Z))))) :: M) := by rw [List.append_assoc] at hS; exact hS
    have hxz : (X2 ++ (T2 ++ Z)).length = X2.length + (T2.length + Z.length) := by simp only [List.length_append]
    skip
    refine ⟨fun w => ∃ U1 : List T_api_Item, U1.Perm (X1 ++ T1) ∧ U.Up S.before U1 ∧ Sat E w (rows cd_api_Item s (A ++ (U1 ++ (X2 ++ (T2 ++ Z)))) :: M), ?_, ?_⟩
    · by_cases h1 : a < p ∧ p < d
      · repeat' (first | (refine pN_lss_s ?_ ?_ <;> intro hc <;> try (exfalso; omega)) | refine pIf_t ?_ | refine pGd_go (by rfl) ?_ | refine pN_v (hk := ?_) | fail)
        refine pc_slices_symMergeCmpFunc_api_Item_ (ih (X := X1) (T := T1) (Z := X2 ++ (T2 ++ Z)) (by omega) (by omega) (by omega) hpX.1 hpT.1 hS (by omega) hb ha (by omega) (by omega) fun G w hp hu hS => ?_)
        exact ⟨G, hp, hu, hS⟩
      · have hone : U.Up S.before (X1 ++ T1) := by
          by_cases h2 : a < p
          · have : T1 = [] := List.eq_nil_of_length_eq_zero (by omega)
            rw [this, List.append_nil]; exact hpX.1
          · have : X1 = [] := List.eq_nil_of_length_eq_zero (by omega)
            rw [this]; exact hpT.1
        have hS2 : Sat E w (rows cd_api_Item s (A ++ ((X1 ++ T1) ++ (X2 ++ (T2 ++ Z)))) :: M) := by rw [List.append_assoc]; exact hS
        by_cases h2 : a < p
        · have h3 : ¬ p < d := fun h => h1 ⟨h2, h⟩
          clear hS
          have hS := hS2
          repeat' (first | (refine pN_lss_s ?_ ?_ <;> intro hc <;> try (exfalso; omega)) | refine pIf_f ?_ | refine pGd_go (by rfl) ?_ | refine pN_v (hk := ?_) | fail)
          exact ⟨_, List.Perm.refl _, hone, hS⟩
        · clear hS
          have hS := hS2
          repeat' (first | (refine pN_lss_s ?_ ?_ <;> intro hc <;> try (exfalso; omega)) | refine pIf_f ?_ | refine pGd_no (by rfl) ?_ | refine pN_v (hk := ?_) | fail)
          exact ⟨_, List.Perm.refl _, hone, hS⟩
    clear hS
    rintro _ w ⟨U1, hp1, hu1, hS⟩
    have hl1 := hp1.length_eq
    rw [List.length_append] at hl1
    have hfin : ∀ U2 : List T_api_Item, U2.Perm (X2 ++ T2) → U.Up S.before U2 → (U1 ++ U2).Perm ((X1 ++ X2) ++ (T1 ++ T2)) ∧ U.Up S.before (U1 ++ U2) := fun U2 hp2 hu2 => by
      refine ⟨(hp1.append hp2).trans ?_, U.Up.cross uX uT hXW hYS hp1 hp2 hu1 hu2⟩
      have e1 : (X1 ++ T1) ++ (X2 ++ T2) = X1 ++ (T1 ++ X2 ++ T2) := by simp only [List.append_assoc]
      have e2 : (X1 ++ X2) ++ (T1 ++ T2) = X1 ++ (X2 ++ T1 ++ T2) := by simp only [List.append_assoc]
      rw [e1, e2]
      exact (List.perm_append_comm.append_right T2).append_left X1
    have hAU : (A ++ U1).length = d := by rw [List.length_append]; omega
    have hS : Sat E w (rows cd_api_Item s ((A ++ U1) ++ (X2 ++ (T2 ++ Z))) :: M) := by rw [List.append_assoc]; exact hS
    by_cases h1 : d < e ∧ e < b
    · repeat' (first | (refine pN_lss_s ?_ ?_ <;> intro hc <;> try (exfalso; omega)) | refine pIf_t ?_ | refine pGd_go (by rfl) ?_ | refine pN_v (hk := ?_) | fail)
      refine pc_slices_symMergeCmpFunc_api_Item_ (ih (A := A ++ U1) (X := X2) (T := T2) (Z := Z) (by omega) (by omega) (by omega) hpX.2.1 hpT.2.1 hS (by omega) hb (by omega) (by omega) (by omega) fun G w hp hu hS => ?_)
      obtain ⟨f1, f2⟩ := hfin G hp hu
      skip
      exact hQ _ _ f1 f2 (by rw [List.append_assoc] at hS ⊢; exact hS)
    · have hone : U.Up S.before (X2 ++ T2) := by
        by_cases h2 : d < e
        · have : T2 = [] := List.eq_nil_of_length_eq_zero (by omega)
          rw [this, List.append_nil]; exact hpX.2.1
        · have : X2 = [] := List.eq_nil_of_length_eq_zero (by omega)
          rw [this]; exact hpT.2.1
      obtain ⟨f1, f2⟩ := hfin _ (List.Perm.refl _) hone
      have hS2 : Sat E w (rows cd_api_Item s (A ++ ((U1 ++ (X2 ++ T2)) ++ Z)) :: M) := by
        have e1 : A ++ ((U1 ++ (X2 ++ T2)) ++ Z) = (A ++ U1) ++ (X2 ++ (T2 ++ Z)) := by simp only [List.append_assoc]
        rw [e1]; exact hS
      clear hS
      have hS := hS2
      by_cases h2 : d < e
      · have h3 : ¬ e < b := fun h => h1 ⟨h2, h⟩
        repeat' (first | (refine pN_lss_s ?_ ?_ <;> intro hc <;> try (exfalso; omega)) | refine pIf_f ?_ | refine pGd_go (by rfl) ?_ | refine pN_v (hk := ?_) | fail)
        exact hQ _ _ f1 f2 hS
      · repeat' (first | (refine pN_lss_s ?_ ?_ <;> intro hc <;> try (exfalso; omega)) | refine pIf_f ?_ | refine pGd_no (by rfl) ?_ | refine pN_v (hk := ?_) | fail)
        exact hQ _ _ f1 f2 hS
end
end Go.Proofs.YtikmogfhhggafaaGreatDoor

namespace Go.Proofs.YtikmogfhhggafaaGreatDoor
open Go
attribute [local irreducible] oMv oV oU oCall oCallV oBi oBin oUn oLoad oStore oNil oFld oField oIdx oIndex oPick oAlloc oBox oBuild oBs oConv oMk oSl oExt oFn oIface oMap oLook oMapUp oRange oNext oEntry oInv oAssert oPanic oRes pN pA pL pDr pIf gA pGd Calls
section
variable [Pan] {E w W : World} {K Q : Value → World → Prop} {J : Value → Prop} {L M N : List HA} {l r : List T_api_Item} {s s2 : Sl} {b : Nat}

set_option maxHeartbeats 4000000 in
theorem Stable_ok {bc : Nat} (hS : Sat E w (rows cd_api_Item s l :: M)) [hf : Fnd (cel bc) M capOb N] (hb : l.length ≤ 1099511627776)
    (hQ : ∀ G w, G.Perm l → U.Up S.before G → Sat E w (rows cd_api_Item s G :: M) → Q (.tuple #[]) w) :
    Calls Tryz.prog 127 #[.slice s.a l.length s.c, .int .i64 l.length, cmpV bc] w (retP Q) := by
  refine slices_stableCmpFunc_api_Item_.calls ?_
  unfold slices_stableCmpFunc_api_Item_.F
  obtain ⟨m, hm⟩ : ∃ m, m = l.length := ⟨_, rfl⟩
  rw [← hm] at hb ⊢
  refine ⟨fun v v' w => ∃ (c : Nat) (D : List T_api_Item), v = .int .i64 ((c * 20 : Nat) : Int) ∧ v' = .int .i64 (((c + 1) * 20 : Nat) : Int) ∧ c * 20 ≤ m ∧ D.length = m ∧ D.Perm l ∧ U.Pre S.before 20 (c * 20) D ∧ Sat E w (rows cd_api_Item s D :: M), fun v _ _ => m - (RowKit.intOf v).toNat,
    ⟨0, l, rfl, rfl, by omega, hm.symm, List.Perm.refl _, U.Pre.start (by omega), hS⟩, ?_⟩
  clear hS
  rintro _ _ _ w ⟨c, D, rfl, rfl, hc, hDl, hp, hpre, hS⟩
  by_cases hle : (c + 1) * 20 ≤ m
  · obtain ⟨A, X, Z, rfl, hA, hX, _⟩ := U.cut3 D (a := c * 20) (b := (c + 1) * 20) (by omega) (by omega)
    simp only [List.length_append] at hDl
    repeat' (first | (refine pN_leq_s ?_ ?_ <;> intro hc <;> try (exfalso; omega)) | refine pIf_t ?_ | fail)
    refine pc_slices_insertionSortCmpFunc_api_Item_ (InsSort_ok hS (by omega) hb (by omega) (by omega) fun X' w hp' hu hS => ?_)
    have hl' := hp'.length_eq
    repeat' (first | refine pN_v (hk := ?_) | fail)
    have e1 : (((c + 1) * 20 : Nat) : Int) + 20 = (((c + 1 + 1) * 20 : Nat) : Int) := by omega
    rw [e1]
    refine ⟨⟨c + 1, A ++ (X' ++ Z), rfl, rfl, hle, by simp only [List.length_append]; omega, U.perm_mid hp hp', hpre.step hA (by omega) (by omega) hu, hS⟩, by simp [RowKit.intOf] <;> omega⟩
  · obtain ⟨A, X, hX, hA, hXl⟩ := half D (k := c * 20) (by omega)
    subst hX
    have hS : Sat E w (rows cd_api_Item s (A ++ (X ++ [])) :: M) := by rw [List.append_nil]; exact hS
    simp only [List.length_append] at hDl hXl
    repeat' (first | (refine pN_leq_s ?_ ?_ <;> intro hc <;> try (exfalso; omega)) | refine pIf_f ?_ | fail)
    refine pc_slices_insertionSortCmpFunc_api_Item_ (InsSort_ok (Z := []) hS (by rw [List.length_nil]; omega) hb (by omega) (by omega) fun X' w hp' hu hS => ?_)
    have hl' := hp'.length_eq
    rw [List.append_nil] at hS
    have hblk := hpre.last hA (S' := X') (by omega) hu
    have hp2 : (A ++ X').Perm l := (hp'.append_left A).trans hp
    have hl2 : (A ++ X').length = m := by rw [List.length_append]; omega
    generalize A ++ X' = D at *
    clear hpre hp' hp hu hA hXl hl' hDl hle hc
    skip
    refine ⟨fun v w => ∃ (k : Nat) (D : List T_api_Item), v = .int .i64 (k : Int) ∧ 0 < k ∧ k ≤ 4398046511104 ∧ D.length = m ∧ D.Perm l ∧ U.Blk S.before k D ∧ Sat E w (rows cd_api_Item s D :: M), fun v _ => m - (RowKit.intOf v).toNat,
      ⟨20, D, rfl, by omega, by omega, hl2, hp2, hblk, hS⟩, ?_⟩
    clear hS hblk hp2 hl2 D
    rintro _ _ w ⟨k, D, rfl, hk0, hk4, hDl, hp, hblk, hS⟩
    by_cases hkm : k < m
    · repeat' (first | (refine pN_lss_s ?_ ?_ <;> intro hc <;> try (exfalso; omega)) | refine pIf_t ?_ | refine pN_v (hk := ?_) | fail)
      have e0 : (2 * (k : Int)) = (((0 + 1) * (2 * k) : Nat) : Int) := by omega
      rw [e0]
      refine ⟨fun v v' w => ∃ (c : Nat) (D : List T_api_Item), v = .int .i64 ((c * (2 * k) : Nat) : Int) ∧ v' = .int .i64 (((c + 1) * (2 * k) : Nat) : Int) ∧ c * (2 * k) ≤ m ∧ D.length = m ∧ D.Perm l ∧ U.Half S.before k (c * (2 * k)) D ∧ Sat E w (rows cd_api_Item s D :: M), fun v _ _ => m - (RowKit.intOf v).toNat,
        ⟨0, D, by rw [Nat.zero_mul]; rfl, rfl, by omega, hDl, hp, by rw [Nat.zero_mul]; exact U.Half.start hblk, hS⟩, ?_⟩
      clear hS hblk hp hDl D
      rintro _ _ _ w ⟨c, D, rfl, rfl, hc, hDl, hp, hh, hS⟩
      obtain ⟨a, ha⟩ : ∃ a, a = c * (2 * k) := ⟨_, rfl⟩
      have hb1 : (c + 1) * (2 * k) = a + 2 * k := by rw [Nat.add_mul, Nat.one_mul, ha]
      have hu1 := hh.hi (2 * c) (by rw [Nat.mul_comm 2 c, Nat.mul_assoc]; exact Nat.le_refl _)
      have hu2 := hh.hi (2 * c + 1) (by rw [Nat.add_mul, Nat.mul_comm 2 c, Nat.mul_assoc]; omega)
      have e1 : 2 * c * k = a := by rw [ha, Nat.mul_comm 2 c, Nat.mul_assoc]
      have e2 : (2 * c + 1) * k = a + k := by rw [Nat.add_mul, e1, Nat.one_mul]
      rw [e1] at hu1
      rw [e2] at hu2
      rw [hb1]
      rw [← ha] at hh hc ⊢
      by_cases hle : a + 2 * k ≤ m
      · obtain ⟨A, X, T, Z, rfl, hA, hX, hT, hX', hT'⟩ := U.cut4 D (a := a) (m := a + k) (b := a + 2 * k) (by omega) (by omega) (by omega)
        rw [show a + k - a = k by omega] at hX hX'
        rw [show a + 2 * k - (a + k) = k by omega] at hT hT'
        rw [← hX'] at hu1
        rw [← hT'] at hu2
        simp only [List.length_append] at hDl
        repeat' (first | (refine pN_leq_s ?_ ?_ <;> intro hc <;> try (exfalso; omega)) | refine pIf_t ?_ | refine pN_v (hk := ?_) | fail)
        refine pc_slices_symMergeCmpFunc_api_Item_ (SymMerge_ok (X.length + T.length) (Nat.le_refl _) (by omega) (by omega) hu1 hu2 hS (by omega) hb (by omega) (by omega) (by omega) fun G w hp' hu hS => ?_)
        have hl' := hp'.length_eq
        rw [List.length_append] at hl'
        repeat' (first | refine pN_v (hk := ?_) | fail)
        have e3 : ((a + 2 * k : Nat) : Int) + 2 * (k : Int) = (((c + 1 + 1) * (2 * k) : Nat) : Int) := by
          rw [Nat.add_mul (c + 1), hb1]; omega
        rw [e3]
        have hh2 : U.Half S.before k ((c + 1) * (2 * k)) (A ++ (G ++ Z)) := U.Half.step (by rw [← ha]; exact hh) (by omega) hl' (by omega) hu
        refine ⟨⟨c + 1, A ++ (G ++ Z), by rw [hb1], rfl, by omega, by simp only [List.length_append]; omega, ?_, hh2, hS⟩, by simp [RowKit.intOf] <;> omega⟩
        refine U.perm_mid (S := X ++ T) ?_ hp'
        rw [List.append_assoc]; exact hp
      · by_cases hmm : a + k < m
        · obtain ⟨A, X, T, Z, hDD, hA, hX, hT, hX', hT'⟩ := U.cut4 D (a := a) (m := a + k) (b := m) (by omega) (by omega) (by omega)
          have hZ : Z = [] := by
            have := congrArg List.length hDD
            simp only [List.length_append] at this
            exact List.eq_nil_of_length_eq_zero (by omega)
          subst hZ
          rw [show a + k - a = k by omega] at hX hX'
          have hseg : U.seg D (a + k) (m - (a + k)) = U.seg D (a + k) k := by
            unfold U.seg
            rw [List.take_of_length_le (by rw [List.length_drop]; omega), List.take_of_length_le (by rw [List.length_drop]; omega)]
          rw [hseg] at hT'
          rw [← hX'] at hu1
          rw [← hT'] at hu2
          rw [hDD] at hS hp hh
          rw [List.append_nil] at hh hp
          repeat' (first | (refine pN_leq_s ?_ ?_ <;> intro hc <;> try (exfalso; omega)) | refine pIf_f ?_ | fail)
          refine ⟨fun w => ∃ D : List T_api_Item, D.length = m ∧ D.Perm l ∧ U.Blk S.before (2 * k) D ∧ Sat E w (rows cd_api_Item s D :: M), ?_, ?_⟩
          · repeat' (first | (refine pN_lss_s ?_ ?_ <;> intro hc <;> try (exfalso; omega)) | refine pIf_t ?_ | refine pN_v (hk := ?_) | fail)
            refine pc_slices_symMergeCmpFunc_api_Item_ (SymMerge_ok (X.length + T.length) (Nat.le_refl _) (by omega) (by omega) hu1 hu2 hS (by rw [List.length_nil]; omega) hb (by omega) (by omega) (by omega) fun G w hp' hu hS => ?_)
            have hl' := hp'.length_eq
            rw [List.length_append] at hl'
            rw [List.append_nil] at hS
            refine ⟨A ++ G, by rw [List.length_append]; omega, (hp'.append_left A).trans hp, U.Half.last (c := c) (by rw [← ha]; exact hh) (by omega) hl' (by omega) hu, hS⟩
          · clear hS hp hh
            rintro _ w ⟨D, hDl, hp, hblk, hS⟩
            have e3 : (k : Int) * 2 = ((2 * k : Nat) : Int) := by omega
            repeat' (first | refine pN_v (hk := ?_) | fail)
            rw [e3]
            exact ⟨⟨2 * k, D, rfl, by omega, by omega, hDl, hp, hblk, hS⟩, by simp [RowKit.intOf] <;> omega⟩
        · have hblk := U.Half.rest (c := c) (l := D) (by rw [← ha]; exact hh) (by omega)
          repeat' (first | (refine pN_leq_s ?_ ?_ <;> intro hc <;> try (exfalso; omega)) | refine pIf_f ?_ | fail)
          refine ⟨fun w => ∃ D : List T_api_Item, D.length = m ∧ D.Perm l ∧ U.Blk S.before (2 * k) D ∧ Sat E w (rows cd_api_Item s D :: M), ?_, ?_⟩
          · repeat' (first | (refine pN_lss_s ?_ ?_ <;> intro hc <;> try (exfalso; omega)) | refine pIf_f ?_ | refine pN_v (hk := ?_) | fail)
            exact ⟨D, hDl, hp, hblk, hS⟩
          · clear hS hp hh hblk hDl hu1 hu2 D
            rintro _ w ⟨D, hDl, hp, hblk, hS⟩
            have e3 : (k : Int) * 2 = ((2 * k : Nat) : Int) := by omega
            repeat' (first | refine pN_v (hk := ?_) | fail)
            rw [e3]
            exact ⟨⟨2 * k, D, rfl, by omega, by omega, hDl, hp, hblk, hS⟩, by simp [RowKit.intOf] <;> omega⟩
    · have hup := hblk.all (by omega)
      repeat' (first | (refine pN_lss_s ?_ ?_ <;> intro hc <;> try (exfalso; omega)) | refine pIf_f ?_ | fail)
      exact hQ _ _ hp hup hS

theorem SortStable_ok {bc : Nat} (hS : Sat E w (rows cd_api_Item s l :: M)) [hf : Fnd (cel bc) M capOb N] (hb : l.length ≤ 1099511627776)
    (hQ : ∀ G w, G.Perm l → U.Up S.before G → Sat E w (rows cd_api_Item s G :: M) → Q (.tuple #[]) w) :
    Calls Tryz.prog 96 #[.slice s.a l.length s.c, cmpV bc] w (retP Q) := by
  refine slices_SortStableFunc___api_Item_api_Item_.calls ?_
  unfold slices_SortStableFunc___api_Item_api_Item_.F
  repeat' (first | refine pN_v (hk := ?_) | fail)
  refine pc_slices_stableCmpFunc_api_Item_ (Stable_ok hS hb fun G w hp hu hS => ?_)
  skip
  exact hQ _ _ hp hu hS
end
end Go.Proofs.YtikmogfhhggafaaGreatDoor

namespace Go.Proofs.YtikmogfhhggafaaGreatDoor
open Go
namespace S
theorem werr_at : ∀ {its : List It} {k : Nat} {x : It}, its[k]? = some x → (∀ y ∈ its.take k, A.wrong y = 0) → A.wrong x ≠ 0 → werr its = A.wrong x
  | [], k, x, h, _, _ => by simp at h
  | y :: r, 0, x, h, _, hx => by
    simp at h
    subst h
    rw [werr, if_neg hx]
  | y :: r, k + 1, x, h, hy, hx => by
    rw [werr, if_pos (hy y (by simp)), werr_at (k := k) (by simpa using h) (fun z hz => hy z (by rw [List.take_succ_cons]; exact List.mem_cons_of_mem _ hz)) hx]
theorem werr_0 : ∀ {its : List It}, (∀ y ∈ its, A.wrong y = 0) → werr its = 0
  | [], _ => rfl
  | y :: r, h => by rw [werr, if_pos (h y List.mem_cons_self), werr_0 fun z hz => h z (List.mem_cons_of_mem _ hz)]
theorem werr_of : ∀ {its : List It}, werr its = 0 → ∀ y ∈ its, A.wrong y = 0
  | [], _, y, hy => by cases hy
  | x :: r, h, y, hy => by
    rw [werr] at h
    split at h
    · rename_i hx
      rcases List.mem_cons.1 hy with rfl | hy
      · exact hx
      · exact werr_of h y hy
    · rename_i hx; exact absurd h hx
theorem twice_eq : ∀ (l : List It), twice l = true ↔ ∃ i x y, l[i]? = some x ∧ l[i + 1]? = some y ∧ x.Name = y.Name
  | [] => by simp [twice]
  | [x] => by
    simp only [twice, Bool.false_eq_true, false_iff]
    rintro ⟨i, a, b, _, h2, _⟩
    simp at h2
  | x :: y :: r => by
    rw [twice, Bool.or_eq_true, decide_eq_true_eq, twice_eq (y :: r)]
    constructor
    · rintro (h | ⟨i, a, b, h1, h2, h3⟩)
      · exact ⟨0, x, y, rfl, rfl, h⟩
      · exact ⟨i + 1, a, b, by simpa using h1, by simpa using h2, h3⟩
    · rintro ⟨i, a, b, h1, h2, h3⟩
      cases i with
      | zero =>
        simp at h1 h2
        subst h1 h2
        exact .inl h3
      | succ i => exact .inr ⟨i, a, b, by simpa using h1, by simpa using h2, h3⟩
theorem putAll_take {d : D.T} {l : List It} {k : Nat} {x : It} (h : l[k]? = some x) : putAll d (l.take (k + 1)) = (putAll d (l.take k)).put x.Data.2 := by
  unfold putAll
  rw [List.take_add_one, h, List.foldl_append]
  rfl
theorem put_nil (d : D.T) : d.put [] = d := by
  show d.puts (C.pieces d.k []) = d
  rw [C.pieces_nil]; rfl
theorem ids_nil (k : C.K) : D.ids k [] = [] := by
  show (C.pieces k []).map H.sum = []
  rw [C.pieces_nil]; rfl
end S
theorem pN_bldE [Pan] {w : World} {K : Value → World → Prop} (a b : List UInt8) (k m t : Int) (dt : Sl × List UInt8) (hk : K (.agg #[.string ⟨a.toArray⟩, .string ⟨b.toArray⟩, .int .i64 k, .int .i64 m, .int .i64 t, .slice dt.1.a dt.2.length dt.1.c, .slice none 0 0]) w) :
    pN Tryz.prog (oBuild 118 [(0, .agg (T_api_Item.enc ⟨a, b, k, m, t, dt⟩).toArray)]) w K := by
  have e : (oBuild 118 [(0, .agg (T_api_Item.enc ⟨a, b, k, m, t, dt⟩).toArray)]) = oBuild 118 [(0, .agg #[.string ⟨a.toArray⟩, .string ⟨b.toArray⟩, .int .i64 k, .int .i64 m, .int .i64 t, .slice dt.1.a dt.2.length dt.1.c])] := rfl
  rw [e, pN_bld_118_0]
  exact hk
theorem list_en_take {k : C.K} {G : List T_api_Item} {j : Nat} {x : T_api_Item} (h : G[j]? = some x) : (G.take (j + 1)).map (S.en k) = (G.take j).map (S.en k) ++ [S.en k x] := by
  rw [List.take_add_one, h, List.map_append]; rfl
attribute [local irreducible] oMv oV oU oCall oCallV oBi oBin oUn oLoad oStore oNil oFld oField oIdx oIndex oPick oAlloc oBox oBuild oBs oConv oMk oSl oExt oFn oIface oMap oLook oMapUp oRange oNext oEntry oInv oAssert oPanic oRes pN pA pL pDr pIf gA pGd Calls H.sum C.put L.list
section
variable [Pan] {E w W : World} {K Q : Value → World → Prop} {LL M N N' : List HA} {c : T_api_Config} {db : Nat} {d : D.T} {its : List T_api_Item} {s sl : Sl}

theorem byName_ok (hS : Sat E w M) [hr : Rds cd_api_Item M sl its] (hl : its.length ≤ 1099511627776) (hQ : ∀ G s w, G.Perm its → U.Up S.before G → Sat E w (rows cd_api_Item s G :: M) → Q (.slice s.a G.length s.c) w) :
    Calls Tryz.prog 57 #[.slice sl.a its.length sl.c, .func (.func 58) #[] #[]] w (retP Q) := by
  refine snap_byName_api_Item_.calls ?_
  unfold snap_byName_api_Item_.F
  refine pN_bx (z := [.func (.func 58) #[] #[]]) hS rfl ?_
  clear hS
  intro bc w hS
  repeat' (first | (refine pc_slices_Clone___api_Item_api_Item_ (SCloneT_ok (s := sl) (lt := its) hS hl ?_); clear hS; intro s1 w hS) | refine pN_fn ?_ | fail)
  refine pc_slices_SortStableFunc___api_Item_api_Item_ (SortStable_ok (bc := bc) (s := s1) (l := its) hS hl fun G w hp hu hS => ?_)
  rw [← hp.length_eq]
  skip
  exact hQ G s1 _ hp hu hS.to

set_option maxHeartbeats 4000000 in
theorem Save_ok (hG : GloS W) (hk : d.k.legal) (hS : Sat E w LL) [hf : Fnd (Dep c db) LL d N] [hg : Has (old W) N N'] (n : NKey) (hn : n.1.length ≤ 254) [hr : Rds cd_api_Item N sl its] (hd : ∀ x ∈ its, Rds cd_uint8 N x.Data.1 x.Data.2)
    (hb : ∀ x ∈ its, x.Name.length ≤ 1099511627776 ∧ x.Link.length ≤ 1099511627776 ∧ x.Data.2.length ≤ 1099511627776) (hl : its.length ≤ 1099511627776) (hlist : (S.list d.k (S.sort its)).length ≤ 1099511627776)
    (hQ : ∀ w, Sat E w (Dep c db (S.save d n.1 its).2 :: N) → Q (.int .i64 (S.save d n.1 its).1) w) :
    Calls Tryz.prog 13 #[.pointer (some ⟨db, 0, none⟩), nke n, .slice sl.a its.length sl.c] w (retP Q) := by
  refine snap_Save.calls ?_
  unfold snap_Save.F
  have hS1 := hS.fd (Dep c db)
  clear hS hf
  have hS := hS1
  clear hS1
  have hsv : S.save d n.1 its = if S.werr its ≠ 0 then (S.werr its, d) else if S.twice (S.sort its) = true then (9, d) else (0, S.saved d n.1 (S.sort its)) := by rw [S.save, if_neg (by omega)]
  rw [hsv] at hQ
  clear hsv
  repeat' (first | (refine pc_depot_Legal (DLegal_ok n.1 hn ?_)) | (refine pN_neq_s ?_ ?_ <;> intro hc <;> try (exfalso; first | omega | exact hc rfl | exact hc (by assumption) | exact absurd hc (by assumption))) | refine pIf_f ?_ | refine pN_v (hk := ?_) | fail)
  refine ⟨fun v w => ∃ k : Nat, v = .int .i64 k ∧ k ≤ its.length ∧ (∀ x ∈ its.take k, A.wrong x = 0) ∧ Sat E w (Dep c db d :: N), fun v _ => its.length - (RowKit.intOf v).toNat, ⟨0, rfl, by omega, fun x hx => by simp at hx, hS⟩, ?_⟩
  clear hS
  rintro _ _ w ⟨k, rfl, hkl, hw, hS⟩
  by_cases hlt : k < its.length
  · obtain ⟨x, hx⟩ : ∃ x, its[k]? = some x := ⟨its[k], by simp [hlt]⟩
    have hm : x ∈ its := List.mem_of_getElem? hx
    haveI := hd x hm
    obtain ⟨b1, b2, b3⟩ := hb x hm
    repeat' (first | (refine pN_lss_s ?_ ?_ <;> intro hc <;> try (exfalso; omega)) | refine pIf_t ?_ | refine pN_ld_at ha hS (by rfl) ?_ | refine pN_la hS (by rfl) ?_ | (refine pN_sa hS (by rfl) (by rfl) (by rfl) ?_; clear hS; intro w hS; try dsimp only at hS) | (refine pN_nz hS ?_; clear hS; intro a w hS) | refine pN_ixk hS _ (by first | rfl | (exact (Int.toNat_of_nonneg (by omega)).symm)) (by first | rfl | omega | simpa only [go_sem] using True.intro | (simp only [go_sem]; omega)) (by assumption) fun a ha hel => ?_ | fail)
    refine pc_tar_Put (Put_ok x (by omega) (by omega) hS (fun h0 w hS => ?_) fun h0 s1 w hS => ?_)
    · rw [S.werr_at hx hw h0, if_pos h0] at hQ
      repeat' (first | (refine pN_neq_s ?_ ?_ <;> intro hc <;> try (exfalso; first | omega | exact hc rfl | exact hc (by assumption) | exact absurd hc (by assumption))) | refine pIf_t ?_ | refine pN_v (hk := ?_) | fail)
      exact hQ _ hS.to
    · repeat' (first | (refine pN_neq_s ?_ ?_ <;> intro hc <;> try (exfalso; first | omega | exact hc rfl | exact hc (by assumption) | exact absurd hc (by assumption))) | refine pIf_f ?_ | refine pN_v (hk := ?_) | fail)
      refine ⟨⟨k + 1, rfl, by omega, fun y hy => ?_, hS.to⟩, by simp [RowKit.intOf] <;> omega⟩
      rw [List.take_add_one, hx] at hy
      rcases List.mem_append.1 hy with hy | hy
      · exact hw y hy
      · obtain rfl : y = x := by simpa using hy
        exact h0
  · obtain rfl : k = its.length := by omega
    rw [List.take_length] at hw
    rw [S.werr_0 hw, if_neg (fun h => h rfl)] at hQ
    repeat' (first | (refine pN_lss_s ?_ ?_ <;> intro hc <;> try (exfalso; omega)) | refine pIf_f ?_ | fail)
    refine pc_snap_byName_api_Item_ (byName_ok (sl := sl) (its := its) hS hl fun G sg w hp hu hS => ?_)
    obtain ⟨ht1, ht2⟩ := S.sort_of hp hu
    have hgl := hp.length_eq
    refine ⟨fun v w => ∃ i : Nat, v = .int .i64 i ∧ 1 ≤ i ∧ (∀ j x y, j + 1 < i → G[j]? = some x → G[j + 1]? = some y → x.Name ≠ y.Name) ∧ Sat E w (rows cd_api_Item sg G :: Dep c db d :: N), fun v _ => G.length - (RowKit.intOf v).toNat, ⟨1, rfl, by omega, fun j x y h => by omega, hS⟩, ?_⟩
    clear hS
    rintro _ _ w ⟨i, rfl, hi1, hne, hS⟩
    by_cases hlt : i < G.length
    · obtain ⟨y, hy⟩ : ∃ y, G[i]? = some y := ⟨G[i], by simp [hlt]⟩
      obtain ⟨x, hx⟩ : ∃ x, G[i - 1]? = some x := ⟨G[i - 1], by simp [show i - 1 < G.length by omega]⟩
      have e1 : i - 1 + 1 = i := by omega
      have e2 : (((i - 1 : Nat)) : Int) = (i : Int) - 1 := by omega
      repeat' (first | (refine pN_lss_s ?_ ?_ <;> intro hc <;> try (exfalso; omega)) | (refine pA_eql_ss ?_ ?_ <;> intro hc <;> try (exfalso; first | omega | exact hc rfl | exact hc (by assumption) | exact absurd hc (by assumption))) | refine pIf_t ?_ | refine pIf_f ?_ | refine pL_ld1 ha hS ?_ | refine pA_fa ha (by rfl) fun a ha => ?_ | (refine pDr_go hS ?_; clear hS; intro w hS) | refine pA_ixk hS _ (by first | rfl | (exact (Int.toNat_of_nonneg (by omega)).symm)) (by first | rfl | omega | simpa only [go_sem] using True.intro | (simp only [go_sem]; omega)) (by assumption) fun a ha hel => ?_ | refine pA_ix hS _ (by first | rfl | (exact (Int.toNat_of_nonneg (by omega)).symm)) (by first | rfl | omega | simpa only [go_sem] using True.intro | (simp only [go_sem]; omega)) (by first | omega | (simp only [go_sem]; omega)) fun a x hx ha hel => ?_ | refine pN_v (hk := ?_) | refine pA_v (hk := ?_) | fail)
      · have e3 : ((i : Int) - 1).toNat = i - 1 := by omega
        rw [e3] at hx
        have h1 : S.twice G = true := (S.twice_eq G).2 ⟨i - 1, x, y, hx, by rw [e1]; exact hy, hc.symm⟩
        rw [← ht1, h1, if_pos rfl] at hQ
        exact hQ _ hS.to
      · have e3 : ((i : Int) - 1).toNat = i - 1 := by omega
        rw [e3] at hx
        refine ⟨⟨i + 1, rfl, by omega, fun j x2 y2 hj h1 h2 => ?_, hS⟩, by simp [RowKit.intOf] <;> omega⟩
        by_cases hji : j + 1 < i
        · exact hne j x2 y2 hji h1 h2
        · obtain rfl : j = i - 1 := by omega
          rw [hx] at h1
          rw [e1, hy] at h2
          cases h1
          cases h2
          exact fun e => hc e.symm
    · have htw : S.twice G = false := by
        cases h : S.twice G with
        | false => rfl
        | true =>
          obtain ⟨j, x, y, h1, h2, h3⟩ := (S.twice_eq G).1 h
          have := (List.getElem?_eq_some_iff.1 h2).1
          exact absurd h3 (hne j x y (by omega) h1 h2)
      rw [← ht1, htw, if_neg (by decide)] at hQ
      rw [← ht2 htw] at hQ hlist
      have hdG : ∀ x ∈ G, Rds cd_uint8 N x.Data.1 x.Data.2 := fun x hx => hd x (hp.mem_iff.1 hx)
      have hbG : ∀ x ∈ G, x.Name.length ≤ 1099511627776 ∧ x.Link.length ≤ 1099511627776 ∧ x.Data.2.length ≤ 1099511627776 := fun x hx => hb x (hp.mem_iff.1 hx)
      have hwG : ∀ x ∈ G, A.wrong x = 0 := fun x hx => hw x (hp.mem_iff.1 hx)
      clear hne ht1 ht2
      repeat' (first | (refine pN_lss_s ?_ ?_ <;> intro hc <;> try (exfalso; omega)) | refine pIf_f ?_ | refine pN_v (hk := ?_) | fail)
      refine ⟨fun v v' w => ∃ (k : Nat) (ee : List EE) (so : Sl), v = .slice so.a ee.length so.c ∧ v' = .int .i64 k ∧ k ≤ G.length ∧ ee.map enOf = (G.take k).map (S.en d.k) ∧
        (∀ p ∈ ee, 0 ≤ p.1.Mode ∧ p.1.Mode < 9223372036854775808 ∧ 0 ≤ p.1.Time ∧ p.1.Time < 9223372036854775808) ∧
        Sat E w (rows cdE so ee :: bag (eeR ee) :: Dep c db (S.putAll d (G.take k)) :: rows cd_api_Item sg G :: N), fun _ v _ => G.length - (RowKit.intOf v).toNat,
        ⟨0, [], ⟨none, 0⟩, rfl, rfl, by omega, rfl, fun p h => (by cases h), ?_⟩, ?_⟩
      · have h8 : Sat E w (rows cdE ⟨none, 0⟩ [] :: _) := hS.nil cdE.e cdE.size
        have h9 : Sat E w (bag (eeR []) :: rows cdE ⟨none, 0⟩ [] :: _) := h8.bag_nil
        have h10 : Sat E w (rows cdE ⟨none, 0⟩ [] :: bag (eeR []) :: Dep c db d :: rows cd_api_Item sg G :: N) := h9.to
        exact h10
      clear hS
      rintro _ _ _ w ⟨k, ee, so, rfl, rfl, hkl, hee, hmt, hS⟩
      have hel : ee.length = k := by
        have := congrArg List.length hee
        rw [List.length_map, List.length_map, List.length_take] at this
        omega
      by_cases hlt : k < G.length
      · obtain ⟨x, hx⟩ : ∃ x, G[k]? = some x := ⟨G[k], by simp [hlt]⟩
        have hm : x ∈ G := List.mem_of_getElem? hx
        have hrd := hdG x hm
        obtain ⟨b1, b2, b3⟩ := hbG x hm
        obtain ⟨_, _, _, m0, m1, t0, t1, _, _, _, _, hd0⟩ := A.wrong_0 (hwG x hm)
        have hpt := S.putAll_take (d := d) hx
        have hdk : (S.putAll d (G.take k)).k = d.k := S.putAll_k _ d
        have hen := list_en_take (k := d.k) hx
        generalize S.putAll d (G.take k) = d1 at *
        have hids : x.Kind ≠ 0 → D.ids d.k x.Data.2 = [] ∧ d1.put x.Data.2 = d1 := fun h => by
          rw [hd0 h]
          exact ⟨S.ids_nil _, S.put_nil _⟩
        obtain ⟨nm, lk, kd, md, tm, dt⟩ := x
        dsimp only at hrd b1 b2 b3 m0 m1 t0 t1 hids hpt
        have hle1 : ((ee ++ [((⟨nm, lk, kd, md, tm, dt⟩ : T_api_Item), (sl, D.ids d.k dt.2))]).length : Nat) = k + 1 := by rw [List.length_append, hel]; rfl
        have hids2 : ∀ ss : Sl, (ee ++ [((⟨nm, lk, kd, md, tm, dt⟩ : T_api_Item), (ss, D.ids d.k dt.2))]).map enOf = (G.take (k + 1)).map (S.en d.k) := fun ss => by rw [List.map_append, hee, hen]; rfl
        repeat' (first | (refine pN_lss_s ?_ ?_ <;> intro hc <;> try (exfalso; omega)) | refine pIf_t ?_ | fail)
        refine ⟨fun v w => ∃ (ss so : Sl), v = .slice so.a (ee ++ [((⟨nm, lk, kd, md, tm, dt⟩ : T_api_Item), (ss, D.ids d.k dt.2))]).length so.c ∧
          Sat E w (rows cdE so (ee ++ [((⟨nm, lk, kd, md, tm, dt⟩ : T_api_Item), (ss, D.ids d.k dt.2))]) :: bag (eeR (ee ++ [((⟨nm, lk, kd, md, tm, dt⟩ : T_api_Item), (ss, D.ids d.k dt.2))])) :: Dep c db (d1.put dt.2) :: rows cd_api_Item sg G :: N), ?_, ?_⟩
        · repeat' (first | refine pN_ld_at ha hS (by rfl) ?_ | refine pN_la hS (by rfl) ?_ | (refine pN_sa hS (by rfl) (by rfl) (by rfl) ?_; clear hS; intro w hS; try dsimp only at hS) | (refine pN_nz hS ?_; clear hS; intro a w hS) | refine pN_ixk hS _ (by first | rfl | (exact (Int.toNat_of_nonneg (by omega)).symm)) (by first | rfl | omega | simpa only [go_sem] using True.intro | (simp only [go_sem]; omega)) (by assumption) fun a ha hel => ?_ | fail)
          revert a
          intro x15 hS
          refine pN_bldE nm lk kd md tm dt ?_
          repeat' (first | (refine pN_sa hS (by rfl) (by rfl) (by rfl) ?_; clear hS; intro w hS; try dsimp only at hS) | (refine pN_nz hS ?_; clear hS; intro a w hS) | fail)
          revert a
          intro x16 hS
          haveI hrd2 : Rds cd_uint8 N dt.1 dt.2 := hrd
          refine ⟨fun w => ∃ ss : Sl, Sat E w (rows (cdI 58) ss (D.ids d.k dt.2) :: cel x16 ⟨118, [.string ⟨nm.toArray⟩, .string ⟨lk.toArray⟩, .int .i64 kd, .int .i64 md, .int .i64 tm, .slice dt.1.a dt.2.length dt.1.c, .slice ss.a (D.ids d.k dt.2).length ss.c]⟩ :: rows cdE so ee :: bag (eeR ee) :: Dep c db (d1.put dt.2) :: rows cd_api_Item sg G :: N), ?_, ?_⟩
          · by_cases k0 : kd = 0
            · repeat' (first | (refine pN_eql_s ?_ ?_ <;> intro hc <;> try (exfalso; first | omega | exact hc rfl | exact hc (by assumption) | exact absurd hc (by assumption))) | refine pIf_t ?_ | refine pN_l hS (by first | rfl | assumption) ?_ | refine pN_v (hk := ?_) | fail)
              refine pc_depot_Depot_Put (DPut_ok (c := c) (d := d1) (s := dt.1) (l := dt.2) hG (by rw [hdk]; exact hk) hS b3 ?_)
              rw [hdk]
              clear hS
              intro si w hS
              repeat' (first | (refine pN_s hS (by first | exact Nat.le_of_ble_eq_true rfl | assumption) (by rfl) ?_; clear hS; intro w hS; try simp only [List.set_cons_zero, List.set_cons_succ] at hS) | refine pN_v (hk := ?_) | fail)
              exact ⟨si, hS.to⟩
            · obtain ⟨i1, i2⟩ := hids k0
              rw [i1, i2]
              repeat' (first | (refine pN_eql_s ?_ ?_ <;> intro hc <;> try (exfalso; first | omega | exact hc rfl | exact hc (by assumption) | exact absurd hc (by assumption))) | refine pIf_f ?_ | refine pN_l hS (by first | rfl | assumption) ?_ | refine pN_v (hk := ?_) | fail)
              have h8 : Sat E w (rows (cdI 58) ⟨none, 0⟩ [] :: _) := hS.nil (cdI 58).e (cdI 58).size
              exact ⟨⟨none, 0⟩, h8.to⟩
          · clear hS
            rintro _ w ⟨ss, hS⟩
            generalize D.ids d.k dt.2 = di at *
            repeat' (first | (refine pN_b1 (x := ((⟨nm, lk, kd, md, tm, dt⟩ : T_api_Item), (ss, di))) hS rfl (by decide) ?_; clear hS; intro s3 w hS) | (refine pN_app (C := cdE) (s := so) (l := ee) hS rfl rfl (by rw [List.length_cons, List.length_nil]; omega) ?_; clear hS; intro s4 w hS) | refine pN_la hS (by rfl) ?_ | fail)
            have hS : Sat E w (rows (cdI 58) ss di :: bag (eeR ee) :: rows cdE s4 (ee ++ [((⟨nm, lk, kd, md, tm, dt⟩ : T_api_Item), (ss, di))]) :: Dep c db (d1.put dt.2) :: rows cd_api_Item sg G :: N) := hS.to
            have hS := eeR_snoc ((⟨nm, lk, kd, md, tm, dt⟩ : T_api_Item), (ss, di)) hS
            exact ⟨ss, s4, rfl, hS.to⟩
        · clear hS
          rintro _ _ w ⟨ss, so, rfl, hS⟩
          repeat' (first | refine pN_v (hk := ?_) | fail)
          refine ⟨⟨k + 1, _, so, rfl, rfl, by omega, hids2 ss, fun p hp => ?_, by rw [hpt]; exact hS⟩, by simp [RowKit.intOf] <;> omega⟩
          rcases List.mem_append.1 hp with hp | hp
          · exact hmt p hp
          · obtain rfl : p = _ := by simpa using hp
            exact ⟨m0, by show md < _; omega, t0, by show tm < _; omega⟩
      · obtain rfl : k = G.length := by omega
        rw [List.take_length] at hee hS
        have hdk : (S.putAll d G).k = d.k := S.putAll_k _ d
        have hLl : L.list (ee.map enOf) = S.list d.k G := by rw [hee]; rfl
        have hsaved : S.saved d n.1 G = ((S.putAll d G).put (S.list d.k G)).set n.1 (D.ids d.k (S.list d.k G)) := rfl
        have hne := S.ids_ne d.k (S.list_ne d.k G)
        have hidl : (D.ids d.k (S.list d.k G)).length ≤ 1099511627776 := by
          have h1 := C.pieces_len d.k (S.list d.k G)
          have h2 : (D.ids d.k (S.list d.k G)).length = (C.pieces d.k (S.list d.k G)).length := List.length_map ..
          omega
        rw [hsaved] at hQ
        generalize S.putAll d G = d1 at *
        have hrdE : ∀ p ∈ ee, Rds (cdI 58) (rows cdE so ee :: bag (eeR ee) :: Dep c db d1 :: rows cd_api_Item sg G :: N) p.2.1 p.2.2 := fun p hp => by
          haveI := eeR_rd hp
          infer_instance
        repeat' (first | (refine pc_snap_write (swrite_ok (s := so) (es := ee) hG hS hrdE hmt (by omega) (by rw [hLl]; omega) ?_); rw [hLl]; clear hS; intro sb w hS) | (refine pN_lss_s ?_ ?_ <;> intro hc <;> try (exfalso; omega)) | refine pIf_f ?_ | fail)
        refine pc_depot_Depot_Put (DPut_ok (c := c) (d := d1) (s := sb) (l := S.list d.k G) hG (by rw [hdk]; exact hk) hS hlist ?_)
        rw [hdk]
        clear hS
        intro si w hS
        refine pc_depot_Depot_Set (DSet_ok (c := c) n hn hS (s := si) (li := D.ids d.k (S.list d.k G)) hne hidl ?_)
        clear hS
        intro w hS
        exact hQ _ hS.to
end
end Go.Proofs.YtikmogfhhggafaaGreatDoor
