/-
  What each operation of the second walk gives: its run as an equation; the walk's own steps. No program is named here.
-/
import Derived.Test.YtbgnnjfpiblkmaaDoorCode
namespace Go.Proofs.YtbgnnjfpiblkmaaDoor
open Go
set_option linter.unusedSimpArgs false
set_option linter.unnecessarySimpa false
set_option linter.unusedSectionVars false
set_option linter.unusedVariables false

section
variable [Pan] {P : Program} {w w' : World} {K : Value → World → Prop} {v : Value}

omit [Pan] in
def rA (r : World → Result Next) (K : Value → Prop) : Prop := ∃ v, (∀ w, r w = .ok (.value v) w) ∧ K v

omit [Pan] in
def rL (r : Result Next) (w : World) (K : Value → Prop) : Prop := ∃ v, r = .ok (.value v) w ∧ K v

theorem pN_def (m : Sem Next) : pN P m w K = rN P (m.run P w) K := rfl
theorem pA_def (m : Sem Next) (K : Value → Prop) : pA P m K = rA (fun w => m.run P w) K := rfl
theorem pL_def (m : Sem Next) (K : Value → Prop) : pL P m w K = rL (m.run P w) w K := rfl

theorem rN_congr {r r' : Result Next} (h : r = r') : rN P r K = rN P r' K := by rw [h]
theorem rA_congr {r r' : World → Result Next} {K : Value → Prop} (h : ∀ w, r w = r' w) : rA r K = rA r' K := by rw [funext h]
theorem rL_congr {r r' : Result Next} {K : Value → Prop} (h : r = r') : rL r w K = rL r' w K := by rw [h]

theorem rN_value : rN P (.ok (.value v) w) K = K v w := rfl
theorem rN_skip : rN P (.ok .skip w) K = K undef w := rfl
theorem rN_enter (f : FuncId) (args : Array Value) : rN P (.ok (.enter f args) w) K = Calls P f args w (retP K) := rfl

theorem rA_value {K : Value → Prop} : rA (fun w => .ok (.value v) w) K = K v := by
  apply propext
  constructor
  · rintro ⟨v', h, hK⟩
    have := h default
    simp only [Result.ok.injEq, Next.value.injEq, and_true] at this
    rw [this]; exact hK
  · exact fun h => ⟨v, fun _ => rfl, h⟩

theorem rL_value {K : Value → Prop} : rL (.ok (.value v) w) w K = K v := by
  apply propext
  constructor
  · rintro ⟨v', h, hK⟩
    simp only [Result.ok.injEq, Next.value.injEq, and_true] at h
    rw [h]; exact hK
  · exact fun h => ⟨v, rfl, h⟩

theorem pIf_true (A B : Prop) : pIf (.bool true) A B = A := rfl
theorem pIf_false (A B : Prop) : pIf (.bool false) A B = B := rfl
theorem pIf_congr {v v' : Value} (A B : Prop) (h : v = v') : pIf v A B = pIf v' A B := by rw [h]
theorem pGd_true (m : (Value → World → Prop) → Prop) : pGd true m w K = m K := rfl
theorem pGd_false (m : (Value → World → Prop) → Prop) : pGd false m w K = K undef w := rfl
theorem pGd_congr {b b' : Bool} (m : (Value → World → Prop) → Prop) (h : b = b') : pGd b m w K = pGd b' m w K := by rw [h]
theorem gA_true (m : (Value → Prop) → Prop) (K : Value → Prop) : gA true m K = m K := rfl
theorem gA_false (m : (Value → Prop) → Prop) (K : Value → Prop) : gA false m K = K undef := rfl
theorem gA_congr {b b' : Bool} (m : (Value → Prop) → Prop) (K : Value → Prop) (h : b = b') : gA b m K = gA b' m K := by rw [h]
theorem gB_bool (b want : Bool) : gB (.bool b) want = (b == want) := rfl
theorem pDr_def (K : World → Prop) : pDr w K = K w.drew := rfl

/-! ### Runs -/

theorem run_oMv (x : Value) : (oMv x).run P w = .ok (.value x) w := rfl

theorem run_oV (s : Sem Value) : (oV s).run P w = match s.run P w with
    | .ok v w' => .ok (.value v) w'
    | .halt h w' => .halt h w' := by
  simp only [oV, Sem.run_bind]
  cases s.run P w <;> rfl

theorem run_oU (s : Sem Unit) : (oU s).run P w = match s.run P w with
    | .ok _ w' => .ok .skip w'
    | .halt h w' => .halt h w' := by
  simp only [oU, Sem.run_bind]
  cases s.run P w <;> rfl

theorem run_oV_ok {s : Sem Value} (h : s.run P w = .ok v w') : (oV s).run P w = .ok (.value v) w' := by rw [run_oV, h]
theorem run_oU_ok {s : Sem Unit} (h : s.run P w = .ok () w') : (oU s).run P w = .ok .skip w' := by rw [run_oU, h]

variable (t : TypeId) (xo yo : Operand) (k : IntKind) (a b : Int)

theorem eqGuard_int (op : BinOp) : (eqGuard op t xo yo (.int k a) (.int k b)).run P w = .ok () w := by
  unfold eqGuard
  cases op <;> rfl

theorem run_bin_of {op : BinOp} {x y : Value} (hg : (eqGuard op t xo yo x y).run P w = .ok () w) (h : (binOp op t x y).run P w = .ok v w) : (oBin op t xo yo x y).run P w = .ok (.value v) w := by
  refine run_oV_ok ?_
  rw [Sem.run_bind, hg]
  exact h

theorem run_add : (oBin .add t xo yo (.int k a) (.int k b)).run P w = .ok (.value (.int k (k.wrap (a + b)))) w :=
  run_bin_of t xo yo (eqGuard_int t xo yo k a b .add) (by simp [binOp, Op.intArith])
theorem run_sub : (oBin .sub t xo yo (.int k a) (.int k b)).run P w = .ok (.value (.int k (k.wrap (a - b)))) w :=
  run_bin_of t xo yo (eqGuard_int t xo yo k a b .sub) (by simp [binOp, Op.intArith])
theorem run_mul : (oBin .mul t xo yo (.int k a) (.int k b)).run P w = .ok (.value (.int k (k.wrap (a * b)))) w :=
  run_bin_of t xo yo (eqGuard_int t xo yo k a b .mul) (by simp [binOp, Op.intArith])
theorem run_quo (h : b ≠ 0) : (oBin .quo t xo yo (.int k a) (.int k b)).run P w = .ok (.value (.int k (k.wrap (a.tdiv b)))) w :=
  run_bin_of t xo yo (eqGuard_int t xo yo k a b .quo) (by simp [binOp, Op.intDiv, h])
theorem run_rem (h : b ≠ 0) : (oBin .rem t xo yo (.int k a) (.int k b)).run P w = .ok (.value (.int k (a.tmod b))) w :=
  run_bin_of t xo yo (eqGuard_int t xo yo k a b .rem) (by simp [binOp, Op.intDiv, h])
theorem run_and : (oBin .and t xo yo (.int k a) (.int k b)).run P w = .ok (.value (.int k (k.wrap (BitVec.ofInt k.bits a &&& BitVec.ofInt k.bits b).toNat))) w :=
  run_bin_of t xo yo (eqGuard_int t xo yo k a b .and) (by simp [binOp, Op.intBits])
theorem run_or : (oBin .or t xo yo (.int k a) (.int k b)).run P w = .ok (.value (.int k (k.wrap (BitVec.ofInt k.bits a ||| BitVec.ofInt k.bits b).toNat))) w :=
  run_bin_of t xo yo (eqGuard_int t xo yo k a b .or) (by simp [binOp, Op.intBits])
theorem run_eql : (oBin .eql t xo yo (.int k a) (.int k b)).run P w = .ok (.value (.bool (a == b))) w :=
  run_bin_of t xo yo (eqGuard_int t xo yo k a b .eql) (by simp [binOp, Op.intCmp])
theorem run_neq : (oBin .neq t xo yo (.int k a) (.int k b)).run P w = .ok (.value (.bool (a != b))) w :=
  run_bin_of t xo yo (eqGuard_int t xo yo k a b .neq) (by simp [binOp, Op.intCmp])
theorem run_lss : (oBin .lss t xo yo (.int k a) (.int k b)).run P w = .ok (.value (.bool (decide (a < b)))) w :=
  run_bin_of t xo yo (eqGuard_int t xo yo k a b .lss) (by simp [binOp, Op.intCmp])
theorem run_leq : (oBin .leq t xo yo (.int k a) (.int k b)).run P w = .ok (.value (.bool (decide (a ≤ b)))) w :=
  run_bin_of t xo yo (eqGuard_int t xo yo k a b .leq) (by simp [binOp, Op.intCmp])
theorem run_gtr : (oBin .gtr t xo yo (.int k a) (.int k b)).run P w = .ok (.value (.bool (decide (b < a)))) w :=
  run_bin_of t xo yo (eqGuard_int t xo yo k a b .gtr) (by simp [binOp, Op.intCmp])
theorem run_geq : (oBin .geq t xo yo (.int k a) (.int k b)).run P w = .ok (.value (.bool (decide (b ≤ a)))) w :=
  run_bin_of t xo yo (eqGuard_int t xo yo k a b .geq) (by simp [binOp, Op.intCmp])
theorem run_shl (k' : IntKind) (h : 0 ≤ b) : (oBin .shl t xo yo (.int k a) (.int k' b)).run P w = .ok (.value (.int k (k.wrap (a * 2 ^ (min b.toNat k.bits))))) w := by
  refine run_bin_of t xo yo (by unfold eqGuard; rfl) ?_
  have : ¬ b < 0 := by omega
  simp [binOp, Op.shift, this]
theorem run_shr (k' : IntKind) (h : 0 ≤ b) : (oBin .shr t xo yo (.int k a) (.int k' b)).run P w = .ok (.value (.int k (a.fdiv (2 ^ (min b.toNat k.bits))))) w := by
  refine run_bin_of t xo yo (by unfold eqGuard; rfl) ?_
  have : ¬ b < 0 := by omega
  simp [binOp, Op.shift, this]

/-- Bools. -/
theorem run_equalIn_bool (d : Nat) (p q : Bool) (hu : P.underlying t = some .bool) : (Op.equalIn (d + 1) t (.bool p) (.bool q)).run P w = .ok (p == q) w := by
  simp only [Op.equalIn, Sem.run_bind, run_underlying hu, Result.andThen_ok]
  rfl
theorem run_equal_of {x y : Value} {r : Bool} (h : ∀ d, (Op.equalIn (d + 1) t x y).run P w = .ok r w) : (Op.equal t x y).run P w = .ok r w := h 9999
theorem run_eql_of {x y : Value} {r : Bool} (hb : binOp .eql t x y = (do pure (.bool (← Op.equal t x y)))) (hg : eqGuard .eql t xo yo x y = pure ()) (h : ∀ d, (Op.equalIn (d + 1) t x y).run P w = .ok r w) : (oBin .eql t xo yo x y).run P w = .ok (.value (.bool r)) w := by
  refine run_bin_of t xo yo (by rw [hg]; rfl) ?_
  rw [hb, Sem.run_bind, run_equal_of t h]
  rfl
theorem run_neq_of {x y : Value} {r : Bool} (hb : binOp .neq t x y = (do pure (.bool (!(← Op.equal t x y))))) (hg : eqGuard .neq t xo yo x y = pure ()) (h : ∀ d, (Op.equalIn (d + 1) t x y).run P w = .ok r w) : (oBin .neq t xo yo x y).run P w = .ok (.value (.bool !r)) w := by
  refine run_bin_of t xo yo (by rw [hg]; rfl) ?_
  rw [hb, Sem.run_bind, run_equal_of t h]
  rfl
theorem run_eql_bool (p q : Bool) (hu : P.underlying t = some .bool) : (oBin .eql t xo yo (.bool p) (.bool q)).run P w = .ok (.value (.bool (p == q))) w :=
  run_eql_of t xo yo rfl rfl fun d => run_equalIn_bool t d p q hu
theorem run_neq_bool (p q : Bool) (hu : P.underlying t = some .bool) : (oBin .neq t xo yo (.bool p) (.bool q)).run P w = .ok (.value (.bool (p != q))) w :=
  run_neq_of t xo yo rfl rfl fun d => run_equalIn_bool t d p q hu

/-- Strings. -/
theorem run_eql_str (p q : ByteArray) : (oBin .eql t xo yo (.string p) (.string q)).run P w = .ok (.value (.bool (p.toList == q.toList))) w :=
  run_bin_of t xo yo (by unfold eqGuard; rfl) (by simp [binOp, Op.stringOp])
theorem run_neq_str (p q : ByteArray) : (oBin .neq t xo yo (.string p) (.string q)).run P w = .ok (.value (.bool (!(p.toList == q.toList)))) w :=
  run_bin_of t xo yo (by unfold eqGuard; rfl) (by simp [binOp, Op.stringOp])

/-- Pointers against nil. -/
theorem run_equalIn_ptr_nil (d : Nat) (p : Option Addr) {e : TypeId} (hu : P.underlying t = some (.pointer e)) : (Op.equalIn (d + 1) t (.pointer p) (.pointer none)).run P w = .ok p.isNone w := by
  simp only [Op.equalIn, Sem.run_bind, run_underlying hu, Result.andThen_ok]
  cases p <;> rfl
theorem run_eql_ptr_nil (p : Option Addr) {e : TypeId} (hu : P.underlying t = some (.pointer e)) : (oBin .eql t xo yo (.pointer p) (.pointer none)).run P w = .ok (.value (.bool p.isNone)) w := by
  cases p <;> exact run_eql_of t xo yo rfl rfl fun d => run_equalIn_ptr_nil t d _ hu
theorem run_neq_ptr_nil (p : Option Addr) {e : TypeId} (hu : P.underlying t = some (.pointer e)) : (oBin .neq t xo yo (.pointer p) (.pointer none)).run P w = .ok (.value (.bool !p.isNone)) w := by
  cases p <;> exact run_neq_of t xo yo rfl rfl fun d => run_equalIn_ptr_nil t d _ hu

theorem run_not (p : Bool) : (oUn .not (.bool p)).run P w = .ok (.value (.bool !p)) w := run_oV_ok rfl
theorem run_neg : (oUn .neg (.int k a)).run P w = .ok (.value (.int k (k.wrap (0 - a)))) w := run_oV_ok rfl
theorem run_pick (p : Bool) (x y : Value) : (oPick (.bool p) x y).run P w = .ok (.value (if p then x else y)) w := rfl
theorem run_ext (vs : Array Value) (i : Nat) (h : vs[i]? = some v) : (oExt (.tuple vs) i).run P w = .ok (.value v) w :=
  run_oV_ok (by simp [Instr.extract, h])
theorem run_ext2_0 (x y : Value) : (oExt (.tuple #[x, y]) 0).run P w = .ok (.value x) w := rfl
theorem run_ext2_1 (x y : Value) : (oExt (.tuple #[x, y]) 1).run P w = .ok (.value y) w := rfl
theorem run_ext3_0 (x y z : Value) : (oExt (.tuple #[x, y, z]) 0).run P w = .ok (.value x) w := rfl
theorem run_ext3_1 (x y z : Value) : (oExt (.tuple #[x, y, z]) 1).run P w = .ok (.value y) w := rfl
theorem run_ext3_2 (x y z : Value) : (oExt (.tuple #[x, y, z]) 2).run P w = .ok (.value z) w := rfl
theorem run_nil (ad : Addr) : (oNil (.pointer (some ad))).run P w = .ok (.value (.pointer (some ad))) w := rfl
theorem run_conv_int {s d : TypeId} {ks kd : IntKind} (hs : P.underlying s = some (.int ks)) (hd : P.underlying d = some (.int kd)) (n : Int) : (oConv s d (.int k n)).run P w = .ok (.value (.int kd (kd.wrap n))) w :=
  run_oV_ok (by simp [convert, run_underlying hs, run_underlying hd, Conv.intToInt])
theorem run_len_slice {e ty : TypeId} (hu : P.underlying t = some (.slice e)) (ao : Option Addr) (n c : Nat) (cs : List Bool) : (oBi .len #[t] ty cs [.slice ao n c]).run P w = .ok (.value (.int .i64 n)) w := by
  simp [oBi, builtin, Builtin.len_, run_underlying hu, goInt]
end

end Go.Proofs.YtbgnnjfpiblkmaaDoor
