/-
  The operations' meanings under short names, over lists of values; that they are the model's. No program is named here.
-/
import Derived.WalkKit
namespace Go.Proofs.YtbgnnjfpiblkmaaDoor
open Go
set_option linter.unusedSimpArgs false
set_option linter.unnecessarySimpa false
set_option linter.unusedSectionVars false
set_option linter.unusedVariables false

/-- The value of each temporary. -/
abbrev Env := Nat → Value

def Env.put (ρ : Env) (d : Option Tmp) (v : Value) : Env :=
  match d with
  | some d => fun t => match Nat.beq t d with
    | true => v
    | false => ρ t
  | none => ρ

theorem Env.put_some (ρ : Env) (d t : Nat) (v : Value) : ρ.put (some d) v t = if t = d then v else ρ t := by
  simp only [Env.put]
  by_cases h : t = d
  · subst h; simp
  · have : Nat.beq t d = false := by
      cases hb : Nat.beq t d with
      | false => rfl
      | true => exact absurd (Nat.eq_of_beq_eq_true hb) h
    rw [this, if_neg h]

def ev (ρ : Env) : Operand → Value
  | .tmp t => ρ t
  | .const v => v
  | .global g => .pointer (some ⟨g, 0, none⟩)
  | .func f => .func (.func f) #[] #[]

def evL (ρ : Env) : List Operand → List Value
  | [] => []
  | x :: r => ev ρ x :: evL ρ r

def evP (ρ : Env) : List (Nat × Operand) → List (Nat × Value)
  | [] => []
  | (i, x) :: r => (i, ev ρ x) :: evP ρ r

def constL : List Operand → List Bool
  | [] => []
  | .const _ :: r => true :: constL r
  | _ :: r => false :: constL r

def oMv (x : Value) : Sem Next := pure (.value x)
def oV (s : Sem Value) : Sem Next := do pure (.value (← s))
def oU (s : Sem Unit) : Sem Next := do s; pure .skip

def oCall (f : FuncId) (args : List Value) : Sem Next := callFunc f args.toArray
def oCallV (f : Value) (args : List Value) : Sem Next := do let d ← Deferred.ofValue f args.toArray; invoke d.target d.args
def oBi (b : Builtin) (ats : Array TypeId) (t : TypeId) (cs : List Bool) (args : List Value) : Sem Next := builtin b ats t cs.toArray args.toArray
def oBin (op : BinOp) (t : TypeId) (xo yo : Operand) (x y : Value) : Sem Next := oV (do eqGuard op t xo yo x y; binOp op t x y)
def oUn (op : UnOp) (x : Value) : Sem Next := oV (Op.unary op x)
def oLoad (t : TypeId) (a : Value) : Sem Next := oV (Instr.loadAt t a)
def oStore (t : TypeId) (a v : Value) : Sem Next := oU (Instr.storeAt t a v)
def oNil (x : Value) : Sem Next := execOp (fun _ => x) { dst := none, op := .nilCheck (.tmp 0), type := 0, pos := "", after := #[], guard := none }
def oFld (s : TypeId) (x : Value) (f : Nat) : Sem Next := oV (Instr.fieldAt s x f)
def oField (s : TypeId) (x : Value) (f : Nat) : Sem Next := oV (Instr.field s x f)
def oIdx (t : TypeId) (x i : Value) : Sem Next := oV (Instr.indexAt t x i)
def oIndex (t : TypeId) (x i : Value) : Sem Next := oV (Instr.index t x i)
def oPick (c a b : Value) : Sem Next := do pure (.value (if ← asBool c then a else b))
def oAlloc (e : TypeId) : Sem Next := oV (Instr.alloc e true (.tuple #[]))
def oBox (e : TypeId) (v : Value) : Sem Next := oV (Instr.box e v)
def oBuild (t : TypeId) (ps : List (Nat × Value)) : Sem Next := oV (Instr.build t ps.toArray)
def oBs (t : TypeId) (n : Nat) (ps : List (Nat × Value)) : Sem Next := oV (Instr.buildSlice t n ps.toArray)
def oConv (s d : TypeId) (x : Value) : Sem Next := oV (convert s d x)
def oMk (t : TypeId) (l c : Value) : Sem Next := oV (Instr.makeSlice t l c)
def oSl (t : TypeId) (x : Value) (l h m : Option Value) : Sem Next := oV (Instr.sliceAt t x l h m)
def oExt (x : Value) (i : Nat) : Sem Next := oV (Instr.extract x i)
def oFn (fn : Fn) (first cap : List Value) : Sem Next := oV (Instr.makeFunc fn first.toArray cap.toArray)
def oIface (t : TypeId) (x : Value) : Sem Next := oV (Instr.makeInterface t x)
def oMap (t : TypeId) (r : Option Value) : Sem Next := oV (Instr.makeMap t r)
def oLook (t : TypeId) (x i : Value) (ok : Bool) : Sem Next := oV (Instr.lookup t x i ok)
def oMapUp (t : TypeId) (m k v : Value) : Sem Next := oU (Instr.mapUpdate t m k v)
def oRange (t : TypeId) (x : Value) : Sem Next := oV (Instr.range t x)
def oNext (x : Value) (s : Bool) (t : TypeId) : Sem Next := oV (Instr.next x s t)
def oAssert (x : Value) (t a : TypeId) (ok : Bool) : Sem Next := oV (Instr.typeAssert x t a ok)
def oDf (f : Value) (args : List Value) : Sem Next := do pure (.defer (← Deferred.ofValue f args.toArray))
def oEntry (x : Value) : Sem Next := oV (Instr.entry x)
def oInv (recv : Value) (name : String) (args : List Value) : Sem Next := callMethod recv name args.toArray
def oPanic (x : Value) : Sem Next := oV (Instr.panic x)

def evO (ρ : Env) : Option Operand → Option Value
  | some x => some (ev ρ x)
  | none => none

/-- One operation over an environment. -/
def execE (ρ : Env) (o : Oper) : Sem Next :=
  match o.op with
  | .move x => oMv (ev ρ x)
  | .assign x => oMv (ev ρ x)
  | .pick c a b => oPick (ev ρ c) (ev ρ a) (ev ρ b)
  | .alloc e => oAlloc e
  | .box e x => oBox e (ev ρ x)
  | .build t ps => oBuild t (evP ρ ps.toList)
  | .buildSlice t n ps => oBs t n (evP ρ ps.toList)
  | .load t a => oLoad t (ev ρ a)
  | .store t a x => oStore t (ev ρ a) (ev ρ x)
  | .nilCheck x => oNil (ev ρ x)
  | .binOp op t x y _ => oBin op t x y (ev ρ x) (ev ρ y)
  | .unOp op _ x => oUn op (ev ρ x)
  | .convert s d x => oConv s d (ev ρ x)
  | .makeInterface t x => oIface t (ev ρ x)
  | .makeFunc fn first cap => oFn fn (evL ρ first.toList) (evL ρ cap.toList)
  | .makeMap t r => oMap t (evO ρ r)
  | .makeSlice t l c => oMk t (ev ρ l) (ev ρ c)
  | .slice t x l h m => oSl t (ev ρ x) (evO ρ l) (evO ρ h) (evO ρ m)
  | .fieldAddr s x f => oFld s (ev ρ x) f
  | .field s x f => oField s (ev ρ x) f
  | .indexAddr t x i => oIdx t (ev ρ x) (ev ρ i)
  | .index t x i => oIndex t (ev ρ x) (ev ρ i)
  | .lookup t x i ok => oLook t (ev ρ x) (ev ρ i) ok
  | .mapUpdate t m k x => oMapUp t (ev ρ m) (ev ρ k) (ev ρ x)
  | .insert t m k x => oMapUp t (ev ρ m) (ev ρ k) (ev ρ x)
  | .range t x => oRange t (ev ρ x)
  | .next it s => oNext (ev ρ it) s o.type
  | .typeAssert x t a ok => oAssert (ev ρ x) t a ok
  | .extract x i => oExt (ev ρ x) i
  | .panic x => oPanic (ev ρ x)
  | .entry x => oEntry (ev ρ x)
  | .call c => match c.callee with
    | .value f => match f with
      | .func g => oCall g (evL ρ c.args.toList)
      | f => oCallV (ev ρ f) (evL ρ c.args.toList)
    | .builtin b => oBi b c.argTypes o.type (constL c.args.toList) (evL ρ c.args.toList)
    | .invoke r m => oInv (ev ρ r) m (evL ρ c.args.toList)
  | .defer c => match c.callee with
    | .value f => oDf (ev ρ f) (evL ρ c.args.toList)
    | _ => execOp (ev ρ) o
  | _ => execOp (ev ρ) o

theorem evL_eq (ρ : Env) (l : List Operand) : evL ρ l = l.map (ev ρ) := by
  induction l with
  | nil => rfl
  | cons x r ih => simp [evL, ih]

theorem evP_eq (ρ : Env) (l : List (Nat × Operand)) : evP ρ l = l.map fun (i, x) => (i, ev ρ x) := by
  induction l with
  | nil => rfl
  | cons x r ih => obtain ⟨i, x⟩ := x; simp [evP, ih]

theorem constL_eq (l : List Operand) : constL l = l.map fun | .const _ => true | _ => false := by
  induction l with
  | nil => rfl
  | cons x r ih => cases x <;> simp [constL, ih]

theorem evO_eq (ρ : Env) (x : Option Operand) : evO ρ x = x.map (ev ρ) := by cases x <;> rfl

theorem map_toArray_toList {α β : Type} (f : α → β) (a : Array α) : (a.toList.map f).toArray = a.map f := by
  rw [← Array.toList_map]

theorem execE_eq (ρ : Env) (o : Oper) : execE ρ o = execOp (ev ρ) o := by
  obtain ⟨dst, op, type, pos, after, guard⟩ := o
  cases op with
  | build t ps => simp only [execE, execOp, oBuild, oV, evP_eq, map_toArray_toList]
  | buildSlice t n ps => simp only [execE, execOp, oBs, oV, evP_eq, map_toArray_toList]
  | makeFunc fn first cap => simp only [execE, execOp, oFn, oV, evL_eq, map_toArray_toList]
  | makeMap t r => simp only [execE, execOp, oMap, oV, evO_eq]
  | slice t x l h m => simp only [execE, execOp, oSl, oV, evO_eq]
  | call c =>
    obtain ⟨callee, args, ats⟩ := c
    cases callee with
    | value f =>
      cases f with
      | func g =>
        simp only [execE, execOp, oCall, evL_eq, map_toArray_toList, resolve, ev, Deferred.ofValue, pure_bind, invoke, Array.empty_append, Array.append_empty]
      | tmp t => simp only [execE, execOp, oCallV, evL_eq, map_toArray_toList, resolve]
      | const v => simp only [execE, execOp, oCallV, evL_eq, map_toArray_toList, resolve]
      | global g => simp only [execE, execOp, oCallV, evL_eq, map_toArray_toList, resolve]
    | builtin b =>
      simp only [execE, execOp, oBi, evL_eq, constL_eq, map_toArray_toList, resolve, pure_bind, invoke]
      rfl
    | invoke r m =>
      have e1 : (#[ev ρ r] ++ args.map (ev ρ))[0]? = some (ev ρ r) := by rw [Array.getElem?_append, if_pos (by simp)]; rfl
      have e2 : (#[ev ρ r] ++ args.map (ev ρ)).extract 1 (#[ev ρ r] ++ args.map (ev ρ)).size = args.map (ev ρ) := by
        apply Array.ext'
        simp only [Array.toList_extract, Array.toList_append, Array.size_append, Array.toList_map, List.extract_eq_take_drop, List.drop_succ_cons, List.drop_zero, List.cons_append, List.nil_append]
        exact List.take_of_length_le (by simp)
      simp only [execE, execOp, oInv, evL_eq, map_toArray_toList, resolve, pure_bind, invoke, e1]
      rw [e2]
  | defer c =>
    obtain ⟨callee, args, ats⟩ := c
    cases callee with
    | value f => simp only [execE, execOp, oDf, evL_eq, map_toArray_toList, resolve]
    | builtin b => rfl
    | invoke r m => rfl
  | _ => rfl

end Go.Proofs.YtbgnnjfpiblkmaaDoor
