import Derived.WalkKit
import Derived.Orders
import Derived.Maps.AppendAt
import Derived.Laws.BytesString
import Derived.Deep.MidRow
import Derived.Laws.AppendOwnNone
import Derived.DataElems
import Derived.Laws.CopyRow
set_option linter.all false
namespace Go.Proofs.YtikmogfhhggafaaGreatDoor
open Go
theorem gone {p:Prop} (h:¬p) (h2:p:=by first|exact rfl|assumption):False:=h h2
theorem gon2 {p:Prop} (h:p) (h2:¬p:=by assumption):False:=h2 h
abbrev QQ:=Value→World→Prop
def ot (n:Nat):List (Nat×Nat):=(List.range n).map fun i=>(i,2^i-1)
section
abbrev Env:=Nat→Value
def Env.put (ρ:Env) (d:Option Tmp) (v:Value):Env:=
 match d with
 |some d=>fun t=>match Nat.beq t d with
  |true=>v
  |false=>ρ t
 |none=>ρ
theorem Env.put_some (ρ:Env) (d t:Nat) (v:Value):ρ.put (some d) v t=if t=d then v else ρ t:=by
 simp only[Env.put]
 by_cases h:t=d
 ·subst h;simp
 ·have:Nat.beq t d=false:=by
   cases hb:Nat.beq t d with
   |false=>rfl
   |true=>exact absurd (Nat.eq_of_beq_eq_true hb) h
  rw[this,if_neg h]
def ev (ρ:Env):Operand→Value
 | .tmp t=>ρ t
 | .const v=>v
 | .global g=> .pointer (some ⟨g,0,none⟩)
 | .func f=> .func (.func f) #[] #[]
def evL (ρ:Env):List Operand→List Value
 | []=>[]
 |x::r=>ev ρ x::evL ρ r
def evP (ρ:Env):List (Nat×Operand)→List (Nat×Value)
 | []=>[]
 |(i,x)::r=>(i,ev ρ x)::evP ρ r
def constL:List Operand→List Bool
 | []=>[]
 | .const _::r=>true::constL r
 |_::r=>false::constL r
def oMv (x:Value):Sem Next:=pure (.value x)
def oV (s:Sem Value):Sem Next:=do pure (.value (←s))
def oU (s:Sem Unit):Sem Next:=do s;pure .skip
def oCall (f:FuncId) (args:List Value):Sem Next:=callFunc f args.toArray
def oCallV (f:Value) (args:List Value):Sem Next:=do let d ←Deferred.ofValue f args.toArray;invoke d.target d.args
def oBi (b:Builtin) (ats:Array TypeId) (t:TypeId) (cs:List Bool) (args:List Value):Sem Next:=builtin b ats t cs.toArray args.toArray
def oBin (op:BinOp) (t:TypeId) (xo yo:Operand) (x y:Value):Sem Next:=oV (do eqGuard op t xo yo x y;binOp op t x y)
def oUn (op:UnOp) (x:Value):Sem Next:=oV (Op.unary op x)
def oLoad (t:TypeId) (a:Value):Sem Next:=oV (Instr.loadAt t a)
def oStore (t:TypeId) (a v:Value):Sem Next:=oU (Instr.storeAt t a v)
def oNil (x:Value):Sem Next:=execOp (fun _=>x) { dst:=none,op:= .nilCheck (.tmp 0),type:=0,pos:= "",after:=#[],guard:=none }
def oFld (s:TypeId) (x:Value) (f:Nat):Sem Next:=oV (Instr.fieldAt s x f)
def oField (s:TypeId) (x:Value) (f:Nat):Sem Next:=oV (Instr.field s x f)
def oIdx (t:TypeId) (x i:Value):Sem Next:=oV (Instr.indexAt t x i)
def oIndex (t:TypeId) (x i:Value):Sem Next:=oV (Instr.index t x i)
def oPick (c a b:Value):Sem Next:=do pure (.value (if ←asBool c then a else b))
def oAlloc (e:TypeId):Sem Next:=oV (Instr.alloc e true (.tuple #[]))
def oBox (e:TypeId) (v:Value):Sem Next:=oV (Instr.box e v)
def oBuild (t:TypeId) (ps:List (Nat×Value)):Sem Next:=oV (Instr.build t ps.toArray)
def oBs (t:TypeId) (n:Nat) (ps:List (Nat×Value)):Sem Next:=oV (Instr.buildSlice t n ps.toArray)
def oConv (s d:TypeId) (x:Value):Sem Next:=oV (convert s d x)
def oMk (t:TypeId) (l c:Value):Sem Next:=oV (Instr.makeSlice t l c)
def oSl (t:TypeId) (x:Value) (l h m:Option Value):Sem Next:=oV (Instr.sliceAt t x l h m)
def oExt (x:Value) (i:Nat):Sem Next:=oV (Instr.extract x i)
def oFn (fn:Fn) (first cap:List Value):Sem Next:=oV (Instr.makeFunc fn first.toArray cap.toArray)
def oIface (t:TypeId) (x:Value):Sem Next:=oV (Instr.makeInterface t x)
def oMap (t:TypeId) (r:Option Value):Sem Next:=oV (Instr.makeMap t r)
def oLook (t:TypeId) (x i:Value) (ok:Bool):Sem Next:=oV (Instr.lookup t x i ok)
def oMapUp (t:TypeId) (m k v:Value):Sem Next:=oU (Instr.mapUpdate t m k v)
def oRange (t:TypeId) (x:Value):Sem Next:=oV (Instr.range t x)
def oNext (x:Value) (s:Bool) (t:TypeId):Sem Next:=oV (Instr.next x s t)
def oAssert (x:Value) (t a:TypeId) (ok:Bool):Sem Next:=oV (Instr.typeAssert x t a ok)
def oDf (f:Value) (args:List Value):Sem Next:=do pure (.defer (←Deferred.ofValue f args.toArray))
def oEntry (x:Value):Sem Next:=oV (Instr.entry x)
def oInv (recv:Value) (name:String) (args:List Value):Sem Next:=callMethod recv name args.toArray
def oPanic (x:Value):Sem Next:=oV (Instr.panic x)
def evO (ρ:Env):Option Operand→Option Value
 |some x=>some (ev ρ x)
 |none=>none
def execE (ρ:Env) (o:Oper):Sem Next:=
 match o.op with
 | .move x=>oMv (ev ρ x)
 | .assign x=>oMv (ev ρ x)
 | .pick c a b=>oPick (ev ρ c) (ev ρ a) (ev ρ b)
 | .alloc e=>oAlloc e
 | .box e x=>oBox e (ev ρ x)
 | .build t ps=>oBuild t (evP ρ ps.toList)
 | .buildSlice t n ps=>oBs t n (evP ρ ps.toList)
 | .load t a=>oLoad t (ev ρ a)
 | .store t a x=>oStore t (ev ρ a) (ev ρ x)
 | .nilCheck x=>oNil (ev ρ x)
 | .binOp op t x y _=>oBin op t x y (ev ρ x) (ev ρ y)
 | .unOp op _ x=>oUn op (ev ρ x)
 | .convert s d x=>oConv s d (ev ρ x)
 | .makeInterface t x=>oIface t (ev ρ x)
 | .makeFunc fn first cap=>oFn fn (evL ρ first.toList) (evL ρ cap.toList)
 | .makeMap t r=>oMap t (evO ρ r)
 | .makeSlice t l c=>oMk t (ev ρ l) (ev ρ c)
 | .slice t x l h m=>oSl t (ev ρ x) (evO ρ l) (evO ρ h) (evO ρ m)
 | .fieldAddr s x f=>oFld s (ev ρ x) f
 | .field s x f=>oField s (ev ρ x) f
 | .indexAddr t x i=>oIdx t (ev ρ x) (ev ρ i)
 | .index t x i=>oIndex t (ev ρ x) (ev ρ i)
 | .lookup t x i ok=>oLook t (ev ρ x) (ev ρ i) ok
 | .mapUpdate t m k x=>oMapUp t (ev ρ m) (ev ρ k) (ev ρ x)
 | .insert t m k x=>oMapUp t (ev ρ m) (ev ρ k) (ev ρ x)
 | .range t x=>oRange t (ev ρ x)
 | .next it s=>oNext (ev ρ it) s o.type
 | .typeAssert x t a ok=>oAssert (ev ρ x) t a ok
 | .extract x i=>oExt (ev ρ x) i
 | .panic x=>oPanic (ev ρ x)
 | .entry x=>oEntry (ev ρ x)
 | .call c=>match c.callee with
  | .value f=>match f with
   | .func g=>oCall g (evL ρ c.args.toList)
   |f=>oCallV (ev ρ f) (evL ρ c.args.toList)
  | .builtin b=>oBi b c.argTypes o.type (constL c.args.toList) (evL ρ c.args.toList)
  | .invoke r m=>oInv (ev ρ r) m (evL ρ c.args.toList)
 | .defer c=>match c.callee with
  | .value f=>oDf (ev ρ f) (evL ρ c.args.toList)
  |_=>execOp (ev ρ) o
 |_=>execOp (ev ρ) o
theorem evL_eq (ρ:Env) (l:List Operand):evL ρ l=l.map (ev ρ):=by
 induction l with
 |nil=>rfl
 |cons x r ih=>simp[evL,ih]
theorem evP_eq (ρ:Env) (l:List (Nat×Operand)):evP ρ l=l.map fun(i,x)=>(i,ev ρ x):=by
 induction l with
 |nil=>rfl
 |cons x r ih=>obtain⟨i,x⟩:=x;simp[evP,ih]
theorem constL_eq (l:List Operand):constL l=l.map fun| .const _=>true|_=>false:=by
 induction l with
 |nil=>rfl
 |cons x r ih=>cases x<;>simp[constL,ih]
theorem evO_eq (ρ:Env) (x:Option Operand):evO ρ x=x.map (ev ρ):=by cases x<;>rfl
theorem map_toArray_toList {α β:Type} (f:α→β) (a:Array α):(a.toList.map f).toArray=a.map f:=by
 rw[←Array.toList_map]
theorem execE_eq (ρ:Env) (o:Oper):execE ρ o=execOp (ev ρ) o:=by
 obtain⟨dst,op,type,pos,after,guard⟩:=o
 cases op with
 |build t ps=>simp only[execE,execOp,oBuild,oV,evP_eq,map_toArray_toList]
 |buildSlice t n ps=>simp only[execE,execOp,oBs,oV,evP_eq,map_toArray_toList]
 |makeFunc fn first cap=>simp only[execE,execOp,oFn,oV,evL_eq,map_toArray_toList]
 |makeMap t r=>simp only[execE,execOp,oMap,oV,evO_eq]
 |slice t x l h m=>simp only[execE,execOp,oSl,oV,evO_eq]
 |call c=>
  obtain⟨callee,args,ats⟩:=c
  cases callee with
  |value f=>
   cases f with
   |func g=>
    simp only[execE,execOp,oCall,evL_eq,map_toArray_toList,resolve,ev,Deferred.ofValue,pure_bind,invoke,Array.empty_append,Array.append_empty]
   |tmp t=>simp only[execE,execOp,oCallV,evL_eq,map_toArray_toList,resolve]
   |const v=>simp only[execE,execOp,oCallV,evL_eq,map_toArray_toList,resolve]
   |global g=>simp only[execE,execOp,oCallV,evL_eq,map_toArray_toList,resolve]
  |builtin b=>
   simp only[execE,execOp,oBi,evL_eq,constL_eq,map_toArray_toList,resolve,pure_bind,invoke]
   rfl
  |invoke r m=>
   have e1:(#[ev ρ r]++args.map (ev ρ))[0]? =some (ev ρ r):=by rw[Array.getElem?_append,if_pos (by simp)];rfl
   have e2:(#[ev ρ r]++args.map (ev ρ)).extract 1 (#[ev ρ r]++args.map (ev ρ)).size=args.map (ev ρ):=by
    apply Array.ext'
    simp only[Array.toList_extract,Array.toList_append,Array.size_append,Array.toList_map,List.extract_eq_take_drop,List.drop_succ_cons,List.drop_zero,List.cons_append,List.nil_append]
    exact List.take_of_length_le (by simp)
   simp only[execE,execOp,oInv,evL_eq,map_toArray_toList,resolve,pure_bind,invoke,e1]
   rw[e2]
 |defer c=>
  obtain⟨callee,args,ats⟩:=c
  cases callee with
  |value f=>simp only[execE,execOp,oDf,evL_eq,map_toArray_toList,resolve]
  |builtin b=>rfl
  |invoke r m=>rfl
 |_=>rfl
end
section
abbrev PQ:=Exit→Env→World→Prop
class Pan where
 z:List PanicEntry→World→Prop
instance (priority:=low) Pan.no:Pan:=⟨fun _ _=>False⟩
def retP [Pan] (K:Value→World→Prop):Ending→World→Prop
 | .returned v,w=>K v w
 | .panicked c,w=>Pan.z c w
 |_,_=>False
theorem Calls.up {Z:Pan} {P:Program} {f:FuncId} {args:Array Value} {w:World} {K:Value→World→Prop} (h:Calls P f args w (@retP Pan.no K)):Calls P f args w (@retP Z K):=
 Calls.mono h fun e w' he=>by
  cases e with
  |returned v=>exact he
  |panicked c=>exact he.elim
  |outgrown=>exact he
def rN [Pan] (P:Program) (r:Result Next) (K:Value→World→Prop):Prop:=
 match r with
 | .ok (.value v) w'=>K v w'
 | .ok .skip w'=>K undef w'
 | .ok (.enter f args) w'=>Calls P f args w' (retP K)
 | .halt (.panic v) w'=>Pan.z [{ v,recovered:=false }] w'
 |_=>False
def pN [Pan] (P:Program) (m:Sem Next) (w:World) (K:Value→World→Prop):Prop:=rN P (m.run P w) K
def pGd (b:Bool) (m:(Value→World→Prop)→Prop) (w:World) (K:Value→World→Prop):Prop:=
 if b then m K else K undef w
def gB (v:Value) (want:Bool):Bool:=
 match v with
 | .bool b=>b==want
 |_=>false
def wantE (ops:Array Oper) (ρ:Env) (j:Nat) (want:Bool):Bool:=
 match (ops[j]?).bind (·.dst) with
 |some t=>gB (ρ t) want
 |none=>false
def opW [Pan] (P:Program) (ops:Array Oper) (o:Oper) (ρ:Env) (w:World) (K:Value→World→Prop):Prop:=
 match o.guard with
 |none=>match o.op with
  | .move x=>K (ev ρ x) w
  | .assign x=>K (ev ρ x) w
  |_=>pN P (execE ρ o) w K
 |some (j,want)=>pGd (wantE ops ρ j want) (pN P (execE ρ o) w) w K
def rgW [Pan] (P:Program) (ops:Array Oper):List Oper→Env→World→(Env→World→Prop)→Prop
 | [],ρ,w,K=>K ρ w
 |o::rest,ρ,w,K=>opW P ops o ρ w fun v w'=>rgW P ops rest (ρ.put o.dst v) w' K
abbrev thenE (next:Env→World→Prop) (Q:PQ):PQ
 | .normal,ρ,w=>next ρ w
 |e,ρ,w=>Q e ρ w
abbrev inBlockE (id:Nat) (Q:PQ):PQ
 | .exit k,ρ,w=>if k=id then Q .normal ρ w else Q (.exit k) ρ w
 |e,ρ,w=>Q e ρ w
def pIf (v:Value) (A B:Prop):Prop:=
 match v with
 | .bool true=>A
 | .bool false=>B
 |_=>False
def opWrites:List Oper→List Nat
 | []=>[]
 |o::r=>match o.dst with
  |some d=>d::opWrites r
  |none=>opWrites r
def writes:Code→List Nat
 | .region _ ops _=>opWrites ops.toList
 | .seq x y=>writes x++writes y
 | .cond _ x y=>writes x++writes y
 | .block _ c=>writes c
 | .loop c=>writes c
 |_=>[]
def firstRg:Code→Option Nat
 | .region id _ _=>some id
 | .seq x y=>(firstRg x).or (firstRg y)
 | .cond _ x y=>(firstRg x).or (firstRg y)
 | .block _ c=>firstRg c
 | .loop c=>firstRg c
 |_=>none
def mkE (ρ:Env) (mods:Nat) (j:Env):List Nat→List Value→Env
 |l::ls,v::vs=>fun t=>match Nat.beq t l with
  |true=>v
  |false=>mkE ρ mods j ls vs t
 |_,_=>fun t=>match mods.testBit t with
  |true=>j t
  |false=>ρ t
def PT:Nat→Type
 |0=>World→Prop
 |n+1=>Value→PT n
def MT:Nat→Type
 |0=>World→Nat
 |n+1=>Value→MT n
def apP:(n:Nat)→PT n→List Value→World→Prop
 |0,I,_,w=>I w
 |n+1,I,v::vs,w=>apP n (I v) vs w
 |n+1,I,[],w=>apP n (I undef) [] w
def apM:(n:Nat)→MT n→List Value→World→Nat
 |0,I,_,w=>I w
 |n+1,I,v::vs,w=>apM n (I v) vs w
 |n+1,I,[],w=>apM n (I undef) [] w
def allV:Nat→(List Value→Prop)→Prop
 |0,p=>p []
 |n+1,p=>∀v,allV n fun vs=>p (v::vs)
structure Hints where
 cut:Nat→Option (List Nat×Nat)
 loop:Nat→List Nat×Nat
 order:Nat→List (Nat×Nat)
structure Frm where
 n:Nat
 lo:Nat
 ds:List Deferred
 base:Env
structure Fits (n:Frm) (a:Act) (ρ:Env):Prop where
 size:a.tmps.size=n.n
 defers:a.defers=n.ds
 get:∀t,a.tmps.getD t undef=ρ t
 low:∀t,t<n.lo→ρ t=n.base t
structure PZ [Pan] (n:Frm) (a:Act) (c:List PanicEntry) (w:World):Prop where
 defers:a.defers=n.ds
 low:∀t,t<n.lo→a.tmps.getD t undef=n.base t
 z:Pan.z c w
theorem Fits.pz [Pan] {n:Frm} {a:Act} {ρ:Env} (h:Fits n a ρ) {c:List PanicEntry} {w:World} (hz:Pan.z c w):PZ n a c w:=⟨h.defers,fun t ht=>(h.get t).trans (h.low t ht),hz⟩
theorem PZ.less [Pan] {n:Frm} {a:Act} {d:Option Tmp} {v:Value} {c:List PanicEntry} {w:World} (hd:∀t,d=some t→n.lo≤t) (h:PZ n (a.put d v) c w):PZ n a c w:=by
 cases d with
 |none=>exact h
 |some d=>
  refine⟨h.defers,fun t ht=>?_,h.z⟩
  rw[←h.low t ht]
  have hne:d≠t:=(Nat.ne_of_lt (Nat.lt_of_lt_of_le ht (hd d rfl))).symm
  simp only[Act.put,Array.getD_eq_getD_getElem?,Array.getElem?_setIfInBounds]
  rw[if_neg hne]
theorem Fits.eval {n:Frm} {a:Act} {ρ:Env} (h:Fits n a ρ):a.eval=ev ρ:=by
 funext x
 cases x with
 |tmp t=>exact h.get t
 |const v=>rfl
 |global g=>rfl
 |func f=>rfl
theorem Fits.put {n:Frm} {a:Act} {ρ:Env} (h:Fits n a ρ) {d:Option Tmp} (hd:∀t,d=some t→n.lo≤t∧t<n.n) (v:Value):Fits n (a.put d v) (ρ.put d v):=by
 cases d with
 |none=>exact h
 |some d=>
  have hn:=(hd d rfl).2
  refine⟨by simp[Act.put,h.size],h.defers,fun t=>?_,fun t ht=>(by
   rw[Env.put_some,if_neg (Nat.ne_of_lt (Nat.lt_of_lt_of_le ht (hd d rfl).1))];exact h.low t ht)⟩
  rw[Env.put_some]
  simp only[Act.put]
  by_cases ht:t=d
  ·subst ht
   simp[h.size,hn]
  ·rw[if_neg ht,←h.get t]
   simp only[Array.getD_eq_getD_getElem?,Array.getElem?_setIfInBounds]
   rw[if_neg (fun e=>ht e.symm)]
theorem Fits.yielded {n:Frm} {a:Act} {ρ:Env} (h:Fits n a ρ) (ops:Array Oper) (j:Nat) (want:Bool):(yielded ops a.tmps j==some want)=wantE ops ρ j want:=by
 simp only[Go.yielded,wantE]
 cases(ops[j]?).bind (·.dst) with
 |none=>rfl
 |some t=>
  simp only[Option.bind_some]
  rw[←h.get t,Array.getD_eq_getD_getElem?]
  cases a.tmps[t]? with
  |none=>rfl
  |some v=>cases v<;>rfl
def UpQ [Pan] (n:Frm) (a:Act) (ws:List Nat) (Q:PQ):Exit→Act→World→Prop
 | .panic c,a',w=>PZ n a' c w
 | .outgrown,_,_=>False
 | .goto _,_,_=>False
 |e,a',w=>(∀t,t∉ws→a'.tmps.getD t undef=a.tmps.getD t undef)∧∃ρ',Fits n a' ρ'∧Q e ρ' w
theorem pN_wp [Pan] {P:Program} {n:Frm} {a:Act} {ρ:Env} (hf:Fits n a ρ) {o:Oper} {w:World} {K:Value→World→Prop} {next:Act→World→Prop} {Q:Exit→Act→World→Prop}
  (hQ:∀c w,PZ n a c w→Q (.panic c) a w) (h:pN P (execE ρ o) w K) (hK:∀v w',K v w'→next (a.put o.dst v) w'):o.wp P a w next Q:=by
 unfold Oper.wp
 rw[hf.eval]
 rw[execE_eq] at h
 unfold pN rN at h
 split at h
 ·rename_i v w' hr;rw[hr];exact hK _ _ h
 ·rename_i w' hr;rw[hr];exact hK _ _ h
 ·rename_i f args w' hr
  rw[hr]
  refine Calls.mono h fun e w'' he=>?_
  cases e with
  |returned v=>exact hK _ _ he
  |panicked c=>exact hQ _ _ (hf.pz he)
  |outgrown=>exact he.elim
 ·rename_i v w' hr;rw[hr];exact hQ _ _ (hf.pz h)
 ·exact h.elim
theorem opW_none [Pan] {P:Program} {ops:Array Oper} {o:Oper} {ρ:Env} {w:World} {K:Value→World→Prop} (hg:o.guard=none) (h:opW P ops o ρ w K):pN P (execE ρ o) w K:=by
 unfold opW at h
 rw[hg] at h
 dsimp only at h
 split at h
 ·rename_i x hx;unfold execE;rw[hx];exact h
 ·rename_i x hx;unfold execE;rw[hx];exact h
 ·exact h
theorem rgW_wp [Pan] {P:Program} {n:Frm} {ops:Array Oper} (l:List Oper):∀{a:Act} {ρ:Env} {w:World} {K:Env→World→Prop} {Q:Exit→Act→World→Prop},
  (∀c a w,PZ n a c w→Q (.panic c) a w)→(∀t∈opWrites l,n.lo≤t∧t<n.n)→Fits n a ρ→rgW P ops l ρ w K→
  (∀a' ρ' w',(∀t,t∉opWrites l→a'.tmps.getD t undef=a.tmps.getD t undef)→Fits n a' ρ'→K ρ' w'→Q .normal a' w')→
  wpList P ops Q l a w:=by
 induction l with
 |nil=>
  intro a ρ w K Q hQ hw hf h hK
  exact hK a ρ w (fun _ _=>rfl) hf h
 |cons o rest ih=>
  intro a ρ w K Q hQ hw hf h hK
  have hd:∀t,o.dst=some t→n.lo≤t∧t<n.n:=fun t ht=>hw t (by simp[opWrites,ht])
  have hrest:∀t∈opWrites rest,n.lo≤t∧t<n.n:=fun t ht=>hw t (by
   simp only[opWrites];split
   ·exact List.mem_cons_of_mem _ ht
   ·exact ht)
  have hgo:∀v w',rgW P ops rest (ρ.put o.dst v) w' K→wpList P ops Q rest (a.put o.dst v) w':=by
   intro v w' hr
   refine ih hQ hrest (hf.put hd v) hr fun a' ρ' w'' hk hf' hK'=>hK a' ρ' w'' (fun t ht=>?_) hf' hK'
   have ht':t∉opWrites rest:=fun hm=>ht (by
    simp only[opWrites];split
    ·exact List.mem_cons_of_mem _ hm
    ·exact hm)
   rw[hk t ht']
   cases hdst:o.dst with
   |none=>rfl
   |some d=>
    have hne:d≠t:=fun e=>ht (by simp[opWrites,hdst,e])
    simp only[Act.put,Array.getD_eq_getD_getElem?,Array.getElem?_setIfInBounds]
    rw[if_neg hne]
  simp only[rgW] at h
  cases hg:o.guard with
  |none=>
   exact wpList_plain hg fun K' hK'=>pN_wp hf (fun c w h=>hQ c a w h) (opW_none hg h) fun v w' hr=>hK' _ _ (hgo v w' hr)
  |some g=>
   obtain⟨j,want⟩:=g
   simp only[opW,hg] at h
   refine wpList_step fun K' hK'=>?_
   simp only[Region.wanted,hg,hf.yielded ops]
   simp only[pGd] at h
   split
   ·rename_i hy
    rw[if_pos hy] at h
    exact pN_wp hf (fun c w h=>hQ c a w h) h fun v w' hr=>hK' _ _ (hgo v w' hr)
   ·rename_i hy
    rw[if_neg hy] at h
    exact hK' _ _ (hgo _ _ h)
theorem mkE_self (ρ ρ':Env) (mods:Nat) (h:∀t,mods.testBit t=false→ρ' t=ρ t) (live:List Nat):mkE ρ mods ρ' live (live.map ρ')=ρ':=by
 induction live with
 |nil=>
  funext t
  simp only[mkE]
  split
  ·rfl
  ·rename_i hm;rw[h t hm]
 |cons l ls ih=>
  funext t
  simp only[List.map_cons,mkE]
  split
  ·rename_i e;rw[Nat.eq_of_beq_eq_true e]
  ·rw[ih]
theorem allV_get {n:Nat}:∀{p:List Value→Prop},allV n p→∀vs:List Value,vs.length=n→p vs:=by
 induction n with
 |zero=>intro p h vs hv;rw[List.length_eq_zero_iff.1 hv];exact h
 |succ n ih=>
  intro p h vs hv
  match vs,hv with
  |v::vs,hv=>exact ih (h v) vs (by simpa using hv)
end
section
section
variable {P:Program} {ops:Array Oper} {Q:Exit→Act→World→Prop}
def YieldsW (P:Program) (ops:Array Oper) (o:Oper) (v:Value) (a:Act) (w:World):Prop:=
 (Region.wanted o (yielded ops a.tmps)=true∧(execOp a.eval o).run P w= .ok (.value v) w)∨
 (Region.wanted o (yielded ops a.tmps)=false∧v=undef)
theorem YieldsW.wpOp {i:Nat} {o:Oper} {v:Value} {a:Act} {w:World} (hi:ops[i]? =some o) (hy:YieldsW P ops o v a w)
  {K:Act→World→Prop} (h:K (a.put o.dst v) w):wpOp P ops Q i K a w:=by
 unfold Go.wpOp
 simp only[hi]
 rcases hy with⟨hw,hv⟩|⟨hw,rfl⟩
 ·simp only[hw,if_true,Oper.wp,hv,Oper.upon];exact .inl h
 ·simp only[hw,Bool.false_eq_true,if_false];exact h
theorem YieldsW.of_same {o:Oper} {v:Value} {a a':Act} {w:World} (hy:YieldsW P ops o v a w) (he:execOp a'.eval o=execOp a.eval o)
  (hw:Region.wanted o (yielded ops a'.tmps)=Region.wanted o (yielded ops a.tmps)):YieldsW P ops o v a' w:=by
 unfold YieldsW at*
 rw[he,hw]
 exact hy
theorem wpOp_putW {j:Nat} {oi oj:Oper} {v:Value} (φ:World→Prop) (hj:ops[j]? =some oj) (hap:oi.apart ops oj=true)
  (hsi:∀cs b,oi.op≠ .select cs b) (hsj:∀cs b,oj.op≠ .select cs b)
  (hQ:∀c a w,Q (.panic c) (a.put oi.dst v) w→Q (.panic c) a w) {K:Act→World→Prop} {a:Act} {w:World}
  (hy:∀w,φ w→YieldsW P ops oi v a w) (h:wpOp P ops Q j K (a.put oi.dst v) w):
  wpOp P ops Q j (fun a' w'=>(∀w,φ w→YieldsW P ops oi v a' w)∧K (a'.put oi.dst v) w') a w:=by
 obtain⟨h1,h2,h3⟩:=Oper.apart_spec hap
 have keep:∀(a:Act),(∀w,φ w→YieldsW P ops oi v a w)→∀u,(∀w,φ w→YieldsW P ops oi v (a.put oj.dst u) w):=fun a hy u w hw=>
  (hy w hw).of_same (execOp_put oi hsi a oj.dst u h3) (wanted_put oi a oj.dst u h3)
 have keepD:∀d,(∀w,φ w→YieldsW P ops oi v { a with defers:=d::a.defers } w):=fun d w hw=>(hy w hw).of_same rfl rfl
 unfold wpOp at*
 simp only[hj] at*
 rw[wanted_put oj a oi.dst v h1] at h
 split
 ·rename_i hw
  simp only[hw,if_true] at h
  rcases h with h|⟨hasks,hlets⟩
  case inr=>exact .inr ⟨by unfold Oper.asks at*;rw[execOp_put oj hsj a oi.dst v h1] at hasks;exact hasks,hlets⟩
  refine .inl ?_
  unfold Oper.wp at*
  rw[execOp_put oj hsj a oi.dst v h1] at h
  generalize (execOp a.eval oj).run P w=r at*
  cases r with
  |ok n w'=>
   cases n<;>simp only[Oper.upon] at h ⊢
   case value u=>exact⟨keep a hy u,by rw[←Act.put_comm a v u h2];exact h⟩
   case skip=>exact⟨keep a hy _,by rw[←Act.put_comm a v undef h2];exact h⟩
   case defer d=>
    refine⟨keep _ (keepD d) _,?_⟩
    rw[←Act.put_comm _ v undef h2,←Act.put_defers]
    exact h
   case enter f args=>
    refine Calls.mono h fun e w'' he=>?_
    cases e with
    |returned u=>exact⟨keep a hy u,by rw[←Act.put_comm a v u h2];exact he⟩
    |panicked c=>exact hQ _ _ _ he
    |outgrown=>exact he
   case row row args=>exact Rows.mono h fun u w'' he=>⟨keep a hy u,by rw[←Act.put_comm a v u h2];exact he⟩
  |halt x w'=>
   cases x<;>simp only[Oper.upon] at h ⊢
   case panic u=>exact hQ _ _ _ h
 ·rename_i hw
  simp only[hw] at h
  exact⟨keep a hy _,by rw[←Act.put_comm a v undef h2];exact h⟩
def bfB (ops:Array Oper):Nat→Nat→Nat→Bool
 |0,_,_=>false
 |f+1,i,j=>match ops[j]? with
  |some o=>o.after.toList.any fun e=>Region.binds .any e&&(Nat.beq e.on i||bfB ops f i e.on)
  |none=>false
abbrev Trk:=List (Nat×(World→Prop))
def dropT (ops:Array Oper) (j:Nat) (l:Trk):Trk:=l.filter fun p=> !bfB ops ops.size p.1 j
def wpAnyT (P:Program) (ops:Array Oper) (Q:Exit→Act→World→Prop):Nat→Array Bool→Trk→Act→World→Prop
 |0,listed,_,a,w=>Region.ready .any ops listed=[]∧Q .normal a w
 |fuel+1,listed,trk,a,w=>
  (Region.ready .any ops listed=[]→Q .normal a w)∧
  ∀i∈Region.ready .any ops listed,wpOp P ops Q i (fun a' w'=>(∀p∈dropT ops i trk,p.2 w')∧wpAnyT P ops Q fuel (listed.setIfInBounds i true) (dropT ops i trk) a' w') a w
theorem wpAny_of_T:∀(fuel:Nat) (listed:Array Bool) (trk:Trk) (a:Act) (w:World),wpAnyT P ops Q fuel listed trk a w→wpAny P .any ops Q fuel listed a w
 |0,_,_,_,_,h=>h
 |fuel+1,_,_,_,_,h=>⟨h.1,fun i hi=>wpOp_mono (fun a' w' h'=>wpAny_of_T fuel _ _ a' w' h'.2) (h.2 i hi)⟩
theorem wpAnyT_less:∀(fuel:Nat) (listed:Array Bool) (trk trk':Trk) (a:Act) (w:World),(∀p∈trk',p∈trk)→wpAnyT P ops Q fuel listed trk a w→wpAnyT P ops Q fuel listed trk' a w
 |0,_,_,_,_,_,_,h=>h
 |fuel+1,_,trk,trk',_,_,hs,h=>⟨h.1,fun i hi=>wpOp_mono (fun a' w' h'=>by
   have hs':∀p∈dropT ops i trk',p∈dropT ops i trk:=fun p hp=>by
    simp only[dropT,List.mem_filter] at hp ⊢
    exact⟨hs p hp.1,hp.2⟩
   exact⟨fun p hp=>h'.1 p (hs' p hp),wpAnyT_less fuel _ _ _ a' w' hs' h'.2⟩) (h.2 i hi)⟩
def Clo (ops:Array Oper) (listed:Array Bool):Prop:=
 ∀j o,ops[j]? =some o→listed.getD j false=true→∀e∈o.after,Region.binds .any e=true→listed.getD e.on false=true
theorem Clo.bf {listed:Array Bool} (h:Clo ops listed):∀(f i j:Nat),bfB ops f i j=true→(∃o,ops[j]? =some o∧∀e∈o.after,Region.binds .any e=true→listed.getD e.on false=true)→listed.getD i false=true
 |0,_,_,hb,_=>by simp[bfB] at hb
 |f+1,i,j,hb,⟨o,ho,hall⟩=>by
  simp only[bfB,ho,List.any_eq_true,Bool.and_eq_true,Bool.or_eq_true] at hb
  obtain⟨e,he,hbe,hi⟩:=hb
  have hl:=hall e (by simpa using he) hbe
  rcases hi with hi|hi
  ·rw[←Nat.eq_of_beq_eq_true hi];exact hl
  ·cases hoe:ops[e.on]? with
   |none=>cases f<;>simp[bfB,hoe] at hi
   |some oe=>exact Clo.bf h f i e.on hi ⟨oe,hoe,fun e' he' hb'=>h e.on oe hoe hl e' he' hb'⟩
theorem Clo.add {listed:Array Bool} (h:Clo ops listed) {j:Nat} (hj:j∈Region.ready .any ops listed):Clo ops (listed.setIfInBounds j true):=by
 intro k o ho hk e he hb
 obtain⟨h0,oj,hoj,hall⟩:=mem_ready.1 hj
 by_cases hjk:j=k
 ·subst hjk
  rw[ho] at hoj;cases hoj
  exact getD_set_true (hall e he hb)
 ·rw[getD_set_ne false hjk] at hk
  exact getD_set_true (h k o ho hk e he hb)
theorem wpAnyT_first {i:Nat} {oi:Oper} {v:Value} {φ:World→Prop} (hi:ops[i]? =some oi) (hsel:∀(j:Nat) (o:Oper) cs b,ops[j]? =some o→o.op≠ .select cs b)
  (hQ:∀c a w,Q (.panic c) (a.put oi.dst v) w→Q (.panic c) a w):
  ∀(fuel:Nat) (listed:Array Bool) (trk:Trk) (a:Act) (w:World),Clo ops listed→
   (∀j oj,ops[j]? =some oj→j≠i→listed.getD j true=false→(∀e∈oj.after,Region.binds .any e=true→e.on≠i)→oi.apart ops oj=true)→
   i∈Region.ready .any ops listed→(∀w,φ w→YieldsW P ops oi v a w)→φ w→(∀p∈trk,p.2 w)→
   wpAnyT P ops Q fuel (listed.setIfInBounds i true) ((i,φ)::trk) (a.put oi.dst v) w→wpAnyT P ops Q (fuel+1) listed trk a w:=by
 intro fuel
 induction fuel with
 |zero=>
  intro listed trk a w _ _ hr hy hφ ht H
  refine⟨fun h=>(by rw[h] at hr;cases hr),fun j hj=>?_⟩
  by_cases hji:j=i
  ·subst hji
   exact(hy w hφ).wpOp hi ⟨fun p hp=>ht p (by simp only[dropT,List.mem_filter] at hp;exact hp.1),H⟩
  ·have:=ready_mono hj hji
   rw[H.1] at this
   cases this
 |succ fuel ih=>
  intro listed trk a w hcl hfree hr hy hφ ht H
  refine⟨fun h=>(by rw[h] at hr;cases hr),fun j hj=>?_⟩
  by_cases hji:j=i
  ·subst hji
   refine(hy w hφ).wpOp hi ⟨fun p hp=>ht p (by simp only[dropT,List.mem_filter] at hp;exact hp.1),wpAnyT_less _ _ _ _ _ _ (fun p hp=>?_) H⟩
   simp only[dropT,List.mem_filter] at hp
   exact List.mem_cons_of_mem _ hp.1
  ·have h1:=H.2 j (ready_mono hj hji)
   obtain⟨hjun,oj,hoj,hall⟩:=mem_ready.1 hj
   have hiun:=(mem_ready.1 hr).1
   have hnl:listed.getD i false≠true:=fun hl=>by
    rcases Nat.lt_or_ge i listed.size with h'|h'
    ·simp[h'] at hiun hl;rw[hiun] at hl;cases hl
    ·simp[Array.getElem?_eq_none h'] at hl
   have hnot:∀e∈oj.after,Region.binds .any e=true→e.on≠i:=fun e he hb heq=>hnl (heq▸hall e he hb)
   have hnb:bfB ops ops.size i j=false:=by
    cases hb:bfB ops ops.size i j with
    |false=>rfl
    |true=>exact absurd (hcl.bf _ _ _ hb ⟨oj,hoj,hall⟩) hnl
   have hdrop:dropT ops j ((i,φ)::trk)=(i,φ)::dropT ops j trk:=by
    simp[dropT,hnb]
   have h2:=wpOp_putW φ hoj (hfree j oj hoj hji hjun hnot) (fun cs b=>hsel i oi cs b hi) (fun cs b=>hsel j oj cs b hoj) hQ hy h1
   have hfree':∀k ok,ops[k]? =some ok→k≠i→(listed.setIfInBounds j true).getD k true=false→
     (∀e∈ok.after,Region.binds .any e=true→e.on≠i)→oi.apart ops ok=true:=fun k ok hk hki hun hno=>by
    refine hfree k ok hk hki ?_ hno
    by_cases hjk:j=k
    ·subst hjk;exact hjun
    ·rw[getD_set_ne true hjk] at hun;exact hun
   refine wpOp_mono (fun a' w' h3=>?_) h2
   obtain⟨hy',hobl,H'⟩:=h3
   rw[hdrop] at hobl H'
   refine⟨fun p hp=>hobl p (List.mem_cons_of_mem _ hp),ih (listed.setIfInBounds j true) _ a' w' (hcl.add hj) hfree' (ready_mono hr (Ne.symm hji)) hy' (hobl (i,φ) List.mem_cons_self) (fun p hp=>hobl p (List.mem_cons_of_mem _ hp)) ?_⟩
   rw[Array.setIfInBounds_comm _ _ hji]
   exact H'
end
def kindOf:Op→Nat
 | .move _| .assign _| .pick .. | .nilCheck _| .binOp .. | .unOp .. | .fieldAddr .. | .field .. | .indexAddr .. | .index .. | .extract .. | .slice .. =>0
 | .call { callee:= .builtin .len,.. }| .call { callee:= .builtin .cap,.. }| .call { callee:= .builtin .min,.. }| .call { callee:= .builtin .max,.. }=>0
 | .load .. =>1
 | .convert _ d _=>(match Nat.beq d 47 with|true=>2|false=>1)
 |_=>2
def pA (P:Program) (m:Sem Next) (K:Value→Prop):Prop:=∃v,(∀w,m.run P w= .ok (.value v) w)∧K v
def pL (P:Program) (m:Sem Next) (w:World) (K:Value→Prop):Prop:=∃v,m.run P w= .ok (.value v) w∧K v
abbrev Held:=List (Nat×Option Bool×Sem Next×Value)
def hkp (g:Option Bool) (A:Prop):Prop:=
 match g with
 |none=>A
 |some b=>b=true→A
def heldOk (P:Program) (ops:Array Oper) (j:Nat) (w:World):Held→Prop
 | []=>True
 |(i,g,m,v)::r=>match bfB ops ops.size i j with
  |true=>heldOk P ops j w r
  |false=>hkp g (m.run P w= .ok (.value v) w)∧heldOk P ops j w r
def dropH (ops:Array Oper) (j:Nat):Held→Held
 | []=>[]
 |(i,g,m,v)::r=>match bfB ops ops.size i j with
  |true=>dropH ops j r
  |false=>(i,g,m,v)::dropH ops j r
def pickFirst (ops:Array Oper):List Nat→Option Nat
 | []=>none
 |i::r=>match (ops[i]?).map (fun o=>Nat.blt (kindOf o.op) 2) with
  |some true=>some i
  |_=>pickFirst ops r
def allL:List Nat→(Nat→Prop)→Prop
 | [],_=>True
 | [i],p=>p i
 |i::r,p=>p i∧allL r p
def gA (b:Bool) (m:(Value→Prop)→Prop) (K:Value→Prop):Prop:=if b then m K else K undef
def takeM (P:Program) (o:Oper) (ρ:Env) (w:World):(Value→Prop)→Prop:=
 match Nat.beq (kindOf o.op) 0 with
 |true=>pA P (execE ρ o)
 |false=>pL P (execE ρ o) w
def takeW (P:Program) (o:Oper) (g:Option Bool) (ρ:Env) (w:World) (K:Value→Prop):Prop:=
 match g with
 |none=>match o.op with
  | .move x=>K (ev ρ x)
  | .assign x=>K (ev ρ x)
  |_=>takeM P o ρ w K
 |some b=>gA b (takeM P o ρ w) K
def guardB (ops:Array Oper) (o:Oper) (ρ:Env):Option Bool:=
 match o.guard with
 |none=>none
 |some (j,want)=>some (wantE ops ρ j want)
def holdsH (i:Nat) (o:Oper) (g:Option Bool) (ρ:Env) (v:Value) (h:Held):Held:=
 match Nat.beq (kindOf o.op) 0 with
 |true=>h
 |false=>(i,g,execE ρ o,v)::h
def dw [Pan] (P:Program) (ops:Array Oper):Nat→Array Bool→Held→Env→World→(Env→World→Prop)→Prop
 |0,L,_,ρ,w,K=>match Region.ready .any ops L with
  | []=>K ρ w
  |_=>False
 |f+1,L,h,ρ,w,K=>
  match pickFirst ops (Region.ready .any ops L) with
  |some i=>match ops[i]?,Region.free .any ops L i with
   |some o,true=>takeW P o (guardB ops o ρ) ρ w fun v=>dw P ops f (L.setIfInBounds i true) (holdsH i o (guardB ops o ρ) ρ v h) (ρ.put o.dst v) w K
   |_,_=>False
  |none=>match Region.ready .any ops L with
   | []=>K ρ w
   |js=>allL js fun j=>match ops[j]? with
    |some o=>opW P ops o ρ w fun v w'=>heldOk P ops j w' h∧dw P ops f (L.setIfInBounds j true) (dropH ops j h) (ρ.put o.dst v) w' K
    |none=>False
section
variable {P:Program} {ops:Array Oper} {n:Frm}
def trkOf (P:Program) (h:Held):Trk:=h.map fun p=>(p.1,fun w=>hkp p.2.1 (p.2.2.1.run P w= .ok (.value p.2.2.2) w))
theorem trkOf_drop (j:Nat) (h:Held):dropT ops j (trkOf P h)=trkOf P (dropH ops j h):=by
 induction h with
 |nil=>rfl
 |cons p r ih=>
  obtain⟨i,g,m,v⟩:=p
  have ih':dropT ops j (trkOf P r)=trkOf P (dropH ops j r):=ih
  cases hb:bfB ops ops.size i j with
  |true=>simp only[dropH,hb];rw[←ih'];simp[dropT,trkOf,hb]
  |false=>
   simp only[dropH,hb]
   have e:trkOf P ((i,g,m,v)::dropH ops j r)=(i,fun w=>hkp g (m.run P w= .ok (.value v) w))::trkOf P (dropH ops j r):=rfl
   rw[e,←ih']
   simp[dropT,trkOf,hb]
theorem heldOk_all (j:Nat) (w:World) (h:Held) (hh:heldOk P ops j w h):∀p∈trkOf P (dropH ops j h),p.2 w:=by
 induction h with
 |nil=>intro p hp;simp[trkOf,dropH] at hp
 |cons q r ih=>
  obtain⟨i,g,m,v⟩:=q
  cases hb:bfB ops ops.size i j with
  |true=>
   simp only[heldOk,hb] at hh
   simp only[dropH,hb]
   exact ih hh
  |false=>
   simp only[heldOk,hb] at hh
   simp only[dropH,hb]
   intro p hp
   have hp':p∈(i,fun w=>hkp g (m.run P w= .ok (.value v) w))::trkOf P (dropH ops j r):=hp
   rcases List.mem_cons.1 hp' with rfl|hp'
   ·exact hh.1
   ·exact ih hh.2 p hp'
theorem allL_mem {l:List Nat} {p:Nat→Prop} (h:allL l p):∀i∈l,p i:=by
 induction l with
 |nil=>intro i hi;cases hi
 |cons x r ih=>
  intro i hi
  cases r with
  |nil=>simp only[List.mem_singleton] at hi;subst hi;exact h
  |cons y r=>
   rcases List.mem_cons.1 hi with rfl|hi
   ·exact h.1
   ·exact ih h.2 i hi
theorem pickFirst_mem {l:List Nat} {i:Nat} (h:pickFirst ops l=some i):i∈l:=by
 induction l with
 |nil=>cases h
 |cons x r ih=>
  simp only[pickFirst] at h
  split at h
  ·cases h;exact List.mem_cons_self
  ·exact List.mem_cons_of_mem _ (ih h)
theorem wanted_eq {a:Act} {ρ:Env} (hf:Fits n a ρ) (o:Oper):Region.wanted o (yielded ops a.tmps)=(guardB ops o ρ).getD true:=by
 unfold Region.wanted guardB
 cases o.guard with
 |none=>rfl
 |some g=>obtain⟨j,want⟩:=g;exact hf.yielded ops j want
theorem run_move_ev {ρ:Env} {o:Oper} {x:Operand} (h:o.op= .move x∨o.op= .assign x) (w:World):(execE ρ o).run P w= .ok (.value (ev ρ x)) w:=by
 rcases h with h|h<;> · simp only[execE,h];rfl
theorem takeW_yields {a:Act} {ρ:Env} (hf:Fits n a ρ) {o:Oper} {w:World} {K:Value→Prop} (h:takeW P o (guardB ops o ρ) ρ w K):
  ∃v,K v∧((Nat.beq (kindOf o.op) 0=true∧∀w,YieldsW P ops o v a w)∨
   (Nat.beq (kindOf o.op) 0=false∧(∀w,hkp (guardB ops o ρ) ((execE ρ o).run P w= .ok (.value v) w)→YieldsW P ops o v a w)∧
    hkp (guardB ops o ρ) ((execE ρ o).run P w= .ok (.value v) w))):=by
 have hw:=wanted_eq (ops:=ops) hf o
 have hM:∀K:Value→Prop,takeM P o ρ w K→∃v,K v∧((Nat.beq (kindOf o.op) 0=true∧∀w,(execE ρ o).run P w= .ok (.value v) w)∨(Nat.beq (kindOf o.op) 0=false∧(execE ρ o).run P w= .ok (.value v) w)):=by
  intro K h
  unfold takeM at h
  cases hk:Nat.beq (kindOf o.op) 0 with
  |true=>
   rw[hk] at h
   obtain⟨v,hv,hK⟩:=h
   exact⟨v,hK,.inl ⟨rfl,hv⟩⟩
  |false=>
   rw[hk] at h
   obtain⟨v,hv,hK⟩:=h
   exact⟨v,hK,.inr ⟨rfl,hv⟩⟩
 unfold takeW at h
 cases hg:guardB ops o ρ with
 |none=>
  rw[hg] at h hw
  simp only[Option.getD_none] at hw
  have pure0:∀v,(∀w,(execE ρ o).run P w= .ok (.value v) w)→∀w,YieldsW P ops o v a w:=fun v hv w=> .inl ⟨hw,by rw[hf.eval,←execE_eq];exact hv w⟩
  dsimp only at h
  split at h
  ·rename_i x hx
   exact⟨_,h,.inl ⟨by simp[kindOf,hx],pure0 _ fun w=>run_move_ev (.inl hx) w⟩⟩
  ·rename_i x hx
   exact⟨_,h,.inl ⟨by simp[kindOf,hx],pure0 _ fun w=>run_move_ev (.inr hx) w⟩⟩
  ·obtain⟨v,hK,⟨hk,hv⟩|⟨hk,hv⟩⟩:=hM K h
   ·exact⟨v,hK,.inl ⟨hk,pure0 v hv⟩⟩
   ·exact⟨v,hK,.inr ⟨hk,fun w' h'=> .inl ⟨hw,by rw[hf.eval,←execE_eq];exact h'⟩,hv⟩⟩
 |some b=>
  rw[hg] at h hw
  simp only[Option.getD_some] at hw
  dsimp only[gA] at h
  cases b with
  |false=>
   simp only[Bool.false_eq_true,if_false] at h
   refine⟨undef,h,?_⟩
   cases hk:Nat.beq (kindOf o.op) 0 with
   |true=>exact .inl ⟨rfl,fun w=> .inr ⟨hw,rfl⟩⟩
   |false=>exact .inr ⟨rfl,fun w _=> .inr ⟨hw,rfl⟩,fun hb=>by simp at hb⟩
  |true=>
   simp only[if_true] at h
   obtain⟨v,hK,⟨hk,hv⟩|⟨hk,hv⟩⟩:=hM K h
   ·exact⟨v,hK,.inl ⟨hk,fun w=> .inl ⟨hw,by rw[hf.eval,←execE_eq];exact hv w⟩⟩⟩
   ·exact⟨v,hK,.inr ⟨hk,fun w' h'=> .inl ⟨hw,by rw[hf.eval,←execE_eq];exact h' rfl⟩,fun _=>hv⟩⟩
theorem opWrites_mem {ops:Array Oper} {j:Nat} {o:Oper} {d:Nat} (hj:ops[j]? =some o) (hd:o.dst=some d):d∈opWrites ops.toList:=by
 have hm:o∈ops.toList:=by simpa using Array.mem_of_getElem? hj
 generalize ops.toList=l at hm
 induction l with
 |nil=>cases hm
 |cons x r ih=>
  rcases List.mem_cons.1 hm with rfl|hm
  ·simp[opWrites,hd]
  ·simp only[opWrites]
   split
   ·exact List.mem_cons_of_mem _ (ih hm)
   ·exact ih hm
theorem wpAnyT_top {i:Nat} {Q:Exit→Act→World→Prop} {f:Nat} {L:Array Bool} {trk:Trk} {a:Act} {w:World} (H:wpAnyT P ops Q f L trk a w):wpAnyT P ops Q f L ((i,fun _=>True)::trk) a w:=by
 have gen:∀(f:Nat) (L:Array Bool) (trk trk':Trk) (a:Act) (w:World),(∀p∈trk',p∈trk∨∀w,p.2 w)→wpAnyT P ops Q f L trk a w→wpAnyT P ops Q f L trk' a w:=by
  intro f
  induction f with
  |zero=>intro L trk trk' a w _ h;exact h
  |succ f ih=>
   intro L trk trk' a w hs h
   refine⟨h.1,fun i hi=>wpOp_mono (fun a' w' h'=>?_) (h.2 i hi)⟩
   have hs':∀p∈dropT ops i trk',p∈dropT ops i trk∨∀w,p.2 w:=fun p hp=>by
    simp only[dropT,List.mem_filter] at hp ⊢
    rcases hs p hp.1 with h|h
    ·exact .inl ⟨h,hp.2⟩
    ·exact .inr h
   exact⟨fun p hp=>(hs' p hp).elim (h'.1 p) (fun h=>h w'),ih _ _ _ a' w' hs' h'.2⟩
 refine gen f L trk _ a w (fun p hp=>?_) H
 rcases List.mem_cons.1 hp with rfl|hp
 ·exact .inr fun _=>trivial
 ·exact .inl hp
theorem dw_any [Pan] (hs:Region.noSelect ops=true) (hn:∀t∈opWrites ops.toList,n.lo≤t∧t<n.n) {Q:Exit→Act→World→Prop} (hQ:∀c a w,Q (.panic c) a w↔PZ n a c w) (a₀:Act) {K:Env→World→Prop}
  (hK:∀a' ρ' w',(∀t,t∉opWrites ops.toList→a'.tmps.getD t undef=a₀.tmps.getD t undef)→Fits n a' ρ'→K ρ' w'→Q .normal a' w'):
  ∀(f:Nat) (L:Array Bool) (h:Held) (ρ:Env) (a:Act) (w:World),Clo ops L→Fits n a ρ→(∀t,t∉opWrites ops.toList→a.tmps.getD t undef=a₀.tmps.getD t undef)→
   (∀p∈trkOf P h,p.2 w)→dw P ops f L h ρ w K→wpAnyT P ops Q f L (trkOf P h) a w:=by
 have hput:∀{a:Act} {j:Nat} {o:Oper} (v:Value),ops[j]? =some o→(∀t,t∉opWrites ops.toList→a.tmps.getD t undef=a₀.tmps.getD t undef)→
   (∀t,t∉opWrites ops.toList→(a.put o.dst v).tmps.getD t undef=a₀.tmps.getD t undef):=by
  intro a j o v hj hk t ht
  rw[←hk t ht]
  cases hd:o.dst with
  |none=>rfl
  |some d=>
   have hne:d≠t:=fun e=>ht (e▸opWrites_mem hj hd)
   simp only[Act.put,Array.getD_eq_getD_getElem?,Array.getElem?_setIfInBounds]
   rw[if_neg hne]
 have hdst:∀{j:Nat} {o:Oper},ops[j]? =some o→∀t,o.dst=some t→n.lo≤t∧t<n.n:=fun hj t ht=>hn t (opWrites_mem hj ht)
 intro f
 induction f with
 |zero=>
  intro L h ρ a w _ hf hk _ hd
  simp only[dw] at hd
  split at hd
  ·rename_i hr;exact⟨hr,hK a ρ w hk hf hd⟩
  ·exact hd.elim
 |succ f ih=>
  intro L h ρ a w hcl hf hk ht hd
  simp only[dw] at hd
  split at hd
  ·rename_i i hpick
   have hmem:=pickFirst_mem hpick
   split at hd
   ·rename_i o hi hfree
    obtain⟨v,hKv,hy⟩:=takeW_yields (ops:=ops) hf hd
    have hf':Fits n (a.put o.dst v) (ρ.put o.dst v):=hf.put (hdst hi) v
    rcases hy with⟨hkind,hy⟩|⟨hkind,hy,hnow⟩
    ·simp only[holdsH,hkind] at hKv
     have H:=ih _ _ _ _ _ (hcl.add hmem) hf' (hput v hi hk) ht hKv
     refine wpAnyT_first (φ:=fun _=>True) hi (Region.noSelect_spec hs) (fun c a w h=>(hQ _ _ _).2 (PZ.less (fun t ht=>(hdst hi t ht).1) ((hQ _ _ _).1 h))) f L _ a w hcl (Region.free_spec hi hfree) hmem (fun w _=>hy w) trivial ht ?_
     exact wpAnyT_top H
    ·simp only[holdsH,hkind] at hKv
     have ht':∀p∈trkOf P ((i,guardB ops o ρ,execE ρ o,v)::h),p.2 w:=by
      intro p hp
      rcases List.mem_cons.1 (show p∈(i,fun w=>hkp (guardB ops o ρ) ((execE ρ o).run P w= .ok (.value v) w))::trkOf P h from hp) with rfl|hp
      ·exact hnow
      ·exact ht p hp
     have H:=ih _ _ _ _ _ (hcl.add hmem) hf' (hput v hi hk) ht' hKv
     exact wpAnyT_first (φ:=fun w=>hkp (guardB ops o ρ) ((execE ρ o).run P w= .ok (.value v) w)) hi (Region.noSelect_spec hs) (fun c a w h=>(hQ _ _ _).2 (PZ.less (fun t ht=>(hdst hi t ht).1) ((hQ _ _ _).1 h))) f L _ a w hcl (Region.free_spec hi hfree) hmem hy hnow ht H
   ·exact hd.elim
  ·split at hd
   ·rename_i hr
    refine⟨fun _=>hK a ρ w hk hf hd,fun i hi=>?_⟩
    rw[hr] at hi;cases hi
   ·rename_i js hne
    refine⟨fun h0=>absurd h0 hne,fun j hj=>?_⟩
    have hdj:=allL_mem hd j hj
    obtain⟨_,o,hoj,_⟩:=mem_ready.1 hj
    simp only[hoj] at hdj
    have hgo:∀v w',(heldOk P ops j w' h∧dw P ops f (L.setIfInBounds j true) (dropH ops j h) (ρ.put o.dst v) w' K)→
      (∀p∈dropT ops j (trkOf P h),p.2 w')∧wpAnyT P ops Q f (L.setIfInBounds j true) (dropT ops j (trkOf P h)) (a.put o.dst v) w':=by
     intro v w' ⟨hho,hdw⟩
     rw[trkOf_drop]
     have h1:=heldOk_all j w' h hho
     exact⟨h1,ih _ _ _ _ _ (hcl.add hj) (hf.put (hdst hoj) v) (hput v hoj hk) h1 hdw⟩
    unfold wpOp
    simp only[hoj]
    have hw:=wanted_eq (ops:=ops) hf o
    cases hg:o.guard with
    |none=>
     simp only[guardB,hg] at hw
     simp only[Option.getD_none] at hw
     rw[if_pos hw]
     exact .inl (pN_wp hf (fun c w h=>(hQ _ _ _).2 h) (opW_none hg hdj) hgo)
    |some g=>
     obtain⟨k,want⟩:=g
     simp only[guardB,hg] at hw
     simp only[Option.getD_some] at hw
     simp only[opW,hg,pGd] at hdj
     rw[hw]
     split
     ·rename_i hy
      rw[if_pos hy] at hdj
      exact .inl (pN_wp hf (fun c w h=>(hQ _ _ _).2 h) hdj hgo)
     ·rename_i hy
      rw[if_neg hy] at hdj
      exact hgo _ _ hdj
end
abbrev Scr:=List (Nat×Nat)
def nthO:List Oper→Nat→Option Oper
 | [],_=>none
 |o::_,0=>some o
 |_::r,n+1=>nthO r n
def readyM (l:List Oper) (i L:Nat):Bool:=
 !L.testBit i&&match nthO l i with
  |some o=>o.after.toList.all fun e=> !Region.binds .any e||L.testBit e.on
  |none=>false
def belowB:Nat→(Nat→Bool)→Bool
 |0,_=>true
 |n+1,p=>p n&&belowB n p
def freeM (ops:Array Oper) (l:List Oper) (n i L:Nat):Bool:=
 match nthO l i with
 |some oi=>belowB n fun j=>Nat.beq j i||L.testBit j||match nthO l j with
  |some oj=>(oj.after.toList.any fun e=>Region.binds .any e&&Nat.beq e.on i)||oi.apart ops oj
  |none=>true
 |none=>false
def okS (ops:Array Oper) (l:List Oper) (n:Nat):Scr→Nat→Bool
 | [],L=>belowB n fun j=>L.testBit j
 |(i,M)::r,L=>Nat.beq M L&&readyM l i M&&(match nthO l i with
   |some o=>(match Nat.blt (kindOf o.op) 2 with
    |true=>freeM ops l n i M
    |false=>belowB n fun j=>Nat.beq j i|| !readyM l j M)
   |none=>false)&&okS ops l n r (M|||2^i)
def dwS [Pan] (P:Program) (ops:Array Oper) (l:List Oper):Scr→Held→Env→World→(Env→World→Prop)→Prop
 | [],_,ρ,w,K=>K ρ w
 |(i,_)::r,h,ρ,w,K=>match nthO l i with
  |some o=>match Nat.blt (kindOf o.op) 2 with
   |true=>takeW P o (guardB ops o ρ) ρ w fun v=>dwS P ops l r (holdsH i o (guardB ops o ρ) ρ v h) (ρ.put o.dst v) w K
   |false=>opW P ops o ρ w fun v w'=>heldOk P ops i w' h∧dwS P ops l r (dropH ops i h) (ρ.put o.dst v) w' K
  |none=>False
section
variable {P:Program} {ops:Array Oper} {n:Nat}
theorem nthO_eq (l:List Oper):∀i,nthO l i=l[i]? :=by
 induction l with
 |nil=>intro i;cases i<;>rfl
 |cons o r ih=>intro i;cases i with
  |zero=>rfl
  |succ i=>simp[nthO,ih]
theorem belowB_spec {p:Nat→Bool}:∀{n:Nat},belowB n p=true→∀j,j<n→p j=true
 |0,_,j,hj=>by omega
 |n+1,h,j,hj=>by
  simp only[belowB,Bool.and_eq_true] at h
  by_cases e:j=n
  ·subst e;exact h.1
  ·exact belowB_spec h.2 j (by omega)
def RelM (n L:Nat) (listed:Array Bool):Prop:=listed.size=n∧∀j,j<n→listed.getD j false=L.testBit j
theorem RelM.getD {L:Nat} {listed:Array Bool} (h:RelM n L listed) {j:Nat} (hj:j<n) (d:Bool):listed.getD j d=L.testBit j:=by
 rw[←h.2 j hj]
 simp[h.1,hj]
theorem RelM.set {L:Nat} {listed:Array Bool} (h:RelM n L listed) (i:Nat) (hi:i<n):RelM n (L|||2^i) (listed.setIfInBounds i true):=by
 refine⟨by simp[h.1],fun j hj=>?_⟩
 by_cases e:i=j
 ·subst e
  simp[h.1,hi]
 ·rw[getD_set_ne false e,h.2 j hj,Nat.testBit_or,Nat.testBit_two_pow]
  simp[e]
theorem readyM_iff {L:Nat} {listed:Array Bool} (h:RelM ops.size L listed) (hb:∀(j:Nat) (o:Oper),ops[j]? =some o→∀e∈o.after,Region.binds .any e=true→e.on<ops.size) (i:Nat) (hi:i<ops.size):
  readyM ops.toList i L=true↔i∈Region.ready .any ops listed:=by
 rw[mem_ready,h.getD hi true]
 simp only[readyM,nthO_eq,Array.getElem?_toList,Bool.and_eq_true,Bool.not_eq_true']
 constructor
 ·rintro⟨h0,h1⟩
  refine⟨h0,?_⟩
  cases ho:ops[i]? with
  |none=>simp[ho] at h1
  |some o=>
   refine⟨o,rfl,fun e he hbe=>?_⟩
   rw[ho] at h1
   simp only[List.all_eq_true,Bool.or_eq_true,Bool.not_eq_true'] at h1
   have:=(h1 e (by simpa using he)).resolve_left (by simp[hbe])
   rw[h.2 e.on (hb i o ho e he hbe)];exact this
 ·rintro⟨h0,o,ho,hall⟩
  refine⟨h0,?_⟩
  rw[ho]
  simp only[List.all_eq_true,Bool.or_eq_true,Bool.not_eq_true']
  intro e he
  cases hbe:Region.binds .any e with
  |false=>exact .inl rfl
  |true=>
   refine .inr ?_
   rw[←h.2 e.on (hb i o ho e (by simpa using he) hbe)]
   exact hall e (by simpa using he) hbe
theorem dwS_any [Pan] {n:Frm} (hs:Region.noSelect ops=true) (hn:∀t∈opWrites ops.toList,n.lo≤t∧t<n.n) (hb:∀(j:Nat) (o:Oper),ops[j]? =some o→∀e∈o.after,Region.binds .any e=true→e.on<ops.size)
  {Q:Exit→Act→World→Prop} (hQ:∀c a w,Q (.panic c) a w↔PZ n a c w) (a₀:Act) {K:Env→World→Prop}
  (hK:∀a' ρ' w',(∀t,t∉opWrites ops.toList→a'.tmps.getD t undef=a₀.tmps.getD t undef)→Fits n a' ρ'→K ρ' w'→Q .normal a' w'):
  ∀(s:Scr) (M:Nat) (L:Array Bool) (h:Held) (ρ:Env) (a:Act) (w:World),RelM ops.size M L→okS ops ops.toList ops.size s M=true→Clo ops L→Fits n a ρ→(∀t,t∉opWrites ops.toList→a.tmps.getD t undef=a₀.tmps.getD t undef)→
   (∀p∈trkOf P h,p.2 w)→dwS P ops ops.toList s h ρ w K→wpAnyT P ops Q s.length L (trkOf P h) a w:=by
 have hput:∀{a:Act} {j:Nat} {o:Oper} (v:Value),ops[j]? =some o→(∀t,t∉opWrites ops.toList→a.tmps.getD t undef=a₀.tmps.getD t undef)→
   (∀t,t∉opWrites ops.toList→(a.put o.dst v).tmps.getD t undef=a₀.tmps.getD t undef):=by
  intro a j o v hj hk t ht
  rw[←hk t ht]
  cases hd:o.dst with
  |none=>rfl
  |some d=>
   have hne:d≠t:=fun e=>ht (e▸opWrites_mem hj hd)
   simp only[Act.put,Array.getD_eq_getD_getElem?,Array.getElem?_setIfInBounds]
   rw[if_neg hne]
 have hdst:∀{j:Nat} {o:Oper},ops[j]? =some o→∀t,o.dst=some t→n.lo≤t∧t<n.n:=fun hj t ht=>hn t (opWrites_mem hj ht)
 intro s
 induction s with
 |nil=>
  intro M L h ρ a w hrel hok _ hf hk _ hd
  refine⟨?_,hK a ρ w hk hf hd⟩
  simp only[okS] at hok
  refine List.eq_nil_iff_forall_not_mem.2 fun j hj=>?_
  obtain⟨h0,o,ho,_⟩:=mem_ready.1 hj
  have hlt:=(Array.getElem?_eq_some_iff.1 ho).1
  rw[hrel.getD hlt true,belowB_spec hok j hlt] at h0
  cases h0
 |cons p r ih=>
  obtain⟨i,M'⟩:=p
  intro M L h ρ a w hrel hok hcl hf hk ht hd
  simp only[okS,Bool.and_eq_true] at hok
  obtain⟨⟨⟨hM,hrdy⟩,hcase⟩,hok'⟩:=hok
  have hM:=Nat.eq_of_beq_eq_true hM
  subst hM
  simp only[dwS] at hd
  rw[nthO_eq,Array.getElem?_toList] at hcase hd
  cases hi:ops[i]? with
  |none=>rw[hi] at hcase;cases hcase
  |some o=>
   rw[hi] at hcase hd
   have hlt:=(Array.getElem?_eq_some_iff.1 hi).1
   have hmem:=(readyM_iff hrel hb i hlt).1 hrdy
   have hrel':=hrel.set i hlt
   cases hkd:Nat.blt (kindOf o.op) 2 with
   |true=>
    simp only[hkd] at hcase hd
    obtain⟨v,hKv,hy⟩:=takeW_yields (ops:=ops) hf hd
    have hf':Fits n (a.put o.dst v) (ρ.put o.dst v):=hf.put (hdst hi) v
    have hfree:∀j oj,ops[j]? =some oj→j≠i→L.getD j true=false→(∀e∈oj.after,Region.binds .any e=true→e.on≠i)→o.apart ops oj=true:=by
     intro j oj hj hne hun hno
     have hjlt:=(Array.getElem?_eq_some_iff.1 hj).1
     simp only[freeM,nthO_eq,Array.getElem?_toList,hi] at hcase
     have:=belowB_spec hcase j hjlt
     simp only[hj,Bool.or_eq_true] at this
     rcases this with(h1|h1)|h1|h1
     ·exact absurd (Nat.eq_of_beq_eq_true h1) hne
     ·rw[hrel.getD hjlt true] at hun;rw[hun] at h1;cases h1
     ·obtain⟨e,he,hbe⟩:=List.any_eq_true.1 h1
      simp only[Bool.and_eq_true] at hbe
      exact absurd (Nat.eq_of_beq_eq_true hbe.2) (hno e (by simpa using he) hbe.1)
     ·exact h1
    rcases hy with⟨hkind,hy⟩|⟨hkind,hy,hnow⟩
    ·simp only[holdsH,hkind] at hKv
     have H:=ih _ _ _ _ _ _ hrel' hok' (hcl.add hmem) hf' (hput v hi hk) ht hKv
     refine wpAnyT_first (φ:=fun _=>True) hi (Region.noSelect_spec hs) (fun c a w h=>(hQ _ _ _).2 (PZ.less (fun t ht=>(hdst hi t ht).1) ((hQ _ _ _).1 h))) _ L _ a w hcl hfree hmem (fun w _=>hy w) trivial ht ?_
     exact wpAnyT_top H
    ·simp only[holdsH,hkind] at hKv
     have ht':∀p∈trkOf P ((i,guardB ops o ρ,execE ρ o,v)::h),p.2 w:=by
      intro p hp
      rcases List.mem_cons.1 (show p∈(i,fun w=>hkp (guardB ops o ρ) ((execE ρ o).run P w= .ok (.value v) w))::trkOf P h from hp) with rfl|hp
      ·exact hnow
      ·exact ht p hp
     have H:=ih _ _ _ _ _ _ hrel' hok' (hcl.add hmem) hf' (hput v hi hk) ht' hKv
     exact wpAnyT_first (φ:=fun w=>hkp (guardB ops o ρ) ((execE ρ o).run P w= .ok (.value v) w)) hi (Region.noSelect_spec hs) (fun c a w h=>(hQ _ _ _).2 (PZ.less (fun t ht=>(hdst hi t ht).1) ((hQ _ _ _).1 h))) _ L _ a w hcl hfree hmem hy hnow ht H
   |false=>
    simp only[hkd] at hcase hd
    refine⟨fun h0=>(by rw[h0] at hmem;cases hmem),fun j hj=>?_⟩
    have hji:j=i:=by
     obtain⟨_,oj,hoj,_⟩:=mem_ready.1 hj
     have hjlt:=(Array.getElem?_eq_some_iff.1 hoj).1
     have:=belowB_spec hcase j hjlt
     simp only[Bool.or_eq_true,Bool.not_eq_true'] at this
     rcases this with h1|h1
     ·exact Nat.eq_of_beq_eq_true h1
     ·rw[(readyM_iff hrel hb j hjlt).2 hj] at h1;cases h1
    subst hji
    have hgo:∀v w',(heldOk P ops j w' h∧dwS P ops ops.toList r (dropH ops j h) (ρ.put o.dst v) w' K)→
      (∀p∈dropT ops j (trkOf P h),p.2 w')∧wpAnyT P ops Q r.length (L.setIfInBounds j true) (dropT ops j (trkOf P h)) (a.put o.dst v) w':=by
     intro v w' ⟨hho,hdw⟩
     rw[trkOf_drop]
     have h1:=heldOk_all j w' h hho
     exact⟨h1,ih _ _ _ _ _ _ hrel' hok' (hcl.add hj) (hf.put (hdst hi) v) (hput v hi hk) h1 hdw⟩
    unfold wpOp
    simp only[hi]
    have hw:=wanted_eq (ops:=ops) hf o
    cases hg:o.guard with
    |none=>
     simp only[guardB,hg] at hw
     simp only[Option.getD_none] at hw
     rw[if_pos hw]
     exact .inl (pN_wp hf (fun c w h=>(hQ _ _ _).2 h) (opW_none hg hd) hgo)
    |some g=>
     obtain⟨k,want⟩:=g
     simp only[guardB,hg] at hw
     simp only[Option.getD_some] at hw
     simp only[opW,hg,pGd] at hd
     rw[hw]
     split
     ·rename_i hy
      rw[if_pos hy] at hd
      exact .inl (pN_wp hf (fun c w h=>(hQ _ _ _).2 h) hd hgo)
     ·rename_i hy
      rw[if_neg hy] at hd
      exact hgo _ _ hd
end
end
section
def pDr (w:World) (K:World→Prop):Prop:=K { w with drawn:=w.drawn+1 }
abbrev loopQ (n:Nat) (I:PT n) (m:MT n) (live:List Nat) (k:Nat) (Q:PQ):PQ
 | .normal,ρ,w=>apP n I (live.map ρ) w∧apM n m (live.map ρ) w<k
 |e,ρ,w=>Q e ρ w
def cutW (x:PQ→Prop) (y:Env→World→Prop) (live:List Nat) (mods:Nat) (Q:PQ) (ρ:Env):Prop:=
 ∃I:PT live.length,x (thenE (fun ρ' w'=>apP live.length I (live.map ρ') w') Q)∧
  ∀j:Env,allV live.length fun vs=>∀w',apP live.length I vs w'→y (mkE ρ mods j live vs) w'
def cw [Pan] (P:Program) (H:Hints):Code→PQ→Env→World→Prop
 | .skip,Q,ρ,w=>Q .normal ρ w
 | .seq x y,Q,ρ,w=>match (firstRg y).bind H.cut with
  |none=>cw P H x (thenE (fun ρ' w'=>cw P H y Q ρ' w') Q) ρ w
  |some (live,mods)=>cutW (fun Q'=>cw P H x Q' ρ w) (fun ρ' w'=>cw P H y Q ρ' w') live mods Q ρ
 | .region _ ops false,Q,ρ,w=>rgW P ops ops.toList ρ w fun ρ' w'=>Q .normal ρ' w'
 | .region id ops true,Q,ρ,w=>pDr w fun w=>match H.order id with
  | []=>dw P ops ops.size (Array.replicate ops.size false) [] ρ w fun ρ' w'=>Q .normal ρ' w'
  |s=>dwS P ops ops.toList s [] ρ w fun ρ' w'=>Q .normal ρ' w'
 | .cond c x y,Q,ρ,w=>pIf (ev ρ c) (cw P H x Q ρ w) (cw P H y Q ρ w)
 | .block id c,Q,ρ,w=>cw P H c (inBlockE id Q) ρ w
 | .loop c,Q,ρ,w=>match (firstRg c).map H.loop with
  |some (live,mods)=>∃(I:PT live.length) (m:MT live.length),apP live.length I (live.map ρ) w∧
   ∀j:Env,allV live.length fun vs=>∀w',apP live.length I vs w'→
    cw P H c (loopQ live.length I m live (apM live.length m vs w') Q) (mkE ρ mods j live vs) w'
  |none=>False
 | .exit id,Q,ρ,w=>Q (.exit id) ρ w
 | .ret,Q,ρ,w=>Q .ret ρ w
 |_,_,_,_=>False
def served (H:Hints) (n:Frm):Code→Bool
 | .skip| .exit _| .ret=>true
 | .seq x y=>served H n x&&served H n y&&(match (firstRg y).bind H.cut with
  |none=>true
  |some (_,mods)=>(writes x).all fun t=>mods.testBit t)
 | .region _ ops false=>(opWrites ops.toList).all fun t=>Nat.blt t n.n&&Nat.ble n.lo t
 | .region id ops true=>((opWrites ops.toList).all fun t=>Nat.blt t n.n&&Nat.ble n.lo t)&&Region.noSelect ops&&(match H.order id with
  | []=>true
  |s=>okS ops ops.toList ops.toList.length s 0&&Nat.beq s.length ops.toList.length&&(ops.toList.all fun o=>o.after.toList.all fun e=>Nat.blt e.on ops.toList.length))
 | .cond _ x y=>served H n x&&served H n y
 | .block _ c=>served H n c
 | .loop c=>served H n c&&(match (firstRg c).map H.loop with
  |some (_,mods)=>(writes c).all fun t=>mods.testBit t
  |none=>false)
 |_=>false
theorem UpQ.mono [Pan] {n:Frm} {a:Act} {ws ws':List Nat} {Q Q':PQ} (hw:∀t∈ws,t∈ws') (hq:∀e ρ w,Q e ρ w→Q' e ρ w):∀e a' w,UpQ n a ws Q e a' w→UpQ n a ws' Q' e a' w:=by
 intro e a' w h
 cases e with
 |panic c=>exact h
 |outgrown=>exact h
 |goto l=>exact h
 |normal=>exact⟨fun t ht=>h.1 t fun hm=>ht (hw t hm),h.2.choose,h.2.choose_spec.1,hq _ _ _ h.2.choose_spec.2⟩
 |exit id=>exact⟨fun t ht=>h.1 t fun hm=>ht (hw t hm),h.2.choose,h.2.choose_spec.1,hq _ _ _ h.2.choose_spec.2⟩
 |ret=>exact⟨fun t ht=>h.1 t fun hm=>ht (hw t hm),h.2.choose,h.2.choose_spec.1,hq _ _ _ h.2.choose_spec.2⟩
theorem UpQ.next [Pan] {n:Frm} {a a₁:Act} {ws ws':List Nat} {Q:PQ} (hk:∀t,t∉ws→a₁.tmps.getD t undef=a.tmps.getD t undef):∀e a' w,UpQ n a₁ ws' Q e a' w→UpQ n a (ws++ws') Q e a' w:=by
 intro e a' w h
 have key:∀t,t∉ws++ws'→(∀t,t∉ws'→a'.tmps.getD t undef=a₁.tmps.getD t undef)→a'.tmps.getD t undef=a.tmps.getD t undef:=by
  intro t ht h1
  simp only[List.mem_append,not_or] at ht
  rw[h1 t ht.2,hk t ht.1]
 cases e with
 |panic c=>exact h
 |outgrown=>exact h
 |goto l=>exact h
 |normal=>exact⟨fun t ht=>key t ht h.1,h.2⟩
 |exit id=>exact⟨fun t ht=>key t ht h.1,h.2⟩
 |ret=>exact⟨fun t ht=>key t ht h.1,h.2⟩
theorem cw_wp [Pan] {P:Program} (hm:P.follows .mixedOrders=true) {H:Hints} {n:Frm} (c:Code):∀{Q:PQ} {ρ:Env} {w:World} {a:Act},
  served H n c=true→Fits n a ρ→cw P H c Q ρ w→c.wp P (UpQ n a (writes c) Q) a w:=by
 induction c with
 |skip=>intro Q ρ w a _ hf h;exact wp_skip ⟨fun _ _=>rfl,ρ,hf,h⟩
 |exit id=>intro Q ρ w a _ hf h;exact wp_exit ⟨fun _ _=>rfl,ρ,hf,h⟩
 |ret=>intro Q ρ w a _ hf h;exact wp_ret ⟨fun _ _=>rfl,ρ,hf,h⟩
 |region id ops draw=>
  intro Q ρ w a hs hf h
  cases draw with
  |true=>
   simp only[served,Bool.and_eq_true] at hs
   obtain⟨⟨hs1,hs2⟩,hs3⟩:=hs
   simp only[List.all_eq_true] at hs1
   simp only[cw,pDr] at h
   refine wp_region_any hm (wpAny_of_T _ _ [] _ _ ?_)
   have hcl:Clo ops (Array.replicate ops.size false):=by
    intro j o ho hl
    have hlt:=(Array.getElem?_eq_some_iff.1 ho).1
    simp[hlt] at hl
   have hlt:∀t∈opWrites ops.toList,n.lo≤t∧t<n.n:=fun t ht=>by
    have:=hs1 t ht
    simp only[Bool.and_eq_true,Nat.blt_eq,Nat.ble_eq] at this
    exact⟨this.2,this.1⟩
   cases ho:H.order id with
   |nil=>
    rw[ho] at h
    exact dw_any (P:=P) hs2 hlt (Q:=UpQ n a (writes (.region id ops true)) Q) (fun c a w=>Iff.rfl) a
     (fun a' ρ' w' hk hf' hq=>⟨hk,ρ',hf',hq⟩) ops.size _ [] ρ a _ hcl hf (fun _ _=>rfl) (fun p hp=>by cases hp) h
   |cons p r=>
    rw[ho] at h hs3
    simp only[Bool.and_eq_true] at hs3
    obtain⟨⟨hok,hlen⟩,hed⟩:=hs3
    have hlen:=Nat.eq_of_beq_eq_true hlen
    simp only[Array.length_toList] at hok hlen hed
    have hb:∀(j:Nat) (o:Oper),ops[j]? =some o→∀e∈o.after,Region.binds .any e=true→e.on<ops.size:=by
     intro j o hj e he _
     simp only[List.all_eq_true] at hed
     have:=hed o (by simpa using Array.mem_of_getElem? hj) e (by simpa using he)
     simpa [Nat.blt_eq] using this
    have hrel:RelM ops.size 0 (Array.replicate ops.size false):=⟨by simp,fun j hj=>by simp[hj]⟩
    have H:=dwS_any (P:=P) hs2 hlt hb (Q:=UpQ n a (writes (.region id ops true)) Q) (fun c a w=>Iff.rfl) a
     (fun a' ρ' w' hk hf' hq=>⟨hk,ρ',hf',hq⟩) (p::r) 0 _ [] ρ a _ hrel hok hcl hf (fun _ _=>rfl) (fun p hp=>by cases hp) h
    rw[hlen] at H
    exact H
  |false=>
   refine wp_region_list (rgW_wp (n:=n) ops.toList (fun c a w h=>h) ?_ hf h fun a' ρ' w' hk hf' hq=>⟨hk,ρ',hf',hq⟩)
   intro t ht
   simp only[served,List.all_eq_true] at hs
   have:=hs t ht
   simp only[Bool.and_eq_true,Nat.blt_eq,Nat.ble_eq] at this
   exact⟨this.2,this.1⟩
 |seq x y ihx ihy=>
  intro Q ρ w a hs hf h
  simp only[served,Bool.and_eq_true] at hs
  simp only[cw] at h
  refine wp_seq ?_
  split at h
  ·have hs:=hs.1
   refine wp_mono (ihx hs.1 hf h) fun e a' w' hq=>?_
   cases e with
   |panic c=>exact hq
   |outgrown=>exact hq.elim
   |goto l=>exact hq.elim
   |normal=>
    obtain⟨hk,ρ',hf',hq'⟩:=hq
    exact wp_mono (ihy hs.2 hf' hq') (UpQ.next hk)
   |exit id=>exact UpQ.mono (ws:=writes x) (Q:=Q) (by simp[writes];intro t ht;exact .inl ht) (fun _ _ _ h=>h) (.exit id) a' w' hq
   |ret=>exact UpQ.mono (ws:=writes x) (Q:=Q) (by simp[writes];intro t ht;exact .inl ht) (fun _ _ _ h=>h) .ret a' w' hq
  ·rename_i live mods hcut
   have hmods:∀t,mods.testBit t=false→t∉writes x:=by
    have:=hs.2
    rw[hcut] at this
    simp only[List.all_eq_true] at this
    intro t ht hm
    rw[this t hm] at ht;cases ht
   have hs:=hs.1
   obtain⟨I,hx,hy⟩:=h
   refine wp_mono (ihx hs.1 hf hx) fun e a' w' hq=>?_
   cases e with
   |panic c=>exact hq
   |outgrown=>exact hq.elim
   |goto l=>exact hq.elim
   |normal=>
    obtain⟨hk,ρ',hf',hq'⟩:=hq
    have hy':=allV_get (hy ρ') (live.map ρ') (by simp) w' hq'
    have hm:mkE ρ mods ρ' live (live.map ρ')=ρ':=mkE_self ρ ρ' _ (fun t ht=>by rw[←hf'.get t,hk t (hmods t ht),hf.get t]) live
    dsimp only at hy'
    rw[hm] at hy'
    exact wp_mono (ihy hs.2 hf' hy') (UpQ.next hk)
   |exit id=>exact UpQ.mono (ws:=writes x) (Q:=Q) (by simp[writes];intro t ht;exact .inl ht) (fun _ _ _ h=>h) (.exit id) a' w' hq
   |ret=>exact UpQ.mono (ws:=writes x) (Q:=Q) (by simp[writes];intro t ht;exact .inl ht) (fun _ _ _ h=>h) .ret a' w' hq
 |cond c x y ihx ihy=>
  intro Q ρ w a hs hf h
  simp only[served,Bool.and_eq_true] at hs
  simp only[cw] at h
  have hc:a.eval c=ev ρ c:=by rw[hf.eval]
  unfold pIf at h
  split at h
  ·rename_i hv
   exact wp_cond_true (hc.trans hv) (wp_mono (ihx hs.1 hf h) (UpQ.mono (by simp[writes];intro t ht;exact .inl ht) (fun _ _ _ h=>h)))
  ·rename_i hv
   exact wp_cond_false (hc.trans hv) (wp_mono (ihy hs.2 hf h) (UpQ.mono (by simp[writes];intro t ht;exact .inr ht) (fun _ _ _ h=>h)))
  ·exact h.elim
 |block id c ih=>
  intro Q ρ w a hs hf h
  simp only[served] at hs
  simp only[cw] at h
  refine wp_block (wp_mono (ih hs hf h) fun e a' w' hq=>?_)
  cases e with
  |panic c=>exact hq
  |outgrown=>exact hq.elim
  |goto l=>exact hq.elim
  |normal=>exact hq
  |ret=>exact hq
  |exit k=>
   obtain⟨hk,ρ',hf',hq'⟩:=hq
   simp only[inBlockE] at hq'
   simp only[Exit.inBlock]
   split
   ·rename_i e;rw[if_pos e] at hq';exact⟨hk,ρ',hf',hq'⟩
   ·rename_i e;rw[if_neg e] at hq';exact⟨hk,ρ',hf',hq'⟩
 |loop c ih=>
  intro Q ρ w a hs hf h
  simp only[served,Bool.and_eq_true] at hs
  simp only[cw] at h
  obtain⟨hs,hmm⟩:=hs
  split at h
  rotate_left
  ·exact h.elim
  rename_i live mods hlm
  rw[hlm] at hmm
  simp only[List.all_eq_true] at hmm
  have hmods:∀t,mods.testBit t=false→t∉writes c:=by
   intro t ht hm
   rw[hmm t hm] at ht;cases ht
  obtain⟨I,m,h0,hstep⟩:=h
  refine wp_loop (fun a' w'=>(∀t,t∉writes c→a'.tmps.getD t undef=a.tmps.getD t undef)∧a'.tmps.size=n.n∧a'.defers=n.ds∧(∀t,t<n.lo→a'.tmps.getD t undef=n.base t)∧apP live.length I (live.map fun t=>a'.tmps.getD t undef) w')
   (fun a' w'=>apM live.length m (live.map fun t=>a'.tmps.getD t undef) w') ⟨fun _ _=>rfl,hf.size,hf.defers,fun t ht=>(hf.get t).trans (hf.low t ht),?_⟩ ?_
  ·have e:(fun t=>a.tmps.getD t undef)=ρ:=funext hf.get
   rw[e];exact h0
  ·intro a₁ w₁ ⟨hk,hsz,hdf,hlow,hI⟩
   have hf₁:Fits n a₁ (fun t=>a₁.tmps.getD t undef):=⟨hsz,hdf,fun _=>rfl,hlow⟩
   have hs':=allV_get (hstep fun t=>a₁.tmps.getD t undef) (live.map fun t=>a₁.tmps.getD t undef) (by simp) w₁ hI
   rw[mkE_self ρ _ _ (fun t ht=>by rw[hk t (hmods t ht),hf.get t]) live] at hs'
   refine wp_mono (ih hs hf₁ hs') fun e a' w' hq=>?_
   cases e with
   |panic c=>exact hq
   |outgrown=>exact hq.elim
   |goto l=>exact hq.elim
   |normal=>
    obtain⟨hk',ρ',hf',hq'⟩:=hq
    have e:(fun t=>a'.tmps.getD t undef)=ρ':=funext hf'.get
    refine⟨⟨fun t ht=>(hk' t ht).trans (hk t ht),hf'.size,hf'.defers,fun t ht=>(hf'.get t).trans (hf'.low t ht),?_⟩,?_⟩
    ·rw[e];exact hq'.1
    ·rw[e];exact hq'.2
   |exit k=>exact⟨fun t ht=>(hq.1 t ht).trans (hk t ht),hq.2⟩
   |ret=>exact⟨fun t ht=>(hq.1 t ht).trans (hk t ht),hq.2⟩
 |rangeFunc f ps asg body=>intro Q ρ w a hs;simp[served] at hs
 |scope c=>intro Q ρ w a hs;simp[served] at hs
 |label l=>intro Q ρ w a hs;simp[served] at hs
 |goto l=>intro Q ρ w a hs;simp[served] at hs
 |refuse s=>intro Q ρ w a hs;simp[served] at hs
def argsE:List Value→Env
 | []=>fun _=>undef
 |v::r=>fun t=>match t with
  |0=>v
  |t+1=>argsE r t
def fin:List Value→Value
 | [v]=>v
 |vs=> .tuple vs.toArray
def oRes (t:TypeId) (a:Value):Sem Next:=oV (do loadVar t (←asAddr a))
def resW (P:Program):List ResultVar→List Value→Env→World→(Value→World→Prop)→Prop
 | [],acc,_,w,K=>K (fin acc) w
 | .tmp t::r,acc,ρ,w,K=>resW P r (acc++[ρ t]) ρ w K
 | .cell a t::r,acc,ρ,w,K=>pL P (oRes t (ρ a)) w fun v=>resW P r (acc++[v]) ρ w K
abbrev endQ (P:Program) (rs:List ResultVar) (K:Value→World→Prop):PQ
 | .normal,ρ,w=>resW P rs [] ρ w K
 | .ret,ρ,w=>resW P rs [] ρ w K
 |_,_,_=>False
def one (ρ:Env):ResultVar→Sem Value
 | .tmp t=>pure (ρ t)
 | .cell a t=>do loadVar t (←asAddr (ρ a))
theorem resW_run {P:Program} {ρ:Env} {w:World} {K:Value→World→Prop} (rs:List ResultVar):∀(acc:List Value),resW P rs acc ρ w K→
  ∃vs,(rs.mapM (one ρ)).run P w= .ok vs w∧K (fin (acc++vs)) w:=by
 induction rs with
 |nil=>intro acc h;exact⟨[],rfl,by simpa [resW] using h⟩
 |cons r rs ih=>
  intro acc h
  cases r with
  |tmp t=>
   obtain⟨vs,hr,hK⟩:=ih _ h
   refine⟨ρ t::vs,?_,by simpa using hK⟩
   rw[List.mapM_cons]
   simp only[one,pure_bind,Sem.run_bind,hr,Result.andThen_ok]
   rfl
  |cell a t=>
   obtain⟨v,hv,h⟩:=h
   obtain⟨vs,hr,hK⟩:=ih _ h
   refine⟨v::vs,?_,by simpa using hK⟩
   rw[List.mapM_cons]
   have hv':(one ρ (.cell a t)).run P w= .ok v w:=by
    simp only[oRes,oV] at hv
    rw[Sem.run_bind] at hv
    simp only[one]
    revert hv
    generalize (do loadVar t (←asAddr (ρ a)):Sem Value).run P w=r
    intro hv
    cases r with
    |ok x w'=>
     simp only[Result.andThen_ok] at hv
     have hv2:(Result.ok (Next.value x) w':Result Next)= .ok (.value v) w:=hv
     cases hv2
     rfl
    |halt x w'=>simp[Result.andThen] at hv
   simp only[Sem.run_bind,hv',hr,Result.andThen_ok]
   rfl
theorem results_one {n:Frm} {a:Act} {ρ:Env} (hf:Fits n a ρ) (fn:Func) (w:World) (P:Program) (vs:List Value) (h:(fn.results.toList.mapM (one ρ)).run P w= .ok vs w):
  (results fn a.tmps).run P w= .ok (fin vs) w:=by
 have e:(fun r:ResultVar=>(match r with
   | .tmp t=>pure (a.tmps.getD t undef)
   | .cell x t=>do loadVar t (←asAddr (a.tmps.getD x undef)):Sem Value))=one ρ:=by
  funext r
  cases r with
  |tmp t=>simp only[one,hf.get t]
  |cell x t=>simp only[one,hf.get x]
 have e2:results fn a.tmps=(do
   let vs ←fn.results.mapM (fun r:ResultVar=>(match r with
   | .tmp t=>pure (a.tmps.getD t undef)
   | .cell x t=>do loadVar t (←asAddr (a.tmps.getD x undef)):Sem Value))
   pure (if h:vs.size=1 then vs[0] else .tuple vs)):=rfl
 rw[e2,e]
 rw[Array.mapM_eq_mapM_toList]
 simp only[Sem.run_bind,map_eq_pure_bind,bind_assoc,pure_bind,h,Result.andThen_ok]
 show Result.ok (if h:vs.toArray.size=1 then vs.toArray[0] else .tuple vs.toArray) w=_
 congr 1
 match vs with
 | []=>rfl
 | [v]=>rfl
 |v::u::r=>simp[fin]
abbrev Frm.new (n:Nat):Frm:=⟨n,0,[],fun _=>undef⟩
theorem fits_new (n:Nat) (args:List Value) (ha:args.length≤n):Fits (Frm.new n) { tmps:=args.toArray++Array.replicate (n-args.toArray.size) undef,defers:=[] } (argsE args):=by
 refine⟨by simp;omega,rfl,fun t=>?_,fun t ht=>absurd ht (Nat.not_lt_zero t)⟩
 have key:∀(l:List Value) (k t:Nat),(l++List.replicate k undef)[t]?.getD undef=argsE l t:=by
  intro l
  induction l with
  |nil=>intro k t;simp only[List.nil_append,argsE,List.getElem?_replicate];split<;>rfl
  |cons v r ih=>
   intro k t
   cases t with
   |zero=>simp[argsE]
   |succ t=>simpa [argsE] using ih k t
 have:=key args (n-args.length) t
 rw[←this]
 simp only[Array.getD_eq_getD_getElem?]
 congr 1
 rw[←Array.getElem?_toList]
 simp
theorem calls_of_cw [Pan] {P:Program} (hm:P.follows .mixedOrders=true) {H:Hints} {f:FuncId} {fn:Func} {c:Code} {args:List Value} {w:World} {K:Value→World→Prop}
  (hfn:P.funcs[f]? =some fn) (hb:fn.body=some c) (hs:served H (Frm.new fn.ntmps) c=true) (ha:args.length≤fn.ntmps)
  (h:cw P H c (endQ P fn.results.toList K) (argsE args) w):Calls P f args.toArray w (retP K):=by
 refine calls_of_wp hfn hb ?_
 have hf:=fits_new fn.ntmps args ha
 refine wp_mono (cw_wp hm c hs hf h) fun e a' w' hq=>?_
 cases e with
 |panic c=>exact⟨hq.defers,hq.z⟩
 |outgrown=>exact hq.elim
 |goto l=>exact hq.elim
 |exit id=>obtain⟨_,ρ',_,hq⟩:=hq;exact hq.elim
 |normal=>
  obtain⟨_,ρ',hf',hq⟩:=hq
  obtain⟨vs,hr,hK⟩:=resW_run _ _ hq
  exact⟨hf'.defers,_,results_one hf' fn w' P vs hr,by simpa [retP] using hK⟩
 |ret=>
  obtain⟨_,ρ',hf',hq⟩:=hq
  obtain⟨vs,hr,hK⟩:=resW_run _ _ hq
  exact⟨hf'.defers,_,results_one hf' fn w' P vs hr,by simpa [retP] using hK⟩
def Hints.z:Hints:={ cut:=fun _=>none,loop:=fun _=>([],0),order:=fun _=>[] }
theorem calls_lift [Pan] {P:Program} (hm:P.follows .mixedOrders=true) (H:Hints) {f:FuncId} {fn:Func} (args:List Value) (hfn:P.funcs[f]? =some fn) {w:World} {K:Value→World→Prop} {F:Prop}
  (hs:(match fn.body with|some c=>served H (Frm.new fn.ntmps) c&&Nat.ble args.length fn.ntmps|none=>false)=true)
  (he:cw P H (match fn.body with|some c=>c|none=> .skip) (endQ P fn.results.toList K) (argsE args) w=F) (h:F):Calls P f args.toArray w (retP K):=by
 cases hb:fn.body with
 |none=>rw[hb] at hs;cases hs
 |some c=>
  rw[hb] at hs he
  simp only[Bool.and_eq_true] at hs
  exact calls_of_cw hm hfn hb hs.1 (Nat.le_of_ble_eq_true hs.2) (he.mpr h)
end
section
section
variable [Pan] {P:Program} {w w':World} {K:Value→World→Prop} {v:Value}
omit [Pan] in
def rA (r:World→Result Next) (K:Value→Prop):Prop:=∃v,(∀w,r w= .ok (.value v) w)∧K v
omit [Pan] in
def rL (r:Result Next) (w:World) (K:Value→Prop):Prop:=∃v,r= .ok (.value v) w∧K v
theorem pN_def (m:Sem Next):pN P m w K=rN P (m.run P w) K:=rfl
theorem pA_def (m:Sem Next) (K:Value→Prop):pA P m K=rA (fun w=>m.run P w) K:=rfl
theorem pL_def (m:Sem Next) (K:Value→Prop):pL P m w K=rL (m.run P w) w K:=rfl
theorem rN_value:rN P (.ok (.value v) w) K=K v w:=rfl
theorem rN_enter (f:FuncId) (args:Array Value):rN P (.ok (.enter f args) w) K=Calls P f args w (retP K):=rfl
theorem rA_value {K:Value→Prop}:rA (fun w=> .ok (.value v) w) K=K v:=by
 apply propext
 constructor
 ·rintro⟨v',h,hK⟩
  have:=h default
  simp only[Result.ok.injEq,Next.value.injEq,and_true] at this
  rw[this];exact hK
 ·exact fun h=>⟨v,fun _=>rfl,h⟩
theorem rL_value {K:Value→Prop}:rL (.ok (.value v) w) w K=K v:=by
 apply propext
 constructor
 ·rintro⟨v',h,hK⟩
  simp only[Result.ok.injEq,Next.value.injEq,and_true] at h
  rw[h];exact hK
 ·exact fun h=>⟨v,rfl,h⟩
theorem pDr_def (K:World→Prop):pDr w K=K w.drew:=rfl
theorem run_oMv (x:Value):(oMv x).run P w= .ok (.value x) w:=rfl
theorem run_oV (s:Sem Value):(oV s).run P w=match s.run P w with
  | .ok v w'=> .ok (.value v) w'
  | .halt h w'=> .halt h w':=by
 simp only[oV,Sem.run_bind]
 cases s.run P w<;>rfl
theorem run_oU (s:Sem Unit):(oU s).run P w=match s.run P w with
  | .ok _ w'=> .ok .skip w'
  | .halt h w'=> .halt h w':=by
 simp only[oU,Sem.run_bind]
 cases s.run P w<;>rfl
theorem run_oV_ok {s:Sem Value} (h:s.run P w= .ok v w'):(oV s).run P w= .ok (.value v) w':=by rw[run_oV,h]
theorem run_oU_ok {s:Sem Unit} (h:s.run P w= .ok () w'):(oU s).run P w= .ok .skip w':=by rw[run_oU,h]
variable (t:TypeId) (xo yo:Operand) (k:IntKind) (a b:Int)
theorem eqGuard_int (op:BinOp):(eqGuard op t xo yo (.int k a) (.int k b)).run P w= .ok () w:=by
 unfold eqGuard
 cases op<;>rfl
theorem run_bin_of {op:BinOp} {x y:Value} (hg:(eqGuard op t xo yo x y).run P w= .ok () w) (h:(binOp op t x y).run P w= .ok v w):(oBin op t xo yo x y).run P w= .ok (.value v) w:=by
 refine run_oV_ok ?_
 rw[Sem.run_bind,hg]
 exact h
theorem run_add:(oBin .add t xo yo (.int k a) (.int k b)).run P w= .ok (.value (.int k (k.wrap (a+b)))) w:=
 run_bin_of t xo yo (eqGuard_int t xo yo k a b .add) (by simp[binOp,Op.intArith])
theorem run_sub:(oBin .sub t xo yo (.int k a) (.int k b)).run P w= .ok (.value (.int k (k.wrap (a-b)))) w:=
 run_bin_of t xo yo (eqGuard_int t xo yo k a b .sub) (by simp[binOp,Op.intArith])
theorem run_mul:(oBin .mul t xo yo (.int k a) (.int k b)).run P w= .ok (.value (.int k (k.wrap (a*b)))) w:=
 run_bin_of t xo yo (eqGuard_int t xo yo k a b .mul) (by simp[binOp,Op.intArith])
theorem run_quo (h:b≠0):(oBin .quo t xo yo (.int k a) (.int k b)).run P w= .ok (.value (.int k (k.wrap (a.tdiv b)))) w:=
 run_bin_of t xo yo (eqGuard_int t xo yo k a b .quo) (by simp[binOp,Op.intDiv,h])
theorem run_rem (h:b≠0):(oBin .rem t xo yo (.int k a) (.int k b)).run P w= .ok (.value (.int k (a.tmod b))) w:=
 run_bin_of t xo yo (eqGuard_int t xo yo k a b .rem) (by simp[binOp,Op.intDiv,h])
theorem run_and:(oBin .and t xo yo (.int k a) (.int k b)).run P w= .ok (.value (.int k (k.wrap (BitVec.ofInt k.bits a&&& BitVec.ofInt k.bits b).toNat))) w:=
 run_bin_of t xo yo (eqGuard_int t xo yo k a b .and) (by simp[binOp,Op.intBits])
theorem run_or:(oBin .or t xo yo (.int k a) (.int k b)).run P w= .ok (.value (.int k (k.wrap (BitVec.ofInt k.bits a|||BitVec.ofInt k.bits b).toNat))) w:=
 run_bin_of t xo yo (eqGuard_int t xo yo k a b .or) (by simp[binOp,Op.intBits])
theorem run_eql:(oBin .eql t xo yo (.int k a) (.int k b)).run P w= .ok (.value (.bool (a==b))) w:=
 run_bin_of t xo yo (eqGuard_int t xo yo k a b .eql) (by simp[binOp,Op.intCmp])
theorem run_neq:(oBin .neq t xo yo (.int k a) (.int k b)).run P w= .ok (.value (.bool (a != b))) w:=
 run_bin_of t xo yo (eqGuard_int t xo yo k a b .neq) (by simp[binOp,Op.intCmp])
theorem run_lss:(oBin .lss t xo yo (.int k a) (.int k b)).run P w= .ok (.value (.bool (decide (a<b)))) w:=
 run_bin_of t xo yo (eqGuard_int t xo yo k a b .lss) (by simp[binOp,Op.intCmp])
theorem run_leq:(oBin .leq t xo yo (.int k a) (.int k b)).run P w= .ok (.value (.bool (decide (a≤b)))) w:=
 run_bin_of t xo yo (eqGuard_int t xo yo k a b .leq) (by simp[binOp,Op.intCmp])
theorem run_gtr:(oBin .gtr t xo yo (.int k a) (.int k b)).run P w= .ok (.value (.bool (decide (b<a)))) w:=
 run_bin_of t xo yo (eqGuard_int t xo yo k a b .gtr) (by simp[binOp,Op.intCmp])
theorem run_geq:(oBin .geq t xo yo (.int k a) (.int k b)).run P w= .ok (.value (.bool (decide (b≤a)))) w:=
 run_bin_of t xo yo (eqGuard_int t xo yo k a b .geq) (by simp[binOp,Op.intCmp])
theorem run_shl (k':IntKind) (h:0≤b):(oBin .shl t xo yo (.int k a) (.int k' b)).run P w= .ok (.value (.int k (k.wrap (a*2^(min b.toNat k.bits))))) w:=by
 refine run_bin_of t xo yo (by unfold eqGuard;rfl) ?_
 have:¬b<0:=by omega
 simp[binOp,Op.shift,this]
theorem run_shr (k':IntKind) (h:0≤b):(oBin .shr t xo yo (.int k a) (.int k' b)).run P w= .ok (.value (.int k (a.fdiv (2^(min b.toNat k.bits))))) w:=by
 refine run_bin_of t xo yo (by unfold eqGuard;rfl) ?_
 have:¬b<0:=by omega
 simp[binOp,Op.shift,this]
theorem run_equalIn_bool (d:Nat) (p q:Bool) (hu:P.underlying t=some .bool):(Op.equalIn (d+1) t (.bool p) (.bool q)).run P w= .ok (p==q) w:=by
 simp only[Op.equalIn,Sem.run_bind,run_underlying hu,Result.andThen_ok]
 rfl
theorem run_equal_of {x y:Value} {r:Bool} (h:∀d,(Op.equalIn (d+1) t x y).run P w= .ok r w):(Op.equal t x y).run P w= .ok r w:=h 9999
theorem run_eql_of {x y:Value} {r:Bool} (hb:binOp .eql t x y=(do pure (.bool (←Op.equal t x y)))) (hg:eqGuard .eql t xo yo x y=pure ()) (h:∀d,(Op.equalIn (d+1) t x y).run P w= .ok r w):(oBin .eql t xo yo x y).run P w= .ok (.value (.bool r)) w:=by
 refine run_bin_of t xo yo (by rw[hg];rfl) ?_
 rw[hb,Sem.run_bind,run_equal_of t h]
 rfl
theorem run_neq_of {x y:Value} {r:Bool} (hb:binOp .neq t x y=(do pure (.bool (!(←Op.equal t x y))))) (hg:eqGuard .neq t xo yo x y=pure ()) (h:∀d,(Op.equalIn (d+1) t x y).run P w= .ok r w):(oBin .neq t xo yo x y).run P w= .ok (.value (.bool !r)) w:=by
 refine run_bin_of t xo yo (by rw[hg];rfl) ?_
 rw[hb,Sem.run_bind,run_equal_of t h]
 rfl
theorem run_neq_bool (p q:Bool) (hu:P.underlying t=some .bool):(oBin .neq t xo yo (.bool p) (.bool q)).run P w= .ok (.value (.bool (p != q))) w:=
 run_neq_of t xo yo rfl rfl fun d=>run_equalIn_bool t d p q hu
theorem run_eql_str (p q:ByteArray):(oBin .eql t xo yo (.string p) (.string q)).run P w= .ok (.value (.bool (p.toList==q.toList))) w:=
 run_bin_of t xo yo (by unfold eqGuard;rfl) (by simp[binOp,Op.stringOp])
theorem run_neq_str (p q:ByteArray):(oBin .neq t xo yo (.string p) (.string q)).run P w= .ok (.value (.bool (!(p.toList==q.toList)))) w:=
 run_bin_of t xo yo (by unfold eqGuard;rfl) (by simp[binOp,Op.stringOp])
theorem run_equalIn_ptr_nil (d:Nat) (p:Option Addr) {e:TypeId} (hu:P.underlying t=some (.pointer e)):(Op.equalIn (d+1) t (.pointer p) (.pointer none)).run P w= .ok p.isNone w:=by
 simp only[Op.equalIn,Sem.run_bind,run_underlying hu,Result.andThen_ok]
 cases p<;>rfl
theorem run_eql_ptr_nil (p:Option Addr) {e:TypeId} (hu:P.underlying t=some (.pointer e)):(oBin .eql t xo yo (.pointer p) (.pointer none)).run P w= .ok (.value (.bool p.isNone)) w:=by
 cases p<;>exact run_eql_of t xo yo rfl rfl fun d=>run_equalIn_ptr_nil t d _ hu
theorem run_not (p:Bool):(oUn .not (.bool p)).run P w= .ok (.value (.bool !p)) w:=run_oV_ok rfl
theorem run_ext (vs:Array Value) (i:Nat) (h:vs[i]? =some v):(oExt (.tuple vs) i).run P w= .ok (.value v) w:=
 run_oV_ok (by simp[Instr.extract,h])
theorem run_ext2_0 (x y:Value):(oExt (.tuple #[x,y]) 0).run P w= .ok (.value x) w:=rfl
theorem run_ext2_1 (x y:Value):(oExt (.tuple #[x,y]) 1).run P w= .ok (.value y) w:=rfl
theorem run_ext3_0 (x y z:Value):(oExt (.tuple #[x,y,z]) 0).run P w= .ok (.value x) w:=rfl
theorem run_ext3_1 (x y z:Value):(oExt (.tuple #[x,y,z]) 1).run P w= .ok (.value y) w:=rfl
theorem run_ext3_2 (x y z:Value):(oExt (.tuple #[x,y,z]) 2).run P w= .ok (.value z) w:=rfl
theorem run_nil (ad:Addr):(oNil (.pointer (some ad))).run P w= .ok (.value (.pointer (some ad))) w:=rfl
theorem run_conv_int {s d:TypeId} {ks kd:IntKind} (hs:P.underlying s=some (.int ks)) (hd:P.underlying d=some (.int kd)) (n:Int):(oConv s d (.int k n)).run P w= .ok (.value (.int kd (kd.wrap n))) w:=
 run_oV_ok (by simp[convert,run_underlying hs,run_underlying hd,Conv.intToInt])
theorem run_len_slice {e ty:TypeId} (hu:P.underlying t=some (.slice e)) (ao:Option Addr) (n c:Nat) (cs:List Bool):(oBi .len #[t] ty cs [.slice ao n c]).run P w= .ok (.value (.int .i64 n)) w:=by
 simp[oBi,builtin,Builtin.len_,run_underlying hu,goInt]
end
end
section
abbrev Hp:=Nat→Option Obj
abbrev HA:=Hp→Prop
def hpOf (w:World):Hp:=fun b=>w.heap[b]?
def Sub (h h':Hp):Prop:=∀(b:Nat) (o:Obj),h b=some o→h' b=some o
def less (h h1:Hp):Hp:=fun b=>match h1 b with
 |some _=>none
 |none=>h b
def Sats:List HA→Hp→Prop
 | [],_=>True
 |A::L,h=>∃h1,A h1∧Sub h1 h∧Sats L (less h h1)
structure Sat (E w:World) (L:List HA):Prop where
 os:w.os=E.os
 tape:w.tape=E.tape
 output:w.output=E.output
 sats:Sats L (hpOf w)
theorem Sub.trans {a b c:Hp} (h:Sub a b) (h':Sub b c):Sub a c:=fun _ _ e=>h' _ _ (h _ _ e)
theorem less_sub (h h1:Hp):Sub (less h h1) h:=by
 intro b o e
 simp only[less] at e
 split at e
 ·cases e
 ·exact e
theorem Sub.less {h h':Hp} (hs:Sub h h') (h1:Hp):Sub (less h h1) (less h' h1):=by
 intro b o e
 simp only[Go.Proofs.YtikmogfhhggafaaGreatDoor.less] at e ⊢
 split at e
 ·cases e
 ·exact hs b o e
theorem Sats.mono {L:List HA}:∀{h h':Hp},Sats L h→Sub h h'→Sats L h':=by
 induction L with
 |nil=>intro h h' _ _;trivial
 |cons A L ih=>
  intro h h' ⟨h1,hA,hs,hr⟩ hsub
  exact⟨h1,hA,hs.trans hsub,ih hr (hsub.less h1)⟩
theorem less_comm (h h1 h2:Hp):less (less h h1) h2=less (less h h2) h1:=by
 funext b
 simp only[less]
 cases h1 b<;>cases h2 b<;>rfl
theorem Sats.swap {A B:HA} {L:List HA} {h:Hp} (hs:Sats (A::B::L) h):Sats (B::A::L) h:=by
 obtain⟨h1,hA,s1,h2,hB,s2,hr⟩:=hs
 refine⟨h2,hB,s2.trans (less_sub _ _),h1,hA,?_,by rw[less_comm];exact hr⟩
 intro b o e
 simp only[less]
 cases e2:h2 b with
 |none=>exact s1 b o e
 |some o2=>
  have:=s2 b o2 e2
  simp only[less,e] at this
  cases this
theorem Sats.perm {L L':List HA} (hp:L.Perm L'):∀{h:Hp},Sats L h→Sats L' h:=by
 induction hp with
 |nil=>intro h hs;exact hs
 |cons A _ ih=>intro h ⟨h1,hA,hs,hr⟩;exact⟨h1,hA,hs,ih hr⟩
 |swap A B L=>intro h hs;exact hs.swap
 |trans _ _ ih1 ih2=>intro h hs;exact ih2 (ih1 hs)
theorem Sats.cons_mono {A:HA} {L L':List HA} {h:Hp} (hL:∀h,Sats L h→Sats L' h) (hs:Sats (A::L) h):Sats (A::L') h:=by
 obtain⟨h1,hA,s,hr⟩:=hs
 exact⟨h1,hA,s,hL _ hr⟩
section
variable {E w w':World} {A B:HA} {L L' M:List HA}
theorem Sat.perm (hs:Sat E w L) (hp:L.Perm L'):Sat E w L':=⟨hs.os,hs.tape,hs.output,hs.sats.perm hp⟩
theorem perm_front:∀(L:List HA) (i:Nat) (A:HA),L[i]? =some A→L.Perm (A::L.eraseIdx i)
 | [],i,A,h=>by simp at h
 |B::L,0,A,h=>by simp at h;subst h;exact List.Perm.refl _
 |B::L,i+1,A,h=>by
  have h':L[i]? =some A:=by simpa using h
  exact((perm_front L i A h').cons B).trans (List.Perm.swap A B _)
theorem Sat.front (hs:Sat E w L) (i:Nat) (h:L[i]? =some A):Sat E w (A::L.eraseIdx i):=hs.perm (perm_front L i A h)
theorem Sat.drop (hs:Sat E w (A::L)):Sat E w L:=by
 obtain⟨h1,_,s,hr⟩:=hs.sats
 exact⟨hs.os,hs.tape,hs.output,hr.mono (less_sub _ _)⟩
theorem Sat.drew (hs:Sat E w L):Sat E w.drew L:=⟨hs.os,hs.tape,hs.output,hs.sats⟩
theorem Sat.head (hs:Sat E w (A::L)):∃h1,A h1∧∀(b:Nat) (o:Obj),h1 b=some o→w.heap[b]? =some o:=by
 obtain⟨h1,hA,s,_⟩:=hs.sats
 exact⟨h1,hA,s⟩
theorem Sats.mem {L:List HA} {A:HA} (hm:A∈L):∀{h:Hp},Sats L h→∃h1,A h1∧Sub h1 h:=by
 induction L with
 |nil=>cases hm
 |cons B L ih=>
  intro h ⟨h1,hB,s,hr⟩
  rcases List.mem_cons.1 hm with rfl|hm
  ·exact⟨h1,hB,s⟩
  ·obtain⟨h2,hA,s2⟩:=ih hm hr
   exact⟨h2,hA,s2.trans (less_sub _ _)⟩
theorem Sat.get (hs:Sat E w L) (i:Nat) (hi:L[i]? =some A):∃h1,A h1∧∀(b:Nat) (o:Obj),h1 b=some o→w.heap[b]? =some o:=by
 obtain⟨h1,hA,s⟩:=hs.sats.mem (List.mem_of_getElem? hi)
 exact⟨h1,hA,s⟩
theorem Sat.turn (hs:Sat E w (A::L)) (ho:w'.os=w.os) (ht:w'.tape=w.tape) (hu:w'.output=w.output)
  (h:∀h1,A h1→(∀(b:Nat) (o:Obj),h1 b=some o→w.heap[b]? =some o)→∃h2,B h2∧(∀(b:Nat) (o:Obj),h2 b=some o→w'.heap[b]? =some o)∧
   ∀(b:Nat) (o:Obj),w.heap[b]? =some o→h1 b=none→w'.heap[b]? =some o∧h2 b=none):Sat E w' (B::L):=by
 obtain⟨h1,hA,s,hr⟩:=hs.sats
 obtain⟨h2,hB,s2,hk⟩:=h h1 hA s
 refine⟨ho.trans hs.os,ht.trans hs.tape,hu.trans hs.output,h2,hB,s2,hr.mono ?_⟩
 intro b o e
 simp only[less] at e ⊢
 cases e1:h1 b with
 |some o1=>rw[e1] at e;cases e
 |none=>
  rw[e1] at e
  obtain⟨k1,k2⟩:=hk b o e e1
  rw[k2];exact k1
theorem Sat.add (hs:Sat E w L) (ho:w'.os=w.os) (ht:w'.tape=w.tape) (hu:w'.output=w.output)
  (hk:∀(b:Nat) (o:Obj),w.heap[b]? =some o→w'.heap[b]? =some o)
  (h:∃h2,B h2∧(∀(b:Nat) (o:Obj),h2 b=some o→w'.heap[b]? =some o)∧∀(b:Nat) (o:Obj),w.heap[b]? =some o→h2 b=none):Sat E w' (B::L):=by
 obtain⟨h2,hB,s2,hn⟩:=h
 refine⟨ho.trans hs.os,ht.trans hs.tape,hu.trans hs.output,h2,hB,s2,hs.sats.mono ?_⟩
 intro b o e
 simp only[less]
 rw[hn b o e];exact hk b o e
theorem Sats.append {L M:List HA}:∀{h:Hp},Sats (L++M) h↔∃h1,Sats L h1∧Sub h1 h∧Sats M (less h h1):=by
 induction L with
 |nil=>
  intro h
  constructor
  ·intro hs;exact⟨fun _=>none,trivial,fun b o e=>(by cases e),hs⟩
  ·rintro⟨h1,_,s,hm⟩;exact hm.mono (less_sub _ _)
 |cons A L ih=>
  intro h
  constructor
  ·rintro⟨ha,hA,sa,hr⟩
   obtain⟨hl,hL,sl,hM⟩:=ih.1 hr
   refine⟨fun b=>match ha b with|some o=>some o|none=>hl b,⟨ha,hA,?_,?_⟩,?_,?_⟩
   ·intro b o e;simp only[e]
   ·refine hL.mono ?_
    intro b o e
    simp only[less]
    cases e1:ha b with
    |some o1=>
     have:=sl b o e
     simp only[less,e1] at this;cases this
    |none=>exact e
   ·intro b o e
    dsimp only at e
    cases e1:ha b with
    |some o1=>rw[e1] at e;cases e;exact sa b _ e1
    |none=>rw[e1] at e;exact less_sub _ _ b o (sl b o e)
   ·refine hM.mono ?_
    intro b o e
    simp only[less] at e ⊢
    cases e1:ha b with
    |some o1=>cases e2:hl b<;>simp[e1,e2] at e
    |none=>
     simp only[e1] at e ⊢
     exact e
  ·rintro⟨h1,⟨ha,hA,sa,hL⟩,s1,hM⟩
   refine⟨ha,hA,sa.trans s1,ih.2 ⟨less h1 ha,hL,s1.less ha,hM.mono ?_⟩⟩
   intro b o e
   simp only[less] at e ⊢
   cases e1:h1 b with
   |some o1=>simp[e1] at e
   |none=>
    simp only[e1] at e
    have e2:ha b=none:=by
     cases e2:ha b with
     |none=>rfl
     |some o2=>rw[sa b o2 e2] at e1;cases e1
    simp only[e2]
    exact e
theorem Sat.open_ (hs:Sat E w (A::L)) (h:∀h,A h→Sats M h):Sat E w (M++L):=by
 obtain⟨h1,hA,s,hr⟩:=hs.sats
 exact⟨hs.os,hs.tape,hs.output,Sats.append.2 ⟨h1,h h1 hA,s,hr⟩⟩
theorem Sat.shut (hs:Sat E w (M++L)) (h:∀h,Sats M h→A h):Sat E w (A::L):=by
 obtain⟨h1,hM,s,hr⟩:=Sats.append.1 hs.sats
 exact⟨hs.os,hs.tape,hs.output,h1,h h1 hM,s,hr⟩
theorem Sat.ex {α:Type} {F:α→HA} (hs:Sat E w ((fun h=>∃x,F x h)::L)):∃x,Sat E w (F x::L):=by
 obtain⟨h1,⟨x,hA⟩,s,hr⟩:=hs.sats
 exact⟨x,hs.os,hs.tape,hs.output,h1,hA,s,hr⟩
theorem Sat.weaken (hs:Sat E w (A::L)) (h:∀h,A h→B h):Sat E w (B::L):=by
 obtain⟨h1,hA,s,hr⟩:=hs.sats
 exact⟨hs.os,hs.tape,hs.output,h1,h h1 hA,s,hr⟩
def blk (b:Nat) (o:Obj):HA:=fun h=>h b=some o
def old (W:World):HA:=fun h=>∀b,h b=W.heap[b]?
theorem Sat.start (W:World):Sat W W [old W]:=⟨rfl,rfl,rfl,fun b=>W.heap[b]?,fun _=>rfl,fun _ _ e=>e,trivial⟩
theorem Sat.blk_at {b:Nat} {o:Obj} (hs:Sat E w L) (i:Nat) (hi:L[i]? =some (blk b o)):w.heap[b]? =some o:=by
 obtain⟨h1,hA,s⟩:=hs.get i hi
 exact s b o hA
theorem Sat.old_at {W:World} (hs:Sat E w L) (i:Nat) (hi:L[i]? =some (old W)):∀(b:Nat) (o:Obj),W.heap[b]? =some o→w.heap[b]? =some o:=by
 obtain⟨h1,hA,s⟩:=hs.get i hi
 exact fun b o e=>s b o ((hA b).trans e)
theorem Sat.size_le {W:World} (hs:Sat E w L) (i:Nat) (hi:L[i]? =some (old W)):W.heap.size≤w.heap.size:=by
 have h:=hs.old_at i hi
 rcases Nat.lt_or_ge w.heap.size W.heap.size with hlt|hge
 ·have:=h w.heap.size _ (Array.getElem?_eq_getElem hlt)
  simp at this
 ·exact hge
theorem Sat.below {W:World} (hs:Sat W w L) (i:Nat) (hi:L[i]? =some (old W)):RowKit.Below W.heap.size W w:=by
 refine⟨hs.os,hs.tape,hs.output,hs.size_le i hi,fun k hk=>?_⟩
 have h:=hs.old_at i hi k _ (Array.getElem?_eq_getElem hk)
 rw[h,Array.getElem?_eq_getElem hk]
theorem Sat.store {b:Nat} {cs:Array Value} {e:TypeId} (hs:Sat E w (blk b (.cells cs e (0,0))::L)) (i:Nat) (v:Value):
  Sat E (w.setCell ⟨b,i,none⟩ v) (blk b (.cells (cs.setIfInBounds i v) e (0,0))::L):=by
 refine hs.turn rfl rfl rfl fun h1 hA s=>?_
 refine⟨fun k=>if k=b then some (.cells (cs.setIfInBounds i v) e (0,0)) else h1 k,by simp[blk],?_,?_⟩
 ·intro k o ek
  simp only[World.setCell,Array.getElem?_modify]
  by_cases hkb:k=b
  ·subst hkb
   simp only[if_true] at ek ⊢
   rw[s k _ hA]
   simpa using ek
  ·simp only[if_neg hkb] at ek
   rw[if_neg (fun e=>hkb e.symm)]
   exact s k o ek
 ·intro k o ek hn
  have hkb:k≠b:=fun e=>by subst e;rw[hA] at hn;cases hn
  simp only[World.setCell,Array.getElem?_modify]
  rw[if_neg (fun e=>hkb e.symm),if_neg hkb]
  exact⟨ek,hn⟩
theorem Sat.alloc (hs:Sat E w L) (o:Obj):Sat E (w.alloc o) (blk w.heap.size o::L):=by
 refine hs.add rfl rfl rfl ?_ ⟨fun b=>if b=w.heap.size then some o else none,by simp[blk],?_,?_⟩
 ·intro b o' e
  have hlt:b<w.heap.size:=(Array.getElem?_eq_some_iff.1 e).1
  simp only[World.alloc,Array.getElem?_push]
  rw[if_neg (by omega)];exact e
 ·intro b o' e
  dsimp only at e
  split at e
  ·rename_i hb;cases e;subst hb;exact heap_alloc_new w _
  ·cases e
 ·intro b o' e
  have hlt:b<w.heap.size:=(Array.getElem?_eq_some_iff.1 e).1
  dsimp only
  rw[if_neg (by omega)]
def own (e:TypeId) (size:Nat) (v:Value) (n:Nat) (xs:List Value):HA:=fun h=>
 xs.length=n*size∧
 ((v= .slice none 0 0∧n=0)∨
  ∃g cap cur,v= .slice (some ⟨g,0,none⟩) n cap∧h g=some (.cells cur e (0,0))∧n≤cap∧cap≤maxLen∧cur.size=cap*size∧cur.toList.take (n*size)=xs)
theorem own_row {e:TypeId} {size:Nat} {v:Value} {n:Nat} {xs:List Value} {h:Hp} (ho:own e size v n xs h) (hs:∀(b:Nat) (o:Obj),h b=some o→w.heap[b]? =some o):w.ownsRow 0 e size v n xs:=by
 obtain⟨hl,h|⟨g,cap,cur,hv,hg,r⟩⟩:=ho
 ·exact⟨hl,.inl h⟩
 ·exact⟨hl,.inr ⟨g,cap,cur,hv,Nat.zero_le _,hs _ _ hg,r⟩⟩
theorem Sat.own_at {e:TypeId} {size:Nat} {v:Value} {n:Nat} {xs:List Value} (hs:Sat E w L) (i:Nat) (hi:L[i]? =some (own e size v n xs)):w.ownsRow 0 e size v n xs:=by
 obtain⟨h1,hA,s⟩:=hs.get i hi
 exact own_row hA s
theorem Sat.grown {e:TypeId} {size:Nat} {v v':Value} {n n':Nat} {xs xs':List Value} (hs:Sat E w (own e size v n xs::L)) (hg:w.grownBy w' v.ownBlock)
  (ho:w'.ownsRow 0 e size v' n' xs') (hb:v'.ownBlock=v.ownBlock∨v'.ownBlock=some w.heap.size):Sat E w' (own e size v' n' xs'::L):=by
 refine hs.turn hg.os hg.tape hg.output fun h1 hA s=>?_
 obtain⟨hl,ho⟩:=ho
 obtain⟨_,hA⟩:=hA
 have keep:∀(b:Nat) (o:Obj),w.heap[b]? =some o→h1 b=none→w'.heap[b]? =some o:=by
  intro b o e hn
  have hlt:b<w.heap.size:=(Array.getElem?_eq_some_iff.1 e).1
  rw[hg.block b hlt ?_];exact e
  intro hb
  rcases hA with⟨rfl,_⟩|⟨g,cap,cur,rfl,hg1,_⟩
  ·cases hb
  ·simp only[Value.ownBlock,Option.some.injEq] at hb
   rw[hb,hg1] at hn;cases hn
 rcases ho with⟨hv',hn'⟩|⟨g,cap,cur,hv',_,hg',r⟩
 ·exact⟨fun _=>none,⟨hl,.inl ⟨hv',hn'⟩⟩,fun b o e=>(by cases e),fun b o e hn=>⟨keep b o e hn,rfl⟩⟩
 ·refine⟨fun b=>if b=g then some (.cells cur e (0,0)) else none,⟨hl,.inr ⟨g,cap,cur,hv',by simp,r⟩⟩,?_,?_⟩
  ·intro b o eb
   dsimp only at eb
   split at eb
   ·rename_i hbg;subst hbg;cases eb;exact hg'
   ·cases eb
  ·intro b o eb hn
   refine⟨keep b o eb hn,?_⟩
   dsimp only
   split
   ·rename_i hbg
    subst hbg
    exfalso
    have hlt:b<w.heap.size:=(Array.getElem?_eq_some_iff.1 eb).1
    subst hv'
    simp only[Value.ownBlock] at hb
    rcases hb with hb|hb
    ·rcases hA with⟨rfl,_⟩|⟨g2,cap2,cur2,rfl,hg2,_⟩
     ·cases hb
     ·simp only[Option.some.injEq] at hb
      subst hb
      rw[hg2] at hn;cases hn
    ·simp only[Option.some.injEq] at hb
     omega
   ·rfl
end
end
section
section
variable [Pan] {P:Program} {E w w':World} {K:Value→World→Prop} {v:Value} {L:List HA}
theorem cell_of_blk {b:Nat} {cs:Array Value} {e:TypeId} {fz:Nat×Nat} (hb:w.heap[b]? =some (.cells cs e fz)) (i:Nat):w.cell? ⟨b,i,none⟩=cs[i]? :=by
 simp[World.cell?,hb]
theorem run_load {t:TypeId} {a:Addr} (ht:∀w,(isAgg t).run P w= .ok false w) (hc:w.cell? a=some v):(oLoad t (.pointer (some a))).run P w= .ok (.value v) w:=by
 refine run_oV_ok ?_
 simp only[Instr.loadAt,Instr.sureAddr,pure_bind,loadVar,Sem.run_bind,ht,Result.andThen_ok]
 simp[load,Sem.run,hc]
theorem run_load_agg {t:TypeId} {a:Addr} {cs:List Value} (ht:∀w,(isAgg t).run P w= .ok true w) (hs:∀w,(sizeOf t).run P w= .ok cs.length w)
  (hc:∀(j:Nat) (u:Value),cs[j]? =some u→w.cell? (a.add j)=some u):(oLoad t (.pointer (some a))).run P w= .ok (.value (.agg cs.toArray)) w:=by
 refine run_oV_ok ?_
 simp only[Instr.loadAt,Instr.sureAddr,pure_bind,loadVar,Sem.run_bind,ht,hs,Result.andThen_ok,if_true,run_loadCells_list w a cs hc]
 rfl
theorem pN_ld {t:TypeId} {a:Addr} (ht:∀w,(isAgg t).run P w= .ok false w) (hc:w.cell? a=some v) (h:K v w):pN P (oLoad t (.pointer (some a))) w K:=by
 rw[pN_def,run_load ht hc];exact h
theorem pL_ld {t:TypeId} {a:Addr} {K:Value→Prop} (ht:∀w,(isAgg t).run P w= .ok false w) (hc:w.cell? a=some v) (h:K v):pL P (oLoad t (.pointer (some a))) w K:=
 ⟨v,run_load ht hc,h⟩
theorem pN_ld_agg {t:TypeId} {a:Addr} {cs:List Value} (ht:∀w,(isAgg t).run P w= .ok true w) (hs:∀w,(sizeOf t).run P w= .ok cs.length w)
  (hc:∀(j:Nat) (u:Value),cs[j]? =some u→w.cell? (a.add j)=some u) (h:K (.agg cs.toArray) w):pN P (oLoad t (.pointer (some a))) w K:=by
 rw[pN_def,run_load_agg ht hs hc];exact h
theorem run_storeAt {t:TypeId} {a:Addr} {u:Value} (hs:∀w,(sizeOf t).run P w= .ok 1 w) (hv:v.oneCell'=true) (hc:w.cell? a=some u) (hf:w.frozen? a=false):
  (oStore t (.pointer (some a)) v).run P w= .ok .skip (w.setCell a v):=by
 refine run_oU_ok ?_
 have h1:v.cells=#[v]:=by cases v<;>first|rfl|cases hv
 simp only[Instr.storeAt,Instr.sureAddr,pure_bind,storeVar,Sem.run_bind,hs,Result.andThen_ok,h1]
 simp only[List.size_toArray,List.length_cons,List.length_nil,Nat.zero_add,ne_eq,not_true_eq_false,if_false,storeCells,Sem.run_bind,Addr.add_zero',run_store P w a v .plain hv,hc,hf]
 rfl
theorem pN_st_blk {t:TypeId} {b:Nat} {cs:Array Value} {e:TypeId} {i:Nat} (hS:Sat E w (blk b (.cells cs e (0,0))::L)) (hs:∀w,(sizeOf t).run P w= .ok 1 w) (hv:v.oneCell'=true) (hi:i<cs.size)
  (h:∀w',Sat E w' (blk b (.cells (cs.setIfInBounds i v) e (0,0))::L)→K undef w'):pN P (oStore t (.pointer (some ⟨b,i,none⟩)) v) w K:=by
 have hb:=hS.blk_at 0 rfl
 rw[pN_def,run_storeAt (u:=cs[i]) hs hv (by rw[cell_of_blk hb];simp[hi]) (by simp[World.frozen?,hb])]
 exact h _ (hS.store i v)
theorem Sat.own_set {e:TypeId} {g n cap i:Nat} {xs:List Value} {size:Nat} (hS:Sat E w (own e size (.slice (some ⟨g,0,none⟩) n cap) n xs::L)) (hi:i<xs.length) (u:Value):
  Sat E (w.setCell ⟨g,i,none⟩ u) (own e size (.slice (some ⟨g,0,none⟩) n cap) n (xs.set i u)::L)∧w.cell? ⟨g,i,none⟩=xs[i]? ∧w.frozen? ⟨g,i,none⟩=false:=by
 have hrow:=hS.own_at 0 rfl
 obtain⟨hl,h|⟨g',cap',cur,hv,_,hg,hnc,hm,hsz,htk⟩⟩:=hrow
 ·cases h.1
 ·simp only[Value.slice.injEq,Option.some.injEq,Addr.mk.injEq,and_true,true_and] at hv
  obtain⟨rfl,rfl⟩:=hv
  have hcur:i<cur.size:=by
   have:=congrArg List.length htk
   simp only[List.length_take,Array.length_toList] at this
   omega
  refine⟨?_,?_,by simp[World.frozen?,hg]⟩
  ·refine hS.turn rfl rfl rfl fun h1 hA s=>?_
   obtain⟨_,h|⟨g',cap',cur',hv',hg',_⟩⟩:=hA
   ·cases h.1
   ·simp only[Value.slice.injEq,Option.some.injEq,Addr.mk.injEq,and_true,true_and] at hv'
    obtain⟨rfl,rfl⟩:=hv'
    have hcc:cur'=cur:=by
     have:=s _ _ hg'
     rw[hg] at this
     simpa using this.symm
    subst hcc
    refine⟨fun k=>if k=g then some (.cells (cur'.setIfInBounds i u) e (0,0)) else h1 k,⟨by simpa using hl,.inr ⟨g,cap,cur'.setIfInBounds i u,rfl,by simp,hnc,hm,by simpa using hsz,?_⟩⟩,?_,?_⟩
    ·rw[←htk]
     rw[Array.toList_setIfInBounds,List.take_set]
    ·intro k o ek
     simp only[World.setCell,Array.getElem?_modify]
     by_cases hkb:k=g
     ·subst hkb
      simp only[if_true] at ek ⊢
      rw[hg]
      simpa using ek
     ·simp only[if_neg hkb] at ek
      rw[if_neg (fun e=>hkb e.symm)]
      exact s k o ek
    ·intro k o ek hn
     have hkb:k≠g:=fun e=>by subst e;rw[hg'] at hn;cases hn
     simp only[World.setCell,Array.getElem?_modify]
     rw[if_neg (fun e=>hkb e.symm)]
     exact⟨ek,by simp only[if_neg hkb];exact hn⟩
  ·rw[cell_of_blk hg,←htk]
   rw[List.getElem?_take]
   have hin:i<n*size:=by omega
   simp[hin]
theorem pN_st_own {t e:TypeId} {g n cap i:Nat} {xs:List Value} {size:Nat} (hS:Sat E w (own e size (.slice (some ⟨g,0,none⟩) n cap) n xs::L)) (hs:∀w,(sizeOf t).run P w= .ok 1 w) (hv:v.oneCell'=true) (hi:i<xs.length)
  (h:∀w',Sat E w' (own e size (.slice (some ⟨g,0,none⟩) n cap) n (xs.set i v)::L)→K undef w'):pN P (oStore t (.pointer (some ⟨g,i,none⟩)) v) w K:=by
 obtain⟨h1,h2,h3⟩:=hS.own_set hi v
 rw[pN_def,run_storeAt (u:=xs[i]) hs hv (by rw[h2];simp[hi]) h3]
 exact h _ h1
omit [Pan] in
def Rd (w:World) (size:Nat) (v:Value) (n:Nat) (xs:List Value):Prop:=
 xs.length=n*size∧∃ao cap,v= .slice ao n cap∧n≤cap∧(ao=none→n=0∧cap=0)∧∀a,ao=some a→∀(j:Nat) (u:Value),xs[j]? =some u→w.cell? (a.add j)=some u
theorem Rd.of_own {e:TypeId} {size:Nat} {n:Nat} {xs:List Value} (h:w.ownsRow 0 e size v n xs):Rd w size v n xs:=by
 obtain⟨hl,⟨rfl,rfl⟩|⟨g,cap,cur,rfl,_,hg,hnc,_,hsz,htk⟩⟩:=h
 ·exact⟨hl,none,0,rfl,Nat.le_refl _,fun _=>⟨rfl,rfl⟩,fun a ha=>(by cases ha)⟩
 ·refine⟨hl,some ⟨g,0,none⟩,cap,rfl,hnc,fun ha=>(by cases ha),fun a ha j u hu=>?_⟩
  cases ha
  rw[Addr.add_lit,Nat.zero_add,cell_of_blk hg]
  rw[←htk,List.getElem?_take] at hu
  split at hu
  ·rw[←hu];simp
  ·cases hu
omit [Pan] in
def RdA (A:HA) (size:Nat) (v:Value) (n:Nat) (xs:List Value):Prop:=∀w,(∃h1,A h1∧∀(b:Nat) (o:Obj),h1 b=some o→w.heap[b]? =some o)→Rd w size v n xs
theorem RdA.own {e:TypeId} {size:Nat} {n:Nat} {xs:List Value}:RdA (own e size v n xs) size v n xs:=by
 intro w ⟨h1,hA,s⟩
 exact .of_own (own_row hA s)
theorem RdA.old {W:World} {size:Nat} {n:Nat} {xs:List Value} (h:Rd W size v n xs):RdA (old W) size v n xs:=by
 intro w ⟨h1,hA,s⟩
 obtain⟨hl,ao,cap,hv,hnc,hnil,hc⟩:=h
 refine⟨hl,ao,cap,hv,hnc,hnil,fun a ha j u hu=>?_⟩
 have:=hc a ha j u hu
 rw[←this]
 refine World.cell?_of_block ?_
 simp only[World.cell?] at this
 cases hb:W.heap[(a.add j).block]? with
 |none=>rw[hb] at this;cases this
 |some o=>exact s _ _ ((hA _).trans hb)
theorem Sat.rd {A:HA} {size:Nat} {n:Nat} {xs:List Value} (hS:Sat E w L) (i:Nat) (hi:L[i]? =some A) (h:RdA A size v n xs):Rd w size v n xs:=h w (hS.get i hi)
end
end
section
structure SlT (P:Program) (t e:TypeId) (z:Value) (size bytes:Nat):Prop where
 under:P.underlying t=some (.slice e)
 info:∃i,P.info? e=some i∧i.zero=some z∧i.size=size∧i.bytes=bytes
 zsize:z.cells.size=size
 pos:0<size
theorem SlT.sizeOf {P:Program} {t e:TypeId} {z:Value} {size bytes:Nat} (h:SlT P t e z size bytes) (w:World):(sizeOf e).run P w= .ok size w:=by
 obtain⟨i,hi,_,hs,_⟩:=h.info
 simp[Go.sizeOf,typeInfo,hi,hs]
section
variable [Pan] {P:Program} {E w w':World} {K:Value→World→Prop} {v:Value} {L:List HA} {t e:TypeId} {z:Value} {size bytes:Nat}
theorem pN_make (ht:SlT P t e z size bytes) {k k':IntKind} {n:Nat} (hb:bytes*n≤281474976710656) (h63:n≤9223372036854775807) (hS:Sat E w L)
  (h:∀v w',Sat E w' (own e size v n (madeCells z.cells (n*size)).toList::L)→K v w'):pN P (oMk t (.int k n) (.int k' n)) w K:=by
 obtain⟨i,hi,hz,hs,hby⟩:=ht.info
 have hr:=run_make (P:=P) w t e i z ht.under hi hz k k' n n (by omega) (Int.le_refl _) (by rw[hby];omega) (by omega)
 simp only[Int.toNat_natCast,hs] at hr
 rw[pN_def,oMk,run_oV_ok hr]
 refine h _ _ ?_
 refine(hS.alloc _).weaken fun h1 hA=>?_
 refine⟨by simp[size_madeCells],.inr ⟨_,n,_,rfl,hA,Nat.le_refl _,by unfold maxLen;omega,size_madeCells _ _,?_⟩⟩
 rw[List.take_of_length_le]
 simp[size_madeCells]
theorem pN_append (ht:SlT P t e z size bytes) {ty:TypeId} {cs:List Bool} {n m:Nat} {xs news:List Value} {src:Value} (hS:Sat E w (own e size v n xs::L)) (hr:Rd w size src m news) (h1:∀u∈news,u.oneCell'=true)
  (hb:(n+m)*bytes≤140737488355328) (h63:n+m≤9223372036854775807)
  (h:∀v' w',Sat E w' (own e size v' (n+m) (xs++news)::L)→K v' w'):pN P (oBi .append #[t,t] ty cs [v,src]) w K:=by
 obtain⟨i,hi,hz,hs,hby⟩:=ht.info
 obtain⟨hl,ao,cap,rfl,hmc,hnil,hc⟩:=hr
 have hown:=hS.own_at 0 rfl
 rw[pN_def]
 cases ao with
 |none=>
  obtain⟨rfl,rfl⟩:=hnil rfl
  have hrun:=run_append_owned_none (P:=P) w 0 t ty e i size ht.under hi v n xs hown
  have:news=[]:=List.length_eq_zero_iff.1 (by simpa using hl)
  subst this
  have e:(oBi .append #[t,t] ty cs [v,.slice none 0 0]).run P w= .ok (.value v) w:=run_oV_ok hrun
  rw[e]
  exact h _ _ (by simpa using hS)
 |some a=>
  obtain⟨v',w',hrun,hown',hgr,_,hblk⟩:=run_append_own_at (P:=P) w 0 t ty e i z size bytes ht.under hi hz hs hby ht.zsize ht.pos v n xs hown a m cap news hl (hc a rfl) h1 (by unfold maxLen;omega) hb (Nat.zero_le _)
  have e:(oBi .append #[t,t] ty cs [v,.slice (some a) m cap]).run P w= .ok (.value v') w':=run_oV_ok hrun
  rw[e]
  exact h _ _ (hS.grown hgr hown' hblk)
theorem pN_bs (ht:SlT P t e z size bytes) {n:Nat} {ps:List (Nat×Value)} {cells:Array Value} (hn:0<n) (hsz:n*size≤16777216) (hf:Instr.fill (fun i=>some (i*size,size)) (madeCells z.cells (n*size)) ps=some cells) (hc:cells.size=n*size) (hS:Sat E w L)
  (h:∀v w',Sat E w' (own e size v n cells.toList::L)→K v w'):pN P (oBs t n ps) w K:=by
 obtain⟨i,hi,hz,hs,hby⟩:=ht.info
 have hpos:=ht.pos
 have h0:¬n*size=0:=by
  have:=Nat.mul_pos hn hpos
  omega
 have hle:¬16777216<n*size:=by omega
 have hr:(oBs t n ps).run P w= .ok (.value (.slice (some ⟨w.heap.size,0,none⟩) n n)) (w.alloc (.cells cells e)):=by
  refine run_oV_ok ?_
  simp only[madeCells] at hf
  simp[Instr.buildSlice,run_underlying ht.under,Go.sizeOf,typeInfo,hi,hs,hle,h0,zeroValue,hz,hf,newRow]
 rw[pN_def,hr]
 refine h _ _ ?_
 refine(hS.alloc _).weaken fun h1 hA=>?_
 have hm:n≤maxLen:=by
  have:n*1≤n*size:=Nat.mul_le_mul_left n hpos
  unfold maxLen;omega
 exact⟨by simpa using hc,.inr ⟨_,n,cells,rfl,hA,Nat.le_refl _,hm,hc,by rw[List.take_of_length_le];simp[hc]⟩⟩
theorem pN_bs0 (ht:SlT P t e z size bytes) (hS:Sat E w L)
  (h:∀v w',Sat E w' (own e size v 0 []::L)→K v w'):pN P (oBs t 0 []) w K:=by
 obtain⟨i,hi,hz,hs,hby⟩:=ht.info
 have hr:(oBs t 0 []).run P w= .ok (.value (.slice (some ⟨w.heap.size,0,none⟩) 0 0)) (w.alloc (.cells #[] e)):=by
  refine run_oV_ok ?_
  simp[Instr.buildSlice,run_underlying ht.under,Go.sizeOf,typeInfo,hi,Instr.fill,newRow,Array.range_zero']
 rw[pN_def,hr]
 refine h _ _ ?_
 refine(hS.alloc _).weaken fun h1 hA=>?_
 exact⟨by simp,.inr ⟨_,0,#[],rfl,hA,Nat.le_refl _,by unfold maxLen;omega,by simp,by simp⟩⟩
theorem pN_box {b:TypeId} {u:Value} (hS:Sat E w L) (h:∀a w',Sat E w' (blk a (.cells u.cells b (0,0))::L)→K (.pointer (some ⟨a,0,none⟩)) w'):pN P (oBox b u) w K:=by
 have hr:(oBox b u).run P w= .ok (.value (.pointer (some ⟨w.heap.size,0,none⟩))) (w.alloc (.cells u.cells b)):=by
  refine run_oV_ok ?_
  simp[Instr.box,newVar,newRow]
 rw[pN_def,hr]
 exact h _ _ (hS.alloc _)
theorem pN_alloc {b:TypeId} {u:Value} (hz:∀w,(zeroValue b).run P w= .ok u w) (hS:Sat E w L) (h:∀a w',Sat E w' (blk a (.cells u.cells b (0,0))::L)→K (.pointer (some ⟨a,0,none⟩)) w'):pN P (oAlloc b) w K:=by
 have hr:(oAlloc b).run P w= .ok (.value (.pointer (some ⟨w.heap.size,0,none⟩))) (w.alloc (.cells u.cells b)):=by
  refine run_oV_ok ?_
  simp[Instr.alloc,hz,newVar,newRow]
 rw[pN_def,hr]
 exact h _ _ (hS.alloc _)
omit [Pan] in
def bv (b:UInt8):Value:= .int .u8 (b.toNat:Int)
omit [Pan] in
def bvs (l:List UInt8):List Value:=l.map bv
theorem bvs_length (l:List UInt8):(bvs l).length=l.length:=by simp[bvs]
theorem run_str {s d e:TypeId} (hs:P.underlying s=some (.slice e)) (he:P.underlying e=some (.int .u8)) (hd:P.underlying d=some .string) {l:List UInt8} (hr:Rd w 1 v l.length (bvs l)):
  (oConv s d v).run P w= .ok (.value (.string ⟨l.toArray⟩)) w:=by
 obtain⟨hl,ao,cap,rfl,hmc,hnil,hc⟩:=hr
 have hfold:∀(l:List UInt8) (r:ByteArray),(l.map fun b=>(b.toNat:Int)).foldl (fun r n=>r.push (UInt8.ofNat n.toNat)) r=⟨r.data++l.toArray⟩:=by
  intro l
  induction l with
  |nil=>intro r;simp
  |cons b l ih=>
   intro r
   simp only[List.map_cons,List.foldl_cons,ih]
   congr 1
   simp[ByteArray.push]
 refine run_oV_ok ?_
 cases ao with
 |none=>
  have:=(hnil rfl).1
  have:l=[]:=List.length_eq_zero_iff.1 this
  subst this
  simp[convert,run_underlying hs,run_underlying he,run_underlying hd,Conv.bytesToString]
  rfl
 |some a=>
  have hcells:(loadCells a l.length).run P w= .ok ((l.map fun b=>(b.toNat:Int)).map (Value.int .u8)).toArray w:=by
   have:=run_loadCells_list (P:=P) w a (bvs l) (fun j u hu=>hc a rfl j u hu)
   rw[bvs_length] at this
   rw[this]
   simp[bvs,bv,Function.comp_def]
  have:=run_bytesToString (P:=P) w a l.length cap _ hcells
  simp only[convert,Sem.run_bind,run_underlying hs,run_underlying he,run_underlying hd,Result.andThen_ok]
  rw[this,hfold]
  simp[ByteArray.empty,ByteArray.emptyWithCapacity]
  rfl
end
end
section
section
variable [Pan] {P:Program} {w:World} {K:Value→World→Prop} {J:Value→Prop}
theorem pN_mv (x:Value):pN P (oMv x) w K=K (x) w:=by rw[pN_def,run_oMv x,rN_value]
theorem pA_mv (x:Value):pA P (oMv x) J=J (x):=by
 rw[pA_def,show(fun w=>(oMv x).run P w)=fun w=> .ok (.value (x)) w from funext fun w=>run_oMv x,rA_value]
theorem pN_add (t:TypeId) (xo yo:Operand) (k:IntKind) (a b:Int):pN P (oBin .add t xo yo (.int k a) (.int k b)) w K=K (.int k (k.wrap (a+b))) w:=by rw[pN_def,run_add t xo yo k a b,rN_value]
theorem pA_add (t:TypeId) (xo yo:Operand) (k:IntKind) (a b:Int):pA P (oBin .add t xo yo (.int k a) (.int k b)) J=J (.int k (k.wrap (a+b))):=by
 rw[pA_def,show(fun w=>(oBin .add t xo yo (.int k a) (.int k b)).run P w)=fun w=> .ok (.value (.int k (k.wrap (a+b)))) w from funext fun w=>run_add t xo yo k a b,rA_value]
theorem pN_sub (t:TypeId) (xo yo:Operand) (k:IntKind) (a b:Int):pN P (oBin .sub t xo yo (.int k a) (.int k b)) w K=K (.int k (k.wrap (a-b))) w:=by rw[pN_def,run_sub t xo yo k a b,rN_value]
theorem pA_sub (t:TypeId) (xo yo:Operand) (k:IntKind) (a b:Int):pA P (oBin .sub t xo yo (.int k a) (.int k b)) J=J (.int k (k.wrap (a-b))):=by
 rw[pA_def,show(fun w=>(oBin .sub t xo yo (.int k a) (.int k b)).run P w)=fun w=> .ok (.value (.int k (k.wrap (a-b)))) w from funext fun w=>run_sub t xo yo k a b,rA_value]
theorem pN_mul (t:TypeId) (xo yo:Operand) (k:IntKind) (a b:Int):pN P (oBin .mul t xo yo (.int k a) (.int k b)) w K=K (.int k (k.wrap (a*b))) w:=by rw[pN_def,run_mul t xo yo k a b,rN_value]
theorem pA_mul (t:TypeId) (xo yo:Operand) (k:IntKind) (a b:Int):pA P (oBin .mul t xo yo (.int k a) (.int k b)) J=J (.int k (k.wrap (a*b))):=by
 rw[pA_def,show(fun w=>(oBin .mul t xo yo (.int k a) (.int k b)).run P w)=fun w=> .ok (.value (.int k (k.wrap (a*b)))) w from funext fun w=>run_mul t xo yo k a b,rA_value]
theorem pN_quo (t:TypeId) (xo yo:Operand) (k:IntKind) (a b:Int) (h:b≠0):pN P (oBin .quo t xo yo (.int k a) (.int k b)) w K=K (.int k (k.wrap (a.tdiv b))) w:=by rw[pN_def,run_quo t xo yo k a b h,rN_value]
theorem pA_quo (t:TypeId) (xo yo:Operand) (k:IntKind) (a b:Int) (h:b≠0):pA P (oBin .quo t xo yo (.int k a) (.int k b)) J=J (.int k (k.wrap (a.tdiv b))):=by
 rw[pA_def,show(fun w=>(oBin .quo t xo yo (.int k a) (.int k b)).run P w)=fun w=> .ok (.value (.int k (k.wrap (a.tdiv b)))) w from funext fun w=>run_quo t xo yo k a b h,rA_value]
theorem pN_rem (t:TypeId) (xo yo:Operand) (k:IntKind) (a b:Int) (h:b≠0):pN P (oBin .rem t xo yo (.int k a) (.int k b)) w K=K (.int k (a.tmod b)) w:=by rw[pN_def,run_rem t xo yo k a b h,rN_value]
theorem pA_rem (t:TypeId) (xo yo:Operand) (k:IntKind) (a b:Int) (h:b≠0):pA P (oBin .rem t xo yo (.int k a) (.int k b)) J=J (.int k (a.tmod b)):=by
 rw[pA_def,show(fun w=>(oBin .rem t xo yo (.int k a) (.int k b)).run P w)=fun w=> .ok (.value (.int k (a.tmod b))) w from funext fun w=>run_rem t xo yo k a b h,rA_value]
theorem pN_and (t:TypeId) (xo yo:Operand) (k:IntKind) (a b:Int):pN P (oBin .and t xo yo (.int k a) (.int k b)) w K=K (.int k (k.wrap (BitVec.ofInt k.bits a&&& BitVec.ofInt k.bits b).toNat)) w:=by rw[pN_def,run_and t xo yo k a b,rN_value]
theorem pN_eql (t:TypeId) (xo yo:Operand) (k:IntKind) (a b:Int):pN P (oBin .eql t xo yo (.int k a) (.int k b)) w K=K (.bool (a==b)) w:=by rw[pN_def,run_eql t xo yo k a b,rN_value]
theorem pA_eql (t:TypeId) (xo yo:Operand) (k:IntKind) (a b:Int):pA P (oBin .eql t xo yo (.int k a) (.int k b)) J=J (.bool (a==b)):=by
 rw[pA_def,show(fun w=>(oBin .eql t xo yo (.int k a) (.int k b)).run P w)=fun w=> .ok (.value (.bool (a==b))) w from funext fun w=>run_eql t xo yo k a b,rA_value]
theorem pN_neq (t:TypeId) (xo yo:Operand) (k:IntKind) (a b:Int):pN P (oBin .neq t xo yo (.int k a) (.int k b)) w K=K (.bool (a != b)) w:=by rw[pN_def,run_neq t xo yo k a b,rN_value]
theorem pA_neq (t:TypeId) (xo yo:Operand) (k:IntKind) (a b:Int):pA P (oBin .neq t xo yo (.int k a) (.int k b)) J=J (.bool (a != b)):=by
 rw[pA_def,show(fun w=>(oBin .neq t xo yo (.int k a) (.int k b)).run P w)=fun w=> .ok (.value (.bool (a != b))) w from funext fun w=>run_neq t xo yo k a b,rA_value]
theorem pN_lss (t:TypeId) (xo yo:Operand) (k:IntKind) (a b:Int):pN P (oBin .lss t xo yo (.int k a) (.int k b)) w K=K (.bool (decide (a<b))) w:=by rw[pN_def,run_lss t xo yo k a b,rN_value]
theorem pA_lss (t:TypeId) (xo yo:Operand) (k:IntKind) (a b:Int):pA P (oBin .lss t xo yo (.int k a) (.int k b)) J=J (.bool (decide (a<b))):=by
 rw[pA_def,show(fun w=>(oBin .lss t xo yo (.int k a) (.int k b)).run P w)=fun w=> .ok (.value (.bool (decide (a<b)))) w from funext fun w=>run_lss t xo yo k a b,rA_value]
theorem pN_leq (t:TypeId) (xo yo:Operand) (k:IntKind) (a b:Int):pN P (oBin .leq t xo yo (.int k a) (.int k b)) w K=K (.bool (decide (a≤b))) w:=by rw[pN_def,run_leq t xo yo k a b,rN_value]
theorem pA_leq (t:TypeId) (xo yo:Operand) (k:IntKind) (a b:Int):pA P (oBin .leq t xo yo (.int k a) (.int k b)) J=J (.bool (decide (a≤b))):=by
 rw[pA_def,show(fun w=>(oBin .leq t xo yo (.int k a) (.int k b)).run P w)=fun w=> .ok (.value (.bool (decide (a≤b)))) w from funext fun w=>run_leq t xo yo k a b,rA_value]
theorem pN_gtr (t:TypeId) (xo yo:Operand) (k:IntKind) (a b:Int):pN P (oBin .gtr t xo yo (.int k a) (.int k b)) w K=K (.bool (decide (b<a))) w:=by rw[pN_def,run_gtr t xo yo k a b,rN_value]
theorem pA_gtr (t:TypeId) (xo yo:Operand) (k:IntKind) (a b:Int):pA P (oBin .gtr t xo yo (.int k a) (.int k b)) J=J (.bool (decide (b<a))):=by
 rw[pA_def,show(fun w=>(oBin .gtr t xo yo (.int k a) (.int k b)).run P w)=fun w=> .ok (.value (.bool (decide (b<a)))) w from funext fun w=>run_gtr t xo yo k a b,rA_value]
theorem pN_geq (t:TypeId) (xo yo:Operand) (k:IntKind) (a b:Int):pN P (oBin .geq t xo yo (.int k a) (.int k b)) w K=K (.bool (decide (b≤a))) w:=by rw[pN_def,run_geq t xo yo k a b,rN_value]
theorem pA_geq (t:TypeId) (xo yo:Operand) (k:IntKind) (a b:Int):pA P (oBin .geq t xo yo (.int k a) (.int k b)) J=J (.bool (decide (b≤a))):=by
 rw[pA_def,show(fun w=>(oBin .geq t xo yo (.int k a) (.int k b)).run P w)=fun w=> .ok (.value (.bool (decide (b≤a)))) w from funext fun w=>run_geq t xo yo k a b,rA_value]
theorem pN_shl (t:TypeId) (xo yo:Operand) (k k':IntKind) (a b:Int) (h:0≤b):pN P (oBin .shl t xo yo (.int k a) (.int k' b)) w K=K (.int k (k.wrap (a*2^(min b.toNat k.bits)))) w:=by rw[pN_def,run_shl t xo yo k a b k' h,rN_value]
theorem pN_shr (t:TypeId) (xo yo:Operand) (k k':IntKind) (a b:Int) (h:0≤b):pN P (oBin .shr t xo yo (.int k a) (.int k' b)) w K=K (.int k (a.fdiv (2^(min b.toNat k.bits)))) w:=by rw[pN_def,run_shr t xo yo k a b k' h,rN_value]
theorem pN_neq_bool (t:TypeId) (xo yo:Operand) (p q:Bool) (h:P.underlying t=some .bool):pN P (oBin .neq t xo yo (.bool p) (.bool q)) w K=K (.bool (p != q)) w:=by rw[pN_def,run_neq_bool t xo yo p q h,rN_value]
theorem pA_neq_bool (t:TypeId) (xo yo:Operand) (p q:Bool) (h:P.underlying t=some .bool):pA P (oBin .neq t xo yo (.bool p) (.bool q)) J=J (.bool (p != q)):=by
 rw[pA_def,show(fun w=>(oBin .neq t xo yo (.bool p) (.bool q)).run P w)=fun w=> .ok (.value (.bool (p != q))) w from funext fun w=>run_neq_bool t xo yo p q h,rA_value]
theorem pN_eql_str (t:TypeId) (xo yo:Operand) (p q:ByteArray):pN P (oBin .eql t xo yo (.string p) (.string q)) w K=K (.bool (p.toList==q.toList)) w:=by rw[pN_def,run_eql_str t xo yo p q,rN_value]
theorem pA_eql_str (t:TypeId) (xo yo:Operand) (p q:ByteArray):pA P (oBin .eql t xo yo (.string p) (.string q)) J=J (.bool (p.toList==q.toList)):=by
 rw[pA_def,show(fun w=>(oBin .eql t xo yo (.string p) (.string q)).run P w)=fun w=> .ok (.value (.bool (p.toList==q.toList))) w from funext fun w=>run_eql_str t xo yo p q,rA_value]
theorem pN_neq_str (t:TypeId) (xo yo:Operand) (p q:ByteArray):pN P (oBin .neq t xo yo (.string p) (.string q)) w K=K (.bool (!(p.toList==q.toList))) w:=by rw[pN_def,run_neq_str t xo yo p q,rN_value]
theorem pA_neq_str (t:TypeId) (xo yo:Operand) (p q:ByteArray):pA P (oBin .neq t xo yo (.string p) (.string q)) J=J (.bool (!(p.toList==q.toList))):=by
 rw[pA_def,show(fun w=>(oBin .neq t xo yo (.string p) (.string q)).run P w)=fun w=> .ok (.value (.bool (!(p.toList==q.toList)))) w from funext fun w=>run_neq_str t xo yo p q,rA_value]
theorem pN_eql_ptr (t:TypeId) (xo yo:Operand) (p:Option Addr) {e:TypeId} (h:P.underlying t=some (.pointer e)):pN P (oBin .eql t xo yo (.pointer p) (.pointer none)) w K=K (.bool p.isNone) w:=by rw[pN_def,run_eql_ptr_nil t xo yo p h,rN_value]
theorem pN_not (p:Bool):pN P (oUn .not (.bool p)) w K=K (.bool !p) w:=by rw[pN_def,run_not p,rN_value]
theorem pA_not (p:Bool):pA P (oUn .not (.bool p)) J=J (.bool !p):=by
 rw[pA_def,show(fun w=>(oUn .not (.bool p)).run P w)=fun w=> .ok (.value (.bool !p)) w from funext fun w=>run_not p,rA_value]
theorem run_pickb (p:Bool) (x y:Value) (w:World):(oPick (.bool p) x y).run P w= .ok (.value (bif p then x else y)) w:=by cases p<;>rfl
theorem pN_pick (p:Bool) (x y:Value):pN P (oPick (.bool p) x y) w K=K (bif p then x else y) w:=by rw[pN_def,run_pickb p x y w,rN_value]
theorem pA_pick (p:Bool) (x y:Value):pA P (oPick (.bool p) x y) J=J (bif p then x else y):=by
 rw[pA_def,show(fun w=>(oPick (.bool p) x y).run P w)=fun w=> .ok (.value (bif p then x else y)) w from funext fun w=>run_pickb p x y w,rA_value]
theorem pN_ext2_0 (x y:Value):pN P (oExt (.tuple #[x,y]) 0) w K=K (x) w:=by rw[pN_def,run_ext2_0 x y,rN_value]
theorem pA_ext2_0 (x y:Value):pA P (oExt (.tuple #[x,y]) 0) J=J (x):=by
 rw[pA_def,show(fun w=>(oExt (.tuple #[x,y]) 0).run P w)=fun w=> .ok (.value (x)) w from funext fun w=>run_ext2_0 x y,rA_value]
theorem pN_ext2_1 (x y:Value):pN P (oExt (.tuple #[x,y]) 1) w K=K (y) w:=by rw[pN_def,run_ext2_1 x y,rN_value]
theorem pA_ext2_1 (x y:Value):pA P (oExt (.tuple #[x,y]) 1) J=J (y):=by
 rw[pA_def,show(fun w=>(oExt (.tuple #[x,y]) 1).run P w)=fun w=> .ok (.value (y)) w from funext fun w=>run_ext2_1 x y,rA_value]
theorem pN_ext3_0 (x y z:Value):pN P (oExt (.tuple #[x,y,z]) 0) w K=K (x) w:=by rw[pN_def,run_ext3_0 x y z,rN_value]
theorem pN_ext3_1 (x y z:Value):pN P (oExt (.tuple #[x,y,z]) 1) w K=K (y) w:=by rw[pN_def,run_ext3_1 x y z,rN_value]
theorem pN_ext3_2 (x y z:Value):pN P (oExt (.tuple #[x,y,z]) 2) w K=K (z) w:=by rw[pN_def,run_ext3_2 x y z,rN_value]
theorem pN_nil (ad:Addr):pN P (oNil (.pointer (some ad))) w K=K (.pointer (some ad)) w:=by rw[pN_def,run_nil ad,rN_value]
theorem pA_nil (ad:Addr):pA P (oNil (.pointer (some ad))) J=J (.pointer (some ad)):=by
 rw[pA_def,show(fun w=>(oNil (.pointer (some ad))).run P w)=fun w=> .ok (.value (.pointer (some ad))) w from funext fun w=>run_nil ad,rA_value]
theorem pN_conv {s d:TypeId} {ks kd:IntKind} (k:IntKind) (n:Int) (hs:P.underlying s=some (.int ks)) (hd:P.underlying d=some (.int kd)):pN P (oConv s d (.int k n)) w K=K (.int kd (kd.wrap n)) w:=by rw[pN_def,run_conv_int k hs hd n,rN_value]
theorem pL_conv {s d:TypeId} {ks kd:IntKind} (k:IntKind) (n:Int) (hs:P.underlying s=some (.int ks)) (hd:P.underlying d=some (.int kd)):pL P (oConv s d (.int k n)) w J=J (.int kd (kd.wrap n)):=by rw[pL_def,run_conv_int k hs hd n,rL_value]
theorem pN_len {e:TypeId} (t ty:TypeId) (ao:Option Addr) (n c:Nat) (cs:List Bool) (h:P.underlying t=some (.slice e)):pN P (oBi .len #[t] ty cs [.slice ao n c]) w K=K (.int .i64 n) w:=by rw[pN_def,run_len_slice t h ao n c cs,rN_value]
theorem pA_len {e:TypeId} (t ty:TypeId) (ao:Option Addr) (n c:Nat) (cs:List Bool) (h:P.underlying t=some (.slice e)):pA P (oBi .len #[t] ty cs [.slice ao n c]) J=J (.int .i64 n):=by
 rw[pA_def,show(fun w=>(oBi .len #[t] ty cs [.slice ao n c]).run P w)=fun w=> .ok (.value (.int .i64 n)) w from funext fun w=>run_len_slice t h ao n c cs,rA_value]
theorem pick_and (p q:Bool):(bif p then Value.bool q else Value.bool false)= .bool (p&&q):=by cases p<;>rfl
theorem tmod_pos {a b:Int} (h:0≤a):a.tmod b=a%b:=Int.tmod_eq_emod_of_nonneg h
theorem tdiv_pos {a b:Int} (h:0≤a):a.tdiv b=a / b:=Int.tdiv_eq_ediv_of_nonneg h
theorem pN_callQ {f:FuncId} {args:List Value} (hc:∀(args:Array Value) (w:World),(callFunc f args).run P w= .ok (.enter f args) w) (h:Calls P f args.toArray w (retP K)):pN P (oCall f args) w K:=by
 rw[pN_def,oCall,hc,rN_enter]
 exact h
theorem wrap_i64 {n:Int} (h: -9223372036854775808≤n∧n<9223372036854775808):IntKind.i64.wrap n=n:=by rw[IntKind.wrap_i64];omega
theorem wrap_u8 (n:Int):IntKind.u8.wrap n=n%256:=by simp[IntKind.wrap,IntKind.bits,IntKind.signed]
theorem wrap_u32 (n:Int):IntKind.u32.wrap n=n%4294967296:=by simp[IntKind.wrap,IntKind.bits,IntKind.signed]
theorem wrap_u64 (n:Int):IntKind.u64.wrap n=n%18446744073709551616:=by simp[IntKind.wrap,IntKind.bits,IntKind.signed]
end
attribute [go_sem] pN_mv pA_mv pN_add pA_add pN_sub pA_sub pN_mul pA_mul pN_quo pA_quo pN_rem pA_rem pN_eql pA_eql pN_neq pA_neq pN_lss pA_lss pN_leq pA_leq pN_gtr pA_gtr pN_geq pA_geq pN_not pA_not pN_pick pA_pick pN_ext2_0 pA_ext2_0 pN_ext2_1 pA_ext2_1 pN_ext3_0 pN_ext3_1 pN_ext3_2 pN_nil pA_nil pick_and tmod_pos tdiv_pos cond_true cond_false wrap_i64 Bool.not_true Bool.not_false pDr_def Nat.zero_add Int.toNat_natCast Bool.true_or Bool.false_or Bool.true_and Bool.false_and Bool.or_false Bool.or_true Bool.and_true Bool.and_false beq_self_eq_true Bool.not_true Bool.not_false
end
section
section
variable [Pan] {P:Program} {E w w':World} {K:Value→World→Prop} {J:Value→Prop} {L:List HA} {A:HA}
theorem bv_wadd (a b:UInt8):IntKind.u8.wrap ((a.toNat:Int)+(b.toNat:Int))=((a+b).toNat:Int):=by
 rw[wrap_u8,UInt8.toNat_add];omega
theorem bv_wsub (a b:UInt8):IntKind.u8.wrap ((a.toNat:Int)-(b.toNat:Int))=((a-b).toNat:Int):=by
 rw[wrap_u8,UInt8.toNat_sub]
 have:=a.toNat_lt
 have:=b.toNat_lt
 omega
theorem pN_add_bv (t:TypeId) (xo yo:Operand) (a b:UInt8):pN P (oBin .add t xo yo (bv a) (bv b)) w K=K (bv (a+b)) w:=by
 unfold bv;rw[pN_add,bv_wadd]
theorem pN_sub_bv (t:TypeId) (xo yo:Operand) (a b:UInt8):pN P (oBin .sub t xo yo (bv a) (bv b)) w K=K (bv (a-b)) w:=by
 unfold bv;rw[pN_sub,bv_wsub]
theorem bv_beq (a b:UInt8):((a.toNat:Int)==(b.toNat:Int))=(a==b):=by
 rw[Bool.eq_iff_iff,beq_iff_eq,beq_iff_eq]
 constructor
 ·intro h;exact UInt8.toNat_inj.1 (by omega)
 ·intro h;rw[h]
theorem pN_eql_bv (t:TypeId) (xo yo:Operand) (a b:UInt8):pN P (oBin .eql t xo yo (bv a) (bv b)) w K=K (.bool (a==b)) w:=by
 unfold bv;rw[pN_eql];simp only[bv_beq]
attribute [go_sem] pN_add_bv pN_sub_bv pN_eql_bv
theorem run_aidx {t e:TypeId} {n:Nat} (ht:P.underlying t=some (.array n e)) (hs:∀w,(sizeOf e).run P w= .ok 1 w) (b o:Nat) (k:IntKind) (i:Int) (h0:0≤i) (h1:i<n) (w:World):
  (oIdx t (.pointer (some ⟨b,o,none⟩)) (.int k i)).run P w= .ok (.value (.pointer (some ⟨b,o+i.toNat,none⟩))) w:=by
 refine run_oV_ok ?_
 simp[Instr.indexAt,run_underlying ht,asIntOf,hs,h0,h1,Instr.sureAddr,Addr.add_lit]
theorem Sat.opn {α:Type} {p:α→Prop} {B:α→HA} (hs:Sat E w (A::L)) (h:∀hp,A hp→∃x,p x∧B x hp):∃x,p x∧Sat E w (B x::L):=by
 obtain⟨h1,hA,s,hr⟩:=hs.sats
 obtain⟨x,hx,hB⟩:=h h1 hA
 exact⟨x,hx,hs.os,hs.tape,hs.output,h1,hB,s,hr⟩
theorem str_list (l:List UInt8):(ByteArray.mk l.toArray).toList=l:=by rw[ByteArray.toList_eq]
theorem pN_eql_l (t:TypeId) (xo yo:Operand) (l m:List UInt8):pN P (oBin .eql t xo yo (.string ⟨l.toArray⟩) (.string ⟨m.toArray⟩)) w K=K (.bool (l==m)) w:=by
 rw[pN_eql_str,str_list,str_list]
theorem pN_neq_l (t:TypeId) (xo yo:Operand) (l m:List UInt8):pN P (oBin .neq t xo yo (.string ⟨l.toArray⟩) (.string ⟨m.toArray⟩)) w K=K (.bool (!(l==m))) w:=by
 rw[pN_neq_str,str_list,str_list]
theorem pA_eql_l (t:TypeId) (xo yo:Operand) (l m:List UInt8):pA P (oBin .eql t xo yo (.string ⟨l.toArray⟩) (.string ⟨m.toArray⟩)) J=J (.bool (l==m)):=by
 rw[pA_eql_str,str_list,str_list]
theorem pA_neq_l (t:TypeId) (xo yo:Operand) (l m:List UInt8):pA P (oBin .neq t xo yo (.string ⟨l.toArray⟩) (.string ⟨m.toArray⟩)) J=J (.bool (!(l==m))):=by
 rw[pA_neq_str,str_list,str_list]
attribute [go_sem] pN_eql_l pN_neq_l pA_eql_l pA_neq_l
theorem bvs_set (l:List UInt8) (i:Nat) (v:UInt8):(bvs l).set i (bv v)=bvs (l.set i v):=by simp[bvs,List.map_set]
end
end
section
section
variable [Pan] {P:Program} {E w w':World} {K:Value→World→Prop} {J:Value→Prop} {L:List HA} {A:HA} {t e:TypeId} {z v:Value} {size bytes n:Nat} {xs:List Value}
omit [Pan] in
def subV (v:Value) (l h size:Nat):Value:=
 match v with
 | .slice a _ c=>sliced a l h c size
 |v=>v
theorem Rd.sub (hr:Rd w size v n xs) (l h:Nat) (hl:l≤h) (hn:h≤n):Rd w size (subV v l h size) (h-l) ((xs.drop (l*size)).take ((h-l)*size)):=by
 obtain⟨hx,ao,cap,rfl,hc,hnil,hcell⟩:=hr
 have h1:l*size+(h-l)*size=h*size:=by rw[←Nat.add_mul];congr 1;omega
 have h2:h*size≤n*size:=Nat.mul_le_mul_right _ hn
 refine⟨by simp only[List.length_take,List.length_drop];omega,_,_,rfl,by omega,?_,?_⟩
 ·intro h0
  have:ao=none:=by
   split at h0
   ·exact h0
   ·simpa using h0
  obtain⟨rfl,rfl⟩:=hnil this
  omega
 ·intro a ha j u hu
  by_cases hcl:cap=l
  ·have:h-l=0:=by omega
   simp[this] at hu
  ·rw[if_neg hcl] at ha
   cases ao with
   |none=>cases ha
   |some b=>
    simp only[Option.map_some,Option.some.injEq] at ha
    subst ha
    rw[List.getElem?_take] at hu
    split at hu
    ·rw[List.getElem?_drop] at hu
     have:=hcell b rfl _ _ hu
     rw[←this]
     congr 1
     simp only[Addr.add]
     by_cases e1:l*size=0
     ·by_cases e2:j=0<;>simp[e1,e2]
     ·by_cases e2:j=0<;>simp[e1,e2,Nat.add_assoc]
    ·cases hu
theorem SlT.elem (ht:SlT P t e z size bytes):P.elem t=e:=by
 simp[Program.elem,ht.under]
theorem SlT.under' (ht:SlT P t e z size bytes):P.underlying t=some (.slice (P.elem t)):=by rw[ht.elem];exact ht.under
theorem run_sl (ht:SlT P t e z size bytes) (hr:Rd w size v n xs) (k k':IntKind) (a b:Nat) (h1:a≤b) (h2:b≤n) (w':World):
  (oSl t v (some (.int k a)) (some (.int k' b)) none).run P w'= .ok (.value (subV v a b size)) w':=by
 obtain⟨hx,ao,cap,rfl,hc,hnil,hcell⟩:=hr
 refine run_oV_ok ?_
 rw[run_sliceAt_slice w' t _ _ _ _ ht.under',run_slice_lh w' t ao n cap ht.under' k k' a b (by omega) (by omega) (by omega),ht.elem,ht.sizeOf]
 rfl
theorem run_sl_l (ht:SlT P t e z size bytes) (hr:Rd w size v n xs) (k:IntKind) (a:Nat) (h1:a≤n) (w':World):
  (oSl t v (some (.int k a)) none none).run P w'= .ok (.value (subV v a n size)) w':=by
 obtain⟨hx,ao,cap,rfl,hc,hnil,hcell⟩:=hr
 refine run_oV_ok ?_
 rw[run_sliceAt_slice w' t _ _ _ _ ht.under',run_slice_l w' t ao n cap ht.under' k a (by omega) (by omega),ht.elem,ht.sizeOf]
 rfl
theorem run_sl_h (ht:SlT P t e z size bytes) (hr:Rd w size v n xs) (k:IntKind) (b:Nat) (h1:b≤n) (w':World):
  (oSl t v none (some (.int k b)) none).run P w'= .ok (.value (subV v 0 b size)) w':=by
 obtain⟨hx,ao,cap,rfl,hc,hnil,hcell⟩:=hr
 refine run_oV_ok ?_
 rw[run_sliceAt_slice w' t _ _ _ _ ht.under',run_slice_h w' t ao n cap ht.under' k b (by omega) (by omega),ht.elem,ht.sizeOf]
 rfl
theorem pN_sl (ht:SlT P t e z size bytes) (hr:Rd w' size v n xs) {k k':IntKind} {i j:Int} (h0:0≤i) (h1:i≤j) (h2:j≤n) (h:K (subV v i.toNat j.toNat size) w):pN P (oSl t v (some (.int k i)) (some (.int k' j)) none) w K:=by
 obtain⟨a,rfl⟩:∃a:Nat,i=a:=⟨i.toNat,by omega⟩
 obtain⟨b,rfl⟩:∃b:Nat,j=b:=⟨j.toNat,by omega⟩
 rw[pN_def,run_sl ht hr k k' a b (by omega) (by omega)]
 exact h
theorem pN_sl_l (ht:SlT P t e z size bytes) (hr:Rd w' size v n xs) {k:IntKind} {i:Int} (h0:0≤i) (h1:i≤n) (h:K (subV v i.toNat n size) w):pN P (oSl t v (some (.int k i)) none none) w K:=by
 obtain⟨a,rfl⟩:∃a:Nat,i=a:=⟨i.toNat,by omega⟩
 rw[pN_def,run_sl_l ht hr k a (by omega)]
 exact h
theorem pN_sl_h (ht:SlT P t e z size bytes) (hr:Rd w' size v n xs) {k:IntKind} {i:Int} (h0:0≤i) (h1:i≤n) (h:K (subV v 0 i.toNat size) w):pN P (oSl t v none (some (.int k i)) none) w K:=by
 obtain⟨a,rfl⟩:∃a:Nat,i=a:=⟨i.toNat,by omega⟩
 rw[pN_def,run_sl_h ht hr k a (by omega)]
 exact h
theorem pA_sl (ht:SlT P t e z size bytes) (hr:Rd w' size v n xs) {k k':IntKind} {i j:Int} (h0:0≤i) (h1:i≤j) (h2:j≤n) (h:J (subV v i.toNat j.toNat size)):pA P (oSl t v (some (.int k i)) (some (.int k' j)) none) J:=by
 obtain⟨a,rfl⟩:∃a:Nat,i=a:=⟨i.toNat,by omega⟩
 obtain⟨b,rfl⟩:∃b:Nat,j=b:=⟨j.toNat,by omega⟩
 exact⟨_,fun w=>run_sl ht hr k k' a b (by omega) (by omega) w,h⟩
theorem pA_sl_l (ht:SlT P t e z size bytes) (hr:Rd w' size v n xs) {k:IntKind} {i:Int} (h0:0≤i) (h1:i≤n) (h:J (subV v i.toNat n size)):pA P (oSl t v (some (.int k i)) none none) J:=by
 obtain⟨a,rfl⟩:∃a:Nat,i=a:=⟨i.toNat,by omega⟩
 exact⟨_,fun w=>run_sl_l ht hr k a (by omega) w,h⟩
theorem pA_sl_h (ht:SlT P t e z size bytes) (hr:Rd w' size v n xs) {k:IntKind} {i:Int} (h0:0≤i) (h1:i≤n) (h:J (subV v 0 i.toNat size)):pA P (oSl t v none (some (.int k i)) none) J:=by
 obtain⟨a,rfl⟩:∃a:Nat,i=a:=⟨i.toNat,by omega⟩
 exact⟨_,fun w=>run_sl_h ht hr k a (by omega) w,h⟩
theorem Sat.nil (hs:Sat E w L) (e:TypeId) (size:Nat):Sat E w (own e size (.slice none 0 0) 0 []::L):=by
 exact⟨hs.os,hs.tape,hs.output,fun _=>none,⟨by simp,.inl ⟨rfl,rfl⟩⟩,fun _ _ e=>(by cases e),hs.sats⟩
end
end
section
section
variable [Pan] {P:Program} {E w w':World} {K:Value→World→Prop} {J:Value→Prop} {L:List HA} {A:HA} {t e:TypeId} {z v:Value} {size bytes n:Nat} {xs:List Value} {k:IntKind}
theorem cells_of_blk {b o:Nat} {cs:Array Value} {fz:Nat×Nat} (hb:w.heap[b]? =some (.cells cs e fz)) (m:Nat):∀(j:Nat) (u:Value),((cs.toList.drop o).take m)[j]? =some u→w.cell? ((⟨b,o,none⟩:Addr).add j)=some u:=by
 intro j u hu
 rw[Addr.add_lit,cell_of_blk hb]
 rw[List.getElem?_take] at hu
 split at hu
 ·rw[List.getElem?_drop] at hu
  simpa using hu
 ·cases hu
theorem pN_ld_all {t:TypeId} {b m:Nat} {cs:Array Value} {fz:Nat×Nat} (ht:∀w,(isAgg t).run P w= .ok true w) (hs:∀w,(sizeOf t).run P w= .ok m w) (hm:m=cs.size) (hb:w.heap[b]? =some (.cells cs e fz)) (h:K (.agg cs) w):
  pN P (oLoad t (.pointer (some ⟨b,0,none⟩))) w K:=by
 subst hm
 refine pN_ld_agg (cs:=cs.toList) ht (by simpa using hs) ?_ (by simpa using h)
 have:=cells_of_blk (o:=0) hb cs.size
 simpa [List.take_of_length_le] using this
theorem pL_res_all {t:TypeId} {b m:Nat} {cs:Array Value} {fz:Nat×Nat} (ht:∀w,(isAgg t).run P w= .ok true w) (hs:∀w,(sizeOf t).run P w= .ok m w) (hm:m=cs.size) (hb:w.heap[b]? =some (.cells cs e fz)) (h:J (.agg cs)):
  pL P (oRes t (.pointer (some ⟨b,0,none⟩))) w J:=by
 subst hm
 have hc:=cells_of_blk (o:=0) hb cs.size
 have hl:=run_loadCells_list (P:=P) w ⟨b,0,none⟩ cs.toList (by simpa [List.take_of_length_le] using hc)
 refine⟨.agg cs,?_,h⟩
 refine run_oV_ok ?_
 have hs':∀w,(sizeOf t).run P w= .ok cs.toList.length w:=by simpa using hs
 simp only[asAddr,pure_bind,loadVar,Sem.run_bind,ht,hs',Result.andThen_ok,if_true,hl]
 rfl
theorem pN_ld_n {t:TypeId} {a:Addr} {cs:List Value} {m:Nat} (ht:∀w,(isAgg t).run P w= .ok true w) (hs:∀w,(sizeOf t).run P w= .ok m w) (hm:m=cs.length)
  (hc:∀(j:Nat) (u:Value),cs[j]? =some u→w.cell? (a.add j)=some u) (h:K (.agg cs.toArray) w):pN P (oLoad t (.pointer (some a))) w K:=by
 subst hm
 exact pN_ld_agg ht hs hc h
theorem Sat.row {b:Nat} {cs:Array Value} (hs:Sat E w (blk b (.cells cs e (0,0))::L)) (cs':Array Value):Sat E (w.setRow b cs') (blk b (.cells cs' e (0,0))::L):=by
 have hb:=hs.blk_at 0 rfl
 refine hs.turn rfl rfl rfl fun h1 hA s=>?_
 refine⟨fun k=>if k=b then some (.cells cs' e (0,0)) else h1 k,by simp[blk],?_,?_⟩
 ·intro k o ek
  by_cases hkb:k=b
  ·subst hkb
   simp only[if_true] at ek
   rw[←ek]
   exact setRow_heap w k cs cs' e _ hb
  ·simp only[if_neg hkb] at ek
   simp only[World.setRow,Array.getElem?_modify]
   rw[if_neg (fun e=>hkb e.symm)]
   exact s k o ek
 ·intro k o ek hn
  have hkb:k≠b:=fun e=>by subst e;rw[hA] at hn;cases hn
  simp only[World.setRow,Array.getElem?_modify]
  rw[if_neg (fun e=>hkb e.symm),if_neg hkb]
  exact⟨ek,hn⟩
theorem run_storeAt_n {t:TypeId} {b o:Nat} {cs us:Array Value} (hb:w.heap[b]? =some (.cells cs e (0,0))) (hs:∀w,(sizeOf t).run P w= .ok us.size w) (h1:∀u∈us.toList,u.oneCell'=true) (hi:o+us.size≤cs.size):
  (oStore t (.pointer (some ⟨b,o,none⟩)) (.agg us)).run P w= .ok .skip (w.setRow b (cs.toList.take o++us.toList++cs.toList.drop (o+us.size)).toArray):=by
 refine run_oU_ok ?_
 have hst:=run_storeCells_at P b o e us.toList 0 cs w hb (by simpa using hi) h1
 simp only[Instr.storeAt,Instr.sureAddr,pure_bind,storeVar,Sem.run_bind,hs,Result.andThen_ok,Value.cells]
 simp only[ne_eq,not_true_eq_false,if_false]
 simpa using hst
theorem pN_st_part {t:TypeId} {b o:Nat} {cs us:Array Value} (hS:Sat E w (blk b (.cells cs e (0,0))::L)) {m:Nat} (hs:∀w,(sizeOf t).run P w= .ok m w) (hm:m=us.size) (h1:∀u∈us.toList,u.oneCell'=true) (hi:o+us.size≤cs.size)
  (h:∀w',Sat E w' (blk b (.cells (cs.toList.take o++us.toList++cs.toList.drop (o+us.size)).toArray e (0,0))::L)→K undef w'):pN P (oStore t (.pointer (some ⟨b,o,none⟩)) (.agg us)) w K:=by
 subst hm
 rw[pN_def,run_storeAt_n (hS.blk_at 0 rfl) hs h1 hi]
 exact h _ (hS.row _)
theorem pN_st_all {t:TypeId} {b:Nat} {cs us:Array Value} (hS:Sat E w (blk b (.cells cs e (0,0))::L)) {m:Nat} (hs:∀w,(sizeOf t).run P w= .ok m w) (hm:m=us.size) (h1:∀u∈us.toList,u.oneCell'=true) (hi:us.size=cs.size)
  (h:∀w',Sat E w' (blk b (.cells us e (0,0))::L)→K undef w'):pN P (oStore t (.pointer (some ⟨b,0,none⟩)) (.agg us)) w K:=by
 subst hm
 refine pN_st_part hS hs rfl h1 (by omega) fun w' hS'=>h w' ?_
 simpa [hi,List.drop_of_length_le] using hS'
theorem Sat.own_blk {g cap:Nat} (hs:Sat E w (own e size (.slice (some ⟨g,0,none⟩) n cap) n xs::L)):
  ∃cur:Array Value,(xs.length=n*size∧n≤cap∧cap≤maxLen∧cur.size=cap*size∧cur.toList.take (n*size)=xs)∧Sat E w (blk g (.cells cur e (0,0))::L):=by
 refine hs.opn fun hp ho=>?_
 obtain⟨hl,h|⟨g',cap',cur,hv,hg,h1,h2,h3,h4⟩⟩:=ho
 ·cases h.1
 ·simp only[Value.slice.injEq,Option.some.injEq,Addr.mk.injEq,and_true,true_and] at hv
  obtain⟨rfl,rfl⟩:=hv
  exact⟨cur,⟨hl,h1,h2,h3,h4⟩,hg⟩
theorem blk_own {g cap:Nat} {cur:Array Value} (h1:n≤cap) (h2:cap≤maxLen) (h3:cur.size=cap*size) {hp:Hp} (h:blk g (.cells cur e (0,0)) hp):own e size (.slice (some ⟨g,0,none⟩) n cap) n (cur.toList.take (n*size)) hp:=by
 have:n*size≤cap*size:=Nat.mul_le_mul_right _ h1
 exact⟨by simp;omega,.inr ⟨g,cap,cur,rfl,h,h1,h2,h3,rfl⟩⟩
theorem pN_st_own_n {t:TypeId} {g cap i:Nat} {us:Array Value} (hS:Sat E w (own e size (.slice (some ⟨g,0,none⟩) n cap) n xs::L)) {m:Nat} (hs:∀w,(sizeOf t).run P w= .ok m w) (hm:m=us.size) (hz:us.size=size) (h1:∀u∈us.toList,u.oneCell'=true) (hi:i<n)
  (h:∀w',Sat E w' (own e size (.slice (some ⟨g,0,none⟩) n cap) n (xs.take (i*size)++us.toList++xs.drop (i*size+size))::L)→K undef w'):
  pN P (oStore t (.pointer (some ⟨g,i*size,none⟩)) (.agg us)) w K:=by
 subst hm
 obtain⟨cur,⟨hl,hnc,hm,hsz,htk⟩,hS1⟩:=hS.own_blk
 have e1:i*size+size≤n*size:=by
  have:=Nat.mul_le_mul_right size (show i+1≤n from hi)
  rwa[Nat.add_mul,Nat.one_mul] at this
 have e2:n*size≤cap*size:=Nat.mul_le_mul_right _ hnc
 refine pN_st_part hS1 hs rfl h1 (by omega) fun w' hS'=>h w' (hS'.weaken fun hp hb=>?_)
 have hlen:(cur.toList.take (i*size)++us.toList++cur.toList.drop (i*size+us.size)).toArray.size=cap*size:=by
  simp only[List.size_toArray,List.length_append,List.length_take,List.length_drop,Array.length_toList]
  omega
 have:=blk_own (size:=size) hnc hm hlen hb
 have e3:(cur.toList.take (i*size)++us.toList++cur.toList.drop (i*size+us.size)).toArray.toList.take (n*size)=xs.take (i*size)++us.toList++xs.drop (i*size+size):=by
  rw[←htk,hz]
  simp only[List.take_append,List.length_take,List.length_append,Array.length_toList,hz]
  rw[List.take_take,List.take_take,List.take_of_length_le (l:=us.toList) (by simp;omega)]
  rw[Nat.min_eq_right (show i*size≤n*size by omega),Nat.min_eq_left (show i*size≤cur.size by omega),List.drop_take]
  rw[Nat.min_eq_left (show i*size≤n*size by omega)]
 rwa[e3] at this
theorem Rd.nil:Rd w size (.slice none 0 0) 0 []:=⟨by simp,none,0,rfl,Nat.le_refl _,fun _=>⟨rfl,rfl⟩,fun _ h=>(by cases h)⟩
theorem flat_at {α:Type} (f:α→List Value) (s:Nat) (hf:∀a,(f a).length=s):∀(l:List α) (i:Nat) (a:α),l[i]? =some a→(((l.map f).flatten.drop (i*s)).take s)=f a
 | [],i,a,h=>by simp at h
 |b::l,0,a,h=>by
  simp at h;subst h
  simp[List.take_append,hf,List.take_of_length_le]
 |b::l,i+1,a,h=>by
  simp only[List.getElem?_cons_succ] at h
  rw[List.map_cons,List.flatten_cons,Nat.add_mul,Nat.one_mul,List.drop_append,List.drop_of_length_le (by rw[hf];omega),List.nil_append,hf,Nat.add_sub_cancel]
  exact flat_at f s hf l i a h
theorem flat_length {α:Type} (f:α→List Value) (s:Nat) (hf:∀a,(f a).length=s):∀(l:List α),((l.map f).flatten).length=l.length*s
 | []=>by simp
 |b::l=>by rw[List.map_cons,List.flatten_cons,List.length_append,hf,flat_length f s hf l,List.length_cons,Nat.add_mul,Nat.one_mul];omega
theorem flat_set {α:Type} (f:α→List Value) (s:Nat) (hf:∀a,(f a).length=s):∀(l:List α) (i:Nat) (a:α),i<l.length→((l.map f).flatten.take (i*s))++f a++((l.map f).flatten.drop (i*s+s))=((l.set i a).map f).flatten
 | [],i,a,h=>by simp at h
 |b::l,0,a,_=>by
  simp[List.drop_append,hf,List.drop_of_length_le]
 |b::l,i+1,a,h=>by
  have ih:=flat_set f s hf l i a (by simpa using h)
  rw[List.map_cons,List.flatten_cons,List.set_cons_succ,List.map_cons,List.flatten_cons,←ih,Nat.add_mul,Nat.one_mul]
  rw[List.take_append,List.drop_append,List.take_of_length_le (by rw[hf];omega),List.drop_of_length_le (by rw[hf];omega),hf,List.nil_append,Nat.add_sub_cancel,show i*s+s+s-s=i*s+s from by omega]
  simp only[List.append_assoc]
end
section
variable {E w:World} {L M:List HA} {A B:HA}
def bag (M:List HA):HA:=fun h=>Sats M h
theorem Sat.shutBag (hs:Sat E w (M++L)):Sat E w (bag M::L):=hs.shut fun _ h=>h
theorem Sat.openBag (hs:Sat E w (bag M::L)):Sat E w (M++L):=hs.open_ fun _ h=>h
theorem Sat.bag_cons (hs:Sat E w (A::bag M::L)):Sat E w (bag (A::M)::L):=by
 have h1:Sat E w (bag M::A::L):=hs.front 1 rfl
 exact Sat.shutBag (M:=A::M) (h1.openBag.perm List.perm_middle)
theorem Sat.bag_nil (hs:Sat E w L):Sat E w (bag []::L):=Sat.shutBag (M:=[]) hs
end
end
end Go.Proofs.YtikmogfhhggafaaGreatDoor
