import Derived.OrdersIn
import Derived.TacticsIn
import Derived.RangeFuncRecord
import Derived.Test.YtikmogfhhggafaaGreatDoorRows
import Derived.Lib.IndexLaws
import Derived.Lib.AppendStr
import Derived.Test.YtikmogfhhggafaaGreatDoorMg3
set_option linter.all false
namespace Go.Proofs.YtikmogfhhggafaaGreatDoor
open Go
open Go.Proofs.Tryz renaming prog→zp
section
abbrev Fr (r:Option Nat):Fence:={ Fence.wide with round:=r }
theorem Fr.deep (r:Option Nat) (n:Nat):(Fr r).depth.isSome=true→1≤n:=fun h=>by cases h
theorem Fr.calls {r:Option Nat} {n:Nat} {P:Program} {f:FuncId} {args:Array Value} {w:World} {R:Ending→World→Prop} (h:Calls P f args w R):CallsIn (Fr r) n P f args w R:=(callsIn_wide (n:=n)).2 h
def notDf (o:Oper):Bool:=match o.op with
 | .defer _=>false
 |_=>true
theorem notDf_sem {o:Oper} (h:notDf o=true) (r:Option Nat) (ρ:Operand→Value):Oper.semAt r ρ o=execOp ρ o:=
 Oper.semAt_eq r ρ o fun c hc=>by simp[notDf,hc] at h
def rY [Pan] (P:Program) (r:Result Next) (K:Value→World→Prop):Prop:=
 match r with
 | .ok (.round l f tmps assign body) w'=>RoundIn (Fr none) 0 P l f tmps assign body w' (retP K)
 |r=>rN P r K
def pY [Pan] (P:Program) (m:Sem Next) (w:World) (K:Value→World→Prop):Prop:=rY P (m.run P w) K
theorem pY_of [Pan] {P:Program} {m:Sem Next} {w:World} {K:Value→World→Prop} (h:pN P m w K):pY P m w K:=by
 unfold pN at h
 unfold pY rY
 split
 ·rename_i hr;rw[hr] at h;exact h.elim
 ·exact h
def mayY:Op→Bool
 | .call { callee:= .value (.tmp _),.. }=>true
 |_=>false
def pX [Pan] (P:Program) (op:Op) (m:Sem Next) (w:World) (K:Value→World→Prop):Prop:=
 match mayY op with
 |true=>pY P m w K
 |false=>pN P m w K
theorem pX_up [Pan] {P:Program} {op:Op} {m:Sem Next} {w:World} {K:Value→World→Prop} (h:pX P op m w K):pY P m w K:=by
 unfold pX at h
 split at h
 ·exact h
 ·exact pY_of h
def opR [Pan] (P:Program) (ops:Array Oper) (o:Oper) (ρ:Env) (w:World) (K:Value→World→Prop):Prop:=
 match o.guard with
 |none=>match o.op with
  | .move x=>K (ev ρ x) w
  | .assign x=>K (ev ρ x) w
  |op=>pX P op (execE ρ o) w K
 |some (j,want)=>pGd (wantE ops ρ j want) (pX P o.op (execE ρ o) w) w K
def rgR [Pan] (P:Program) (ops:Array Oper):List Oper→Env→World→(Env→World→Prop)→Prop
 | [],ρ,w,K=>K ρ w
 |o::rest,ρ,w,K=>opR P ops o ρ w fun v w'=>rgR P ops rest (ρ.put o.dst v) w' K
def dwR [Pan] (P:Program) (ops:Array Oper):Nat→Array Bool→Held→Env→World→(Env→World→Prop)→Prop
 |0,L,_,ρ,w,K=>match Region.ready .any ops L with
  | []=>K ρ w
  |_=>False
 |f+1,L,h,ρ,w,K=>
  match pickFirst ops (Region.ready .any ops L) with
  |some i=>match ops[i]?,Region.free .any ops L i with
   |some o,true=>takeW P o (guardB ops o ρ) ρ w fun v=>dwR P ops f (L.setIfInBounds i true) (holdsH i o (guardB ops o ρ) ρ v h) (ρ.put o.dst v) w K
   |_,_=>False
  |none=>match Region.ready .any ops L with
   | []=>K ρ w
   |js=>allL js fun j=>match ops[j]? with
    |some o=>opR P ops o ρ w fun v w'=>heldOk P ops j w' h∧dwR P ops f (L.setIfInBounds j true) (dropH ops j h) (ρ.put o.dst v) w' K
    |none=>False
def dwSR [Pan] (P:Program) (ops:Array Oper) (l:List Oper):Scr→Held→Env→World→(Env→World→Prop)→Prop
 | [],_,ρ,w,K=>K ρ w
 |(i,_)::r,h,ρ,w,K=>match nthO l i with
  |some o=>match Nat.blt (kindOf o.op) 2 with
   |true=>takeW P o (guardB ops o ρ) ρ w fun v=>dwSR P ops l r (holdsH i o (guardB ops o ρ) ρ v h) (ρ.put o.dst v) w K
   |false=>opR P ops o ρ w fun v w'=>heldOk P ops i w' h∧dwSR P ops l r (dropH ops i h) (ρ.put o.dst v) w' K
  |none=>False
section
variable [Pan] {P:Program} {n:Frm} {r:Option Nat}
theorem pY_wp {a:Act} {ρ:Env} (hf:Fits n a ρ) {o:Oper} (hd:notDf o=true) {w:World} {K:Value→World→Prop} {next:Act→World→Prop} {Q:Exit→Act→World→Prop}
  (hQ:∀c w,PZ n a c w→Q (.panic c) a w) (h:pY P (execE ρ o) w K) (hK:∀v w',K v w'→next (a.put o.dst v) w'):o.wpIn (Fr r) 0 P a w next Q:=by
 refine⟨fun _ _=>trivial,?_⟩
 rw[notDf_sem hd,hf.eval]
 rw[execE_eq] at h
 unfold pY rY at h
 have hret:∀(e:Ending) (w'':World),retP K e w''→(match (motive:=Ending→World→Prop) e,w'' with
   | .returned v,w''=>next (a.put o.dst v) w''
   | .panicked chain,w''=>Q (.panic chain) a w''
   | .outgrown,_=>LetsOut Q):=by
  intro e w'' he
  cases e with
  |returned v=>exact hK _ _ he
  |panicked c=>exact hQ _ _ (hf.pz he)
  |outgrown=>exact he.elim
 split at h
 ·rename_i l f tmps assign body w' hr
  rw[hr]
  exact⟨Fr.deep _ _,RoundIn.mono h hret⟩
 ·unfold rN at h
  split at h
  ·rename_i v w' hr;rw[hr];exact hK _ _ h
  ·rename_i w' hr;rw[hr];exact hK _ _ h
  ·rename_i f args w' hr
   rw[hr]
   exact⟨Fr.deep _ _,Fr.calls (Calls.mono h hret)⟩
  ·rename_i v w' hr;rw[hr];exact hQ _ _ (hf.pz h)
  ·exact h.elim
theorem opR_none {ops:Array Oper} {o:Oper} {ρ:Env} {w:World} {K:Value→World→Prop} (hg:o.guard=none) (h:opR P ops o ρ w K):pY P (execE ρ o) w K:=by
 unfold opR at h
 rw[hg] at h
 dsimp only at h
 split at h
 ·rename_i x hx;unfold execE;rw[hx];exact h
 ·rename_i x hx;unfold execE;rw[hx];exact h
 ·exact pX_up h
theorem rgR_wp {ops:Array Oper} (l:List Oper):∀{a:Act} {ρ:Env} {w:World} {K:Env→World→Prop} {Q:Exit→Act→World→Prop},
  (∀c a w,PZ n a c w→Q (.panic c) a w)→(∀o∈l,notDf o=true)→(∀t∈opWrites l,n.lo≤t∧t<n.n)→Fits n a ρ→rgR P ops l ρ w K→
  (∀a' ρ' w',(∀t,t∉opWrites l→a'.tmps.getD t undef=a.tmps.getD t undef)→Fits n a' ρ'→K ρ' w'→Q .normal a' w')→
  wpListIn (Fr r) 0 P ops Q l a w:=by
 induction l with
 |nil=>
  intro a ρ w K Q hQ hnd hw hf h hK
  exact hK a ρ w (fun _ _=>rfl) hf h
 |cons o rest ih=>
  intro a ρ w K Q hQ hnd hw hf h hK
  have hd:∀t,o.dst=some t→n.lo≤t∧t<n.n:=fun t ht=>hw t (by simp[opWrites,ht])
  have ho:=hnd o List.mem_cons_self
  have hrest:∀t∈opWrites rest,n.lo≤t∧t<n.n:=fun t ht=>hw t (by
   simp only[opWrites];split
   ·exact List.mem_cons_of_mem _ ht
   ·exact ht)
  have hgo:∀v w',rgR P ops rest (ρ.put o.dst v) w' K→wpListIn (Fr r) 0 P ops Q rest (a.put o.dst v) w':=by
   intro v w' hr
   refine ih hQ (fun o h=>hnd o (List.mem_cons_of_mem _ h)) hrest (hf.put hd v) hr fun a' ρ' w'' hk hf' hK'=>hK a' ρ' w'' (fun t ht=>?_) hf' hK'
   have ht':t∉opWrites rest:=fun hm=>ht (by
    simp only[opWrites];split
    ·exact List.mem_cons_of_mem _ hm
    ·exact hm)
   rw[hk t ht']
   cases hdst:o.dst with
   |none=>rfl
   |some d=>
    have hne:d≠t:=fun e=>ht (by simp[opWrites,hdst,e])
    simp only[Act.put,Array.getD_eq_getD_getElem?,Array.getElem?_setIfInBounds]
    rw[if_neg hne]
  simp only[rgR] at h
  cases hg:o.guard with
  |none=>
   exact wpListIn_plain hg fun K' hK'=>pY_wp hf ho (fun c w h=>hQ c a w h) (opR_none hg h) fun v w' hr=>hK' _ _ (hgo v w' hr)
  |some g=>
   obtain⟨j,want⟩:=g
   simp only[opR,hg] at h
   refine wpListIn_step fun K' hK'=>?_
   simp only[Region.wanted,hg,hf.yielded ops]
   simp only[pGd] at h
   split
   ·rename_i hy
    rw[if_pos hy] at h
    exact pY_wp hf ho (fun c w h=>hQ c a w h) (pX_up h) fun v w' hr=>hK' _ _ (hgo v w' hr)
   ·rename_i hy
    rw[if_neg hy] at h
    exact⟨fun _ _=>trivial,hK' _ _ (hgo _ _ h)⟩
end
section
variable {P:Program} {ops:Array Oper} {Q:Exit→Act→World→Prop} {r:Option Nat}
theorem YieldsW.wpOpI {i:Nat} {o:Oper} {v:Value} {a:Act} {w:World} (hi:ops[i]? =some o) (hd:notDf o=true) (hy:YieldsW P ops o v a w)
  {K:Act→World→Prop} (h:K (a.put o.dst v) w):wpOpIn (Fr r) 0 P ops Q i K a w:=by
 unfold Go.wpOpIn
 simp only[hi]
 rcases hy with⟨hw,hv⟩|⟨hw,rfl⟩
 ·rw[if_pos hw]
  refine⟨fun _ _=>trivial,?_⟩
  rw[notDf_sem hd,hv]
  exact h
 ·rw[if_neg (by simp[hw])]
  exact⟨fun _ _=>trivial,h⟩
theorem wpOpI_putW {j:Nat} {oi oj:Oper} {v:Value} (φ:World→Prop) (hj:ops[j]? =some oj) (hdj:notDf oj=true) (hap:oi.apart ops oj=true)
  (hsi:∀cs b,oi.op≠ .select cs b) (hsj:∀cs b,oj.op≠ .select cs b)
  (hQ:∀c a w,Q (.panic c) (a.put oi.dst v) w→Q (.panic c) a w) (hL:¬LetsOut Q) {K:Act→World→Prop} {a:Act} {w:World}
  (hy:∀w,φ w→YieldsW P ops oi v a w) (h:wpOpIn (Fr r) 0 P ops Q j K (a.put oi.dst v) w):
  wpOpIn (Fr r) 0 P ops Q j (fun a' w'=>(∀w,φ w→YieldsW P ops oi v a' w)∧K (a'.put oi.dst v) w') a w:=by
 obtain⟨h1,h2,h3⟩:=Oper.apart_spec hap
 have keep:∀(a:Act),(∀w,φ w→YieldsW P ops oi v a w)→∀u,(∀w,φ w→YieldsW P ops oi v (a.put oj.dst u) w):=fun a hy u w hw=>
  (hy w hw).of_same (execOp_put oi hsi a oj.dst u h3) (wanted_put oi a oj.dst u h3)
 have keepD:∀d,(∀w,φ w→YieldsW P ops oi v { a with defers:=d::a.defers } w):=fun d w hw=>(hy w hw).of_same rfl rfl
 unfold Go.wpOpIn at*
 simp only[hj] at*
 rw[wanted_put oj a oi.dst v h1] at h
 split
 ·rename_i hw
  simp only[hw,if_true] at h
  refine⟨fun _ _=>trivial,?_⟩
  have h:=h.2
  rw[notDf_sem hdj,execOp_put oj hsj a oi.dst v h1] at h
  rw[notDf_sem hdj]
  generalize (execOp a.eval oj).run P w=r at*
  cases r with
  |ok n w'=>
   cases n<;>simp only[Oper.uponIn] at h ⊢
   case value u=>exact⟨keep a hy u,by rw[←Act.put_comm a v u h2];exact h⟩
   case skip=>exact⟨keep a hy _,by rw[←Act.put_comm a v undef h2];exact h⟩
   case defer d=>
    refine⟨keep _ (keepD d) _,?_⟩
    rw[←Act.put_comm _ v undef h2,←Act.put_defers]
    exact h
   case enter f args=>
    refine⟨h.1,CallsIn.mono h.2 fun e w'' he=>?_⟩
    cases e with
    |returned u=>exact⟨keep a hy u,by rw[←Act.put_comm a v u h2];exact he⟩
    |panicked c=>exact hQ _ _ _ he
    |outgrown=>exact he
   case row row args=>exact⟨h.1,RowsIn.mono h.2 fun u w'' he=>⟨keep a hy u,by rw[←Act.put_comm a v u h2];exact he⟩⟩
   case round l f tmps assign body=>
    refine⟨h.1,RoundIn.mono h.2 fun e w'' he=>?_⟩
    cases e with
    |returned u=>exact⟨keep a hy u,by rw[←Act.put_comm a v u h2];exact he⟩
    |panicked c=>exact hQ _ _ _ he
    |outgrown=>exact he
  |halt x w'=>
   cases x<;>simp only[Oper.uponIn] at h ⊢
   case panic u=>exact hQ _ _ _ h
 ·rename_i hw
  simp only[hw] at h
  exact⟨fun _ _=>trivial,keep a hy _,by rw[←Act.put_comm a v undef h2];exact h.2⟩
def wpAnyTI (r:Option Nat) (P:Program) (ops:Array Oper) (Q:Exit→Act→World→Prop):Nat→Array Bool→Trk→Act→World→Prop
 |0,listed,_,a,w=>Region.ready .any ops listed=[]∧Q .normal a w
 |fuel+1,listed,trk,a,w=>
  (Region.ready .any ops listed=[]→Q .normal a w)∧
  ∀i∈Region.ready .any ops listed,wpOpIn (Fr r) 0 P ops Q i (fun a' w'=>(∀p∈dropT ops i trk,p.2 w')∧wpAnyTI r P ops Q fuel (listed.setIfInBounds i true) (dropT ops i trk) a' w') a w
theorem wpAnyIn_of_T:∀(fuel:Nat) (listed:Array Bool) (trk:Trk) (a:Act) (w:World),wpAnyTI r P ops Q fuel listed trk a w→wpAnyIn (Fr r) 0 P .any ops Q fuel listed a w
 |0,_,_,_,_,h=>h
 |fuel+1,_,_,_,_,h=>⟨h.1,fun i hi=>wpOpIn_mono (fun a' w' h'=>wpAnyIn_of_T fuel _ _ a' w' h'.2) (h.2 i hi)⟩
theorem wpAnyTI_less:∀(fuel:Nat) (listed:Array Bool) (trk trk':Trk) (a:Act) (w:World),(∀p∈trk',p∈trk)→wpAnyTI r P ops Q fuel listed trk a w→wpAnyTI r P ops Q fuel listed trk' a w
 |0,_,_,_,_,_,_,h=>h
 |fuel+1,_,trk,trk',_,_,hs,h=>⟨h.1,fun i hi=>wpOpIn_mono (fun a' w' h'=>by
   have hs':∀p∈dropT ops i trk',p∈dropT ops i trk:=fun p hp=>by
    simp only[dropT,List.mem_filter] at hp ⊢
    exact⟨hs p hp.1,hp.2⟩
   exact⟨fun p hp=>h'.1 p (hs' p hp),wpAnyTI_less fuel _ _ _ a' w' hs' h'.2⟩) (h.2 i hi)⟩
theorem wpAnyTI_first {i:Nat} {oi:Oper} {v:Value} {φ:World→Prop} (hi:ops[i]? =some oi) (hdi:notDf oi=true) (hnd:∀(j:Nat) (o:Oper),ops[j]? =some o→notDf o=true) (hsel:∀(j:Nat) (o:Oper) cs b,ops[j]? =some o→o.op≠ .select cs b)
  (hQ:∀c a w,Q (.panic c) (a.put oi.dst v) w→Q (.panic c) a w) (hL:¬LetsOut Q):
  ∀(fuel:Nat) (listed:Array Bool) (trk:Trk) (a:Act) (w:World),Clo ops listed→
   (∀j oj,ops[j]? =some oj→j≠i→listed.getD j true=false→(∀e∈oj.after,Region.binds .any e=true→e.on≠i)→oi.apart ops oj=true)→
   i∈Region.ready .any ops listed→(∀w,φ w→YieldsW P ops oi v a w)→φ w→(∀p∈trk,p.2 w)→
   wpAnyTI r P ops Q fuel (listed.setIfInBounds i true) ((i,φ)::trk) (a.put oi.dst v) w→wpAnyTI r P ops Q (fuel+1) listed trk a w:=by
 intro fuel
 induction fuel with
 |zero=>
  intro listed trk a w _ _ hr hy hφ ht H
  refine⟨fun h=>(by rw[h] at hr;cases hr),fun j hj=>?_⟩
  by_cases hji:j=i
  ·subst hji
   exact(hy w hφ).wpOpI hi hdi ⟨fun p hp=>ht p (by simp only[dropT,List.mem_filter] at hp;exact hp.1),H⟩
  ·have:=ready_mono hj hji
   rw[H.1] at this
   cases this
 |succ fuel ih=>
  intro listed trk a w hcl hfree hr hy hφ ht H
  refine⟨fun h=>(by rw[h] at hr;cases hr),fun j hj=>?_⟩
  by_cases hji:j=i
  ·subst hji
   refine(hy w hφ).wpOpI hi hdi ⟨fun p hp=>ht p (by simp only[dropT,List.mem_filter] at hp;exact hp.1),wpAnyTI_less _ _ _ _ _ _ (fun p hp=>?_) H⟩
   simp only[dropT,List.mem_filter] at hp
   exact List.mem_cons_of_mem _ hp.1
  ·have h1:=H.2 j (ready_mono hj hji)
   obtain⟨hjun,oj,hoj,hall⟩:=mem_ready.1 hj
   have hiun:=(mem_ready.1 hr).1
   have hnl:listed.getD i false≠true:=fun hl=>by
    rcases Nat.lt_or_ge i listed.size with h'|h'
    ·simp[h'] at hiun hl;rw[hiun] at hl;cases hl
    ·simp[Array.getElem?_eq_none h'] at hl
   have hnot:∀e∈oj.after,Region.binds .any e=true→e.on≠i:=fun e he hb heq=>hnl (heq▸hall e he hb)
   have hnb:bfB ops ops.size i j=false:=by
    cases hb:bfB ops ops.size i j with
    |false=>rfl
    |true=>exact absurd (hcl.bf _ _ _ hb ⟨oj,hoj,hall⟩) hnl
   have hdrop:dropT ops j ((i,φ)::trk)=(i,φ)::dropT ops j trk:=by
    simp[dropT,hnb]
   have h2:=wpOpI_putW φ hoj (hnd j oj hoj) (hfree j oj hoj hji hjun hnot) (fun cs b=>hsel i oi cs b hi) (fun cs b=>hsel j oj cs b hoj) hQ hL hy h1
   have hfree':∀k ok,ops[k]? =some ok→k≠i→(listed.setIfInBounds j true).getD k true=false→
     (∀e∈ok.after,Region.binds .any e=true→e.on≠i)→oi.apart ops ok=true:=fun k ok hk hki hun hno=>by
    refine hfree k ok hk hki ?_ hno
    by_cases hjk:j=k
    ·subst hjk;exact hjun
    ·rw[getD_set_ne true hjk] at hun;exact hun
   refine wpOpIn_mono (fun a' w' h3=>?_) h2
   obtain⟨hy',hobl,H'⟩:=h3
   rw[hdrop] at hobl H'
   refine⟨fun p hp=>hobl p (List.mem_cons_of_mem _ hp),ih (listed.setIfInBounds j true) _ a' w' (hcl.add hj) hfree' (ready_mono hr (Ne.symm hji)) hy' (hobl (i,φ) List.mem_cons_self) (fun p hp=>hobl p (List.mem_cons_of_mem _ hp)) ?_⟩
   rw[Array.setIfInBounds_comm _ _ hji]
   exact H'
theorem wpAnyTI_top {i:Nat} {f:Nat} {L:Array Bool} {trk:Trk} {a:Act} {w:World} (H:wpAnyTI r P ops Q f L trk a w):wpAnyTI r P ops Q f L ((i,fun _=>True)::trk) a w:=by
 have gen:∀(f:Nat) (L:Array Bool) (trk trk':Trk) (a:Act) (w:World),(∀p∈trk',p∈trk∨∀w,p.2 w)→wpAnyTI r P ops Q f L trk a w→wpAnyTI r P ops Q f L trk' a w:=by
  intro f
  induction f with
  |zero=>intro L trk trk' a w _ h;exact h
  |succ f ih=>
   intro L trk trk' a w hs h
   refine⟨h.1,fun i hi=>wpOpIn_mono (fun a' w' h'=>?_) (h.2 i hi)⟩
   have hs':∀p∈dropT ops i trk',p∈dropT ops i trk∨∀w,p.2 w:=fun p hp=>by
    simp only[dropT,List.mem_filter] at hp ⊢
    rcases hs p hp.1 with h|h
    ·exact .inl ⟨h,hp.2⟩
    ·exact .inr h
   exact⟨fun p hp=>(hs' p hp).elim (h'.1 p) (fun h=>h w'),ih _ _ _ a' w' hs' h'.2⟩
 refine gen f L trk _ a w (fun p hp=>?_) H
 rcases List.mem_cons.1 hp with rfl|hp
 ·exact .inr fun _=>trivial
 ·exact .inl hp
end
section
variable {P:Program} {ops:Array Oper} {rd:Option Nat}
theorem dwR_any [Pan] {n:Frm} (hs:Region.noSelect ops=true) (hnd:∀(j:Nat) (o:Oper),ops[j]? =some o→notDf o=true) (hn:∀t∈opWrites ops.toList,n.lo≤t∧t<n.n) {Q:Exit→Act→World→Prop} (hQ:∀c a w,Q (.panic c) a w↔PZ n a c w) (hL:¬LetsOut Q) (a₀:Act) {K:Env→World→Prop}
  (hK:∀a' ρ' w',(∀t,t∉opWrites ops.toList→a'.tmps.getD t undef=a₀.tmps.getD t undef)→Fits n a' ρ'→K ρ' w'→Q .normal a' w'):
  ∀(f:Nat) (L:Array Bool) (h:Held) (ρ:Env) (a:Act) (w:World),Clo ops L→Fits n a ρ→(∀t,t∉opWrites ops.toList→a.tmps.getD t undef=a₀.tmps.getD t undef)→
   (∀p∈trkOf P h,p.2 w)→dwR P ops f L h ρ w K→wpAnyTI rd P ops Q f L (trkOf P h) a w:=by
 have hput:∀{a:Act} {j:Nat} {o:Oper} (v:Value),ops[j]? =some o→(∀t,t∉opWrites ops.toList→a.tmps.getD t undef=a₀.tmps.getD t undef)→
   (∀t,t∉opWrites ops.toList→(a.put o.dst v).tmps.getD t undef=a₀.tmps.getD t undef):=by
  intro a j o v hj hk t ht
  rw[←hk t ht]
  cases hd:o.dst with
  |none=>rfl
  |some d=>
   have hne:d≠t:=fun e=>ht (e▸opWrites_mem hj hd)
   simp only[Act.put,Array.getD_eq_getD_getElem?,Array.getElem?_setIfInBounds]
   rw[if_neg hne]
 have hdst:∀{j:Nat} {o:Oper},ops[j]? =some o→∀t,o.dst=some t→n.lo≤t∧t<n.n:=fun hj t ht=>hn t (opWrites_mem hj ht)
 intro f
 induction f with
 |zero=>
  intro L h ρ a w _ hf hk _ hd
  simp only[dwR] at hd
  split at hd
  ·rename_i hr;exact⟨hr,hK a ρ w hk hf hd⟩
  ·exact hd.elim
 |succ f ih=>
  intro L h ρ a w hcl hf hk ht hd
  simp only[dwR] at hd
  split at hd
  ·rename_i i hpick
   have hmem:=pickFirst_mem hpick
   split at hd
   ·rename_i o hi hfree
    obtain⟨v,hKv,hy⟩:=takeW_yields (ops:=ops) hf hd
    have hf':Fits n (a.put o.dst v) (ρ.put o.dst v):=hf.put (hdst hi) v
    rcases hy with⟨hkind,hy⟩|⟨hkind,hy,hnow⟩
    ·simp only[holdsH,hkind] at hKv
     have H:=ih _ _ _ _ _ (hcl.add hmem) hf' (hput v hi hk) ht hKv
     refine wpAnyTI_first (φ:=fun _=>True) hi (hnd _ _ hi) hnd (Region.noSelect_spec hs) (fun c a w h=>(hQ _ _ _).2 (PZ.less (fun t ht=>(hdst hi t ht).1) ((hQ _ _ _).1 h))) hL f L _ a w hcl (Region.free_spec hi hfree) hmem (fun w _=>hy w) trivial ht ?_
     exact wpAnyTI_top H
    ·simp only[holdsH,hkind] at hKv
     have ht':∀p∈trkOf P ((i,guardB ops o ρ,execE ρ o,v)::h),p.2 w:=by
      intro p hp
      rcases List.mem_cons.1 (show p∈(i,fun w=>hkp (guardB ops o ρ) ((execE ρ o).run P w= .ok (.value v) w))::trkOf P h from hp) with rfl|hp
      ·exact hnow
      ·exact ht p hp
     have H:=ih _ _ _ _ _ (hcl.add hmem) hf' (hput v hi hk) ht' hKv
     exact wpAnyTI_first (φ:=fun w=>hkp (guardB ops o ρ) ((execE ρ o).run P w= .ok (.value v) w)) hi (hnd _ _ hi) hnd (Region.noSelect_spec hs) (fun c a w h=>(hQ _ _ _).2 (PZ.less (fun t ht=>(hdst hi t ht).1) ((hQ _ _ _).1 h))) hL f L _ a w hcl (Region.free_spec hi hfree) hmem hy hnow ht H
   ·exact hd.elim
  ·split at hd
   ·rename_i hr
    refine⟨fun _=>hK a ρ w hk hf hd,fun i hi=>?_⟩
    rw[hr] at hi;cases hi
   ·rename_i js hne
    refine⟨fun h0=>absurd h0 hne,fun j hj=>?_⟩
    have hdj:=allL_mem hd j hj
    obtain⟨_,o,hoj,_⟩:=mem_ready.1 hj
    simp only[hoj] at hdj
    have hgo:∀v w',(heldOk P ops j w' h∧dwR P ops f (L.setIfInBounds j true) (dropH ops j h) (ρ.put o.dst v) w' K)→
      (∀p∈dropT ops j (trkOf P h),p.2 w')∧wpAnyTI rd P ops Q f (L.setIfInBounds j true) (dropT ops j (trkOf P h)) (a.put o.dst v) w':=by
     intro v w' ⟨hho,hdw⟩
     rw[trkOf_drop]
     have h1:=heldOk_all j w' h hho
     exact⟨h1,ih _ _ _ _ _ (hcl.add hj) (hf.put (hdst hoj) v) (hput v hoj hk) h1 hdw⟩
    unfold Go.wpOpIn
    simp only[hoj]
    have hw:=wanted_eq (ops:=ops) hf o
    cases hg:o.guard with
    |none=>
     simp only[guardB,hg] at hw
     simp only[Option.getD_none] at hw
     rw[if_pos hw]
     exact pY_wp hf (hnd _ _ hoj) (fun c w h=>(hQ _ _ _).2 h) (opR_none hg hdj) hgo
    |some g=>
     obtain⟨k,want⟩:=g
     simp only[guardB,hg] at hw
     simp only[Option.getD_some] at hw
     simp only[opR,hg,pGd] at hdj
     rw[hw]
     split
     ·rename_i hy
      rw[if_pos hy] at hdj
      exact pY_wp hf (hnd _ _ hoj) (fun c w h=>(hQ _ _ _).2 h) (pX_up hdj) hgo
     ·rename_i hy
      rw[if_neg hy] at hdj
      exact⟨fun _ _=>trivial,hgo _ _ hdj⟩
theorem dwSR_any [Pan] {n:Frm} (hs:Region.noSelect ops=true) (hnd:∀(j:Nat) (o:Oper),ops[j]? =some o→notDf o=true) (hn:∀t∈opWrites ops.toList,n.lo≤t∧t<n.n) (hb:∀(j:Nat) (o:Oper),ops[j]? =some o→∀e∈o.after,Region.binds .any e=true→e.on<ops.size)
  {Q:Exit→Act→World→Prop} (hQ:∀c a w,Q (.panic c) a w↔PZ n a c w) (hL:¬LetsOut Q) (a₀:Act) {K:Env→World→Prop}
  (hK:∀a' ρ' w',(∀t,t∉opWrites ops.toList→a'.tmps.getD t undef=a₀.tmps.getD t undef)→Fits n a' ρ'→K ρ' w'→Q .normal a' w'):
  ∀(s:Scr) (M:Nat) (L:Array Bool) (h:Held) (ρ:Env) (a:Act) (w:World),RelM ops.size M L→okS ops ops.toList ops.size s M=true→Clo ops L→Fits n a ρ→(∀t,t∉opWrites ops.toList→a.tmps.getD t undef=a₀.tmps.getD t undef)→
   (∀p∈trkOf P h,p.2 w)→dwSR P ops ops.toList s h ρ w K→wpAnyTI rd P ops Q s.length L (trkOf P h) a w:=by
 have hput:∀{a:Act} {j:Nat} {o:Oper} (v:Value),ops[j]? =some o→(∀t,t∉opWrites ops.toList→a.tmps.getD t undef=a₀.tmps.getD t undef)→
   (∀t,t∉opWrites ops.toList→(a.put o.dst v).tmps.getD t undef=a₀.tmps.getD t undef):=by
  intro a j o v hj hk t ht
  rw[←hk t ht]
  cases hd:o.dst with
  |none=>rfl
  |some d=>
   have hne:d≠t:=fun e=>ht (e▸opWrites_mem hj hd)
   simp only[Act.put,Array.getD_eq_getD_getElem?,Array.getElem?_setIfInBounds]
   rw[if_neg hne]
 have hdst:∀{j:Nat} {o:Oper},ops[j]? =some o→∀t,o.dst=some t→n.lo≤t∧t<n.n:=fun hj t ht=>hn t (opWrites_mem hj ht)
 intro s
 induction s with
 |nil=>
  intro M L h ρ a w hrel hok _ hf hk _ hd
  refine⟨?_,hK a ρ w hk hf hd⟩
  simp only[okS] at hok
  refine List.eq_nil_iff_forall_not_mem.2 fun j hj=>?_
  obtain⟨h0,o,ho,_⟩:=mem_ready.1 hj
  have hlt:=(Array.getElem?_eq_some_iff.1 ho).1
  rw[hrel.getD hlt true,belowB_spec hok j hlt] at h0
  cases h0
 |cons p r ih=>
  obtain⟨i,M'⟩:=p
  intro M L h ρ a w hrel hok hcl hf hk ht hd
  simp only[okS,Bool.and_eq_true] at hok
  obtain⟨⟨⟨hM,hrdy⟩,hcase⟩,hok'⟩:=hok
  have hM:=Nat.eq_of_beq_eq_true hM
  subst hM
  simp only[dwSR] at hd
  rw[nthO_eq,Array.getElem?_toList] at hcase hd
  cases hi:ops[i]? with
  |none=>rw[hi] at hcase;cases hcase
  |some o=>
   rw[hi] at hcase hd
   have hlt:=(Array.getElem?_eq_some_iff.1 hi).1
   have hmem:=(readyM_iff hrel hb i hlt).1 hrdy
   have hrel':=hrel.set i hlt
   cases hkd:Nat.blt (kindOf o.op) 2 with
   |true=>
    simp only[hkd] at hcase hd
    obtain⟨v,hKv,hy⟩:=takeW_yields (ops:=ops) hf hd
    have hf':Fits n (a.put o.dst v) (ρ.put o.dst v):=hf.put (hdst hi) v
    have hfree:∀j oj,ops[j]? =some oj→j≠i→L.getD j true=false→(∀e∈oj.after,Region.binds .any e=true→e.on≠i)→o.apart ops oj=true:=by
     intro j oj hj hne hun hno
     have hjlt:=(Array.getElem?_eq_some_iff.1 hj).1
     simp only[freeM,nthO_eq,Array.getElem?_toList,hi] at hcase
     have:=belowB_spec hcase j hjlt
     simp only[hj,Bool.or_eq_true] at this
     rcases this with(h1|h1)|h1|h1
     ·exact absurd (Nat.eq_of_beq_eq_true h1) hne
     ·rw[hrel.getD hjlt true] at hun;rw[hun] at h1;cases h1
     ·obtain⟨e,he,hbe⟩:=List.any_eq_true.1 h1
      simp only[Bool.and_eq_true] at hbe
      exact absurd (Nat.eq_of_beq_eq_true hbe.2) (hno e (by simpa using he) hbe.1)
     ·exact h1
    rcases hy with⟨hkind,hy⟩|⟨hkind,hy,hnow⟩
    ·simp only[holdsH,hkind] at hKv
     have H:=ih _ _ _ _ _ _ hrel' hok' (hcl.add hmem) hf' (hput v hi hk) ht hKv
     refine wpAnyTI_first (φ:=fun _=>True) hi (hnd _ _ hi) hnd (Region.noSelect_spec hs) (fun c a w h=>(hQ _ _ _).2 (PZ.less (fun t ht=>(hdst hi t ht).1) ((hQ _ _ _).1 h))) hL _ L _ a w hcl hfree hmem (fun w _=>hy w) trivial ht ?_
     exact wpAnyTI_top H
    ·simp only[holdsH,hkind] at hKv
     have ht':∀p∈trkOf P ((i,guardB ops o ρ,execE ρ o,v)::h),p.2 w:=by
      intro p hp
      rcases List.mem_cons.1 (show p∈(i,fun w=>hkp (guardB ops o ρ) ((execE ρ o).run P w= .ok (.value v) w))::trkOf P h from hp) with rfl|hp
      ·exact hnow
      ·exact ht p hp
     have H:=ih _ _ _ _ _ _ hrel' hok' (hcl.add hmem) hf' (hput v hi hk) ht' hKv
     exact wpAnyTI_first (φ:=fun w=>hkp (guardB ops o ρ) ((execE ρ o).run P w= .ok (.value v) w)) hi (hnd _ _ hi) hnd (Region.noSelect_spec hs) (fun c a w h=>(hQ _ _ _).2 (PZ.less (fun t ht=>(hdst hi t ht).1) ((hQ _ _ _).1 h))) hL _ L _ a w hcl hfree hmem hy hnow ht H
   |false=>
    simp only[hkd] at hcase hd
    refine⟨fun h0=>(by rw[h0] at hmem;cases hmem),fun j hj=>?_⟩
    have hji:j=i:=by
     obtain⟨_,oj,hoj,_⟩:=mem_ready.1 hj
     have hjlt:=(Array.getElem?_eq_some_iff.1 hoj).1
     have:=belowB_spec hcase j hjlt
     simp only[Bool.or_eq_true,Bool.not_eq_true'] at this
     rcases this with h1|h1
     ·exact Nat.eq_of_beq_eq_true h1
     ·rw[(readyM_iff hrel hb j hjlt).2 hj] at h1;cases h1
    subst hji
    have hgo:∀v w',(heldOk P ops j w' h∧dwSR P ops ops.toList r (dropH ops j h) (ρ.put o.dst v) w' K)→
      (∀p∈dropT ops j (trkOf P h),p.2 w')∧wpAnyTI rd P ops Q r.length (L.setIfInBounds j true) (dropT ops j (trkOf P h)) (a.put o.dst v) w':=by
     intro v w' ⟨hho,hdw⟩
     rw[trkOf_drop]
     have h1:=heldOk_all j w' h hho
     exact⟨h1,ih _ _ _ _ _ _ hrel' hok' (hcl.add hj) (hf.put (hdst hi) v) (hput v hi hk) h1 hdw⟩
    unfold Go.wpOpIn
    simp only[hi]
    have hw:=wanted_eq (ops:=ops) hf o
    cases hg:o.guard with
    |none=>
     simp only[guardB,hg] at hw
     simp only[Option.getD_none] at hw
     rw[if_pos hw]
     exact pY_wp hf (hnd _ _ hi) (fun c w h=>(hQ _ _ _).2 h) (opR_none hg hd) hgo
    |some g=>
     obtain⟨k,want⟩:=g
     simp only[guardB,hg] at hw
     simp only[Option.getD_some] at hw
     simp only[opR,hg,pGd] at hd
     rw[hw]
     split
     ·rename_i hy
      rw[if_pos hy] at hd
      exact pY_wp hf (hnd _ _ hi) (fun c w h=>(hQ _ _ _).2 h) (pX_up hd) hgo
     ·rename_i hy
      rw[if_neg hy] at hd
      exact⟨fun _ _=>trivial,hgo _ _ hd⟩
end
end
section
abbrev PR:=Exit→Env→List Nat→World→Prop
abbrev thenR (next:Env→List Nat→World→Prop) (Q:PR):PR
 | .normal,ρ,ms,w=>next ρ ms w
 |e,ρ,ms,w=>Q e ρ ms w
abbrev inBlockR (id:Nat) (Q:PR):PR
 | .exit k,ρ,ms,w=>if k=id then Q .normal ρ ms w else Q (.exit k) ρ ms w
 |e,ρ,ms,w=>Q e ρ ms w
abbrev loopR (n:Nat) (I:List Nat→PT n) (m:MT n) (live:List Nat) (k:Nat) (Q:PR):PR
 | .normal,ρ,ms,w=>apP n (I ms) (live.map ρ) w∧apM n m (live.map ρ) w<k
 |e,ρ,ms,w=>Q e ρ ms w
def cutR (x:PR→Prop) (y:Env→List Nat→World→Prop) (live:List Nat) (mods:Nat) (Q:PR) (ρ:Env):Prop:=
 ∃I:List Nat→PT live.length,x (thenR (fun ρ' ms' w'=>apP live.length (I ms') (live.map ρ') w') Q)∧
  ∀j:Env,allV live.length fun vs=>∀ms' w',apP live.length (I ms') vs w'→y (mkE ρ mods j live vs) ms' w'
def nthV:List Value→Nat→Value
 | [],_=>undef
 |v::_,0=>v
 |_::r,n+1=>nthV r n
def putsE (ρ:Env):List Nat→Nat→List Value→Env
 |p::ps,i,vs=>putsE (ρ.put (some p) (nthV vs i)) ps (i+1) vs
 | [],_,_=>ρ
def exitsOf:Code→List Nat
 | .exit id=>[id]
 | .seq x y=>exitsOf x++exitsOf y
 | .cond _ x y=>exitsOf x++exitsOf y
 | .block _ c=>exitsOf c
 | .loop c=>exitsOf c
 | .rangeFunc _ _ _ c=>exitsOf c
 |_=>[]
def mkD (r:Nat):Deferred:={ target:= .collected r,args:=#[] }
def busyOf (r:Loop):Loop:={ r with state:= .busy }
def leftBy (r:Loop) (c:Code):Loop:={ r with state:= .done,pending:=some c }
def spent (r:Loop):Loop:={ r with state:= .exhausted }
def bgW (l:Nat) (rc:Loop) (w:World) (K:World→Prop):Prop:=w.heap[l]? =some (.loop rc)∧K (w.putObj l (.loop (busyOf rc)))
def enW (l:Nat) (rc:Loop) (c:Option Code) (K:Value→World→Prop) (w:World):Prop:=
 w.heap[l]? =some (.loop (busyOf rc))∧match c with
  |none=>K (.bool true) (w.putObj l (.loop rc))
  |some c=>K (.bool false) (w.putObj l (.loop (leftBy rc c)))
abbrev rndQ (l:Nat) (rc:Loop) (K:Value→World→Prop):PR
 | .normal,_,_,w=>enW l rc none K w
 | .ret,_,_,w=>enW l rc (some .ret) K w
 | .exit id,_,_,w=>enW l rc (some (.exit id)) K w
 |_,_,_,_=>False
abbrev LX:=List (Nat×(List Nat→World→Prop))
def jx:LX→Nat→List Nat→World→Prop
 | [],_,_,_=>False
 |(k,q)::r,id,ms,w=>match Nat.beq k id with
  |true=>q ms w
  |false=>jx r id ms w
def jmpW (l:Nat) (ms:List Nat) (N R:List Nat→World→Prop) (X:LX) (w:World):Prop:=
 ∃rc:Loop,w.heap[l]? =some (.loop rc)∧rc.state≠ .busy∧match rc.pending with
  |none=>N ms (w.putObj l (.loop (spent rc)))
  |some .ret=>R ms (w.putObj l (.loop (spent rc)))
  |some (.exit id)=>jx X id ms (w.putObj l (.loop (spent rc)))
  |_=>False
def pE (P:Program) (m:Sem Next) (w:World) (K:Value→World→Prop):Prop:=∃f args,m.run P w= .ok (.enter f args) w∧Calls P f args w (@retP Pan.no K)
def rfB (P:Program) (ms:List Nat) (l:Nat) (rc:Loop) (w:World) (g:Value) (np:Nat) (B:Nat→Loop→List Value→World→(Value→World→Prop)→Prop) (N R:List Nat→World→Prop) (X:LX):Prop:=
 (∀(Z:Pan) (args:List Value) (w':World) (K:Value→World→Prop),args.length=np→w'.heap[l]? =some (.loop rc)→B l rc args w' K→ @pY Z P (oCallV (.func (.yield l) #[] #[]) args) w' K)→
 pE P (oCallV g [.func (.yield l) #[] #[]]) w fun _ w₂=>jmpW l ms N R X w₂
def rfW (P:Program) (rd:Option Nat) (ms:List Nat) (w:World) (g:Value) (np:Nat) (B:Nat→Loop→List Value→World→(Value→World→Prop)→Prop) (N R:List Nat→World→Prop) (X:LX):Prop:=
 match rd with
 |none=>∀rc:Loop,rc.state= .ready→rc.pending=none→rfB P (w.heap.size::ms) (w.heap.size+1) rc ((w.alloc (.deferred (some []))).alloc (.loop rc)) g np B N R X
 |some l₀=>(∃r,w.heap[l₀]? =some (.loop r))∧∀rc:Loop,rc.state= .ready→rc.pending=none→rfB P ms w.heap.size rc (w.alloc (.loop rc)) g np B N R X
def cwR (P:Program) (H:Hints):Code→Option Nat→PR→Env→List Nat→World→Prop
 | .skip,_,Q,ρ,ms,w=>Q .normal ρ ms w
 | .seq x y,rd,Q,ρ,ms,w=>match (firstRg y).bind H.cut with
  |none=>cwR P H x rd (thenR (fun ρ' ms' w'=>cwR P H y rd Q ρ' ms' w') Q) ρ ms w
  |some (live,mods)=>cutR (fun Q'=>cwR P H x rd Q' ρ ms w) (fun ρ' ms' w'=>cwR P H y rd Q ρ' ms' w') live mods Q ρ
 | .region id ops b,_,Q,ρ,ms,w=>match b with
  |false=> @rgR Pan.no P ops ops.toList ρ w fun ρ' w'=>Q .normal ρ' ms w'
  |true=>pDr w fun w=>match H.order id with
   | []=> @dwR Pan.no P ops ops.size (Array.replicate ops.size false) [] ρ w fun ρ' w'=>Q .normal ρ' ms w'
   |s=> @dwSR Pan.no P ops ops.toList s [] ρ w fun ρ' w'=>Q .normal ρ' ms w'
 | .cond c x y,rd,Q,ρ,ms,w=>pIf (ev ρ c) (cwR P H x rd Q ρ ms w) (cwR P H y rd Q ρ ms w)
 | .block id c,rd,Q,ρ,ms,w=>cwR P H c rd (inBlockR id Q) ρ ms w
 | .loop c,rd,Q,ρ,ms,w=>match (firstRg c).map H.loop with
  |some (live,mods)=>∃(I:List Nat→PT live.length) (m:MT live.length),apP live.length (I ms) (live.map ρ) w∧
   ∀j:Env,allV live.length fun vs=>∀ms' w',apP live.length (I ms') vs w'→
    cwR P H c rd (loopR live.length I m live (apM live.length m vs w') Q) (mkE ρ mods j live vs) ms' w'
  |none=>False
 | .rangeFunc g ps assign body,rd,Q,ρ,ms,w=>rfW P rd ms w (ev ρ g) ps.toList.length
   (fun l rc args w K=>cwR P H assign (some l) (thenR (fun ρ' ms' w'=>bgW l rc w' fun w''=>cwR P H body (some l) (rndQ l rc K) ρ' ms' w'') (fun _ _ _ _=>False)) (putsE ρ ps.toList 0 args) [] w)
   (Q .normal ρ) (Q .ret ρ) ((exitsOf body).map fun id=>(id,Q (.exit id) ρ))
 | .exit id,_,Q,ρ,ms,w=>Q (.exit id) ρ ms w
 | .ret,_,Q,ρ,ms,w=>Q .ret ρ ms w
 |_,_,_,_,_,_=>False
def servedR (H:Hints) (n:Nat):Code→Bool
 | .skip| .exit _| .ret=>true
 | .seq x y=>servedR H n x&&servedR H n y&&(match (firstRg y).bind H.cut with
  |none=>true
  |some (_,mods)=>(writes x).all fun t=>mods.testBit t)
 | .region id ops b=>((opWrites ops.toList).all fun t=>Nat.blt t n)&&(ops.toList.all notDf)&&match b with
  |false=>true
  |true=>Region.noSelect ops&&(match H.order id with
   | []=>true
   |s=>okS ops ops.toList ops.toList.length s 0&&Nat.beq s.length ops.toList.length&&(ops.toList.all fun o=>o.after.toList.all fun e=>Nat.blt e.on ops.toList.length))
 | .cond _ x y=>servedR H n x&&servedR H n y
 | .block _ c=>servedR H n c
 | .loop c=>servedR H n c&&(match (firstRg c).map H.loop with
  |some (_,mods)=>(writes c).all fun t=>mods.testBit t
  |none=>false)
 | .rangeFunc _ ps assign body=>servedR H n assign&&servedR H n body&&ps.toList.all fun t=>Nat.blt t n
 |_=>false
abbrev FrmR (n:Nat) (ms:List Nat):Frm:=⟨n,0,ms.map mkD,fun _=>undef⟩
def UpR (n:Nat) (a:Act) (ws:List Nat) (Q:PR):Exit→Act→World→Prop
 | .panic _,_,_=>False
 | .outgrown,_,_=>False
 | .goto _,_,_=>False
 |e,a',w=>(∀t,t∉ws→a'.tmps.getD t undef=a.tmps.getD t undef)∧∃ρ' ms',Fits (FrmR n ms') a' ρ'∧Q e ρ' ms' w
theorem UpR.mono {n:Nat} {a:Act} {ws ws':List Nat} {Q:PR} (hw:∀t∈ws,t∈ws'):∀e a' w,UpR n a ws Q e a' w→UpR n a ws' Q e a' w:=by
 intro e a' w h
 cases e<;>first|exact h|exact⟨fun t ht=>h.1 t fun hm=>ht (hw t hm),h.2⟩
theorem UpR.next {n:Nat} {a a₁:Act} {ws ws':List Nat} {Q:PR} (hk:∀t,t∉ws→a₁.tmps.getD t undef=a.tmps.getD t undef):∀e a' w,UpR n a₁ ws' Q e a' w→UpR n a (ws++ws') Q e a' w:=by
 intro e a' w h
 have key:∀t,t∉ws++ws'→(∀t,t∉ws'→a'.tmps.getD t undef=a₁.tmps.getD t undef)→a'.tmps.getD t undef=a.tmps.getD t undef:=by
  intro t ht h1
  simp only[List.mem_append,not_or] at ht
  rw[h1 t ht.2,hk t ht.1]
 cases e<;>first|exact h|exact⟨fun t ht=>key t ht h.1,h.2⟩
theorem UpR.letsOut {n:Nat} {a:Act} {ws:List Nat} {Q:PR}:¬LetsOut (UpR n a ws Q):=fun⟨_,_,h⟩=>h
theorem nthV_app (v:Value) (r:List Value):∀pre:List Value,nthV (pre++v::r) pre.length=v
 | []=>rfl
 |u::pre=>nthV_app v r pre
theorem puts_fits {n:Nat} {ms:List Nat}:∀(ps:List Nat) (pre vs:List Value) {a:Act} {ρ:Env},Fits (FrmR n ms) a ρ→(∀p∈ps,p<n)→vs.length=ps.length→
  Fits (FrmR n ms) { a with tmps:=(ps.zip vs).foldl (fun tmps (t,v)=>tmps.setIfInBounds t v) a.tmps } (putsE ρ ps pre.length (pre++vs))
 | [],_,[],_,_,hf,_,_=>hf
 |p::ps,pre,v::vs,a,ρ,hf,h,hl=>by
  have h1:=hf.put (d:=some p) (fun t ht=>by cases ht;exact⟨Nat.zero_le _,h p List.mem_cons_self⟩) v
  have h2:=puts_fits ps (pre++[v]) vs h1 (fun q hq=>h q (List.mem_cons_of_mem _ hq)) (by simpa using hl)
  simp only[putsE,nthV_app]
  simp only[List.length_append,List.length_singleton,List.append_assoc,List.singleton_append] at h2
  exact h2
theorem fits_round {n:Nat} {ms:List Nat} {a:Act} {ρ:Env} (hf:Fits (FrmR n ms) a ρ):Fits (FrmR n []) { tmps:=a.tmps,defers:=[] } ρ:=⟨hf.size,rfl,hf.get,fun t ht=>absurd ht (Nat.not_lt_zero t)⟩
theorem fits_more {n:Nat} {ms ms':List Nat} {a:Act} {ρ:Env} (hf:Fits (FrmR n ms) a ρ):Fits (FrmR n ms') { tmps:=a.tmps,defers:=ms'.map mkD } ρ:=⟨hf.size,rfl,hf.get,fun t ht=>absurd ht (Nat.not_lt_zero t)⟩
theorem jx_get {X:LX} {id:Nat} {ms:List Nat} {w:World} (h:jx X id ms w):∃q,(id,q)∈X∧q ms w:=by
 induction X with
 |nil=>exact h.elim
 |cons p r ih=>
  obtain⟨k,q⟩:=p
  simp only[jx] at h
  cases e:Nat.beq k id with
  |true=>rw[e] at h;rw[←Nat.eq_of_beq_eq_true e];exact⟨q,List.mem_cons_self,h⟩
  |false=>rw[e] at h;obtain⟨q',h1,h2⟩:=ih h;exact⟨q',List.mem_cons_of_mem _ h1,h2⟩
theorem rfB_wp {P:Program} {n:Nat} {g:Operand} {ps:Array Tmp} {assign body:Code} {a:Act} {ρ:Env} {ms ms':List Nat} {w₁:World} {l:Nat} {rd:Option Nat} {fn:FuncId} {ws:List Nat} {Q:PR} {blk:Nat}
  {B:Nat→Loop→List Value→World→(Value→World→Prop)→Prop} (hf:Fits (FrmR n ms) a ρ)
  (hB:∀(args:List Value) (w':World) (K:Value→World→Prop) (rc:Loop),args.length=ps.toList.length→rc={ state:= .ready,pending:=none,fn:=fn,tmps:=a.tmps,params:=ps,assign:=assign,body:=body,defers:=blk }→w'.heap[l]? =some (.loop rc)→B l rc args w' K→
   RoundIn (Fr none) 0 P l fn ((ps.zip args.toArray).foldl (fun tmps (t,a)=>tmps.setIfInBounds t a) a.tmps) assign body w' (@retP Pan.no K))
  (hb:rfB P ms' l { state:= .ready,pending:=none,fn:=fn,tmps:=a.tmps,params:=ps,assign:=assign,body:=body,defers:=blk } w₁ (ev ρ g) ps.toList.length B (Q .normal ρ) (Q .ret ρ) ((exitsOf body).map fun id=>(id,Q (.exit id) ρ))):
  ∃(d:Deferred) (f:FuncId) (args:Array Value) (w₂:World),(resolve a.eval (rangeCall g l) 0).run P w₁= .ok d w₁∧(invoke d.target d.args).run P w₁= .ok (.enter f args) w₂∧
   CallsIn (Fr rd) 0 P f args w₂ (rangePost (Fr rd) 0 P l (UpR n a ws Q) { tmps:=a.tmps,defers:=ms'.map mkD }):=by
 obtain⟨f,args,hrun,hcall⟩:=hb fun Z args w' K hl hw hBB=>by
  have hR:=hB args w' K _ hl rfl hw hBB
  have hy:(oCallV (.func (.yield l) #[] #[]) args).run P w'= .ok (.round l fn ((ps.zip args.toArray).foldl (fun tmps (t,a)=>tmps.setIfInBounds t a) a.tmps) assign body) w':=by
   have:=run_yield (P:=P) (args:=args.toArray) hw (by simpa using hl)
   have e:oCallV (.func (.yield l) #[] #[]) args=Instr.yield l args.toArray:=by
    simp only[oCallV,Deferred.ofValue,pure_bind,invoke,Array.empty_append,Array.append_empty]
   rw[e];exact this
  unfold pY rY
  rw[hy]
  exact RoundIn.mono hR fun e w' he=>by
   cases e with
   |returned v=>exact he
   |panicked c=>exact he.elim
   |outgrown=>exact he.elim
 have e:(resolve a.eval (rangeCall g l) 0)=Deferred.ofValue (ev ρ g) #[.func (.yield l) #[] #[]]:=by
  rw[hf.eval]
  simp[resolve,rangeCall,ev]
 unfold oCallV at hrun
 rw[Sem.run_bind] at hrun
 have hinv:∀(s:Value) (xs:Array Value) (d:Deferred) (w':World),(Deferred.ofValue s xs).run P w₁= .ok d w'→w'=w₁:=by
  intro s xs d w' h
  unfold Deferred.ofValue at h
  split at h<;>first|(cases h;rfl)|(simp[Sem.run,runtimePanic,stuck] at h)|skip
  all_goals (cases h)
 cases hd:(Deferred.ofValue (ev ρ g) #[.func (.yield l) #[] #[]]).run P w₁ with
 |halt x w'=>
  have hd':(Deferred.ofValue (ev ρ g) ([Value.func (.yield l) #[] #[]]:List Value).toArray).run P w₁= .halt x w':=hd
  rw[hd'] at hrun
  simp[Result.andThen] at hrun
 |ok d w'=>
  obtain rfl:=hinv _ _ _ _ hd
  have hd':(Deferred.ofValue (ev ρ g) ([Value.func (.yield l) #[] #[]]:List Value).toArray).run P w'= .ok d w':=hd
  rw[hd',Result.andThen_ok] at hrun
  refine⟨d,f,args,w',by rw[e];exact hd,hrun,Fr.calls (Calls.mono hcall fun e w₂ he=>?_)⟩
  cases e with
  |panicked c=>exact he.elim
  |outgrown=>exact he.elim
  |returned v=>
   obtain⟨rc,hrc,hst,hp⟩:=he
   refine⟨rc.pending,w₂.putObj l (.loop (spent rc)),run_endLoop hrc hst,?_⟩
   generalize w₂.putObj l (.loop (spent rc))=W at hp ⊢
   have hf2:Fits (FrmR n ms') { tmps:=a.tmps,defers:=ms'.map mkD } ρ:=fits_more hf
   cases hpd:rc.pending with
   |none=>rw[hpd] at hp;exact⟨fun _ _=>rfl,ρ,ms',hf2,hp⟩
   |some c=>
    rw[hpd] at hp
    cases c with
    |ret=>exact wpIn_ret ⟨fun _ _=>rfl,ρ,ms',hf2,hp⟩
    |exit id=>
     obtain⟨q,hq,hqq⟩:=jx_get hp
     obtain⟨id',_,he⟩:=List.mem_map.1 hq
     cases he
     exact wpIn_exit ⟨fun _ _=>rfl,ρ,ms',hf2,hqq⟩
    |_=>exact hp.elim
theorem cwR_wp {P:Program} (hm:P.follows .mixedOrders=true) {H:Hints} {n:Nat} (c:Code):∀{rd:Option Nat} {Q:PR} {ρ:Env} {ms:List Nat} {w:World} {a:Act},
  servedR H n c=true→Fits (FrmR n ms) a ρ→cwR P H c rd Q ρ ms w→c.wpIn (Fr rd) 0 P (UpR n a (writes c) Q) a w:=by
 induction c with
 |skip=>intro rd Q ρ ms w a _ hf h;exact wpIn_skip ⟨fun _ _=>rfl,ρ,ms,hf,h⟩
 |exit id=>intro rd Q ρ ms w a _ hf h;exact wpIn_exit ⟨fun _ _=>rfl,ρ,ms,hf,h⟩
 |ret=>intro rd Q ρ ms w a _ hf h;exact wpIn_ret ⟨fun _ _=>rfl,ρ,ms,hf,h⟩
 |region id ops draw=>
  intro rd Q ρ ms w a hs hf h
  simp only[servedR,Bool.and_eq_true] at hs
  obtain⟨⟨hs1,hnd⟩,hs2⟩:=hs
  simp only[List.all_eq_true] at hs1 hnd
  have hndj:∀(j:Nat) (o:Oper),ops[j]? =some o→notDf o=true:=fun j o ho=>hnd o (by simpa using Array.mem_of_getElem? ho)
  have hlt:∀t∈opWrites ops.toList,(FrmR n ms).lo≤t∧t<(FrmR n ms).n:=fun t ht=>⟨Nat.zero_le _,by simpa [Nat.blt_eq] using hs1 t ht⟩
  cases draw with
  |true=>
   simp only[Bool.and_eq_true] at hs2
   obtain⟨hs2,hs3⟩:=hs2
   simp only[cwR,pDr] at h
   refine wpIn_region_any hm (wpAnyIn_of_T _ _ [] _ _ ?_)
   have hcl:Clo ops (Array.replicate ops.size false):=by
    intro j o ho hl
    have hlt:=(Array.getElem?_eq_some_iff.1 ho).1
    simp[hlt] at hl
   have hq:∀c a' w,UpR n a (writes (.region id ops true)) Q (.panic c) a' w↔ @PZ Pan.no (FrmR n ms) a' c w:=fun c a' w=>⟨fun h=>h.elim,fun h=>h.z⟩
   cases ho:H.order id with
   |nil=>
    rw[ho] at h
    exact dwR_any (P:=P) (rd:=rd) hs2 hndj hlt (Q:=UpR n a (writes (.region id ops true)) Q) hq UpR.letsOut a
     (fun a' ρ' w' hk hf' hq=>⟨hk,ρ',ms,hf',hq⟩) ops.size _ [] ρ a _ hcl hf (fun _ _=>rfl) (fun p hp=>by cases hp) h
   |cons p r=>
    rw[ho] at h hs3
    simp only[Bool.and_eq_true] at hs3
    obtain⟨⟨hok,hlen⟩,hed⟩:=hs3
    have hlen:=Nat.eq_of_beq_eq_true hlen
    simp only[Array.length_toList] at hok hlen hed
    have hb:∀(j:Nat) (o:Oper),ops[j]? =some o→∀e∈o.after,Region.binds .any e=true→e.on<ops.size:=by
     intro j o hj e he _
     simp only[List.all_eq_true] at hed
     have:=hed o (by simpa using Array.mem_of_getElem? hj) e (by simpa using he)
     simpa [Nat.blt_eq] using this
    have hrel:RelM ops.size 0 (Array.replicate ops.size false):=⟨by simp,fun j hj=>by simp[hj]⟩
    have H:=dwSR_any (P:=P) (rd:=rd) hs2 hndj hlt hb (Q:=UpR n a (writes (.region id ops true)) Q) hq UpR.letsOut a
     (fun a' ρ' w' hk hf' hq=>⟨hk,ρ',ms,hf',hq⟩) (p::r) 0 _ [] ρ a _ hrel hok hcl hf (fun _ _=>rfl) (fun p hp=>by cases hp) h
    rw[hlen] at H
    exact H
  |false=>
   exact wpIn_region_list (rgR_wp (n:=FrmR n ms) ops.toList (fun c a w h=>h.z) hnd hlt hf h fun a' ρ' w' hk hf' hq=>⟨hk,ρ',ms,hf',hq⟩)
 |seq x y ihx ihy=>
  intro rd Q ρ ms w a hs hf h
  simp only[servedR,Bool.and_eq_true] at hs
  simp only[cwR] at h
  refine wpIn_seq ?_
  have fin:∀{Q':Env→List Nat→World→Prop} e a' w,UpR n a (writes x) (thenR Q' Q) e a' w→e≠ .normal→Exit.then (y.wpIn (Fr rd) 0 P (UpR n a (writes (.seq x y)) Q)) (UpR n a (writes (.seq x y)) Q) e a' w:=by
   intro Q' e a' w hq hne
   have hw:∀t∈writes x,t∈writes (.seq x y):=by simp[writes];intro t ht;exact .inl ht
   cases e with
   |normal=>exact absurd rfl hne
   |panic c=>exact hq.elim
   |outgrown=>exact hq.elim
   |goto l=>exact hq.elim
   |exit id=>exact⟨fun t ht=>hq.1 t fun hm=>ht (hw t hm),hq.2⟩
   |ret=>exact⟨fun t ht=>hq.1 t fun hm=>ht (hw t hm),hq.2⟩
  split at h
  ·have hs:=hs.1
   refine wpIn_mono (ihx hs.1 hf h) fun e a' w' hq=>?_
   cases e with
   |normal=>
    obtain⟨hk,ρ',ms',hf',hq'⟩:=hq
    exact wpIn_mono (ihy hs.2 hf' hq') (UpR.next hk)
   |_=>exact fin _ _ _ hq (by simp)
  ·rename_i live mods hcut
   have hmods:∀t,mods.testBit t=false→t∉writes x:=by
    have:=hs.2
    rw[hcut] at this
    simp only[List.all_eq_true] at this
    intro t ht hm
    rw[this t hm] at ht;cases ht
   have hs:=hs.1
   obtain⟨I,hx,hy⟩:=h
   refine wpIn_mono (ihx hs.1 hf hx) fun e a' w' hq=>?_
   cases e with
   |normal=>
    obtain⟨hk,ρ',ms',hf',hq'⟩:=hq
    have hy':=allV_get (hy ρ') (live.map ρ') (by simp) ms' w' hq'
    have hm:mkE ρ mods ρ' live (live.map ρ')=ρ':=mkE_self ρ ρ' _ (fun t ht=>by rw[←hf'.get t,hk t (hmods t ht),hf.get t]) live
    dsimp only at hy'
    rw[hm] at hy'
    exact wpIn_mono (ihy hs.2 hf' hy') (UpR.next hk)
   |_=>exact fin _ _ _ hq (by simp)
 |cond c x y ihx ihy=>
  intro rd Q ρ ms w a hs hf h
  simp only[servedR,Bool.and_eq_true] at hs
  simp only[cwR] at h
  have hc:a.eval c=ev ρ c:=by rw[hf.eval]
  unfold pIf at h
  split at h
  ·rename_i hv
   exact wpIn_cond_true (hc.trans hv) (wpIn_mono (ihx hs.1 hf h) (UpR.mono (by simp[writes];intro t ht;exact .inl ht)))
  ·rename_i hv
   exact wpIn_cond_false (hc.trans hv) (wpIn_mono (ihy hs.2 hf h) (UpR.mono (by simp[writes];intro t ht;exact .inr ht)))
  ·exact h.elim
 |block id c ih=>
  intro rd Q ρ ms w a hs hf h
  simp only[servedR] at hs
  simp only[cwR] at h
  refine wpIn_block (wpIn_mono (ih hs hf h) fun e a' w' hq=>?_)
  cases e with
  |panic c=>exact hq.elim
  |outgrown=>exact hq.elim
  |goto l=>exact hq.elim
  |normal=>exact hq
  |ret=>exact hq
  |exit k=>
   obtain⟨hk,ρ',ms',hf',hq'⟩:=hq
   simp only[inBlockR] at hq'
   simp only[Exit.inBlock]
   split
   ·rename_i e;rw[if_pos e] at hq';exact⟨hk,ρ',ms',hf',hq'⟩
   ·rename_i e;rw[if_neg e] at hq';exact⟨hk,ρ',ms',hf',hq'⟩
 |loop c ih=>
  intro rd Q ρ ms w a hs hf h
  simp only[servedR,Bool.and_eq_true] at hs
  simp only[cwR] at h
  obtain⟨hs,hmm⟩:=hs
  split at h
  rotate_left
  ·exact h.elim
  rename_i live mods hlm
  rw[hlm] at hmm
  simp only[List.all_eq_true] at hmm
  have hmods:∀t,mods.testBit t=false→t∉writes c:=by
   intro t ht hm
   rw[hmm t hm] at ht;cases ht
  obtain⟨I,m,h0,hstep⟩:=h
  refine wpIn_loop (fun a' w'=>(∀t,t∉writes c→a'.tmps.getD t undef=a.tmps.getD t undef)∧a'.tmps.size=n∧∃ms',a'.defers=ms'.map mkD∧apP live.length (I ms') (live.map fun t=>a'.tmps.getD t undef) w')
   (fun a' w'=>apM live.length m (live.map fun t=>a'.tmps.getD t undef) w') ⟨fun _ _=>rfl,hf.size,ms,hf.defers,?_⟩ ?_
  ·have e:(fun t=>a.tmps.getD t undef)=ρ:=funext hf.get
   rw[e];exact h0
  ·intro a₁ w₁ ⟨hk,hsz,ms₁,hdf,hI⟩
   have hf₁:Fits (FrmR n ms₁) a₁ (fun t=>a₁.tmps.getD t undef):=⟨hsz,hdf,fun _=>rfl,fun t ht=>absurd ht (Nat.not_lt_zero t)⟩
   have hs':=allV_get (hstep fun t=>a₁.tmps.getD t undef) (live.map fun t=>a₁.tmps.getD t undef) (by simp) ms₁ w₁ hI
   rw[mkE_self ρ _ _ (fun t ht=>by rw[hk t (hmods t ht),hf.get t]) live] at hs'
   refine wpIn_mono (ih hs hf₁ hs') fun e a' w' hq=>?_
   cases e with
   |panic c=>exact hq.elim
   |outgrown=>exact hq.elim
   |goto l=>exact hq.elim
   |normal=>
    obtain⟨hk',ρ',ms',hf',hq'⟩:=hq
    have e:(fun t=>a'.tmps.getD t undef)=ρ':=funext hf'.get
    refine⟨⟨fun t ht=>(hk' t ht).trans (hk t ht),hf'.size,ms',hf'.defers,?_⟩,?_⟩
    ·rw[e];exact hq'.1
    ·rw[e];exact hq'.2
   |exit k=>exact⟨fun t ht=>(hq.1 t ht).trans (hk t ht),hq.2⟩
   |ret=>exact⟨fun t ht=>(hq.1 t ht).trans (hk t ht),hq.2⟩
 |rangeFunc g ps assign body iha ihb=>
  intro rd Q ρ ms w a hs hf h
  simp only[servedR,Bool.and_eq_true,List.all_eq_true] at hs
  obtain⟨⟨hs1,hs2⟩,hs3⟩:=hs
  simp only[cwR] at h
  have hps:∀p∈ps.toList,p<n:=fun p hp=>by simpa [Nat.blt_eq] using hs3 p hp
  --a round,out of its body
  have round:∀(fn:FuncId) (blk l:Nat) (args:List Value) (w':World) (K:Value→World→Prop) (rc:Loop),args.length=ps.toList.length→rc={ state:= .ready,pending:=none,fn:=fn,tmps:=a.tmps,params:=ps,assign:=assign,body:=body,defers:=blk }→w'.heap[l]? =some (.loop rc)→
    cwR P H assign (some l) (thenR (fun ρ' ms' w'=>bgW l rc w' fun w''=>cwR P H body (some l) (rndQ l rc K) ρ' ms' w'') (fun _ _ _ _=>False)) (putsE ρ ps.toList 0 args) [] w'→
    RoundIn (Fr none) 0 P l fn ((ps.zip args.toArray).foldl (fun tmps (t,a)=>tmps.setIfInBounds t a) a.tmps) assign body w' (@retP Pan.no K):=by
   intro fn blk l args w' K rc hl hrc hw hB
   have hf0:=puts_fits ps.toList [] args (fits_round hf) hps (by simpa using hl)
   have ez:(ps.zip args.toArray).foldl (fun tmps (t,a)=>tmps.setIfInBounds t a) a.tmps=(ps.toList.zip args).foldl (fun tmps (t,a)=>tmps.setIfInBounds t a) a.tmps:=by
    rw[←Array.foldl_toList,Array.toList_zip]
   rw[ez]
   refine roundIn_of_wpIn (F:=Fr none) trivial ?_
   refine wpIn_mono (iha (rd:=some l) hs1 hf0 hB) fun e a' w₁ hq=>?_
   cases e with
   |panic c=>exact hq.elim
   |outgrown=>exact hq.elim
   |goto l=>exact hq.elim
   |exit k=>exact hq.2.choose_spec.choose_spec.2.elim
   |ret=>exact hq.2.choose_spec.choose_spec.2.elim
   |normal=>
    obtain⟨_,ρ',ms',hf',hb1,hb2⟩:=hq
    have hrdy:rc.state= .ready:=by rw[hrc]
    refine⟨_,run_beginRound hb1 hrdy,wpIn_mono (ihb (rd:=some l) hs2 hf' hb2) fun e a'' w₂ hq=>?_⟩
    have hback:({ busyOf rc with state:=if (none:Option Code).isNone then .ready else .done,pending:=none }:Loop)=rc:=by rw[hrc];rfl
    have hleft:∀c:Code,({ busyOf rc with state:=if (some c).isNone then .ready else .done,pending:=some c }:Loop)=leftBy rc c:=fun c=>rfl
    cases e with
    |panic c=>exact hq.elim
    |outgrown=>exact hq.elim
    |goto l=>exact hq.elim
    |normal=>
     obtain⟨_,_,_,_,h1,h2⟩:=hq
     refine⟨_,_,run_endRound none h1,?_⟩
     rw[hback];exact h2
    |ret=>
     obtain⟨_,_,_,_,h1,h2⟩:=hq
     exact⟨_,_,run_endRound (some .ret) h1,h2⟩
    |exit id=>
     obtain⟨_,_,_,_,h1,h2⟩:=hq
     exact⟨_,_,run_endRound (some (.exit id)) h1,h2⟩
  refine wpIn_rangeFunc fun fn _=>?_
  unfold rfW at h
  cases rd with
  |none=>
   dsimp only at h
   have hb:=h { state:= .ready,pending:=none,fn:=fn,tmps:=a.tmps,params:=ps,assign:=assign,body:=body,defers:=w.heap.size } rfl rfl
   obtain⟨d,f,args,w₂,h1,h2,h3⟩:=rfB_wp (rd:=none) (ws:=writes (.rangeFunc g ps assign body)) hf (fun args w' K rc=>round fn _ _ args w' K rc) hb
   refine⟨_,_,_,d,_,f,args,w₂,run_enterLoop_outer fn a.tmps ps assign body,h1,fun _ _=>trivial,h2,Fr.deep _ _,?_⟩
   have e:([{ target:= .collected w.heap.size,args:=#[] }]:List Deferred)++a.defers=(w.heap.size::ms).map mkD:=by rw[hf.defers];rfl
   rw[e];exact h3
  |some l₀=>
   dsimp only at h
   obtain⟨⟨r,hr⟩,h⟩:=h
   have hb:=h { state:= .ready,pending:=none,fn:=fn,tmps:=a.tmps,params:=ps,assign:=assign,body:=body,defers:=r.defers } rfl rfl
   obtain⟨d,f,args,w₂,h1,h2,h3⟩:=rfB_wp (rd:=some l₀) (ws:=writes (.rangeFunc g ps assign body)) hf (fun args w' K rc=>round fn _ _ args w' K rc) hb
   refine⟨w.heap.size,[],_,d,_,f,args,w₂,?_,h1,fun _ _=>trivial,h2,Fr.deep _ _,?_⟩
   ·unfold Instr.enterLoop
    simp only[Sem.run_bind,run_getLoop hr,run_newObj_alloc,Result.andThen,Sem.run_pure]
   ·have e:([]:List Deferred)++a.defers=ms.map mkD:=by rw[hf.defers];rfl
    rw[e];exact h3
 |scope c=>intro rd Q ρ ms w a hs;simp[servedR] at hs
 |label l=>intro rd Q ρ ms w a hs;simp[servedR] at hs
 |goto l=>intro rd Q ρ ms w a hs;simp[servedR] at hs
 |refuse s=>intro rd Q ρ ms w a hs;simp[servedR] at hs
def mkW:List Nat→World→(World→Prop)→Prop
 | [],w,K=>K w
 |r::ms,w,K=>w.heap[r]? =some (.deferred (some []))∧mkW ms (w.putObj r (.deferred none)) K
abbrev endR (P:Program) (rs:List ResultVar) (K:Value→World→Prop):PR
 | .normal,ρ,ms,w=>mkW ms w fun w=> @resW P rs [] ρ w K
 | .ret,ρ,ms,w=>mkW ms w fun w=> @resW P rs [] ρ w K
 |_,_,_,_=>False
theorem leavesM {P:Program} {fn:Func} {n:Nat} {ρ:Env} {K:Value→World→Prop} (ms:List Nat):∀{a:Act} {w:World},Fits (FrmR n ms) a ρ→mkW ms w (fun w=> @resW P fn.results.toList [] ρ w K)→
  LeavesInM (Fr none) 0 P fn a.tmps (@retP Pan.no K) (ms.map mkD) .returning w:=by
 induction ms with
 |nil=>
  intro a w hf h
  obtain⟨vs,hr,hK⟩:=resW_run _ _ h
  exact⟨_,results_one hf fn w P vs hr,by simpa [retP] using hK⟩
 |cons r ms ih=>
  intro a w hf h
  obtain⟨h1,h2⟩:=h
  have hf2:Fits (FrmR n ms) { tmps:=a.tmps,defers:=ms.map mkD } ρ:=⟨hf.size,rfl,hf.get,fun t ht=>absurd ht (Nat.not_lt_zero t)⟩
  exact⟨by simp,.inl ⟨r,_,rfl,run_takeDeferred h1,ih (a:={ tmps:=a.tmps,defers:=ms.map mkD }) hf2 h2⟩⟩
theorem calls_of_cwR {P:Program} (hm:P.follows .mixedOrders=true) {H:Hints} {f:FuncId} {fn:Func} {c:Code} {args:List Value} {w:World} {K:Value→World→Prop}
  (hfn:P.funcs[f]? =some fn) (hb:fn.body=some c) (hs:servedR H fn.ntmps c=true) (ha:args.length≤fn.ntmps)
  (h:cwR P H c none (endR P fn.results.toList K) (argsE args) [] w):Calls P f args.toArray w (@retP Pan.no K):=by
 refine(callsIn_wide (n:=0)).1 ?_
 refine callsIn_of_wp_marks (F:=Fr none) hfn hb trivial ?_
 have hf:Fits (FrmR fn.ntmps []) { tmps:=args.toArray++Array.replicate (fn.ntmps-args.toArray.size) undef,defers:=[] } (argsE args):=fits_new fn.ntmps args ha
 refine wpIn_mono (cwR_wp hm c hs hf h) fun e a' w' hq=>?_
 cases e with
 |panic c=>exact hq.elim
 |outgrown=>exact hq.elim
 |goto l=>exact hq.elim
 |exit id=>exact hq.2.choose_spec.choose_spec.2.elim
 |normal=>
  obtain⟨_,ρ',ms',hf',hq⟩:=hq
  show LeavesInM (Fr none) 0 P fn a'.tmps (@retP Pan.no K) a'.defers .returning w'
  rw[hf'.defers]
  exact leavesM ms' hf' hq
 |ret=>
  obtain⟨_,ρ',ms',hf',hq⟩:=hq
  show LeavesInM (Fr none) 0 P fn a'.tmps (@retP Pan.no K) a'.defers .returning w'
  rw[hf'.defers]
  exact leavesM ms' hf' hq
end
section
set_option maxRecDepth 100000
def cdc_CutR.H:Hints:={ cut:=fun|_=>none,loop:=fun|_=>([],0),order:=fun|_=>[] }
def cdc_CutR.F (x0:Value) (x1:Value) (w:World) (Q:Value→World→Prop):Prop:=
 pN zp (oBox 27 x1) w fun x3 w1=>
 pN zp (oLoad 27 x3) w1 fun x9 w2=>
 pN zp (oCall 87 [x9]) w2 fun x10 w3=>
 pN zp (oBin .neq 38 (.tmp 11) (.const (.int .i64 0)) x10 (.int .i64 0)) w3 fun x12 w4=>
 pIf x12
 (mkW [] w4 fun w5=>
 Q (.tuple #[(.slice none 0 0),x10]) w5)
 (pN zp (oAlloc 46) w4 fun x7 w6=>
 pN zp (oLoad 27 x3) w6 fun x15 w7=>
 pN zp (oCall 103 [x0,x15]) w7 fun x16 w8=>
 rfW zp none [] w8 x16 1 (fun l1 rc1 as1 w9 K1=>
 bgW l1 rc1 w9 fun w10=>
 pN zp (oLoad 46 x7) w10 fun x18 w12=>
 pN zp (oBs 46 1 [(0,(nthV as1 0))]) w12 fun x20 w13=>
 pN zp (oBi .append #[46,46] 46 [false,false] [x18,x20]) w13 fun x21 w14=>
 pN zp (oStore 46 x7 x21) w14 fun _ w15=>
 enW l1 rc1 none K1 w15)
 (fun mr1 w11=>
 pN zp (oLoad 46 x7) w11 fun x22 w16=>
 mkW mr1 w16 fun w17=>
 Q (.tuple #[x22,(.int .i64 0)]) w17)
 (fun mr1 w11=>
 mkW mr1 w11 fun w18=>
 Q (.tuple #[(.slice none 0 0),(.int .i64 0)]) w18)
 [])
noncomputable def cdc_CutR.c:Code:=match Tryz.f63.body with|some c=>c|none=> .skip
theorem cdc_CutR.eq (x0:Value) (x1:Value) (w:World) (Q:Value→World→Prop):cwR zp cdc_CutR.H cdc_CutR.c none (endR zp Tryz.f63.results.toList Q) (argsE [x0,x1]) [] w=cdc_CutR.F x0 x1 w Q:=by kernel_rfl
theorem cdc_CutR.calls {x0:Value} {x1:Value} {w:World} {Q:Value→World→Prop} (h:cdc_CutR.F x0 x1 w Q):Calls zp 63 #[x0,x1] w (@retP Pan.no Q):=
 calls_of_cwR (H:=cdc_CutR.H) (c:=cdc_CutR.c) (args:=[x0,x1]) mixed Tryz.func63 (by kernel_rfl) (by kernel_rfl) (Nat.le_of_ble_eq_true (by kernel_rfl)) ((cdc_CutR.eq x0 x1 w Q).mpr h)
def cdc_ends_c1R.H:Hints:={ cut:=fun|_=>none,loop:=fun|2=>([5],1073740000)|_=>([],0),order:=fun|_=>[] }
def cdc_ends_c1R.F (x0:Value) (x1:Value) (x2:Value) (w:World) (Q:Value→World→Prop):Prop:=
 pN zp (oLoad 27 x1) w fun x8 w1=>
 pN zp (oBuild 230 [(0,x8)]) w1 fun x9 w2=>
 pN zp (oBox 230 x9) w2 fun x10 w3=>
 ∃(L2:List Nat→Value→World→Prop) (m2:Value→World→Nat),
 L2 [] (.int .i64 0) w3∧
 ∀(_k2:Env) (at5l2:Value) (ms2:List Nat) (w4:World),L2 ms2 at5l2 w4→
 pN zp (oLoad 47 x2) w4 fun x12 w5=>
 pN zp (oBi .len #[47] 3 [false] [x12]) w5 fun x13 w6=>
 pN zp (oBin .lss 3 (.tmp 11) (.tmp 13) at5l2 x13) w6 fun x14 w7=>
 pIf x14
 (pN zp (oLoad 47 x2) w7 fun x17 w8=>
 pN zp (oSl 47 x17 (some at5l2) none none) w8 fun x19 w9=>
 pN zp (oCall 134 [x10,x19]) w9 fun x20 w10=>
 pN zp (oExt x20 0) w10 fun x21 w11=>
 pN zp (oExt x20 1) w11 fun _ w12=>
 pN zp (oBin .add 3 (.tmp 23) (.tmp 24) at5l2 x21) w12 fun x25 w13=>
 pY zp (oCallV x0 [x25]) w13 fun x28 w14=>
 pN zp (oUn .not x28) w14 fun x29 w15=>
 pIf x29
 (mkW ms2 w15 fun w16=>
 Q (.tuple #[]) w16)
 ((L2 ms2 x25 w15∧m2 x25 w15<m2 at5l2 w4)))
 (mkW ms2 w7 fun w17=>
 Q (.tuple #[]) w17)
noncomputable def cdc_ends_c1R.c:Code:=match Tryz.f133.body with|some c=>c|none=> .skip
theorem cdc_ends_c1R.eq (x0:Value) (x1:Value) (x2:Value) (w:World) (Q:Value→World→Prop):cwR zp cdc_ends_c1R.H cdc_ends_c1R.c none (endR zp Tryz.f133.results.toList Q) (argsE [x0,x1,x2]) [] w=cdc_ends_c1R.F x0 x1 x2 w Q:=by kernel_rfl
theorem cdc_ends_c1R.calls {x0:Value} {x1:Value} {x2:Value} {w:World} {Q:Value→World→Prop} (h:cdc_ends_c1R.F x0 x1 x2 w Q):Calls zp 133 #[x0,x1,x2] w (@retP Pan.no Q):=
 calls_of_cwR (H:=cdc_ends_c1R.H) (c:=cdc_ends_c1R.c) (args:=[x0,x1,x2]) mixed Tryz.func133 (by kernel_rfl) (by kernel_rfl) (Nat.le_of_ble_eq_true (by kernel_rfl)) ((cdc_ends_c1R.eq x0 x1 x2 w Q).mpr h)
end
section
def lpB (l:Nat) (rc:Loop):HA:=blk l (.loop rc)
def mark (r:Nat):HA:=blk r (.deferred (some []))
abbrev ylV (l:Nat):Value:= .func (.yield l) #[] #[]
section
variable {P:Program} {E w w':World} {L M:List HA} {l r:Nat} {rc:Loop} {K:World→Prop} {KV:Value→World→Prop} {ms:List Nat}
theorem Sat.put_blk {b:Nat} {o o':Obj} (hS:Sat E w (blk b o::L)):Sat E (w.putObj b o') (blk b o'::L):=by
 refine hS.turn rfl rfl rfl fun h1 hA s=>?_
 have hb:=s b o hA
 have hlt:b<w.heap.size:=(Array.getElem?_eq_some_iff.1 hb).1
 refine⟨fun k=>if k=b then some o' else h1 k,by simp[blk],?_,?_⟩
 ·intro k o ek
  dsimp only at ek
  split at ek
  ·rename_i hkb;subst hkb;cases ek;exact World.putObj_heap_same hlt
  ·rename_i hkb;rw[World.putObj_heap_other hkb];exact s k o ek
 ·intro k o ek hn
  have hkb:k≠b:=fun e=>by subst e;rw[hA] at hn;cases hn
  dsimp only
  rw[if_neg hkb,World.putObj_heap_other hkb]
  exact⟨ek,hn⟩
theorem lpB_at (hS:Sat E w L) [h:Fnd (lpB l) L rc M]:w.heap[l]? =some (.loop rc):=(hS.fd (lpB l)).blk_at 0 rfl
theorem bg_go (hS:Sat E w L) [h:Fnd (lpB l) L rc M] (hk:∀w',Sat E w' (lpB l (busyOf rc)::M)→K w'):bgW l rc w K:=
 ⟨lpB_at hS,hk _ (Sat.put_blk (hS.fd (lpB l)))⟩
theorem en_none (hS:Sat E w L) [h:Fnd (lpB l) L (busyOf rc) M] (hk:∀w',Sat E w' (lpB l rc::M)→KV (.bool true) w'):enW l rc none KV w:=
 ⟨lpB_at hS,hk _ (Sat.put_blk (hS.fd (lpB l)))⟩
theorem mk_nil (hk:K w):mkW [] w K:=hk
theorem mk_go (hS:Sat E w L) [h:Has (mark r) L M] (hk:∀w',Sat E w' M→mkW ms w' K):mkW (r::ms) w K:=by
 have h1:Sat E w (mark r::M):=hS.perm h.perm
 exact⟨h1.blk_at 0 rfl,hk _ (Sat.put_blk h1).drop⟩
section
variable {N R:List Nat→World→Prop} {X:LX}
theorem jmp_n (hS:Sat E w L) [h:Fnd (lpB l) L rc M] (hst:rc.state= .ready) (hp:rc.pending=none) (hk:∀w',Sat E w' M→N ms w'):jmpW l ms N R X w:=by
 refine⟨rc,lpB_at hS,by rw[hst];simp,?_⟩
 rw[hp]
 exact hk _ (Sat.put_blk (hS.fd (lpB l))).drop
def YR (P:Program) (l:Nat) (rc:Loop) (np:Nat) (B:Nat→Loop→List Value→World→(Value→World→Prop)→Prop):Prop:=
 ∀(Z:Pan) (args:List Value) (w':World) (K:Value→World→Prop),args.length=np→w'.heap[l]? =some (.loop rc)→B l rc args w' K→ @pY Z P (oCallV (ylV l) args) w' K
theorem YR.go {np:Nat} {B:Nat→Loop→List Value→World→(Value→World→Prop)→Prop} {args:List Value} [Z:Pan] (h:YR P l rc np B) (hS:Sat E w L) [hf:Fnd (lpB l) L rc M] (hn:args.length=np) (hB:B l rc args w KV):pY P (oCallV (ylV l) args) w KV:=
 h Z args w KV hn (lpB_at hS) hB
variable {g:Value} {np:Nat} {B:Nat→Loop→List Value→World→(Value→World→Prop)→Prop}
theorem rf_go (hS:Sat E w L) (hk:∀(l D:Nat) (rc:Loop) (w':World),rc.state= .ready→rc.pending=none→Sat E w' (lpB l rc::mark D::L)→YR P l rc np B→pE P (oCallV g [ylV l]) w' fun _ w₂=>jmpW l (D::ms) N R X w₂):
  rfW P none ms w g np B N R X:=by
 intro rc h1 h2 hy
 have hs1:=(hS.alloc (.deferred (some []))).alloc (.loop rc)
 rw[World.size_alloc] at hs1
 exact hk _ _ rc _ h1 h2 hs1 hy
end
theorem pE_fn {f:FuncId} {cap:List Value} {y:Value} {Q:Value→World→Prop} (hc:∀(args:Array Value) (w:World),(callFunc f args).run P w= .ok (.enter f args) w)
  (h:Calls P f (y::cap).toArray w (@retP Pan.no Q)):pE P (oCallV (.func (.func f) #[] cap.toArray) [y]) w Q:=by
 refine⟨f,(y::cap).toArray,?_,h⟩
 have e:oCallV (.func (.func f) #[] cap.toArray) [y]=callFunc f ((#[]++#[y])++cap.toArray):=rfl
 rw[e,hc]
 simp
theorem pY_mono [Pan] {m:Sem Next} {KV':Value→World→Prop} (h:pY P m w KV) (hk:∀v w,KV v w→KV' v w):pY P m w KV':=by
 have hr:∀(e:Ending) (w':World),retP KV e w'→retP KV' e w':=fun e w' he=>by
  cases e with
  |returned v=>exact hk _ _ he
  |panicked c=>exact he
  |outgrown=>exact he
 unfold pY rY at*
 split
 ·rename_i heq
  rw[heq] at h
  exact RoundIn.mono h hr
 ·rename_i hn
  have h2:rN P (m.run P w) KV:=by
   split at h
   ·rename_i heq;exact absurd heq (hn _ _ _ _ _ _)
   ·exact h
  unfold rN at*
  split at h2
  ·exact hk _ _ h2
  ·exact hk _ _ h2
  ·exact Calls.mono h2 hr
  ·exact h2
  ·exact h2.elim
end
end
section
attribute [local irreducible] oMv oV oU oCall oCallV oBi oBin oUn oLoad oStore oNil oFld oField oIdx oIndex oPick oAlloc oBox oBuild oBs oConv oMk oSl oExt oFn oIface oMap oLook oMapUp oRange oNext oEntry oInv oAssert oPanic oRes pN pA pL pDr pIf gA pGd Calls
section
namespace C
theorem ends_at:∀(pre:List (List UInt8)) (q:List UInt8) (r:List (List UInt8)) (a:Nat),(ends a (pre++q::r))[pre.length]? =some (a+pre.flatten.length+q.length)
 | [],q,r,a=>by simp[ends]
 |p::pre,q,r,a=>by
  rw[List.cons_append,ends,List.length_cons,List.getElem?_cons_succ,ends_at pre q r,List.flatten_cons,List.length_append]
  congr 1;omega
theorem eat_nil (k:K) (s:W) (n:Nat):eat k s n []=(0,false):=rfl
theorem eat_over {k:K} {s:W} {n:Nat} {x:UInt8} {r:List UInt8} (h:over k (roll s x) (n+1)=true):eat k s n (x::r)=(1,true):=by rw[eat,if_pos h]
theorem eat_on {k:K} {s:W} {n:Nat} {x:UInt8} {r:List UInt8} (h:over k (roll s x) (n+1)=false):eat k s n (x::r)=((eat k (roll s x) (n+1) r).1+1,(eat k (roll s x) (n+1) r).2):=by rw[eat,h];rfl
theorem roll_eq (s:W) (x:UInt8):s<<<1+gear x=roll s x:=rfl
end C
abbrev rlC (k:C.K) (s:C.W) (n:Nat):List Value:=[.int .i64 k.least,.int .i64 k.most,.int .i64 k.bits,lv s,.int .i64 n]
theorem run_bRoll (k:C.K) (w:World):(oBuild 230 [(0,.agg #[.int .i64 k.least,.int .i64 k.most,.int .i64 k.bits])]).run zp w= .ok (.value (.agg (rlC k 0 0).toArray)) w:=by kernel_rfl
theorem pN_bRoll [Pan] {w:World} {K:Value→World→Prop} {k:C.K} (hk:K (.agg (rlC k 0 0).toArray) w):pN zp (oBuild 230 [(0,.agg #[.int .i64 k.least,.int .i64 k.most,.int .i64 k.bits])]) w K:=by rw[pN_def,run_bRoll,rN_value];exact hk
attribute [local irreducible] C.over C.eat C.ends mkW bgW enW rfW jmpW pY pE
section
variable [Pan] {E w W:World} {K Q:Value→World→Prop} {J:Value→Prop} {L M N:List HA} {l r:List UInt8} {s s2:Sl} {b:Nat}
theorem CLegal_ok (k:C.K) (hS:Sat E w M) (hQ:∀w,Sat E w M→Q (.int .i64 (if k.legal then 0 else 6)) w):Calls zp 87 #[.agg #[.int .i64 k.least,.int .i64 k.most,.int .i64 k.bits]] w (retP Q):=by
 refine cdc_Legal.calls ?_
 unfold cdc_Legal.F
 refine pN_bx (z:=[.int .i64 k.least,.int .i64 k.most,.int .i64 k.bits]) hS rfl ?_
 clear hS
 intro b w hS
 have hyes:k.legal→Q (.int .i64 0) w:=fun h=>by rw[if_pos h] at hQ;exact hQ _ hS.drop
 have hno:¬k.legal→Q (.int .i64 6) w:=fun h=>by rw[if_neg h] at hQ;exact hQ _ hS.drop
 clear hQ
 unfold C.K.legal at hyes hno
 by_cases h1:k.least<64
 ·repeat' (first|(refine pN_lss_s ?_ ?_<;>intro hc<;>try (exfalso;omega))|refine pIf_t ?_|refine pGd_no (by rfl) ?_|refine pN_l hS (by first|rfl|assumption) ?_|refine pN_v (hk:=?_)|fail)
  exact hno (by omega)
 ·by_cases h2:k.least>k.most
  ·repeat' (first|((first|refine pN_lss_s ?_ ?_|refine pN_gtr_s ?_ ?_)<;>intro hc<;>try (exfalso;omega))|refine pIf_t ?_|refine pGd_go (by rfl) ?_|refine pGd_no (by rfl) ?_|refine pN_l hS (by first|rfl|assumption) ?_|refine pN_v (hk:=?_)|fail)
   exact hno (by omega)
  ·by_cases h3:k.most>1048576
   ·repeat' (first|((first|refine pN_lss_s ?_ ?_|refine pN_gtr_s ?_ ?_)<;>intro hc<;>try (exfalso;omega))|refine pIf_t ?_|refine pGd_go (by rfl) ?_|refine pGd_no (by rfl) ?_|refine pN_l hS (by first|rfl|assumption) ?_|refine pN_v (hk:=?_)|fail)
    exact hno (by omega)
   ·by_cases h4:k.bits<0
    ·repeat' (first|((first|refine pN_lss_s ?_ ?_|refine pN_gtr_s ?_ ?_)<;>intro hc<;>try (exfalso;omega))|refine pIf_t ?_|refine pGd_go (by rfl) ?_|refine pGd_no (by rfl) ?_|refine pN_l hS (by first|rfl|assumption) ?_|refine pN_v (hk:=?_)|fail)
     exact hno (by omega)
    ·by_cases h5:k.bits>20
     ·repeat' (first|((first|refine pN_lss_s ?_ ?_|refine pN_gtr_s ?_ ?_)<;>intro hc<;>try (exfalso;omega))|refine pIf_t ?_|refine pGd_go (by rfl) ?_|refine pN_l hS (by first|rfl|assumption) ?_|refine pN_v (hk:=?_)|fail)
      exact hno (by omega)
     ·repeat' (first|((first|refine pN_lss_s ?_ ?_|refine pN_gtr_s ?_ ?_)<;>intro hc<;>try (exfalso;omega))|refine pIf_f ?_|refine pGd_go (by rfl) ?_|refine pN_l hS (by first|rfl|assumption) ?_|refine pN_v (hk:=?_)|fail)
      exact hyes (by omega)
theorem Gear_ok (c:UInt8) (hS:Sat E w M) (hQ:∀w,Sat E w M→Q (lv (C.gear c)) w):Calls zp 182 #[bv c] w (retP Q):=by
 refine cdc_Gear.calls ?_
 unfold cdc_Gear.F
 repeat' (first|refine pN_tol ?_|refine pN_add_vk 1#64 rfl ?_|refine pN_mul_vk 11400714819323198485#64 rfl ?_|refine pN_mul_vk 13787848793156543929#64 rfl ?_|refine pN_mul_vk 10723151780598845931#64 rfl ?_|refine pN_shr_v 30 rfl (by omega) ?_|refine pN_shr_v 27 rfl (by omega) ?_|refine pN_shr_v 31 rfl (by omega) ?_|refine pN_xor_v ?_|fail)
 exact hQ _ hS
end
attribute [local irreducible] C.gear C.roll C.fst
section
variable [Pan] {E w W:World} {K Q:Value→World→Prop} {J:Value→Prop} {L M N:List HA} {l r:List UInt8} {s s2:Sl} {b:Nat}
set_option maxHeartbeats 2000000 in
set_option maxRecDepth 8000 in
theorem Eat_ok {k:C.K} (hk:k.legal) (t:C.W) (n:Nat) (hS:Sat E w (cel b ⟨230,rlC k t n⟩::M)) [hr:Rds cd_uint8 M s l] (hn:n+l.length<4611686018427387904)
  (hQ:∀t' n' w,((C.eat k t n l).2=true→t'=0∧n'=0)→Sat E w (cel b ⟨230,rlC k t' n'⟩::M)→Q (.tuple #[.int .i64 (C.eat k t n l).1,.bool (C.eat k t n l).2]) w):
  Calls zp 134 #[.pointer (some ⟨b,0,none⟩),.slice s.a l.length s.c] w (retP Q):=by
 obtain⟨k1,k2,k3,k4,k5⟩:=hk
 refine cdc_roll_eat.calls ?_
 unfold cdc_roll_eat.F
 repeat' (first|refine pN_v (hk:=?_)|fail)
 refine⟨fun x w=>∃(i:Nat) (t':C.W),x= .int .i64 i∧i≤l.length∧C.eat k t n l=((C.eat k t' (n+i) (l.drop i)).1+i,(C.eat k t' (n+i) (l.drop i)).2)∧Sat E w (cel b ⟨230,rlC k t' (n+i)⟩::M),fun x _=>l.length-(RowKit.intOf x).toNat,⟨0,t,rfl,by omega,by rw[List.drop_zero];rfl,hS⟩,?_⟩
 clear hS
 rintro _ _ w ⟨i,t',rfl,hi,he,hS⟩
 by_cases hlt:i<l.length
 ·obtain⟨c,hc⟩:∃c,l[i]? =some c:=⟨l[i],by simp[hlt]⟩
  have hd:l.drop i=c::l.drop (i+1):=by
   rw[List.drop_eq_getElem_cons hlt]
   rw[List.getElem?_eq_getElem hlt] at hc
   rw[Option.some.inj hc]
  rw[hd] at he
  have hyes:=fun h=>he.trans (by rw[C.eat_over (k:=k) (s:=t') (n:=n+i) (x:=c) (r:=l.drop (i+1)) h])
  have hno:=fun h=>he.trans (by rw[C.eat_on (k:=k) (s:=t') (n:=n+i) (x:=c) (r:=l.drop (i+1)) h])
  have hov:C.over k (C.roll t' c) (n+i+1)=(decide (k.least≤((n+i+1:Nat):Int))&&(decide (((n+i+1:Nat):Int)=k.most)||decide (C.roll t' c>>>(64-k.bits.toNat)=0#64))):=C.over_eq ..
  have hro:=C.roll_eq t' c
  repeat' (first|refine pA_shl_v 1 rfl (by omega) ?_|(refine pcq (f:=182) (Gear_ok c hS ?_);clear hS;intro w hS)|refine⟨⟨run_l hS (by rfl),trivial⟩,?_⟩|refine pA_add_v ?_|refine pA_shr_v (64-k.bits.toNat) (by omega) (by omega) ?_|refine pA_eql_v0 (fun hC=>?_) (fun hC=>?_)|((first|refine pN_lss_s ?_ ?_|refine pA_geq_s ?_ ?_)<;>intro hc<;>try (exfalso;omega))|(refine pA_eql_s ?_ ?_<;>intro hc<;>try (exfalso;first|omega|exact gone hc|exact gon2 hc))|refine pIf_t ?_|refine pIf_f ?_|refine gA_go (by rfl) ?_|refine gA_no (by rfl) ?_|refine pN_l hS (by first|rfl|assumption) ?_|refine pL_l hS (by first|rfl|assumption) ?_|refine pN_ld1 ha hS ?_|(refine pN_s hS (by first|exact Nat.le_of_ble_eq_true rfl|assumption) (by rfl) ?_;clear hS;intro w hS;try simp only[List.set_cons_zero,List.set_cons_succ] at hS)|(refine pDr_go hS ?_;clear hS;intro w hS)|refine⟨trivial,?_⟩|refine pN_ixk hS _ (by first|rfl|(exact(Int.toNat_of_nonneg (by omega)).symm)) (by first|rfl|omega|simpa only[go_sem] using True.intro|(simp only[go_sem];omega)) (by assumption) fun a ha hel=>?_|refine pN_v (hk:=?_)|refine pA_v (hk:=?_)|fail)
  ·have ho:C.over k (C.roll t' c) (n+i+1)=true:=by
    rw[hov,decide_eq_true (by omega),decide_eq_true (show((n+i+1:Nat):Int)=k.most by omega)];rfl
   have hy:=hyes ho
   have e1:((i:Int)+1)=((1+i:Nat):Int):=by omega
   rw[hy] at hQ
   rw[e1]
   exact hQ 0 0 _ (fun _=>⟨rfl,rfl⟩) hS
  ·rw[hro] at hC
   have ho:C.over k (C.roll t' c) (n+i+1)=true:=by
    rw[hov,decide_eq_true (by omega),decide_eq_true hC,Bool.or_true];rfl
   have hy:=hyes ho
   have e1:((i:Int)+1)=((1+i:Nat):Int):=by omega
   rw[hy] at hQ
   rw[e1]
   exact hQ 0 0 _ (fun _=>⟨rfl,rfl⟩) hS
  ·rw[hro] at hC hS
   have ho:C.over k (C.roll t' c) (n+i+1)=false:=by
    rw[hov,decide_eq_false hC,decide_eq_false (show ¬((n+i+1:Nat):Int)=k.most by omega),Bool.or_false,Bool.and_false]
   have hy:=hno ho
   exact⟨⟨i+1,_,rfl,by omega,by rw[hy];exact Prod.ext (by simp only[Nat.add_assoc,Nat.add_comm 1]) rfl,hS⟩,by simp[RowKit.intOf]<;>omega⟩
  ·rw[hro] at hS
   have ho:C.over k (C.roll t' c) (n+i+1)=false:=by
    rw[hov,decide_eq_false (by omega),Bool.false_and]
   have hy:=hno ho
   exact⟨⟨i+1,_,rfl,by omega,by rw[hy];exact Prod.ext (by simp only[Nat.add_assoc,Nat.add_comm 1]) rfl,hS⟩,by simp[RowKit.intOf]<;>omega⟩
 ·obtain rfl:i=l.length:=by omega
  rw[List.drop_length,C.eat_nil,Nat.zero_add] at he
  rw[he] at hQ
  repeat' (first|(refine pN_lss_s ?_ ?_<;>intro hc<;>try (exfalso;omega))|refine pIf_f ?_|refine pN_v (hk:=?_)|fail)
  exact hQ _ _ _ (fun h=>by cases h) hS
end
section
variable {E w W:World} {K Q:Value→World→Prop} {J:Value→Prop} {L M N:List HA} {l r:List UInt8} {s s2:Sl} {b:Nat}
abbrev endP (cc cb:Nat) (k:C.K) (s:Sl) (l:List UInt8) (L:List HA):List HA:=cel cc ⟨27,[.int .i64 k.least,.int .i64 k.most,.int .i64 k.bits]⟩::cel cb ⟨47,[.slice s.a l.length s.c]⟩::L
set_option maxHeartbeats 2000000 in
theorem Ends_c1_ok {yl:Value} {cc cb:Nat} {k:C.K} (hk:k.legal) (B:Nat→List HA→Prop) (hB0:B 0 L) (hS:Sat E w (endP cc cb k s l L)) (hrd:∀j L,B j L→Rds cd_uint8 L s l) (hl:l.length<2305843009213693952)
  (hY:∀(R:HA) (j e:Nat) (L:List HA) (w:World),(C.ends 0 (C.pieces k l))[j]? =some e→B j L→Sat E w (R::endP cc cb k s l L)→
   pY zp (oCallV yl [.int .i64 e]) w fun v w'=>v= .bool true∧∃L',B (j+1) L'∧Sat E w' (R::endP cc cb k s l L'))
  (hQ:∀L w,B (C.pieces k l).length L→Sat E w (endP cc cb k s l L)→Q (.tuple #[]) w):
  Calls zp 133 #[yl,.pointer (some ⟨cc,0,none⟩),.pointer (some ⟨cb,0,none⟩)] w (retP Q):=by
 refine cdc_ends_c1R.calls ?_
 unfold cdc_ends_c1R.F
 repeat' (first|refine pN_bRoll ?_|refine pN_la hS (by rfl) ?_|(refine pN_bx hS (by rfl) ?_;clear hS;intro a w hS)|fail)
 refine⟨fun ms v w=>ms=[]∧∃(p:Nat) (t:C.W) (n:Nat) (pre:List (List UInt8)) (L:List HA),v= .int .i64 p∧p≤l.length∧C.pieces k l=pre++C.pieces k (l.drop p)∧pre.flatten.length=p∧(p<l.length→t=0∧n=0)∧B pre.length L∧Sat E w (cel a ⟨230,rlC k t n⟩::endP cc cb k s l L),fun v _=>l.length-(RowKit.intOf v).toNat,
  ⟨rfl,0,0,0,[],L,rfl,by omega,by rw[List.drop_zero];rfl,rfl,fun _=>⟨rfl,rfl⟩,hB0,hS⟩,?_⟩
 clear hS hB0
 rintro _ _ _ w ⟨rfl,p,t,n,pre,L,rfl,hp,hpc,hpl,h0,hB,hS⟩
 haveI hr:Rds cd_uint8 L s l:=hrd _ _ hB
 by_cases hlt:p<l.length
 ·obtain⟨rfl,rfl⟩:=h0 hlt
  have hne:l.drop p≠[]:=by
   intro h
   have:=congrArg List.length h
   rw[List.length_drop,List.length_nil] at this
   omega
  rw[C.pieces_cons k hne] at hpc
  have hf1:=C.fst_pos k hne
  have hf2:=C.fst_le k (l.drop p)
  have hall:=C.eat_all k (l.drop p) 0 0
  have hfe:C.fst k (l.drop p)=(C.eat k 0 0 (l.drop p)).1:=C.fst_eq k _
  have hdl:(l.drop p).length=l.length-p:=List.length_drop
  rw[hdl] at hf2 hall
  have htl:((l.drop p).take (C.fst k (l.drop p))).length=C.fst k (l.drop p):=by rw[List.length_take,hdl];omega
  have hend:(C.ends 0 (C.pieces k l))[pre.length]? =some (p+C.fst k (l.drop p)):=by
   rw[hpc,C.ends_at,hpl,htl,Nat.zero_add]
  have hdd:(l.drop p).drop (C.fst k (l.drop p))=l.drop (p+C.fst k (l.drop p)):=by rw[List.drop_drop]
  rw[hdd] at hpc
  repeat' (first|refine pN_sl1 (C:=cd_uint8) (s:=s) (l:=l) hS p rfl rfl (by omega) fun s' hp'=>?_|(refine pN_lss_s ?_ ?_<;>intro hc<;>try (exfalso;omega))|refine pIf_t ?_|refine pN_l hS (by first|rfl|assumption) ?_|refine pN_v (hk:=?_)|fail)
  haveI hrs:Rds cd_uint8 (endP cc cb k s l L) s' (l.drop p):=hp'.rd _ inferInstance
  rw[←hdl]
  refine pcq (f:=134) (Eat_ok hk 0 0 hS (by rw[hdl];omega) ?_)
  clear hS
  intro t' n' w hz hS
  rw[←hfe]
  have hcast:((p:Int)+(C.fst k (l.drop p):Nat))=((p+C.fst k (l.drop p):Nat):Int):=by norm_cast
  repeat' (first|refine pN_v (hk:=?_)|fail)
  rw[hcast]
  refine pY_mono (hY _ pre.length _ L w hend hB hS) ?_
  clear hS
  rintro _ w ⟨rfl,L',hB',hS⟩
  repeat' (first|refine pIf_f ?_|refine pN_v (hk:=?_)|fail)
  refine⟨⟨rfl,p+C.fst k (l.drop p),t',n',pre++[(l.drop p).take (C.fst k (l.drop p))],L',rfl,by omega,?_,?_,fun hlt2=>?_,?_,hS⟩,by simp[RowKit.intOf]<;>omega⟩
  ·rw[hpc,List.append_assoc];rfl
  ·rw[List.flatten_append,List.length_append,hpl]
   simp only[List.flatten_cons,List.flatten_nil,List.append_nil,htl]
  ·cases he2:(C.eat k 0 0 (l.drop p)).2 with
   |true=>exact hz he2
   |false=>
    have:=hall he2
    rw[←hfe] at this
    omega
  ·rw[List.length_append];exact hB'
 ·obtain rfl:p=l.length:=by omega
  rw[List.drop_length,C.pieces_nil,List.append_nil] at hpc
  repeat' (first|(refine pN_lss_s ?_ ?_<;>intro hc<;>try (exfalso;omega))|refine pIf_f ?_|refine pN_l hS (by first|rfl|assumption) ?_|refine pN_v (hk:=?_)|fail)
  rw[←hpc] at hB
  exact mk_nil (hQ L w hB (hS.to))
theorem Ends_ok {k:C.K} (hS:Sat E w M) (hQ:∀cc cb w,Sat E w (endP cc cb k s l M)→Q (.func (.func 133) #[] #[.pointer (some ⟨cc,0,none⟩),.pointer (some ⟨cb,0,none⟩)]) w):
  Calls zp 103 #[.slice s.a l.length s.c,.agg #[.int .i64 k.least,.int .i64 k.most,.int .i64 k.bits]] w (retP Q):=by
 refine cdc_ends.calls ?_
 unfold cdc_ends.F
 refine pN_bx (z:=[.slice s.a l.length s.c]) hS rfl ?_
 clear hS
 intro cb w hS
 refine pN_bx (z:=[.int .i64 k.least,.int .i64 k.most,.int .i64 k.bits]) hS rfl ?_
 clear hS
 intro cc w hS
 repeat' (first|refine pN_fn ?_|fail)
 exact hQ _ _ _ hS
def endsI (k:C.K) (l:List UInt8):List Int:=(C.ends 0 (C.pieces k l)).map fun n:Nat=>(n:Int)
theorem endsI_len (k:C.K) (l:List UInt8):(endsI k l).length=(C.pieces k l).length:=by rw[endsI,List.length_map,C.ends_len]
theorem endsI_get {k:C.K} {l:List UInt8} {j e:Nat} (h:(C.ends 0 (C.pieces k l))[j]? =some e):(endsI k l)[j]? =some (e:Int):=by rw[endsI,List.getElem?_map,h];rfl
set_option maxHeartbeats 2000000 in
theorem Cut_ok {k:C.K} (hk:k.legal) (hS:Sat E w M) [hr:Rds cd_uint8 M s l] (hl:l.length≤1099511627776)
  (hQ:∀so w,Sat E w (rows cd_int so (endsI k l)::M)→Q (.tuple #[.slice so.a (C.pieces k l).length so.c,.int .i64 0]) w):
  Calls zp 63 #[.slice s.a l.length s.c,.agg #[.int .i64 k.least,.int .i64 k.most,.int .i64 k.bits]] w (retP Q):=by
 have hil:=endsI_len k l
 have hpl:=C.pieces_len k l
 have hget:=fun {j e}=> @endsI_get k l j e
 refine cdc_CutR.calls ?_
 unfold cdc_CutR.F
 refine pN_bx (z:=[.int .i64 k.least,.int .i64 k.most,.int .i64 k.bits]) hS rfl ?_
 clear hS
 intro cq w hS
 repeat' (first|(refine pcq (f:=87) (CLegal_ok k hS ?_);rw[if_pos hk];clear hS;intro w hS)|(refine pcq (f:=103) (Ends_ok (s:=s) (l:=l) (k:=k) hS ?_);clear hS;intro cc cb w hS)|(refine pN_neq_s ?_ ?_<;>intro hc<;>try (exfalso;first|omega|exact gone hc|exact gon2 hc))|refine pIf_f ?_|refine pN_la hS (by rfl) ?_|(refine pN_nz hS ?_;clear hS;intro a w hS)|fail)
 refine rf_go hS ?_
 clear hS
 intro lp D rc w hrc1 hrc2 hS hY
 generalize endsI k l=I at*
 have hS:Sat E w (endP cc cb k s l (lpB lp rc::mark D::cel a ⟨46,[.slice none 0 0]⟩::rows cd_int ⟨none,0⟩ (I.take 0)::M)):=by
  have h1:Sat E w (rows cd_int ⟨none,0⟩ []::_):=hS.nil cd_int.e cd_int.size
  rw[List.take_zero]
  exact h1.to
 refine pE_fn (fun a w=>call_cdc_ends_c1 a w) (Ends_c1_ok (s:=s) (l:=l) (cc:=cc) (cb:=cb) hk
  (fun j L=>∃so:Sl,L=(lpB lp rc::mark D::cel a ⟨46,[.slice so.a (I.take j).length so.c]⟩::rows cd_int so (I.take j)::M))
  ⟨⟨none,0⟩,rfl⟩ hS (fun j L ⟨_,e⟩=>by subst e;infer_instance) (by omega) ?_ ?_)
 ·clear hS
  rintro R j e L w he ⟨so,rfl⟩ hS
  have hj:=hget he
  have hjl:=(List.getElem?_eq_some_iff.1 hj).1
  have hb8:((I.take j).length+1)*8≤140737488355328:=by rw[List.length_take];omega
  have hsucc:I.take (j+1)=I.take j++[(e:Int)]:=by rw[List.take_add_one,hj];rfl
  refine hY.go hS rfl ?_
  dsimp only[nthV]
  generalize I.take j=T at*
  repeat' (first|(refine bg_go hS ?_;clear hS;intro w hS)|refine pN_l hS (by first|rfl|assumption) ?_|(refine pN_s hS (by first|exact Nat.le_of_ble_eq_true rfl|assumption) (by rfl) ?_;clear hS;intro w hS;try simp only[List.set_cons_zero,List.set_cons_succ] at hS)|(refine pN_b1 hS (by rfl) (by decide) ?_;clear hS;intro s w hS)|(refine pN_app hS (by first|rfl|omega|simpa only[go_sem] using True.intro|(simp only[go_sem];omega)) (by first|rfl|omega|simpa only[go_sem] using True.intro|(simp only[go_sem];omega)) (by first|omega|(simp only[go_sem];omega)) ?_;clear hS;intro s w hS)|fail)
  refine en_none hS ?_
  clear hS
  intro w hS
  refine⟨rfl,_,⟨s,rfl⟩,?_⟩
  rw[hsucc]
  exact hS.to
 ·clear hS
  rintro L w ⟨so,rfl⟩ hS
  rw[←hil,List.take_length] at hS
  rw[←hil] at hQ
  have hS:Sat E w (lpB lp rc::mark D::cel a ⟨46,[.slice so.a I.length so.c]⟩::rows cd_int so I::M):=hS.to
  refine jmp_n hS hrc1 hrc2 ?_
  clear hS
  intro w hS
  repeat' (first|refine mk_nil ?_|(refine mk_go hS ?_;clear hS;intro w hS)|refine pN_l hS (by first|rfl|assumption) ?_|fail)
  exact hQ _ _ hS.to
end
end
end
section
variable [Pan] {x0 x1:Value} {w:World} {Q:QQ}
set_option maxRecDepth 100000
def bytes_Compare.F (x0 x1:Value) (w:World) (Q:QQ):Prop:=
 pN zp (oCall 106 [x0,x1]) w fun x7 w1=>
 Q x7 w1
theorem bytes_Compare.calls (h:bytes_Compare.F x0 x1 w Q):Calls zp 68 #[x0,x1] w (retP Q):=cl .z [x0,x1] Tryz.func68 h
end
section
variable [Pan] {x0 x1:Value} {w:World} {Q:QQ}
set_option maxRecDepth 100000
def strings_Compare.F (x0 x1:Value) (w:World) (Q:QQ):Prop:=
 pN zp (oCall 128 [x0,x1]) w fun x7 w1=>
 Q x7 w1
theorem strings_Compare.calls (h:strings_Compare.F x0 x1 w Q):Calls zp 98 #[x0,x1] w (retP Q):=cl .z [x0,x1] Tryz.func98 h
def strings_IndexByte.F (x0 x1:Value) (w:World) (Q:QQ):Prop:=
 pN zp (oCall 154 [x0,x1]) w fun x7 w1=>
 Q x7 w1
theorem strings_IndexByte.calls (h:strings_IndexByte.F x0 x1 w Q):Calls zp 121 #[x0,x1] w (retP Q):=cl .z [x0,x1] Tryz.func121 h
end
section
variable [Pan] {x0 x1:Value} {w:World} {Q:QQ}
set_option maxRecDepth 100000
def internal_stringslite_IndexByte.F (x0 x1:Value) (w:World) (Q:QQ):Prop:=
 pN zp (oCall 205 [x0,x1]) w fun x7 w1=>
 Q x7 w1
theorem internal_stringslite_IndexByte.calls (h:internal_stringslite_IndexByte.F x0 x1 w Q):Calls zp 154 #[x0,x1] w (retP Q):=cl .z [x0,x1] Tryz.func154 h
end
section
instance stry:StrY zp 9:=⟨Tryz.underlying9⟩
instance inty:IntY zp 3 .i64:=⟨Tryz.underlying3⟩
namespace A
abbrev ixb (l:List UInt8) (c:UInt8):Int:=Lib.indexByte l c
theorem ixb_ge (l:List UInt8) (c:UInt8): -1≤ixb l c:=Lib.indexByte_ge l c
theorem ixb_mem {l:List UInt8} {c:UInt8}:0≤ixb l c↔c∈l:=by
 constructor
 ·intro h
  obtain⟨o,ho⟩:∃o:Nat,ixb l c=o:=⟨(ixb l c).toNat,by omega⟩
  exact List.mem_of_getElem? (Lib.indexByte_some ho).1
 ·intro h
  refine Decidable.byContradiction fun hn=>?_
  have h1:ixb l c= -1:=by have:=ixb_ge l c;omega
  obtain⟨k,hk⟩:=List.mem_iff_getElem?.1 h
  exact Lib.indexByte_none h1 k hk
end A
section
variable [Pan] {E w:World} {K Q:Value→World→Prop} {L M:List HA} {l r:List UInt8} {s s2:Sl}
omit [Pan] in
theorem u8_toNat (c:UInt8):((c.toNat:Int)).toNat.toUInt8=c:=by simp
theorem pN_ibs (c:UInt8) (hk:K (.int .i64 (A.ixb l c)) w):pN zp (oCall 205 [.string ⟨l.toArray⟩,bv c]) w K:=by
 have h:=run_callFunc_extern (P:=zp) Tryz.func205 (by kernel_rfl) (by kernel_rfl) (by kernel_rfl) (e:=Extern.BytealgIndexByte.indexByte) (by kernel_rfl) #[.string ⟨l.toArray⟩,.int .u8 c.toNat] w
 rw[Lib.run_indexByteString,u8_toNat] at h
 have h2:(oCall 205 [.string ⟨l.toArray⟩,bv c]).run zp w= .ok (.value (.int .i64 (A.ixb l c))) w:=h
 rw[pN_def,h2,rN_value]
 exact hk
attribute [local irreducible] oMv oV oU oCall oCallV oBi oBin oUn oLoad oStore oNil oFld oField oIdx oIndex oPick oAlloc oBox oBuild oBs oConv oMk oSl oExt oFn oIface oMap oLook oMapUp oRange oNext oEntry oInv oAssert oPanic oRes pN pA pL pDr pIf gA pGd Calls
theorem sIndexByte_ok (c:UInt8) (hQ:Q (.int .i64 (A.ixb l c)) w):Calls zp 121 #[.string ⟨l.toArray⟩,bv c] w (retP Q):=by
 refine strings_IndexByte.calls ?_
 unfold strings_IndexByte.F
 refine pcq (f:=154) ?_
 refine internal_stringslite_IndexByte.calls ?_
 unfold internal_stringslite_IndexByte.F
 exact pN_ibs c hQ
end
end
section
attribute [local irreducible] oMv oV oU oCall oCallV oBi oBin oUn oLoad oStore oNil oFld oField oIdx oIndex oPick oAlloc oBox oBuild oBs oConv oMk oSl oExt oFn oIface oMap oLook oMapUp oRange oNext oEntry oInv oAssert oPanic oRes pN pA pL pDr pIf gA pGd Calls
section
namespace D
theorem get_cons {d:T} {i:I32} {l:List I32}:d.get (i::l)=(look d.ps i).bind fun p=>(d.get l).map fun q=>p++q:=by
 rw[T.get]
 cases look d.ps i with
 |none=>rfl
 |some p=>cases d.get l<;>rfl
theorem get_app {d:T}:∀(l m:List I32),d.get (l++m)=(d.get l).bind fun p=>(d.get m).map fun q=>p++q
 | [],m=>by
  rw[List.nil_append]
  show d.get m=(some []).bind _
  cases d.get m<;>simp
 |i::l,m=>by
  rw[List.cons_append,get_cons,get_cons,get_app l m]
  cases look d.ps i with
  |none=>rfl
  |some p=>
   cases d.get l with
   |none=>rfl
   |some q=>cases d.get m<;>simp
theorem get_take {d:T} {l:List I32} {j:Nat} {i:I32} (h:l[j]? =some i):d.get (l.take (j+1))=(d.get (l.take j)).bind fun p=>(look d.ps i).map fun q=>p++q:=by
 rw[List.take_add_one,h,get_app]
 congr 1
 funext p
 show(d.get [i]).map _=_
 rw[get_cons]
 cases look d.ps i with
 |none=>rfl
 |some q=>simp[T.get]
theorem get_none {d:T} {l:List I32} {j:Nat} (h:d.get (l.take j)=none):d.get l=none:=by
 have:=get_app (d:=d) (l.take j) (l.drop j)
 rw[List.take_append_drop,h] at this
 exact this
end D
theorem run_bDep (a b c d e f g h k l m:Int) (x y:Nat) (w:World):(oBuild 129 [(0,.agg #[.int .i64 a,.int .i64 b,.int .i64 c,.int .i64 d,.int .i64 e,.int .i64 f,.int .i64 g,.int .i64 h]),(1,.agg #[.int .i64 k,.int .i64 l,.int .i64 m]),(2,.map (some x)),(3,.map (some y))]).run zp w=
  .ok (.value (.agg #[.int .i64 a,.int .i64 b,.int .i64 c,.int .i64 d,.int .i64 e,.int .i64 f,.int .i64 g,.int .i64 h,.int .i64 k,.int .i64 l,.int .i64 m,.map (some x),.map (some y)])) w:=by kernel_rfl
set_option maxRecDepth 100000 in
theorem pN_bDep [Pan] {w:World} {K:Value→World→Prop} {a b c d e f g h k l m:Int} {x y:Nat} (hk:K (.agg #[.int .i64 a,.int .i64 b,.int .i64 c,.int .i64 d,.int .i64 e,.int .i64 f,.int .i64 g,.int .i64 h,.int .i64 k,.int .i64 l,.int .i64 m,.map (some x),.map (some y)]) w):
  pN zp (oBuild 129 [(0,.agg #[.int .i64 a,.int .i64 b,.int .i64 c,.int .i64 d,.int .i64 e,.int .i64 f,.int .i64 g,.int .i64 h]),(1,.agg #[.int .i64 k,.int .i64 l,.int .i64 m]),(2,.map (some x)),(3,.map (some y))]) w K:=pN_of (run_bDep a b c d e f g h k l m x y w) hk
section
variable [Pan] {E w:World} {K Q:Value→World→Prop} {L M N:List HA} {l r:List UInt8} {s s2:Sl} {c:T_api_Config} {b:Nat} {d:D.T} {li:List I32}
theorem DNew_in {k:C.K} (hc:D.okC c) (hk:k.legal) (hS:Sat E w M) (hQ:∀b w,Sat E w (Dep c b (D.new k)::M)→Q (.tuple #[.pointer (some ⟨b,0,none⟩),.int .i64 0]) w):
  Calls zp 48 #[.agg c.enc.toArray,.agg #[.int .i64 k.least,.int .i64 k.most,.int .i64 k.bits]] w (retP Q):=by
 refine depot_New.calls ?_
 unfold depot_New.F
 refine pN_bx (z:=c.enc) hS rfl ?_
 clear hS
 intro cb w hS
 refine pN_bx (z:=[.int .i64 k.least,.int .i64 k.most,.int .i64 k.bits]) hS rfl ?_
 clear hS
 intro kb w hS
 refine pN_la_at (n:=8) hS c.enc rfl rfl ?_
 refine pcq (f:=86) (Chain_ok c hS ?_)
 rw[if_pos hc]
 clear hS
 intro w hS
 repeat' (first|(refine pcq (f:=87) (CLegal_ok k hS ?_);rw[if_pos hk];clear hS;intro w hS)|(refine pN_neq_s ?_ ?_<;>intro hc<;>try (exfalso;first|omega|exact gone hc|exact gon2 hc))|refine pIf_f ?_|refine pGd_go (by rfl) ?_|refine pN_la hS (by rfl) ?_|refine pN_v (hk:=?_)|fail)
 obtain⟨a0,a1,a2,a3,a4,a5⟩:=c
 refine pN_mkm hS idV fun mb w hS=>?_
 refine pN_mkm hS nke fun nb w hS=>?_
 refine pN_bDep ?_
 refine pN_bx (z:=depC ⟨a0,a1,a2,a3,a4,a5⟩ k mb nb) hS rfl ?_
 clear hS
 intro b w hS
 have hS:Sat E w (depP ⟨a0,a1,a2,a3,a4,a5⟩ b k mb nb [] [] M):=by
  have h1:Sat E w (cel b ⟨129,depC ⟨a0,a1,a2,a3,a4,a5⟩ k mb nb⟩::mp idV mb ([]:List (I32×Value))::mp nke nb ([]:List (NKey×Value))::M):=hS.to
  have h2:Sat E w (cel b ⟨129,depC ⟨a0,a1,a2,a3,a4,a5⟩ k mb nb⟩::mp idV mb ([]:List (I32×Value))::mp nke nb ([]:List (NKey×Value))::bag []::bag []::M):=h1.bag_nil.bag_nil.to
  exact h2
 exact hQ _ _ (Dep.shut (d:=D.new k) ⟨rfl,rfl⟩ rfl hS)
theorem DLegal_ok (n:List UInt8) (hn:n.length≤254) (hQ:Q (.int .i64 0) w):Calls zp 56 #[.string ⟨n.toArray⟩] w (retP Q):=by
 refine depot_Legal.calls ?_
 unfold depot_Legal.F
 repeat' (first|refine pN_slen ?_|(refine pN_gtr_s ?_ ?_<;>intro hc<;>try (exfalso;omega))|refine pIf_f ?_|fail)
 exact hQ
theorem DSet_ok (n:NKey) (hn:n.1.length≤254) (hS:Sat E w L) [hf:Fnd (Dep c b) L d N] [hr:Rds (cdI 58) N s li] (h0:li≠[]) (hl:li.length≤1099511627776)
  (hQ:∀w,Sat E w (Dep c b (d.set n.1 li)::N)→Q (.int .i64 0) w):
  Calls zp 59 #[.pointer (some ⟨b,0,none⟩),nke n,.slice s.a li.length s.c] w (retP Q):=by
 refine depot_Depot_Set.calls ?_
 unfold depot_Depot_Set.F
 have hS1:=hS.fd (Dep c b)
 clear hS hf
 obtain⟨mb,nb,pl,nl,ht,hS⟩:=Dep.opn hS1
 clear hS1
 have hlen:li.length≠0:=fun e=>h0 (List.length_eq_zero_iff.1 e)
 repeat' (first|(refine pcq (f:=56) (DLegal_ok n.1 hn ?_))|(refine pcq (f:=65) (SCloneI_ok (s:=s) (li:=li) hS hl ?_);clear hS;intro s2 w hS)|(refine pN_mup (P:=zp) (t:=127) (ke:=nke) (b:=nb) hS n (slv (s2,li)) ?_;clear hS;intro w hS)|((first|refine pN_eql_s ?_ ?_|refine pN_neq_s ?_ ?_)<;>intro hc<;>try (exfalso;first|omega|exact gone hc|exact gon2 hc))|refine pIf_f ?_|refine pL_l hS (by first|rfl|assumption) ?_|(refine pDr_go hS ?_;clear hS;intro w hS)|refine⟨trivial,?_⟩|refine⟨⟨(by first|exact run_l hS (by first|rfl|assumption)|exact run_st hS (by first|rfl|omega)|exact run_ld1 ha hS|exact fun _=>run_l hS (by rfl)|exact fun _=>run_st hS (by first|rfl|omega)|exact fun _=>run_ld1 ha hS|exact fun h=>Bool.noConfusion h),trivial⟩,?_⟩|refine pN_v (hk:=?_)|refine pA_v (hk:=?_)|refine⟨_,?_,fun _ _ h=>h⟩|fail)
 rw[vals_put] at hS
 have hS:Sat E w (rows (cdI 58) s2 li::bag (keep (cdI 58) nl)::cel b ⟨129,depC c d.k mb nb⟩::mp idV mb (vals pl)::mp nke nb (vals (D.upd nl n (s2,li)))::bag (keep cd_uint8 pl)::N):=hS.to
 have hS:Sat E w (depP c b d.k mb nb pl (D.upd nl n (s2,li)) N):=(keep_put n hS).to
 have hd:d.set n.1 li={ d with ns:=D.upd d.ns n.1 li }:=by unfold D.T.set;rw[if_neg h0]
 exact hQ _ (Dep.shut (d:=d.set n.1 li) (by rw[hd];exact ht.set n s2 li) rfl hS)
set_option maxHeartbeats 2000000 in
theorem DGet_ok (hS:Sat E w L) [hf:Fnd (Dep c b) L d N] [hr:Rds (cdI 58) N s li] (hl:li.length≤1099511627776) (hb:∀j q,d.get (li.take j)=some q→q.length≤140737488355328)
  (hno:d.get li=none→∀w,Sat E w (Dep c b d::N)→Q (.tuple #[.slice none 0 0,.int .i64 8]) w)
  (hok:∀q,d.get li=some q→∀s w,Sat E w (rows cd_uint8 s q::Dep c b d::N)→Q (.tuple #[.slice s.a q.length s.c,.int .i64 0]) w):
  Calls zp 55 #[.pointer (some ⟨b,0,none⟩),.slice s.a li.length s.c] w (retP Q):=by
 refine depot_Depot_Get.calls ?_
 unfold depot_Depot_Get.F
 have hS1:=hS.fd (Dep c b)
 clear hS hf
 obtain⟨mb,nb,pl,nl,ht,hS⟩:=Dep.opn hS1
 clear hS1
 repeat' (first|refine pN_v (hk:=?_)|fail)
 refine⟨fun v v' w=>∃(j:Nat) (so:Sl) (q:List UInt8),v= .slice so.a q.length so.c∧v'= .int .i64 j∧j≤li.length∧d.get (li.take j)=some q∧Sat E w (rows cd_uint8 so q::depP c b d.k mb nb pl nl N),fun _ v _=>li.length-(RowKit.intOf v).toNat,
  ⟨0,⟨none,0⟩,[],rfl,rfl,by omega,by rw[List.take_zero];rfl,hS.nil cd_uint8.e cd_uint8.size⟩,?_⟩
 clear hS
 rintro _ _ _ w ⟨j,so,q,rfl,rfl,hj,hg,hS⟩
 by_cases hlt:j<li.length
 ·obtain⟨i,hi⟩:∃i,li[j]? =some i:=⟨li[j],by simp[hlt]⟩
  have hnext:=D.get_take (d:=d) hi
  have hb1:=hb (j+1)
  rw[hg] at hnext
  have hh:=ht.look i
  have hv0:=vals_get pl i
  repeat' (first|refine pN_ld_at ha hS (i32n i) ?_|(refine pN_sid hS i (by rfl) ?_;clear hS;intro w hS)|refine pL_la_at (n:=32) hS (bvs i.l) (i32t i) (i32n i) ?_|refine pN_lko (P:=zp) (t:=126) (ke:=idV) (b:=mb) hS i (fun v hv=>?_) (fun hv=>?_)|(refine pN_lss_s ?_ ?_<;>intro hc<;>try (exfalso;omega))|refine pIf_t ?_|refine pIf_f ?_|refine pL_l hS (by first|rfl|assumption) ?_|(refine pDr_go hS ?_;clear hS;intro w hS)|(refine pN_nz hS ?_;clear hS;intro a w hS)|refine⟨trivial,?_⟩|refine pN_ixk hS _ (by first|rfl|(exact(Int.toNat_of_nonneg (by omega)).symm)) (by first|rfl|omega|simpa only[go_sem] using True.intro|(simp only[go_sem];omega)) (by assumption) fun a ha hel=>?_|refine pN_v (hk:=?_)|refine pA_v (hk:=?_)|fail)
  ·rw[hv0] at hv
   cases hl2:D.look pl i with
   |none=>rw[hl2] at hv;cases hv
   |some x=>
    rw[hl2] at hv hh
    obtain⟨sx,p⟩:=x
    have hv:Value.slice sx.a p.length sx.c=v:=Option.some.inj hv
    have hh:D.look d.ps i=some p:=hh
    subst hv
    rw[hh] at hnext
    have hnext:d.get (li.take (j+1))=some (q++p):=hnext
    have hq:=hb1 _ hnext
    haveI:RdP cd_uint8 (bag (keep cd_uint8 pl)) sx p:=keep_rd hl2
    rw[List.length_append] at hq
    repeat' (first|(refine pN_app hS (by first|rfl|omega|simpa only[go_sem] using True.intro|(simp only[go_sem];omega)) (by first|rfl|omega|simpa only[go_sem] using True.intro|(simp only[go_sem];omega)) (by first|omega|(simp only[go_sem];omega)) ?_;clear hS;intro s w hS)|refine pN_v (hk:=?_)|fail)
    have hS:Sat E w (rows cd_uint8 s (q++p)::depP c b d.k mb nb pl nl N):=hS.to
    exact⟨⟨j+1,_,_,rfl,rfl,hlt,hnext,hS⟩,by simp[RowKit.intOf]<;>omega⟩
  ·rw[hv0] at hv
   cases hl2:D.look pl i with
   |some x=>rw[hl2] at hv;cases hv
   |none=>
    rw[hl2] at hh
    have hh:D.look d.ps i=none:=hh
    rw[hh] at hnext
    have hS:Sat E w (depP c b d.k mb nb pl nl N):=hS.to
    exact hno (D.get_none (j:=j+1) hnext) _ (Dep.shut ht rfl hS)
 ·obtain rfl:j=li.length:=by omega
  rw[List.take_length] at hg
  repeat' (first|(refine pN_lss_s ?_ ?_<;>intro hc<;>try (exfalso;omega))|refine pIf_f ?_|fail)
  have hS:Sat E w (depP c b d.k mb nb pl nl (rows cd_uint8 so q::N)):=hS.to
  exact hok _ hg _ _ (Dep.shut ht rfl hS).to
end
end
end
section
variable [Pan] {x0 x1:Value} {w:World} {Q:QQ}
set_option maxRecDepth 100000
def sha_Sum.H:Hints:={ cut:=fun _=>none,loop:=fun|3=>([9],130592)|_=>([],0),order:=fun _=>[] }
def sha_Sum.F (x0:Value) (w:World) (Q:QQ):Prop:=
 pN zp (oAlloc 57) w fun x2 w1=>
 pN zp (oCall 92 []) w1 fun x6 w2=>
 pN zp (oBi .len #[71] 3 [false] [x0]) w2 fun x8 w3=>
 ∃(L3:Value→World→Prop) (m3:Value→World→Nat),
 L3 (.int .i64 0) w3∧
 ∀(_k3:Env) (v9l3:Value) (w4:World),L3 v9l3 w4→
 pN zp (oBin .lss 3 (.tmp 9) (.tmp 8) v9l3 x8) w4 fun x10 w5=>
 pIf x10
 (pN zp (oIdx 71 x0 v9l3) w5 fun x11 w6=>
 pN zp (oLoad 47 x11) w6 fun x12 w7=>
 pN zp (oCall 93 [x6,x12]) w7 fun _ w8=>
 pN zp (oBin .add 3 (.tmp 9) (.const (.int .i64 1)) v9l3 (.int .i64 1)) w8 fun x16 w9=>
 (L3 x16 w9∧m3 x16 w9<m3 v9l3 w4))
 (pN zp (oCall 94 [x6]) w5 fun x18 w10=>
 pN zp (oStore 57 x2 x18) w10 fun _ w11=>
 pL zp (oRes 57 x2) w11 fun r2=>
 Q r2 w11)
theorem sha_Sum.calls (h:sha_Sum.F x0 w Q):Calls zp 52 #[x0] w (retP Q):=cl sha_Sum.H [x0] Tryz.func52 h
def sha_New.F (w:World) (Q:QQ):Prop:=
 pN zp (oLoad 214 (.pointer (some ⟨0,0,none⟩))) w fun x1 w1=>
 pN zp (oBuild 217 [(0,x1)]) w1 fun x2 w2=>
 pN zp (oBox 217 x2) w2 fun x3 w3=>
 Q x3 w3
theorem sha_New.calls (h:sha_New.F w Q):Calls zp 92 #[] w (retP Q):=cl .z [] Tryz.func92 h
def sha_Hash_Write.H:Hints:={ cut:=fun|8=>some ([],35184372086880)|_=>none,loop:=fun|1=>([9],70368744177248)|_=>([],0),order:=fun|7=>(ot 13)|_=>[] }
def sha_Hash_Write.F (x0 x1:Value) (w:World) (Q:QQ):Prop:=
 pN zp (oBi .len #[47] 3 [false] [x1]) w fun x8 w1=>
 ∃(L1:Value→World→Prop) (m1:Value→World→Nat),
 L1 (.int .i64 0) w1∧
 ∀(_k1:Env) (v9l1:Value) (w2:World),L1 v9l1 w2→
 pN zp (oBin .lss 3 (.tmp 9) (.tmp 8) v9l1 x8) w2 fun x10 w3=>
 pIf x10
 (∃I8:World→Prop,
 (pN zp (oIdx 47 x1 v9l1) w3 fun x11 w4=>
 pN zp (oLoad 5 x11) w4 fun x12 w5=>
 pN zp (oNil x0) w5 fun x14 w6=>
 pN zp (oFld 217 x14 2) w6 fun x15 w7=>
 pN zp (oLoad 3 x15) w7 fun x16 w8=>
 pN zp (oBin .rem 3 (.tmp 16) (.const (.int .i64 64)) x16 (.int .i64 64)) w8 fun x17 w9=>
 pN zp (oNil x0) w9 fun x21 w10=>
 pN zp (oFld 217 x21 1) w10 fun x22 w11=>
 pN zp (oIdx 215 x22 x17) w11 fun x23 w12=>
 pN zp (oStore 5 x23 x12) w12 fun _ w13=>
 pN zp (oNil x0) w13 fun x25 w14=>
 pN zp (oFld 217 x25 2) w14 fun x26 w15=>
 pN zp (oLoad 3 x26) w15 fun x27 w16=>
 pN zp (oBin .add 3 (.tmp 27) (.const (.int .i64 1)) x27 (.int .i64 1)) w16 fun x28 w17=>
 pN zp (oNil x0) w17 fun x29 w18=>
 pN zp (oFld 217 x29 2) w18 fun x30 w19=>
 pN zp (oStore 3 x30 x28) w19 fun _ w20=>
 pN zp (oBin .eql 3 (.tmp 31) (.const (.int .i64 63)) x17 (.int .i64 63)) w20 fun x32 w21=>
 pIf x32
 (pDr w21 fun w22=>
 pA zp (oNil x0) fun x35=>
 pA zp (oFld 217 x35 0) fun x36=>
 pL zp (oLoad 214 x36) w22 fun x37=>
 pA zp (oNil x0) fun x39=>
 pA zp (oFld 217 x39 1) fun x40=>
 pL zp (oLoad 215 x40) w22 fun x41=>
 pN zp (oCall 125 [x37,x41]) w22 fun x42 w23=>
 (True)∧(pA zp (oNil x0) fun x43=>
 pA zp (oFld 217 x43 0) fun x44=>
 pN zp (oStore 214 x44 x42) w23 fun _ w24=>
 (True)∧(I8 w24)))
 (I8 w21))∧
 ∀(_j8:Env) (w25:World),I8 w25→
 pN zp (oBin .add 3 (.tmp 9) (.const (.int .i64 1)) v9l1 (.int .i64 1)) w25 fun x45 w26=>
 (L1 x45 w26∧m1 x45 w26<m1 v9l1 w2))
 (Q (.tuple #[]) w3)
theorem sha_Hash_Write.calls (h:sha_Hash_Write.F x0 x1 w Q):Calls zp 93 #[x0,x1] w (retP Q):=cl sha_Hash_Write.H [x0,x1] Tryz.func93 h
def sha_Hash_Sum.H:Hints:={ cut:=fun _=>none,loop:=fun|5=>([19],549755289824)|8=>([23],274869518464)|_=>([],0),order:=fun _=>[] }
def sha_Hash_Sum.F (x0:Value) (w:World) (Q:QQ):Prop:=
 pN zp (oAlloc 57) w fun x2 w1=>
 pN zp (oNil x0) w1 fun x9 w2=>
 pN zp (oLoad 217 x9) w2 fun x10 w3=>
 pN zp (oAlloc 217) w3 fun x3 w4=>
 pN zp (oStore 217 x3 x10) w4 fun _ w5=>
 pN zp (oNil x0) w5 fun x12 w6=>
 pN zp (oFld 217 x12 2) w6 fun x13 w7=>
 pN zp (oLoad 3 x13) w7 fun x14 w8=>
 pN zp (oCall 126 [x14]) w8 fun x15 w9=>
 pN zp (oCall 93 [x3,x15]) w9 fun _ w10=>
 pN zp (oAlloc 57) w10 fun x4 w11=>
 pN zp (oFld 217 x3 0) w11 fun x17 w12=>
 pN zp (oLoad 214 x17) w12 fun x18 w13=>
 ∃(L5:Value→World→Prop) (m5:Value→World→Nat),
 L5 (.int .i64 0) w13∧
 ∀(_k5:Env) (v19l5:Value) (w14:World),L5 v19l5 w14→
 pN zp (oBin .lss 3 (.tmp 19) (.const (.int .i64 8)) v19l5 (.int .i64 8)) w14 fun x20 w15=>
 pIf x20
 (pN zp (oIndex 214 x18 v19l5) w15 fun x22 w16=>
 ∃(L8:Value→World→Prop) (m8:Value→World→Nat),
 L8 (.int .i64 0) w16∧
 ∀(_k8:Env) (v23l8:Value) (w17:World),L8 v23l8 w17→
 pN zp (oBin .lss 3 (.tmp 23) (.const (.int .i64 4)) v23l8 (.int .i64 4)) w17 fun x24 w18=>
 pIf x24
 (pN zp (oBin .mul 3 (.const (.int .i64 4)) (.tmp 26) (.int .i64 4) v19l5) w18 fun x27 w19=>
 pN zp (oBin .add 3 (.tmp 27) (.tmp 28) x27 v23l8) w19 fun x29 w20=>
 pN zp (oBin .mul 3 (.const (.int .i64 8)) (.tmp 31) (.int .i64 8) v23l8) w20 fun x32 w21=>
 pN zp (oBin .sub 3 (.const (.int .i64 24)) (.tmp 32) (.int .i64 24) x32) w21 fun x33 w22=>
 pN zp (oBin .shr 213 (.tmp 30) (.tmp 33) x22 x33) w22 fun x34 w23=>
 pN zp (oConv 213 5 x34) w23 fun x35 w24=>
 pN zp (oIdx 57 x4 x29) w24 fun x36 w25=>
 pN zp (oStore 5 x36 x35) w25 fun _ w26=>
 pN zp (oBin .add 3 (.tmp 23) (.const (.int .i64 1)) v23l8 (.int .i64 1)) w26 fun x37 w27=>
 (L8 x37 w27∧m8 x37 w27<m8 v23l8 w17))
 (pN zp (oBin .add 3 (.tmp 19) (.const (.int .i64 1)) v19l5 (.int .i64 1)) w18 fun x38 w28=>
 (L5 x38 w28∧m5 x38 w28<m5 v19l5 w14)))
 (pN zp (oLoad 57 x4) w15 fun x39 w29=>
 pN zp (oStore 57 x2 x39) w29 fun _ w30=>
 pL zp (oRes 57 x2) w30 fun r2=>
 Q r2 w30)
theorem sha_Hash_Sum.calls (h:sha_Hash_Sum.F x0 w Q):Calls zp 94 #[x0] w (retP Q):=cl sha_Hash_Sum.H [x0] Tryz.func94 h
def sha_Step.H:Hints:={ cut:=fun|11=>some ([],158456325028528675187071125440)|_=>none,loop:=fun|3=>([22],316912650057057350374171609024)|14=>([99],191561942608236107294792744568488533837641641923440640)|22=>([177],784446154980726859372178884522564513364842088167733460992)|_=>([],0),order:=fun|6=>(ot 32)|7=>(ot 10)|10=>(ot 16)|16=>(ot 18)|17=>[(0,0),(1,1),(2,3),(4,7),(7,23),(11,151),(12,2199),(13,6295),(14,14487),(15,30871),(16,63639),(17,129175),(18,260247),(20,522391),(21,1570967),(22,3668119),(24,7862423),(25,24639639),(26,58194071),(3,125302935),(5,125302943),(6,125302975),(8,125303039),(9,125303295),(10,125303807),(19,125304831),(23,125829119),(27,134217727),(28,268435455)]|24=>(ot 9)|_=>[] }
def sha_Step.F (x0 x1:Value) (w:World) (Q:QQ):Prop:=
 pN zp (oBox 214 x0) w fun x2 w1=>
 pN zp (oBox 215 x1) w1 fun x3 w2=>
 pN zp (oAlloc 214) w2 fun x4 w3=>
 pN zp (oAlloc 257) w3 fun x5 w4=>
 ∃(L3:Value→World→Prop) (m3:Value→World→Nat),
 L3 (.int .i64 0) w4∧
 ∀(_k3:Env) (v22l3:Value) (w5:World),L3 v22l3 w5→
 pN zp (oBin .lss 3 (.tmp 22) (.const (.int .i64 64)) v22l3 (.int .i64 64)) w5 fun x23 w6=>
 pIf x23
 (∃I11:World→Prop,
 (pN zp (oBin .lss 3 (.tmp 25) (.const (.int .i64 16)) v22l3 (.int .i64 16)) w6 fun x26 w7=>
 pIf x26
 (pDr w7 fun w8=>
 pA zp (oBin .mul 3 (.const (.int .i64 4)) (.tmp 28) (.int .i64 4) v22l3) fun x29=>
 pA zp (oIdx 215 x3 x29) fun x30=>
 pL zp (oLoad 5 x30) w8 fun x31=>
 pL zp (oConv 5 213 x31) w8 fun x32=>
 pA zp (oBin .shl 213 (.tmp 32) (.const (.int .u64 24)) x32 (.int .u64 24)) fun x33=>
 pA zp (oBin .mul 3 (.const (.int .i64 4)) (.tmp 34) (.int .i64 4) v22l3) fun x35=>
 pA zp (oBin .add 3 (.tmp 35) (.const (.int .i64 1)) x35 (.int .i64 1)) fun x36=>
 pA zp (oIdx 215 x3 x36) fun x37=>
 pL zp (oLoad 5 x37) w8 fun x38=>
 pL zp (oConv 5 213 x38) w8 fun x39=>
 pA zp (oBin .shl 213 (.tmp 39) (.const (.int .u64 16)) x39 (.int .u64 16)) fun x40=>
 pA zp (oBin .or 213 (.tmp 33) (.tmp 40) x33 x40) fun x41=>
 pA zp (oBin .mul 3 (.const (.int .i64 4)) (.tmp 42) (.int .i64 4) v22l3) fun x43=>
 pA zp (oBin .add 3 (.tmp 43) (.const (.int .i64 2)) x43 (.int .i64 2)) fun x44=>
 pA zp (oIdx 215 x3 x44) fun x45=>
 pL zp (oLoad 5 x45) w8 fun x46=>
 pL zp (oConv 5 213 x46) w8 fun x47=>
 pA zp (oBin .shl 213 (.tmp 47) (.const (.int .u64 8)) x47 (.int .u64 8)) fun x48=>
 pA zp (oBin .or 213 (.tmp 41) (.tmp 48) x41 x48) fun x49=>
 pA zp (oBin .mul 3 (.const (.int .i64 4)) (.tmp 50) (.int .i64 4) v22l3) fun x51=>
 pA zp (oBin .add 3 (.tmp 51) (.const (.int .i64 3)) x51 (.int .i64 3)) fun x52=>
 pA zp (oIdx 215 x3 x52) fun x53=>
 pL zp (oLoad 5 x53) w8 fun x54=>
 pL zp (oConv 5 213 x54) w8 fun x55=>
 pA zp (oBin .or 213 (.tmp 49) (.tmp 55) x49 x55) fun x56=>
 pA zp (oIdx 257 x5 v22l3) fun x57=>
 pN zp (oStore 213 x57 x56) w8 fun _ w9=>
 (True)∧(I11 w9))
 (pDr w7 fun w10=>
 pA zp (oBin .sub 3 (.tmp 58) (.const (.int .i64 15)) v22l3 (.int .i64 15)) fun x59=>
 pA zp (oIdx 257 x5 x59) fun x60=>
 pL zp (oLoad 213 x60) w10 fun x61=>
 pA zp (oBin .sub 3 (.tmp 62) (.const (.int .i64 2)) v22l3 (.int .i64 2)) fun x63=>
 pA zp (oIdx 257 x5 x63) fun x64=>
 pL zp (oLoad 213 x64) w10 fun x65=>
 pN zp (oCall 175 [x61,(.int .i64 (-7))]) w10 fun x67 w11=>
 pN zp (oCall 175 [x61,(.int .i64 (-18))]) w11 fun x69 w12=>
 pN zp (oBin .xor 213 (.tmp 67) (.tmp 69) x67 x69) w12 fun x70 w13=>
 pN zp (oBin .shr 213 (.tmp 71) (.const (.int .u64 3)) x61 (.int .u64 3)) w13 fun x72 w14=>
 pN zp (oBin .xor 213 (.tmp 70) (.tmp 72) x70 x72) w14 fun x73 w15=>
 pN zp (oCall 175 [x65,(.int .i64 (-17))]) w15 fun x75 w16=>
 pN zp (oCall 175 [x65,(.int .i64 (-19))]) w16 fun x77 w17=>
 pN zp (oBin .xor 213 (.tmp 75) (.tmp 77) x75 x77) w17 fun x78 w18=>
 pN zp (oBin .shr 213 (.tmp 79) (.const (.int .u64 10)) x65 (.int .u64 10)) w18 fun x80 w19=>
 pN zp (oBin .xor 213 (.tmp 78) (.tmp 80) x78 x80) w19 fun x81 w20=>
 pDr w20 fun w21=>
 pA zp (oBin .sub 3 (.tmp 84) (.const (.int .i64 7)) v22l3 (.int .i64 7)) fun x85=>
 pA zp (oIdx 257 x5 x85) fun x86=>
 pL zp (oLoad 213 x86) w21 fun x87=>
 pA zp (oBin .add 213 (.tmp 83) (.tmp 87) x81 x87) fun x88=>
 pA zp (oBin .add 213 (.tmp 88) (.tmp 89) x88 x73) fun x90=>
 pA zp (oBin .sub 3 (.tmp 91) (.const (.int .i64 16)) v22l3 (.int .i64 16)) fun x92=>
 pA zp (oIdx 257 x5 x92) fun x93=>
 pL zp (oLoad 213 x93) w21 fun x94=>
 pA zp (oBin .add 213 (.tmp 90) (.tmp 94) x90 x94) fun x95=>
 pA zp (oIdx 257 x5 v22l3) fun x96=>
 pN zp (oStore 213 x96 x95) w21 fun _ w22=>
 (True)∧(I11 w22)))∧
 ∀(_j11:Env) (w23:World),I11 w23→
 pN zp (oBin .add 3 (.tmp 22) (.const (.int .i64 1)) v22l3 (.int .i64 1)) w23 fun x97 w24=>
 (L3 x97 w24∧m3 x97 w24<m3 v22l3 w5))
 (pN zp (oLoad 214 x2) w6 fun x98 w25=>
 pN zp (oAlloc 214) w25 fun x11 w26=>
 pN zp (oStore 214 x11 x98) w26 fun _ w27=>
 ∃(L14:Value→World→Prop) (m14:Value→World→Nat),
 L14 (.int .i64 0) w27∧
 ∀(_k14:Env) (v99l14:Value) (w28:World),L14 v99l14 w28→
 pN zp (oBin .lss 3 (.tmp 99) (.const (.int .i64 64)) v99l14 (.int .i64 64)) w28 fun x100 w29=>
 pIf x100
 (pDr w29 fun w30=>
 pA zp (oIdx 214 x11 (.int .i64 0)) fun x102=>
 pL zp (oLoad 213 x102) w30 fun x103=>
 pA zp (oIdx 214 x11 (.int .i64 1)) fun x104=>
 pL zp (oLoad 213 x104) w30 fun x105=>
 pA zp (oIdx 214 x11 (.int .i64 2)) fun x106=>
 pL zp (oLoad 213 x106) w30 fun x107=>
 pA zp (oIdx 214 x11 (.int .i64 4)) fun x108=>
 pL zp (oLoad 213 x108) w30 fun x109=>
 pA zp (oIdx 214 x11 (.int .i64 5)) fun x110=>
 pL zp (oLoad 213 x110) w30 fun x111=>
 pA zp (oIdx 214 x11 (.int .i64 6)) fun x112=>
 pL zp (oLoad 213 x112) w30 fun x113=>
 pDr w30 fun w31=>
 pA zp (oIdx 214 x11 (.int .i64 7)) fun x114=>
 pL zp (oLoad 213 x114) w31 fun x115=>
 pA zp (oBin .and 213 (.tmp 125) (.tmp 126) x109 x111) fun x127=>
 pA zp (oUn .xor x109) fun x129=>
 pA zp (oBin .and 213 (.tmp 129) (.tmp 130) x129 x113) fun x131=>
 pA zp (oBin .xor 213 (.tmp 127) (.tmp 131) x127 x131) fun x132=>
 pA zp (oIdx 257 (.pointer (some ⟨2,0,none⟩)) v99l14) fun x135=>
 pL zp (oLoad 213 x135) w31 fun x136=>
 pA zp (oIdx 257 x5 v99l14) fun x139=>
 pL zp (oLoad 213 x139) w31 fun x140=>
 pN zp (oCall 175 [x109,(.int .i64 (-6))]) w31 fun x117 w32=>
 ((Sem.run zp (oLoad 213 x139) w32= .ok (.value x140) w32)∧(Sem.run zp (oLoad 213 x135) w32= .ok (.value x136) w32)∧(Sem.run zp (oLoad 213 x114) w32= .ok (.value x115) w32)∧True)∧(pN zp (oCall 175 [x109,(.int .i64 (-11))]) w32 fun x119 w33=>
 ((Sem.run zp (oLoad 213 x139) w33= .ok (.value x140) w33)∧(Sem.run zp (oLoad 213 x135) w33= .ok (.value x136) w33)∧(Sem.run zp (oLoad 213 x114) w33= .ok (.value x115) w33)∧True)∧(pA zp (oBin .xor 213 (.tmp 117) (.tmp 119) x117 x119) fun x120=>
 pN zp (oCall 175 [x109,(.int .i64 (-25))]) w33 fun x122 w34=>
 ((Sem.run zp (oLoad 213 x139) w34= .ok (.value x140) w34)∧(Sem.run zp (oLoad 213 x135) w34= .ok (.value x136) w34)∧(Sem.run zp (oLoad 213 x114) w34= .ok (.value x115) w34)∧True)∧(pA zp (oBin .xor 213 (.tmp 120) (.tmp 122) x120 x122) fun x123=>
 pA zp (oBin .add 213 (.tmp 115) (.tmp 123) x115 x123) fun x124=>
 pA zp (oBin .add 213 (.tmp 124) (.tmp 132) x124 x132) fun x133=>
 pA zp (oBin .add 213 (.tmp 133) (.tmp 136) x133 x136) fun x137=>
 pA zp (oBin .add 213 (.tmp 137) (.tmp 140) x137 x140) fun x141=>
 pN zp (oCall 175 [x103,(.int .i64 (-2))]) w34 fun x143 w35=>
 pN zp (oCall 175 [x103,(.int .i64 (-13))]) w35 fun x145 w36=>
 pN zp (oBin .xor 213 (.tmp 143) (.tmp 145) x143 x145) w36 fun x146 w37=>
 pN zp (oCall 175 [x103,(.int .i64 (-22))]) w37 fun x148 w38=>
 pN zp (oBin .xor 213 (.tmp 146) (.tmp 148) x146 x148) w38 fun x149 w39=>
 pN zp (oBin .and 213 (.tmp 150) (.tmp 151) x103 x105) w39 fun x152 w40=>
 pN zp (oBin .and 213 (.tmp 153) (.tmp 154) x103 x107) w40 fun x155 w41=>
 pN zp (oBin .xor 213 (.tmp 152) (.tmp 155) x152 x155) w41 fun x156 w42=>
 pN zp (oBin .and 213 (.tmp 157) (.tmp 158) x105 x107) w42 fun x159 w43=>
 pN zp (oBin .xor 213 (.tmp 156) (.tmp 159) x156 x159) w43 fun x160 w44=>
 pN zp (oBin .add 213 (.tmp 149) (.tmp 160) x149 x160) w44 fun x161 w45=>
 pN zp (oBin .add 213 (.tmp 162) (.tmp 163) x141 x161) w45 fun x164 w46=>
 pN zp (oIdx 214 x11 (.int .i64 3)) w46 fun x168 w47=>
 pN zp (oLoad 213 x168) w47 fun x169 w48=>
 pN zp (oBin .add 213 (.tmp 169) (.tmp 170) x169 x141) w48 fun x171 w49=>
 pN zp (oBuild 214 [(0,x164),(1,x103),(2,x105),(3,x107),(4,x171),(5,x109),(6,x111),(7,x113)]) w49 fun x175 w50=>
 pN zp (oStore 214 x11 x175) w50 fun _ w51=>
 pN zp (oBin .add 3 (.tmp 99) (.const (.int .i64 1)) v99l14 (.int .i64 1)) w51 fun x176 w52=>
 (L14 x176 w52∧m14 x176 w52<m14 v99l14 w28)))))
 (∃(L22:Value→World→Prop) (m22:Value→World→Nat),
 L22 (.int .i64 0) w29∧
 ∀(_k22:Env) (v177l22:Value) (w53:World),L22 v177l22 w53→
 pN zp (oBin .lss 3 (.tmp 177) (.const (.int .i64 8)) v177l22 (.int .i64 8)) w53 fun x178 w54=>
 pIf x178
 (pDr w54 fun w55=>
 pA zp (oIdx 214 x11 v177l22) fun x181=>
 pL zp (oLoad 213 x181) w55 fun x182=>
 pA zp (oIdx 214 x2 v177l22) fun x184=>
 pL zp (oLoad 213 x184) w55 fun x185=>
 pA zp (oBin .add 213 (.tmp 182) (.tmp 185) x182 x185) fun x186=>
 pA zp (oIdx 214 x11 v177l22) fun x187=>
 pN zp (oStore 213 x187 x186) w55 fun _ w56=>
 (True)∧(pN zp (oBin .add 3 (.tmp 177) (.const (.int .i64 1)) v177l22 (.int .i64 1)) w56 fun x188 w57=>
 (L22 x188 w57∧m22 x188 w57<m22 v177l22 w53)))
 (pN zp (oLoad 214 x11) w54 fun x189 w58=>
 pN zp (oStore 214 x4 x189) w58 fun _ w59=>
 pL zp (oRes 214 x4) w59 fun r4=>
 Q r4 w59)))
theorem sha_Step.calls (h:sha_Step.F x0 x1 w Q):Calls zp 125 #[x0,x1] w (retP Q):=cl sha_Step.H [x0,x1] Tryz.func125 h
def sha_Pad.H:Hints:={ cut:=fun _=>none,loop:=fun|7=>([18],68719214624)|_=>([],0),order:=fun _=>[] }
def sha_Pad.F (x0:Value) (w:World) (Q:QQ):Prop:=
 pN zp (oBin .lss 3 (.tmp 6) (.const (.int .i64 0)) x0 (.int .i64 0)) w fun x7 w1=>
 pIf x7
 (Q (.slice none 0 0) w1)
 (pN zp (oBin .rem 3 (.tmp 8) (.const (.int .i64 64)) x0 (.int .i64 64)) w1 fun x9 w2=>
 pN zp (oBin .sub 3 (.const (.int .i64 119)) (.tmp 9) (.int .i64 119) x9) w2 fun x10 w3=>
 pN zp (oBin .rem 3 (.tmp 10) (.const (.int .i64 64)) x10 (.int .i64 64)) w3 fun x11 w4=>
 pN zp (oBin .add 3 (.const (.int .i64 1)) (.tmp 12) (.int .i64 1) x11) w4 fun x13 w5=>
 pN zp (oBin .add 3 (.tmp 13) (.const (.int .i64 8)) x13 (.int .i64 8)) w5 fun x14 w6=>
 pN zp (oMk 47 x14 x14) w6 fun x15 w7=>
 pN zp (oIdx 47 x15 (.int .i64 0)) w7 fun x17 w8=>
 pN zp (oStore 5 x17 (bv 128)) w8 fun _ w9=>
 ∃(L7:Value→World→Prop) (m7:Value→World→Nat),
 L7 (.int .i64 0) w9∧
 ∀(_k7:Env) (v18l7:Value) (w10:World),L7 v18l7 w10→
 pN zp (oBin .lss 3 (.tmp 18) (.const (.int .i64 8)) v18l7 (.int .i64 8)) w10 fun x19 w11=>
 pIf x19
 (pN zp (oBin .add 3 (.const (.int .i64 1)) (.tmp 22) (.int .i64 1) x11) w11 fun x23 w12=>
 pN zp (oBin .add 3 (.tmp 23) (.tmp 24) x23 v18l7) w12 fun x25 w13=>
 pN zp (oConv 3 212 x0) w13 fun x27 w14=>
 pN zp (oBin .shl 212 (.tmp 27) (.const (.int .u64 3)) x27 (.int .u64 3)) w14 fun x28 w15=>
 pN zp (oBin .mul 3 (.const (.int .i64 8)) (.tmp 29) (.int .i64 8) v18l7) w15 fun x30 w16=>
 pN zp (oBin .sub 3 (.const (.int .i64 56)) (.tmp 30) (.int .i64 56) x30) w16 fun x31 w17=>
 pN zp (oBin .shr 212 (.tmp 28) (.tmp 31) x28 x31) w17 fun x32 w18=>
 pN zp (oConv 212 5 x32) w18 fun x33 w19=>
 pN zp (oIdx 47 x15 x25) w19 fun x34 w20=>
 pN zp (oStore 5 x34 x33) w20 fun _ w21=>
 pN zp (oBin .add 3 (.tmp 18) (.const (.int .i64 1)) v18l7 (.int .i64 1)) w21 fun x35 w22=>
 (L7 x35 w22∧m7 x35 w22<m7 v18l7 w10))
 (Q x15 w11))
theorem sha_Pad.calls (h:sha_Pad.F x0 w Q):Calls zp 126 #[x0] w (retP Q):=cl sha_Pad.H [x0] Tryz.func126 h
end
section
variable [Pan] {x0 x1:Value} {w:World} {Q:QQ}
set_option maxRecDepth 100000
def math_bits_RotateLeft32.F (x0 x1:Value) (w:World) (Q:QQ):Prop:=
 pN zp (oConv 3 97 x1) w fun x7 w1=>
 pN zp (oBin .and 97 (.tmp 7) (.const (.int .u64 31)) x7 (.int .u64 31)) w1 fun x8 w2=>
 pN zp (oBin .shl 213 (.tmp 9) (.tmp 10) x0 x8) w2 fun x11 w3=>
 pN zp (oBin .sub 97 (.const (.int .u64 32)) (.tmp 13) (.int .u64 32) x8) w3 fun x14 w4=>
 pN zp (oBin .shr 213 (.tmp 12) (.tmp 14) x0 x14) w4 fun x15 w5=>
 pN zp (oBin .or 213 (.tmp 11) (.tmp 15) x11 x15) w5 fun x16 w6=>
 Q x16 w6
theorem math_bits_RotateLeft32.calls (h:math_bits_RotateLeft32.F x0 x1 w Q):Calls zp 175 #[x0,x1] w (retP Q):=cl .z [x0,x1] Tryz.func175 h
end
section
instance ar_8:Ar zp 214 8:=⟨_,Tryz.underlying214,Tryz.sizeOf213,Tryz.isAgg213⟩
instance ar_64b:Ar zp 215 64:=⟨_,Tryz.underlying215,Tryz.sizeOf5,Tryz.isAgg5⟩
instance ar_64:Ar zp 257 64:=⟨_,Tryz.underlying257,Tryz.sizeOf213,Tryz.isAgg213⟩
instance ar_32:Ar zp 57 32:=⟨_,Tryz.underlying57,Tryz.sizeOf5,Tryz.isAgg5⟩
instance zv_w64:Zv zp 257 (ws (List.replicate 64 0)):=⟨_,Tryz.zeroValue257,rfl⟩
def hC (h:H.T):List Value:=ws h.st++bvs h.blk++[.int .i64 h.n]
instance zv_hash:Zv zp 217 (hC ⟨List.replicate 8 0,List.replicate 64 0,0⟩):=⟨_,Tryz.zeroValue217,rfl⟩
theorem zeros8:([.int .u32 0,.int .u32 0,.int .u32 0,.int .u32 0,.int .u32 0,.int .u32 0,.int .u32 0,.int .u32 0]:List Value)=ws (List.replicate 8 0):=rfl
theorem words_0 (blk:List UInt8):List.replicate 64 0=H.words blk 0:=rfl
theorem run_b8 (a b c d e f g h:H.W) (w:World):(oBuild 214 [(0,wv a),(1,wv b),(2,wv c),(3,wv d),(4,wv e),(5,wv f),(6,wv g),(7,wv h)]).run zp w= .ok (.value (.agg (ws [a,b,c,d,e,f,g,h]).toArray)) w:=by kernel_rfl
theorem pN_b8 [Pan] {w:World} {K:Value→World→Prop} {a b c d e f g h:H.W} (hk:K (.agg (ws [a,b,c,d,e,f,g,h]).toArray) w):pN zp (oBuild 214 [(0,wv a),(1,wv b),(2,wv c),(3,wv d),(4,wv e),(5,wv f),(6,wv g),(7,wv h)]) w K:=by rw[pN_def,run_b8,rN_value];exact hk
def bndV:List Value:=[.int .u64 128,.int .u64 16384,.int .u64 2097152,.int .u64 268435456,.int .u64 34359738368,.int .u64 4398046511104,.int .u64 562949953421312,.int .u64 72057594037927936,.int .u64 9223372036854775808]
structure GloS (W:World):Prop where
 first:∀i,i<8→W.cell? ⟨0,i,none⟩=some (wv (H.nth H.first i))
 rounds:∀i,i<64→W.cell? ⟨2,i,none⟩=some (wv (H.nth H.consts i))
 bounds:∀(i:Nat) (u:Value),bndV[i]? =some u→W.cell? ⟨3,i,none⟩=some u
theorem old_cell {E w W:World} {L M:List HA} (hS:Sat E w L) [h:Has (old W) L M] {a:Addr} {v:Value} (hc:W.cell? a=some v):w.cell? a=some v:=by
 have hS2:Sat E w (old W::M):=hS.perm h.perm
 have hh:=hS2.old_at 0 rfl
 unfold World.cell? at hc ⊢
 cases hb:W.heap[a.block]? with
 |none=>rw[hb] at hc;cases hc
 |some o=>rw[hh _ _ hb];rw[hb] at hc;exact hc
section
variable [Pan] {E w W:World} {K Q:Value→World→Prop} {J:Value→Prop} {L M N:List HA} {l r:List UInt8} {s s2:Sl}
theorem pL_glo {t:TypeId} {a:Addr} {v:Value} (hS:Sat E w L) [h:Has (old W) L M] [Sc zp t] (hc:W.cell? a=some v) (hk:J v):pL zp (oLoad t (.pointer (some a))) w J:=⟨v,run_load Sc.na (old_cell hS hc),hk⟩
theorem run_glo {t:TypeId} {a:Addr} {v:Value} (hS:Sat E w L) [h:Has (old W) L M] [Sc zp t] (hc:W.cell? a=some v):(oLoad t (.pointer (some a))).run zp w= .ok (.value v) w:=run_load Sc.na (old_cell hS hc)
end
attribute [local irreducible] oMv oV oU oCall oCallV oBi oBin oUn oLoad oStore oNil oFld oField oIdx oIndex oPick oAlloc oBox oBuild oBs oConv oMk oSl oExt oFn oIface oMap oLook oMapUp oRange oNext oEntry oInv oAssert oPanic oRes pN pA pL pDr pIf gA pGd Calls H.words H.rounds H.added H.word H.round
section
variable [Pan] {E w W:World} {K Q:Value→World→Prop} {J:Value→Prop} {L M N:List HA} {l r:List UInt8} {s s2:Sl}
theorem Rot_ok (x:H.W) (i:Int) (n:Nat) (hi:i%32=(n:Int)) (hb: -32≤i∧i<32) (hS:Sat E w M) (hQ:∀w,Sat E w M→Q (wv (H.rot x n)) w):Calls zp 175 #[wv x,.int .i64 i] w (retP Q):=by
 refine math_bits_RotateLeft32.calls ?_
 unfold math_bits_RotateLeft32.F
 repeat' (first|refine pN_shl_w n (by omega) (by omega) ?_|refine pN_shr_w (32-n) (by omega) (by omega) ?_|refine pN_or_w ?_|(refine pN_via (fun K=>pN_andn 5 31 32 (by rfl) (by rfl) (by decide) (by rw[wrap_u64];omega)) ?_)|refine pN_v (hk:=?_)|fail)
 exact hQ _ hS
set_option maxHeartbeats 2000000 in
set_option maxRecDepth 8000 in
theorem Step_ok (hG:GloS W) (st:List H.W) (blk:List UInt8) (h8:st.length=8) (h64:blk.length=64) (hS:Sat E w M) [Has (old W) M N] (hQ:∀w,Sat E w M→Q (.agg (ws (H.step st blk)).toArray) w):
  Calls zp 125 #[.agg (ws st).toArray,.agg (bvs blk).toArray] w (retP Q):=by
 refine sha_Step.calls ?_
 unfold sha_Step.F
 refine pN_bx (z:=ws st) hS rfl ?_
 clear hS
 intro b2 w hS
 refine pN_bx (z:=bvs blk) hS rfl ?_
 clear hS
 intro b3 w hS
 refine pN_nz hS ?_
 clear hS
 intro b4 w hS
 refine pN_nz hS ?_
 clear hS
 intro b5 w hS
 have hS:Sat E w (cel b5 ⟨257,ws (H.words blk 0)⟩::cel b4 ⟨214,ws (List.replicate 8 0)⟩::cel b3 ⟨215,bvs blk⟩::cel b2 ⟨214,ws st⟩::M):=by
  rw[←words_0,←zeros8];exact hS
 refine⟨fun v w=>∃t:Nat,v= .int .i64 t∧t≤64∧Sat E w (cel b5 ⟨257,ws (H.words blk t)⟩::cel b4 ⟨214,ws (List.replicate 8 0)⟩::cel b3 ⟨215,bvs blk⟩::cel b2 ⟨214,ws st⟩::M),fun v _=>64-(RowKit.intOf v).toNat,⟨0,rfl,by omega,hS⟩,?_⟩
 clear hS
 rintro _ _ w ⟨t,rfl,ht,hS⟩
 have hwl:=H.words_len blk t
 have hws:∀i,i<64→(ws (H.words blk t))[i]? =some (wv (H.nth (H.words blk t) i)):=fun i hi=>ws_at (by omega)
 have hbs:∀i,i<64→(bvs blk)[i]? =some (bv (blk.getD i 0)):=fun i hi=>bvs_at (by omega)
 have hlw:t<64→t<(ws (H.words blk t)).length:=fun h=>by rw[ws_len];omega
 by_cases h64t:t<64
 ·have hlw:=hlw h64t
  repeat' (first|(refine pN_lss_s ?_ ?_<;>intro hc<;>try (exfalso;omega))|refine pIf_t ?_|fail)
  refine⟨fun w=>Sat E w (cel b5 ⟨257,ws (H.words blk (t+1))⟩::cel b4 ⟨214,ws (List.replicate 8 0)⟩::cel b3 ⟨215,bvs blk⟩::cel b2 ⟨214,ws st⟩::M),?_,?_⟩
  ·have hset:∀x,x=H.word blk (H.words blk t) t→(ws (H.words blk t)).set t (wv x)=ws (H.words blk (t+1)):=fun x hx=>by rw[ws_set,hx,H.words_s]
   by_cases h16:t<16
   ·have hword:=hset _ (H.word_lo h16).symm
    unfold H.by_ at hword
    repeat' (first|refine pA_ai0 t (by omega) (by omega) ?_|refine pA_ai0 (4*t) (by omega) (by omega) ?_|refine pA_ai0 (4*t+1) (by omega) (by omega) ?_|refine pA_ai0 (4*t+2) (by omega) (by omega) ?_|refine pA_ai0 (4*t+3) (by omega) (by omega) ?_|refine pL_l hS (hbs _ (by omega)) ?_|refine pL_tow ?_|refine pA_shl_w 24 rfl (by omega) ?_|refine pA_shl_w 16 rfl (by omega) ?_|refine pA_shl_w 8 rfl (by omega) ?_|refine pA_or_w ?_|(refine pN_s hS hlw (by rfl) ?_;clear hS;intro w hS)|(refine pN_lss_s ?_ ?_<;>intro hc<;>try (exfalso;omega))|refine pIf_t ?_|(refine pDr_go hS ?_;clear hS;intro w hS)|refine⟨trivial,?_⟩|refine pA_v (hk:=?_)|fail)
    dsimp only at hS
    rw[hword] at hS
    exact hS
   ·have hword:=hset _ (H.word_hi h16).symm
    repeat' (first|refine pA_ai0 t (by omega) (by omega) ?_|refine pA_ai0 (t-15) (by omega) (by omega) ?_|refine pA_ai0 (t-2) (by omega) (by omega) ?_|refine pA_ai0 (t-7) (by omega) (by omega) ?_|refine pA_ai0 (t-16) (by omega) (by omega) ?_|refine pL_l hS (hws _ (by omega)) ?_|(refine pcq (f:=175) (Rot_ok _ (-7) 25 (by rfl) (by omega) hS ?_);clear hS;intro w hS)|(refine pcq (f:=175) (Rot_ok _ (-18) 14 (by rfl) (by omega) hS ?_);clear hS;intro w hS)|(refine pcq (f:=175) (Rot_ok _ (-17) 15 (by rfl) (by omega) hS ?_);clear hS;intro w hS)|(refine pcq (f:=175) (Rot_ok _ (-19) 13 (by rfl) (by omega) hS ?_);clear hS;intro w hS)|refine pN_shr_w 3 rfl (by omega) ?_|refine pN_shr_w 10 rfl (by omega) ?_|refine pN_xor_w ?_|refine pA_add_w ?_|(refine pN_s hS hlw (by rfl) ?_;clear hS;intro w hS)|(refine pN_lss_s ?_ ?_<;>intro hc<;>try (exfalso;omega))|refine pIf_f ?_|(refine pDr_go hS ?_;clear hS;intro w hS)|refine⟨trivial,?_⟩|refine pA_v (hk:=?_)|fail)
    dsimp only at hS
    rw[hword] at hS
    exact hS
  ·rintro _ w hS
   repeat' (first|refine pN_v (hk:=?_)|fail)
   exact⟨⟨t+1,rfl,by omega,hS⟩,by simp[RowKit.intOf]<;>omega⟩
 ·obtain rfl:t=64:=by omega
  clear hlw
  generalize hWd:H.words blk 64=W at*
  repeat' (first|(refine pN_lss_s ?_ ?_<;>intro hc<;>try (exfalso;omega))|refine pIf_f ?_|fail)
  have hst:(ws st).length=8:=by rw[ws_len];exact h8
  refine pN_la (P:=zp) (t:=214) (b:=b2) (o:=⟨214,ws st⟩) hS hst.symm ?_
  refine pN_nz hS ?_
  clear hS
  intro b6 w hS
  refine pN_sa (P:=zp) (t:=214) (b:=b6) (us:=ws st) hS hst.symm (by rw[hst];rfl) (ws_one st) ?_
  clear hS
  intro w hS
  have hS:Sat E w (cel b6 ⟨214,ws (H.rounds st W 0)⟩::cel b5 ⟨257,ws W⟩::cel b4 ⟨214,ws (List.replicate 8 0)⟩::cel b3 ⟨215,bvs blk⟩::cel b2 ⟨214,ws st⟩::M):=by
   rw[H.rounds_0];exact hS
  refine⟨fun v w=>∃t:Nat,v= .int .i64 t∧t≤64∧Sat E w (cel b6 ⟨214,ws (H.rounds st W t)⟩::cel b5 ⟨257,ws W⟩::cel b4 ⟨214,ws (List.replicate 8 0)⟩::cel b3 ⟨215,bvs blk⟩::cel b2 ⟨214,ws st⟩::M),fun v _=>64-(RowKit.intOf v).toNat,⟨0,rfl,by omega,hS⟩,?_⟩
  clear hS
  rintro _ _ w ⟨t,rfl,ht,hS⟩
  have hrl:=H.rounds_len (w:=W) h8 t
  have hrs:∀i,i<8→(ws (H.rounds st W t))[i]? =some (wv (H.nth (H.rounds st W t) i)):=fun i hi=>ws_at (by omega)
  by_cases h64t:t<64
  ·have hgr:=hG.rounds t h64t
   have hsucc:=H.rounds_s st W t
   generalize H.rounds st W t=R at*
   repeat' (first|refine pA_ai0 t (by omega) (by omega) ?_|refine pA_ai0 0 rfl (by omega) ?_|refine pA_ai0 1 rfl (by omega) ?_|refine pA_ai0 2 rfl (by omega) ?_|refine pA_ai0 4 rfl (by omega) ?_|refine pA_ai0 5 rfl (by omega) ?_|refine pA_ai0 6 rfl (by omega) ?_|refine pA_ai0 7 rfl (by omega) ?_|refine pN_ai0 3 rfl (by omega) ?_|refine pL_glo hS hgr ?_|refine pL_l hS (hrs _ (by omega)) ?_|refine pN_l hS (hrs _ (by omega)) ?_|refine pL_l hS (hws _ (by omega)) ?_|refine⟨⟨run_l hS (hws _ (by omega)),run_glo hS hgr,run_l hS (hrs _ (by omega)),trivial⟩,?_⟩|(refine pcq (f:=175) (Rot_ok _ (-6) 26 (by rfl) (by omega) hS ?_);clear hS;intro w hS)|(refine pcq (f:=175) (Rot_ok _ (-11) 21 (by rfl) (by omega) hS ?_);clear hS;intro w hS)|(refine pcq (f:=175) (Rot_ok _ (-25) 7 (by rfl) (by omega) hS ?_);clear hS;intro w hS)|(refine pcq (f:=175) (Rot_ok _ (-2) 30 (by rfl) (by omega) hS ?_);clear hS;intro w hS)|(refine pcq (f:=175) (Rot_ok _ (-13) 19 (by rfl) (by omega) hS ?_);clear hS;intro w hS)|(refine pcq (f:=175) (Rot_ok _ (-22) 10 (by rfl) (by omega) hS ?_);clear hS;intro w hS)|refine pN_xor_w ?_|refine pA_xor_w ?_|refine pN_and_w ?_|refine pA_and_w ?_|refine pN_add_w ?_|refine pA_add_w ?_|refine pA_com_w ?_|(refine pN_lss_s ?_ ?_<;>intro hc<;>try (exfalso;omega))|refine pIf_t ?_|(refine pDr_go hS ?_;clear hS;intro w hS)|fail)
   refine pN_b8 ?_
   rw[←H.round_eq,←hsucc]
   have hsl:(ws (H.rounds st W (t+1))).length=8:=by rw[ws_len];exact H.rounds_len h8 (t+1)
   refine pN_sa (P:=zp) (t:=214) (b:=b6) (us:=ws (H.rounds st W (t+1))) hS hsl.symm (by rw[hsl];show 8=(ws R).length;rw[ws_len,hrl]) (ws_one _) ?_
   clear hS
   intro w hS
   repeat' (first|refine pN_v (hk:=?_)|fail)
   exact⟨⟨t+1,rfl,by omega,hS⟩,by simp[RowKit.intOf]<;>omega⟩
  ·obtain rfl:t=64:=by omega
   clear hrs
   generalize hRd:H.rounds st W 64=R at*
   repeat' (first|(refine pN_lss_s ?_ ?_<;>intro hc<;>try (exfalso;omega))|refine pIf_f ?_|fail)
   have hS:Sat E w (cel b6 ⟨214,ws (H.added R st 0)⟩::cel b5 ⟨257,ws W⟩::cel b4 ⟨214,ws (List.replicate 8 0)⟩::cel b3 ⟨215,bvs blk⟩::cel b2 ⟨214,ws st⟩::M):=by
    rw[H.added_0];exact hS
   refine⟨fun v w=>∃t:Nat,v= .int .i64 t∧t≤8∧Sat E w (cel b6 ⟨214,ws (H.added R st t)⟩::cel b5 ⟨257,ws W⟩::cel b4 ⟨214,ws (List.replicate 8 0)⟩::cel b3 ⟨215,bvs blk⟩::cel b2 ⟨214,ws st⟩::M),fun v _=>8-(RowKit.intOf v).toNat,⟨0,rfl,by omega,hS⟩,?_⟩
   clear hS
   rintro _ _ w ⟨t,rfl,ht,hS⟩
   have hal:=H.added_len (s:=R) (o:=st) t
   rw[hrl] at hal
   have has:∀i,i<8→(ws (H.added R st t))[i]? =some (wv (H.nth (H.added R st t) i)):=fun i hi=>ws_at (by omega)
   have hss:∀i,i<8→(ws st)[i]? =some (wv (H.nth st i)):=fun i hi=>ws_at (by omega)
   by_cases h8t:t<8
   ·have hsucc:=H.added_s R st t
    have hset:=ws_set (H.added R st t) t (H.nth (H.added R st t) t+H.nth st t)
    rw[←hsucc] at hset
    have hlt:t<(ws (H.added R st t)).length:=by rw[ws_len];omega
    generalize H.added R st t=D at*
    repeat' (first|refine pA_ai0 t (by omega) (by omega) ?_|refine pL_l hS (has _ (by omega)) ?_|refine pL_l hS (hss _ (by omega)) ?_|refine pA_add_w ?_|(refine pN_s hS hlt (by rfl) ?_;clear hS;intro w hS)|(refine pN_lss_s ?_ ?_<;>intro hc<;>try (exfalso;omega))|refine pIf_t ?_|(refine pDr_go hS ?_;clear hS;intro w hS)|refine⟨trivial,?_⟩|refine pN_v (hk:=?_)|fail)
    dsimp only at hS
    rw[hset] at hS
    exact⟨⟨t+1,rfl,by omega,hS⟩,by simp[RowKit.intOf]<;>omega⟩
   ·obtain rfl:t=8:=by omega
    have hst8:H.added R st 8=H.step st blk:=by rw[H.step,hWd,hRd]
    rw[hst8] at hS
    have hl8:=H.step_len h8 blk
    generalize H.step st blk=D at*
    have hDl:(ws D).length=8:=by rw[ws_len];exact hl8
    repeat' (first|(refine pN_lss_s ?_ ?_<;>intro hc<;>try (exfalso;omega))|refine pIf_f ?_|fail)
    refine pN_la (P:=zp) (t:=214) (b:=b6) (o:=⟨214,ws D⟩) hS hDl.symm ?_
    refine pN_sa (P:=zp) (t:=214) (b:=b4) (us:=ws D) hS hDl.symm (by rw[hDl];rfl) (ws_one _) ?_
    clear hS
    intro w hS
    refine pL_ra (P:=zp) (t:=214) (b:=b4) (o:=⟨214,ws D⟩) hS hDl.symm ?_
    exact hQ _ hS.to
end
end
section
attribute [local irreducible] oMv oV oU oCall oCallV oBi oBin oUn oLoad oStore oNil oFld oField oIdx oIndex oPick oAlloc oBox oBuild oBs oConv oMk oSl oExt oFn oIface oMap oLook oMapUp oRange oNext oEntry oInv oAssert oPanic oRes pN pA pL pDr pIf gA pGd Calls
section
section
variable {h:H.T}
theorem hC_len (h8:h.st.length=8) (h64:h.blk.length=64):(hC h).length=73:=by simp only[hC,List.length_append,ws_len,bvs_length,h8,h64,List.length_singleton]
theorem hC_n (h8:h.st.length=8) (h64:h.blk.length=64):(hC h)[72]? =some (.int .i64 h.n):=by
 rw[hC,List.getElem?_append_right (by simp only[List.length_append,ws_len,bvs_length];omega)]
 simp only[List.length_append,ws_len,bvs_length,h8,h64]
 rfl
theorem hC_setn (h8:h.st.length=8) (h64:h.blk.length=64) (n:Nat):(hC h).set 72 (.int .i64 n)=hC ⟨h.st,h.blk,n⟩:=by
 rw[hC,List.set_append_right _ _ (by simp only[List.length_append,ws_len,bvs_length];omega)]
 simp only[List.length_append,ws_len,bvs_length,h8,h64]
 rfl
theorem hC_setb (h8:h.st.length=8) (h64:h.blk.length=64) {i:Nat} (hi:i<64) (c:UInt8):(hC h).set (8+i) (bv c)=hC ⟨h.st,h.blk.set i c,h.n⟩:=by
 rw[hC,List.append_assoc,List.set_append_right _ _ (by rw[ws_len];omega),ws_len,h8,Nat.add_sub_cancel_left,List.set_append_left _ _ (by rw[bvs_length];omega),bvs_set,←List.append_assoc]
 rfl
theorem hC_st (h8:h.st.length=8):((hC h).drop 0).take 8=ws h.st:=by
 rw[List.drop_zero,hC,List.append_assoc,List.take_append_of_le_length (by rw[ws_len];omega),List.take_of_length_le (by rw[ws_len];omega)]
theorem hC_blk (h8:h.st.length=8) (h64:h.blk.length=64):((hC h).drop 8).take 64=bvs h.blk:=by
 have e:(8:Nat)=(ws h.st).length:=by rw[ws_len,h8]
 rw[hC,List.append_assoc,e,List.drop_left,List.take_append_of_le_length (by rw[bvs_length];omega),List.take_of_length_le (by rw[bvs_length];omega)]
theorem hC_setst (h8:h.st.length=8) {st:List H.W} (h8':st.length=8):(hC h).take 0++ws st++(hC h).drop (0+(ws st).length)=hC ⟨st,h.blk,h.n⟩:=by
 have e:0+(ws st).length=(ws h.st).length:=by rw[ws_len,ws_len,h8,h8']
 rw[List.take_zero,List.nil_append,e,hC,List.append_assoc,List.drop_left,hC,List.append_assoc]
theorem ws_at_cells {W:World} {g:Nat} {l:List H.W} (h:∀i,i<l.length→W.cell? ⟨g,i,none⟩=some (wv (H.nth l i))):∀(j:Nat) (u:Value),(ws l)[j]? =some u→W.cell? ((⟨g,0,none⟩:Addr).add j)=some u:=by
 intro j u hj
 have hlt:j<l.length:=by
  have:=(List.getElem?_eq_some_iff.1 hj).1
  rwa[ws_len] at this
 rw[ws_at hlt] at hj
 rw[←Option.some.inj hj,Addr.add_lit,Nat.zero_add]
 exact h j hlt
end
theorem zeros32:([bv 0,bv 0,bv 0,bv 0,bv 0,bv 0,bv 0,bv 0,bv 0,bv 0,bv 0,bv 0,bv 0,bv 0,bv 0,bv 0,bv 0,bv 0,bv 0,bv 0,bv 0,bv 0,bv 0,bv 0,bv 0,bv 0,bv 0,bv 0,bv 0,bv 0,bv 0,bv 0]:List Value)=bvs (List.replicate 32 0):=rfl
theorem hC_one (h:H.T):(hC h).all (·.oneCell')=true:=by
 rw[hC,List.all_append,List.all_append,ws_one,bvs_all];rfl
theorem run_bHash (w:World):(oBuild 217 [(0,.agg (ws H.first).toArray)]).run zp w= .ok (.value (.agg (hC H.T.new).toArray)) w:=by kernel_rfl
theorem pN_bHash [Pan] {w:World} {K:Value→World→Prop} (hk:K (.agg (hC H.T.new).toArray) w):pN zp (oBuild 217 [(0,.agg (ws H.first).toArray)]) w K:=by rw[pN_def,run_bHash,rN_value];exact hk
attribute [local irreducible] H.words H.rounds H.added H.word H.round H.T.put H.T.write H.step H.pad H.bes hC
abbrev pq (b:Nat):Value:= .pointer (some ⟨b,0,none⟩)
section
variable [Pan] {E w W:World} {K Q:Value→World→Prop} {J:Value→Prop} {L M N:List HA} {l r:List UInt8} {s s2:Sl} {b:Nat} {h:H.T}
theorem ShNew_ok (hG:GloS W) (hS:Sat E w M) [Has (old W) M N] (hQ:∀b w,Sat E w (cel b ⟨217,hC H.T.new⟩::M)→Q (pq b) w):Calls zp 92 #[] w (retP Q):=by
 refine sha_New.calls ?_
 unfold sha_New.F
 refine pN_ld_n (cs:=ws H.first) Ag.ag Ag.sz rfl (ws_at_cells fun i hi=>old_cell hS (hG.first i hi)) ?_
 refine pN_bHash ?_
 refine pN_bx (z:=hC H.T.new) hS rfl ?_
 clear hS
 intro b w hS
 exact hQ b w hS
set_option maxHeartbeats 2000000 in
theorem ShWrite_ok (hG:GloS W) (h8:h.st.length=8) (h64:h.blk.length=64) (hS:Sat E w (cel b ⟨217,hC h⟩::M)) [Has (old W) M N] [hr:Rds cd_uint8 M s l] (hn:h.n+l.length<4611686018427387904)
  (hQ:∀w,Sat E w (cel b ⟨217,hC (h.write l)⟩::M)→Q (.tuple #[]) w):Calls zp 93 #[pq b,.slice s.a l.length s.c] w (retP Q):=by
 refine sha_Hash_Write.calls ?_
 unfold sha_Hash_Write.F
 repeat' (first|refine pN_v (hk:=?_)|fail)
 refine⟨fun v w=>∃t:Nat,v= .int .i64 t∧t≤l.length∧Sat E w (cel b ⟨217,hC (h.write (l.take t))⟩::M),fun v _=>l.length-(RowKit.intOf v).toNat,⟨0,rfl,by omega,by rw[List.take_zero,H.write_nil];exact hS⟩,?_⟩
 clear hS
 rintro _ _ w ⟨t,rfl,ht,hS⟩
 obtain⟨g8,g64,gn⟩:=H.write_ok (l.take t) h8 h64
 rw[List.length_take,Nat.min_eq_left ht] at gn
 by_cases hlt:t<l.length
 ·obtain⟨c,hc⟩:∃c,l[t]? =some c:=⟨l[t],by simp[hlt]⟩
  have hsucc:h.write (l.take (t+1))=(h.write (l.take t)).put c:=by
   rw[List.take_add_one,hc,H.write_app,H.write_one]
  generalize h.write (l.take t)=G at*
  have hcn:=hC_n g8 g64
  repeat' (first|(refine pN_lss_s ?_ ?_<;>intro hc<;>try (exfalso;omega))|refine pIf_t ?_|fail)
  refine⟨fun w=>Sat E w (cel b ⟨217,hC (G.put c)⟩::M),?_,?_⟩
  ·have hm:G.n%64<64:=Nat.mod_lt _ (by omega)
   have hlb:8+G.n%64<(hC G).length:=by rw[hC_len g8 g64];omega
   have hsb:=hC_setb g8 g64 hm c
   repeat' (first|refine pN_l hS hcn ?_|refine pN_aia (G.n%64) (by omega) (by omega) ?_|(refine pN_s hS hlb (by rfl) ?_;clear hS;intro w hS)|refine pN_ld1 ha hS ?_|refine pN_ixk hS _ (by first|rfl|(exact(Int.toNat_of_nonneg (by omega)).symm)) (by first|rfl|omega|simpa only[go_sem] using True.intro|(simp only[go_sem];omega)) (by assumption) fun a ha hel=>?_|refine pN_v (hk:=?_)|fail)
   dsimp only at hS
   rw[hsb] at hS
   obtain⟨G2,hG2⟩:∃G2:H.T,G2=⟨G.st,G.blk.set (G.n%64) c,G.n⟩:=⟨_,rfl⟩
   have e8:G2.st.length=8:=by rw[hG2];exact g8
   have e64:G2.blk.length=64:=by rw[hG2];show(G.blk.set _ c).length=64;rw[List.length_set,g64]
   have en:G2.n=G.n:=by rw[hG2]
   rw[←hG2] at hS
   have hcn2:=hC_n e8 e64
   rw[en] at hcn2
   have hsn:=hC_setn e8 e64 (G.n+1)
   have hl2:72<(hC G2).length:=by rw[hC_len e8 e64];omega
   have hcast:((G.n:Int)+1)=((G.n+1:Nat):Int):=by norm_cast
   repeat' (first|refine pN_l hS hcn2 ?_|(refine pN_s hS hl2 (by rfl) ?_;clear hS;intro w hS)|(refine pN_eql_s ?_ ?_<;>intro hc<;>try (exfalso;first|omega|exact gone hc|exact gon2 hc))|refine pIf_t ?_|refine pIf_f ?_|(refine pDr_go hS ?_;clear hS;intro w hS)|refine pN_v (hk:=?_)|refine pA_v (hk:=?_)|fail)
   ·dsimp only at hS
    rw[hcast,hsn] at hS
    have hm63:G.n%64=63:=by omega
    rw[H.put_63 hm63 c]
    obtain⟨G3,hG3⟩:∃G3:H.T,G3=⟨G2.st,G2.blk,G.n+1⟩:=⟨_,rfl⟩
    rw[←hG3] at hS
    have f8:G3.st.length=8:=by rw[hG3];exact e8
    have f64:G3.blk.length=64:=by rw[hG3];exact e64
    have hws:(ws G3.st).length=8:=by rw[ws_len,f8]
    have hbs:(bvs G3.blk).length=64:=by rw[bvs_length,f64]
    have hs8:=H.step_len f8 G3.blk
    have hsw:(ws (H.step G3.st G3.blk)).length=8:=by rw[ws_len,hs8]
    have hse:=hC_setst (h:=G3) f8 hs8
    have hl0:0+(ws (H.step G3.st G3.blk)).length≤(hC G3).length:=by rw[hsw,hC_len f8 f64];omega
    have hfin:(⟨H.step G.st (G.blk.set 63 c),G.blk.set 63 c,G.n+1⟩:H.T)=⟨H.step G3.st G3.blk,G3.blk,G3.n⟩:=by rw[hG3,hG2,hm63]
    rw[hfin]
    repeat' (first|refine pL_la_at (n:=8) hS (ws G3.st) (hC_st f8) hws.symm ?_|refine pL_la_at (n:=64) hS (bvs G3.blk) (hC_blk f8 f64) hbs.symm ?_|(refine pcq (f:=125) (Step_ok hG _ _ f8 f64 hS ?_);clear hS;intro w hS)|(refine pN_sa_at (n:=8) hS hsw.symm hl0 (ws_one _) ?_;clear hS;intro w hS)|refine⟨trivial,?_⟩|refine pA_v (hk:=?_)|fail)
    dsimp only at hS
    rw[hse] at hS
    exact hS
   ·dsimp only at hS
    rw[hcast,hsn] at hS
    rw[H.put_lo (h:=G) (by omega) c]
    rw[hG2] at hS
    exact hS
  ·rintro _ w hS
   rw[←hsucc] at hS
   repeat' (first|refine pN_v (hk:=?_)|fail)
   exact⟨⟨t+1,rfl,by omega,hS⟩,by simp[RowKit.intOf]<;>omega⟩
 ·obtain rfl:t=l.length:=by omega
  rw[List.take_length] at hS
  repeat' (first|(refine pN_lss_s ?_ ?_<;>intro hc<;>try (exfalso;omega))|refine pIf_f ?_|fail)
  exact hQ _ hS
theorem shr_byte (x k:Nat):byteOf ((x:Int) / 2^(8*k))=byteOf ((x / 256^k:Nat):Int):=by
 have e:(256:Nat)^k=2^(8*k):=by rw[Nat.pow_mul]
 rw[e]
 congr 1
set_option maxHeartbeats 2000000 in
theorem Pad_ok (n:Nat) (hn:n<4611686018427387904) (hS:Sat E w M) (hQ:∀s w,Sat E w (rows cd_uint8 s (H.pad n)::M)→Q (.slice s.a (H.pad n).length s.c) w):Calls zp 126 #[.int .i64 n] w (retP Q):=by
 refine sha_Pad.calls ?_
 unfold sha_Pad.F
 obtain⟨z,hz⟩:∃z:Nat,z=(119-n%64)%64:=⟨_,rfl⟩
 have hz64:z<64:=by omega
 have hzi:(119-(n:Int)%64)%64=(z:Int):=by omega
 have hp:H.pad n=(128::List.replicate z 0)++H.bes (n*8%18446744073709551616) 8:=by rw[H.pad_eq,hz]
 generalize hB:H.bes (n*8%18446744073709551616) 8=B at*
 have hBl:B.length=8:=by rw[←hB,H.bes_len]
 have hBg:∀k,k<8→B[k]? =some (byteOf (((n*8%18446744073709551616) / 256^(7-k):Nat):Int)):=fun k hk=>by rw[←hB,H.bes_get 8 _ k hk]
 repeat' (first|(refine pN_mk (C:=cd_uint8) hS (1+z+8) (by omega) (by omega) ?_;clear hS;intro s w hS)|(refine pN_lss_s ?_ ?_<;>intro hc<;>try (exfalso;omega))|refine pIf_f ?_|refine pN_ix hS _ (by first|rfl|(exact(Int.toNat_of_nonneg (by omega)).symm)) (by first|rfl|omega|simpa only[go_sem] using True.intro|(simp only[go_sem];omega)) (by first|omega|(simp only[go_sem];omega)) fun a x hx ha hel=>?_|(refine pN_sr hel hS (by rfl) (by rfl) (by first|omega|(simp only[go_sem];omega)) ?_;clear hS;intro w hS)|refine pN_v (hk:=?_)|fail)
 rw[hzi]
 have h0:(List.replicate (1+z+8) cd_uint8.zero).set 0 128=H.sofar (128::List.replicate z 0) B 0:=by
  rw[show 1+z+8=(z+8)+1 by omega,List.replicate_succ,List.set_cons_zero,H.sofar,hBl,List.take_zero,List.nil_append,List.cons_append,List.replicate_append_replicate]
  rfl
 have hAl:(128::List.replicate z (0:UInt8)).length=1+z:=by rw[List.length_cons,List.length_replicate];omega
 generalize hA:(128::List.replicate z (0:UInt8))=A at*
 have hfin:H.pad n=H.sofar A B 8:=by rw[hp,←hBl,H.sofar_all]
 have hsl:∀k,k≤8→(H.sofar A B k).length=1+z+8:=fun k hk=>by rw[H.sofar_len _ _ (by omega),hAl,hBl]
 rw[h0] at hS
 refine⟨fun v w=>∃k:Nat,v= .int .i64 k∧k≤8∧Sat E w (rows cd_uint8 s (H.sofar A B k)::M),fun v _=>8-(RowKit.intOf v).toNat,⟨0,rfl,by omega,hS⟩,?_⟩
 clear hS
 rintro _ _ w ⟨k,rfl,hk,hS⟩
 have hlk:=hsl k hk
 by_cases hk8:k<8
 ·have hset:=H.sofar_set A (hBg k hk8)
  rw[hAl] at hset
  rw[←hlk]
  generalize H.sofar A B k=D at*
  have hval:byteOf (IntKind.u64.wrap ((n:Int)*8) / 2^(8*(7-k)))=byteOf (((n*8%18446744073709551616) / 256^(7-k):Nat):Int):=by
   rw[←shr_byte,wrap_u64,Int.natCast_emod,Int.natCast_mul];rfl
  repeat' (first|refine pN_via (fun K=>pN_shln 3 3 8 rfl rfl (by decide)) ?_|refine pN_shr_k (8*(7-k)) (by omega) (show _≤64 by omega) ?_|(refine pN_lss_s ?_ ?_<;>intro hc<;>try (exfalso;omega))|refine pIf_t ?_|refine pN_tob ?_|refine pN_ix hS _ (by first|rfl|(exact(Int.toNat_of_nonneg (by omega)).symm)) (by first|rfl|omega|simpa only[go_sem] using True.intro|(simp only[go_sem];omega)) (by first|omega|(simp only[go_sem];omega)) fun a x hx ha hel=>?_|(refine pN_sr hel hS (by rfl) (by rfl) (by first|omega|(simp only[go_sem];omega)) ?_;clear hS;intro w hS)|refine pN_v (hk:=?_)|fail)
  rw[hval,hset] at hS
  exact⟨⟨k+1,rfl,by omega,hS⟩,by simp[RowKit.intOf]<;>omega⟩
 ·obtain rfl:k=8:=by omega
  rw[←hfin] at hS hlk
  rw[←hlk]
  repeat' (first|(refine pN_lss_s ?_ ?_<;>intro hc<;>try (exfalso;omega))|refine pIf_f ?_|fail)
  exact hQ _ _ hS
set_option maxHeartbeats 4000000 in
set_option maxRecDepth 8000 in
theorem ShSum_ok (hG:GloS W) (h8:h.st.length=8) (h64:h.blk.length=64) (hS:Sat E w (cel b ⟨217,hC h⟩::M)) [Has (old W) M N] (hn:h.n<2305843009213693952)
  (hQ:∀w,Sat E w (cel b ⟨217,hC h⟩::M)→Q (arrV h.sum) w):Calls zp 94 #[pq b] w (retP Q):=by
 refine sha_Hash_Sum.calls ?_
 unfold sha_Hash_Sum.F
 have hcl:=hC_len h8 h64
 have hcn:=hC_n h8 h64
 refine pN_nz hS ?_
 clear hS
 intro b1 w hS
 repeat' (first|refine pN_v (hk:=?_)|fail)
 refine pN_la (P:=zp) (t:=217) (b:=b) (o:=⟨217,hC h⟩) hS hcl.symm ?_
 refine pN_nz hS ?_
 clear hS
 intro b2 w hS
 rw[zeros32] at hS
 have hzl:(hC ⟨List.replicate 8 0,List.replicate 64 0,0⟩).length=73:=hC_len (by rw[List.length_replicate]) (by rw[List.length_replicate])
 refine pN_sa (P:=zp) (t:=217) (b:=b2) (us:=hC h) hS hcl.symm (by rw[hcl];exact hzl.symm) (hC_one h) ?_
 clear hS
 intro w hS
 have hpl:(H.pad h.n).length≤73:=by rw[H.pad_eq,List.length_append,List.length_cons,List.length_replicate,H.bes_len];omega
 obtain⟨e8,e64,en⟩:=H.write_ok (H.pad h.n) h8 h64
 have hsum:h.sum=H.outs (h.write (H.pad h.n)).st:=rfl
 repeat' (first|refine pN_l hS hcn ?_|(refine pcq (f:=126) (Pad_ok h.n (by omega) hS ?_);clear hS;intro s w hS)|(refine pcq (f:=93) (ShWrite_ok hG h8 h64 (hS.fd (cel b2)) (by omega) ?_);clear hS;intro w hS)|(refine pN_nz hS ?_;clear hS;intro a w hS)|refine pN_v (hk:=?_)|fail)
 rw[zeros32] at hS
 generalize h.write (H.pad h.n)=G at*
 rw[hsum] at hQ
 have hGst:(ws G.st).length=8:=by rw[ws_len,e8]
 have hOg:∀i k,i<8→k<4→(H.outs G.st)[4*i+k]? =some (byteOf (((H.nth G.st i).toNat / 256^(3-k):Nat):Int)):=fun i k hi hk=>H.outs_get G.st i k hk (by omega)
 have hOl:(H.outs G.st).length=32:=by rw[H.outs_len,e8]
 have hgs:∀i,i<8→(ws G.st)[i]? =some (wv (H.nth G.st i)):=fun i hi=>ws_at (by omega)
 generalize hOO:H.outs G.st=O at*
 have h00:List.replicate 32 (0:UInt8)=H.sofar [] O 0:=by rw[H.sofar,hOl];rfl
 have h0e:(List.replicate 32 (0:UInt8)).length=32:=by rw[List.length_replicate]
 have hSl:∀j,j≤32→(bvs (H.sofar [] O j)).length=32:=fun j hj=>by rw[bvs_length,H.sofar_len _ _ (by omega),hOl];rfl
 have hfin:H.sofar [] O 32=O:=by rw[←hOl,H.sofar_all];rfl
 refine pN_la_at (n:=8) hS (ws G.st) (hC_st e8) hGst.symm ?_
 refine⟨fun v w=>∃i:Nat,v= .int .i64 i∧i≤8∧Sat E w (cel a ⟨57,bvs (H.sofar [] O (4*i))⟩::cel b2 ⟨217,hC G⟩::rows cd_uint8 s (H.pad h.n)::cel b1 ⟨57,bvs (List.replicate 32 0)⟩::cel b ⟨217,hC h⟩::M),fun v _=>8-(RowKit.intOf v).toNat,⟨0,rfl,by omega,by rw[Nat.mul_zero,←h00];exact hS⟩,?_⟩
 clear hS
 rintro _ _ w ⟨i,rfl,hi,hS⟩
 by_cases hi8:i<8
 ·repeat' (first|refine pN_aix i rfl hi8 (hgs i hi8) ?_|(refine pN_lss_s ?_ ?_<;>intro hc<;>try (exfalso;omega))|refine pIf_t ?_|fail)
  refine⟨fun v w=>∃k:Nat,v= .int .i64 k∧k≤4∧Sat E w (cel a ⟨57,bvs (H.sofar [] O (4*i+k))⟩::cel b2 ⟨217,hC G⟩::rows cd_uint8 s (H.pad h.n)::cel b1 ⟨57,bvs (List.replicate 32 0)⟩::cel b ⟨217,hC h⟩::M),fun v _=>4-(RowKit.intOf v).toNat,⟨0,rfl,by omega,hS⟩,?_⟩
  clear hS
  rintro _ _ w ⟨k,rfl,hk,hS⟩
  by_cases hk4:k<4
  ·have hset:=H.sofar_set [] (hOg i k hi8 hk4)
   rw[List.length_nil,Nat.zero_add] at hset
   have hlt:4*i+k<(bvs (H.sofar [] O (4*i+k))).length:=by rw[hSl _ (by omega)];omega
   have hbs:=bvs_set (H.sofar [] O (4*i+k)) (4*i+k) (byteOf (((H.nth G.st i).toNat / 256^(3-k):Nat):Int))
   rw[hset] at hbs
   have hby:byteOf (((H.nth G.st i>>>(8*(3-k))).toNat:Nat):Int)=byteOf (((H.nth G.st i).toNat / 256^(3-k):Nat):Int):=by
    rw[BitVec.toNat_ushiftRight,Nat.shiftRight_eq_div_pow,Nat.pow_mul]
   generalize H.sofar [] O (4*i+k)=D at*
   repeat' (first|refine pN_shr_w (8*(3-k)) (by omega) (by omega) ?_|refine pN_ai0 (4*i+k) (by omega) (by omega) ?_|refine pN_tobw ?_|(refine pN_s hS hlt (by rfl) ?_;clear hS;intro w hS)|(refine pN_lss_s ?_ ?_<;>intro hc<;>try (exfalso;omega))|refine pIf_t ?_|refine pN_v (hk:=?_)|fail)
   dsimp only at hS
   rw[hby,hbs] at hS
   exact⟨⟨k+1,rfl,by omega,hS⟩,by simp[RowKit.intOf]<;>omega⟩
  ·obtain rfl:k=4:=by omega
   rw[show 4*i+4=4*(i+1) by omega] at hS
   repeat' (first|(refine pN_lss_s ?_ ?_<;>intro hc<;>try (exfalso;omega))|refine pIf_f ?_|refine pN_v (hk:=?_)|fail)
   exact⟨⟨i+1,rfl,by omega,hS⟩,by simp[RowKit.intOf]<;>omega⟩
 ·obtain rfl:i=8:=by omega
  have hO32:(bvs O).length=32:=by rw[bvs_length,hOl]
  have h32:(bvs (List.replicate 32 (0:UInt8))).length=32:=by rw[bvs_length,h0e]
  rw[show 4*8=32 by omega,hfin] at hS
  repeat' (first|(refine pN_lss_s ?_ ?_<;>intro hc<;>try (exfalso;omega))|refine pIf_f ?_|fail)
  refine pN_la (P:=zp) (t:=57) (b:=a) (o:=⟨57,bvs O⟩) hS hO32.symm ?_
  refine pN_sa (P:=zp) (t:=57) (b:=b1) (us:=bvs O) hS hO32.symm (by rw[hO32];exact h32.symm) (bvs_all _) ?_
  clear hS
  intro w hS
  refine pL_ra (P:=zp) (t:=57) (b:=b1) (o:=⟨57,bvs O⟩) hS hO32.symm ?_
  exact hQ _ hS.to
theorem Sum_ok (hG:GloS W) (hS:Sat E w M) [Has (old W) M N] {s1:Sl} [hr:Rds cd_sl_uint8 M s [(s1,l)]] [hr1:Rds cd_uint8 M s1 l] (hn:l.length<2305843009213693952) (hQ:∀w,Sat E w M→Q (idV (H.sum l)) w):
  Calls zp 52 #[.slice s.a 1 s.c] w (retP Q):=by
 refine sha_Sum.calls ?_
 unfold sha_Sum.F
 repeat' (first|(refine pcq (f:=92) (ShNew_ok hG hS ?_);clear hS;intro b w hS)|(refine pN_nz hS ?_;clear hS;intro a w hS)|refine pN_v (hk:=?_)|fail)
 rw[zeros32] at hS
 obtain⟨e8,e64,en⟩:=H.write_ok l H.new_st H.new_blk
 have en0:H.T.new.n=0:=rfl
 have hsum:idV (H.sum l)=arrV (H.T.new.write l).sum:=rfl
 rw[hsum] at hQ
 have hw0:=H.write_nil H.T.new
 refine⟨fun v w=>∃i:Nat,v= .int .i64 i∧i≤1∧Sat E w (cel b ⟨217,hC (H.T.new.write (if i=0 then [] else l))⟩::cel a ⟨57,bvs (List.replicate 32 0)⟩::M),fun v _=>1-(RowKit.intOf v).toNat,⟨0,rfl,by omega,by rw[if_pos rfl,hw0];exact hS⟩,?_⟩
 clear hS
 rintro _ _ w ⟨i,rfl,hi,hS⟩
 have h01:i=0∨i=1:=by omega
 rcases h01 with rfl|rfl
 ·rw[if_pos rfl,hw0] at hS
  have t8:=H.new_st
  have t64:=H.new_blk
  generalize H.T.new=T0 at*
  repeat' (first|refine pN_ixk (C:=cd_sl_uint8) (l:=[(s1,l)]) (x:=(s1,l)) hS 0 rfl rfl rfl fun a ha hel=>?_|(refine pN_lss_s ?_ ?_<;>intro hc<;>try (exfalso;omega))|refine pIf_t ?_|refine pN_ld1 ha hS ?_|fail)
  refine pcq (f:=93) (ShWrite_ok (s:=s1) (l:=l) hG t8 t64 hS (by omega) ?_)
  clear hS
  intro w hS
  repeat' (first|refine pN_v (hk:=?_)|fail)
  exact⟨⟨1,rfl,by omega,by rw[if_neg (by omega)];exact hS⟩,by simp[RowKit.intOf]⟩
 ·rw[if_neg (by omega)] at hS
  generalize H.T.new.write l=T1 at*
  have hO:(bvs T1.sum).length=32:=by rw[bvs_length];exact H.Tsum_len e8
  have h32:(bvs (List.replicate 32 (0:UInt8))).length=32:=by rw[bvs_length,List.length_replicate]
  repeat' (first|(refine pcq (f:=94) (ShSum_ok hG e8 e64 hS (by omega) ?_);clear hS;intro w hS)|(refine pN_lss_s ?_ ?_<;>intro hc<;>try (exfalso;omega))|refine pIf_f ?_|fail)
  refine pN_sa (P:=zp) (t:=57) (b:=a) (us:=bvs T1.sum) hS hO.symm (by rw[hO];exact h32.symm) (bvs_all _) ?_
  clear hS
  intro w hS
  refine pL_ra (P:=zp) (t:=57) (b:=a) (o:=⟨57,bvs T1.sum⟩) hS hO.symm ?_
  exact hQ _ hS.to
end
end
section
namespace D
theorem puts_snoc (d:T) (l:List B) (p:B):d.puts (l++[p])=(d.puts l).put1 p:=by rw[puts_app];rfl
theorem put1_has {d:T} {p:B} (h:d.has (H.sum p)=true):d.put1 p=d:=by unfold T.put1;rw[if_pos h]
theorem put1_new {d:T} {p:B} (h:d.has (H.sum p)=false):d.put1 p={ d with ps:=upd d.ps (H.sum p) p }:=by unfold T.put1;rw[h];rfl
end D
attribute [local irreducible] H.sum
section
variable [Pan] {E w W:World} {K Q:Value→World→Prop} {L M N N':List HA} {l r:List UInt8} {s s2:Sl} {c:T_api_Config} {b:Nat} {d:D.T} {li:List I32}
set_option maxHeartbeats 2000000 in
theorem DPut_ok (hG:GloS W) (hk:d.k.legal) (hS:Sat E w L) [hf:Fnd (Dep c b) L d N] [hg:Has (old W) N N'] [hr:Rds cd_uint8 N s l] (hl:l.length≤1099511627776)
  (hQ:∀s2 w,Sat E w (rows (cdI 58) s2 (D.ids d.k l)::Dep c b (d.put l)::N)→Q (.slice s2.a (D.ids d.k l).length s2.c) w):
  Calls zp 16 #[.pointer (some ⟨b,0,none⟩),.slice s.a l.length s.c] w (retP Q):=by
 refine depot_Depot_Put.calls ?_
 unfold depot_Depot_Put.F
 have hS1:=hS.fd (Dep c b)
 clear hS hf
 obtain⟨mb,nb,pl,nl,ht,hS⟩:=Dep.opn hS1
 clear hS1
 have hil:=endsI_len d.k l
 have hpl:=C.pieces_len d.k l
 have hget:=fun {j e}=> @endsI_get d.k l j e
 have hput:d.put l=d.puts (C.pieces d.k l):=rfl
 have hids:D.ids d.k l=(C.pieces d.k l).map H.sum:=rfl
 rw[hput,hids] at hQ
 repeat' (first|refine pN_la_at (n:=3) hS [.int .i64 d.k.least,.int .i64 d.k.most,.int .i64 d.k.bits] rfl rfl ?_|(refine pcq (f:=63) (Calls.up (Cut_ok (s:=s) (l:=l) hk hS hl ?_));clear hS;intro se w hS)|refine pN_v (hk:=?_)|fail)
 have hS:Sat E w (depP c b d.k mb nb pl nl (rows cd_int se (endsI d.k l)::N)):=hS.to
 have hS:=Dep.shut ht rfl hS
 have hS:Sat E w (rows cd_int se (endsI d.k l)::Dep c b d::N):=hS.to
 rw[←hil]
 generalize endsI d.k l=I at*
 skip
 refine⟨fun v v' v'' w=>∃(p:Nat) (pre:List (List UInt8)) (so:Sl),v= .slice so.a (pre.map H.sum).length so.c∧v'= .int .i64 p∧v''= .int .i64 pre.length∧p≤l.length∧C.pieces d.k l=pre++C.pieces d.k (l.drop p)∧pre.flatten.length=p∧Sat E w (rows (cdI 58) so (pre.map H.sum)::rows cd_int se I::Dep c b (d.puts pre)::N),fun _ _ v _=>I.length-(RowKit.intOf v).toNat,
  ⟨0,[],⟨none,0⟩,rfl,rfl,rfl,by omega,by rw[List.drop_zero];rfl,rfl,hS.nil (cdI 58).e (cdI 58).size⟩,?_⟩
 clear hS
 rintro _ _ _ _ w ⟨p,pre,so,rfl,rfl,rfl,hp,hpc,hpf,hS⟩
 have hcl:=congrArg List.length hpc
 rw[List.length_append] at hcl
 by_cases hlt:pre.length<I.length
 ·have hne:l.drop p≠[]:=fun h=>by
   rw[h,C.pieces_nil,List.length_nil] at hcl
   omega
  rw[C.pieces_cons d.k hne] at hpc
  have hf1:=C.fst_pos d.k hne
  have hf2:=C.fst_le d.k (l.drop p)
  have hdl:(l.drop p).length=l.length-p:=List.length_drop
  rw[hdl] at hf2
  have hdd:(l.drop p).drop (C.fst d.k (l.drop p))=l.drop (p+C.fst d.k (l.drop p)):=by rw[List.drop_drop]
  rw[hdd] at hpc
  obtain⟨q,hq⟩:∃q,q=(l.drop p).take (C.fst d.k (l.drop p)):=⟨_,rfl⟩
  rw[←hq] at hpc
  have htl:q.length=C.fst d.k (l.drop p):=by rw[hq,List.length_take,hdl];omega
  rw[←htl] at hpc hq hf1 hf2
  clear htl
  have hend:=hget (j:=pre.length) (e:=p+q.length) (by rw[hpc,C.ends_at,hpf,Nat.zero_add])
  have hsub:(l.drop p).take (p+q.length-p)=q:=by rw[Nat.add_sub_cancel_left];exact hq.symm
  have hsn:=D.puts_snoc d pre q
  have hdk:(d.puts pre).k=d.k:=D.puts_k pre d
  repeat' (first|(refine pN_lss_s ?_ ?_<;>intro hc<;>try (exfalso;omega))|refine pIf_t ?_|fail)
  refine⟨fun v v' w=>∃so,v= .slice so.a ((pre++[q]).map H.sum).length so.c∧v'= .int .i64 ((p+q.length:Nat):Int)∧Sat E w (rows (cdI 58) so ((pre++[q]).map H.sum)::rows cd_int se I::Dep c b (d.puts (pre++[q]))::N),?_,?_⟩
  ·repeat' (first|(refine pN_sl2 (C:=cd_uint8) (s:=s) (l:=l) hS p (p+q.length) rfl (by first|rfl|omega) rfl (by omega) (by omega) ?_;intro s' hp')|refine pN_ld1 ha hS ?_|refine pN_ixk hS _ (by first|rfl|(exact(Int.toNat_of_nonneg (by omega)).symm)) (by first|rfl|omega|simpa only[go_sem] using True.intro|(simp only[go_sem];omega)) (by assumption) fun a ha hel=>?_|fail)
   rw[hsub] at hp'
   have e1:p+q.length-p=q.length:=by omega
   rw[e1]
   haveI hrs:Rds cd_uint8 N s' q:=hp'.rd _ inferInstance
   refine pN_b1 (x:=(s',q)) hS rfl (by decide) ?_
   clear hS
   intro sb w hS
   refine pcq (f:=52) (Sum_ok (l:=q) (s1:=s') hG hS (by omega) ?_)
   clear hS
   intro w hS
   have hi1:=D.put1_has (d:=d.puts pre) (p:=q)
   have hi2:=D.put1_new (d:=d.puts pre) (p:=q)
   rw[←hsn] at hi1 hi2
   rw[List.map_append]
   show pN _ _ _ _
   have e2:[q].map H.sum=[H.sum q]:=rfl
   rw[e2]
   generalize H.sum q=i at*
   generalize hD:d.puts (pre++[q])=d2 at*
   repeat' (first|(refine pN_sid hS i (by rfl) ?_;clear hS;intro w hS)|(refine pN_nz hS ?_;clear hS;intro a w hS)|fail)
   refine⟨fun w=>Sat E w (cel a ⟨58,bvs i.l⟩::rows (cdI 58) so (pre.map H.sum)::rows cd_int se I::Dep c b d2::N),?_,?_⟩
   ·refine pN_la_at (n:=32) hS (bvs i.l) (i32t i) (i32n i) ?_
    refine pcq (f:=18) (DHas_ok (c:=c) hS i ?_)
    clear hS
    intro w hS
    cases hh:(d.puts pre).has i with
    |true=>
     rw[hi1 hh]
     repeat' (first|refine pIf_f ?_|refine pN_v (hk:=?_)|fail)
     exact hS.to
    |false=>
     rw[hi2 hh]
     obtain⟨mb,nb,pl,nl,ht,hS⟩:=Dep.opn hS
     repeat' (first|refine pL_la_at (n:=32) hS (bvs i.l) (i32t i) (i32n i) ?_|(refine pcq (f:=64) (SCloneB_ok (s:=s') (l:=q) hS (by omega) ?_);clear hS;intro s4 w hS)|refine pIf_t ?_|refine pL_l hS (by first|rfl|assumption) ?_|(refine pDr_go hS ?_;clear hS;intro w hS)|refine pN_v (hk:=?_)|refine pA_v (hk:=?_)|fail)
     refine⟨⟨run_la_at (n:=32) hS (bvs i.l) (i32t i) (i32n i),run_l hS rfl,trivial⟩,?_⟩
     refine pN_mup (P:=zp) (t:=126) (ke:=idV) (b:=mb) hS i (slv (s4,q)) ?_
     clear hS
     intro w hS
     refine⟨trivial,?_⟩
     rw[vals_put] at hS
     generalize d.puts pre=d0 at*
     have hS:Sat E w (rows cd_uint8 s4 q::bag (keep cd_uint8 pl)::cel b ⟨129,depC c d0.k mb nb⟩::mp idV mb (vals (D.upd pl i (s4,q)))::mp nke nb (vals nl)::bag (keep (cdI 58) nl)::cel a ⟨58,bvs i.l⟩::rows (cdI 58) so (pre.map H.sum)::rows cd_int se I::N):=hS.to
     have hS:Sat E w (depP c b d0.k mb nb (D.upd pl i (s4,q)) nl (cel a ⟨58,bvs i.l⟩::rows (cdI 58) so (pre.map H.sum)::rows cd_int se I::N)):=(keep_put i hS).to
     have hS:=Dep.shut (ht.upd i s4 q) rfl hS
     exact hS.to
   ·clear hS
    intro _ w hS
    have hml:(pre.map H.sum).length≤1099511627776:=by rw[List.length_map];omega
    generalize pre.map H.sum=li at*
    refine pN_la_at (n:=32) hS (bvs i.l) (i32t i) (i32n i) ?_
    refine pN_b1 (x:=i) hS rfl (by decide) ?_
    clear hS
    intro s3 w hS
    repeat' (first|(refine pN_app hS (by first|rfl|omega|simpa only[go_sem] using True.intro|(simp only[go_sem];omega)) (by first|rfl|omega|simpa only[go_sem] using True.intro|(simp only[go_sem];omega)) (by first|omega|(simp only[go_sem];omega)) ?_;clear hS;intro s w hS)|fail)
    exact⟨_,by rw[List.length_append],rfl,hS.to⟩
  ·clear hS
   rintro _ _ _ w ⟨so,rfl,rfl,hS⟩
   repeat' (first|refine pN_v (hk:=?_)|fail)
   refine⟨⟨p+q.length,pre++[q],so,rfl,rfl,by rw[List.length_append];rfl,by omega,by rw[List.append_assoc];exact hpc,by simp[hpf],hS⟩,?_⟩
   simp[RowKit.intOf]<;>omega
 ·have hnil:l.drop p=[]:=by
   by_cases h:l.drop p=[]
   ·exact h
   ·have:=C.pieces_cons d.k h
    rw[this,List.length_cons] at hcl
    omega
  rw[hnil,C.pieces_nil,List.append_nil] at hpc
  rw[hpc] at hQ
  repeat' (first|(refine pN_lss_s ?_ ?_<;>intro hc<;>try (exfalso;omega))|refine pIf_f ?_|fail)
  have hS:Sat E w (rows (cdI 58) so (pre.map H.sum)::Dep c b (d.puts pre)::N):=hS.to
  exact hQ _ _ hS
end
end
end
section
open Go Go.Lib
section
variable {P:Program} {w:World}
theorem run_apst {t u ty e:TypeId} {i:TypeInfo} (ht:P.underlying t=some (.slice e)) (hu:P.underlying u=some .string) (hi:P.info? e=some i) (hz:i.zero=some (.int .u8 0)) (hsize:i.size=1) (hby:i.bytes=1)
  (v:Value) (n:Nat) (xs:List Value) (hown:w.ownsRow 0 e 1 v n xs) (s:ByteArray) (hb:n+s.size≤140737488355328):
  ∃v' w',(Builtin.append_ #[t,u] ty #[v,.string s]).run P w= .ok v' w'∧w'.ownsRow 0 e 1 v' (n+s.size) (xs++strCells s)∧w.grownBy w' v.ownBlock∧(v'.ownBlock=v.ownBlock∨v'.ownBlock=some w.heap.size):=by
 have h63:n+s.size≤maxLen:=by unfold maxLen;omega
 have hxl:xs.length=n:=by simpa using hown.1
 have hlen:(xs++strCells s).length=(n+s.size)*1:=by rw[List.length_append,hxl,strCells_length,Nat.mul_one]
 have gr:∀(old:Nat),old<n+s.size→∀(row:Option Nat),
   (w.drew.alloc (.cells (xs.toArray++(strCells s).toArray++Builtin.zeroCells (Value.int .u8 0).cells (grownCap w (n+s.size) old e-(n+s.size))) e)).ownsRow 0 e 1
    (.slice (some ⟨w.heap.size,0,none⟩) (n+s.size) (grownCap w (n+s.size) old e)) (n+s.size) (xs++strCells s)∧
   w.grownBy (w.drew.alloc (.cells (xs.toArray++(strCells s).toArray++Builtin.zeroCells (Value.int .u8 0).cells (grownCap w (n+s.size) old e-(n+s.size))) e)) row:=by
  intro old ho row
  have hge:=grownCap_ge w (n+s.size) old e
  have hcm:grownCap w (n+s.size) old e≤maxLen:=grownCap_le_maxLen w (n+s.size) old e h63
  refine⟨⟨hlen,.inr ⟨w.heap.size,_,_,rfl,Nat.zero_le _,heap_alloc_new w.drew _,hge,hcm,?_,?_⟩⟩,⟨rfl,rfl,rfl,by simp,fun k hk _=>by rw[show(w.drew.alloc _).heap[k]? =_ from(by first|exact Go.heap_alloc_old w.drew _ hk|exact Go.heap_alloc_old w.drew _ _ hk)];rfl⟩⟩
  ·have hz1:(Value.int IntKind.u8 0).cells.size=1:=rfl
   simp only[Array.size_append,List.size_toArray,size_zeroCells,hz1,hxl,strCells_length]
   omega
  ·simp only[Array.toList_append,List.append_assoc]
   rw[←List.append_assoc,←hlen]
   exact List.take_left
 rcases hown.2 with⟨rfl,rfl⟩|⟨g,cap,cur,rfl,hbg,hg,hnc,hcm,hcs,htake⟩
 ·have hx:xs=[]:=List.eq_nil_of_length_eq_zero hxl
  subst hx
  by_cases hm:s.size=0
  ·have hn:strCells s=[]:=List.eq_nil_of_length_eq_zero (by rw[strCells_length];exact hm)
   refine⟨.slice none 0 0,w,?_,by rw[hm,hn];exact World.ownsRow_nil w 0 e 1,⟨rfl,rfl,rfl,Nat.le_refl _,fun _ _ _=>rfl⟩,.inl rfl⟩
   have hf:=run_firstCells_string (P:=P) w 1 s
   rw[hm] at hf
   simp[Builtin.append_,run_underlying ht,run_underlying hu,sizeOf,typeInfo,hi,hsize,Builtin.lenOf,hm,hf]
  ·have hr:=run_append_nil_string (P:=P) w t u ty e i (.int .u8 0) ht hu hi hz s (by omega) (by omega) (by rw[hby];omega)
   have hgr:=gr 0 (by omega) (Value.ownBlock (.slice none 0 0))
   simp only[Nat.zero_add,List.nil_append,Array.empty_append] at hgr ⊢
   have e1:(s.data.map fun b=>Value.int .u8 b.toNat)=(strCells s).toArray:=by
    apply Array.ext'
    simp[strCells]
   rw[e1] at hr
   exact⟨_,_,hr,hgr.1,hgr.2,.inr rfl⟩
 ·by_cases hroom:n+s.size≤cap
  ·have hcs':cur.size=cap:=by simpa using hcs
   have hr:=run_append_room_string (P:=P) w t u ty e i ht hu hi hsize g n cap cur hg s hroom (by omega)
   refine⟨_,_,hr,⟨hlen,.inr ⟨g,cap,_,rfl,hbg,setRow_heap w g cur _ e _ hg,hroom,hcm,?_,?_⟩⟩,⟨rfl,rfl,rfl,by simp,fun k _ hk=>setRow_other w g k _ (fun e=>hk (by simp[Value.ownBlock,e]))⟩,.inl rfl⟩
   ·simp only[List.size_toArray,List.length_append,List.length_take,List.length_drop,Array.length_toList,strCells_length]
    omega
   ·have ht':cur.toList.take n=xs:=by simpa using htake
    rw[ht',←hlen]
    exact List.take_left
  ·have holds:∀j u,xs[j]? =some u→w.cell? ((⟨g,0,none⟩:Addr).add j)=some u:=hown.cells (g:=g) rfl
   have hr:=run_append_grow_string (P:=P) w t u ty e i (.int .u8 0) ht hu hi hz ⟨g,0,none⟩ n cap xs (by rw[hsize];simpa using hxl) holds s (by omega) (by omega) (by rw[hby];exact growslice_fits (by omega) (by omega))
   have hgr:=gr cap (by omega) (Value.ownBlock (.slice (some ⟨g,0,none⟩) n cap))
   exact⟨_,_,hr,hgr.1,hgr.2,.inr rfl⟩
class ApS (P:Program) (t u:TypeId) (C:outParam (Cd UInt8)):Prop where
 tt:P.underlying t=some (.slice C.e)
 uu:P.underlying u=some .string
 ii:∃i,P.info? C.e=some i∧i.zero=some (.int .u8 0)∧i.size=1∧i.bytes=1
 size:C.size=1
 enc:∀b,C.enc b=[bv b]
variable [Pan] {E:World} {K:Value→World→Prop} {L M:List HA} {t u ty:TypeId} {C:Cd UInt8} {s:Sl} {l m:List UInt8}
theorem pN_apst {n:Nat} {cs:List Bool} (hS:Sat E w L) [hw:ApS P t u C] [hf:Fnd (rows C s) L l M] (hn:n=l.length) (hb:l.length+m.length≤140737488355328)
  (hk:∀s' w',Sat E w' (rows C s' (l++m)::M)→K (.slice s'.a (l++m).length s'.c) w'):pN P (oBi .append #[t,u] ty cs [.slice s.a n s.c,.string ⟨m.toArray⟩]) w K:=by
 subst hn
 have h0:=hS.fd (rows C s)
 obtain⟨i,hi,hz,hs,hby⟩:=hw.ii
 have ho1:=h0.own_at 0 rfl
 have e1:C.size=1:=hw.size
 have h0':Sat E w (own C.e 1 (.slice s.a l.length s.c) l.length (C.flat l)::M):=by rw[←e1];exact h0
 obtain⟨v',w',hr,ho,hg,hbk⟩:=run_apst (P:=P) (ty:=ty) hw.tt hw.uu hi hz hs hby (.slice s.a l.length s.c) l.length (C.flat l) (h0'.own_at 0 rfl) ⟨m.toArray⟩ (by rw[size_str];exact hb)
 have e2:strCells ⟨m.toArray⟩=C.flat m:=by
  rw[C.flat_single bv hw.enc]
  rfl
 rw[size_str,e2,←C.flat_append] at ho
 have h2:=h0'.grown hg ho hbk
 obtain⟨s',rfl⟩:=own_sl h2
 rw[pN_def,show(oBi .append #[t,u] ty cs [.slice s.a l.length s.c,.string ⟨m.toArray⟩]).run P w=_ from run_oV_ok hr,rN_value]
 rw[←e1,←List.length_append] at h2
 rw[←List.length_append]
 exact hk s' w' h2
end
end
section
variable [Pan] {x0:Value} {w:World} {Q:QQ}
set_option maxRecDepth 100000
def varint_Put.H:Hints:={ cut:=fun _=>none,loop:=fun|6=>([0,15],134185025)|_=>([],0),order:=fun _=>[] }
def varint_Put.F (x0:Value) (w:World) (Q:QQ):Prop:=
 pN zp (oCall 174 [x0]) w fun x8 w1=>
 pN zp (oBin .eql 3 (.tmp 9) (.const (.int .i64 0)) x8 (.int .i64 0)) w1 fun x10 w2=>
 pIf x10
 (Q (.tuple #[(.slice none 0 0),(.int .i64 7)]) w2)
 (pN zp (oMk 47 x8 x8) w2 fun x12 w3=>
 pN zp (oBi .len #[47] 3 [false] [x12]) w3 fun x14 w4=>
 ∃(L6:Value→Value→World→Prop) (m6:Value→Value→World→Nat),
 L6 x0 (.int .i64 0) w4∧
 ∀(_k6:Env) (v0l6:Value) (v15l6:Value) (w5:World),L6 v0l6 v15l6 w5→
 pN zp (oBin .lss 3 (.tmp 15) (.tmp 14) v15l6 x14) w5 fun x16 w6=>
 pIf x16
 (pN zp (oConv 212 5 v0l6) w6 fun x21 w7=>
 pN zp (oBin .or 5 (.tmp 21) (.const (.int .u8 128)) x21 (bv 128)) w7 fun x22 w8=>
 pN zp (oIdx 47 x12 v15l6) w8 fun x23 w9=>
 pN zp (oStore 5 x23 x22) w9 fun _ w10=>
 pN zp (oBin .shr 212 (.tmp 24) (.const (.int .u64 7)) v0l6 (.int .u64 7)) w10 fun x25 w11=>
 pN zp (oBin .add 3 (.tmp 15) (.const (.int .i64 1)) v15l6 (.int .i64 1)) w11 fun x26 w12=>
 (L6 x25 x26 w12∧m6 x25 x26 w12<m6 v0l6 v15l6 w5))
 (pN zp (oBin .sub 3 (.tmp 28) (.const (.int .i64 1)) x8 (.int .i64 1)) w6 fun x29 w13=>
 pN zp (oIdx 47 x12 x29) w13 fun x30 w14=>
 pN zp (oLoad 5 x30) w14 fun x31 w15=>
 pN zp (oBin .andNot 5 (.tmp 31) (.const (.int .u8 128)) x31 (bv 128)) w15 fun x32 w16=>
 pN zp (oIdx 47 x12 x29) w16 fun x33 w17=>
 pN zp (oStore 5 x33 x32) w17 fun _ w18=>
 Q (.tuple #[x12,(.int .i64 0)]) w18))
theorem varint_Put.calls (h:varint_Put.F x0 w Q):Calls zp 124 #[x0] w (retP Q):=cl varint_Put.H [x0] Tryz.func124 h
def varint_Size.H:Hints:={ cut:=fun _=>none,loop:=fun|2=>([6],65500)|_=>([],0),order:=fun _=>[] }
def varint_Size.F (x0:Value) (w:World) (Q:QQ):Prop:=
 pN zp (oLoad 290 (.pointer (some ⟨3,0,none⟩))) w fun x5 w1=>
 ∃(L2:Value→World→Prop) (m2:Value→World→Nat),
 L2 (.int .i64 0) w1∧
 ∀(_k2:Env) (v6l2:Value) (w2:World),L2 v6l2 w2→
 pN zp (oBin .lss 3 (.tmp 6) (.const (.int .i64 9)) v6l2 (.int .i64 9)) w2 fun x7 w3=>
 pIf x7
 (pN zp (oIndex 290 x5 v6l2) w3 fun x9 w4=>
 pN zp (oBin .lss 212 (.tmp 10) (.tmp 11) x0 x9) w4 fun x12 w5=>
 pIf x12
 (pN zp (oBin .add 3 (.tmp 13) (.const (.int .i64 1)) v6l2 (.int .i64 1)) w5 fun x14 w6=>
 Q x14 w6)
 (pN zp (oBin .add 3 (.tmp 6) (.const (.int .i64 1)) v6l2 (.int .i64 1)) w5 fun x15 w7=>
 (L2 x15 w7∧m2 x15 w7<m2 v6l2 w2)))
 (Q (.int .i64 0) w3)
theorem varint_Size.calls (h:varint_Size.F x0 w Q):Calls zp 174 #[x0] w (retP Q):=cl varint_Size.H [x0] Tryz.func174 h
def varint_Get.H:Hints:={ cut:=fun _=>none,loop:=fun|3=>([5,10],8796093021436)|_=>([],0),order:=fun _=>[] }
def varint_Get.F (x0:Value) (w:World) (Q:QQ):Prop:=
 pN zp (oBi .len #[47] 3 [false] [x0]) w fun x9 w1=>
 ∃(L3:Value→Value→World→Prop) (m3:Value→Value→World→Nat),
 L3 (.int .u64 0) (.int .i64 0) w1∧
 ∀(_k3:Env) (v5l3:Value) (v10l3:Value) (w2:World),L3 v5l3 v10l3 w2→
 pN zp (oBin .lss 3 (.tmp 10) (.tmp 9) v10l3 x9) w2 fun x11 w3=>
 pIf x11
 (pN zp (oIdx 47 x0 v10l3) w3 fun x13 w4=>
 pN zp (oLoad 5 x13) w4 fun x14 w5=>
 pN zp (oBin .lss 5 (.tmp 15) (.const (.int .u8 128)) x14 (bv 128)) w5 fun x16 w6=>
 pIf x16
 (pN zp (oBin .eql 5 (.tmp 17) (.const (.int .u8 0)) x14 (bv 0)) w6 fun x18 w7=>
 pGd (gB x18 true) (pN zp (oMv v10l3) w7) w7 fun x20 w8=>
 pGd (gB x18 true) (pN zp (oBin .gtr 3 (.tmp 20) (.const (.int .i64 0)) x20 (.int .i64 0)) w8) w8 fun x21 w9=>
 pN zp (oPick x18 x21 (.bool false)) w9 fun x22 w10=>
 pIf x22
 (Q (.tuple #[(.int .u64 0),(.int .i64 0),(.int .i64 2)]) w10)
 (pN zp (oConv 5 212 x14) w10 fun x25 w11=>
 pN zp (oBin .mul 3 (.const (.int .i64 7)) (.tmp 26) (.int .i64 7) v10l3) w11 fun x27 w12=>
 pN zp (oBin .shl 212 (.tmp 25) (.tmp 27) x25 x27) w12 fun x28 w13=>
 pN zp (oBin .or 212 (.tmp 23) (.tmp 28) v5l3 x28) w13 fun x29 w14=>
 pN zp (oBin .add 3 (.tmp 30) (.const (.int .i64 1)) v10l3 (.int .i64 1)) w14 fun x31 w15=>
 Q (.tuple #[x29,x31,(.int .i64 0)]) w15))
 (pN zp (oBin .eql 3 (.tmp 32) (.const (.int .i64 8)) v10l3 (.int .i64 8)) w6 fun x33 w16=>
 pIf x33
 (Q (.tuple #[(.int .u64 0),(.int .i64 0),(.int .i64 2)]) w16)
 (pN zp (oBin .andNot 5 (.tmp 35) (.const (.int .u8 128)) x14 (bv 128)) w16 fun x36 w17=>
 pN zp (oConv 5 212 x36) w17 fun x37 w18=>
 pN zp (oBin .mul 3 (.const (.int .i64 7)) (.tmp 38) (.int .i64 7) v10l3) w18 fun x39 w19=>
 pN zp (oBin .shl 212 (.tmp 37) (.tmp 39) x37 x39) w19 fun x40 w20=>
 pN zp (oBin .or 212 (.tmp 34) (.tmp 40) v5l3 x40) w20 fun x41 w21=>
 pN zp (oBin .add 3 (.tmp 10) (.const (.int .i64 1)) v10l3 (.int .i64 1)) w21 fun x42 w22=>
 (L3 x41 x42 w22∧m3 x41 x42 w22<m3 v5l3 v10l3 w2))))
 (Q (.tuple #[(.int .u64 0),(.int .i64 0),(.int .i64 1)]) w3)
theorem varint_Get.calls (h:varint_Get.F x0 w Q):Calls zp 179 #[x0] w (retP Q):=cl varint_Get.H [x0] Tryz.func179 h
end
end Go.Proofs.YtikmogfhhggafaaGreatDoor
