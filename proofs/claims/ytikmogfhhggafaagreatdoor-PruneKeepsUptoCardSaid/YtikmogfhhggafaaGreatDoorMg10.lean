import Derived.Test.YtikmogfhhggafaaGreatDoorMg9
set_option linter.all false
namespace Go.Proofs.YtikmogfhhggafaaGreatDoor
open Go
open Go.Proofs.Tryz renaming prog→zp
section
attribute [local irreducible] oMv oV oU oCall oCallV oBi oBin oUn oLoad oStore oNil oFld oField oIdx oIndex oPick oAlloc oBox oBuild oBs oConv oMk oSl oExt oFn oIface oMap oLook oMapUp oRange oNext oEntry oInv oAssert oPanic oRes pN pA pL pDr pIf gA pGd Calls
section
open Pr
abbrev TrE:=Int×List UInt8×I32
theorem trE_one (b:TrE) (u:Value) (hu:u∈[Value.int .i64 b.1,.string ⟨b.2.1.toArray⟩]++bvs b.2.2.l):u.oneCell'=true:=by
 rcases List.mem_append.1 hu with hu|hu
 ·simp only[List.mem_cons,List.not_mem_nil,or_false] at hu
  rcases hu with rfl|rfl<;>rfl
 ·exact(cdI 0).one b.2.2 u hu
def cdTr:Cd TrE:={ e:=147,size:=34,bytes:=56,zero:=(0,[],⟨List.replicate 32 0,List.length_replicate⟩),enc:=fun p=>[Value.int .i64 p.1,.string ⟨p.2.1.toArray⟩]++bvs p.2.2.l,len:=fun p=>by rw[List.length_append,bvs_length,p.2.2.h];rfl,one:=trE_one }
instance bt_Tr:Bt cdTr 56:=⟨rfl⟩
instance row_Tr:Row zp 90 TrE cdTr:=⟨⟨.agg ([Value.int .i64 0,.string ⟨#[]⟩]++bvs (List.replicate 32 0)).toArray,⟨Tryz.underlying90,info_parts (by kernel_rfl),rfl,by decide⟩,rfl⟩,by decide⟩
set_option maxRecDepth 8000 in
theorem run_bTr (k:Int) (n:ByteArray) (i:I32) (w:World):(oBuild 147 [(0,.int .i64 k),(1,.string n),(2,.agg (bvs i.l).toArray)]).run zp w= .ok (.value (.agg ([Value.int .i64 k,.string n]++bvs i.l).toArray)) w:=by
 obtain⟨l,h⟩:=i
 obtain⟨a0,a1,a2,a3,a4,a5,a6,a7,a8,a9,b0,b1,b2,b3,b4,b5,b6,b7,b8,b9,c0,c1,c2,c3,c4,c5,c6,c7,c8,c9,d0,d1,rfl⟩:=list32 l h
 kernel_rfl
set_option maxRecDepth 8000 in
theorem run_bTr0 (k:Int) (i:I32) (w:World):(oBuild 147 [(0,.int .i64 k),(2,.agg (bvs i.l).toArray)]).run zp w= .ok (.value (.agg ([Value.int .i64 k,.string ⟨#[]⟩]++bvs i.l).toArray)) w:=by
 obtain⟨l,h⟩:=i
 obtain⟨a0,a1,a2,a3,a4,a5,a6,a7,a8,a9,b0,b1,b2,b3,b4,b5,b6,b7,b8,b9,c0,c1,c2,c3,c4,c5,c6,c7,c8,c9,d0,d1,rfl⟩:=list32 l h
 kernel_rfl
theorem pN_bTr [Pan] {w:World} {K:Value→World→Prop} (k:Int) (n:List UInt8) (i:I32) (hk:K (.agg (cdTr.enc (k,n,i)).toArray) w):pN zp (oBuild 147 [(0,.int .i64 k),(1,.string ⟨n.toArray⟩),(2,.agg (bvs i.l).toArray)]) w K:=by
 rw[pN_def,run_bTr,rN_value]
 exact hk
theorem pN_bTr0 [Pan] {w:World} {K:Value→World→Prop} (k:Int) (i:I32) (hk:K (.agg (cdTr.enc (k,[],i)).toArray) w):pN zp (oBuild 147 [(0,.int .i64 k),(2,.agg (bvs i.l).toArray)]) w K:=by
 rw[pN_def,run_bTr0,rN_value]
 exact hk
namespace Pr
structure Nc where
 n:NKey
 root:List I32
 es:List L.En
 ok:Bool
def Nc.lst (x:Nc):List I32:=S.needsOf x.root (if x.ok=true then x.es else [])
structure Nc.fit (d:D.T) (x:Nc):Prop where
 yes:x.ok=true→S.Tells d x.n.1 x.es x.root∧(∀q,d.get x.root=some q→q.length≤1099511627776)∧(S.allsOf x.root x.es).length≤1099511627776∧x.es.length≤1099511627776
 no:x.ok=false→D.look d.ns x.n.1=some x.root∧x.root.length≤1099511627776∧(∀j q,d.get (x.root.take j)=some q→q.length≤140737488355328)∧d.get x.root=none
theorem Nc.lst_ok {x:Nc} (h:x.ok=true):x.lst=S.needsOf x.root x.es:=by unfold Nc.lst;rw[if_pos h]
theorem Nc.lst_no {x:Nc} (h:x.ok=false):x.lst=S.comp (S.sortI x.root):=by
 unfold Nc.lst
 rw[h,if_neg (by decide)]
 unfold S.needsOf S.allsOf
 simp
theorem Nc.lst_len {d:D.T} {x:Nc} (h:x.fit d):x.lst.length≤1099511627776:=by
 cases hk:x.ok with
 |true=>
  rw[Nc.lst_ok hk]
  exact Nat.le_trans (S.needs_len _ _) (h.yes hk).2.2.1
 |false=>
  rw[Nc.lst_no hk]
  have h1:=S.comp_len _ (S.sortI x.root) rfl
  have h2:=(S.sortI_perm x.root).length_eq
  have h3:=(h.no hk).2.1
  omega
def missOf (d:D.T) (n:List UInt8) (l:List I32):List TrE:=(l.filter fun i=> !d.has i).map fun i=>(1,n,i)
def miss (d:D.T) (W:List Nc):List TrE:=(W.map fun x=>missOf d x.n.1 x.lst).flatten
def looseC (d:D.T) (W:List Nc) (j:Nat):List TrE:=((d.sums.take j).filter fun i=>decide (∀x∈W,i∉x.lst)).map fun i=>(3,[],i)
def check (d:D.T) (W:List Nc):List TrE:=miss d W++if W.all (·.ok)=true then looseC d W d.sums.length else []
theorem missOf_0 (d:D.T) (n:List UInt8):missOf d n []=[]:=rfl
theorem missOf_s {d:D.T} {n:List UInt8} {l:List I32} {j:Nat} {i:I32} (h:l[j]? =some i):missOf d n (l.take (j+1))=if d.has i=true then missOf d n (l.take j) else missOf d n (l.take j)++[(1,n,i)]:=by
 unfold missOf
 rw[List.take_add_one,h]
 cases hh:d.has i with
 |true=>simp[hh]
 |false=>simp[hh]
theorem missOf_len (d:D.T) (n:List UInt8) (l:List I32):(missOf d n l).length≤l.length:=by
 unfold missOf
 rw[List.length_map]
 exact List.length_filter_le _ _
theorem miss_s {d:D.T} {W:List Nc} {j:Nat} {x:Nc} (h:W[j]? =some x):miss d (W.take (j+1))=miss d (W.take j)++missOf d x.n.1 x.lst:=by
 unfold miss
 rw[List.take_add_one,h]
 simp
theorem miss_len (d:D.T):∀W:List Nc,(miss d W).length≤(W.map fun x=>x.lst.length).sum
 | []=>Nat.zero_le _
 |x::W=>by
  have h1:=miss_len d W
  have h2:=missOf_len d x.n.1 x.lst
  unfold miss at h1 ⊢
  rw[List.map_cons,List.flatten_cons,List.length_append,List.map_cons,List.sum_cons]
  omega
theorem sum_take_le {α:Type} (f:α→Nat) (l:List α) (j:Nat):((l.take j).map f).sum≤(l.map f).sum:=by
 have:(l.map f).sum=((l.take j).map f).sum+((l.drop j).map f).sum:=by rw[←List.sum_append,←List.map_append,List.take_append_drop]
 omega
theorem all_take_s {W:List Nc} {j:Nat} {x:Nc} (h:W[j]? =some x):(W.take (j+1)).all (·.ok)=((W.take j).all (·.ok)&&x.ok):=by
 rw[List.take_add_one,h,List.all_append]
 simp
theorem looseC_0 (d:D.T) (W:List Nc):looseC d W 0=[]:=by unfold looseC;rw[List.take_zero];rfl
theorem looseC_in {d:D.T} {W:List Nc} {z:Nat} {i:I32} (h:d.sums[z]? =some i) (hi:∀x∈W,i∉x.lst):looseC d W (z+1)=looseC d W z++[(3,[],i)]:=by
 unfold looseC
 rw[List.take_add_one,h,List.filter_append]
 have e:((some i).toList.filter fun i=>decide (∀x∈W,i∉x.lst))=[i]:=List.filter_cons_of_pos (decide_eq_true hi)
 rw[e,List.map_append];rfl
theorem looseC_no {d:D.T} {W:List Nc} {z:Nat} {i:I32} (h:d.sums[z]? =some i) (hi:¬∀x∈W,i∉x.lst):looseC d W (z+1)=looseC d W z:=by
 unfold looseC
 rw[List.take_add_one,h,List.filter_append]
 have e:((some i).toList.filter fun i=>decide (∀x∈W,i∉x.lst))=[]:=List.filter_cons_of_neg (by rw[decide_eq_true_iff];exact hi)
 rw[e,List.append_nil]
theorem looseC_len {d:D.T} {W:List Nc} (z:Nat):(looseC d W z).length≤d.sums.length:=by
 unfold looseC
 rw[List.length_map]
 exact Nat.le_trans (List.length_filter_le _ _) (by rw[List.length_take];omega)
end Pr
theorem prune_enters:∀args w,(callFunc 117 args).run zp w= .ok (.enter 117 args) w:=enters_of Tryz.func117 (by kernel_rfl) rfl
attribute [local irreducible] Pr.Nc.lst Pr.miss Pr.missOf Pr.looseC
theorem cmpAt_prune:CmpAt 117:=fun x y w=>by
 refine ret_end (prune_order.calls ?_)
 unfold prune_order.F
 rw[pN_def,run_bxx,rN_value,pN_def,run_bxx,rN_value]
 have hsz:(w.alloc (.cells (Value.agg (bvs x.l).toArray).cells 58)).heap.size=w.heap.size+1:=Array.size_push ..
 rw[hsz]
 obtain⟨h1,h2⟩:= @two_cells w x y
 rw[pDr_def]
 refine pA_aslf (n:=32) (Nat.succ_pos _) ?_
 refine pA_aslf (n:=32) (Nat.succ_pos _) ?_
 refine pcq (f:=68) (BCompare_ok ⟨w.heap.size,0,none⟩ ⟨w.heap.size+1,0,none⟩ x.l y.l 32 32 32 32 x.h.symm y.h.symm h1 h2 ?_)
 exact⟨trivial,rfl,two_grow x y w⟩
section
variable [Pan] {E w W:World} {K Q:Value→World→Prop} {L LL M N:List HA} {s sn:Sl} {c:T_api_Config} {db:Nat} {d:D.T} {Ws:List Nc}
theorem psums_ok (x:Nc) (hx:x.fit d) (hS:Sat E w LL) [hf:Fnd (Dep c db) LL d N]
  (hQ:∀s w,Sat E w (rows (cdI 58) s x.lst::Dep c db d::N)→Q (.tuple #[.slice s.a x.lst.length s.c,.int .i64 (if x.ok=true then 0 else 1)]) w):
  Calls zp 83 #[.pointer (some ⟨db,0,none⟩),nke x.n] w (retP Q):=by
 refine prune_sums.calls ?_
 unfold prune_sums.F
 have hlo:= @Nc.lst_ok x
 have hln:= @Nc.lst_no x
 cases hk:x.ok with
 |true=>
  obtain⟨h1,h2,h3,h4⟩:=hx.yes hk
  rw[hlo hk,hk,if_pos rfl] at hQ
  refine pcq (f:=17) (Needs_ok (c:=c) hS x.n h1 h2 h3 h4 ?_)
  clear hS
  intro sv w hS
  generalize S.needsOf x.root x.es=V at*
  repeat' (first|(refine pN_eql_s ?_ ?_<;>intro hc<;>try (exfalso;first|omega|exact gone hc|exact gon2 hc))|refine pIf_t ?_|refine pN_v (hk:=?_)|fail)
  exact hQ sv _ hS.to
 |false=>
  obtain⟨h1,h2,h3,h4⟩:=hx.no hk
  rw[hln hk,hk,if_neg (by decide)] at hQ
  have hsl:=(S.sortI_perm x.root).length_eq
  refine pcq (f:=17) (Needs_cut (c:=c) hS x.n h1 h2 h3 h4 ?_)
  clear hS
  intro w hS
  repeat' (first|(refine pN_eql_s ?_ ?_<;>intro hc<;>try (exfalso;first|omega|exact gone hc|exact gon2 hc))|refine pIf_f ?_|refine pN_v (hk:=?_)|fail)
  refine pcq (f:=54) (DRoot_ok (c:=c) hS x.n (fun q' h=>by rw[h1] at h;cases h;exact h2) (fun h=>by rw[h1] at h;cases h) fun q' hq' s w hS=>?_)
  rw[h1] at hq'
  obtain rfl:x.root=q':=Option.some.inj hq'
  generalize x.root=R at*
  repeat' (first|refine pN_v (hk:=?_)|fail)
  refine pcq (f:=66) (SortI_ok _ prune_enters cmpAt_prune hS (by omega) ?_)
  clear hS
  intro w hS
  rw[←hsl]
  refine pcq (f:=69) (Compact_ok hS (by omega) ?_)
  clear hS
  intro w hS
  generalize S.comp (S.sortI R)=V at*
  skip
  exact hQ _ _ hS.to
set_option maxHeartbeats 4000000 in
theorem Check_ok (hS:Sat E w LL) [hf:Fnd (Dep c db) LL d N] (hp:d.ps.length≤1099511627776) (hnl:d.ns.length≤1099511627776) (hnm:d.names=Ws.map fun x=>x.n.1) (hW:∀x∈Ws,x.fit d) (hl:Ws.length≤1099511627776) (hT:(Ws.map fun x=>x.lst.length).sum≤1099511627776)
  (hQ:∀so w,Sat E w (rows cdTr so (check d Ws)::Dep c db d::N)→Q (.slice so.a (check d Ws).length so.c) w):
  Calls zp 41 #[.pointer (some ⟨db,0,none⟩)] w (retP Q):=by
 refine prune_Check.calls ?_
 unfold prune_Check.F
 have hwl:(Ws.map fun x=>x.n.1).length=Ws.length:=List.length_map ..
 refine pcq (f:=82) (marks_ok (c:=c) hS hp ?_)
 clear hS hf
 intro nm t0 w ht0 hS
 refine pcq (f:=74) (DNames_ok (c:=c) hS hnl ?_)
 rw[hnm,hwl]
 clear hS
 intro sn w hS
 have hS:Sat E w (mp idV nm (ivI t0)::Dep c db d::rows cd_string sn (Ws.map fun x=>x.n.1)::N):=hS.to
 have hml:=fun j=>Nat.le_trans (miss_len d (Ws.take j)) (sum_take_le (fun x:Nc=>x.lst.length) Ws j)
 have hm0:miss d (Ws.take 0)=[]:=by unfold Pr.miss;rfl
 repeat' (first|refine pN_v (hk:=?_)|fail)
 have h8:Sat E w (rows cdTr ⟨none,0⟩ []::mp idV nm (ivI t0)::Dep c db d::rows cd_string sn (Ws.map fun x=>x.n.1)::N):=hS.nil cdTr.e cdTr.size
 refine⟨fun v v' v'' w=>∃(j:Nat) (t:List (I32×Int)) (so:Sl),v= .slice so.a (miss d (Ws.take j)).length so.c∧v'= .bool ((Ws.take j).all (·.ok))∧v''= .int .i64 j∧j≤Ws.length∧(∀i,D.look t i≠none↔i∈d.sums∧∀x∈Ws.take j,i∉x.lst)∧
  Sat E w (rows cdTr so (miss d (Ws.take j))::mp idV nm (ivI t)::Dep c db d::rows cd_string sn (Ws.map fun x=>x.n.1)::N),fun _ _ v _=>Ws.length-(RowKit.intOf v).toNat,
  ⟨0,t0,⟨none,0⟩,by rw[hm0];rfl,rfl,rfl,by omega,fun i=>by rw[ht0];simp,by rw[hm0];exact h8⟩,?_⟩
 clear hS h8 ht0
 rintro _ _ _ _ w ⟨j,t,so,rfl,rfl,rfl,hj,ht,hS⟩
 have hmj:=hml j
 by_cases hlt:j<Ws.length
 ·obtain⟨x,hx⟩:∃x,Ws[j]? =some x:=⟨Ws[j],List.getElem?_eq_getElem _⟩
  have hxo:=hW x (List.mem_of_getElem? hx)
  have hxl:=Nc.lst_len hxo
  have hxn:(Ws.map fun x=>x.n.1)[j]? =some x.n.1:=by rw[List.getElem?_map,hx];rfl
  have htk:∀i,(∀y∈Ws.take (j+1),i∉y.lst)↔(∀y∈Ws.take j,i∉y.lst)∧i∉x.lst:=fun i=>by
   rw[List.take_add_one,hx]
   constructor
   ·intro h
    exact⟨fun y hy=>h y (List.mem_append.2 (.inl hy)),h x (by simp)⟩
   ·rintro⟨h1,h2⟩ y hy
    rcases List.mem_append.1 hy with hy|hy
    ·exact h1 y hy
    ·obtain rfl:y=x:=by simpa using hy
     exact h2
  have hms:=miss_s (d:=d) hx
  have hmj1:=hml (j+1)
  rw[hms,List.length_append] at hmj1
  have hall:=all_take_s hx
  have hmo0:=missOf_0 d x.n.1
  have hmos:=fun {l:List I32} {j:Nat} {i:I32} (h:l[j]? =some i)=>missOf_s (d:=d) (n:=x.n.1) h
  have hmol:=fun z=>missOf_len d x.n.1 (x.lst.take z)
  generalize hA2:(Ws.take (j+1)).all (·.ok)=a2 at*
  generalize (Ws.take j).all (·.ok)=a1 at*
  generalize hM2:miss d (Ws.take (j+1))=m2 at*
  generalize miss d (Ws.take j)=m1 at*
  repeat' (first|(refine pN_lss_s ?_ ?_<;>intro hc<;>try (exfalso;omega))|refine pIf_t ?_|fail)
  refine⟨fun v v' w=>∃(t:List (I32×Int)) (so:Sl),v= .slice so.a m2.length so.c∧v'= .bool a2∧(∀i,D.look t i≠none↔i∈d.sums∧∀x∈Ws.take (j+1),i∉x.lst)∧Sat E w (rows cdTr so m2::mp idV nm (ivI t)::Dep c db d::rows cd_string sn (Ws.map fun x=>x.n.1)::N),?_,?_⟩
  ·repeat' (first|refine pN_ld1 ha hS ?_|refine pN_ixk hS _ (by first|rfl|(exact(Int.toNat_of_nonneg (by omega)).symm)) (by first|rfl|omega|simpa only[go_sem] using True.intro|(simp only[go_sem];omega)) (by assumption) fun a ha hel=>?_|fail)
   refine pcq (f:=83) (psums_ok (c:=c) x hxo hS ?_)
   clear hS
   intro sv w hS
   have hS:Sat E w (rows cdTr so m1::mp idV nm (ivI t)::rows (cdI 58) sv x.lst::Dep c db d::rows cd_string sn (Ws.map fun x=>x.n.1)::N):=hS.to
   generalize x.lst=V at*
   obtain⟨er,her,her2⟩:∃er:Int,(if x.ok=true then(0:Int) else 1)=er∧er≠2:=by
    cases x.ok
    ·exact⟨1,rfl,by decide⟩
    ·exact⟨0,rfl,by decide⟩
   have hka:(decide (er=0))=x.ok:=by
    rw[←her]
    cases x.ok<;>rfl
   rw[her]
   have hka2:a2=(a1&&decide (er=0)):=by rw[hall,hka]
   have hmos2:=fun {z:Nat} {i:I32} (h:V[z]? =some i)=>hmos h
   have hsp:∀i,i∈d.sums∧(∀y∈Ws.take (j+1),i∉y.lst)↔(i∈d.sums∧∀y∈Ws.take j,i∉y.lst)∧i∉V:=fun i=>by rw[htk,and_assoc]
   have h0:m1=m1++missOf d x.n.1 (V.take 0):=by rw[List.take_zero,hmo0,List.append_nil]
   clear hka hall htk hmj hml hmos hm0
   by_cases he0:er=0
   all_goals
    rcases Bool.eq_false_or_eq_true a1 with ha1|ha1
    all_goals
     subst ha1
     obtain⟨a3,ha3⟩:∃a3,a3=a2:=⟨_,rfl⟩
     repeat' (first|(refine pN_eql_s ?_ ?_<;>intro hc<;>try (exfalso;first|omega|exact gone hc|exact gon2 hc))|refine pGd_go (by rfl) ?_|refine pGd_no (by rfl) ?_|refine pN_v (hk:=?_)|fail)
     refine⟨fun v w=>∃so,v= .slice so.a m1.length so.c∧Sat E w (rows cdTr so m1::mp idV nm (ivI t)::rows (cdI 58) sv V::Dep c db d::rows cd_string sn (Ws.map fun x=>x.n.1)::N),?_,?_⟩
     ·repeat' (first|(refine pN_eql_s ?_ ?_<;>intro hc<;>try (exfalso;first|omega|exact gone hc|exact gon2 hc))|refine pIf_f ?_|fail)
      exact⟨so,rfl,hS⟩
     clear hS
     rintro _ _ w ⟨so,rfl,hS⟩
     repeat' (first|refine pN_v (hk:=?_)|fail)
     refine⟨fun v v' w=>∃(z:Nat) (t:List (I32×Int)) (so:Sl),v= .slice so.a (m1++missOf d x.n.1 (V.take z)).length so.c∧v'= .int .i64 z∧z≤V.length∧(∀i,D.look t i≠none↔(i∈d.sums∧∀y∈Ws.take j,i∉y.lst)∧i∉V.take z)∧Sat E w (rows cdTr so (m1++missOf d x.n.1 (V.take z))::mp idV nm (ivI t)::rows (cdI 58) sv V::Dep c db d::rows cd_string sn (Ws.map fun x=>x.n.1)::N),fun _ v _=>V.length-(RowKit.intOf v).toNat,⟨0,t,so,by rw[←h0],rfl,by omega,fun i=>by rw[ht];simp,by rw[←h0];exact hS⟩,?_⟩
     clear hS
     rintro _ _ _ w ⟨z,t,so,rfl,rfl,hz,ht,hS⟩
     have hmz:=hmol z
     by_cases hlz:z<V.length
     ·obtain⟨i,hi⟩:∃i,V[z]? =some i:=⟨V[z],List.getElem?_eq_getElem _⟩
      have hnd2:(t.map (·.1)).Nodup:=by
       have h:=mp_nodup (ke:=idV) (b:=nm) (l:=ivI t) hS
       rwa[ivI_keys] at h
      have hnx:∀i',D.look (D.era t i) i'≠none↔(i'∈d.sums∧∀y∈Ws.take j,i'∉y.lst)∧i'∉V.take (z+1):=fun i'=>by
       rw[List.take_add_one,hi]
       by_cases e:i=i'
       ·subst e
        rw[D.look_era_same hnd2]
        simp
       ·rw[D.look_era_other _ _ _ e,ht,List.mem_append]
        have e2:¬i'∈(some i).toList:=fun h=>e (by simpa using h:i'=i).symm
        constructor
        ·rintro⟨h1,h2⟩
         exact⟨h1,fun h=>h.elim h2 e2⟩
        ·rintro⟨h1,h2⟩
         exact⟨h1,fun h=>h2 (.inl h)⟩
      have hst:=hmos2 hi
      have htz:(V.take z).length=z:=by rw[List.length_take];omega
      rw[htz] at hmz
      have hlen2:(m1++missOf d x.n.1 (V.take z)).length≤2199023255552:=by rw[List.length_append];omega
      generalize hMZ2:missOf d x.n.1 (V.take (z+1))=q2 at*
      have has:(m1++missOf d x.n.1 (V.take z))++[((1,x.n.1,i):TrE)]=m1++(missOf d x.n.1 (V.take z)++[(1,x.n.1,i)]):=List.append_assoc ..
      repeat' (first|(refine pN_lss_s ?_ ?_<;>intro hc<;>try (exfalso;omega))|refine pIf_t ?_|fail)
      refine⟨fun v w=>∃so,v= .slice so.a (m1++q2).length so.c∧Sat E w (rows cdTr so (m1++q2)::mp idV nm (ivI (D.era t i))::rows (cdI 58) sv V::Dep c db d::rows cd_string sn (Ws.map fun x=>x.n.1)::N),?_,?_⟩
      ·cases hh:d.has i with
       |true=>
        rw[hh,if_pos rfl] at hst
        generalize hm3:m1++missOf d x.n.1 (V.take z)=m3 at*
        repeat' (first|refine pN_ixk (C:=cdI 58) (s:=sv) (l:=V) hS z rfl rfl hi fun ad ha hel=>?_|refine pN_ld_at ha hS (i32n i) ?_|(refine pN_nz (t:=58) hS ?_;clear hS;intro ca w hS)|(refine pN_sid hS i (by rfl) ?_;clear hS;intro w hS)|refine pN_la_at (n:=32) hS (bvs i.l) (i32t _) (i32n _) ?_|(refine pN_mdel (ke:=idV) (b:=nm) hS i ?_;clear hS;intro w hS)|(refine pcq (f:=18) (DHas_ok (c:=c) hS i ?_);rw[hh];clear hS;intro w hS)|refine pIf_f ?_|refine pN_v (hk:=?_)|fail)
        rw[era_map] at hS
        have he:m1++q2=m3:=by rw[hst,hm3]
        rw[he]
        exact⟨so,rfl,hS.to⟩
       |false=>
        rw[hh,if_neg (by decide)] at hst
        generalize hm3:m1++missOf d x.n.1 (V.take z)=m3 at*
        repeat' (first|refine pN_ixk (C:=cdI 58) (s:=sv) (l:=V) hS z rfl rfl hi fun ad ha hel=>?_|refine pN_ld_at ha hS (i32n i) ?_|(refine pN_nz (t:=58) hS ?_;clear hS;intro ca w hS)|(refine pN_sid hS i (by rfl) ?_;clear hS;intro w hS)|refine pN_la_at (n:=32) hS (bvs i.l) (i32t _) (i32n _) ?_|(refine pN_mdel (ke:=idV) (b:=nm) hS i ?_;clear hS;intro w hS)|(refine pcq (f:=18) (DHas_ok (c:=c) hS i ?_);rw[hh];clear hS;intro w hS)|refine pN_bTr 1 x.n.1 i ?_|(refine pN_b1 (C:=cdTr) (x:=((1,x.n.1,i):TrE)) hS rfl (by decide) ?_;clear hS;intro s3 w hS)|(refine pN_app (C:=cdTr) (s:=so) (l:=m3) (m:=[((1,x.n.1,i):TrE)]) hS rfl rfl (by rw[List.length_singleton];omega) ?_;clear hS;intro s4 w hS)|refine pIf_t ?_|refine pN_v (hk:=?_)|fail)
        rw[era_map] at hS
        have he:m1++q2=m3++[((1,x.n.1,i):TrE)]:=by rw[hst,←has]
        rw[he]
        exact⟨s4,rfl,hS.to⟩
      ·clear hS
       rintro _ _ w ⟨so,rfl,hS⟩
       repeat' (first|refine pN_v (hk:=?_)|fail)
       exact⟨⟨z+1,D.era t i,so,by rw[hMZ2],rfl,hlz,hnx,by rw[hMZ2];exact hS⟩,by simp[RowKit.intOf]<;>omega⟩
     ·obtain rfl:z=V.length:=by omega
      rw[List.take_length] at ht hS ⊢
      repeat' (first|(refine pN_lss_s ?_ ?_<;>intro hc<;>try (exfalso;omega))|refine pIf_f ?_|fail)
      refine⟨t,so,by rw[hms],?_,fun i=>by rw[ht,hsp],by rw[hms];exact hS.to⟩
      rw[hka2]
      simp[he0]
  ·clear hS
   rintro _ _ _ w ⟨t,so,rfl,rfl,ht,hS⟩
   repeat' (first|refine pN_v (hk:=?_)|fail)
   exact⟨⟨j+1,t,so,by rw[hM2],by rw[hA2],rfl,hlt,ht,by rw[hM2];exact hS⟩,by simp[RowKit.intOf]<;>omega⟩
 ·obtain rfl:j=Ws.length:=by omega
  rw[List.take_length] at ht hS hmj ⊢
  have hck:check d Ws=miss d Ws++if Ws.all (·.ok)=true then looseC d Ws d.sums.length else []:=rfl
  cases hall:Ws.all (·.ok) with
  |false=>
   rw[hall,if_neg (by decide),List.append_nil] at hck
   rw[hck] at hQ
   generalize miss d Ws=m1 at*
   repeat' (first|(refine pN_lss_s ?_ ?_<;>intro hc<;>try (exfalso;omega))|refine pIf_t ?_|refine pIf_f ?_|refine pN_v (hk:=?_)|fail)
   exact hQ so _ hS.to
  |true=>
   rw[hall,if_pos rfl] at hck
   rw[hck] at hQ
   have hl0:=looseC_0 d Ws
   have hin:=fun {z:Nat} {i:I32} (h:d.sums[z]? =some i)=>looseC_in (W:=Ws) h
   have hno:=fun {z:Nat} {i:I32} (h:d.sums[z]? =some i)=>looseC_no (W:=Ws) h
   have hlN:=fun z=>looseC_len (W:=Ws) (d:=d) z
   have hsl:d.sums.length≤1099511627776:=by
    have:d.sums.length=(d.ps.map (·.1)).length:=(S.sortI_perm _).length_eq
    rw[List.length_map] at this
    omega
   clear hml hm0
   generalize miss d Ws=m1 at*
   repeat' (first|(refine pcq (f:=19) (DIDs_ok (c:=c) hS hp ?_);clear hS;intro s2 w hS)|(refine pN_lss_s ?_ ?_<;>intro hc<;>try (exfalso;omega))|refine pIf_f ?_|refine pN_v (hk:=?_)|fail)
   have h8:Sat E w (rows cdTr so (m1++looseC d Ws 0)::mp idV nm (ivI t)::rows (cdI 58) s2 d.sums::Dep c db d::N):=by
    rw[hl0,List.append_nil]
    exact hS.to
   refine⟨fun v v' w=>∃(so:Sl) (z:Nat),v= .slice so.a (m1++looseC d Ws z).length so.c∧v'= .int .i64 z∧z≤d.sums.length∧Sat E w (rows cdTr so (m1++looseC d Ws z)::mp idV nm (ivI t)::rows (cdI 58) s2 d.sums::Dep c db d::N),fun _ v _=>d.sums.length-(RowKit.intOf v).toNat,⟨so,0,by rw[hl0,List.append_nil],rfl,by omega,h8⟩,?_⟩
   clear hS h8
   rintro _ _ _ w ⟨so,z,rfl,rfl,hz,hS⟩
   have hlz:=hlN z
   by_cases hlt2:z<d.sums.length
   ·obtain⟨i,hi⟩:∃i,d.sums[z]? =some i:=⟨d.sums[z],List.getElem?_eq_getElem _⟩
    have him:=List.mem_of_getElem? hi
    have hi1:=hin hi
    have hi2:=hno hi
    have hti:=ht i
    have hlen2:(m1++looseC d Ws z).length≤2199023255552:=by rw[List.length_append];omega
    generalize hq2:looseC d Ws (z+1)=q2 at*
    generalize hq1:looseC d Ws z=q1 at*
    have has:(m1++q1)++[((3,[],i):TrE)]=m1++(q1++[(3,[],i)]):=List.append_assoc ..
    repeat' (first|(refine pN_lss_s ?_ ?_<;>intro hc<;>try (exfalso;omega))|refine pIf_t ?_|fail)
    refine⟨fun v w=>∃so:Sl,v= .slice so.a (m1++q2).length so.c∧Sat E w (rows cdTr so (m1++q2)::mp idV nm (ivI t)::rows (cdI 58) s2 d.sums::Dep c db d::N),?_,?_⟩
    ·generalize hm3:m1++q1=m3 at*
     repeat' (first|refine pN_ixk (C:=cdI 58) (s:=s2) (l:=d.sums) hS z rfl rfl hi fun ad ha hel=>?_|refine pN_ld_at ha hS (i32n i) ?_|(refine pN_nz (t:=58) hS ?_;clear hS;intro ca w hS)|(refine pN_sid hS i (by rfl) ?_;clear hS;intro w hS)|refine pN_la_at (n:=32) hS (bvs i.l) (i32t _) (i32n _) ?_|fail)
     refine pN_lko (P:=zp) (t:=56) (ke:=idV) (b:=nm) hS i (fun v hv=>?_) (fun hv=>?_)
     ·have hgo:∀x∈Ws,i∉x.lst:=(hti.1 (fun e=>by rw[ivI_get,e] at hv;cases hv)).2
      have he:m1++q2=m3++[((3,[],i):TrE)]:=by rw[hi1 hgo,←has]
      repeat' (first|refine pN_la_at (n:=32) hS (bvs i.l) (i32t _) (i32n _) ?_|refine pN_bTr0 3 i ?_|(refine pN_b1 (C:=cdTr) (x:=((3,[],i):TrE)) hS rfl (by decide) ?_;clear hS;intro s3 w hS)|(refine pN_app (C:=cdTr) (s:=so) (l:=m3) (m:=[((3,[],i):TrE)]) hS rfl rfl (by rw[List.length_singleton];omega) ?_;clear hS;intro s6 w hS)|refine pIf_t ?_|refine pN_v (hk:=?_)|fail)
      rw[he]
      exact⟨s6,rfl,hS.to⟩
     ·have hgo:¬∀x∈Ws,i∉x.lst:=fun h=>by
       have h1:=hti.2 ⟨him,h⟩
       rw[ivI_get] at hv
       cases e:D.look t i with
       |none=>exact h1 e
       |some v=>rw[e] at hv;cases hv
      have he:m1++q2=m3:=by rw[hi2 hgo,hm3]
      repeat' (first|refine pIf_f ?_|refine pN_v (hk:=?_)|fail)
      rw[he]
      exact⟨so,rfl,hS.to⟩
    ·clear hS
     rintro _ _ w ⟨so2,rfl,hS⟩
     repeat' (first|refine pN_v (hk:=?_)|fail)
     exact⟨⟨so2,z+1,by rw[hq2],rfl,hlt2,by rw[hq2];exact hS⟩,by simp[RowKit.intOf]<;>omega⟩
   ·obtain rfl:z=d.sums.length:=by omega
    repeat' (first|(refine pN_lss_s ?_ ?_<;>intro hc<;>try (exfalso;omega))|refine pIf_f ?_|fail)
    exact hQ _ _ hS.to
end
end
section
open Pr
namespace D
def T.Ndn (d:T):Prop:=(d.ns.map (·.1)).Nodup
theorem era_keys {κ β:Type} [DecidableEq κ] [BEq κ] [LawfulBEq κ]:∀(l:List (κ×β)) (k:κ),(era l k).map (·.1)=(l.map (·.1)).erase k
 | [],_=>rfl
 |(a,u)::r,k=>by
  rw[era,List.map_cons]
  by_cases e:a=k
  ·subst e
   rw[if_pos rfl,List.erase_cons_head]
  ·rw[if_neg e,List.erase_cons_tail (by simpa using e),List.map_cons,era_keys r k]
theorem sortN_of {l:List B} (h:U.Up Op.bytesLess l):S.sortN l=l:=
 List.Perm.eq_of_pairwise (le:=fun x y=>Op.bytesLess y x=false) (fun a b _ _ h1 h2=>S.less_tri a b h2 h1) (S.sortN_up l) h (S.sortN_perm l)
theorem names_up (d:T):U.Up Op.bytesLess d.names:=S.sortN_up _
theorem set0_ns (d:T) (n:B):(d.set n []).ns=era d.ns n:=by
 unfold T.set
 rw[if_pos rfl]
theorem names_forget {d:T} {n:B} {R:List B} (h:d.names=n::R):(d.set n []).names=R:=by
 have hu:=names_up d
 rw[h] at hu
 have hR:U.Up Op.bytesLess R:=(List.pairwise_cons.1 hu).2
 have hp:(n::R).Perm (d.ns.map (·.1)):=by rw[←h];exact S.sortN_perm _
 have h2:(((d.set n []).ns).map (·.1)).Perm R:=by
  rw[set0_ns,era_keys]
  have:=hp.symm.erase n
  rwa[List.erase_cons_head] at this
 unfold T.names
 rw[sortN_perm_eq h2,sortN_of hR]
theorem names_mem {d:T} {n:B}:n∈d.names↔D.look d.ns n≠none:=by
 have h1:n∈d.names↔n∈d.ns.map (·.1):=(S.sortN_perm _).mem_iff
 rw[h1]
 constructor
 ·intro h e
  obtain⟨x,hx,rfl⟩:=List.mem_map.1 h
  exact look_none.1 e x hx rfl
 ·intro h
  cases e:look d.ns n with
  |none=>exact absurd e h
  |some v=>exact List.mem_map.2 ⟨_,look_mem e,rfl⟩
theorem names_nodup {d:T} (h:d.Ndn):d.names.Nodup:=(S.sortN_perm _).nodup_iff.2 h
end D
theorem Dep.ndn {E w:World} {M:List HA} {c:T_api_Config} {b:Nat} {d:D.T} (hS:Sat E w (Dep c b d::M)):d.Ndn:=by
 obtain⟨mb,nb,pl,nl,ht,hS⟩:=Dep.opn hS
 have h:=mp_nodup (ke:=nke) (b:=nb) (l:=vals nl) hS
 rw[D.vals_keys] at h
 unfold D.T.Ndn
 rw[ht.ns,List.map_map]
 have h2:(nl.map fun x=>x.1.1)=(nl.map (·.1)).map fun n:NKey=>n.1:=by rw[List.map_map];rfl
 show(nl.map fun x=>x.1.1).Nodup
 rw[h2]
 unfold List.Nodup at h ⊢
 rw[List.pairwise_map]
 exact h.imp fun {a b} hab e=>hab (Subtype.ext e)
namespace Pr
def fg (d:D.T) (A:List D.B):D.T:=A.foldl (fun d n=>d.set n []) d
theorem fg_0 (d:D.T):fg d []=d:=rfl
theorem fg_s {d:D.T} {A:List D.B} {j:Nat} {n:D.B} (h:A[j]? =some n):fg d (A.take (j+1))=(fg d (A.take j)).set n []:=by
 unfold fg
 rw[List.take_add_one,h,List.foldl_append]
 rfl
theorem fg_ps:∀(A:List D.B) (d:D.T),(fg d A).ps=d.ps
 | [],d=>rfl
 |n::A,d=>by
  show(fg (d.set n []) A).ps=_
  rw[fg_ps A]
  rfl
theorem fg_look:∀(A:List D.B) (d:D.T) {n:D.B},n∉A→D.look (fg d A).ns n=D.look d.ns n
 | [],d,n,_=>rfl
 |m::A,d,n,h=>by
  show D.look (fg (d.set m []) A).ns n=_
  rw[fg_look A _ (fun h2=>h (List.mem_cons_of_mem _ h2)),D.set0_ns,D.look_era_other _ _ _ (fun e=>h (by rw[e];exact List.mem_cons_self))]
theorem fg_get (A:List D.B) (d:D.T):∀l:List I32,(fg d A).get l=d.get l
 | []=>rfl
 |i::l=>by rw[D.T.get,D.T.get,fg_get A d l,fg_ps]
theorem fg_ns_len:∀(A:List D.B) (d:D.T),(fg d A).ns.length≤d.ns.length
 | [],d=>Nat.le_refl _
 |n::A,d=>by
  have h1:=fg_ns_len A (d.set n [])
  have h2:(d.set n []).ns.length≤d.ns.length:=by
   rw[D.set0_ns]
   have:=congrArg List.length (D.era_keys d.ns n)
   rw[List.length_map] at this
   rw[this]
   have h3:=(List.erase_sublist (a:=n) (l:=d.ns.map (·.1))).length_le
   rwa[List.length_map] at h3
  show(fg (d.set n []) A).ns.length≤_
  omega
theorem fg_names:∀(A R:List D.B) {d:D.T},d.names=A++R→(fg d A).names=R
 | [],R,d,h=>h
 |n::A,R,d,h=>fg_names A R (d:=d.set n []) (D.names_forget h)
theorem Nm.ok.fg {d:D.T} {x:Nm} (h:x.ok d) {A:List D.B} (hn:x.n.1∉A):x.ok (fg d A):=by
 obtain⟨⟨t1,b,t2,t3⟩,h2,h3,h4⟩:=h
 exact⟨⟨by rw[fg_look A d hn];exact t1,b,by rw[fg_get];exact t2,t3⟩,fun q hq=>h2 q (by rw[fg_get] at hq;exact hq),h3,h4⟩
end Pr
attribute [local irreducible] Pr.fg Pr.loose Pr.size
section
variable [Pan] {E w W:World} {K Q:Value→World→Prop} {L LL M N:List HA} {s sn:Sl} {c:T_api_Config} {b:Nat} {d:D.T} {Ws:List Nm}
theorem Keep_neg {n:Int} (h:n<0) (hQ:Q (.tuple #[.int .i64 0,.int .i64 0,.int .i64 7]) w):
  Calls zp 44 #[.pointer (some ⟨b,0,none⟩),.int .i64 n] w (retP Q):=by
 refine prune_Keep.calls ?_
 unfold prune_Keep.F
 repeat' (first|(refine pN_lss_s ?_ ?_<;>intro hc<;>try (exfalso;omega))|refine pIf_t ?_|fail)
 exact hQ
set_option maxHeartbeats 4000000 in
theorem Keep_ok {n:Int} (h0:0≤n) (h63:n<9223372036854775808) (hS:Sat E w LL) [hf:Fnd (Dep c b) LL d N] (hp:d.ps.length≤1099511627776) (hnl:d.ns.length≤1099511627776) (hz:size d≤4611686018427387904) (hnm:d.names=Ws.map fun x:Nm=>x.n.1) (hW:∀x∈Ws,x.ok d) (hN:∀x∈Ws,x.n.1.length≤254) (hl:Ws.length≤1099511627776)
  (hQ:∀(x y:Int) w,Sat E w (Dep c b ((fg d (d.names.take (Ws.length-n.toNat))).drops (loose (fg d (d.names.take (Ws.length-n.toNat))) (Ws.drop (Ws.length-n.toNat))))::N)→Q (.tuple #[.int .i64 x,.int .i64 y,.int .i64 0]) w):
  Calls zp 44 #[.pointer (some ⟨b,0,none⟩),.int .i64 n] w (retP Q):=by
 refine prune_Keep.calls ?_
 unfold prune_Keep.F
 have hS1:=hS.fd (Dep c b)
 clear hS hf
 have hnd:=D.names_nodup (Dep.ndn hS1)
 have hS:=hS1
 clear hS1
 obtain⟨g,hg⟩:∃g,g=Ws.length-n.toNat:=⟨_,rfl⟩
 rw[←hg] at hQ
 have hgl:g≤Ws.length:=by omega
 have hmx:max 0 ((Ws.length:Int)-n)=(g:Int):=by omega
 have hwl:(Ws.map fun x:Nm=>x.n.1).length=Ws.length:=List.length_map ..
 have hcut:d.names=d.names.take g++(Ws.drop g).map fun x:Nm=>x.n.1:=by
  rw[List.map_drop,←hnm,List.take_append_drop]
 have hfn:=fg_names (d.names.take g) ((Ws.drop g).map fun x:Nm=>x.n.1) hcut
 have hdis:∀x∈Ws.drop g,x.n.1∉d.names.take g:=fun x hx hm=>by
  rw[hcut] at hnd
  exact(List.nodup_append.1 hnd).2.2 _ hm _ (List.mem_map_of_mem hx) rfl
 have hWd:∀x∈Ws.drop g,x.ok (fg d (d.names.take g)):=fun x hx=>(hW x (List.mem_of_mem_drop hx)).fg (hdis x hx)
 have hWd0:∀x∈Ws.drop g,x.ok d:=fun x hx=>hW x (List.mem_of_mem_drop hx)
 have hdl:(Ws.drop g).length≤1099511627776:=by rw[List.length_drop];omega
 have hmd:(Ws.map fun x:Nm=>x.n.1).drop g=(Ws.drop g).map fun x:Nm=>x.n.1:=(List.map_drop ..).symm
 have hdl2:(Ws.map fun x:Nm=>x.n.1).length-g=(Ws.drop g).length:=by rw[hwl,List.length_drop]
 have hft:fg d (d.names.take 0)=d:=by rw[List.take_zero];exact fg_0 d
 have hfp:=fun j=>fg_ps (d.names.take j) d
 have hfl:=fun j=>fg_ns_len (d.names.take j) d
 have hfz:size (fg d (d.names.take g))=size d:=by unfold Pr.size;rw[hfp]
 repeat' (first|(refine pcq (f:=74) (DNames_ok (c:=c) hS hnl ?_);rw[hnm,hwl];clear hS;intro sn w hS)|(rw[pN_max,hmx])|(refine pN_lss_s ?_ ?_<;>intro hc<;>try (exfalso;omega))|refine pIf_f ?_|refine pN_v (hk:=?_)|fail)
 refine pN_sl1 (C:=cd_string) (s:=sn) (l:=Ws.map fun x:Nm=>x.n.1) hS g rfl hwl.symm (by omega) fun s' hs'=>?_
 rw[hdl2]
 rw[hmd] at hs'
 haveI hr':Rds cd_string (rows cd_string sn (Ws.map fun x:Nm=>x.n.1)::N) s' ((Ws.drop g).map fun x:Nm=>x.n.1):=hs'.1 _ inferInstance
 refine pcq (f:=81) (unneeded_ok (c:=c) (sn:=s') hS (by omega) hWd0 hdl ?_)
 clear hS
 intro so w hS
 have hS:Sat E w (Dep c b d::rows cd_string sn (Ws.map fun x:Nm=>x.n.1)::N):=hS.to
 generalize loose d (Ws.drop g)=V at*
 repeat' (first|(refine pN_neq_s ?_ ?_<;>intro hc<;>try (exfalso;first|omega|exact gone hc|exact gon2 hc))|refine pIf_f ?_|refine pN_v (hk:=?_)|fail)
 refine pN_slh (C:=cd_string) (s:=sn) (l:=Ws.map fun x:Nm=>x.n.1) hS g rfl hwl.symm (by omega) fun s2 hs2=>?_
 have hmt:(Ws.map fun x:Nm=>x.n.1).take g=d.names.take g:=by rw[hnm]
 rw[hmt] at hs2
 haveI hr2:∀d2,Rds cd_string (Dep c b d2::rows cd_string sn (Ws.map fun x:Nm=>x.n.1)::N) s2 (d.names.take g):=fun d2=>hs2.1 _ inferInstance
 have htg:(d.names.take g).length=g:=by rw[List.length_take,hnm];omega
 repeat' (first|refine pN_v (hk:=?_)|fail)
 refine⟨fun v w=>∃j:Nat,v= .int .i64 j∧j≤g∧Sat E w (Dep c b (fg d (d.names.take j))::rows cd_string sn (Ws.map fun x:Nm=>x.n.1)::N),fun v _=>g-(RowKit.intOf v).toNat,⟨0,rfl,by omega,by rw[hft];exact hS.to⟩,?_⟩
 clear hS
 rintro _ _ w ⟨j,rfl,hj,hS⟩
 by_cases hlt:j<g
 ·obtain⟨x,hx⟩:∃x,Ws[j]? =some x:=⟨Ws[j],List.getElem?_eq_getElem (by omega)⟩
  have hxo:=hW x (List.mem_of_getElem? hx)
  have hxN:=hN x (List.mem_of_getElem? hx)
  have hxn:d.names[j]? =some x.n.1:=by rw[hnm,List.getElem?_map,hx];rfl
  have hxt:(d.names.take g)[j]? =some x.n.1:=by rw[List.getElem?_take_of_lt hlt,hxn]
  obtain⟨⟨t1,_⟩,_,t3,t4⟩:=hxo
  have hrl:x.root.length≤1099511627776:=by
   unfold S.allsOf at t3
   rw[List.length_append] at t3
   omega
  have hni:x.n.1∉d.names.take j:=fun hm=>by
   obtain⟨i,hi⟩:=List.getElem?_of_mem hm
   rw[List.getElem?_take] at hi
   split at hi
   ·obtain⟨h1,h1'⟩:=List.getElem?_eq_some_iff.1 hi
    obtain⟨h2,h2'⟩:=List.getElem?_eq_some_iff.1 hxn
    exact List.pairwise_iff_getElem.1 hnd i j h1 h2 (by assumption) (by rw[h1',h2'])
   ·cases hi
  have hlk:D.look (fg d (d.names.take j)).ns x.n.1=some x.root:=by rw[fg_look _ _ hni,t1]
  have hst:=fg_s (d:=d) hxn
  generalize hD2:fg d (d.names.take (j+1))=d2 at*
  generalize fg d (d.names.take j)=d1 at*
  repeat' (first|refine pN_ixk (C:=cd_string) (s:=s2) (l:=d.names.take g) hS j rfl htg.symm hxt fun ad ha hel=>?_|(refine pcq (f:=84) (Forget_ok (c:=c) x.n hxN hlk hrl hS ?_);clear hS;intro w hS)|(refine pN_lss_s ?_ ?_<;>intro hc<;>try (exfalso;omega))|(refine pN_neq_s ?_ ?_<;>intro hc<;>try (exfalso;first|omega|exact gone hc|exact gon2 hc))|refine pIf_t ?_|refine pIf_f ?_|refine pN_ld1 ha hS ?_|refine pN_v (hk:=?_)|fail)
  refine⟨⟨j+1,rfl,hlt,?_⟩,by simp[RowKit.intOf]<;>omega⟩
  rw[hD2,hst]
  exact hS.to
 ·obtain rfl:j=g:=by omega
  have h1:=hfp j
  have h2:=hfl j
  have h3:(fg d (d.names.take j)).ps.length≤1099511627776:=by rw[h1];exact hp
  have h4:(fg d (d.names.take j)).ns.length≤1099511627776:=by omega
  have h5:size (fg d (d.names.take j))≤4611686018427387904:=by omega
  generalize fg d (d.names.take j)=d1 at*
  repeat' (first|(refine pcq (f:=40) (Prune_ok (c:=c) (Ws:=Ws.drop j) hS h3 h4 h5 hfn hWd hdl ?_);clear hS;intro w hS)|(refine pN_lss_s ?_ ?_<;>intro hc<;>try (exfalso;omega))|refine pIf_f ?_|refine pN_v (hk:=?_)|fail)
  exact hQ _ _ _ hS.to
end
end
section
open Pr
set_option maxRecDepth 8000 in
theorem part_Tr (k:Int) (n:ByteArray) (i:I32) (w:World):(part 58 ([Value.int .i64 k,.string n]++bvs i.l).toArray 2).run zp w= .ok (.agg (bvs i.l).toArray) w:=by
 obtain⟨l,h⟩:=i
 obtain⟨a0,a1,a2,a3,a4,a5,a6,a7,a8,a9,b0,b1,b2,b3,b4,b5,b6,b7,b8,b9,c0,c1,c2,c3,c4,c5,c6,c7,c8,c9,d0,d1,rfl⟩:=list32 l h
 kernel_rfl
theorem fields_Tr0:((zp.fieldsOf 147).toList.map fun f=>(f.name== "_",f.offset,f.type))=[(false,0,3),(false,1,9),(false,2,58)]:=by kernel_rfl
theorem fields_Tr:∃f0 f1 f2:Field,(zp.fieldsOf 147).toList=[f0,f1,f2]∧f0.name≠ "_"∧f1.name≠ "_"∧f2.name≠ "_"∧f0.offset=0∧f1.offset=1∧f2.offset=2∧f2.type=58∧zp.underlying f0.type=some (.int .i64)∧zp.underlying f1.type=some .string:=by
 have h:=fields_Tr0
 generalize (zp.fieldsOf 147).toList=l at*
 rcases l with _|⟨f0,_|⟨f1,_|⟨f2,_|⟨f3,l⟩⟩⟩⟩
 ·simp at h
 ·simp at h
 ·simp at h
 ·simp only[List.map_cons,List.map_nil,List.cons.injEq,Prod.mk.injEq,and_true,beq_eq_false_iff_ne] at h
  obtain⟨⟨a1,a2,a3⟩,⟨b1,b2,b3⟩,c1,c2,c3⟩:=h
  refine⟨f0,f1,f2,rfl,a1,b1,c1,a2,b2,c2,c3,?_,?_⟩
  ·rw[a3];kernel_rfl
  ·rw[b3];kernel_rfl
 ·simp at h
theorem run_eqTr (k:Int) (n:List UInt8) (i:I32) (xo yo:Operand) (w:World):(oBin .eql 147 xo yo (.agg (cdTr.enc (k,n,i)).toArray) (.agg (cdTr.enc (k,n,i)).toArray)).run zp w= .ok (.value (.bool true)) w:=by
 refine run_bin_of 147 xo yo (run_eqGuard_agg w .eql 147 xo yo _ _ (by kernel_rfl)) ?_
 rw[run_eql_struct]
 have h:(Op.equalIn 10000 147 (.agg (cdTr.enc (k,n,i)).toArray) (.agg (cdTr.enc (k,n,i)).toArray)).run zp w= .ok true w:=by
  show(Op.equalIn (9999+1) 147 _ _).run zp w=_
  rw[run_equalIn_struct w 9999 147 _ _ (by kernel_rfl) (by kernel_rfl)]
  obtain⟨f0,f1,f2,hf,n0,n1,n2,o0,o1,o2,t2,u0,u1⟩:=fields_Tr
  rw[hf]
  have p0:(part f0.type (cdTr.enc (k,n,i)).toArray 0).run zp w= .ok (.int .i64 k) w:=by simp[part,isAgg,run_underlying u0,cdTr]
  have p1:(part f1.type (cdTr.enc (k,n,i)).toArray 1).run zp w= .ok (.string ⟨n.toArray⟩) w:=by simp[part,isAgg,run_underlying u1,cdTr]
  have p2:(part f2.type (cdTr.enc (k,n,i)).toArray 2).run zp w= .ok (.agg (bvs i.l).toArray) w:=by rw[t2];exact part_Tr k _ i w
  have e0:(Op.equalIn 9999 f0.type (.int .i64 k) (.int .i64 k)).run zp w= .ok true w:=by
   have:=run_equalIn_int w 9998 f0.type .i64 .i64 k k u0
   rw[beq_self_eq_true] at this
   exact this
  have e1:(Op.equalIn 9999 f1.type (.string ⟨n.toArray⟩) (.string ⟨n.toArray⟩)).run zp w= .ok true w:=by
   have:=run_equalIn_string w 9998 f1.type ⟨n.toArray⟩ ⟨n.toArray⟩ u1
   rw[beq_self_eq_true] at this
   exact this
  have e2:(Op.equalIn 9999 f2.type (.agg (bvs i.l).toArray) (.agg (bvs i.l).toArray)).run zp w= .ok true w:=by
   rw[t2]
   obtain⟨e,h1,h2,h3⟩:=(inferInstance:A32 zp 58).ex
   have hh:=run_equalIn_bytes w 9997 58 e 32 h1 h2 h3 i.l i.l i.h i.h
   rw[beq_self_eq_true] at hh
   exact hh
  simp only[Op.eqFields,n0,n1,n2,ne_eq,not_false_eq_true,if_true,o0,o1,o2,Sem.run_bind,p0,p1,p2,Result.andThen_ok,e0,e1,e2,Bool.not_true,Bool.false_eq_true,if_false,Sem.run_pure]
 rw[h];rfl
theorem pA_eqTr [Pan] {J:Value→Prop} {xo yo:Operand} (k:Int) (n:List UInt8) (i:I32) (hk:J (.bool true)):pA zp (oBin .eql 147 xo yo (.agg (cdTr.enc (k,n,i)).toArray) (.agg (cdTr.enc (k,n,i)).toArray)) J:=pA_of (fun w=>run_eqTr k n i xo yo w) hk
namespace Pr
def loo:List UInt8:=[108,111,111,115,101]
def fx:D.T:=⟨kP,[(H.sum loo,loo)],[]⟩
theorem loo_pieces:C.pieces kP loo=[loo]:=C.pieces_one (by decide) (by decide)
theorem fx_put:(D.new kP).put loo=fx:=by
 show(D.new kP).puts (C.pieces kP loo)=fx
 rw[loo_pieces]
 rfl
theorem fx_ids:D.ids (D.new kP).k loo=[H.sum loo]:=by
 show(C.pieces kP loo).map H.sum=_
 rw[loo_pieces]
 rfl
theorem sortI_1 (i:I32):S.sortI [i]=[i]:=(List.singleton_perm.1 (S.sortI_perm [i]).symm).symm
theorem fx_sums:fx.sums=[H.sum loo]:=sortI_1 _
theorem fx_names:fx.names=([]:List Nm).map fun x=>x.n.1:=by
 show S.sortN []=[]
 exact List.perm_nil.1 (S.sortN_perm [])
theorem fx_loose:loose fx []=[H.sum loo]:=by
 unfold loose
 rw[fx_sums]
 simp
theorem fx_check:check fx []=[(3,[],H.sum loo)]:=by
 unfold check looseC
 rw[fx_sums]
 simp[miss]
theorem fx_size:size fx=5:=rfl
theorem fx_drops:fx.drops [H.sum loo]=D.new kP:=by
 show fx.drop1 (H.sum loo)=_
 unfold D.T.drop1 fx
 rw[D.era,if_pos rfl]
 rfl
theorem fx_none:(D.new kP).sums=[]:=List.perm_nil.1 (S.sortI_perm [])
theorem fx_legal:(D.new kP).k.legal:=kP_legal
theorem fx_lens:fx.ps.length≤1099511627776∧fx.ns.length≤1099511627776∧(D.new kP).ps.length≤1099511627776:=by decide
theorem fx_size0:size (D.new kP)=0:=rfl
end Pr
attribute [local irreducible] Pr.fx H.sum D.new Pr.kP Pr.confC Pr.check Pr.loose Pr.size
section
variable [Pan] {E w W:World} {K Q:Value→World→Prop} {LL M N N':List HA}
theorem run_ldz {P:Program} {t:TypeId} {α:Type} {C:Cd α} {s:Sl} {l:List α} {z:Nat} {a:Addr} {cs:List Value} (ha:EA C s l a cs) (hS:Sat E w M) [hr:Rds C M s l] [Ag P t z] (hn:z=cs.length):(oLoad t (.pointer (some a))).run P w= .ok (.value (.agg cs.toArray)) w:=by
 subst hn
 exact run_load_agg Ag.ag Ag.sz (ha.at_ E w M hr hS)
set_option maxHeartbeats 1000000 in
theorem fixed_ok (hG:GloS W) (hS:Sat E w M) [hg:Has (old W) M N'] (hQ:∀w,Sat E w M→Q (.bool true) w):Calls zp 35 #[] w (retP Q):=by
 refine pithlaw37_fixed.calls ?_
 unfold pithlaw37_fixed.F
 refine pcq (f:=75) (conf_ok hS ?_)
 clear hS
 intro w hS
 refine pcq (f:=76) (cuts_ok 0 (by decide) hS ?_)
 clear hS
 intro w hS
 refine pcq (f:=48) (DNew_in (c:=confC) (k:=kP) conf_okC kP_legal hS ?_)
 clear hS
 intro db w hS
 repeat' (first|(refine pN_neq_s ?_ ?_<;>intro hc<;>try (exfalso;first|omega|exact gone hc|exact gon2 hc))|refine pIf_f ?_|refine pGd_go (by rfl) ?_|refine pN_v (hk:=?_)|fail)
 refine pN_bl (C:=cd_uint8) (loo.map bv) loo rfl rfl rfl (Nat.succ_pos _) hS (Nat.le_of_ble_eq_true rfl) ?_
 clear hS
 intro so w hS
 refine pN_mks (C:=cd_uint8) (s:=so) (l:=loo) hS (Nat.le_of_ble_eq_true rfl) Tryz.underlying5 rfl ?_
 clear hS
 intro w hS
 refine pcq (f:=16) (DPut_ok (b:=db) (s:=so) (c:=confC) (d:=D.new kP) (l:=loo) hG fx_legal hS (Nat.le_of_ble_eq_true rfl) ?_)
 rw[fx_put,fx_ids]
 clear hS
 intro sp w hS
 have h1:=fx_names
 obtain⟨hp,hn,hp0⟩:=fx_lens
 refine pcq (f:=41) (Check_ok (c:=confC) (d:=fx) (Ws:=[]) hS hp hn h1 (fun x hx=>by cases hx) (Nat.zero_le _) (Nat.zero_le _) ?_)
 rw[fx_check]
 clear hS
 intro sc w hS
 refine pcq (f:=40) (Prune_ok (c:=confC) (d:=fx) (Ws:=[]) hS hp hn (by rw[fx_size];decide) h1 (fun x hx=>by cases hx) (Nat.zero_le _) ?_)
 rw[fx_loose,fx_drops,fx_size,fx_size0]
 clear hS
 intro w hS
 have hS:Sat E w (rows cdTr sc [(3,[],H.sum loo)]::rows (cdI 58) sp [H.sum loo]::Dep confC db (D.new kP)::M):=hS.to
 have h1:[((3,[],H.sum loo):TrE)][0]? =some (3,[],H.sum loo):=rfl
 have h2:[H.sum loo][0]? =some (H.sum loo):=rfl
 generalize H.sum loo=i at*
 have hz:34=(cdTr.enc (3,[],i)).length:=(cdTr.len (3,[],i)).symm
 repeat' (first|refine pL_ld_at (C:=cdTr) (s:=sc) (l:=[(3,[],i)]) (z:=34) (cs:=cdTr.enc (3,[],i)) (by assumption) hS hz ?_|refine pL_ld_at (C:=cdI 58) (s:=sp) (l:=[i]) (z:=32) (cs:=bvs i.l) (by assumption) hS (i32n i) ?_|refine pN_bTr0 3 i ?_|(refine pA_eql_s ?_ ?_<;>intro hc<;>try (exfalso;first|omega|exact gone hc|exact gon2 hc))|refine gA_go (by rfl) ?_|refine pGd_go (by rfl) ?_|(refine pDr_go hS ?_;clear hS;intro w hS)|refine pA_ixk hS _ (by first|rfl|(exact(Int.toNat_of_nonneg (by omega)).symm)) (by first|rfl|omega|simpa only[go_sem] using True.intro|(simp only[go_sem];omega)) (by assumption) fun a ha hel=>?_|refine pN_v (hk:=?_)|refine pA_v (hk:=?_)|fail)
 refine⟨⟨fun _=>run_ldz (C:=cdTr) (s:=sc) (l:=[(3,[],i)]) (z:=34) (cs:=cdTr.enc (3,[],i)) (by assumption) hS hz,trivial⟩,?_⟩
 repeat' (first|refine pA_eqTr 3 [] i ?_|(refine pcq (f:=19) (DIDs_ok (c:=confC) hS hp0 ?_);rw[fx_none];clear hS;intro s2 w hS)|refine And.intro trivial ?_|(refine pA_eql_s ?_ ?_<;>intro hc<;>try (exfalso;first|omega|exact gone hc|exact gon2 hc))|refine gA_go (by rfl) ?_|refine pGd_go (by rfl) ?_|refine pA_v (hk:=?_)|fail)
 exact hQ _ hS.to
end
end
section
namespace S
theorem plain_eq (x y:It):plainI x=plainI y↔x.Name=y.Name∧x.Link=y.Link∧x.Kind=y.Kind∧x.Mode=y.Mode∧x.Time=y.Time∧x.Data.2=y.Data.2:=by
 unfold plainI
 simp only[T_api_Item.mk.injEq,Prod.mk.injEq,true_and]
end S
attribute [local irreducible] S.plainI
section
variable [Pan] {E w W:World} {K Q:Value→World→Prop} {LL M N N':List HA} {la lb:List T_api_Item} {sa sb:Sl}
set_option maxHeartbeats 2000000 in
theorem palike_ok (hS:Sat E w M) [ha:Rds cd_api_Item M sa la] [hb:Rds cd_api_Item M sb lb] (hda:∀x∈la,Rds cd_uint8 M x.Data.1 x.Data.2) (hdb:∀x∈lb,Rds cd_uint8 M x.Data.1 x.Data.2) (hla:la.length≤1099511627776)
  (hQ:∀w,Sat E w M→Q (.bool (decide (la.map S.plainI=lb.map S.plainI))) w):
  Calls zp 43 #[.slice sa.a la.length sa.c,.slice sb.a lb.length sb.c] w (retP Q):=by
 refine pithlaw37_alike.calls ?_
 unfold pithlaw37_alike.F
 by_cases hl:la.length=lb.length
 ·repeat' (first|(refine pN_neq_s ?_ ?_<;>intro hc<;>try (exfalso;first|omega|exact gone hc|exact gon2 hc))|refine pIf_f ?_|refine pN_v (hk:=?_)|fail)
  refine⟨fun v w=>∃j:Nat,v= .int .i64 j∧j≤la.length∧(la.map S.plainI).take j=(lb.map S.plainI).take j∧Sat E w M,fun v _=>la.length-(RowKit.intOf v).toNat,⟨0,rfl,by omega,by rw[List.take_zero,List.take_zero],hS⟩,?_⟩
  clear hS
  rintro _ _ w ⟨j,rfl,hj,he,hS⟩
  by_cases hlt:j<la.length
  ·obtain⟨x,hx⟩:∃x,la[j]? =some x:=⟨la[j],by simp[hlt]⟩
   obtain⟨y,hy⟩:∃y,lb[j]? =some y:=⟨lb[j],by simp[show j<lb.length by omega]⟩
   haveI:=hda x (List.mem_of_getElem? hx)
   haveI:=hdb y (List.mem_of_getElem? hy)
   have hnx:(la.map S.plainI).take (j+1)=(la.map S.plainI).take j++[S.plainI x]:=by rw[List.take_add_one,List.getElem?_map,hx];rfl
   have hny:(lb.map S.plainI).take (j+1)=(lb.map S.plainI).take j++[S.plainI y]:=by rw[List.take_add_one,List.getElem?_map,hy];rfl
   have hpe:=S.plain_eq x y
   have hno:¬(x.Name=y.Name∧x.Link=y.Link∧x.Kind=y.Kind∧x.Mode=y.Mode∧x.Time=y.Time∧x.Data.2=y.Data.2)→∀w,Sat E w M→Q (.bool false) w:=fun hn w hS=>by
    have hne:la.map S.plainI≠lb.map S.plainI:=fun e=>by
     have h1:=congrArg (·[j]?) e
     simp only[List.getElem?_map,hx,hy,Option.map_some,Option.some.injEq] at h1
     exact hn (hpe.1 h1)
    have h2:=hQ w hS
    rwa[decide_eq_false hne] at h2
   have hyes:x.Name=y.Name→x.Link=y.Link→x.Kind=y.Kind→x.Mode=y.Mode→x.Time=y.Time→x.Data.2=y.Data.2→(la.map S.plainI).take (j+1)=(lb.map S.plainI).take (j+1):=fun a b c d e f=>by rw[hnx,hny,he,hpe.2 ⟨a,b,c,d,e,f⟩]
   clear hnx hny hpe hQ he
   repeat' (first|refine pN_ixk (C:=cd_api_Item) (s:=sa) (l:=la) hS j rfl rfl hx fun ad ha hel=>?_|refine pN_ld_at ha hS rfl ?_|(refine pN_nz (t:=49) hS ?_;clear hS;intro xb w hS)|(refine pN_lss_s ?_ ?_<;>intro hc<;>try (exfalso;omega))|((first|refine pN_neq_s ?_ ?_|refine pN_neq_ss ?_ ?_)<;>intro hc<;>try (exfalso;first|omega|exact gone hc|exact gon2 hc))|refine pIf_t ?_|refine pIf_f ?_|refine pGd_go (by rfl) ?_|refine pGd_no (by rfl) ?_|refine pN_l hS (by first|rfl|assumption) ?_|(refine pN_sa hS (by rfl) (by rfl) (by rfl) ?_;clear hS;intro w hS;try dsimp only at hS)|refine pN_ixk hS _ (by first|rfl|(exact(Int.toNat_of_nonneg (by omega)).symm)) (by first|rfl|omega|simpa only[go_sem] using True.intro|(simp only[go_sem];omega)) (by assumption) fun a ha hel=>?_|refine pN_st hS (by first|rfl|omega|simpa only[go_sem] using True.intro|(simp only[go_sem];omega)) ?_|refine pN_v (hk:=?_)|fail)
   all_goals first
    |exact hno (fun h=>by simp_all) _ hS.to
    |exact⟨⟨j+1,rfl,by omega,hyes (by assumption) (by assumption) (by assumption) (by assumption) (by assumption) (by assumption),hS.to⟩,by simp[RowKit.intOf]<;>omega⟩
  ·obtain rfl:j=la.length:=by omega
   have e1:(la.map S.plainI).take la.length=la.map S.plainI:=List.take_of_length_le (by rw[List.length_map];exact Nat.le_refl _)
   have e2:(lb.map S.plainI).take la.length=lb.map S.plainI:=List.take_of_length_le (by rw[List.length_map];omega)
   rw[e1,e2] at he
   rw[decide_eq_true he] at hQ
   repeat' (first|(refine pN_lss_s ?_ ?_<;>intro hc<;>try (exfalso;omega))|refine pIf_f ?_|refine pN_v (hk:=?_)|fail)
   exact hQ _ hS
 ·have hne:la.map S.plainI≠lb.map S.plainI:=fun e=>hl (by have:=congrArg List.length e;rwa[List.length_map,List.length_map] at this)
  rw[decide_eq_false hne] at hQ
  repeat' (first|(refine pN_neq_s ?_ ?_<;>intro hc<;>try (exfalso;first|omega|exact gone hc|exact gon2 hc))|refine pIf_t ?_|refine pN_v (hk:=?_)|fail)
  exact hQ _ hS
end
end
section
open Pr
namespace Pr
structure Nd where
 x:Nm
 dat:L.En→D.B
structure Nd.ok (d:D.T) (y:Nd):Prop where
 a:y.x.ok d
 dt:∀e∈y.x.es,e.sums.length≤1099511627776∧(e.kind=0→d.get e.sums=some (y.dat e))∧(e.kind≠0→y.dat e=[])∧(y.dat e).length≤140737488355328
def hdI (n:List UInt8):S.It:=⟨n,[],0,0,0,(⟨none,0⟩,[])⟩
def Nd.out (y:Nd):List S.It:=hdI y.x.n.1::S.fulls y.dat y.x.es
def tolds (Y:List Nd):List S.It:=(Y.map Nd.out).flatten
theorem tolds_s {Y:List Nd} {j:Nat} {y:Nd} (h:Y[j]? =some y):tolds (Y.take (j+1))=(tolds (Y.take j)++[hdI y.x.n.1])++S.fulls y.dat y.x.es:=by
 unfold tolds
 rw[List.take_add_one,h]
 simp[Nd.out]
theorem fulls_len (dat:L.En→D.B) (es:List L.En):(S.fulls dat es).length=es.length:=by
 unfold S.fulls
 rw[List.length_map]
theorem tolds_len:∀Y:List Nd,(tolds Y).length=(Y.map fun y=>y.x.es.length+1).sum
 | []=>rfl
 |y::Y=>by
  have h:=tolds_len Y
  unfold tolds Nd.out at h ⊢
  rw[List.map_cons,List.flatten_cons,List.length_append,List.map_cons,List.sum_cons,h,List.length_cons,fulls_len]
theorem tolds_take_len (Y:List Nd) (j:Nat):(tolds (Y.take j)).length≤(tolds Y).length:=by
 have:tolds Y=tolds (Y.take j)++tolds (Y.drop j):=by
  unfold tolds
  rw[←List.flatten_append,←List.map_append,List.take_append_drop]
 rw[this,List.length_append]
 omega
def wants (W:List Nm):List I32:=(W.map Nm.needs).flatten
theorem wants_s {W:List Nm} {j:Nat} {x:Nm} (h:W[j]? =some x):wants (W.take (j+1))=wants (W.take j)++x.needs:=by
 unfold wants
 rw[List.take_add_one,h]
 simp
theorem wants_mem {W:List Nm} {i:I32}:i∈wants W↔∃x∈W,i∈x.needs:=by
 unfold wants
 rw[List.mem_flatten]
 constructor
 ·rintro⟨l,hl,hi⟩
  obtain⟨x,hx,rfl⟩:=List.mem_map.1 hl
  exact⟨x,hx,hi⟩
 ·rintro⟨x,hx,hi⟩
  exact⟨_,List.mem_map_of_mem hx,hi⟩
theorem tolds_0 (Y:List Nd):tolds (Y.take 0)=[]:=by rw[List.take_zero];rfl
theorem wants_0 (W:List Nm):wants (W.take 0)=[]:=by rw[List.take_zero];rfl
theorem wants_take_len (W:List Nm) (j:Nat):(wants (W.take j)).length≤(wants W).length:=by
 have:wants W=wants (W.take j)++wants (W.drop j):=by
  unfold wants
  rw[←List.flatten_append,←List.map_append,List.take_append_drop]
 rw[this,List.length_append]
 omega
theorem itR_app {E w:World} {M:List HA} {a b:List T_api_Item} (hS:Sat E w (bag (itR a)::bag (itR b)::M)):Sat E w (bag (itR (a++b))::M):=by
 have h1:=hS.openBag
 have h2:Sat E w (bag (itR b)::(itR a++M)):=h1.perm (by
  refine(List.perm_append_comm_assoc (itR a) [bag (itR b)] M).trans ?_
  exact List.Perm.refl _)
 have h3:=h2.openBag
 have e:itR (a++b)++M=itR a++(itR b++M):=by simp[itR]
 have h4:Sat E w (itR (a++b)++M):=by
  rw[e]
  refine h3.perm ?_
  exact List.perm_append_comm_assoc (itR b) (itR a) M
 exact h4.shutBag
end Pr
attribute [local irreducible] S.fulls Pr.tolds Pr.wants
section
variable [Pan] {E w W:World} {K Q:Value→World→Prop} {LL M N N':List HA} {c:T_api_Config} {db:Nat} {d:D.T} {s sl:Sl}
set_option maxHeartbeats 1000000 in
theorem told_ok {Y:List Nd} (hS:Sat E w LL) [hf:Fnd (Dep c db) LL d N] (hnl:d.ns.length≤1099511627776) (hnm:d.names=Y.map fun y=>y.x.n.1) (hY:∀y∈Y,y.ok d) (hl:Y.length≤1099511627776) (ht:(tolds Y).length≤1099511627776)
  (hQ:∀(os:List T_api_Item) so w,os.map S.plainI=tolds Y→Sat E w (rows cd_api_Item so os::bag (itR os)::Dep c db d::N)→Q (.tuple #[.slice so.a os.length so.c,.bool true]) w):
  Calls zp 37 #[.pointer (some ⟨db,0,none⟩)] w (retP Q):=by
 refine pithlaw37_told.calls ?_
 unfold pithlaw37_told.F
 have hyl:(Y.map fun y=>y.x.n.1).length=Y.length:=List.length_map ..
 refine pcq (f:=30) (List_ok (c:=c) hS hnl ?_)
 rw[hnm,hyl]
 clear hS hf
 intro sn w hS
 have htk:=fun j=>tolds_take_len Y j
 refine⟨fun v v' w=>∃(j:Nat) (os:List T_api_Item) (so:Sl),v= .slice so.a os.length so.c∧v'= .int .i64 j∧j≤Y.length∧os.map S.plainI=tolds (Y.take j)∧Sat E w (rows cd_api_Item so os::bag (itR os)::Dep c db d::rows cd_string sn (Y.map fun y=>y.x.n.1)::N),fun _ v _=>Y.length-(RowKit.intOf v).toNat,
  ⟨0,[],⟨none,0⟩,rfl,rfl,by omega,by rw[tolds_0];rfl,?_⟩,?_⟩
 ·have h8:Sat E w (rows cd_api_Item ⟨none,0⟩ []::_):=hS.nil cd_api_Item.e cd_api_Item.size
  have h9:Sat E w (bag (itR [])::rows cd_api_Item ⟨none,0⟩ []::_):=h8.bag_nil
  exact h9.to
 clear hS
 rintro _ _ _ w ⟨j,os,so,rfl,rfl,hj,hpl,hS⟩
 have hoj:=htk j
 have hol:os.length=(tolds (Y.take j)).length:=by rw[←hpl,List.length_map]
 by_cases hlt:j<Y.length
 ·obtain⟨y,hy⟩:∃y,Y[j]? =some y:=⟨Y[j],List.getElem?_eq_getElem _⟩
  obtain⟨⟨t1,t2,t3,t4⟩,hdt⟩:=hY y (List.mem_of_getElem? hy)
  have hxn:(Y.map fun y=>y.x.n.1)[j]? =some y.x.n.1:=by rw[List.getElem?_map,hy];rfl
  have hts:=tolds_s hy
  have hrl:y.x.root.length≤1099511627776:=by
   unfold S.allsOf at t3
   rw[List.length_append] at t3
   omega
  repeat' (first|(refine pN_lss_s ?_ ?_<;>intro hc<;>try (exfalso;omega))|refine pIf_t ?_|refine pN_ld1 ha hS ?_|refine pN_ixk hS _ (by first|rfl|(exact(Int.toNat_of_nonneg (by omega)).symm)) (by first|rfl|omega|simpa only[go_sem] using True.intro|(simp only[go_sem];omega)) (by assumption) fun a ha hel=>?_|refine pN_v (hk:=?_)|fail)
  refine pcq (f:=24) (Items_ok (c:=c) (d:=d) hS y.x.n t1 hrl t2 t4 y.dat hdt ?_)
  clear hS
  intro oi si w hpi hS
  have hS:Sat E w (rows cd_api_Item so os::rows cd_api_Item si oi::bag (itR oi)::bag (itR os)::Dep c db d::rows cd_string sn (Y.map fun y=>y.x.n.1)::N):=hS.to
  have hlo:(tolds (Y.take (j+1))).length≤1099511627776:=Nat.le_trans (htk (j+1)) ht
  rw[hts,List.length_append,List.length_append,List.length_singleton] at hlo
  have hil:oi.length=(S.fulls y.dat y.x.es).length:=by rw[←hpi,List.length_map]
  repeat' (first|(refine pN_neq_s ?_ ?_<;>intro hc<;>try (exfalso;first|omega|exact gone hc|exact gon2 hc))|refine pIf_f ?_|refine pN_ld1 ha hS ?_|refine pN_ixk hS _ (by first|rfl|(exact(Int.toNat_of_nonneg (by omega)).symm)) (by first|rfl|omega|simpa only[go_sem] using True.intro|(simp only[go_sem];omega)) (by assumption) fun a ha hel=>?_|refine pN_v (hk:=?_)|fail)
  repeat' (first|(refine pN_b1 (C:=cd_api_Item) (x:=hdI y.x.n.1) hS rfl (by decide) ?_;clear hS;intro s3 w hS)|(refine pN_app (C:=cd_api_Item) (s:=so) (l:=os) (m:=[hdI y.x.n.1]) hS rfl rfl (by rw[List.length_singleton];omega) ?_;clear hS;intro s4 w hS)|(refine pN_app (C:=cd_api_Item) (s:=s4) (l:=os++[hdI y.x.n.1]) (m:=oi) hS rfl rfl (by rw[List.length_append,List.length_singleton];omega) ?_;clear hS;intro s5 w hS)|refine pN_v (hk:=?_)|fail)
  have hS:Sat E w (bag (itR os)::bag (itR oi)::rows cd_api_Item s5 ((os++[hdI y.x.n.1])++oi)::Dep c db d::rows cd_string sn (Y.map fun y=>y.x.n.1)::N):=hS.to
  have h0:Sat E w (rows cd_uint8 (hdI y.x.n.1).Data.1 (hdI y.x.n.1).Data.2::bag (itR os)::bag (itR oi)::rows cd_api_Item s5 ((os++[hdI y.x.n.1])++oi)::Dep c db d::rows cd_string sn (Y.map fun y=>y.x.n.1)::N):=hS.nil cd_uint8.e cd_uint8.size
  have h1:=itR_app (itR_snoc _ h0)
  refine⟨⟨j+1,_,s5,rfl,rfl,hlt,?_,h1.to⟩,by simp[RowKit.intOf]<;>omega⟩
  rw[List.map_append,List.map_append,hpl,hpi,hts]
  rfl
 ·obtain rfl:j=Y.length:=by omega
  rw[List.take_length] at hpl
  repeat' (first|(refine pN_lss_s ?_ ?_<;>intro hc<;>try (exfalso;omega))|refine pIf_f ?_|refine pN_v (hk:=?_)|fail)
  exact hQ os so _ hpl hS.to
theorem needs_ok {Ws:List Nm} (hS:Sat E w LL) [hf:Fnd (Dep c db) LL d N] (hnl:d.ns.length≤1099511627776) (hnm:d.names=Ws.map fun x=>x.n.1) (hW:∀x∈Ws,x.ok d) (hl:Ws.length≤1099511627776) (ht:(wants Ws).length≤1099511627776)
  (hQ:∀so w,Sat E w (rows (cdI 58) so (wants Ws)::Dep c db d::N)→Q (.slice so.a (wants Ws).length so.c) w):
  Calls zp 38 #[.pointer (some ⟨db,0,none⟩)] w (retP Q):=by
 refine pithlaw37_needs.calls ?_
 unfold pithlaw37_needs.F
 have hyl:(Ws.map fun x=>x.n.1).length=Ws.length:=List.length_map ..
 refine pcq (f:=30) (List_ok (c:=c) hS hnl ?_)
 rw[hnm,hyl]
 clear hS hf
 intro sn w hS
 have htk:=fun j=>wants_take_len Ws j
 refine⟨fun v v' w=>∃(j:Nat) (so:Sl),v= .slice so.a (wants (Ws.take j)).length so.c∧v'= .int .i64 j∧j≤Ws.length∧Sat E w (rows (cdI 58) so (wants (Ws.take j))::Dep c db d::rows cd_string sn (Ws.map fun x=>x.n.1)::N),fun _ v _=>Ws.length-(RowKit.intOf v).toNat,
  ⟨0,⟨none,0⟩,by rw[wants_0];rfl,rfl,by omega,?_⟩,?_⟩
 ·rw[wants_0]
  have h8:Sat E w (rows (cdI 58) ⟨none,0⟩ []::_):=hS.nil (cdI 58).e (cdI 58).size
  exact h8.to
 clear hS
 rintro _ _ _ w ⟨j,so,rfl,rfl,hj,hS⟩
 have hoj:=htk j
 by_cases hlt:j<Ws.length
 ·obtain⟨x,hx⟩:∃x,Ws[j]? =some x:=⟨Ws[j],List.getElem?_eq_getElem _⟩
  obtain⟨t1,t2,t3,t4⟩:=hW x (List.mem_of_getElem? hx)
  have hxn:(Ws.map fun x=>x.n.1)[j]? =some x.n.1:=by rw[List.getElem?_map,hx];rfl
  have hts:=wants_s hx
  have hlo:(wants (Ws.take (j+1))).length≤1099511627776:=Nat.le_trans (htk (j+1)) ht
  rw[hts,List.length_append] at hlo
  have hxe:x.needs=S.needsOf x.root x.es:=rfl
  generalize hA2:wants (Ws.take (j+1))=a2 at*
  generalize wants (Ws.take j)=a1 at*
  repeat' (first|(refine pcq (f:=17) (Needs_ok (c:=c) (d:=d) hS x.n t1 t2 t3 t4 ?_);rw[←hxe];clear hS;intro si w hS)|(refine pN_app (C:=cdI 58) (s:=so) (l:=a1) (m:=x.needs) hS rfl rfl (by omega) ?_;clear hS;intro s5 w hS)|(refine pN_lss_s ?_ ?_<;>intro hc<;>try (exfalso;omega))|refine pIf_t ?_|refine pN_ld1 ha hS ?_|refine pN_ixk hS _ (by first|rfl|(exact(Int.toNat_of_nonneg (by omega)).symm)) (by first|rfl|omega|simpa only[go_sem] using True.intro|(simp only[go_sem];omega)) (by assumption) fun a ha hel=>?_|refine pN_v (hk:=?_)|fail)
  refine⟨⟨j+1,s5,by rw[hA2,hts],rfl,hlt,?_⟩,by simp[RowKit.intOf]<;>omega⟩
  rw[hA2,hts]
  exact hS.to
 ·obtain rfl:j=Ws.length:=by omega
  rw[List.take_length] at hS ⊢
  generalize wants Ws=a1 at*
  repeat' (first|(refine pN_lss_s ?_ ?_<;>intro hc<;>try (exfalso;omega))|refine pIf_f ?_|refine pN_v (hk:=?_)|fail)
  exact hQ so _ hS.to
end
end
end
section
namespace L
theorem rsums_eat:∀{n:Nat} {b q:List UInt8} {l:List I32},rsums n b=some (l,q)→32*l.length+q.length≤b.length
 |0,b,q,l,h=>by
  rw[rsums] at h
  cases h
  simp
 |n+1,b,q,l,h=>by
  rw[rsums] at h
  split at h
  ·rename_i hb
   cases hr:rsums n (b.drop 32) with
   |none=>simp only[hr] at h;cases h
   |some p=>
    obtain⟨l',q'⟩:=p
    simp only[hr] at h
    cases h
    have:=rsums_eat hr
    rw[List.length_drop] at this
    rw[List.length_cons]
    omega
  ·cases h
theorem rrow_eat {b q:List UInt8} {e:En} (h:rrow S.right b=some (e,q)):32*e.sums.length+q.length≤b.length:=by
 obtain⟨kb,b1,m,b2,t,b3,n,b4,h1,h2,h3,h4,h5,_⟩:=rrow_some h
 have e1:=take_len h1
 have e2:=number_len h2
 have e3:=number_len h3
 have e4:=(rtext_len h4).1
 by_cases k0:((kb.headD 0).toNat:Int)=0
 ·obtain⟨cnt,b5,l,h6,h7,rfl⟩:=rtail_0 k0 h5
  have e5:=number_len h6
  have h8:=rsums_eat h7
  show 32*l.length+_≤_
  omega
 ·by_cases k2:((kb.headD 0).toNat:Int)=2
  ·obtain⟨l,h6,rfl⟩:=rtail_2 k2 h5
   have e5:=(rtext_len h6).1
   show 32*0+_≤_
   omega
  ·obtain⟨rfl,rfl⟩:=rtail_1 k0 k2 h5
   show 32*0+_≤_
   omega
theorem rrows_eat:∀{n:Nat} {last:Option (List UInt8)} {b q:List UInt8} {l:List En},rrows S.right n last b=some (l,q)→32*((l.map (·.sums)).flatten).length+q.length≤b.length
 |0,last,b,q,l,h=>by
  obtain⟨rfl,rfl⟩:=rrows_0 h
  simp
 |n+1,last,b,q,l,h=>by
  obtain⟨e0,r,l',h1,_,h3,rfl⟩:=rrows_s h
  have h4:=rrows_eat h3
  have h5:=rrow_eat h1
  rw[List.map_cons,List.flatten_cons,List.length_append]
  omega
theorem rlist_eat {b:List UInt8} {es:List En} (h:rlist S.right b=some es):32*((es.map (·.sums)).flatten).length≤b.length:=by
 unfold rlist at h
 cases hn:number b with
 |none=>rw[hn] at h;cases h
 |some p=>
  obtain⟨n,b'⟩:=p
  rw[hn] at h
  simp only at h
  cases hr:rrows S.right n none b' with
  |none=>rw[hr] at h;cases h
  |some p=>
   obtain⟨l,q⟩:=p
   rw[hr] at h
   simp only at h
   split at h
   ·cases h
    have h1:=rrows_eat hr
    have h2:=number_len hn
    omega
   ·cases h
end L
namespace D
theorem get_same {d e:T}:∀{l:List I32},(∀i∈l,look e.ps i=look d.ps i)→e.get l=d.get l
 | [],_=>rfl
 |i::l,h=>by
  rw[T.get,T.get,h i List.mem_cons_self,get_same fun j hj=>h j (List.mem_cons_of_mem _ hj)]
theorem get_has {d:T}:∀{l:List I32} {q:B},d.get l=some q→∀i∈l,d.has i=true
 | [],_,_,i,hi=>by cases hi
 |j::l,q,h,i,hi=>by
  rw[T.get] at h
  cases hx:look d.ps j with
  |none=>rw[hx] at h;cases h
  |some v=>
   rw[hx] at h
   cases hl:d.get l with
   |none=>simp only[hl] at h;cases h
   |some r=>
    rcases List.mem_cons.1 hi with rfl|hi
    ·unfold T.has;rw[hx];rfl
    ·exact get_has hl i hi
theorem sums_nodup {d:T} (h:d.Nd):d.sums.Nodup:=(S.sortI_perm _).nodup_iff.2 h
theorem sums_len (d:T):d.sums.length=d.ps.length:=by
 have h:d.sums.length=(d.ps.map (·.1)).length:=(S.sortI_perm _).length_eq
 rw[h,List.length_map]
end D
namespace Pr
structure Fit (d:D.T) (Y:List Nd):Prop where
 nd:d.Nd
 nm:d.names=Y.map fun y=>y.x.n.1
 ok:∀y∈Y,y.ok d
 gs:∀y∈Y,∀e∈y.x.es,∃q,d.get e.sums=some q
 n2:∀y∈Y,y.x.n.1.length≤254
abbrev nms (Y:List Nd):List Nm:=Y.map (·.x)
def ncs (Y:List Nd):List Nc:=Y.map fun y=>⟨y.x.n,y.x.root,y.x.es,true⟩
theorem nms_mem {Y:List Nd} {x:Nm} (h:x∈nms Y):∃y∈Y,y.x=x:=List.mem_map.1 h
theorem Fit.has {d:D.T} {Y:List Nd} (h:Fit d Y) {y:Nd} (hy:y∈Y) {i:I32} (hi:i∈y.x.needs):d.has i=true:=by
 obtain⟨⟨⟨_,b,hb,_⟩,_⟩,_⟩:=h.ok y hy
 rcases S.needs_mem.1 hi with h1|⟨e,he,h1⟩
 ·exact D.get_has hb i h1
 ·obtain⟨q,hq⟩:=h.gs y hy e he
  exact D.get_has hq i h1
theorem Nd.ok.same {d e:D.T} {y:Nd} (h:y.ok d) (hn:D.look e.ns y.x.n.1=D.look d.ns y.x.n.1) (hp:∀i∈y.x.needs,D.look e.ps i=D.look d.ps i):y.ok e:=by
 obtain⟨⟨⟨t1,b,t2,t3⟩,h2,h3,h4⟩,h5⟩:=h
 have hr:e.get y.x.root=d.get y.x.root:=D.get_same fun i hi=>hp i (S.needs_mem.2 (.inl hi))
 have hs:∀f∈y.x.es,e.get f.sums=d.get f.sums:=fun f hf=>D.get_same fun i hi=>hp i (S.needs_mem.2 (.inr ⟨f,hf,hi⟩))
 refine⟨⟨⟨by rw[hn];exact t1,b,by rw[hr];exact t2,t3⟩,fun q hq=>h2 q (by rw[←hr];exact hq),h3,h4⟩,fun f hf=>?_⟩
 rw[hs f hf]
 exact h5 f hf
theorem loose_mem {d:D.T} {W:List Nm} {i:I32}:i∈loose d W↔d.has i=true∧∀x∈W,i∉x.needs:=by
 unfold loose
 rw[List.mem_filter,decide_eq_true_iff,D.sums_mem]
theorem Fit.prune {d:D.T} {Y:List Nd} (h:Fit d Y):Fit (d.drops (loose d (nms Y))) Y:=by
 have hn:(d.drops (loose d (nms Y))).ns=d.ns:=D.drops_ns _ _
 have hp:∀y∈Y,∀i∈y.x.needs,D.look (d.drops (loose d (nms Y))).ps i=D.look d.ps i:=fun y hy i hi=>by
  rw[D.look_drops _ h.nd,if_neg fun hm=>(loose_mem.1 hm).2 y.x (List.mem_map_of_mem hy) hi]
 refine⟨D.drops_nd _ h.nd,?_,fun y hy=>(h.ok y hy).same (by rw[hn]) (hp y hy),fun y hy e he=>?_,h.n2⟩
 ·show S.sortN _=_
  rw[hn]
  exact h.nm
 ·rw[D.get_same fun i hi=>hp y hy i (S.needs_mem.2 (.inr ⟨e,he,hi⟩))]
  exact h.gs y hy e he
theorem Fit.none {d:D.T} {Y:List Nd} (h:Fit d Y):loose (d.drops (loose d (nms Y))) (nms Y)=[]:=by
 refine List.eq_nil_iff_forall_not_mem.2 fun i hi=>?_
 obtain⟨h1,h2⟩:=loose_mem.1 hi
 unfold D.T.has at h1
 rw[D.look_drops _ h.nd] at h1
 split at h1
 ·cases h1
 ·rename_i hn
  exact hn (loose_mem.2 ⟨h1,h2⟩)
theorem Fit.kept {d:D.T} {Y:List Nd} (h:Fit d Y) {i:I32} (hi:i∈d.sums):(d.drops (loose d (nms Y))).has i=decide (i∈wants (nms Y)):=by
 have hh:=D.sums_mem.1 hi
 have hw:=wants_mem (W:=nms Y) (i:=i)
 unfold D.T.has
 rw[D.look_drops _ h.nd]
 by_cases hl:i∈loose d (nms Y)
 ·rw[if_pos hl]
  symm
  refine decide_eq_false fun hm=>?_
  obtain⟨x,hx,h1⟩:=hw.1 hm
  exact(loose_mem.1 hl).2 x hx h1
 ·rw[if_neg hl]
  have h2:i∈wants (nms Y):=by
   refine Classical.byContradiction fun hm=>hl (loose_mem.2 ⟨hh,fun x hx h1=>hm (hw.2 ⟨x,hx,h1⟩)⟩)
  rw[decide_eq_true h2]
  exact hh
theorem Fit.count {d:D.T} {Y:List Nd} (h:Fit d Y):(loose d (nms Y)).length+(d.drops (loose d (nms Y))).sums.length=d.sums.length:=by
 have h1:(d.drops (loose d (nms Y))).sums.Perm (d.sums.filter fun i=> !decide (∀x∈nms Y,i∉x.needs)):=by
  refine(List.perm_ext_iff_of_nodup (D.sums_nodup (D.drops_nd _ h.nd)) ((D.sums_nodup h.nd).sublist List.filter_sublist)).2 fun i=>?_
  rw[D.sums_mem,List.mem_filter,D.sums_mem]
  unfold D.T.has
  rw[D.look_drops _ h.nd]
  by_cases hl:i∈loose d (nms Y)
  ·rw[if_pos hl]
   have:=(loose_mem.1 hl).2
   simp only[Option.isSome_none,Bool.false_eq_true,false_iff,not_and,Bool.not_eq_true',decide_eq_false_iff_not]
   exact fun _ hn=>hn this
  ·rw[if_neg hl]
   refine⟨fun h1=>⟨h1,?_⟩,fun h1=>h1.1⟩
   rw[Bool.not_eq_true',decide_eq_false_iff_not]
   exact fun hn=>hl (loose_mem.2 ⟨h1,hn⟩)
 rw[h1.length_eq]
 unfold loose
 have:=List.length_eq_countP_add_countP (fun i=>decide (∀x∈nms Y,i∉x.needs)) (l:=d.sums)
 rw[List.countP_eq_length_filter,List.countP_eq_length_filter] at this
 rw[this]
 congr 3
 funext i
 generalize decide (∀x∈nms Y,i∉x.needs)=b
 cases b<;>rfl
theorem ncs_lst {Y:List Nd} {x:Nc} (h:x∈ncs Y):∃y∈Y,x.lst=y.x.needs∧x.ok=true:=by
 obtain⟨y,hy,rfl⟩:=List.mem_map.1 h
 exact⟨y,hy,Nc.lst_ok rfl,rfl⟩
theorem Fit.nfit {d:D.T} {Y:List Nd} (h:Fit d Y):∀x∈ncs Y,x.fit d:=fun x hx=>by
 obtain⟨y,hy,rfl⟩:=List.mem_map.1 hx
 obtain⟨h1,h2,h3,h4⟩:=(h.ok y hy).a
 exact⟨fun _=>⟨h1,h2,h3,h4⟩,fun h=>by cases h⟩
theorem ncs_names (Y:List Nd):((ncs Y).map fun x=>x.n.1)=Y.map fun y=>y.x.n.1:=by
 unfold Pr.ncs
 rw[List.map_map];rfl
theorem ncs_sum (Y:List Nd):((ncs Y).map fun x=>x.lst.length).sum=(wants (nms Y)).length:=by
 unfold wants Pr.ncs
 rw[List.length_flatten,List.map_map,List.map_map,List.map_map]
 congr 1
theorem Fit.fine {d:D.T} {Y:List Nd} (h:Fit d Y) (hl:loose d (nms Y)=[]):check d (ncs Y)=[]:=by
 unfold check
 have h1:miss d (ncs Y)=[]:=by
  unfold miss
  refine List.flatten_eq_nil_iff.2 fun l hl=>?_
  obtain⟨x,hx,rfl⟩:=List.mem_map.1 hl
  obtain⟨y,hy,hxl,_⟩:=ncs_lst hx
  unfold missOf
  rw[List.map_eq_nil_iff,List.filter_eq_nil_iff]
  intro i hi
  rw[hxl] at hi
  rw[h.has hy hi]
  decide
 have h2:looseC d (ncs Y) d.sums.length=[]:=by
  unfold looseC
  rw[List.map_eq_nil_iff,List.filter_eq_nil_iff]
  intro i hi hd
  have hi:=List.mem_of_mem_take hi
  have hd:=of_decide_eq_true hd
  have:i∈loose d (nms Y):=loose_mem.2 ⟨D.sums_mem.1 hi,fun x hx hn=>by
   obtain⟨y,hy,rfl⟩:=nms_mem hx
   exact hd ⟨y.x.n,y.x.root,y.x.es,true⟩ (List.mem_map.2 ⟨y,hy,rfl⟩) (by rw[Nc.lst_ok rfl];exact hn)⟩
  rw[hl] at this
  cases this
 rw[h1,h2]
 simp
theorem Fit.forget {d:D.T} {Y:List Nd} (h:Fit d Y) (hn:d.Ndn) (g:Nat):Fit (fg d (d.names.take g)) (Y.drop g):=by
 have hcut:d.names=d.names.take g++(Y.drop g).map fun y=>y.x.n.1:=by
  rw[List.map_drop,←h.nm,List.take_append_drop]
 have hnd:=D.names_nodup hn
 have hps:=fg_ps (d.names.take g) d
 have hdis:∀y∈Y.drop g,y.x.n.1∉d.names.take g:=fun y hy hm=>by
  rw[hcut] at hnd
  exact(List.nodup_append.1 hnd).2.2 _ hm _ (List.mem_map_of_mem hy) rfl
 refine⟨?_,fg_names _ _ hcut,fun y hy=>?_,fun y hy e he=>?_,fun y hy=>h.n2 y (List.mem_of_mem_drop hy)⟩
 ·unfold D.T.Nd
  rw[hps]
  exact h.nd
 ·exact(h.ok y (List.mem_of_mem_drop hy)).same (fg_look _ _ (hdis y hy)) fun i _=>by rw[hps]
 ·rw[fg_get]
  exact h.gs y (List.mem_of_mem_drop hy) e he
end Pr
end
section
namespace D
theorem upd_sum {κ β:Type} [DecidableEq κ] (f:κ×β→Nat):∀(l:List (κ×β)) (k:κ) (v:β),((upd l k v).map f).sum≤(l.map f).sum+f (k,v)
 | [],k,v=>by simp[upd]
 |(a,u)::r,k,v=>by
  rw[upd]
  split
  ·rename_i h
   subst h
   rw[List.map_cons,List.sum_cons,List.map_cons,List.sum_cons]
   omega
  ·have ih:=upd_sum f r k v
   rw[List.map_cons,List.sum_cons,List.map_cons,List.sum_cons]
   omega
theorem look_all {κ β:Type} [DecidableEq κ]:∀{l:List (κ×β)},(l.map (·.1)).Nodup→∀p∈l,look l p.1=some p.2
 | [],_,p,hp=>by cases hp
 |(a,u)::r,h,p,hp=>by
  rw[List.map_cons,List.nodup_cons] at h
  rw[look]
  rcases List.mem_cons.1 hp with rfl|hp
  ·rw[if_pos rfl]
  ·rw[if_neg,look_all h.2 p hp]
   intro e
   exact h.1 (List.mem_map.2 ⟨p,hp,e.symm⟩)
end D
namespace Pr
theorem pick {α β:Type} {f:β→α} {P:β→Prop}:∀(L:List α),(∀n∈L,∃y,f y=n∧P y)→∃Y:List β,L=Y.map f∧∀y∈Y,P y
 | [],_=>⟨[],rfl,fun y hy=>by cases hy⟩
 |n::L,h=>by
  obtain⟨y,hy,hp⟩:=h n List.mem_cons_self
  obtain⟨Y,hY,hP⟩:=pick L fun m hm=>h m (List.mem_cons_of_mem _ hm)
  refine⟨y::Y,by rw[List.map_cons,hy,←hY],fun z hz=>?_⟩
  rcases List.mem_cons.1 hz with rfl|hz
  ·exact hp
  ·exact hP z hz
structure Big (d:D.T) (y:Nd):Prop where
 lk:D.look d.ns y.x.n.1=some y.x.root
 es:y.x.es.length≤200*y.x.root.length
 nd:y.x.needs.length≤8*y.x.root.length
theorem fit_of {d:D.T} (hnd:d.Nd) (hsm:d.Small 200) (hg:∀n root,D.look d.ns n=some root→S.Good d n∧n.length≤254∧root.length≤8388608):∃Y,Fit d Y∧∀y∈Y,Big d y:=by
 have h1:∀n∈d.names,∃y:Nd,y.x.n.1=n∧(y.ok d∧(∀e∈y.x.es,∃q,d.get e.sums=some q)∧y.x.n.1.length≤254∧Big d y):=fun n hn=>by
  cases hr:D.look d.ns n with
  |none=>exact absurd hr (D.names_mem.1 hn)
  |some root=>
   obtain⟨⟨root',bb,es,h1,h2,h3,h4⟩,h5,h6⟩:=hg n root hr
   rw[hr] at h1
   cases h1
   have hb:=D.get_small hsm h2
   have hc:=L.rlist_count h3
   have hs:=L.rlist_sums h3
   have he:=L.rlist_eat h3
   have ha:(S.allsOf root es).length≤8*root.length:=by
    unfold S.allsOf
    rw[List.length_append]
    omega
   have hn:=S.needs_len root es
   refine⟨⟨⟨⟨n,by omega⟩,root,es⟩,fun e=>if e.kind=0 then(d.get e.sums).getD [] else []⟩,rfl,⟨⟨⟨hr,bb,h2,h3⟩,fun q hq=>?_,?_,?_⟩,fun e hm=>⟨?_,fun hk=>?_,fun hk=>if_neg hk,?_⟩⟩,h4,h5,hr,?_,?_⟩
   ·have hq:d.get root=some q:=hq
    rw[h2] at hq
    cases hq
    omega
   ·show(S.allsOf root es).length≤_
    omega
   ·show es.length≤_
    omega
   ·have:=hs e hm
    omega
   ·obtain⟨q,hq⟩:=h4 e hm
    show _=some (if e.kind=0 then(d.get e.sums).getD [] else [])
    rw[if_pos hk,hq]
    rfl
   ·obtain⟨q,hq⟩:=h4 e hm
    have h7:=hs e hm
    have h8:=D.get_small hsm hq
    show(if e.kind=0 then(d.get e.sums).getD [] else []).length≤_
    split
    ·rw[hq]
     show q.length≤_
     omega
    ·exact Nat.zero_le _
   ·show es.length≤200*root.length
    omega
   ·show(S.needsOf root es).length≤8*root.length
    omega
 obtain⟨Y,hY,hP⟩:=pick d.names h1
 exact⟨Y,⟨hnd,hY,fun y hy=>(hP y hy).1,fun y hy=>(hP y hy).2.1,fun y hy=>(hP y hy).2.2.1⟩,fun y hy=>(hP y hy).2.2.2⟩
def rsz (d:D.T):Nat:=(d.ns.map fun p=>p.2.length).sum
theorem root_sum {d:D.T} {Y:List Nd} (hn:d.Ndn) (h:Fit d Y) (hb:∀y∈Y,Big d y):(Y.map fun y=>y.x.root.length).sum=rsz d:=by
 have h1:(Y.map fun y=>y.x.root.length)=d.names.map fun n=>((D.look d.ns n).getD []).length:=by
  rw[h.nm,List.map_map]
  refine List.map_congr_left fun y hy=>?_
  show _=((D.look d.ns y.x.n.1).getD []).length
  rw[(hb y hy).lk]
  rfl
 have h2:(d.names.map fun n=>((D.look d.ns n).getD []).length).sum=((d.ns.map (·.1)).map fun n=>((D.look d.ns n).getD []).length).sum:=((S.sortN_perm _).map _).sum_nat
 rw[h1,h2,List.map_map]
 unfold rsz
 congr 1
 refine List.map_congr_left fun p hp=>?_
 show((D.look d.ns p.1).getD []).length=_
 rw[D.look_all hn p hp]
 rfl
theorem sum_le {α:Type} (f g:α→Nat):∀{l:List α},(∀x∈l,f x≤g x)→(l.map f).sum≤(l.map g).sum
 | [],_=>Nat.le_refl _
 |x::l,h=>by
  have h1:=h x List.mem_cons_self
  have h2:=sum_le f g fun y hy=>h y (List.mem_cons_of_mem _ hy)
  rw[List.map_cons,List.sum_cons,List.map_cons,List.sum_cons]
  omega
theorem sum_mul (c:Nat) {α:Type} (f:α→Nat):∀l:List α,(l.map fun x=>c*f x).sum=c*(l.map f).sum
 | []=>rfl
 |x::l=>by
  rw[List.map_cons,List.sum_cons,List.map_cons,List.sum_cons,sum_mul c f l,Nat.mul_add]
theorem wants_sz {d:D.T} {Y:List Nd} (hb:∀y∈Y,Big d y):(wants (nms Y)).length≤8*(Y.map fun y=>y.x.root.length).sum:=by
 rw[←ncs_sum,←sum_mul]
 unfold ncs
 rw[List.map_map]
 refine sum_le _ _ fun y hy=>?_
 show(Nc.lst _).length≤_
 rw[Nc.lst_ok rfl]
 exact(hb y hy).nd
theorem tolds_sz {d:D.T} {Y:List Nd} (hb:∀y∈Y,Big d y):(tolds Y).length≤200*(Y.map fun y=>y.x.root.length).sum+Y.length:=by
 have h1:(Y.map fun y=>y.x.es.length+1).sum=(Y.map fun y=>y.x.es.length).sum+Y.length:=by
  clear hb
  induction Y with
  |nil=>rfl
  |cons y Y ih=>rw[List.map_cons,List.sum_cons,List.map_cons,List.sum_cons,ih,List.length_cons];omega
 have h2:=sum_le (fun y:Nd=>y.x.es.length) (fun y=>200*y.x.root.length) fun y hy=>(hb y hy).es
 rw[sum_mul] at h2
 rw[tolds_len,h1]
 omega
theorem step_rsz {d:D.T} (hk:d.k.legal) (x:Snap):64*rsz (step d x)≤64*rsz d+46*wS x+63:=by
 unfold step
 rcases save_cases d x.Name x.Items.2 with⟨_,h⟩|⟨_,_,_,h⟩
 ·rw[h];omega
 ·rw[h]
  show 64*rsz (S.saved _ _ _)≤_
  rw[S.saved_puts]
  have hne:=S.ids_ne d.k (S.list_ne d.k (S.sort x.Items.2))
  unfold rsz D.T.set
  rw[if_neg hne,D.puts_ns]
  have h1:=D.upd_sum (fun p:D.B×List I32=>p.2.length) d.ns x.Name (D.ids d.k (S.list d.k (S.sort x.Items.2)))
  have h2:=C.pieces_64 hk (S.list d.k (S.sort x.Items.2))
  have h3:=S.list_w d.k (S.sort x.Items.2)
  rw[S.wL_sort] at h3
  have h4:(D.ids d.k (S.list d.k (S.sort x.Items.2))).length=(C.pieces d.k (S.list d.k (S.sort x.Items.2))).length:=List.length_map ..
  unfold wS
  show 64*((D.upd d.ns x.Name _).map fun p=>p.2.length).sum≤_
  have h1:((D.upd d.ns x.Name (D.ids d.k (S.list d.k (S.sort x.Items.2)))).map fun p=>p.2.length).sum≤(d.ns.map fun p=>p.2.length).sum+(D.ids d.k (S.list d.k (S.sort x.Items.2))).length:=h1
  omega
theorem all_rsz {k:C.K} (hk:k.legal):∀l:List Snap,64*rsz (all k l)≤46*wA l+63*l.length:=by
 have:∀(l:List Snap) (d:D.T),d.k=k→64*rsz (l.foldl step d)≤64*rsz d+46*wA l+63*l.length:=by
  intro l
  induction l with
  |nil=>intro d _;exact Nat.le_add_right _ _
  |cons x l ih=>
   intro d hd
   have h1:=ih (step d x) (by rw[step_k];exact hd)
   have h2:=step_rsz (d:=d) (by rw[hd];exact hk) x
   have h3:wA (x::l)=wS x+wA l:=by unfold wA;rw[List.map_cons,List.sum_cons]
   rw[List.foldl_cons,h3,List.length_cons]
   omega
 intro l
 have:=this l (D.new k) rfl
 have e:rsz (D.new k)=0:=rfl
 unfold all
 omega
def lput (d:D.T) (B:List D.B):D.T:=B.foldl D.T.put d
theorem lput_0 (d:D.T) (B:List D.B):lput d (B.take 0)=d:=by rw[List.take_zero];rfl
theorem lput_s {d:D.T} {B:List D.B} {j:Nat} {b:D.B} (h:B[j]? =some b):lput d (B.take (j+1))=(lput d (B.take j)).put b:=by
 unfold lput
 rw[List.take_add_one,h,List.foldl_append]
 rfl
theorem lput_puts:∀(B:List D.B) (d:D.T),lput d B=d.puts (B.map fun b=>C.pieces d.k b).flatten
 | [],d=>rfl
 |b::B,d=>by
  show lput (d.put b) B=_
  rw[lput_puts B,List.map_cons,List.flatten_cons,D.puts_app,D.put_k]
  rfl
theorem lput_k (B:List D.B) (d:D.T):(lput d B).k=d.k:=by rw[lput_puts,D.puts_k]
theorem lput_ns (B:List D.B) (d:D.T):(lput d B).ns=d.ns:=by rw[lput_puts,D.puts_ns]
theorem lput_small {d:D.T} {z:Nat} (h:d.Small z) (hk:d.k.legal) (hz:d.k.most≤(z:Int)) (B:List D.B):(lput d B).Small z:=by
 rw[lput_puts]
 refine small_puts _ h fun p hp=>?_
 obtain⟨P,hP,hp⟩:=List.mem_flatten.1 hp
 obtain⟨b,_,rfl⟩:=List.mem_map.1 hP
 exact small_pieces hk hz _ p hp
theorem lput_ps (B:List D.B) (d:D.T):(lput d B).ps.length≤d.ps.length+(B.map (·.length)).sum:=by
 rw[lput_puts]
 refine Nat.le_trans (D.puts_len _ _) ?_
 have h1:=sum_le (fun b:D.B=>(C.pieces d.k b).length) (·.length) (l:=B) fun b _=>C.pieces_len d.k b
 rw[List.length_flatten,List.map_map]
 exact Nat.add_le_add_left h1 _
theorem lput_good {d:D.T} {n:D.B} (h:S.Good d n) (B:List D.B):S.Good (lput d B) n:=by
 obtain⟨root,bb,es,h1,h2,h3,h4⟩:=h
 rw[lput_puts]
 refine⟨root,bb,es,by rw[D.puts_ns];exact h1,S.get_keep _ h2,h3,fun e he=>?_⟩
 obtain⟨q,hq⟩:=h4 e he
 exact⟨q,S.get_keep _ hq⟩
theorem size_small {d:D.T} {z:Nat} (hnd:d.Nd) (h:d.Small z):size d≤z*d.ps.length:=by
 have h1:=sum_le (fun p:I32×D.B=>p.2.length) (fun _=>z*1) (l:=d.ps) fun p hp=>by
  have:=h p.1 p.2 (D.look_all hnd p hp)
  omega
 rw[sum_mul z (fun _:I32×D.B=>1)] at h1
 have h2:(d.ps.map fun _=>1).sum=d.ps.length:=by
  generalize d.ps=l
  induction l with
  |nil=>rfl
  |cons x l ih=>rw[List.map_cons,List.sum_cons,ih,List.length_cons];omega
 rw[h2] at h1
 exact h1
end Pr
end
section
attribute [local irreducible] oMv oV oU oCall oCallV oBi oBin oUn oLoad oStore oNil oFld oField oIdx oIndex oPick oAlloc oBox oBuild oBs oConv oMk oSl oExt oFn oIface oMap oLook oMapUp oRange oNext oEntry oInv oAssert oPanic oRes pN pA pL pDr pIf gA pGd Calls
section
open Pr
attribute [local irreducible] Pr.fg Pr.loose Pr.size
section
variable [Pan] {E w W:World} {K Q:Value→World→Prop} {L LL M N:List HA} {c:T_api_Config} {b:Nat} {d:D.T}
theorem Keep_any {n:Int} {Y:List Nd} {g:Nat} (h63:n<9223372036854775808) (hS:Sat E w LL) [hf:Fnd (Dep c b) LL d N] (hp:d.ps.length≤1099511627776) (hnl:d.ns.length≤1099511627776) (hz:size d≤4611686018427387904) (hF:Fit d Y) (hl:Y.length≤1099511627776) (hno:loose d (nms Y)=[]) (hg1:n<0→g=0) (hg2:0≤n→g=Y.length-n.toNat)
  (hQ:∀(x y e:Int) d4 w,(n<0∧e=7∨0≤n∧e=0)→Fit d4 (Y.drop g)→loose d4 (nms (Y.drop g))=[]→d4.ps.length≤1099511627776→d4.ns.length≤1099511627776→Sat E w (Dep c b d4::N)→Q (.tuple #[.int .i64 x,.int .i64 y,.int .i64 e]) w):
  Calls zp 44 #[.pointer (some ⟨b,0,none⟩),.int .i64 n] w (retP Q):=by
 have hS1:=hS.fd (Dep c b)
 clear hS hf
 by_cases hn:n<0
 ·obtain rfl:=hg1 hn
  rw[List.drop_zero] at hQ
  exact Keep_neg hn (hQ 0 0 7 d _ (.inl ⟨hn,rfl⟩) hF hno hp hnl hS1)
 ·have hn0:0≤n:=by omega
  have hndn:=Dep.ndn hS1
  have hFg:=hF.forget hndn g
  have hmn:(nms Y).map (fun x=>x.n.1)=Y.map fun y=>y.x.n.1:=by rw[List.map_map];rfl
  have hml:(nms Y).length=Y.length:=List.length_map ..
  have hgg:=hg2 hn0
  have hdr:(nms Y).drop g=nms (Y.drop g):=(List.map_drop ..).symm
  have hct:=hFg.count
  have hps:=fg_ps (d.names.take g) d
  have hnsl:=fg_ns_len (d.names.take g) d
  have h1:=D.sums_len (fg d (d.names.take g))
  have h2:=D.sums_len ((fg d (d.names.take g)).drops (loose (fg d (d.names.take g)) (nms (Y.drop g))))
  have h3:=D.drops_ns (loose (fg d (d.names.take g)) (nms (Y.drop g))) (fg d (d.names.take g))
  rw[hps] at h1
  refine Keep_ok (c:=c) (d:=d) (Ws:=nms Y) hn0 h63 hS1 hp hnl hz (by rw[hmn];exact hF.nm) (fun x hx=>?_) (fun x hx=>?_) (by rw[hml];exact hl) fun x y w hS=>?_
  ·obtain⟨y,hy,rfl⟩:=nms_mem hx
   exact(hF.ok y hy).a
  ·obtain⟨y,hy,rfl⟩:=nms_mem hx
   exact hF.n2 y hy
  ·rw[hml,←hgg,hdr] at hS
   exact hQ x y 0 _ w (.inr ⟨hn0,rfl⟩) hFg.prune hFg.none (by omega) (by rw[h3];omega) hS
end
end
section
open Pr
namespace Pr
theorem wI_ok {W:World} {x:T_api_Item} {k:Nat} (h:x.ok W k):S.wI x+2≤3*k:=by
 obtain⟨⟨_,_,_,_⟩,⟨_,_,_,_⟩,_,_,_,⟨_,_,_,_,_,_⟩⟩:=h
 unfold S.wI
 omega
theorem wL_ok {W:World}:∀{l:List T_api_Item} {k:Nat},Sum2 (T_api_Item.ok W) l k→S.wL l≤3*k
 | [],_,_=>Nat.zero_le _
 |x::l,k,⟨k1,k2,h,h1,h2⟩=>by
  have h3:=wI_ok h1
  have h4:=wL_ok h2
  have e:S.wL (x::l)=S.wI x+S.wL l:=by unfold S.wL;rw[List.map_cons,List.sum_cons]
  omega
theorem wA_ok {W:World}:∀{l:List Snap} {k:Nat},Sum2 (T_pithlaw37_Snap.okS W) l k→wA l≤4*k
 | [],_,_=>Nat.zero_le _
 |x::l,k,⟨k1,k2,h,h1,h2⟩=>by
  have h4:=wA_ok h2
  have e:wA (x::l)=wS x+wA l:=by unfold wA;rw[List.map_cons,List.sum_cons]
  obtain⟨_,⟨k',h5,_,_,h6,h7⟩⟩:=h1
  have h8:=wL_ok h7
  have e2:wS x=S.wL x.Items.2+1:=rfl
  omega
theorem snap_ok {W:World} {x:Snap} {k:Nat} (h:x.okS W k):x.Name.length≤k∧RdP cd_api_Item (old W) x.Items.1 x.Items.2∧∀y∈x.Items.2,RdP cd_uint8 (old W) y.Data.1 y.Data.2:=by
 obtain⟨⟨_,_,_,_⟩,⟨k',_,h1,_,_,h2⟩⟩:=h
 refine⟨by omega,h1,fun y hy=>?_⟩
 obtain⟨_,_,⟨_,_,_,_,_,⟨_,_,h3,_⟩⟩⟩:=h2.all y hy
 exact h3
theorem bs_ok {W:World} {ok:UInt8→Nat→Prop}:∀{l:List (Sl×List UInt8)} {k:Nat},Sum2 (fun c k=>RdP cd_uint8 (old W) c.1 c.2∧c.2.length*1≤reachBytes∧c.2.length+1≤k∧∀c0∈c.2,∃k0,k0≤k∧ok c0 k0) l k→((l.map (·.2)).map (·.length)).sum≤k
 | [],_,_=>Nat.zero_le _
 |x::l,k,⟨k1,k2,h,h1,h2⟩=>by
  have h4:=bs_ok h2
  obtain⟨_,_,h5,_⟩:=h1
  rw[List.map_cons,List.map_cons,List.sum_cons]
  omega
theorem tolds_cut (Y:List Nd) (g:Nat):tolds Y=tolds (Y.take g)++tolds (Y.drop g):=by
 unfold tolds
 rw[←List.flatten_append,←List.map_append,List.take_append_drop]
theorem wants_drop (Y:List Nd) (g:Nat):(wants (nms (Y.drop g))).length≤(wants (nms Y)).length:=by
 have h:wants (nms Y)=wants (nms (Y.take g))++wants (nms (Y.drop g)):=by
  unfold wants
  rw[←List.flatten_append,←List.map_append,←List.map_append,List.take_append_drop]
 rw[h,List.length_append]
 omega
theorem ncs_len (Z:List Nd):(ncs Z).length=Z.length:=List.length_map ..
end Pr
attribute [local irreducible] Pr.all Pr.lput Pr.tolds Pr.wants Pr.loose Pr.size Pr.check Pr.fg Pr.ncs Pr.wA S.Good
set_option maxHeartbeats 8000000 in
theorem walk_PruneKeeps (W:World) (hG:GloS W) (x0:Sl×List T_pithlaw37_Snap) (x1:Sl×List (Sl×List UInt8)) (x2:Int) (k0 k1 k2:Nat)
  (h0:RdP cd_pithlaw37_Snap (old W) x0.1 x0.2∧x0.2.length*40≤reachBytes∧x0.2.length+1≤k0∧Sum2 (T_pithlaw37_Snap.okS W) x0.2 k0)
  (h1:RdP cd_sl_uint8 (old W) x1.1 x1.2∧x1.2.length*24≤reachBytes∧x1.2.length+1≤k1∧Sum2 (fun c k=>RdP cd_uint8 (old W) c.1 c.2∧c.2.length*1≤reachBytes∧c.2.length+1≤k∧∀c0∈c.2,∃k0,k0≤k∧True) x1.2 k1)
  (h2: -9223372036854775808≤x2∧x2<9223372036854775808)
  (q0:k0≤1048576) (q1:k1≤1048576) (q2:k2≤1048576):
  Calls zp 6 #[.slice x0.1.a x0.2.length x0.1.c,.slice x1.1.a x1.2.length x1.1.c,.int .i64 x2] W fun e W'=>e= .returned (.bool true)∧RowKit.Below W.heap.size W W':=by
 refine walk_end (pithlaw37_PruneKeeps.calls ?_)
 unfold pithlaw37_PruneKeeps.F
 have hS:=Sat.start W
 obtain⟨sl,l⟩:=x0
 obtain⟨sb,bl⟩:=x1
 dsimp only at h0 h1 ⊢
 obtain⟨hrl,_,hll,hsl⟩:=h0
 obtain⟨hrb,_,hbl,hsb⟩:=h1
 haveI:=hrl
 haveI:=hrb
 have hT:wA l≤4194304:=by have:=wA_ok hsl;omega
 have hBs:((bl.map (·.2)).map (·.length)).sum≤1048576:=by have:=bs_ok hsb;omega
 have hsn:∀x∈l,x.Name.length≤1048576∧RdP cd_api_Item (old W) x.Items.1 x.Items.2∧∀y∈x.Items.2,RdP cd_uint8 (old W) y.Data.1 y.Data.2:=fun x hx=>by
  obtain⟨k,hk,h⟩:=hsl.all x hx
  obtain⟨a,b,c⟩:=snap_ok h
  exact⟨by omega,b,c⟩
 have hbr:∀c∈bl,RdP cd_uint8 (old W) c.1 c.2∧c.2.length≤1048576:=fun c hc=>by
  obtain⟨k,hk,h3,_,h4,_⟩:=hsb.all c hc
  exact⟨h3,by omega⟩
 have hll:l.length≤1048576:=by omega
 have hbl:bl.length≤1048576:=by omega
 have hsl:True:=trivial
 have hsb:True:=trivial
 refine pcq (f:=34) (saved_ok (l:=l) (sl:=sl) hG hS hll hT (fun x hx=>⟨by haveI:=(hsn x hx).2.1;infer_instance,fun y hy=>by haveI:=(hsn x hx).2.2 y hy;infer_instance⟩) 0 (by decide) ?_)
 clear hS
 intro db w hS
 repeat' (first|(refine pcq (f:=35) (fixed_ok hG hS ?_);clear hS;intro w hS)|refine pIf_f ?_|refine pGd_go (by rfl) ?_|refine pN_v (hk:=?_)|fail)
 refine pcq (f:=36) (clean_ok (l:=l) (sl:=sl) hS hll hT (fun x hx=>(hsn x hx).1) (fun x hx=>⟨by haveI:=(hsn x hx).2.1;infer_instance,fun y hy=>by haveI:=(hsn x hx).2.2 y hy;infer_instance⟩) ?_)
 clear hS
 intro r w hgood hS
 cases r with
 |false=>
  repeat' (first|refine pIf_t ?_|refine pN_v (hk:=?_)|fail)
  exact⟨rfl,hS.to⟩
 |true=>
 have hgood:=hgood rfl
 have hk:=all_k kP l
 have hps:=all_ps kP l
 have hns:=all_ns kP l
 have hsm:=all_small kP_legal (z:=200) (by decide) l
 have hrz:=all_rsz kP_legal l
 have hrt:=fun n r (h:D.look (Pr.all kP l).ns n=some r)=>all_root_len kP_legal l h
 have hrn:=fun n r (h:D.look (Pr.all kP l).ns n=some r)=>all_root l h
 have hlg:kP.legal:=kP_legal
 have hnm:∀n r,D.look (Pr.all kP l).ns n=some r→n.length≤254:=fun n r h=>by
  obtain⟨_,_,_,_,h⟩:=hrn n r h
  exact h
 clear hrn
 generalize Pr.all kP l=d0 at*
 obtain⟨B,hB⟩:∃B,B=bl.map (·.2):=⟨_,rfl⟩
 rw[←hB] at hBs
 have hBl:B.length=bl.length:=by rw[hB,List.length_map]
 have hlk:=fun j=>lput_k (B.take j) d0
 have hl0:=lput_0 d0 B
 have hls:=fun {j:Nat} {b:D.B} (h:B[j]? =some b)=>lput_s (d:=d0) h
 repeat' (first|refine pIf_f ?_|refine pN_v (hk:=?_)|fail)
 refine⟨fun v w=>∃j:Nat,v= .int .i64 j∧j≤bl.length∧Sat W w [Dep confC db (lput d0 (B.take j)),old W],fun v _=>bl.length-(RowKit.intOf v).toNat,⟨0,rfl,by omega,by rw[hl0];exact hS.to⟩,?_⟩
 clear hS
 rintro _ _ w ⟨j,rfl,hj,hS⟩
 by_cases hlt:j<bl.length
 ·obtain⟨c,hc⟩:∃c,bl[j]? =some c:=⟨bl[j],List.getElem?_eq_getElem _⟩
  obtain⟨hc1,hc2⟩:=hbr c (List.mem_of_getElem? hc)
  have hcB:B[j]? =some c.2:=by rw[hB,List.getElem?_map,hc];rfl
  have hst:=hls hcB
  have hkj:=hlk j
  generalize hD2:lput d0 (B.take (j+1))=d2 at*
  generalize lput d0 (B.take j)=d1 at*
  repeat' (first|(refine pN_app (C:=cd_uint8) (s2:=c.1) (l:=[]) (m:=c.2) hS rfl rfl (by rw[List.length_nil];omega) ?_;clear hS;intro sc w hS;rw[List.nil_append] at hS ⊢)|(refine pN_lss_s ?_ ?_<;>intro hc<;>try (exfalso;omega))|refine pIf_t ?_|refine pN_ld1 ha hS ?_|refine pN_ixk hS _ (by first|rfl|(exact(Int.toNat_of_nonneg (by omega)).symm)) (by first|rfl|omega|simpa only[go_sem] using True.intro|(simp only[go_sem];omega)) (by assumption) fun a ha hel=>?_|(refine pN_b0 hS ?_;clear hS;intro s w hS)|refine pN_v (hk:=?_)|fail)
  refine pcq (f:=16) (DPut_ok (b:=db) (s:=sc) (c:=confC) (d:=d1) (l:=c.2) hG (by rw[hkj,hk];exact hlg) hS (by omega) ?_)
  clear hS
  intro sp w hS
  repeat' (first|refine pN_v (hk:=?_)|fail)
  refine⟨⟨j+1,rfl,hlt,?_⟩,by simp[RowKit.intOf]<;>omega⟩
  rw[hD2,hst]
  exact hS.to
 obtain rfl:j=bl.length:=by omega
 rw[←hBl,List.take_length] at hS
 have hk1:(lput d0 B).k=kP:=by rw[lput_k,hk]
 have hn1:=lput_ns B d0
 have hp1:(lput d0 B).ps.length≤d0.ps.length+1048576:=Nat.le_trans (lput_ps B d0) (Nat.add_le_add_left hBs _)
 have hs1:=lput_small hsm (by rw[hk];exact hlg) (by rw[hk];decide) B
 have hg1:∀n root,D.look (lput d0 B).ns n=some root→S.Good (lput d0 B) n∧n.length≤254∧root.length≤8388608:=fun n root h=>by
  rw[hn1] at h
  have:=hrt n root h
  exact⟨lput_good (hgood n root h) B,hnm n root h,by omega⟩
 have hz1:rsz (lput d0 B)=rsz d0:=by unfold rsz;rw[hn1]
 rw[←hn1] at hns
 rw[←hz1] at hrz
 clear hgood hnm hrt hn1 hz1 hk hsm hlk hl0 hls hlg hBl hB hbr
 generalize lput d0 B=d1 at*
 have hnd:=Dep.nd hS
 have hndn:=Dep.ndn hS
 obtain⟨Y,hF,hBg⟩:=fit_of hnd hs1 hg1
 have hrs:=root_sum hndn hF hBg
 have hwz:=wants_sz hBg
 have htz:=tolds_sz hBg
 have hsz:=size_small hnd hs1
 have hYl:Y.length=d1.ns.length:=by
  have h1:=congrArg List.length hF.nm
  have h2:d1.names.length=(d1.ns.map (·.1)).length:=(S.sortN_perm _).length_eq
  rw[h2,List.length_map,List.length_map] at h1
  exact h1.symm
 have hWl:(wants (nms Y)).length≤1099511627776:=by omega
 have hTl:(tolds Y).length≤1099511627776:=by omega
 have hYm:Y.length≤1048576:=by omega
 have hps1:d1.ps.length≤1099511627776:=by omega
 have hns1:d1.ns.length≤1099511627776:=by omega
 have hsz1:size d1≤4611686018427387904:=by omega
 clear hrs hwz htz hsz hrz hs1 hBg hg1 hp1 hps
 have hmn:∀Z:List Nd,(nms Z).map (fun x=>x.n.1)=Z.map fun y=>y.x.n.1:=fun Z=>by rw[List.map_map];rfl
 have hml:∀Z:List Nd,(nms Z).length=Z.length:=fun Z=>List.length_map ..
 have hmo:∀{d:D.T} {Z:List Nd},Fit d Z→∀x∈nms Z,x.ok d:=fun hF x hx=>by
  obtain⟨y,hy,rfl⟩:=nms_mem hx
  exact(hF.ok y hy).a
 repeat' (first|(refine pN_lss_s ?_ ?_<;>intro hc<;>try (exfalso;omega))|refine pIf_f ?_|refine pN_v (hk:=?_)|fail)
 refine pcq (f:=37) (told_ok (c:=confC) (Y:=Y) hS hns1 hF.nm hF.ok (by omega) hTl ?_)
 clear hS
 intro os so w hos hS
 repeat' (first|(refine pcq (f:=38) (needs_ok (c:=confC) (Ws:=nms Y) hS hns1 (by rw[hmn];exact hF.nm) (hmo hF) (by rw[hml];omega) hWl ?_);clear hS;intro sw w hS)|(refine pcq (f:=19) (DIDs_ok (c:=confC) hS hps1 ?_);clear hS;intro si w hS)|(refine pcq (f:=39) (DSize_ok (c:=confC) hS hsz1 ?_);clear hS;intro w hS)|refine pN_v (hk:=?_)|fail)
 obtain⟨d2,hd2⟩:∃d2,d2=d1.drops (loose d1 (nms Y)):=⟨_,rfl⟩
 have hF2:Fit d2 Y:=by rw[hd2];exact hF.prune
 have hno:loose d2 (nms Y)=[]:=by rw[hd2];exact hF.none
 have hck:check d2 (ncs Y)=[]:=hF2.fine hno
 have hct:(loose d1 (nms Y)).length+d2.sums.length=d1.sums.length:=by rw[hd2];exact hF.count
 have hkp:∀i∈d1.sums,d2.has i=decide (i∈wants (nms Y)):=fun i hi=>by rw[hd2];exact hF.kept hi
 have hsd:size d2≤size d1:=by rw[hd2];exact size_drops _ _
 have hn2:d2.ns=d1.ns:=by rw[hd2];exact D.drops_ns _ _
 have hns2:d2.ns.length≤1099511627776:=by rw[hn2];exact hns1
 have hsm1:=D.sums_len d1
 have hsm2:=D.sums_len d2
 have hps2:d2.ps.length≤1099511627776:=by omega
 have hsz2:size d2≤4611686018427387904:=by omega
 have hdd:d2.drops (loose d2 (nms Y))=d2:=by rw[hno];rfl
 have hcl:=ncs_len
 refine pcq (f:=40) (Prune_ok (c:=confC) (Ws:=nms Y) hS hps1 hns1 hsz1 (by rw[hmn];exact hF.nm) (hmo hF) (by rw[hml];omega) ?_)
 rw[←hd2]
 clear hS hd2
 intro w hS
 have hV:(loose d1 (nms Y)).length=d1.sums.length-d2.sums.length:=by omega
 rw[hV]
 have hV2:d2.sums.length≤d1.sums.length:=by omega
 clear hct hV
 repeat' (first|(refine pcq (f:=19) (DIDs_ok (c:=confC) hS hps2 ?_);clear hS;intro si2 w hS)|(refine pcq (f:=39) (DSize_ok (c:=confC) hS hsz2 ?_);clear hS;intro w hS)|(refine pcq (f:=41) (Check_ok (c:=confC) (d:=d2) (Ws:=ncs Y) hS hps2 hns2 (by rw[ncs_names];exact hF2.nm) hF2.nfit (by rw[hcl];omega) (by rw[ncs_sum];exact hWl) ?_);rw[hck];clear hS;intro so2 w hS)|(refine pN_neq_s ?_ ?_<;>intro hc<;>try (exfalso;first|omega|exact gone hc|exact gon2 hc))|refine pIf_f ?_|refine pGd_go (by rfl) ?_|refine pN_v (hk:=?_)|fail)
 have hS:Sat W w (Dep confC db d2::rows cd_api_Item so os::bag (itR os)::rows (cdI 58) sw (wants (nms Y))::rows (cdI 58) si d1.sums::[old W]):=hS.to
 have hsl1:d1.sums.length≤1099511627776:=by omega
 refine⟨fun v w=>∃j:Nat,v= .int .i64 j∧j≤d1.sums.length∧Sat W w (Dep confC db d2::rows cd_api_Item so os::bag (itR os)::rows (cdI 58) sw (wants (nms Y))::rows (cdI 58) si d1.sums::[old W]),fun v _=>d1.sums.length-(RowKit.intOf v).toNat,⟨0,rfl,by omega,hS⟩,?_⟩
 clear hS
 rintro _ _ w ⟨j,rfl,hj,hS⟩
 by_cases hlt:j<d1.sums.length
 ·obtain⟨i,hi⟩:∃i,d1.sums[j]? =some i:=⟨d1.sums[j],List.getElem?_eq_getElem _⟩
  have hkj:=hkp i (List.mem_of_getElem? hi)
  clear hkp
  generalize d1.sums=V at*
  generalize wants (nms Y)=Wt at*
  generalize hbo:decide (i∈Wt)=bo at*
  repeat' (first|refine pL_ld_at (C:=cdI 58) (s:=si) (l:=V) (z:=32) (cs:=bvs i.l) (by assumption) hS (i32n i) ?_|(refine pcq (f:=18) (DHas_ok (c:=confC) hS i ?_);rw[hkj];clear hS;intro w hS)|(refine pN_lss_s ?_ ?_<;>intro hc<;>try (exfalso;omega))|refine pIf_t ?_|(refine pDr_go hS ?_;clear hS;intro w hS)|refine pA_ixk hS _ (by first|rfl|(exact(Int.toNat_of_nonneg (by omega)).symm)) (by first|rfl|omega|simpa only[go_sem] using True.intro|(simp only[go_sem];omega)) (by assumption) fun a ha hel=>?_|refine pN_v (hk:=?_)|fail)
  refine⟨⟨run_ldz (C:=cdI 58) (s:=si) (l:=V) (z:=32) (cs:=bvs i.l) (by assumption) hS (i32n i),trivial⟩,?_⟩
  cases bo<;>repeat' (first|(refine pcq (f:=42) (phas_ok (a:=i) (sa:=sw) (la:=Wt) hS hWl ?_);rw[hbo];clear hS;intro w hS)|refine And.intro trivial ?_|refine pIf_f ?_|refine pN_v (hk:=?_)|refine pA_v (hk:=?_)|fail)
  all_goals exact⟨⟨j+1,rfl,hlt,hS⟩,by simp[RowKit.intOf]<;>omega⟩
 ·obtain rfl:j=d1.sums.length:=by omega
  clear hkp
  repeat' (first|(refine pN_lss_s ?_ ?_<;>intro hc<;>try (exfalso;omega))|refine pIf_f ?_|refine pN_v (hk:=?_)|fail)
  refine pcq (f:=37) (told_ok (c:=confC) (Y:=Y) hS hns2 hF2.nm hF2.ok (by omega) hTl ?_)
  clear hS
  intro os2 so2 w hos2 hS
  have hal:=hos.trans hos2.symm
  have hol:os.length≤1099511627776:=by
   have:=congrArg List.length hos
   rw[List.length_map] at this
   omega
  repeat' (first|(refine pcq (f:=40) (Prune_ok (c:=confC) (d:=d2) (Ws:=nms Y) hS hps2 hns2 hsz2 (by rw[hmn];exact hF2.nm) (hmo hF2) (by rw[hml];omega) ?_);rw[hdd,hno];clear hS;intro w hS)|(refine pcq (f:=43) (palike_ok (la:=os) (lb:=os2) (sa:=so) (sb:=so2) hS (fun x hx=>by haveI:=itR_rd hx;infer_instance) (fun x hx=>by haveI:=itR_rd hx;infer_instance) hol ?_);rw[decide_eq_true hal];clear hS;intro w hS)|(refine pN_neq_s ?_ ?_<;>intro hc<;>try (exfalso;first|omega|exact gone hc|exact gon2 hc))|refine pIf_f ?_|refine pGd_go (by rfl) ?_|refine pN_v (hk:=?_)|fail)
  have hyl:∀Z:List Nd,(Z.map fun y=>y.x.n.1).length=Z.length:=fun Z=>List.length_map ..
  refine pcq (f:=30) (List_ok (c:=confC) hS hns2 ?_)
  rw[hF2.nm,hyl]
  clear hS
  intro sn w hS
  have hS:Sat W w (Dep confC db d2::rows cd_string sn (Y.map fun y=>y.x.n.1)::rows cd_api_Item so os::bag (itR os)::[old W]):=hS.to
  obtain⟨m,hm1,hm2⟩:∃m:Nat,(x2<0→m=Y.length)∧(0≤x2→m=min Y.length x2.toNat):=by
   by_cases h:x2<0
   ·exact⟨Y.length,fun _=>rfl,fun h0=>by omega⟩
   ·exact⟨min Y.length x2.toNat,fun h0=>by omega,fun _=>rfl⟩
  have hm:m≤Y.length:=by
   by_cases h:x2<0
   ·have:=hm1 h;omega
   ·have:=hm2 (by omega);omega
  obtain⟨g,hg⟩:∃g,g=Y.length-m:=⟨_,rfl⟩
  refine⟨fun v w=>v= .int .i64 m∧Sat W w (Dep confC db d2::rows cd_string sn (Y.map fun y=>y.x.n.1)::rows cd_api_Item so os::bag (itR os)::[old W]),?_,?_⟩
  ·repeat' (first|((first|refine pN_lss_s ?_ ?_|refine pN_gtr_s ?_ ?_)<;>intro hc<;>try (exfalso;omega))|refine pIf_t ?_|refine pIf_f ?_|refine pGd_go (by rfl) ?_|refine pGd_no (by rfl) ?_|refine pN_v (hk:=?_)|fail)
   all_goals
    refine⟨?_,hS⟩
    congr 1
    omega
  clear hS
  rintro _ _ w ⟨rfl,hS⟩
  refine pcq (f:=44) (Keep_any (c:=confC) (d:=d2) (Y:=Y) (g:=g) h2.2 hS hps2 hns2 hsz2 hF2 (by omega) hno (by omega) (by omega) fun x y e d4 w he hF4 hno4 hps4 hns4 hS=>?_)
  have hS:Sat W w (Dep confC db d4::rows cd_string sn (Y.map fun y=>y.x.n.1)::rows cd_api_Item so os::bag (itR os)::[old W]):=hS.to
  have hck4:check d4 (ncs (Y.drop g))=[]:=hF4.fine hno4
  have hcut:tolds Y=tolds (Y.take g)++tolds (Y.drop g):=tolds_cut Y g
  have hwd:=wants_drop Y g
  have hzl:(Y.drop g).length=m:=by rw[List.length_drop];omega
  have hTl4:(tolds (Y.drop g)).length≤1099511627776:=by
   have:=congrArg List.length hcut
   rw[List.length_append] at this
   omega
  have hx4:∀z:Nat,z=0→((Y.drop g).map fun y=>y.x.n.1)[z]? =(Y.map fun y=>y.x.n.1)[g]? :=fun z hz=>by
   rw[hz,List.map_drop,List.getElem?_drop,Nat.add_zero]
  have hyg:=hyl (Y.drop g)
  rw[hzl] at hyg
  generalize Y.drop g=Z at*
  clear hF hF2 hno hck hal hos2
  repeat' (first|(refine pcq (f:=30) (List_ok (c:=confC) (d:=d4) hS hns4 ?_);rw[hF4.nm,hyg];clear hS;intro sn4 w hS)|(refine pcq (f:=41) (Check_ok (c:=confC) (d:=d4) (Ws:=ncs Z) hS hps4 hns4 (by rw[ncs_names];exact hF4.nm) hF4.nfit (by rw[hcl];omega) (by rw[ncs_sum];omega) ?_);rw[hck4];clear hS;intro so3 w hS)|(refine pN_lss_s ?_ ?_<;>intro hc<;>try (exfalso;omega))|((first|refine pN_eql_s ?_ ?_|refine pN_neq_s ?_ ?_)<;>intro hc<;>try (exfalso;first|omega|exact gone hc|exact gon2 hc))|refine pIf_f ?_|refine pGd_go (by rfl) ?_|refine pGd_no (by rfl) ?_|refine pN_v (hk:=?_)|fail)
  all_goals
   refine pcq (f:=37) (told_ok (c:=confC) (d:=d4) (Y:=Z) hS hns4 hF4.nm hF4.ok (by omega) hTl4 ?_)
   clear hS
   intro os4 so4 w hos4 hS
   have hS:Sat W w (rows cd_api_Item so4 os4::bag (itR os4)::rows cd_string sn4 (Z.map fun y=>y.x.n.1)::rows cd_string sn (Y.map fun y=>y.x.n.1)::rows cd_api_Item so os::bag (itR os)::[old W]):=hS.to
   have hol4:os4.length=(tolds Z).length:=by rw[←hos4,List.length_map]
   have hol1:os.length=(tolds Y).length:=by rw[←hos,List.length_map]
   have hol2:=congrArg List.length hcut
   rw[List.length_append] at hol2
   obtain⟨lo,hlo⟩:∃lo,lo=os.length-os4.length:=⟨_,rfl⟩
   have hlt:lo=(tolds (Y.take g)).length:=by omega
   have hlz:(os.length:Int)-os4.length=(lo:Nat):=by omega
   have hle:lo≤os.length:=by omega
   have hdl:(os.drop lo).length=os.length-lo:=List.length_drop
   have hal4:os4.map S.plainI=(os.drop lo).map S.plainI:=by rw[List.map_drop,hos,hos4,hcut,hlt,List.drop_left]
   clear hcut hlt hol2 hos hos4 hF4
   have hyY:=hyl Y
   generalize Y.map (fun y=>y.x.n.1)=nY at*
   generalize Z.map (fun y=>y.x.n.1)=nZ at*
   repeat' (first|(rw[hlz];refine pA_sl1w (C:=cd_api_Item) (s:=so) (l:=os) hS lo rfl rfl hle fun hrs=>?_;rw[←hdl])|refine gA_go (by rfl) ?_|refine pGd_go (by rfl) ?_|(refine pDr_go hS ?_;clear hS;intro w hS)|refine pN_v (hk:=?_)|refine pA_v (hk:=?_)|fail)
   refine pcq (f:=43) (palike_ok (la:=os4) (lb:=os.drop lo) (sa:=so4) (sb:=so.sub lo cd_api_Item.size) (hb:=hrs) hS (fun x hx=>by haveI:=itR_rd hx;infer_instance) (fun x hx=>by haveI:=itR_rd (List.mem_of_mem_drop hx);infer_instance) (by omega) ?_)
   rw[decide_eq_true hal4]
   clear hS
   intro w hS
   by_cases hm0:m=0
   ·repeat' (first|refine And.intro trivial ?_|(refine pA_eql_s ?_ ?_<;>intro hc<;>try (exfalso;first|omega|exact gone hc|exact gon2 hc))|refine gA_go (by rfl) ?_|refine gA_no (by rfl) ?_|refine pA_v (hk:=?_)|fail)
    exact⟨rfl,hS.to⟩
   ·obtain⟨n,hn⟩:∃n,nY[g]? =some n:=⟨nY[g]'(by omega),List.getElem?_eq_getElem _⟩
    have hn0:nZ[0]? =some n:=by rw[hx4 0 rfl,hn]
    repeat' (first|refine And.intro trivial ?_|refine pA_ixk (C:=cd_string) (s:=sn4) (l:=nZ) hS 0 rfl hyg.symm hn0 fun ad ha hel=>?_|refine pA_ixk (C:=cd_string) (s:=sn) (l:=nY) hS g (by omega) hyY.symm hn fun ad ha hel=>?_|((first|refine pA_eql_s ?_ ?_|refine pA_eql_ss ?_ ?_)<;>intro hc<;>try (exfalso;first|omega|exact gone hc|exact gon2 hc))|refine gA_go (by rfl) ?_|refine pL_ld1 ha hS ?_|refine pA_v (hk:=?_)|fail)
    exact⟨rfl,hS.to⟩
end
end
end Go.Proofs.YtikmogfhhggafaaGreatDoor
