import Derived.Recover
import Derived.Test.YtikmogfhhggafaaGreatDoorRows
import Derived.ProofKit
import Derived.OpenShut
import Derived.ShutString
import Derived.ChangeOld
import Derived.SizedLaws
import Derived.Deep.Slices
import Derived.Deep.CondSized
import Derived.Test.YtikmogfhhggafaaGreatDoorMg1
set_option linter.all false
namespace Go.Proofs.YtikmogfhhggafaaGreatDoor
open Go
open Go.Proofs.Tryz renaming prog→zp
section
attribute [go_sem] List.length_set List.length_append List.length_replicate List.length_map List.length_cons List.length_nil List.length_take List.length_drop
class Fnd {σ:Type} (F:σ→HA) (L:List HA) (s:outParam σ) (M:outParam (List HA)):Prop where
 perm:L.Perm (F s::M)
instance (priority:=1100) Fnd.here {σ:Type} {F:σ→HA} {s:σ} {L:List HA}:Fnd F (F s::L) s L:=⟨.refl _⟩
instance (priority:=1000) Fnd.there {σ:Type} {F:σ→HA} {A:HA} {s:σ} {L M:List HA} [h:Fnd F L s M]:Fnd F (A::L) s (A::M):=
 ⟨(h.perm.cons A).trans (List.Perm.swap _ _ _)⟩
class Has (A:HA) (L:List HA) (M:outParam (List HA)):Prop where
 perm:L.Perm (A::M)
instance (priority:=1100) Has.here {A:HA} {L:List HA}:Has A (A::L) L:=⟨.refl _⟩
instance (priority:=1000) Has.there {A B:HA} {L M:List HA} [h:Has A L M]:Has A (B::L) (B::M):=⟨(h.perm.cons B).trans (List.Perm.swap _ _ _)⟩
class Arr (L N:List HA):Prop where
 arr:∀h,Sats L h→Sats N h
instance (priority:=1200) Arr.same {L:List HA}:Arr L L:=⟨fun _ h=>h⟩
instance (priority:=1100) Arr.nil {L:List HA}:Arr L []:=⟨fun _ _=>trivial⟩
instance (priority:=1050) Arr.next {A:HA} {L M N:List HA} [h:Has A L M] [k:Arr M N]:Arr L (A::N):=
 ⟨fun _ hs=>Sats.cons_mono k.arr (hs.perm h.perm)⟩
instance (priority:=100) Arr.let_go {A:HA} {L N:List HA} [k:Arr L N]:Arr (A::L) N:=
 ⟨fun hp hs=>k.arr hp (by obtain⟨h1,_,s,hr⟩:=hs;exact hr.mono (less_sub _ _))⟩
section
variable {E w w':World} {A B:HA} {L M N:List HA}
theorem Sat.fd {σ:Type} (hS:Sat E w L) (F:σ→HA) {s:σ} [h:Fnd F L s M]:Sat E w (F s::M):=hS.perm h.perm
theorem Sat.to (hS:Sat E w L) [h:Arr L N]:Sat E w N:=⟨hS.os,hS.tape,hS.output,h.arr _ hS.sats⟩
end
structure Ob where
 e:TypeId
 cs:List Value
def cel (b:Nat) (o:Ob):HA:=blk b (.cells o.cs.toArray o.e (0,0))
class Sc (P:Program) (t:TypeId):Prop where
 na:∀w,(isAgg t).run P w= .ok false w
 sz:∀w,(sizeOf t).run P w= .ok 1 w
class Ag (P:Program) (t:TypeId) (n:outParam Nat):Prop where
 ag:∀w,(isAgg t).run P w= .ok true w
 sz:∀w,(sizeOf t).run P w= .ok n w
def At (w:World) (a:Addr) (cs:List Value):Prop:=∀(j:Nat) (u:Value),cs[j]? =some u→w.cell? (a.add j)=some u
section
variable [Pan] {P:Program} {E w:World} {K:Value→World→Prop} {J:Value→Prop} {L M:List HA} {v:Value} {t:TypeId} {o:Ob} {b i:Nat}
theorem cel_at (hS:Sat E w L) [h:Fnd (cel b) L o M]:w.heap[b]? =some (.cells o.cs.toArray o.e (0,0)):=(hS.fd (cel b)).blk_at 0 rfl
theorem cel_cell (hS:Sat E w L) [h:Fnd (cel b) L o M] (hv:o.cs[i]? =some v):w.cell? ⟨b,i,none⟩=some v:=by
 rw[cell_of_blk (cel_at (b:=b) hS)];simpa using hv
theorem run_l (hS:Sat E w L) [h:Fnd (cel b) L o M] [Sc P t] (hv:o.cs[i]? =some v):(oLoad t (.pointer (some ⟨b,i,none⟩))).run P w= .ok (.value v) w:=
 run_load Sc.na (cel_cell (b:=b) hS hv)
theorem pN_l (hS:Sat E w L) [h:Fnd (cel b) L o M] [Sc P t] (hv:o.cs[i]? =some v) (hk:K v w):pN P (oLoad t (.pointer (some ⟨b,i,none⟩))) w K:=
 pN_ld Sc.na (cel_cell (b:=b) hS hv) hk
theorem pL_l (hS:Sat E w L) [h:Fnd (cel b) L o M] [Sc P t] (hv:o.cs[i]? =some v) (hk:J v):pL P (oLoad t (.pointer (some ⟨b,i,none⟩))) w J:=
 pL_ld Sc.na (cel_cell (b:=b) hS hv) hk
theorem pN_s (hS:Sat E w L) [h:Fnd (cel b) L o M] [Sc P t] (hi:i<o.cs.length) (hv:v.oneCell'=true)
  (hk:∀w',Sat E w' (cel b ⟨o.e,o.cs.set i v⟩::M)→K undef w'):pN P (oStore t (.pointer (some ⟨b,i,none⟩)) v) w K:=by
 refine pN_st_blk (hS.fd (cel b)) Sc.sz hv (by simpa using hi) fun w' hS'=>hk w' ?_
 simpa [cel] using hS'
theorem pN_la {n:Nat} (hS:Sat E w L) [h:Fnd (cel b) L o M] [Ag P t n] (hn:n=o.cs.length) (hk:K (.agg o.cs.toArray) w):pN P (oLoad t (.pointer (some ⟨b,0,none⟩))) w K:=
 pN_ld_all Ag.ag Ag.sz (by simpa using hn) (cel_at (b:=b) hS) hk
theorem pL_ra {n:Nat} (hS:Sat E w L) [h:Fnd (cel b) L o M] [Ag P t n] (hn:n=o.cs.length) (hk:J (.agg o.cs.toArray)):pL P (oRes t (.pointer (some ⟨b,0,none⟩))) w J:=
 pL_res_all Ag.ag Ag.sz (by simpa using hn) (cel_at (b:=b) hS) hk
theorem pL_la {n:Nat} (hS:Sat E w L) [h:Fnd (cel b) L o M] [Ag P t n] (hn:n=o.cs.length) (hk:J (.agg o.cs.toArray)):pL P (oLoad t (.pointer (some ⟨b,0,none⟩))) w J:=by
 subst hn
 have hc:=cells_of_blk (o:=0) (cel_at (b:=b) hS) o.cs.length
 exact⟨_,run_load_agg (cs:=o.cs) Ag.ag Ag.sz (by simpa [List.take_of_length_le] using hc),hk⟩
theorem pL_r (hS:Sat E w L) [h:Fnd (cel b) L o M] [Sc P t] (hv:o.cs[i]? =some v) (hk:J v):pL P (oRes t (.pointer (some ⟨b,i,none⟩))) w J:=by
 refine⟨v,?_,hk⟩
 have hr:=run_load (P:=P) (w:=w) (t:=t) Sc.na (cel_cell (b:=b) hS hv)
 exact hr
theorem pN_sa {n:Nat} {us:List Value} (hS:Sat E w L) [h:Fnd (cel b) L o M] [Ag P t n] (hn:n=us.length) (ho:us.length=o.cs.length) (h1:us.all (·.oneCell')=true)
  (hk:∀w',Sat E w' (cel b ⟨o.e,us⟩::M)→K undef w'):pN P (oStore t (.pointer (some ⟨b,0,none⟩)) (.agg us.toArray)) w K:=
 pN_st_all (hS.fd (cel b)) Ag.sz (by simpa using hn) (by simpa using List.all_eq_true.1 h1) (by simpa using ho) hk
theorem pN_nw {u:Value} {z:List Value} (hS:Sat E w L) (hz:∀w,(zeroValue t).run P w= .ok u w) (hc:u.cells=z.toArray)
  (hk:∀a w',Sat E w' (cel a ⟨t,z⟩::L)→K (.pointer (some ⟨a,0,none⟩)) w'):pN P (oAlloc t) w K:=
 pN_alloc hz hS fun a w' h=>hk a w' (by rw[hc] at h;exact h)
theorem pN_bx {u:Value} {z:List Value} (hS:Sat E w L) (hc:u.cells=z.toArray)
  (hk:∀a w',Sat E w' (cel a ⟨t,z⟩::L)→K (.pointer (some ⟨a,0,none⟩)) w'):pN P (oBox t u) w K:=
 pN_box hS fun a w' h=>hk a w' (by rw[hc] at h;exact h)
omit [Pan] in
class Zv (P:Program) (t:TypeId) (z:outParam (List Value)):Prop where
 zv:∃u:Value,(∀w,(zeroValue t).run P w= .ok u w)∧u.cells=z.toArray
theorem pN_nz {z:List Value} (hS:Sat E w L) [h:Zv P t z] (hk:∀a w',Sat E w' (cel a ⟨t,z⟩::L)→K (.pointer (some ⟨a,0,none⟩)) w'):pN P (oAlloc t) w K:=by
 obtain⟨u,h1,h2⟩:=h.zv
 exact pN_nw hS h1 h2 hk
theorem pDr_go {K:World→Prop} (hS:Sat E w L) (hk:∀w',Sat E w' L→K w'):pDr w K:=hk _ hS.drew
end
structure Sl where
 a:Option Addr
 c:Nat
structure Cd (α:Type) where
 e:TypeId
 size:Nat
 bytes:Nat
 zero:α
 enc:α→List Value
 len:∀a,(enc a).length=size
 one:∀a,∀u∈enc a,u.oneCell'=true
def Cd.flat {α:Type} (C:Cd α) (l:List α):List Value:=(l.map C.enc).flatten
theorem Cd.flat_single {α:Type} (C:Cd α) (f:α→Value) (h:∀b,C.enc b=[f b]) (l:List α):C.flat l=l.map f:=by
 induction l with
 |nil=>rfl
 |cons x l ih=>simp only[Cd.flat,List.map_cons,List.flatten_cons,h] at ih ⊢;rw[ih];rfl
theorem Cd.flat_append {α:Type} (C:Cd α) (l m:List α):C.flat (l++m)=C.flat l++C.flat m:=by simp[Cd.flat]
theorem Cd.flat_len {α:Type} (C:Cd α) (l:List α):(C.flat l).length=l.length*C.size:=flat_length _ _ C.len l
theorem Cd.flat_get {α:Type} (C:Cd α) (l:List α) (i:Nat) (x:α) (h:l[i]? =some x):((C.flat l).drop (i*C.size)).take C.size=C.enc x:=flat_at _ _ C.len l i x h
theorem Cd.flat_put {α:Type} (C:Cd α) (l:List α) (i:Nat) (x:α) (h:i<l.length):(C.flat l).take (i*C.size)++C.enc x++(C.flat l).drop (i*C.size+C.size)=C.flat (l.set i x):=flat_set _ _ C.len l i x h
theorem Cd.flat_one {α:Type} (C:Cd α) (l:List α):∀u∈C.flat l,u.oneCell'=true:=by
 intro u hu
 simp only[Cd.flat,List.mem_flatten,List.mem_map] at hu
 obtain⟨m,⟨a,_,rfl⟩,hu⟩:=hu
 exact C.one a u hu
theorem Cd.flat_take {α:Type} (C:Cd α) (l:List α) (n:Nat):(C.flat l).take (n*C.size)=C.flat (l.take n):=by
 induction l generalizing n with
 |nil=>simp[Cd.flat]
 |cons x l ih=>
  cases n with
  |zero=>simp[Cd.flat]
  |succ n=>
   have e:(n+1)*C.size=C.size+n*C.size:=by rw[Nat.add_mul,Nat.one_mul,Nat.add_comm]
   simp only[Cd.flat,List.map_cons,List.flatten_cons,List.take_succ_cons] at ih ⊢
   rw[List.take_append,C.len,e,Nat.add_sub_cancel_left,ih,List.take_of_length_le (by rw[C.len];omega)]
theorem Cd.flat_drop {α:Type} (C:Cd α) (l:List α) (n:Nat):(C.flat l).drop (n*C.size)=C.flat (l.drop n):=by
 induction l generalizing n with
 |nil=>simp[Cd.flat]
 |cons x l ih=>
  cases n with
  |zero=>simp[Cd.flat]
  |succ n=>
   have e:(n+1)*C.size=C.size+n*C.size:=by rw[Nat.add_mul,Nat.one_mul,Nat.add_comm]
   simp only[Cd.flat,List.map_cons,List.flatten_cons,List.drop_succ_cons] at ih ⊢
   rw[List.drop_append,C.len,e,Nat.add_sub_cancel_left,ih,List.drop_of_length_le (by rw[C.len];omega),List.nil_append]
def rows {α:Type} (C:Cd α) (s:Sl) (l:List α):HA:=own C.e C.size (.slice s.a l.length s.c) l.length (C.flat l)
class Row (P:Program) (t:TypeId) (α:outParam Type) (C:outParam (Cd α)):Prop where
 st:∃z,SlT P t C.e z C.size C.bytes∧z.cells.toList=C.enc C.zero
 bpos:0<C.bytes
class Bt {α:Type} (C:Cd α) (z:outParam Nat):Prop where
 eq:C.bytes=z
class RdP {α:Type} (C:Cd α) (A:HA) (s:Sl) (l:outParam (List α)):Prop where
 rd:RdA A C.size (.slice s.a l.length s.c) l.length (C.flat l)
class Rds {α:Type} (C:Cd α) (L:List HA) (s:Sl) (l:outParam (List α)):Prop where
 rd:∀E w,Sat E w L→Rd w C.size (.slice s.a l.length s.c) l.length (C.flat l)
section
variable {α:Type} {C:Cd α} {E w:World} {A B:HA} {L M:List HA} {s:Sl} {l:List α}
instance RdP.rows:RdP C (rows C s l) s l:=⟨RdA.own⟩
instance (priority:=1100) Rds.here [h:RdP C A s l]:Rds C (A::L) s l:=⟨fun _ _ hS=>hS.rd 0 rfl h.rd⟩
instance (priority:=1000) Rds.there [h:Rds C L s l]:Rds C (A::L) s l:=⟨fun E w hS=>h.rd E w hS.drop⟩
instance Rds.nil:Rds C L ⟨none,0⟩ ([]:List α):=⟨fun _ _ _=>Rd.nil⟩
theorem Sat.rds (hS:Sat E w L) [h:Rds C L s l]:Rd w C.size (.slice s.a l.length s.c) l.length (C.flat l):=h.rd E w hS
def Sl.sub (s:Sl) (lo size:Nat):Sl:=⟨if s.c=lo then s.a else s.a.map (·.add (lo*size)),s.c-lo⟩
theorem subV_sl (s:Sl) (n lo hi size:Nat):subV (.slice s.a n s.c) lo hi size= .slice (s.sub lo size).a (hi-lo) (s.sub lo size).c:=rfl
end
section
variable [Pan] {P:Program} {E w:World} {K:Value→World→Prop} {J:Value→Prop} {L M:List HA} {v:Value} {m:Sem Next} {A B:Prop}
theorem pN_via (h:∀K:Value→World→Prop,pN P m w K=K v w) (hk:K v w):pN P m w K:=by rw[h];exact hk
theorem pIf_t (h:A):pIf (.bool true) A B:=h
theorem pIf_f (h:B):pIf (.bool false) A B:=h
theorem gA_go {b:Bool} {x:(Value→Prop)→Prop} (hb:b=true) (h:x J):gA b x J:=by subst hb;exact h
theorem gA_no {b:Bool} {x:(Value→Prop)→Prop} (hb:b=false) (h:J undef):gA b x J:=by subst hb;exact h
theorem pGd_go {b:Bool} {x:(Value→World→Prop)→Prop} (hb:b=true) (h:x K):pGd b x w K:=by subst hb;exact h
theorem pGd_no {b:Bool} {x:(Value→World→Prop)→Prop} (hb:b=false) (h:K undef w):pGd b x w K:=by subst hb;exact h
section
variable {t:TypeId} {xo yo:Operand} {k:IntKind} {a b:Int} {x y:UInt8} {l r:List UInt8}
theorem pN_lss_s (ht:a<b→K (.bool true) w) (hf:¬a<b→K (.bool false) w):pN P (oBin .lss t xo yo (.int k a) (.int k b)) w K:=by
 rw[pN_lss];by_cases h:a<b
 ·rw[decide_eq_true h];exact ht h
 ·rw[decide_eq_false h];exact hf h
theorem pA_lss_s (ht:a<b→J (.bool true)) (hf:¬a<b→J (.bool false)):pA P (oBin .lss t xo yo (.int k a) (.int k b)) J:=by
 rw[pA_lss];by_cases h:a<b
 ·rw[decide_eq_true h];exact ht h
 ·rw[decide_eq_false h];exact hf h
theorem pN_lss_sb (ht:x<y→K (.bool true) w) (hf:¬x<y→K (.bool false) w):pN P (oBin .lss t xo yo (bv x) (bv y)) w K:=by
 refine pN_lss_s (fun h=>ht ?_) (fun h=>hf ?_)
 ·rw[UInt8.lt_iff_toNat_lt]<;>omega
 ·rw[UInt8.lt_iff_toNat_lt]<;>omega
theorem pN_leq_s (ht:a≤b→K (.bool true) w) (hf:¬a≤b→K (.bool false) w):pN P (oBin .leq t xo yo (.int k a) (.int k b)) w K:=by
 rw[pN_leq];by_cases h:a≤b
 ·rw[decide_eq_true h];exact ht h
 ·rw[decide_eq_false h];exact hf h
theorem pA_leq_s (ht:a≤b→J (.bool true)) (hf:¬a≤b→J (.bool false)):pA P (oBin .leq t xo yo (.int k a) (.int k b)) J:=by
 rw[pA_leq];by_cases h:a≤b
 ·rw[decide_eq_true h];exact ht h
 ·rw[decide_eq_false h];exact hf h
theorem pN_gtr_s (ht:b<a→K (.bool true) w) (hf:¬b<a→K (.bool false) w):pN P (oBin .gtr t xo yo (.int k a) (.int k b)) w K:=by
 rw[pN_gtr];by_cases h:b<a
 ·rw[decide_eq_true h];exact ht h
 ·rw[decide_eq_false h];exact hf h
theorem pA_gtr_s (ht:b<a→J (.bool true)) (hf:¬b<a→J (.bool false)):pA P (oBin .gtr t xo yo (.int k a) (.int k b)) J:=by
 rw[pA_gtr];by_cases h:b<a
 ·rw[decide_eq_true h];exact ht h
 ·rw[decide_eq_false h];exact hf h
theorem pN_geq_s (ht:b≤a→K (.bool true) w) (hf:¬b≤a→K (.bool false) w):pN P (oBin .geq t xo yo (.int k a) (.int k b)) w K:=by
 rw[pN_geq];by_cases h:b≤a
 ·rw[decide_eq_true h];exact ht h
 ·rw[decide_eq_false h];exact hf h
theorem pA_geq_s (ht:b≤a→J (.bool true)) (hf:¬b≤a→J (.bool false)):pA P (oBin .geq t xo yo (.int k a) (.int k b)) J:=by
 rw[pA_geq];by_cases h:b≤a
 ·rw[decide_eq_true h];exact ht h
 ·rw[decide_eq_false h];exact hf h
theorem pN_geq_sb (ht:y≤x→K (.bool true) w) (hf:¬y≤x→K (.bool false) w):pN P (oBin .geq t xo yo (bv x) (bv y)) w K:=by
 refine pN_geq_s (fun h=>ht ?_) (fun h=>hf ?_)
 ·rw[UInt8.le_iff_toNat_le]<;>omega
 ·rw[UInt8.le_iff_toNat_le]<;>omega
theorem pN_eql_s (ht:a=b→K (.bool true) w) (hf:¬a=b→K (.bool false) w):pN P (oBin .eql t xo yo (.int k a) (.int k b)) w K:=by
 rw[pN_eql];by_cases h:a=b
 ·have e:(a==b)=true:=beq_iff_eq.2 h
  simp only[bne,e];exact ht h
 ·have e:(a==b)=false:=beq_eq_false_iff_ne.2 h
  simp only[bne,e];exact hf h
theorem pA_eql_s (ht:a=b→J (.bool true)) (hf:¬a=b→J (.bool false)):pA P (oBin .eql t xo yo (.int k a) (.int k b)) J:=by
 rw[pA_eql];by_cases h:a=b
 ·have e:(a==b)=true:=beq_iff_eq.2 h
  simp only[bne,e];exact ht h
 ·have e:(a==b)=false:=beq_eq_false_iff_ne.2 h
  simp only[bne,e];exact hf h
theorem pN_eql_sb (ht:x=y→K (.bool true) w) (hf:¬x=y→K (.bool false) w):pN P (oBin .eql t xo yo (bv x) (bv y)) w K:=by
 rw[pN_eql_bv];by_cases h:x=y
 ·have e:(x==y)=true:=beq_iff_eq.2 h
  simp only[bne,e];exact ht h
 ·have e:(x==y)=false:=beq_eq_false_iff_ne.2 h
  simp only[bne,e];exact hf h
theorem pN_eql_ss (ht:l=r→K (.bool true) w) (hf:¬l=r→K (.bool false) w):pN P (oBin .eql t xo yo (.string ⟨List.toArray l⟩) (.string ⟨List.toArray r⟩)) w K:=by
 rw[pN_eql_l];by_cases h:l=r
 ·have e:(l==r)=true:=beq_iff_eq.2 h
  simp only[e];exact ht h
 ·have e:(l==r)=false:=beq_eq_false_iff_ne.2 h
  simp only[e];exact hf h
theorem pA_eql_ss (ht:l=r→J (.bool true)) (hf:¬l=r→J (.bool false)):pA P (oBin .eql t xo yo (.string ⟨List.toArray l⟩) (.string ⟨List.toArray r⟩)) J:=by
 rw[pA_eql_l];by_cases h:l=r
 ·have e:(l==r)=true:=beq_iff_eq.2 h
  simp only[e];exact ht h
 ·have e:(l==r)=false:=beq_eq_false_iff_ne.2 h
  simp only[e];exact hf h
theorem pN_neq_s (ht:a=b→K (.bool false) w) (hf:¬a=b→K (.bool true) w):pN P (oBin .neq t xo yo (.int k a) (.int k b)) w K:=by
 rw[pN_neq];by_cases h:a=b
 ·have e:(a==b)=true:=beq_iff_eq.2 h
  simp only[bne,e];exact ht h
 ·have e:(a==b)=false:=beq_eq_false_iff_ne.2 h
  simp only[bne,e];exact hf h
theorem pA_neq_s (ht:a=b→J (.bool false)) (hf:¬a=b→J (.bool true)):pA P (oBin .neq t xo yo (.int k a) (.int k b)) J:=by
 rw[pA_neq];by_cases h:a=b
 ·have e:(a==b)=true:=beq_iff_eq.2 h
  simp only[bne,e];exact ht h
 ·have e:(a==b)=false:=beq_eq_false_iff_ne.2 h
  simp only[bne,e];exact hf h
theorem pN_neq_ss (ht:l=r→K (.bool false) w) (hf:¬l=r→K (.bool true) w):pN P (oBin .neq t xo yo (.string ⟨List.toArray l⟩) (.string ⟨List.toArray r⟩)) w K:=by
 rw[pN_neq_l];by_cases h:l=r
 ·have e:(l==r)=true:=beq_iff_eq.2 h
  simp only[e];exact ht h
 ·have e:(l==r)=false:=beq_eq_false_iff_ne.2 h
  simp only[e];exact hf h
theorem pA_neq_ss (ht:l=r→J (.bool false)) (hf:¬l=r→J (.bool true)):pA P (oBin .neq t xo yo (.string ⟨List.toArray l⟩) (.string ⟨List.toArray r⟩)) J:=by
 rw[pA_neq_l];by_cases h:l=r
 ·have e:(l==r)=true:=beq_iff_eq.2 h
  simp only[e];exact ht h
 ·have e:(l==r)=false:=beq_eq_false_iff_ne.2 h
  simp only[e];exact hf h
theorem run_lss_l (w:World):(oBin .lss t xo yo (.string ⟨List.toArray l⟩) (.string ⟨List.toArray r⟩)).run P w= .ok (.value (.bool (Op.bytesLess l r))) w:=by
 refine run_bin_of t xo yo (by unfold eqGuard;rfl) ?_
 simp[binOp,Op.stringOp,str_list]
theorem run_leq_l (w:World):(oBin .leq t xo yo (.string ⟨List.toArray l⟩) (.string ⟨List.toArray r⟩)).run P w= .ok (.value (.bool (Op.bytesLess l r||l==r))) w:=by
 refine run_bin_of t xo yo (by unfold eqGuard;rfl) ?_
 simp[binOp,Op.stringOp,str_list]
theorem pA_lss_l:pA P (oBin .lss t xo yo (.string ⟨List.toArray l⟩) (.string ⟨List.toArray r⟩)) J=J (.bool (Op.bytesLess l r)):=by rw[pA_def,funext (fun w=>run_lss_l w),rA_value]
theorem pN_leq_l:pN P (oBin .leq t xo yo (.string ⟨List.toArray l⟩) (.string ⟨List.toArray r⟩)) w K=K (.bool (Op.bytesLess l r||l==r)) w:=by rw[pN_def,run_leq_l,rN_value]
theorem pA_leq_l:pA P (oBin .leq t xo yo (.string ⟨List.toArray l⟩) (.string ⟨List.toArray r⟩)) J=J (.bool (Op.bytesLess l r||l==r)):=by rw[pA_def,funext (fun w=>run_leq_l w),rA_value]
attribute [go_sem] pA_lss_l pN_leq_l pA_leq_l
theorem pN_shrn {k':IntKind} (n:Nat) (b c:Int) (hb:b=(n:Int)) (hc:c=2^n) (hn:n≤k.bits):pN P (oBin .shr t xo yo (.int k a) (.int k' b)) w K=K (.int k (a / c)) w:=by
 subst hb
 rw[pN_shr _ _ _ _ _ _ _ (by omega),Int.toNat_natCast,Nat.min_eq_left hn,←hc,Int.fdiv_eq_ediv_of_nonneg _ (by rw[hc];exact Int.pow_nonneg (by omega))]
theorem pN_shln {k':IntKind} (n:Nat) (b c:Int) (hb:b=(n:Int)) (hc:c=2^n) (hn:n≤k.bits):pN P (oBin .shl t xo yo (.int k a) (.int k' b)) w K=K (.int k (k.wrap (a*c))) w:=by
 subst hb
 rw[pN_shl _ _ _ _ _ _ _ (by omega),Int.toNat_natCast,Nat.min_eq_left hn,←hc]
theorem pN_shr_k {k':IntKind} (j:Nat) (hb:b=(j:Int)) (hj:j≤k.bits) (hk:K (.int k (a / 2^j)) w):pN P (oBin .shr t xo yo (.int k a) (.int k' b)) w K:=by
 rw[pN_shrn j b (2^j) hb rfl hj];exact hk
theorem pN_shl_k {k':IntKind} (j:Nat) (hb:b=(j:Int)) (hj:j≤k.bits) (hk:K (.int k (k.wrap (a*2^j))) w):pN P (oBin .shl t xo yo (.int k a) (.int k' b)) w K:=by
 rw[pN_shln j b (2^j) hb rfl hj];exact hk
theorem and_mask (n:Nat) (a:Int) (j:Nat) (hj:j<n):((BitVec.ofInt n a&&& BitVec.ofInt n ((2:Int)^j-1)).toNat:Int)=a%2^j:=by
 have h1:(BitVec.ofInt n ((2:Int)^j-1)).toNat=2^j-1:=by
  rw[BitVec.toNat_ofInt]
  have p1:(2:Nat)^j<2^n:=Nat.pow_lt_pow_right (by omega) hj
  have p0:0<(2:Nat)^j:=Nat.two_pow_pos j
  have e1:((2:Int)^j-1)=((2^j-1:Nat):Int):=by
   rw[Int.natCast_sub (by omega)];norm_cast
  rw[e1]
  norm_cast
  rw[Int.toNat_natCast]
  exact Nat.mod_eq_of_lt (by omega)
 rw[BitVec.toNat_and,h1,Nat.and_two_pow_sub_one_eq_mod,BitVec.toNat_ofInt]
 have p2:(0:Int)<2^n:=Int.pow_pos (by omega)
 rw[Int.natCast_emod,Int.toNat_of_nonneg (Int.emod_nonneg _ (by norm_cast at p2 ⊢;omega))]
 norm_cast
 refine Int.emod_emod_of_dvd _ ?_
 norm_cast
 exact Nat.pow_dvd_pow 2 (by omega)
theorem pN_andn (j:Nat) (b c:Int) (hb:b=2^j-1) (hc:c=2^j) (hj:j<k.bits) (hw:k.wrap (a%c)=a%c):pN P (oBin .and t xo yo (.int k a) (.int k b)) w K=K (.int k (a%c)) w:=by
 subst hb
 rw[pN_and,and_mask _ _ _ hj,←hc,hw]
end
theorem w_u32 {n:Int} (h:0≤n∧n<4294967296):IntKind.u32.wrap n=n:=by rw[wrap_u32];omega
theorem w_u64 {n:Int} (h:0≤n∧n<18446744073709551616):IntKind.u64.wrap n=n:=by rw[wrap_u64];omega
theorem pN_min {t1 t2 ty:TypeId} {k:IntKind} {a b:Int} {cs:List Bool}:pN P (oBi .min #[t1,t2] ty cs [.int k a,.int k b]) w K=K (.int k (min a b)) w:=by
 have:(oBi .min #[t1,t2] ty cs [.int k a,.int k b]).run P w= .ok (.value (.int k (min a b))) w:=by
  by_cases h:b<a
  ·have e:min a b=b:=by omega
   simp[oBi,builtin,Builtin.min_,Builtin.min2,h,e]
  ·have e:min a b=a:=by omega
   simp[oBi,builtin,Builtin.min_,Builtin.min2,h,e]
 rw[pN_def,this,rN_value]
theorem pN_max {t1 t2 ty:TypeId} {k:IntKind} {a b:Int} {cs:List Bool}:pN P (oBi .max #[t1,t2] ty cs [.int k a,.int k b]) w K=K (.int k (max a b)) w:=by
 have:(oBi .max #[t1,t2] ty cs [.int k a,.int k b]).run P w= .ok (.value (.int k (max a b))) w:=by
  by_cases h:a<b
  ·have e:max a b=b:=by omega
   simp[oBi,builtin,Builtin.max_,Builtin.max2,h,e]
  ·have e:max a b=a:=by omega
   simp[oBi,builtin,Builtin.max_,Builtin.max2,h,e]
 rw[pN_def,this,rN_value]
omit [Pan] in
def byteOf (n:Int):UInt8:=UInt8.ofNat (n%256).toNat
theorem byteOf_toNat (n:Int):((byteOf n).toNat:Int)=n%256:=by
 simp only[byteOf,UInt8.toNat_ofNat']
 omega
omit [Pan] in
class ToB (P:Program) (s d:TypeId):Prop where
 eq:∀w (k:IntKind) (n:Int),(oConv s d (.int k n)).run P w= .ok (.value (.int .u8 (IntKind.u8.wrap n))) w
omit [Pan] in
class OfB (P:Program) (s d:TypeId) (kd:outParam IntKind):Prop where
 eq:∀w (k:IntKind) (n:Int),(oConv s d (.int k n)).run P w= .ok (.value (.int kd (kd.wrap n))) w
 small:∀n:Int,0≤n→n<256→kd.wrap n=n
theorem pN_tob {s d:TypeId} [h:ToB P s d] {k:IntKind} {n:Int} (hk:K (bv (byteOf n)) w):pN P (oConv s d (.int k n)) w K:=by
 rw[pN_def,h.eq,rN_value]
 unfold bv at hk
 rw[byteOf_toNat] at hk
 rw[wrap_u8]
 exact hk
theorem pL_tob {s d:TypeId} [h:ToB P s d] {k:IntKind} {n:Int} (hk:J (bv (byteOf n))):pL P (oConv s d (.int k n)) w J:=by
 unfold bv at hk
 rw[byteOf_toNat] at hk
 refine⟨_,h.eq w k n,?_⟩
 rw[wrap_u8]
 exact hk
theorem pN_ofb {s d:TypeId} {kd:IntKind} [h:OfB P s d kd] {b:UInt8} (hk:K (.int kd b.toNat) w):pN P (oConv s d (bv b)) w K:=by
 have:=b.toNat_lt
 unfold bv
 rw[pN_def,h.eq,rN_value,h.small _ (by omega) (by omega)]
 exact hk
end
def El {α:Type} (C:Cd α) (s:Sl) (j:Nat) (a:Addr):Prop:=∃b,s.a=some b∧a=b.add (j*C.size)
structure EA {α:Type} (C:Cd α) (s:Sl) (l:List α) (a:Addr) (cs:List Value):Prop where
 at_:∀E w M,Rds C M s l→Sat E w M→At w a cs
class FA (P:Program) (t:TypeId) (f:Nat) (off:outParam Nat):Prop where
 run:∀(a:Addr) (w:World),(oFld t (.pointer (some a)) f).run P w= .ok (.value (.pointer (some (a.add off)))) w
section
variable [Pan] {P:Program} {E w:World} {K:Value→World→Prop} {J:Value→Prop} {L M:List HA} {v:Value} {α:Type} {C:Cd α} {t ty:TypeId} {s s2:Sl} {l m:List α} {n n2:Nat} {k k':IntKind} {i:Int}
theorem Row.slt [h:Row P t α C]:SlT P t C.e (Classical.choose h.st) C.size C.bytes:=(Classical.choose_spec h.st).1
theorem Row.zero [h:Row P t α C]:(Classical.choose h.st).cells.toList=C.enc C.zero:=(Classical.choose_spec h.st).2
theorem run_ix (hS:Sat E w L) [h:Row P t α C] [hr:Rds C L s l] (j:Nat) (hj:i=(j:Int)) (hn:n=l.length) (hlt:j<l.length):
  ∃a x,(∀w',(oIdx t (.slice s.a n s.c) (.int k i)).run P w'= .ok (.value (.pointer (some a))) w')∧l[j]? =some x∧EA C s l a (C.enc x)∧El C s j a:=by
 subst hj hn
 have hr:=hS.rds (C:=C) (s:=s)
 obtain⟨hl,ao,cap,hv,hnc,hnil,hc⟩:=hr
 simp only[Value.slice.injEq,true_and] at hv
 obtain⟨rfl,rfl⟩:=hv
 have ht:=Row.slt (P:=P) (t:=t) (C:=C)
 cases ha:s.a with
 |none=>have:=(hnil ha).1;omega
 |some b=>
  refine⟨b.add (j*C.size),l[j],fun w'=>?_,by simp[hlt],⟨fun E' w' M h' hS'=>?_⟩,b,ha,rfl⟩
  ·refine run_oV_ok ?_
   have h2:(0:Int)≤j∧(j:Int)<l.length:=by omega
   simp[Instr.indexAt,run_underlying ht.under,asIntOf,ht.sizeOf,hlt]
  ·intro j' u hu
   have hr:=hS'.rds (C:=C) (s:=s)
   obtain⟨_,ao,cap,hv,_,_,hc⟩:=hr
   simp only[Value.slice.injEq,true_and] at hv
   obtain⟨rfl,rfl⟩:=hv
   rw[Addr.add_add]
   refine hc b ha _ _ ?_
   rw[←C.flat_get l j l[j] (by simp[hlt])] at hu
   rw[List.getElem?_take] at hu
   split at hu
   ·rwa[List.getElem?_drop] at hu
   ·cases hu
theorem pN_ix (hS:Sat E w L) [Row P t α C] [hr:Rds C L s l] (j:Nat) (hj:i=(j:Int)) (hn:n=l.length) (hlt:j<l.length)
  (hk:∀a x,l[j]? =some x→EA C s l a (C.enc x)→El C s j a→K (.pointer (some a)) w):pN P (oIdx t (.slice s.a n s.c) (.int k i)) w K:=by
 obtain⟨a,x,h1,h2,h3,h4⟩:=run_ix (P:=P) (t:=t) (k:=k) (s:=s) hS j hj hn hlt
 rw[pN_def,h1,rN_value]
 exact hk a x h2 h3 h4
theorem pA_ix (hS:Sat E w L) [Row P t α C] [hr:Rds C L s l] (j:Nat) (hj:i=(j:Int)) (hn:n=l.length) (hlt:j<l.length)
  (hk:∀a x,l[j]? =some x→EA C s l a (C.enc x)→El C s j a→J (.pointer (some a))):pA P (oIdx t (.slice s.a n s.c) (.int k i)) J:=by
 obtain⟨a,x,h1,h2,h3,h4⟩:=run_ix (P:=P) (t:=t) (k:=k) (s:=s) hS j hj hn hlt
 exact⟨_,h1,hk a x h2 h3 h4⟩
theorem pN_ixk {x:α} (hS:Sat E w L) [Row P t α C] [hr:Rds C L s l] (j:Nat) (hj:i=(j:Int)) (hn:n=l.length) (hx:l[j]? =some x)
  (hk:∀a,EA C s l a (C.enc x)→El C s j a→K (.pointer (some a)) w):pN P (oIdx t (.slice s.a n s.c) (.int k i)) w K:=
 pN_ix hS j hj hn (List.getElem?_eq_some_iff.1 hx).1 fun a y h1 h2 h3=>by
  rw[hx,Option.some.injEq] at h1
  subst h1
  exact hk a h2 h3
theorem pA_ixk {x:α} (hS:Sat E w L) [Row P t α C] [hr:Rds C L s l] (j:Nat) (hj:i=(j:Int)) (hn:n=l.length) (hx:l[j]? =some x)
  (hk:∀a,EA C s l a (C.enc x)→El C s j a→J (.pointer (some a))):pA P (oIdx t (.slice s.a n s.c) (.int k i)) J:=
 pA_ix hS j hj hn (List.getElem?_eq_some_iff.1 hx).1 fun a y h1 h2 h3=>by
  rw[hx,Option.some.injEq] at h1
  subst h1
  exact hk a h2 h3
theorem pN_ld_at {z:Nat} {a:Addr} {cs:List Value} (ha:EA C s l a cs) (hS:Sat E w L) [hr:Rds C L s l] [Ag P t z] (hn:z=cs.length) (hk:K (.agg cs.toArray) w):pN P (oLoad t (.pointer (some a))) w K:=
 pN_ld_n Ag.ag Ag.sz hn (ha.at_ E w L hr hS) hk
theorem pL_ld_at {z:Nat} {a:Addr} {cs:List Value} (ha:EA C s l a cs) (hS:Sat E w L) [hr:Rds C L s l] [Ag P t z] (hn:z=cs.length) (hk:J (.agg cs.toArray)):pL P (oLoad t (.pointer (some a))) w J:=by
 subst hn
 exact⟨_,run_load_agg Ag.ag Ag.sz (ha.at_ E w L hr hS),hk⟩
theorem run_ld1 {a:Addr} (ha:EA C s l a [v]) (hS:Sat E w L) [hr:Rds C L s l] [Sc P t]:(oLoad t (.pointer (some a))).run P w= .ok (.value v) w:=by
 refine run_load Sc.na ?_
 have:=ha.at_ E w L hr hS 0 v rfl
 rwa[Addr.add_zero'] at this
theorem pN_ld1 {a:Addr} (ha:EA C s l a [v]) (hS:Sat E w L) [hr:Rds C L s l] [Sc P t] (hk:K v w):pN P (oLoad t (.pointer (some a))) w K:=by
 rw[pN_def,run_ld1 ha hS,rN_value];exact hk
theorem pL_ld1 {a:Addr} (ha:EA C s l a [v]) (hS:Sat E w L) [hr:Rds C L s l] [Sc P t] (hk:J v):pL P (oLoad t (.pointer (some a))) w J:=
 ⟨v,run_ld1 ha hS,hk⟩
theorem EA.fld {a:Addr} {cs:List Value} (ha:EA C s l a cs) (off:Nat) (hv:cs[off]? =some v):EA C s l (a.add off) [v]:=⟨fun E w M h hS j u hu=>by
 have h1:=ha.at_ E w M h hS
 cases j with
 |zero=>
  simp only[List.getElem?_cons_zero,Option.some.injEq] at hu
  subst hu
  rw[Addr.add_zero']
  exact h1 off _ hv
 |succ j=>simp at hu⟩
theorem pN_fa {a:Addr} {cs:List Value} {f off:Nat} (ha:EA C s l a cs) [hf:FA P t f off] (hv:cs[off]? =some v) (hk:∀a,EA C s l a [v]→K (.pointer (some a)) w):pN P (oFld t (.pointer (some a)) f) w K:=by
 rw[pN_def,hf.run,rN_value];exact hk _ (ha.fld off hv)
theorem pA_fa {a:Addr} {cs:List Value} {f off:Nat} (ha:EA C s l a cs) [hf:FA P t f off] (hv:cs[off]? =some v) (hk:∀a,EA C s l a [v]→J (.pointer (some a))):pA P (oFld t (.pointer (some a)) f) J:=
 ⟨_,hf.run a,hk _ (ha.fld off hv)⟩
theorem pN_srn {j:Nat} {a:Addr} {x:α} {us:Array Value} (hel:El C s j a) (hS:Sat E w L) [hf:Fnd (rows C s) L l M] {z:Nat} [Ag P t z] (hz:z=C.size) (hx:C.enc x=us.toList) (hj:j<l.length)
  (hk:∀w',Sat E w' (rows C s (l.set j x)::M)→K undef w'):pN P (oStore t (.pointer (some a)) (.agg us)) w K:=by
 have h0:=hS.fd (rows C s)
 obtain⟨b,hb,rfl⟩:=hel
 have hlen:=C.len x
 rw[hx,Array.length_toList] at hlen
 have hro:=h0.own_at 0 rfl
 obtain⟨_,⟨h,_⟩|⟨g,cap,cur,hv,_⟩⟩:=hro
 ·simp only[Value.slice.injEq] at h
  rw[hb] at h
  cases h.1
 ·simp only[Value.slice.injEq,true_and] at hv
  obtain⟨h1,h2⟩:=hv
  rw[hb,Option.some.injEq] at h1
  subst h1 h2
  unfold rows at h0
  rw[hb] at h0
  rw[Addr.add_lit,Nat.zero_add]
  refine pN_st_own_n h0 Ag.sz (hz.trans hlen.symm) hlen (by rw[←hx];exact C.one x) hj fun w' h3=>hk w' ?_
  unfold rows
  rw[hb,List.length_set,←C.flat_put l j x hj,hx]
  exact h3
theorem pN_sr {j:Nat} {a:Addr} {x:α} (hel:El C s j a) (hS:Sat E w L) [hf:Fnd (rows C s) L l M] [Sc P t] (hz:C.size=1) (hx:C.enc x=[v]) (hj:j<l.length)
  (hk:∀w',Sat E w' (rows C s (l.set j x)::M)→K undef w'):pN P (oStore t (.pointer (some a)) v) w K:=by
 have h0:=hS.fd (rows C s)
 obtain⟨b,hb,rfl⟩:=hel
 have h1':=C.one x v (by rw[hx];exact List.mem_singleton.2 rfl)
 have hro:=h0.own_at 0 rfl
 obtain⟨_,⟨h,_⟩|⟨g,cap,cur,hv,_⟩⟩:=hro
 ·simp only[Value.slice.injEq] at h
  rw[hb] at h
  cases h.1
 ·simp only[Value.slice.injEq,true_and] at hv
  obtain⟨h1,h2⟩:=hv
  rw[hb,Option.some.injEq] at h1
  subst h1 h2
  unfold rows at h0
  rw[hb] at h0
  rw[Addr.add_lit,Nat.zero_add,hz,Nat.mul_one]
  have hfl:=C.flat_len l
  rw[hz,Nat.mul_one] at hfl
  refine pN_st_own h0 Sc.sz h1' (by omega) fun w' h3=>hk w' ?_
  unfold rows
  have hp:=C.flat_put l j x hj
  rw[hz,Nat.mul_one,hx] at hp
  rw[hb,List.length_set,←hp]
  rw[List.set_eq_take_append_cons_drop,if_pos (by omega)] at h3
  simpa using h3
theorem own_sl {e:TypeId} {size:Nat} {xs:List Value} (hS:Sat E w (own e size v n xs::L)):∃s:Sl,v= .slice s.a n s.c:=by
 obtain⟨_,⟨rfl,rfl⟩|⟨g,cap,cur,rfl,_⟩⟩:=hS.own_at 0 rfl
 ·exact⟨⟨none,0⟩,rfl⟩
 ·exact⟨⟨_,_⟩,rfl⟩
theorem room63 {a b:Nat} (hb:0<b) (h:a*b≤140737488355328):a≤9223372036854775807:=by
 have:a*1≤a*b:=Nat.mul_le_mul_left a hb
 omega
theorem pN_app {cs:List Bool} (hS:Sat E w L) [hw:Row P t α C] [hf:Fnd (rows C s) L l M] [hr:Rds C L s2 m] {z:Nat} [hz:Bt C z] (hn:n=l.length) (hn2:n2=m.length) (hb:(l.length+m.length)*z≤140737488355328)
  (hk:∀s' w',Sat E w' (rows C s' (l++m)::M)→K (.slice s'.a (l++m).length s'.c) w'):pN P (oBi .append #[t,t] ty cs [.slice s.a n s.c,.slice s2.a n2 s2.c]) w K:=by
 subst hn hn2
 rw[←hz.eq] at hb
 have h0:=hS.fd (rows C s)
 have hrd:=hS.rds (C:=C) (s:=s2)
 refine pN_append Row.slt h0 hrd (C.flat_one m) hb (room63 hw.bpos hb) fun v' w' h1=>?_
 obtain⟨s',rfl⟩:=own_sl h1
 rw[←C.flat_append,←List.length_append] at h1
 rw[←List.length_append]
 exact hk s' w' h1
theorem pN_app0 {cs:List Bool} (hS:Sat E w L) [hw:Row P t α C] [hr:Rds C L s2 m] {z:Nat} [hz:Bt C z] (hn2:n2=m.length) (hb:m.length*z≤140737488355328)
  (hk:∀s' w',Sat E w' (rows C s' m::L)→K (.slice s'.a m.length s'.c) w'):pN P (oBi .append #[t,t] ty cs [.slice none 0 0,.slice s2.a n2 s2.c]) w K:=by
 rw[←hz.eq] at hb
 have hrd:=hS.rds (C:=C) (s:=s2)
 subst hn2
 have h0:=hS.nil C.e C.size
 refine pN_append Row.slt h0 hrd (C.flat_one m) (by rw[Nat.zero_add];exact hb) (room63 hw.bpos (by rw[Nat.zero_add];exact hb)) fun v' w' h1=>?_
 rw[Nat.zero_add,List.nil_append] at h1
 obtain⟨s',rfl⟩:=own_sl h1
 exact hk s' w' h1
theorem fill_size (off:Nat):∀(us:List Value) (k:Nat) (cells:Array Value),((us.zipIdx k).foldl (fun cs (c,j)=>cs.setIfInBounds (off+j) c) cells).size=cells.size
 | [],_,_=>rfl
 |u::us,k,cells=>by
  rw[List.zipIdx_cons,List.foldl_cons,fill_size off us (k+1)]
  simp
theorem fill_one (off:Nat):∀(us:List Value) (k:Nat) (cells:Array Value),off+k+us.length≤cells.size→∀i:Nat,
  ((us.zipIdx k).foldl (fun cs (c,j)=>cs.setIfInBounds (off+j) c) cells)[i]? =if off+k≤i∧i<off+k+us.length then us[i-(off+k)]? else cells[i]?
 | [],k,cells,_,i=>by rw[if_neg (by simp only[List.length_nil];omega)];rfl
 |u::us,k,cells,h,i=>by
  simp only[List.length_cons] at h
  rw[List.zipIdx_cons,List.foldl_cons]
  dsimp only
  rw[fill_one off us (k+1) _ (by(try simp only[Array.size_setIfInBounds]);omega)]
  by_cases h1:off+(k+1)≤i∧i<off+(k+1)+us.length
  ·rw[if_pos h1,if_pos (by(try simp only[List.length_cons]);omega)]
   rw[show i-(off+k)=(i-(off+(k+1)))+1 from by omega,List.getElem?_cons_succ]
  ·rw[if_neg h1,Array.getElem?_setIfInBounds]
   by_cases h2:off+k=i
   ·rw[if_pos h2,if_pos (by(try simp only[List.length_cons]);omega)]
    subst h2
    have:off+k<cells.size:=by omega
    simp[this]
   ·rw[if_neg h2,if_neg (by(try simp only[List.length_cons]);omega)]
theorem fill_lit (size:Nat):∀(us:List Value) (xs:List (List Value)) (k:Nat) (cells:Array Value),us.map (fun u=>u.cells.toList)=xs→(∀x∈xs,x.length=size)→(k+us.length)*size≤cells.size→
  ∃r:Array Value,Instr.fill (fun i=>some (i*size,size)) cells ((us.zipIdx k).map fun p=>(p.2,p.1))=some r∧r.size=cells.size∧
   ∀i:Nat,r[i]? =if k*size≤i∧i<(k+us.length)*size then xs.flatten[i-k*size]? else cells[i]?
 | [],xs,k,cells,hx,_,_=>⟨cells,rfl,rfl,fun i=>by rw[if_neg (by simp only[List.length_nil,Nat.add_zero];omega)]⟩
 |u::us,xs,k,cells,hx,hs,hl=>by
  subst hx
  have hu:u.cells.size=size:=by have:=hs u.cells.toList (by simp);simpa using this
  have e1:(k+1)*size=k*size+size:=by rw[Nat.add_mul,Nat.one_mul]
  have e5:(k+1+us.length)*size=k*size+size+us.length*size:=by rw[Nat.add_mul,Nat.add_mul,Nat.one_mul]
  have e6:(k+(u::us).length)*size=k*size+size+us.length*size:=by rw[List.length_cons,Nat.add_mul,Nat.add_mul,Nat.one_mul];omega
  rw[e6] at hl
  have hf:=fill_one (k*size) u.cells.toList 0 cells (by simp only[Array.length_toList];omega)
  have hz:=fill_size (k*size) u.cells.toList 0 cells
  generalize hc:(u.cells.toList.zipIdx 0).foldl (fun cs (c,j)=>cs.setIfInBounds (k*size+j) c) cells=cells' at hf hz
  obtain⟨r,h1,h2,h3⟩:=fill_lit size us _ (k+1) cells' rfl (fun x hx=>hs x (by simp only[List.map_cons,List.mem_cons];exact .inr hx)) (by rw[e5];omega)
  refine⟨r,?_,h2.trans hz,fun i=>?_⟩
  ·rw[List.zipIdx_cons,List.map_cons]
   simp only[Instr.fill]
   rw[if_neg (by simp[hu];omega),←h1,←hc]
   congr 1
   rw[←Array.foldl_toList]
   simp
  ·rw[h3,hf,e1,e5,e6]
   simp only[Array.length_toList,hu,Nat.add_zero,List.map_cons,List.flatten_cons]
   by_cases c1:k*size+size≤i∧i<k*size+size+us.length*size
   ·rw[if_pos c1,if_pos (by omega),List.getElem?_append_right (by simp only[Array.length_toList,hu];omega)]
    simp only[Array.length_toList,hu]
    congr 1
    omega
   ·rw[if_neg c1]
    by_cases c2:k*size≤i∧i<k*size+size
    ·rw[if_pos c2,if_pos (by omega),List.getElem?_append_left (by simp only[Array.length_toList,hu];omega)]
    ·rw[if_neg c2,if_neg (by omega)]
theorem pN_bl {ps:List (Nat×Value)} (us:List Value) (xs:List α) (hp:ps=us.zipIdx.map fun p=>(p.2,p.1)) (hn:n=us.length) (hx:us.map (fun u=>u.cells.toList)=xs.map C.enc) (h0:0<us.length) (hS:Sat E w L) [hw:Row P t α C] (hz:us.length*C.size≤16777216)
  (hk:∀s' w',Sat E w' (rows C s' xs::L)→K (.slice s'.a xs.length s'.c) w'):pN P (oBs t n ps) w K:=by
 subst hp hn
 have ht:=Row.slt (P:=P) (t:=t) (C:=C)
 have hlen:us.length=xs.length:=by simpa using congrArg List.length hx
 obtain⟨r,h1,h2,hg⟩:=fill_lit C.size us _ 0 (madeCells (Classical.choose hw.st).cells (us.length*C.size)) hx (by intro x hx;obtain⟨a,_,rfl⟩:=List.mem_map.1 hx;exact C.len a) (by rw[size_madeCells,Nat.zero_add];exact Nat.le_refl _)
 rw[size_madeCells] at h2
 have h3:r.toList=C.flat xs:=by
  apply List.ext_getElem?
  intro i
  rw[Array.getElem?_toList,hg,Nat.zero_mul,Nat.zero_add,Nat.sub_zero]
  by_cases hi:i<us.length*C.size
  ·rw[if_pos ⟨Nat.zero_le _,hi⟩];rfl
  ·rw[if_neg (by omega),Array.getElem?_eq_none (by rw[size_madeCells];omega),List.getElem?_eq_none (by rw[C.flat_len,←hlen];omega)]
 refine pN_bs ht (cells:=r) h0 hz h1 (by
  have:=congrArg List.length h3
  rw[Array.length_toList,C.flat_len] at this
  rw[this,hlen]) hS fun v' w' h4=>?_
 obtain⟨s',rfl⟩:=own_sl h4
 rw[hlen,h3] at h4
 rw[hlen]
 exact hk s' w' h4
theorem pN_b1 {u:Value} {x:α} (hS:Sat E w L) [Row P t α C] (hx:C.enc x=u.cells.toList) (hz:C.size≤16777216)
  (hk:∀s' w',Sat E w' (rows C s' [x]::L)→K (.slice s'.a 1 s'.c) w'):pN P (oBs t 1 [(0,u)]) w K:=
 pN_bl [u] [x] rfl rfl (by simp[hx]) (by simp) hS (by simpa using hz) hk
theorem pN_b0 (hS:Sat E w L) [Row P t α C] (hk:∀s' w',Sat E w' (rows C s' []::L)→K (.slice s'.a 0 s'.c) w'):pN P (oBs t 0 []) w K:=by
 refine pN_bs0 (Row.slt (C:=C)) hS fun v' w' h1=>?_
 obtain⟨s',rfl⟩:=own_sl h1
 exact hk s' w' h1
theorem flat_made [hw:Row P t α C] (j:Nat):(madeCells (Classical.choose hw.st).cells (j*C.size)).toList=C.flat (List.replicate j C.zero):=by
 have hz:=Row.zero (P:=P) (t:=t) (C:=C)
 have hl:=C.len C.zero
 have hzs:(Classical.choose hw.st).cells.size=C.size:=by rw[←Array.length_toList,hz,hl]
 apply List.ext_getElem?
 intro i
 by_cases hi:i<j*C.size
 ·have hpos:0<C.size:=by
   rcases Nat.eq_zero_or_pos C.size with h0|h0
   ·rw[h0] at hi;omega
   ·exact h0
  have hr:i%C.size<C.size:=Nat.mod_lt _ hpos
  have hq:i / C.size<j:=by rw[Nat.div_lt_iff_lt_mul hpos];exact hi
  have e1:i / C.size*C.size+i%C.size=i:=by rw[Nat.mul_comm];exact Nat.div_add_mod _ _
  have e2:=C.flat_get (List.replicate j C.zero) (i / C.size) C.zero (by simp[hq])
  have e3:(C.flat (List.replicate j C.zero))[i]? =(C.enc C.zero)[i%C.size]? :=by
   rw[←e2,List.getElem?_take,if_pos hr,List.getElem?_drop,e1]
  rw[e3]
  have e4:(Classical.choose hw.st).cells.toList[i%C.size]? =(C.enc C.zero)[i%C.size]? :=by rw[hz]
  rw[←e4]
  generalize (Classical.choose hw.st).cells=zz at hzs
  have e5:i<(Array.range (j*C.size)).size:=by simpa using hi
  simp[madeCells,hi,hzs,hr]
 ·rw[List.getElem?_eq_none (by rw[Array.length_toList,size_madeCells];omega),List.getElem?_eq_none (by rw[C.flat_len,List.length_replicate];omega)]
theorem pN_mk {z:Nat} (hS:Sat E w L) [hw:Row P t α C] [hz:Bt C z] (j:Nat) (hj:i=(j:Int)) (hb:z*j≤281474976710656)
  (hk:∀s' w',Sat E w' (rows C s' (List.replicate j C.zero)::L)→K (.slice s'.a j s'.c) w'):pN P (oMk t (.int k i) (.int k' i)) w K:=by
 subst hj
 rw[←hz.eq] at hb
 refine pN_make (Row.slt (C:=C)) hb (by
  have:1*j≤C.bytes*j:=Nat.mul_le_mul_right j hw.bpos
  omega) hS fun v' w' h1=>?_
 obtain⟨s',rfl⟩:=own_sl h1
 refine hk s' w' ?_
 unfold rows
 rw[List.length_replicate,←flat_made (P:=P) (t:=t)]
 exact h1
theorem Rds.sub [h:Rds C L s l] (a b:Nat) (h1:a≤b) (h2:b≤l.length):Rds C L (s.sub a C.size) ((l.drop a).take (b-a)):=⟨fun E w hS=>by
 have:=(h.rd E w hS).sub a b h1 h2
 rw[subV_sl,C.flat_drop,C.flat_take] at this
 rw[show((l.drop a).take (b-a)).length=b-a from by simp only[List.length_take,List.length_drop];omega]
 exact this⟩
omit [Pan] in
class Part {α:Type} (C:Cd α) (s:Sl) (l:List α) (s':Sl) (l':List α):Prop where
 rd:∀L,Rds C L s l→Rds C L s' l'
variable {k1 k2:IntKind} {i1 i2:Int} {lo hi:Nat}
theorem pN_sl2 (hS:Sat E w L) [Row P t α C] [h:Rds C L s l] (lo hi:Nat) (h1:i1=(lo:Int)) (h2:i2=(hi:Int)) (hn:n=l.length) (hlo:lo≤hi) (hhi:hi≤l.length)
  (hk:∀s',Part C s l s' ((l.drop lo).take (hi-lo))→K (.slice s'.a (hi-lo) s'.c) w):pN P (oSl t (.slice s.a n s.c) (some (.int k1 i1)) (some (.int k2 i2)) none) w K:=by
 subst h1 h2 hn
 refine pN_sl (Row.slt (C:=C)) (hS.rds (C:=C) (s:=s)) (by omega) (by omega) (by omega) ?_
 rw[Int.toNat_natCast,Int.toNat_natCast,subV_sl]
 exact hk _ ⟨fun L h=>Rds.sub lo hi hlo hhi⟩
theorem pN_sl1 (hS:Sat E w L) [Row P t α C] [h:Rds C L s l] (lo:Nat) (h1:i1=(lo:Int)) (hn:n=l.length) (hlo:lo≤l.length)
  (hk:∀s',Part C s l s' (l.drop lo)→K (.slice s'.a (l.length-lo) s'.c) w):pN P (oSl t (.slice s.a n s.c) (some (.int k1 i1)) none none) w K:=by
 subst h1 hn
 refine pN_sl_l (Row.slt (C:=C)) (hS.rds (C:=C) (s:=s)) (by omega) (by omega) ?_
 rw[Int.toNat_natCast,subV_sl]
 refine hk _ ⟨fun L h=>?_⟩
 have:=Rds.sub (C:=C) (L:=L) (s:=s) (l:=l) lo l.length hlo (Nat.le_refl _)
 rwa[List.take_of_length_le (by simp)] at this
theorem pN_slh (hS:Sat E w L) [Row P t α C] [h:Rds C L s l] (hi:Nat) (h2:i2=(hi:Int)) (hn:n=l.length) (hhi:hi≤l.length)
  (hk:∀s',Part C s l s' (l.take hi)→K (.slice s'.a hi s'.c) w):pN P (oSl t (.slice s.a n s.c) none (some (.int k2 i2)) none) w K:=by
 subst h2 hn
 refine pN_sl_h (Row.slt (C:=C)) (hS.rds (C:=C) (s:=s)) (by omega) (by omega) ?_
 rw[Int.toNat_natCast,subV_sl]
 refine hk _ ⟨fun L h=>?_⟩
 have:=Rds.sub (C:=C) (L:=L) (s:=s) (l:=l) 0 hi (Nat.zero_le _) hhi
 rwa[List.drop_zero,Nat.sub_zero] at this
omit [Pan] in
class StrT (P:Program) (t d:TypeId) (B:outParam (Cd UInt8)):Prop where
 e:∃e,P.underlying t=some (.slice e)∧P.underlying e=some (.int .u8)
 d:P.underlying d=some .string
 size:B.size=1
 enc:∀b,B.enc b=[bv b]
theorem StrT.flat {d:TypeId} {B:Cd UInt8} [h:StrT P t d B] (l:List UInt8):B.flat l=bvs l:=B.flat_single bv h.enc l
theorem run_st {d:TypeId} {B:Cd UInt8} {l:List UInt8} (hS:Sat E w L) [h:StrT P t d B] [hr:Rds B L s l] (hn:n=l.length):(oConv t d (.slice s.a n s.c)).run P w= .ok (.value (.string ⟨l.toArray⟩)) w:=by
 subst hn
 obtain⟨e,h1,h2⟩:=h.e
 have:=hS.rds (C:=B) (s:=s)
 rw[h.size,StrT.flat (P:=P) (t:=t) (d:=d)] at this
 exact run_str h1 h2 h.d this
theorem pN_st {d:TypeId} {B:Cd UInt8} {l:List UInt8} (hS:Sat E w L) [h:StrT P t d B] [hr:Rds B L s l] (hn:n=l.length) (hk:K (.string ⟨l.toArray⟩) w):pN P (oConv t d (.slice s.a n s.c)) w K:=by
 rw[pN_def,run_st hS hn,rN_value];exact hk
theorem pL_st {d:TypeId} {B:Cd UInt8} {l:List UInt8} (hS:Sat E w L) [h:StrT P t d B] [hr:Rds B L s l] (hn:n=l.length) (hk:J (.string ⟨l.toArray⟩)):pL P (oConv t d (.slice s.a n s.c)) w J:=
 ⟨_,run_st hS hn,hk⟩
end
section
variable [Pan] {P:Program} {w:World} {K:Value→World→Prop}
theorem pN_fn {fn:Fn} {first cap:List Value} (hk:K (.func fn first.toArray cap.toArray) w):pN P (oFn fn first cap) w K:=by
 have:(oFn fn first cap).run P w= .ok (.value (.func fn first.toArray cap.toArray)) w:=run_oV_ok rfl
 rw[pN_def,this,rN_value];exact hk
theorem pN_callV {f:FuncId} {cap args:List Value} (hc:∀(args:Array Value) (w:World),(callFunc f args).run P w= .ok (.enter f args) w)
  (h:Calls P f (args++cap).toArray w (retP K)):pN P (oCallV (.func (.func f) [].toArray cap.toArray) args) w K:=by
 have:(oCallV (.func (.func f) [].toArray cap.toArray) args).run P w= .ok (.enter f (args++cap).toArray) w:=by
  have e:oCallV (.func (.func f) [].toArray cap.toArray) args=callFunc f ((#[]++args.toArray)++cap.toArray):=rfl
  rw[e,hc]
  simp
 rw[pN_def,this,rN_enter]
 exact h
end
section
variable [Pan] {P:Program} {w:World} {K:Value→World→Prop} {J:Value→Prop} {v:Value} {m:Sem Next}
theorem pN_v (h:∀K:Value→World→Prop,pN P m w K=K v w:=by
   intro K;simp(disch:=omega) only[go_sem,pN_min,pN_max,w_u32,w_u64,Option.isNone_some,Option.isNone_none];(try simp only[wrap_u32,wrap_u64]);rfl) (hk:K v w):pN P m w K:=by rw[h];exact hk
theorem pA_v (h:∀K:Value→Prop,pA P m K=K v:=by
   intro K;simp(disch:=omega) only[go_sem,pN_min,pN_max,w_u32,w_u64,Option.isNone_some,Option.isNone_none];(try simp only[wrap_u32,wrap_u64]);rfl) (hk:J v):pA P m J:=by rw[h];exact hk
theorem pL_v (h:∀K:Value→Prop,pL P m w K=K v:=by
   intro K;simp(disch:=omega) only[go_sem,pN_min,pN_max,w_u32,w_u64,Option.isNone_some,Option.isNone_none];(try simp only[wrap_u32,wrap_u64]);rfl) (hk:J v):pL P m w J:=by rw[h];exact hk
end
end
section
def wv (x:BitVec 32):Value:= .int .u32 (x.toNat:Int)
def lv (x:BitVec 64):Value:= .int .u64 (x.toNat:Int)
theorem ofInt_nat {n:Nat} (x:BitVec n):BitVec.ofInt n (x.toNat:Int)=x:=by
 rw[BitVec.ofInt_natCast,BitVec.ofNat_toNat,BitVec.setWidth_eq]
theorem w32_nat {m:Nat} (h:m<4294967296):IntKind.u32.wrap (m:Int)=(m:Int):=by rw[wrap_u32];omega
theorem w64_nat {m:Nat} (h:m<18446744073709551616):IntKind.u64.wrap (m:Int)=(m:Int):=by rw[wrap_u64];omega
theorem wv_bits (r:BitVec 32):Value.int .u32 (IntKind.u32.wrap (r.toNat:Int))=wv r:=by
 rw[w32_nat r.isLt];rfl
theorem lv_bits (r:BitVec 64):Value.int .u64 (IntKind.u64.wrap (r.toNat:Int))=lv r:=by
 rw[w64_nat r.isLt];rfl
theorem wv_of (m:Nat):Value.int .u32 (IntKind.u32.wrap (m:Int))=wv (BitVec.ofNat 32 m):=by
 rw[wrap_u32];unfold wv;rw[BitVec.toNat_ofNat,Int.natCast_emod];rfl
theorem lv_of (m:Nat):Value.int .u64 (IntKind.u64.wrap (m:Int))=lv (BitVec.ofNat 64 m):=by
 rw[wrap_u64];unfold lv;rw[BitVec.toNat_ofNat,Int.natCast_emod];rfl
section
variable [Pan] {P:Program} {w:World} {K:Value→World→Prop} {J:Value→Prop} {t:TypeId} {xo yo:Operand} {a b:BitVec 32} {c d:BitVec 64}
theorem run_xor (k:IntKind) (a b:Int):(oBin .xor t xo yo (.int k a) (.int k b)).run P w= .ok (.value (.int k (k.wrap (BitVec.ofInt k.bits a^^^BitVec.ofInt k.bits b).toNat))) w:=
 run_bin_of t xo yo (eqGuard_int t xo yo k a b .xor) (by simp[binOp,Op.intBits])
theorem run_andn (k:IntKind) (a b:Int):(oBin .andNot t xo yo (.int k a) (.int k b)).run P w= .ok (.value (.int k (k.wrap (BitVec.ofInt k.bits a&&& ~~~ BitVec.ofInt k.bits b).toNat))) w:=
 run_bin_of t xo yo (eqGuard_int t xo yo k a b .andNot) (by simp[binOp,Op.intBits])
theorem run_com (n:Int):(oUn .xor (.int .u32 n)).run P w= .ok (.value (.int .u32 (IntKind.u32.wrap (BitVec.ofInt 32 IntKind.u32.max^^^BitVec.ofInt 32 n).toNat))) w:=run_oV_ok rfl
theorem run_xor_w:(oBin .xor t xo yo (wv a) (wv b)).run P w= .ok (.value (wv (a^^^b))) w:=by
 unfold wv;rw[run_xor]
 show Result.ok (Next.value (.int .u32 (IntKind.u32.wrap (BitVec.ofInt 32 (a.toNat:Int)^^^BitVec.ofInt 32 (b.toNat:Int)).toNat))) w=_
 rw[ofInt_nat,ofInt_nat,wv_bits];rfl
theorem run_and_w:(oBin .and t xo yo (wv a) (wv b)).run P w= .ok (.value (wv (a&&& b))) w:=by
 unfold wv;rw[run_and]
 show Result.ok (Next.value (.int .u32 (IntKind.u32.wrap (BitVec.ofInt 32 (a.toNat:Int)&&& BitVec.ofInt 32 (b.toNat:Int)).toNat))) w=_
 rw[ofInt_nat,ofInt_nat,wv_bits];rfl
theorem run_or_w:(oBin .or t xo yo (wv a) (wv b)).run P w= .ok (.value (wv (a|||b))) w:=by
 unfold wv;rw[run_or]
 show Result.ok (Next.value (.int .u32 (IntKind.u32.wrap (BitVec.ofInt 32 (a.toNat:Int)|||BitVec.ofInt 32 (b.toNat:Int)).toNat))) w=_
 rw[ofInt_nat,ofInt_nat,wv_bits];rfl
theorem run_com_w:(oUn .xor (wv a)).run P w= .ok (.value (wv (~~~ a))) w:=by
 unfold wv;rw[run_com,ofInt_nat,wv_bits]
 have e:BitVec.ofInt 32 IntKind.u32.max=BitVec.allOnes 32:=by decide
 rw[e,BitVec.allOnes_xor];rfl
theorem run_add_w:(oBin .add t xo yo (wv a) (wv b)).run P w= .ok (.value (wv (a+b))) w:=by
 unfold wv;rw[run_add]
 have e:((a.toNat:Int)+(b.toNat:Int))=((a.toNat+b.toNat:Nat):Int):=by norm_cast
 rw[e,wv_of,BitVec.ofNat_add,BitVec.ofNat_toNat,BitVec.ofNat_toNat,BitVec.setWidth_eq,BitVec.setWidth_eq];rfl
theorem run_shl_w {k':IntKind} (n:Nat) (i:Int) (hi:i=(n:Int)) (hn:n≤32):(oBin .shl t xo yo (wv a) (.int k' i)).run P w= .ok (.value (wv (a<<<n))) w:=by
 subst hi
 unfold wv;rw[run_shl (h:=by omega),Int.toNat_natCast,show IntKind.u32.bits=32 from rfl,Nat.min_eq_left hn]
 have e:((a.toNat:Int)*2^n)=((a.toNat*2^n:Nat):Int):=by norm_cast
 rw[e,wv_of]
 have e2:BitVec.ofNat 32 (a.toNat*2^n)=a<<<n:=by
  apply BitVec.eq_of_toNat_eq
  rw[BitVec.toNat_ofNat,BitVec.toNat_shiftLeft,Nat.shiftLeft_eq]
 rw[e2];rfl
theorem run_shr_w {k':IntKind} (n:Nat) (i:Int) (hi:i=(n:Int)) (hn:n≤32):(oBin .shr t xo yo (wv a) (.int k' i)).run P w= .ok (.value (wv (a>>>n))) w:=by
 subst hi
 unfold wv;rw[run_shr (h:=by omega),Int.toNat_natCast,show IntKind.u32.bits=32 from rfl,Nat.min_eq_left hn,Int.fdiv_eq_ediv_of_nonneg _ (Int.pow_nonneg (by omega))]
 have e:((a.toNat:Int) / 2^n)=((a>>>n).toNat:Int):=by
  rw[BitVec.toNat_ushiftRight,Nat.shiftRight_eq_div_pow];norm_cast
 rw[e]
theorem run_xor_l:(oBin .xor t xo yo (lv c) (lv d)).run P w= .ok (.value (lv (c^^^d))) w:=by
 unfold lv;rw[run_xor]
 show Result.ok (Next.value (.int .u64 (IntKind.u64.wrap (BitVec.ofInt 64 (c.toNat:Int)^^^BitVec.ofInt 64 (d.toNat:Int)).toNat))) w=_
 rw[ofInt_nat,ofInt_nat,lv_bits];rfl
theorem run_add_l:(oBin .add t xo yo (lv c) (lv d)).run P w= .ok (.value (lv (c+d))) w:=by
 unfold lv;rw[run_add]
 have e:((c.toNat:Int)+(d.toNat:Int))=((c.toNat+d.toNat:Nat):Int):=by norm_cast
 rw[e,lv_of,BitVec.ofNat_add,BitVec.ofNat_toNat,BitVec.ofNat_toNat,BitVec.setWidth_eq,BitVec.setWidth_eq];rfl
theorem run_mul_l:(oBin .mul t xo yo (lv c) (lv d)).run P w= .ok (.value (lv (c*d))) w:=by
 unfold lv;rw[run_mul]
 have e:((c.toNat:Int)*(d.toNat:Int))=((c.toNat*d.toNat:Nat):Int):=by norm_cast
 rw[e,lv_of,BitVec.ofNat_mul,BitVec.ofNat_toNat,BitVec.ofNat_toNat,BitVec.setWidth_eq,BitVec.setWidth_eq];rfl
theorem run_shl_l {k':IntKind} (n:Nat) (i:Int) (hi:i=(n:Int)) (hn:n≤64):(oBin .shl t xo yo (lv c) (.int k' i)).run P w= .ok (.value (lv (c<<<n))) w:=by
 subst hi
 unfold lv;rw[run_shl (h:=by omega),Int.toNat_natCast,show IntKind.u64.bits=64 from rfl,Nat.min_eq_left hn]
 have e:((c.toNat:Int)*2^n)=((c.toNat*2^n:Nat):Int):=by norm_cast
 rw[e,lv_of]
 have e2:BitVec.ofNat 64 (c.toNat*2^n)=c<<<n:=by
  apply BitVec.eq_of_toNat_eq
  rw[BitVec.toNat_ofNat,BitVec.toNat_shiftLeft,Nat.shiftLeft_eq]
 rw[e2];rfl
theorem run_shr_l {k':IntKind} (n:Nat) (i:Int) (hi:i=(n:Int)) (hn:n≤64):(oBin .shr t xo yo (lv c) (.int k' i)).run P w= .ok (.value (lv (c>>>n))) w:=by
 subst hi
 unfold lv;rw[run_shr (h:=by omega),Int.toNat_natCast,show IntKind.u64.bits=64 from rfl,Nat.min_eq_left hn,Int.fdiv_eq_ediv_of_nonneg _ (Int.pow_nonneg (by omega))]
 have e:((c.toNat:Int) / 2^n)=((c>>>n).toNat:Int):=by
  rw[BitVec.toNat_ushiftRight,Nat.shiftRight_eq_div_pow];norm_cast
 rw[e]
theorem pN_of {m:Sem Next} {v:Value} (h:m.run P w= .ok (.value v) w) (hk:K v w):pN P m w K:=by rw[pN_def,h,rN_value];exact hk
theorem pA_of {m:Sem Next} {v:Value} (h:∀w,m.run P w= .ok (.value v) w) (hk:J v):pA P m J:=by
 rw[pA_def,show(fun w=>m.run P w)=fun w=> .ok (.value v) w from funext fun w=>h w,rA_value];exact hk
theorem pN_xor_w (hk:K (wv (a^^^b)) w):pN P (oBin .xor t xo yo (wv a) (wv b)) w K:=pN_of run_xor_w hk
theorem pA_xor_w (hk:J (wv (a^^^b))):pA P (oBin .xor t xo yo (wv a) (wv b)) J:=pA_of (fun _=>run_xor_w) hk
theorem pN_and_w (hk:K (wv (a&&& b)) w):pN P (oBin .and t xo yo (wv a) (wv b)) w K:=pN_of run_and_w hk
theorem pA_and_w (hk:J (wv (a&&& b))):pA P (oBin .and t xo yo (wv a) (wv b)) J:=pA_of (fun _=>run_and_w) hk
theorem pN_or_w (hk:K (wv (a|||b)) w):pN P (oBin .or t xo yo (wv a) (wv b)) w K:=pN_of run_or_w hk
theorem pA_or_w (hk:J (wv (a|||b))):pA P (oBin .or t xo yo (wv a) (wv b)) J:=pA_of (fun _=>run_or_w) hk
theorem pN_add_w (hk:K (wv (a+b)) w):pN P (oBin .add t xo yo (wv a) (wv b)) w K:=pN_of run_add_w hk
theorem pA_add_w (hk:J (wv (a+b))):pA P (oBin .add t xo yo (wv a) (wv b)) J:=pA_of (fun _=>run_add_w) hk
theorem pA_com_w (hk:J (wv (~~~ a))):pA P (oUn .xor (wv a)) J:=pA_of (fun _=>run_com_w) hk
theorem pN_shl_w {k':IntKind} {i:Int} (n:Nat) (hi:i=(n:Int)) (hn:n≤32) (hk:K (wv (a<<<n)) w):pN P (oBin .shl t xo yo (wv a) (.int k' i)) w K:=pN_of (run_shl_w n i hi hn) hk
theorem pA_shl_w {k':IntKind} {i:Int} (n:Nat) (hi:i=(n:Int)) (hn:n≤32) (hk:J (wv (a<<<n))):pA P (oBin .shl t xo yo (wv a) (.int k' i)) J:=pA_of (fun _=>run_shl_w n i hi hn) hk
theorem pN_shr_w {k':IntKind} {i:Int} (n:Nat) (hi:i=(n:Int)) (hn:n≤32) (hk:K (wv (a>>>n)) w):pN P (oBin .shr t xo yo (wv a) (.int k' i)) w K:=pN_of (run_shr_w n i hi hn) hk
theorem pN_xor_v (hk:K (lv (c^^^d)) w):pN P (oBin .xor t xo yo (lv c) (lv d)) w K:=pN_of run_xor_l hk
theorem pN_add_v (hk:K (lv (c+d)) w):pN P (oBin .add t xo yo (lv c) (lv d)) w K:=pN_of run_add_l hk
theorem pA_add_v (hk:J (lv (c+d))):pA P (oBin .add t xo yo (lv c) (lv d)) J:=pA_of (fun _=>run_add_l) hk
theorem pN_mul_v (hk:K (lv (c*d)) w):pN P (oBin .mul t xo yo (lv c) (lv d)) w K:=pN_of run_mul_l hk
theorem pA_shl_v {k':IntKind} {i:Int} (n:Nat) (hi:i=(n:Int)) (hn:n≤64) (hk:J (lv (c<<<n))):pA P (oBin .shl t xo yo (lv c) (.int k' i)) J:=pA_of (fun _=>run_shl_l n i hi hn) hk
theorem pN_shr_v {k':IntKind} {i:Int} (n:Nat) (hi:i=(n:Int)) (hn:n≤64) (hk:K (lv (c>>>n)) w):pN P (oBin .shr t xo yo (lv c) (.int k' i)) w K:=pN_of (run_shr_l n i hi hn) hk
theorem pA_shr_v {k':IntKind} {i:Int} (n:Nat) (hi:i=(n:Int)) (hn:n≤64) (hk:J (lv (c>>>n))):pA P (oBin .shr t xo yo (lv c) (.int k' i)) J:=pA_of (fun _=>run_shr_l n i hi hn) hk
end
structure I32 where
 l:List UInt8
 h:l.length=32
theorem I32.ext {a b:I32} (h:a.l=b.l):a=b:=by cases a;cases b;simp only at h;subst h;rfl
instance:DecidableEq I32:=fun a b=>if h:a.l=b.l then isTrue (I32.ext h) else isFalse fun e=>h (congrArg I32.l e)
end
section
namespace H
abbrev W:=BitVec 32
def rot (x:W) (n:Nat):W:=x<<<n|||x>>>(32-n)
def nth (l:List W) (i:Nat):W:=l.getD i 0
def by_ (l:List UInt8) (i:Nat):W:=BitVec.ofNat 32 (l.getD i 0).toNat
def word (blk:List UInt8) (w:List W) (t:Nat):W:=
 if t<16 then by_ blk (4*t)<<<24|||by_ blk (4*t+1)<<<16|||by_ blk (4*t+2)<<<8|||by_ blk (4*t+3)
 else(rot (nth w (t-2)) 15^^^rot (nth w (t-2)) 13^^^nth w (t-2)>>>10)+nth w (t-7)+(rot (nth w (t-15)) 25^^^rot (nth w (t-15)) 14^^^nth w (t-15)>>>3)+nth w (t-16)
def words (blk:List UInt8):Nat→List W
 |0=>List.replicate 64 0
 |t+1=>(words blk t).set t (word blk (words blk t) t)
def consts:List W:=[
 0x428a2f98,0x71374491,0xb5c0fbcf,0xe9b5dba5,0x3956c25b,0x59f111f1,0x923f82a4,0xab1c5ed5,
 0xd807aa98,0x12835b01,0x243185be,0x550c7dc3,0x72be5d74,0x80deb1fe,0x9bdc06a7,0xc19bf174,
 0xe49b69c1,0xefbe4786,0x0fc19dc6,0x240ca1cc,0x2de92c6f,0x4a7484aa,0x5cb0a9dc,0x76f988da,
 0x983e5152,0xa831c66d,0xb00327c8,0xbf597fc7,0xc6e00bf3,0xd5a79147,0x06ca6351,0x14292967,
 0x27b70a85,0x2e1b2138,0x4d2c6dfc,0x53380d13,0x650a7354,0x766a0abb,0x81c2c92e,0x92722c85,
 0xa2bfe8a1,0xa81a664b,0xc24b8b70,0xc76c51a3,0xd192e819,0xd6990624,0xf40e3585,0x106aa070,
 0x19a4c116,0x1e376c08,0x2748774c,0x34b0bcb5,0x391c0cb3,0x4ed8aa4a,0x5b9cca4f,0x682e6ff3,
 0x748f82ee,0x78a5636f,0x84c87814,0x8cc70208,0x90befffa,0xa4506ceb,0xbef9a3f7,0xc67178f2]
def first:List W:=[0x6a09e667,0xbb67ae85,0x3c6ef372,0xa54ff53a,0x510e527f,0x9b05688c,0x1f83d9ab,0x5be0cd19]
def round (s:List W) (k x:W):List W:=
 let a:=nth s 0;let b:=nth s 1;let c:=nth s 2;let e:=nth s 4;let f:=nth s 5;let g:=nth s 6
 let one:=nth s 7+(rot e 26^^^rot e 21^^^rot e 7)+(e&&& f^^^ ~~~e&&& g)+k+x
 let two:=(rot a 30^^^rot a 19^^^rot a 10)+(a&&& b^^^a&&& c^^^b&&& c)
 [one+two,a,b,c,nth s 3+one,e,f,g]
def rounds (s:List W) (w:List W):Nat→List W
 |0=>s
 |t+1=>round (rounds s w t) (nth consts t) (nth w t)
def added (s o:List W):Nat→List W
 |0=>s
 |i+1=>(added s o i).set i (nth (added s o i) i+nth o i)
def step (s:List W) (blk:List UInt8):List W:=added (rounds s (words blk 64) 64) s 8
structure T where
 st:List W
 blk:List UInt8
 n:Nat
def T.new:T:=⟨first,List.replicate 64 0,0⟩
def T.put (h:T) (c:UInt8):T:=
 let b:=h.blk.set (h.n%64) c
 if h.n%64=63 then⟨step h.st b,b,h.n+1⟩ else⟨h.st,b,h.n+1⟩
def T.write (h:T) (l:List UInt8):T:=l.foldl T.put h
def bes (x:Nat):Nat→List UInt8
 |0=>[]
 |k+1=>byteOf ((x / 256^k:Nat):Int)::bes x k
def pad (n:Nat):List UInt8:=128::(List.replicate ((119-n%64)%64) 0++bes (n*8%18446744073709551616) 8)
def outs (l:List W):List UInt8:=(l.map fun w=>bes w.toNat 4).flatten
def T.sum (h:T):List UInt8:=outs (h.write (pad h.n)).st
def raw (b:List UInt8):List UInt8:=(T.new.write b).sum
theorem words_s (blk:List UInt8) (t:Nat):words blk (t+1)=(words blk t).set t (word blk (words blk t) t):=rfl
theorem word_lo {blk:List UInt8} {w:List W} {t:Nat} (h:t<16):word blk w t=by_ blk (4*t)<<<24|||by_ blk (4*t+1)<<<16|||by_ blk (4*t+2)<<<8|||by_ blk (4*t+3):=if_pos h
theorem word_hi {blk:List UInt8} {w:List W} {t:Nat} (h:¬t<16):word blk w t=(rot (nth w (t-2)) 15^^^rot (nth w (t-2)) 13^^^nth w (t-2)>>>10)+nth w (t-7)+(rot (nth w (t-15)) 25^^^rot (nth w (t-15)) 14^^^nth w (t-15)>>>3)+nth w (t-16):=if_neg h
theorem round_eq (s:List W) (k x:W):round s k x=[nth s 7+(rot (nth s 4) 26^^^rot (nth s 4) 21^^^rot (nth s 4) 7)+(nth s 4&&& nth s 5^^^ ~~~nth s 4&&& nth s 6)+k+x+((rot (nth s 0) 30^^^rot (nth s 0) 19^^^rot (nth s 0) 10)+(nth s 0&&& nth s 1^^^nth s 0&&& nth s 2^^^nth s 1&&& nth s 2)),nth s 0,nth s 1,nth s 2,
  nth s 3+(nth s 7+(rot (nth s 4) 26^^^rot (nth s 4) 21^^^rot (nth s 4) 7)+(nth s 4&&& nth s 5^^^ ~~~nth s 4&&& nth s 6)+k+x),nth s 4,nth s 5,nth s 6]:=rfl
theorem rounds_0 (s w:List W):rounds s w 0=s:=rfl
theorem added_0 (s o:List W):added s o 0=s:=rfl
theorem rounds_s (s w:List W) (t:Nat):rounds s w (t+1)=round (rounds s w t) (nth consts t) (nth w t):=rfl
theorem added_s (s o:List W) (i:Nat):added s o (i+1)=(added s o i).set i (nth (added s o i) i+nth o i):=rfl
theorem words_len (blk:List UInt8):∀t,(words blk t).length=64
 |0=>rfl
 |t+1=>by rw[words,List.length_set,words_len]
theorem rounds_len {s w:List W} (h:s.length=8):∀t,(rounds s w t).length=8
 |0=>h
 |t+1=>rfl
theorem added_len {s o:List W}:∀i,(added s o i).length=s.length
 |0=>rfl
 |i+1=>by rw[added,List.length_set,added_len]
theorem step_len {s:List W} (h:s.length=8) (blk:List UInt8):(step s blk).length=8:=by rw[step,added_len,rounds_len h]
theorem bes_len (x:Nat):∀k,(bes x k).length=k
 |0=>rfl
 |k+1=>by rw[bes,List.length_cons,bes_len]
theorem put_ok {h:T} (c:UInt8) (h1:h.st.length=8) (h2:h.blk.length=64):(h.put c).st.length=8∧(h.put c).blk.length=64∧(h.put c).n=h.n+1:=by
 unfold T.put
 dsimp only
 split
 ·exact⟨step_len h1 _,by rw[List.length_set,h2],rfl⟩
 ·exact⟨h1,by rw[List.length_set,h2],rfl⟩
theorem write_ok:∀(l:List UInt8) {h:T},h.st.length=8→h.blk.length=64→(h.write l).st.length=8∧(h.write l).blk.length=64∧(h.write l).n=h.n+l.length
 | [],h,h1,h2=>⟨h1,h2,rfl⟩
 |c::l,h,h1,h2=>by
  obtain⟨p1,p2,p3⟩:=put_ok c h1 h2
  have hh:=write_ok l (h:=h.put c) p1 p2
  show((h.put c).write l).st.length=8∧((h.put c).write l).blk.length=64∧((h.put c).write l).n=h.n+(l.length+1)
  exact⟨hh.1,hh.2.1,by rw[hh.2.2,p3];omega⟩
theorem write_app (h:T) (l m:List UInt8):h.write (l++m)=(h.write l).write m:=List.foldl_append ..
theorem write_nil (h:T):h.write []=h:=rfl
theorem write_one (h:T) (c:UInt8):h.write (some c).toList=h.put c:=rfl
theorem put_63 {h:T} (e:h.n%64=63) (c:UInt8):h.put c=⟨step h.st (h.blk.set 63 c),h.blk.set 63 c,h.n+1⟩:=by unfold T.put;rw[e,if_pos rfl]
theorem put_lo {h:T} (e:¬h.n%64=63) (c:UInt8):h.put c=⟨h.st,h.blk.set (h.n%64) c,h.n+1⟩:=by unfold T.put;rw[if_neg e]
theorem outs_len:∀l:List W,(outs l).length=4*l.length
 | []=>rfl
 |w::l=>by
  have h:=outs_len l
  unfold outs at h ⊢
  rw[List.map_cons,List.flatten_cons,List.length_append,h,bes_len,List.length_cons];omega
theorem new_st:T.new.st.length=8:=rfl
theorem new_blk:T.new.blk.length=64:=by unfold T.new;rw[List.length_replicate]
theorem raw_len (b:List UInt8):(raw b).length=32:=by
 obtain⟨h1,h2,_⟩:=write_ok b new_st new_blk
 unfold raw T.sum
 rw[outs_len,(write_ok _ h1 h2).1]
theorem bes_get:∀(k x i:Nat),i<k→(bes x k)[i]? =some (byteOf ((x / 256^(k-1-i):Nat):Int))
 |0,_,_,h=>by omega
 |k+1,x,0,_=>rfl
 |k+1,x,i+1,h=>by
  rw[bes,List.getElem?_cons_succ,bes_get k x i (by omega)]
  congr 5;omega
def sofar (A l:List UInt8) (k:Nat):List UInt8:=A++(l.take k++List.replicate (l.length-k) 0)
theorem sofar_len (A l:List UInt8) {k:Nat} (h:k≤l.length):(sofar A l k).length=A.length+l.length:=by
 simp only[sofar,List.length_append,List.length_take,List.length_replicate];omega
theorem sofar_all (A l:List UInt8):sofar A l l.length=A++l:=by
 rw[sofar,List.take_length,Nat.sub_self,List.replicate_zero,List.append_nil]
theorem sofar_set (A:List UInt8) {l:List UInt8} {k:Nat} {x:UInt8} (h:l[k]? =some x):(sofar A l k).set (A.length+k) x=sofar A l (k+1):=by
 have hk:=(List.getElem?_eq_some_iff.1 h).1
 have e:List.replicate (l.length-k) (0:UInt8)=0::List.replicate (l.length-(k+1)) 0:=by rw[←List.replicate_succ];congr 1;omega
 have e2:k=(l.take k).length:=by rw[List.length_take];omega
 rw[sofar,sofar,List.set_append_right _ _ (by omega),Nat.add_sub_cancel_left,e,List.take_add_one,h]
 conv=>lhs;rw[List.set_append_right _ _ (by omega),←e2,Nat.sub_self]
 simp
theorem pad_eq (n:Nat):pad n=(128::List.replicate ((119-n%64)%64) 0)++bes (n*8%18446744073709551616) 8:=rfl
theorem outs_get:∀(l:List W) (i k:Nat),k<4→i<l.length→(outs l)[4*i+k]? =some (byteOf (((nth l i).toNat / 256^(3-k):Nat):Int))
 | [],i,k,_,h=>by cases h
 |w::l,0,k,hk,_=>by
  have e:outs (w::l)=bes w.toNat 4++outs l:=by unfold outs;rw[List.map_cons,List.flatten_cons]
  rw[e,Nat.mul_zero,Nat.zero_add,List.getElem?_append_left (by rw[bes_len];omega),bes_get 4 _ k hk]
  rfl
 |w::l,i+1,k,hk,h=>by
  have e:outs (w::l)=bes w.toNat 4++outs l:=by unfold outs;rw[List.map_cons,List.flatten_cons]
  rw[e,List.getElem?_append_right (by rw[bes_len];omega),bes_len,show 4*(i+1)+k-4=4*i+k by omega,outs_get l i k hk (by simpa using h)]
  rfl
def sum (b:List UInt8):I32:=⟨raw b,raw_len b⟩
theorem Tsum_len {h:T} (h8:h.st.length=8):h.sum.length=32:=by
 unfold T.sum
 have:(h.write (pad h.n)).st.length=8:=by
  have:∀(l:List UInt8) (h:T),h.st.length=8→(h.write l).st.length=8:=by
   intro l
   induction l with
   |nil=>intro h hh;exact hh
   |cons c l ih=>
    intro h hh
    refine ih (h.put c) ?_
    unfold T.put
    dsimp only
    split
    ·exact step_len hh _
    ·exact hh
  exact this _ _ h8
 rw[outs_len,this]
end H
end
section
namespace C
structure K where
 least:Int
 most:Int
 bits:Int
def K.legal (k:K):Prop:=64≤k.least∧k.least≤k.most∧k.most≤1048576∧0≤k.bits∧k.bits≤20
instance (k:K):Decidable k.legal:=by unfold K.legal;infer_instance
abbrev W:=BitVec 64
def gear (b:UInt8):W:=
 let x:W:=(BitVec.ofNat 64 b.toNat+1#64)*11400714819323198485#64
 let y:W:=(x^^^x>>>30)*13787848793156543929#64
 let z:W:=(y^^^y>>>27)*10723151780598845931#64
 z^^^z>>>31
def roll (s:W) (x:UInt8):W:=s<<<1+gear x
def over (k:K) (s:W) (n:Nat):Bool:=decide (k.least≤(n:Int))&&(decide ((n:Int)=k.most)||decide (s>>>(64-k.bits.toNat)=0#64))
theorem over_eq (k:K) (s:W) (n:Nat):over k s n=(decide (k.least≤(n:Int))&&(decide ((n:Int)=k.most)||decide (s>>>(64-k.bits.toNat)=0#64))):=rfl
def eat (k:K) (s:W) (n:Nat):List UInt8→Nat×Bool
 | []=>(0,false)
 |x::r=>if over k (roll s x) (n+1) then(1,true) else((eat k (roll s x) (n+1) r).1+1,(eat k (roll s x) (n+1) r).2)
theorem eat_le (k:K):∀(l:List UInt8) (s:W) (n:Nat),(eat k s n l).1≤l.length
 | [],_,_=>Nat.le_refl _
 |x::r,s,n=>by
  rw[eat]
  split
  ·simp
  ·have:=eat_le k r (roll s x) (n+1)
   simp only[List.length_cons];omega
theorem eat_pos (k:K) {l:List UInt8} (h:l≠[]) (s:W) (n:Nat):0<(eat k s n l).1:=by
 cases l with
 |nil=>exact absurd rfl h
 |cons x r=>rw[eat];split<;>simp
theorem eat_all (k:K):∀(l:List UInt8) (s:W) (n:Nat),(eat k s n l).2=false→(eat k s n l).1=l.length
 | [],_,_,_=>rfl
 |x::r,s,n,h=>by
  rw[eat] at h ⊢
  split at h
  ·cases h
  ·rename_i h0
   rw[if_neg h0,List.length_cons]
   have:=eat_all k r _ _ h
   simp only[this]
def far (k:K) (s:W) (n:Nat):List UInt8→Option (W×Nat)
 | []=>some (s,n)
 |x::r=>if over k (roll s x) (n+1) then none else far k (roll s x) (n+1) r
def fst (k:K) (b:List UInt8):Nat:=(eat k 0 0 b).1
def pieces (k:K) (b:List UInt8):List (List UInt8):=
 if h:b=[] then [] else b.take (fst k b)::pieces k (b.drop (fst k b))
termination_by b.length
decreasing_by
 have h1:=eat_pos k h 0 0
 have h2:0<b.length:=List.length_pos_iff.2 h
 simp only[List.length_drop,fst]
 omega
theorem pieces_nil (k:K):pieces k []=[]:=by rw[pieces,dif_pos rfl]
theorem pieces_cons (k:K) {b:List UInt8} (h:b≠[]):pieces k b=b.take (fst k b)::pieces k (b.drop (fst k b)):=by rw[pieces,dif_neg h]
theorem fst_eq (k:K) (b:List UInt8):fst k b=(eat k 0 0 b).1:=rfl
theorem fst_le (k:K) (b:List UInt8):fst k b≤b.length:=eat_le k b 0 0
theorem fst_pos (k:K) {b:List UInt8} (h:b≠[]):0<fst k b:=eat_pos k h 0 0
theorem pieces_len (k:K) (b:List UInt8):(pieces k b).length≤b.length:=by
 by_cases h:b=[]
 ·subst h;rw[pieces_nil];exact Nat.le_refl _
 ·have h1:=fst_pos k h
  have h2:0<b.length:=List.length_pos_iff.2 h
  have h3:=pieces_len k (b.drop (fst k b))
  rw[pieces_cons k h,List.length_cons]
  rw[List.length_drop] at h3
  omega
termination_by b.length
decreasing_by
 simp only[List.length_drop]
 omega
def ends (at_:Nat):List (List UInt8)→List Nat
 | []=>[]
 |p::r=>(at_+p.length)::ends (at_+p.length) r
theorem ends_len:∀(l:List (List UInt8)) (a:Nat),(ends a l).length=l.length
 | [],_=>rfl
 |p::r,a=>by rw[ends,List.length_cons,ends_len,List.length_cons]
def nsize (v:Nat):Nat:=
 if v<128 then 1 else if v<16384 then 2 else if v<2097152 then 3 else if v<268435456 then 4 else if v<34359738368 then 5
 else if v<4398046511104 then 6 else if v<562949953421312 then 7 else if v<72057594037927936 then 8 else if v<9223372036854775808 then 9 else 0
def more (v:Nat):Nat→List UInt8
 |0=>[]
 |n+1=>byteOf ((v%128+128:Nat):Int)::more (v / 128) n
def put (v:Nat):List UInt8:=more v (nsize v-1)++[byteOf ((v / 128^(nsize v-1):Nat):Int)]
theorem more_len:∀(n v:Nat),(more v n).length=n
 |0,_=>rfl
 |n+1,v=>by rw[more,List.length_cons,more_len]
theorem nsize_pos {v:Nat} (h:v<9223372036854775808):1≤nsize v∧nsize v≤9:=by unfold nsize;repeat' split<;>first|omega|skip
theorem put_len (v:Nat):(put v).length=nsize v-1+1:=by rw[put,List.length_append,more_len];rfl
end C
end
section
namespace C
def get (v i:Nat):List UInt8→Nat×Nat×Int
 | []=>(0,0,1)
 |c::r=>if c.toNat<128 then(if c.toNat=0∧0<i then(0,0,2) else(v+c.toNat*128^i,i+1,0))
  else if i=8 then(0,0,2) else get (v+(c.toNat-128)*128^i) (i+1) r
theorem get_c0 {v i:Nat} {c:UInt8} {r:List UInt8} (h:c.toNat<128) (hz:c.toNat=0∧0<i):get v i (c::r)=(0,0,2):=by rw[get,if_pos h,if_pos hz]
theorem get_c {v i:Nat} {c:UInt8} {r:List UInt8} (h:c.toNat<128) (hz:¬(c.toNat=0∧0<i)):get v i (c::r)=(v+c.toNat*128^i,i+1,0):=by rw[get,if_pos h,if_neg hz]
theorem get_m8 {v i:Nat} {c:UInt8} {r:List UInt8} (h:¬c.toNat<128) (hi:i=8):get v i (c::r)=(0,0,2):=by rw[get,if_neg h,if_pos hi]
theorem get_m {v i:Nat} {c:UInt8} {r:List UInt8} (h:¬c.toNat<128) (hi:i≠8):get v i (c::r)=get (v+(c.toNat-128)*128^i) (i+1) r:=by rw[get,if_neg h,if_neg hi]
theorem get_nil (v i:Nat):get v i []=(0,0,1):=rfl
theorem byteOf_lt {n:Nat} (h:n<256):(byteOf (n:Int)).toNat=n:=by
 have:=byteOf_toNat (n:Int)
 omega
theorem nsize_bound {v:Nat} (h:v<9223372036854775808):v<128^nsize v∧(1<nsize v→128^(nsize v-1)≤v):=by
 unfold nsize
 repeat' split
 all_goals first|omega|(refine⟨?_,fun _=>?_⟩<;>simp only[Nat.reducePow,Nat.reduceSub]<;>omega)
theorem get_at:∀(b:List UInt8) (a i:Nat),(get a i b).2.2=0→(get a i b).2.1≤i+b.length∧i<(get a i b).2.1
 | [],a,i,h=>by simp[get] at h
 |c::r,a,i,h=>by
  rw[get] at h ⊢
  split
  ·rename_i h1
   rw[if_pos h1] at h
   split
   ·rename_i h2;rw[if_pos h2] at h;cases h
   ·simp only[List.length_cons];omega
  ·rename_i h1
   rw[if_neg h1] at h
   split
   ·rename_i h2;rw[if_pos h2] at h;cases h
   ·rename_i h2
    rw[if_neg h2] at h
    have:=get_at r _ _ h
    simp only[List.length_cons];omega
theorem get_lt:∀(b:List UInt8) (a i:Nat),a<128^i→i≤8→(get a i b).1<9223372036854775808
 | [],a,i,ha,hi=>by simp[get]
 |c::r,a,i,ha,hi=>by
  have hc:c.toNat<256:=c.toNat_lt
  have hp:128^(i+1)≤128^9:=Nat.pow_le_pow_right (by omega) (by omega)
  have e9:(128:Nat)^9=9223372036854775808:=rfl
  rw[get]
  split
  ·split
   ·simp
   ·rename_i h1 _
    have:c.toNat*128^i≤127*128^i:=Nat.mul_le_mul_right _ (by omega)
    rw[Nat.pow_succ] at hp
    show a+c.toNat*128^i<_
    omega
  ·split
   ·simp
   ·refine get_lt r _ _ ?_ (by omega)
    have:(c.toNat-128)*128^i≤127*128^i:=Nat.mul_le_mul_right _ (by omega)
    rw[Nat.pow_succ]
    omega
end C
namespace L
structure En where
 kind:Int
 mode:Int
 time:Int
 name:List UInt8
 link:List UInt8
 sums:List I32
def flat (l:List I32):List UInt8:=(l.map (·.l)).flatten
def text (s:List UInt8):List UInt8:=C.put s.length++s
def tail (e:En):List UInt8:=if e.kind=0 then C.put e.sums.length++flat e.sums else if e.kind=2 then text e.link else []
def row (e:En):List UInt8:=byteOf e.kind::(C.put e.mode.toNat++(C.put e.time.toNat++(text e.name++tail e)))
def rows (l:List En):List UInt8:=(l.map row).flatten
def list (l:List En):List UInt8:=C.put l.length++rows l
def number (b:List UInt8):Option (Nat×List UInt8):=if (C.get 0 0 b).2.2=0 then some ((C.get 0 0 b).1,b.drop (C.get 0 0 b).2.1) else none
def take (n:Nat) (b:List UInt8):Option (List UInt8×List UInt8):=if n≤b.length then some (b.take n,b.drop n) else none
def rtext (b:List UInt8):Option (List UInt8×List UInt8):=match number b with
 |some (n,r)=>take n r
 |none=>none
def rsums:Nat→List UInt8→Option (List I32×List UInt8)
 |0,b=>some ([],b)
 |n+1,b=>if h:32≤b.length then(match rsums n (b.drop 32) with
   |some (l,q)=>some (⟨b.take 32,by rw[List.length_take];omega⟩::l,q)
   |none=>none)
  else none
def rtail (e:En) (b:List UInt8):Option (En×List UInt8):=
 if e.kind=0 then match number b with
  |some (n,r)=>(match rsums n r with
   |some (l,q)=>some ({ e with sums:=l },q)
   |none=>none)
  |none=>none
 else if e.kind=2 then match rtext b with
  |some (l,q)=>some ({ e with link:=l },q)
  |none=>none
 else some (e,b)
def rhead (b:List UInt8):Option (En×List UInt8):=match take 1 b with
 |some (k,b)=>(match number b with
  |some (m,b)=>(match number b with
   |some (t,b)=>(match rtext b with
    |some (n,b)=>some (⟨((k.headD 0).toNat:Int),m,t,n,[],[]⟩,b)
    |none=>none)
   |none=>none)
  |none=>none)
 |none=>none
def rrow (right:En→Bool) (b:List UInt8):Option (En×List UInt8):=match rhead b with
 |some (e,b)=>(match rtail e b with
  |some (e,b)=>if right e=true then some (e,b) else none
  |none=>none)
 |none=>none
def rrows (right:En→Bool):Nat→Option (List UInt8)→List UInt8→Option (List En×List UInt8)
 |0,_,b=>some ([],b)
 |n+1,last,b=>match rrow right b with
  |some (e,r)=>if (match last with|some x=>Op.bytesLess x e.name|none=>true)=true then(match rrows right n (some e.name) r with
   |some (l,q)=>some (e::l,q)
   |none=>none) else none
  |none=>none
def rlist (right:En→Bool) (b:List UInt8):Option (List En):=match number b with
 |some (n,b)=>(match rrows right n none b with
  |some (l,q)=>if q=[] then some l else none
  |none=>none)
 |none=>none
theorem take_app (x r:List UInt8):take x.length (x++r)=some (x,r):=by
 rw[take,if_pos (by simp),List.take_left,List.drop_left]
end L
end
section
namespace D
section
variable {κ β:Type} [DecidableEq κ]
def look:List (κ×β)→κ→Option β
 | [],_=>none
 |(a,v)::r,x=>if a=x then some v else look r x
def upd:List (κ×β)→κ→β→List (κ×β)
 | [],x,v=>[(x,v)]
 |(a,u)::r,x,v=>if a=x then(a,v)::r else(a,u)::upd r x v
def era:List (κ×β)→κ→List (κ×β)
 | [],_=>[]
 |(a,u)::r,x=>if a=x then r else(a,u)::era r x
theorem look_upd_same:∀(l:List (κ×β)) (x:κ) (v:β),look (upd l x v) x=some v
 | [],x,v=>by rw[upd,look,if_pos rfl]
 |(a,u)::r,x,v=>by
  rw[upd]
  split
  ·rename_i h;rw[look,if_pos h]
  ·rename_i h;rw[look,if_neg h,look_upd_same]
theorem look_upd_other:∀(l:List (κ×β)) (x y:κ) (v:β),x≠y→look (upd l x v) y=look l y
 | [],x,y,v,h=>by simp[upd,look,h]
 |(a,u)::r,x,y,v,h=>by
  rw[upd]
  split
  ·rename_i h1
   subst h1
   rw[look,if_neg h,look,if_neg h]
  ·rename_i h1
   rw[look,look]
   split
   ·rfl
   ·exact look_upd_other r x y v h
theorem look_none:∀{l:List (κ×β)} {x:κ},look l x=none↔∀p∈l,p.1≠x
 | [],x=>by simp[look]
 |(a,u)::r,x=>by
  rw[look]
  split
  ·rename_i h;simp[h]
  ·rename_i h
   rw[look_none]
   simp[h]
theorem look_mem:∀{l:List (κ×β)} {x:κ} {v:β},look l x=some v→(x,v)∈l
 | [],x,v,h=>by cases h
 |(a,u)::r,x,v,h=>by
  rw[look] at h
  split at h
  ·rename_i h1;cases h;subst h1;exact List.mem_cons_self
  ·exact List.mem_cons_of_mem _ (look_mem h)
theorem upd_new:∀{l:List (κ×β)} {x:κ} {v:β},look l x=none→upd l x v=l++[(x,v)]
 | [],x,v,_=>rfl
 |(a,u)::r,x,v,h=>by
  rw[look] at h
  split at h
  ·cases h
  ·rename_i h1
   rw[upd,if_neg h1,upd_new h];rfl
theorem look_app:∀(l m:List (κ×β)) (x:κ),look (l++m) x=(look l x).or (look m x)
 | [],m,x=>rfl
 |(a,u)::r,m,x=>by
  rw[List.cons_append,look,look]
  split
  ·rfl
  ·exact look_app r m x
end
abbrev B:=List UInt8
structure T where
 k:C.K
 ps:List (I32×B)
 ns:List (B×List I32)
def new (k:C.K):T:=⟨k,[],[]⟩
def T.has (d:T) (i:I32):Bool:=(look d.ps i).isSome
def T.put1 (d:T) (p:B):T:=if d.has (H.sum p)=true then d else { d with ps:=upd d.ps (H.sum p) p }
def T.puts (d:T) (l:List B):T:=l.foldl T.put1 d
def ids (k:C.K) (b:B):List I32:=(C.pieces k b).map H.sum
def T.put (d:T) (b:B):T:=d.puts (C.pieces d.k b)
def T.get (d:T):List I32→Option B
 | []=>some []
 |i::l=>match look d.ps i with
  |some p=>(match d.get l with
   |some q=>some (p++q)
   |none=>none)
  |none=>none
def T.set (d:T) (name:B) (l:List I32):T:={ d with ns:=if l=[] then era d.ns name else upd d.ns name l }
theorem put1_k (d:T) (p:B):(d.put1 p).k=d.k:=by unfold T.put1;split<;>rfl
theorem put1_ns (d:T) (p:B):(d.put1 p).ns=d.ns:=by unfold T.put1;split<;>rfl
theorem puts_k:∀(l:List B) (d:T),(d.puts l).k=d.k
 | [],_=>rfl
 |p::l,d=>by show((d.put1 p).puts l).k=d.k;rw[puts_k l,put1_k]
theorem puts_ns:∀(l:List B) (d:T),(d.puts l).ns=d.ns
 | [],_=>rfl
 |p::l,d=>by show((d.put1 p).puts l).ns=d.ns;rw[puts_ns l,put1_ns]
theorem puts_app (d:T) (l m:List B):d.puts (l++m)=(d.puts l).puts m:=List.foldl_append ..
theorem put_k (d:T) (b:B):(d.put b).k=d.k:=puts_k _ d
theorem put_ns (d:T) (b:B):(d.put b).ns=d.ns:=puts_ns _ d
theorem keep_put1 {d:T} {p v:B} {i:I32} (h:look d.ps i=some v):look (d.put1 p).ps i=some v:=by
 unfold T.put1
 split
 ·exact h
 ·rename_i h0
  have hn:look d.ps (H.sum p)=none:=by
   unfold T.has at h0
   cases e:look d.ps (H.sum p) with
   |none=>rfl
   |some v=>rw[e] at h0;exact absurd rfl h0
  show look (upd d.ps (H.sum p) p) i=_
  rw[upd_new hn,look_app,h];rfl
end D
end
section
namespace D
section
variable {κ β:Type} [DecidableEq κ]
theorem look_ins {A R:List (κ×β)} {k:κ} {v:β} (h:look (A++R) k=none) (j:κ):look (A++(k,v)::R) j=if k=j then some v else look (A++R) j:=by
 rw[look_app] at h ⊢
 rw[look_app,look]
 by_cases e:k=j
 ·subst e
  rw[if_pos rfl,if_pos rfl]
  cases h1:look A k with
  |none=>rfl
  |some u=>rw[h1] at h;cases h
 ·rw[if_neg e,if_neg e]
theorem upd_len:∀(l:List (κ×β)) (k:κ) (v:β),(upd l k v).length=if look l k=none then l.length+1 else l.length
 | [],k,v=>by rw[upd,look,if_pos rfl];rfl
 |(a,u)::r,k,v=>by
  rw[upd,look]
  by_cases e:a=k
  ·rw[if_pos e,if_pos e,if_neg (by simp)];rfl
  ·rw[if_neg e,if_neg e,List.length_cons,upd_len r k v]
   split<;>rfl
def besides (l:List (κ×β)) (k:κ):List (κ×β):=l.filter fun x=>decide (x.1≠k)
theorem besides_look:∀(l:List (κ×β)) (k j:κ),look (besides l k) j=if k=j then none else look l j
 | [],k,j=>by simp[besides,look]
 |(a,u)::r,k,j=>by
  have ih:=besides_look r k j
  unfold besides at ih ⊢
  rw[look]
  by_cases e:a=k
  ·subst e
   rw[List.filter_cons_of_neg (by simp),ih]
   split
   ·rfl
   ·rfl
  ·rw[List.filter_cons_of_pos (by simpa using e),look,ih]
   by_cases e2:a=j
   ·subst e2;rw[if_pos rfl,if_pos rfl,if_neg fun h=>e h.symm]
   ·rw[if_neg e2,if_neg e2]
theorem besides_len:∀(l:List (κ×β)) (k:κ),(besides l k).length≤if look l k=none then l.length else l.length-1
 | [],k=>by simp[besides]
 |(a,u)::r,k=>by
  have ih:=besides_len r k
  unfold besides at ih ⊢
  rw[look]
  by_cases e:a=k
  ·subst e
   rw[List.filter_cons_of_neg (by simp),if_pos rfl,if_neg (by simp),List.length_cons,Nat.add_sub_cancel]
   exact List.length_filter_le _ _
  ·rw[List.filter_cons_of_pos (by simpa using e),if_neg e,List.length_cons,List.length_cons]
   split
   ·rename_i h;rw[if_pos h] at ih;omega
   ·rename_i h
    rw[if_neg h] at ih
    have:r≠[]:=fun e=>h (by rw[e,look])
    have:=List.length_pos_iff.2 this
    omega
end
structure T.Like (e d:T):Prop where
 k:e.k=d.k
 ps:∀i,look e.ps i=look d.ps i
 ns:∀n,look e.ns n=look d.ns n
 pl:e.ps.length≤d.ps.length
 nl:e.ns.length≤d.ns.length
theorem Like.rfl (d:T):T.Like d d:=⟨_root_.rfl,fun _=>_root_.rfl,fun _=>_root_.rfl,Nat.le_refl _,Nat.le_refl _⟩
theorem Like.put1 {e d:T} (h:e.Like d) {A R:List (I32×B)} (ha:e.ps=A++R) {p:B} (hn:d.has (H.sum p)=false):T.Like { e with ps:=A++(H.sum p,p)::R } (d.put1 p):=by
 have hl:look d.ps (H.sum p)=none:=by
  unfold T.has at hn
  cases hx:look d.ps (H.sum p) with
  |none=>exact _root_.rfl
  |some v=>rw[hx] at hn;cases hn
 have hd:d.put1 p={ d with ps:=upd d.ps (H.sum p) p }:=by unfold T.put1;rw[hn];exact if_neg (by decide)
 have hea:look (A++R) (H.sum p)=none:=by rw[←ha,h.ps];exact hl
 have hpl:=h.pl
 rw[hd]
 refine⟨h.k,fun i=>?_,h.ns,?_,h.nl⟩
 ·show look (A++(H.sum p,p)::R) i=look (upd d.ps (H.sum p) p) i
  rw[look_ins hea]
  by_cases e1:H.sum p=i
  ·rw[if_pos e1,←e1,look_upd_same]
  ·rw[if_neg e1,look_upd_other _ _ _ _ e1,←ha,h.ps]
 ·show(A++(H.sum p,p)::R).length≤(upd d.ps (H.sum p) p).length
  rw[upd_new hl,List.length_append,List.length_append,List.length_cons]
  rw[ha,List.length_append] at hpl
  simp only[List.length_cons,List.length_nil]
  omega
theorem Like.set {e d:T} (h:e.Like d) {name:B} {l:List I32} (hl:l≠[]) {A R:List (B×List I32)} (ha:besides e.ns name=A++R):T.Like { e with ns:=A++(name,l)::R } (d.set name l):=by
 have hb:=besides_look e.ns name
 have hbl:=besides_len e.ns name
 have hnl:=h.nl
 rw[h.ns] at hbl
 rw[ha] at hb hbl
 unfold T.set
 rw[if_neg hl]
 have h0:look (A++R) name=none:=by rw[hb,if_pos _root_.rfl]
 refine⟨h.k,h.ps,fun n=>?_,h.pl,?_⟩
 ·show look (A++(name,l)::R) n=look (upd d.ns name l) n
  rw[look_ins h0]
  by_cases e1:name=n
  ·rw[if_pos e1,←e1,look_upd_same]
  ·rw[if_neg e1,look_upd_other _ _ _ _ e1,hb,if_neg e1,h.ns]
 ·show(A++(name,l)::R).length≤(upd d.ns name l).length
  rw[upd_len,List.length_append,List.length_cons]
  rw[List.length_append] at hbl
  split
  ·rename_i h1;rw[if_pos h1] at hbl;omega
  ·rename_i h1
   rw[if_neg h1] at hbl
   have:d.ns≠[]:=fun e=>h1 (by rw[e,look])
   have:=List.length_pos_iff.2 this
   omega
end D
end
section
section
variable {P:Program} {ops:Array Oper} {QS:Exit→Act→List Frame→World→Prop} {md:Region.Mode}
def recList:List Oper→Nat→Value→List Oper
 | [],_,_=>[]
 |o::l,0,v=>{ o with op:= .assign (.const v) }::l
 |o::l,n+1,v=>o::recList l n v
def recOps (ops:Array Oper) (r:Nat) (v:Value):Array Oper:=(recList ops.toList r v).toArray
structure RecAt (P:Program) (ops:Array Oper) (r:Nat):Prop where
 is:∃o,ops[r]? =some o∧(∀ρ w,(execOp ρ o).run P w= .ok .recover w)∧o.guard=none∧o.after=#[]
end
section
variable {P:Program} {H:Hints} {v:Value}
theorem wpS_mono {c:Code} {Q Q':Exit→Act→List Frame→World→Prop} {a:Act} {cs:List Frame} {w:World} (h:c.wpS P Q a cs w) (hq:∀e a cs w,Q e a cs w→Q' e a cs w):c.wpS P Q' a cs w:=
 fun b k hb hr=>let ⟨e,a',cs',w',q,r⟩:=h b k hb hr;⟨e,a',cs',w',hq _ _ _ _ q,r⟩
def recCode (rid r:Nat) (v:Value):Code→Code
 | .region id ops b=>match Nat.beq id rid with
  |true=> .region id (recOps ops r v) b
  |false=> .region id ops b
 | .seq x y=> .seq (recCode rid r v x) (recCode rid r v y)
 |c=>c
def recB (ops:Array Oper) (r:Nat):Bool:=
 match nthO ops.toList r with
 |some o=>match o.op,o.guard,o.after.toList with
  | .call { callee:= .builtin .recover,args:=a,.. },none,[]=>Nat.beq a.size 0
  |_,_,_=>false
 |none=>false
theorem recB_at {ops:Array Oper} {r:Nat} (h:recB ops r=true):RecAt P ops r:=by
 unfold recB at h
 rw[nthO_eq,Array.getElem?_toList] at h
 split at h
 ·rename_i o ho
  split at h
  ·rename_i a ats hop hg haft
   have ha:=Nat.eq_of_beq_eq_true h
   refine⟨o,ho,fun ρ w=>?_,hg,by simpa using haft⟩
   obtain⟨dst,op,type,pos,after,guard⟩:=o
   subst hop
   have ha2:a=#[]:=by simpa using ha
   subst ha2
   rfl
  ·cases h
 ·cases h
end
def pDf (P:Program) (m:Sem Next) (w:World) (K:Deferred→Prop):Prop:=∃d,m.run P w= .ok (.defer d) w∧K d
def dE (P:Program) (d:Deferred) (u:FrameMode) (w:World) (K:World→Prop):Prop:=
 ∃fv cap f args,d.target= .fn fv cap∧(invoke d.target d.args).run P w= .ok (.enter f args) w∧CallsD P f args u w fun e u' w'=>(∃v,e= .returned v)∧settle u'= .returning∧K w'
def rgD [Pan] (P:Program) (ops:Array Oper):List Oper→Env→World→(Deferred→Env→World→Prop)→Prop
 | [],_,_,_=>False
 | [o],ρ,w,K=>pDf P (execE ρ o) w fun d=>K d (ρ.put o.dst undef) w
 |o::rest,ρ,w,K=>opW P ops o ρ w fun v w'=>rgD P ops rest (ρ.put o.dst v) w' K
def isDf:List Oper→Bool
 | []=>false
 | [o]=>match o.op,o.guard with
  | .defer _,none=>true
  |_,_=>false
 |_::r=>isDf r
def cwZ (P:Program) (H:Hints) (rs:List ResultVar) (K:Value→World→Prop) (y:Code) (d:Deferred) (ρ:Env) (w:World):Prop:=
 ∃Z:Pan,(∀ch w',Z.z ch w'→dE P d (.panicking ch) w' fun w''=>resW P rs [] ρ w'' K)∧
  @cw Z P H y (fun e ρ' w'=>match e with
   | .normal=>dE P d .returning w' fun w''=>resW P rs [] ρ' w'' K
   | .ret=>dE P d .returning w' fun w''=>resW P rs [] ρ' w'' K
   |_=>False) ρ w
def cwD [Pan] (P:Program) (H:Hints) (rs:List ResultVar) (K:Value→World→Prop):Code→Env→World→Prop
 | .seq x y,ρ,w=>match x with
  | .region _ ops false=>match isDf ops.toList with
   |true=>rgD P ops ops.toList ρ w fun d ρ' w'=>cwZ P H rs K y d ρ' w'
   |false=>rgW P ops ops.toList ρ w fun ρ' w'=>cwD P H rs K y ρ' w'
  |x=>match (firstRg y).bind H.cut with
   |none=>cw P H x (thenE (fun ρ' w'=>cwD P H rs K y ρ' w') (endQ P rs K)) ρ w
   |some (live,mods)=>cutW (fun Q'=>cw P H x Q' ρ w) (fun ρ' w'=>cwD P H rs K y ρ' w') live mods (endQ P rs K) ρ
 |_,_,_=>False
def rsIn (lo:Nat):List ResultVar→Bool
 | []=>true
 | .tmp t::r=>Nat.blt t lo&&rsIn lo r
 | .cell a _::r=>Nat.blt a lo&&rsIn lo r
def servedD (H:Hints) (n lo:Nat):Code→Bool
 | .seq x y=>match x with
  | .region _ ops false=>((opWrites ops.toList).all fun t=>Nat.blt t n)&&match isDf ops.toList with
   |true=>served H ⟨n,lo,[],fun _=>undef⟩ y
   |false=>servedD H n lo y
  |x=>served H (Frm.new n) x&&servedD H n lo y&&(match (firstRg y).bind H.cut with
   |none=>true
   |some (_,mods)=>(writes x).all fun t=>mods.testBit t)
 |_=>false
theorem served_frm {H:Hints} {n m:Frm} (h1:n.n=m.n) (h2:n.lo=m.lo):∀c:Code,served H n c=served H m c:=by
 intro c
 induction c with
 |region id ops b=>cases b<;>simp only[served,h1,h2]
 |seq x y ihx ihy=>simp only[served,ihx,ihy]
 |cond c x y ihx ihy=>simp only[served,ihx,ihy]
 |block id c ih=>simp only[served,ih]
 |loop c ih=>simp only[served,ih]
 |_=>rfl
section
variable [Pan] {P:Program} {H:Hints}
theorem rgD_wp {n:Frm} {ops:Array Oper} (l:List Oper):∀{a:Act} {ρ:Env} {w:World} {K:Deferred→Env→World→Prop} {Q:Exit→Act→World→Prop},isDf l=true→
  (∀c a w,PZ n a c w→Q (.panic c) a w)→(∀t∈opWrites l,n.lo≤t∧t<n.n)→Fits n a ρ→rgD P ops l ρ w K→
  (∀d a' ρ' w',Fits { n with ds:=d::n.ds } a' ρ'→K d ρ' w'→Q .normal a' w')→wpList P ops Q l a w:=by
 induction l with
 |nil=>intro a ρ w K Q hd;cases hd
 |cons o rest ih=>
  intro a ρ w K Q hdf hQ hw hf h hK
  have hd:∀t,o.dst=some t→n.lo≤t∧t<n.n:=fun t ht=>hw t (by simp[opWrites,ht])
  cases rest with
  |nil=>
   obtain⟨d,hr,h⟩:=h
   have hg:o.guard=none:=by
    simp only[isDf] at hdf
    split at hdf
    ·assumption
    ·cases hdf
   refine wpList_plain hg fun K' hK'=>?_
   unfold Oper.wp
   rw[hf.eval,←execE_eq,hr]
   simp only[Oper.upon]
   refine hK' _ _ ?_
   refine hK d _ _ w ?_ h
   have hf2:=hf.put hd undef
   refine⟨by rw[←hf2.size];cases o.dst<;>rfl,?_,fun t=>?_,fun t ht=>hf2.low t ht⟩
   ·cases o.dst<;>simp[Act.put,hf.defers]
   ·rw[←hf2.get t]
    cases o.dst<;>rfl
  |cons o2 rest=>
   have hrest:∀t∈opWrites (o2::rest),n.lo≤t∧t<n.n:=fun t ht=>hw t (by
    rw[opWrites];split
    ·exact List.mem_cons_of_mem _ ht
    ·exact ht)
   have hgo:∀v w',rgD P ops (o2::rest) (ρ.put o.dst v) w' K→wpList P ops Q (o2::rest) (a.put o.dst v) w':=fun v w' hr=>
    ih (by simpa only[isDf] using hdf) hQ hrest (hf.put hd v) hr hK
   simp only[rgD] at h
   cases hg:o.guard with
   |none=>exact wpList_plain hg fun K' hK'=>pN_wp hf (fun c w h=>hQ c a w h) (opW_none hg h) fun v w' hr=>hK' _ _ (hgo v w' hr)
   |some g=>
    obtain⟨j,want⟩:=g
    simp only[opW,hg] at h
    refine wpList_step fun K' hK'=>?_
    simp only[Region.wanted,hg,hf.yielded ops]
    simp only[pGd] at h
    split
    ·rename_i hy
     rw[if_pos hy] at h
     exact pN_wp hf (fun c w h=>hQ c a w h) h fun v w' hr=>hK' _ _ (hgo v w' hr)
    ·rename_i hy
     rw[if_neg hy] at h
     exact hK' _ _ (hgo _ _ h)
theorem resW_congr {lo:Nat} {ρ ρ':Env} (hl:∀t,t<lo→ρ' t=ρ t) {w:World} {K:Value→World→Prop}:∀(rs:List ResultVar) (acc:List Value),rsIn lo rs=true→resW P rs acc ρ w K→resW P rs acc ρ' w K
 | [],acc,_,h=>h
 | .tmp t::r,acc,hr,h=>by
  simp only[rsIn,Bool.and_eq_true,Nat.blt_eq] at hr
  simp only[resW] at h ⊢
  rw[hl t hr.1]
  exact resW_congr hl r _ hr.2 h
 | .cell a t::r,acc,hr,h=>by
  simp only[rsIn,Bool.and_eq_true,Nat.blt_eq] at hr
  simp only[resW] at h ⊢
  rw[hl a hr.1]
  obtain⟨v,h1,h2⟩:=h
  exact⟨v,h1,resW_congr hl r _ hr.2 h2⟩
theorem leaves_end {fn:Func} {n:Frm} {a:Act} {ρ:Env} {w:World} {K:Value→World→Prop} (hf:Fits n a ρ) (h:resW P fn.results.toList [] ρ w K):Leaves P fn a.tmps (retP K) [] .returning w:=by
 obtain⟨vs,hr,hK⟩:=resW_run _ _ h
 exact⟨_,results_one hf fn w P vs hr,by simpa [retP] using hK⟩
theorem leaves_dE {fn:Func} {a:Act} {ρ:Env} {w:World} {K:Value→World→Prop} {u:FrameMode} (hu:u≠ .run) {d:Deferred} {lo:Nat} (hrs:rsIn lo fn.results.toList=true) (hl:∀t,t<lo→a.tmps.getD t undef=ρ t)
  (h:dE P d u w fun w''=>resW P fn.results.toList [] ρ w'' K):Leaves P fn a.tmps (retP K) [d] u w:=by
 obtain⟨fv,cap,f,args,ht,hi,h⟩:=h
 refine⟨hu,fv,cap,f,args,ht,hi,h.mono fun e u' w' he=>?_⟩
 obtain⟨⟨v,rfl⟩,hs,hK⟩:=he
 show Leaves P fn a.tmps (retP K) [] (settle u') w'
 rw[hs]
 have hf:Fits ⟨a.tmps.size,0,a.defers,fun _=>undef⟩ a (fun t=>a.tmps.getD t undef):=⟨rfl,rfl,fun _=>rfl,fun t ht=>absurd ht (Nat.not_lt_zero t)⟩
 exact leaves_end hf (resW_congr hl _ _ hrs hK)
omit [Pan] in
theorem cwZ_wp (hm:P.follows .mixedOrders=true) {fn:Func} {lo:Nat} {K:Value→World→Prop} {R:Ending→World→Prop} {y:Code} {d:Deferred} {ρ:Env} {a:Act} {w:World}
  (hL:∀(u:FrameMode) (a:Act) (ρ:Env) (w:World),u≠ .run→(∀t,t<lo→a.tmps.getD t undef=ρ t)→(dE P d u w fun w''=>resW P fn.results.toList [] ρ w'' K)→Leaves P fn a.tmps R [d] u w)
  (hs:served H ⟨fn.ntmps,lo,[],fun _=>undef⟩ y=true) (hf:Fits { Frm.new fn.ntmps with ds:=[d] } a ρ) (hz:cwZ P H fn.results.toList K y d ρ w):y.wp P (bodyPostD P fn R) a w:=by
 obtain⟨Z,hz1,hz2⟩:=hz
 have hfF:Fits ⟨fn.ntmps,lo,[d],ρ⟩ a ρ:=⟨hf.size,hf.defers,hf.get,fun _ _=>rfl⟩
 have s2:served H ⟨fn.ntmps,lo,[d],ρ⟩ y=true:=(served_frm (H:=H) (n:=⟨fn.ntmps,lo,[d],ρ⟩) (m:=⟨fn.ntmps,lo,[],fun _=>undef⟩) rfl rfl y).trans hs
 refine wp_mono (@cw_wp Z P hm H _ y _ _ _ _ s2 hfF hz2) fun e a'' w'' hq=>?_
 cases e with
 |panic c=>
  show Leaves P fn a''.tmps R a''.defers (.panicking c) w''
  rw[hq.defers]
  exact hL _ _ _ _ (by simp) hq.low (hz1 _ _ hq.z)
 |outgrown=>exact hq.elim
 |goto l=>exact hq.elim
 |exit id=>exact hq.2.choose_spec.2.elim
 |normal=>
  obtain⟨_,ρ2,hf2,hq⟩:=hq
  show Leaves P fn a''.tmps R a''.defers .returning w''
  rw[hf2.defers]
  exact hL _ _ _ _ (by simp) (fun t _=>hf2.get t) hq
 |ret=>
  obtain⟨_,ρ2,hf2,hq⟩:=hq
  show Leaves P fn a''.tmps R a''.defers .returning w''
  rw[hf2.defers]
  exact hL _ _ _ _ (by simp) (fun t _=>hf2.get t) hq
theorem cwD_wp (hm:P.follows .mixedOrders=true) {fn:Func} {lo:Nat} {K:Value→World→Prop} (hrs:rsIn lo fn.results.toList=true):∀(c:Code) {ρ:Env} {w:World} {a:Act},
  servedD H fn.ntmps lo c=true→Fits (Frm.new fn.ntmps) a ρ→cwD P H fn.results.toList K c ρ w→c.wp P (bodyPostD P fn (retP K)) a w:=by
 intro c
 induction c with
 |seq x y _ ihy=>
  intro ρ w a hs hf h
  refine wp_seq ?_
  have fin:∀{e:Exit} {a':Act} {w':World} {ws:List Nat} {Q:Env→World→Prop} (_: @UpQ _ (Frm.new fn.ntmps) a ws (thenE Q (endQ P fn.results.toList K)) e a' w') (_:e≠ .normal),bodyPostD P fn (retP K) e a' w':=by
   intro e a' w' ws Q hq hne
   cases e with
   |normal=>exact absurd rfl hne
   |panic c=>
    show Leaves P fn a'.tmps (retP K) a'.defers (.panicking c) w'
    rw[hq.defers]
    exact hq.z
   |outgrown=>exact hq.elim
   |goto l=>exact hq.elim
   |exit id=>exact hq.2.choose_spec.2.elim
   |ret=>
    obtain⟨_,ρ',hf',hq'⟩:=hq
    show Leaves P fn a'.tmps (retP K) a'.defers .returning w'
    rw[hf'.defers]
    exact leaves_end hf' hq'
  have pn:∀c a' w',PZ (Frm.new fn.ntmps) a' c w'→bodyPostD P fn (retP K) (.panic c) a' w':=fun c a' w' hq=>by
   show Leaves P fn a'.tmps (retP K) a'.defers (.panicking c) w'
   rw[hq.defers]
   exact hq.z
  have gen:served H (Frm.new fn.ntmps) x=true→servedD H fn.ntmps lo y=true→(match (firstRg y).bind H.cut with
    |none=>true
    |some (_,mods)=>(writes x).all fun t=>mods.testBit t)=true→(match (firstRg y).bind H.cut with
    |none=>cw P H x (thenE (fun ρ' w'=>cwD P H fn.results.toList K y ρ' w') (endQ P fn.results.toList K)) ρ w
    |some (live,mods)=>cutW (fun Q'=>cw P H x Q' ρ w) (fun ρ' w'=>cwD P H fn.results.toList K y ρ' w') live mods (endQ P fn.results.toList K) ρ)→
    x.wp P (Exit.then (y.wp P (bodyPostD P fn (retP K))) (bodyPostD P fn (retP K))) a w:=by
   intro s1 s2 s3 h
   split at h
   ·refine wp_mono (cw_wp hm x s1 hf h) fun e a' w' hq=>?_
    cases e with
    |normal=>
     obtain⟨_,ρ',hf',hq'⟩:=hq
     exact ihy s2 hf' hq'
    |panic c=>exact fin hq (by simp)
    |outgrown=>exact fin hq (by simp)
    |goto l=>exact fin hq (by simp)
    |exit id=>exact fin hq (by simp)
    |ret=>exact fin hq (by simp)
   ·rename_i live mods hcut
    rw[hcut] at s3
    simp only[List.all_eq_true] at s3
    have hmods:∀t,mods.testBit t=false→t∉writes x:=by
     intro t ht hm
     rw[s3 t hm] at ht;cases ht
    obtain⟨I,hx,hy⟩:=h
    refine wp_mono (cw_wp hm x s1 hf hx) fun e a' w' hq=>?_
    cases e with
    |normal=>
     obtain⟨hk,ρ',hf',hq'⟩:=hq
     have hy':=allV_get (hy ρ') (live.map ρ') (by simp) w' hq'
     have hme:mkE ρ mods ρ' live (live.map ρ')=ρ':=mkE_self ρ ρ' _ (fun t ht=>by rw[←hf'.get t,hk t (hmods t ht),hf.get t]) live
     dsimp only at hy'
     rw[hme] at hy'
     exact ihy s2 hf' hy'
    |panic c=>exact fin (Q:=fun ρ' w'=>apP live.length I (live.map ρ') w') hq (by simp)
    |outgrown=>exact fin (Q:=fun ρ' w'=>apP live.length I (live.map ρ') w') hq (by simp)
    |goto l=>exact fin (Q:=fun ρ' w'=>apP live.length I (live.map ρ') w') hq (by simp)
    |exit id=>exact fin (Q:=fun ρ' w'=>apP live.length I (live.map ρ') w') hq (by simp)
    |ret=>exact fin (Q:=fun ρ' w'=>apP live.length I (live.map ρ') w') hq (by simp)
  cases x with
  |region id ops b=>
   cases b with
   |false=>
    simp only[servedD,Bool.and_eq_true,List.all_eq_true] at hs
    simp only[cwD] at h
    have hlt:∀t∈opWrites ops.toList,(Frm.new fn.ntmps).lo≤t∧t<(Frm.new fn.ntmps).n:=fun t ht=>⟨Nat.zero_le _,by simpa [Nat.blt_eq] using hs.1 t ht⟩
    cases hdf:isDf ops.toList with
    |true=>
     rw[hdf] at h hs
     refine wp_region_list (rgD_wp ops.toList hdf (fun c a w h=>pn c a w h) hlt hf h fun d a' ρ' w' hf' hz=>?_)
     exact cwZ_wp hm (R:=retP K) (fun u a ρ w hu hl h=>leaves_dE hu hrs hl h) hs.2 hf' hz
    |false=>
     rw[hdf] at h hs
     refine wp_region_list (rgW_wp ops.toList (fun c a w h=>pn c a w h) hlt hf h fun a' ρ' w' _ hf' hq=>?_)
     exact ihy hs.2 hf' hq
   |true=>
    simp only[servedD,Bool.and_eq_true] at hs
    simp only[cwD] at h
    exact gen hs.1.1 hs.1.2 hs.2 h
  |_=>
   simp only[servedD,Bool.and_eq_true] at hs
   simp only[cwD] at h
   exact gen hs.1.1 hs.1.2 hs.2 h
 |_=>intro ρ w a hs;simp[servedD] at hs
theorem calls_of_cwD (hm:P.follows .mixedOrders=true) {f:FuncId} {fn:Func} {c:Code} {args:List Value} {w:World} {K:Value→World→Prop} (lo:Nat)
  (hfn:P.funcs[f]? =some fn) (hb:fn.body=some c) (hs:servedD H fn.ntmps lo c=true) (hrs:rsIn lo fn.results.toList=true) (ha:args.length≤fn.ntmps)
  (h:cwD P H fn.results.toList K c (argsE args) w):Calls P f args.toArray w (retP K):=
 calls_of_wp_defers hfn hb (cwD_wp hm hrs c hs (fits_new fn.ntmps args ha) h)
end
end
section
theorem mixed:zp.follows .mixedOrders=true:=by kernel_rfl
class CE (f:FuncId):Prop where
 e:∀(args:Array Value) (w:World),(callFunc f args).run zp w= .ok (.enter f args) w
theorem pcq [Pan] {w:World} {K:Value→World→Prop} {f:FuncId} [c:CE f] {args:List Value} (h:Calls zp f args.toArray w (retP K)):pN zp (oCall f args) w K:=by rw[pN_def,oCall,c.e,rN_enter];exact h
theorem cl [Pan] (H:Hints) {f:FuncId} {fn:Func} (args:List Value) (hfn:zp.funcs[f]? =some fn) {w:World} {K:Value→World→Prop} {F:Prop} (h:F)
  (hs:(match fn.body with|some c=>served H (Frm.new fn.ntmps) c&&Nat.ble args.length fn.ntmps|none=>false)=true:=by kernel_rfl)
  (he:cw zp H (match fn.body with|some c=>c|none=> .skip) (endQ zp fn.results.toList K) (argsE args) w=F:=by kernel_rfl):Calls zp f args.toArray w (retP K):=calls_lift mixed H args hfn hs he h
section
variable [Pan] {w:World} {K:Value→World→Prop} {J:Value→Prop}
theorem pN_conv_int_uint (k:IntKind) (n:Int):pN zp (oConv 3 97 (.int k n)) w K=K (.int .u64 (IntKind.wrap .u64 n)) w:=pN_conv k n Tryz.underlying3 Tryz.underlying97
theorem pN_conv_int_uint64 (k:IntKind) (n:Int):pN zp (oConv 3 212 (.int k n)) w K=K (.int .u64 (IntKind.wrap .u64 n)) w:=pN_conv k n Tryz.underlying3 Tryz.underlying212
theorem pN_conv_uint_int (k:IntKind) (n:Int):pN zp (oConv 97 3 (.int k n)) w K=K (.int .i64 (IntKind.wrap .i64 n)) w:=pN_conv k n Tryz.underlying97 Tryz.underlying3
theorem pN_conv_uint64_int (k:IntKind) (n:Int):pN zp (oConv 212 3 (.int k n)) w K=K (.int .i64 (IntKind.wrap .i64 n)) w:=pN_conv k n Tryz.underlying212 Tryz.underlying3
theorem pL_conv_uint64_int (k:IntKind) (n:Int):pL zp (oConv 212 3 (.int k n)) w J=J (.int .i64 (IntKind.wrap .i64 n)):=pL_conv k n Tryz.underlying212 Tryz.underlying3
theorem pN_len_sl_api_Item (ty:TypeId) (ao:Option Addr) (n c:Nat) (cs:List Bool):pN zp (oBi .len #[30] ty cs [.slice ao n c]) w K=K (.int .i64 n) w:=pN_len 30 ty ao n c cs Tryz.underlying30
theorem pA_len_sl_api_Item (ty:TypeId) (ao:Option Addr) (n c:Nat) (cs:List Bool):pA zp (oBi .len #[30] ty cs [.slice ao n c]) J=J (.int .i64 n):=pA_len 30 ty ao n c cs Tryz.underlying30
theorem pN_len_sl_int (ty:TypeId) (ao:Option Addr) (n c:Nat) (cs:List Bool):pN zp (oBi .len #[46] ty cs [.slice ao n c]) w K=K (.int .i64 n) w:=pN_len 46 ty ao n c cs Tryz.underlying46
theorem pN_len_sl_uint8 (ty:TypeId) (ao:Option Addr) (n c:Nat) (cs:List Bool):pN zp (oBi .len #[47] ty cs [.slice ao n c]) w K=K (.int .i64 n) w:=pN_len 47 ty ao n c cs Tryz.underlying47
theorem pA_len_sl_uint8 (ty:TypeId) (ao:Option Addr) (n c:Nat) (cs:List Bool):pA zp (oBi .len #[47] ty cs [.slice ao n c]) J=J (.int .i64 n):=pA_len 47 ty ao n c cs Tryz.underlying47
theorem pN_len_sl_api_ID (ty:TypeId) (ao:Option Addr) (n c:Nat) (cs:List Bool):pN zp (oBi .len #[52] ty cs [.slice ao n c]) w K=K (.int .i64 n) w:=pN_len 52 ty ao n c cs Tryz.underlying52
theorem pA_len_sl_api_ID (ty:TypeId) (ao:Option Addr) (n c:Nat) (cs:List Bool):pA zp (oBi .len #[52] ty cs [.slice ao n c]) J=J (.int .i64 n):=pA_len 52 ty ao n c cs Tryz.underlying52
theorem pN_len_sl_sl_uint8 (ty:TypeId) (ao:Option Addr) (n c:Nat) (cs:List Bool):pN zp (oBi .len #[71] ty cs [.slice ao n c]) w K=K (.int .i64 n) w:=pN_len 71 ty ao n c cs Tryz.underlying71
theorem pN_len_sl_string (ty:TypeId) (ao:Option Addr) (n c:Nat) (cs:List Bool):pN zp (oBi .len #[72] ty cs [.slice ao n c]) w K=K (.int .i64 n) w:=pN_len 72 ty ao n c cs Tryz.underlying72
theorem pA_len_sl_string (ty:TypeId) (ao:Option Addr) (n c:Nat) (cs:List Bool):pA zp (oBi .len #[72] ty cs [.slice ao n c]) J=J (.int .i64 n):=pA_len 72 ty ao n c cs Tryz.underlying72
theorem pN_len_sl_pithlaw37_Snap (ty:TypeId) (ao:Option Addr) (n c:Nat) (cs:List Bool):pN zp (oBi .len #[82] ty cs [.slice ao n c]) w K=K (.int .i64 n) w:=pN_len 82 ty ao n c cs Tryz.underlying82
theorem pN_len_sl_api_Trouble (ty:TypeId) (ao:Option Addr) (n c:Nat) (cs:List Bool):pN zp (oBi .len #[90] ty cs [.slice ao n c]) w K=K (.int .i64 n) w:=pN_len 90 ty ao n c cs Tryz.underlying90
theorem pA_len_sl_api_Trouble (ty:TypeId) (ao:Option Addr) (n c:Nat) (cs:List Bool):pA zp (oBi .len #[90] ty cs [.slice ao n c]) J=J (.int .i64 n):=pA_len 90 ty ao n c cs Tryz.underlying90
theorem pN_len_sl_snap_entry (ty:TypeId) (ao:Option Addr) (n c:Nat) (cs:List Bool):pN zp (oBi .len #[116] ty cs [.slice ao n c]) w K=K (.int .i64 n) w:=pN_len 116 ty ao n c cs Tryz.underlying116
theorem pA_len_sl_snap_entry (ty:TypeId) (ao:Option Addr) (n c:Nat) (cs:List Bool):pA zp (oBi .len #[116] ty cs [.slice ao n c]) J=J (.int .i64 n):=pA_len 116 ty ao n c cs Tryz.underlying116
theorem pN_len_sl_pithref35_Piece (ty:TypeId) (ao:Option Addr) (n c:Nat) (cs:List Bool):pN zp (oBi .len #[186] ty cs [.slice ao n c]) w K=K (.int .i64 n) w:=pN_len 186 ty ao n c cs Tryz.underlying186
theorem pA_len_sl_pithref35_Piece (ty:TypeId) (ao:Option Addr) (n c:Nat) (cs:List Bool):pA zp (oBi .len #[186] ty cs [.slice ao n c]) J=J (.int .i64 n):=pA_len 186 ty ao n c cs Tryz.underlying186
theorem pN_len_sl_pithref35_Named (ty:TypeId) (ao:Option Addr) (n c:Nat) (cs:List Bool):pN zp (oBi .len #[187] ty cs [.slice ao n c]) w K=K (.int .i64 n) w:=pN_len 187 ty ao n c cs Tryz.underlying187
theorem pN_len_sl_pithref36_Row (ty:TypeId) (ao:Option Addr) (n c:Nat) (cs:List Bool):pN zp (oBi .len #[192] ty cs [.slice ao n c]) w K=K (.int .i64 n) w:=pN_len 192 ty ao n c cs Tryz.underlying192
theorem pA_len_sl_pithref36_Row (ty:TypeId) (ao:Option Addr) (n c:Nat) (cs:List Bool):pA zp (oBi .len #[192] ty cs [.slice ao n c]) J=J (.int .i64 n):=pA_len 192 ty ao n c cs Tryz.underlying192
theorem pN_len_sl_tar_field (ty:TypeId) (ao:Option Addr) (n c:Nat) (cs:List Bool):pN zp (oBi .len #[206] ty cs [.slice ao n c]) w K=K (.int .i64 n) w:=pN_len 206 ty ao n c cs Tryz.underlying206
theorem pN_eql_p_depot_Depot (xo yo:Operand) (p:Option Addr):pN zp (oBin .eql 31 xo yo (.pointer p) (.pointer none)) w K=K (.bool (p.isNone)) w:=pN_eql_ptr 31 xo yo p Tryz.underlying31
theorem pN_neqb_bool (xo yo:Operand) (p q:Bool):pN zp (oBin .neq 4 xo yo (.bool p) (.bool q)) w K=K (.bool (p != q)) w:=pN_neq_bool 4 xo yo p q Tryz.underlying4
theorem pA_neqb_bool (xo yo:Operand) (p q:Bool):pA zp (oBin .neq 4 xo yo (.bool p) (.bool q)) J=J (.bool (p != q)):=pA_neq_bool 4 xo yo p q Tryz.underlying4
theorem run_fld_api_Props_LC (b o:Nat) (w:World):(oFld 23 (.pointer (some ⟨b,o,none⟩)) 0).run zp w= .ok (.value (.pointer (some ⟨b,o,none⟩))) w:=by kernel_rfl
theorem pN_fld_api_Props_LC (b o:Nat):pN zp (oFld 23 (.pointer (some ⟨b,o,none⟩)) 0) w K=K (.pointer (some ⟨b,o,none⟩)) w:=by rw[pN_def,run_fld_api_Props_LC,rN_value]
theorem run_fld_api_Props_LP (b o:Nat) (w:World):(oFld 23 (.pointer (some ⟨b,o,none⟩)) 1).run zp w= .ok (.value (.pointer (some ⟨b,o+1,none⟩))) w:=by kernel_rfl
theorem pN_fld_api_Props_LP (b o:Nat):pN zp (oFld 23 (.pointer (some ⟨b,o,none⟩)) 1) w K=K (.pointer (some ⟨b,o+1,none⟩)) w:=by rw[pN_def,run_fld_api_Props_LP,rN_value]
theorem run_fld_api_Props_PB (b o:Nat) (w:World):(oFld 23 (.pointer (some ⟨b,o,none⟩)) 2).run zp w= .ok (.value (.pointer (some ⟨b,o+2,none⟩))) w:=by kernel_rfl
theorem pN_fld_api_Props_PB (b o:Nat):pN zp (oFld 23 (.pointer (some ⟨b,o,none⟩)) 2) w K=K (.pointer (some ⟨b,o+2,none⟩)) w:=by rw[pN_def,run_fld_api_Props_PB,rN_value]
theorem run_fld_api_Config_Check (b o:Nat) (w:World):(oFld 25 (.pointer (some ⟨b,o,none⟩)) 0).run zp w= .ok (.value (.pointer (some ⟨b,o,none⟩))) w:=by kernel_rfl
theorem pN_fld_api_Config_Check (b o:Nat):pN zp (oFld 25 (.pointer (some ⟨b,o,none⟩)) 0) w K=K (.pointer (some ⟨b,o,none⟩)) w:=by rw[pN_def,run_fld_api_Config_Check,rN_value]
theorem run_fld_api_Config_Delta (b o:Nat) (w:World):(oFld 25 (.pointer (some ⟨b,o,none⟩)) 1).run zp w= .ok (.value (.pointer (some ⟨b,o+1,none⟩))) w:=by kernel_rfl
theorem pN_fld_api_Config_Delta (b o:Nat):pN zp (oFld 25 (.pointer (some ⟨b,o,none⟩)) 1) w K=K (.pointer (some ⟨b,o+1,none⟩)) w:=by rw[pN_def,run_fld_api_Config_Delta,rN_value]
theorem run_fld_api_Config_Props (b o:Nat) (w:World):(oFld 25 (.pointer (some ⟨b,o,none⟩)) 2).run zp w= .ok (.value (.pointer (some ⟨b,o+2,none⟩))) w:=by kernel_rfl
theorem pN_fld_api_Config_Props (b o:Nat):pN zp (oFld 25 (.pointer (some ⟨b,o,none⟩)) 2) w K=K (.pointer (some ⟨b,o+2,none⟩)) w:=by rw[pN_def,run_fld_api_Config_Props,rN_value]
theorem run_fld_api_Config_Dict (b o:Nat) (w:World):(oFld 25 (.pointer (some ⟨b,o,none⟩)) 3).run zp w= .ok (.value (.pointer (some ⟨b,o+5,none⟩))) w:=by kernel_rfl
theorem pN_fld_api_Config_Dict (b o:Nat):pN zp (oFld 25 (.pointer (some ⟨b,o,none⟩)) 3) w K=K (.pointer (some ⟨b,o+5,none⟩)) w:=by rw[pN_def,run_fld_api_Config_Dict,rN_value]
theorem run_fld_api_Config_Block (b o:Nat) (w:World):(oFld 25 (.pointer (some ⟨b,o,none⟩)) 4).run zp w= .ok (.value (.pointer (some ⟨b,o+6,none⟩))) w:=by kernel_rfl
theorem pN_fld_api_Config_Block (b o:Nat):pN zp (oFld 25 (.pointer (some ⟨b,o,none⟩)) 4) w K=K (.pointer (some ⟨b,o+6,none⟩)) w:=by rw[pN_def,run_fld_api_Config_Block,rN_value]
theorem run_fld_api_Config_Mode (b o:Nat) (w:World):(oFld 25 (.pointer (some ⟨b,o,none⟩)) 5).run zp w= .ok (.value (.pointer (some ⟨b,o+7,none⟩))) w:=by kernel_rfl
theorem pN_fld_api_Config_Mode (b o:Nat):pN zp (oFld 25 (.pointer (some ⟨b,o,none⟩)) 5) w K=K (.pointer (some ⟨b,o+7,none⟩)) w:=by rw[pN_def,run_fld_api_Config_Mode,rN_value]
theorem run_fld_api_Cuts_Least (b o:Nat) (w:World):(oFld 27 (.pointer (some ⟨b,o,none⟩)) 0).run zp w= .ok (.value (.pointer (some ⟨b,o,none⟩))) w:=by kernel_rfl
theorem pN_fld_api_Cuts_Least (b o:Nat):pN zp (oFld 27 (.pointer (some ⟨b,o,none⟩)) 0) w K=K (.pointer (some ⟨b,o,none⟩)) w:=by rw[pN_def,run_fld_api_Cuts_Least,rN_value]
theorem pA_fld_api_Cuts_Least (b o:Nat):pA zp (oFld 27 (.pointer (some ⟨b,o,none⟩)) 0) J=J (.pointer (some ⟨b,o,none⟩)):=by rw[pA_def,funext (run_fld_api_Cuts_Least b o),rA_value]
theorem run_fld_api_Cuts_Most (b o:Nat) (w:World):(oFld 27 (.pointer (some ⟨b,o,none⟩)) 1).run zp w= .ok (.value (.pointer (some ⟨b,o+1,none⟩))) w:=by kernel_rfl
theorem pN_fld_api_Cuts_Most (b o:Nat):pN zp (oFld 27 (.pointer (some ⟨b,o,none⟩)) 1) w K=K (.pointer (some ⟨b,o+1,none⟩)) w:=by rw[pN_def,run_fld_api_Cuts_Most,rN_value]
theorem pA_fld_api_Cuts_Most (b o:Nat):pA zp (oFld 27 (.pointer (some ⟨b,o,none⟩)) 1) J=J (.pointer (some ⟨b,o+1,none⟩)):=by rw[pA_def,funext (run_fld_api_Cuts_Most b o),rA_value]
theorem run_fld_api_Cuts_Bits (b o:Nat) (w:World):(oFld 27 (.pointer (some ⟨b,o,none⟩)) 2).run zp w= .ok (.value (.pointer (some ⟨b,o+2,none⟩))) w:=by kernel_rfl
theorem pN_fld_api_Cuts_Bits (b o:Nat):pN zp (oFld 27 (.pointer (some ⟨b,o,none⟩)) 2) w K=K (.pointer (some ⟨b,o+2,none⟩)) w:=by rw[pN_def,run_fld_api_Cuts_Bits,rN_value]
theorem pA_fld_api_Cuts_Bits (b o:Nat):pA zp (oFld 27 (.pointer (some ⟨b,o,none⟩)) 2) J=J (.pointer (some ⟨b,o+2,none⟩)):=by rw[pA_def,funext (run_fld_api_Cuts_Bits b o),rA_value]
theorem run_fld_api_Item_Name (b o:Nat) (w:World):(oFld 49 (.pointer (some ⟨b,o,none⟩)) 0).run zp w= .ok (.value (.pointer (some ⟨b,o,none⟩))) w:=by kernel_rfl
theorem pN_fld_api_Item_Name (b o:Nat):pN zp (oFld 49 (.pointer (some ⟨b,o,none⟩)) 0) w K=K (.pointer (some ⟨b,o,none⟩)) w:=by rw[pN_def,run_fld_api_Item_Name,rN_value]
theorem pA_fld_api_Item_Name (b o:Nat):pA zp (oFld 49 (.pointer (some ⟨b,o,none⟩)) 0) J=J (.pointer (some ⟨b,o,none⟩)):=by rw[pA_def,funext (run_fld_api_Item_Name b o),rA_value]
theorem run_fld_api_Item_Link (b o:Nat) (w:World):(oFld 49 (.pointer (some ⟨b,o,none⟩)) 1).run zp w= .ok (.value (.pointer (some ⟨b,o+1,none⟩))) w:=by kernel_rfl
theorem pN_fld_api_Item_Link (b o:Nat):pN zp (oFld 49 (.pointer (some ⟨b,o,none⟩)) 1) w K=K (.pointer (some ⟨b,o+1,none⟩)) w:=by rw[pN_def,run_fld_api_Item_Link,rN_value]
theorem run_fld_api_Item_Kind (b o:Nat) (w:World):(oFld 49 (.pointer (some ⟨b,o,none⟩)) 2).run zp w= .ok (.value (.pointer (some ⟨b,o+2,none⟩))) w:=by kernel_rfl
theorem pN_fld_api_Item_Kind (b o:Nat):pN zp (oFld 49 (.pointer (some ⟨b,o,none⟩)) 2) w K=K (.pointer (some ⟨b,o+2,none⟩)) w:=by rw[pN_def,run_fld_api_Item_Kind,rN_value]
theorem run_fld_api_Item_Mode (b o:Nat) (w:World):(oFld 49 (.pointer (some ⟨b,o,none⟩)) 3).run zp w= .ok (.value (.pointer (some ⟨b,o+3,none⟩))) w:=by kernel_rfl
theorem pN_fld_api_Item_Mode (b o:Nat):pN zp (oFld 49 (.pointer (some ⟨b,o,none⟩)) 3) w K=K (.pointer (some ⟨b,o+3,none⟩)) w:=by rw[pN_def,run_fld_api_Item_Mode,rN_value]
theorem pA_fld_api_Item_Mode (b o:Nat):pA zp (oFld 49 (.pointer (some ⟨b,o,none⟩)) 3) J=J (.pointer (some ⟨b,o+3,none⟩)):=by rw[pA_def,funext (run_fld_api_Item_Mode b o),rA_value]
theorem run_fld_api_Item_Time (b o:Nat) (w:World):(oFld 49 (.pointer (some ⟨b,o,none⟩)) 4).run zp w= .ok (.value (.pointer (some ⟨b,o+4,none⟩))) w:=by kernel_rfl
theorem pN_fld_api_Item_Time (b o:Nat):pN zp (oFld 49 (.pointer (some ⟨b,o,none⟩)) 4) w K=K (.pointer (some ⟨b,o+4,none⟩)) w:=by rw[pN_def,run_fld_api_Item_Time,rN_value]
theorem pA_fld_api_Item_Time (b o:Nat):pA zp (oFld 49 (.pointer (some ⟨b,o,none⟩)) 4) J=J (.pointer (some ⟨b,o+4,none⟩)):=by rw[pA_def,funext (run_fld_api_Item_Time b o),rA_value]
theorem run_fld_api_Item_Data (b o:Nat) (w:World):(oFld 49 (.pointer (some ⟨b,o,none⟩)) 5).run zp w= .ok (.value (.pointer (some ⟨b,o+5,none⟩))) w:=by kernel_rfl
theorem pN_fld_api_Item_Data (b o:Nat):pN zp (oFld 49 (.pointer (some ⟨b,o,none⟩)) 5) w K=K (.pointer (some ⟨b,o+5,none⟩)) w:=by rw[pN_def,run_fld_api_Item_Data,rN_value]
theorem pA_fld_api_Item_Data (b o:Nat):pA zp (oFld 49 (.pointer (some ⟨b,o,none⟩)) 5) J=J (.pointer (some ⟨b,o+5,none⟩)):=by rw[pA_def,funext (run_fld_api_Item_Data b o),rA_value]
theorem run_fld_snap_entry_Item (b o:Nat) (w:World):(oFld 118 (.pointer (some ⟨b,o,none⟩)) 0).run zp w= .ok (.value (.pointer (some ⟨b,o,none⟩))) w:=by kernel_rfl
theorem pN_fld_snap_entry_Item (b o:Nat):pN zp (oFld 118 (.pointer (some ⟨b,o,none⟩)) 0) w K=K (.pointer (some ⟨b,o,none⟩)) w:=by rw[pN_def,run_fld_snap_entry_Item,rN_value]
theorem pA_fld_snap_entry_Item (b o:Nat):pA zp (oFld 118 (.pointer (some ⟨b,o,none⟩)) 0) J=J (.pointer (some ⟨b,o,none⟩)):=by rw[pA_def,funext (run_fld_snap_entry_Item b o),rA_value]
theorem run_fld_snap_entry_sums (b o:Nat) (w:World):(oFld 118 (.pointer (some ⟨b,o,none⟩)) 1).run zp w= .ok (.value (.pointer (some ⟨b,o+6,none⟩))) w:=by kernel_rfl
theorem pN_fld_snap_entry_sums (b o:Nat):pN zp (oFld 118 (.pointer (some ⟨b,o,none⟩)) 1) w K=K (.pointer (some ⟨b,o+6,none⟩)) w:=by rw[pN_def,run_fld_snap_entry_sums,rN_value]
theorem pA_fld_snap_entry_sums (b o:Nat):pA zp (oFld 118 (.pointer (some ⟨b,o,none⟩)) 1) J=J (.pointer (some ⟨b,o+6,none⟩)):=by rw[pA_def,funext (run_fld_snap_entry_sums b o),rA_value]
theorem run_fld_depot_Depot_k (b o:Nat) (w:World):(oFld 129 (.pointer (some ⟨b,o,none⟩)) 1).run zp w= .ok (.value (.pointer (some ⟨b,o+8,none⟩))) w:=by kernel_rfl
theorem pN_fld_depot_Depot_k (b o:Nat):pN zp (oFld 129 (.pointer (some ⟨b,o,none⟩)) 1) w K=K (.pointer (some ⟨b,o+8,none⟩)) w:=by rw[pN_def,run_fld_depot_Depot_k,rN_value]
theorem run_fld_depot_Depot_pieces (b o:Nat) (w:World):(oFld 129 (.pointer (some ⟨b,o,none⟩)) 2).run zp w= .ok (.value (.pointer (some ⟨b,o+11,none⟩))) w:=by kernel_rfl
theorem pN_fld_depot_Depot_pieces (b o:Nat):pN zp (oFld 129 (.pointer (some ⟨b,o,none⟩)) 2) w K=K (.pointer (some ⟨b,o+11,none⟩)) w:=by rw[pN_def,run_fld_depot_Depot_pieces,rN_value]
theorem pA_fld_depot_Depot_pieces (b o:Nat):pA zp (oFld 129 (.pointer (some ⟨b,o,none⟩)) 2) J=J (.pointer (some ⟨b,o+11,none⟩)):=by rw[pA_def,funext (run_fld_depot_Depot_pieces b o),rA_value]
theorem run_fld_depot_Depot_names (b o:Nat) (w:World):(oFld 129 (.pointer (some ⟨b,o,none⟩)) 3).run zp w= .ok (.value (.pointer (some ⟨b,o+12,none⟩))) w:=by kernel_rfl
theorem pN_fld_depot_Depot_names (b o:Nat):pN zp (oFld 129 (.pointer (some ⟨b,o,none⟩)) 3) w K=K (.pointer (some ⟨b,o+12,none⟩)) w:=by rw[pN_def,run_fld_depot_Depot_names,rN_value]
theorem pA_fld_depot_Depot_names (b o:Nat):pA zp (oFld 129 (.pointer (some ⟨b,o,none⟩)) 3) J=J (.pointer (some ⟨b,o+12,none⟩)):=by rw[pA_def,funext (run_fld_depot_Depot_names b o),rA_value]
theorem run_fld_tar_head_Item (b o:Nat) (w:World):(oFld 165 (.pointer (some ⟨b,o,none⟩)) 0).run zp w= .ok (.value (.pointer (some ⟨b,o,none⟩))) w:=by kernel_rfl
theorem pN_fld_tar_head_Item (b o:Nat):pN zp (oFld 165 (.pointer (some ⟨b,o,none⟩)) 0) w K=K (.pointer (some ⟨b,o,none⟩)) w:=by rw[pN_def,run_fld_tar_head_Item,rN_value]
theorem run_fld_tar_head_size (b o:Nat) (w:World):(oFld 165 (.pointer (some ⟨b,o,none⟩)) 1).run zp w= .ok (.value (.pointer (some ⟨b,o+6,none⟩))) w:=by kernel_rfl
theorem pN_fld_tar_head_size (b o:Nat):pN zp (oFld 165 (.pointer (some ⟨b,o,none⟩)) 1) w K=K (.pointer (some ⟨b,o+6,none⟩)) w:=by rw[pN_def,run_fld_tar_head_size,rN_value]
theorem run_fld_pithref35_Depot_K (b o:Nat) (w:World):(oFld 189 (.pointer (some ⟨b,o,none⟩)) 1).run zp w= .ok (.value (.pointer (some ⟨b,o+8,none⟩))) w:=by kernel_rfl
theorem pN_fld_pithref35_Depot_K (b o:Nat):pN zp (oFld 189 (.pointer (some ⟨b,o,none⟩)) 1) w K=K (.pointer (some ⟨b,o+8,none⟩)) w:=by rw[pN_def,run_fld_pithref35_Depot_K,rN_value]
theorem run_fld_pithref35_Depot_Pieces (b o:Nat) (w:World):(oFld 189 (.pointer (some ⟨b,o,none⟩)) 2).run zp w= .ok (.value (.pointer (some ⟨b,o+11,none⟩))) w:=by kernel_rfl
theorem pN_fld_pithref35_Depot_Pieces (b o:Nat):pN zp (oFld 189 (.pointer (some ⟨b,o,none⟩)) 2) w K=K (.pointer (some ⟨b,o+11,none⟩)) w:=by rw[pN_def,run_fld_pithref35_Depot_Pieces,rN_value]
theorem pA_fld_pithref35_Depot_Pieces (b o:Nat):pA zp (oFld 189 (.pointer (some ⟨b,o,none⟩)) 2) J=J (.pointer (some ⟨b,o+11,none⟩)):=by rw[pA_def,funext (run_fld_pithref35_Depot_Pieces b o),rA_value]
theorem run_fld_pithref35_Depot_Roots (b o:Nat) (w:World):(oFld 189 (.pointer (some ⟨b,o,none⟩)) 3).run zp w= .ok (.value (.pointer (some ⟨b,o+12,none⟩))) w:=by kernel_rfl
theorem pN_fld_pithref35_Depot_Roots (b o:Nat):pN zp (oFld 189 (.pointer (some ⟨b,o,none⟩)) 3) w K=K (.pointer (some ⟨b,o+12,none⟩)) w:=by rw[pN_def,run_fld_pithref35_Depot_Roots,rN_value]
theorem run_fld_pithref36_Row_X (b o:Nat) (w:World):(oFld 194 (.pointer (some ⟨b,o,none⟩)) 0).run zp w= .ok (.value (.pointer (some ⟨b,o,none⟩))) w:=by kernel_rfl
theorem pN_fld_pithref36_Row_X (b o:Nat):pN zp (oFld 194 (.pointer (some ⟨b,o,none⟩)) 0) w K=K (.pointer (some ⟨b,o,none⟩)) w:=by rw[pN_def,run_fld_pithref36_Row_X,rN_value]
theorem pA_fld_pithref36_Row_X (b o:Nat):pA zp (oFld 194 (.pointer (some ⟨b,o,none⟩)) 0) J=J (.pointer (some ⟨b,o,none⟩)):=by rw[pA_def,funext (run_fld_pithref36_Row_X b o),rA_value]
theorem run_fld_pithref36_Row_Sums (b o:Nat) (w:World):(oFld 194 (.pointer (some ⟨b,o,none⟩)) 1).run zp w= .ok (.value (.pointer (some ⟨b,o+6,none⟩))) w:=by kernel_rfl
theorem pN_fld_pithref36_Row_Sums (b o:Nat):pN zp (oFld 194 (.pointer (some ⟨b,o,none⟩)) 1) w K=K (.pointer (some ⟨b,o+6,none⟩)) w:=by rw[pN_def,run_fld_pithref36_Row_Sums,rN_value]
theorem run_fld_tar_field_at (b o:Nat) (w:World):(oFld 210 (.pointer (some ⟨b,o,none⟩)) 0).run zp w= .ok (.value (.pointer (some ⟨b,o,none⟩))) w:=by kernel_rfl
theorem pA_fld_tar_field_at (b o:Nat):pA zp (oFld 210 (.pointer (some ⟨b,o,none⟩)) 0) J=J (.pointer (some ⟨b,o,none⟩)):=by rw[pA_def,funext (run_fld_tar_field_at b o),rA_value]
theorem run_fld_tar_field_n (b o:Nat) (w:World):(oFld 210 (.pointer (some ⟨b,o,none⟩)) 1).run zp w= .ok (.value (.pointer (some ⟨b,o+1,none⟩))) w:=by kernel_rfl
theorem pA_fld_tar_field_n (b o:Nat):pA zp (oFld 210 (.pointer (some ⟨b,o,none⟩)) 1) J=J (.pointer (some ⟨b,o+1,none⟩)):=by rw[pA_def,funext (run_fld_tar_field_n b o),rA_value]
theorem run_fld_tar_field_write (b o:Nat) (w:World):(oFld 210 (.pointer (some ⟨b,o,none⟩)) 2).run zp w= .ok (.value (.pointer (some ⟨b,o+2,none⟩))) w:=by kernel_rfl
theorem pA_fld_tar_field_write (b o:Nat):pA zp (oFld 210 (.pointer (some ⟨b,o,none⟩)) 2) J=J (.pointer (some ⟨b,o+2,none⟩)):=by rw[pA_def,funext (run_fld_tar_field_write b o),rA_value]
theorem run_fld_sha_Hash_state (b o:Nat) (w:World):(oFld 217 (.pointer (some ⟨b,o,none⟩)) 0).run zp w= .ok (.value (.pointer (some ⟨b,o,none⟩))) w:=by kernel_rfl
theorem pN_fld_sha_Hash_state (b o:Nat):pN zp (oFld 217 (.pointer (some ⟨b,o,none⟩)) 0) w K=K (.pointer (some ⟨b,o,none⟩)) w:=by rw[pN_def,run_fld_sha_Hash_state,rN_value]
theorem pA_fld_sha_Hash_state (b o:Nat):pA zp (oFld 217 (.pointer (some ⟨b,o,none⟩)) 0) J=J (.pointer (some ⟨b,o,none⟩)):=by rw[pA_def,funext (run_fld_sha_Hash_state b o),rA_value]
theorem run_fld_sha_Hash_block (b o:Nat) (w:World):(oFld 217 (.pointer (some ⟨b,o,none⟩)) 1).run zp w= .ok (.value (.pointer (some ⟨b,o+8,none⟩))) w:=by kernel_rfl
theorem pN_fld_sha_Hash_block (b o:Nat):pN zp (oFld 217 (.pointer (some ⟨b,o,none⟩)) 1) w K=K (.pointer (some ⟨b,o+8,none⟩)) w:=by rw[pN_def,run_fld_sha_Hash_block,rN_value]
theorem pA_fld_sha_Hash_block (b o:Nat):pA zp (oFld 217 (.pointer (some ⟨b,o,none⟩)) 1) J=J (.pointer (some ⟨b,o+8,none⟩)):=by rw[pA_def,funext (run_fld_sha_Hash_block b o),rA_value]
theorem run_fld_sha_Hash_n (b o:Nat) (w:World):(oFld 217 (.pointer (some ⟨b,o,none⟩)) 2).run zp w= .ok (.value (.pointer (some ⟨b,o+72,none⟩))) w:=by kernel_rfl
theorem pN_fld_sha_Hash_n (b o:Nat):pN zp (oFld 217 (.pointer (some ⟨b,o,none⟩)) 2) w K=K (.pointer (some ⟨b,o+72,none⟩)) w:=by rw[pN_def,run_fld_sha_Hash_n,rN_value]
theorem run_fld_snap_reader_b (b o:Nat) (w:World):(oFld 224 (.pointer (some ⟨b,o,none⟩)) 0).run zp w= .ok (.value (.pointer (some ⟨b,o,none⟩))) w:=by kernel_rfl
theorem pN_fld_snap_reader_b (b o:Nat):pN zp (oFld 224 (.pointer (some ⟨b,o,none⟩)) 0) w K=K (.pointer (some ⟨b,o,none⟩)) w:=by rw[pN_def,run_fld_snap_reader_b,rN_value]
theorem run_fld_cdc_roll_c (b o:Nat) (w:World):(oFld 230 (.pointer (some ⟨b,o,none⟩)) 0).run zp w= .ok (.value (.pointer (some ⟨b,o,none⟩))) w:=by kernel_rfl
theorem pA_fld_cdc_roll_c (b o:Nat):pA zp (oFld 230 (.pointer (some ⟨b,o,none⟩)) 0) J=J (.pointer (some ⟨b,o,none⟩)):=by rw[pA_def,funext (run_fld_cdc_roll_c b o),rA_value]
theorem run_fld_cdc_roll_sum (b o:Nat) (w:World):(oFld 230 (.pointer (some ⟨b,o,none⟩)) 1).run zp w= .ok (.value (.pointer (some ⟨b,o+3,none⟩))) w:=by kernel_rfl
theorem pN_fld_cdc_roll_sum (b o:Nat):pN zp (oFld 230 (.pointer (some ⟨b,o,none⟩)) 1) w K=K (.pointer (some ⟨b,o+3,none⟩)) w:=by rw[pN_def,run_fld_cdc_roll_sum,rN_value]
theorem pA_fld_cdc_roll_sum (b o:Nat):pA zp (oFld 230 (.pointer (some ⟨b,o,none⟩)) 1) J=J (.pointer (some ⟨b,o+3,none⟩)):=by rw[pA_def,funext (run_fld_cdc_roll_sum b o),rA_value]
theorem run_fld_cdc_roll_n (b o:Nat) (w:World):(oFld 230 (.pointer (some ⟨b,o,none⟩)) 2).run zp w= .ok (.value (.pointer (some ⟨b,o+4,none⟩))) w:=by kernel_rfl
theorem pN_fld_cdc_roll_n (b o:Nat):pN zp (oFld 230 (.pointer (some ⟨b,o,none⟩)) 2) w K=K (.pointer (some ⟨b,o+4,none⟩)) w:=by rw[pN_def,run_fld_cdc_roll_n,rN_value]
theorem pA_fld_cdc_roll_n (b o:Nat):pA zp (oFld 230 (.pointer (some ⟨b,o,none⟩)) 2) J=J (.pointer (some ⟨b,o+4,none⟩)):=by rw[pA_def,funext (run_fld_cdc_roll_n b o),rA_value]
theorem run_fld_pithref35_Named_Name (b o:Nat) (w:World):(oFld 247 (.pointer (some ⟨b,o,none⟩)) 0).run zp w= .ok (.value (.pointer (some ⟨b,o,none⟩))) w:=by kernel_rfl
theorem pN_fld_pithref35_Named_Name (b o:Nat):pN zp (oFld 247 (.pointer (some ⟨b,o,none⟩)) 0) w K=K (.pointer (some ⟨b,o,none⟩)) w:=by rw[pN_def,run_fld_pithref35_Named_Name,rN_value]
theorem run_fld_pithref04_Hash_From (b o:Nat) (w:World):(oFld 300 (.pointer (some ⟨b,o,none⟩)) 0).run zp w= .ok (.value (.pointer (some ⟨b,o,none⟩))) w:=by kernel_rfl
theorem pN_fld_pithref04_Hash_From (b o:Nat):pN zp (oFld 300 (.pointer (some ⟨b,o,none⟩)) 0) w K=K (.pointer (some ⟨b,o,none⟩)) w:=by rw[pN_def,run_fld_pithref04_Hash_From,rN_value]
theorem run_fld_pithref04_Hash_Ahead (b o:Nat) (w:World):(oFld 300 (.pointer (some ⟨b,o,none⟩)) 1).run zp w= .ok (.value (.pointer (some ⟨b,o+8,none⟩))) w:=by kernel_rfl
theorem pA_fld_pithref04_Hash_Ahead (b o:Nat):pA zp (oFld 300 (.pointer (some ⟨b,o,none⟩)) 1) J=J (.pointer (some ⟨b,o+8,none⟩)):=by rw[pA_def,funext (run_fld_pithref04_Hash_Ahead b o),rA_value]
theorem run_fld_pithref04_Hash_B (b o:Nat) (w:World):(oFld 300 (.pointer (some ⟨b,o,none⟩)) 2).run zp w= .ok (.value (.pointer (some ⟨b,o+9,none⟩))) w:=by kernel_rfl
theorem pN_fld_pithref04_Hash_B (b o:Nat):pN zp (oFld 300 (.pointer (some ⟨b,o,none⟩)) 2) w K=K (.pointer (some ⟨b,o+9,none⟩)) w:=by rw[pN_def,run_fld_pithref04_Hash_B,rN_value]
theorem pA_fld_pithref04_Hash_B (b o:Nat):pA zp (oFld 300 (.pointer (some ⟨b,o,none⟩)) 2) J=J (.pointer (some ⟨b,o+9,none⟩)):=by rw[pA_def,funext (run_fld_pithref04_Hash_B b o),rA_value]
theorem call_snap_itemName (args:Array Value) (w:World):(callFunc 58 args).run zp w= .ok (.enter 58 args) w:=Tryz.call58 args w
theorem call_snap_byName_api_Item__c1 (args:Array Value) (w:World):(callFunc 97 args).run zp w= .ok (.enter 97 args) w:=Tryz.call97 args w
theorem call_snap_read_c1 (args:Array Value) (w:World):(callFunc 129 args).run zp w= .ok (.enter 129 args) w:=Tryz.call129 args w
theorem call_cdc_ends_c1 (args:Array Value) (w:World):(callFunc 133 args).run zp w= .ok (.enter 133 args) w:=Tryz.call133 args w
theorem call_tar_fields_c1 (args:Array Value) (w:World):(callFunc 155 args).run zp w= .ok (.enter 155 args) w:=Tryz.call155 args w
theorem call_tar_fields_c3 (args:Array Value) (w:World):(callFunc 158 args).run zp w= .ok (.enter 158 args) w:=Tryz.call158 args w
theorem call_tar_none (args:Array Value) (w:World):(callFunc 162 args).run zp w= .ok (.enter 162 args) w:=Tryz.call162 args w
theorem call_tar_fields_c5 (args:Array Value) (w:World):(callFunc 163 args).run zp w= .ok (.enter 163 args) w:=Tryz.call163 args w
theorem call_tar_fields_c7 (args:Array Value) (w:World):(callFunc 165 args).run zp w= .ok (.enter 165 args) w:=Tryz.call165 args w
theorem call_tar_fields_c9 (args:Array Value) (w:World):(callFunc 167 args).run zp w= .ok (.enter 167 args) w:=Tryz.call167 args w
theorem call_tar_fields_c11 (args:Array Value) (w:World):(callFunc 169 args).run zp w= .ok (.enter 169 args) w:=Tryz.call169 args w
theorem call_tar_fields_c13 (args:Array Value) (w:World):(callFunc 171 args).run zp w= .ok (.enter 171 args) w:=Tryz.call171 args w
theorem call_tar_fields_c14 (args:Array Value) (w:World):(callFunc 172 args).run zp w= .ok (.enter 172 args) w:=Tryz.call172 args w
attribute [local irreducible] pN oCall oCallV
instance cq13:CE 13:=⟨Tryz.call13⟩
instance cq16:CE 16:=⟨Tryz.call16⟩
instance cq17:CE 17:=⟨Tryz.call17⟩
instance cq18:CE 18:=⟨Tryz.call18⟩
instance cq19:CE 19:=⟨Tryz.call19⟩
instance cq20:CE 20:=⟨Tryz.call20⟩
instance cq24:CE 24:=⟨Tryz.call24⟩
instance cq30:CE 30:=⟨Tryz.call30⟩
instance cq34:CE 34:=⟨Tryz.call34⟩
instance cq35:CE 35:=⟨Tryz.call35⟩
instance cq36:CE 36:=⟨Tryz.call36⟩
instance cq37:CE 37:=⟨Tryz.call37⟩
instance cq38:CE 38:=⟨Tryz.call38⟩
instance cq39:CE 39:=⟨Tryz.call39⟩
instance cq40:CE 40:=⟨Tryz.call40⟩
instance cq41:CE 41:=⟨Tryz.call41⟩
instance cq42:CE 42:=⟨Tryz.call42⟩
instance cq43:CE 43:=⟨Tryz.call43⟩
instance cq44:CE 44:=⟨Tryz.call44⟩
instance cq48:CE 48:=⟨Tryz.call48⟩
instance cq49:CE 49:=⟨Tryz.call49⟩
instance cq52:CE 52:=⟨Tryz.call52⟩
instance cq54:CE 54:=⟨Tryz.call54⟩
instance cq55:CE 55:=⟨Tryz.call55⟩
instance cq56:CE 56:=⟨Tryz.call56⟩
instance cq57:CE 57:=⟨Tryz.call57⟩
instance cq59:CE 59:=⟨Tryz.call59⟩
instance cq60:CE 60:=⟨Tryz.call60⟩
instance cq61:CE 61:=⟨Tryz.call61⟩
instance cq63:CE 63:=⟨Tryz.call63⟩
instance cq64:CE 64:=⟨Tryz.call64⟩
instance cq65:CE 65:=⟨Tryz.call65⟩
instance cq66:CE 66:=⟨Tryz.call66⟩
instance cq68:CE 68:=⟨Tryz.call68⟩
instance cq69:CE 69:=⟨Tryz.call69⟩
instance cq71:CE 71:=⟨Tryz.call71⟩
instance cq74:CE 74:=⟨Tryz.call74⟩
instance cq75:CE 75:=⟨Tryz.call75⟩
instance cq76:CE 76:=⟨Tryz.call76⟩
instance cq77:CE 77:=⟨Tryz.call77⟩
instance cq78:CE 78:=⟨Tryz.call78⟩
instance cq79:CE 79:=⟨Tryz.call79⟩
instance cq80:CE 80:=⟨Tryz.call80⟩
instance cq81:CE 81:=⟨Tryz.call81⟩
instance cq82:CE 82:=⟨Tryz.call82⟩
instance cq83:CE 83:=⟨Tryz.call83⟩
instance cq84:CE 84:=⟨Tryz.call84⟩
instance cq86:CE 86:=⟨Tryz.call86⟩
instance cq87:CE 87:=⟨Tryz.call87⟩
instance cq88:CE 88:=⟨Tryz.call88⟩
instance cq89:CE 89:=⟨Tryz.call89⟩
instance cq90:CE 90:=⟨Tryz.call90⟩
instance cq92:CE 92:=⟨Tryz.call92⟩
instance cq93:CE 93:=⟨Tryz.call93⟩
instance cq94:CE 94:=⟨Tryz.call94⟩
instance cq95:CE 95:=⟨Tryz.call95⟩
instance cq96:CE 96:=⟨Tryz.call96⟩
instance cq98:CE 98:=⟨Tryz.call98⟩
instance cq99:CE 99:=⟨Tryz.call99⟩
instance cq100:CE 100:=⟨Tryz.call100⟩
instance cq101:CE 101:=⟨Tryz.call101⟩
instance cq103:CE 103:=⟨Tryz.call103⟩
instance cq107:CE 107:=⟨Tryz.call107⟩
instance cq108:CE 108:=⟨Tryz.call108⟩
instance cq109:CE 109:=⟨Tryz.call109⟩
instance cq110:CE 110:=⟨Tryz.call110⟩
instance cq111:CE 111:=⟨Tryz.call111⟩
instance cq112:CE 112:=⟨Tryz.call112⟩
instance cq113:CE 113:=⟨Tryz.call113⟩
instance cq114:CE 114:=⟨Tryz.call114⟩
instance cq115:CE 115:=⟨Tryz.call115⟩
instance cq116:CE 116:=⟨Tryz.call116⟩
instance cq119:CE 119:=⟨Tryz.call119⟩
instance cq120:CE 120:=⟨Tryz.call120⟩
instance cq121:CE 121:=⟨Tryz.call121⟩
instance cq122:CE 122:=⟨Tryz.call122⟩
instance cq123:CE 123:=⟨Tryz.call123⟩
instance cq124:CE 124:=⟨Tryz.call124⟩
instance cq125:CE 125:=⟨Tryz.call125⟩
instance cq126:CE 126:=⟨Tryz.call126⟩
instance cq127:CE 127:=⟨Tryz.call127⟩
instance cq130:CE 130:=⟨Tryz.call130⟩
instance cq131:CE 131:=⟨Tryz.call131⟩
instance cq132:CE 132:=⟨Tryz.call132⟩
instance cq134:CE 134:=⟨Tryz.call134⟩
instance cq146:CE 146:=⟨Tryz.call146⟩
instance cq147:CE 147:=⟨Tryz.call147⟩
instance cq148:CE 148:=⟨Tryz.call148⟩
instance cq149:CE 149:=⟨Tryz.call149⟩
instance cq150:CE 150:=⟨Tryz.call150⟩
instance cq151:CE 151:=⟨Tryz.call151⟩
instance cq152:CE 152:=⟨Tryz.call152⟩
instance cq153:CE 153:=⟨Tryz.call153⟩
instance cq154:CE 154:=⟨Tryz.call154⟩
instance cq159:CE 159:=⟨Tryz.call159⟩
instance cq174:CE 174:=⟨Tryz.call174⟩
instance cq175:CE 175:=⟨Tryz.call175⟩
instance cq176:CE 176:=⟨Tryz.call176⟩
instance cq177:CE 177:=⟨Tryz.call177⟩
instance cq179:CE 179:=⟨Tryz.call179⟩
instance cq180:CE 180:=⟨Tryz.call180⟩
instance cq181:CE 181:=⟨Tryz.call181⟩
instance cq182:CE 182:=⟨Tryz.call182⟩
instance cq197:CE 197:=⟨Tryz.call197⟩
instance cq198:CE 198:=⟨Tryz.call198⟩
instance cq199:CE 199:=⟨Tryz.call199⟩
instance cq200:CE 200:=⟨Tryz.call200⟩
instance cq201:CE 201:=⟨Tryz.call201⟩
instance cq202:CE 202:=⟨Tryz.call202⟩
instance cq203:CE 203:=⟨Tryz.call203⟩
instance cq204:CE 204:=⟨Tryz.call204⟩
instance cq207:CE 207:=⟨Tryz.call207⟩
instance cq213:CE 213:=⟨Tryz.call213⟩
instance cq214:CE 214:=⟨Tryz.call214⟩
instance cq215:CE 215:=⟨Tryz.call215⟩
instance cq216:CE 216:=⟨Tryz.call216⟩
instance cq217:CE 217:=⟨Tryz.call217⟩
instance cq219:CE 219:=⟨Tryz.call219⟩
instance cq221:CE 221:=⟨Tryz.call221⟩
instance cq222:CE 222:=⟨Tryz.call222⟩
instance cq223:CE 223:=⟨Tryz.call223⟩
instance cq224:CE 224:=⟨Tryz.call224⟩
instance cq225:CE 225:=⟨Tryz.call225⟩
instance cq226:CE 226:=⟨Tryz.call226⟩
instance cq232:CE 232:=⟨Tryz.call232⟩
instance cq233:CE 233:=⟨Tryz.call233⟩
instance cq234:CE 234:=⟨Tryz.call234⟩
instance cq235:CE 235:=⟨Tryz.call235⟩
instance cq238:CE 238:=⟨Tryz.call238⟩
end
attribute [go_sem] pN_conv_int_uint pN_conv_int_uint64 pN_conv_uint_int pN_conv_uint64_int pL_conv_uint64_int pN_len_sl_api_Item pA_len_sl_api_Item pN_len_sl_int pN_len_sl_uint8 pA_len_sl_uint8 pN_len_sl_api_ID pA_len_sl_api_ID pN_len_sl_sl_uint8 pN_len_sl_string pA_len_sl_string pN_len_sl_pithlaw37_Snap pN_len_sl_api_Trouble pA_len_sl_api_Trouble pN_len_sl_snap_entry pA_len_sl_snap_entry pN_len_sl_pithref35_Piece pA_len_sl_pithref35_Piece pN_len_sl_pithref35_Named pN_len_sl_pithref36_Row pA_len_sl_pithref36_Row pN_len_sl_tar_field pN_eql_p_depot_Depot pN_neqb_bool pA_neqb_bool pN_fld_api_Props_LC pN_fld_api_Props_LP pN_fld_api_Props_PB pN_fld_api_Config_Check pN_fld_api_Config_Delta pN_fld_api_Config_Props pN_fld_api_Config_Dict pN_fld_api_Config_Block pN_fld_api_Config_Mode pN_fld_api_Cuts_Least pA_fld_api_Cuts_Least pN_fld_api_Cuts_Most pA_fld_api_Cuts_Most pN_fld_api_Cuts_Bits pA_fld_api_Cuts_Bits pN_fld_api_Item_Name pA_fld_api_Item_Name pN_fld_api_Item_Link pN_fld_api_Item_Kind pN_fld_api_Item_Mode pA_fld_api_Item_Mode pN_fld_api_Item_Time pA_fld_api_Item_Time pN_fld_api_Item_Data pA_fld_api_Item_Data pN_fld_snap_entry_Item pA_fld_snap_entry_Item pN_fld_snap_entry_sums pA_fld_snap_entry_sums pN_fld_depot_Depot_k pN_fld_depot_Depot_pieces pA_fld_depot_Depot_pieces pN_fld_depot_Depot_names pA_fld_depot_Depot_names pN_fld_tar_head_Item pN_fld_tar_head_size pN_fld_pithref35_Depot_K pN_fld_pithref35_Depot_Pieces pA_fld_pithref35_Depot_Pieces pN_fld_pithref35_Depot_Roots pN_fld_pithref36_Row_X pA_fld_pithref36_Row_X pN_fld_pithref36_Row_Sums pA_fld_tar_field_at pA_fld_tar_field_n pA_fld_tar_field_write pN_fld_sha_Hash_state pA_fld_sha_Hash_state pN_fld_sha_Hash_block pA_fld_sha_Hash_block pN_fld_sha_Hash_n pN_fld_snap_reader_b pA_fld_cdc_roll_c pN_fld_cdc_roll_sum pA_fld_cdc_roll_sum pN_fld_cdc_roll_n pA_fld_cdc_roll_n pN_fld_pithref35_Named_Name pN_fld_pithref04_Hash_From pA_fld_pithref04_Hash_Ahead pN_fld_pithref04_Hash_B pA_fld_pithref04_Hash_B
end
section
open Go Go.RowKit Go.ChangeShapes Go.Deep
theorem bulk_pos {H:Type} (d:DataW H):1≤Rows.uptoBulk d:=by
 cases d with
 |lit l=>cases l<;>simp[Rows.uptoBulk]
 |_=>simp[Rows.uptoBulk]
theorem bulk_mem {H:Type} {d:DataW H}:∀{l:List (DataW H)},d∈l→Rows.uptoBulk d≤Rows.uptoBulkAll l
 | [],h=>by cases h
 |x::r,h=>by
  simp only[Rows.uptoBulkAll]
  rcases List.mem_cons.1 h with rfl|h
  ·omega
  ·have:=bulk_mem h;omega
theorem bulk_length {H:Type}:∀(l:List (DataW H)),l.length≤Rows.uptoBulkAll l
 | []=>by simp[Rows.uptoBulkAll]
 |x::r=>by have:=bulk_pos x;have:=bulk_length r;simp only[Rows.uptoBulkAll,List.length_cons];omega
theorem bulk_small {H:Type} {ds:List (DataW H)} (h:Rows.uptoSmall H ds=true):∀d∈ds,Rows.uptoBulk d≤1048576:=by
 intro d hd
 have h1:Rows.uptoBulkAll ds≤1048576:=of_decide_eq_true h
 have:=bulk_mem hd
 omega
theorem weights_all {H:Type} {P:Program} {e:TypeId} {d:DataW H} {n:Nat}:∀{l:List (DataW H)},d∈l→n∈d.weights P e→n∈DataW.weightsAll P e l
 | [],h,_=>by cases h
 |x::r,h,hn=>by
  simp only[DataW.weightsAll,List.mem_append]
  rcases List.mem_cons.1 h with rfl|h
  ·exact .inl hn
  ·exact .inr (weights_all h hn)
structure Opn (P:Program) (W:World) (t:TypeId) {β:Type} (enc:β→List Value) (ok:β→Nat→Prop):Prop where
 get:∀{H:Type} (en:TypeId×Value→H) (fuel:Nat) (cs:List Value) (x:DataW H×List MemPlace),
  DataW.trod en P W 0 (fun _=>true) true fuel t cs=some x→(∀n∈x.1.weights P t,n≤reachBytes)→∃b,cs=enc b∧ok b (Rows.uptoBulk x.1)
def Sum2 {β:Type} (ok:β→Nat→Prop):List β→Nat→Prop
 | [],_=>True
 |b::l,k=>∃k1 k2,k1+k2≤k∧ok b k1∧Sum2 ok l k2
theorem Sum2.mono {β:Type} {ok:β→Nat→Prop}:∀{l:List β} {k k':Nat},Sum2 ok l k→k≤k'→Sum2 ok l k'
 | [],_,_,_,_=>trivial
 |_::_,_,_,⟨k1,k2,h,h1,h2⟩,hk=>⟨k1,k2,Nat.le_trans h hk,h1,h2⟩
theorem Sum2.all {β:Type} {ok:β→Nat→Prop}:∀{l:List β} {k:Nat},Sum2 ok l k→∀b∈l,∃k',k'≤k∧ok b k'
 | [],_,_,_,hb=>by cases hb
 |_::_,k,⟨k1,k2,h,h1,h2⟩,b,hb=>by
  rcases List.mem_cons.1 hb with rfl|hb
  ·exact⟨k1,by omega,h1⟩
  ·obtain⟨k',h3,h4⟩:=h2.all b hb
   exact⟨k',by omega,h4⟩
section
variable {P:Program} {W:World} {t:TypeId}
theorem trod_pos {H:Type} {en:TypeId×Value→H} {fuel:Nat} {cs:List Value} {x:DataW H×List MemPlace} (h:DataW.trod en P W 0 (fun _=>true) true fuel t cs=some x):∃n,fuel=n+1:=by
 cases fuel with
 |zero=>simp[DataW.trod] at h
 |succ n=>exact⟨n,rfl⟩
theorem opn_int {k:IntKind} (ht:P.underlying t=some (.int k)):Opn P W t (fun n:Int=>[.int k n]) (fun n _=>(Lit.int k n).wf=true):=by
 refine⟨fun {H} en fuel cs x hx _=>?_⟩
 obtain⟨n,rfl⟩:=trod_pos hx
 unfold DataW.trod at hx
 rw[ht] at hx
 split at hx<;>simp_all
theorem Opn.mono {β:Type} {enc:β→List Value} {ok ok':β→Nat→Prop} (h:Opn P W t enc ok) (hm:∀b k,ok b k→ok' b k):Opn P W t enc ok':=by
 refine⟨fun {H} en fuel cs x hx hw=>?_⟩
 obtain⟨b,hb,hk⟩:=h.get en fuel cs x hx hw
 exact⟨b,hb,hm _ _ hk⟩
theorem opn_i64 (ht:P.underlying t=some (.int .i64)):Opn P W t (fun n:Int=>[.int .i64 n]) (fun n _=> -9223372036854775808≤n∧n<9223372036854775808):=
 Opn.mono (opn_int ht) fun n _ h=>by
  simp[Lit.wf,IntKind.min,IntKind.max,IntKind.signed,IntKind.bits] at h
  omega
theorem opn_u8 (ht:P.underlying t=some (.int .u8)):Opn P W t (fun n:UInt8=>[bv n]) (fun _ _=>True):=by
 refine⟨fun {H} en fuel cs x hx hw=>?_⟩
 obtain⟨n,rfl,h⟩:=(opn_int ht).get en fuel cs x hx hw
 simp[Lit.wf,IntKind.min,IntKind.max,IntKind.signed,IntKind.bits] at h
 refine⟨UInt8.ofNat n.toNat,?_,trivial⟩
 unfold bv
 simp only[UInt8.toNat_ofNat',List.cons.injEq,Value.int.injEq,true_and,and_true]
 omega
theorem opn_str (ht:P.underlying t=some .string):Opn P W t (fun l:List UInt8=>[.string ⟨l.toArray⟩]) (fun l k=>l.length≤reachBytes∧l.length+1≤k):=by
 refine⟨fun {H} en fuel cs x hx hw=>?_⟩
 obtain⟨n,rfl⟩:=trod_pos hx
 unfold DataW.trod at hx
 rw[ht] at hx
 split at hx<;>simp_all
 obtain⟨_,rfl⟩:=hx
 rename_i s _
 refine⟨s.data.toList,by simp,?_,?_⟩
 ·simpa [DataW.weights] using hw
 ·simp[Rows.uptoBulk]
theorem opn_sliceS {β:Type} {C:Cd β} {ok:β→Nat→Prop} (ht:P.underlying t=some (.slice C.e)) (hs:P.cellsOf C.e=C.size) (hb:P.bytesOf C.e=C.bytes) (h:Opn P W C.e C.enc ok):
  Opn P W t (fun p:Sl×List β=>[.slice p.1.a p.2.length p.1.c])
   (fun p k=>RdP C (old W) p.1 p.2∧p.2.length*C.bytes≤reachBytes∧p.2.length+1≤k∧Sum2 ok p.2 k):=by
 refine⟨fun {H} en fuel cs x hx hw=>?_⟩
 rcases open_slice ht hx with⟨rfl,rfl⟩|⟨a,len,cap,m,n,D,Pl,rfl,_,hl,hm,hmm,rfl,hel⟩
 ·exact⟨(⟨none,0⟩,[]),rfl,⟨RdA.old Rd.nil⟩,by simp,by simp[Rows.uptoBulk],trivial⟩
 ·simp only[if_true] at hmm
  subst hmm
  have hwt:∀i,i<len→∀n∈(D i).weights P C.e,n≤reachBytes:=by
   intro i hi n hn
   refine hw n ?_
   simp only[DataW.weights,ht,List.mem_cons,List.mem_append]
   exact .inr (.inl (weights_all (List.mem_map.2 ⟨i,by simpa using hi,rfl⟩) hn))
  have hD:∀i,i<len→∃b,(W.cells? 0 (a.add (i*C.size)) C.size=some (C.enc b))∧ok b (Rows.uptoBulk (D i)):=by
   intro i hi
   obtain⟨cs',h1,h2⟩:=hel i (by omega)
   rw[hs] at h1
   obtain⟨b,rfl,hk⟩:=h.get en n cs' _ h2 (hwt i hi)
   exact⟨b,h1,hk⟩
  have hinh:Inhabited β:=⟨C.zero⟩
  obtain⟨V,hV⟩:=choose_lt hD
  have hlen:((List.range len).map V).length=len:=by simp
  have hget:∀i,i<len→((List.range len).map V)[i]? =some (V i):=by intro i hi;simp[hi]
  refine⟨(⟨some a,m⟩,(List.range len).map V),by simp,⟨RdA.old ?_⟩,?_,?_,?_⟩
  ·refine⟨C.flat_len _,some a,m,rfl,by rw[hlen];exact hl,fun h=>by simp at h,fun a' ha j u hu=>?_⟩
   cases ha
   have hj:j<(C.flat ((List.range len).map V)).length:=(List.getElem?_eq_some_iff.1 hu).1
   rw[C.flat_len,hlen] at hj
   have hpos:0<C.size:=by
    rcases Nat.eq_zero_or_pos C.size with h0|h0
    ·rw[h0] at hj;omega
    ·exact h0
   have hi:j / C.size<len:=by
    rw[Nat.div_lt_iff_lt_mul hpos];exact hj
   have hr:j%C.size<C.size:=Nat.mod_lt _ hpos
   have e1:j / C.size*C.size+j%C.size=j:=by rw[Nat.mul_comm];exact Nat.div_add_mod _ _
   have e2:=C.flat_get _ _ _ (hget _ hi)
   have e3:(C.enc (V (j / C.size)))[j%C.size]? =some u:=by
    rw[←e2,List.getElem?_take,if_pos hr,List.getElem?_drop,e1]
    exact hu
   obtain⟨_,_,h3⟩:=World.cells?_some (hV _ hi).1
   have:=h3 _ hr
   rw[Addr.add_add,e1] at this
   rw[this];exact e3
  ·simp only[hlen]
   have:=hw ((((List.range len).map D).length+((List.range (m-len)).map fun j=>D (len+j)).length)*P.bytesOf C.e) (by
    simp only[DataW.weights,ht]
    exact List.mem_cons_self)
   simp only[List.length_map,List.length_range,hb] at this
   exact Nat.le_trans (Nat.mul_le_mul_right _ (Nat.le_add_right _ _)) this
  ·simp only[hlen,Rows.uptoBulk]
   have:=bulk_length ((List.range len).map D)
   simp only[List.length_map,List.length_range] at this
   omega
  ·have hsum:∀I:List Nat,(∀i∈I,i<len)→Sum2 ok (I.map V) (Rows.uptoBulkAll (I.map D)):=by
    intro I
    induction I with
    |nil=>intro _;trivial
    |cons i I ih=>intro hI;exact⟨_,_,Nat.le_refl _,(hV i (hI i List.mem_cons_self)).2,ih fun j hj=>hI j (List.mem_cons_of_mem _ hj)⟩
   refine(hsum (List.range len) fun i hi=>by simpa using hi).mono ?_
   simp only[Rows.uptoBulk]
   omega
theorem opn_slice {β:Type} {C:Cd β} {ok:β→Nat→Prop} (ht:P.underlying t=some (.slice C.e)) (hs:P.cellsOf C.e=C.size) (hb:P.bytesOf C.e=C.bytes) (h:Opn P W C.e C.enc ok):
  Opn P W t (fun p:Sl×List β=>[.slice p.1.a p.2.length p.1.c])
   (fun p k=>RdP C (old W) p.1 p.2∧p.2.length*C.bytes≤reachBytes∧p.2.length+1≤k∧∀b∈p.2,∃k',k'≤k∧ok b k'):=
 (opn_sliceS ht hs hb h).mono fun _ _ h=>⟨h.1,h.2.1,h.2.2.1,h.2.2.2.all⟩
theorem opn_field {fs:Array Field} {H:Type} {en:TypeId×Value→H} {n:Nat} {cs:List Value} {xs:List (DataW H×List MemPlace)} (ht:P.underlying t=some (.struct fs))
  (hw:∀n∈(DataW.agg (xs.map (·.1))).weights P t,n≤reachBytes)
  (hf:∀(i:Nat) (f:Field),fs[i]? =some f→DataW.trod en P W 0 (fun _=>true) true n f.type ((cs.drop f.offset).take (P.cellsOf f.type))=xs[i]?)
  (i ft off sz:Nat) (hi':∃f,fs[i]? =some f∧f.type=ft∧f.offset=off) (hc:P.cellsOf ft=sz) (hl:i<xs.length) {β:Type} {enc:β→List Value} {ok:β→Nat→Prop} (h:Opn P W ft enc ok):
  ∃b,(cs.drop off).take sz=enc b∧∃k',k'≤Rows.uptoBulk (DataW.agg (xs.map (·.1)))∧ok b k':=by
 obtain⟨f,hi,rfl,rfl⟩:=hi'
 subst hc
 have h1:=hf i f hi
 rw[List.getElem?_eq_getElem hl] at h1
 obtain⟨b,hb,hk⟩:=h.get en n _ _ h1 fun m hm=>hw m (by
  simp only[DataW.weights,ht]
  exact DataW.weights_mem_each (j:=i) (t:=f.type) (d:=xs[i].1) (by simp[hi]) (by simp[hl]) m hm)
 refine⟨b,hb,_,?_,hk⟩
 have:=bulk_mem (List.mem_map.2 ⟨xs[i],List.getElem_mem hl,rfl⟩:xs[i].1∈xs.map (·.1))
 simp only[Rows.uptoBulk]
 omega
theorem opn_arg {β:Type} {enc:β→List Value} {ok:β→Nat→Prop} (h:Opn P W t enc ok) {H:Type} {en:TypeId×Value→H} {v:Value} {d:DataW H} {p:List MemPlace} (hd:DataW.Trod en P W 0 (fun _=>true) true t v d p)
  (hw:∀n∈d.weights P t,n≤reachBytes):∃b,v.cells.toList=enc b∧ok b (Rows.uptoBulk d):=by
 obtain⟨fuel,hf⟩:=hd
 exact h.get en fuel _ _ hf hw
end
theorem walk_end {P:Program} {f:FuncId} {args:Array Value} {W:World} (h:Calls P f args W (retP fun v w=>v= .bool true∧Sat W w [old W])):Calls P f args W fun e W'=>e= .returned (.bool true)∧Below W.heap.size W W':=
 h.mono fun e w he=>by
  cases e with
  |returned v=>obtain⟨rfl,hS⟩:=he;exact⟨rfl,hS.below 0 rfl⟩
  |panicked c=>exact he.elim
  |outgrown=>exact he.elim
theorem cells_one {v u:Value} (h:v.cells.toList=[u]) (hv:v.oneCell'=true):v=u:=by
 cases v<;>first|(simp[Value.cells] at h;exact h)|cases hv
end
section
open Go Go.RowKit Go.ChangeShapes
instance sc_3:Sc zp 3:=⟨Tryz.isAgg3,Tryz.sizeOf3⟩
instance sc_5:Sc zp 5:=⟨Tryz.isAgg5,Tryz.sizeOf5⟩
instance sc_9:Sc zp 9:=⟨Tryz.isAgg9,Tryz.sizeOf9⟩
instance ag_23:Ag zp 23 3:=⟨Tryz.isAgg23,Tryz.sizeOf23⟩
instance ag_25:Ag zp 25 8:=⟨Tryz.isAgg25,Tryz.sizeOf25⟩
instance ag_27:Ag zp 27 3:=⟨Tryz.isAgg27,Tryz.sizeOf27⟩
instance sc_30:Sc zp 30:=⟨Tryz.isAgg30,Tryz.sizeOf30⟩
instance sc_38:Sc zp 38:=⟨Tryz.isAgg38,Tryz.sizeOf38⟩
instance sc_46:Sc zp 46:=⟨Tryz.isAgg46,Tryz.sizeOf46⟩
instance sc_47:Sc zp 47:=⟨Tryz.isAgg47,Tryz.sizeOf47⟩
instance ag_49:Ag zp 49 6:=⟨Tryz.isAgg49,Tryz.sizeOf49⟩
instance sc_52:Sc zp 52:=⟨Tryz.isAgg52,Tryz.sizeOf52⟩
instance ag_57:Ag zp 57 32:=⟨Tryz.isAgg57,Tryz.sizeOf57⟩
instance ag_58:Ag zp 58 32:=⟨Tryz.isAgg58,Tryz.sizeOf58⟩
instance sc_115:Sc zp 115:=⟨Tryz.isAgg115,Tryz.sizeOf115⟩
instance sc_116:Sc zp 116:=⟨Tryz.isAgg116,Tryz.sizeOf116⟩
instance ag_118:Ag zp 118 7:=⟨Tryz.isAgg118,Tryz.sizeOf118⟩
instance sc_126:Sc zp 126:=⟨Tryz.isAgg126,Tryz.sizeOf126⟩
instance sc_127:Sc zp 127:=⟨Tryz.isAgg127,Tryz.sizeOf127⟩
instance ag_144:Ag zp 144 2:=⟨Tryz.isAgg144,Tryz.sizeOf144⟩
instance ag_147:Ag zp 147 34:=⟨Tryz.isAgg147,Tryz.sizeOf147⟩
instance sc_186:Sc zp 186:=⟨Tryz.isAgg186,Tryz.sizeOf186⟩
instance sc_187:Sc zp 187:=⟨Tryz.isAgg187,Tryz.sizeOf187⟩
instance ag_194:Ag zp 194 7:=⟨Tryz.isAgg194,Tryz.sizeOf194⟩
instance sc_208:Sc zp 208:=⟨Tryz.isAgg208,Tryz.sizeOf208⟩
instance ag_210:Ag zp 210 4:=⟨Tryz.isAgg210,Tryz.sizeOf210⟩
instance sc_212:Sc zp 212:=⟨Tryz.isAgg212,Tryz.sizeOf212⟩
instance sc_213:Sc zp 213:=⟨Tryz.isAgg213,Tryz.sizeOf213⟩
instance ag_214:Ag zp 214 8:=⟨Tryz.isAgg214,Tryz.sizeOf214⟩
instance ag_215:Ag zp 215 64:=⟨Tryz.isAgg215,Tryz.sizeOf215⟩
instance ag_217:Ag zp 217 73:=⟨Tryz.isAgg217,Tryz.sizeOf217⟩
instance ag_247:Ag zp 247 2:=⟨Tryz.isAgg247,Tryz.sizeOf247⟩
instance ag_281:Ag zp 281 33:=⟨Tryz.isAgg281,Tryz.sizeOf281⟩
instance ag_290:Ag zp 290 9:=⟨Tryz.isAgg290,Tryz.sizeOf290⟩
instance zv_23:Zv zp 23 [(.int .i64 0),(.int .i64 0),(.int .i64 0)]:=⟨_,Tryz.zeroValue23,rfl⟩
instance zv_25:Zv zp 25 [(.int .i64 0),(.int .i64 0),(.int .i64 0),(.int .i64 0),(.int .i64 0),(.int .i64 0),(.int .i64 0),(.int .i64 0)]:=⟨_,Tryz.zeroValue25,rfl⟩
instance zv_27:Zv zp 27 [(.int .i64 0),(.int .i64 0),(.int .i64 0)]:=⟨_,Tryz.zeroValue27,rfl⟩
instance zv_38:Zv zp 38 [(.int .i64 0)]:=⟨_,Tryz.zeroValue38,rfl⟩
instance zv_46:Zv zp 46 [(.slice none 0 0)]:=⟨_,Tryz.zeroValue46,rfl⟩
instance zv_49:Zv zp 49 [(.string ⟨#[]⟩),(.string ⟨#[]⟩),(.int .i64 0),(.int .i64 0),(.int .i64 0),(.slice none 0 0)]:=⟨_,Tryz.zeroValue49,rfl⟩
instance zv_57:Zv zp 57 [(bv 0),(bv 0),(bv 0),(bv 0),(bv 0),(bv 0),(bv 0),(bv 0),(bv 0),(bv 0),(bv 0),(bv 0),(bv 0),(bv 0),(bv 0),(bv 0),(bv 0),(bv 0),(bv 0),(bv 0),(bv 0),(bv 0),(bv 0),(bv 0),(bv 0),(bv 0),(bv 0),(bv 0),(bv 0),(bv 0),(bv 0),(bv 0)]:=⟨_,Tryz.zeroValue57,rfl⟩
instance zv_58:Zv zp 58 [(bv 0),(bv 0),(bv 0),(bv 0),(bv 0),(bv 0),(bv 0),(bv 0),(bv 0),(bv 0),(bv 0),(bv 0),(bv 0),(bv 0),(bv 0),(bv 0),(bv 0),(bv 0),(bv 0),(bv 0),(bv 0),(bv 0),(bv 0),(bv 0),(bv 0),(bv 0),(bv 0),(bv 0),(bv 0),(bv 0),(bv 0),(bv 0)]:=⟨_,Tryz.zeroValue58,rfl⟩
instance zv_116:Zv zp 116 [(.slice none 0 0)]:=⟨_,Tryz.zeroValue116,rfl⟩
instance zv_118:Zv zp 118 [(.string ⟨#[]⟩),(.string ⟨#[]⟩),(.int .i64 0),(.int .i64 0),(.int .i64 0),(.slice none 0 0),(.slice none 0 0)]:=⟨_,Tryz.zeroValue118,rfl⟩
instance zv_194:Zv zp 194 [(.string ⟨#[]⟩),(.string ⟨#[]⟩),(.int .i64 0),(.int .i64 0),(.int .i64 0),(.slice none 0 0),(.slice none 0 0)]:=⟨_,Tryz.zeroValue194,rfl⟩
instance zv_210:Zv zp 210 [(.int .i64 0),(.int .i64 0),.nilFunc,.nilFunc]:=⟨_,Tryz.zeroValue210,rfl⟩
instance zv_214:Zv zp 214 [(.int .u32 0),(.int .u32 0),(.int .u32 0),(.int .u32 0),(.int .u32 0),(.int .u32 0),(.int .u32 0),(.int .u32 0)]:=⟨_,Tryz.zeroValue214,rfl⟩
instance zv_247:Zv zp 247 [(.string ⟨#[]⟩),(.slice none 0 0)]:=⟨_,Tryz.zeroValue247,rfl⟩
structure T_api_Cuts where
 Least:Int
 Most:Int
 Bits:Int
def T_api_Cuts.enc (b:T_api_Cuts):List Value:=[.int .i64 b.Least,.int .i64 b.Most,.int .i64 b.Bits]
structure T_api_Item where
 Name:List UInt8
 Link:List UInt8
 Kind:Int
 Mode:Int
 Time:Int
 Data:(Sl×List UInt8)
def T_api_Item.zero:T_api_Item:=⟨[],[],0,0,0,(⟨none,0⟩,[])⟩
def T_api_Item.enc (b:T_api_Item):List Value:=[.string ⟨List.toArray b.Name⟩,.string ⟨List.toArray b.Link⟩,.int .i64 b.Kind,.int .i64 b.Mode,.int .i64 b.Time,.slice b.Data.1.a b.Data.2.length b.Data.1.c]
structure T_pithlaw37_Snap where
 Name:List UInt8
 Items:(Sl×List T_api_Item)
def T_pithlaw37_Snap.zero:T_pithlaw37_Snap:=⟨[],(⟨none,0⟩,[])⟩
def T_pithlaw37_Snap.enc (b:T_pithlaw37_Snap):List Value:=[.string ⟨List.toArray b.Name⟩,.slice b.Items.1.a b.Items.2.length b.Items.1.c]
structure T_api_Props where
 LC:Int
 LP:Int
 PB:Int
def T_api_Props.enc (b:T_api_Props):List Value:=[.int .i64 b.LC,.int .i64 b.LP,.int .i64 b.PB]
structure T_api_Config where
 Check:Int
 Delta:Int
 Props:T_api_Props
 Dict:Int
 Block:Int
 Mode:Int
def T_api_Config.enc (b:T_api_Config):List Value:=[.int .i64 b.Check]++[.int .i64 b.Delta]++b.Props.enc++[.int .i64 b.Dict]++[.int .i64 b.Block]++[.int .i64 b.Mode]
def cd_int:Cd Int:={ e:=3,size:=1,bytes:=8,zero:=0,enc:=fun b=>[.int .i64 b],len:=fun _=>rfl,one:=by intro b u hu;simp only[List.mem_cons,List.not_mem_nil,or_false] at hu;subst hu;rfl }
instance bt_int:Bt cd_int 8:=⟨rfl⟩
def cd_uint8:Cd UInt8:={ e:=5,size:=1,bytes:=1,zero:=0,enc:=fun b=>[bv b],len:=fun _=>rfl,one:=by intro b u hu;simp only[List.mem_cons,List.not_mem_nil,or_false] at hu;subst hu;rfl }
instance bt_uint8:Bt cd_uint8 1:=⟨rfl⟩
def cd_string:Cd (List UInt8):={ e:=9,size:=1,bytes:=16,zero:=[],enc:=fun b=>[.string ⟨List.toArray b⟩],len:=fun _=>rfl,one:=by intro b u hu;simp only[List.mem_cons,List.not_mem_nil,or_false] at hu;subst hu;rfl }
instance bt_string:Bt cd_string 16:=⟨rfl⟩
def cd_sl_uint8:Cd (Sl×List UInt8):={ e:=47,size:=1,bytes:=24,zero:=(⟨none,0⟩,[]),enc:=fun b=>[.slice b.1.a b.2.length b.1.c],len:=fun _=>rfl,one:=by intro b u hu;simp only[List.mem_cons,List.not_mem_nil,or_false] at hu;subst hu;rfl }
def cd_api_Item:Cd T_api_Item:={ e:=49,size:=6,bytes:=80,zero:=T_api_Item.zero,enc:=T_api_Item.enc,len:=fun _=>rfl,one:=by intro b u hu;simp only[T_api_Config.enc,T_api_Cuts.enc,T_api_Item.enc,T_api_Props.enc,T_pithlaw37_Snap.enc,List.mem_cons,List.mem_append,List.not_mem_nil,or_false] at hu;rcases hu with rfl|rfl|rfl|rfl|rfl|rfl<;>rfl }
instance bt_api_Item:Bt cd_api_Item 80:=⟨rfl⟩
def cd_pithlaw37_Snap:Cd T_pithlaw37_Snap:={ e:=144,size:=2,bytes:=40,zero:=T_pithlaw37_Snap.zero,enc:=T_pithlaw37_Snap.enc,len:=fun _=>rfl,one:=by intro b u hu;simp only[T_api_Config.enc,T_api_Cuts.enc,T_api_Item.enc,T_api_Props.enc,T_pithlaw37_Snap.enc,List.mem_cons,List.mem_append,List.not_mem_nil,or_false] at hu;rcases hu with rfl|rfl<;>rfl }
instance bt_pithlaw37_Snap:Bt cd_pithlaw37_Snap 40:=⟨rfl⟩
def cd_uint32:Cd Int:={ e:=213,size:=1,bytes:=4,zero:=0,enc:=fun b=>[.int .u32 b],len:=fun _=>rfl,one:=by intro b u hu;simp only[List.mem_cons,List.not_mem_nil,or_false] at hu;subst hu;rfl }
instance bt_uint32:Bt cd_uint32 4:=⟨rfl⟩
instance row_30:Row zp 30 T_api_Item cd_api_Item:=⟨⟨(.agg #[(.string ⟨#[]⟩),(.string ⟨#[]⟩),(.int .i64 0),(.int .i64 0),(.int .i64 0),(.slice none 0 0)]),⟨Tryz.underlying30,info_parts (by kernel_rfl),rfl,by decide⟩,rfl⟩,by decide⟩
instance row_46:Row zp 46 Int cd_int:=⟨⟨(.int .i64 0),⟨Tryz.underlying46,info_parts (by kernel_rfl),rfl,by decide⟩,rfl⟩,by decide⟩
instance row_47:Row zp 47 UInt8 cd_uint8:=⟨⟨(.int .u8 0),⟨Tryz.underlying47,info_parts (by kernel_rfl),rfl,by decide⟩,rfl⟩,by decide⟩
instance row_71:Row zp 71 (Sl×List UInt8) cd_sl_uint8:=⟨⟨(.slice none 0 0),⟨Tryz.underlying71,info_parts (by kernel_rfl),rfl,by decide⟩,rfl⟩,by decide⟩
instance row_72:Row zp 72 (List UInt8) cd_string:=⟨⟨(.string ⟨#[]⟩),⟨Tryz.underlying72,info_parts (by kernel_rfl),rfl,by decide⟩,rfl⟩,by decide⟩
instance row_82:Row zp 82 T_pithlaw37_Snap cd_pithlaw37_Snap:=⟨⟨(.agg #[(.string ⟨#[]⟩),(.slice none 0 0)]),⟨Tryz.underlying82,info_parts (by kernel_rfl),rfl,by decide⟩,rfl⟩,by decide⟩
instance row_307:Row zp 307 Int cd_uint32:=⟨⟨(.int .u32 0),⟨Tryz.underlying307,info_parts (by kernel_rfl),rfl,by decide⟩,rfl⟩,by decide⟩
section
variable [Pan] {w:World} {K:Value→World→Prop} {J:Value→Prop}
instance fa_49_0:FA zp 49 0 0:=⟨fun a w=>by kernel_rfl⟩
instance fa_49_5:FA zp 49 5 5:=⟨fun a w=>by kernel_rfl⟩
instance fa_118_0:FA zp 118 0 0:=⟨fun a w=>by kernel_rfl⟩
instance fa_144_0:FA zp 144 0 0:=⟨fun a w=>by kernel_rfl⟩
instance fa_144_1:FA zp 144 1 1:=⟨fun a w=>by kernel_rfl⟩
instance fa_194_0:FA zp 194 0 0:=⟨fun a w=>by kernel_rfl⟩
instance fa_194_1:FA zp 194 1 6:=⟨fun a w=>by kernel_rfl⟩
instance fa_247_0:FA zp 247 0 0:=⟨fun a w=>by kernel_rfl⟩
instance fa_247_1:FA zp 247 1 1:=⟨fun a w=>by kernel_rfl⟩
instance fa_281_0:FA zp 281 0 0:=⟨fun a w=>by kernel_rfl⟩
instance fa_281_1:FA zp 281 1 32:=⟨fun a w=>by kernel_rfl⟩
instance tob_3_5:ToB zp 3 5:=⟨fun _ k n=>run_conv_int k Tryz.underlying3 Tryz.underlying5 n⟩
instance ofb_5_3:OfB zp 5 3 .i64:=⟨fun _ k n=>run_conv_int k Tryz.underlying5 Tryz.underlying3 n,fun n h1 h2=>wrap_i64 (by omega)⟩
instance ofb_5_212:OfB zp 5 212 .u64:=⟨fun _ k n=>run_conv_int k Tryz.underlying5 Tryz.underlying212 n,fun n h1 h2=>w_u64 (by omega)⟩
instance ofb_5_213:OfB zp 5 213 .u32:=⟨fun _ k n=>run_conv_int k Tryz.underlying5 Tryz.underlying213 n,fun n h1 h2=>w_u32 (by omega)⟩
instance strt_47_9:StrT zp 47 9 cd_uint8:=⟨⟨_,Tryz.underlying47,Tryz.underlying5⟩,Tryz.underlying9,rfl,fun _=>rfl⟩
instance tob_212_5:ToB zp 212 5:=⟨fun _ k n=>run_conv_int k Tryz.underlying212 Tryz.underlying5 n⟩
instance tob_213_5:ToB zp 213 5:=⟨fun _ k n=>run_conv_int k Tryz.underlying213 Tryz.underlying5 n⟩
theorem pN_shr_3_u64_3 (xo yo:Operand) (a:Int):pN zp (oBin .shr 3 xo yo (.int .i64 a) (.int .u64 3)) w K=K (.int .i64 (a / 8)) w:=pN_shrn 3 3 8 rfl (by decide) (by decide)
theorem pN_and_3_7 (xo yo:Operand) (a:Int):pN zp (oBin .and 3 xo yo (.int .i64 a) (.int .i64 7)) w K=K (.int .i64 (a%8)) w:=pN_andn 3 7 8 rfl rfl (by decide) (wrap_i64 (by omega))
theorem run_bld_23_0_2 (x0:Int) (x2:Int) (w:World):(oBuild 23 [(0,.int .i64 x0),(2,.int .i64 x2)]).run zp w= .ok (.value (.agg #[(.int .i64 x0),(.int .i64 0),(.int .i64 x2)])) w:=by kernel_rfl
theorem pN_bld_23_0_2 (x0:Int) (x2:Int):pN zp (oBuild 23 [(0,.int .i64 x0),(2,.int .i64 x2)]) w K=K (.agg #[(.int .i64 x0),(.int .i64 0),(.int .i64 x2)]) w:=by rw[pN_def,run_bld_23_0_2,rN_value]
theorem run_bld_25_0_2_3_4 (x0:Int) (x2_0:Int) (x2_1:Int) (x2_2:Int) (x3:Int) (x4:Int) (w:World):(oBuild 25 [(0,.int .i64 x0),(2,.agg #[.int .i64 x2_0,.int .i64 x2_1,.int .i64 x2_2]),(3,.int .i64 x3),(4,.int .i64 x4)]).run zp w= .ok (.value (.agg #[(.int .i64 x0),(.int .i64 0),(.int .i64 x2_0),(.int .i64 x2_1),(.int .i64 x2_2),(.int .i64 x3),(.int .i64 x4),(.int .i64 0)])) w:=by kernel_rfl
theorem pN_bld_25_0_2_3_4 (x0:Int) (x2_0:Int) (x2_1:Int) (x2_2:Int) (x3:Int) (x4:Int):pN zp (oBuild 25 [(0,.int .i64 x0),(2,.agg #[.int .i64 x2_0,.int .i64 x2_1,.int .i64 x2_2]),(3,.int .i64 x3),(4,.int .i64 x4)]) w K=K (.agg #[(.int .i64 x0),(.int .i64 0),(.int .i64 x2_0),(.int .i64 x2_1),(.int .i64 x2_2),(.int .i64 x3),(.int .i64 x4),(.int .i64 0)]) w:=by rw[pN_def,run_bld_25_0_2_3_4,rN_value]
theorem run_bld_27_0_1_2 (x0:Int) (x1:Int) (x2:Int) (w:World):(oBuild 27 [(0,.int .i64 x0),(1,.int .i64 x1),(2,.int .i64 x2)]).run zp w= .ok (.value (.agg #[(.int .i64 x0),(.int .i64 x1),(.int .i64 x2)])) w:=by kernel_rfl
theorem pN_bld_27_0_1_2 (x0:Int) (x1:Int) (x2:Int):pN zp (oBuild 27 [(0,.int .i64 x0),(1,.int .i64 x1),(2,.int .i64 x2)]) w K=K (.agg #[(.int .i64 x0),(.int .i64 x1),(.int .i64 x2)]) w:=by rw[pN_def,run_bld_27_0_1_2,rN_value]
theorem run_bld_49_ (w:World):(oBuild 49 []).run zp w= .ok (.value (.agg #[(.string ⟨#[]⟩),(.string ⟨#[]⟩),(.int .i64 0),(.int .i64 0),(.int .i64 0),(.slice none 0 0)])) w:=by kernel_rfl
theorem pN_bld_49_:pN zp (oBuild 49 []) w K=K (.agg #[(.string ⟨#[]⟩),(.string ⟨#[]⟩),(.int .i64 0),(.int .i64 0),(.int .i64 0),(.slice none 0 0)]) w:=by rw[pN_def,run_bld_49_,rN_value]
theorem run_bld_49_0 (x0:ByteArray) (w:World):(oBuild 49 [(0,.string x0)]).run zp w= .ok (.value (.agg #[(.string x0),(.string ⟨#[]⟩),(.int .i64 0),(.int .i64 0),(.int .i64 0),(.slice none 0 0)])) w:=by kernel_rfl
theorem pN_bld_49_0 (x0:ByteArray):pN zp (oBuild 49 [(0,.string x0)]) w K=K (.agg #[(.string x0),(.string ⟨#[]⟩),(.int .i64 0),(.int .i64 0),(.int .i64 0),(.slice none 0 0)]) w:=by rw[pN_def,run_bld_49_0,rN_value]
theorem run_bld_49_2 (x2:Int) (w:World):(oBuild 49 [(2,.int .i64 x2)]).run zp w= .ok (.value (.agg #[(.string ⟨#[]⟩),(.string ⟨#[]⟩),(.int .i64 x2),(.int .i64 0),(.int .i64 0),(.slice none 0 0)])) w:=by kernel_rfl
theorem pN_bld_49_2 (x2:Int):pN zp (oBuild 49 [(2,.int .i64 x2)]) w K=K (.agg #[(.string ⟨#[]⟩),(.string ⟨#[]⟩),(.int .i64 x2),(.int .i64 0),(.int .i64 0),(.slice none 0 0)]) w:=by rw[pN_def,run_bld_49_2,rN_value]
theorem run_bld_118_0 (x0_0:ByteArray) (x0_1:ByteArray) (x0_2:Int) (x0_3:Int) (x0_4:Int) (x0_5:Option Addr) (x0_5n x0_5c:Nat) (w:World):(oBuild 118 [(0,.agg #[.string x0_0,.string x0_1,.int .i64 x0_2,.int .i64 x0_3,.int .i64 x0_4,.slice x0_5 x0_5n x0_5c])]).run zp w= .ok (.value (.agg #[(.string x0_0),(.string x0_1),(.int .i64 x0_2),(.int .i64 x0_3),(.int .i64 x0_4),(.slice x0_5 x0_5n x0_5c),(.slice none 0 0)])) w:=by kernel_rfl
theorem pN_bld_118_0 (x0_0:ByteArray) (x0_1:ByteArray) (x0_2:Int) (x0_3:Int) (x0_4:Int) (x0_5:Option Addr) (x0_5n x0_5c:Nat):pN zp (oBuild 118 [(0,.agg #[.string x0_0,.string x0_1,.int .i64 x0_2,.int .i64 x0_3,.int .i64 x0_4,.slice x0_5 x0_5n x0_5c])]) w K=K (.agg #[(.string x0_0),(.string x0_1),(.int .i64 x0_2),(.int .i64 x0_3),(.int .i64 x0_4),(.slice x0_5 x0_5n x0_5c),(.slice none 0 0)]) w:=by rw[pN_def,run_bld_118_0,rN_value]
theorem run_bld_194_ (w:World):(oBuild 194 []).run zp w= .ok (.value (.agg #[(.string ⟨#[]⟩),(.string ⟨#[]⟩),(.int .i64 0),(.int .i64 0),(.int .i64 0),(.slice none 0 0),(.slice none 0 0)])) w:=by kernel_rfl
theorem pN_bld_194_:pN zp (oBuild 194 []) w K=K (.agg #[(.string ⟨#[]⟩),(.string ⟨#[]⟩),(.int .i64 0),(.int .i64 0),(.int .i64 0),(.slice none 0 0),(.slice none 0 0)]) w:=by rw[pN_def,run_bld_194_,rN_value]
theorem run_bld_194_0 (x0_0:ByteArray) (x0_1:ByteArray) (x0_2:Int) (x0_3:Int) (x0_4:Int) (x0_5:Option Addr) (x0_5n x0_5c:Nat) (w:World):(oBuild 194 [(0,.agg #[.string x0_0,.string x0_1,.int .i64 x0_2,.int .i64 x0_3,.int .i64 x0_4,.slice x0_5 x0_5n x0_5c])]).run zp w= .ok (.value (.agg #[(.string x0_0),(.string x0_1),(.int .i64 x0_2),(.int .i64 x0_3),(.int .i64 x0_4),(.slice x0_5 x0_5n x0_5c),(.slice none 0 0)])) w:=by kernel_rfl
theorem pN_bld_194_0 (x0_0:ByteArray) (x0_1:ByteArray) (x0_2:Int) (x0_3:Int) (x0_4:Int) (x0_5:Option Addr) (x0_5n x0_5c:Nat):pN zp (oBuild 194 [(0,.agg #[.string x0_0,.string x0_1,.int .i64 x0_2,.int .i64 x0_3,.int .i64 x0_4,.slice x0_5 x0_5n x0_5c])]) w K=K (.agg #[(.string x0_0),(.string x0_1),(.int .i64 x0_2),(.int .i64 x0_3),(.int .i64 x0_4),(.slice x0_5 x0_5n x0_5c),(.slice none 0 0)]) w:=by rw[pN_def,run_bld_194_0,rN_value]
theorem run_bld_224_0 (x0:Option Addr) (x0n x0c:Nat) (w:World):(oBuild 224 [(0,.slice x0 x0n x0c)]).run zp w= .ok (.value (.agg #[(.slice x0 x0n x0c)])) w:=by kernel_rfl
theorem pN_bld_224_0 (x0:Option Addr) (x0n x0c:Nat):pN zp (oBuild 224 [(0,.slice x0 x0n x0c)]) w K=K (.agg #[(.slice x0 x0n x0c)]) w:=by rw[pN_def,run_bld_224_0,rN_value]
theorem run_bld_247_0_1 (x0:ByteArray) (x1:Option Addr) (x1n x1c:Nat) (w:World):(oBuild 247 [(0,.string x0),(1,.slice x1 x1n x1c)]).run zp w= .ok (.value (.agg #[(.string x0),(.slice x1 x1n x1c)])) w:=by kernel_rfl
theorem pN_bld_247_0_1 (x0:ByteArray) (x1:Option Addr) (x1n x1c:Nat):pN zp (oBuild 247 [(0,.string x0),(1,.slice x1 x1n x1c)]) w K=K (.agg #[(.string x0),(.slice x1 x1n x1c)]) w:=by rw[pN_def,run_bld_247_0_1,rN_value]
theorem run_bld_214_0_1_2_3_4_5_6_7 (x0:Int) (x1:Int) (x2:Int) (x3:Int) (x4:Int) (x5:Int) (x6:Int) (x7:Int) (w:World):(oBuild 214 [(0,.int .u32 x0),(1,.int .u32 x1),(2,.int .u32 x2),(3,.int .u32 x3),(4,.int .u32 x4),(5,.int .u32 x5),(6,.int .u32 x6),(7,.int .u32 x7)]).run zp w= .ok (.value (.agg #[(.int .u32 x0),(.int .u32 x1),(.int .u32 x2),(.int .u32 x3),(.int .u32 x4),(.int .u32 x5),(.int .u32 x6),(.int .u32 x7)])) w:=by kernel_rfl
theorem pN_bld_214_0_1_2_3_4_5_6_7 (x0:Int) (x1:Int) (x2:Int) (x3:Int) (x4:Int) (x5:Int) (x6:Int) (x7:Int):pN zp (oBuild 214 [(0,.int .u32 x0),(1,.int .u32 x1),(2,.int .u32 x2),(3,.int .u32 x3),(4,.int .u32 x4),(5,.int .u32 x5),(6,.int .u32 x6),(7,.int .u32 x7)]) w K=K (.agg #[(.int .u32 x0),(.int .u32 x1),(.int .u32 x2),(.int .u32 x3),(.int .u32 x4),(.int .u32 x5),(.int .u32 x6),(.int .u32 x7)]) w:=by rw[pN_def,run_bld_214_0_1_2_3_4_5_6_7,rN_value]
end
attribute [go_sem] pN_shr_3_u64_3 pN_and_3_7 pN_bld_23_0_2 pN_bld_25_0_2_3_4 pN_bld_27_0_1_2 pN_bld_49_ pN_bld_49_0 pN_bld_49_2 pN_bld_118_0 pN_bld_194_ pN_bld_194_0 pN_bld_224_0 pN_bld_247_0_1 pN_bld_214_0_1_2_3_4_5_6_7
theorem cells_3:zp.cellsOf 3=1:=by kernel_rfl
theorem cells_5:zp.cellsOf 5=1:=by kernel_rfl
theorem bytes_5:zp.bytesOf 5=1:=by kernel_rfl
theorem cells_9:zp.cellsOf 9=1:=by kernel_rfl
theorem cells_30:zp.cellsOf 30=1:=by kernel_rfl
theorem cells_47:zp.cellsOf 47=1:=by kernel_rfl
theorem bytes_47:zp.bytesOf 47=24:=by kernel_rfl
theorem cells_49:zp.cellsOf 49=6:=by kernel_rfl
theorem bytes_49:zp.bytesOf 49=80:=by kernel_rfl
theorem cells_144:zp.cellsOf 144=2:=by kernel_rfl
theorem bytes_144:zp.bytesOf 144=40:=by kernel_rfl
theorem piece (cs:List Value) (o s:Nat):cs.drop o=(cs.drop o).take s++cs.drop (o+s):=by rw[←List.drop_drop,List.take_append_drop]
def T_api_Item.ok (W:World) (b:T_api_Item) (k:Nat):Prop:=(∃k',k'≤k∧(b.Name.length≤reachBytes∧b.Name.length+1≤k'))∧(∃k',k'≤k∧(b.Link.length≤reachBytes∧b.Link.length+1≤k'))∧(-9223372036854775808≤b.Kind∧b.Kind<9223372036854775808)∧(-9223372036854775808≤b.Mode∧b.Mode<9223372036854775808)∧(-9223372036854775808≤b.Time∧b.Time<9223372036854775808)∧(∃k',k'≤k∧(RdP cd_uint8 (old W) b.Data.1 b.Data.2∧b.Data.2.length*1≤reachBytes∧b.Data.2.length+1≤k'∧∀c0∈b.Data.2,∃k0,k0≤k'∧True))
theorem opn_api_Item (W:World):Opn zp W 49 T_api_Item.enc (T_api_Item.ok W):=by
 refine⟨fun {H} en fuel cs x hx hw=>?_⟩
 obtain⟨xs,n,_,rfl,hl,hlen,hf⟩:=DataW.trod_struct Tryz.underlying49 hx
 have hlen:xs.length=6:=hlen
 rw[cells_49] at hl
 obtain⟨b0,e0,k0,m0,o0⟩:=opn_field Tryz.underlying49 hw hf 0 9 0 1 ⟨_,rfl,rfl,rfl⟩ cells_9 (by omega) (opn_str Tryz.underlying9)
 have q0:=piece cs 0 1
 rw[e0] at q0
 obtain⟨b1,e1,k1,m1,o1⟩:=opn_field Tryz.underlying49 hw hf 1 9 1 1 ⟨_,rfl,rfl,rfl⟩ cells_9 (by omega) (opn_str Tryz.underlying9)
 have q1:=piece cs 1 1
 rw[e1] at q1
 obtain⟨b2,e2,k2,m2,o2⟩:=opn_field Tryz.underlying49 hw hf 2 3 2 1 ⟨_,rfl,rfl,rfl⟩ cells_3 (by omega) (opn_i64 Tryz.underlying3)
 have q2:=piece cs 2 1
 rw[e2] at q2
 obtain⟨b3,e3,k3,m3,o3⟩:=opn_field Tryz.underlying49 hw hf 3 3 3 1 ⟨_,rfl,rfl,rfl⟩ cells_3 (by omega) (opn_i64 Tryz.underlying3)
 have q3:=piece cs 3 1
 rw[e3] at q3
 obtain⟨b4,e4,k4,m4,o4⟩:=opn_field Tryz.underlying49 hw hf 4 3 4 1 ⟨_,rfl,rfl,rfl⟩ cells_3 (by omega) (opn_i64 Tryz.underlying3)
 have q4:=piece cs 4 1
 rw[e4] at q4
 obtain⟨b5,e5,k5,m5,o5⟩:=opn_field Tryz.underlying49 hw hf 5 47 5 1 ⟨_,rfl,rfl,rfl⟩ cells_47 (by omega) (opn_slice (C:=cd_uint8) Tryz.underlying47 cells_5 bytes_5 (opn_u8 Tryz.underlying5))
 have q5:=piece cs 5 1
 rw[e5] at q5
 have hz:cs.drop 6=[]:=List.drop_of_length_le (by omega)
 refine⟨⟨b0,b1,b2,b3,b4,b5⟩,?_,⟨⟨_,m0,o0⟩,⟨_,m1,o1⟩,o2,o3,o4,⟨_,m5,o5⟩⟩⟩
 have q:cs.drop 0=_:=q0
 simp only[Nat.zero_add,Nat.reduceAdd,hz,List.drop_zero] at q q1 q2 q3 q4 q5
 rw[q1] at q
 rw[q2] at q
 rw[q3] at q
 rw[q4] at q
 rw[q5] at q
 exact q
def T_pithlaw37_Snap.ok (W:World) (b:T_pithlaw37_Snap) (k:Nat):Prop:=(∃k',k'≤k∧(b.Name.length≤reachBytes∧b.Name.length+1≤k'))∧(∃k',k'≤k∧(RdP cd_api_Item (old W) b.Items.1 b.Items.2∧b.Items.2.length*80≤reachBytes∧b.Items.2.length+1≤k'∧∀c0∈b.Items.2,∃k0,k0≤k'∧c0.ok W k0))
def T_pithlaw37_Snap.okS (W:World) (b:T_pithlaw37_Snap) (k:Nat):Prop:=(∃k',k'≤k∧(b.Name.length≤reachBytes∧b.Name.length+1≤k'))∧(∃k',k'≤k∧(RdP cd_api_Item (old W) b.Items.1 b.Items.2∧b.Items.2.length*80≤reachBytes∧b.Items.2.length+1≤k'∧Sum2 (T_api_Item.ok W) b.Items.2 k'))
theorem opnS_pithlaw37_Snap (W:World):Opn zp W 144 T_pithlaw37_Snap.enc (T_pithlaw37_Snap.okS W):=by
 refine⟨fun {H} en fuel cs x hx hw=>?_⟩
 obtain⟨xs,n,_,rfl,hl,hlen,hf⟩:=DataW.trod_struct Tryz.underlying144 hx
 have hlen:xs.length=2:=hlen
 rw[cells_144] at hl
 obtain⟨b0,e0,k0,m0,o0⟩:=opn_field Tryz.underlying144 hw hf 0 9 0 1 ⟨_,rfl,rfl,rfl⟩ cells_9 (by omega) (opn_str Tryz.underlying9)
 have q0:=piece cs 0 1
 rw[e0] at q0
 obtain⟨b1,e1,k1,m1,o1⟩:=opn_field Tryz.underlying144 hw hf 1 30 1 1 ⟨_,rfl,rfl,rfl⟩ cells_30 (by omega) (opn_sliceS (C:=cd_api_Item) Tryz.underlying30 cells_49 bytes_49 (opn_api_Item W))
 have q1:=piece cs 1 1
 rw[e1] at q1
 have hz:cs.drop 2=[]:=List.drop_of_length_le (by omega)
 refine⟨⟨b0,b1⟩,?_,⟨⟨_,m0,o0⟩,⟨_,m1,o1⟩⟩⟩
 have q:cs.drop 0=_:=q0
 simp only[Nat.zero_add,Nat.reduceAdd,hz,List.drop_zero] at q q1
 rw[q1] at q
 exact q
end
end Go.Proofs.YtikmogfhhggafaaGreatDoor
