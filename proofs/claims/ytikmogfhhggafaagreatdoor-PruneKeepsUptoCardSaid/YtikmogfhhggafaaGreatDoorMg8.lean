import Derived.Test.YtikmogfhhggafaaGreatDoorRows
import Derived.Test.YtikmogfhhggafaaGreatDoorMg7
set_option linter.all false
namespace Go.Proofs.YtikmogfhhggafaaGreatDoor
open Go
open Go.Proofs.Tryz renaming prog→zp
section
attribute [local irreducible] oMv oV oU oCall oCallV oBi oBin oUn oLoad oStore oNil oFld oField oIdx oIndex oPick oAlloc oBox oBuild oBs oConv oMk oSl oExt oFn oIface oMap oLook oMapUp oRange oNext oEntry oInv oAssert oPanic oRes pN pA pL pDr pIf gA pGd Calls
section
theorem list32 {α:Type}:∀(l:List α),l.length=32→∃a0 a1 a2 a3 a4 a5 a6 a7 a8 a9 b0 b1 b2 b3 b4 b5 b6 b7 b8 b9 c0 c1 c2 c3 c4 c5 c6 c7 c8 c9 d0 d1,l=[a0,a1,a2,a3,a4,a5,a6,a7,a8,a9,b0,b1,b2,b3,b4,b5,b6,b7,b8,b9,c0,c1,c2,c3,c4,c5,c6,c7,c8,c9,d0,d1]
 | [a0,a1,a2,a3,a4,a5,a6,a7,a8,a9,b0,b1,b2,b3,b4,b5,b6,b7,b8,b9,c0,c1,c2,c3,c4,c5,c6,c7,c8,c9,d0,d1],_=>⟨a0,a1,a2,a3,a4,a5,a6,a7,a8,a9,b0,b1,b2,b3,b4,b5,b6,b7,b8,b9,c0,c1,c2,c3,c4,c5,c6,c7,c8,c9,d0,d1,rfl⟩
set_option maxRecDepth 8000 in
theorem run_bPc (i:I32) (sa:Option Addr) (n m:Nat) (w:World):(oBuild 281 [(0,.agg (bvs i.l).toArray),(1,.slice sa n m)]).run zp w= .ok (.value (.agg (bvs i.l++[Value.slice sa n m]).toArray)) w:=by
 obtain⟨l,h⟩:=i
 obtain⟨a0,a1,a2,a3,a4,a5,a6,a7,a8,a9,b0,b1,b2,b3,b4,b5,b6,b7,b8,b9,c0,c1,c2,c3,c4,c5,c6,c7,c8,c9,d0,d1,rfl⟩:=list32 l h
 kernel_rfl
theorem pN_bPc [Pan] {w:World} {K:Value→World→Prop} (i:I32) (s:Sl) (p:List UInt8) (hk:K (.agg (cdPc.enc (i,(s,p))).toArray) w):pN zp (oBuild 281 [(0,.agg (bvs i.l).toArray),(1,.slice s.a p.length s.c)]) w K:=by
 rw[pN_def,run_bPc,rN_value]
 exact hk
set_option maxRecDepth 4000 in
theorem r5_set (c:T_api_Config) (k:C.K) (sp sn s:Sl) (n m j:Nat):(r5C c k sp n sn m).set 11 (.slice s.a j s.c)=r5C c k s j sn m:=by cases c;rfl
set_option maxRecDepth 4000 in
theorem r5_setn (c:T_api_Config) (k:C.K) (sp sn s:Sl) (n m j:Nat):(r5C c k sp n sn m).set 12 (.slice s.a j s.c)=r5C c k sp n s j:=by cases c;rfl
namespace H
theorem raw_sum (b:List UInt8):raw b=(sum b).l:=rfl
end H
attribute [local irreducible] H.sum H.raw C.fst C.endsA C.endsR
section
variable [Pan] {E w W:World} {K Q:Value→World→Prop} {J:Value→Prop} {L M N N':List HA} {l p:List UInt8} {s:Sl} {b nn:Nat} {k:C.K} {c:T_api_Config} {sp sn:Sl} {pl:List PcE} {nl:List NmE} {d:D.T} {fz:List HA} {li:List I32}
set_option maxHeartbeats 1000000 in
theorem r5find_ok (i:I32) (hS:Sat E w L) [hf:Fnd (cel b) L ⟨189,r5C c k sp pl.length sn nn⟩ M] [hr:Rds cdPc M sp pl] (hl:pl.length≤1099511627776)
  (hyes:∀(n:Nat) (x:PcE) w,pl[n]? =some x→x.1=i→D.look (plm pl) i=some x.2.2→Sat E w (cel b ⟨189,r5C c k sp pl.length sn nn⟩::M)→Q (.int .i64 n) w)
  (hno:∀w,D.look (plm pl) i=none→Sat E w (cel b ⟨189,r5C c k sp pl.length sn nn⟩::M)→Q (.int .i64 (-1)) w):
  Calls zp 202 #[.pointer (some ⟨b,0,none⟩),.agg (bvs i.l).toArray] w (retP Q):=by
 refine pithref35_Depot_find.calls ?_
 unfold pithref35_Depot_find.F
 have hS1:=hS.fd (cel b)
 clear hS hf
 have hS:=hS1
 clear hS1
 refine pN_bx (z:=bvs i.l) hS rfl ?_
 clear hS
 intro ib w hS
 refine⟨fun v w=>∃j:Nat,v= .int .i64 j∧j≤pl.length∧D.look (plm (pl.take j)) i=none∧Sat E w (cel ib ⟨58,bvs i.l⟩::cel b ⟨189,r5C c k sp pl.length sn nn⟩::M),fun v _=>pl.length-(RowKit.intOf v).toNat,⟨0,rfl,by omega,by rw[List.take_zero];rfl,hS⟩,?_⟩
 clear hS
 rintro _ _ w ⟨j,rfl,hj,h0,hS⟩
 by_cases hlt:j<pl.length
 ·obtain⟨x,hx⟩:∃x,pl[j]? =some x:=⟨pl[j],List.getElem?_eq_getElem _⟩
  have hfi:=fun h=>look_first (k:=i) h0 hx h
  have hpa:=fun h=>look_past (k:=i) h0 hx h
  repeat' (first|refine pA_ixk (C:=cdPc) (s:=sp) (l:=pl) hS j (by omega) (by omega) hx fun ad ha hel=>?_|refine pA_fan ha (bvs x.1.l) (pc_id x) fun ad2 ha2=>?_|refine pL_ld_at ha2 hS (i32n _) ?_|refine pL_la_at (n:=32) hS (bvs i.l) (i32t _) (i32n _) ?_|(refine pA_eql_id (a:=x.1) (b:=i) (fun hxy=>?_) fun hxy=>?_)|(refine pN_lss_s ?_ ?_<;>intro hc<;>try (exfalso;omega))|refine pIf_t ?_|refine pIf_f ?_|refine pN_l hS (by first|rfl|assumption) ?_|refine pL_l hS (by first|rfl|assumption) ?_|(refine pDr_go hS ?_;clear hS;intro w hS)|refine pN_v (hk:=?_)|refine pA_v (hk:=?_)|fail)
  ·exact hyes j x _ hx hxy (hfi hxy) hS.to
  ·exact⟨⟨j+1,rfl,hlt,hpa hxy,hS⟩,by simp[RowKit.intOf]<;>omega⟩
 ·obtain rfl:j=pl.length:=by omega
  rw[List.take_length] at h0
  repeat' (first|(refine pN_lss_s ?_ ?_<;>intro hc<;>try (exfalso;omega))|refine pIf_f ?_|refine pN_l hS (by first|rfl|assumption) ?_|refine pN_v (hk:=?_)|fail)
  exact hno _ h0 hS.to
theorem r5text_ok (i:I32) (hS:Sat E w M) (hQ:∀w,Sat E w M→Q (.string ⟨i.l.toArray⟩) w):Calls zp 200 #[.agg (bvs i.l).toArray] w (retP Q):=by
 refine pithref35_text.calls ?_
 unfold pithref35_text.F
 refine pN_bx (z:=bvs i.l) hS rfl ?_
 clear hS
 intro ib w hS
 haveI hrc:=rd_cel (b:=ib) (e:=58) i.h
 refine pN_asla (n:=32) (Nat.succ_pos _) ?_
 refine pN_st (s:=⟨some ⟨ib,0,none⟩,32⟩) (l:=i.l) hS i.h.symm ?_
 exact hQ _ hS.to
set_option maxHeartbeats 2000000 in
theorem r5Has_ok (i:I32) (hS:Sat E w L) [hf:Fnd (cel b) L ⟨189,r5C c k sp pl.length sn nn⟩ M] [hr:Rds cdPc M sp pl] (hl:pl.length≤1099511627776)
  (hQ:∀w,Sat E w (cel b ⟨189,r5C c k sp pl.length sn nn⟩::M)→Q (.bool (D.look (plm pl) i).isSome) w):
  Calls zp 199 #[.pointer (some ⟨b,0,none⟩),.agg (bvs i.l).toArray] w (retP Q):=by
 refine pithref35_Depot_Has.calls ?_
 unfold pithref35_Depot_Has.F
 have hS1:=hS.fd (cel b)
 clear hS hf
 have hS:=hS1
 clear hS1
 refine pN_bx (z:=bvs i.l) hS rfl ?_
 clear hS
 intro ib w hS
 refine pN_la_at (n:=32) hS (bvs i.l) (i32t _) (i32n _) ?_
 refine pcq (f:=202) (r5find_ok (c:=c) (pl:=pl) i hS hl (fun n x w h1 h2 h3 hS=>?_) fun w h3 hS=>?_)
 ·rw[h3] at hQ
  repeat' (first|(refine pN_geq_s ?_ ?_<;>intro hc<;>try (exfalso;omega))|fail)
  exact hQ _ hS.to
 ·rw[h3] at hQ
  repeat' (first|(refine pN_geq_s ?_ ?_<;>intro hc<;>try (exfalso;omega))|fail)
  exact hQ _ hS.to
set_option maxHeartbeats 4000000 in
theorem r5keep_ok (hS:Sat E w L) [hf:Fnd (RDq c b) L (d,fz) N] [hr:RdP cd_uint8 (bag fz) s p] (hp:p.length≤1099511627776) (hl:d.ps.length≤1099511627776)
  (hQ:∀w,Sat E w (RDq c b (d.put1 p,fz)::N)→Q (.agg (bvs (H.sum p).l).toArray) w):
  Calls zp 149 #[.pointer (some ⟨b,0,none⟩),.slice s.a p.length s.c] w (retP Q):=by
 refine pithref35_Depot_keep.calls ?_
 unfold pithref35_Depot_keep.F
 have hS1:=hS.fd (RDq c b)
 clear hS hf
 obtain⟨sp,sn,pl,nl,ht,hS⟩:=RDq.opn hS1
 clear hS1
 have hpl:pl.length≤1099511627776:=by
  have h1:(plm pl).length≤d.ps.length:=ht.like.pl
  rw[plm_len] at h1
  omega
 have hps:D.look (plm pl) (H.sum p)=D.look d.ps (H.sum p):=ht.like.ps (H.sum p)
 have hhas:d.has (H.sum p)=(D.look (plm pl) (H.sum p)).isSome:=by rw[hps];rfl
 have hpt:=D.put1_has (d:=d) (p:=p)
 have hlk:=fun(A R:List (I32×List UInt8)) (h:plm pl=A++R) (hn:d.has (H.sum p)=false)=>D.Like.put1 ht.like (A:=A) (R:=R) h (p:=p) hn
 have hk1:(d.put1 p).k=d.k:=D.put1_k d p
 have hrw:=H.raw_sum p
 refine pN_nz (t:=58) hS ?_
 clear hS
 intro rb w hS
 rw[zeros32] at hS
 refine pcq (f:=198) (rSum_ok (sb:=s) (b:=p) hS hp ?_)
 rw[hrw]
 clear hS
 intro w hS
 generalize H.sum p=i at*
 generalize d.put1 p=d2 at*
 refine pN_nz (t:=58) hS ?_
 clear hS
 intro ib w hS
 rw[zeros32] at hS
 refine pN_sid hS i (by rfl) ?_
 clear hS
 intro w hS
 dsimp only at hS
 refine pN_la_at (n:=32) hS (bvs i.l) (i32t _) (i32n _) ?_
 refine pcq (f:=199) (r5Has_ok (c:=c) (pl:=pl) i hS hpl ?_)
 rw[←hhas]
 clear hS
 intro w hS
 cases hh:d.has i with
 |true=>
  rw[hpt hh] at hQ
  refine pIf_t ?_
  refine pN_la_at (n:=32) hS (bvs i.l) (i32t _) (i32n _) ?_
  refine pN_sid hS i (by rfl) ?_
  clear hS
  intro w hS
  refine pL_ra (b:=rb) hS (by rw[bvs_length,i.h]) ?_
  have hS:Sat E w (r5P c b d.k sp pl sn nl (bag fz::N)):=hS.to
  exact hQ _ (RDq.shut ht rfl hS)
 |false=>
  refine pIf_f ?_
  have hS:Sat E w (cel b ⟨189,r5C c d.k sp pl.length sn nl.length⟩::cel ib ⟨58,bvs i.l⟩::cel rb ⟨58,bvs (List.replicate 32 0)⟩::rows cdPc sp pl::rows cdNm sn nl::bag fz::N):=hS.to
  refine⟨fun v v' w=>∃(j:Nat) (so:Sl),v= .slice so.a (pl.take j).length so.c∧v'= .int .i64 j∧j≤pl.length∧Sat E w (rows cdPc so (pl.take j)::cel b ⟨189,r5C c d.k sp pl.length sn nl.length⟩::cel ib ⟨58,bvs i.l⟩::cel rb ⟨58,bvs (List.replicate 32 0)⟩::rows cdPc sp pl::rows cdNm sn nl::bag fz::N),fun _ v _=>pl.length-(RowKit.intOf v).toNat,
   ⟨0,⟨none,0⟩,rfl,rfl,by omega,by rw[List.take_zero];exact hS.nil cdPc.e cdPc.size⟩,?_⟩
  clear hS
  rintro _ _ _ w ⟨j,so,rfl,rfl,hj,hS⟩
  have htl:(pl.take j).length=j:=by rw[List.length_take];omega
  have hdl:(pl.drop j).length=pl.length-j:=List.length_drop
  have hend:∀(s':Sl) w,Sat E w (rows cdPc s' ((pl.take j++[(i,(s,p))])++pl.drop j)::cel b ⟨189,r5C c d.k s' ((pl.take j++[(i,(s,p))])++pl.drop j).length sn nl.length⟩::rows cdPc sp pl::rows cdNm sn nl::bag fz::N)→Q (.agg (bvs i.l).toArray) w:=fun s' w hS=>by
   have hS:Sat E w (r5P c b d.k s' ((pl.take j++[(i,(s,p))])++pl.drop j) sn nl (bag fz::N)):=hS.to
   refine hQ _ (RDq.shut ⟨?_,fun x hx=>?_,ht.nr⟩ hk1.symm hS)
   ·have h1:=hlk _ _ (plm_cut pl j) hh
    rw[hk1]
    rw[plm_app,plm_app,List.append_assoc]
    exact h1
   ·rcases List.mem_append.1 hx with hx|hx
    ·rcases List.mem_append.1 hx with hx|hx
     ·exact ht.pr x (List.mem_of_mem_take hx)
     ·obtain rfl:x=(i,(s,p)):=by simpa using hx
      exact hr
    ·exact ht.pr x (List.mem_of_mem_drop hx)
  by_cases hlt:j<pl.length
  ·obtain⟨x,hx⟩:∃x,pl[j]? =some x:=⟨pl[j],List.getElem?_eq_getElem _⟩
   have hsn:pl.take (j+1)=pl.take j++[x]:=by rw[List.take_add_one,hx];rfl
   cases hb:Op.bytesLess x.1.l i.l with
   |true=>
    generalize pl.take j=A at*
    repeat' (first|refine pA_ixk (C:=cdPc) (s:=sp) (l:=pl) hS j (by omega) (by omega) hx fun ad ha hel=>?_|refine pN_ixk (C:=cdPc) (s:=sp) (l:=pl) hS j (by omega) (by omega) hx fun ad ha hel=>?_|refine pA_fan ha (bvs x.1.l) (pc_id x) fun ad2 ha2=>?_|refine pL_ld_at ha2 hS (i32n _) ?_|refine pL_la_at (n:=32) hS (bvs i.l) (i32t _) (i32n _) ?_|(refine pcq (f:=200) (r5text_ok x.1 hS ?_);clear hS;intro w hS)|(refine pcq (f:=200) (r5text_ok i hS ?_);clear hS;intro w hS)|refine⟨⟨fun _=>run_la_at (n:=32) hS (bvs i.l) (i32t i) (i32n i),trivial⟩,?_⟩|(rw[pA_lss_l,hb])|refine pN_ld_at ha hS (cdPc.len x).symm ?_|(refine pN_b1 (C:=cdPc) (x:=x) hS rfl (by decide) ?_;clear hS;intro s3 w hS)|(refine pN_app (C:=cdPc) (s:=so) (l:=A) hS rfl rfl (by rw[List.length_singleton];omega) ?_;clear hS;intro s4 w hS)|(refine pA_lss_s ?_ ?_<;>intro hc<;>try (exfalso;omega))|refine pIf_t ?_|refine gA_go (by rfl) ?_|refine pGd_go (by rfl) ?_|refine pN_l hS (by first|rfl|assumption) ?_|refine pL_l hS (by first|rfl|assumption) ?_|(refine pDr_go hS ?_;clear hS;intro w hS)|refine⟨trivial,?_⟩|refine pN_v (hk:=?_)|refine pA_v (hk:=?_)|fail)
    rw[←hsn] at hS ⊢
    exact⟨⟨j+1,s4,rfl,rfl,hlt,hS.to⟩,by simp[RowKit.intOf]<;>omega⟩
   |false=>
    generalize pl.take j=A at*
    repeat' (first|refine pA_ixk (C:=cdPc) (s:=sp) (l:=pl) hS j (by omega) (by omega) hx fun ad ha hel=>?_|refine pA_fan ha (bvs x.1.l) (pc_id x) fun ad2 ha2=>?_|refine pL_ld_at ha2 hS (i32n _) ?_|refine pL_la_at (n:=32) hS (bvs i.l) (i32t _) (i32n _) ?_|(refine pcq (f:=200) (r5text_ok x.1 hS ?_);clear hS;intro w hS)|(refine pcq (f:=200) (r5text_ok i hS ?_);clear hS;intro w hS)|refine⟨⟨fun _=>run_la_at (n:=32) hS (bvs i.l) (i32t i) (i32n i),trivial⟩,?_⟩|(rw[pA_lss_l,hb])|refine pN_la_at (b:=ib) (n:=32) hS (bvs i.l) (i32t _) (i32n _) ?_|refine pN_bPc i s p ?_|(refine pN_b1 (C:=cdPc) (x:=((i,(s,p)):PcE)) hS rfl (by decide) ?_;clear hS;intro s3 w hS)|(refine pN_app (C:=cdPc) (s:=so) (l:=A) (m:=[((i,(s,p)):PcE)]) hS rfl rfl (by rw[List.length_singleton];omega) ?_;clear hS;intro s4 w hS)|(refine pA_lss_s ?_ ?_<;>intro hc<;>try (exfalso;omega))|refine pIf_f ?_|refine gA_go (by rfl) ?_|refine pGd_go (by rfl) ?_|refine pN_l hS (by first|rfl|assumption) ?_|refine pL_l hS (by first|rfl|assumption) ?_|(refine pDr_go hS ?_;clear hS;intro w hS)|refine⟨trivial,?_⟩|refine pN_v (hk:=?_)|refine pA_v (hk:=?_)|fail)
    refine pN_sl1 (C:=cdPc) (s:=sp) (l:=pl) hS j rfl rfl hj ?_
    intro s5 hp5
    haveI h5:Rds cdPc (rows cdPc sp pl::rows cdNm sn nl::bag fz::N) s5 (pl.drop j):=hp5.rd _ inferInstance
    repeat' (first|(refine pN_app (C:=cdPc) (s:=s4) (s2:=s5) (l:=A++[((i,(s,p)):PcE)]) (m:=pl.drop j) hS rfl hdl.symm (by rw[List.length_append,List.length_singleton];omega) ?_;clear hS;intro s6 w hS)|(refine pN_s hS (by first|exact Nat.le_of_ble_eq_true rfl|assumption) (by rfl) ?_;clear hS;intro w hS;try simp only[List.set_cons_zero,List.set_cons_succ] at hS)|refine pN_v (hk:=?_)|fail)
    rw[r5_set] at hS
    refine pN_la_at (b:=ib) (n:=32) hS (bvs i.l) (i32t _) (i32n _) ?_
    refine pN_sid (b:=rb) hS i (by rfl) ?_
    clear hS
    intro w hS
    refine pL_ra (b:=rb) hS (by rw[bvs_length,i.h]) ?_
    exact hend s6 _ hS.to
  ·obtain rfl:j=pl.length:=by omega
   generalize pl.take pl.length=A at*
   repeat' (first|refine pN_la_at (b:=ib) (n:=32) hS (bvs i.l) (i32t _) (i32n _) ?_|refine pN_bPc i s p ?_|(refine pN_b1 (C:=cdPc) (x:=((i,(s,p)):PcE)) hS rfl (by decide) ?_;clear hS;intro s3 w hS)|(refine pN_app (C:=cdPc) (s:=so) (l:=A) (m:=[((i,(s,p)):PcE)]) hS rfl rfl (by rw[List.length_singleton];omega) ?_;clear hS;intro s4 w hS)|(refine pA_lss_s ?_ ?_<;>intro hc<;>try (exfalso;omega))|refine pIf_f ?_|refine gA_no (by rfl) ?_|refine pGd_no (by rfl) ?_|refine pN_l hS (by first|rfl|assumption) ?_|refine pL_l hS (by first|rfl|assumption) ?_|(refine pDr_go hS ?_;clear hS;intro w hS)|refine⟨trivial,?_⟩|refine⟨⟨(by first|exact run_l hS (by first|rfl|assumption)|exact run_st hS (by first|rfl|omega)|exact run_ld1 ha hS|exact fun _=>run_l hS (by rfl)|exact fun _=>run_st hS (by first|rfl|omega)|exact fun _=>run_ld1 ha hS|exact fun h=>Bool.noConfusion h),trivial⟩,?_⟩|refine pN_v (hk:=?_)|refine pA_v (hk:=?_)|fail)
   refine pN_sl1 (C:=cdPc) (s:=sp) (l:=pl) hS pl.length rfl rfl (Nat.le_refl _) ?_
   intro s5 hp5
   haveI h5:Rds cdPc (rows cdPc sp pl::rows cdNm sn nl::bag fz::N) s5 (pl.drop pl.length):=hp5.rd _ inferInstance
   repeat' (first|(refine pN_app (C:=cdPc) (s:=s4) (s2:=s5) (l:=A++[((i,(s,p)):PcE)]) (m:=pl.drop pl.length) hS rfl hdl.symm (by rw[List.length_append,List.length_singleton];omega) ?_;clear hS;intro s6 w hS)|(refine pN_s hS (by first|exact Nat.le_of_ble_eq_true rfl|assumption) (by rfl) ?_;clear hS;intro w hS;try simp only[List.set_cons_zero,List.set_cons_succ] at hS)|refine pN_v (hk:=?_)|fail)
   rw[r5_set] at hS
   refine pN_la_at (b:=ib) (n:=32) hS (bvs i.l) (i32t _) (i32n _) ?_
   refine pN_sid (b:=rb) hS i (by rfl) ?_
   clear hS
   intro w hS
   refine pL_ra (b:=rb) hS (by rw[bvs_length,i.h]) ?_
   exact hend s6 _ hS.to
end
end
end
section
variable [Pan] {x0:Value} {w:World} {Q:QQ}
set_option maxRecDepth 100000
def pithref20_Legal.F (x0:Value) (w:World) (Q:QQ):Prop:=
 pN zp (oBox 25 x0) w fun x1 w1=>
 pN zp (oFld 25 x1 0) w1 fun x6 w2=>
 pN zp (oLoad 3 x6) w2 fun x7 w3=>
 pN zp (oBin .eql 3 (.tmp 7) (.const (.int .i64 0)) x7 (.int .i64 0)) w3 fun x8 w4=>
 pGd (gB x8 false) (pN zp (oFld 25 x1 0) w4) w4 fun x10 w5=>
 pGd (gB x8 false) (pN zp (oLoad 3 x10) w5) w5 fun x11 w6=>
 pGd (gB x8 false) (pN zp (oBin .eql 3 (.tmp 11) (.const (.int .i64 1)) x11 (.int .i64 1)) w6) w6 fun x12 w7=>
 pN zp (oPick x8 (.bool true) x12) w7 fun x13 w8=>
 pGd (gB x13 false) (pN zp (oFld 25 x1 0) w8) w8 fun x15 w9=>
 pGd (gB x13 false) (pN zp (oLoad 3 x15) w9) w9 fun x16 w10=>
 pGd (gB x13 false) (pN zp (oBin .eql 3 (.tmp 16) (.const (.int .i64 4)) x16 (.int .i64 4)) w10) w10 fun x17 w11=>
 pN zp (oPick x13 (.bool true) x17) w11 fun x18 w12=>
 pGd (gB x18 false) (pN zp (oFld 25 x1 0) w12) w12 fun x20 w13=>
 pGd (gB x18 false) (pN zp (oLoad 3 x20) w13) w13 fun x21 w14=>
 pGd (gB x18 false) (pN zp (oBin .eql 3 (.tmp 21) (.const (.int .i64 10)) x21 (.int .i64 10)) w14) w14 fun x22 w15=>
 pN zp (oPick x18 (.bool true) x22) w15 fun x23 w16=>
 pN zp (oFld 25 x1 2) w16 fun x24 w17=>
 pN zp (oLoad 23 x24) w17 fun x25 w18=>
 pN zp (oAlloc 23) w18 fun x4 w19=>
 pN zp (oStore 23 x4 x25) w19 fun _ w20=>
 pN zp (oFld 23 x4 0) w20 fun x26 w21=>
 pN zp (oLoad 3 x26) w21 fun x27 w22=>
 pN zp (oBin .geq 3 (.tmp 27) (.const (.int .i64 0)) x27 (.int .i64 0)) w22 fun x28 w23=>
 pGd (gB x28 true) (pN zp (oFld 23 x4 1) w23) w23 fun x30 w24=>
 pGd (gB x28 true) (pN zp (oLoad 3 x30) w24) w24 fun x31 w25=>
 pGd (gB x28 true) (pN zp (oBin .geq 3 (.tmp 31) (.const (.int .i64 0)) x31 (.int .i64 0)) w25) w25 fun x32 w26=>
 pN zp (oPick x28 x32 (.bool false)) w26 fun x33 w27=>
 pGd (gB x33 true) (pN zp (oFld 23 x4 2) w27) w27 fun x35 w28=>
 pGd (gB x33 true) (pN zp (oLoad 3 x35) w28) w28 fun x36 w29=>
 pGd (gB x33 true) (pN zp (oBin .geq 3 (.tmp 36) (.const (.int .i64 0)) x36 (.int .i64 0)) w29) w29 fun x37 w30=>
 pN zp (oPick x33 x37 (.bool false)) w30 fun x38 w31=>
 pGd (gB x38 true) (pN zp (oFld 23 x4 0) w31) w31 fun x40 w32=>
 pGd (gB x38 true) (pN zp (oLoad 3 x40) w32) w32 fun x41 w33=>
 pGd (gB x38 true) (pN zp (oBin .leq 3 (.tmp 41) (.const (.int .i64 4)) x41 (.int .i64 4)) w33) w33 fun x42 w34=>
 pN zp (oPick x38 x42 (.bool false)) w34 fun x43 w35=>
 pGd (gB x43 true) (pN zp (oFld 23 x4 1) w35) w35 fun x45 w36=>
 pGd (gB x43 true) (pN zp (oLoad 3 x45) w36) w36 fun x46 w37=>
 pGd (gB x43 true) (pN zp (oBin .leq 3 (.tmp 46) (.const (.int .i64 4)) x46 (.int .i64 4)) w37) w37 fun x47 w38=>
 pN zp (oPick x43 x47 (.bool false)) w38 fun x48 w39=>
 pGd (gB x48 true) (pN zp (oFld 23 x4 0) w39) w39 fun x50 w40=>
 pGd (gB x48 true) (pN zp (oLoad 3 x50) w40) w40 fun x51 w41=>
 pGd (gB x48 true) (pN zp (oFld 23 x4 1) w41) w41 fun x52 w42=>
 pGd (gB x48 true) (pN zp (oLoad 3 x52) w42) w42 fun x53 w43=>
 pGd (gB x48 true) (pN zp (oBin .add 3 (.tmp 51) (.tmp 53) x51 x53) w43) w43 fun x54 w44=>
 pGd (gB x48 true) (pN zp (oBin .leq 3 (.tmp 54) (.const (.int .i64 4)) x54 (.int .i64 4)) w44) w44 fun x55 w45=>
 pN zp (oPick x48 x55 (.bool false)) w45 fun x56 w46=>
 pGd (gB x56 true) (pN zp (oFld 23 x4 2) w46) w46 fun x58 w47=>
 pGd (gB x56 true) (pN zp (oLoad 3 x58) w47) w47 fun x59 w48=>
 pGd (gB x56 true) (pN zp (oBin .leq 3 (.tmp 59) (.const (.int .i64 4)) x59 (.int .i64 4)) w48) w48 fun x60 w49=>
 pN zp (oPick x56 x60 (.bool false)) w49 fun x61 w50=>
 pN zp (oUn .not x23) w50 fun x63 w51=>
 pGd (gB x63 false) (pN zp (oMv x61) w51) w51 fun x65 w52=>
 pGd (gB x63 false) (pN zp (oUn .not x65) w52) w52 fun x66 w53=>
 pN zp (oPick x63 (.bool true) x66) w53 fun x67 w54=>
 pGd (gB x67 false) (pN zp (oFld 25 x1 1) w54) w54 fun x69 w55=>
 pGd (gB x67 false) (pN zp (oLoad 3 x69) w55) w55 fun x70 w56=>
 pGd (gB x67 false) (pN zp (oBin .lss 3 (.tmp 70) (.const (.int .i64 0)) x70 (.int .i64 0)) w56) w56 fun x71 w57=>
 pN zp (oPick x67 (.bool true) x71) w57 fun x72 w58=>
 pGd (gB x72 false) (pN zp (oFld 25 x1 1) w58) w58 fun x74 w59=>
 pGd (gB x72 false) (pN zp (oLoad 3 x74) w59) w59 fun x75 w60=>
 pGd (gB x72 false) (pN zp (oBin .gtr 3 (.tmp 75) (.const (.int .i64 256)) x75 (.int .i64 256)) w60) w60 fun x76 w61=>
 pN zp (oPick x72 (.bool true) x76) w61 fun x77 w62=>
 pGd (gB x77 false) (pN zp (oFld 25 x1 3) w62) w62 fun x79 w63=>
 pGd (gB x77 false) (pN zp (oLoad 3 x79) w63) w63 fun x80 w64=>
 pGd (gB x77 false) (pN zp (oBin .lss 3 (.tmp 80) (.const (.int .i64 4096)) x80 (.int .i64 4096)) w64) w64 fun x81 w65=>
 pN zp (oPick x77 (.bool true) x81) w65 fun x82 w66=>
 pGd (gB x82 false) (pN zp (oFld 25 x1 3) w66) w66 fun x84 w67=>
 pGd (gB x82 false) (pN zp (oLoad 3 x84) w67) w67 fun x85 w68=>
 pGd (gB x82 false) (pN zp (oBin .gtr 3 (.tmp 85) (.const (.int .i64 67108864)) x85 (.int .i64 67108864)) w68) w68 fun x86 w69=>
 pN zp (oPick x82 (.bool true) x86) w69 fun x87 w70=>
 pGd (gB x87 false) (pN zp (oFld 25 x1 4) w70) w70 fun x89 w71=>
 pGd (gB x87 false) (pN zp (oLoad 3 x89) w71) w71 fun x90 w72=>
 pGd (gB x87 false) (pN zp (oBin .lss 3 (.tmp 90) (.const (.int .i64 1)) x90 (.int .i64 1)) w72) w72 fun x91 w73=>
 pN zp (oPick x87 (.bool true) x91) w73 fun x92 w74=>
 pGd (gB x92 false) (pN zp (oFld 25 x1 4) w74) w74 fun x94 w75=>
 pGd (gB x92 false) (pN zp (oLoad 3 x94) w75) w75 fun x95 w76=>
 pGd (gB x92 false) (pN zp (oBin .gtr 3 (.tmp 95) (.const (.int .i64 2147483648)) x95 (.int .i64 2147483648)) w76) w76 fun x96 w77=>
 pN zp (oPick x92 (.bool true) x96) w77 fun x97 w78=>
 pGd (gB x97 false) (pN zp (oFld 25 x1 5) w78) w78 fun x99 w79=>
 pGd (gB x97 false) (pN zp (oLoad 3 x99) w79) w79 fun x100 w80=>
 pGd (gB x97 false) (pN zp (oBin .lss 3 (.tmp 100) (.const (.int .i64 0)) x100 (.int .i64 0)) w80) w80 fun x101 w81=>
 pN zp (oPick x97 (.bool true) x101) w81 fun x102 w82=>
 pGd (gB x102 false) (pN zp (oFld 25 x1 5) w82) w82 fun x104 w83=>
 pGd (gB x102 false) (pN zp (oLoad 3 x104) w83) w83 fun x105 w84=>
 pGd (gB x102 false) (pN zp (oBin .gtr 3 (.tmp 105) (.const (.int .i64 2)) x105 (.int .i64 2)) w84) w84 fun x106 w85=>
 pN zp (oPick x102 (.bool true) x106) w85 fun x107 w86=>
 pIf x107
 (Q (.int .i64 6) w86)
 (Q (.int .i64 0) w86)
theorem pithref20_Legal.calls (h:pithref20_Legal.F x0 w Q):Calls zp 108 #[x0] w (retP Q):=cl .z [x0] Tryz.func108 h
end
section
attribute [local irreducible] oMv oV oU oCall oCallV oBi oBin oUn oLoad oStore oNil oFld oField oIdx oIndex oPick oAlloc oBox oBuild oBs oConv oMk oSl oExt oFn oIface oMap oLook oMapUp oRange oNext oEntry oInv oAssert oPanic oRes pN pA pL pDr pIf gA pGd Calls
section
def nbes (nl:List NmE) (n:List UInt8):List NmE:=nl.filter fun x=>decide (x.1≠n)
theorem nbes_plm (nl:List NmE) (n:List UInt8):D.besides (plm nl) n=plm (nbes nl n):=by
 unfold D.besides plm nbes
 rw[List.filter_map]
 rfl
theorem nbes_in {nl:List NmE} {j:Nat} {x:NmE} {n:List UInt8} (h:nl[j]? =some x) (hx:x.1≠n):nbes (nl.take (j+1)) n=nbes (nl.take j) n++[x]:=by
 unfold nbes
 rw[List.take_add_one,h,List.filter_append]
 congr 1
 exact List.filter_cons_of_pos (by simpa using hx)
theorem nbes_no {nl:List NmE} {j:Nat} {x:NmE} {n:List UInt8} (h:nl[j]? =some x) (hx:x.1=n):nbes (nl.take (j+1)) n=nbes (nl.take j) n:=by
 unfold nbes
 rw[List.take_add_one,h,List.filter_append]
 have e:((some x).toList.filter fun y=>decide (y.1≠n))=[]:=List.filter_cons_of_neg (by simpa using hx)
 rw[e,List.append_nil]
theorem nbes_mem {nl:List NmE} {x:NmE} {n:List UInt8} (h:x∈nbes nl n):x∈nl:=(List.mem_filter.1 h).1
theorem nbes_len (nl:List NmE) (n:List UInt8):(nbes nl n).length≤nl.length:=List.length_filter_le _ _
theorem nbes_nil (n:List UInt8):nbes [] n=[]:=rfl
def SetInv (nw:NmE) (F:List NmE):Bool→List NmE→Prop
 |false,X=>X=F
 |true,X=>∃A R,X=A++nw::R∧A++R=F
theorem SetInv.lay {nw:NmE} {F X:List NmE} (h:SetInv nw F false X):SetInv nw F true (X++[nw]):=⟨F,[],by rw[show X=F from h],by rw[List.append_nil]⟩
theorem SetInv.go {nw x:NmE} {F X:List NmE}:∀{b:Bool},SetInv nw F b X→SetInv nw (F++[x]) b (X++[x])
 |false,h=>by rw[show X=F from h];rfl
 |true,⟨A,R,h1,h2⟩=>⟨A,R++[x],by rw[h1,List.append_assoc];rfl,by rw[←h2,List.append_assoc]⟩
theorem run_b35 (c:T_api_Config) (k:C.K) (w:World):(oBuild 189 [(0,.agg c.enc.toArray),(1,.agg #[.int .i64 k.least,.int .i64 k.most,.int .i64 k.bits])]).run zp w= .ok (.value (.agg (r5C c k ⟨none,0⟩ 0 ⟨none,0⟩ 0).toArray)) w:=by
 obtain⟨ck,dl,⟨lc,lp,pb⟩,di,bl,mo⟩:=c
 kernel_rfl
theorem pN_b35 [Pan] {w:World} {K:Value→World→Prop} (c:T_api_Config) (k:C.K) (hk:K (.agg (r5C c k ⟨none,0⟩ 0 ⟨none,0⟩ 0).toArray) w):pN zp (oBuild 189 [(0,.agg c.enc.toArray),(1,.agg #[.int .i64 k.least,.int .i64 k.most,.int .i64 k.bits])]) w K:=by
 rw[pN_def,run_b35,rN_value]
 exact hk
theorem SetInv.len {nw:NmE} {F X:List NmE}:∀{b:Bool},SetInv nw F b X→X.length≤F.length+1
 |false,h=>by rw[show X=F from h];omega
 |true,⟨A,R,h1,h2⟩=>by rw[h1,←h2,List.length_append,List.length_append,List.length_cons];omega
attribute [local irreducible] H.sum C.fst nbes
section
variable [Pan] {E w W:World} {K Q:Value→World→Prop} {J:Value→Prop} {L M N N':List HA} {l p:List UInt8} {s:Sl} {b nn:Nat} {k:C.K} {c:T_api_Config} {sp sn:Sl} {pl:List PcE} {nl:List NmE} {d:D.T} {fz:List HA} {li:List I32}
theorem r5Legal_ok {n:List UInt8} (hl:n.length≤140737488355328) (hQ:Q (.int .i64 (if 254<n.length then 8 else 0)) w):Calls zp 110 #[.string ⟨n.toArray⟩] w (retP Q):=by
 refine pithref35_Legal.calls ?_
 unfold pithref35_Legal.F
 by_cases h:254<n.length
 ·rw[if_pos h] at hQ
  repeat' (first|refine pN_slen ?_|(refine pN_gtr_s ?_ ?_<;>intro hc<;>try (exfalso;omega))|refine pIf_t ?_|fail)
  exact hQ
 ·rw[if_neg h] at hQ
  repeat' (first|refine pN_slen ?_|(refine pN_gtr_s ?_ ?_<;>intro hc<;>try (exfalso;omega))|refine pIf_f ?_|fail)
  exact hQ
set_option maxHeartbeats 2000000 in
theorem r20Legal_ok (c:T_api_Config) (hc:D.okC c) (hS:Sat E w M) (hQ:∀w,Sat E w M→Q (.int .i64 0) w):Calls zp 108 #[.agg c.enc.toArray] w (retP Q):=by
 refine pithref20_Legal.calls ?_
 unfold pithref20_Legal.F
 unfold D.okC D.okP at hc
 obtain⟨ck,dl,p,di,bl,mo⟩:=c
 obtain⟨lc,lp,pb⟩:=p
 dsimp only at hc
 obtain⟨⟨p1,p2,p3,p4,p5⟩,h1,h2,h3,h4,h5,h6,h7,h8,h9⟩:=hc
 have e:T_api_Config.enc ⟨ck,dl,⟨lc,lp,pb⟩,di,bl,mo⟩=[.int .i64 ck,.int .i64 dl,.int .i64 lc,.int .i64 lp,.int .i64 pb,.int .i64 di,.int .i64 bl,.int .i64 mo]:=rfl
 rw[e]
 refine pN_bx (z:=[.int .i64 ck,.int .i64 dl,.int .i64 lc,.int .i64 lp,.int .i64 pb,.int .i64 di,.int .i64 bl,.int .i64 mo]) hS rfl ?_
 clear hS
 intro cb w hS
 rcases h1 with h1|h1|h1|h1<;>subst h1
 all_goals
  repeat' (first|refine pN_la_at (n:=3) hS [.int .i64 lc,.int .i64 lp,.int .i64 pb] rfl rfl ?_|((first|refine pN_lss_s ?_ ?_|refine pN_leq_s ?_ ?_|refine pN_gtr_s ?_ ?_|refine pN_geq_s ?_ ?_)<;>intro hc<;>try (exfalso;omega))|(refine pN_eql_s ?_ ?_<;>intro hc<;>try (exfalso;first|omega|exact gone hc|exact gon2 hc))|refine pIf_f ?_|refine pGd_go (by rfl) ?_|refine pGd_no (by rfl) ?_|refine pN_l hS (by first|rfl|assumption) ?_|(refine pN_sa hS (by rfl) (by rfl) (by rfl) ?_;clear hS;intro w hS;try dsimp only at hS)|(refine pN_nz hS ?_;clear hS;intro a w hS)|refine pN_v (hk:=?_)|fail)
  all_goals exact hQ _ hS.to
theorem r5New_ok (hc:D.okC c) (hk:k.legal) (hS:Sat E w M) (hQ:∀b w,Sat E w (RDq c b (D.new k,[])::M)→Q (.tuple #[.pointer (some ⟨b,0,none⟩),.int .i64 0]) w):
  Calls zp 78 #[.agg c.enc.toArray,.agg #[.int .i64 k.least,.int .i64 k.most,.int .i64 k.bits]] w (retP Q):=by
 refine pithref35_New.calls ?_
 unfold pithref35_New.F
 refine pN_bx (z:=c.enc) hS rfl ?_
 clear hS
 intro cb w hS
 refine pN_bx (z:=[.int .i64 k.least,.int .i64 k.most,.int .i64 k.bits]) hS rfl ?_
 clear hS
 intro kb w hS
 refine pN_la_at (n:=8) hS c.enc rfl rfl ?_
 refine pcq (f:=108) (r20Legal_ok c hc hS ?_)
 clear hS
 intro w hS
 repeat' (first|(refine pcq (f:=109) (rLegal_ok k hS ?_);rw[if_pos hk];clear hS;intro w hS)|refine pN_la_at (b:=cb) (n:=8) hS c.enc rfl rfl ?_|refine pN_la_at (b:=kb) (n:=3) hS [.int .i64 k.least,.int .i64 k.most,.int .i64 k.bits] rfl rfl ?_|(refine pN_neq_s ?_ ?_<;>intro hc<;>try (exfalso;first|omega|exact gone hc|exact gon2 hc))|refine pIf_f ?_|refine pGd_go (by rfl) ?_|refine pN_v (hk:=?_)|fail)
 refine pN_b35 c k ?_
 refine pN_bx (z:=r5C c k ⟨none,0⟩ 0 ⟨none,0⟩ 0) hS rfl ?_
 clear hS
 intro rb w hS
 have h0:Sat E w (rows cdPc ⟨none,0⟩ []::_):=hS.nil cdPc.e cdPc.size
 have h1:Sat E w (rows cdNm ⟨none,0⟩ []::_):=h0.nil cdNm.e cdNm.size
 have h2:Sat E w (bag []::_):=h1.bag_nil
 have h3:Sat E w (r5P c rb k ⟨none,0⟩ [] ⟨none,0⟩ [] (bag []::M)):=h2.to
 exact hQ _ _ (RDq.shut (d:=D.new k) ⟨D.Like.rfl _,fun x hx=>(by cases hx),fun x hx=>(by cases hx)⟩ rfl h3)
set_option maxHeartbeats 2000000 in
theorem r5Put_ok (hk:d.k.legal) (hS:Sat E w L) [hf:Fnd (RDq c b) L (d,fz) N] [hr:RdP cd_uint8 (bag fz) s l] (hl:l.length≤1099511627776) (hb:d.ps.length+(C.pieces d.k l).length≤1099511627776)
  (hQ:∀s2 w,Sat E w (rows (cdI 58) s2 (D.ids d.k l)::RDq c b (d.put l,fz)::N)→Q (.slice s2.a (D.ids d.k l).length s2.c) w):
  Calls zp 112 #[.pointer (some ⟨b,0,none⟩),.slice s.a l.length s.c] w (retP Q):=by
 refine pithref35_Depot_Put.calls ?_
 unfold pithref35_Depot_Put.F
 have hS1:=hS.fd (RDq c b)
 clear hS hf
 obtain⟨sp,sn,pl,nl,ht,hS⟩:=RDq.opn hS1
 clear hS1
 have hil:=endsI_len d.k l
 have hpl:=C.pieces_len d.k l
 have hget:=fun {j e}=> @endsI_get d.k l j e
 have hput:d.put l=d.puts (C.pieces d.k l):=rfl
 have hids:D.ids d.k l=(C.pieces d.k l).map H.sum:=rfl
 rw[hput,hids] at hQ
 repeat' (first|refine pN_la_at (n:=3) hS [.int .i64 d.k.least,.int .i64 d.k.most,.int .i64 d.k.bits] rfl rfl ?_|(refine pcq (f:=148) (rCut_ok (s:=s) (l:=l) hk hS hl ?_);clear hS;intro se w hS)|refine pN_v (hk:=?_)|fail)
 have hS:Sat E w (r5P c b d.k sp pl sn nl (bag fz::rows cd_int se (endsI d.k l)::N)):=hS.to
 have hS:=RDq.shut ht rfl hS
 clear ht
 have hS:Sat E w (rows cd_int se (endsI d.k l)::RDq c b (d,fz)::N):=hS.to
 rw[←hil]
 generalize endsI d.k l=I at*
 refine⟨fun v v' v'' w=>∃(p:Nat) (pre:List (List UInt8)) (so:Sl),v= .slice so.a (pre.map H.sum).length so.c∧v'= .int .i64 p∧v''= .int .i64 pre.length∧p≤l.length∧C.pieces d.k l=pre++C.pieces d.k (l.drop p)∧pre.flatten.length=p∧Sat E w (rows (cdI 58) so (pre.map H.sum)::rows cd_int se I::RDq c b (d.puts pre,fz)::N),fun _ _ v _=>I.length-(RowKit.intOf v).toNat,
  ⟨0,[],⟨none,0⟩,rfl,rfl,rfl,by omega,by rw[List.drop_zero];rfl,rfl,hS.nil (cdI 58).e (cdI 58).size⟩,?_⟩
 clear hS
 rintro _ _ _ _ w ⟨p,pre,so,rfl,rfl,rfl,hp,hpc,hpf,hS⟩
 have hcl:=congrArg List.length hpc
 rw[List.length_append] at hcl
 by_cases hlt:pre.length<I.length
 ·have hne:l.drop p≠[]:=fun h=>by
   rw[h,C.pieces_nil,List.length_nil] at hcl
   omega
  rw[C.pieces_cons d.k hne] at hpc
  have hf1:=C.fst_pos d.k hne
  have hf2:=C.fst_le d.k (l.drop p)
  have hdl:(l.drop p).length=l.length-p:=List.length_drop
  rw[hdl] at hf2
  have hdd:(l.drop p).drop (C.fst d.k (l.drop p))=l.drop (p+C.fst d.k (l.drop p)):=by rw[List.drop_drop]
  rw[hdd] at hpc
  obtain⟨q,hq⟩:∃q,q=(l.drop p).take (C.fst d.k (l.drop p)):=⟨_,rfl⟩
  rw[←hq] at hpc
  have htl:q.length=C.fst d.k (l.drop p):=by rw[hq,List.length_take,hdl];omega
  rw[←htl] at hpc hq hf1 hf2
  clear htl
  have hend:=hget (j:=pre.length) (e:=p+q.length) (by rw[hpc,C.ends_at,hpf,Nat.zero_add])
  have hsub:(l.drop p).take (p+q.length-p)=q:=by rw[Nat.add_sub_cancel_left];exact hq.symm
  have hsn:=D.puts_snoc d pre q
  have hpsl:=D.puts_len pre d
  have e1:p+q.length-p=q.length:=by omega
  repeat' (first|refine pN_ixk (C:=cd_int) (s:=se) (l:=I) hS pre.length rfl rfl hend fun ad ha hel=>?_|refine pN_ld1 ha hS ?_|(refine pN_sl2 (C:=cd_uint8) (s:=s) (l:=l) hS p (p+q.length) rfl rfl rfl (by omega) (by omega) ?_;intro s' hp';rw[hsub] at hp';rw[e1])|(refine pN_lss_s ?_ ?_<;>intro hc<;>try (exfalso;omega))|refine pIf_t ?_|refine pN_ld1 ha hS ?_|refine pN_v (hk:=?_)|fail)
  haveI hrs:RdP cd_uint8 (bag fz) s' q:=RdP.part hr hp'
  refine pcq (f:=149) (r5keep_ok (c:=c) (d:=d.puts pre) (p:=q) hS (by omega) (by omega) ?_)
  clear hS
  intro w hS
  rw[←hsn] at hS
  have hml:(pre.map H.sum).length=pre.length:=List.length_map ..
  have hm2:(pre++[q]).map H.sum=pre.map H.sum++[H.sum q]:=by rw[List.map_append];rfl
  generalize hD:d.puts (pre++[q])=d2 at*
  generalize hMM:pre.map H.sum=mm at*
  generalize H.sum q=i at*
  repeat' (first|(refine pN_b1 (C:=cdI 58) (x:=i) hS rfl (by decide) ?_;clear hS;intro s3 w hS)|(refine pN_app (C:=cdI 58) (s:=so) (l:=mm) hS rfl rfl (by rw[List.length_singleton];omega) ?_;clear hS;intro s4 w hS)|refine pN_ixk (C:=cd_int) (s:=se) (l:=I) hS pre.length rfl rfl hend fun ad ha hel=>?_|refine pN_ld1 ha hS ?_|refine pN_ld1 ha hS ?_|refine pN_v (hk:=?_)|fail)
  refine⟨⟨p+q.length,pre++[q],s4,by rw[hm2],rfl,by rw[List.length_append];rfl,by omega,by rw[List.append_assoc];exact hpc,by simp[hpf],?_⟩,by simp[RowKit.intOf]<;>omega⟩
  rw[hm2,hD]
  exact hS.to
 ·have hnil:l.drop p=[]:=by
   by_cases h:l.drop p=[]
   ·exact h
   ·have:=C.pieces_cons d.k h
    rw[this,List.length_cons] at hcl
    omega
  rw[hnil,C.pieces_nil,List.append_nil] at hpc
  rw[hpc] at hQ
  repeat' (first|(refine pN_lss_s ?_ ?_<;>intro hc<;>try (exfalso;omega))|refine pIf_f ?_|refine pN_v (hk:=?_)|fail)
  exact hQ _ _ hS.to
set_option maxHeartbeats 2000000 in
theorem r5Set_ok {n:List UInt8} (hn:n.length≤254) (hS:Sat E w L) [hf:Fnd (RDq c b) L (d,fz) N] [hr:Rds (cdI 58) N s li] (h0:li≠[]) (hl:li.length≤1099511627776) (hb:d.ns.length≤1099511627776)
  (hQ:∀A w,Sat E w (RDq c b (d.set n li,A::fz)::N)→Q (.int .i64 0) w):
  Calls zp 113 #[.pointer (some ⟨b,0,none⟩),.string ⟨n.toArray⟩,.slice s.a li.length s.c] w (retP Q):=by
 refine pithref35_Depot_Set.calls ?_
 unfold pithref35_Depot_Set.F
 have hS1:=hS.fd (RDq c b)
 clear hS hf
 obtain⟨sp,sn,pl,nl,ht,hS⟩:=RDq.opn hS1
 clear hS1
 have hlp:0<li.length:=List.length_pos_iff.2 h0
 have hnl:nl.length≤1099511627776:=by
  have h1:(plm nl).length≤d.ns.length:=ht.like.nl
  rw[plm_len] at h1
  omega
 have hlg:¬254<n.length:=by omega
 have hlk:=fun(A R:List (List UInt8×List I32)) (h:D.besides (plm nl) n=A++R)=>D.Like.set ht.like (A:=A) (R:=R) (l:=li) h0 h
 refine pcq (f:=110) (r5Legal_ok (n:=n) (by omega) ?_)
 rw[if_neg hlg]
 repeat' (first|(refine pN_app0 (C:=cdI 58) (s2:=s) (m:=li) hS rfl (by omega) ?_;clear hS;intro sw w hS)|((first|refine pN_eql_s ?_ ?_|refine pN_neq_s ?_ ?_)<;>intro hc<;>try (exfalso;first|omega|exact gone hc|exact gon2 hc))|refine pIf_f ?_|refine pN_v (hk:=?_)|fail)
 have hsw:True:=trivial
 have h8:Sat E w (rows cdNm ⟨none,0⟩ []::cel b ⟨189,r5C c d.k sp pl.length sn nl.length⟩::rows cdNm sn nl::rows (cdI 58) sw li::rows cdPc sp pl::bag fz::N):=(show Sat E w (cel b ⟨189,r5C c d.k sp pl.length sn nl.length⟩::rows cdNm sn nl::rows (cdI 58) sw li::rows cdPc sp pl::bag fz::N) from hS.to).nil cdNm.e cdNm.size
 refine⟨fun v v' v'' w=>∃(j:Nat) (lb:Bool) (X:List NmE) (so:Sl),v= .slice so.a X.length so.c∧v'= .bool lb∧v''= .int .i64 j∧j≤nl.length∧SetInv (n,(sw,li)) (nbes (nl.take j) n) lb X∧Sat E w (rows cdNm so X::cel b ⟨189,r5C c d.k sp pl.length sn nl.length⟩::rows cdNm sn nl::rows (cdI 58) sw li::rows cdPc sp pl::bag fz::N),fun _ _ v _=>nl.length-(RowKit.intOf v).toNat,
  ⟨0,false,[],⟨none,0⟩,rfl,rfl,rfl,by omega,by rw[List.take_zero,nbes_nil];rfl,h8⟩,?_⟩
 clear hS h8 hsw
 rintro _ _ _ _ w ⟨j,lb,X,so,rfl,rfl,rfl,hj,hiv,hS⟩
 have hX:=hiv.len
 have hX2:=nbes_len (nl.take j) n
 have hX3:(nl.take j).length=j:=by rw[List.length_take];omega
 by_cases hlt:j<nl.length
 ·obtain⟨x,hx⟩:∃x,nl[j]? =some x:=⟨nl[j],List.getElem?_eq_getElem _⟩
  have hin:=fun h=>nbes_in (n:=n) hx h
  have hno:=fun h=>nbes_no (n:=n) hx h
  obtain⟨xn,xs,xl⟩:=x
  dsimp only at hin hno
  generalize hF2:nbes (nl.take (j+1)) n=F2 at*
  generalize nbes (nl.take j) n=F at*
  repeat' (first|(refine pN_lss_s ?_ ?_<;>intro hc<;>try (exfalso;omega))|refine pIf_t ?_|refine pN_l hS (by first|rfl|assumption) ?_|refine pN_v (hk:=?_)|fail)
  refine⟨fun v v' w=>∃(lb:Bool) (X:List NmE) (so:Sl),v= .slice so.a X.length so.c∧v'= .bool lb∧SetInv (n,(sw,li)) F2 lb X∧Sat E w (rows cdNm so X::cel b ⟨189,r5C c d.k sp pl.length sn nl.length⟩::rows cdNm sn nl::rows (cdI 58) sw li::rows cdPc sp pl::bag fz::N),?_,?_⟩
  ·repeat' (first|refine pN_ixk (C:=cdNm) (s:=sn) (l:=nl) hS j rfl rfl hx fun ad ha hel=>?_|refine pN_ld_at ha hS (cdNm.len _).symm ?_|refine pN_l hS (by first|rfl|assumption) ?_|(refine pN_sa hS (by rfl) (by rfl) (by rfl) ?_;clear hS;intro w hS;try dsimp only at hS)|(refine pN_nz hS ?_;clear hS;intro a w hS)|refine pN_v (hk:=?_)|fail)
   rename Nat=>xb
   have hS:Sat E w (rows cdNm so X::cel xb ⟨247,cdNm.enc (xn,(xs,xl))⟩::cel b ⟨189,r5C c d.k sp pl.length sn nl.length⟩::rows cdNm sn nl::rows (cdI 58) sw li::rows cdPc sp pl::bag fz::N):=hS.to
   have hS:Sat E w (rows cdNm so X::cel xb ⟨247,[.string ⟨xn.toArray⟩,.slice xs.a xl.length xs.c]⟩::cel b ⟨189,r5C c d.k sp pl.length sn nl.length⟩::rows cdNm sn nl::rows (cdI 58) sw li::rows cdPc sp pl::bag fz::N):=hS
   refine⟨fun v v' w=>∃(lb:Bool) (X:List NmE) (so:Sl),v= .slice so.a X.length so.c∧v'= .bool lb∧SetInv (n,(sw,li)) F lb X∧X.length≤F.length+1∧Sat E w (rows cdNm so X::cel xb ⟨247,[.string ⟨xn.toArray⟩,.slice xs.a xl.length xs.c]⟩::cel b ⟨189,r5C c d.k sp pl.length sn nl.length⟩::rows cdNm sn nl::rows (cdI 58) sw li::rows cdPc sp pl::bag fz::N),?_,?_⟩
   ·cases lb with
    |true=>
     repeat' (first|refine pIf_f ?_|refine pGd_no (by rfl) ?_|refine pN_v (hk:=?_)|fail)
     exact⟨true,X,so,rfl,rfl,hiv,hX,hS⟩
    |false=>
     cases hle:(Op.bytesLess n xn||n==xn) with
     |true=>
      have hl2:=hiv.lay
      repeat' (first|(rw[pN_leq_l,hle])|(refine pN_b1 (C:=cdNm) (x:=((n,(sw,li)):NmE)) hS rfl (by decide) ?_;clear hS;intro s3 w hS)|(refine pN_app (C:=cdNm) (s:=so) (l:=X) (m:=[((n,(sw,li)):NmE)]) hS rfl rfl (by rw[List.length_singleton];omega) ?_;clear hS;intro s4 w hS)|refine pIf_t ?_|refine pGd_go (by rfl) ?_|refine pN_l hS (by first|rfl|assumption) ?_|refine pN_v (hk:=?_)|fail)
      exact⟨true,_,s4,rfl,rfl,hl2,hl2.len,hS.to⟩
     |false=>
      repeat' (first|(rw[pN_leq_l,hle])|refine pIf_f ?_|refine pGd_go (by rfl) ?_|refine pN_l hS (by first|rfl|assumption) ?_|refine pN_v (hk:=?_)|fail)
      exact⟨false,X,so,rfl,rfl,hiv,hX,hS⟩
   ·clear hS hiv hX
    rintro _ _ _ w ⟨lb,X,so,rfl,rfl,hiv,hX,hS⟩
    by_cases hxn:xn=n
    ·have h2:=hno hxn
     subst hxn
     repeat' (first|(refine pN_neq_ss ?_ ?_<;>intro hc<;>try (exfalso;first|omega|exact gone hc|exact gon2 hc))|refine pIf_f ?_|refine pN_l hS (by first|rfl|assumption) ?_|refine pN_v (hk:=?_)|fail)
     rw[h2]
     exact⟨lb,X,so,rfl,rfl,hiv,hS.to⟩
    ·have h2:=hin hxn
     have h3:=hiv.go (x:=(xn,(xs,xl)))
     rw[←h2] at h3
     repeat' (first|refine pN_la_at (b:=xb) (n:=2) hS [.string ⟨xn.toArray⟩,.slice xs.a xl.length xs.c] rfl rfl ?_|(refine pN_b1 (C:=cdNm) (x:=((xn,(xs,xl)):NmE)) hS rfl (by decide) ?_;clear hS;intro s3 w hS)|(refine pN_app (C:=cdNm) (s:=so) (l:=X) (m:=[((xn,(xs,xl)):NmE)]) hS rfl rfl (by rw[List.length_singleton];omega) ?_;clear hS;intro s4 w hS)|(refine pN_neq_ss ?_ ?_<;>intro hc<;>try (exfalso;first|omega|exact gone hc|exact gon2 hc))|refine pIf_t ?_|refine pN_l hS (by first|rfl|assumption) ?_|refine pN_v (hk:=?_)|fail)
     exact⟨lb,_,s4,rfl,rfl,h3,hS.to⟩
  ·clear hS
   rintro _ _ _ w ⟨lb,X,so,rfl,rfl,hiv,hS⟩
   repeat' (first|refine pN_v (hk:=?_)|fail)
   exact⟨⟨j+1,lb,X,so,rfl,rfl,rfl,hlt,by rw[hF2];exact hiv,hS⟩,by simp[RowKit.intOf]<;>omega⟩
 ·obtain rfl:j=nl.length:=by omega
  rw[List.take_length] at hiv
  have hend:∀X so w,SetInv (n,(sw,li)) (nbes nl n) true X→Sat E w (rows cdNm so X::cel b ⟨189,r5C c d.k sp pl.length so X.length⟩::rows (cdI 58) sw li::rows cdPc sp pl::bag fz::N)→Q (.int .i64 0) w:=fun X so w hi hS=>by
   obtain⟨A,R,hX,hAR⟩:=hi
   have hS:Sat E w (rows (cdI 58) sw li::bag fz::cel b ⟨189,r5C c d.k sp pl.length so X.length⟩::rows cdPc sp pl::rows cdNm so X::N):=hS.to
   have hS:Sat E w (r5P c b d.k sp pl so X (bag (rows (cdI 58) sw li::fz)::N)):=hS.bag_cons.to
   refine hQ _ _ (RDq.shut ⟨?_,fun x hx=>(ht.pr x hx).tail,fun x hx=>?_⟩ rfl hS)
   ·have h1:=hlk (plm A) (plm R) (by rw[nbes_plm,←hAR,plm_app])
    rw[hX,plm_app]
    exact h1
   ·rw[hX] at hx
    have hm:∀x∈A++R,RdP (cdI 58) (bag (rows (cdI 58) sw li::fz)) x.2.1 x.2.2:=fun x hx=>by
     rw[hAR] at hx
     exact(ht.nr x (nbes_mem hx)).tail
    rcases List.mem_append.1 hx with hx|hx
    ·exact hm x (List.mem_append.2 (.inl hx))
    ·rcases List.mem_cons.1 hx with rfl|hx
     ·exact RdP.hd (by infer_instance)
     ·exact hm x (List.mem_append.2 (.inr hx))
  repeat' (first|(refine pN_lss_s ?_ ?_<;>intro hc<;>try (exfalso;omega))|refine pIf_f ?_|refine pN_l hS (by first|rfl|assumption) ?_|refine pN_v (hk:=?_)|fail)
  refine⟨fun v w=>∃(X:List NmE) (so:Sl),v= .slice so.a X.length so.c∧SetInv (n,(sw,li)) (nbes nl n) true X∧Sat E w (rows cdNm so X::cel b ⟨189,r5C c d.k sp pl.length sn nl.length⟩::rows cdNm sn nl::rows (cdI 58) sw li::rows cdPc sp pl::bag fz::N),?_,?_⟩
  ·cases lb with
   |true=>
    repeat' (first|refine pIf_f ?_|refine pN_v (hk:=?_)|fail)
    exact⟨X,so,rfl,hiv,hS⟩
   |false=>
    have hl2:=hiv.lay
    repeat' (first|(refine pN_b1 (C:=cdNm) (x:=((n,(sw,li)):NmE)) hS rfl (by decide) ?_;clear hS;intro s3 w hS)|(refine pN_app (C:=cdNm) (s:=so) (l:=X) (m:=[((n,(sw,li)):NmE)]) hS rfl rfl (by rw[List.length_singleton];omega) ?_;clear hS;intro s4 w hS)|refine pIf_t ?_|refine pN_v (hk:=?_)|fail)
    exact⟨_,s4,rfl,hl2,hS.to⟩
  ·clear hS hiv hX
   rintro _ _ w ⟨X,so,rfl,hiv,hS⟩
   repeat' (first|(refine pN_s hS (by first|exact Nat.le_of_ble_eq_true rfl|assumption) (by rfl) ?_;clear hS;intro w hS;try simp only[List.set_cons_zero,List.set_cons_succ] at hS)|refine pN_v (hk:=?_)|fail)
   rw[r5_setn] at hS
   exact hend X so _ hiv hS.to
set_option maxHeartbeats 2000000 in
theorem r5Root_ok {n:List UInt8} (hS:Sat E w L) [hf:Fnd (RDq c b) L (d,fz) N] (hb:d.ns.length≤1099511627776)
  (hyes:∀q s w,D.look d.ns n=some q→RdP (cdI 58) (bag fz) s q→Sat E w (RDq c b (d,fz)::N)→Q (.tuple #[.slice s.a q.length s.c,.int .i64 0]) w)
  (hno:∀w,D.look d.ns n=none→Sat E w (RDq c b (d,fz)::N)→Q (.tuple #[.slice none 0 0,.int .i64 8]) w):
  Calls zp 151 #[.pointer (some ⟨b,0,none⟩),.string ⟨n.toArray⟩] w (retP Q):=by
 refine pithref35_Depot_Root.calls ?_
 unfold pithref35_Depot_Root.F
 have hS1:=hS.fd (RDq c b)
 clear hS hf
 obtain⟨sp,sn,pl,nl,ht,hS⟩:=RDq.opn hS1
 clear hS1
 have hnl:nl.length≤1099511627776:=by
  have h1:(plm nl).length≤d.ns.length:=ht.like.nl
  rw[plm_len] at h1
  omega
 have hns:D.look (plm nl) n=D.look d.ns n:=ht.like.ns n
 rw[←hns] at hyes hno
 refine⟨fun v w=>∃j:Nat,v= .int .i64 j∧j≤nl.length∧D.look (plm (nl.take j)) n=none∧Sat E w (r5P c b d.k sp pl sn nl (bag fz::N)),fun v _=>nl.length-(RowKit.intOf v).toNat,⟨0,rfl,by omega,by rw[List.take_zero];rfl,hS⟩,?_⟩
 clear hS
 rintro _ _ w ⟨j,rfl,hj,h0,hS⟩
 by_cases hlt:j<nl.length
 ·obtain⟨x,hx⟩:∃x,nl[j]? =some x:=⟨nl[j],List.getElem?_eq_getElem _⟩
  have hfi:=fun h=>look_first (k:=n) h0 hx h
  have hpa:=fun h=>look_past (k:=n) h0 hx h
  have hrx:=ht.nr x (List.mem_of_getElem? hx)
  obtain⟨xn,xs,xl⟩:=x
  dsimp only at hfi hpa hrx
  by_cases hxn:xn=n
  ·have h1:=hfi hxn
   subst hxn
   repeat' (first|refine pN_ixk (C:=cdNm) (s:=sn) (l:=nl) hS j rfl rfl hx fun ad ha hel=>?_|(refine pN_lss_s ?_ ?_<;>intro hc<;>try (exfalso;omega))|(refine pN_eql_ss ?_ ?_<;>intro hc<;>try (exfalso;first|omega|exact gone hc|exact gon2 hc))|refine pIf_t ?_|refine pN_l hS (by first|rfl|assumption) ?_|refine pN_ld1 ha hS ?_|refine pN_fa ha (by rfl) fun a ha=>?_|refine pN_v (hk:=?_)|fail)
   exact hyes xl xs _ h1 hrx (RDq.shut ht rfl hS)
  ·have h1:=hpa hxn
   repeat' (first|refine pN_ixk (C:=cdNm) (s:=sn) (l:=nl) hS j rfl rfl hx fun ad ha hel=>?_|(refine pN_lss_s ?_ ?_<;>intro hc<;>try (exfalso;omega))|(refine pN_eql_ss ?_ ?_<;>intro hc<;>try (exfalso;first|omega|exact gone hc|exact gon2 hc))|refine pIf_t ?_|refine pIf_f ?_|refine pN_l hS (by first|rfl|assumption) ?_|refine pN_ld1 ha hS ?_|refine pN_fa ha (by rfl) fun a ha=>?_|refine pN_v (hk:=?_)|fail)
   exact⟨⟨j+1,rfl,hlt,h1,hS⟩,by simp[RowKit.intOf]<;>omega⟩
 ·obtain rfl:j=nl.length:=by omega
  rw[List.take_length] at h0
  repeat' (first|(refine pN_lss_s ?_ ?_<;>intro hc<;>try (exfalso;omega))|refine pIf_f ?_|refine pN_l hS (by first|rfl|assumption) ?_|refine pN_v (hk:=?_)|fail)
  exact hno _ h0 (RDq.shut ht rfl hS)
theorem get_lost {d:D.T}:∀{l:List I32} {i:I32},i∈l→D.look d.ps i=none→d.get l=none
 |j::l,i,h,hn=>by
  rw[D.T.get]
  rcases List.mem_cons.1 h with rfl|h
  ·rw[hn]
  ·cases D.look d.ps j with
   |none=>rfl
   |some p=>simp only[get_lost h hn]
theorem get_next {d:D.T} {li:List I32} {j:Nat} {i:I32} {q v:List UInt8} (h:li[j]? =some i) (hq:d.get (li.take j)=some q) (hv:D.look d.ps i=some v):d.get (li.take (j+1))=some (q++v):=by
 rw[List.take_add_one,h]
 have:∀(m:List I32) (q:List UInt8),d.get m=some q→d.get (m++[i])=some (q++v):=by
  intro m
  induction m with
  |nil=>
   intro q hq
   cases hq
   show d.get [i]=_
   rw[D.T.get,hv]
   simp[D.T.get]
  |cons x m ih=>
   intro q hq
   rw[List.cons_append,D.T.get]
   rw[D.T.get] at hq
   cases hx:D.look d.ps x with
   |none=>rw[hx] at hq;cases hq
   |some u=>
    rw[hx] at hq
    cases hm:d.get m with
    |none=>simp only[hm] at hq;cases hq
    |some r=>
     simp only[hm] at hq
     cases hq
     simp only[ih r hm,List.append_assoc]
 exact this _ q hq
set_option maxHeartbeats 2000000 in
theorem r5Get_ok (hS:Sat E w L) [hf:Fnd (RDq c b) L (d,fz) N] [hr:Rds (cdI 58) (RDq c b (d,fz)::N) s li] (hl:li.length≤1099511627776) (hb:d.ps.length≤1099511627776) (hbl:∀j q,d.get (li.take j)=some q→q.length≤1099511627776)
  (hyes:∀q s w,d.get li=some q→Sat E w (rows cd_uint8 s q::RDq c b (d,fz)::N)→Q (.tuple #[.slice s.a q.length s.c,.int .i64 0]) w)
  (hno:∀w,d.get li=none→Sat E w (RDq c b (d,fz)::N)→Q (.tuple #[.slice none 0 0,.int .i64 8]) w):
  Calls zp 152 #[.pointer (some ⟨b,0,none⟩),.slice s.a li.length s.c] w (retP Q):=by
 refine pithref35_Depot_Get.calls ?_
 unfold pithref35_Depot_Get.F
 have hS1:=hS.fd (RDq c b)
 clear hS hf
 have hS:=hS1
 clear hS1
 refine⟨fun v v' w=>∃(j:Nat) (q:List UInt8) (so:Sl),v= .slice so.a q.length so.c∧v'= .int .i64 j∧j≤li.length∧d.get (li.take j)=some q∧Sat E w (rows cd_uint8 so q::RDq c b (d,fz)::N),fun _ v _=>li.length-(RowKit.intOf v).toNat,⟨0,[],⟨none,0⟩,rfl,rfl,by omega,by rw[List.take_zero];rfl,hS.nil cd_uint8.e cd_uint8.size⟩,?_⟩
 clear hS
 rintro _ _ _ w ⟨j,q,so,rfl,rfl,hj,hq,hS⟩
 have hql:=hbl j q hq
 by_cases hlt:j<li.length
 ·obtain⟨i,hi⟩:∃i,li[j]? =some i:=⟨li[j],List.getElem?_eq_getElem _⟩
  repeat' (first|refine pN_ixk (C:=cdI 58) (s:=s) (l:=li) hS j rfl rfl hi fun ad ha hel=>?_|refine pN_ld_at ha hS (i32n i) ?_|(refine pN_lss_s ?_ ?_<;>intro hc<;>try (exfalso;omega))|refine pIf_t ?_|refine pN_v (hk:=?_)|fail)
  obtain⟨sp,sn,pl,nl,ht,hS⟩:=RDq.opn (M:=rows cd_uint8 so q::N) (hS.perm (List.Perm.swap _ _ _))
  have hpl:pl.length≤1099511627776:=by
   have h1:(plm pl).length≤d.ps.length:=ht.like.pl
   rw[plm_len] at h1
   omega
  have hps:D.look (plm pl) i=D.look d.ps i:=ht.like.ps i
  refine pcq (f:=202) (r5find_ok (c:=c) (pl:=pl) i hS hpl (fun n x w h1 h2 h3 hS=>?_) fun w h3 hS=>?_)
  ·have hrx:=ht.pr x (List.mem_of_getElem? h1)
   rw[hps] at h3
   have hnx:=get_next hi hq h3
   have hxl:=hbl _ _ hnx
   rw[List.length_append] at hxl
   obtain⟨xi,xs,xl⟩:=x
   dsimp only at hrx hnx hxl h1
   have hnn:¬(n:Int)<0:=by omega
   repeat' (first|refine pN_ixk (C:=cdPc) (s:=sp) (l:=pl) hS n rfl rfl h1 fun ad ha hel=>?_|refine pN_fa ha (pc_dat (xi,(xs,xl))) fun ad2 ha2=>?_|refine pN_ld1 ha2 hS ?_|(refine pN_app (C:=cd_uint8) (s:=so) (s2:=xs) (l:=q) (m:=xl) hS rfl rfl (by omega) ?_;clear hS;intro s4 w hS)|(refine pN_lss_s ?_ ?_<;>intro hc<;>try (exfalso;omega))|refine pIf_f ?_|refine pN_l hS (by first|rfl|assumption) ?_|refine pN_v (hk:=?_)|fail)
   have hS:Sat E w (r5P c b d.k sp pl sn nl (bag fz::rows cd_uint8 s4 (q++xl)::N)):=hS.to
   have hS:=RDq.shut ht rfl hS
   exact⟨⟨j+1,q++xl,s4,rfl,rfl,hlt,hnx,hS.perm (List.Perm.swap _ _ _)⟩,by simp[RowKit.intOf]<;>omega⟩
  ·rw[hps] at h3
   have hgn:d.get li=none:=get_lost (List.mem_of_getElem? hi) h3
   repeat' (first|(refine pN_lss_s ?_ ?_<;>intro hc<;>try (exfalso;omega))|refine pIf_t ?_|fail)
   exact hno _ hgn (RDq.shut ht rfl (show Sat E w (r5P c b d.k sp pl sn nl (bag fz::N)) from hS.to))
 ·obtain rfl:j=li.length:=by omega
  rw[List.take_length] at hq
  repeat' (first|(refine pN_lss_s ?_ ?_<;>intro hc<;>try (exfalso;omega))|refine pIf_f ?_|refine pN_v (hk:=?_)|fail)
  exact hyes q so _ hq hS
end
end
section
section
variable [Pan] {E w W:World} {K Q:Value→World→Prop} {J:Value→Prop} {L M N:List HA} {l r:List T_api_Item} {s s2:Sl} {b:Nat}
theorem mid_ok {i j h:Nat} (hh:h=(i+j) / 2) (hb:i+j<9223372036854775808):IntKind.i64.wrap (IntKind.u64.wrap ((i:Int)+(j:Int)) / 2^1)=(h:Int):=by
 rw[wrap_u64,wrap_i64]<;>omega
set_option maxHeartbeats 4000000 in
theorem SymMerge_ok {bc:Nat}:∀(k:Nat) {w:World} {Q:Value→World→Prop} {A X T Z:List T_api_Item},X.length+T.length≤k→0<X.length→0<T.length→U.Up S.before X→U.Up S.before T→
  ∀(hS:Sat E w (rows cd_api_Item s (A++(X++(T++Z)))::M)) [hf:Fnd (cel bc) M capOb N] {m:Nat} (hm:m=A.length+X.length+T.length+Z.length) (hb:m≤1099511627776) {a c b:Nat} (ha:a=A.length) (hc:c=A.length+X.length) (hbb:b=A.length+X.length+T.length)
  (hQ:∀G w,G.Perm (X++T)→U.Up S.before G→Sat E w (rows cd_api_Item s (A++(G++Z))::M)→Q (.tuple #[]) w),
  Calls zp 177 #[.slice s.a m s.c,.int .i64 a,.int .i64 c,.int .i64 b,cmpV bc] w (retP Q):=by
 intro k
 induction k with
 |zero=>intro w Q A X T Z hk h1;omega
 |succ k ih=>
 intro w Q A X T Z hk hX hT uX uT hS hf m hm hb a c b ha hc hbb hQ
 refine slices_symMergeCmpFunc_api_Item_.calls ?_
 unfold slices_symMergeCmpFunc_api_Item_.F
 by_cases hX1:X.length=1
 ·obtain⟨x,rfl⟩:∃x,X=[x]:=List.length_eq_one_iff.1 hX1
  have hcc:c=a+1:=by omega
  have hm:m=A.length+T.length+1+Z.length:=by rw[hX1] at hm;omega
  have hbT:b=c+T.length:=by omega
  obtain⟨D,hD⟩:∃D,D=A++([x]++(T++Z)):=⟨_,rfl⟩
  have hDl:D.length=m:=by rw[hD,hm];simp only[List.length_append,List.length_singleton];omega
  have g0:D[a]? =some x:=by rw[hD,ha];exact U.get_mid A (T++Z) x
  have gT:∀k t,T[k]? =some t→D[c+k]? =some t:=fun k t h=>by
   have hk:=(List.getElem?_eq_some_iff.1 h).1
   rw[hD,hcc,ha,show A++([x]++(T++Z))=(A++[x])++(T++Z) by simp,List.getElem?_append_right (by simp only[List.length_append,List.length_singleton];omega)]
   rw[show A.length+1+k-(A++[x]).length=k by simp only[List.length_append,List.length_singleton];omega,List.getElem?_append_left hk,h]
  repeat' (first|(refine pN_eql_s ?_ ?_<;>intro hc<;>try (exfalso;first|omega|exact gone hc|exact gon2 hc))|refine pIf_t ?_|refine pN_v (hk:=?_)|fail)
  refine⟨fun v v' w=>∃p q:Nat,v= .int .i64 ((c+p:Nat):Int)∧v'= .int .i64 ((c+q:Nat):Int)∧p≤q∧q≤T.length∧(∀k t,k<p→T[k]? =some t→S.before t x=true)∧(∀k t,q≤k→T[k]? =some t→S.before t x=false)∧Sat E w (rows cd_api_Item s D::M),fun v v' _=>(RowKit.intOf v').toNat-(RowKit.intOf v).toNat,
   ⟨0,T.length,by rw[Nat.add_zero],by rw[hbT],by omega,by omega,fun k t h=>by omega,fun k t h1 h2=>by have:=(List.getElem?_eq_some_iff.1 h2).1;omega,by rw[hD];exact hS⟩,?_⟩
  clear hS
  rintro _ _ _ w ⟨p,q,rfl,rfl,hpq,hq,hlo,hhi,hS⟩
  by_cases hlt:p<q
  ·obtain⟨h,hh⟩:∃h,h=(p+q) / 2:=⟨_,rfl⟩
   have hmid:=mid_ok (i:=c+p) (j:=c+q) (h:=c+h) (by omega) (by omega)
   obtain⟨t,ht⟩:∃t,T[h]? =some t:=⟨T[h]'(by omega),List.getElem?_eq_getElem _⟩
   have g1:=gT h t ht
   have hbt:=fun h=>bef_t (x:=t) (y:=x) h
   have hbf:=fun h=>bef_f (x:=t) (y:=x) h
   repeat' (first|refine pN_shr_k 1 rfl (by decide) ?_|refine pA_ixk hS (c+h) (by omega) (by omega) g1 fun ad ha hel=>?_|refine pA_ixk hS a rfl (by omega) g0 fun ad ha hel=>?_|(refine cmp_ok t x hS ?_;clear hS;intro w hS)|refine pA_lss_s (fun hcc=>?_) (fun hcc=>?_)|(refine pN_lss_s ?_ ?_<;>intro hc<;>try (exfalso;omega))|refine pIf_t ?_|refine pIf_f ?_|refine pL_ld_at ha hS (by rfl) ?_|(refine pDr_go hS ?_;clear hS;intro w hS)|refine⟨trivial,?_⟩|refine pN_v (hk:=?_)|fail)
   ·have hbt:=hbt hcc
    have he:(((c+p:Nat):Int)+((c+q:Nat):Int)) / 2^1+1=((c+(h+1):Nat):Int):=by omega
    rw[he]
    exact⟨⟨h+1,q,rfl,rfl,by omega,hq,fun k u hk hu=>uT.lt_le S.before_ord ht hu (by omega) hbt,hhi,hS⟩,by simp[RowKit.intOf]<;>omega⟩
   ·have hbf:=hbf hcc
    have he:(((c+p:Nat):Int)+((c+q:Nat):Int)) / 2^1=((c+h:Nat):Int):=by omega
    rw[he]
    exact⟨⟨p,h,rfl,rfl,by omega,by omega,hlo,fun k u hk hu=>uT.nlt_ge S.before_ord ht hu (by omega) hbf,hS⟩,by simp[RowKit.intOf]<;>omega⟩
  ·obtain rfl:p=q:=by omega
   have hT1:=U.mem_take_at hlo
   have hT2:=U.mem_drop_at hhi
   have hup:=U.Up.front S.before_ord (T1:=T.take p) (T2:=T.drop p) (by rw[List.take_append_drop];exact uT) hT1 hT2
   have hper:(T.take p++x::T.drop p).Perm ([x]++T):=by
    refine List.perm_middle.trans ?_
    rw[List.take_append_drop];exact List.Perm.refl _
   have hthr0:=U.thr_0 A T Z x
   have hD0:D=U.thr A (T.take p) (T.drop p++Z) x 0:=by
    rw[hD,U.thr_0];simp[←List.append_assoc]
   have hfin:U.thr A (T.take p) (T.drop p++Z) x p=A++((T.take p++x::T.drop p)++Z):=by
    have:=U.thr_all A (T.take p) (T.drop p++Z) x
    rw[List.length_take,Nat.min_eq_left hq] at this
    rw[this];simp
   have hthl:∀r,r≤p→(U.thr A (T.take p) (T.drop p++Z) x r).length=m:=fun r hr=>by
    rw[U.thr_len _ _ _ _ _ (by rw[List.length_take];omega),List.length_take,List.length_append,List.length_drop];omega
   rw[hD0] at hS
   repeat' (first|(refine pN_lss_s ?_ ?_<;>intro hc<;>try (exfalso;omega))|refine pIf_f ?_|fail)
   refine⟨fun v w=>∃r:Nat,v= .int .i64 ((a+r:Nat):Int)∧r≤p∧Sat E w (rows cd_api_Item s (U.thr A (T.take p) (T.drop p++Z) x r)::M),fun v _=>c+p-(RowKit.intOf v).toNat,⟨0,by rw[Nat.add_zero],by omega,hS⟩,?_⟩
   clear hS
   rintro _ _ w ⟨r,rfl,hr,hS⟩
   have hlr:=hthl r hr
   by_cases hrp:r<p
   ·obtain⟨y,hy,e1,e2,e3⟩:=U.thr_step A (T.take p) (T.drop p++Z) x (r:=r) (by rw[List.length_take];omega)
    have g1:=U.get_mid (A++(T.take p).take r) (y::((T.take p).drop (r+1)++(T.drop p++Z))) x
    have g2:=U.get_nb (A++(T.take p).take r) ((T.take p).drop (r+1)++(T.drop p++Z)) x y
    have hsw:=U.swap_nb' (A++(T.take p).take r) ((T.take p).drop (r+1)++(T.drop p++Z)) x y
    rw[←e1] at g1 g2 hsw
    rw[←e2] at hsw
    rw[e3,←ha] at g1 g2 hsw
    generalize U.thr A (T.take p) (T.drop p++Z) x r=B at*
    obtain⟨z,h4⟩:∃z,(B.set (a+r) y)[a+r+1]? =some z:=⟨(B.set (a+r) y)[a+r+1]'(by rw[List.length_set];omega),List.getElem?_eq_getElem _⟩
    repeat' (first|refine pA_ixk hS (a+r+1) (by omega) (by rw[List.length_set];omega) h4 fun ad ha hel=>?_|refine pA_ixk hS (a+r+1) (by omega) (by omega) g2 fun ad ha hel=>?_|refine pA_ixk hS (a+r) (by omega) (by omega) g1 fun ad ha hel=>?_|(refine pN_srn (x:=y) hel hS (by rfl) (by rfl) (by omega) ?_;clear hS;intro w hS)|(refine pN_srn (x:=x) hel hS (by rfl) (by rfl) (by rw[List.length_set];omega) ?_;clear hS;intro w hS)|(refine pN_lss_s ?_ ?_<;>intro hc<;>try (exfalso;omega))|refine pIf_t ?_|refine pL_ld_at ha hS (by rfl) ?_|(refine pDr_go hS ?_;clear hS;intro w hS)|refine⟨trivial,?_⟩|refine pN_v (hk:=?_)|refine pA_v (hk:=?_)|fail)
    rw[hsw] at hS
    exact⟨⟨r+1,rfl,by omega,hS⟩,by simp[RowKit.intOf]<;>omega⟩
   ·obtain rfl:r=p:=by omega
    rw[hfin] at hS
    repeat' (first|(refine pN_lss_s ?_ ?_<;>intro hc<;>try (exfalso;omega))|refine pIf_f ?_|refine pN_v (hk:=?_)|fail)
    exact hQ _ _ hper hup hS
 by_cases hT1:T.length=1
 ·obtain⟨y,rfl⟩:∃y,T=[y]:=List.length_eq_one_iff.1 hT1
  have hbc:b=c+1:=by omega
  have hca:c=a+X.length:=by omega
  have hm:m=A.length+X.length+1+Z.length:=by rw[hT1] at hm;omega
  have hX2:¬(c:Int)-(a:Int)=1:=by omega
  have hbc1:(b:Int)-(c:Int)=1:=by omega
  obtain⟨D,hD⟩:∃D,D=A++(X++([y]++Z)):=⟨_,rfl⟩
  have hDl:D.length=m:=by rw[hD,hm];simp only[List.length_append,List.length_singleton];omega
  have g0:D[c]? =some y:=by
   rw[hD,show A++(X++([y]++Z))=(A++X)++y::Z by simp,hc,show A.length+X.length=(A++X).length by rw[List.length_append]]
   exact U.get_mid (A++X) Z y
  have gX:∀k t,X[k]? =some t→D[a+k]? =some t:=fun k t h=>by
   have hk:=(List.getElem?_eq_some_iff.1 h).1
   rw[hD,ha,List.getElem?_append_right (by omega),show A.length+k-A.length=k by omega,List.getElem?_append_left hk,h]
  repeat' (first|(refine pN_eql_s ?_ ?_<;>intro hc<;>try (exfalso;first|omega|exact gone hc|exact gon2 hc))|refine pIf_t ?_|refine pIf_f ?_|refine pN_v (hk:=?_)|fail)
  refine⟨fun v v' w=>∃p q:Nat,v= .int .i64 ((a+p:Nat):Int)∧v'= .int .i64 ((a+q:Nat):Int)∧p≤q∧q≤X.length∧(∀k t,k<p→X[k]? =some t→S.before y t=false)∧(∀k t,q≤k→X[k]? =some t→S.before y t=true)∧Sat E w (rows cd_api_Item s D::M),fun v v' _=>(RowKit.intOf v').toNat-(RowKit.intOf v).toNat,
   ⟨0,X.length,by rw[Nat.add_zero],by rw[hca],by omega,by omega,fun k t h=>by omega,fun k t h1 h2=>by have:=(List.getElem?_eq_some_iff.1 h2).1;omega,by rw[hD];exact hS⟩,?_⟩
  clear hS
  rintro _ _ _ w ⟨p,q,rfl,rfl,hpq,hq,hlo,hhi,hS⟩
  by_cases hlt:p<q
  ·obtain⟨h,hh⟩:∃h,h=(p+q) / 2:=⟨_,rfl⟩
   obtain⟨t,ht⟩:∃t,X[h]? =some t:=⟨X[h]'(by omega),List.getElem?_eq_getElem _⟩
   have g1:=gX h t ht
   have hbt:=fun h=>bef_t (x:=y) (y:=t) h
   have hbf:=fun h=>bef_f (x:=y) (y:=t) h
   repeat' (first|refine pN_shr_k 1 rfl (by decide) ?_|refine pA_ixk hS (a+h) (by omega) (by omega) g1 fun ad ha hel=>?_|refine pA_ixk hS c rfl (by omega) g0 fun ad ha hel=>?_|(refine cmp_ok y t hS ?_;clear hS;intro w hS)|refine pA_lss_s (fun hcc=>?_) (fun hcc=>?_)|(refine pN_lss_s ?_ ?_<;>intro hc<;>try (exfalso;omega))|refine pIf_t ?_|refine pIf_f ?_|refine pL_ld_at ha hS (by rfl) ?_|(refine pDr_go hS ?_;clear hS;intro w hS)|refine⟨trivial,?_⟩|refine pN_v (hk:=?_)|refine pA_v (hk:=?_)|fail)
   ·have hbt:=hbt hcc
    have he:(((a+p:Nat):Int)+((a+q:Nat):Int)) / 2^1=((a+h:Nat):Int):=by omega
    rw[he]
    exact⟨⟨p,h,rfl,rfl,by omega,by omega,hlo,fun k u hk hu=>uX.lt_ge S.before_ord ht hu (by omega) hbt,hS⟩,by simp[RowKit.intOf]<;>omega⟩
   ·have hbf:=hbf hcc
    have he:(((a+p:Nat):Int)+((a+q:Nat):Int)) / 2^1+1=((a+(h+1):Nat):Int):=by omega
    rw[he]
    exact⟨⟨h+1,q,rfl,rfl,by omega,hq,fun k u hk hu=>uX.nlt_le S.before_ord ht hu (by omega) hbf,hhi,hS⟩,by simp[RowKit.intOf]<;>omega⟩
  ·obtain rfl:p=q:=by omega
   have hX1:=U.mem_take_at hlo
   have hX2:=U.mem_drop_at hhi
   have hup:=U.Up.back S.before_ord (S1:=X.take p) (S2:=X.drop p) (by rw[List.take_append_drop];exact uX) hX1 hX2
   have hper:(X.take p++y::X.drop p).Perm (X++[y]):=by
    refine List.perm_middle.trans ?_
    rw[List.take_append_drop];exact(List.perm_append_singleton y X).symm
   have hD0:D=U.thr (A++X.take p) (X.drop p) Z y (X.length-p):=by
    have:=U.thr_all (A++X.take p) (X.drop p) Z y
    rw[List.length_drop] at this
    rw[hD,this,List.append_assoc,←List.append_assoc (X.take p),List.take_append_drop];rfl
   have hfin:U.thr (A++X.take p) (X.drop p) Z y 0=A++((X.take p++y::X.drop p)++Z):=by
    rw[U.thr_0];simp
   have hAl:(A++X.take p).length=a+p:=by rw[List.length_append,List.length_take];omega
   have hthl:∀r,r≤X.length-p→(U.thr (A++X.take p) (X.drop p) Z y r).length=m:=fun r hr=>by
    rw[U.thr_len _ _ _ _ _ (by rw[List.length_drop];omega),List.length_drop,hAl];omega
   rw[hD0] at hS
   have hc0:(c:Int)=((a+p+(X.length-p):Nat):Int):=by omega
   repeat' (first|(refine pN_lss_s ?_ ?_<;>intro hc<;>try (exfalso;omega))|refine pIf_f ?_|fail)
   refine⟨fun v w=>∃r:Nat,v= .int .i64 ((a+p+r:Nat):Int)∧r≤X.length-p∧Sat E w (rows cd_api_Item s (U.thr (A++X.take p) (X.drop p) Z y r)::M),fun v _=>(RowKit.intOf v).toNat,⟨X.length-p,by rw[hc0],by omega,hS⟩,?_⟩
   clear hS
   rintro _ _ w ⟨r,rfl,hr,hS⟩
   have hlr:=hthl r hr
   by_cases hrp:0<r
   ·obtain⟨r',rfl⟩:∃r',r=r'+1:=⟨r-1,by omega⟩
    obtain⟨x,hx,e1,e2,e3⟩:=U.thr_step (A++X.take p) (X.drop p) Z y (r:=r') (by rw[List.length_drop];omega)
    rw[hAl] at e3
    have g1:=U.get_mid ((A++X.take p)++(X.drop p).take r') (y::((X.drop p).drop (r'+1)++Z)) x
    have g2:=U.get_nb ((A++X.take p)++(X.drop p).take r') ((X.drop p).drop (r'+1)++Z) x y
    have hsw:=U.swap_nb ((A++X.take p)++(X.drop p).take r') ((X.drop p).drop (r'+1)++Z) x y
    rw[←e2] at g1 g2 hsw
    rw[←e1] at hsw
    rw[e3] at g1 g2 hsw
    generalize U.thr (A++X.take p) (X.drop p) Z y (r'+1)=B at*
    obtain⟨z,h4⟩:∃z,(B.set (a+p+r'+1) x)[a+p+r']? =some z:=⟨(B.set (a+p+r'+1) x)[a+p+r']'(by rw[List.length_set];omega),List.getElem?_eq_getElem _⟩
    repeat' (first|refine pA_ixk hS (a+p+r') (by omega) (by rw[List.length_set];omega) h4 fun ad ha hel=>?_|refine pA_ixk hS (a+p+r'+1) (by omega) (by omega) g2 fun ad ha hel=>?_|refine pA_ixk hS (a+p+r') (by omega) (by omega) g1 fun ad ha hel=>?_|(refine pN_srn (x:=x) hel hS (by rfl) (by rfl) (by omega) ?_;clear hS;intro w hS)|(refine pN_srn (x:=y) hel hS (by rfl) (by rfl) (by rw[List.length_set];omega) ?_;clear hS;intro w hS)|(refine pN_gtr_s ?_ ?_<;>intro hc<;>try (exfalso;omega))|refine pIf_t ?_|refine pL_ld_at ha hS (by rfl) ?_|(refine pDr_go hS ?_;clear hS;intro w hS)|refine⟨trivial,?_⟩|refine pN_v (hk:=?_)|refine pA_v (hk:=?_)|fail)
    rw[hsw] at hS
    exact⟨⟨r',by congr 1;omega,by omega,hS⟩,by simp[RowKit.intOf]<;>omega⟩
   ·obtain rfl:r=0:=by omega
    rw[hfin] at hS
    repeat' (first|(refine pN_gtr_s ?_ ?_<;>intro hc<;>try (exfalso;omega))|refine pIf_f ?_|fail)
    exact hQ _ _ hper hup hS
 have hX2:¬(c:Int)-(a:Int)=1:=by omega
 have hT2:¬(b:Int)-(c:Int)=1:=by omega
 obtain⟨d,hd⟩:∃d,d=(a+b) / 2:=⟨_,rfl⟩
 have hdi:((a:Int)+(b:Int)) / 2^1=(d:Int):=by omega
 obtain⟨D,hD⟩:∃D,D=A++(X++(T++Z)):=⟨_,rfl⟩
 have hDl:D.length=m:=by rw[hD,hm];simp only[List.length_append];omega
 have gX:∀k t,X[k]? =some t→D[a+k]? =some t:=fun k t h=>by
  have hk:=(List.getElem?_eq_some_iff.1 h).1
  rw[hD,ha,List.getElem?_append_right (by omega),show A.length+k-A.length=k by omega,List.getElem?_append_left hk,h]
 have gT:∀k t,T[k]? =some t→D[c+k]? =some t:=fun k t h=>by
  have hk:=(List.getElem?_eq_some_iff.1 h).1
  rw[hD,←List.append_assoc,hc,List.getElem?_append_right (by rw[List.length_append];omega),List.length_append,show A.length+X.length+k-(A.length+X.length)=k by omega,List.getElem?_append_left hk,h]
 repeat' (first|refine pN_shr_k 1 rfl (by decide) ?_|(refine pN_eql_s ?_ ?_<;>intro hc<;>try (exfalso;first|omega|exact gone hc|exact gon2 hc))|refine pIf_f ?_|refine pN_v (hk:=?_)|fail)
 rw[hdi]
 --where the halves may part
 obtain⟨lo,hlo⟩:∃lo,lo=if d<c then d+c-b else a:=⟨_,rfl⟩
 obtain⟨hi,hhi⟩:∃hi,hi=if d<c then d else c:=⟨_,rfl⟩
 have hlh:a≤lo∧lo≤hi∧hi≤c∧d+c-lo≤b∧c≤d+c-hi:=by
  by_cases h:d<c
  ·rw[if_pos h] at hlo hhi;omega
  ·rw[if_neg h] at hlo hhi;omega
 refine⟨fun v v' w=>v= .int .i64 (lo:Int)∧v'= .int .i64 (hi:Int)∧Sat E w (rows cd_api_Item s D::M),?_,?_⟩
 ·by_cases h:d<c
  ·rw[if_pos h] at hlo hhi
   have e1:(d:Int)+(c:Int)-(b:Int)=(lo:Int):=by omega
   repeat' (first|(refine pN_gtr_s ?_ ?_<;>intro hc<;>try (exfalso;omega))|refine pIf_t ?_|refine pN_v (hk:=?_)|fail)
   rw[e1,hhi]
   exact⟨rfl,rfl,hD▸hS⟩
  ·rw[if_neg h] at hlo hhi
   repeat' (first|(refine pN_gtr_s ?_ ?_<;>intro hc<;>try (exfalso;omega))|refine pIf_f ?_|fail)
   rw[hlo,hhi]
   exact⟨rfl,rfl,hD▸hS⟩
 clear hS
 rintro _ _ _ w ⟨rfl,rfl,hS⟩
 repeat' (first|refine pN_v (hk:=?_)|fail)
 refine⟨fun v v' w=>∃p q:Nat,v= .int .i64 (p:Int)∧v'= .int .i64 (q:Int)∧lo≤p∧p≤q∧q≤hi∧(p=lo∨∃x t,X[p-1-a]? =some x∧T[d+c-p-c]? =some t∧S.before t x=false)∧(q=hi∨∃x t,X[q-a]? =some x∧T[d+c-1-q-c]? =some t∧S.before t x=true)∧Sat E w (rows cd_api_Item s D::M),fun v v' _=>(RowKit.intOf v').toNat-(RowKit.intOf v).toNat,
  ⟨lo,hi,rfl,rfl,Nat.le_refl _,hlh.2.1,Nat.le_refl _,.inl rfl,.inl rfl,hS⟩,?_⟩
 clear hS
 rintro _ _ _ w ⟨p,q,rfl,rfl,hp,hpq,hq,hl1,hl2,hS⟩
 by_cases hlt:p<q
 ·obtain⟨h,hh⟩:∃h,h=(p+q) / 2:=⟨_,rfl⟩
  obtain⟨x,hx⟩:∃x,X[h-a]? =some x:=⟨X[h-a]'(by omega),List.getElem?_eq_getElem _⟩
  obtain⟨t,ht⟩:∃t,T[d+c-1-h-c]? =some t:=⟨T[d+c-1-h-c]'(by omega),List.getElem?_eq_getElem _⟩
  have g1:=gX _ x hx
  have g2:=gT _ t ht
  rw[show a+(h-a)=h by omega] at g1
  rw[show c+(d+c-1-h-c)=d+c-1-h by omega] at g2
  have hbt:=fun h=>bef_t (x:=t) (y:=x) h
  have hbf:=fun h=>bef_f (x:=t) (y:=x) h
  repeat' (first|refine pN_shr_k 1 rfl (by decide) ?_|refine pA_ixk hS (d+c-1-h) (by omega) (by omega) g2 fun ad ha hel=>?_|refine pA_ixk hS h (by omega) (by omega) g1 fun ad ha hel=>?_|(refine cmp_ok t x hS ?_;clear hS;intro w hS)|refine pA_lss_s (fun hcc=>?_) (fun hcc=>?_)|(refine pN_lss_s ?_ ?_<;>intro hc<;>try (exfalso;omega))|refine pIf_t ?_|refine pIf_f ?_|refine pL_ld_at ha hS (by rfl) ?_|(refine pDr_go hS ?_;clear hS;intro w hS)|refine⟨trivial,?_⟩|refine pN_v (hk:=?_)|refine pA_v (hk:=?_)|fail)
  ·have hbt:=hbt hcc
   have he:((p:Int)+(q:Int)) / 2^1=(h:Int):=by omega
   rw[he]
   exact⟨⟨p,h,rfl,rfl,hp,by omega,by omega,hl1,.inr ⟨x,t,hx,ht,hbt⟩,hS⟩,by simp[RowKit.intOf]<;>omega⟩
  ·have hbf:=hbf hcc
   have he:((p:Int)+(q:Int)) / 2^1+1=((h+1:Nat):Int):=by omega
   rw[he]
   exact⟨⟨h+1,q,rfl,rfl,by omega,by omega,hq,.inr ⟨x,t,by rw[Nat.add_sub_cancel];exact hx,by rw[show d+c-(h+1)-c=d+c-1-h-c by omega];exact ht,hbf⟩,hl2,hS⟩,by simp[RowKit.intOf]<;>omega⟩
 ·obtain rfl:p=q:=by omega
  obtain⟨e,he⟩:∃e,e=d+c-p:=⟨_,rfl⟩
  have hei:(d:Int)+(c:Int)-(p:Int)=(e:Int):=by omega
  obtain⟨X1,X2,rfl,hx1,hx2⟩:=half X (k:=p-a) (by omega)
  obtain⟨T1,T2,rfl,ht1,ht2⟩:=half T (k:=e-c) (by omega)
  have hXW:=U.Up.hXW S.before_ord uX uT (by
   rcases hl1 with h|⟨x,t,e1,e2,e3⟩
   ·by_cases hdc:d<c
    ·rw[if_pos hdc] at hlo
     exact .inr (.inl (List.eq_nil_of_length_eq_zero (by omega)))
    ·rw[if_neg hdc] at hlo
     exact .inl (List.eq_nil_of_length_eq_zero (by omega))
   ·by_cases h0:p=a
    ·exact .inl (List.eq_nil_of_length_eq_zero (by omega))
    ·refine .inr (.inr ⟨x,t,?_,?_,e3⟩)
     ·rw[List.getElem?_append_left (by omega)] at e1
      rw[List.getLast?_eq_getElem?,←e1];congr 1;omega
     ·rw[List.getElem?_append_right (by omega)] at e2
      rw[List.head?_eq_getElem?,←e2];congr 1;omega)
  have hYS:=U.Up.hYS S.before_ord uX uT (by
   rcases hl2 with h|⟨x,t,e1,e2,e3⟩
   ·by_cases hdc:d<c
    ·rw[if_pos hdc] at hhi
     exact .inr (.inl (List.eq_nil_of_length_eq_zero (by omega)))
    ·rw[if_neg hdc] at hhi
     exact .inl (List.eq_nil_of_length_eq_zero (by omega))
   ·by_cases h0:e=c
    ·exact .inr (.inl (List.eq_nil_of_length_eq_zero (by omega)))
    ·refine .inr (.inr ⟨x,t,?_,?_,e3⟩)
     ·rw[List.getElem?_append_right (by omega)] at e1
      rw[List.head?_eq_getElem?,←e1];congr 1;omega
     ·rw[List.getElem?_append_left (by omega)] at e2
      rw[List.getLast?_eq_getElem?,←e2];congr 1;omega)
  clear gX gT hl1 hl2
  simp only[List.length_append] at hX hT hX1 hT1 hX2 hT2 hk hm hbb hc hx1 hx2 ht1 ht2
  have hD2:D=(A++X1)++(X2++(T1++(T2++Z))):=by rw[hD];simp only[List.append_assoc]
  have hAX:(A++X1).length=p:=by rw[List.length_append];omega
  have hTZ:(T2++Z).length=T2.length+Z.length:=List.length_append
  repeat' (first|(refine pN_lss_s ?_ ?_<;>intro hc<;>try (exfalso;omega))|refine pIf_f ?_|refine pN_v (hk:=?_)|fail)
  rw[hei]
  refine⟨fun w=>Sat E w (rows cd_api_Item s ((A++X1)++(T1++(X2++(T2++Z))))::M),?_,?_⟩
  ·by_cases h1:p<c∧c<e
   ·rw[hD2] at hS
    repeat' (first|(refine pN_lss_s ?_ ?_<;>intro hc<;>try (exfalso;omega))|refine pIf_t ?_|refine pGd_go (by rfl) ?_|refine pN_v (hk:=?_)|fail)
    refine pcq (f:=207) (Rotate_ok (A:=A++X1) (S:=X2) (T:=T1) (Z:=T2++Z) (cmpV bc) (by omega) (by omega) hS (by omega) hb (by omega) (by omega) (by omega) ?_)
    clear hS
    intro w hS
    exact hS
   ·have hsame:(A++X1)++(T1++(X2++(T2++Z)))=D:=by
     rw[hD2]
     by_cases h2:p<c
     ·have:T1=[]:=List.eq_nil_of_length_eq_zero (by omega)
      rw[this];rfl
     ·have:X2=[]:=List.eq_nil_of_length_eq_zero (by omega)
      rw[this];rfl
    rw[hsame]
    by_cases h2:p<c
    ·have h3:¬c<e:=fun h=>h1 ⟨h2,h⟩
     repeat' (first|(refine pN_lss_s ?_ ?_<;>intro hc<;>try (exfalso;omega))|refine pIf_f ?_|refine pGd_go (by rfl) ?_|refine pN_v (hk:=?_)|fail)
     exact hS
    ·repeat' (first|(refine pN_lss_s ?_ ?_<;>intro hc<;>try (exfalso;omega))|refine pIf_f ?_|refine pGd_no (by rfl) ?_|refine pN_v (hk:=?_)|fail)
     exact hS
  clear hS
  rintro _ w hS
  have hpX:=(U.Up.app.1 uX)
  have hpT:=(U.Up.app.1 uT)
  have hS:Sat E w (rows cd_api_Item s (A++(X1++(T1++(X2++(T2++Z)))))::M):=by rw[List.append_assoc] at hS;exact hS
  have hxz:(X2++(T2++Z)).length=X2.length+(T2.length+Z.length):=by simp only[List.length_append]
  skip
  refine⟨fun w=>∃U1:List T_api_Item,U1.Perm (X1++T1)∧U.Up S.before U1∧Sat E w (rows cd_api_Item s (A++(U1++(X2++(T2++Z))))::M),?_,?_⟩
  ·by_cases h1:a<p∧p<d
   ·repeat' (first|(refine pN_lss_s ?_ ?_<;>intro hc<;>try (exfalso;omega))|refine pIf_t ?_|refine pGd_go (by rfl) ?_|refine pN_v (hk:=?_)|fail)
    refine pcq (f:=177) (ih (X:=X1) (T:=T1) (Z:=X2++(T2++Z)) (by omega) (by omega) (by omega) hpX.1 hpT.1 hS (by omega) hb ha (by omega) (by omega) fun G w hp hu hS=>?_)
    exact⟨G,hp,hu,hS⟩
   ·have hone:U.Up S.before (X1++T1):=by
     by_cases h2:a<p
     ·have:T1=[]:=List.eq_nil_of_length_eq_zero (by omega)
      rw[this,List.append_nil];exact hpX.1
     ·have:X1=[]:=List.eq_nil_of_length_eq_zero (by omega)
      rw[this];exact hpT.1
    have hS2:Sat E w (rows cd_api_Item s (A++((X1++T1)++(X2++(T2++Z))))::M):=by rw[List.append_assoc];exact hS
    by_cases h2:a<p
    ·have h3:¬p<d:=fun h=>h1 ⟨h2,h⟩
     clear hS
     have hS:=hS2
     repeat' (first|(refine pN_lss_s ?_ ?_<;>intro hc<;>try (exfalso;omega))|refine pIf_f ?_|refine pGd_go (by rfl) ?_|refine pN_v (hk:=?_)|fail)
     exact⟨_,List.Perm.refl _,hone,hS⟩
    ·clear hS
     have hS:=hS2
     repeat' (first|(refine pN_lss_s ?_ ?_<;>intro hc<;>try (exfalso;omega))|refine pIf_f ?_|refine pGd_no (by rfl) ?_|refine pN_v (hk:=?_)|fail)
     exact⟨_,List.Perm.refl _,hone,hS⟩
  clear hS
  rintro _ w ⟨U1,hp1,hu1,hS⟩
  have hl1:=hp1.length_eq
  rw[List.length_append] at hl1
  have hfin:∀U2:List T_api_Item,U2.Perm (X2++T2)→U.Up S.before U2→(U1++U2).Perm ((X1++X2)++(T1++T2))∧U.Up S.before (U1++U2):=fun U2 hp2 hu2=>by
   refine⟨(hp1.append hp2).trans ?_,U.Up.cross uX uT hXW hYS hp1 hp2 hu1 hu2⟩
   have e1:(X1++T1)++(X2++T2)=X1++(T1++X2++T2):=by simp only[List.append_assoc]
   have e2:(X1++X2)++(T1++T2)=X1++(X2++T1++T2):=by simp only[List.append_assoc]
   rw[e1,e2]
   exact(List.perm_append_comm.append_right T2).append_left X1
  have hAU:(A++U1).length=d:=by rw[List.length_append];omega
  have hS:Sat E w (rows cd_api_Item s ((A++U1)++(X2++(T2++Z)))::M):=by rw[List.append_assoc];exact hS
  by_cases h1:d<e∧e<b
  ·repeat' (first|(refine pN_lss_s ?_ ?_<;>intro hc<;>try (exfalso;omega))|refine pIf_t ?_|refine pGd_go (by rfl) ?_|refine pN_v (hk:=?_)|fail)
   refine pcq (f:=177) (ih (A:=A++U1) (X:=X2) (T:=T2) (Z:=Z) (by omega) (by omega) (by omega) hpX.2.1 hpT.2.1 hS (by omega) hb (by omega) (by omega) (by omega) fun G w hp hu hS=>?_)
   obtain⟨f1,f2⟩:=hfin G hp hu
   skip
   exact hQ _ _ f1 f2 (by rw[List.append_assoc] at hS ⊢;exact hS)
  ·have hone:U.Up S.before (X2++T2):=by
    by_cases h2:d<e
    ·have:T2=[]:=List.eq_nil_of_length_eq_zero (by omega)
     rw[this,List.append_nil];exact hpX.2.1
    ·have:X2=[]:=List.eq_nil_of_length_eq_zero (by omega)
     rw[this];exact hpT.2.1
   obtain⟨f1,f2⟩:=hfin _ (List.Perm.refl _) hone
   have hS2:Sat E w (rows cd_api_Item s (A++((U1++(X2++T2))++Z))::M):=by
    have e1:A++((U1++(X2++T2))++Z)=(A++U1)++(X2++(T2++Z)):=by simp only[List.append_assoc]
    rw[e1];exact hS
   clear hS
   have hS:=hS2
   by_cases h2:d<e
   ·have h3:¬e<b:=fun h=>h1 ⟨h2,h⟩
    repeat' (first|(refine pN_lss_s ?_ ?_<;>intro hc<;>try (exfalso;omega))|refine pIf_f ?_|refine pGd_go (by rfl) ?_|refine pN_v (hk:=?_)|fail)
    exact hQ _ _ f1 f2 hS
   ·repeat' (first|(refine pN_lss_s ?_ ?_<;>intro hc<;>try (exfalso;omega))|refine pIf_f ?_|refine pGd_no (by rfl) ?_|refine pN_v (hk:=?_)|fail)
    exact hQ _ _ f1 f2 hS
end
end
section
section
variable [Pan] {E w W:World} {K Q:Value→World→Prop} {J:Value→Prop} {L M N:List HA} {l r:List T_api_Item} {s s2:Sl} {b:Nat}
set_option maxHeartbeats 4000000 in
theorem Stable_ok {bc:Nat} (hS:Sat E w (rows cd_api_Item s l::M)) [hf:Fnd (cel bc) M capOb N] (hb:l.length≤1099511627776)
  (hQ:∀G w,G.Perm l→U.Up S.before G→Sat E w (rows cd_api_Item s G::M)→Q (.tuple #[]) w):
  Calls zp 127 #[.slice s.a l.length s.c,.int .i64 l.length,cmpV bc] w (retP Q):=by
 refine slices_stableCmpFunc_api_Item_.calls ?_
 unfold slices_stableCmpFunc_api_Item_.F
 obtain⟨m,hm⟩:∃m,m=l.length:=⟨_,rfl⟩
 rw[←hm] at hb ⊢
 refine⟨fun v v' w=>∃(c:Nat) (D:List T_api_Item),v= .int .i64 ((c*20:Nat):Int)∧v'= .int .i64 (((c+1)*20:Nat):Int)∧c*20≤m∧D.length=m∧D.Perm l∧U.Pre S.before 20 (c*20) D∧Sat E w (rows cd_api_Item s D::M),fun v _ _=>m-(RowKit.intOf v).toNat,
  ⟨0,l,rfl,rfl,by omega,hm.symm,List.Perm.refl _,U.Pre.start (by omega),hS⟩,?_⟩
 clear hS
 rintro _ _ _ w ⟨c,D,rfl,rfl,hc,hDl,hp,hpre,hS⟩
 by_cases hle:(c+1)*20≤m
 ·obtain⟨A,X,Z,rfl,hA,hX,_⟩:=U.cut3 D (a:=c*20) (b:=(c+1)*20) (by omega) (by omega)
  simp only[List.length_append] at hDl
  repeat' (first|(refine pN_leq_s ?_ ?_<;>intro hc<;>try (exfalso;omega))|refine pIf_t ?_|fail)
  refine pcq (f:=176) (InsSort_ok hS (by omega) hb (by omega) (by omega) fun X' w hp' hu hS=>?_)
  have hl':=hp'.length_eq
  repeat' (first|refine pN_v (hk:=?_)|fail)
  have e1:(((c+1)*20:Nat):Int)+20=(((c+1+1)*20:Nat):Int):=by omega
  rw[e1]
  refine⟨⟨c+1,A++(X'++Z),rfl,rfl,hle,by simp only[List.length_append];omega,U.perm_mid hp hp',hpre.step hA (by omega) (by omega) hu,hS⟩,by simp[RowKit.intOf]<;>omega⟩
 ·obtain⟨A,X,hX,hA,hXl⟩:=half D (k:=c*20) (by omega)
  subst hX
  have hS:Sat E w (rows cd_api_Item s (A++(X++[]))::M):=by rw[List.append_nil];exact hS
  simp only[List.length_append] at hDl hXl
  repeat' (first|(refine pN_leq_s ?_ ?_<;>intro hc<;>try (exfalso;omega))|refine pIf_f ?_|fail)
  refine pcq (f:=176) (InsSort_ok (Z:=[]) hS (by rw[List.length_nil];omega) hb (by omega) (by omega) fun X' w hp' hu hS=>?_)
  have hl':=hp'.length_eq
  rw[List.append_nil] at hS
  have hblk:=hpre.last hA (S':=X') (by omega) hu
  have hp2:(A++X').Perm l:=(hp'.append_left A).trans hp
  have hl2:(A++X').length=m:=by rw[List.length_append];omega
  generalize A++X'=D at*
  clear hpre hp' hp hu hA hXl hl' hDl hle hc
  skip
  refine⟨fun v w=>∃(k:Nat) (D:List T_api_Item),v= .int .i64 (k:Int)∧0<k∧k≤4398046511104∧D.length=m∧D.Perm l∧U.Blk S.before k D∧Sat E w (rows cd_api_Item s D::M),fun v _=>m-(RowKit.intOf v).toNat,
   ⟨20,D,rfl,by omega,by omega,hl2,hp2,hblk,hS⟩,?_⟩
  clear hS hblk hp2 hl2 D
  rintro _ _ w ⟨k,D,rfl,hk0,hk4,hDl,hp,hblk,hS⟩
  by_cases hkm:k<m
  ·repeat' (first|(refine pN_lss_s ?_ ?_<;>intro hc<;>try (exfalso;omega))|refine pIf_t ?_|refine pN_v (hk:=?_)|fail)
   have e0:(2*(k:Int))=(((0+1)*(2*k):Nat):Int):=by omega
   rw[e0]
   refine⟨fun v v' w=>∃(c:Nat) (D:List T_api_Item),v= .int .i64 ((c*(2*k):Nat):Int)∧v'= .int .i64 (((c+1)*(2*k):Nat):Int)∧c*(2*k)≤m∧D.length=m∧D.Perm l∧U.Half S.before k (c*(2*k)) D∧Sat E w (rows cd_api_Item s D::M),fun v _ _=>m-(RowKit.intOf v).toNat,
    ⟨0,D,by rw[Nat.zero_mul];rfl,rfl,by omega,hDl,hp,by rw[Nat.zero_mul];exact U.Half.start hblk,hS⟩,?_⟩
   clear hS hblk hp hDl D
   rintro _ _ _ w ⟨c,D,rfl,rfl,hc,hDl,hp,hh,hS⟩
   obtain⟨a,ha⟩:∃a,a=c*(2*k):=⟨_,rfl⟩
   have hb1:(c+1)*(2*k)=a+2*k:=by rw[Nat.add_mul,Nat.one_mul,ha]
   have hu1:=hh.hi (2*c) (by rw[Nat.mul_comm 2 c,Nat.mul_assoc];exact Nat.le_refl _)
   have hu2:=hh.hi (2*c+1) (by rw[Nat.add_mul,Nat.mul_comm 2 c,Nat.mul_assoc];omega)
   have e1:2*c*k=a:=by rw[ha,Nat.mul_comm 2 c,Nat.mul_assoc]
   have e2:(2*c+1)*k=a+k:=by rw[Nat.add_mul,e1,Nat.one_mul]
   rw[e1] at hu1
   rw[e2] at hu2
   rw[hb1]
   rw[←ha] at hh hc ⊢
   by_cases hle:a+2*k≤m
   ·obtain⟨A,X,T,Z,rfl,hA,hX,hT,hX',hT'⟩:=U.cut4 D (a:=a) (m:=a+k) (b:=a+2*k) (by omega) (by omega) (by omega)
    rw[show a+k-a=k by omega] at hX hX'
    rw[show a+2*k-(a+k)=k by omega] at hT hT'
    rw[←hX'] at hu1
    rw[←hT'] at hu2
    simp only[List.length_append] at hDl
    repeat' (first|(refine pN_leq_s ?_ ?_<;>intro hc<;>try (exfalso;omega))|refine pIf_t ?_|refine pN_v (hk:=?_)|fail)
    refine pcq (f:=177) (SymMerge_ok (X.length+T.length) (Nat.le_refl _) (by omega) (by omega) hu1 hu2 hS (by omega) hb (by omega) (by omega) (by omega) fun G w hp' hu hS=>?_)
    have hl':=hp'.length_eq
    rw[List.length_append] at hl'
    repeat' (first|refine pN_v (hk:=?_)|fail)
    have e3:((a+2*k:Nat):Int)+2*(k:Int)=(((c+1+1)*(2*k):Nat):Int):=by
     rw[Nat.add_mul (c+1),hb1];omega
    rw[e3]
    have hh2:U.Half S.before k ((c+1)*(2*k)) (A++(G++Z)):=U.Half.step (by rw[←ha];exact hh) (by omega) hl' (by omega) hu
    refine⟨⟨c+1,A++(G++Z),by rw[hb1],rfl,by omega,by simp only[List.length_append];omega,?_,hh2,hS⟩,by simp[RowKit.intOf]<;>omega⟩
    refine U.perm_mid (S:=X++T) ?_ hp'
    rw[List.append_assoc];exact hp
   ·by_cases hmm:a+k<m
    ·obtain⟨A,X,T,Z,hDD,hA,hX,hT,hX',hT'⟩:=U.cut4 D (a:=a) (m:=a+k) (b:=m) (by omega) (by omega) (by omega)
     have hZ:Z=[]:=by
      have:=congrArg List.length hDD
      simp only[List.length_append] at this
      exact List.eq_nil_of_length_eq_zero (by omega)
     subst hZ
     rw[show a+k-a=k by omega] at hX hX'
     have hseg:U.seg D (a+k) (m-(a+k))=U.seg D (a+k) k:=by
      unfold U.seg
      rw[List.take_of_length_le (by rw[List.length_drop];omega),List.take_of_length_le (by rw[List.length_drop];omega)]
     rw[hseg] at hT'
     rw[←hX'] at hu1
     rw[←hT'] at hu2
     rw[hDD] at hS hp hh
     rw[List.append_nil] at hh hp
     repeat' (first|(refine pN_leq_s ?_ ?_<;>intro hc<;>try (exfalso;omega))|refine pIf_f ?_|fail)
     refine⟨fun w=>∃D:List T_api_Item,D.length=m∧D.Perm l∧U.Blk S.before (2*k) D∧Sat E w (rows cd_api_Item s D::M),?_,?_⟩
     ·repeat' (first|(refine pN_lss_s ?_ ?_<;>intro hc<;>try (exfalso;omega))|refine pIf_t ?_|refine pN_v (hk:=?_)|fail)
      refine pcq (f:=177) (SymMerge_ok (X.length+T.length) (Nat.le_refl _) (by omega) (by omega) hu1 hu2 hS (by rw[List.length_nil];omega) hb (by omega) (by omega) (by omega) fun G w hp' hu hS=>?_)
      have hl':=hp'.length_eq
      rw[List.length_append] at hl'
      rw[List.append_nil] at hS
      refine⟨A++G,by rw[List.length_append];omega,(hp'.append_left A).trans hp,U.Half.last (c:=c) (by rw[←ha];exact hh) (by omega) hl' (by omega) hu,hS⟩
     ·clear hS hp hh
      rintro _ w ⟨D,hDl,hp,hblk,hS⟩
      have e3:(k:Int)*2=((2*k:Nat):Int):=by omega
      repeat' (first|refine pN_v (hk:=?_)|fail)
      rw[e3]
      exact⟨⟨2*k,D,rfl,by omega,by omega,hDl,hp,hblk,hS⟩,by simp[RowKit.intOf]<;>omega⟩
    ·have hblk:=U.Half.rest (c:=c) (l:=D) (by rw[←ha];exact hh) (by omega)
     repeat' (first|(refine pN_leq_s ?_ ?_<;>intro hc<;>try (exfalso;omega))|refine pIf_f ?_|fail)
     refine⟨fun w=>∃D:List T_api_Item,D.length=m∧D.Perm l∧U.Blk S.before (2*k) D∧Sat E w (rows cd_api_Item s D::M),?_,?_⟩
     ·repeat' (first|(refine pN_lss_s ?_ ?_<;>intro hc<;>try (exfalso;omega))|refine pIf_f ?_|refine pN_v (hk:=?_)|fail)
      exact⟨D,hDl,hp,hblk,hS⟩
     ·clear hS hp hh hblk hDl hu1 hu2 D
      rintro _ w ⟨D,hDl,hp,hblk,hS⟩
      have e3:(k:Int)*2=((2*k:Nat):Int):=by omega
      repeat' (first|refine pN_v (hk:=?_)|fail)
      rw[e3]
      exact⟨⟨2*k,D,rfl,by omega,by omega,hDl,hp,hblk,hS⟩,by simp[RowKit.intOf]<;>omega⟩
  ·have hup:=hblk.all (by omega)
   repeat' (first|(refine pN_lss_s ?_ ?_<;>intro hc<;>try (exfalso;omega))|refine pIf_f ?_|fail)
   exact hQ _ _ hp hup hS
theorem SortStable_ok {bc:Nat} (hS:Sat E w (rows cd_api_Item s l::M)) [hf:Fnd (cel bc) M capOb N] (hb:l.length≤1099511627776)
  (hQ:∀G w,G.Perm l→U.Up S.before G→Sat E w (rows cd_api_Item s G::M)→Q (.tuple #[]) w):
  Calls zp 96 #[.slice s.a l.length s.c,cmpV bc] w (retP Q):=by
 refine slices_SortStableFunc___api_Item_api_Item_.calls ?_
 unfold slices_SortStableFunc___api_Item_api_Item_.F
 repeat' (first|refine pN_v (hk:=?_)|fail)
 refine pcq (f:=127) (Stable_ok hS hb fun G w hp hu hS=>?_)
 skip
 exact hQ _ _ hp hu hS
end
end
section
namespace S
theorem werr_at:∀{its:List It} {k:Nat} {x:It},its[k]? =some x→(∀y∈its.take k,A.wrong y=0)→A.wrong x≠0→werr its=A.wrong x
 | [],k,x,h,_,_=>by simp at h
 |y::r,0,x,h,_,hx=>by
  simp at h
  subst h
  rw[werr,if_neg hx]
 |y::r,k+1,x,h,hy,hx=>by
  rw[werr,if_pos (hy y (by simp)),werr_at (k:=k) (by simpa using h) (fun z hz=>hy z (by rw[List.take_succ_cons];exact List.mem_cons_of_mem _ hz)) hx]
theorem werr_0:∀{its:List It},(∀y∈its,A.wrong y=0)→werr its=0
 | [],_=>rfl
 |y::r,h=>by rw[werr,if_pos (h y List.mem_cons_self),werr_0 fun z hz=>h z (List.mem_cons_of_mem _ hz)]
theorem twice_eq:∀(l:List It),twice l=true↔∃i x y,l[i]? =some x∧l[i+1]? =some y∧x.Name=y.Name
 | []=>by simp[twice]
 | [x]=>by
  simp only[twice,Bool.false_eq_true,false_iff]
  rintro⟨i,a,b,_,h2,_⟩
  simp at h2
 |x::y::r=>by
  rw[twice,Bool.or_eq_true,decide_eq_true_eq,twice_eq (y::r)]
  constructor
  ·rintro(h|⟨i,a,b,h1,h2,h3⟩)
   ·exact⟨0,x,y,rfl,rfl,h⟩
   ·exact⟨i+1,a,b,by simpa using h1,by simpa using h2,h3⟩
  ·rintro⟨i,a,b,h1,h2,h3⟩
   cases i with
   |zero=>
    simp at h1 h2
    subst h1 h2
    exact .inl h3
   |succ i=>exact .inr ⟨i,a,b,by simpa using h1,by simpa using h2,h3⟩
theorem putAll_take {d:D.T} {l:List It} {k:Nat} {x:It} (h:l[k]? =some x):putAll d (l.take (k+1))=(putAll d (l.take k)).put x.Data.2:=by
 unfold putAll
 rw[List.take_add_one,h,List.foldl_append]
 rfl
theorem put_nil (d:D.T):d.put []=d:=by
 show d.puts (C.pieces d.k [])=d
 rw[C.pieces_nil];rfl
theorem ids_nil (k:C.K):D.ids k []=[]:=by
 show(C.pieces k []).map H.sum=[]
 rw[C.pieces_nil];rfl
end S
theorem pN_bldE [Pan] {w:World} {K:Value→World→Prop} (a b:List UInt8) (k m t:Int) (dt:Sl×List UInt8) (hk:K (.agg #[.string ⟨a.toArray⟩,.string ⟨b.toArray⟩,.int .i64 k,.int .i64 m,.int .i64 t,.slice dt.1.a dt.2.length dt.1.c,.slice none 0 0]) w):
  pN zp (oBuild 118 [(0,.agg (T_api_Item.enc ⟨a,b,k,m,t,dt⟩).toArray)]) w K:=by
 have e:(oBuild 118 [(0,.agg (T_api_Item.enc ⟨a,b,k,m,t,dt⟩).toArray)])=oBuild 118 [(0,.agg #[.string ⟨a.toArray⟩,.string ⟨b.toArray⟩,.int .i64 k,.int .i64 m,.int .i64 t,.slice dt.1.a dt.2.length dt.1.c])]:=rfl
 rw[e,pN_bld_118_0]
 exact hk
theorem list_en_take {k:C.K} {G:List T_api_Item} {j:Nat} {x:T_api_Item} (h:G[j]? =some x):(G.take (j+1)).map (S.en k)=(G.take j).map (S.en k)++[S.en k x]:=by
 rw[List.take_add_one,h,List.map_append];rfl
attribute [local irreducible] H.sum C.put L.list
section
variable [Pan] {E w W:World} {K Q:Value→World→Prop} {LL M N N':List HA} {c:T_api_Config} {db:Nat} {d:D.T} {its:List T_api_Item} {s sl:Sl}
theorem byName_ok (hS:Sat E w M) [hr:Rds cd_api_Item M sl its] (hl:its.length≤1099511627776) (hQ:∀G s w,G.Perm its→U.Up S.before G→Sat E w (rows cd_api_Item s G::M)→Q (.slice s.a G.length s.c) w):
  Calls zp 57 #[.slice sl.a its.length sl.c,.func (.func 58) #[] #[]] w (retP Q):=by
 refine snap_byName_api_Item_.calls ?_
 unfold snap_byName_api_Item_.F
 refine pN_bx (z:=[.func (.func 58) #[] #[]]) hS rfl ?_
 clear hS
 intro bc w hS
 repeat' (first|(refine pcq (f:=95) (SCloneT_ok (s:=sl) (lt:=its) hS hl ?_);clear hS;intro s1 w hS)|refine pN_fn ?_|fail)
 refine pcq (f:=96) (SortStable_ok (bc:=bc) (s:=s1) (l:=its) hS hl fun G w hp hu hS=>?_)
 rw[←hp.length_eq]
 skip
 exact hQ G s1 _ hp hu hS.to
set_option maxHeartbeats 4000000 in
theorem Save_ok (hG:GloS W) (hk:d.k.legal) (hS:Sat E w LL) [hf:Fnd (Dep c db) LL d N] [hg:Has (old W) N N'] (n:NKey) (hn:n.1.length≤254) [hr:Rds cd_api_Item N sl its] (hd:∀x∈its,Rds cd_uint8 N x.Data.1 x.Data.2)
  (hb:∀x∈its,x.Name.length≤1099511627776∧x.Link.length≤1099511627776∧x.Data.2.length≤1099511627776) (hl:its.length≤1099511627776) (hlist:(S.list d.k (S.sort its)).length≤1099511627776)
  (hQ:∀w,Sat E w (Dep c db (S.save d n.1 its).2::N)→Q (.int .i64 (S.save d n.1 its).1) w):
  Calls zp 13 #[.pointer (some ⟨db,0,none⟩),nke n,.slice sl.a its.length sl.c] w (retP Q):=by
 refine snap_Save.calls ?_
 unfold snap_Save.F
 have hS1:=hS.fd (Dep c db)
 clear hS hf
 have hS:=hS1
 clear hS1
 have hsv:S.save d n.1 its=if S.werr its≠0 then(S.werr its,d) else if S.twice (S.sort its)=true then(9,d) else(0,S.saved d n.1 (S.sort its)):=by rw[S.save,if_neg (by omega)]
 rw[hsv] at hQ
 clear hsv
 repeat' (first|(refine pcq (f:=56) (DLegal_ok n.1 hn ?_))|(refine pN_neq_s ?_ ?_<;>intro hc<;>try (exfalso;first|omega|exact gone hc|exact gon2 hc))|refine pIf_f ?_|refine pN_v (hk:=?_)|fail)
 refine⟨fun v w=>∃k:Nat,v= .int .i64 k∧k≤its.length∧(∀x∈its.take k,A.wrong x=0)∧Sat E w (Dep c db d::N),fun v _=>its.length-(RowKit.intOf v).toNat,⟨0,rfl,by omega,fun x hx=>by simp at hx,hS⟩,?_⟩
 clear hS
 rintro _ _ w ⟨k,rfl,hkl,hw,hS⟩
 by_cases hlt:k<its.length
 ·obtain⟨x,hx⟩:∃x,its[k]? =some x:=⟨its[k],by simp[hlt]⟩
  have hm:x∈its:=List.mem_of_getElem? hx
  haveI:=hd x hm
  obtain⟨b1,b2,b3⟩:=hb x hm
  repeat' (first|(refine pN_lss_s ?_ ?_<;>intro hc<;>try (exfalso;omega))|refine pIf_t ?_|refine pN_ld_at ha hS (by rfl) ?_|refine pN_la hS (by rfl) ?_|(refine pN_sa hS (by rfl) (by rfl) (by rfl) ?_;clear hS;intro w hS;try dsimp only at hS)|(refine pN_nz hS ?_;clear hS;intro a w hS)|refine pN_ixk hS _ (by first|rfl|(exact(Int.toNat_of_nonneg (by omega)).symm)) (by first|rfl|omega|simpa only[go_sem] using True.intro|(simp only[go_sem];omega)) (by assumption) fun a ha hel=>?_|fail)
  refine pcq (f:=49) (Put_ok x (by omega) (by omega) hS (fun h0 w hS=>?_) fun h0 s1 w hS=>?_)
  ·rw[S.werr_at hx hw h0,if_pos h0] at hQ
   repeat' (first|(refine pN_neq_s ?_ ?_<;>intro hc<;>try (exfalso;first|omega|exact gone hc|exact gon2 hc))|refine pIf_t ?_|refine pN_v (hk:=?_)|fail)
   exact hQ _ hS.to
  ·repeat' (first|(refine pN_neq_s ?_ ?_<;>intro hc<;>try (exfalso;first|omega|exact gone hc|exact gon2 hc))|refine pIf_f ?_|refine pN_v (hk:=?_)|fail)
   refine⟨⟨k+1,rfl,by omega,fun y hy=>?_,hS.to⟩,by simp[RowKit.intOf]<;>omega⟩
   rw[List.take_add_one,hx] at hy
   rcases List.mem_append.1 hy with hy|hy
   ·exact hw y hy
   ·obtain rfl:y=x:=by simpa using hy
    exact h0
 ·obtain rfl:k=its.length:=by omega
  rw[List.take_length] at hw
  rw[S.werr_0 hw,if_neg (fun h=>h rfl)] at hQ
  repeat' (first|(refine pN_lss_s ?_ ?_<;>intro hc<;>try (exfalso;omega))|refine pIf_f ?_|fail)
  refine pcq (f:=57) (byName_ok (sl:=sl) (its:=its) hS hl fun G sg w hp hu hS=>?_)
  obtain⟨ht1,ht2⟩:=S.sort_of hp hu
  have hgl:=hp.length_eq
  refine⟨fun v w=>∃i:Nat,v= .int .i64 i∧1≤i∧(∀j x y,j+1<i→G[j]? =some x→G[j+1]? =some y→x.Name≠y.Name)∧Sat E w (rows cd_api_Item sg G::Dep c db d::N),fun v _=>G.length-(RowKit.intOf v).toNat,⟨1,rfl,by omega,fun j x y h=>by omega,hS⟩,?_⟩
  clear hS
  rintro _ _ w ⟨i,rfl,hi1,hne,hS⟩
  by_cases hlt:i<G.length
  ·obtain⟨y,hy⟩:∃y,G[i]? =some y:=⟨G[i],by simp[hlt]⟩
   obtain⟨x,hx⟩:∃x,G[i-1]? =some x:=⟨G[i-1],by simp[show i-1<G.length by omega]⟩
   have e1:i-1+1=i:=by omega
   have e2:(((i-1:Nat)):Int)=(i:Int)-1:=by omega
   repeat' (first|(refine pN_lss_s ?_ ?_<;>intro hc<;>try (exfalso;omega))|(refine pA_eql_ss ?_ ?_<;>intro hc<;>try (exfalso;first|omega|exact gone hc|exact gon2 hc))|refine pIf_t ?_|refine pIf_f ?_|refine pL_ld1 ha hS ?_|refine pA_fa ha (by rfl) fun a ha=>?_|(refine pDr_go hS ?_;clear hS;intro w hS)|refine pA_ixk hS _ (by first|rfl|(exact(Int.toNat_of_nonneg (by omega)).symm)) (by first|rfl|omega|simpa only[go_sem] using True.intro|(simp only[go_sem];omega)) (by assumption) fun a ha hel=>?_|refine pA_ix hS _ (by first|rfl|(exact(Int.toNat_of_nonneg (by omega)).symm)) (by first|rfl|omega|simpa only[go_sem] using True.intro|(simp only[go_sem];omega)) (by first|omega|(simp only[go_sem];omega)) fun a x hx ha hel=>?_|refine pN_v (hk:=?_)|refine pA_v (hk:=?_)|fail)
   ·have e3:((i:Int)-1).toNat=i-1:=by omega
    rw[e3] at hx
    have h1:S.twice G=true:=(S.twice_eq G).2 ⟨i-1,x,y,hx,by rw[e1];exact hy,hc.symm⟩
    rw[←ht1,h1,if_pos rfl] at hQ
    exact hQ _ hS.to
   ·have e3:((i:Int)-1).toNat=i-1:=by omega
    rw[e3] at hx
    refine⟨⟨i+1,rfl,by omega,fun j x2 y2 hj h1 h2=>?_,hS⟩,by simp[RowKit.intOf]<;>omega⟩
    by_cases hji:j+1<i
    ·exact hne j x2 y2 hji h1 h2
    ·obtain rfl:j=i-1:=by omega
     rw[hx] at h1
     rw[e1,hy] at h2
     cases h1
     cases h2
     exact fun e=>hc e.symm
  ·have htw:S.twice G=false:=by
    cases h:S.twice G with
    |false=>rfl
    |true=>
     obtain⟨j,x,y,h1,h2,h3⟩:=(S.twice_eq G).1 h
     have:=(List.getElem?_eq_some_iff.1 h2).1
     exact absurd h3 (hne j x y (by omega) h1 h2)
   rw[←ht1,htw,if_neg (by decide)] at hQ
   rw[←ht2 htw] at hQ hlist
   have hdG:∀x∈G,Rds cd_uint8 N x.Data.1 x.Data.2:=fun x hx=>hd x (hp.mem_iff.1 hx)
   have hbG:∀x∈G,x.Name.length≤1099511627776∧x.Link.length≤1099511627776∧x.Data.2.length≤1099511627776:=fun x hx=>hb x (hp.mem_iff.1 hx)
   have hwG:∀x∈G,A.wrong x=0:=fun x hx=>hw x (hp.mem_iff.1 hx)
   clear hne ht1 ht2
   repeat' (first|(refine pN_lss_s ?_ ?_<;>intro hc<;>try (exfalso;omega))|refine pIf_f ?_|refine pN_v (hk:=?_)|fail)
   refine⟨fun v v' w=>∃(k:Nat) (ee:List EE) (so:Sl),v= .slice so.a ee.length so.c∧v'= .int .i64 k∧k≤G.length∧ee.map enOf=(G.take k).map (S.en d.k)∧
    (∀p∈ee,0≤p.1.Mode∧p.1.Mode<9223372036854775808∧0≤p.1.Time∧p.1.Time<9223372036854775808)∧
    Sat E w (rows cdE so ee::bag (eeR ee)::Dep c db (S.putAll d (G.take k))::rows cd_api_Item sg G::N),fun _ v _=>G.length-(RowKit.intOf v).toNat,
    ⟨0,[],⟨none,0⟩,rfl,rfl,by omega,rfl,fun p h=>(by cases h),?_⟩,?_⟩
   ·have h8:Sat E w (rows cdE ⟨none,0⟩ []::_):=hS.nil cdE.e cdE.size
    have h9:Sat E w (bag (eeR [])::rows cdE ⟨none,0⟩ []::_):=h8.bag_nil
    have h10:Sat E w (rows cdE ⟨none,0⟩ []::bag (eeR [])::Dep c db d::rows cd_api_Item sg G::N):=h9.to
    exact h10
   clear hS
   rintro _ _ _ w ⟨k,ee,so,rfl,rfl,hkl,hee,hmt,hS⟩
   have hel:ee.length=k:=by
    have:=congrArg List.length hee
    rw[List.length_map,List.length_map,List.length_take] at this
    omega
   by_cases hlt:k<G.length
   ·obtain⟨x,hx⟩:∃x,G[k]? =some x:=⟨G[k],by simp[hlt]⟩
    have hm:x∈G:=List.mem_of_getElem? hx
    have hrd:=hdG x hm
    obtain⟨b1,b2,b3⟩:=hbG x hm
    obtain⟨_,_,_,m0,m1,t0,t1,_,_,_,_,hd0⟩:=A.wrong_0 (hwG x hm)
    have hpt:=S.putAll_take (d:=d) hx
    have hdk:(S.putAll d (G.take k)).k=d.k:=S.putAll_k _ d
    have hen:=list_en_take (k:=d.k) hx
    generalize S.putAll d (G.take k)=d1 at*
    have hids:x.Kind≠0→D.ids d.k x.Data.2=[]∧d1.put x.Data.2=d1:=fun h=>by
     rw[hd0 h]
     exact⟨S.ids_nil _,S.put_nil _⟩
    obtain⟨nm,lk,kd,md,tm,dt⟩:=x
    dsimp only at hrd b1 b2 b3 m0 m1 t0 t1 hids hpt
    have hle1:((ee++[((⟨nm,lk,kd,md,tm,dt⟩:T_api_Item),(sl,D.ids d.k dt.2))]).length:Nat)=k+1:=by rw[List.length_append,hel];rfl
    have hids2:∀ss:Sl,(ee++[((⟨nm,lk,kd,md,tm,dt⟩:T_api_Item),(ss,D.ids d.k dt.2))]).map enOf=(G.take (k+1)).map (S.en d.k):=fun ss=>by rw[List.map_append,hee,hen];rfl
    repeat' (first|(refine pN_lss_s ?_ ?_<;>intro hc<;>try (exfalso;omega))|refine pIf_t ?_|fail)
    refine⟨fun v w=>∃(ss so:Sl),v= .slice so.a (ee++[((⟨nm,lk,kd,md,tm,dt⟩:T_api_Item),(ss,D.ids d.k dt.2))]).length so.c∧
     Sat E w (rows cdE so (ee++[((⟨nm,lk,kd,md,tm,dt⟩:T_api_Item),(ss,D.ids d.k dt.2))])::bag (eeR (ee++[((⟨nm,lk,kd,md,tm,dt⟩:T_api_Item),(ss,D.ids d.k dt.2))]))::Dep c db (d1.put dt.2)::rows cd_api_Item sg G::N),?_,?_⟩
    ·repeat' (first|refine pN_ld_at ha hS (by rfl) ?_|refine pN_la hS (by rfl) ?_|(refine pN_sa hS (by rfl) (by rfl) (by rfl) ?_;clear hS;intro w hS;try dsimp only at hS)|(refine pN_nz hS ?_;clear hS;intro a w hS)|refine pN_ixk hS _ (by first|rfl|(exact(Int.toNat_of_nonneg (by omega)).symm)) (by first|rfl|omega|simpa only[go_sem] using True.intro|(simp only[go_sem];omega)) (by assumption) fun a ha hel=>?_|fail)
     revert a
     intro x15 hS
     refine pN_bldE nm lk kd md tm dt ?_
     repeat' (first|(refine pN_sa hS (by rfl) (by rfl) (by rfl) ?_;clear hS;intro w hS;try dsimp only at hS)|(refine pN_nz hS ?_;clear hS;intro a w hS)|fail)
     revert a
     intro x16 hS
     haveI hrd2:Rds cd_uint8 N dt.1 dt.2:=hrd
     refine⟨fun w=>∃ss:Sl,Sat E w (rows (cdI 58) ss (D.ids d.k dt.2)::cel x16 ⟨118,[.string ⟨nm.toArray⟩,.string ⟨lk.toArray⟩,.int .i64 kd,.int .i64 md,.int .i64 tm,.slice dt.1.a dt.2.length dt.1.c,.slice ss.a (D.ids d.k dt.2).length ss.c]⟩::rows cdE so ee::bag (eeR ee)::Dep c db (d1.put dt.2)::rows cd_api_Item sg G::N),?_,?_⟩
     ·by_cases k0:kd=0
      ·repeat' (first|(refine pN_eql_s ?_ ?_<;>intro hc<;>try (exfalso;first|omega|exact gone hc|exact gon2 hc))|refine pIf_t ?_|refine pN_l hS (by first|rfl|assumption) ?_|refine pN_v (hk:=?_)|fail)
       refine pcq (f:=16) (DPut_ok (c:=c) (d:=d1) (s:=dt.1) (l:=dt.2) hG (by rw[hdk];exact hk) hS b3 ?_)
       rw[hdk]
       clear hS
       intro si w hS
       repeat' (first|(refine pN_s hS (by first|exact Nat.le_of_ble_eq_true rfl|assumption) (by rfl) ?_;clear hS;intro w hS;try simp only[List.set_cons_zero,List.set_cons_succ] at hS)|refine pN_v (hk:=?_)|fail)
       exact⟨si,hS.to⟩
      ·obtain⟨i1,i2⟩:=hids k0
       rw[i1,i2]
       repeat' (first|(refine pN_eql_s ?_ ?_<;>intro hc<;>try (exfalso;first|omega|exact gone hc|exact gon2 hc))|refine pIf_f ?_|refine pN_l hS (by first|rfl|assumption) ?_|refine pN_v (hk:=?_)|fail)
       have h8:Sat E w (rows (cdI 58) ⟨none,0⟩ []::_):=hS.nil (cdI 58).e (cdI 58).size
       exact⟨⟨none,0⟩,h8.to⟩
     ·clear hS
      rintro _ w ⟨ss,hS⟩
      generalize D.ids d.k dt.2=di at*
      repeat' (first|(refine pN_b1 (x:=((⟨nm,lk,kd,md,tm,dt⟩:T_api_Item),(ss,di))) hS rfl (by decide) ?_;clear hS;intro s3 w hS)|(refine pN_app (C:=cdE) (s:=so) (l:=ee) hS rfl rfl (by rw[List.length_cons,List.length_nil];omega) ?_;clear hS;intro s4 w hS)|refine pN_la hS (by rfl) ?_|fail)
      have hS:Sat E w (rows (cdI 58) ss di::bag (eeR ee)::rows cdE s4 (ee++[((⟨nm,lk,kd,md,tm,dt⟩:T_api_Item),(ss,di))])::Dep c db (d1.put dt.2)::rows cd_api_Item sg G::N):=hS.to
      have hS:=eeR_snoc ((⟨nm,lk,kd,md,tm,dt⟩:T_api_Item),(ss,di)) hS
      exact⟨ss,s4,rfl,hS.to⟩
    ·clear hS
     rintro _ _ w ⟨ss,so,rfl,hS⟩
     repeat' (first|refine pN_v (hk:=?_)|fail)
     refine⟨⟨k+1,_,so,rfl,rfl,by omega,hids2 ss,fun p hp=>?_,by rw[hpt];exact hS⟩,by simp[RowKit.intOf]<;>omega⟩
     rcases List.mem_append.1 hp with hp|hp
     ·exact hmt p hp
     ·obtain rfl:p=_:=by simpa using hp
      exact⟨m0,by show md<_;omega,t0,by show tm<_;omega⟩
   ·obtain rfl:k=G.length:=by omega
    rw[List.take_length] at hee hS
    have hdk:(S.putAll d G).k=d.k:=S.putAll_k _ d
    have hLl:L.list (ee.map enOf)=S.list d.k G:=by rw[hee];rfl
    have hsaved:S.saved d n.1 G=((S.putAll d G).put (S.list d.k G)).set n.1 (D.ids d.k (S.list d.k G)):=rfl
    have hne:=S.ids_ne d.k (S.list_ne d.k G)
    have hidl:(D.ids d.k (S.list d.k G)).length≤1099511627776:=by
     have h1:=C.pieces_len d.k (S.list d.k G)
     have h2:(D.ids d.k (S.list d.k G)).length=(C.pieces d.k (S.list d.k G)).length:=List.length_map ..
     omega
    rw[hsaved] at hQ
    generalize S.putAll d G=d1 at*
    have hrdE:∀p∈ee,Rds (cdI 58) (rows cdE so ee::bag (eeR ee)::Dep c db d1::rows cd_api_Item sg G::N) p.2.1 p.2.2:=fun p hp=>by
     haveI:=eeR_rd hp
     infer_instance
    repeat' (first|(refine pcq (f:=60) (swrite_ok (s:=so) (es:=ee) hG hS hrdE hmt (by omega) (by rw[hLl];omega) ?_);rw[hLl];clear hS;intro sb w hS)|(refine pN_lss_s ?_ ?_<;>intro hc<;>try (exfalso;omega))|refine pIf_f ?_|fail)
    refine pcq (f:=16) (DPut_ok (c:=c) (d:=d1) (s:=sb) (l:=S.list d.k G) hG (by rw[hdk];exact hk) hS hlist ?_)
    rw[hdk]
    clear hS
    intro si w hS
    refine pcq (f:=59) (DSet_ok (c:=c) n hn hS (s:=si) (li:=D.ids d.k (S.list d.k G)) hne hidl ?_)
    clear hS
    intro w hS
    exact hQ _ hS.to
end
end
end
section
open Go
end
section
attribute [local irreducible] oMv oV oU oCall oCallV oBi oBin oUn oLoad oStore oNil oFld oField oIdx oIndex oPick oAlloc oBox oBuild oBs oConv oMk oSl oExt oFn oIface oMap oLook oMapUp oRange oNext oEntry oInv oAssert oPanic oRes pN pA pL pDr pIf gA pGd Calls
section
theorem map_names_perm {l m:List T_api_Item} (h:l.Perm m):(l.map (·.Name)).Nodup↔(m.map (·.Name)).Nodup:=(h.map _).nodup_iff
theorem sort_nodup (l:List T_api_Item):S.twice (S.sort l)=false↔(l.map (·.Name)).Nodup:=by
 constructor
 ·intro h
  exact(map_names_perm (S.sort_perm l)).1 (S.rise_nodup (S.rise_of (S.sort_up l) h))
 ·intro h
  exact S.twice_nodup ((map_names_perm (S.sort_perm l)).2 h)
theorem rise_sort {G l:List T_api_Item} (hp:G.Perm l) (hr:S.Rise G):G=S.sort l∧S.twice (S.sort l)=false:=by
 have hu:U.Up S.before G:=by
  have:=hr
  exact List.Pairwise.imp (fun {a b} h=>by
   cases h2:S.before b a with
   |false=>rfl
   |true=>have:=S.before_ord.tr _ _ _ h h2;rw[S.before_ord.irr] at this;cases this) this
 obtain⟨h1,h2⟩:=S.sort_of hp hu
 have h3:=S.not_twice hr
 exact⟨h2 h3,by rw[←h1];exact h3⟩
theorem rise_ins {P R:List T_api_Item} {x:T_api_Item} (h:S.Rise (P++R)) (hr:∀r∈R,S.before x r=true) (hp:∀p,P.getLast?=some p→S.before p x=true):S.Rise (P++x::R):=by
 obtain⟨h1,h2,h3⟩:=List.pairwise_append.1 h
 refine List.pairwise_append.2 ⟨h1,List.pairwise_cons.2 ⟨hr,h2⟩,fun a ha b hb=>?_⟩
 have hax:S.before a x=true:=by
  by_cases hP:P=[]
  ·subst hP;cases ha
  ·obtain⟨P0,p,rfl⟩:=U.last_cut hP
   have hpx:=hp p (by rw[List.getLast?_concat])
   rcases List.mem_append.1 ha with ha|ha
   ·exact S.before_ord.tr _ _ _ ((List.pairwise_append.1 h1).2.2 a ha p List.mem_cons_self) hpx
   ·obtain rfl:a=p:=by simpa using ha
    exact hpx
 rcases List.mem_cons.1 hb with rfl|hb
 ·exact hax
 ·exact h3 a ha b hb
theorem same_twice {its C0:List T_api_Item} {k:Nat} {x y:T_api_Item} (hx:its[k]? =some x) (hp:C0.Perm (its.take k)) (hy:y∈C0) (h:x.Name=y.Name):S.twice (S.sort its)=true:=by
 cases ht:S.twice (S.sort its) with
 |true=>rfl
 |false=>
  have h1:=(sort_nodup its).1 ht
  have h2:its=its.take (k+1)++its.drop (k+1):=(List.take_append_drop _ _).symm
  rw[h2,List.map_append,List.take_add_one,hx,List.map_append] at h1
  have h3:=(List.nodup_append.1 (List.nodup_append.1 h1).1).2.2 y.Name (List.mem_map_of_mem (hp.mem_iff.1 hy)) x.Name (by simp)
  exact absurd h.symm h3
attribute [local irreducible] H.sum C.put
section
variable [Pan] {E w W:World} {K Q:Value→World→Prop} {LL M N N':List HA} {c:T_api_Config} {db:Nat} {d:D.T} {its:List T_api_Item} {s sl:Sl}
end
end
section
section
variable [Pan] {P:Program} {E w:World} {K:Value→World→Prop} {L M:List HA} {α:Type} {C:Cd α} {s:Sl} {l:List α} {v:Value} {t:TypeId}
theorem pN_fx {a:Addr} {f off:Nat} [hf:FA P t f off] (hk:K (.pointer (some (a.add off))) w):pN P (oFld t (.pointer (some a)) f) w K:=by
 rw[pN_def,hf.run,rN_value];exact hk
theorem pN_srf {j off:Nat} {a:Addr} {x y:α} (hel:El C s j a) (hS:Sat E w L) [hf:Fnd (rows C s) L l M] [Sc P t] (hv:v.oneCell'=true) (hx:l[j]? =some x) (ho:off<C.size) (hy:C.enc y=(C.enc x).set off v)
  (hk:∀w',Sat E w' (rows C s (l.set j y)::M)→K undef w'):pN P (oStore t (.pointer (some (a.add off))) v) w K:=by
 have h0:=hS.fd (rows C s)
 obtain⟨b,hb,rfl⟩:=hel
 have hj:=(List.getElem?_eq_some_iff.1 hx).1
 have hro:=h0.own_at 0 rfl
 obtain⟨_,⟨h,_⟩|⟨g,cap,cur,hg,_⟩⟩:=hro
 ·simp only[Value.slice.injEq] at h
  rw[hb] at h
  cases h.1
 ·simp only[Value.slice.injEq,true_and] at hg
  obtain⟨h1,h2⟩:=hg
  rw[hb,Option.some.injEq] at h1
  subst h1 h2
  unfold rows at h0
  rw[hb] at h0
  rw[Addr.add_add,Addr.add_lit,Nat.zero_add]
  have hfl:=C.flat_len l
  have hlt:j*C.size+off<(C.flat l).length:=by
   rw[hfl]
   have:(j+1)*C.size≤l.length*C.size:=Nat.mul_le_mul_right _ hj
   rw[Nat.add_mul,Nat.one_mul] at this
   omega
  refine pN_st_own h0 Sc.sz hv hlt fun w' h3=>hk w' ?_
  unfold rows
  have hp:=C.flat_put l j y hj
  have hq:=C.flat_put l j x hj
  have hset:l.set j x=l:=by
   rw[List.getElem?_eq_getElem hj] at hx
   rw[←Option.some.inj hx]
   exact List.set_getElem_self hj
  rw[hset] at hq
  have htl:((C.flat l).take (j*C.size)).length=j*C.size:=by rw[List.length_take];omega
  have he:(C.flat l).set (j*C.size+off) v=C.flat (l.set j y):=by
   have h5:(C.flat l).set (j*C.size+off) v=((C.flat l).take (j*C.size)++C.enc x++(C.flat l).drop (j*C.size+C.size)).set (j*C.size+off) v:=by rw[hq]
   rw[h5,←hp,hy]
   rw[List.append_assoc,List.append_assoc,List.set_append_right _ _ (by omega),htl,Nat.add_sub_cancel_left,List.set_append_left _ _ (by rw[C.len];exact ho)]
  rw[hb,List.length_set,←he]
  exact h3
end
def zr (x:T_api_Item):EE:=(x,(⟨none,0⟩,[]))
theorem pN_bldR [Pan] {w:World} {K:Value→World→Prop} (x:T_api_Item) (hk:K (.agg (cdRw.enc (zr x)).toArray) w):
  pN zp (oBuild 194 [(0,.agg x.enc.toArray)]) w K:=by
 obtain⟨a,b,k,m,t,dt⟩:=x
 have e:(oBuild 194 [(0,.agg (T_api_Item.enc ⟨a,b,k,m,t,dt⟩).toArray)])=oBuild 194 [(0,.agg #[.string ⟨a.toArray⟩,.string ⟨b.toArray⟩,.int .i64 k,.int .i64 m,.int .i64 t,.slice dt.1.a dt.2.length dt.1.c])]:=rfl
 rw[e,pN_bld_194_0]
 exact hk
namespace S
theorem flat_take_le {f:It→List D.B} (l:List It) (j:Nat):((l.take j).map f).flatten.length≤(l.map f).flatten.length:=by
 have:(l.map f).flatten=((l.take j).map f).flatten++((l.drop j).map f).flatten:=by rw[←List.flatten_append,←List.map_append,List.take_append_drop]
 rw[this,List.length_append];omega
theorem putAll_len (d:D.T) (l:List It):(putAll d l).ps.length≤d.ps.length+(l.map fun x=>C.pieces d.k x.Data.2).flatten.length:=by
 rw[putAll_puts]
 exact D.puts_len _ d
theorem saved_def (d:D.T) (n:D.B) (l:List It):saved d n l=((putAll d l).put (list d.k l)).set n (D.ids d.k (list d.k l)):=rfl
theorem putAll_0 (d:D.T):putAll d []=d:=rfl
theorem save_long {d:D.T} {n:D.B} {l:List It} (h:254<n.length):save d n l=(8,d):=by unfold save;rw[if_pos h]
theorem save_werr {d:D.T} {n:D.B} {l:List It} (h:¬254<n.length) (h2:werr l≠0):save d n l=(werr l,d):=by unfold save;rw[if_neg h,if_pos h2]
theorem save_twice {d:D.T} {n:D.B} {l:List It} (h:¬254<n.length) (h2:werr l=0) (h3:twice (sort l)=true):save d n l=(9,d):=by unfold save;rw[if_neg h,if_neg (fun e=>e h2),if_pos h3]
theorem save_ok {d:D.T} {n:D.B} {l:List It} (h:¬254<n.length) (h2:werr l=0) (h3:twice (sort l)=false):save d n l=(0,saved d n (sort l)):=by unfold save;rw[if_neg h,if_neg (fun e=>e h2),h3,if_neg (by decide)]
end S
attribute [local irreducible] H.sum C.put L.list S.sort S.putAll S.saved
section
variable [Pan] {E w W:World} {K Q:Value→World→Prop} {LL M N N':List HA} {c:T_api_Config} {b:Nat} {d:D.T} {fz:List HA} {its:List T_api_Item} {s sl:Sl}
set_option maxHeartbeats 8000000 in
theorem r6Save_ok (hk:d.k.legal) (hS:Sat E w LL) [hf:Fnd (RDq c b) LL (d,fz) N] {n:List UInt8} (hn:n.length≤1099511627776) [hr:Rds cd_api_Item N sl its] (hd:∀x∈its,RdP cd_uint8 (bag fz) x.Data.1 x.Data.2)
  (hb:∀x∈its,x.Name.length≤1099511627776∧x.Link.length≤1099511627776∧x.Data.2.length≤1099511627776) (hl:its.length≤1099511627776) (hlist:(S.list d.k (S.sort its)).length≤1099511627776)
  (hps:d.ps.length+(S.need d.k (S.sort its)).length≤1099511627776) (hns:d.ns.length≤1099511627776)
  (hQ:∀fz' w,Sat E w (RDq c b ((S.save d n its).2,fz')::N)→Q (.int .i64 (S.save d n its).1) w):
  Calls zp 79 #[.pointer (some ⟨b,0,none⟩),.string ⟨n.toArray⟩,.slice sl.a its.length sl.c] w (retP Q):=by
 refine pithref36_Save.calls ?_
 unfold pithref36_Save.F
 have hS1:=hS.fd (RDq c b)
 clear hS hf
 have hS:=hS1
 clear hS1
 refine pcq (f:=110) (r5Legal_ok (n:=n) (by omega) ?_)
 by_cases hn254:254<n.length
 ·rw[S.save_long hn254] at hQ
  rw[if_pos hn254]
  repeat' (first|(refine pN_neq_s ?_ ?_<;>intro hc<;>try (exfalso;first|omega|exact gone hc|exact gon2 hc))|refine pIf_t ?_|fail)
  exact hQ _ _ hS
 rw[if_neg hn254]
 have hsw:=S.save_werr (d:=d) (l:=its) hn254
 have hst:=S.save_twice (d:=d) (l:=its) hn254
 have hso:=S.save_ok (d:=d) (l:=its) hn254
 repeat' (first|(refine pN_neq_s ?_ ?_<;>intro hc<;>try (exfalso;first|omega|exact gone hc|exact gon2 hc))|refine pIf_f ?_|fail)
 refine⟨fun v w=>∃k:Nat,v= .int .i64 k∧k≤its.length∧(∀x∈its.take k,A.wrong x=0)∧Sat E w (RDq c b (d,fz)::N),fun v _=>its.length-(RowKit.intOf v).toNat,⟨0,rfl,by omega,fun x hx=>by simp at hx,hS⟩,?_⟩
 clear hS
 rintro _ _ w ⟨k,rfl,hkl,hw,hS⟩
 by_cases hlt:k<its.length
 ·obtain⟨x,hx⟩:∃x,its[k]? =some x:=⟨its[k],List.getElem?_eq_getElem _⟩
  obtain⟨b1,b2,b3⟩:=hb x (List.mem_of_getElem? hx)
  repeat' (first|refine pN_ixk (C:=cd_api_Item) (s:=sl) (l:=its) hS k rfl rfl hx fun ad ha hel=>?_|refine pN_ld_at ha hS rfl ?_|(refine pN_lss_s ?_ ?_<;>intro hc<;>try (exfalso;omega))|refine pIf_t ?_|refine pN_v (hk:=?_)|fail)
  refine pcq (f:=111) (r33Right_ok x (by omega) (by omega) hS ?_)
  clear hS
  intro w hS
  by_cases h0:A.wrong x=0
  ·rw[h0]
   repeat' (first|(refine pN_neq_s ?_ ?_<;>intro hc<;>try (exfalso;first|omega|exact gone hc|exact gon2 hc))|refine pIf_f ?_|refine pN_v (hk:=?_)|fail)
   refine⟨⟨k+1,rfl,by omega,fun y hy=>?_,hS.to⟩,by simp[RowKit.intOf]<;>omega⟩
   rw[List.take_add_one,hx] at hy
   rcases List.mem_append.1 hy with hy|hy
   ·exact hw y hy
   ·obtain rfl:y=x:=by simpa using hy
    exact h0
  ·have hwe:=S.werr_at hx hw h0
   rw[hsw (by rw[hwe];exact h0),hwe] at hQ
   generalize A.wrong x=we at*
   repeat' (first|(refine pN_neq_s ?_ ?_<;>intro hc<;>try (exfalso;first|omega|exact gone hc|exact gon2 hc))|refine pIf_t ?_|fail)
   exact hQ fz _ hS.to
 obtain rfl:k=its.length:=by omega
 rw[List.take_length] at hw
 have hwe:=S.werr_0 hw
 repeat' (first|(refine pN_lss_s ?_ ?_<;>intro hc<;>try (exfalso;omega))|refine pIf_f ?_|refine pN_v (hk:=?_)|fail)
 refine⟨fun v v' w=>∃(k:Nat) (C0:List T_api_Item) (so:Sl),v= .slice so.a (C0.map zr).length so.c∧v'= .int .i64 k∧k≤its.length∧C0.Perm (its.take k)∧S.Rise C0∧Sat E w (rows cdRw so (C0.map zr)::RDq c b (d,fz)::N),fun _ v _=>its.length-(RowKit.intOf v).toNat,
  ⟨0,[],⟨none,0⟩,rfl,rfl,by omega,by rw[List.take_zero],List.Pairwise.nil,hS.nil cdRw.e cdRw.size⟩,?_⟩
 clear hS
 rintro _ _ _ w ⟨k,C0,so,rfl,rfl,hk2,hp,hri,hS⟩
 have hCl:=hp.length_eq
 rw[List.length_take] at hCl
 have hCm:(C0.map zr).length=C0.length:=List.length_map ..
 by_cases hlt:k<its.length
 ·obtain⟨x,hx⟩:∃x,its[k]? =some x:=⟨its[k],List.getElem?_eq_getElem _⟩
  have hCk:C0.length=k:=by omega
  have hsnm:(C0++[x]).map zr=C0.map zr++[zr x]:=by rw[List.map_append];rfl
  generalize hCC:C0.map zr=CC at*
  repeat' (first|refine pN_ixk (C:=cd_api_Item) (s:=sl) (l:=its) hS k rfl rfl hx fun ad ha hel=>?_|refine pN_ld_at ha hS rfl ?_|refine pN_bldR x ?_|(refine pN_b1 (C:=cdRw) (x:=zr x) hS rfl (by decide) ?_;clear hS;intro s3 w hS)|(refine pN_app (C:=cdRw) (s:=so) (l:=CC) (m:=[zr x]) hS rfl rfl (by rw[List.length_singleton];omega) ?_;clear hS;intro s4 w hS)|(refine pN_lss_s ?_ ?_<;>intro hc<;>try (exfalso;omega))|refine pIf_t ?_|refine pN_v (hk:=?_)|fail)
  rw[←hsnm] at hS ⊢
  clear hsnm hCC
  refine⟨fun v w=>∃P R:List T_api_Item,v= .int .i64 P.length∧P++R=C0∧(∀r∈R,S.before x r=true)∧Sat E w (rows cdRw s4 ((P++x::R).map zr)::RDq c b (d,fz)::N),fun v _=>(RowKit.intOf v).toNat,
   ⟨C0,[],by congr 1;omega,by rw[List.append_nil],fun r h=>(by cases h),hS.to⟩,?_⟩
  clear hS
  rintro _ _ w ⟨P,R,rfl,hPR,hrx,hS⟩
  have hPl:=congrArg List.length hPR
  rw[List.length_append] at hPl
  have hfin:(∀p,P.getLast?=some p→S.before p x=true)→(P++x::R).Perm (its.take (k+1))∧S.Rise (P++x::R):=fun h=>by
   refine⟨?_,rise_ins (by rw[hPR];exact hri) hrx h⟩
   rw[List.take_add_one,hx]
   refine List.perm_middle.trans ?_
   rw[hPR]
   exact(hp.cons x).trans (List.perm_append_singleton x _).symm
  have hDl:((P++x::R).map zr).length=((C0++[x]).map zr).length:=by simp only[List.length_map,List.length_append,List.length_cons,List.length_nil];omega
  by_cases hP:P=[]
  ·subst hP
   obtain⟨f1,f2⟩:=hfin (fun p h=>by cases h)
   rw[←hDl]
   have hj0:((([]:List T_api_Item).length:Nat):Int)=0:=rfl
   rw[hj0]
   repeat' (first|(refine pA_gtr_s ?_ ?_<;>intro hc<;>try (exfalso;omega))|refine pIf_f ?_|refine gA_no (by rfl) ?_|(refine pDr_go hS ?_;clear hS;intro w hS)|refine pN_v (hk:=?_)|refine pA_v (hk:=?_)|fail)
   exact⟨⟨k+1,_,s4,rfl,rfl,by omega,f1,f2,hS⟩,by simp[RowKit.intOf]<;>omega⟩
  ·obtain⟨P0,y,rfl⟩:=U.last_cut hP
   obtain⟨q,hq⟩:∃q,q=P0.length:=⟨_,rfl⟩
   have hj1:(((P0++[y]).length:Nat):Int)=((q+1:Nat):Int):=by rw[List.length_append,List.length_singleton];omega
   rw[hj1]
   have hD:(P0++[y])++x::R=P0++y::(x::R):=by simp
   rw[←hDl]
   rw[hD] at hS ⊢
   have hDm:(P0++y::(x::R)).map zr=P0.map zr++zr y::(zr x::R.map zr):=by simp
   have g0:=U.get_mid (P0.map zr) (zr x::R.map zr) (zr y)
   have g1:=U.get_nb (P0.map zr) (R.map zr) (zr y) (zr x)
   have hsw2:=U.swap_nb (P0.map zr) (R.map zr) (zr y) (zr x)
   have hDm2:(P0++x::(y::R)).map zr=P0.map zr++zr x::(zr y::R.map zr):=by simp
   rw[←hDm2] at hsw2
   rw[List.length_map,←hq] at g0 g1 hsw2
   rw[←hDm] at g0 g1 hsw2
   have hlen:((P0++y::(x::R)).map zr).length=C0.length+1:=by rw[←hPR];simp only[List.length_map,List.length_append,List.length_cons,List.length_nil];omega
   have hqR:q+1+R.length=C0.length:=by rw[←hPR];simp only[List.length_append,List.length_cons,List.length_nil];omega
   have hym:y∈C0:=by rw[←hPR];simp
   obtain⟨D,hDD⟩:∃D,D=(P0++y::(x::R)).map zr:=⟨_,rfl⟩
   rw[←hDD] at hS g0 g1 hsw2 hlen ⊢
   have hzx:(zr x).1.Name=x.Name:=rfl
   have hzy:(zr y).1.Name=y.Name:=rfl
   obtain⟨z,h4⟩:∃z,(D.set (q+1) (zr y))[q]? =some z:=⟨(D.set (q+1) (zr y))[q]'(by rw[List.length_set];omega),List.getElem?_eq_getElem _⟩
   by_cases hxy:x.Name=y.Name
   ·have hle:(Op.bytesLess x.Name y.Name||x.Name==y.Name)=true:=by rw[hxy];simp
    have htw:=same_twice hx hp hym hxy
    rw[hst hwe htw] at hQ
    repeat' (first|refine pA_ixk (C:=cdRw) hS (q+1) (by omega) (by omega) g1 fun ad ha hel=>?_|refine pA_ixk (C:=cdRw) hS q (by omega) (by omega) g0 fun ad ha hel=>?_|(rw[hzx,hzy,pA_leq_l,hle])|(refine pA_gtr_s ?_ ?_<;>intro hc<;>try (exfalso;omega))|(refine pA_eql_ss ?_ ?_<;>intro hc<;>try (exfalso;first|omega|exact gone hc|exact gon2 hc))|refine pIf_t ?_|refine gA_go (by rfl) ?_|refine pL_ld1 ha hS ?_|refine pA_fa ha (by rfl) fun a ha=>?_|(refine pDr_go hS ?_;clear hS;intro w hS)|refine pA_v (hk:=?_)|fail)
    exact hQ fz _ hS.to
   ·cases hb:Op.bytesLess x.Name y.Name with
    |true=>
     have hle:(Op.bytesLess x.Name y.Name||x.Name==y.Name)=true:=by rw[hb];rfl
     repeat' (first|refine pN_ixk (C:=cdRw) hS q (by omega) (by first|omega|rw[List.length_set]) h4 fun ad ha hel=>?_|refine pN_ixk (C:=cdRw) hS (q+1) (by omega) (by omega) g1 fun ad ha hel=>?_|refine pN_ixk (C:=cdRw) hS q (by omega) (by omega) g0 fun ad ha hel=>?_|refine pA_ixk (C:=cdRw) hS (q+1) (by omega) (by omega) g1 fun ad ha hel=>?_|refine pA_ixk (C:=cdRw) hS q (by omega) (by omega) g0 fun ad ha hel=>?_|(rw[hzx,hzy,pA_leq_l,hle])|refine pN_ld_at ha hS (cdRw.len _).symm ?_|(refine pN_nz (t:=194) hS ?_;clear hS;intro rb w hS)|(refine pN_sa (b:=rb) (us:=cdRw.enc (zr x)) hS (cdRw.len _).symm rfl rfl ?_;clear hS;intro w hS;dsimp only at hS)|refine pN_la (b:=rb) hS (cdRw.len _).symm ?_|(refine pN_srn (C:=cdRw) (x:=zr y) hel hS (by rfl) (by rfl) (by omega) ?_;clear hS;intro w hS)|(refine pN_srn (C:=cdRw) (x:=zr x) hel hS (by rfl) (by rfl) (by rw[List.length_set];omega) ?_;clear hS;intro w hS)|(refine pA_gtr_s ?_ ?_<;>intro hc<;>try (exfalso;omega))|(refine pA_eql_ss ?_ ?_<;>intro hc<;>try (exfalso;first|omega|exact gone hc|exact gon2 hc))|refine pIf_t ?_|refine pIf_f ?_|refine gA_go (by rfl) ?_|refine pL_ld1 ha hS ?_|refine pA_fa ha (by rfl) fun a ha=>?_|(refine pDr_go hS ?_;clear hS;intro w hS)|refine pN_v (hk:=?_)|refine pA_v (hk:=?_)|fail)
     rw[hsw2] at hS
     refine⟨⟨P0,y::R,by rw[←hq];congr 1;omega,by rw[←hPR];simp,fun r hr'=>?_,hS.to⟩,by simp[RowKit.intOf]<;>omega⟩
     rcases List.mem_cons.1 hr' with rfl|hr'
     ·exact hb
     ·exact hrx r hr'
    |false=>
     have hle:(Op.bytesLess x.Name y.Name||x.Name==y.Name)=false:=by
      rw[hb,Bool.false_or]
      exact beq_eq_false_iff_ne.2 hxy
     have hyx:S.before y x=true:=by
      cases h5:Op.bytesLess y.Name x.Name with
      |true=>exact h5
      |false=>exact absurd (S.less_tri _ _ hb h5) hxy
     obtain⟨f1,f2⟩:=hfin (fun p hp=>by
      rw[List.getLast?_concat,Option.some.injEq] at hp
      subst hp
      exact hyx)
     rw[hD] at f1 f2
     repeat' (first|refine pA_ixk (C:=cdRw) hS (q+1) (by omega) (by omega) g1 fun ad ha hel=>?_|refine pA_ixk (C:=cdRw) hS q (by omega) (by omega) g0 fun ad ha hel=>?_|(rw[hzx,hzy,pA_leq_l,hle])|(refine pA_gtr_s ?_ ?_<;>intro hc<;>try (exfalso;omega))|refine pIf_f ?_|refine gA_go (by rfl) ?_|refine pL_ld1 ha hS ?_|refine pA_fa ha (by rfl) fun a ha=>?_|(refine pDr_go hS ?_;clear hS;intro w hS)|refine pN_v (hk:=?_)|refine pA_v (hk:=?_)|fail)
     exact⟨⟨k+1,_,s4,by rw[hDD],rfl,by omega,f1,f2,by rw[←hDD];exact hS⟩,by simp[RowKit.intOf]<;>omega⟩
 ·obtain rfl:k=its.length:=by omega
  rw[List.take_length] at hp
  obtain⟨rfl,ht⟩:=rise_sort hp hri
  rw[hso hwe ht] at hQ
  clear hsw hst hso hCl hri
  have hdef:=S.saved_def d n (S.sort its)
  rw[hdef] at hQ
  clear hdef
  have hdG:∀x∈S.sort its,RdP cd_uint8 (bag fz) x.Data.1 x.Data.2:=fun x hx=>hd x (hp.mem_iff.1 hx)
  have hbG:∀x∈S.sort its,x.Name.length≤1099511627776∧x.Link.length≤1099511627776∧x.Data.2.length≤1099511627776:=fun x hx=>hb x (hp.mem_iff.1 hx)
  have hwG:∀x∈S.sort its,A.wrong x=0:=fun x hx=>hw x (hp.mem_iff.1 hx)
  have hgl:=hp.length_eq
  generalize S.sort its=G at*
  have hps2:d.ps.length+((C.pieces d.k (S.list d.k G)).length+(G.map fun x=>C.pieces d.k x.Data.2).flatten.length)≤1099511627776:=by
   have:(S.need d.k G).length=(C.pieces d.k (S.list d.k G)).length+(G.map fun x=>C.pieces d.k x.Data.2).flatten.length:=List.length_append
   omega
  repeat' (first|(refine pN_lss_s ?_ ?_<;>intro hc<;>try (exfalso;omega))|refine pIf_f ?_|refine pN_v (hk:=?_)|fail)
  refine⟨fun v w=>∃(k:Nat) (ee:List EE),v= .int .i64 k∧k≤G.length∧ee.length=k∧ee.map enOf=(G.take k).map (S.en d.k)∧
   (∀p∈ee,0≤p.1.Mode∧p.1.Mode<9223372036854775808∧0≤p.1.Time∧p.1.Time<9223372036854775808)∧
   Sat E w (rows cdRw so (ee++(G.drop k).map zr)::bag (eeR ee)::RDq c b (S.putAll d (G.take k),fz)::N),fun v _=>G.length-(RowKit.intOf v).toNat,
   ⟨0,[],rfl,by omega,rfl,rfl,fun p h=>(by cases h),?_⟩,?_⟩
  ·have h9:Sat E w (bag (eeR [])::rows cdRw so (G.map zr)::RDq c b (d,fz)::N):=hS.bag_nil
   rw[List.take_zero,S.putAll_0,List.drop_zero,List.nil_append]
   exact h9.perm (List.Perm.swap _ _ _)
  clear hS
  rintro _ _ w ⟨k,ee,rfl,hkG,hel,hee,hmt,hS⟩
  have hrl:(ee++(G.drop k).map zr).length=(G.map zr).length:=by rw[List.length_append,List.length_map,List.length_map,List.length_drop];omega
  have hGl:(G.map zr).length=G.length:=List.length_map ..
  by_cases hlt:k<G.length
  ·obtain⟨x,hx⟩:∃x,G[k]? =some x:=⟨G[k],List.getElem?_eq_getElem _⟩
   have hm:x∈G:=List.mem_of_getElem? hx
   haveI hrd:=hdG x hm
   obtain⟨b1,b2,b3⟩:=hbG x hm
   obtain⟨_,_,_,m0,m1,t0,t1,_,_,_,_,_⟩:=A.wrong_0 (hwG x hm)
   have hpt:=S.putAll_take (d:=d) hx
   have hdk:(S.putAll d (G.take k)).k=d.k:=S.putAll_k _ d
   have hen:=list_en_take (k:=d.k) hx
   have hpl:=S.putAll_len d (G.take k)
   have hfl:((G.take k).map fun x=>C.pieces d.k x.Data.2).flatten.length+(C.pieces d.k x.Data.2).length≤(G.map fun x=>C.pieces d.k x.Data.2).flatten.length:=by
    have h1:=S.flat_take_le (f:=fun x=>C.pieces d.k x.Data.2) G (k+1)
    rw[List.take_add_one,hx] at h1
    simp only[List.map_append,List.flatten_append,List.length_append,Option.toList_some,List.map_cons,List.map_nil,List.flatten_cons,List.flatten_nil,List.append_nil] at h1
    exact h1
   have hdr:G.drop k=x::G.drop (k+1):=by
    rw[List.drop_eq_getElem_cons hlt]
    rw[List.getElem?_eq_getElem hlt] at hx
    rw[Option.some.inj hx]
   have hgk:(ee++(G.drop k).map zr)[k]? =some (zr x):=by
    rw[List.getElem?_append_right (by omega),hel,Nat.sub_self,hdr];rfl
   have hset:∀ss:Sl,(ee++(G.drop k).map zr).set k (x,(ss,D.ids d.k x.Data.2))=(ee++[(x,(ss,D.ids d.k x.Data.2))])++(G.drop (k+1)).map zr:=fun ss=>by
    rw[List.set_append_right _ _ (by omega),hel,Nat.sub_self,hdr,List.append_assoc];rfl
   have heo:∀ss:Sl,enOf (x,(ss,D.ids d.k x.Data.2))=S.en d.k x:=fun ss=>rfl
   generalize hd1:S.putAll d (G.take k)=d1 at*
   have hrl2:((ee++(G.drop k).map zr).length:Nat)=(G.map zr).length:=hrl
   generalize hRR:ee++(G.drop k).map zr=RR at*
   rw[←hrl]
   repeat' (first|refine pN_ixk (C:=cdRw) (s:=so) (l:=RR) hS k rfl rfl hgk fun ad ha hel1=>?_|refine pN_fan ha x.enc (rw_item (zr x)) fun ad2 ha2=>?_|refine pN_fa ha2 (by rfl) fun ad3 ha3=>?_|refine pN_ld1 ha3 hS ?_|(refine pN_lss_s ?_ ?_<;>intro hc<;>try (exfalso;omega))|refine pIf_t ?_|refine pN_v (hk:=?_)|fail)
   refine pcq (f:=112) (r5Put_ok (c:=c) (d:=d1) (s:=x.Data.1) (l:=x.Data.2) (by rw[hdk];exact hk) hS b3 (by rw[hdk];omega) ?_)
   rw[hdk]
   clear hS
   intro si w hS
   refine pN_ixk (C:=cdRw) (s:=so) (l:=RR) hS k rfl rfl hgk fun ad ha hel1=>?_
   refine pN_fx (off:=6) ?_
   refine pN_srf (C:=cdRw) (x:=zr x) (y:=(x,(si,D.ids d.k x.Data.2))) hel1 hS rfl hgk (by decide) rfl ?_
   rw[hset]
   clear hS
   intro w hS
   repeat' (first|refine pN_v (hk:=?_)|fail)
   have hS:Sat E w (rows (cdI 58) si (D.ids d.k x.Data.2)::bag (eeR ee)::rows cdRw so ((ee++[(x,(si,D.ids d.k x.Data.2))])++(G.drop (k+1)).map zr)::RDq c b (d1.put x.Data.2,fz)::N):=hS.to
   have hS:=eeR_snoc ((x,(si,D.ids d.k x.Data.2)):EE) hS
   refine⟨⟨k+1,ee++[(x,(si,D.ids d.k x.Data.2))],rfl,hlt,by rw[List.length_append,hel];rfl,?_,fun p hp=>?_,by rw[hpt];exact hS.perm (List.Perm.swap _ _ _)⟩,by simp[RowKit.intOf]<;>omega⟩
   ·rw[List.map_append,hee,hen]
    rfl
   ·rcases List.mem_append.1 hp with hp|hp
    ·exact hmt p hp
    ·obtain rfl:p=_:=by simpa using hp
     exact⟨m0,by show x.Mode<_;omega,t0,by show x.Time<_;omega⟩
  ·obtain rfl:k=G.length:=by omega
   rw[List.take_length] at hee hS
   rw[List.drop_length,List.map_nil,List.append_nil] at hS
   have hdk:(S.putAll d G).k=d.k:=S.putAll_k _ d
   have hdns:(S.putAll d G).ns=d.ns:=S.putAll_ns _ d
   have hpl:=S.putAll_len d G
   have hLl:L.list (ee.map enOf)=S.list d.k G:=by rw[hee];rfl
   have hne:=S.ids_ne d.k (S.list_ne d.k G)
   have hidl:(D.ids d.k (S.list d.k G)).length≤1099511627776:=by
    have h1:=C.pieces_len d.k (S.list d.k G)
    have h2:(D.ids d.k (S.list d.k G)).length=(C.pieces d.k (S.list d.k G)).length:=List.length_map ..
    omega
   have hrdE:∀p∈ee,Rds (cdI 58) (rows cdRw so ee::bag (eeR ee)::RDq c b (S.putAll d G,fz)::N) p.2.1 p.2.2:=fun p hp=>by
    haveI:=eeR_rd hp
    infer_instance
   have hnsl:((S.putAll d G).put (S.list d.k G)).ns.length≤1099511627776:=by rw[D.put_ns,hdns];exact hns
   generalize S.putAll d G=d1 at*
   rw[←hel] at hGl
   rw[hGl]
   repeat' (first|(refine pcq (f:=114) (r6Listed_ok (s:=so) (es:=ee) hS hrdE hmt (by omega) (by rw[hLl];omega) ?_);rw[hLl];clear hS;intro sb w hS)|(refine pN_lss_s ?_ ?_<;>intro hc<;>try (exfalso;omega))|refine pIf_f ?_|refine pN_v (hk:=?_)|fail)
   generalize S.list d.k G=LL2 at*
   have hS:Sat E w (rows cd_uint8 sb LL2::RDq c b (d1,fz)::N):=hS.to
   have hS:=RDq.freeze hS
   haveI hrL:RdP cd_uint8 (bag (rows cd_uint8 sb LL2::fz)) sb LL2:=RdP.hd inferInstance
   refine pcq (f:=112) (r5Put_ok (c:=c) (d:=d1) (s:=sb) (l:=LL2) (by rw[hdk];exact hk) hS hlist (by rw[hdk];omega) ?_)
   rw[hdk]
   clear hS
   intro si w hS
   refine pcq (f:=113) (r5Set_ok (c:=c) (n:=n) (by omega) hS (s:=si) (li:=D.ids d.k LL2) hne hidl hnsl ?_)
   clear hS
   intro A1 w hS
   exact hQ (A1::rows cd_uint8 sb LL2::fz) _ hS.to
end
end
section
namespace D
def T.Small (d:T) (z:Nat):Prop:=∀i v,look d.ps i=some v→v.length≤z
theorem get_small {d:T} {z:Nat} (h:d.Small z):∀{l:List I32} {q:B},d.get l=some q→q.length≤z*l.length
 | [],q,hq=>by cases hq;exact Nat.zero_le _
 |i::l,q,hq=>by
  rw[T.get] at hq
  cases hx:look d.ps i with
  |none=>rw[hx] at hq;cases hq
  |some v=>
   rw[hx] at hq
   cases hl:d.get l with
   |none=>simp only[hl] at hq;cases hq
   |some r=>
    simp only[hl,Option.some.injEq] at hq
    have h1:=h i v hx
    have h2:=get_small h hl
    rw[←hq,List.length_append,List.length_cons,Nat.mul_add,Nat.mul_one]
    omega
end D
namespace S
def Good (d:D.T) (n:D.B):Prop:=∃root bb es,D.look d.ns n=some root∧d.get root=some bb∧L.rlist right bb=some es∧∀e∈es,∃q,d.get e.sums=some q
end S
namespace L
theorem rrow_sums {b q:List UInt8} {e:En} (h:rrow S.right b=some (e,q)):32*e.sums.length≤b.length:=by
 obtain⟨kb,b1,m,b2,t,b3,n,b4,h1,h2,h3,h4,h5,_⟩:=rrow_some h
 have e1:=take_len h1
 have e2:=number_len h2
 have e3:=number_len h3
 have e4:=(rtext_len h4).1
 by_cases k0:((kb.headD 0).toNat:Int)=0
 ·obtain⟨cnt,b5,l,h6,h7,rfl⟩:=rtail_0 k0 h5
  have e5:=number_len h6
  obtain⟨h8,h9⟩:=rsums_len h7
  show 32*l.length≤_
  omega
 ·by_cases k2:((kb.headD 0).toNat:Int)=2
  ·obtain⟨l,_,rfl⟩:=rtail_2 k2 h5
   exact Nat.zero_le _
  ·obtain⟨rfl,_⟩:=rtail_1 k0 k2 h5
   exact Nat.zero_le _
theorem rrows_sums:∀{n:Nat} {last:Option (List UInt8)} {b q:List UInt8} {l:List En},rrows S.right n last b=some (l,q)→∀e∈l,32*e.sums.length≤b.length
 |0,last,b,q,l,h,e,he=>by
  obtain⟨rfl,_⟩:=rrows_0 h
  cases he
 |n+1,last,b,q,l,h,e,he=>by
  obtain⟨e0,r,l',h1,_,h3,rfl⟩:=rrows_s h
  rcases List.mem_cons.1 he with rfl|he
  ·exact rrow_sums h1
  ·have h4:=rrows_sums h3 e he
   have h5:=rrow_len h1
   omega
theorem rlist_sums {b:List UInt8} {es:List En} (h:rlist S.right b=some es):∀e∈es,32*e.sums.length≤b.length:=by
 unfold rlist at h
 cases hn:number b with
 |none=>rw[hn] at h;cases h
 |some p=>
  obtain⟨n,b'⟩:=p
  rw[hn] at h
  simp only at h
  cases hr:rrows S.right n none b' with
  |none=>rw[hr] at h;cases h
  |some p=>
   obtain⟨l,q⟩:=p
   rw[hr] at h
   simp only at h
   split at h
   ·cases h
    intro e he
    have h1:=rrows_sums hr e he
    have h2:=number_len hn
    omega
   ·cases h
theorem rrows_count:∀{n:Nat} {last:Option (List UInt8)} {b q:List UInt8} {l:List En},rrows S.right n last b=some (l,q)→l.length+q.length≤b.length
 |0,last,b,q,l,h=>by
  obtain⟨rfl,rfl⟩:=rrows_0 h
  simp
 |n+1,last,b,q,l,h=>by
  obtain⟨e0,r,l',h1,_,h3,rfl⟩:=rrows_s h
  have h4:=rrows_count h3
  have h5:=rrow_len h1
  rw[List.length_cons];omega
theorem rlist_count {b:List UInt8} {es:List En} (h:rlist S.right b=some es):es.length≤b.length:=by
 unfold rlist at h
 cases hn:number b with
 |none=>rw[hn] at h;cases h
 |some p=>
  obtain⟨n,b'⟩:=p
  rw[hn] at h
  simp only at h
  cases hr:rrows S.right n none b' with
  |none=>rw[hr] at h;cases h
  |some p=>
   obtain⟨l,q⟩:=p
   rw[hr] at h
   simp only at h
   split at h
   ·cases h
    have h1:=rrows_count hr
    have h2:=number_len hn
    omega
   ·cases h
end L
attribute [local irreducible] L.rlist
section
variable [Pan] {E w W:World} {K Q:Value→World→Prop} {LL M N N':List HA} {c:T_api_Config} {b:Nat} {d:D.T} {fz:List HA} {n:List UInt8}
set_option maxHeartbeats 2000000 in
theorem r6Of_ok (hS:Sat E w LL) [hf:Fnd (RDq c b) LL (d,fz) N] (hps:d.ps.length≤1099511627776) (hns:d.ns.length≤1099511627776) (hz:d.Small 1024) (hrl:∀root,D.look d.ns n=some root→root.length≤33554432)
  (hyes:∀root bb es ee so w,D.look d.ns n=some root→d.get root=some bb→bb.length≤34359738368→L.rlist S.right bb=some es→ee.map enOf=es→(∀p∈ee,p.1=S.bare (enOf p))→Sat E w (rows cdRw so ee::bag (eeR ee)::RDq c b (d,fz)::N)→Q (.tuple #[.slice so.a ee.length so.c,.int .i64 0]) w)
  (hno:∀(er:Int) w,er≠0→Sat E w (RDq c b (d,fz)::N)→Q (.tuple #[.slice none 0 0,.int .i64 er]) w):
  Calls zp 115 #[.pointer (some ⟨b,0,none⟩),.string ⟨n.toArray⟩] w (retP Q):=by
 refine pithref36_Of.calls ?_
 unfold pithref36_Of.F
 have hS1:=hS.fd (RDq c b)
 clear hS hf
 have hS:=hS1
 clear hS1
 refine pcq (f:=151) (r5Root_ok (c:=c) (n:=n) hS hns (fun root sr w hroot hrr hS=>?_) fun w hroot hS=>?_)
 rotate_left 1
 ·repeat' (first|(refine pN_neq_s ?_ ?_<;>intro hc<;>try (exfalso;first|omega|exact gone hc|exact gon2 hc))|refine pIf_t ?_|refine pN_v (hk:=?_)|fail)
  exact hno 8 _ (by decide) hS.to
 have hrl1:=hrl root hroot
 have hsm:=fun {l:List I32} {q:List UInt8} (h:d.get l=some q)=>D.get_small hz h
 have hsj:∀j q,d.get (root.take j)=some q→q.length≤34359738368:=fun j q h=>by
  have h1:=hsm h
  have h2:(root.take j).length≤root.length:=by rw[List.length_take];omega
  omega
 haveI:=hrr
 repeat' (first|(refine pN_neq_s ?_ ?_<;>intro hc<;>try (exfalso;first|omega|exact gone hc|exact gon2 hc))|refine pIf_f ?_|refine pN_v (hk:=?_)|fail)
 refine pcq (f:=152) (r5Get_ok (c:=c) (s:=sr) (li:=root) hS (by omega) hps (fun j q h=>by have:=hsj j q h;omega) (fun bb sb w hbb hS=>?_) fun w hbb hS=>?_)
 rotate_left 1
 ·repeat' (first|(refine pN_neq_s ?_ ?_<;>intro hc<;>try (exfalso;first|omega|exact gone hc|exact gon2 hc))|refine pIf_t ?_|refine pN_v (hk:=?_)|fail)
  exact hno 1 _ (by decide) hS.to
 have hbl:bb.length≤34359738368:=by
  have:=hsm hbb
  omega
 repeat' (first|(refine pN_neq_s ?_ ?_<;>intro hc<;>try (exfalso;first|omega|exact gone hc|exact gon2 hc))|refine pIf_f ?_|refine pN_v (hk:=?_)|fail)
 refine pcq (f:=153) (r6Rows_ok (s:=sb) (b:=bb) hS (by omega) (fun es ee so w hes hee hba hel hS=>?_) fun v w hes hS=>?_)
 ·repeat' (first|refine pIf_f ?_|refine pN_v (hk:=?_)|fail)
  exact hyes root bb es ee so _ hroot hbb hbl hes hee hba hS.to
 ·repeat' (first|refine pIf_t ?_|refine pN_v (hk:=?_)|fail)
  exact hno 2 _ (by decide) hS.to
set_option maxHeartbeats 2000000 in
theorem r6filled_ok (p:EE) (hp:p.1=S.bare (enOf p)) (hS:Sat E w LL) [hf:Fnd (RDq c b) LL (d,fz) N] [hr:Rds (cdI 58) (RDq c b (d,fz)::N) p.2.1 p.2.2] (hps:d.ps.length≤1099511627776) (hl:p.2.2.length≤1099511627776) (hbl:∀j q,d.get (p.2.2.take j)=some q→q.length≤1099511627776)
  (hyes:∀bs s w,d.get p.2.2=some bs→Sat E w (rows cd_uint8 s bs::RDq c b (d,fz)::N)→Q (.tuple #[.agg (S.full (enOf p) s bs).enc.toArray,.int .i64 0]) w)
  (hno:∀vs w,vs.length=6→vs.all (·.oneCell')=true→Sat E w (RDq c b (d,fz)::N)→Q (.tuple #[.agg (List.toArray vs),.int .i64 1]) w):
  Calls zp 116 #[.pointer (some ⟨b,0,none⟩),.agg (cdRw.enc p).toArray] w (retP Q):=by
 refine pithref36_filled.calls ?_
 unfold pithref36_filled.F
 obtain⟨x,sx,li⟩:=p
 dsimp only at hr hl hbl hyes
 have hp:x=⟨x.Name,x.Link,x.Kind,x.Mode,x.Time,(⟨none,0⟩,[])⟩:=hp
 obtain⟨nm,lk,kd,md,tm,dt⟩:=x
 obtain rfl:dt=(⟨none,0⟩,[]):=by injection hp
 have hS1:=hS.fd (RDq c b)
 clear hS hf hp
 have hS:=hS1
 clear hS1
 haveI hrm:∀A B C':HA,Rds (cdI 58) (RDq c b (d,fz)::A::B::C'::N) sx li:=fun A B C'=>⟨fun E w hS=>hr.rd E w hS.to⟩
 refine pN_bx (z:=cdRw.enc ((⟨nm,lk,kd,md,tm,(⟨none,0⟩,[])⟩:T_api_Item),(sx,li))) hS rfl ?_
 clear hS
 intro eb w hS
 have he6:((cdRw.enc ((⟨nm,lk,kd,md,tm,(⟨none,0⟩,[])⟩:T_api_Item),(sx,li))).drop 0).take 6=[.string ⟨nm.toArray⟩,.string ⟨lk.toArray⟩,.int .i64 kd,.int .i64 md,.int .i64 tm,.slice none 0 0]:=rfl
 repeat' (first|(refine pN_nz (t:=49) hS ?_;clear hS;intro xb w hS)|refine pN_la_at (b:=eb) (n:=6) hS [.string ⟨nm.toArray⟩,.string ⟨lk.toArray⟩,.int .i64 kd,.int .i64 md,.int .i64 tm,.slice none 0 0] he6 rfl ?_|refine pN_l hS (by first|rfl|assumption) ?_|(refine pN_sa hS (by rfl) (by rfl) (by rfl) ?_;clear hS;intro w hS;try dsimp only at hS)|refine pN_v (hk:=?_)|fail)
 refine pcq (f:=152) (r5Get_ok (c:=c) (s:=sx) (li:=li) hS hl hps hbl (fun bs sb w hbs hS=>?_) fun w hbs hS=>?_)
 ·repeat' (first|(refine pN_neq_s ?_ ?_<;>intro hc<;>try (exfalso;first|omega|exact gone hc|exact gon2 hc))|refine pIf_f ?_|refine pN_la hS (by rfl) ?_|refine pL_ra hS (by rfl) ?_|(refine pN_s hS (by first|exact Nat.le_of_ble_eq_true rfl|assumption) (by rfl) ?_;clear hS;intro w hS;try simp only[List.set_cons_zero,List.set_cons_succ] at hS)|(refine pN_sa hS (by rfl) (by rfl) (by rfl) ?_;clear hS;intro w hS;try dsimp only at hS)|refine pN_v (hk:=?_)|fail)
  exact hyes bs sb _ hbs hS.to
 ·repeat' (first|(refine pN_neq_s ?_ ?_<;>intro hc<;>try (exfalso;first|omega|exact gone hc|exact gon2 hc))|refine pIf_t ?_|refine pL_ra hS (by rfl) ?_|(refine pN_sa hS (by rfl) (by rfl) (by rfl) ?_;clear hS;intro w hS;try dsimp only at hS)|refine pN_v (hk:=?_)|fail)
  exact hno _ _ rfl rfl hS.to
set_option maxHeartbeats 4000000 in
theorem r6Items_ok (hS:Sat E w LL) [hf:Fnd (RDq c b) LL (d,fz) N] (hps:d.ps.length≤1099511627776) (hns:d.ns.length≤1099511627776) (hz:d.Small 1024) (hrl:∀root,D.look d.ns n=some root→root.length≤33554432)
  (hyes:∀(outs:List T_api_Item) so w,S.Good d n→outs.length≤34359738368→(∀x∈outs,x.Data.2.length≤1099511627776)→Sat E w (rows cd_api_Item so outs::bag (itR outs)::RDq c b (d,fz)::N)→Q (.tuple #[.slice so.a outs.length so.c,.int .i64 0]) w)
  (hno:∀(er:Int) w,er≠0→Sat E w (RDq c b (d,fz)::N)→Q (.tuple #[.slice none 0 0,.int .i64 er]) w):
  Calls zp 80 #[.pointer (some ⟨b,0,none⟩),.string ⟨n.toArray⟩] w (retP Q):=by
 refine pithref36_Items.calls ?_
 unfold pithref36_Items.F
 refine pcq (f:=115) (r6Of_ok (c:=c) (n:=n) hS hps hns hz hrl (fun root bb es ee so w hroot hbb hbl hes hee hba hS=>?_) fun er w her hS=>?_)
 rotate_left 1
 ·repeat' (first|(refine pN_neq_s ?_ ?_<;>intro hc<;>try (exfalso;first|omega|exact gone hc|exact gon2 hc))|refine pIf_t ?_|refine pN_v (hk:=?_)|fail)
  exact hno er _ her hS
 have hell:ee.length=es.length:=by rw[←hee,List.length_map]
 have hcnt:=L.rlist_count hes
 have hsms:=L.rlist_sums hes
 have hsm:=fun {l:List I32} {q:List UInt8} (h:d.get l=some q)=>D.get_small hz h
 have hgood:(∀e∈es,∃q,d.get e.sums=some q)→S.Good d n:=fun h=>⟨root,bb,es,hroot,hbb,hes,h⟩
 repeat' (first|(refine pN_neq_s ?_ ?_<;>intro hc<;>try (exfalso;first|omega|exact gone hc|exact gon2 hc))|refine pIf_f ?_|refine pN_v (hk:=?_)|fail)
 refine⟨fun v v' w=>∃(j:Nat) (outs:List T_api_Item) (so2:Sl),v= .slice so2.a outs.length so2.c∧v'= .int .i64 j∧j≤ee.length∧outs.length=j∧(∀e∈es.take j,∃q,d.get e.sums=some q)∧(∀x∈outs,x.Data.2.length≤1099511627776)∧
  Sat E w (rows cd_api_Item so2 outs::bag (itR outs)::RDq c b (d,fz)::rows cdRw so ee::bag (eeR ee)::N),fun _ v _=>ee.length-(RowKit.intOf v).toNat,
  ⟨0,[],⟨none,0⟩,rfl,rfl,by omega,rfl,fun e he=>by simp at he,fun x hx=>(by cases hx),?_⟩,?_⟩
 ·have h8:Sat E w (rows cd_api_Item ⟨none,0⟩ []::_):=hS.nil cd_api_Item.e cd_api_Item.size
  have h9:Sat E w (bag (itR [])::rows cd_api_Item ⟨none,0⟩ []::_):=h8.bag_nil
  exact h9.to
 clear hS
 rintro _ _ _ w ⟨j,outs,so2,rfl,rfl,hj,hol,hpl,hxl,hS⟩
 by_cases hlt:j<ee.length
 ·obtain⟨p,hp⟩:∃p,ee[j]? =some p:=⟨ee[j],List.getElem?_eq_getElem _⟩
  have hm:=List.mem_of_getElem? hp
  have hes2:es[j]? =some (enOf p):=by rw[←hee,List.getElem?_map,hp];rfl
  have hps2:=hsms (enOf p) (List.mem_of_getElem? hes2)
  have hpsum:(enOf p).sums=p.2.2:=rfl
  rw[hpsum] at hps2
  have hb:=hba p hm
  haveI:RdP (cdI 58) (bag (eeR ee)) p.2.1 p.2.2:=eeR_rd hm
  have hbl2:∀j q,d.get (p.2.2.take j)=some q→q.length≤1099511627776:=fun j q h=>by
   have h1:=hsm h
   have h2:(p.2.2.take j).length≤p.2.2.length:=by rw[List.length_take];omega
   omega
  repeat' (first|refine pN_ixk (C:=cdRw) (s:=so) (l:=ee) hS j rfl rfl hp fun ad ha hel=>?_|refine pN_ld_at ha hS (cdRw.len _).symm ?_|(refine pN_lss_s ?_ ?_<;>intro hc<;>try (exfalso;omega))|refine pIf_t ?_|refine pN_v (hk:=?_)|fail)
  refine pcq (f:=116) (r6filled_ok (c:=c) (d:=d) p hb hS hps (by omega) hbl2 (fun bs si w hbs hS=>?_) fun vs w hv6 hv1 hS=>?_)
  ·have hbsl:bs.length≤1099511627776:=by
    have:=hbl2 p.2.2.length bs (by rw[List.take_length];exact hbs)
    exact this
   have hfd:(S.full (enOf p) si bs).Data=(si,bs):=by unfold S.full;rfl
   obtain⟨X,hX⟩:∃X,X=S.full (enOf p) si bs:=⟨_,rfl⟩
   rw[←hX] at hfd ⊢
   repeat' (first|(refine pN_nz (t:=49) hS ?_;clear hS;intro xb w hS)|(refine pN_sa (b:=xb) (us:=X.enc) hS rfl rfl rfl ?_;clear hS;intro w hS;dsimp only at hS)|refine pN_la (b:=xb) hS rfl ?_|(refine pN_b1 (C:=cd_api_Item) (x:=X) hS rfl (by decide) ?_;clear hS;intro s3 w hS)|(refine pN_app (C:=cd_api_Item) (s:=so2) (l:=outs) (m:=[X]) hS rfl rfl (by rw[List.length_singleton];omega) ?_;clear hS;intro s4 w hS)|(refine pN_neq_s ?_ ?_<;>intro hc<;>try (exfalso;first|omega|exact gone hc|exact gon2 hc))|refine pIf_f ?_|refine pN_v (hk:=?_)|fail)
   have hS:Sat E w (rows cd_uint8 X.Data.1 X.Data.2::bag (itR outs)::rows cd_api_Item s4 (outs++[X])::RDq c b (d,fz)::rows cdRw so ee::bag (eeR ee)::N):=by
    rw[hfd]
    exact hS.to
   have hS:=itR_snoc X hS
   refine⟨⟨j+1,outs++[X],s4,rfl,rfl,hlt,by rw[List.length_append,hol];rfl,fun e he=>?_,fun x hx=>?_,hS.to⟩,by simp[RowKit.intOf]<;>omega⟩
   ·rw[List.take_add_one,hes2] at he
    rcases List.mem_append.1 he with he|he
    ·exact hpl e he
    ·obtain rfl:e=enOf p:=by simpa using he
     exact⟨bs,hbs⟩
   ·rcases List.mem_append.1 hx with hx|hx
    ·exact hxl x hx
    ·obtain rfl:x=X:=by simpa using hx
     rw[hfd];exact hbsl
  ·repeat' (first|(refine pN_nz (t:=49) hS ?_;clear hS;intro xb w hS)|(refine pN_sa (b:=xb) (us:=vs) hS hv6.symm (by rw[hv6];rfl) hv1 ?_;clear hS;intro w hS)|(refine pN_neq_s ?_ ?_<;>intro hc<;>try (exfalso;first|omega|exact gone hc|exact gon2 hc))|refine pIf_t ?_|refine pN_v (hk:=?_)|fail)
   exact hno 1 _ (by decide) hS.to
 ·obtain rfl:j=ee.length:=by omega
  rw[hell,List.take_length] at hpl
  have hg:=hgood hpl
  repeat' (first|(refine pN_lss_s ?_ ?_<;>intro hc<;>try (exfalso;omega))|refine pIf_f ?_|refine pN_v (hk:=?_)|fail)
  exact hyes outs so2 _ hg (by omega) hxl hS.to
end
end
end
section
namespace S
open D (B)
variable {a b:L.En} {l m es fs:List L.En} {k:Int} {n:B}
end S
end
section
namespace C
theorem eat_lo (k:K):∀(l:List UInt8) (s:W) (n:Nat),(eat k s n l).2=true→k.least≤((n+(eat k s n l).1:Nat):Int)
 | [],_,_,h=>by cases h
 |x::r,s,n,h=>by
  rw[eat] at h ⊢
  split at h
  ·rename_i h0
   rw[if_pos h0]
   rw[over_eq,Bool.and_eq_true] at h0
   exact of_decide_eq_true h0.1
  ·rename_i h0
   rw[if_neg h0]
   have:=eat_lo k r _ _ h
   show k.least≤((n+((eat k (roll s x) (n+1) r).1+1):Nat):Int)
   omega
theorem fst_cases (k:K) (b:List UInt8):k.least≤(fst k b:Int)∨fst k b=b.length:=by
 have h:=eat_lo k b 0 0
 rw[fst_eq]
 cases e:(eat k 0 0 b).2 with
 |false=>exact .inr (eat_all k b 0 0 e)
 |true=>exact .inl (by have:=h e;rwa[Nat.zero_add] at this)
theorem pieces_one {k:K} {b:List UInt8} (h:b≠[]) (hl:(b.length:Int)<k.least):pieces k b=[b]:=by
 have hf:fst k b=b.length:=by
  rcases fst_cases k b with h1|h1
  ·have:=fst_le k b
   omega
  ·exact h1
 rw[pieces_cons k h,hf,List.take_length,List.drop_length,pieces_nil]
theorem pieces_64 {k:K} (hk:k.legal) (b:List UInt8):(pieces k b).length*64≤b.length+63:=by
 by_cases h:b=[]
 ·subst h;rw[pieces_nil];simp
 ·have h1:=fst_pos k h
  have h2:0<b.length:=List.length_pos_iff.2 h
  have h5:=fst_le k b
  have h6:=hk.1
  rw[pieces_cons k h,List.length_cons]
  rcases fst_cases k b with h4|h4
  ·have h3:=pieces_64 hk (b.drop (fst k b))
   rw[List.length_drop] at h3
   omega
  ·rw[h4,List.drop_length,pieces_nil,List.length_nil]
   omega
termination_by b.length
decreasing_by
 simp only[List.length_drop]
 omega
theorem nsize_9 (v:Nat):nsize v≤9:=by unfold nsize;repeat' split<;>first|omega|skip
theorem put_9 (v:Nat):(put v).length≤9:=by
 have:=nsize_9 v
 rw[put_len]
 unfold nsize at*
 repeat' split<;>first|omega|skip
end C
namespace L
theorem flat_length (l:List I32):(flat l).length=32*l.length:=by
 induction l with
 |nil=>rfl
 |cons x l ih=>
  have e:flat (x::l)=x.l++flat l:=by unfold flat;rw[List.map_cons,List.flatten_cons]
  rw[e,List.length_append,ih,x.h,List.length_cons];omega
end L
namespace S
end S
end
section
namespace C
theorem eat_most {k:K} (hk:k.least≤k.most):∀(l:List UInt8) (s:W) (n:Nat),(n:Int)<k.most→((n+(eat k s n l).1:Nat):Int)≤k.most
 | [],s,n,h=>by rw[eat];show((n+0:Nat):Int)≤_;omega
 |x::r,s,n,h=>by
  cases ho:over k (roll s x) (n+1) with
  |true=>
   rw[eat,if_pos ho]
   show((n+1:Nat):Int)≤_
   omega
  |false=>
   rw[eat,ho,if_neg (by decide)]
   have h1:((n+1:Nat):Int)<k.most:=by
    rcases Int.lt_or_le ((n+1:Nat):Int) k.most with h1|h1
    ·exact h1
    ·have e:((n+1:Nat):Int)=k.most:=by omega
     rw[over_eq,decide_eq_true (by omega),decide_eq_true e] at ho
     cases ho
   have:=eat_most hk r (roll s x) (n+1) h1
   show((n+((eat k (roll s x) (n+1) r).1+1):Nat):Int)≤_
   omega
theorem piece_most {k:K} (hk:k.legal) (b:List UInt8):∀p∈pieces k b,(p.length:Int)≤k.most:=by
 by_cases h:b=[]
 ·subst h;rw[pieces_nil];intro p hp;cases hp
 ·have h1:=fst_pos k h
  have h2:0<b.length:=List.length_pos_iff.2 h
  have h3:=piece_most hk (b.drop (fst k b))
  rw[pieces_cons k h]
  intro p hp
  rcases List.mem_cons.1 hp with rfl|hp
  ·have h4:=eat_most hk.2.1 b 0 0 (by have:=hk.1;have:=hk.2.1;omega)
   rw[Nat.zero_add,←fst_eq] at h4
   rw[List.length_take]
   omega
  ·exact h3 p hp
termination_by b.length
decreasing_by
 simp only[List.length_drop]
 omega
end C
namespace S
theorem sort_plain (l:List It):(sort l).map plainI=sort (l.map plainI):=by
 unfold sort
 exact List.map_mergeSort fun a _ b _=>rfl
theorem werr_plain:∀l:List It,werr (l.map plainI)=werr l
 | []=>rfl
 |x::l=>by
  rw[List.map_cons,werr,werr,werr_plain l]
  rfl
theorem twice_plain:∀l:List It,twice (l.map plainI)=twice l
 | []=>rfl
 | [x]=>rfl
 |x::y::l=>by
  have ih:=twice_plain (y::l)
  rw[List.map_cons,List.map_cons,twice,twice,←List.map_cons,ih]
  rfl
theorem list_plain (k:C.K) (l:List It):list k (l.map plainI)=list k l:=by
 unfold list
 rw[List.map_map]
 rfl
theorem putAll_plain:∀(l:List It) (d:D.T),putAll d (l.map plainI)=putAll d l
 | [],d=>rfl
 |x::l,d=>putAll_plain l (d.put x.Data.2)
theorem saved_plain (d:D.T) (n:D.B) (l:List It):saved d n (l.map plainI)=saved d n l:=by
 rw[saved_def,saved_def,list_plain,putAll_plain]
theorem save_plain (d:D.T) (n:D.B) (l:List It):save d n (l.map plainI)=save d n l:=by
 unfold save
 rw[werr_plain,←sort_plain,twice_plain,saved_plain]
theorem save_same {d:D.T} {n:D.B} {l m:List It} (h:l.map plainI=m.map plainI):save d n l=save d n m:=by rw[←save_plain,h,save_plain]
theorem need_plain (k:C.K) (l:List It):need k (l.map plainI)=need k l:=by
 unfold need
 rw[list_plain,List.map_map]
 rfl
theorem need_same {k:C.K} {l m:List It} (h:l.map plainI=m.map plainI):need k (sort l)=need k (sort m):=by rw[←need_plain,sort_plain,h,←sort_plain,need_plain]
theorem list_same {k:C.K} {l m:List It} (h:l.map plainI=m.map plainI):list k (sort l)=list k (sort m):=by rw[←list_plain,sort_plain,h,←sort_plain,list_plain]
def wI (x:It):Nat:=x.Name.length+x.Link.length+x.Data.2.length+1
def wL (l:List It):Nat:=(l.map wI).sum
theorem wL_sort (l:List It):wL (sort l)=wL l:=((sort_perm l).map wI).sum_nat
theorem wL_mem {l:List It} {x:It} (h:x∈l):wI x≤wL l:=by
 unfold wL
 induction l with
 |nil=>cases h
 |cons y l ih=>
  rw[List.map_cons,List.sum_cons]
  rcases List.mem_cons.1 h with rfl|h
  ·omega
  ·have:=ih h;omega
theorem wL_len:∀l:List It,l.length≤wL l
 | []=>Nat.zero_le _
 |x::l=>by
  have:=wL_len l
  have h1:1≤wI x:=by unfold wI;omega
  unfold wL at this ⊢
  rw[List.map_cons,List.sum_cons,List.length_cons]
  omega
theorem row_w (k:C.K) (x:It):(L.row (en k x)).length≤46*wI x:=by
 have h1:=C.put_9 (en k x).mode.toNat
 have h2:=C.put_9 (en k x).time.toNat
 have h3:=C.put_9 (en k x).name.length
 have h4:(L.tail (en k x)).length≤9+32*x.Data.2.length+x.Link.length:=by
  unfold L.tail
  split
  ·rw[List.length_append,L.flat_len]
   have h5:=C.put_9 (en k x).sums.length
   have h6:(en k x).sums.length≤x.Data.2.length:=by
    show(D.ids k x.Data.2).length≤_
    unfold D.ids
    rw[List.length_map]
    exact C.pieces_len _ _
   omega
  ·split
   ·unfold L.text
    rw[List.length_append]
    have h5:=C.put_9 (en k x).link.length
    have h6:(en k x).link=x.Link:=rfl
    rw[h6] at h5 ⊢
    omega
   ·exact Nat.zero_le _
 unfold L.row L.text
 simp only[List.length_cons,List.length_append]
 have h7:(en k x).name=x.Name:=rfl
 rw[h7] at h3 ⊢
 unfold wI
 omega
theorem rows_w (k:C.K):∀l:List It,(L.rows (l.map (en k))).length≤46*wL l
 | []=>Nat.zero_le _
 |x::l=>by
  have h1:=rows_w k l
  have h2:=row_w k x
  unfold L.rows wL at h1 ⊢
  rw[List.map_cons,List.map_cons,List.flatten_cons,List.length_append,List.map_cons,List.sum_cons]
  omega
theorem list_w (k:C.K) (l:List It):(list k l).length≤46*(wL l+1):=by
 have h1:=rows_w k l
 have h2:=C.put_9 (l.map (en k)).length
 unfold list L.list
 rw[List.length_append]
 omega
theorem datas_w (k:C.K):∀l:List It,(l.map fun x=>C.pieces k x.Data.2).flatten.length≤wL l
 | []=>Nat.zero_le _
 |x::l=>by
  have h1:=datas_w k l
  have h2:=C.pieces_len k x.Data.2
  unfold wL at h1 ⊢
  rw[List.map_cons,List.flatten_cons,List.length_append,List.map_cons,List.sum_cons]
  unfold wI at h1 ⊢
  omega
theorem need_w (k:C.K) (l:List It):(need k l).length≤47*(wL l+1):=by
 have h1:=list_w k l
 have h2:=datas_w k l
 have h3:=C.pieces_len k (list k l)
 unfold need
 rw[List.length_append]
 omega
end S
namespace Pr
abbrev Snap:=T_pithlaw37_Snap
def wS (x:Snap):Nat:=S.wL x.Items.2+1
def wA (l:List Snap):Nat:=(l.map wS).sum
def step (d:D.T) (x:Snap):D.T:=(S.save d x.Name x.Items.2).2
def all (k:C.K) (l:List Snap):D.T:=l.foldl step (D.new k)
theorem all_0 (k:C.K):all k []=D.new k:=rfl
theorem all_s {k:C.K} {l:List Snap} {j:Nat} {x:Snap} (h:l[j]? =some x):all k (l.take (j+1))=step (all k (l.take j)) x:=by
 unfold all
 rw[List.take_add_one,h,List.foldl_append]
 rfl
theorem wA_mem {l:List Snap} {x:Snap} (h:x∈l):wS x≤wA l:=by
 unfold wA
 induction l with
 |nil=>cases h
 |cons y l ih=>
  rw[List.map_cons,List.sum_cons]
  rcases List.mem_cons.1 h with rfl|h
  ·omega
  ·have:=ih h;omega
theorem wA_le (l:List Snap) (j:Nat):wA (l.take j)≤wA l:=by
 unfold wA
 have:(l.map wS).sum=((l.take j).map wS).sum+((l.drop j).map wS).sum:=by rw[←List.sum_append,←List.map_append,List.take_append_drop]
 omega
theorem save_cases (d:D.T) (n:D.B) (l:List S.It):((S.save d n l).1≠0∧(S.save d n l).2=d)∨(n.length≤254∧S.werr l=0∧S.twice (S.sort l)=false∧S.save d n l=(0,S.saved d n (S.sort l))):=by
 by_cases h1:254<n.length
 ·rw[S.save_long h1];exact .inl ⟨by show(8:Int)≠0;decide,rfl⟩
 ·by_cases h2:S.werr l=0
  ·cases h3:S.twice (S.sort l) with
   |true=>rw[S.save_twice h1 h2 h3];exact .inl ⟨by show(9:Int)≠0;decide,rfl⟩
   |false=>exact .inr ⟨by omega,h2,rfl,S.save_ok h1 h2 h3⟩
  ·rw[S.save_werr h1 h2];exact .inl ⟨h2,rfl⟩
theorem step_k (d:D.T) (x:Snap):(step d x).k=d.k:=by
 unfold step
 rcases save_cases d x.Name x.Items.2 with⟨_,h⟩|⟨_,_,_,h⟩
 ·rw[h]
 ·rw[h];exact S.saved_k _ _ _
theorem all_k (k:C.K):∀l:List Snap,(all k l).k=k:=by
 have:∀(l:List Snap) (d:D.T),(l.foldl step d).k=d.k:=by
  intro l
  induction l with
  |nil=>intro d;rfl
  |cons x l ih=>intro d;rw[List.foldl_cons,ih,step_k]
 exact fun l=>this l _
theorem step_ps (d:D.T) (x:Snap):(step d x).ps.length≤d.ps.length+47*wS x:=by
 unfold step
 rcases save_cases d x.Name x.Items.2 with⟨_,h⟩|⟨_,_,_,h⟩
 ·rw[h];omega
 ·rw[h]
  show(S.saved _ _ _).ps.length≤_
  rw[S.saved_puts]
  have h1:=D.puts_len (((S.sort x.Items.2).map fun x=>C.pieces d.k x.Data.2).flatten++C.pieces d.k (S.list d.k (S.sort x.Items.2))) d
  have h2:=S.need_w d.k (S.sort x.Items.2)
  unfold S.need at h2
  rw[List.length_append] at h1 h2
  rw[S.wL_sort] at h2
  show(D.T.puts _ _).ps.length≤_
  unfold wS
  omega
theorem step_ns (d:D.T) (x:Snap):(step d x).ns.length≤d.ns.length+1:=by
 unfold step
 rcases save_cases d x.Name x.Items.2 with⟨_,h⟩|⟨_,_,_,h⟩
 ·rw[h];omega
 ·rw[h]
  show(S.saved _ _ _).ns.length≤_
  rw[S.saved_puts]
  have hne:=S.ids_ne d.k (S.list_ne d.k (S.sort x.Items.2))
  unfold D.T.set
  rw[if_neg hne,D.upd_len,D.puts_ns]
  split<;>omega
theorem all_ps (k:C.K):∀l:List Snap,(all k l).ps.length≤47*wA l:=by
 have:∀(l:List Snap) (d:D.T),(l.foldl step d).ps.length≤d.ps.length+47*wA l:=by
  intro l
  induction l with
  |nil=>intro d;exact Nat.le_add_right _ _
  |cons x l ih=>
   intro d
   have h1:=ih (step d x)
   have h2:=step_ps d x
   have h3:wA (x::l)=wS x+wA l:=by unfold wA;rw[List.map_cons,List.sum_cons]
   rw[List.foldl_cons,h3]
   omega
 intro l
 have:=this l (D.new k)
 have e:(D.new k).ps.length=0:=rfl
 unfold all
 omega
theorem all_ns (k:C.K):∀l:List Snap,(all k l).ns.length≤l.length:=by
 have:∀(l:List Snap) (d:D.T),(l.foldl step d).ns.length≤d.ns.length+l.length:=by
  intro l
  induction l with
  |nil=>intro d;exact Nat.le_add_right _ _
  |cons x l ih=>
   intro d
   have h1:=ih (step d x)
   have h2:=step_ns d x
   rw[List.foldl_cons,List.length_cons]
   omega
 intro l
 have:=this l (D.new k)
 have e:(D.new k).ns.length=0:=rfl
 unfold all
 omega
theorem small_put1 {d:D.T} {z:Nat} (h:d.Small z) {p:D.B} (hp:p.length≤z):(d.put1 p).Small z:=by
 unfold D.T.put1
 split
 ·exact h
 ·intro i v hv
  by_cases e:H.sum p=i
  ·subst e
   have hv:D.look (D.upd d.ps (H.sum p) p) (H.sum p)=some v:=hv
   rw[D.look_upd_same] at hv
   cases hv
   exact hp
  ·have hv:D.look (D.upd d.ps (H.sum p) p) i=some v:=hv
   rw[D.look_upd_other _ _ _ _ e] at hv
   exact h i v hv
theorem small_puts {z:Nat}:∀(l:List D.B) {d:D.T},d.Small z→(∀p∈l,p.length≤z)→(d.puts l).Small z
 | [],d,h,_=>h
 |p::l,d,h,hl=>small_puts l (small_put1 h (hl p List.mem_cons_self)) fun q hq=>hl q (List.mem_cons_of_mem _ hq)
theorem small_pieces {k:C.K} {z:Nat} (hk:k.legal) (hz:k.most≤(z:Int)) (b:D.B):∀p∈C.pieces k b,p.length≤z:=fun p hp=>by
 have:=C.piece_most hk b p hp
 omega
theorem small_saved {d:D.T} {z:Nat} (h:d.Small z) (hk:d.k.legal) (hz:d.k.most≤(z:Int)) (n:D.B) (l:List S.It):(S.saved d n l).Small z:=by
 rw[S.saved_puts]
 refine small_puts _ h fun p hp=>?_
 rcases List.mem_append.1 hp with hp|hp
 ·obtain⟨P,hP,hp⟩:=List.mem_flatten.1 hp
  obtain⟨x,_,rfl⟩:=List.mem_map.1 hP
  exact small_pieces hk hz _ p hp
 ·exact small_pieces hk hz _ p hp
theorem all_small {k:C.K} (hk:k.legal) {z:Nat} (hz:k.most≤(z:Int)) (l:List Snap):(all k l).Small z:=by
 have:∀(l:List Snap) (d:D.T),d.k=k→d.Small z→(l.foldl step d).Small z:=by
  intro l
  induction l with
  |nil=>intro d _ h;exact h
  |cons x l ih=>
   intro d hd h
   refine ih _ (by rw[step_k];exact hd) ?_
   unfold step
   rcases save_cases d x.Name x.Items.2 with⟨_,e⟩|⟨_,_,_,e⟩
   ·rw[e];exact h
   ·rw[e];exact small_saved h (by rw[hd];exact hk) (by rw[hd];exact hz) _ _
 exact this l (D.new k) rfl fun i v hv=>by cases hv
theorem all_root {k:C.K} (l:List Snap) {n:D.B} {r:List I32} (h:D.look (all k l).ns n=some r):∃x∈l,r=D.ids k (S.list k (S.sort x.Items.2))∧n=x.Name∧n.length≤254:=by
 have:∀(l:List Snap) (d:D.T),d.k=k→D.look (l.foldl step d).ns n=some r→D.look d.ns n=some r∨∃x∈l,r=D.ids k (S.list k (S.sort x.Items.2))∧n=x.Name∧n.length≤254:=by
  intro l
  induction l with
  |nil=>intro d _ h;exact .inl h
  |cons x l ih=>
   intro d hd h
   rcases ih (step d x) (by rw[step_k];exact hd) h with h|⟨y,hy,hr⟩
   ·unfold step at h
    rcases save_cases d x.Name x.Items.2 with⟨_,e⟩|⟨hn,_,_,e⟩
    ·rw[e] at h;exact .inl h
    ·rw[e] at h
     have hne:=S.ids_ne d.k (S.list_ne d.k (S.sort x.Items.2))
     rw[S.saved_puts] at h
     unfold D.T.set at h
     rw[if_neg hne] at h
     by_cases e2:x.Name=n
     ·subst e2
      have h:D.look (D.upd (D.T.puts _ _).ns x.Name _) x.Name=some r:=h
      rw[D.look_upd_same] at h
      cases h
      exact .inr ⟨x,List.mem_cons_self,by rw[hd],rfl,hn⟩
     ·have h:D.look (D.upd (D.T.puts _ _).ns x.Name _) n=some r:=h
      rw[D.look_upd_other _ _ _ _ e2,D.puts_ns] at h
      exact .inl h
   ·exact .inr ⟨y,List.mem_cons_of_mem _ hy,hr⟩
 rcases this l (D.new k) rfl h with h|h
 ·cases h
 ·exact h
theorem all_root_len {k:C.K} (hk:k.legal) (l:List Snap) {n:D.B} {r:List I32} (h:D.look (all k l).ns n=some r):r.length*64≤46*wA l+63:=by
 obtain⟨x,hx,rfl,_⟩:=all_root l h
 have h1:=C.pieces_64 hk (S.list k (S.sort x.Items.2))
 have h2:=S.list_w k (S.sort x.Items.2)
 rw[S.wL_sort] at h2
 have h3:=wA_mem hx
 unfold wS at h3
 unfold D.ids
 rw[List.length_map]
 omega
end Pr
end
end Go.Proofs.YtikmogfhhggafaaGreatDoor
