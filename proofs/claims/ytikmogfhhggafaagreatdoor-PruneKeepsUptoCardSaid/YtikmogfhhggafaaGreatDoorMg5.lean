import Derived.Test.YtikmogfhhggafaaGreatDoorRows
import Derived.Laws.Cover3
import Derived.Test.YtikmogfhhggafaaGreatDoorMg4
set_option linter.all false
namespace Go.Proofs.YtikmogfhhggafaaGreatDoor
open Go
open Go.Proofs.Tryz renaming prog→zp
section
attribute [local irreducible] oMv oV oU oCall oCallV oBi oBin oUn oLoad oStore oNil oFld oField oIdx oIndex oPick oAlloc oBox oBuild oBs oConv oMk oSl oExt oFn oIface oMap oLook oMapUp oRange oNext oEntry oInv oAssert oPanic oRes pN pA pL pDr pIf gA pGd Calls
section
namespace C
def bnd (i:Nat):Nat:=([128,16384,2097152,268435456,34359738368,4398046511104,562949953421312,72057594037927936,9223372036854775808]:List Nat).getD i 0
theorem nsize_at {v i:Nat} (hi:i<9) (h:∀j,j<i→bnd j≤v) (hv:v<bnd i):nsize v=i+1:=by
 have h8:i=0∨i=1∨i=2∨i=3∨i=4∨i=5∨i=6∨i=7∨i=8:=by omega
 unfold nsize
 rcases h8 with rfl|rfl|rfl|rfl|rfl|rfl|rfl|rfl|rfl
 ·have:v<128:=hv
  rw[if_pos this]
 ·have h0:128≤v:=h 0 (by omega)
  have:v<16384:=hv
  rw[if_neg (by omega),if_pos this]
 ·have h0:16384≤v:=h 1 (by omega)
  have:v<2097152:=hv
  rw[if_neg (by omega),if_neg (by omega),if_pos this]
 ·have h0:2097152≤v:=h 2 (by omega)
  have:v<268435456:=hv
  rw[if_neg (by omega),if_neg (by omega),if_neg (by omega),if_pos this]
 ·have h0:268435456≤v:=h 3 (by omega)
  have:v<34359738368:=hv
  rw[if_neg (by omega),if_neg (by omega),if_neg (by omega),if_neg (by omega),if_pos this]
 ·have h0:34359738368≤v:=h 4 (by omega)
  have:v<4398046511104:=hv
  rw[if_neg (by omega),if_neg (by omega),if_neg (by omega),if_neg (by omega),if_neg (by omega),if_pos this]
 ·have h0:4398046511104≤v:=h 5 (by omega)
  have:v<562949953421312:=hv
  rw[if_neg (by omega),if_neg (by omega),if_neg (by omega),if_neg (by omega),if_neg (by omega),if_neg (by omega),if_pos this]
 ·have h0:562949953421312≤v:=h 6 (by omega)
  have:v<72057594037927936:=hv
  rw[if_neg (by omega),if_neg (by omega),if_neg (by omega),if_neg (by omega),if_neg (by omega),if_neg (by omega),if_neg (by omega),if_pos this]
 ·have h0:72057594037927936≤v:=h 7 (by omega)
  have:v<9223372036854775808:=hv
  rw[if_neg (by omega),if_neg (by omega),if_neg (by omega),if_neg (by omega),if_neg (by omega),if_neg (by omega),if_neg (by omega),if_neg (by omega),if_pos this]
theorem more_snoc:∀(n v:Nat),more v (n+1)=more v n++[byteOf ((v / 128^n%128+128:Nat):Int)]
 |0,v=>by simp[more]
 |n+1,v=>by
  rw[more,more_snoc n (v / 128),more,List.cons_append,Nat.div_div_eq_div_mul,Nat.pow_succ,Nat.mul_comm 128]
theorem or128 (b:UInt8):b|||128=byteOf ((b.toNat%128+128:Nat):Int):=by
 have h:∀x,x<256→x|||128=x%128+128:=by decide+kernel
 apply UInt8.toNat_inj.1
 have:=b.toNat_lt
 rw[byteOf_lt (by omega),UInt8.toNat_or]
 exact h _ b.toNat_lt
theorem not128 (b:UInt8):b&&& ~~~ 128=byteOf ((b.toNat%128:Nat):Int):=by
 have h:∀x,x<256→x&&& 127=x%128:=by decide+kernel
 apply UInt8.toNat_inj.1
 have:=b.toNat_lt
 rw[byteOf_lt (by omega),UInt8.toNat_and]
 exact h _ b.toNat_lt
end C
section
variable [Pan] {P:Program} {w:World} {K:Value→World→Prop} {t:TypeId} {xo yo:Operand}
theorem run_or_bv (a b:UInt8):(oBin .or t xo yo (bv a) (bv b)).run P w= .ok (.value (bv (a|||b))) w:=by
 unfold bv
 rw[run_or]
 have e:IntKind.u8.wrap ((BitVec.ofInt 8 (a.toNat:Int)|||BitVec.ofInt 8 (b.toNat:Int)).toNat)=((a|||b).toNat:Int):=by
  have ea:BitVec.ofInt 8 (a.toNat:Int)=a.toBitVec:=ofInt_nat a.toBitVec
  have eb:BitVec.ofInt 8 (b.toNat:Int)=b.toBitVec:=ofInt_nat b.toBitVec
  rw[ea,eb,wrap_u8,←UInt8.toBitVec_or]
  have:=(a|||b).toNat_lt
  show((a|||b).toNat:Int)%256=_
  omega
 show(Result.ok (Next.value (.int .u8 (IntKind.u8.wrap ((BitVec.ofInt 8 (a.toNat:Int)|||BitVec.ofInt 8 (b.toNat:Int)).toNat)))) w:Result Next)=_
 rw[e]
theorem run_andn_bv (a b:UInt8):(oBin .andNot t xo yo (bv a) (bv b)).run P w= .ok (.value (bv (a&&& ~~~ b))) w:=by
 unfold bv
 rw[run_andn]
 have e:IntKind.u8.wrap ((BitVec.ofInt 8 (a.toNat:Int)&&& ~~~ BitVec.ofInt 8 (b.toNat:Int)).toNat)=((a&&& ~~~ b).toNat:Int):=by
  have ea:BitVec.ofInt 8 (a.toNat:Int)=a.toBitVec:=ofInt_nat a.toBitVec
  have eb:BitVec.ofInt 8 (b.toNat:Int)=b.toBitVec:=ofInt_nat b.toBitVec
  rw[ea,eb,wrap_u8,←UInt8.toBitVec_not,←UInt8.toBitVec_and]
  have:=(a&&& ~~~ b).toNat_lt
  show((a&&& ~~~ b).toNat:Int)%256=_
  omega
 show(Result.ok (Next.value (.int .u8 (IntKind.u8.wrap ((BitVec.ofInt 8 (a.toNat:Int)&&& ~~~ BitVec.ofInt 8 (b.toNat:Int)).toNat)))) w:Result Next)=_
 rw[e]
theorem pN_or128 {b:UInt8} (hk:K (bv (byteOf ((b.toNat%128+128:Nat):Int))) w):pN P (oBin .or t xo yo (bv b) (bv 128)) w K:=pN_of (run_or_bv b 128) (by rw[C.or128];exact hk)
theorem pN_not128 {b:UInt8} (hk:K (bv (byteOf ((b.toNat%128:Nat):Int))) w):pN P (oBin .andNot t xo yo (bv b) (bv 128)) w K:=pN_of (run_andn_bv b 128) (by rw[C.not128];exact hk)
set_option maxRecDepth 20000 in
theorem pN_or_hl {x y:Int} (j:Nat) (a b:Nat) (hx:x=(b:Int)) (hy:y=((a*2^j:Nat):Int)) (hb:b<2^j) (h:a*2^j+b<18446744073709551616) (hk:K (.int .u64 ((a*2^j+b:Nat):Int)) w):pN P (oBin .or t xo yo (.int .u64 x) (.int .u64 y)) w K:=by
 subst hx hy
 refine pN_of (run_or ..) ?_
 have e:=or_low 64 (a:Int) (b:Int) j (by omega) (by omega) (by exact_mod_cast hb) (by exact_mod_cast h)
 have e2:IntKind.u64.wrap (((BitVec.ofInt IntKind.u64.bits (b:Int)|||BitVec.ofInt IntKind.u64.bits ((a*2^j:Nat):Int)).toNat:Nat):Int)=((a*2^j+b:Nat):Int):=by
  rw[BitVec.or_comm]
  have e3:((a*2^j:Nat):Int)=(a:Int)*2^j:=by push_cast;rfl
  rw[e3]
  have e4:(((BitVec.ofInt 64 ((a:Int)*2^j)|||BitVec.ofInt 64 (b:Int)).toNat:Nat):Int)=(a:Int)*2^j+b:=e
  show IntKind.u64.wrap (((BitVec.ofInt 64 ((a:Int)*2^j)|||BitVec.ofInt 64 (b:Int)).toNat:Nat):Int)=_
  have e5:(a:Int)*2^j+b=((a*2^j+b:Nat):Int):=by rw[Int.natCast_add,e3]
  rw[e4,e5,w64_nat h]
 rw[e2];exact hk
end
theorem bndV_at {i:Nat} (h:i<9):bndV[i]? =some (.int .u64 ((C.bnd i:Nat):Int)):=by
 match i with
 |0|1|2|3|4|5|6|7|8=>rfl
 |n+9=>omega
instance ar_9:Ar zp 290 9:=⟨_,Tryz.underlying290,Tryz.sizeOf212,Tryz.isAgg212⟩
theorem C.bnd_8:C.bnd 8=9223372036854775808:=rfl
def C.part (v n i:Nat):List UInt8:=C.more v i++List.replicate (n-i) 0
theorem C.part_len (v:Nat) {n i:Nat} (h:i≤n):(C.part v n i).length=n:=by rw[C.part,List.length_append,C.more_len,List.length_replicate];omega
theorem C.part_0 (v n:Nat):C.part v n 0=List.replicate n 0:=by rw[C.part,Nat.sub_zero];rfl
theorem C.part_all (v n:Nat):C.part v n n=C.more v n:=by rw[C.part,Nat.sub_self,List.replicate_zero,List.append_nil]
theorem C.part_set (v:Nat) {n i:Nat} (h:i<n):(C.part v n i).set i (byteOf ((v / 128^i%128+128:Nat):Int))=C.part v n (i+1):=by
 have e:List.replicate (n-i) (0:UInt8)=0::List.replicate (n-(i+1)) 0:=by rw[←List.replicate_succ];congr 1;omega
 rw[C.part,C.part,C.more_snoc,e,List.set_append_right _ _ (by rw[C.more_len];exact Nat.le_refl _),C.more_len,Nat.sub_self,List.set_cons_zero,List.append_assoc]
 rfl
theorem C.put_of {v n:Nat} (hn:C.nsize v=n+1) (hv:v<9223372036854775808):(C.more v (n+1))[n]? =some (byteOf ((v / 128^n%128+128:Nat):Int))∧(C.more v (n+1)).set n (byteOf ((v / 128^n%128:Nat):Int))=C.put v:=by
 have hb:=(C.nsize_bound hv).1
 rw[hn,Nat.pow_succ] at hb
 have hq:v / 128^n<128:=by rw[Nat.div_lt_iff_lt_mul (Nat.pow_pos (by omega)),Nat.mul_comm];exact hb
 rw[C.more_snoc]
 refine⟨?_,?_⟩
 ·rw[List.getElem?_append_right (by rw[C.more_len];exact Nat.le_refl _),C.more_len,Nat.sub_self];rfl
 ·rw[List.set_append_right _ _ (by rw[C.more_len];exact Nat.le_refl _),C.more_len,Nat.sub_self,C.put,hn,Nat.add_sub_cancel,Nat.mod_eq_of_lt hq];rfl
theorem C.byte_more (x:Nat):byteOf (((byteOf (x:Int)).toNat%128+128:Nat):Int)=byteOf ((x%128+128:Nat):Int):=by
 have:=byteOf_toNat (x:Int)
 congr 2;omega
theorem C.byte_last {x:Nat} (h:x<128):byteOf (((byteOf ((x+128:Nat):Int)).toNat%128:Nat):Int)=byteOf ((x:Nat):Int):=by
 rw[C.byteOf_lt (by omega)]
 congr 2;omega
attribute [local irreducible] C.part C.nsize C.more C.put C.get C.bnd
section
variable [Pan] {E w W:World} {K Q:Value→World→Prop} {J:Value→Prop} {L M N:List HA} {l r:List UInt8} {s s2:Sl}
theorem VSize_ok (hG:GloS W) (v:Nat) (hv:v<9223372036854775808) (hS:Sat E w M) [Has (old W) M N] (hQ:∀w,Sat E w M→Q (.int .i64 (C.nsize v)) w):Calls zp 174 #[.int .u64 v] w (retP Q):=by
 refine varint_Size.calls ?_
 unfold varint_Size.F
 refine pN_ld_n (cs:=bndV) Ag.ag Ag.sz rfl (fun j u hj=>by rw[Addr.add_lit,Nat.zero_add];exact old_cell hS (hG.bounds j u hj)) ?_
 refine⟨fun x w=>∃i:Nat,x= .int .i64 i∧i≤9∧(∀j,j<i→C.bnd j≤v)∧Sat E w M,fun x _=>9-(RowKit.intOf x).toNat,⟨0,rfl,by omega,fun j hj=>by omega,hS⟩,?_⟩
 clear hS
 rintro _ _ w ⟨i,rfl,hi,hb,hS⟩
 by_cases hi9:i<9
 ·have hns:=fun h=>C.nsize_at hi9 hb h
  repeat' (first|refine pN_aix i rfl hi9 (bndV_at hi9) ?_|(refine pN_lss_s ?_ ?_<;>intro hc<;>try (exfalso;omega))|refine pIf_t ?_|refine pIf_f ?_|refine pN_v (hk:=?_)|fail)
  ·have hns:=hns (by omega)
   skip
   have hc1:((i:Int)+1)=((C.nsize v:Nat):Int):=by omega
   rw[hc1]
   exact hQ _ hS
  ·skip
   refine⟨⟨i+1,rfl,by omega,fun j hj=>?_,hS⟩,by simp[RowKit.intOf]<;>omega⟩
   by_cases hji:j=i
   ·subst hji;omega
   ·exact hb j (by omega)
 ·obtain rfl:i=9:=by omega
  have h8:=hb 8 (by omega)
  rw[C.bnd_8] at h8
  omega
set_option maxHeartbeats 1000000 in
theorem VPut_ok (hG:GloS W) (v:Nat) (hv:v<9223372036854775808) (hS:Sat E w M) [Has (old W) M N] (hQ:∀s w,Sat E w (rows cd_uint8 s (C.put v)::M)→Q (.tuple #[.slice s.a (C.put v).length s.c,.int .i64 0]) w):
  Calls zp 124 #[.int .u64 v] w (retP Q):=by
 refine varint_Put.calls ?_
 unfold varint_Put.F
 obtain⟨n1,n9⟩:=C.nsize_pos hv
 have hpl:=C.put_len v
 obtain⟨n,hn⟩:∃n,C.nsize v=n+1:=⟨C.nsize v-1,by omega⟩
 obtain⟨hlast,hset⟩:=C.put_of hn hv
 have hdv:v / 128^n<128:=by
  have hb:=(C.nsize_bound hv).1
  rw[hn,Nat.pow_succ] at hb
  rw[Nat.div_lt_iff_lt_mul (Nat.pow_pos (by omega)),Nat.mul_comm];exact hb
 repeat' (first|(refine pcq (f:=174) (VSize_ok hG v hv hS ?_);clear hS;intro w hS)|(refine pN_mk (C:=cd_uint8) hS (C.nsize v) rfl (by omega) ?_;clear hS;intro s w hS)|(refine pN_eql_s ?_ ?_<;>intro hc<;>try (exfalso;first|omega|exact gone hc|exact gon2 hc))|refine pIf_f ?_|refine pN_v (hk:=?_)|fail)
 have h0:List.replicate (C.nsize v) cd_uint8.zero=C.part v (C.nsize v) 0:=(C.part_0 v (C.nsize v)).symm
 rw[h0] at hS
 refine⟨fun x y w=>∃i:Nat,x= .int .u64 ((v / 128^i:Nat):Int)∧y= .int .i64 i∧i≤C.nsize v∧Sat E w (rows cd_uint8 s (C.part v (C.nsize v) i)::M),fun _ y _=>C.nsize v-(RowKit.intOf y).toNat,⟨0,by rw[Nat.pow_zero,Nat.div_one],rfl,by omega,hS⟩,?_⟩
 clear hS
 rintro _ _ _ w ⟨i,rfl,rfl,hi,hS⟩
 have hpi:=C.part_len v hi
 by_cases hlt:i<C.nsize v
 ·have hst:=C.part_set v hlt
  have hdiv:((v / 128^i:Nat):Int) / 2^7=((v / 128^(i+1):Nat):Int):=by
   rw[Nat.pow_succ,←Nat.div_div_eq_div_mul,Int.natCast_ediv];rfl
  have hx:v / 128^i<9223372036854775808:=Nat.lt_of_le_of_lt (Nat.div_le_self _ _) hv
  have hby:=C.byte_more (v / 128^i)
  generalize C.nsize v=m at*
  generalize hX:v / 128^i=X at*
  generalize C.part v m i=D at*
  repeat' (first|refine pN_or128 ?_|refine pN_shr_k 7 rfl (by decide) ?_|(refine pN_lss_s ?_ ?_<;>intro hc<;>try (exfalso;omega))|refine pIf_t ?_|refine pN_tob ?_|refine pN_ix hS _ (by first|rfl|(exact(Int.toNat_of_nonneg (by omega)).symm)) (by first|rfl|omega|simpa only[go_sem] using True.intro|(simp only[go_sem];omega)) (by first|omega|(simp only[go_sem];omega)) fun a x hx ha hel=>?_|(refine pN_sr hel hS (by rfl) (by rfl) (by first|omega|(simp only[go_sem];omega)) ?_;clear hS;intro w hS)|refine pN_v (hk:=?_)|fail)
  rw[hby,hst] at hS
  rw[hdiv]
  exact⟨⟨i+1,rfl,rfl,by omega,hS⟩,by simp[RowKit.intOf]<;>omega⟩
 ·obtain rfl:i=C.nsize v:=by omega
  rw[C.part_all] at hS hpi
  rw[hpl,hn,Nat.add_sub_cancel] at hQ
  rw[hn] at hS hpi ⊢
  have hb2:=C.byte_last hdv
  rw[Nat.mod_eq_of_lt hdv] at hlast hset
  generalize C.more v (n+1)=D at*
  repeat' (first|refine pN_ixk hS n (by omega) (by omega) hlast fun a ha hel=>?_|refine pN_not128 ?_|(refine pN_lss_s ?_ ?_<;>intro hc<;>try (exfalso;omega))|refine pIf_f ?_|refine pN_ld1 ha hS ?_|(refine pN_sr hel hS (by rfl) (by rfl) (by first|omega|(simp only[go_sem];omega)) ?_;clear hS;intro w hS)|refine pN_v (hk:=?_)|fail)
  rw[hb2,hset] at hS
  exact hQ _ _ hS
theorem C.small_hl {i v c:Nat} (hi:i≤8) (hv:v<128^i) (hc:c<128):c*128^i+v<18446744073709551616:=by
 have h1:c*128^i≤127*128^i:=Nat.mul_le_mul_right _ (by omega)
 have h2:128^i≤128^8:=Nat.pow_le_pow_right (by omega) hi
 have e8:(128:Nat)^8=72057594037927936:=rfl
 omega
theorem C.pow7 (i:Nat):(2:Nat)^(7*i)=128^i:=by rw[Nat.pow_mul]
set_option maxHeartbeats 1000000 in
set_option maxRecDepth 8000 in
theorem VGet_ok (hS:Sat E w M) [hr:Rds cd_uint8 M s l] (hl:l.length<4611686018427387904) (hQ:∀w,Sat E w M→Q (.tuple #[.int .u64 (C.get 0 0 l).1,.int .i64 (C.get 0 0 l).2.1,.int .i64 (C.get 0 0 l).2.2]) w):
  Calls zp 179 #[.slice s.a l.length s.c] w (retP Q):=by
 refine varint_Get.calls ?_
 unfold varint_Get.F
 repeat' (first|refine pN_v (hk:=?_)|fail)
 refine⟨fun x y w=>∃v i:Nat,x= .int .u64 (v:Int)∧y= .int .i64 i∧i≤l.length∧i≤8∧v<128^i∧C.get 0 0 l=C.get v i (l.drop i)∧Sat E w M,fun _ y _=>l.length-(RowKit.intOf y).toNat,⟨0,0,rfl,rfl,by omega,by omega,by omega,by rw[List.drop_zero],hS⟩,?_⟩
 clear hS
 rintro _ _ _ w ⟨v,i,rfl,rfl,hi,hi8,hv,hg,hS⟩
 by_cases hlt:i<l.length
 ·obtain⟨c,hc⟩:∃c,l[i]? =some c:=⟨l[i],by simp[hlt]⟩
  have hd:l.drop i=c::l.drop (i+1):=by
   rw[List.drop_eq_getElem_cons hlt]
   rw[List.getElem?_eq_getElem hlt] at hc
   rw[Option.some.inj hc]
  rw[hd] at hg
  have hcl:=c.toNat_lt
  by_cases hc8:c.toNat<128
  ·have hlt8:c<128:=by rw[UInt8.lt_iff_toNat_lt];exact hc8
   by_cases hz:c.toNat=0∧0<i
   ·rw[C.get_c0 hc8 hz] at hg
    rw[hg] at hQ
    have h0:c=0:=UInt8.toNat_inj.1 hz.1
    repeat' (first|refine pN_lss_sb (fun _=>?_) (fun h=>absurd hlt8 h)|refine pN_eql_sb (fun _=>?_) (fun h=>absurd h0 h)|((first|refine pN_lss_s ?_ ?_|refine pN_gtr_s ?_ ?_)<;>intro hc<;>try (exfalso;omega))|refine pIf_t ?_|refine pGd_go (by rfl) ?_|refine pN_ld1 ha hS ?_|refine pN_ixk hS _ (by first|rfl|(exact(Int.toNat_of_nonneg (by omega)).symm)) (by first|rfl|omega|simpa only[go_sem] using True.intro|(simp only[go_sem];omega)) (by assumption) fun a ha hel=>?_|refine pN_v (hk:=?_)|fail)
    exact hQ _ hS
   ·rw[C.get_c hc8 hz] at hg
    rw[hg] at hQ
    have e7:=C.pow7 i
    have hv2:v<2^(7*i):=by rw[e7];exact hv
    have hsm:=C.small_hl hi8 hv hc8
    have hshl:IntKind.u64.wrap ((c.toNat:Int)*2^(7*i))=((c.toNat*2^(7*i):Nat):Int):=by
     have e3:((c.toNat*2^(7*i):Nat):Int)=(c.toNat:Int)*2^(7*i):=by push_cast;rfl
     rw[←e3,w64_nat]
     rw[e7];omega
    rw[←e7] at hsm
    have hval:c.toNat*2^(7*i)+v=v+c.toNat*128^i:=by rw[e7];omega
    have hend:∀w,Sat E w M→Q (.tuple #[.int .u64 ((c.toNat*2^(7*i)+v:Nat):Int),.int .i64 ((i:Int)+1),.int .i64 0]) w:=fun w hS=>by
     rw[hval]
     exact hQ w hS
    clear hQ
    by_cases h0:c=0
    ·have hi0:i=0:=by
      have:c.toNat=0:=by rw[h0];rfl
      omega
     repeat' (first|refine pN_lss_sb (fun _=>?_) (fun h=>absurd hlt8 h)|refine pN_eql_sb (fun _=>?_) (fun h=>absurd h0 h)|refine pN_shl_k (7*i) (by omega) (show _≤64 by omega) ?_|refine pN_or_hl (7*i) c.toNat v rfl hshl hv2 hsm ?_|((first|refine pN_lss_s ?_ ?_|refine pN_gtr_s ?_ ?_)<;>intro hc<;>try (exfalso;omega))|refine pIf_t ?_|refine pIf_f ?_|refine pGd_go (by rfl) ?_|refine pN_ofb ?_|refine pN_ld1 ha hS ?_|refine pN_ixk hS _ (by first|rfl|(exact(Int.toNat_of_nonneg (by omega)).symm)) (by first|rfl|omega|simpa only[go_sem] using True.intro|(simp only[go_sem];omega)) (by assumption) fun a ha hel=>?_|refine pN_v (hk:=?_)|fail)
     exact hend _ hS
    ·repeat' (first|refine pN_lss_sb (fun _=>?_) (fun h=>absurd hlt8 h)|refine pN_eql_sb (fun h=>absurd h h0) (fun _=>?_)|refine pN_shl_k (7*i) (by omega) (show _≤64 by omega) ?_|refine pN_or_hl (7*i) c.toNat v rfl hshl hv2 hsm ?_|(refine pN_lss_s ?_ ?_<;>intro hc<;>try (exfalso;omega))|refine pIf_t ?_|refine pIf_f ?_|refine pGd_no (by rfl) ?_|refine pN_ofb ?_|refine pN_ld1 ha hS ?_|refine pN_ixk hS _ (by first|rfl|(exact(Int.toNat_of_nonneg (by omega)).symm)) (by first|rfl|omega|simpa only[go_sem] using True.intro|(simp only[go_sem];omega)) (by assumption) fun a ha hel=>?_|refine pN_v (hk:=?_)|fail)
     exact hend _ hS
  ·have hge8:¬c<128:=by rw[UInt8.lt_iff_toNat_lt];exact hc8
   by_cases h8:i=8
   ·rw[C.get_m8 hc8 h8] at hg
    rw[hg] at hQ
    repeat' (first|refine pN_lss_sb (fun h=>absurd h hge8) (fun _=>?_)|(refine pN_lss_s ?_ ?_<;>intro hc<;>try (exfalso;omega))|(refine pN_eql_s ?_ ?_<;>intro hc<;>try (exfalso;first|omega|exact gone hc|exact gon2 hc))|refine pIf_t ?_|refine pIf_f ?_|refine pN_ld1 ha hS ?_|refine pN_ixk hS _ (by first|rfl|(exact(Int.toNat_of_nonneg (by omega)).symm)) (by first|rfl|omega|simpa only[go_sem] using True.intro|(simp only[go_sem];omega)) (by assumption) fun a ha hel=>?_|fail)
    exact hQ _ hS
   ·rw[C.get_m hc8 h8] at hg
    have e7:=C.pow7 i
    obtain⟨x,hx⟩:∃x:Nat,x=c.toNat-128:=⟨_,rfl⟩
    have hx8:x<128:=by omega
    rw[←hx] at hg
    have hv2:v<2^(7*i):=by rw[e7];exact hv
    have hsm:=C.small_hl hi8 hv hx8
    have hby:((byteOf ((c.toNat%128:Nat):Int)).toNat:Int)=(x:Int):=by rw[C.byteOf_lt (by omega)];omega
    have hshl:IntKind.u64.wrap ((x:Int)*2^(7*i))=((x*2^(7*i):Nat):Int):=by
     have e3:((x*2^(7*i):Nat):Int)=(x:Int)*2^(7*i):=by push_cast;rfl
     rw[←e3,w64_nat]
     rw[e7];omega
    have hv3:v+x*128^i<128^(i+1):=by
     have:x*128^i≤127*128^i:=Nat.mul_le_mul_right _ (by omega)
     rw[Nat.pow_succ];omega
    rw[←e7] at hsm
    have hval:x*2^(7*i)+v=v+x*128^i:=by rw[e7];omega
    have hend:∀w,Sat E w M→∃v' i':Nat,Value.int .u64 ((x*2^(7*i)+v:Nat):Int)= .int .u64 (v':Int)∧Value.int .i64 ((i:Int)+1)= .int .i64 i'∧i'≤l.length∧i'≤8∧v'<128^i'∧C.get 0 0 l=C.get v' i' (l.drop i')∧Sat E w M:=fun w hS=>
     ⟨v+x*128^i,i+1,by rw[hval],rfl,by omega,by omega,hv3,hg,hS⟩
    clear hQ
    repeat' (first|refine pN_lss_sb (fun h=>absurd h hge8) (fun _=>?_)|refine pN_not128 ?_|(refine pN_ofb ?_;rw[hby])|refine pN_shl_k (7*i) (by omega) (show _≤64 by omega) ?_|refine pN_or_hl (7*i) x v rfl hshl hv2 hsm ?_|(refine pN_lss_s ?_ ?_<;>intro hc<;>try (exfalso;omega))|(refine pN_eql_s ?_ ?_<;>intro hc<;>try (exfalso;first|omega|exact gone hc|exact gon2 hc))|refine pIf_t ?_|refine pIf_f ?_|refine pN_ld1 ha hS ?_|refine pN_ixk hS _ (by first|rfl|(exact(Int.toNat_of_nonneg (by omega)).symm)) (by first|rfl|omega|simpa only[go_sem] using True.intro|(simp only[go_sem];omega)) (by assumption) fun a ha hel=>?_|refine pN_v (hk:=?_)|fail)
    exact⟨hend _ hS,by simp[RowKit.intOf]<;>omega⟩
 ·obtain rfl:i=l.length:=by omega
  rw[List.drop_length,C.get_nil] at hg
  rw[hg] at hQ
  repeat' (first|(refine pN_lss_s ?_ ?_<;>intro hc<;>try (exfalso;omega))|refine pIf_f ?_|fail)
  exact hQ _ hS
end
end
end
section
section
variable {P:Program} {H:Hints} {v:Value}
theorem cw_wpS1 (hm:P.follows .mixedOrders=true) {n:Frm} {cs cs2:List Frame} (hv:recoverD cs=some (v,cs2)∨(recoverD cs=none∧v= .nilIface∧cs2=cs)) {id:Nat} {o:Oper} {y:Code}
  (hr:recB #[o] 0=true) (hcut:(firstRg y).bind H.cut=none):
  ∀{Q:PQ} {ρ:Env} {w:World} {a:Act},served H n (.seq (.region id (recOps #[o] 0 v) false) y)=true→Fits n a ρ→ @cw Pan.no P H (.seq (.region id (recOps #[o] 0 v) false) y) Q ρ w→
   (Code.seq (.region id #[o] false) y).wpS P (fun e a' cs' w'=>cs'=cs2∧ @UpQ Pan.no n a (writes (.seq (.region id (recOps #[o] 0 v) false) y)) Q e a' w') a cs w:=by
 intro Q ρ w a hs hf h
 obtain⟨o2,ho2,hrun,hg,haft⟩:=(recB_at (P:=P) hr).is
 obtain rfl:o=o2:=by simpa using ho2
 simp only[served,Bool.and_eq_true,hcut] at hs
 simp only[cw,hcut] at h
 have hlt:∀t∈opWrites (recOps #[o] 0 v).toList,n.lo≤t∧t<n.n:=by
  intro t ht
  have hs1:=hs.1.1
  simp only[List.all_eq_true] at hs1
  have:=hs1 t ht
  simp only[Bool.and_eq_true,Nat.blt_eq,Nat.ble_eq] at this
  exact⟨this.2,this.1⟩
 have hl:= @rgW_wp Pan.no P n (recOps #[o] 0 v) (recOps #[o] 0 v).toList a ρ w _ (fun e a' w'=> @UpQ Pan.no n a (writes (.region id (recOps #[o] 0 v) false)) (fun e ρ' w'=>match e with
   | .normal=> @cw Pan.no P H y Q ρ' w'
   |_=>False) e a' w') (fun c a w h=>h) hlt hf h fun a' ρ' w' hk hf' hq=>⟨hk,ρ',hf',hq⟩
 have e:(recOps #[o] 0 v).toList=[{ o with op:= .assign (.const v) }]:=rfl
 rw[e] at hl
 refine wpS_seq ?_
 refine wpS_region ?_
 have key: @UpQ Pan.no n a (writes (.region id (recOps #[o] 0 v) false)) (fun e ρ' w'=>match e with
   | .normal=> @cw Pan.no P H y Q ρ' w'
   |_=>False) .normal (a.put o.dst v) w:=by
  unfold wpList at hl
  simp only[Region.wanted,hg,if_true,Oper.wp,Oper.upon,execOp,Sem.run_pure] at hl
  unfold wpList at hl
  exact hl.resolve_right fun h=>by obtain⟨_,_,_,h⟩:=h;exact h
 have key2:(Code.wpS P y (fun e a' cs' w'=>cs'=cs2∧ @UpQ Pan.no n a (writes (.seq (.region id (recOps #[o] 0 v) false) y)) Q e a' w')) (a.put o.dst v) cs2 w:=by
  obtain⟨hk,ρ',hf',hq'⟩:=key
  refine wpS_of_wp (wp_mono (cw_wp (n:=n) hm y hs.1.2 hf' hq') fun e a'' w'' h=>(⟨rfl,UpQ.next hk e a'' w'' h⟩:cs2=cs2∧_))
 show wpOpsS P #[o] _ [0] a cs w
 unfold wpOpsS
 simp only[ho2,Region.wanted,hg,if_true,hrun]
 rcases hv with hv|⟨hv,rfl,rfl⟩
 ·simp only[hv];exact key2
 ·simp only[hv];exact key2
theorem callsD_of_cw1 (hm:P.follows .mixedOrders=true) {f:FuncId} {fn:Func} {id:Nat} {o:Oper} {y:Code} {args:List Value} {w:World} {K:Value→World→Prop} {u u2:FrameMode}
  (hu:(∃older,u= .panicking ({ v:=v,recovered:=false }::older)∧u2= .panicking ({ v:=v,recovered:=true }::older))∨(u= .returning∧v= .nilIface∧u2= .returning))
  (hfn:P.funcs[f]? =some fn) (hb:fn.body=some (.seq (.region id #[o] false) y)) (hr:recB #[o] 0=true) (hcut:((firstRg y).bind H.cut).isNone=true)
  (hs:served H (Frm.new fn.ntmps) (.seq (.region id (recOps #[o] 0 v) false) y)=true) (ha:args.length≤fn.ntmps)
  (h: @cw Pan.no P H (.seq (.region id (recOps #[o] 0 v) false) y) (endQ P fn.results.toList K) (argsE args) w):CallsD P f args.toArray u w fun e u' w'=>u'=u2∧∃r,e= .returned r∧K r w':=by
 refine callsD_of_wpS hfn hb fun c₀ cs hu₀=>?_
 have hf:=fits_new fn.ntmps args ha
 have hv:recoverD (c₀::cs)=some (v,{ c₀ with mode:=u2 }::cs)∨(recoverD (c₀::cs)=none∧v= .nilIface∧{ c₀ with mode:=u2 }::cs=c₀::cs):=by
  rcases hu with⟨older,rfl,rfl⟩|⟨rfl,rfl,rfl⟩
  ·left;simp[recoverD,hu₀]
  ·right
   refine⟨by simp[recoverD,hu₀],rfl,?_⟩
   rw[←hu₀]
 refine wpS_mono (cw_wpS1 hm hv hr (Option.isNone_iff_eq_none.1 hcut) hs hf h) fun e a' cs' w' hq=>?_
 obtain⟨rfl,hq⟩:=hq
 cases e with
 |panic c=>exact hq.z.elim
 |outgrown=>exact hq.elim
 |goto l=>exact hq.elim
 |exit id=>obtain⟨_,ρ',_,hq⟩:=hq;exact hq.elim
 |normal=>
  obtain⟨_,ρ',hf',hq⟩:=hq
  obtain⟨vs,hr,hK⟩:=resW_run _ _ hq
  exact⟨hf'.defers,u2,rfl,_,results_one hf' fn w' P vs hr,rfl,_,rfl,by simpa using hK⟩
 |ret=>
  obtain⟨_,ρ',hf',hq⟩:=hq
  obtain⟨vs,hr,hK⟩:=resW_run _ _ hq
  exact⟨hf'.defers,u2,rfl,_,results_one hf' fn w' P vs hr,rfl,_,rfl,by simpa using hK⟩
end
end
section
set_option maxRecDepth 100000
def snap_Save.H:Hints:={ cut:=fun|24=>some ([],9407839477591871324160)|25=>some ([13],151113421608819433250816)|_=>none,loop:=fun|5=>([24],137422179904)|13=>([12],144114638320046144)|19=>([13,59],302230878442904990359552)|_=>([],0),order:=fun|15=>(ot 12)|_=>[] }
def snap_Save.F [Pan] (x0 x1 x2:Value) (w:World) (Q:QQ):Prop:=
 pN zp (oCall 56 [x1]) w fun x18 w1=>
 pN zp (oBin .neq 38 (.tmp 19) (.const (.int .i64 0)) x18 (.int .i64 0)) w1 fun x20 w2=>
 pIf x20
 (Q x18 w2)
 (pN zp (oBi .len #[30] 3 [false] [x2]) w2 fun x23 w3=>
 ∃(L5:Value→World→Prop) (m5:Value→World→Nat),
 L5 (.int .i64 0) w3∧
 ∀(_k5:Env) (v24l5:Value) (w4:World),L5 v24l5 w4→
 pN zp (oBin .lss 3 (.tmp 24) (.tmp 23) v24l5 x23) w4 fun x25 w5=>
 pIf x25
 (pN zp (oIdx 30 x2 v24l5) w5 fun x26 w6=>
 pN zp (oLoad 49 x26) w6 fun x27 w7=>
 pN zp (oAlloc 49) w7 fun x9 w8=>
 pN zp (oStore 49 x9 x27) w8 fun _ w9=>
 pN zp (oLoad 49 x9) w9 fun x29 w10=>
 pN zp (oCall 49 [x29]) w10 fun x30 w11=>
 pN zp (oExt x30 0) w11 fun _ w12=>
 pN zp (oExt x30 1) w12 fun x32 w13=>
 pN zp (oBin .neq 38 (.tmp 33) (.const (.int .i64 0)) x32 (.int .i64 0)) w13 fun x34 w14=>
 pIf x34
 (Q x32 w14)
 (pN zp (oBin .add 3 (.tmp 24) (.const (.int .i64 1)) v24l5 (.int .i64 1)) w14 fun x36 w15=>
 (L5 x36 w15∧m5 x36 w15<m5 v24l5 w4)))
 (pN zp (oCall 57 [x2,(.func (.func 58) #[] #[])]) w5 fun x38 w16=>
 ∃(L13:Value→World→Prop) (m13:Value→World→Nat),
 L13 (.int .i64 1) w16∧
 ∀(_k13:Env) (i12l13:Value) (w17:World),L13 i12l13 w17→
 pN zp (oBi .len #[30] 3 [false] [x38]) w17 fun x41 w18=>
 pN zp (oBin .lss 3 (.tmp 39) (.tmp 41) i12l13 x41) w18 fun x42 w19=>
 pIf x42
 (pDr w19 fun w20=>
 pA zp (oIdx 30 x38 i12l13) fun x47=>
 pA zp (oFld 49 x47 0) fun x48=>
 pL zp (oLoad 9 x48) w20 fun x49=>
 pA zp (oBin .sub 3 (.tmp 51) (.const (.int .i64 1)) i12l13 (.int .i64 1)) fun x52=>
 pA zp (oIdx 30 x38 x52) fun x53=>
 pA zp (oFld 49 x53 0) fun x54=>
 pL zp (oLoad 9 x54) w20 fun x55=>
 pA zp (oBin .eql 9 (.tmp 49) (.tmp 55) x49 x55) fun x56=>
 pIf x56
 (Q (.int .i64 9) w20)
 (pN zp (oBin .add 3 (.tmp 43) (.const (.int .i64 1)) i12l13 (.int .i64 1)) w20 fun x44 w21=>
 (L13 x44 w21∧m13 x44 w21<m13 i12l13 w17)))
 (pN zp (oBi .len #[30] 3 [false] [x38]) w19 fun x58 w22=>
 ∃(L19:Value→Value→World→Prop) (m19:Value→Value→World→Nat),
 L19 (.slice none 0 0) (.int .i64 0) w22∧
 ∀(_k19:Env) (list13l19:Value) (v59l19:Value) (w23:World),L19 list13l19 v59l19 w23→
 pN zp (oBin .lss 3 (.tmp 59) (.tmp 58) v59l19 x58) w23 fun x60 w24=>
 pIf x60
 (∃I25:Value→World→Prop,
 (pN zp (oIdx 30 x38 v59l19) w24 fun x61 w25=>
 pN zp (oLoad 49 x61) w25 fun x62 w26=>
 pN zp (oAlloc 49) w26 fun x15 w27=>
 pN zp (oStore 49 x15 x62) w27 fun _ w28=>
 pN zp (oLoad 49 x15) w28 fun x63 w29=>
 pN zp (oBuild 118 [(0,x63)]) w29 fun x64 w30=>
 pN zp (oAlloc 118) w30 fun x16 w31=>
 pN zp (oStore 118 x16 x64) w31 fun _ w32=>
 ∃I24:World→Prop,
 (pN zp (oFld 49 x15 2) w32 fun x65 w33=>
 pN zp (oLoad 3 x65) w33 fun x66 w34=>
 pN zp (oBin .eql 3 (.tmp 66) (.const (.int .i64 0)) x66 (.int .i64 0)) w34 fun x67 w35=>
 pIf x67
 (pN zp (oFld 49 x15 5) w35 fun x69 w36=>
 pN zp (oLoad 47 x69) w36 fun x70 w37=>
 pN zp (oCall 16 [x0,x70]) w37 fun x71 w38=>
 pN zp (oFld 118 x16 1) w38 fun x72 w39=>
 pN zp (oStore 52 x72 x71) w39 fun _ w40=>
 I24 w40)
 (I24 w35))∧
 ∀(_j24:Env) (w41:World),I24 w41→
 pN zp (oLoad 118 x16) w41 fun x74 w42=>
 pN zp (oBs 116 1 [(0,x74)]) w42 fun x75 w43=>
 pN zp (oBi .append #[116,116] 116 [false,false] [list13l19,x75]) w43 fun x76 w44=>
 I25 x76 w44)∧
 ∀(_j25:Env) (list13c25:Value) (w45:World),I25 list13c25 w45→
 pN zp (oBin .add 3 (.tmp 59) (.const (.int .i64 1)) v59l19 (.int .i64 1)) w45 fun x77 w46=>
 (L19 list13c25 x77 w46∧m19 list13c25 x77 w46<m19 list13l19 v59l19 w23))
 (pN zp (oCall 60 [list13l19]) w24 fun x82 w47=>
 pN zp (oCall 16 [x0,x82]) w47 fun x83 w48=>
 pN zp (oCall 59 [x0,x1,x83]) w48 fun x84 w49=>
 Q x84 w49))))
theorem snap_Save.calls [Pan] {x0 x1 x2:Value} {w:World} {Q:Value→World→Prop} (h:snap_Save.F x0 x1 x2 w Q):Calls zp 13 #[x0,x1,x2] w (retP Q):=cl snap_Save.H [x0,x1,x2] Tryz.func13 h
def snap_Needs.H:Hints:={ cut:=fun _=>none,loop:=fun|6=>([9,26],34292632064)|_=>([],0),order:=fun _=>[] }
def snap_Needs.F [Pan] (x0 x1:Value) (w:World) (Q:QQ):Prop:=
 pN zp (oCall 61 [x0,x1]) w fun x15 w1=>
 pN zp (oExt x15 0) w1 fun x16 w2=>
 pN zp (oExt x15 1) w2 fun x17 w3=>
 pN zp (oExt x15 2) w3 fun x18 w4=>
 pN zp (oBin .neq 38 (.tmp 19) (.const (.int .i64 0)) x18 (.int .i64 0)) w4 fun x20 w5=>
 pIf x20
 (Q (.tuple #[(.slice none 0 0),x18]) w5)
 (pN zp (oCall 65 [x17]) w5 fun x23 w6=>
 pN zp (oBi .len #[116] 3 [false] [x16]) w6 fun x25 w7=>
 ∃(L6:Value→Value→World→Prop) (m6:Value→Value→World→Nat),
 L6 x23 (.int .i64 0) w7∧
 ∀(_k6:Env) (all9l6:Value) (v26l6:Value) (w8:World),L6 all9l6 v26l6 w8→
 pN zp (oBin .lss 3 (.tmp 26) (.tmp 25) v26l6 x25) w8 fun x27 w9=>
 pIf x27
 (pN zp (oIdx 116 x16 v26l6) w9 fun x28 w10=>
 pN zp (oLoad 118 x28) w10 fun x29 w11=>
 pN zp (oAlloc 118) w11 fun x11 w12=>
 pN zp (oStore 118 x11 x29) w12 fun _ w13=>
 pN zp (oFld 118 x11 1) w13 fun x31 w14=>
 pN zp (oLoad 52 x31) w14 fun x32 w15=>
 pN zp (oBi .append #[52,52] 52 [false,false] [all9l6,x32]) w15 fun x33 w16=>
 pN zp (oBin .add 3 (.tmp 26) (.const (.int .i64 1)) v26l6 (.int .i64 1)) w16 fun x34 w17=>
 (L6 x33 x34 w17∧m6 x33 x34 w17<m6 all9l6 v26l6 w8))
 (pN zp (oCall 66 [all9l6,(.func (.func 67) #[] #[])]) w9 fun _ w18=>
 pN zp (oCall 69 [all9l6]) w18 fun x38 w19=>
 Q (.tuple #[x38,(.int .i64 0)]) w19))
theorem snap_Needs.calls [Pan] {x0 x1:Value} {w:World} {Q:Value→World→Prop} (h:snap_Needs.F x0 x1 w Q):Calls zp 17 #[x0,x1] w (retP Q):=cl snap_Needs.H [x0,x1] Tryz.func17 h
def snap_Items.H:Hints:={ cut:=fun _=>none,loop:=fun|6=>([9,26],17592118950448)|_=>([],0),order:=fun _=>[] }
def snap_Items.F [Pan] (x0 x1:Value) (w:World) (Q:QQ):Prop:=
 pN zp (oCall 61 [x0,x1]) w fun x17 w1=>
 pN zp (oExt x17 0) w1 fun x18 w2=>
 pN zp (oExt x17 1) w2 fun _ w3=>
 pN zp (oExt x17 2) w3 fun x20 w4=>
 pN zp (oBin .neq 38 (.tmp 21) (.const (.int .i64 0)) x20 (.int .i64 0)) w4 fun x22 w5=>
 pIf x22
 (Q (.tuple #[(.slice none 0 0),x20]) w5)
 (pN zp (oBi .len #[116] 3 [false] [x18]) w5 fun x25 w6=>
 ∃(L6:Value→Value→World→Prop) (m6:Value→Value→World→Nat),
 L6 (.slice none 0 0) (.int .i64 0) w6∧
 ∀(_k6:Env) (out9l6:Value) (v26l6:Value) (w7:World),L6 out9l6 v26l6 w7→
 pN zp (oBin .lss 3 (.tmp 26) (.tmp 25) v26l6 x25) w7 fun x27 w8=>
 pIf x27
 (pN zp (oIdx 116 x18 v26l6) w8 fun x28 w9=>
 pN zp (oLoad 118 x28) w9 fun x29 w10=>
 pN zp (oAlloc 118) w10 fun x11 w11=>
 pN zp (oStore 118 x11 x29) w11 fun _ w12=>
 pN zp (oLoad 118 x11) w12 fun x32 w13=>
 pN zp (oCall 71 [x0,x32]) w13 fun x33 w14=>
 pN zp (oExt x33 0) w14 fun x34 w15=>
 pN zp (oExt x33 1) w15 fun x35 w16=>
 pN zp (oAlloc 49) w16 fun x12 w17=>
 pN zp (oStore 49 x12 x34) w17 fun _ w18=>
 pN zp (oBin .neq 38 (.tmp 36) (.const (.int .i64 0)) x35 (.int .i64 0)) w18 fun x37 w19=>
 pIf x37
 (Q (.tuple #[(.slice none 0 0),x35]) w19)
 (pN zp (oLoad 49 x12) w19 fun x40 w20=>
 pN zp (oBs 30 1 [(0,x40)]) w20 fun x41 w21=>
 pN zp (oBi .append #[30,30] 30 [false,false] [out9l6,x41]) w21 fun x42 w22=>
 pN zp (oBin .add 3 (.tmp 26) (.const (.int .i64 1)) v26l6 (.int .i64 1)) w22 fun x43 w23=>
 (L6 x42 x43 w23∧m6 x42 x43 w23<m6 out9l6 v26l6 w7)))
 (Q (.tuple #[out9l6,(.int .i64 0)]) w8))
theorem snap_Items.calls [Pan] {x0 x1:Value} {w:World} {Q:Value→World→Prop} (h:snap_Items.F x0 x1 w Q):Calls zp 24 #[x0,x1] w (retP Q):=cl snap_Items.H [x0,x1] Tryz.func24 h
def snap_List.F [Pan] (x0:Value) (w:World) (Q:QQ):Prop:=
 pN zp (oCall 74 [x0]) w fun x4 w1=>
 Q x4 w1
theorem snap_List.calls [Pan] {x0:Value} {w:World} {Q:Value→World→Prop} (h:snap_List.F x0 w Q):Calls zp 30 #[x0] w (retP Q):=cl .z [x0] Tryz.func30 h
def snap_byName_api_Item_.F [Pan] (x0 x1:Value) (w:World) (Q:QQ):Prop:=
 pN zp (oBox 115 x1) w fun x3 w1=>
 pN zp (oCall 95 [x0]) w1 fun x6 w2=>
 pN zp (oFn (.func 97) [] [x3]) w2 fun x8 w3=>
 pN zp (oCall 96 [x6,x8]) w3 fun _ w4=>
 Q x6 w4
theorem snap_byName_api_Item_.calls [Pan] {x0 x1:Value} {w:World} {Q:Value→World→Prop} (h:snap_byName_api_Item_.F x0 x1 w Q):Calls zp 57 #[x0,x1] w (retP Q):=cl .z [x0,x1] Tryz.func57 h
def snap_itemName.F [Pan] (x0:Value) (w:World) (Q:QQ):Prop:=
 pN zp (oBox 49 x0) w fun x1 w1=>
 pN zp (oFld 49 x1 0) w1 fun x3 w2=>
 pN zp (oLoad 9 x3) w2 fun x4 w3=>
 Q x4 w3
theorem snap_itemName.calls [Pan] {x0:Value} {w:World} {Q:Value→World→Prop} (h:snap_itemName.F x0 w Q):Calls zp 58 #[x0] w (retP Q):=cl .z [x0] Tryz.func58 h
def snap_write.H:Hints:={ cut:=fun|18=>some ([3],73786976294838173864)|_=>none,loop:=fun|3=>([3,13],147573952589676404904)|12=>([3,51],574208952489738376)|_=>([],0),order:=fun|6=>[(0,0),(1,1),(2,3),(3,7),(5,15),(6,47),(7,111),(4,239),(8,255),(9,511)]|_=>[] }
def snap_write.F [Pan] (x0:Value) (w:World) (Q:QQ):Prop:=
 pN zp (oBi .len #[116] 3 [false] [x0]) w fun x9 w1=>
 pN zp (oCall 99 [(.slice none 0 0),x9]) w1 fun x10 w2=>
 pN zp (oBi .len #[116] 3 [false] [x0]) w2 fun x12 w3=>
 ∃(L3:Value→Value→World→Prop) (m3:Value→Value→World→Nat),
 L3 x10 (.int .i64 0) w3∧
 ∀(_k3:Env) (b3l3:Value) (v13l3:Value) (w4:World),L3 b3l3 v13l3 w4→
 pN zp (oBin .lss 3 (.tmp 13) (.tmp 12) v13l3 x12) w4 fun x14 w5=>
 pIf x14
 (∃I18:Value→World→Prop,
 (pN zp (oIdx 116 x0 v13l3) w5 fun x15 w6=>
 pN zp (oLoad 118 x15) w6 fun x16 w7=>
 pN zp (oAlloc 118) w7 fun x5 w8=>
 pN zp (oStore 118 x5 x16) w8 fun _ w9=>
 pN zp (oFld 118 x5 0) w9 fun x18 w10=>
 pN zp (oFld 49 x18 2) w10 fun x19 w11=>
 pN zp (oLoad 3 x19) w11 fun x20 w12=>
 pN zp (oConv 3 5 x20) w12 fun x21 w13=>
 pN zp (oBs 47 1 [(0,x21)]) w13 fun x22 w14=>
 pN zp (oBi .append #[47,47] 47 [false,false] [b3l3,x22]) w14 fun x23 w15=>
 pDr w15 fun w16=>
 pA zp (oFld 118 x5 0) fun x25=>
 pA zp (oFld 49 x25 3) fun x26=>
 pL zp (oLoad 3 x26) w16 fun x27=>
 pA zp (oFld 118 x5 0) fun x29=>
 pA zp (oFld 49 x29 4) fun x30=>
 pL zp (oLoad 3 x30) w16 fun x31=>
 pN zp (oCall 99 [x23,x27]) w16 fun x28 w17=>
 ((Sem.run zp (oLoad 3 x30) w17= .ok (.value x31) w17)∧True)∧(pN zp (oCall 99 [x28,x31]) w17 fun x32 w18=>
 (True)∧(pN zp (oFld 118 x5 0) w18 fun x34 w19=>
 pN zp (oFld 49 x34 0) w19 fun x35 w20=>
 pN zp (oLoad 9 x35) w20 fun x36 w21=>
 pN zp (oCall 100 [x32,x36]) w21 fun x37 w22=>
 pN zp (oFld 118 x5 0) w22 fun x38 w23=>
 pN zp (oFld 49 x38 2) w23 fun x39 w24=>
 pN zp (oLoad 3 x39) w24 fun x40 w25=>
 pN zp (oBin .eql 3 (.tmp 40) (.const (.int .i64 0)) x40 (.int .i64 0)) w25 fun x42 w26=>
 pIf x42
 (pN zp (oFld 118 x5 1) w26 fun x44 w27=>
 pN zp (oLoad 52 x44) w27 fun x45 w28=>
 pN zp (oBi .len #[52] 3 [false] [x45]) w28 fun x46 w29=>
 pN zp (oCall 99 [x37,x46]) w29 fun x47 w30=>
 pN zp (oFld 118 x5 1) w30 fun x48 w31=>
 pN zp (oLoad 52 x48) w31 fun x49 w32=>
 pN zp (oBi .len #[52] 3 [false] [x49]) w32 fun x50 w33=>
 ∃(L12:Value→Value→World→Prop) (m12:Value→Value→World→Nat),
 L12 x47 (.int .i64 0) w33∧
 ∀(_k12:Env) (b3l12:Value) (v51l12:Value) (w34:World),L12 b3l12 v51l12 w34→
 pN zp (oBin .lss 3 (.tmp 51) (.tmp 50) v51l12 x50) w34 fun x52 w35=>
 pIf x52
 (pN zp (oIdx 52 x49 v51l12) w35 fun x53 w36=>
 pN zp (oLoad 58 x53) w36 fun x54 w37=>
 pN zp (oAlloc 58) w37 fun x7 w38=>
 pN zp (oStore 58 x7 x54) w38 fun _ w39=>
 pN zp (oSl 58 x7 none none none) w39 fun x56 w40=>
 pN zp (oBi .append #[47,47] 47 [false,false] [b3l12,x56]) w40 fun x57 w41=>
 pN zp (oBin .add 3 (.tmp 51) (.const (.int .i64 1)) v51l12 (.int .i64 1)) w41 fun x58 w42=>
 (L12 x57 x58 w42∧m12 x57 x58 w42<m12 b3l12 v51l12 w34))
 (I18 b3l12 w35))
 (pN zp (oBin .eql 3 (.tmp 40) (.const (.int .i64 2)) x40 (.int .i64 2)) w26 fun x60 w43=>
 pIf x60
 (pN zp (oFld 118 x5 0) w43 fun x62 w44=>
 pN zp (oFld 49 x62 1) w44 fun x63 w45=>
 pN zp (oLoad 9 x63) w45 fun x64 w46=>
 pN zp (oCall 100 [x37,x64]) w46 fun x65 w47=>
 I18 x65 w47)
 (I18 x37 w43)))))∧
 ∀(_j18:Env) (b3c18:Value) (w48:World),I18 b3c18 w48→
 pN zp (oBin .add 3 (.tmp 13) (.const (.int .i64 1)) v13l3 (.int .i64 1)) w48 fun x66 w49=>
 (L3 b3c18 x66 w49∧m3 b3c18 x66 w49<m3 b3l3 v13l3 w4))
 (Q b3l3 w5)
theorem snap_write.calls [Pan] {x0:Value} {w:World} {Q:Value→World→Prop} (h:snap_write.F x0 w Q):Calls zp 60 #[x0] w (retP Q):=cl snap_write.H [x0] Tryz.func60 h
def snap_listed.F [Pan] (x0 x1:Value) (w:World) (Q:QQ):Prop:=
 pN zp (oCall 54 [x0,x1]) w fun x14 w1=>
 pN zp (oExt x14 0) w1 fun x15 w2=>
 pN zp (oExt x14 1) w2 fun x16 w3=>
 pN zp (oBin .neq 38 (.tmp 17) (.const (.int .i64 0)) x16 (.int .i64 0)) w3 fun x18 w4=>
 pIf x18
 (Q (.tuple #[(.slice none 0 0),(.slice none 0 0),(.int .i64 8)]) w4)
 (pN zp (oCall 55 [x0,x15]) w4 fun x22 w5=>
 pN zp (oExt x22 0) w5 fun x23 w6=>
 pN zp (oExt x22 1) w6 fun x24 w7=>
 pN zp (oBin .neq 38 (.tmp 25) (.const (.int .i64 0)) x24 (.int .i64 0)) w7 fun x26 w8=>
 pIf x26
 (Q (.tuple #[(.slice none 0 0),(.slice none 0 0),(.int .i64 1)]) w8)
 (pN zp (oCall 101 [x23]) w8 fun x29 w9=>
 pN zp (oExt x29 0) w9 fun x30 w10=>
 pN zp (oExt x29 1) w10 fun x31 w11=>
 Q (.tuple #[x30,x15,x31]) w11))
theorem snap_listed.calls [Pan] {x0 x1:Value} {w:World} {Q:Value→World→Prop} (h:snap_listed.F x0 x1 w Q):Calls zp 61 #[x0,x1] w (retP Q):=cl .z [x0,x1] Tryz.func61 h
def snap_Needs_c1.H:Hints:={ cut:=fun _=>none,loop:=fun _=>([],0),order:=fun|1=>(ot 4)|_=>[] }
def snap_Needs_c1.F [Pan] (x0 x1:Value) (w:World) (Q:QQ):Prop:=
 pN zp (oBox 58 x0) w fun x2 w1=>
 pN zp (oBox 58 x1) w1 fun x3 w2=>
 pDr w2 fun w3=>
 pA zp (oSl 58 x2 none none none) fun x5=>
 pA zp (oSl 58 x3 none none none) fun x6=>
 pN zp (oCall 68 [x5,x6]) w3 fun x7 w4=>
 (True)∧(Q x7 w4)
theorem snap_Needs_c1.calls [Pan] {x0 x1:Value} {w:World} {Q:Value→World→Prop} (h:snap_Needs_c1.F x0 x1 w Q):Calls zp 67 #[x0,x1] w (retP Q):=cl snap_Needs_c1.H [x0,x1] Tryz.func67 h
def snap_item.F [Pan] (x0 x1:Value) (w:World) (Q:QQ):Prop:=
 pN zp (oBox 118 x1) w fun x3 w1=>
 pN zp (oAlloc 49) w1 fun x4 w2=>
 pN zp (oFld 118 x3 0) w2 fun x9 w3=>
 pN zp (oLoad 49 x9) w3 fun x10 w4=>
 pN zp (oAlloc 49) w4 fun x6 w5=>
 pN zp (oStore 49 x6 x10) w5 fun _ w6=>
 pN zp (oFld 49 x6 2) w6 fun x11 w7=>
 pN zp (oLoad 3 x11) w7 fun x12 w8=>
 pN zp (oBin .neq 3 (.tmp 12) (.const (.int .i64 0)) x12 (.int .i64 0)) w8 fun x13 w9=>
 pIf x13
 (pN zp (oLoad 49 x6) w9 fun x14 w10=>
 pN zp (oStore 49 x4 x14) w10 fun _ w11=>
 pL zp (oRes 49 x4) w11 fun r4=>
 Q (.tuple #[r4,(.int .i64 0)]) w11)
 (pN zp (oFld 118 x3 1) w9 fun x17 w12=>
 pN zp (oLoad 52 x17) w12 fun x18 w13=>
 pN zp (oCall 55 [x0,x18]) w13 fun x19 w14=>
 pN zp (oExt x19 0) w14 fun x20 w15=>
 pN zp (oExt x19 1) w15 fun x21 w16=>
 pN zp (oBin .neq 38 (.tmp 22) (.const (.int .i64 0)) x21 (.int .i64 0)) w16 fun x23 w17=>
 pIf x23
 (pN zp (oBuild 49 []) w17 fun x24 w18=>
 pN zp (oStore 49 x4 x24) w18 fun _ w19=>
 pL zp (oRes 49 x4) w19 fun r4=>
 Q (.tuple #[r4,(.int .i64 1)]) w19)
 (pN zp (oFld 49 x6 5) w17 fun x26 w20=>
 pN zp (oStore 47 x26 x20) w20 fun _ w21=>
 pN zp (oLoad 49 x6) w21 fun x27 w22=>
 pN zp (oStore 49 x4 x27) w22 fun _ w23=>
 pL zp (oRes 49 x4) w23 fun r4=>
 Q (.tuple #[r4,(.int .i64 0)]) w23))
theorem snap_item.calls [Pan] {x0 x1:Value} {w:World} {Q:Value→World→Prop} (h:snap_item.F x0 x1 w Q):Calls zp 71 #[x0,x1] w (retP Q):=cl .z [x0,x1] Tryz.func71 h
def snap_Forget.F [Pan] (x0 x1:Value) (w:World) (Q:QQ):Prop:=
 pN zp (oCall 54 [x0,x1]) w fun x10 w1=>
 pN zp (oExt x10 0) w1 fun _ w2=>
 pN zp (oExt x10 1) w2 fun x12 w3=>
 pN zp (oBin .neq 38 (.tmp 13) (.const (.int .i64 0)) x12 (.int .i64 0)) w3 fun x14 w4=>
 pIf x14
 (Q (.int .i64 8) w4)
 (pN zp (oCall 59 [x0,x1,(.slice none 0 0)]) w4 fun x17 w5=>
 Q x17 w5)
theorem snap_Forget.calls [Pan] {x0 x1:Value} {w:World} {Q:Value→World→Prop} (h:snap_Forget.F x0 x1 w Q):Calls zp 84 #[x0,x1] w (retP Q):=cl .z [x0,x1] Tryz.func84 h
def snap_byName_api_Item__c1.H:Hints:={ cut:=fun _=>none,loop:=fun _=>([],0),order:=fun|1=>[(0,0),(1,1),(3,3),(4,11),(2,27),(5,31),(6,63),(7,127)]|_=>[] }
def snap_byName_api_Item__c1.F [Pan] (x0 x1 x2:Value) (w:World) (Q:QQ):Prop:=
 pN zp (oBox 49 x0) w fun x3 w1=>
 pN zp (oBox 49 x1) w1 fun x4 w2=>
 pDr w2 fun w3=>
 pL zp (oLoad 115 x2) w3 fun x6=>
 pL zp (oLoad 49 x3) w3 fun x7=>
 pL zp (oLoad 115 x2) w3 fun x9=>
 pL zp (oLoad 49 x4) w3 fun x10=>
 pN zp (oCallV x6 [x7]) w3 fun x8 w4=>
 ((Sem.run zp (oLoad 49 x4) w4= .ok (.value x10) w4)∧(Sem.run zp (oLoad 115 x2) w4= .ok (.value x9) w4)∧True)∧(pN zp (oCallV x9 [x10]) w4 fun x11 w5=>
 (True)∧(pN zp (oCall 98 [x8,x11]) w5 fun x12 w6=>
 (True)∧(Q x12 w6)))
theorem snap_byName_api_Item__c1.calls [Pan] {x0 x1 x2:Value} {w:World} {Q:Value→World→Prop} (h:snap_byName_api_Item__c1.F x0 x1 x2 w Q):Calls zp 97 #[x0,x1,x2] w (retP Q):=cl snap_byName_api_Item__c1.H [x0,x1,x2] Tryz.func97 h
def snap_number.F [Pan] (x0 x1:Value) (w:World) (Q:QQ):Prop:=
 pN zp (oConv 3 212 x1) w fun x9 w1=>
 pN zp (oCall 124 [x9]) w1 fun x10 w2=>
 pN zp (oExt x10 0) w2 fun x11 w3=>
 pN zp (oExt x10 1) w3 fun _ w4=>
 pN zp (oBi .append #[47,47] 47 [false,false] [x0,x11]) w4 fun x15 w5=>
 Q x15 w5
theorem snap_number.calls [Pan] {x0 x1:Value} {w:World} {Q:Value→World→Prop} (h:snap_number.F x0 x1 w Q):Calls zp 99 #[x0,x1] w (retP Q):=cl .z [x0,x1] Tryz.func99 h
def snap_text.F [Pan] (x0 x1:Value) (w:World) (Q:QQ):Prop:=
 pN zp (oBi .len #[9] 3 [false] [x1]) w fun x7 w1=>
 pN zp (oCall 99 [x0,x7]) w1 fun x8 w2=>
 pN zp (oBi .append #[47,9] 47 [false,false] [x8,x1]) w2 fun x10 w3=>
 Q x10 w3
theorem snap_text.calls [Pan] {x0 x1:Value} {w:World} {Q:Value→World→Prop} (h:snap_text.F x0 x1 w Q):Calls zp 100 #[x0,x1] w (retP Q):=cl .z [x0,x1] Tryz.func100 h
def snap_read.H:Hints:={ cut:=fun _=>none,loop:=fun|4=>([12],549755809824)|_=>([],0),order:=fun|6=>(ot 18)|_=>[] }
noncomputable def snap_read.c:Code:=match Tryz.f101.body with|some c=>c|none=> .skip
def snap_read.F [Pan] (x0:Value) (w:World) (Q:QQ):Prop:=
 pN zp (oAlloc 116) w fun x2 w1=>
 pN zp (oAlloc 38) w1 fun x3 w2=>
 pN zp (oFn (.func 129) [] [x2,x3]) w2 fun x6 w3=>
 pDf zp (oDf x6 []) w3 fun d=>
 ∃Z:Pan,(∀(ch:List PanicEntry) (w4:World),Z.z ch w4→dE zp d (.panicking ch) w4 fun w5=>
 pL zp (oRes 116 x2) w5 fun r2=>
 pL zp (oRes 38 x3) w5 fun r3=>
 Q (.tuple #[r2,r3]) w5)∧
 (pN zp (oBuild 224 [(0,x0)]) w3 fun x8 w6=>
 pN zp (oBox 224 x8) w6 fun x9 w7=>
 pN zp (oCall 130 [x9]) w7 fun x11 w8=>
 ∃(L4:Value→World→Prop) (m4:Value→World→Nat),
 L4 (.int .i64 0) w8∧
 ∀(_k4:Env) (v12l4:Value) (w9:World),L4 v12l4 w9→
 pN zp (oBin .lss 3 (.tmp 12) (.tmp 11) v12l4 x11) w9 fun x13 w10=>
 pIf x13
 (pN zp (oCall 131 [x9]) w10 fun x15 w11=>
 pN zp (oAlloc 118) w11 fun x5 w12=>
 pN zp (oStore 118 x5 x15) w12 fun _ w13=>
 pDr w13 fun w14=>
 pL zp (oLoad 116 x2) w14 fun x16=>
 pA zp (oBi .len #[116] 3 [false] [x16]) fun x17=>
 pA zp (oBin .eql 3 (.tmp 17) (.const (.int .i64 0)) x17 (.int .i64 0)) fun x18=>
 gA (gB x18 false) (pL zp (oLoad 116 x2) w14) fun x20=>
 gA (gB x18 false) (pL zp (oLoad 116 x2) w14) fun x21=>
 gA (gB x18 false) (pA zp (oBi .len #[116] 3 [false] [x21])) fun x22=>
 gA (gB x18 false) (pA zp (oBin .sub 3 (.tmp 22) (.const (.int .i64 1)) x22 (.int .i64 1))) fun x23=>
 gA (gB x18 false) (pA zp (oIdx 116 x20 x23)) fun x24=>
 gA (gB x18 false) (pA zp (oFld 118 x24 0)) fun x25=>
 gA (gB x18 false) (pA zp (oFld 49 x25 0)) fun x26=>
 gA (gB x18 false) (pL zp (oLoad 9 x26) w14) fun x27=>
 gA (gB x18 false) (pA zp (oFld 118 x5 0)) fun x28=>
 gA (gB x18 false) (pA zp (oFld 49 x28 0)) fun x29=>
 gA (gB x18 false) (pL zp (oLoad 9 x29) w14) fun x30=>
 gA (gB x18 false) (pA zp (oBin .lss 9 (.tmp 27) (.tmp 30) x27 x30)) fun x31=>
 pA zp (oPick x18 (.bool true) x31) fun x32=>
 pN zp (oCall 132 [x32]) w14 fun _ w15=>
 (True)∧(pN zp (oLoad 116 x2) w15 fun x34 w16=>
 pN zp (oLoad 118 x5) w16 fun x35 w17=>
 pN zp (oBs 116 1 [(0,x35)]) w17 fun x36 w18=>
 pN zp (oBi .append #[116,116] 116 [false,false] [x34,x36]) w18 fun x37 w19=>
 pN zp (oStore 116 x2 x37) w19 fun _ w20=>
 pN zp (oBin .add 3 (.tmp 12) (.const (.int .i64 1)) v12l4 (.int .i64 1)) w20 fun x38 w21=>
 (L4 x38 w21∧m4 x38 w21<m4 v12l4 w9)))
 (pN zp (oNil x9) w10 fun x40 w22=>
 pN zp (oFld 224 x40 0) w22 fun x41 w23=>
 pN zp (oLoad 47 x41) w23 fun x42 w24=>
 pN zp (oBi .len #[47] 3 [false] [x42]) w24 fun x43 w25=>
 pN zp (oBin .eql 3 (.tmp 43) (.const (.int .i64 0)) x43 (.int .i64 0)) w25 fun x44 w26=>
 pN zp (oCall 132 [x44]) w26 fun _ w27=>
 pN zp (oLoad 116 x2) w27 fun x46 w28=>
 pN zp (oStore 116 x2 x46) w28 fun _ w29=>
 pN zp (oStore 38 x3 (.int .i64 0)) w29 fun _ w30=>
 dE zp d .returning w30 fun w31=>
 pL zp (oRes 116 x2) w31 fun r2=>
 pL zp (oRes 38 x3) w31 fun r3=>
 Q (.tuple #[r2,r3]) w31))
theorem snap_read.eq [Pan] (x0:Value) (w:World) (Q:Value→World→Prop):cwD zp snap_read.H Tryz.f101.results.toList Q snap_read.c (argsE [x0]) w=snap_read.F x0 w Q:=by kernel_rfl
theorem snap_read.calls [Pan] {x0:Value} {w:World} {Q:Value→World→Prop} (h:snap_read.F x0 w Q):Calls zp 101 #[x0] w (retP Q):=
 calls_of_cwD (H:=snap_read.H) (c:=snap_read.c) (args:=[x0]) mixed 4 Tryz.func101 (by kernel_rfl) (by kernel_rfl) (by kernel_rfl) (Nat.le_of_ble_eq_true (by kernel_rfl)) ((snap_read.eq x0 w Q).mpr h)
def snap_read_c1.H:Hints:={ cut:=fun _=>none,loop:=fun _=>([],0),order:=fun _=>[] }
noncomputable def snap_read_c1.c:Code:=match Tryz.f129.body with|some c=>c|none=> .skip
noncomputable def snap_read_c1.d (rv:Value):Code:=recCode 0 0 rv snap_read_c1.c
def snap_read_c1.F (rv:Value) (x0:Value) (x1:Value) (w:World) (Q:QQ):Prop:=
 pN zp (oBin .eql 20 (.tmp 5) (.const .nilIface) rv .nilIface) w fun x7 w1=>
 pIf x7
 (Q (.tuple #[]) w1)
 (pN zp (oAssert rv 20 221 true) w1 fun x8 w2=>
 pN zp (oExt x8 1) w2 fun x9 w3=>
 pN zp (oExt x8 0) w3 fun x10 w4=>
 pIf x9
 (pN zp (oAlloc 221) w4 fun x3 w5=>
 pN zp (oStore 221 x3 x10) w5 fun _ w6=>
 pN zp (oStore 116 x0 (.slice none 0 0)) w6 fun _ w7=>
 pN zp (oStore 38 x1 (.int .i64 2)) w7 fun _ w8=>
 Q (.tuple #[]) w8)
 (pN zp (oPanic rv) w4 fun _ w9=>
 Q (.tuple #[]) w9))
theorem snap_read_c1.eq (rv:Value) (x0:Value) (x1:Value) (w:World) (Q:Value→World→Prop):cw zp snap_read_c1.H (snap_read_c1.d rv) (endQ zp Tryz.f129.results.toList Q) (argsE [x0,x1]) w=snap_read_c1.F rv x0 x1 w Q:=by kernel_rfl
theorem snap_read_c1.idles {x0:Value} {x1:Value} {w:World} {Q:Value→World→Prop} (h:snap_read_c1.F .nilIface x0 x1 w Q):CallsD zp 129 #[x0,x1] .returning w fun e u w=>u= .returning∧∃r,e= .returned r∧Q r w:=
 callsD_of_cw1 (H:=snap_read_c1.H) (args:=[x0,x1]) mixed (Or.inr ⟨rfl,rfl,rfl⟩) Tryz.func129 (show Tryz.f129.body=some (.seq _ _) by kernel_rfl) (by kernel_rfl) (by kernel_rfl) (by kernel_rfl) (Nat.le_of_ble_eq_true (by kernel_rfl)) ((snap_read_c1.eq .nilIface x0 x1 w Q).mpr h)
def snap_reader_number.F [Pan] (x0:Value) (w:World) (Q:QQ):Prop:=
 pN zp (oNil x0) w fun x8 w1=>
 pN zp (oFld 224 x8 0) w1 fun x9 w2=>
 pN zp (oLoad 47 x9) w2 fun x10 w3=>
 pN zp (oCall 179 [x10]) w3 fun x11 w4=>
 pN zp (oExt x11 0) w4 fun x12 w5=>
 pN zp (oExt x11 1) w5 fun x13 w6=>
 pN zp (oExt x11 2) w6 fun x14 w7=>
 pN zp (oBin .eql 38 (.tmp 15) (.const (.int .i64 0)) x14 (.int .i64 0)) w7 fun x16 w8=>
 pN zp (oCall 132 [x16]) w8 fun _ w9=>
 pN zp (oNil x0) w9 fun x20 w10=>
 pN zp (oFld 224 x20 0) w10 fun x21 w11=>
 pN zp (oLoad 47 x21) w11 fun x22 w12=>
 pN zp (oSl 47 x22 (some x13) none none) w12 fun x24 w13=>
 pN zp (oNil x0) w13 fun x25 w14=>
 pN zp (oFld 224 x25 0) w14 fun x26 w15=>
 pN zp (oStore 47 x26 x24) w15 fun _ w16=>
 pN zp (oConv 212 3 x12) w16 fun x28 w17=>
 Q x28 w17
theorem snap_reader_number.calls [Pan] {x0:Value} {w:World} {Q:Value→World→Prop} (h:snap_reader_number.F x0 w Q):Calls zp 130 #[x0] w (retP Q):=cl .z [x0] Tryz.func130 h
def snap_reader_entry.H:Hints:={ cut:=fun|14=>some ([],1125899873288192)|_=>none,loop:=fun|9=>([32],17587891077120)|_=>([],0),order:=fun|10=>(ot 10)|_=>[] }
def snap_reader_entry.F [Pan] (x0:Value) (w:World) (Q:QQ):Prop:=
 pN zp (oAlloc 118) w fun x2 w1=>
 pN zp (oAlloc 118) w1 fun x3 w2=>
 pN zp (oCall 180 [x0,(.int .i64 1)]) w2 fun x7 w3=>
 pN zp (oIdx 47 x7 (.int .i64 0)) w3 fun x8 w4=>
 pN zp (oLoad 5 x8) w4 fun x9 w5=>
 pN zp (oConv 5 3 x9) w5 fun x10 w6=>
 pN zp (oFld 118 x3 0) w6 fun x11 w7=>
 pN zp (oFld 49 x11 2) w7 fun x12 w8=>
 pN zp (oStore 3 x12 x10) w8 fun _ w9=>
 pN zp (oCall 130 [x0]) w9 fun x14 w10=>
 pN zp (oFld 118 x3 0) w10 fun x15 w11=>
 pN zp (oFld 49 x15 3) w11 fun x16 w12=>
 pN zp (oStore 3 x16 x14) w12 fun _ w13=>
 pN zp (oCall 130 [x0]) w13 fun x18 w14=>
 pN zp (oFld 118 x3 0) w14 fun x19 w15=>
 pN zp (oFld 49 x19 4) w15 fun x20 w16=>
 pN zp (oStore 3 x20 x18) w16 fun _ w17=>
 pN zp (oCall 181 [x0]) w17 fun x22 w18=>
 pN zp (oFld 118 x3 0) w18 fun x23 w19=>
 pN zp (oFld 49 x23 0) w19 fun x24 w20=>
 pN zp (oStore 9 x24 x22) w20 fun _ w21=>
 ∃I14:World→Prop,
 (pN zp (oFld 118 x3 0) w21 fun x25 w22=>
 pN zp (oFld 49 x25 2) w22 fun x26 w23=>
 pN zp (oLoad 3 x26) w23 fun x27 w24=>
 pN zp (oBin .eql 3 (.tmp 27) (.const (.int .i64 0)) x27 (.int .i64 0)) w24 fun x29 w25=>
 pIf x29
 (pN zp (oCall 130 [x0]) w25 fun x31 w26=>
 ∃(L9:Value→World→Prop) (m9:Value→World→Nat),
 L9 (.int .i64 0) w26∧
 ∀(_k9:Env) (v32l9:Value) (w27:World),L9 v32l9 w27→
 pN zp (oBin .lss 3 (.tmp 32) (.tmp 31) v32l9 x31) w27 fun x33 w28=>
 pIf x33
 (pDr w28 fun w29=>
 pA zp (oFld 118 x3 1) fun x34=>
 pL zp (oLoad 52 x34) w29 fun x35=>
 pN zp (oCall 180 [x0,(.int .i64 32)]) w29 fun x37 w30=>
 ((Sem.run zp (oLoad 52 x34) w30= .ok (.value x35) w30)∧True)∧(pN zp (oV (Instr.arrayAt 58 x37)) w30 fun x38 w31=>
 ((Sem.run zp (oLoad 52 x34) w31= .ok (.value x35) w31)∧True)∧(pL zp (oLoad 58 x38) w31 fun x39=>
 pN zp (oBs 52 1 [(0,x39)]) w31 fun x40 w32=>
 ((Sem.run zp (oLoad 52 x34) w32= .ok (.value x35) w32)∧True)∧(pN zp (oBi .append #[52,52] 52 [false,false] [x35,x40]) w32 fun x41 w33=>
 (True)∧(pA zp (oFld 118 x3 1) fun x42=>
 pN zp (oStore 52 x42 x41) w33 fun _ w34=>
 (True)∧(pN zp (oBin .add 3 (.tmp 32) (.const (.int .i64 1)) v32l9 (.int .i64 1)) w34 fun x43 w35=>
 (L9 x43 w35∧m9 x43 w35<m9 v32l9 w27)))))))
 (I14 w28))
 (pN zp (oBin .eql 3 (.tmp 27) (.const (.int .i64 2)) x27 (.int .i64 2)) w25 fun x45 w36=>
 pIf x45
 (pN zp (oCall 181 [x0]) w36 fun x47 w37=>
 pN zp (oFld 118 x3 0) w37 fun x48 w38=>
 pN zp (oFld 49 x48 1) w38 fun x49 w39=>
 pN zp (oStore 9 x49 x47) w39 fun _ w40=>
 I14 w40)
 (I14 w36)))∧
 ∀(_j14:Env) (w41:World),I14 w41→
 pN zp (oFld 118 x3 0) w41 fun x51 w42=>
 pN zp (oLoad 49 x51) w42 fun x52 w43=>
 pN zp (oCall 49 [x52]) w43 fun x53 w44=>
 pN zp (oExt x53 0) w44 fun _ w45=>
 pN zp (oExt x53 1) w45 fun x55 w46=>
 pN zp (oBin .eql 38 (.tmp 56) (.const (.int .i64 0)) x55 (.int .i64 0)) w46 fun x57 w47=>
 pN zp (oCall 132 [x57]) w47 fun _ w48=>
 pN zp (oLoad 118 x3) w48 fun x59 w49=>
 pN zp (oStore 118 x2 x59) w49 fun _ w50=>
 pL zp (oRes 118 x2) w50 fun r2=>
 Q r2 w50
theorem snap_reader_entry.calls [Pan] {x0:Value} {w:World} {Q:Value→World→Prop} (h:snap_reader_entry.F x0 w Q):Calls zp 131 #[x0] w (retP Q):=cl snap_reader_entry.H [x0] Tryz.func131 h
def snap_form.F [Pan] (x0:Value) (w:World) (Q:QQ):Prop:=
 pN zp (oUn .not x0) w fun x3 w1=>
 pIf x3
 (pN zp (oBuild 221 []) w1 fun x4 w2=>
 pN zp (oIface 221 x4) w2 fun x5 w3=>
 pN zp (oPanic x5) w3 fun _ w4=>
 Q (.tuple #[]) w4)
 (Q (.tuple #[]) w1)
theorem snap_form.calls [Pan] {x0:Value} {w:World} {Q:Value→World→Prop} (h:snap_form.F x0 w Q):Calls zp 132 #[x0] w (retP Q):=cl .z [x0] Tryz.func132 h
def snap_reader_take.F [Pan] (x0 x1:Value) (w:World) (Q:QQ):Prop:=
 pN zp (oNil x0) w fun x8 w1=>
 pN zp (oFld 224 x8 0) w1 fun x9 w2=>
 pN zp (oLoad 47 x9) w2 fun x10 w3=>
 pN zp (oBi .len #[47] 3 [false] [x10]) w3 fun x11 w4=>
 pN zp (oBin .leq 3 (.tmp 6) (.tmp 11) x1 x11) w4 fun x12 w5=>
 pN zp (oCall 132 [x12]) w5 fun _ w6=>
 pN zp (oNil x0) w6 fun x15 w7=>
 pN zp (oFld 224 x15 0) w7 fun x16 w8=>
 pN zp (oLoad 47 x16) w8 fun x17 w9=>
 pN zp (oSl 47 x17 none (some x1) none) w9 fun x19 w10=>
 pN zp (oNil x0) w10 fun x22 w11=>
 pN zp (oFld 224 x22 0) w11 fun x23 w12=>
 pN zp (oLoad 47 x23) w12 fun x24 w13=>
 pN zp (oSl 47 x24 (some x1) none none) w13 fun x26 w14=>
 pN zp (oNil x0) w14 fun x27 w15=>
 pN zp (oFld 224 x27 0) w15 fun x28 w16=>
 pN zp (oStore 47 x28 x26) w16 fun _ w17=>
 Q x19 w17
theorem snap_reader_take.calls [Pan] {x0 x1:Value} {w:World} {Q:Value→World→Prop} (h:snap_reader_take.F x0 x1 w Q):Calls zp 180 #[x0,x1] w (retP Q):=cl .z [x0,x1] Tryz.func180 h
def snap_reader_text.F [Pan] (x0:Value) (w:World) (Q:QQ):Prop:=
 pN zp (oCall 130 [x0]) w fun x5 w1=>
 pN zp (oCall 180 [x0,x5]) w1 fun x6 w2=>
 pN zp (oConv 47 9 x6) w2 fun x7 w3=>
 Q x7 w3
theorem snap_reader_text.calls [Pan] {x0:Value} {w:World} {Q:Value→World→Prop} (h:snap_reader_text.F x0 w Q):Calls zp 181 #[x0] w (retP Q):=cl .z [x0] Tryz.func181 h
end
section
instance ar_id:Ar zp 58 32:=⟨_,Tryz.underlying58,Tryz.sizeOf5,Tryz.isAgg5⟩
section
variable [Pan] {P:Program} {E w:World} {K:Value→World→Prop} {J:Value→Prop} {t:TypeId} {n b:Nat}
theorem run_asla [h:Ar P t n] (h0:0<n) (w:World):(oSl t (.pointer (some ⟨b,0,none⟩)) none none none).run P w= .ok (.value (.slice (some ⟨b,0,none⟩) n n)) w:=by
 obtain⟨e,ht,hs,_⟩:=h.ex
 refine run_oV_ok ?_
 have h2:¬n=0:=by omega
 simp[Instr.sliceAt,run_underlying ht,Instr.sureAddr,Instr.sliceBounds,Instr.sliceBound,asIntOf,hs,h2,Addr.add_lit]
theorem pN_asla [h:Ar P t n] (h0:0<n) (hk:K (.slice (some ⟨b,0,none⟩) n n) w):pN P (oSl t (.pointer (some ⟨b,0,none⟩)) none none none) w K:=pN_of (run_asla h0 w) hk
theorem rd_cel {e:TypeId} {l:List UInt8} (hl:l.length=n):RdP cd_uint8 (cel b ⟨e,bvs l⟩) ⟨some ⟨b,0,none⟩,n⟩ l:=by
 subst hl
 refine⟨fun w ⟨h1,hA,hh⟩=>⟨by rw[cd_uint8.flat_len],some ⟨b,0,none⟩,l.length,rfl,Nat.le_refl _,fun h=>(by cases h),fun a ha j u hu=>?_⟩⟩
 cases ha
 have hb:=hh b _ hA
 rw[cd_uint8.flat_single bv (fun _=>rfl)] at hu
 have:=cell_of_blk hb j
 rw[Addr.add_lit,Nat.zero_add,this]
 rw[List.getElem?_toArray]
 exact hu
end
abbrev EE:=T_api_Item×(Sl×List I32)
theorem cdE_one (b:EE) (u:Value) (hu:u∈b.1.enc++[.slice b.2.1.a b.2.2.length b.2.1.c]):u.oneCell'=true:=by
 simp only[T_api_Item.enc,List.cons_append,List.nil_append,List.append_assoc,List.mem_cons,List.not_mem_nil,or_false] at hu
 rcases hu with rfl|rfl|rfl|rfl|rfl|rfl|rfl<;>rfl
def cdE:Cd EE:={ e:=118,size:=7,bytes:=104,zero:=(T_api_Item.zero,(⟨none,0⟩,[])),enc:=fun p=>p.1.enc++[.slice p.2.1.a p.2.2.length p.2.1.c],len:=fun _=>rfl,one:=cdE_one }
instance bt_E:Bt cdE 104:=⟨rfl⟩
instance row_E:Row zp 116 EE cdE:=⟨⟨.agg #[.string ⟨#[]⟩,.string ⟨#[]⟩,.int .i64 0,.int .i64 0,.int .i64 0,.slice none 0 0,.slice none 0 0],⟨Tryz.underlying116,info_parts (by kernel_rfl),rfl,by decide⟩,rfl⟩,by decide⟩
instance aps:ApS zp 47 9 cd_uint8:=⟨Tryz.underlying47,Tryz.underlying9,info_parts (by kernel_rfl),rfl,fun _=>rfl⟩
def enOf (p:EE):L.En:=⟨p.1.Kind,p.1.Mode,p.1.Time,p.1.Name,p.1.Link,p.2.2⟩
namespace L
theorem rows_take {es:List En} {k:Nat} {e:En} (h:es[k]? =some e):rows (es.take (k+1))=rows (es.take k)++row e:=by
 unfold rows
 rw[List.take_add_one,h]
 simp
theorem rows_le {es:List En} (k:Nat):(rows (es.take k)).length≤(rows es).length:=by
 have:rows es=rows (es.take k)++rows (es.drop k):=by
  unfold rows
  rw[←List.flatten_append,←List.map_append,List.take_append_drop]
 rw[this,List.length_append];omega
theorem flat_take {l:List I32} {k:Nat} {i:I32} (h:l[k]? =some i):flat (l.take (k+1))=flat (l.take k)++i.l:=by
 unfold flat
 rw[List.take_add_one,h]
 simp
theorem flat_len:∀l:List I32,(flat l).length=32*l.length
 | []=>rfl
 |i::l=>by
  have h:=flat_len l
  have e:flat (i::l)=i.l++flat l:=by unfold flat;rw[List.map_cons,List.flatten_cons]
  rw[e,List.length_append,h,i.h,List.length_cons];omega
theorem flat_nil:flat []=[]:=rfl
theorem putl (v:Nat) (h:v<9223372036854775808):1≤(C.put v).length∧(C.put v).length≤9:=by
 have:=C.nsize_pos h
 rw[C.put_len];omega
end L
attribute [local irreducible] oMv oV oU oCall oCallV oBi oBin oUn oLoad oStore oNil oFld oField oIdx oIndex oPick oAlloc oBox oBuild oBs oConv oMk oSl oExt oFn oIface oMap oLook oMapUp oRange oNext oEntry oInv oAssert oPanic oRes pN pA pL pDr pIf gA pGd Calls C.put L.flat
section
variable [Pan] {E w W:World} {K Q:Value→World→Prop} {LL M N N':List HA} {l r:List UInt8} {s s2:Sl} {es:List EE}
theorem snum_ok (hG:GloS W) (v:Int) (h0:0≤v) (h1:v<9223372036854775808) (hS:Sat E w LL) [hg:Has (old W) LL N'] [hf:Fnd (rows cd_uint8 s) LL l M] (hb:l.length≤140737488355319)
  (hQ:∀s2 w,Sat E w (rows cd_uint8 s2 (l++C.put v.toNat)::M)→Q (.slice s2.a (l++C.put v.toNat).length s2.c) w):
  Calls zp 99 #[.slice s.a l.length s.c,.int .i64 v] w (retP Q):=by
 refine snap_number.calls ?_
 unfold snap_number.F
 obtain⟨v,rfl⟩:=Int.eq_ofNat_of_zero_le h0
 rw[Int.toNat_natCast] at hQ
 have hp:=L.putl v (by omega)
 repeat' (first|(refine pcq (f:=124) (VPut_ok hG v (by omega) hS ?_);clear hS;intro s1 w hS)|(refine pN_app hS (by first|rfl|omega|simpa only[go_sem] using True.intro|(simp only[go_sem];omega)) (by first|rfl|omega|simpa only[go_sem] using True.intro|(simp only[go_sem];omega)) (by first|omega|(simp only[go_sem];omega)) ?_;clear hS;intro s w hS)|refine pN_v (hk:=?_)|fail)
 exact hQ _ _ hS.to
theorem stext_ok (hG:GloS W) (t:List UInt8) (hS:Sat E w LL) [hg:Has (old W) LL N'] [hf:Fnd (rows cd_uint8 s) LL l M] [hg2:Has (old W) M N] (hb:l.length+t.length≤140737488355300)
  (hQ:∀s2 w,Sat E w (rows cd_uint8 s2 (l++L.text t)::M)→Q (.slice s2.a (l++L.text t).length s2.c) w):
  Calls zp 100 #[.slice s.a l.length s.c,.string ⟨t.toArray⟩] w (retP Q):=by
 refine snap_text.calls ?_
 unfold snap_text.F
 have hp:=L.putl t.length (by omega)
 have hlt:= @List.length_append _ l (C.put t.length)
 rw[L.text,←List.append_assoc] at hQ
 repeat' (first|refine pN_slen ?_|(refine pcq (f:=99) (snum_ok hG _ (by omega) (by omega) hS (by omega) ?_);clear hS;intro s1 w hS;rw[Int.toNat_natCast] at hS ⊢)|(refine pN_apst hS rfl (by rw[List.length_append];omega) ?_;clear hS;intro s2 w hS)|fail)
 exact hQ _ _ hS.to
set_option maxHeartbeats 4000000 in
theorem swrite_ok (hG:GloS W) (hS:Sat E w M) [hg:Has (old W) M N] [hr:Rds cdE M s es] (hd:∀p∈es,Rds (cdI 58) M p.2.1 p.2.2)
  (hf:∀p∈es,0≤p.1.Mode∧p.1.Mode<9223372036854775808∧0≤p.1.Time∧p.1.Time<9223372036854775808) (hel:es.length≤1099511627776) (hb:(L.list (es.map enOf)).length≤140737488355000)
  (hQ:∀s2 w,Sat E w (rows cd_uint8 s2 (L.list (es.map enOf))::M)→Q (.slice s2.a (L.list (es.map enOf)).length s2.c) w):
  Calls zp 60 #[.slice s.a es.length s.c] w (retP Q):=by
 refine snap_write.calls ?_
 unfold snap_write.F
 have hes:es.length=(es.map enOf).length:=(List.length_map ..).symm
 have hrl:=L.rows_le (es:=es.map enOf)
 have hls:L.list (es.map enOf)=C.put es.length++L.rows (es.map enOf):=by rw[L.list,List.length_map]
 rw[hls] at hb hQ
 rw[List.length_append] at hb
 have h0:Sat E w (rows cd_uint8 ⟨none,0⟩ []::M):=hS.nil cd_uint8.e cd_uint8.size
 clear hS
 have hS:=h0
 clear h0
 have e0:(.slice none 0 0:Value)= .slice (⟨none,0⟩:Sl).a ([]:List UInt8).length (⟨none,0⟩:Sl).c:=rfl
 rw[e0]
 repeat' (first|(refine pcq (f:=99) (snum_ok hG _ (by omega) (by omega) hS (by decide) ?_);clear hS;intro s1 w hS;rw[List.nil_append,Int.toNat_natCast] at hS ⊢)|refine pN_v (hk:=?_)|fail)
 refine⟨fun v v' w=>∃(k:Nat) (so:Sl),k≤es.length∧v= .slice so.a (C.put es.length++L.rows ((es.map enOf).take k)).length so.c∧v'= .int .i64 k∧Sat E w (rows cd_uint8 so (C.put es.length++L.rows ((es.map enOf).take k))::M),fun _ v _=>es.length-(RowKit.intOf v).toNat,
  ⟨0,s1,by omega,by rw[List.take_zero];show _=Value.slice s1.a (C.put es.length++[]).length s1.c;rw[List.append_nil],rfl,by rw[List.take_zero];show Sat E w (rows cd_uint8 s1 (C.put es.length++[])::M);rw[List.append_nil];exact hS⟩,?_⟩
 clear hS
 rintro _ _ _ w ⟨k,so,hk,rfl,rfl,hS⟩
 by_cases hlt:k<es.length
 ·obtain⟨p,hp⟩:∃p,es[k]? =some p:=⟨es[k],by simp[hlt]⟩
  have hm:p∈es:=List.mem_of_getElem? hp
  obtain⟨x,sx,li⟩:=p
  obtain⟨f1,f2,f3,f4⟩:=hf _ hm
  have hrd:=hd _ hm
  dsimp only at f1 f2 f3 f4 hrd
  have hrk:=L.rows_take (es:=es.map enOf) (k:=k) (e:=enOf (x,sx,li)) (by rw[List.getElem?_map,hp];rfl)
  have hr1:=hrl (k+1)
  rw[hrk,List.length_append] at hr1
  have hrow:L.row (enOf (x,sx,li))=byteOf x.Kind::(C.put x.Mode.toNat++(C.put x.Time.toNat++(L.text x.Name++L.tail (enOf (x,sx,li))))):=rfl
  rw[hrow] at hr1 hrk
  have htx:L.text x.Name=C.put x.Name.length++x.Name:=rfl
  have htxl:(L.text x.Name).length=(C.put x.Name.length).length+x.Name.length:=by rw[htx,List.length_append]
  have hput:C.put es.length++L.rows ((es.map enOf).take (k+1))=(C.put es.length++L.rows ((es.map enOf).take k))++(byteOf x.Kind::(C.put x.Mode.toNat++(C.put x.Time.toNat++(L.text x.Name++L.tail (enOf (x,sx,li)))))):=by rw[hrk,List.append_assoc]
  have hbl:(C.put es.length++L.rows ((es.map enOf).take k)).length=(C.put es.length).length+(L.rows ((es.map enOf).take k)).length:=List.length_append
  simp only[List.length_cons,List.length_append] at hr1
  generalize C.put es.length++L.rows ((es.map enOf).take k)=pr at*
  repeat' (first|(refine pN_lss_s ?_ ?_<;>intro hc<;>try (exfalso;omega))|refine pIf_t ?_|fail)
  refine⟨fun v w=>∃so,v= .slice so.a (pr++(byteOf x.Kind::(C.put x.Mode.toNat++(C.put x.Time.toNat++(L.text x.Name++L.tail (enOf (x,sx,li))))))).length so.c∧Sat E w (rows cd_uint8 so (pr++(byteOf x.Kind::(C.put x.Mode.toNat++(C.put x.Time.toNat++(L.text x.Name++L.tail (enOf (x,sx,li)))))))::M),?_,?_⟩
  ·repeat' (first|refine pN_tob ?_|refine pN_l hS (by first|rfl|assumption) ?_|refine pL_l hS (by first|rfl|assumption) ?_|refine pN_ld_at ha hS (by rfl) ?_|(refine pN_sa hS (by rfl) (by rfl) (by rfl) ?_;clear hS;intro w hS;try dsimp only at hS)|(refine pDr_go hS ?_;clear hS;intro w hS)|(refine pN_nz hS ?_;clear hS;intro a w hS)|refine pN_ixk hS _ (by first|rfl|(exact(Int.toNat_of_nonneg (by omega)).symm)) (by first|rfl|omega|simpa only[go_sem] using True.intro|(simp only[go_sem];omega)) (by assumption) fun a ha hel=>?_|(refine pN_b1 hS (by rfl) (by decide) ?_;clear hS;intro s w hS)|(refine pN_app hS (by first|rfl|omega|simpa only[go_sem] using True.intro|(simp only[go_sem];omega)) (by first|rfl|omega|simpa only[go_sem] using True.intro|(simp only[go_sem];omega)) (by first|omega|(simp only[go_sem];omega)) ?_;clear hS;intro s w hS)|refine pN_v (hk:=?_)|refine pA_v (hk:=?_)|fail)
   dsimp only at hS ⊢
   refine pcq (f:=99) (snum_ok hG x.Mode f1 f2 hS (by simp only[List.length_append,List.length_cons,List.length_nil];omega) ?_)
   clear hS
   intro s1 w hS
   refine⟨⟨run_l hS rfl,trivial⟩,?_⟩
   refine pcq (f:=99) (snum_ok hG x.Time f3 f4 hS (by simp only[List.length_append,List.length_cons,List.length_nil];omega) ?_)
   clear hS
   intro s2 w hS
   refine⟨trivial,?_⟩
   have htail:L.tail (enOf (x,sx,li))=if x.Kind=0 then C.put li.length++L.flat li else if x.Kind=2 then L.text x.Link else []:=rfl
   have hasc:pr++(byteOf x.Kind::(C.put x.Mode.toNat++(C.put x.Time.toNat++(L.text x.Name++L.tail (enOf (x,sx,li))))))=(pr++[byteOf x.Kind]++C.put x.Mode.toNat++C.put x.Time.toNat++L.text x.Name)++L.tail (enOf (x,sx,li)):=by simp only[List.append_assoc,List.cons_append,List.nil_append]
   rw[hasc]
   have hpl:(pr++[byteOf x.Kind]++C.put x.Mode.toNat++C.put x.Time.toNat++L.text x.Name).length+(L.tail (enOf (x,sx,li))).length≤140737488355000:=by simp only[List.length_append,List.length_cons,List.length_nil];omega
   by_cases k0:x.Kind=0
   ·rw[if_pos k0] at htail
    rw[htail] at hpl ⊢
    rw[@List.length_append _ (C.put li.length)] at hpl
    repeat' (first|(refine pcq (f:=100) (stext_ok hG x.Name hS (by simp only[List.length_append,List.length_cons,List.length_nil];omega) ?_);clear hS;intro s3 w hS)|(refine pN_eql_s ?_ ?_<;>intro hc<;>try (exfalso;first|omega|exact gone hc|exact gon2 hc))|refine pIf_t ?_|refine pN_l hS (by first|rfl|assumption) ?_|refine pN_v (hk:=?_)|fail)
    generalize pr++[byteOf x.Kind]++C.put x.Mode.toNat++C.put x.Time.toNat++L.text x.Name=pr2 at*
    have hfl:=L.flat_len li
    have htk:∀j,(L.flat (li.take j)).length≤(L.flat li).length:=fun j=>by rw[L.flat_len,L.flat_len,List.length_take];omega
    repeat' (first|(refine pcq (f:=99) (snum_ok hG _ (by omega) (by omega) hS (by omega) ?_);clear hS;intro s4 w hS;rw[Int.toNat_natCast] at hS ⊢)|refine pN_l hS (by first|rfl|assumption) ?_|refine pN_v (hk:=?_)|fail)
    rw[←List.append_assoc]
    rw[←Nat.add_assoc,←List.length_append] at hpl
    generalize pr2++C.put li.length=pr3 at*
    refine⟨fun v v' w=>∃(j:Nat) (so:Sl),j≤li.length∧v= .slice so.a (pr3++L.flat (li.take j)).length so.c∧v'= .int .i64 j∧Sat E w (rows cd_uint8 so (pr3++L.flat (li.take j))::M),fun _ v _=>li.length-(RowKit.intOf v).toNat,
     ⟨0,s4,by omega,by rw[List.take_zero,L.flat_nil,List.append_nil],rfl,by rw[List.take_zero,L.flat_nil,List.append_nil];exact hS.to⟩,?_⟩
    clear hS
    rintro _ _ _ w ⟨j,so,hj,rfl,rfl,hS⟩
    by_cases hlt2:j<li.length
    ·obtain⟨i,hi⟩:∃i,li[j]? =some i:=⟨li[j],by simp[hlt2]⟩
     have hnx:=L.flat_take hi
     have h1:=htk (j+1)
     rw[hnx,List.length_append,i.h] at h1
     have hih:=i.h
     repeat' (first|refine pN_ld_at ha hS (i32n i) ?_|(refine pN_sid hS i (by rfl) ?_;clear hS;intro w hS)|refine pN_asla (by omega) ?_|(refine pN_lss_s ?_ ?_<;>intro hc<;>try (exfalso;omega))|refine pIf_t ?_|(refine pN_nz hS ?_;clear hS;intro a w hS)|refine pN_ixk hS _ (by first|rfl|(exact(Int.toNat_of_nonneg (by omega)).symm)) (by first|rfl|omega|simpa only[go_sem] using True.intro|(simp only[go_sem];omega)) (by assumption) fun a ha hel=>?_|fail)
     haveI:=rd_cel (e:=58) (b:=a) i.h
     refine pN_app (C:=cd_uint8) (l:=pr3++L.flat (li.take j)) (s2:=⟨some ⟨a,0,none⟩,32⟩) (m:=i.l) hS rfl i.h.symm (by rw[List.length_append];omega) ?_
     clear hS
     intro s5 w hS
     rw[List.append_assoc,←hnx] at hS ⊢
     repeat' (first|refine pN_v (hk:=?_)|fail)
     exact⟨⟨j+1,s5,by omega,rfl,rfl,hS.to⟩,by simp[RowKit.intOf]<;>omega⟩
    ·obtain rfl:j=li.length:=by omega
     rw[List.take_length] at hS ⊢
     repeat' (first|(refine pN_lss_s ?_ ?_<;>intro hc<;>try (exfalso;omega))|refine pIf_f ?_|fail)
     exact⟨_,rfl,hS.to⟩
   ·rw[if_neg k0] at htail
    by_cases k2:x.Kind=2
    ·rw[if_pos k2] at htail
     rw[htail] at hpl ⊢
     have htx2:L.text x.Link=C.put x.Link.length++x.Link:=rfl
     have htxl2:(L.text x.Link).length=(C.put x.Link.length).length+x.Link.length:=by rw[htx2,List.length_append]
     repeat' (first|(refine pcq (f:=100) (stext_ok hG x.Name hS (by simp only[List.length_append,List.length_cons,List.length_nil];omega) ?_);clear hS;intro s3 w hS)|(refine pcq (f:=100) (stext_ok hG x.Link hS (by omega) ?_);clear hS;intro s4 w hS)|(refine pN_eql_s ?_ ?_<;>intro hc<;>try (exfalso;first|omega|exact gone hc|exact gon2 hc))|refine pIf_t ?_|refine pIf_f ?_|refine pN_l hS (by first|rfl|assumption) ?_|refine pN_v (hk:=?_)|fail)
     exact⟨_,rfl,hS.to⟩
    ·rw[if_neg k2] at htail
     rw[htail,List.append_nil]
     repeat' (first|(refine pcq (f:=100) (stext_ok hG x.Name hS (by simp only[List.length_append,List.length_cons,List.length_nil];omega) ?_);clear hS;intro s3 w hS)|(refine pN_eql_s ?_ ?_<;>intro hc<;>try (exfalso;first|omega|exact gone hc|exact gon2 hc))|refine pIf_f ?_|refine pN_l hS (by first|rfl|assumption) ?_|refine pN_v (hk:=?_)|fail)
     exact⟨_,rfl,hS.to⟩
  ·clear hS
   rintro _ _ w ⟨so,rfl,hS⟩
   repeat' (first|refine pN_v (hk:=?_)|fail)
   exact⟨⟨k+1,so,by omega,by rw[hput],rfl,by rw[hput];exact hS⟩,by simp[RowKit.intOf]<;>omega⟩
 ·obtain rfl:k=es.length:=by omega
  rw[hes,List.take_length,←hes] at hS ⊢
  repeat' (first|(refine pN_lss_s ?_ ?_<;>intro hc<;>try (exfalso;omega))|refine pIf_f ?_|fail)
  exact hQ _ _ hS
end
end
section
variable [Pan] {x0 x1:Value} {w:World} {Q:QQ}
set_option maxRecDepth 100000
def tar_Put.H:Hints:={ cut:=fun _=>none,loop:=fun _=>([],0),order:=fun|4=>[(0,0),(1,1),(2,3),(3,7),(7,15),(8,143),(4,399),(5,415),(6,447),(9,511),(10,1023)]|_=>[] }
def tar_Put.F (x0:Value) (w:World) (Q:QQ):Prop:=
 pN zp (oBox 49 x0) w fun x1 w1=>
 pN zp (oLoad 49 x1) w1 fun x6 w2=>
 pN zp (oCall 88 [x6]) w2 fun x7 w3=>
 pN zp (oBin .neq 38 (.tmp 8) (.const (.int .i64 0)) x7 (.int .i64 0)) w3 fun x9 w4=>
 pIf x9
 (Q (.tuple #[(.slice none 0 0),x7]) w4)
 (pDr w4 fun w5=>
 pL zp (oLoad 49 x1) w5 fun x11=>
 pA zp (oFld 49 x1 5) fun x12=>
 pL zp (oLoad 47 x12) w5 fun x13=>
 pA zp (oBi .len #[47] 3 [false] [x13]) fun x14=>
 pA zp (oFld 49 x1 5) fun x18=>
 pL zp (oLoad 47 x18) w5 fun x19=>
 pN zp (oBuild 165 [(0,x11),(1,x14)]) w5 fun x15 w6=>
 ((Sem.run zp (oLoad 47 x18) w6= .ok (.value x19) w6)∧True)∧(pN zp (oBox 165 x15) w6 fun x16 w7=>
 ((Sem.run zp (oLoad 47 x18) w7= .ok (.value x19) w7)∧True)∧(pN zp (oCall 89 [x16]) w7 fun x17 w8=>
 ((Sem.run zp (oLoad 47 x18) w8= .ok (.value x19) w8)∧True)∧(pN zp (oBi .append #[47,47] 47 [false,false] [x17,x19]) w8 fun x20 w9=>
 (True)∧(pN zp (oBi .len #[47] 3 [false] [x20]) w9 fun x23 w10=>
 pN zp (oCall 90 [x23]) w10 fun x24 w11=>
 pN zp (oBi .append #[47,3] 47 [false,false] [x20,x24]) w11 fun x25 w12=>
 Q (.tuple #[x25,(.int .i64 0)]) w12)))))
theorem tar_Put.calls (h:tar_Put.F x0 w Q):Calls zp 49 #[x0] w (retP Q):=cl tar_Put.H [x0] Tryz.func49 h
def tar_wrong.H:Hints:={ cut:=fun|6=>some ([17],4398046380032)|9=>some ([42],9223367638808264704)|13=>some ([63],19342803890462029940523008)|14=>some ([],19342813113834066795167748)|_=>none,loop:=fun _=>([],0),order:=fun _=>[] }
def tar_wrong.F (x0:Value) (w:World) (Q:QQ):Prop:=
 pN zp (oBox 49 x0) w fun x1 w1=>
 pN zp (oFld 49 x1 0) w1 fun x8 w2=>
 pN zp (oLoad 9 x8) w2 fun x9 w3=>
 pN zp (oCall 120 [x9]) w3 fun x10 w4=>
 pN zp (oExt x10 0) w4 fun _ w5=>
 pN zp (oExt x10 1) w5 fun _ w6=>
 pN zp (oExt x10 2) w6 fun x13 w7=>
 pN zp (oFld 49 x1 2) w7 fun x14 w8=>
 pN zp (oLoad 3 x14) w8 fun x15 w9=>
 pN zp (oBin .eql 3 (.tmp 15) (.const (.int .i64 2)) x15 (.int .i64 2)) w9 fun x16 w10=>
 ∃I14:World→Prop,
 (∃I6:Value→World→Prop,
 (pN zp (oFld 49 x1 2) w10 fun x18 w11=>
 pN zp (oLoad 3 x18) w11 fun x19 w12=>
 pN zp (oBin .lss 3 (.tmp 19) (.const (.int .i64 0)) x19 (.int .i64 0)) w12 fun x20 w13=>
 pGd (gB x20 false) (pN zp (oFld 49 x1 2) w13) w13 fun x22 w14=>
 pGd (gB x20 false) (pN zp (oLoad 3 x22) w14) w14 fun x23 w15=>
 pGd (gB x20 false) (pN zp (oBin .geq 3 (.tmp 23) (.const (.int .i64 3)) x23 (.int .i64 3)) w15) w15 fun x24 w16=>
 pN zp (oPick x20 (.bool true) x24) w16 fun x25 w17=>
 pIf x25
 (I6 x25 w17)
 (pN zp (oUn .not x16) w17 fun x27 w18=>
 pGd (gB x27 true) (pN zp (oFld 49 x1 1) w18) w18 fun x29 w19=>
 pGd (gB x27 true) (pN zp (oLoad 9 x29) w19) w19 fun x30 w20=>
 pGd (gB x27 true) (pN zp (oBin .neq 9 (.tmp 30) (.const (.string ⟨#[]⟩)) x30 (.string ⟨#[]⟩)) w20) w20 fun x31 w21=>
 pN zp (oPick x27 x31 (.bool false)) w21 fun x32 w22=>
 pIf x32
 (I6 x32 w22)
 (pN zp (oFld 49 x1 2) w22 fun x33 w23=>
 pN zp (oLoad 3 x33) w23 fun x34 w24=>
 pN zp (oBin .neq 3 (.tmp 34) (.const (.int .i64 0)) x34 (.int .i64 0)) w24 fun x35 w25=>
 pGd (gB x35 true) (pN zp (oFld 49 x1 5) w25) w25 fun x37 w26=>
 pGd (gB x35 true) (pN zp (oLoad 47 x37) w26) w26 fun x38 w27=>
 pGd (gB x35 true) (pN zp (oBi .len #[47] 3 [false] [x38]) w27) w27 fun x39 w28=>
 pGd (gB x35 true) (pN zp (oBin .gtr 3 (.tmp 39) (.const (.int .i64 0)) x39 (.int .i64 0)) w28) w28 fun x40 w29=>
 pN zp (oPick x35 x40 (.bool false)) w29 fun x41 w30=>
 I6 x41 w30)))∧
 ∀(_j6:Env) (v17c6:Value) (w31:World),I6 v17c6 w31→
 pIf v17c6
 (Q (.int .i64 6) w31)
 (∃I9:Value→World→Prop,
 (pN zp (oUn .not x13) w31 fun x44 w32=>
 pIf x44
 (I9 x44 w32)
 (pGd (gB x16 true) (pN zp (oFld 49 x1 1) w32) w32 fun x47 w33=>
 pGd (gB x16 true) (pN zp (oLoad 9 x47) w33) w33 fun x48 w34=>
 pGd (gB x16 true) (pN zp (oBin .eql 9 (.tmp 48) (.const (.string ⟨#[]⟩)) x48 (.string ⟨#[]⟩)) w34) w34 fun x49 w35=>
 pGd (gB x16 true) (pN zp (oMv x49) w35) w35 fun x50 w36=>
 pGd (gB x50 false) (pN zp (oFld 49 x1 1) w36) w36 fun x51 w37=>
 pGd (gB x50 false) (pN zp (oLoad 9 x51) w37) w37 fun x52 w38=>
 pGd (gB x50 false) (pN zp (oBi .len #[9] 3 [false] [x52]) w38) w38 fun x53 w39=>
 pGd (gB x50 false) (pN zp (oBin .gtr 3 (.tmp 53) (.const (.int .i64 100)) x53 (.int .i64 100)) w39) w39 fun x54 w40=>
 pGd (gB x16 true) (pN zp (oPick x50 (.bool true) x54) w40) w40 fun x55 w41=>
 pGd (gB x16 true) (pN zp (oMv x55) w41) w41 fun x56 w42=>
 pGd (gB x56 false) (pN zp (oFld 49 x1 1) w42) w42 fun x57 w43=>
 pGd (gB x56 false) (pN zp (oLoad 9 x57) w43) w43 fun x58 w44=>
 pGd (gB x56 false) (pN zp (oCall 121 [x58,(bv 0)]) w44) w44 fun x59 w45=>
 pGd (gB x56 false) (pN zp (oBin .geq 3 (.tmp 59) (.const (.int .i64 0)) x59 (.int .i64 0)) w45) w45 fun x60 w46=>
 pGd (gB x16 true) (pN zp (oPick x56 (.bool true) x60) w46) w46 fun x61 w47=>
 pN zp (oPick x16 x61 (.bool false)) w47 fun x62 w48=>
 I9 x62 w48))∧
 ∀(_j9:Env) (v42c9:Value) (w49:World),I9 v42c9 w49→
 pIf v42c9
 (Q (.int .i64 8) w49)
 (∃I13:Value→World→Prop,
 (pN zp (oFld 49 x1 3) w49 fun x64 w50=>
 pN zp (oLoad 3 x64) w50 fun x65 w51=>
 pN zp (oBin .lss 3 (.tmp 65) (.const (.int .i64 0)) x65 (.int .i64 0)) w51 fun x66 w52=>
 pGd (gB x66 false) (pN zp (oFld 49 x1 3) w52) w52 fun x68 w53=>
 pGd (gB x66 false) (pN zp (oLoad 3 x68) w53) w53 fun x69 w54=>
 pGd (gB x66 false) (pN zp (oBin .geq 3 (.tmp 69) (.const (.int .i64 4096)) x69 (.int .i64 4096)) w54) w54 fun x70 w55=>
 pN zp (oPick x66 (.bool true) x70) w55 fun x71 w56=>
 pIf x71
 (I13 x71 w56)
 (pN zp (oFld 49 x1 4) w56 fun x72 w57=>
 pN zp (oLoad 3 x72) w57 fun x73 w58=>
 pN zp (oBin .lss 3 (.tmp 73) (.const (.int .i64 0)) x73 (.int .i64 0)) w58 fun x74 w59=>
 pGd (gB x74 false) (pN zp (oFld 49 x1 4) w59) w59 fun x76 w60=>
 pGd (gB x74 false) (pN zp (oLoad 3 x76) w60) w60 fun x77 w61=>
 pGd (gB x74 false) (pN zp (oBin .geq 3 (.tmp 77) (.const (.int .i64 8589934592)) x77 (.int .i64 8589934592)) w61) w61 fun x78 w62=>
 pN zp (oPick x74 (.bool true) x78) w62 fun x79 w63=>
 pIf x79
 (I13 x79 w63)
 (pN zp (oFld 49 x1 5) w63 fun x80 w64=>
 pN zp (oLoad 47 x80) w64 fun x81 w65=>
 pN zp (oBi .len #[47] 3 [false] [x81]) w65 fun x82 w66=>
 pN zp (oBin .geq 3 (.tmp 82) (.const (.int .i64 8589934592)) x82 (.int .i64 8589934592)) w66 fun x83 w67=>
 I13 x83 w67)))∧
 ∀(_j13:Env) (v63c13:Value) (w68:World),I13 v63c13 w68→
 pIf v63c13
 (Q (.int .i64 7) w68)
 (I14 w68))))∧
 ∀(_j14:Env) (w69:World),I14 w69→
 Q (.int .i64 0) w69
theorem tar_wrong.calls (h:tar_wrong.F x0 w Q):Calls zp 88 #[x0] w (retP Q):=cl tar_wrong.H [x0] Tryz.func88 h
def tar_header.H:Hints:={ cut:=fun _=>none,loop:=fun|3=>([9],134217248)|_=>([],0),order:=fun|5=>(ot 13)|7=>(ot 5)|_=>[] }
def tar_header.F (x0:Value) (w:World) (Q:QQ):Prop:=
 pN zp (oMk 47 (.int .i64 512) (.int .i64 512)) w fun x6 w1=>
 pN zp (oCall 122 []) w1 fun x7 w2=>
 pN zp (oBi .len #[206] 3 [false] [x7]) w2 fun x8 w3=>
 ∃(L3:Value→World→Prop) (m3:Value→World→Nat),
 L3 (.int .i64 0) w3∧
 ∀(_k3:Env) (v9l3:Value) (w4:World),L3 v9l3 w4→
 pN zp (oBin .lss 3 (.tmp 9) (.tmp 8) v9l3 x8) w4 fun x10 w5=>
 pIf x10
 (pN zp (oIdx 206 x7 v9l3) w5 fun x11 w6=>
 pN zp (oLoad 210 x11) w6 fun x12 w7=>
 pN zp (oAlloc 210) w7 fun x5 w8=>
 pN zp (oStore 210 x5 x12) w8 fun _ w9=>
 pDr w9 fun w10=>
 pA zp (oFld 210 x5 2) fun x13=>
 pL zp (oLoad 208 x13) w10 fun x14=>
 pA zp (oFld 210 x5 0) fun x16=>
 pL zp (oLoad 3 x16) w10 fun x17=>
 pA zp (oFld 210 x5 0) fun x18=>
 pL zp (oLoad 3 x18) w10 fun x19=>
 pA zp (oFld 210 x5 1) fun x20=>
 pL zp (oLoad 3 x20) w10 fun x21=>
 pA zp (oBin .add 3 (.tmp 19) (.tmp 21) x19 x21) fun x22=>
 pA zp (oSl 47 x6 (some x17) (some x22) none) fun x23=>
 pN zp (oCallV x14 [x23,x0]) w10 fun _ w11=>
 (True)∧(pN zp (oBin .add 3 (.tmp 9) (.const (.int .i64 1)) v9l3 (.int .i64 1)) w11 fun x26 w12=>
 (L3 x26 w12∧m3 x26 w12<m3 v9l3 w4)))
 (pDr w5 fun w13=>
 pA zp (oSl 47 x6 (some (.int .i64 148)) none none) fun x28=>
 pN zp (oCall 123 [x6]) w13 fun x30 w14=>
 (True)∧(pN zp (oBi .copy #[47,47] 3 [false,false] [x28,x30]) w14 fun _ w15=>
 (True)∧(Q x6 w15)))
theorem tar_header.calls (h:tar_header.F x0 w Q):Calls zp 89 #[x0] w (retP Q):=cl tar_header.H [x0] Tryz.func89 h
def tar_pad.F (x0:Value) (w:World) (Q:QQ):Prop:=
 pN zp (oBin .rem 3 (.tmp 3) (.const (.int .i64 512)) x0 (.int .i64 512)) w fun x4 w1=>
 pN zp (oBin .sub 3 (.const (.int .i64 512)) (.tmp 4) (.int .i64 512) x4) w1 fun x5 w2=>
 pN zp (oBin .rem 3 (.tmp 5) (.const (.int .i64 512)) x5 (.int .i64 512)) w2 fun x6 w3=>
 Q x6 w3
theorem tar_pad.calls (h:tar_pad.F x0 w Q):Calls zp 90 #[x0] w (retP Q):=cl .z [x0] Tryz.func90 h
def tar_parted.H:Hints:={ cut:=fun _=>none,loop:=fun|6=>([5],281474972516412)|_=>([],0),order:=fun|9=>(ot 19)|_=>[] }
def tar_parted.F (x0:Value) (w:World) (Q:QQ):Prop:=
 pN zp (oBin .eql 9 (.tmp 6) (.const (.string ⟨#[]⟩)) x0 (.string ⟨#[]⟩)) w fun x7 w1=>
 pGd (gB x7 false) (pN zp (oMv x0) w1) w1 fun x9 w2=>
 pGd (gB x7 false) (pN zp (oCall 121 [x9,(bv 0)]) w2) w2 fun x10 w3=>
 pGd (gB x7 false) (pN zp (oBin .geq 3 (.tmp 10) (.const (.int .i64 0)) x10 (.int .i64 0)) w3) w3 fun x11 w4=>
 pN zp (oPick x7 (.bool true) x11) w4 fun x12 w5=>
 pIf x12
 (Q (.tuple #[(.string ⟨#[]⟩),(.string ⟨#[]⟩),(.bool false)]) w5)
 (pN zp (oBi .len #[9] 3 [false] [x0]) w5 fun x14 w6=>
 pN zp (oBin .leq 3 (.tmp 14) (.const (.int .i64 100)) x14 (.int .i64 100)) w6 fun x15 w7=>
 pIf x15
 (Q (.tuple #[(.string ⟨#[]⟩),x0,(.bool true)]) w7)
 (pN zp (oBi .len #[9] 3 [false] [x0]) w7 fun x18 w8=>
 pN zp (oBin .sub 3 (.tmp 18) (.const (.int .i64 1)) x18 (.int .i64 1)) w8 fun x19 w9=>
 pN zp (oBin .sub 3 (.tmp 19) (.const (.int .i64 100)) x19 (.int .i64 100)) w9 fun x20 w10=>
 pN zp (oBi .max #[3,3] 3 [true,false] [(.int .i64 1),x20]) w10 fun x21 w11=>
 ∃(L6:Value→World→Prop) (m6:Value→World→Nat),
 L6 x21 w11∧
 ∀(_k6:Env) (i5l6:Value) (w12:World),L6 i5l6 w12→
 pN zp (oBi .len #[9] 3 [false] [x0]) w12 fun x24 w13=>
 pN zp (oBin .lss 3 (.tmp 22) (.tmp 24) i5l6 x24) w13 fun x25 w14=>
 pIf x25
 (pN zp (oIndex 9 x0 i5l6) w14 fun x30 w15=>
 pN zp (oBin .eql 5 (.tmp 30) (.const (.int .u8 47)) x30 (bv 47)) w15 fun x31 w16=>
 pIf x31
 (pDr w16 fun w17=>
 pA zp (oSl 9 x0 none (some i5l6) none) fun x34=>
 pA zp (oBin .add 3 (.tmp 36) (.const (.int .i64 1)) i5l6 (.int .i64 1)) fun x37=>
 pA zp (oSl 9 x0 (some x37) none none) fun x38=>
 pA zp (oBin .leq 3 (.tmp 39) (.const (.int .i64 155)) i5l6 (.int .i64 155)) fun x40=>
 gA (gB x40 true) (pA zp (oMv i5l6)) fun x42=>
 gA (gB x40 true) (pA zp (oBin .add 3 (.tmp 42) (.const (.int .i64 1)) x42 (.int .i64 1))) fun x43=>
 gA (gB x40 true) (pA zp (oMv x0)) fun x44=>
 gA (gB x40 true) (pA zp (oBi .len #[9] 3 [false] [x44])) fun x45=>
 gA (gB x40 true) (pA zp (oBin .lss 3 (.tmp 43) (.tmp 45) x43 x45)) fun x46=>
 pA zp (oPick x40 x46 (.bool false)) fun x47=>
 Q (.tuple #[x34,x38,x47]) w17)
 (pN zp (oBin .add 3 (.tmp 26) (.const (.int .i64 1)) i5l6 (.int .i64 1)) w16 fun x27 w18=>
 (L6 x27 w18∧m6 x27 w18<m6 i5l6 w12)))
 (Q (.tuple #[(.string ⟨#[]⟩),(.string ⟨#[]⟩),(.bool false)]) w14)))
theorem tar_parted.calls (h:tar_parted.F x0 w Q):Calls zp 120 #[x0] w (retP Q):=cl tar_parted.H [x0] Tryz.func120 h
def tar_fields.F (w:World) (Q:QQ):Prop:=
 pN zp (oBuild 210 [(0,(.int .i64 0)),(1,(.int .i64 100)),(2,(.func (.func 155) #[] #[])),(3,(.func (.func 156) #[] #[]))]) w fun x1 w1=>
 pN zp (oBuild 210 [(0,(.int .i64 100)),(1,(.int .i64 8)),(2,(.func (.func 158) #[] #[])),(3,(.func (.func 160) #[] #[]))]) w1 fun x2 w2=>
 pN zp (oBuild 210 [(0,(.int .i64 108)),(1,(.int .i64 8)),(2,(.func (.func 162) #[] #[])),(3,.nilFunc)]) w2 fun x3 w3=>
 pN zp (oBuild 210 [(0,(.int .i64 116)),(1,(.int .i64 8)),(2,(.func (.func 162) #[] #[])),(3,.nilFunc)]) w3 fun x4 w4=>
 pN zp (oBuild 210 [(0,(.int .i64 124)),(1,(.int .i64 12)),(2,(.func (.func 163) #[] #[])),(3,(.func (.func 164) #[] #[]))]) w4 fun x5 w5=>
 pN zp (oBuild 210 [(0,(.int .i64 136)),(1,(.int .i64 12)),(2,(.func (.func 165) #[] #[])),(3,(.func (.func 166) #[] #[]))]) w5 fun x6 w6=>
 pN zp (oBuild 210 [(0,(.int .i64 156)),(1,(.int .i64 1)),(2,(.func (.func 167) #[] #[])),(3,(.func (.func 168) #[] #[]))]) w6 fun x7 w7=>
 pN zp (oBuild 210 [(0,(.int .i64 157)),(1,(.int .i64 100)),(2,(.func (.func 169) #[] #[])),(3,(.func (.func 170) #[] #[]))]) w7 fun x8 w8=>
 pN zp (oBuild 210 [(0,(.int .i64 257)),(1,(.int .i64 8)),(2,(.func (.func 171) #[] #[])),(3,.nilFunc)]) w8 fun x9 w9=>
 pN zp (oBuild 210 [(0,(.int .i64 329)),(1,(.int .i64 8)),(2,(.func (.func 162) #[] #[])),(3,.nilFunc)]) w9 fun x10 w10=>
 pN zp (oBuild 210 [(0,(.int .i64 337)),(1,(.int .i64 8)),(2,(.func (.func 162) #[] #[])),(3,.nilFunc)]) w10 fun x11 w11=>
 pN zp (oBuild 210 [(0,(.int .i64 345)),(1,(.int .i64 155)),(2,(.func (.func 172) #[] #[])),(3,(.func (.func 173) #[] #[]))]) w11 fun x12 w12=>
 pN zp (oBs 206 12 [(0,x1),(1,x2),(2,x3),(3,x4),(4,x5),(5,x6),(6,x7),(7,x8),(8,x9),(9,x10),(10,x11),(11,x12)]) w12 fun x13 w13=>
 Q x13 w13
theorem tar_fields.calls (h:tar_fields.F w Q):Calls zp 122 #[] w (retP Q):=cl .z [] Tryz.func122 h
def tar_sum.H:Hints:={ cut:=fun|7=>some ([5],2064416)|8=>some ([3],33550392)|_=>none,loop:=fun|3=>([3,10],67107896)|_=>([],0),order:=fun _=>[] }
def tar_sum.F (x0:Value) (w:World) (Q:QQ):Prop:=
 pN zp (oSl 47 x0 none (some (.int .i64 512)) none) w fun x8 w1=>
 pN zp (oBi .len #[47] 3 [false] [x8]) w1 fun x9 w2=>
 ∃(L3:Value→Value→World→Prop) (m3:Value→Value→World→Nat),
 L3 (.int .i64 0) (.int .i64 0) w2∧
 ∀(_k3:Env) (n3l3:Value) (v10l3:Value) (w3:World),L3 n3l3 v10l3 w3→
 pN zp (oBin .lss 3 (.tmp 10) (.tmp 9) v10l3 x9) w3 fun x11 w4=>
 pIf x11
 (∃I8:Value→World→Prop,
 (pN zp (oIdx 47 x8 v10l3) w4 fun x13 w5=>
 pN zp (oLoad 5 x13) w5 fun x14 w6=>
 ∃I7:Value→World→Prop,
 (pN zp (oBin .geq 3 (.tmp 15) (.const (.int .i64 148)) v10l3 (.int .i64 148)) w6 fun x16 w7=>
 pGd (gB x16 true) (pN zp (oMv v10l3) w7) w7 fun x18 w8=>
 pGd (gB x16 true) (pN zp (oBin .lss 3 (.tmp 18) (.const (.int .i64 156)) x18 (.int .i64 156)) w8) w8 fun x19 w9=>
 pN zp (oPick x16 x19 (.bool false)) w9 fun x20 w10=>
 pIf x20
 (I7 (bv 32) w10)
 (I7 x14 w10))∧
 ∀(_j7:Env) (c5c7:Value) (w11:World),I7 c5c7 w11→
 pN zp (oConv 5 3 c5c7) w11 fun x23 w12=>
 pN zp (oBin .add 3 (.tmp 21) (.tmp 23) n3l3 x23) w12 fun x24 w13=>
 I8 x24 w13)∧
 ∀(_j8:Env) (n3c8:Value) (w14:World),I8 n3c8 w14→
 pN zp (oBin .add 3 (.tmp 10) (.const (.int .i64 1)) v10l3 (.int .i64 1)) w14 fun x25 w15=>
 (L3 n3c8 x25 w15∧m3 n3c8 x25 w15<m3 n3l3 v10l3 w3))
 (pN zp (oMk 47 (.int .i64 8) (.int .i64 8)) w4 fun x26 w16=>
 pN zp (oSl 47 x26 none (some (.int .i64 7)) none) w16 fun x28 w17=>
 pN zp (oCall 159 [x28,n3l3]) w17 fun _ w18=>
 pN zp (oIdx 47 x26 (.int .i64 7)) w18 fun x32 w19=>
 pN zp (oStore 5 x32 (bv 32)) w19 fun _ w20=>
 Q x26 w20)
theorem tar_sum.calls (h:tar_sum.F x0 w Q):Calls zp 123 #[x0] w (retP Q):=cl tar_sum.H [x0] Tryz.func123 h
def tar_fields_c1.F (x0 x1:Value) (w:World) (Q:QQ):Prop:=
 pN zp (oNil x1) w fun x9 w1=>
 pN zp (oFld 165 x9 0) w1 fun x10 w2=>
 pN zp (oFld 49 x10 0) w2 fun x11 w3=>
 pN zp (oLoad 9 x11) w3 fun x12 w4=>
 pN zp (oCall 120 [x12]) w4 fun x13 w5=>
 pN zp (oExt x13 0) w5 fun _ w6=>
 pN zp (oExt x13 1) w6 fun x15 w7=>
 pN zp (oExt x13 2) w7 fun _ w8=>
 pN zp (oBi .copy #[47,9] 3 [false,false] [x0,x15]) w8 fun _ w9=>
 Q (.tuple #[]) w9
theorem tar_fields_c1.calls (h:tar_fields_c1.F x0 x1 w Q):Calls zp 155 #[x0,x1] w (retP Q):=cl .z [x0,x1] Tryz.func155 h
def tar_fields_c3.F (x0 x1:Value) (w:World) (Q:QQ):Prop:=
 pN zp (oNil x1) w fun x6 w1=>
 pN zp (oFld 165 x6 0) w1 fun x7 w2=>
 pN zp (oFld 49 x7 3) w2 fun x8 w3=>
 pN zp (oLoad 3 x8) w3 fun x9 w4=>
 pN zp (oCall 159 [x0,x9]) w4 fun _ w5=>
 Q (.tuple #[]) w5
theorem tar_fields_c3.calls (h:tar_fields_c3.F x0 x1 w Q):Calls zp 158 #[x0,x1] w (retP Q):=cl .z [x0,x1] Tryz.func158 h
def tar_octal.H:Hints:={ cut:=fun _=>none,loop:=fun|1=>([1,4],2096914)|_=>([],0),order:=fun _=>[] }
def tar_octal.F (x0 x1:Value) (w:World) (Q:QQ):Prop:=
 pN zp (oBi .len #[47] 3 [false] [x0]) w fun x6 w1=>
 pN zp (oBin .sub 3 (.tmp 6) (.const (.int .i64 2)) x6 (.int .i64 2)) w1 fun x7 w2=>
 ∃(L1:Value→Value→World→Prop) (m1:Value→Value→World→Nat),
 L1 x1 x7 w2∧
 ∀(_k1:Env) (v1l1:Value) (i4l1:Value) (w3:World),L1 v1l1 i4l1 w3→
 pN zp (oBin .geq 3 (.tmp 8) (.const (.int .i64 0)) i4l1 (.int .i64 0)) w3 fun x9 w4=>
 pIf x9
 (pN zp (oBin .and 3 (.tmp 14) (.const (.int .i64 7)) v1l1 (.int .i64 7)) w4 fun x15 w5=>
 pN zp (oConv 3 5 x15) w5 fun x16 w6=>
 pN zp (oBin .add 5 (.const (.int .u8 48)) (.tmp 16) (bv 48) x16) w6 fun x17 w7=>
 pN zp (oIdx 47 x0 i4l1) w7 fun x18 w8=>
 pN zp (oStore 5 x18 x17) w8 fun _ w9=>
 pN zp (oBin .shr 3 (.tmp 19) (.const (.int .u64 3)) v1l1 (.int .u64 3)) w9 fun x20 w10=>
 pN zp (oBin .sub 3 (.tmp 10) (.const (.int .i64 1)) i4l1 (.int .i64 1)) w10 fun x11 w11=>
 (L1 x20 x11 w11∧m1 x20 x11 w11<m1 v1l1 i4l1 w3))
 (Q (.tuple #[]) w4)
theorem tar_octal.calls (h:tar_octal.F x0 x1 w Q):Calls zp 159 #[x0,x1] w (retP Q):=cl tar_octal.H [x0,x1] Tryz.func159 h
def tar_none.F (x0 x1:Value) (w:World) (Q:QQ):Prop:=
 pN zp (oCall 159 [x0,(.int .i64 0)]) w fun _ w1=>
 Q (.tuple #[]) w1
theorem tar_none.calls (h:tar_none.F x0 x1 w Q):Calls zp 162 #[x0,x1] w (retP Q):=cl .z [x0,x1] Tryz.func162 h
def tar_fields_c5.F (x0 x1:Value) (w:World) (Q:QQ):Prop:=
 pN zp (oNil x1) w fun x6 w1=>
 pN zp (oFld 165 x6 1) w1 fun x7 w2=>
 pN zp (oLoad 3 x7) w2 fun x8 w3=>
 pN zp (oCall 159 [x0,x8]) w3 fun _ w4=>
 Q (.tuple #[]) w4
theorem tar_fields_c5.calls (h:tar_fields_c5.F x0 x1 w Q):Calls zp 163 #[x0,x1] w (retP Q):=cl .z [x0,x1] Tryz.func163 h
def tar_fields_c7.F (x0 x1:Value) (w:World) (Q:QQ):Prop:=
 pN zp (oNil x1) w fun x6 w1=>
 pN zp (oFld 165 x6 0) w1 fun x7 w2=>
 pN zp (oFld 49 x7 4) w2 fun x8 w3=>
 pN zp (oLoad 3 x8) w3 fun x9 w4=>
 pN zp (oCall 159 [x0,x9]) w4 fun _ w5=>
 Q (.tuple #[]) w5
theorem tar_fields_c7.calls (h:tar_fields_c7.F x0 x1 w Q):Calls zp 165 #[x0,x1] w (retP Q):=cl .z [x0,x1] Tryz.func165 h
def tar_fields_c9.F (x0 x1:Value) (w:World) (Q:QQ):Prop:=
 pN zp (oNil x1) w fun x6 w1=>
 pN zp (oFld 165 x6 0) w1 fun x7 w2=>
 pN zp (oFld 49 x7 2) w2 fun x8 w3=>
 pN zp (oLoad 3 x8) w3 fun x9 w4=>
 pN zp (oIndex 9 (.string ⟨#[48,53,50]⟩) x9) w4 fun x10 w5=>
 pN zp (oIdx 47 x0 (.int .i64 0)) w5 fun x11 w6=>
 pN zp (oStore 5 x11 x10) w6 fun _ w7=>
 Q (.tuple #[]) w7
theorem tar_fields_c9.calls (h:tar_fields_c9.F x0 x1 w Q):Calls zp 167 #[x0,x1] w (retP Q):=cl .z [x0,x1] Tryz.func167 h
def tar_fields_c11.F (x0 x1:Value) (w:World) (Q:QQ):Prop:=
 pN zp (oNil x1) w fun x6 w1=>
 pN zp (oFld 165 x6 0) w1 fun x7 w2=>
 pN zp (oFld 49 x7 1) w2 fun x8 w3=>
 pN zp (oLoad 9 x8) w3 fun x9 w4=>
 pN zp (oBi .copy #[47,9] 3 [false,false] [x0,x9]) w4 fun _ w5=>
 Q (.tuple #[]) w5
theorem tar_fields_c11.calls (h:tar_fields_c11.F x0 x1 w Q):Calls zp 169 #[x0,x1] w (retP Q):=cl .z [x0,x1] Tryz.func169 h
def tar_fields_c13.F (x0 x1:Value) (w:World) (Q:QQ):Prop:=
 pN zp (oBi .copy #[47,9] 3 [false,true] [x0,(.string ⟨#[117,115,116,97,114,0,48,48]⟩)]) w fun _ w1=>
 Q (.tuple #[]) w1
theorem tar_fields_c13.calls (h:tar_fields_c13.F x0 x1 w Q):Calls zp 171 #[x0,x1] w (retP Q):=cl .z [x0,x1] Tryz.func171 h
def tar_fields_c14.F (x0 x1:Value) (w:World) (Q:QQ):Prop:=
 pN zp (oNil x1) w fun x9 w1=>
 pN zp (oFld 165 x9 0) w1 fun x10 w2=>
 pN zp (oFld 49 x10 0) w2 fun x11 w3=>
 pN zp (oLoad 9 x11) w3 fun x12 w4=>
 pN zp (oCall 120 [x12]) w4 fun x13 w5=>
 pN zp (oExt x13 0) w5 fun x14 w6=>
 pN zp (oExt x13 1) w6 fun _ w7=>
 pN zp (oExt x13 2) w7 fun _ w8=>
 pN zp (oBi .copy #[47,9] 3 [false,false] [x0,x14]) w8 fun _ w9=>
 Q (.tuple #[]) w9
theorem tar_fields_c14.calls (h:tar_fields_c14.F x0 x1 w Q):Calls zp 172 #[x0,x1] w (retP Q):=cl .z [x0,x1] Tryz.func172 h
end
section
attribute [local irreducible] oMv oV oU oCall oCallV oBi oBin oUn oLoad oStore oNil oFld oField oIdx oIndex oPick oAlloc oBox oBuild oBs oConv oMk oSl oExt oFn oIface oMap oLook oMapUp oRange oNext oEntry oInv oAssert oPanic oRes pN pA pL pDr pIf gA pGd Calls
section
namespace A
theorem oct_at (v:Int) (j:Nat):oct v (j+1)=(48+byteOf (v / 8^j%8))::oct v j:=rfl
end A
theorem putL_set {α:Type} (l us:List α) (k:Nat) (d:α) (h:k+1+us.length≤l.length):(putL l (k+1) us).set k d=putL l k (d::us):=by
 simp only[putL,List.length_cons]
 rw[List.append_assoc,List.set_append_left _ _ (by simp;omega),List.set_eq_take_append_cons_drop,if_pos (by simp;omega),List.take_take,List.drop_take,Nat.sub_self,List.take_zero,Nat.min_eq_left (by omega)]
 simp[Nat.add_assoc,Nat.add_comm 1]
section
variable [Pan] {E w:World} {K Q:Value→World→Prop} {L M:List HA} {l r:List UInt8} {s s2:Sl}
set_option maxHeartbeats 1000000 in
theorem octal_ok (hS:Sat E w (rows cd_uint8 s l::M)) (o n:Nat) (h0:0<n) (ho:o+n≤l.length) (hl:l.length≤140737488355328) (v:Int)
  (hQ:∀w,Sat E w (rows cd_uint8 s (putL l o (A.oct v (n-1)))::M)→Q (.tuple #[]) w):
  Calls zp 159 #[.slice (s.sub o cd_uint8.size).a n (s.sub o cd_uint8.size).c,.int .i64 v] w (retP Q):=by
 refine tar_octal.calls ?_
 unfold tar_octal.F
 obtain⟨g,hg,hc⟩:=rows_at (C:=cd_uint8) (s:=s) hS (by omega)
 repeat' (first|refine pN_v (hk:=?_)|fail)
 refine⟨fun a i w=>∃j:Nat,j≤n-1∧a= .int .i64 (v / 8^j)∧i= .int .i64 ((n:Int)-2-j)∧Sat E w (rows cd_uint8 s (putL l (o+(n-1-j)) (A.oct v j))::M),fun _ i _=>(RowKit.intOf i+1).toNat,
  ⟨0,Nat.zero_le _,by rw[Int.pow_zero,Int.ediv_one],by simp,by simpa [putL,A.oct] using hS⟩,?_⟩
 clear hS
 rintro _ _ _ w ⟨j,hj,rfl,rfl,hS⟩
 have hlen:(putL l (o+(n-1-j)) (A.oct v j)).length=l.length:=putL_len _ _ _ (by rw[A.oct_len];omega)
 by_cases hlt:j<n-1
 ·obtain⟨i,hi⟩:∃i:Nat,(n:Int)-2-j=i:=⟨n-2-j,by omega⟩
  rw[hi]
  have hin:i=n-2-j:=by omega
  subst hin
  haveI hr0:Rds cd_uint8 (rows cd_uint8 s (putL l (o+(n-1-j)) (A.oct v j))::M) s (putL l (o+(n-1-j)) (A.oct v j)):=inferInstance
  haveI hr1:=Rds.sub (C:=cd_uint8) (h:=hr0) o (o+n) (by omega) (by omega)
  have hl1:(((putL l (o+(n-1-j)) (A.oct v j)).drop o).take (o+n-o)).length=n:=by rw[List.length_take,List.length_drop];omega
  have e8:v / 8^j / 8=v / 8^(j+1):=by rw[Int.pow_succ,Int.ediv_ediv_of_nonneg (Int.pow_nonneg (by omega))]
  have ek:o+(n-1-j)=(o+(n-2-j))+1:=by omega
  repeat' (first|(refine pN_geq_s ?_ ?_<;>intro hc<;>try (exfalso;omega))|refine pIf_t ?_|refine pN_tob ?_|refine pN_ix hS _ (by first|rfl|(exact(Int.toNat_of_nonneg (by omega)).symm)) (by first|rfl|omega|simpa only[go_sem] using True.intro|(simp only[go_sem];omega)) (by first|omega|(simp only[go_sem];omega)) fun a x hx ha hel=>?_|refine pN_v (hk:=?_)|fail)
  refine pN_sr (hel.sub (by omega)) hS rfl rfl (by omega) ?_
  clear hS
  intro w hS
  rw[ek,putL_set _ _ _ _ (by rw[A.oct_len];omega),←A.oct_at] at hS
  repeat' (first|refine pN_v (hk:=?_)|fail)
  rw[e8]
  exact⟨⟨j+1,by omega,rfl,congrArg (Value.int .i64) (by omega),by rw[show o+(n-1-(j+1))=o+(n-2-j) from by omega];exact hS⟩,by simp[RowKit.intOf]<;>omega⟩
 ·repeat' (first|(refine pN_geq_s ?_ ?_<;>intro hc<;>try (exfalso;omega))|refine pIf_f ?_|fail)
  obtain rfl:j=n-1:=by omega
  rw[Nat.sub_self,Nat.add_zero] at hS
  exact hQ _ hS
theorem none_ok (h:Value) (hS:Sat E w (rows cd_uint8 s l::M)) (o n:Nat) (h0:0<n) (ho:o+n≤l.length) (hl:l.length≤140737488355328)
  (hQ:∀w,Sat E w (rows cd_uint8 s (putL l o (A.oct 0 (n-1)))::M)→Q (.tuple #[]) w):
  Calls zp 162 #[.slice (s.sub o cd_uint8.size).a n (s.sub o cd_uint8.size).c,h] w (retP Q):=by
 refine tar_none.calls ?_
 unfold tar_none.F
 exact pcq (f:=159) (octal_ok hS o n h0 ho hl 0 hQ)
theorem pad_ok (n:Nat) (hn:n≤281474976710656) (hQ:Q (.int .i64 ((512-n%512)%512:Nat)) w):Calls zp 90 #[.int .i64 n] w (retP Q):=by
 refine tar_pad.calls ?_
 unfold tar_pad.F
 repeat' (first|refine pN_v (hk:=?_)|fail)
 have e:((512-n%512)%512:Nat)=(512-(n:Int)%512)%512:=by omega
 rw[e] at hQ
 exact hQ
set_option maxHeartbeats 1000000 in
theorem sum_ok (hS:Sat E w L) [hr:Rds cd_uint8 L s l] (hl:512≤l.length) (hl2:l.length≤140737488355328) (hQ:∀s' w,Sat E w (rows cd_uint8 s' (A.sumField l)::L)→Q (.slice s'.a 8 s'.c) w):
  Calls zp 123 #[.slice s.a l.length s.c] w (retP Q):=by
 refine tar_sum.calls ?_
 unfold tar_sum.F
 have htl:(l.take 512).length=512:=by rw[List.length_take];omega
 generalize hm:l.take 512=m at*
 repeat' (first|(refine pN_slhw hS 512 rfl rfl (by omega) ?_;intro hp)|refine pN_v (hk:=?_)|fail)
 rw[hm] at hp
 have hS0:=hS
 refine⟨fun a i w'=>∃j:Nat,j≤512∧a= .int .i64 (A.sumTo l j:Nat)∧i= .int .i64 j∧Sat E w' L,fun _ i _=>512-(RowKit.intOf i).toNat,⟨0,Nat.zero_le _,rfl,rfl,hS⟩,?_⟩
 clear hS hS0
 rintro _ _ _ w ⟨j,hj,rfl,rfl,hS⟩
 by_cases hlt:j<512
 ·obtain⟨x,hx⟩:∃x,m[j]? =some x:=⟨m[j]'(by omega),by simp⟩
  have hsb:=A.sumTo_bd l j
  have hxl:l[j]? =some x:=by
   rw[←hm,List.getElem?_take,if_pos hlt] at hx
   exact hx
  have hxd:l.getD j 0=x:=by rw[List.getD_eq_getElem?_getD,hxl];rfl
  have hx256:=x.toNat_lt
  repeat' (first|(refine pN_lss_s ?_ ?_<;>intro hc<;>try (exfalso;omega))|refine pIf_t ?_|fail)
  refine⟨fun v w'=>v= .int .i64 (A.sumTo l (j+1):Nat)∧Sat E w' L,?_,?_⟩
  rotate_left 1
  ·clear hS
   rintro _ _ w ⟨rfl,hS⟩
   repeat' (first|refine pN_v (hk:=?_)|fail)
   exact⟨⟨j+1,by omega,rfl,rfl,hS⟩,by simp[RowKit.intOf]<;>omega⟩
  repeat' (first|refine pN_ld1 ha hS ?_|refine pN_ixk hS _ (by first|rfl|(exact(Int.toNat_of_nonneg (by omega)).symm)) (by first|rfl|omega|simpa only[go_sem] using True.intro|(simp only[go_sem];omega)) (by assumption) fun a ha hel=>?_|fail)
  refine⟨fun v w'=>v=bv (if 148≤j∧j<156 then 32 else x)∧Sat E w' L,?_,?_⟩
  ·by_cases h1:148≤j
   ·by_cases h2:j<156
    ·rw[if_pos ⟨h1,h2⟩]
     repeat' (first|((first|refine pN_lss_s ?_ ?_|refine pN_geq_s ?_ ?_)<;>intro hc<;>try (exfalso;omega))|refine pIf_t ?_|refine pGd_go (by rfl) ?_|refine pN_v (hk:=?_)|fail)
     exact⟨rfl,hS⟩
    ·rw[if_neg (by omega)]
     repeat' (first|((first|refine pN_lss_s ?_ ?_|refine pN_geq_s ?_ ?_)<;>intro hc<;>try (exfalso;omega))|refine pIf_f ?_|refine pGd_go (by rfl) ?_|refine pN_v (hk:=?_)|fail)
     exact⟨rfl,hS⟩
   ·rw[if_neg (by omega)]
    repeat' (first|(refine pN_geq_s ?_ ?_<;>intro hc<;>try (exfalso;omega))|refine pIf_f ?_|refine pGd_no (by rfl) ?_|refine pN_v (hk:=?_)|fail)
    exact⟨rfl,hS⟩
  clear hS
  rintro _ _ w ⟨rfl,hS⟩
  have e:A.sumTo l (j+1)=A.sumTo l j+(if 148≤j∧j<156 then 32 else x).toNat:=by
   rw[A.sumTo,hxd]
   split<;>rfl
  have hy:=(if 148≤j∧j<156 then 32 else x:UInt8).toNat_lt
  rw[e]
  generalize (if 148≤j∧j<156 then 32 else x:UInt8)=y at*
  repeat' (first|refine pN_ofb ?_|refine pN_v (hk:=?_)|fail)
  exact⟨congrArg (Value.int .i64) (by omega),hS⟩
 ·obtain rfl:j=512:=by omega
  repeat' (first|(refine pN_lss_s ?_ ?_<;>intro hc<;>try (exfalso;omega))|refine pIf_f ?_|(refine pN_mk hS _ (by first|rfl|(exact(Int.toNat_of_nonneg (by omega)).symm)) (by first|omega|(simp only[go_sem];omega)) ?_;clear hS;intro s w hS)|fail)
  have hS:Sat E w (rows cd_uint8 s (List.replicate 8 0)::L):=hS
  refine pN_slhw hS 7 rfl rfl (by decide) ?_
  intro _
  refine pcq (f:=159) (octal_ok hS 0 7 (by omega) (by simp) (by simp) _ ?_)
  clear hS
  intro w hS
  have hu:=A.oct_len (A.sumTo l 512) 6
  have e:putL (List.replicate 8 (0:UInt8)) 0 (A.oct (A.sumTo l 512) (7-1))=A.oct (A.sumTo l 512) 6++[0,0]:=by
   rw[show(7-1:Nat)=6 from rfl,putL,hu]
   rfl
  rw[e] at hS
  have hl8:(A.oct (A.sumTo l 512) 6++[0,0]).length=8:=by rw[List.length_append,hu];rfl
  have e2:(A.oct (A.sumTo l 512) 6++[0,0]).set 7 32=A.sumField l:=by
   rw[List.set_append_right _ _ (by omega),hu]
   rfl
  repeat' (first|refine pN_ix hS _ (by first|rfl|(exact(Int.toNat_of_nonneg (by omega)).symm)) (by first|rfl|omega|simpa only[go_sem] using True.intro|(simp only[go_sem];omega)) (by first|omega|(simp only[go_sem];omega)) fun a x hx ha hel=>?_|(refine pN_sr hel hS (by rfl) (by rfl) (by first|omega|(simp only[go_sem];omega)) ?_;clear hS;intro w hS)|fail)
  have hl9:(A.sumField l).length=8:=by rw[←e2,List.length_set,hl8]
  rw[e2] at hS
  exact hQ _ _ hS
theorem parted_ok (hl:l.length≤140737488355328) (hQ:∀w,Sat E w L→Q (.tuple #[.string ⟨(A.parted l).1.toArray⟩,.string ⟨(A.parted l).2.1.toArray⟩,.bool (A.parted l).2.2]) w) (hS:Sat E w L):
  Calls zp 120 #[.string ⟨l.toArray⟩] w (retP Q):=by
 refine tar_parted.calls ?_
 unfold tar_parted.F
 have e0:(.string ⟨#[]⟩:Value)= .string ⟨List.toArray []⟩:=rfl
 rw[e0]
 by_cases h1:l=[]∨0∈l
 ·have hp:A.parted l=([],[],false):=by rw[A.parted,if_pos h1]
  rw[hp] at hQ
  have h2:¬l=[]→0≤A.ixb l 0:=fun hn=>A.ixb_mem.2 (h1.resolve_left hn)
  repeat' (first|(refine pcq (f:=121) (sIndexByte_ok 0 ?_);have h3:=h2 (by assumption))|(refine pN_geq_s ?_ ?_<;>intro hc<;>try (exfalso;omega))|(refine pN_eql_ss ?_ ?_<;>intro hc<;>try (exfalso;first|omega|exact gone hc|exact gon2 hc))|refine pIf_t ?_|refine pGd_go (by rfl) ?_|refine pGd_no (by rfl) ?_|refine pN_v (hk:=?_)|fail)
  all_goals exact hQ _ hS
 have h2:¬l=[]:=fun e=>h1 (.inl e)
 have h3:¬0≤A.ixb l 0:=fun e=>h1 (.inr (A.ixb_mem.1 e))
 by_cases h4:l.length≤100
 ·have hp:A.parted l=([],l,true):=by rw[A.parted,if_neg h1,if_pos h4]
  rw[hp] at hQ
  repeat' (first|(refine pcq (f:=121) (sIndexByte_ok 0 ?_))|refine pN_slen ?_|((first|refine pN_leq_s ?_ ?_|refine pN_geq_s ?_ ?_)<;>intro hc<;>try (exfalso;omega))|(refine pN_eql_ss ?_ ?_<;>intro hc<;>try (exfalso;first|omega|exact gone hc|exact gon2 hc))|refine pIf_t ?_|refine pIf_f ?_|refine pGd_go (by rfl) ?_|refine pN_v (hk:=?_)|fail)
  all_goals exact hQ _ hS
 have hpn:A.slash l (max 1 (l.length-101))=none→A.parted l=([],[],false):=fun e=>by rw[A.parted,if_neg h1,if_neg h4,e]
 have hps:∀i,A.slash l (max 1 (l.length-101))=some i→A.parted l=(l.take i,l.drop (i+1),decide (i≤155∧i+1<l.length)):=fun i e=>by rw[A.parted,if_neg h1,if_neg h4,e]
 generalize hm0:max 1 (l.length-101)=m0 at*
 have hm1:(max 1 ((l.length:Int)-1-100))=(m0:Int):=by omega
 repeat' (first|(refine pcq (f:=121) (sIndexByte_ok 0 ?_))|refine pN_slen ?_|((first|refine pN_leq_s ?_ ?_|refine pN_geq_s ?_ ?_)<;>intro hc<;>try (exfalso;omega))|(refine pN_eql_ss ?_ ?_<;>intro hc<;>try (exfalso;first|omega|exact gone hc|exact gon2 hc))|refine pIf_f ?_|refine pGd_go (by rfl) ?_|refine pN_v (hk:=?_)|fail)
 rw[hm1]
 refine⟨fun v w'=>∃i:Nat,v= .int .i64 i∧m0≤i∧A.slash l m0=A.slash l i∧Sat E w' L,fun v _=>l.length-(RowKit.intOf v).toNat,⟨m0,rfl,Nat.le_refl _,rfl,hS⟩,?_⟩
 clear hS
 rintro _ _ w ⟨i,rfl,hi,hsl,hS⟩
 by_cases hlt:i<l.length
 ·obtain⟨x,hx⟩:∃x,l[i]? =some x:=⟨l[i]'hlt,by simp⟩
  by_cases h47:x=47
  ·subst h47
   rw[A.slash_hit hx] at hsl
   rw[hps _ hsl] at hQ
   by_cases h5:i≤155
   ·by_cases h6:i+1<l.length
    ·rw[decide_eq_true ⟨h5,h6⟩] at hQ
     repeat' (first|refine pN_slen ?_|refine pA_slen ?_|refine pN_sidx _ (by first|rfl|(exact(Int.toNat_of_nonneg (by omega)).symm)) (by first|assumption|rfl) ?_|refine pA_ssl1 _ (by first|rfl|(exact(Int.toNat_of_nonneg (by omega)).symm)) (by first|omega|(simp only[go_sem];omega)) ?_|refine pA_sslh _ (by first|rfl|(exact(Int.toNat_of_nonneg (by omega)).symm)) (by first|omega|(simp only[go_sem];omega)) ?_|((first|refine pN_lss_s ?_ ?_|refine pA_lss_s ?_ ?_|refine pA_leq_s ?_ ?_)<;>intro hc<;>try (exfalso;omega))|(refine pN_eql_s ?_ ?_<;>intro hc<;>try (exfalso;first|omega|exact gone hc|exact gon2 hc))|refine pIf_t ?_|refine gA_go (by rfl) ?_|(refine pDr_go hS ?_;clear hS;intro w hS)|refine pA_v (hk:=?_)|fail)
     exact hQ _ hS
    ·rw[decide_eq_false (fun h=>h6 h.2)] at hQ
     repeat' (first|refine pN_slen ?_|refine pA_slen ?_|refine pN_sidx _ (by first|rfl|(exact(Int.toNat_of_nonneg (by omega)).symm)) (by first|assumption|rfl) ?_|refine pA_ssl1 _ (by first|rfl|(exact(Int.toNat_of_nonneg (by omega)).symm)) (by first|omega|(simp only[go_sem];omega)) ?_|refine pA_sslh _ (by first|rfl|(exact(Int.toNat_of_nonneg (by omega)).symm)) (by first|omega|(simp only[go_sem];omega)) ?_|((first|refine pN_lss_s ?_ ?_|refine pA_lss_s ?_ ?_|refine pA_leq_s ?_ ?_)<;>intro hc<;>try (exfalso;omega))|(refine pN_eql_s ?_ ?_<;>intro hc<;>try (exfalso;first|omega|exact gone hc|exact gon2 hc))|refine pIf_t ?_|refine gA_go (by rfl) ?_|(refine pDr_go hS ?_;clear hS;intro w hS)|refine pA_v (hk:=?_)|fail)
     exact hQ _ hS
   ·rw[decide_eq_false (fun h=>h5 h.1)] at hQ
    repeat' (first|refine pN_slen ?_|refine pN_sidx _ (by first|rfl|(exact(Int.toNat_of_nonneg (by omega)).symm)) (by first|assumption|rfl) ?_|refine pA_ssl1 _ (by first|rfl|(exact(Int.toNat_of_nonneg (by omega)).symm)) (by first|omega|(simp only[go_sem];omega)) ?_|refine pA_sslh _ (by first|rfl|(exact(Int.toNat_of_nonneg (by omega)).symm)) (by first|omega|(simp only[go_sem];omega)) ?_|((first|refine pN_lss_s ?_ ?_|refine pA_leq_s ?_ ?_)<;>intro hc<;>try (exfalso;omega))|(refine pN_eql_s ?_ ?_<;>intro hc<;>try (exfalso;first|omega|exact gone hc|exact gon2 hc))|refine pIf_t ?_|refine gA_no (by rfl) ?_|(refine pDr_go hS ?_;clear hS;intro w hS)|refine pA_v (hk:=?_)|fail)
    exact hQ _ hS
  ·have h48:¬(x.toNat:Int)=((47:UInt8).toNat:Int):=fun e=>h47 (UInt8.toNat_inj.1 (by omega))
   rw[A.slash_miss hx h47] at hsl
   repeat' (first|refine pN_slen ?_|refine pN_sidx _ (by first|rfl|(exact(Int.toNat_of_nonneg (by omega)).symm)) (by first|assumption|rfl) ?_|(refine pN_lss_s ?_ ?_<;>intro hc<;>try (exfalso;omega))|(refine pN_eql_s ?_ ?_<;>intro hc<;>try (exfalso;first|omega|exact gone hc|exact gon2 hc))|refine pIf_t ?_|refine pIf_f ?_|refine pN_v (hk:=?_)|fail)
   exact⟨⟨i+1,rfl,by omega,hsl,hS⟩,by simp[RowKit.intOf]<;>omega⟩
 ·rw[A.slash_out (l:=l) (i:=i) (by omega)] at hsl
  rw[hpn hsl] at hQ
  repeat' (first|refine pN_slen ?_|(refine pN_lss_s ?_ ?_<;>intro hc<;>try (exfalso;omega))|refine pIf_f ?_|fail)
  exact hQ _ hS
end
end
section
section
variable [Pan] {E w:World} {K Q:Value→World→Prop} {L M:List HA} {l r:List UInt8} {s s2:Sl}
set_option maxHeartbeats 2000000 in
theorem wrong_ok (x:T_api_Item) (hn:x.Name.length≤140737488355328) (hk:x.Link.length≤140737488355328) (hS:Sat E w L) (hQ:∀w,Sat E w L→Q (.int .i64 (A.wrong x)) w):
  Calls zp 88 #[.agg x.enc.toArray] w (retP Q):=by
 refine tar_wrong.calls ?_
 unfold tar_wrong.F
 obtain⟨name,link,kind,mode,time,data⟩:=x
 obtain⟨w6,w8,w7,w0⟩:(kind<0∨3≤kind∨(kind≠2∧link.length≠0)∨(kind≠0∧0<data.2.length)→A.wrong ⟨name,link,kind,mode,time,data⟩=6)∧
   (¬(kind<0∨3≤kind∨(kind≠2∧link.length≠0)∨(kind≠0∧0<data.2.length))→((A.parted name).2.2=false∨(kind=2∧(link.length=0∨100<link.length∨0∈link)))→A.wrong ⟨name,link,kind,mode,time,data⟩=8)∧
   (¬(kind<0∨3≤kind∨(kind≠2∧link.length≠0)∨(kind≠0∧0<data.2.length))→¬((A.parted name).2.2=false∨(kind=2∧(link.length=0∨100<link.length∨0∈link)))→(mode<0∨4096≤mode∨time<0∨8589934592≤time∨8589934592≤data.2.length)→A.wrong ⟨name,link,kind,mode,time,data⟩=7)∧
   (¬(kind<0∨3≤kind∨(kind≠2∧link.length≠0)∨(kind≠0∧0<data.2.length))→¬((A.parted name).2.2=false∨(kind=2∧(link.length=0∨100<link.length∨0∈link)))→¬(mode<0∨4096≤mode∨time<0∨8589934592≤time∨8589934592≤data.2.length)→A.wrong ⟨name,link,kind,mode,time,data⟩=0):=
  ⟨fun h=>by rw[A.wrong,if_pos h],fun h h2=>by rw[A.wrong,if_neg h,if_pos h2],fun h h2 h3=>by rw[A.wrong,if_neg h,if_neg h2,if_pos h3],fun h h2 h3=>by rw[A.wrong,if_neg h,if_neg h2,if_neg h3]⟩
 dsimp only[T_api_Item.enc] at hn hk ⊢
 generalize A.wrong ⟨name,link,kind,mode,time,data⟩=res at*
 have e0:(.string ⟨#[]⟩:Value)= .string ⟨List.toArray []⟩:=rfl
 rw[e0]
 have hlk:(link=[]∧link.length=0)∨(¬link=[]∧0<link.length):=by
  rcases link with _|⟨b,t⟩<;>simp
 have hm:(0∈link∧0≤A.ixb link 0)∨(¬0∈link∧¬0≤A.ixb link 0):=by
  by_cases h:0∈link
  ·exact .inl ⟨h,A.ixb_mem.2 h⟩
  ·exact .inr ⟨h,fun e=>h (A.ixb_mem.1 e)⟩
 have hnb:(A.parted name).2.2=true∨(A.parted name).2.2=false:=by cases(A.parted name).2.2<;>simp
 refine pN_bx hS (by rfl) ?_
 clear hS
 intro a w hS
 repeat' (first|(refine pcq (f:=120) (parted_ok (L:=_::L) hn ?_ hS);clear hS;intro w hS)|(refine pN_eql_s ?_ ?_<;>intro hc<;>try (exfalso;first|omega|exact gone hc|exact gon2 hc))|refine pN_l hS (by first|rfl|assumption) ?_|refine pN_v (hk:=?_)|fail)
 all_goals
  have hS:Sat E w (cel a ⟨49,[.string ⟨name.toArray⟩,.string ⟨link.toArray⟩,.int .i64 kind,.int .i64 mode,.int .i64 time,.slice data.1.a data.2.length data.1.c]⟩::L):=hS
  refine⟨fun w'=>res=0∧Sat E w' L,?_,?_⟩
  rotate_left 1
  ·clear hS
   rintro _ w ⟨rfl,hS⟩
   exact hQ _ hS
  refine⟨fun v w'=>v= .bool (decide (kind<0∨3≤kind∨(kind≠2∧link.length≠0)∨(kind≠0∧0<data.2.length)))∧Sat E w' (cel a ⟨49,[.string ⟨name.toArray⟩,.string ⟨link.toArray⟩,.int .i64 kind,.int .i64 mode,.int .i64 time,.slice data.1.a data.2.length data.1.c]⟩::L),?_,?_⟩
  ·rcases hlk with⟨hl0,hll⟩|⟨hl0,hll⟩
   all_goals
    repeat' (first|((first|refine pN_lss_s ?_ ?_|refine pN_gtr_s ?_ ?_|refine pN_geq_s ?_ ?_)<;>intro hc<;>try (exfalso;omega))|((first|refine pN_neq_s ?_ ?_|refine pN_neq_ss ?_ ?_)<;>intro hc<;>try (exfalso;first|omega|exact gone hc|exact gon2 hc))|refine pIf_t ?_|refine pIf_f ?_|refine pGd_go (by rfl) ?_|refine pGd_no (by rfl) ?_|refine pN_l hS (by first|rfl|assumption) ?_|refine pN_v (hk:=?_)|fail)
    all_goals first
     |exact⟨congrArg Value.bool (decide_eq_true (by omega)).symm,hS⟩
     |exact⟨congrArg Value.bool (decide_eq_false (by omega)).symm,hS⟩
  clear hS
  rintro _ _ w ⟨rfl,hS⟩
  by_cases C1:kind<0∨3≤kind∨(kind≠2∧link.length≠0)∨(kind≠0∧0<data.2.length)
  ·rw[decide_eq_true C1]
   refine pIf_t ?_
   have:=w6 C1
   subst this
   exact hQ _ hS.to
  rw[decide_eq_false C1]
  refine pIf_f ?_
  refine⟨fun v w'=>v= .bool (decide ((A.parted name).2.2=false∨(kind=2∧(link.length=0∨100<link.length∨0∈link))))∧Sat E w' (cel a ⟨49,[.string ⟨name.toArray⟩,.string ⟨link.toArray⟩,.int .i64 kind,.int .i64 mode,.int .i64 time,.slice data.1.a data.2.length data.1.c]⟩::L),?_,?_⟩
  ·rcases hnb with hb|hb
   ·rw[hb]
    rcases hlk with⟨hl0,hll⟩|⟨hl0,hll⟩
    all_goals rcases hm with⟨hm0,hmi⟩|⟨hm0,hmi⟩
    all_goals simp only[hm0,or_true,or_false,and_true,Bool.true_eq_false,false_or]
    all_goals
     repeat' (first|(refine pcq (f:=121) (sIndexByte_ok 0 ?_))|refine pN_slen ?_|((first|refine pN_gtr_s ?_ ?_|refine pN_geq_s ?_ ?_)<;>intro hc<;>try (exfalso;omega))|(refine pN_eql_ss ?_ ?_<;>intro hc<;>try (exfalso;first|omega|exact gone hc|exact gon2 hc))|refine pIf_f ?_|refine pGd_go (by rfl) ?_|refine pGd_no (by rfl) ?_|refine pN_l hS (by first|rfl|assumption) ?_|refine pN_v (hk:=?_)|fail)
     all_goals first
      |exact⟨congrArg Value.bool (decide_eq_true (by omega)).symm,hS⟩
      |exact⟨congrArg Value.bool (decide_eq_false (by omega)).symm,hS⟩
   ·rw[hb]
    repeat' (first|refine pIf_t ?_|refine pN_v (hk:=?_)|fail)
    exact⟨congrArg Value.bool (decide_eq_true (.inl rfl)).symm,hS⟩
  clear hS
  rintro _ _ w ⟨rfl,hS⟩
  by_cases C2:(A.parted name).2.2=false∨(kind=2∧(link.length=0∨100<link.length∨0∈link))
  ·rw[decide_eq_true C2]
   refine pIf_t ?_
   have:=w8 C1 C2
   subst this
   exact hQ _ hS.to
  rw[decide_eq_false C2]
  refine pIf_f ?_
  refine⟨fun v w'=>v= .bool (decide (mode<0∨4096≤mode∨time<0∨8589934592≤time∨8589934592≤data.2.length))∧Sat E w' (cel a ⟨49,[.string ⟨name.toArray⟩,.string ⟨link.toArray⟩,.int .i64 kind,.int .i64 mode,.int .i64 time,.slice data.1.a data.2.length data.1.c]⟩::L),?_,?_⟩
  ·repeat' (first|((first|refine pN_lss_s ?_ ?_|refine pN_geq_s ?_ ?_)<;>intro hc<;>try (exfalso;omega))|refine pIf_t ?_|refine pIf_f ?_|refine pGd_go (by rfl) ?_|refine pGd_no (by rfl) ?_|refine pN_l hS (by first|rfl|assumption) ?_|refine pN_v (hk:=?_)|fail)
   all_goals first
    |exact⟨congrArg Value.bool (decide_eq_true (by omega)).symm,hS⟩
    |exact⟨congrArg Value.bool (decide_eq_false (by omega)).symm,hS⟩
  clear hS
  rintro _ _ w ⟨rfl,hS⟩
  by_cases C3:mode<0∨4096≤mode∨time<0∨8589934592≤time∨8589934592≤data.2.length
  ·rw[decide_eq_true C3]
   refine pIf_t ?_
   have:=w7 C1 C2 C3
   subst this
   exact hQ _ hS.to
  ·rw[decide_eq_false C3]
   refine pIf_f ?_
   exact⟨w0 C1 C2 C3,hS.to⟩
end
end
section
abbrev Fld:=Nat×Nat×Option Nat×Option Nat
def fnV:Option Nat→Value
 |some g=> .func (.func g) #[] #[]
 |none=> .nilFunc
theorem fnV_one (o:Option Nat):(fnV o).oneCell'=true:=by cases o<;>rfl
def cdF:Cd Fld:={ e:=210,size:=4,bytes:=32,zero:=(0,0,none,none),enc:=fun x=>[.int .i64 (x.1:Nat),.int .i64 (x.2.1:Nat),fnV x.2.2.1,fnV x.2.2.2],len:=fun _=>rfl,one:=by intro b u hu;simp only[List.mem_cons,List.not_mem_nil,or_false] at hu;rcases hu with rfl|rfl|rfl|rfl<;>first|rfl|exact fnV_one _ }
instance rowF:Row zp 206 Fld cdF:=⟨⟨(.agg #[(.int .i64 0),(.int .i64 0),.nilFunc,.nilFunc]),⟨Tryz.underlying206,info_parts (by kernel_rfl),rfl,by decide⟩,rfl⟩,by decide⟩
def wf:Nat→Nat
 |0=>155|1=>158|2=>162|3=>162|4=>163|5=>165|6=>167|7=>169|8=>171|9=>162|10=>162|_=>172
def rf:Nat→Option Nat
 |0=>some 156|1=>some 160|4=>some 164|5=>some 166|6=>some 168|7=>some 170|11=>some 173|_=>none
def fld (k:Nat):Fld:=(A.fAt k,A.fN k,some (wf k),rf k)
def flds:List Fld:=(List.range 12).map fld
theorem flds_at (k:Nat) (h:k<12):flds[k]? =some (fld k):=by simp[flds,h]
theorem run_bF1 (a n:Int) (f g:Nat) (w:World):(oBuild 210 [(0,.int .i64 a),(1,.int .i64 n),(2,.func (.func f) #[] #[]),(3,.func (.func g) #[] #[])]).run zp w= .ok (.value (.agg #[.int .i64 a,.int .i64 n,.func (.func f) #[] #[],.func (.func g) #[] #[]])) w:=by kernel_rfl
theorem run_bF0 (a n:Int) (f:Nat) (w:World):(oBuild 210 [(0,.int .i64 a),(1,.int .i64 n),(2,.func (.func f) #[] #[]),(3,.nilFunc)]).run zp w= .ok (.value (.agg #[.int .i64 a,.int .i64 n,.func (.func f) #[] #[],.nilFunc])) w:=by kernel_rfl
theorem pN_bF1 [Pan] {w:World} {K:Value→World→Prop} {a n:Int} {f g:Nat} (hk:K (.agg #[.int .i64 a,.int .i64 n,.func (.func f) #[] #[],.func (.func g) #[] #[]]) w):pN zp (oBuild 210 [(0,.int .i64 a),(1,.int .i64 n),(2,.func (.func f) #[] #[]),(3,.func (.func g) #[] #[])]) w K:=by rw[pN_def,run_bF1,rN_value];exact hk
theorem pN_bF0 [Pan] {w:World} {K:Value→World→Prop} {a n:Int} {f:Nat} (hk:K (.agg #[.int .i64 a,.int .i64 n,.func (.func f) #[] #[],.nilFunc]) w):pN zp (oBuild 210 [(0,.int .i64 a),(1,.int .i64 n),(2,.func (.func f) #[] #[]),(3,.nilFunc)]) w K:=by rw[pN_def,run_bF0,rN_value];exact hk
theorem sumField_len (l:List UInt8):(A.sumField l).length=8:=by simp[A.sumField,A.oct_len]
theorem header_put {x:T_api_Item} (h:A.Fits x) (n:Int):putL (A.made x n 12) 148 (A.sumField (A.made x n 12))=A.header x n:=by
 have h1:=A.front_len h n
 have h2:=A.made_12 h n
 have h3:=sumField_len (A.made x n 12)
 rw[A.header]
 generalize A.sumField (A.made x n 12)=f at*
 rw[putL,h2,h3]
 rw[List.append_assoc (A.front x n),List.take_append,List.drop_append,h1,List.take_of_length_le (by omega),List.drop_eq_nil_of_le (by omega)]
 simp
theorem header_len {x:T_api_Item} (h:A.Fits x) (n:Int):(A.header x n).length=512:=by
 rw[←header_put h n,putL_len _ _ _ (by rw[sumField_len,A.made_len h n 12 (by omega)];omega),A.made_len h n 12 (by omega)]
theorem made_0 (x:T_api_Item) (n:Int):List.replicate 512 cd_uint8.zero=A.made x n 0:=rfl
theorem made_next (x:T_api_Item) (n:Int) (k:Nat):putL (A.made x n k) (A.fAt k) (A.fW x n k)=A.made x n (k+1):=rfl
attribute [local irreducible] A.made A.header A.oct A.wrong
section
variable [Pan] {E w:World} {K Q:Value→World→Prop} {L M:List HA} {l r:List UInt8} {s s2:Sl}
def fldV (k:Nat):Value:= .agg #[.int .i64 (A.fAt k:Nat),.int .i64 (A.fN k:Nat),fnV (some (wf k)),fnV (rf k)]
theorem fields_ok (hS:Sat E w M) (hQ:∀s w,Sat E w (rows cdF s flds::M)→Q (.slice s.a 12 s.c) w):Calls zp 122 #[] w (retP Q):=by
 refine tar_fields.calls ?_
 unfold tar_fields.F
 repeat first|refine pN_bF1 ?_|refine pN_bF0 ?_
 refine pN_bl (C:=cdF) ((List.range 12).map fldV) flds rfl rfl rfl (Nat.le_of_ble_eq_true rfl) hS (Nat.le_of_ble_eq_true rfl) ?_
 clear hS
 intro s w hS
 exact hQ _ _ hS
def headP (h:Nat) (x:T_api_Item) (n:Int):HA:=cel h ⟨165,[.string ⟨x.Name.toArray⟩,.string ⟨x.Link.toArray⟩,.int .i64 x.Kind,.int .i64 x.Mode,.int .i64 x.Time,.slice x.Data.1.a x.Data.2.length x.Data.1.c,.int .i64 n]⟩
theorem take_all {l:List UInt8} {n:Nat} (h:l.length≤n):l.take n=l:=List.take_of_length_le h
set_option maxHeartbeats 2000000 in
theorem write_ok {h:Nat} {x:T_api_Item} {n:Int} (hf:A.Fits x) (hn:x.Name.length≤140737488355328) (k0:0≤x.Kind) (k2:x.Kind<3) (hl:l.length=512) (k:Nat) (hk:k<12) (hS:Sat E w (rows cd_uint8 s l::headP h x n::M))
  (hQ:∀w,Sat E w (rows cd_uint8 s (putL l (A.fAt k) (A.fW x n k))::headP h x n::M)→Q (.tuple #[]) w):
  Calls zp (wf k) #[.slice (s.sub (A.fAt k) cd_uint8.size).a (A.fN k) (s.sub (A.fAt k) cd_uint8.size).c,.pointer (some ⟨h,0,none⟩)] w (retP Q):=by
 have hr:=hf.rest
 have hp:=hf.pre
 have hlk:=hf.link
 unfold headP at*
 match k,hk with
 |0,_=>
  refine tar_fields_c1.calls ?_
  unfold tar_fields_c1.F
  repeat' (first|(refine pcq (f:=120) (parted_ok (L:=_::_::M) hn ?_ hS);clear hS;intro w hS)|refine pN_l hS (by first|rfl|assumption) ?_|refine pN_v (hk:=?_)|fail)
  refine pN_cps (dn:=100) hS (fun _=>rfl) 0 (by omega) (by omega) ?_
  clear hS
  intro w hS
  rw[take_all hr] at hS
  exact hQ _ hS
 |1,_=>
  refine tar_fields_c3.calls ?_
  unfold tar_fields_c3.F
  repeat' (first|refine pN_l hS (by first|rfl|assumption) ?_|refine pN_v (hk:=?_)|fail)
  refine pcq (f:=159) (octal_ok hS 100 8 (by omega) (by omega) (by omega) _ ?_)
  exact fun w hS=>hQ w hS
 |2,_=>exact none_ok _ hS 108 8 (by omega) (by omega) (by omega) fun w hS=>hQ w hS
 |3,_=>exact none_ok _ hS 116 8 (by omega) (by omega) (by omega) fun w hS=>hQ w hS
 |4,_=>
  refine tar_fields_c5.calls ?_
  unfold tar_fields_c5.F
  repeat' (first|refine pN_l hS (by first|rfl|assumption) ?_|refine pN_v (hk:=?_)|fail)
  refine pcq (f:=159) (octal_ok hS 124 12 (by omega) (by omega) (by omega) _ ?_)
  exact fun w hS=>hQ w hS
 |5,_=>
  refine tar_fields_c7.calls ?_
  unfold tar_fields_c7.F
  repeat' (first|refine pN_l hS (by first|rfl|assumption) ?_|refine pN_v (hk:=?_)|fail)
  refine pcq (f:=159) (octal_ok hS 136 12 (by omega) (by omega) (by omega) _ ?_)
  exact fun w hS=>hQ w hS
 |6,_=>
  refine tar_fields_c9.calls ?_
  unfold tar_fields_c9.F
  have e:(.string ⟨#[48,53,50]⟩:Value)= .string ⟨List.toArray [48,53,50]⟩:=rfl
  rw[e]
  obtain⟨kn,hkn⟩:∃kn:Nat,x.Kind=kn:=⟨x.Kind.toNat,by omega⟩
  have hx:([48,53,50]:List UInt8)[kn]? =some (A.letter x.Kind):=by
   rw[hkn]
   have:kn<3:=by omega
   match kn,this with
   |0,_=>rfl
   |1,_=>rfl
   |2,_=>rfl
  repeat' (first|refine pN_l hS (by first|rfl|assumption) ?_|refine pN_v (hk:=?_)|fail)
  refine pN_sidx kn hkn hx ?_
  haveI hr1:=Rds.sub (C:=cd_uint8) (L:=rows cd_uint8 s l::cel h ⟨165,[.string ⟨x.Name.toArray⟩,.string ⟨x.Link.toArray⟩,.int .i64 x.Kind,.int .i64 x.Mode,.int .i64 x.Time,.slice x.Data.1.a x.Data.2.length x.Data.1.c,.int .i64 n]⟩::M) (s:=s) (l:=l) 156 157 (by omega) (by omega)
  obtain⟨g,hg,hc⟩:=rows_at (C:=cd_uint8) (s:=s) hS (by omega)
  have hl1:((l.drop 156).take (157-156)).length=1:=by rw[List.length_take,List.length_drop];omega
  refine pN_ix hS (C:=cd_uint8) (s:=s.sub 156 cd_uint8.size) 0 rfl hl1.symm (by omega) fun a y hy ha hel=>?_
  refine pN_sr (hel.sub (by omega)) hS rfl rfl (by omega) ?_
  clear hS
  intro w hS
  have e1:l.set (156+0) (A.letter x.Kind)=putL l (A.fAt 6) (A.fW x n 6):=by
   rw[List.set_eq_take_append_cons_drop,if_pos (by omega)]
   simp[putL,A.fAt,A.fW]
  rw[e1] at hS
  exact hQ _ hS
 |7,_=>
  refine tar_fields_c11.calls ?_
  unfold tar_fields_c11.F
  repeat' (first|refine pN_l hS (by first|rfl|assumption) ?_|refine pN_v (hk:=?_)|fail)
  refine pN_cps (dn:=100) hS (fun _=>rfl) 157 (by omega) (by omega) ?_
  clear hS
  intro w hS
  rw[take_all hlk] at hS
  exact hQ _ hS
 |8,_=>
  refine tar_fields_c13.calls ?_
  unfold tar_fields_c13.F
  refine pN_cps (dn:=8) (r:=[117,115,116,97,114,0,48,48]) hS (fun _=>rfl) 257 (by omega) (by omega) ?_
  clear hS
  intro w hS
  exact hQ _ hS
 |9,_=>exact none_ok _ hS 329 8 (by omega) (by omega) (by omega) fun w hS=>hQ w hS
 |10,_=>exact none_ok _ hS 337 8 (by omega) (by omega) (by omega) fun w hS=>hQ w hS
 |11,_=>
  refine tar_fields_c14.calls ?_
  unfold tar_fields_c14.F
  repeat' (first|(refine pcq (f:=120) (parted_ok (L:=_::_::M) hn ?_ hS);clear hS;intro w hS)|refine pN_l hS (by first|rfl|assumption) ?_|refine pN_v (hk:=?_)|fail)
  refine pN_cps (dn:=155) hS (fun _=>rfl) 345 (by omega) (by omega) ?_
  clear hS
  intro w hS
  rw[take_all hp] at hS
  exact hQ _ hS
 |k+12,hk=>omega
theorem wf_call (k:Nat) (hk:k<12) (args:Array Value) (w:World):(callFunc (wf k) args).run zp w= .ok (.enter (wf k) args) w:=by
 match k,hk with
 |0,_=>exact call_tar_fields_c1 args w
 |1,_=>exact call_tar_fields_c3 args w
 |2,_|3,_|9,_|10,_=>exact call_tar_none args w
 |4,_=>exact call_tar_fields_c5 args w
 |5,_=>exact call_tar_fields_c7 args w
 |6,_=>exact call_tar_fields_c9 args w
 |7,_=>exact call_tar_fields_c11 args w
 |8,_=>exact call_tar_fields_c13 args w
 |11,_=>exact call_tar_fields_c14 args w
 |k+12,hk=>omega
set_option maxHeartbeats 2000000 in
theorem header_ok {h:Nat} {x:T_api_Item} {n:Int} (hf:A.Fits x) (hn:x.Name.length≤140737488355328) (k0:0≤x.Kind) (k2:x.Kind<3) (hS:Sat E w (headP h x n::M))
  (hQ:∀s w,Sat E w (rows cd_uint8 s (A.header x n)::headP h x n::M)→Q (.slice s.a 512 s.c) w):
  Calls zp 89 #[.pointer (some ⟨h,0,none⟩)] w (retP Q):=by
 refine tar_header.calls ?_
 unfold tar_header.F
 repeat' (first|(refine pN_mk hS _ (by first|rfl|(exact(Int.toNat_of_nonneg (by omega)).symm)) (by first|omega|(simp only[go_sem];omega)) ?_;clear hS;intro s w hS)|fail)
 rw[made_0 x n] at hS
 refine pcq (f:=122) (fields_ok hS ?_)
 clear hS
 intro sf w hS
 repeat' (first|refine pN_v (hk:=?_)|fail)
 refine⟨fun v w'=>∃k:Nat,v= .int .i64 k∧k≤12∧Sat E w' (rows cd_uint8 s (A.made x n k)::headP h x n::rows cdF sf flds::M),fun v _=>12-(RowKit.intOf v).toNat,⟨0,rfl,Nat.zero_le _,hS.to⟩,?_⟩
 clear hS
 rintro _ _ w ⟨k,rfl,hk,hS⟩
 by_cases hlt:k<12
 ·have hfk:=flds_at k hlt
  have hml:=A.made_len hf n k hk
  have hfl:flds.length=12:=rfl
  have hfe:=A.fAt_end k hlt
  have hfn:=A.fN_pos k hlt
  have hcv:=fun args w=>wf_call k hlt args w
  have hwr:IntKind.i64.wrap (((fld k).1:Int)+((fld k).2.1:Int))=((A.fAt k+A.fN k:Nat):Int):=by
   show IntKind.i64.wrap ((A.fAt k:Int)+(A.fN k:Int))=_
   rw[wrap_i64 (by omega)]
   omega
  have hone:(cdF.enc (fld k)).all (·.oneCell')=true:=List.all_eq_true.2 fun u hu=>cdF.one _ u hu
  repeat' (first|(refine pN_lss_s ?_ ?_<;>intro hc<;>try (exfalso;omega))|refine pIf_t ?_|refine pN_ld_at ha hS (by rfl) ?_|(refine pN_nz hS ?_;clear hS;intro a w hS)|refine pN_ixk hS _ (by first|rfl|(exact(Int.toNat_of_nonneg (by omega)).symm)) (by first|rfl|omega|simpa only[go_sem] using True.intro|(simp only[go_sem];omega)) (by assumption) fun a ha hel=>?_|fail)
  refine pN_sa (us:=cdF.enc (fld k)) hS rfl rfl hone ?_
  clear hS
  intro w hS
  dsimp only at hS
  repeat' (first|refine pL_l hS (by first|rfl|assumption) ?_|(refine pDr_go hS ?_;clear hS;intro w hS)|refine pA_v (hk:=?_)|fail)
  refine pA_sl2w (C:=cd_uint8) (s:=s) (l:=A.made x n k) hS (A.fAt k) (A.fAt k+A.fN k) rfl hwr hml.symm (by omega) (by omega) ?_
  intro hp
  refine pN_callV (cap:=[]) hcv ?_
  have e:A.fAt k+A.fN k-A.fAt k=A.fN k:=by omega
  rw[e]
  refine write_ok (n:=n) (s:=s) (l:=A.made x n k) (M:=rows cdF sf flds::M) hf hn k0 k2 hml k hlt hS.to ?_
  clear hS
  intro w hS
  rw[made_next] at hS
  refine⟨trivial,?_⟩
  repeat' (first|refine pN_v (hk:=?_)|fail)
  exact⟨⟨k+1,rfl,by omega,hS⟩,by simp[RowKit.intOf]<;>omega⟩
 ·obtain rfl:k=12:=by omega
  repeat' (first|(refine pN_lss_s ?_ ?_<;>intro hc<;>try (exfalso;omega))|refine pIf_f ?_|(refine pDr_go hS ?_;clear hS;intro w hS)|fail)
  have hml:=A.made_len hf n 12 hk
  refine pA_sl1w (C:=cd_uint8) (s:=s) (l:=A.made x n 12) hS 148 rfl hml.symm (by omega) ?_
  intro hp
  have h512:(Value.slice s.a 512 s.c)= .slice s.a (A.made x n 12).length s.c:=by rw[hml]
  rw[h512]
  refine pcq (f:=123) (sum_ok (l:=A.made x n 12) hS (by omega) (by omega) ?_)
  clear hS
  intro s2 w hS
  refine⟨trivial,?_⟩
  refine pN_cp (C:=cd_uint8) (s:=s) (s2:=s2) (l:=A.made x n 12) (r:=A.sumField (A.made x n 12)) (dn:=(A.made x n 12).length-148) hS 148 (by omega) (by omega) (sumField_len _).symm ?_
  clear hS
  intro w hS
  rw[take_all (by rw[sumField_len];omega),header_put hf n] at hS
  refine⟨trivial,?_⟩
  rw[hml]
  exact hQ _ _ hS.to
end
end
section
namespace A
theorem parted_bd {l:List UInt8} (h:(parted l).2.2=true):(parted l).2.1.length≤100∧(parted l).1.length≤155:=by
 unfold parted at h ⊢
 split at h
 ·cases h
 ·rename_i h1
  rw[if_neg h1]
  split at h
  ·rename_i h2
   rw[if_pos h2]
   exact⟨h2,by simp⟩
  ·rename_i h2
   rw[if_neg h2]
   cases hs:slash l (max 1 (l.length-101)) with
   |none=>rw[hs] at h;cases h
   |some i=>
    rw[hs] at h
    dsimp only at h ⊢
    have h3:=of_decide_eq_true h
    have h4:=slash_some hs
    simp only[List.length_drop,List.length_take]
    omega
theorem wrong_0 {x:T_api_Item} (h:wrong x=0):Fits x∧0≤x.Kind∧x.Kind<3∧0≤x.Mode∧x.Mode<4096∧0≤x.Time∧x.Time<8589934592∧x.Data.2.length<8589934592∧(parted x.Name).2.2=true∧(x.Kind=2→0<x.Link.length∧x.Link.length≤100∧¬0∈x.Link)∧(x.Kind≠2→x.Link=[])∧(x.Kind≠0→x.Data.2=[]):=by
 unfold wrong at h
 split at h
 ·omega
 ·rename_i h1
  split at h
  ·omega
  ·rename_i h2
   split at h
   ·omega
   ·rename_i h3
    have hp:(parted x.Name).2.2=true:=by
     cases hb:(parted x.Name).2.2
     ·exact absurd (.inl hb) h2
     ·rfl
    have hl:x.Kind=2→0<x.Link.length∧x.Link.length≤100∧¬0∈x.Link:=fun hk=>by
     have h4:¬(x.Link.length=0∨100<x.Link.length∨0∈x.Link):=fun h=>h2 (.inr ⟨hk,h⟩)
     exact⟨by have:¬x.Link.length=0:=fun e=>h4 (.inl e);omega,by have:¬100<x.Link.length:=fun e=>h4 (.inr (.inl e));omega,fun e=>h4 (.inr (.inr e))⟩
    have hl0:x.Kind≠2→x.Link=[]:=fun hk=>List.length_eq_zero_iff.1 (by omega)
    have hd0:x.Kind≠0→x.Data.2=[]:=fun hk=>List.length_eq_zero_iff.1 (by omega)
    have hb:=parted_bd hp
    refine⟨⟨hb.1,hb.2,?_⟩,by omega,by omega,by omega,by omega,by omega,by omega,by omega,hp,hl,hl0,hd0⟩
    by_cases hk:x.Kind=2
    ·exact(hl hk).2.1
    ·rw[hl0 hk];simp
theorem fits_name {x:T_api_Item} (h:(parted x.Name).2.2=true):x.Name.length≤256:=by
 have hb:=parted_bd h
 unfold parted at h hb
 split at h
 ·cases h
 ·rename_i h1
  rw[if_neg h1] at hb
  split at h
  ·omega
  ·rename_i h2
   rw[if_neg h2] at hb
   cases hs:slash x.Name (max 1 (x.Name.length-101)) with
   |none=>rw[hs] at h;cases h
   |some i=>
    rw[hs] at hb
    have h4:=slash_some hs
    simp only[List.length_drop,List.length_take] at hb
    omega
def padn (n:Nat):Nat:=(512-n%512)%512
def putB (x:T_api_Item):List UInt8:=header x x.Data.2.length++x.Data.2++List.replicate (padn (512+x.Data.2.length)) 0
end A
theorem run_bH (a b:ByteArray) (c d e m:Int) (p:Option Addr) (n q:Nat) (w:World):(oBuild 165 [(0,.agg #[.string a,.string b,.int .i64 c,.int .i64 d,.int .i64 e,.slice p n q]),(1,.int .i64 m)]).run zp w= .ok (.value (.agg #[.string a,.string b,.int .i64 c,.int .i64 d,.int .i64 e,.slice p n q,.int .i64 m])) w:=by kernel_rfl
theorem pN_bH [Pan] {w:World} {K:Value→World→Prop} {a b:ByteArray} {c d e m:Int} {p:Option Addr} {n q:Nat} (hk:K (.agg #[.string a,.string b,.int .i64 c,.int .i64 d,.int .i64 e,.slice p n q,.int .i64 m]) w):
  pN zp (oBuild 165 [(0,.agg #[.string a,.string b,.int .i64 c,.int .i64 d,.int .i64 e,.slice p n q]),(1,.int .i64 m)]) w K:=by rw[pN_def,run_bH,rN_value];exact hk
attribute [local irreducible] A.made A.header A.oct A.wrong A.padn
section
variable [Pan] {E w:World} {K Q:Value→World→Prop} {L M:List HA} {l r:List UInt8} {s s2:Sl}
set_option maxHeartbeats 2000000 in
theorem Put_ok (x:T_api_Item) (hn:x.Name.length≤140737488355328) (hk:x.Link.length≤140737488355328) (hS:Sat E w M) [hr:Rds cd_uint8 M x.Data.1 x.Data.2]
  (hno:A.wrong x≠0→∀w,Sat E w M→Q (.tuple #[.slice none 0 0,.int .i64 (A.wrong x)]) w)
  (hok:A.wrong x=0→∀s w,Sat E w (rows cd_uint8 s (A.putB x)::M)→Q (.tuple #[.slice s.a (A.putB x).length s.c,.int .i64 0]) w):
  Calls zp 49 #[.agg x.enc.toArray] w (retP Q):=by
 refine tar_Put.calls ?_
 unfold tar_Put.F
 obtain⟨y,hy⟩:∃y,y=x:=⟨x,rfl⟩
 obtain⟨name,link,kind,mode,time,data⟩:=x
 dsimp only at hn hk hr
 refine pN_bx hS (by rfl) ?_
 clear hS
 intro ab w hS
 repeat' (first|refine pN_la hS (by rfl) ?_|fail)
 refine pcq (f:=88) (wrong_ok ⟨name,link,kind,mode,time,data⟩ hn hk hS ?_)
 clear hS
 intro w hS
 rw[←hy] at hno hok ⊢
 by_cases h0:A.wrong y=0
 ·obtain⟨hf,k0,k2,m0,m1,t0,t1,d1,hpt,hl,hl0,hd0⟩:=A.wrong_0 h0
  rw[h0]
  have hdl:data.2.length<8589934592:=by rw[hy] at d1;exact d1
  repeat' (first|refine pN_bH ?_|(refine pN_neq_s ?_ ?_<;>intro hc<;>try (exfalso;first|omega|exact gone hc|exact gon2 hc))|refine pIf_f ?_|refine pL_l hS (by first|rfl|assumption) ?_|refine pL_la hS (by rfl) ?_|(refine pDr_go hS ?_;clear hS;intro w hS)|(refine pN_bx hS (by rfl) ?_;clear hS;intro a w hS)|refine⟨⟨(by first|exact run_l hS (by first|rfl|assumption)|exact run_st hS (by first|rfl|omega)|exact run_ld1 ha hS|exact fun _=>run_l hS (by rfl)|exact fun _=>run_st hS (by first|rfl|omega)|exact fun _=>run_ld1 ha hS|exact fun h=>Bool.noConfusion h),trivial⟩,?_⟩|refine pA_v (hk:=?_)|fail)
  have hS:Sat E w (headP a y (data.2.length:Nat)::cel ab ⟨49,T_api_Item.enc ⟨name,link,kind,mode,time,data⟩⟩::M):=by subst hy;exact hS
  have hnl:=A.fits_name hpt
  have hd:y.Data.2=data.2:=by rw[hy]
  refine pcq (f:=89) (header_ok (x:=y) (n:=(data.2.length:Nat)) hf (by omega) k0 k2 hS ?_)
  clear hS
  intro s w hS
  have hhl:=header_len hf (data.2.length:Nat)
  have hpb:A.putB y=A.header y (data.2.length:Nat)++data.2++List.replicate (A.padn (512+data.2.length)) 0:=by rw[A.putB,hd]
  rw[hpb] at hok
  generalize A.header y (data.2.length:Nat)=hd at*
  have hpl:A.padn (512+data.2.length)<512:=by unfold A.padn;omega
  have hal:(hd++data.2).length=512+data.2.length:=by rw[List.length_append,hhl]
  have hpe:(512-(512+data.2.length)%512)%512=A.padn (512+data.2.length):=by unfold A.padn;rfl
  repeat' (first|refine⟨trivial,?_⟩|refine⟨⟨(by first|exact run_l hS (by first|rfl|assumption)|exact run_st hS (by first|rfl|omega)|exact run_ld1 ha hS|exact fun _=>run_l hS (by rfl)|exact fun _=>run_st hS (by first|rfl|omega)|exact fun _=>run_ld1 ha hS|exact fun h=>Bool.noConfusion h),trivial⟩,?_⟩|(refine pN_app hS (by first|rfl|omega|simpa only[go_sem] using True.intro|(simp only[go_sem];omega)) (by first|rfl|omega|simpa only[go_sem] using True.intro|(simp only[go_sem];omega)) (by first|omega|(simp only[go_sem];omega)) ?_;clear hS;intro s w hS)|refine pN_v (hk:=?_)|fail)
  rw[hhl]
  refine pcq (f:=90) (pad_ok (512+data.2.length) (by omega) ?_)
  rw[hpe]
  refine pN_appz (C:=cd_uint8) hS (A.padn (512+data.2.length)) rfl rfl (by omega) ?_
  clear hS
  intro s w hS
  have hS:Sat E w (rows cd_uint8 s (hd++data.2++List.replicate (A.padn (512+data.2.length)) 0)::headP a y (data.2.length:Nat)::cel ab ⟨49,T_api_Item.enc ⟨name,link,kind,mode,time,data⟩⟩::M):=hS
  exact hok h0 _ _ hS.to
 ·repeat' (first|(refine pN_neq_s ?_ ?_<;>intro hc<;>try (exfalso;first|omega|exact gone hc|exact gon2 hc))|refine pIf_t ?_|fail)
  exact hno h0 _ hS.to
end
end
end
section
theorem Part.trans {α:Type} {C:Cd α} {s s' s2:Sl} {l l' l2:List α} (h:Part C s l s' l') (h2:Part C s' l' s2 l2):Part C s l s2 l2:=⟨fun L hL=>by
 have:=h.rd L hL
 exact h2.rd L this⟩
section
variable [Pan] {P:Program} {E w:World} {K:Value→World→Prop} {J:Value→Prop} {L:List HA} {t e:TypeId} {s:Sl}
theorem pN_arat {n m:Nat} (h:P.underlying t=some (.array m e)) (hn:m≤n) (hk:K (.pointer s.a) w):pN P (oV (Instr.arrayAt t (.slice s.a n s.c))) w K:=by
 rw[pN_def,run_oV_ok (run_arrayAt (P:=P) (w:=w) t e m s.a n s.c h hn),rN_value];exact hk
theorem pL_arld (hS:Sat E w L) [Ag P t 32] (i:I32) [hr:Rds cd_uint8 L s i.l] (hk:J (.agg (bvs i.l).toArray)):pL P (oLoad t (.pointer s.a)) w J:=by
 obtain⟨_,ao,cap,hv,hcap,hnil,hc⟩:=hS.rds (C:=cd_uint8) (s:=s)
 simp only[Value.slice.injEq,true_and] at hv
 obtain⟨hv1,hv2⟩:=hv
 cases ao with
 |none=>have:=(hnil rfl).1;have:=i.h;omega
 |some a=>
  rw[hv1]
  refine⟨_,run_load_agg (cs:=bvs i.l) Ag.ag (by rw[←i32n i];exact Ag.sz) fun j u hu=>hc a rfl j u ?_,hk⟩
  rw[cd_uint8.flat_single bv (fun _=>rfl)]
  exact hu
end
abbrev rdP (r:Nat) (s:Sl) (b:List UInt8):HA:=cel r ⟨224,[.slice s.a b.length s.c]⟩
abbrev rdO (s:Sl) (b:List UInt8):Ob:=⟨224,[.slice s.a b.length s.c]⟩
namespace L
theorem take_some {n:Nat} {b t q:List UInt8} (h:take n b=some (t,q)):n≤b.length∧t=b.take n∧q=b.drop n:=by
 unfold take at h
 split at h
 ·rename_i hn
  simp only[Option.some.injEq,Prod.mk.injEq] at h
  exact⟨hn,h.1.symm,h.2.symm⟩
 ·cases h
theorem number_some {b q:List UInt8} {v:Nat} (h:number b=some (v,q)):(C.get 0 0 b).2.2=0∧v=(C.get 0 0 b).1∧q=b.drop (C.get 0 0 b).2.1∧(C.get 0 0 b).2.1≤b.length∧v<9223372036854775808:=by
 unfold number at h
 split at h
 ·rename_i hn
  simp only[Option.some.injEq,Prod.mk.injEq] at h
  have h1:=C.get_at b 0 0 hn
  have h2:=C.get_lt b 0 0 (by decide) (by omega)
  exact⟨hn,h.1.symm,h.2.symm,by omega,by rw[←h.1];exact h2⟩
 ·cases h
theorem rtext_some {b t q:List UInt8} (h:rtext b=some (t,q)):∃n r,number b=some (n,r)∧take n r=some (t,q):=by
 unfold rtext at h
 split at h
 ·rename_i n r hn
  exact⟨n,r,hn,h⟩
 ·cases h
theorem number_len {b q:List UInt8} {v:Nat} (h:number b=some (v,q)):q.length≤b.length:=by
 obtain⟨_,_,h,_⟩:=number_some h
 rw[h,List.length_drop];omega
theorem take_len {n:Nat} {b t q:List UInt8} (h:take n b=some (t,q)):q.length≤b.length:=by
 obtain⟨_,_,h⟩:=take_some h
 rw[h,List.length_drop];omega
theorem rtext_len {b t q:List UInt8} (h:rtext b=some (t,q)):q.length≤b.length∧t.length≤b.length:=by
 obtain⟨n,r,h1,h2⟩:=rtext_some h
 have e1:=number_len h1
 have e2:=take_len h2
 obtain⟨_,h3,_⟩:=take_some h2
 rw[h3,List.length_take];omega
theorem rrow_some {right:En→Bool} {b q:List UInt8} {e:En} (h:rrow right b=some (e,q)):∃kb b1 m b2 t b3 n b4,take 1 b=some (kb,b1)∧number b1=some (m,b2)∧number b2=some (t,b3)∧rtext b3=some (n,b4)∧rtail ⟨((kb.headD 0).toNat:Int),m,t,n,[],[]⟩ b4=some (e,q)∧right e=true:=by
 unfold rrow at h
 split at h
 ·rename_i e0 b0 hh
  unfold rhead at hh
  split at hh
  ·rename_i kb b1 h1
   split at hh
   ·rename_i m b2 h2
    split at hh
    ·rename_i t b3 h3
     split at hh
     ·rename_i n b4 h4
      simp only[Option.some.injEq,Prod.mk.injEq] at hh
      obtain⟨rfl,rfl⟩:=hh
      split at h
      ·rename_i e1 b5 h5
       split at h
       ·rename_i hr
        simp only[Option.some.injEq,Prod.mk.injEq] at h
        obtain⟨rfl,rfl⟩:=h
        exact⟨kb,b1,m,b2,t,b3,n,b4,h1,h2,h3,h4,h5,hr⟩
       ·cases h
      ·cases h
     ·cases hh
    ·cases hh
   ·cases hh
  ·cases hh
 ·cases h
theorem rtail_0 {e0 e:En} {b q:List UInt8} (k:e0.kind=0) (h:rtail e0 b=some (e,q)):∃n r l,number b=some (n,r)∧rsums n r=some (l,q)∧e={ e0 with sums:=l }:=by
 unfold rtail at h
 rw[if_pos k] at h
 split at h
 ·rename_i n r hn
  split at h
  ·rename_i l q' hl
   simp only[Option.some.injEq,Prod.mk.injEq] at h
   obtain⟨rfl,rfl⟩:=h
   exact⟨n,r,l,hn,hl,rfl⟩
  ·cases h
 ·cases h
theorem rtail_2 {e0 e:En} {b q:List UInt8} (k:e0.kind=2) (h:rtail e0 b=some (e,q)):∃l,rtext b=some (l,q)∧e={ e0 with link:=l }:=by
 unfold rtail at h
 rw[if_neg (by omega),if_pos k] at h
 split at h
 ·rename_i l q' hl
  simp only[Option.some.injEq,Prod.mk.injEq] at h
  obtain⟨rfl,rfl⟩:=h
  exact⟨l,hl,rfl⟩
 ·cases h
theorem rtail_1 {e0 e:En} {b q:List UInt8} (k0:e0.kind≠0) (k2:e0.kind≠2) (h:rtail e0 b=some (e,q)):e=e0∧q=b:=by
 unfold rtail at h
 rw[if_neg k0,if_neg k2] at h
 simp only[Option.some.injEq,Prod.mk.injEq] at h
 exact⟨h.1.symm,h.2.symm⟩
theorem rsums_s {n:Nat} {b q:List UInt8} {l:List I32} (h:rsums (n+1) b=some (l,q)):∃i l',take 32 b=some (i.l,b.drop 32)∧rsums n (b.drop 32)=some (l',q)∧l=i::l':=by
 rw[rsums] at h
 split at h
 ·rename_i hb
  split at h
  ·rename_i l' q' hl
   simp only[Option.some.injEq,Prod.mk.injEq] at h
   obtain⟨rfl,rfl⟩:=h
   exact⟨⟨b.take 32,by rw[List.length_take];omega⟩,l',by unfold take;rw[if_pos hb],hl,rfl⟩
  ·cases h
 ·cases h
theorem rsums_0 {b q:List UInt8} {l:List I32} (h:rsums 0 b=some (l,q)):l=[]∧q=b:=by
 rw[rsums] at h
 simp only[Option.some.injEq,Prod.mk.injEq] at h
 exact⟨h.1.symm,h.2.symm⟩
theorem rsums_len:∀{n:Nat} {b q:List UInt8} {l:List I32},rsums n b=some (l,q)→l.length=n∧32*n≤b.length
 |0,b,q,l,h=>by obtain⟨rfl,rfl⟩:=rsums_0 h;simp
 |n+1,b,q,l,h=>by
  obtain⟨i,l',h1,h2,rfl⟩:=rsums_s h
  have h3:=rsums_len h2
  have h4:=(take_some h1).1
  rw[List.length_drop] at h3
  rw[List.length_cons];omega
end L
attribute [local irreducible] oMv oV oU oCall oCallV oBi oBin oUn oLoad oStore oNil oFld oField oIdx oIndex oPick oAlloc oBox oBuild oBs oConv oMk oSl oExt oFn oIface oMap oLook oMapUp oRange oNext oEntry oInv oAssert oPanic oRes pN pA pL pDr pIf gA pGd Calls C.put C.get L.number L.take L.rtext
section
variable [Pan] {E w W:World} {K Q:Value→World→Prop} {LL M N N':List HA} {b q:List UInt8} {s s2:Sl} {r:Nat}
theorem form_ok (hQ:Q (.tuple #[]) w):Calls zp 132 #[.bool true] w (retP Q):=by
 refine snap_form.calls ?_
 unfold snap_form.F
 repeat' (first|refine pIf_f ?_|refine pN_v (hk:=?_)|fail)
 exact hQ
theorem rtake_ok (hS:Sat E w LL) [hf:Fnd (cel r) LL (rdO s b) M] [hr:Rds cd_uint8 M s b] (n:Nat) {t:List UInt8} (h:L.take n b=some (t,q))
  (hQ:∀s1 s2,Part cd_uint8 s b s1 t→Part cd_uint8 s b s2 q→∀w,Sat E w (rdP r s2 q::M)→Q (.slice s1.a n s1.c) w):
  Calls zp 180 #[.pointer (some ⟨r,0,none⟩),.int .i64 n] w (retP Q):=by
 refine snap_reader_take.calls ?_
 unfold snap_reader_take.F
 obtain⟨hn,rfl,rfl⟩:=L.take_some h
 have hS1:=hS.fd (cel r)
 clear hS hf
 have hS:=hS1
 clear hS1
 have hdl:(b.drop n).length=b.length-n:=List.length_drop
 repeat' (first|(refine pcq (f:=132) (form_ok ?_))|(refine pN_slh (C:=cd_uint8) (s:=s) (l:=b) hS n rfl rfl hn ?_;intro s1 hp1)|(refine pN_sl1 (C:=cd_uint8) (s:=s) (l:=b) hS n rfl rfl hn ?_;intro s2 hp2)|(refine pN_leq_s ?_ ?_<;>intro hc<;>try (exfalso;omega))|refine pN_l hS (by first|rfl|assumption) ?_|(refine pN_s hS (by first|exact Nat.le_of_ble_eq_true rfl|assumption) (by rfl) ?_;clear hS;intro w hS;try simp only[List.set_cons_zero,List.set_cons_succ] at hS)|refine pN_v (hk:=?_)|fail)
 rw[←hdl] at hS
 exact hQ _ _ hp1 hp2 _ hS
theorem rnum_ok (hS:Sat E w LL) [hf:Fnd (cel r) LL (rdO s b) M] [hr:Rds cd_uint8 M s b] (hbl:b.length<4611686018427387904) {v:Nat} (h:L.number b=some (v,q))
  (hQ:∀s2,Part cd_uint8 s b s2 q→∀w,Sat E w (rdP r s2 q::M)→Q (.int .i64 v) w):
  Calls zp 130 #[.pointer (some ⟨r,0,none⟩)] w (retP Q):=by
 refine snap_reader_number.calls ?_
 unfold snap_reader_number.F
 obtain⟨h0,hv,hq,hn,hv2⟩:=L.number_some h
 have hS1:=hS.fd (cel r)
 clear hS hf
 have hS:=hS1
 clear hS1
 have hdl:(b.drop (C.get 0 0 b).2.1).length=b.length-(C.get 0 0 b).2.1:=List.length_drop
 rw[←hq] at hdl
 repeat' (first|(refine pcq (f:=179) (VGet_ok hS hbl ?_);rw[h0,←hv];clear hS;intro w hS;generalize (C.get 0 0 b).2.1=n at*)|(refine pcq (f:=132) (form_ok ?_))|(refine pN_sl1 (C:=cd_uint8) (s:=s) (l:=b) hS _ rfl rfl hn ?_;intro s2 hp2;rw[←hq] at hp2)|(refine pN_eql_s ?_ ?_<;>intro hc<;>try (exfalso;first|omega|exact gone hc|exact gon2 hc))|refine pN_l hS (by first|rfl|assumption) ?_|(refine pN_s hS (by first|exact Nat.le_of_ble_eq_true rfl|assumption) (by rfl) ?_;clear hS;intro w hS;try simp only[List.set_cons_zero,List.set_cons_succ] at hS)|refine pN_v (hk:=?_)|fail)
 rw[←hdl] at hS
 exact hQ _ hp2 _ hS
theorem rtxt_ok (hS:Sat E w LL) [hf:Fnd (cel r) LL (rdO s b) M] [hr:Rds cd_uint8 M s b] (hbl:b.length<4611686018427387904) {t:List UInt8} (h:L.rtext b=some (t,q))
  (hQ:∀s2,Part cd_uint8 s b s2 q→∀w,Sat E w (rdP r s2 q::M)→Q (.string ⟨t.toArray⟩) w):
  Calls zp 181 #[.pointer (some ⟨r,0,none⟩)] w (retP Q):=by
 refine snap_reader_text.calls ?_
 unfold snap_reader_text.F
 obtain⟨n,r1,hnum,htk⟩:=L.rtext_some h
 refine pcq (f:=130) (rnum_ok hS hbl hnum ?_)
 clear hS
 intro s3 hp3 w hS
 haveI:=hp3.rd M hr
 refine pcq (f:=180) (rtake_ok hS n htk ?_)
 clear hS
 intro s4 s5 hp4 hp5 w hS
 haveI:=hp4.rd M inferInstance
 have htl:t.length=n:=by
  obtain⟨h1,h2,_⟩:=L.take_some htk
  rw[h2,List.length_take];omega
 repeat' (first|refine pN_st hS (by first|rfl|omega|simpa only[go_sem] using True.intro|(simp only[go_sem];omega)) ?_|fail)
 exact hQ _ (hp3.trans hp5) _ hS
abbrev enC (n l:List UInt8) (k m t:Int) (s:Sl) (j:Nat):List Value:=[.string ⟨n.toArray⟩,.string ⟨l.toArray⟩,.int .i64 k,.int .i64 m,.int .i64 t,.slice none 0 0,.slice s.a j s.c]
set_option maxHeartbeats 4000000 in
theorem rent_ok (hS:Sat E w LL) [hf:Fnd (cel r) LL (rdO s b) M] [hr:Rds cd_uint8 M s b] (hbl:b.length≤140737488355328) {e:L.En} (h:L.rrow S.right b=some (e,q))
  (hQ:∀ss s2,Part cd_uint8 s b s2 q→∀w,Sat E w (rows (cdI 58) ss e.sums::rdP r s2 q::M)→Q (.agg (enC e.name e.link e.kind e.mode e.time ss e.sums.length).toArray) w):
  Calls zp 131 #[.pointer (some ⟨r,0,none⟩)] w (retP Q):=by
 refine snap_reader_entry.calls ?_
 unfold snap_reader_entry.F
 obtain⟨kb,b1,m,b2,t,b3,n,b4,h1,h2,h3,h4,h5,hright⟩:=L.rrow_some h
 clear h
 have hS1:=hS.fd (cel r)
 clear hS hf
 have hS:=hS1
 clear hS1
 refine pN_nz hS ?_
 clear hS
 intro x2 w hS
 refine pN_nz hS ?_
 clear hS
 intro x3 w hS
 refine pcq (f:=180) (rtake_ok hS 1 h1 ?_)
 clear hS
 intro s1 s2 hp1 hp2 w hS
 obtain⟨hb1,hkb,hq1⟩:=L.take_some h1
 obtain⟨c0,hc0⟩:∃c0,kb=[c0]:=by
  cases hb:b with
  |nil=>rw[hb] at hb1;simp at hb1
  |cons c0 bb=>exact⟨c0,by rw[hkb,hb];rfl⟩
 subst hc0
 haveI:=hp1.rd M hr
 have hkk:((([c0]:List UInt8).headD 0).toNat:Int)=(c0.toNat:Int):=rfl
 rw[hkk] at h5
 have hk0:([c0]:List UInt8)[0]? =some c0:=rfl
 have l1:=L.take_len h1
 have l2:=L.number_len h2
 have l3:=L.number_len h3
 have l4:=L.rtext_len h4
 haveI:=hp2.rd M hr
 repeat' (first|refine pN_ofb ?_|refine pN_ld1 ha hS ?_|(refine pN_s hS (by first|exact Nat.le_of_ble_eq_true rfl|assumption) (by rfl) ?_;clear hS;intro w hS;try simp only[List.set_cons_zero,List.set_cons_succ] at hS)|refine pN_ixk hS _ (by first|rfl|(exact(Int.toNat_of_nonneg (by omega)).symm)) (by first|rfl|omega|simpa only[go_sem] using True.intro|(simp only[go_sem];omega)) (by assumption) fun a ha hel=>?_|refine pN_v (hk:=?_)|fail)
 refine pcq (f:=130) (rnum_ok hS (by omega) h2 ?_)
 clear hS
 intro s3 hp3 w hS
 have hp3:=hp2.trans hp3
 haveI:=hp3.rd M hr
 repeat' (first|(refine pN_s hS (by first|exact Nat.le_of_ble_eq_true rfl|assumption) (by rfl) ?_;clear hS;intro w hS;try simp only[List.set_cons_zero,List.set_cons_succ] at hS)|refine pN_v (hk:=?_)|fail)
 refine pcq (f:=130) (rnum_ok hS (by omega) h3 ?_)
 clear hS
 intro s4 hp4 w hS
 have hp4:=hp3.trans hp4
 haveI:=hp4.rd M hr
 repeat' (first|(refine pN_s hS (by first|exact Nat.le_of_ble_eq_true rfl|assumption) (by rfl) ?_;clear hS;intro w hS;try simp only[List.set_cons_zero,List.set_cons_succ] at hS)|refine pN_v (hk:=?_)|fail)
 refine pcq (f:=181) (rtxt_ok hS (by omega) h4 ?_)
 clear hS
 intro s5 hp5 w hS
 have hp5:=hp4.trans hp5
 haveI:=hp5.rd M hr
 repeat' (first|(refine pN_s hS (by first|exact Nat.le_of_ble_eq_true rfl|assumption) (by rfl) ?_;clear hS;intro w hS;try simp only[List.set_cons_zero,List.set_cons_succ] at hS)|refine pN_v (hk:=?_)|fail)
 obtain⟨zc,hzc⟩:∃zc,zc=[Value.string ⟨#[]⟩,.string ⟨#[]⟩,.int .i64 0,.int .i64 0,.int .i64 0,.slice none 0 0,.slice none 0 0]:=⟨_,rfl⟩
 have hS:Sat E w (cel x3 ⟨118,enC n [] c0.toNat m t ⟨none,0⟩ 0⟩::rdP r s5 b4::cel x2 ⟨118,zc⟩::M):=by subst hzc;exact hS.to
 clear hp1 hp2 hp3 hp4 h1 h2 h3 h4
 refine⟨fun w=>∃ss s2,Part cd_uint8 s b s2 q∧Sat E w (cel x3 ⟨118,enC e.name e.link e.kind e.mode e.time ss e.sums.length⟩::rows (cdI 58) ss e.sums::rdP r s2 q::cel x2 ⟨118,zc⟩::M),?_,?_⟩
 ·by_cases k0:(c0.toNat:Int)=0
  ·obtain⟨cnt,b5,l,h6,h7,rfl⟩:=L.rtail_0 k0 h5
   have l5:=L.number_len h6
   obtain⟨l6,l7⟩:=L.rsums_len h7
   repeat' (first|(refine pN_eql_s ?_ ?_<;>intro hc<;>try (exfalso;first|omega|exact gone hc|exact gon2 hc))|refine pIf_t ?_|refine pN_l hS (by first|rfl|assumption) ?_|refine pN_v (hk:=?_)|fail)
   refine pcq (f:=130) (rnum_ok hS (by omega) h6 ?_)
   clear hS
   intro s6 hp6 w hS
   have hp6:=hp5.trans hp6
   refine⟨fun v w=>∃(j:Nat) (l0 l1:List I32) (bj:List UInt8) (sj ss:Sl),v= .int .i64 j∧l=l0++l1∧l0.length=j∧L.rsums l1.length bj=some (l1,q)∧Part cd_uint8 s b sj bj∧
    Sat E w (cel x3 ⟨118,enC n [] c0.toNat m t ss l0.length⟩::rows (cdI 58) ss l0::rdP r sj bj::cel x2 ⟨118,zc⟩::M),fun v _=>cnt-(RowKit.intOf v).toNat,
    ⟨0,[],l,b5,s6,⟨none,0⟩,rfl,rfl,rfl,by rw[l6];exact h7,hp6,?_⟩,?_⟩
   ·have h8:Sat E w (rows (cdI 58) ⟨none,0⟩ []::_):=hS.nil (cdI 58).e (cdI 58).size
    exact h8.to
   clear hS
   rintro _ _ w ⟨j,l0,l1,bj,sj,ss,rfl,hl,hj,hrs,hpj,hS⟩
   have hll:=congrArg List.length hl
   rw[List.length_append] at hll
   cases l1 with
   |cons i l1=>
    rw[List.length_cons] at hll hrs
    obtain⟨i2,l2',h8,h9,h10⟩:=L.rsums_s hrs
    obtain⟨rfl,rfl⟩:=List.cons.inj h10
    haveI:=hpj.rd M hr
    repeat' (first|(refine pN_lss_s ?_ ?_<;>intro hc<;>try (exfalso;omega))|refine pIf_t ?_|refine pL_l hS (by first|rfl|assumption) ?_|(refine pDr_go hS ?_;clear hS;intro w hS)|refine pA_v (hk:=?_)|fail)
    refine pcq (f:=180) (rtake_ok hS 32 h8 ?_)
    clear hS
    intro sa sb hpa hpb w hS
    haveI:=hpa.rd M inferInstance
    refine⟨⟨run_l hS rfl,trivial⟩,?_⟩
    refine pN_arat Tryz.underlying58 (Nat.le_refl _) ?_
    refine⟨⟨run_l hS rfl,trivial⟩,?_⟩
    refine pL_arld (s:=sa) hS i ?_
    refine pN_b1 (x:=i) hS rfl (by decide) ?_
    clear hS
    intro sc w hS
    refine⟨⟨run_l hS rfl,trivial⟩,?_⟩
    repeat' (first|(refine pN_s hS (by first|exact Nat.le_of_ble_eq_true rfl|assumption) (by rfl) ?_;clear hS;intro w hS;try simp only[List.set_cons_zero,List.set_cons_succ] at hS)|refine⟨trivial,?_⟩|(refine pN_app hS (by first|rfl|omega|simpa only[go_sem] using True.intro|(simp only[go_sem];omega)) (by first|rfl|omega|simpa only[go_sem] using True.intro|(simp only[go_sem];omega)) (by first|omega|(simp only[go_sem];omega)) ?_;clear hS;intro s w hS)|refine pN_v (hk:=?_)|refine pA_v (hk:=?_)|fail)
    refine⟨⟨j+1,l0++[i],l1,_,sb,s,rfl,by rw[hl,List.append_assoc];rfl,by rw[List.length_append,hj];rfl,h9,hpj.trans hpb,hS.to⟩,by simp[RowKit.intOf]<;>omega⟩
   |nil=>
    obtain⟨_,rfl⟩:=L.rsums_0 hrs
    rw[List.append_nil] at hl
    subst hl
    rw[List.length_nil] at hll
    repeat' (first|(refine pN_lss_s ?_ ?_<;>intro hc<;>try (exfalso;omega))|refine pIf_f ?_|fail)
    exact⟨ss,sj,hpj,hS.to⟩
  ·by_cases k2:(c0.toNat:Int)=2
   ·obtain⟨lk,h6,rfl⟩:=L.rtail_2 k2 h5
    repeat' (first|(refine pN_eql_s ?_ ?_<;>intro hc<;>try (exfalso;first|omega|exact gone hc|exact gon2 hc))|refine pIf_t ?_|refine pIf_f ?_|refine pN_l hS (by first|rfl|assumption) ?_|refine pN_v (hk:=?_)|fail)
    refine pcq (f:=181) (rtxt_ok hS (by omega) h6 ?_)
    clear hS
    intro s6 hp6 w hS
    have hp6:=hp5.trans hp6
    repeat' (first|(refine pN_s hS (by first|exact Nat.le_of_ble_eq_true rfl|assumption) (by rfl) ?_;clear hS;intro w hS;try simp only[List.set_cons_zero,List.set_cons_succ] at hS)|refine pN_v (hk:=?_)|fail)
    have h8:Sat E w (rows (cdI 58) ⟨none,0⟩ []::_):=hS.nil (cdI 58).e (cdI 58).size
    exact⟨⟨none,0⟩,s6,hp6,h8.to⟩
   ·obtain⟨rfl,rfl⟩:=L.rtail_1 k0 k2 h5
    repeat' (first|(refine pN_eql_s ?_ ?_<;>intro hc<;>try (exfalso;first|omega|exact gone hc|exact gon2 hc))|refine pIf_f ?_|refine pN_l hS (by first|rfl|assumption) ?_|refine pN_v (hk:=?_)|fail)
    have h8:Sat E w (rows (cdI 58) ⟨none,0⟩ []::_):=hS.nil (cdI 58).e (cdI 58).size
    exact⟨⟨none,0⟩,s5,hp5,h8.to⟩
 ·have hen:e.name.length≤140737488355328∧e.link.length≤140737488355328:=by
   by_cases k0:(c0.toNat:Int)=0
   ·obtain⟨cnt,b5,l,h6,h7,rfl⟩:=L.rtail_0 k0 h5
    exact⟨by show n.length≤_;omega,by show([]:List UInt8).length≤_;simp⟩
   ·by_cases k2:(c0.toNat:Int)=2
    ·obtain⟨lk,h6,rfl⟩:=L.rtail_2 k2 h5
     have:=L.rtext_len h6
     exact⟨by show n.length≤_;omega,by show lk.length≤_;omega⟩
    ·obtain⟨rfl,rfl⟩:=L.rtail_1 k0 k2 h5
     exact⟨by show n.length≤_;omega,by show([]:List UInt8).length≤_;simp⟩
  have hw0:A.wrong (S.bare e)=0:=of_decide_eq_true hright
  clear hS
  rintro _ w ⟨ss,s2,hp,hS⟩
  subst hzc
  haveI hnil:∀L,Rds cd_uint8 L (S.bare e).Data.1 (S.bare e).Data.2:=fun L=>Rds.nil
  repeat' (first|refine pN_la_at (n:=6) hS (S.bare e).enc rfl rfl ?_|(refine pcq (f:=49) (Put_ok (S.bare e) hen.1 hen.2 hS (fun hne=>absurd hw0 hne) fun _ sp w hS=>?_))|(refine pcq (f:=132) (form_ok ?_))|(refine pN_eql_s ?_ ?_<;>intro hc<;>try (exfalso;first|omega|exact gone hc|exact gon2 hc))|refine pN_la hS (by rfl) ?_|refine pL_ra hS (by rfl) ?_|(refine pN_sa hS (by rfl) (by rfl) (by rfl) ?_;clear hS;intro w hS;try dsimp only at hS)|refine pN_v (hk:=?_)|fail)
  exact hQ _ _ hp _ hS.to
end
end
section
section
variable {α:Type} {C:Cd α} {s:Sl} {l:List α}
theorem EA.fldn {a:Addr} {cs:List Value} (ha:EA C s l a cs) (off:Nat) {us:List Value} (hu:(cs.drop off).take us.length=us):EA C s l (a.add off) us:=⟨fun E w M h hS j u hj=>by
 have h1:=ha.at_ E w M h hS
 rw[Addr.add_add]
 refine h1 _ _ ?_
 rw[←hu,List.getElem?_take] at hj
 split at hj
 ·rwa[List.getElem?_drop] at hj
 ·cases hj⟩
variable [Pan] {P:Program} {w:World} {K:Value→World→Prop} {J:Value→Prop} {t:TypeId}
theorem pN_fan {a:Addr} {cs:List Value} {f off:Nat} (ha:EA C s l a cs) [hf:FA P t f off] (us:List Value) (hu:(cs.drop off).take us.length=us) (hk:∀a,EA C s l a us→K (.pointer (some a)) w):pN P (oFld t (.pointer (some a)) f) w K:=by
 rw[pN_def,hf.run,rN_value];exact hk _ (ha.fldn off hu)
theorem pA_fan {a:Addr} {cs:List Value} {f off:Nat} (ha:EA C s l a cs) [hf:FA P t f off] (us:List Value) (hu:(cs.drop off).take us.length=us) (hk:∀a,EA C s l a us→J (.pointer (some a))):pA P (oFld t (.pointer (some a)) f) J:=
 ⟨_,hf.run a,hk _ (ha.fldn off hu)⟩
end
section
variable {α:Type} {C:Cd α} {A:HA} {fz:List HA} {s s':Sl} {l l':List α} {E w:World} {M:List HA}
theorem RdP.of_rds (h:Rds C [A] s l):RdP C A s l:=⟨fun w ⟨h1,hA,hh⟩=>h.rd w w ⟨rfl,rfl,rfl,h1,hA,hh,trivial⟩⟩
theorem RdP.part (h:RdP C A s l) (p:Part C s l s' l'):RdP C A s' l':=RdP.of_rds (p.rd [A] inferInstance)
theorem RdP.tail (h:RdP C (bag fz) s l):RdP C (bag (A::fz)) s l:=⟨fun w ⟨h1,hN,hh⟩=>h.rd w ⟨h1,Sats.drop1 hN,hh⟩⟩
theorem RdP.hd (h:RdP C A s l):RdP C (bag (A::fz)) s l:=⟨RdA.bag List.mem_cons_self h.rd⟩
end
abbrev PcE:=I32×(Sl×List UInt8)
abbrev NmE:=List UInt8×(Sl×List I32)
theorem pcE_one (b:PcE) (u:Value) (hu:u∈bvs b.1.l++[Value.slice b.2.1.a b.2.2.length b.2.1.c]):u.oneCell'=true:=by
 rcases List.mem_append.1 hu with hu|hu
 ·exact(cdI 0).one b.1 u hu
 ·rw[List.mem_singleton.1 hu];rfl
def cdPc:Cd PcE:={ e:=281,size:=33,bytes:=56,zero:=(⟨List.replicate 32 0,List.length_replicate⟩,(⟨none,0⟩,[])),enc:=fun p=>bvs p.1.l++[Value.slice p.2.1.a p.2.2.length p.2.1.c],len:=fun p=>by rw[List.length_append,bvs_length,p.1.h];rfl,one:=pcE_one }
instance bt_Pc:Bt cdPc 56:=⟨rfl⟩
instance row_Pc:Row zp 186 PcE cdPc:=⟨⟨.agg (bvs (List.replicate 32 0)++[Value.slice none 0 0]).toArray,⟨Tryz.underlying186,info_parts (by kernel_rfl),rfl,by decide⟩,rfl⟩,by decide⟩
def cdNm:Cd NmE:={ e:=247,size:=2,bytes:=40,zero:=([],(⟨none,0⟩,[])),enc:=fun p=>[.string ⟨p.1.toArray⟩,.slice p.2.1.a p.2.2.length p.2.1.c],len:=fun _=>rfl,one:=by intro b u hu;simp only[List.mem_cons,List.not_mem_nil,or_false] at hu;rcases hu with rfl|rfl<;>rfl }
instance bt_Nm:Bt cdNm 40:=⟨rfl⟩
instance row_Nm:Row zp 187 NmE cdNm:=⟨⟨.agg #[.string ⟨#[]⟩,.slice none 0 0],⟨Tryz.underlying187,info_parts (by kernel_rfl),rfl,by decide⟩,rfl⟩,by decide⟩
theorem pc_id (x:PcE):((cdPc.enc x).drop 0).take (bvs x.1.l).length=bvs x.1.l:=by
 show((bvs x.1.l++[_]).drop 0).take _=_
 rw[List.drop_zero,List.take_left]
theorem pc_dat (x:PcE):(cdPc.enc x)[32]? =some (.slice x.2.1.a x.2.2.length x.2.1.c):=by
 show(bvs x.1.l++[_])[32]? =_
 rw[List.getElem?_append_right (by rw[bvs_length,x.1.h];exact Nat.le_refl _),bvs_length,x.1.h]
 rfl
def plm {κ α:Type} (l:List (κ×(Sl×List α))):List (κ×List α):=l.map fun x=>(x.1,x.2.2)
theorem plm_len {κ α:Type} (l:List (κ×(Sl×List α))):(plm l).length=l.length:=List.length_map ..
theorem plm_app {κ α:Type} (l m:List (κ×(Sl×List α))):plm (l++m)=plm l++plm m:=List.map_append ..
theorem plm_cut {κ α:Type} (l:List (κ×(Sl×List α))) (j:Nat):plm l=plm (l.take j)++plm (l.drop j):=by rw[←plm_app,List.take_append_drop]
theorem plm_snoc {κ α:Type} {l:List (κ×(Sl×List α))} {j:Nat} {x:κ×(Sl×List α)} (h:l[j]? =some x):plm (l.take (j+1))=plm (l.take j)++[(x.1,x.2.2)]:=by
 rw[List.take_add_one,h,plm_app];rfl
theorem look_first {κ α:Type} [DecidableEq κ] {l:List (κ×(Sl×List α))} {j:Nat} {x:κ×(Sl×List α)} {k:κ} (h0:D.look (plm (l.take j)) k=none) (h:l[j]? =some x) (hx:x.1=k):D.look (plm l) k=some x.2.2:=by
 rw[plm_cut l j,D.look_app,h0]
 have hd:l.drop j=x::l.drop (j+1):=by
  have hj:=(List.getElem?_eq_some_iff.1 h).1
  rw[List.drop_eq_getElem_cons hj]
  rw[List.getElem?_eq_getElem hj] at h
  rw[Option.some.inj h]
 rw[hd]
 show(if x.1=k then some x.2.2 else _)=_
 rw[if_pos hx]
theorem look_past {κ α:Type} [DecidableEq κ] {l:List (κ×(Sl×List α))} {j:Nat} {x:κ×(Sl×List α)} {k:κ} (h0:D.look (plm (l.take j)) k=none) (h:l[j]? =some x) (hx:x.1≠k):D.look (plm (l.take (j+1))) k=none:=by
 rw[plm_snoc h,D.look_app,h0]
 show(if x.1=k then _ else _)=_
 rw[if_neg hx];rfl
abbrev r5C (c:T_api_Config) (k:C.K) (sp:Sl) (np:Nat) (sn:Sl) (nn:Nat):List Value:=c.enc++[.int .i64 k.least,.int .i64 k.most,.int .i64 k.bits]++[.slice sp.a np sp.c,.slice sn.a nn sn.c]
abbrev r5P (c:T_api_Config) (b:Nat) (k:C.K) (sp:Sl) (pl:List PcE) (sn:Sl) (nl:List NmE) (M:List HA):List HA:=
 cel b ⟨189,r5C c k sp pl.length sn nl.length⟩::rows cdPc sp pl::rows cdNm sn nl::M
structure R5 (d:D.T) (fz:List HA) (pl:List PcE) (nl:List NmE):Prop where
 like:D.T.Like ⟨d.k,plm pl,plm nl⟩ d
 pr:∀x∈pl,RdP cd_uint8 (bag fz) x.2.1 x.2.2
 nr:∀x∈nl,RdP (cdI 58) (bag fz) x.2.1 x.2.2
def RDq (c:T_api_Config) (b:Nat) (x:D.T×List HA):HA:=fun h=>∃(sp sn:Sl) (pl:List PcE) (nl:List NmE),R5 x.1 x.2 pl nl∧Sats (r5P c b x.1.k sp pl sn nl [bag x.2]) h
section
variable {E w:World} {M:List HA} {c:T_api_Config} {b:Nat} {d:D.T} {fz:List HA}
theorem RDq.opn (hS:Sat E w (RDq c b (d,fz)::M)):∃sp sn pl nl,R5 d fz pl nl∧Sat E w (r5P c b d.k sp pl sn nl (bag fz::M)):=by
 obtain⟨sp,hS⟩:=hS.ex
 obtain⟨sn,hS⟩:=hS.ex
 obtain⟨pl,hS⟩:=hS.ex
 obtain⟨nl,hS⟩:=hS.ex
 have h1:R5 d fz pl nl:=by
  obtain⟨h,hh,_⟩:=hS.head
  exact hh.1
 exact⟨sp,sn,pl,nl,h1,(hS.weaken fun h hh=>hh.2).open_ (M:=r5P c b d.k sp pl sn nl [bag fz]) fun _ h=>h⟩
theorem RDq.shut {sp sn:Sl} {pl:List PcE} {nl:List NmE} {k:C.K} (ht:R5 d fz pl nl) (hk:k=d.k) (hS:Sat E w (r5P c b k sp pl sn nl (bag fz::M))):Sat E w (RDq c b (d,fz)::M):=by
 subst hk
 exact Sat.shut (M:=r5P c b d.k sp pl sn nl [bag fz]) hS fun h hh=>⟨sp,sn,pl,nl,ht,hh⟩
instance RDq.rd {α:Type} {C:Cd α} {s:Sl} {l:List α} [h:RdP C (bag fz) s l]:RdP C (RDq c b (d,fz)) s l:=⟨fun w ⟨h1,⟨sp,sn,pl,nl,_,hs⟩,hh⟩=>by
 obtain⟨h2,hA,hsub⟩:=Sats.mem (show bag fz∈r5P c b d.k sp pl sn nl [bag fz] by simp) hs
 exact h.rd w ⟨h2,hA,fun b o e=>hh b o (hsub b o e)⟩⟩
theorem R5.more {A:HA} {pl:List PcE} {nl:List NmE} (h:R5 d fz pl nl):R5 d (A::fz) pl nl:=⟨h.like,fun x hx=>(h.pr x hx).tail,fun x hx=>(h.nr x hx).tail⟩
theorem RDq.freeze {A:HA} (hS:Sat E w (A::RDq c b (d,fz)::M)):Sat E w (RDq c b (d,A::fz)::M):=by
 obtain⟨sp,sn,pl,nl,ht,hS⟩:=RDq.opn (M:=A::M) (hS.perm (List.Perm.swap _ _ _))
 have hS:Sat E w (A::bag fz::(r5P c b d.k sp pl sn nl M)):=hS.to
 have hS:Sat E w (r5P c b d.k sp pl sn nl (bag (A::fz)::M)):=hS.bag_cons.to
 exact RDq.shut ht.more rfl hS
end
namespace D
theorem put1_len (d:T) (p:B):(d.put1 p).ps.length≤d.ps.length+1:=by
 unfold T.put1
 split
 ·omega
 ·show(upd d.ps (H.sum p) p).length≤_
  rw[upd_len]
  split<;>omega
theorem puts_len:∀(l:List B) (d:T),(d.puts l).ps.length≤d.ps.length+l.length
 | [],d=>Nat.le_refl _
 |p::l,d=>by
  have h1:=puts_len l (d.put1 p)
  have h2:=put1_len d p
  show((d.put1 p).puts l).ps.length≤_
  rw[List.length_cons];omega
end D
end
section
variable [Pan] {x0:Value} {w:World} {Q:QQ}
set_option maxRecDepth 100000
def pithref02_Put.H:Hints:={ cut:=fun _=>none,loop:=fun|4=>([0,4],262033)|_=>([],0),order:=fun _=>[] }
def pithref02_Put.F (x0:Value) (w:World) (Q:QQ):Prop:=
 pN zp (oBin .gtr 212 (.tmp 5) (.const (.int .u64 9223372036854775807)) x0 (.int .u64 9223372036854775807)) w fun x6 w1=>
 pIf x6
 (Q (.tuple #[(.slice none 0 0),(.int .i64 7)]) w1)
 (∃(L4:Value→Value→World→Prop) (m4:Value→Value→World→Nat),
 L4 x0 (.slice none 0 0) w1∧
 ∀(_k4:Env) (v0l4:Value) (b4l4:Value) (w2:World),L4 v0l4 b4l4 w2→
 pN zp (oBin .geq 212 (.tmp 7) (.const (.int .u64 128)) v0l4 (.int .u64 128)) w2 fun x8 w3=>
 pIf x8
 (pN zp (oBin .rem 212 (.tmp 10) (.const (.int .u64 128)) v0l4 (.int .u64 128)) w3 fun x11 w4=>
 pN zp (oBin .add 212 (.tmp 11) (.const (.int .u64 128)) x11 (.int .u64 128)) w4 fun x12 w5=>
 pN zp (oConv 212 5 x12) w5 fun x13 w6=>
 pN zp (oBs 47 1 [(0,x13)]) w6 fun x14 w7=>
 pN zp (oBi .append #[47,47] 47 [false,false] [b4l4,x14]) w7 fun x15 w8=>
 pN zp (oBin .quo 212 (.tmp 16) (.const (.int .u64 128)) v0l4 (.int .u64 128)) w8 fun x17 w9=>
 (L4 x17 x15 w9∧m4 x17 x15 w9<m4 v0l4 b4l4 w2))
 (pN zp (oConv 212 5 v0l4) w3 fun x20 w10=>
 pN zp (oBs 47 1 [(0,x20)]) w10 fun x21 w11=>
 pN zp (oBi .append #[47,47] 47 [false,false] [b4l4,x21]) w11 fun x22 w12=>
 Q (.tuple #[x22,(.int .i64 0)]) w12))
theorem pithref02_Put.calls (h:pithref02_Put.F x0 w Q):Calls zp 201 #[x0] w (retP Q):=cl pithref02_Put.H [x0] Tryz.func201 h
def pithref02_Get.H:Hints:={ cut:=fun _=>none,loop:=fun|4=>([5,6,7],1152921504606846972)|_=>([],0),order:=fun _=>[] }
def pithref02_Get.F (x0:Value) (w:World) (Q:QQ):Prop:=
 ∃(L4:Value→Value→Value→World→Prop) (m4:Value→Value→Value→World→Nat),
 L4 (.int .u64 0) (.int .u64 1) (.int .i64 0) w∧
 ∀(_k4:Env) (v5l4:Value) (weight6l4:Value) (i7l4:Value) (w1:World),L4 v5l4 weight6l4 i7l4 w1→
 pN zp (oBi .len #[47] 3 [false] [x0]) w1 fun x10 w2=>
 pN zp (oBin .lss 3 (.tmp 8) (.tmp 10) i7l4 x10) w2 fun x11 w3=>
 pIf x11
 (pN zp (oIdx 47 x0 i7l4) w3 fun x16 w4=>
 pN zp (oLoad 5 x16) w4 fun x17 w5=>
 pN zp (oBin .geq 5 (.tmp 17) (.const (.int .u8 128)) x17 (bv 128)) w5 fun x18 w6=>
 pGd (gB x18 true) (pN zp (oMv i7l4) w6) w6 fun x20 w7=>
 pGd (gB x18 true) (pN zp (oBin .eql 3 (.tmp 20) (.const (.int .i64 8)) x20 (.int .i64 8)) w7) w7 fun x21 w8=>
 pN zp (oPick x18 x21 (.bool false)) w8 fun x22 w9=>
 pIf x22
 (Q (.tuple #[(.int .u64 0),(.int .i64 0),(.int .i64 2)]) w9)
 (pN zp (oIdx 47 x0 i7l4) w9 fun x25 w10=>
 pN zp (oLoad 5 x25) w10 fun x26 w11=>
 pN zp (oBin .lss 5 (.tmp 26) (.const (.int .u8 128)) x26 (bv 128)) w11 fun x27 w12=>
 pIf x27
 (pN zp (oIdx 47 x0 i7l4) w12 fun x30 w13=>
 pN zp (oLoad 5 x30) w13 fun x31 w14=>
 pN zp (oBin .eql 5 (.tmp 31) (.const (.int .u8 0)) x31 (bv 0)) w14 fun x32 w15=>
 pGd (gB x32 true) (pN zp (oMv i7l4) w15) w15 fun x34 w16=>
 pGd (gB x32 true) (pN zp (oBin .gtr 3 (.tmp 34) (.const (.int .i64 0)) x34 (.int .i64 0)) w16) w16 fun x35 w17=>
 pN zp (oPick x32 x35 (.bool false)) w17 fun x36 w18=>
 pIf x36
 (Q (.tuple #[(.int .u64 0),(.int .i64 0),(.int .i64 2)]) w18)
 (pN zp (oIdx 47 x0 i7l4) w18 fun x41 w19=>
 pN zp (oLoad 5 x41) w19 fun x42 w20=>
 pN zp (oConv 5 212 x42) w20 fun x43 w21=>
 pN zp (oBin .mul 212 (.tmp 38) (.tmp 43) weight6l4 x43) w21 fun x44 w22=>
 pN zp (oBin .add 212 (.tmp 37) (.tmp 44) v5l4 x44) w22 fun x45 w23=>
 pN zp (oBin .add 3 (.tmp 46) (.const (.int .i64 1)) i7l4 (.int .i64 1)) w23 fun x47 w24=>
 Q (.tuple #[x45,x47,(.int .i64 0)]) w24))
 (pN zp (oIdx 47 x0 i7l4) w12 fun x52 w25=>
 pN zp (oLoad 5 x52) w25 fun x53 w26=>
 pN zp (oBin .sub 5 (.tmp 53) (.const (.int .u8 128)) x53 (bv 128)) w26 fun x54 w27=>
 pN zp (oConv 5 212 x54) w27 fun x55 w28=>
 pN zp (oBin .mul 212 (.tmp 49) (.tmp 55) weight6l4 x55) w28 fun x56 w29=>
 pN zp (oBin .add 212 (.tmp 48) (.tmp 56) v5l4 x56) w29 fun x57 w30=>
 pN zp (oBin .mul 212 (.tmp 58) (.const (.int .u64 128)) weight6l4 (.int .u64 128)) w30 fun x59 w31=>
 pN zp (oBin .add 3 (.tmp 12) (.const (.int .i64 1)) i7l4 (.int .i64 1)) w31 fun x13 w32=>
 (L4 x57 x59 x13 w32∧m4 x57 x59 x13 w32<m4 v5l4 weight6l4 i7l4 w1))))
 (Q (.tuple #[(.int .u64 0),(.int .i64 0),(.int .i64 1)]) w3)
theorem pithref02_Get.calls (h:pithref02_Get.F x0 w Q):Calls zp 216 #[x0] w (retP Q):=cl pithref02_Get.H [x0] Tryz.func216 h
end
end Go.Proofs.YtikmogfhhggafaaGreatDoor
