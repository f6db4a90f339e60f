import Derived.Test.YtikmogfhhggafaaGreatDoorRows
import Derived.Test.YtikmogfhhggafaaGreatDoorMg5
set_option linter.all false
namespace Go.Proofs.YtikmogfhhggafaaGreatDoor
open Go
open Go.Proofs.Tryz renaming prog→zp
section
attribute [local irreducible] oMv oV oU oCall oCallV oBi oBin oUn oLoad oStore oNil oFld oField oIdx oIndex oPick oAlloc oBox oBuild oBs oConv oMk oSl oExt oFn oIface oMap oLook oMapUp oRange oNext oEntry oInv oAssert oPanic oRes pN pA pL pDr pIf gA pGd Calls
section
section
variable [Pan] {P:Program} {w:World} {K:Value→World→Prop} {t:TypeId} {xo yo:Operand} {a b:Nat} {m:Int}
theorem pN_quo64 (hm:m=(b:Int)) (hb:0<b) (ha:a<18446744073709551616) (hk:K (.int .u64 ((a / b:Nat):Int)) w):pN P (oBin .quo t xo yo (.int .u64 (a:Int)) (.int .u64 m)) w K:=by
 subst hm
 have h1:a / b≤a:=Nat.div_le_self a b
 rw[pN_quo _ _ _ _ _ _ (by omega),←Int.ofNat_tdiv,w64_nat (by omega)]
 exact hk
theorem pN_rem64 (hm:m=(b:Int)) (hb:0<b) (hk:K (.int .u64 ((a%b:Nat):Int)) w):pN P (oBin .rem t xo yo (.int .u64 (a:Int)) (.int .u64 m)) w K:=by
 subst hm
 rw[pN_rem _ _ _ _ _ _ (by omega),←Int.ofNat_tmod]
 exact hk
theorem pN_add64 (hm:m=(b:Int)) (h:a+b<18446744073709551616) (hk:K (.int .u64 ((a+b:Nat):Int)) w):pN P (oBin .add t xo yo (.int .u64 (a:Int)) (.int .u64 m)) w K:=by
 subst hm
 rw[pN_add,←Int.natCast_add,w64_nat h]
 exact hk
theorem pN_mul64 (hm:m=(b:Int)) (h:a*b<18446744073709551616) (hk:K (.int .u64 ((a*b:Nat):Int)) w):pN P (oBin .mul t xo yo (.int .u64 (a:Int)) (.int .u64 m)) w K:=by
 subst hm
 rw[pN_mul,←Int.natCast_mul,w64_nat h]
 exact hk
end
namespace C
theorem put_at {v j:Nat} (hv:v<9223372036854775808) (h1:0<j→128^j≤v) (h2:v / 128^j<128):put v=more v j++[byteOf ((v / 128^j:Nat):Int)]:=by
 obtain⟨b1,b2⟩:=nsize_bound hv
 obtain⟨n1,n9⟩:=nsize_pos hv
 have hlt:v<128^(j+1):=by rw[Nat.pow_succ,Nat.mul_comm];exact(Nat.div_lt_iff_lt_mul (Nat.pow_pos (by decide))).1 h2
 have e:nsize v-1=j:=by
  rcases Nat.lt_trichotomy (nsize v-1) j with h|h|h
  ·have h3:=h1 (by omega)
   have h4:128^nsize v≤128^j:=Nat.pow_le_pow_right (by decide) (by omega)
   omega
  ·exact h
  ·have h3:=b2 (by omega)
   have h4:128^(j+1)≤128^(nsize v-1):=Nat.pow_le_pow_right (by decide) (by omega)
   omega
 rw[put,e]
theorem more_def (n v:Nat):more v (n+1)=more v n++[byteOf ((v / 128^n%128+128:Nat):Int)]:=more_snoc n v
theorem more_0 (v:Nat):more v 0=[]:=rfl
theorem pow_8 {i:Nat} (hi:i≤8):128^i≤72057594037927936:=Nat.pow_le_pow_right (n:=128) (by decide) hi
end C
attribute [local irreducible] C.put C.more C.get C.nsize
section
variable [Pan] {E w W:World} {K Q:Value→World→Prop} {J:Value→Prop} {L M N:List HA} {l:List UInt8} {s s2:Sl}
set_option maxHeartbeats 1000000 in
theorem r2put_ok (v:Nat) (hv:v<9223372036854775808) (hS:Sat E w M) (hQ:∀s w,Sat E w (rows cd_uint8 s (C.put v)::M)→Q (.tuple #[.slice s.a (C.put v).length s.c,.int .i64 0]) w):
  Calls zp 201 #[.int .u64 v] w (retP Q):=by
 refine pithref02_Put.calls ?_
 unfold pithref02_Put.F
 have hpa:=fun {j:Nat}=>C.put_at (j:=j) hv
 repeat' (first|(refine pN_gtr_s ?_ ?_<;>intro hc<;>try (exfalso;omega))|refine pIf_f ?_|fail)
 refine⟨fun x y w=>∃(j:Nat) (so:Sl),x= .int .u64 ((v / 128^j:Nat):Int)∧y= .slice so.a (C.more v j).length so.c∧(0<j→128^j≤v)∧j≤9∧Sat E w (rows cd_uint8 so (C.more v j)::M),fun x _ _=>(RowKit.intOf x).toNat,
  ⟨0,⟨none,0⟩,by rw[Nat.pow_zero,Nat.div_one],by rw[C.more_0];rfl,fun h=>absurd h (by decide),by omega,by rw[C.more_0];exact hS.nil cd_uint8.e cd_uint8.size⟩,?_⟩
 clear hS
 rintro _ _ _ w ⟨j,so,rfl,rfl,hj,hj9,hS⟩
 have hp0:0<128^j:=Nat.pow_pos (by decide)
 have hx:v / 128^j≤v:=Nat.div_le_self _ _
 have hml:(C.more v j).length=j:=C.more_len j v
 by_cases h128:128≤v / 128^j
 ·have hnx:128^(j+1)≤v:=by
   rw[Nat.pow_succ,Nat.mul_comm]
   exact(Nat.le_div_iff_mul_le hp0).1 h128
  have hdv:v / 128^(j+1)=v / 128^j / 128:=by rw[Nat.pow_succ,Nat.div_div_eq_div_mul]
  have hmr:=C.more_def j v
  have hj8:j+1≤9:=by
   rcases Nat.lt_or_ge 9 (j+1) with h|h
   ·have h4:128^10≤128^(j+1):=Nat.pow_le_pow_right (by decide) (by omega)
    have h5:(128:Nat)^10=1180591620717411303424:=rfl
    omega
   ·exact h
  have hlt:v / 128^j / 128<v / 128^j:=Nat.div_lt_self (by omega) (by decide)
  generalize hX:v / 128^j=X at*
  generalize C.more v j=D at*
  repeat' (first|refine pN_rem64 (b:=128) rfl (by decide) ?_|refine pN_add64 (b:=128) rfl (by omega) ?_|refine pN_quo64 (b:=128) rfl (by decide) (by omega) ?_|(refine pN_geq_s ?_ ?_<;>intro hc<;>try (exfalso;omega))|refine pIf_t ?_|refine pN_tob ?_|(refine pN_b1 hS (by rfl) (by decide) ?_;clear hS;intro s w hS)|(refine pN_app hS (by first|rfl|omega|simpa only[go_sem] using True.intro|(simp only[go_sem];omega)) (by first|rfl|omega|simpa only[go_sem] using True.intro|(simp only[go_sem];omega)) (by first|omega|(simp only[go_sem];omega)) ?_;clear hS;intro s w hS)|fail)
  rw[←hmr] at hS ⊢
  exact⟨⟨j+1,s,by rw[hdv],rfl,fun _=>hnx,hj8,hS.to⟩,by simp[RowKit.intOf]<;>omega⟩
 ·have hp:=hpa hj (by omega)
  rw[hp] at hQ
  generalize v / 128^j=X at*
  generalize C.more v j=D at*
  repeat' (first|(refine pN_geq_s ?_ ?_<;>intro hc<;>try (exfalso;omega))|refine pIf_f ?_|refine pN_tob ?_|(refine pN_b1 hS (by rfl) (by decide) ?_;clear hS;intro s w hS)|(refine pN_app hS (by first|rfl|omega|simpa only[go_sem] using True.intro|(simp only[go_sem];omega)) (by first|rfl|omega|simpa only[go_sem] using True.intro|(simp only[go_sem];omega)) (by first|omega|(simp only[go_sem];omega)) ?_;clear hS;intro s w hS)|fail)
  exact hQ _ _ hS.to
set_option maxHeartbeats 2000000 in
theorem r2get_ok (hS:Sat E w M) [hr:Rds cd_uint8 M s l] (hl:l.length<4611686018427387904) (hQ:∀w,Sat E w M→Q (.tuple #[.int .u64 (C.get 0 0 l).1,.int .i64 (C.get 0 0 l).2.1,.int .i64 (C.get 0 0 l).2.2]) w):
  Calls zp 216 #[.slice s.a l.length s.c] w (retP Q):=by
 refine pithref02_Get.calls ?_
 unfold pithref02_Get.F
 refine⟨fun x y z w=>∃v i:Nat,x= .int .u64 (v:Int)∧y= .int .u64 ((128^i:Nat):Int)∧z= .int .i64 i∧i≤l.length∧i≤8∧v<128^i∧C.get 0 0 l=C.get v i (l.drop i)∧Sat E w M,fun _ _ z _=>l.length-(RowKit.intOf z).toNat,⟨0,0,rfl,rfl,rfl,by omega,by omega,by decide,by rw[List.drop_zero],hS⟩,?_⟩
 clear hS
 rintro _ _ _ _ w ⟨v,i,rfl,rfl,rfl,hi,hi8,hv,hg,hS⟩
 by_cases hlt:i<l.length
 ·obtain⟨c,hc⟩:∃c,l[i]? =some c:=⟨l[i],by simp[hlt]⟩
  have hd:l.drop i=c::l.drop (i+1):=by
   rw[List.drop_eq_getElem_cons hlt]
   rw[List.getElem?_eq_getElem hlt] at hc
   rw[Option.some.inj hc]
  rw[hd] at hg
  have hcl:=c.toNat_lt
  have hp8:=C.pow_8 hi8
  have hps:128^(i+1)=128^i*128:=Nat.pow_succ ..
  have h128:(128:UInt8).toNat=128:=rfl
  have hm1:128^i*c.toNat≤128^i*255:=Nat.mul_le_mul_left _ (by omega)
  have hm2:128^i*(c.toNat-128)≤128^i*127:=Nat.mul_le_mul_left _ (by omega)
  by_cases hc8:c.toNat<128
  ·have hlt8:c<128:=by rw[UInt8.lt_iff_toNat_lt];exact hc8
   have hn8:¬(128:UInt8)≤c:=by rw[UInt8.le_iff_toNat_le,h128];omega
   by_cases hz:c.toNat=0∧0<i
   ·rw[C.get_c0 hc8 hz] at hg
    rw[hg] at hQ
    have h0:c=0:=UInt8.toNat_inj.1 hz.1
    generalize 128^i=p at*
    repeat' (first|refine pN_geq_sb (fun h=>absurd h hn8) (fun _=>?_)|refine pN_lss_sb (fun _=>?_) (fun h=>absurd hlt8 h)|refine pN_eql_sb (fun _=>?_) (fun h=>absurd h0 h)|((first|refine pN_lss_s ?_ ?_|refine pN_gtr_s ?_ ?_)<;>intro hc<;>try (exfalso;omega))|refine pIf_t ?_|refine pIf_f ?_|refine pGd_go (by rfl) ?_|refine pGd_no (by rfl) ?_|refine pN_ld1 ha hS ?_|refine pN_ixk hS _ (by first|rfl|(exact(Int.toNat_of_nonneg (by omega)).symm)) (by first|rfl|omega|simpa only[go_sem] using True.intro|(simp only[go_sem];omega)) (by assumption) fun a ha hel=>?_|refine pN_v (hk:=?_)|fail)
    exact hQ _ hS
   ·rw[C.get_c hc8 hz] at hg
    rw[hg] at hQ
    have hcm:c.toNat*128^i=128^i*c.toNat:=Nat.mul_comm _ _
    rw[hcm] at hQ
    have e1:((i:Int)+1)=((i+1:Nat):Int):=by omega
    generalize 128^i=p at*
    by_cases h0:c=0
    ·subst h0
     have hi0:i=0:=by
      rcases Nat.eq_zero_or_pos i with h|h
      ·exact h
      ·exact absurd ⟨rfl,h⟩ hz
     subst hi0
     repeat' (first|refine pN_geq_sb (fun h=>absurd h hn8) (fun _=>?_)|refine pN_lss_sb (fun _=>?_) (fun h=>absurd hlt8 h)|refine pN_mul64 (b:=(0:UInt8).toNat) rfl (by omega) ?_|refine pN_add64 (b:=p*(0:UInt8).toNat) rfl (by omega) ?_|((first|refine pN_lss_s ?_ ?_|refine pN_gtr_s ?_ ?_)<;>intro hc<;>try (exfalso;omega))|(refine pN_eql_s ?_ ?_<;>intro hc<;>try (exfalso;first|omega|exact gone hc|exact gon2 hc))|refine pIf_t ?_|refine pIf_f ?_|refine pGd_go (by rfl) ?_|refine pGd_no (by rfl) ?_|refine pN_ofb ?_|refine pN_ld1 ha hS ?_|refine pN_ixk hS _ (by first|rfl|(exact(Int.toNat_of_nonneg (by omega)).symm)) (by first|rfl|omega|simpa only[go_sem] using True.intro|(simp only[go_sem];omega)) (by assumption) fun a ha hel=>?_|refine pN_v (hk:=?_)|fail)
     exact hQ _ hS
    ·repeat' (first|refine pN_geq_sb (fun h=>absurd h hn8) (fun _=>?_)|refine pN_lss_sb (fun _=>?_) (fun h=>absurd hlt8 h)|refine pN_eql_sb (fun h=>absurd h h0) (fun _=>?_)|refine pN_mul64 (b:=c.toNat) rfl (by omega) ?_|refine pN_add64 (b:=p*c.toNat) rfl (by omega) ?_|(refine pN_lss_s ?_ ?_<;>intro hc<;>try (exfalso;omega))|refine pIf_t ?_|refine pIf_f ?_|refine pGd_no (by rfl) ?_|refine pN_ofb ?_|refine pN_ld1 ha hS ?_|refine pN_ixk hS _ (by first|rfl|(exact(Int.toNat_of_nonneg (by omega)).symm)) (by first|rfl|omega|simpa only[go_sem] using True.intro|(simp only[go_sem];omega)) (by assumption) fun a ha hel=>?_|refine pN_v (hk:=?_)|fail)
     rw[e1]
     exact hQ _ hS
  ·have hlt8:¬c<128:=by rw[UInt8.lt_iff_toNat_lt];exact hc8
   have hn8:(128:UInt8)≤c:=by rw[UInt8.le_iff_toNat_le,h128];omega
   by_cases hi8e:i=8
   ·rw[C.get_m8 hc8 hi8e] at hg
    rw[hg] at hQ
    subst hi8e
    repeat' (first|refine pN_geq_sb (fun _=>?_) (fun h=>absurd hn8 h)|(refine pN_lss_s ?_ ?_<;>intro hc<;>try (exfalso;omega))|(refine pN_eql_s ?_ ?_<;>intro hc<;>try (exfalso;first|omega|exact gone hc|exact gon2 hc))|refine pIf_t ?_|refine pGd_go (by rfl) ?_|refine pN_ld1 ha hS ?_|refine pN_ixk hS _ (by first|rfl|(exact(Int.toNat_of_nonneg (by omega)).symm)) (by first|rfl|omega|simpa only[go_sem] using True.intro|(simp only[go_sem];omega)) (by assumption) fun a ha hel=>?_|refine pN_v (hk:=?_)|fail)
    exact hQ _ hS
   ·rw[C.get_m hc8 hi8e] at hg
    have hcm:(c.toNat-128)*128^i=128^i*(c.toNat-128):=Nat.mul_comm _ _
    rw[hcm] at hg
    have hsb:(c-128).toNat=c.toNat-128:=by rw[UInt8.toNat_sub_of_le _ _ hn8,h128]
    rw[←hsb] at hg hm2
    generalize 128^i=p at*
    repeat' (first|refine pN_geq_sb (fun _=>?_) (fun h=>absurd hn8 h)|refine pN_lss_sb (fun h=>absurd h hlt8) (fun _=>?_)|refine pN_mul64 (b:=(c-128).toNat) rfl (by omega) ?_|refine pN_add64 (b:=p*(c-128).toNat) rfl (by omega) ?_|refine pN_mul64 (b:=128) rfl (by omega) ?_|(refine pN_lss_s ?_ ?_<;>intro hc<;>try (exfalso;omega))|(refine pN_eql_s ?_ ?_<;>intro hc<;>try (exfalso;first|omega|exact gone hc|exact gon2 hc))|refine pIf_t ?_|refine pIf_f ?_|refine pGd_go (by rfl) ?_|refine pN_ofb ?_|refine pN_ld1 ha hS ?_|refine pN_ixk hS _ (by first|rfl|(exact(Int.toNat_of_nonneg (by omega)).symm)) (by first|rfl|omega|simpa only[go_sem] using True.intro|(simp only[go_sem];omega)) (by assumption) fun a ha hel=>?_|refine pN_v (hk:=?_)|fail)
    exact⟨⟨_,i+1,rfl,by rw[hps],by congr 1,by omega,by omega,by omega,hg,hS⟩,by simp[RowKit.intOf]<;>omega⟩
 ·obtain rfl:i=l.length:=by omega
  rw[List.drop_length,C.get_nil] at hg
  rw[hg] at hQ
  generalize 128^l.length=p at*
  repeat' (first|(refine pN_lss_s ?_ ?_<;>intro hc<;>try (exfalso;omega))|refine pIf_f ?_|refine pN_v (hk:=?_)|fail)
  exact hQ _ hS
end
end
end
section
variable [Pan] {x0 x1 x2:Value} {w:World} {Q:QQ}
set_option maxRecDepth 100000
def pithref36_Save.H:Hints:={ cut:=fun _=>none,loop:=fun|5=>([8],17178821440)|12=>([10,11],5070602400912917605969632967744)|16=>([12],5070602400912915354186999148608)|24=>([14],1329222925182514959986201073467539456)|_=>([],0),order:=fun|16=>(ot 18)|18=>(ot 14)|_=>[] }
def pithref36_Save.F (x0 x1 x2:Value) (w:World) (Q:QQ):Prop:=
 pN zp (oCall 110 [x1]) w fun x16 w1=>
 pN zp (oBin .neq 3 (.tmp 17) (.const (.int .i64 0)) x16 (.int .i64 0)) w1 fun x18 w2=>
 pIf x18
 (Q x16 w2)
 (∃(L5:Value→World→Prop) (m5:Value→World→Nat),
 L5 (.int .i64 0) w2∧
 ∀(_k5:Env) (i8l5:Value) (w3:World),L5 i8l5 w3→
 pN zp (oBi .len #[30] 3 [false] [x2]) w3 fun x22 w4=>
 pN zp (oBin .lss 3 (.tmp 20) (.tmp 22) i8l5 x22) w4 fun x23 w5=>
 pIf x23
 (pN zp (oIdx 30 x2 i8l5) w5 fun x28 w6=>
 pN zp (oLoad 49 x28) w6 fun x29 w7=>
 pN zp (oCall 111 [x29]) w7 fun x30 w8=>
 pN zp (oBin .neq 3 (.tmp 31) (.const (.int .i64 0)) x30 (.int .i64 0)) w8 fun x32 w9=>
 pIf x32
 (Q x30 w9)
 (pN zp (oBin .add 3 (.tmp 24) (.const (.int .i64 1)) i8l5 (.int .i64 1)) w9 fun x25 w10=>
 (L5 x25 w10∧m5 x25 w10<m5 i8l5 w3)))
 (∃(L12:Value→Value→World→Prop) (m12:Value→Value→World→Nat),
 L12 (.slice none 0 0) (.int .i64 0) w5∧
 ∀(_k12:Env) (rows10l12:Value) (i11l12:Value) (w11:World),L12 rows10l12 i11l12 w11→
 pN zp (oBi .len #[30] 3 [false] [x2]) w11 fun x36 w12=>
 pN zp (oBin .lss 3 (.tmp 34) (.tmp 36) i11l12 x36) w12 fun x37 w13=>
 pIf x37
 (pN zp (oIdx 30 x2 i11l12) w13 fun x43 w14=>
 pN zp (oLoad 49 x43) w14 fun x44 w15=>
 pN zp (oBuild 194 [(0,x44)]) w15 fun x45 w16=>
 pN zp (oBs 192 1 [(0,x45)]) w16 fun x46 w17=>
 pN zp (oBi .append #[192,192] 192 [false,false] [rows10l12,x46]) w17 fun x47 w18=>
 pN zp (oBi .len #[192] 3 [false] [x47]) w18 fun x49 w19=>
 pN zp (oBin .sub 3 (.tmp 49) (.const (.int .i64 1)) x49 (.int .i64 1)) w19 fun x50 w20=>
 ∃(L16:Value→World→Prop) (m16:Value→World→Nat),
 L16 x50 w20∧
 ∀(_k16:Env) (j12l16:Value) (w21:World),L16 j12l16 w21→
 pDr w21 fun w22=>
 pA zp (oBin .gtr 3 (.tmp 51) (.const (.int .i64 0)) j12l16 (.int .i64 0)) fun x52=>
 gA (gB x52 true) (pA zp (oMv x47)) fun x54=>
 gA (gB x52 true) (pA zp (oMv j12l16)) fun x55=>
 gA (gB x52 true) (pA zp (oIdx 192 x54 x55)) fun x56=>
 gA (gB x52 true) (pA zp (oFld 194 x56 0)) fun x57=>
 gA (gB x52 true) (pA zp (oFld 49 x57 0)) fun x58=>
 gA (gB x52 true) (pL zp (oLoad 9 x58) w22) fun x59=>
 gA (gB x52 true) (pA zp (oMv x47)) fun x60=>
 gA (gB x52 true) (pA zp (oMv j12l16)) fun x61=>
 gA (gB x52 true) (pA zp (oBin .sub 3 (.tmp 61) (.const (.int .i64 1)) x61 (.int .i64 1))) fun x62=>
 gA (gB x52 true) (pA zp (oIdx 192 x60 x62)) fun x63=>
 gA (gB x52 true) (pA zp (oFld 194 x63 0)) fun x64=>
 gA (gB x52 true) (pA zp (oFld 49 x64 0)) fun x65=>
 gA (gB x52 true) (pL zp (oLoad 9 x65) w22) fun x66=>
 gA (gB x52 true) (pA zp (oBin .leq 9 (.tmp 59) (.tmp 66) x59 x66)) fun x67=>
 pA zp (oPick x52 x67 (.bool false)) fun x68=>
 pIf x68
 (pDr w22 fun w23=>
 pA zp (oIdx 192 x47 j12l16) fun x73=>
 pA zp (oFld 194 x73 0) fun x74=>
 pA zp (oFld 49 x74 0) fun x75=>
 pL zp (oLoad 9 x75) w23 fun x76=>
 pA zp (oBin .sub 3 (.tmp 78) (.const (.int .i64 1)) j12l16 (.int .i64 1)) fun x79=>
 pA zp (oIdx 192 x47 x79) fun x80=>
 pA zp (oFld 194 x80 0) fun x81=>
 pA zp (oFld 49 x81 0) fun x82=>
 pL zp (oLoad 9 x82) w23 fun x83=>
 pA zp (oBin .eql 9 (.tmp 76) (.tmp 83) x76 x83) fun x84=>
 pIf x84
 (Q (.int .i64 9) w23)
 (pN zp (oIdx 192 x47 j12l16) w23 fun x87 w24=>
 pN zp (oLoad 194 x87) w24 fun x88 w25=>
 pN zp (oAlloc 194) w25 fun x13 w26=>
 pN zp (oStore 194 x13 x88) w26 fun _ w27=>
 pN zp (oBin .sub 3 (.tmp 92) (.const (.int .i64 1)) j12l16 (.int .i64 1)) w27 fun x93 w28=>
 pN zp (oIdx 192 x47 x93) w28 fun x94 w29=>
 pN zp (oLoad 194 x94) w29 fun x95 w30=>
 pN zp (oIdx 192 x47 j12l16) w30 fun x96 w31=>
 pN zp (oStore 194 x96 x95) w31 fun _ w32=>
 pN zp (oBin .sub 3 (.tmp 98) (.const (.int .i64 1)) j12l16 (.int .i64 1)) w32 fun x99 w33=>
 pN zp (oLoad 194 x13) w33 fun x100 w34=>
 pN zp (oIdx 192 x47 x99) w34 fun x101 w35=>
 pN zp (oStore 194 x101 x100) w35 fun _ w36=>
 pN zp (oBin .sub 3 (.tmp 69) (.const (.int .i64 1)) j12l16 (.int .i64 1)) w36 fun x70 w37=>
 (L16 x70 w37∧m16 x70 w37<m16 j12l16 w21)))
 (pN zp (oBin .add 3 (.tmp 38) (.const (.int .i64 1)) i11l12 (.int .i64 1)) w22 fun x39 w38=>
 (L12 x47 x39 w38∧m12 x47 x39 w38<m12 rows10l12 i11l12 w11)))
 (∃(L24:Value→World→Prop) (m24:Value→World→Nat),
 L24 (.int .i64 0) w13∧
 ∀(_k24:Env) (i14l24:Value) (w39:World),L24 i14l24 w39→
 pN zp (oBi .len #[192] 3 [false] [rows10l12]) w39 fun x104 w40=>
 pN zp (oBin .lss 3 (.tmp 102) (.tmp 104) i14l24 x104) w40 fun x105 w41=>
 pIf x105
 (pN zp (oIdx 192 rows10l12 i14l24) w41 fun x113 w42=>
 pN zp (oFld 194 x113 0) w42 fun x114 w43=>
 pN zp (oFld 49 x114 5) w43 fun x115 w44=>
 pN zp (oLoad 47 x115) w44 fun x116 w45=>
 pN zp (oCall 112 [x0,x116]) w45 fun x117 w46=>
 pN zp (oIdx 192 rows10l12 i14l24) w46 fun x118 w47=>
 pN zp (oFld 194 x118 1) w47 fun x119 w48=>
 pN zp (oStore 52 x119 x117) w48 fun _ w49=>
 pN zp (oBin .add 3 (.tmp 106) (.const (.int .i64 1)) i14l24 (.int .i64 1)) w49 fun x107 w50=>
 (L24 x107 w50∧m24 x107 w50<m24 i14l24 w39))
 (pN zp (oCall 114 [rows10l12]) w41 fun x124 w51=>
 pN zp (oCall 112 [x0,x124]) w51 fun x125 w52=>
 pN zp (oCall 113 [x0,x1,x125]) w52 fun _ w53=>
 Q (.int .i64 0) w53))))
theorem pithref36_Save.calls (h:pithref36_Save.F x0 x1 x2 w Q):Calls zp 79 #[x0,x1,x2] w (retP Q):=cl pithref36_Save.H [x0,x1,x2] Tryz.func79 h
def pithref36_Items.H:Hints:={ cut:=fun _=>none,loop:=fun|6=>([8,9],8796090928944)|_=>([],0),order:=fun _=>[] }
def pithref36_Items.F (x0 x1:Value) (w:World) (Q:QQ):Prop:=
 pN zp (oCall 115 [x0,x1]) w fun x15 w1=>
 pN zp (oExt x15 0) w1 fun x16 w2=>
 pN zp (oExt x15 1) w2 fun x17 w3=>
 pN zp (oBin .neq 3 (.tmp 18) (.const (.int .i64 0)) x17 (.int .i64 0)) w3 fun x19 w4=>
 pIf x19
 (Q (.tuple #[(.slice none 0 0),x17]) w4)
 (∃(L6:Value→Value→World→Prop) (m6:Value→Value→World→Nat),
 L6 (.slice none 0 0) (.int .i64 0) w4∧
 ∀(_k6:Env) (all8l6:Value) (i9l6:Value) (w5:World),L6 all8l6 i9l6 w5→
 pN zp (oBi .len #[192] 3 [false] [x16]) w5 fun x23 w6=>
 pN zp (oBin .lss 3 (.tmp 21) (.tmp 23) i9l6 x23) w6 fun x24 w7=>
 pIf x24
 (pN zp (oIdx 192 x16 i9l6) w7 fun x31 w8=>
 pN zp (oLoad 194 x31) w8 fun x32 w9=>
 pN zp (oCall 116 [x0,x32]) w9 fun x33 w10=>
 pN zp (oExt x33 0) w10 fun x34 w11=>
 pN zp (oExt x33 1) w11 fun x35 w12=>
 pN zp (oAlloc 49) w12 fun x10 w13=>
 pN zp (oStore 49 x10 x34) w13 fun _ w14=>
 pN zp (oBin .neq 3 (.tmp 36) (.const (.int .i64 0)) x35 (.int .i64 0)) w14 fun x37 w15=>
 pIf x37
 (Q (.tuple #[(.slice none 0 0),x35]) w15)
 (pN zp (oLoad 49 x10) w15 fun x40 w16=>
 pN zp (oBs 30 1 [(0,x40)]) w16 fun x41 w17=>
 pN zp (oBi .append #[30,30] 30 [false,false] [all8l6,x41]) w17 fun x42 w18=>
 pN zp (oBin .add 3 (.tmp 25) (.const (.int .i64 1)) i9l6 (.int .i64 1)) w18 fun x26 w19=>
 (L6 x42 x26 w19∧m6 x42 x26 w19<m6 all8l6 i9l6 w5)))
 (Q (.tuple #[all8l6,(.int .i64 0)]) w7))
theorem pithref36_Items.calls (h:pithref36_Items.F x0 x1 w Q):Calls zp 80 #[x0,x1] w (retP Q):=cl pithref36_Items.H [x0,x1] Tryz.func80 h
def pithref36_Listed.H:Hints:={ cut:=fun|4=>some ([3],158456325028528675187087639016)|21=>some ([3],38685626227597764846420424)|_=>none,loop:=fun|3=>([3,4],158456325028528675187087897080)|14=>([3,6],38685626083552945514742216)|18=>([3,8],38647847295805176428888328)|_=>([],0),order:=fun _=>[] }
def pithref36_Listed.F (x0:Value) (w:World) (Q:QQ):Prop:=
 pN zp (oBi .len #[192] 3 [false] [x0]) w fun x10 w1=>
 pN zp (oCall 150 [(.slice none 0 0),x10]) w1 fun x11 w2=>
 ∃(L3:Value→Value→World→Prop) (m3:Value→Value→World→Nat),
 L3 x11 (.int .i64 0) w2∧
 ∀(_k3:Env) (b3l3:Value) (i4l3:Value) (w3:World),L3 b3l3 i4l3 w3→
 pN zp (oBi .len #[192] 3 [false] [x0]) w3 fun x14 w4=>
 pN zp (oBin .lss 3 (.tmp 12) (.tmp 14) i4l3 x14) w4 fun x15 w5=>
 pIf x15
 (∃I4:Value→World→Prop,
 (pN zp (oIdx 192 x0 i4l3) w5 fun x20 w6=>
 pN zp (oFld 194 x20 0) w6 fun x21 w7=>
 pN zp (oLoad 49 x21) w7 fun x22 w8=>
 pN zp (oAlloc 49) w8 fun x5 w9=>
 pN zp (oStore 49 x5 x22) w9 fun _ w10=>
 pN zp (oFld 49 x5 2) w10 fun x24 w11=>
 pN zp (oLoad 3 x24) w11 fun x25 w12=>
 pN zp (oConv 3 5 x25) w12 fun x26 w13=>
 pN zp (oBs 47 1 [(0,x26)]) w13 fun x27 w14=>
 pN zp (oBi .append #[47,47] 47 [false,false] [b3l3,x27]) w14 fun x28 w15=>
 pN zp (oFld 49 x5 3) w15 fun x30 w16=>
 pN zp (oLoad 3 x30) w16 fun x31 w17=>
 pN zp (oCall 150 [x28,x31]) w17 fun x32 w18=>
 pN zp (oFld 49 x5 4) w18 fun x34 w19=>
 pN zp (oLoad 3 x34) w19 fun x35 w20=>
 pN zp (oCall 150 [x32,x35]) w20 fun x36 w21=>
 pN zp (oFld 49 x5 0) w21 fun x38 w22=>
 pN zp (oLoad 9 x38) w22 fun x39 w23=>
 pN zp (oBi .len #[9] 3 [false] [x39]) w23 fun x40 w24=>
 pN zp (oCall 150 [x36,x40]) w24 fun x41 w25=>
 pN zp (oFld 49 x5 0) w25 fun x43 w26=>
 pN zp (oLoad 9 x43) w26 fun x44 w27=>
 pN zp (oBi .append #[47,9] 47 [false,false] [x41,x44]) w27 fun x45 w28=>
 ∃I21:Value→World→Prop,
 (pN zp (oFld 49 x5 2) w28 fun x46 w29=>
 pN zp (oLoad 3 x46) w29 fun x47 w30=>
 pN zp (oBin .eql 3 (.tmp 47) (.const (.int .i64 0)) x47 (.int .i64 0)) w30 fun x48 w31=>
 pIf x48
 (pN zp (oIdx 192 x0 i4l3) w31 fun x52 w32=>
 pN zp (oFld 194 x52 1) w32 fun x53 w33=>
 pN zp (oLoad 52 x53) w33 fun x54 w34=>
 pN zp (oBi .len #[52] 3 [false] [x54]) w34 fun x55 w35=>
 pN zp (oCall 150 [x45,x55]) w35 fun x56 w36=>
 ∃(L14:Value→Value→World→Prop) (m14:Value→Value→World→Nat),
 L14 x56 (.int .i64 0) w36∧
 ∀(_k14:Env) (b3l14:Value) (j6l14:Value) (w37:World),L14 b3l14 j6l14 w37→
 pN zp (oIdx 192 x0 i4l3) w37 fun x60 w38=>
 pN zp (oFld 194 x60 1) w38 fun x61 w39=>
 pN zp (oLoad 52 x61) w39 fun x62 w40=>
 pN zp (oBi .len #[52] 3 [false] [x62]) w40 fun x63 w41=>
 pN zp (oBin .lss 3 (.tmp 57) (.tmp 63) j6l14 x63) w41 fun x64 w42=>
 pIf x64
 (pN zp (oIdx 192 x0 i4l3) w42 fun x69 w43=>
 pN zp (oFld 194 x69 1) w43 fun x70 w44=>
 pN zp (oLoad 52 x70) w44 fun x71 w45=>
 pN zp (oIdx 52 x71 j6l14) w45 fun x73 w46=>
 pN zp (oLoad 58 x73) w46 fun x74 w47=>
 pN zp (oAlloc 58) w47 fun x7 w48=>
 pN zp (oStore 58 x7 x74) w48 fun _ w49=>
 ∃(L18:Value→Value→World→Prop) (m18:Value→Value→World→Nat),
 L18 b3l14 (.int .i64 0) w49∧
 ∀(_k18:Env) (b3l18:Value) (k8l18:Value) (w50:World),L18 b3l18 k8l18 w50→
 pN zp (oBin .lss 3 (.tmp 75) (.const (.int .i64 32)) k8l18 (.int .i64 32)) w50 fun x76 w51=>
 pIf x76
 (pN zp (oIdx 58 x7 k8l18) w51 fun x81 w52=>
 pN zp (oLoad 5 x81) w52 fun x82 w53=>
 pN zp (oBs 47 1 [(0,x82)]) w53 fun x83 w54=>
 pN zp (oBi .append #[47,47] 47 [false,false] [b3l18,x83]) w54 fun x84 w55=>
 pN zp (oBin .add 3 (.tmp 77) (.const (.int .i64 1)) k8l18 (.int .i64 1)) w55 fun x78 w56=>
 (L18 x84 x78 w56∧m18 x84 x78 w56<m18 b3l18 k8l18 w50))
 (pN zp (oBin .add 3 (.tmp 65) (.const (.int .i64 1)) j6l14 (.int .i64 1)) w51 fun x66 w57=>
 (L14 b3l18 x66 w57∧m14 b3l18 x66 w57<m14 b3l14 j6l14 w37)))
 (I21 b3l14 w42))
 (I21 x45 w31))∧
 ∀(_j21:Env) (b3c21:Value) (w58:World),I21 b3c21 w58→
 pN zp (oFld 49 x5 2) w58 fun x85 w59=>
 pN zp (oLoad 3 x85) w59 fun x86 w60=>
 pN zp (oBin .eql 3 (.tmp 86) (.const (.int .i64 2)) x86 (.int .i64 2)) w60 fun x87 w61=>
 pIf x87
 (pN zp (oFld 49 x5 1) w61 fun x89 w62=>
 pN zp (oLoad 9 x89) w62 fun x90 w63=>
 pN zp (oBi .len #[9] 3 [false] [x90]) w63 fun x91 w64=>
 pN zp (oCall 150 [b3c21,x91]) w64 fun x92 w65=>
 pN zp (oFld 49 x5 1) w65 fun x94 w66=>
 pN zp (oLoad 9 x94) w66 fun x95 w67=>
 pN zp (oBi .append #[47,9] 47 [false,false] [x92,x95]) w67 fun x96 w68=>
 I4 x96 w68)
 (I4 b3c21 w61))∧
 ∀(_j4:Env) (b3c4:Value) (w69:World),I4 b3c4 w69→
 pN zp (oBin .add 3 (.tmp 16) (.const (.int .i64 1)) i4l3 (.int .i64 1)) w69 fun x17 w70=>
 (L3 b3c4 x17 w70∧m3 b3c4 x17 w70<m3 b3l3 i4l3 w3))
 (Q b3l3 w5)
theorem pithref36_Listed.calls (h:pithref36_Listed.F x0 w Q):Calls zp 114 #[x0] w (retP Q):=cl pithref36_Listed.H [x0] Tryz.func114 h
def pithref36_Of.F (x0 x1:Value) (w:World) (Q:QQ):Prop:=
 pN zp (oCall 151 [x0,x1]) w fun x14 w1=>
 pN zp (oExt x14 0) w1 fun x15 w2=>
 pN zp (oExt x14 1) w2 fun x16 w3=>
 pN zp (oBin .neq 3 (.tmp 17) (.const (.int .i64 0)) x16 (.int .i64 0)) w3 fun x18 w4=>
 pIf x18
 (Q (.tuple #[(.slice none 0 0),(.int .i64 8)]) w4)
 (pN zp (oCall 152 [x0,x15]) w4 fun x22 w5=>
 pN zp (oExt x22 0) w5 fun x23 w6=>
 pN zp (oExt x22 1) w6 fun x24 w7=>
 pN zp (oBin .neq 3 (.tmp 25) (.const (.int .i64 0)) x24 (.int .i64 0)) w7 fun x26 w8=>
 pIf x26
 (Q (.tuple #[(.slice none 0 0),(.int .i64 1)]) w8)
 (pN zp (oCall 153 [x23]) w8 fun x29 w9=>
 pN zp (oExt x29 0) w9 fun x30 w10=>
 pN zp (oExt x29 1) w10 fun x31 w11=>
 pN zp (oUn .not x31) w11 fun x33 w12=>
 pIf x33
 (Q (.tuple #[(.slice none 0 0),(.int .i64 2)]) w12)
 (Q (.tuple #[x30,(.int .i64 0)]) w12)))
theorem pithref36_Of.calls (h:pithref36_Of.F x0 x1 w Q):Calls zp 115 #[x0,x1] w (retP Q):=cl .z [x0,x1] Tryz.func115 h
def pithref36_filled.F (x0 x1:Value) (w:World) (Q:QQ):Prop:=
 pN zp (oBox 194 x1) w fun x3 w1=>
 pN zp (oAlloc 49) w1 fun x4 w2=>
 pN zp (oFld 194 x3 0) w2 fun x9 w3=>
 pN zp (oLoad 49 x9) w3 fun x10 w4=>
 pN zp (oAlloc 49) w4 fun x6 w5=>
 pN zp (oStore 49 x6 x10) w5 fun _ w6=>
 pN zp (oFld 194 x3 1) w6 fun x13 w7=>
 pN zp (oLoad 52 x13) w7 fun x14 w8=>
 pN zp (oCall 152 [x0,x14]) w8 fun x15 w9=>
 pN zp (oExt x15 0) w9 fun x16 w10=>
 pN zp (oExt x15 1) w10 fun x17 w11=>
 pN zp (oBin .neq 3 (.tmp 18) (.const (.int .i64 0)) x17 (.int .i64 0)) w11 fun x19 w12=>
 pIf x19
 (pN zp (oBuild 49 []) w12 fun x20 w13=>
 pN zp (oStore 49 x4 x20) w13 fun _ w14=>
 pL zp (oRes 49 x4) w14 fun r4=>
 Q (.tuple #[r4,(.int .i64 1)]) w14)
 (pN zp (oFld 49 x6 5) w12 fun x22 w15=>
 pN zp (oStore 47 x22 x16) w15 fun _ w16=>
 pN zp (oLoad 49 x6) w16 fun x23 w17=>
 pN zp (oStore 49 x4 x23) w17 fun _ w18=>
 pL zp (oRes 49 x4) w18 fun r4=>
 Q (.tuple #[r4,(.int .i64 0)]) w18)
theorem pithref36_filled.calls (h:pithref36_filled.F x0 x1 w Q):Calls zp 116 #[x0,x1] w (retP Q):=cl .z [x0,x1] Tryz.func116 h
def pithref36_number.F (x0 x1:Value) (w:World) (Q:QQ):Prop:=
 pN zp (oConv 3 212 x1) w fun x9 w1=>
 pN zp (oCall 201 [x9]) w1 fun x10 w2=>
 pN zp (oExt x10 0) w2 fun x11 w3=>
 pN zp (oExt x10 1) w3 fun _ w4=>
 pN zp (oBi .append #[47,47] 47 [false,false] [x0,x11]) w4 fun x15 w5=>
 Q x15 w5
theorem pithref36_number.calls (h:pithref36_number.F x0 x1 w Q):Calls zp 150 #[x0,x1] w (retP Q):=cl .z [x0,x1] Tryz.func150 h
def pithref36_Rows.H:Hints:={ cut:=fun _=>none,loop:=fun|5=>([0,6],18014398509220813)|_=>([],0),order:=fun|7=>(ot 21)|_=>[] }
def pithref36_Rows.F (x0:Value) (w:World) (Q:QQ):Prop:=
 pN zp (oCall 203 [x0]) w fun x12 w1=>
 pN zp (oExt x12 0) w1 fun x13 w2=>
 pN zp (oExt x12 1) w2 fun x14 w3=>
 pN zp (oExt x12 2) w3 fun x15 w4=>
 pN zp (oUn .not x15) w4 fun x17 w5=>
 pIf x17
 (Q (.tuple #[(.slice none 0 0),(.bool false)]) w5)
 (∃(L5:Value→Value→World→Prop) (m5:Value→Value→World→Nat),
 L5 x14 (.slice none 0 0) w5∧
 ∀(_k5:Env) (b0l5:Value) (l6l5:Value) (w6:World),L5 b0l5 l6l5 w6→
 pN zp (oBi .len #[192] 3 [false] [l6l5]) w6 fun x19 w7=>
 pN zp (oBin .lss 3 (.tmp 19) (.tmp 20) x19 x13) w7 fun x21 w8=>
 pIf x21
 (pN zp (oCall 204 [b0l5]) w8 fun x24 w9=>
 pN zp (oExt x24 0) w9 fun x25 w10=>
 pN zp (oExt x24 1) w10 fun x26 w11=>
 pN zp (oExt x24 2) w11 fun x27 w12=>
 pN zp (oAlloc 194) w12 fun x7 w13=>
 pN zp (oStore 194 x7 x25) w13 fun _ w14=>
 pDr w14 fun w15=>
 pA zp (oUn .not x27) fun x29=>
 gA (gB x29 false) (pA zp (oMv l6l5)) fun x31=>
 gA (gB x29 false) (pA zp (oBi .len #[192] 3 [false] [x31])) fun x32=>
 gA (gB x29 false) (pA zp (oBin .gtr 3 (.tmp 32) (.const (.int .i64 0)) x32 (.int .i64 0))) fun x33=>
 gA (gB x29 false) (pA zp (oMv x33)) fun x34=>
 gA (gB x34 true) (pA zp (oFld 194 x7 0)) fun x35=>
 gA (gB x34 true) (pA zp (oFld 49 x35 0)) fun x36=>
 gA (gB x34 true) (pL zp (oLoad 9 x36) w15) fun x37=>
 gA (gB x34 true) (pA zp (oMv l6l5)) fun x38=>
 gA (gB x34 true) (pA zp (oMv l6l5)) fun x39=>
 gA (gB x34 true) (pA zp (oBi .len #[192] 3 [false] [x39])) fun x40=>
 gA (gB x34 true) (pA zp (oBin .sub 3 (.tmp 40) (.const (.int .i64 1)) x40 (.int .i64 1))) fun x41=>
 gA (gB x34 true) (pA zp (oIdx 192 x38 x41)) fun x42=>
 gA (gB x34 true) (pA zp (oFld 194 x42 0)) fun x43=>
 gA (gB x34 true) (pA zp (oFld 49 x43 0)) fun x44=>
 gA (gB x34 true) (pL zp (oLoad 9 x44) w15) fun x45=>
 gA (gB x34 true) (pA zp (oBin .leq 9 (.tmp 37) (.tmp 45) x37 x45)) fun x46=>
 gA (gB x29 false) (pA zp (oPick x34 x46 (.bool false))) fun x47=>
 pA zp (oPick x29 (.bool true) x47) fun x48=>
 pIf x48
 (Q (.tuple #[(.slice none 0 0),(.bool false)]) w15)
 (pN zp (oLoad 194 x7) w15 fun x51 w16=>
 pN zp (oBs 192 1 [(0,x51)]) w16 fun x52 w17=>
 pN zp (oBi .append #[192,192] 192 [false,false] [l6l5,x52]) w17 fun x53 w18=>
 (L5 x26 x53 w18∧m5 x26 x53 w18<m5 b0l5 l6l5 w6)))
 (pN zp (oBi .len #[47] 3 [false] [b0l5]) w8 fun x56 w19=>
 pN zp (oBin .eql 3 (.tmp 56) (.const (.int .i64 0)) x56 (.int .i64 0)) w19 fun x57 w20=>
 Q (.tuple #[l6l5,x57]) w20))
theorem pithref36_Rows.calls (h:pithref36_Rows.F x0 w Q):Calls zp 153 #[x0] w (retP Q):=cl pithref36_Rows.H [x0] Tryz.func153 h
def pithref36_taken.H:Hints:={ cut:=fun _=>none,loop:=fun _=>([],0),order:=fun|4=>(ot 8)|_=>[] }
def pithref36_taken.F (x0:Value) (w:World) (Q:QQ):Prop:=
 pN zp (oCall 216 [x0]) w fun x10 w1=>
 pN zp (oExt x10 0) w1 fun x11 w2=>
 pN zp (oExt x10 1) w2 fun x12 w3=>
 pN zp (oExt x10 2) w3 fun x13 w4=>
 pN zp (oBin .neq 3 (.tmp 14) (.const (.int .i64 0)) x13 (.int .i64 0)) w4 fun x15 w5=>
 pIf x15
 (Q (.tuple #[(.int .i64 0),(.slice none 0 0),(.bool false)]) w5)
 (pDr w5 fun w6=>
 pL zp (oConv 212 3 x11) w6 fun x17=>
 pA zp (oSl 47 x0 (some x12) none none) fun x20=>
 Q (.tuple #[x17,x20,(.bool true)]) w6)
theorem pithref36_taken.calls (h:pithref36_taken.F x0 w Q):Calls zp 203 #[x0] w (retP Q):=cl pithref36_taken.H [x0] Tryz.func203 h
def pithref36_row.H:Hints:={ cut:=fun|29=>some ([0],316912650057021321577156839385)|33=>some ([0],10384276804419598199710618482638937)|_=>none,loop:=fun|20=>([0,8],316912612278125487417014093569)|24=>([10],1236731113465765645724419072)|_=>([],0),order:=fun|33=>(ot 9)|_=>[] }
def pithref36_row.F (x0:Value) (w:World) (Q:QQ):Prop:=
 pN zp (oAlloc 194) w fun x2 w1=>
 pN zp (oBi .len #[47] 3 [false] [x0]) w1 fun x12 w2=>
 pN zp (oBin .eql 3 (.tmp 12) (.const (.int .i64 0)) x12 (.int .i64 0)) w2 fun x13 w3=>
 pIf x13
 (pN zp (oBuild 194 []) w3 fun x14 w4=>
 pN zp (oStore 194 x2 x14) w4 fun _ w5=>
 pL zp (oRes 194 x2) w5 fun r2=>
 Q (.tuple #[r2,(.slice none 0 0),(.bool false)]) w5)
 (pN zp (oIdx 47 x0 (.int .i64 0)) w3 fun x16 w6=>
 pN zp (oLoad 5 x16) w6 fun x17 w7=>
 pN zp (oConv 5 3 x17) w7 fun x18 w8=>
 pN zp (oBuild 49 [(2,x18)]) w8 fun x19 w9=>
 pN zp (oBuild 194 [(0,x19)]) w9 fun x20 w10=>
 pN zp (oAlloc 194) w10 fun x5 w11=>
 pN zp (oStore 194 x5 x20) w11 fun _ w12=>
 pN zp (oSl 47 x0 (some (.int .i64 1)) none none) w12 fun x23 w13=>
 pN zp (oCall 203 [x23]) w13 fun x24 w14=>
 pN zp (oExt x24 0) w14 fun x25 w15=>
 pN zp (oExt x24 1) w15 fun x26 w16=>
 pN zp (oExt x24 2) w16 fun x27 w17=>
 pN zp (oFld 194 x5 0) w17 fun x28 w18=>
 pN zp (oFld 49 x28 3) w18 fun x29 w19=>
 pN zp (oStore 3 x29 x25) w19 fun _ w20=>
 pN zp (oUn .not x27) w20 fun x31 w21=>
 pIf x31
 (pN zp (oBuild 194 []) w21 fun x32 w22=>
 pN zp (oStore 194 x2 x32) w22 fun _ w23=>
 pL zp (oRes 194 x2) w23 fun r2=>
 Q (.tuple #[r2,(.slice none 0 0),(.bool false)]) w23)
 (pN zp (oCall 203 [x26]) w21 fun x35 w24=>
 pN zp (oExt x35 0) w24 fun x36 w25=>
 pN zp (oExt x35 1) w25 fun x37 w26=>
 pN zp (oExt x35 2) w26 fun x38 w27=>
 pN zp (oFld 194 x5 0) w27 fun x39 w28=>
 pN zp (oFld 49 x39 4) w28 fun x40 w29=>
 pN zp (oStore 3 x40 x36) w29 fun _ w30=>
 pN zp (oUn .not x38) w30 fun x42 w31=>
 pIf x42
 (pN zp (oBuild 194 []) w31 fun x43 w32=>
 pN zp (oStore 194 x2 x43) w32 fun _ w33=>
 pL zp (oRes 194 x2) w33 fun r2=>
 Q (.tuple #[r2,(.slice none 0 0),(.bool false)]) w33)
 (pN zp (oCall 217 [x37]) w31 fun x46 w34=>
 pN zp (oExt x46 0) w34 fun x47 w35=>
 pN zp (oExt x46 1) w35 fun x48 w36=>
 pN zp (oExt x46 2) w36 fun x49 w37=>
 pN zp (oFld 194 x5 0) w37 fun x50 w38=>
 pN zp (oFld 49 x50 0) w38 fun x51 w39=>
 pN zp (oStore 9 x51 x47) w39 fun _ w40=>
 pN zp (oUn .not x49) w40 fun x53 w41=>
 pIf x53
 (pN zp (oBuild 194 []) w41 fun x54 w42=>
 pN zp (oStore 194 x2 x54) w42 fun _ w43=>
 pL zp (oRes 194 x2) w43 fun r2=>
 Q (.tuple #[r2,(.slice none 0 0),(.bool false)]) w43)
 (∃I29:Value→World→Prop,
 (pN zp (oFld 194 x5 0) w41 fun x55 w44=>
 pN zp (oFld 49 x55 2) w44 fun x56 w45=>
 pN zp (oLoad 3 x56) w45 fun x57 w46=>
 pN zp (oBin .eql 3 (.tmp 57) (.const (.int .i64 0)) x57 (.int .i64 0)) w46 fun x58 w47=>
 pIf x58
 (pN zp (oCall 203 [x48]) w47 fun x61 w48=>
 pN zp (oExt x61 0) w48 fun x62 w49=>
 pN zp (oExt x61 1) w49 fun x63 w50=>
 pN zp (oExt x61 2) w50 fun x64 w51=>
 pN zp (oUn .not x64) w51 fun x66 w52=>
 pGd (gB x66 false) (pN zp (oMv x62) w52) w52 fun x68 w53=>
 pGd (gB x66 false) (pN zp (oMv x63) w53) w53 fun x69 w54=>
 pGd (gB x66 false) (pN zp (oBi .len #[47] 3 [false] [x69]) w54) w54 fun x70 w55=>
 pGd (gB x66 false) (pN zp (oBin .quo 3 (.tmp 70) (.const (.int .i64 32)) x70 (.int .i64 32)) w55) w55 fun x71 w56=>
 pGd (gB x66 false) (pN zp (oBin .gtr 3 (.tmp 68) (.tmp 71) x68 x71) w56) w56 fun x72 w57=>
 pN zp (oPick x66 (.bool true) x72) w57 fun x73 w58=>
 pIf x73
 (pN zp (oBuild 194 []) w58 fun x74 w59=>
 pN zp (oStore 194 x2 x74) w59 fun _ w60=>
 pL zp (oRes 194 x2) w60 fun r2=>
 Q (.tuple #[r2,(.slice none 0 0),(.bool false)]) w60)
 (∃(L20:Value→Value→World→Prop) (m20:Value→Value→World→Nat),
 L20 x63 (.int .i64 0) w58∧
 ∀(_k20:Env) (b0l20:Value) (i8l20:Value) (w61:World),L20 b0l20 i8l20 w61→
 pN zp (oBin .lss 3 (.tmp 75) (.tmp 76) i8l20 x62) w61 fun x77 w62=>
 pIf x77
 (pN zp (oAlloc 58) w62 fun x9 w63=>
 ∃(L24:Value→World→Prop) (m24:Value→World→Nat),
 L24 (.int .i64 0) w63∧
 ∀(_k24:Env) (k10l24:Value) (w64:World),L24 k10l24 w64→
 pN zp (oBin .lss 3 (.tmp 80) (.const (.int .i64 32)) k10l24 (.int .i64 32)) w64 fun x81 w65=>
 pIf x81
 (pN zp (oIdx 47 b0l20 k10l24) w65 fun x87 w66=>
 pN zp (oLoad 5 x87) w66 fun x88 w67=>
 pN zp (oIdx 58 x9 k10l24) w67 fun x89 w68=>
 pN zp (oStore 5 x89 x88) w68 fun _ w69=>
 pN zp (oBin .add 3 (.tmp 82) (.const (.int .i64 1)) k10l24 (.int .i64 1)) w69 fun x83 w70=>
 (L24 x83 w70∧m24 x83 w70<m24 k10l24 w64))
 (pN zp (oFld 194 x5 1) w65 fun x90 w71=>
 pN zp (oLoad 52 x90) w71 fun x91 w72=>
 pN zp (oLoad 58 x9) w72 fun x92 w73=>
 pN zp (oBs 52 1 [(0,x92)]) w73 fun x93 w74=>
 pN zp (oBi .append #[52,52] 52 [false,false] [x91,x93]) w74 fun x94 w75=>
 pN zp (oFld 194 x5 1) w75 fun x95 w76=>
 pN zp (oStore 52 x95 x94) w76 fun _ w77=>
 pN zp (oSl 47 b0l20 (some (.int .i64 32)) none none) w77 fun x97 w78=>
 pN zp (oBin .add 3 (.tmp 78) (.const (.int .i64 1)) i8l20 (.int .i64 1)) w78 fun x79 w79=>
 (L20 x97 x79 w79∧m20 x97 x79 w79<m20 b0l20 i8l20 w61)))
 (I29 b0l20 w62)))
 (I29 x48 w47))∧
 ∀(_j29:Env) (b0c29:Value) (w80:World),I29 b0c29 w80→
 ∃I33:Value→World→Prop,
 (pN zp (oFld 194 x5 0) w80 fun x98 w81=>
 pN zp (oFld 49 x98 2) w81 fun x99 w82=>
 pN zp (oLoad 3 x99) w82 fun x100 w83=>
 pN zp (oBin .eql 3 (.tmp 100) (.const (.int .i64 2)) x100 (.int .i64 2)) w83 fun x101 w84=>
 pIf x101
 (pN zp (oCall 217 [b0c29]) w84 fun x104 w85=>
 pN zp (oExt x104 0) w85 fun x105 w86=>
 pN zp (oExt x104 1) w86 fun x106 w87=>
 pN zp (oExt x104 2) w87 fun x107 w88=>
 pN zp (oFld 194 x5 0) w88 fun x108 w89=>
 pN zp (oFld 49 x108 1) w89 fun x109 w90=>
 pN zp (oStore 9 x109 x105) w90 fun _ w91=>
 pN zp (oUn .not x107) w91 fun x111 w92=>
 pIf x111
 (pN zp (oBuild 194 []) w92 fun x112 w93=>
 pN zp (oStore 194 x2 x112) w93 fun _ w94=>
 pL zp (oRes 194 x2) w94 fun r2=>
 Q (.tuple #[r2,(.slice none 0 0),(.bool false)]) w94)
 (I33 x106 w92))
 (I33 b0c29 w84))∧
 ∀(_j33:Env) (b0c33:Value) (w95:World),I33 b0c33 w95→
 pDr w95 fun w96=>
 pL zp (oLoad 194 x5) w96 fun x113=>
 pA zp (oFld 194 x5 0) fun x115=>
 pL zp (oLoad 49 x115) w96 fun x116=>
 pN zp (oCall 111 [x116]) w96 fun x117 w97=>
 ((Sem.run zp (oLoad 194 x5) w97= .ok (.value x113) w97)∧True)∧(pA zp (oBin .eql 3 (.tmp 117) (.const (.int .i64 0)) x117 (.int .i64 0)) fun x118=>
 pN zp (oStore 194 x2 x113) w97 fun _ w98=>
 (True)∧(pL zp (oRes 194 x2) w98 fun r2=>
 Q (.tuple #[r2,b0c33,x118]) w98))))))
theorem pithref36_row.calls (h:pithref36_row.F x0 w Q):Calls zp 204 #[x0] w (retP Q):=cl pithref36_row.H [x0] Tryz.func204 h
def pithref36_text.H:Hints:={ cut:=fun _=>none,loop:=fun _=>([],0),order:=fun|4=>(ot 10)|_=>[] }
def pithref36_text.F (x0:Value) (w:World) (Q:QQ):Prop:=
 pN zp (oCall 203 [x0]) w fun x9 w1=>
 pN zp (oExt x9 0) w1 fun x10 w2=>
 pN zp (oExt x9 1) w2 fun x11 w3=>
 pN zp (oExt x9 2) w3 fun x12 w4=>
 pN zp (oUn .not x12) w4 fun x14 w5=>
 pGd (gB x14 false) (pN zp (oMv x10) w5) w5 fun x16 w6=>
 pGd (gB x14 false) (pN zp (oMv x11) w6) w6 fun x17 w7=>
 pGd (gB x14 false) (pN zp (oBi .len #[47] 3 [false] [x17]) w7) w7 fun x18 w8=>
 pGd (gB x14 false) (pN zp (oBin .gtr 3 (.tmp 16) (.tmp 18) x16 x18) w8) w8 fun x19 w9=>
 pN zp (oPick x14 (.bool true) x19) w9 fun x20 w10=>
 pIf x20
 (Q (.tuple #[(.string ⟨#[]⟩),(.slice none 0 0),(.bool false)]) w10)
 (pDr w10 fun w11=>
 pA zp (oSl 47 x11 none (some x10) none) fun x23=>
 pL zp (oConv 47 9 x23) w11 fun x24=>
 pA zp (oSl 47 x11 (some x10) none none) fun x27=>
 Q (.tuple #[x24,x27,(.bool true)]) w11)
theorem pithref36_text.calls (h:pithref36_text.F x0 w Q):Calls zp 217 #[x0] w (retP Q):=cl pithref36_text.H [x0] Tryz.func217 h
end
section
attribute [local irreducible] oMv oV oU oCall oCallV oBi oBin oUn oLoad oStore oNil oFld oField oIdx oIndex oPick oAlloc oBox oBuild oBs oConv oMk oSl oExt oFn oIface oMap oLook oMapUp oRange oNext oEntry oInv oAssert oPanic oRes pN pA pL pDr pIf gA pGd Calls
section
def cdRw:Cd EE:={ e:=194,size:=7,bytes:=104,zero:=(T_api_Item.zero,(⟨none,0⟩,[])),enc:=fun p=>p.1.enc++[.slice p.2.1.a p.2.2.length p.2.1.c],len:=fun _=>rfl,one:=cdE_one }
instance bt_Rw:Bt cdRw 104:=⟨rfl⟩
instance row_Rw:Row zp 192 EE cdRw:=⟨⟨.agg #[.string ⟨#[]⟩,.string ⟨#[]⟩,.int .i64 0,.int .i64 0,.int .i64 0,.slice none 0 0,.slice none 0 0],⟨Tryz.underlying192,info_parts (by kernel_rfl),rfl,by decide⟩,rfl⟩,by decide⟩
theorem rw_item (p:EE):((cdRw.enc p).drop 0).take p.1.enc.length=p.1.enc:=by
 show((p.1.enc++[_]).drop 0).take _=_
 rw[List.drop_zero,List.take_left]
theorem rw_sums (p:EE):(cdRw.enc p)[6]? =some (.slice p.2.1.a p.2.2.length p.2.1.c):=rfl
namespace L
def head (e:En):List UInt8:=[byteOf e.kind]++C.put e.mode.toNat++C.put e.time.toNat++(C.put e.name.length++e.name)
theorem row_head (e:En):row e=head e++tail e:=by
 unfold row head text
 simp only[List.append_assoc,List.cons_append,List.nil_append]
theorem tail_0 {e:En} (h:e.kind=0):tail e=C.put e.sums.length++flat e.sums:=by unfold tail;rw[if_pos h]
theorem tail_2 {e:En} (h:e.kind=2):tail e=C.put e.link.length++e.link:=by unfold tail;rw[if_neg (by omega),if_pos h];rfl
theorem tail_1 {e:En} (h:e.kind≠0) (h2:e.kind≠2):tail e=[]:=by unfold tail;rw[if_neg h,if_neg h2]
theorem rows_nil:rows []=[]:=rfl
end L
attribute [local irreducible] C.put L.flat L.rows L.head L.tail
section
variable [Pan] {E w W:World} {K Q:Value→World→Prop} {LL M N N':List HA} {l r:List UInt8} {s s2:Sl} {es:List EE}
theorem r6num_ok (v:Int) (h0:0≤v) (h1:v<9223372036854775808) (hS:Sat E w LL) [hf:Fnd (rows cd_uint8 s) LL l M] (hb:l.length≤140737488355319)
  (hQ:∀s2 w,Sat E w (rows cd_uint8 s2 (l++C.put v.toNat)::M)→Q (.slice s2.a (l++C.put v.toNat).length s2.c) w):
  Calls zp 150 #[.slice s.a l.length s.c,.int .i64 v] w (retP Q):=by
 refine pithref36_number.calls ?_
 unfold pithref36_number.F
 obtain⟨v,rfl⟩:=Int.eq_ofNat_of_zero_le h0
 rw[Int.toNat_natCast] at hQ
 have hp:=L.putl v (by omega)
 repeat' (first|(refine pcq (f:=201) (r2put_ok v (by omega) hS ?_);clear hS;intro s1 w hS)|(refine pN_app hS (by first|rfl|omega|simpa only[go_sem] using True.intro|(simp only[go_sem];omega)) (by first|rfl|omega|simpa only[go_sem] using True.intro|(simp only[go_sem];omega)) (by first|omega|(simp only[go_sem];omega)) ?_;clear hS;intro s w hS)|refine pN_v (hk:=?_)|fail)
 exact hQ _ _ hS.to
set_option maxHeartbeats 4000000 in
theorem r6Listed_ok (hS:Sat E w M) [hr:Rds cdRw M s es] (hd:∀p∈es,Rds (cdI 58) M p.2.1 p.2.2)
  (hf:∀p∈es,0≤p.1.Mode∧p.1.Mode<9223372036854775808∧0≤p.1.Time∧p.1.Time<9223372036854775808) (hel:es.length≤1099511627776) (hb:(L.list (es.map enOf)).length≤140737488355000)
  (hQ:∀s2 w,Sat E w (rows cd_uint8 s2 (L.list (es.map enOf))::M)→Q (.slice s2.a (L.list (es.map enOf)).length s2.c) w):
  Calls zp 114 #[.slice s.a es.length s.c] w (retP Q):=by
 refine pithref36_Listed.calls ?_
 unfold pithref36_Listed.F
 have hes:es.length=(es.map enOf).length:=(List.length_map ..).symm
 have hrl:=L.rows_le (es:=es.map enOf)
 have hls:L.list (es.map enOf)=C.put es.length++L.rows (es.map enOf):=by rw[L.list,List.length_map]
 rw[hls] at hb hQ
 rw[List.length_append] at hb
 have h0:Sat E w (rows cd_uint8 ⟨none,0⟩ []::M):=hS.nil cd_uint8.e cd_uint8.size
 clear hS
 have hS:=h0
 clear h0
 have e0:(.slice none 0 0:Value)= .slice (⟨none,0⟩:Sl).a ([]:List UInt8).length (⟨none,0⟩:Sl).c:=rfl
 rw[e0]
 repeat' (first|(refine pcq (f:=150) (r6num_ok _ (by omega) (by omega) hS (by decide) ?_);clear hS;intro s1 w hS;rw[List.nil_append,Int.toNat_natCast] at hS ⊢)|refine pN_v (hk:=?_)|fail)
 refine⟨fun v v' w=>∃(k:Nat) (so:Sl),k≤es.length∧v= .slice so.a (C.put es.length++L.rows ((es.map enOf).take k)).length so.c∧v'= .int .i64 k∧Sat E w (rows cd_uint8 so (C.put es.length++L.rows ((es.map enOf).take k))::M),fun _ v _=>es.length-(RowKit.intOf v).toNat,
  ⟨0,s1,by omega,by rw[List.take_zero,L.rows_nil,List.append_nil],rfl,by rw[List.take_zero,L.rows_nil,List.append_nil];exact hS⟩,?_⟩
 clear hS
 rintro _ _ _ w ⟨k,so,hk,rfl,rfl,hS⟩
 by_cases hlt:k<es.length
 ·obtain⟨p,hp⟩:∃p,es[k]? =some p:=⟨es[k],List.getElem?_eq_getElem _⟩
  have hm:p∈es:=List.mem_of_getElem? hp
  obtain⟨x,sx,li⟩:=p
  obtain⟨f1,f2,f3,f4⟩:=hf _ hm
  have hrd:=hd _ hm
  dsimp only at f1 f2 f3 f4 hrd
  have hrk:=L.rows_take (es:=es.map enOf) (k:=k) (e:=enOf (x,sx,li)) (by rw[List.getElem?_map,hp];rfl)
  have hr1:=hrl (k+1)
  rw[hrk,List.length_append] at hr1
  have hrow:=L.row_head (enOf (x,sx,li))
  have hhd:L.head (enOf (x,sx,li))=[byteOf x.Kind]++C.put x.Mode.toNat++C.put x.Time.toNat++(C.put x.Name.length++x.Name):=by unfold L.head;rfl
  have ht0:x.Kind=0→L.tail (enOf (x,sx,li))=C.put li.length++L.flat li:=fun h=>L.tail_0 h
  have ht2:x.Kind=2→L.tail (enOf (x,sx,li))=C.put x.Link.length++x.Link:=fun h=>L.tail_2 h
  have ht1:x.Kind≠0→x.Kind≠2→L.tail (enOf (x,sx,li))=[]:=fun h h2=>L.tail_1 h h2
  rw[hrow,List.length_append] at hr1
  have hput:C.put es.length++L.rows ((es.map enOf).take (k+1))=(C.put es.length++L.rows ((es.map enOf).take k))++L.head (enOf (x,sx,li))++L.tail (enOf (x,sx,li)):=by rw[hrk,hrow,List.append_assoc,List.append_assoc]
  have hbl:(C.put es.length++L.rows ((es.map enOf).take k)).length=(C.put es.length).length+(L.rows ((es.map enOf).take k)).length:=List.length_append
  generalize L.tail (enOf (x,sx,li))=T at*
  have hhl:=congrArg List.length hhd
  simp only[List.length_append,List.length_cons,List.length_nil] at hhl
  generalize C.put es.length++L.rows ((es.map enOf).take k)=pr at*
  repeat' (first|(refine pN_lss_s ?_ ?_<;>intro hc<;>try (exfalso;omega))|refine pIf_t ?_|refine pN_v (hk:=?_)|fail)
  refine⟨fun v w=>∃so,v= .slice so.a (pr++L.head (enOf (x,sx,li))++T).length so.c∧Sat E w (rows cd_uint8 so (pr++L.head (enOf (x,sx,li))++T)::M),?_,?_⟩
  ·rw[hhd]
   rw[hhd] at hr1
   simp only[List.length_append,List.length_cons,List.length_nil] at hr1
   have hasc:pr++([byteOf x.Kind]++C.put x.Mode.toNat++C.put x.Time.toNat++(C.put x.Name.length++x.Name))=pr++[byteOf x.Kind]++C.put x.Mode.toNat++C.put x.Time.toNat++C.put x.Name.length++x.Name:=by simp only[List.append_assoc]
   rw[hasc]
   repeat' (first|refine pN_ixk (C:=cdRw) (s:=s) (l:=es) hS k rfl rfl hp fun ad ha hel=>?_|refine pN_fan ha x.enc (rw_item (x,sx,li)) fun ad2 ha2=>?_|refine pN_ld_at ha2 hS rfl ?_|(refine pcq (f:=150) (r6num_ok x.Mode f1 f2 hS (by simp only[List.length_append,List.length_cons,List.length_nil];omega) ?_);clear hS;intro s1 w hS)|(refine pcq (f:=150) (r6num_ok x.Time f3 f4 hS (by simp only[List.length_append,List.length_cons,List.length_nil];omega) ?_);clear hS;intro s2 w hS)|(refine pcq (f:=150) (r6num_ok (x.Name.length:Int) (by omega) (by omega) hS (by simp only[List.length_append,List.length_cons,List.length_nil];omega) ?_);clear hS;intro s3 w hS;rw[Int.toNat_natCast] at hS ⊢)|(refine pN_apst hS rfl (by simp only[List.length_append,List.length_cons,List.length_nil];omega) ?_;clear hS;intro s4 w hS)|refine pN_slen ?_|refine pN_tob ?_|refine pN_l hS (by first|rfl|assumption) ?_|(refine pN_sa hS (by rfl) (by rfl) (by rfl) ?_;clear hS;intro w hS;try dsimp only at hS)|(refine pN_nz hS ?_;clear hS;intro a w hS)|(refine pN_b1 hS (by rfl) (by decide) ?_;clear hS;intro s w hS)|(refine pN_app hS (by first|rfl|omega|simpa only[go_sem] using True.intro|(simp only[go_sem];omega)) (by first|rfl|omega|simpa only[go_sem] using True.intro|(simp only[go_sem];omega)) (by first|omega|(simp only[go_sem];omega)) ?_;clear hS;intro s w hS)|refine pN_v (hk:=?_)|fail)
   rename Nat=>xb
   have hpl:(pr++[byteOf x.Kind]++C.put x.Mode.toNat++C.put x.Time.toNat++C.put x.Name.length++x.Name).length+T.length≤140737488355000:=by simp only[List.length_append,List.length_cons,List.length_nil];omega
   have hS:Sat E w (rows cd_uint8 s4 (pr++[byteOf x.Kind]++C.put x.Mode.toNat++C.put x.Time.toNat++C.put x.Name.length++x.Name)::cel xb ⟨49,x.enc⟩::M):=hS.to
   generalize pr++[byteOf x.Kind]++C.put x.Mode.toNat++C.put x.Time.toNat++C.put x.Name.length++x.Name=pr2 at*
   refine⟨fun v w=>∃so,v= .slice so.a (pr2++(if x.Kind=0 then T else [])).length so.c∧Sat E w (rows cd_uint8 so (pr2++(if x.Kind=0 then T else []))::cel xb ⟨49,x.enc⟩::M),?_,?_⟩
   ·by_cases k0:x.Kind=0
    ·rw[if_pos k0]
     have htail:=ht0 k0
     subst htail
     rw[@List.length_append _ (C.put li.length)] at hpl
     have hfl:=L.flat_len li
     have htk:∀j,(L.flat (li.take j)).length≤(L.flat li).length:=fun j=>by rw[L.flat_len,L.flat_len,List.length_take];omega
     repeat' (first|refine pN_fa ha (rw_sums (x,sx,li)) fun ad2 ha2=>?_|refine pN_ld1 ha2 hS ?_|(refine pcq (f:=150) (r6num_ok (li.length:Int) (by omega) (by omega) hS (by omega) ?_);clear hS;intro s5 w hS;rw[Int.toNat_natCast] at hS ⊢)|(refine pN_eql_s ?_ ?_<;>intro hc<;>try (exfalso;first|omega|exact gone hc|exact gon2 hc))|refine pIf_t ?_|refine pN_l hS (by first|rfl|assumption) ?_|refine pN_ixk hS _ (by first|rfl|(exact(Int.toNat_of_nonneg (by omega)).symm)) (by first|rfl|omega|simpa only[go_sem] using True.intro|(simp only[go_sem];omega)) (by assumption) fun a ha hel=>?_|refine pN_v (hk:=?_)|fail)
     rw[←List.append_assoc]
     rw[←Nat.add_assoc,←List.length_append] at hpl
     generalize pr2++C.put li.length=pr3 at*
     refine⟨fun v v' w=>∃(j:Nat) (so:Sl),j≤li.length∧v= .slice so.a (pr3++L.flat (li.take j)).length so.c∧v'= .int .i64 j∧Sat E w (rows cd_uint8 so (pr3++L.flat (li.take j))::cel xb ⟨49,x.enc⟩::M),fun _ v _=>li.length-(RowKit.intOf v).toNat,
      ⟨0,s5,by omega,by rw[List.take_zero,L.flat_nil,List.append_nil],rfl,by rw[List.take_zero,L.flat_nil,List.append_nil];exact hS.to⟩,?_⟩
     clear hS
     rintro _ _ _ w ⟨j,so,hj,rfl,rfl,hS⟩
     by_cases hlt2:j<li.length
     ·obtain⟨i,hi⟩:∃i,li[j]? =some i:=⟨li[j],List.getElem?_eq_getElem _⟩
      have hnx:=L.flat_take hi
      have h1:=htk (j+1)
      rw[hnx,List.length_append,i.h] at h1
      have hih:=i.h
      repeat' (first|refine pN_ixk (C:=cdI 58) (s:=sx) (l:=li) hS j rfl rfl hi fun ad ha hel=>?_|refine pN_fa ha (rw_sums (x,sx,li)) fun ad2 ha2=>?_|refine pN_ld1 ha2 hS ?_|refine pN_ld_at ha hS (i32n i) ?_|(refine pN_nz (t:=58) hS ?_;clear hS;intro ib w hS)|(refine pN_sid hS i (by rfl) ?_;clear hS;intro w hS)|(refine pN_lss_s ?_ ?_<;>intro hc<;>try (exfalso;omega))|refine pIf_t ?_|refine pN_ixk hS _ (by first|rfl|(exact(Int.toNat_of_nonneg (by omega)).symm)) (by first|rfl|omega|simpa only[go_sem] using True.intro|(simp only[go_sem];omega)) (by assumption) fun a ha hel=>?_|refine pN_v (hk:=?_)|fail)
      dsimp only at hS
      rename Nat=>ib
      refine⟨fun v v' w=>∃(m:Nat) (so:Sl),m≤32∧v= .slice so.a (pr3++L.flat (li.take j)++i.l.take m).length so.c∧v'= .int .i64 m∧Sat E w (rows cd_uint8 so (pr3++L.flat (li.take j)++i.l.take m)::cel ib ⟨58,bvs i.l⟩::cel xb ⟨49,x.enc⟩::M),fun _ v _=>32-(RowKit.intOf v).toNat,
       ⟨0,so,by omega,by rw[List.take_zero,List.append_nil],rfl,by rw[List.take_zero,List.append_nil];exact hS.to⟩,?_⟩
      clear hS
      rintro _ _ _ w ⟨m,so,hm32,rfl,rfl,hS⟩
      by_cases hm:m<32
      ·obtain⟨c0,hc0⟩:∃c0,i.l[m]? =some c0:=⟨i.l[m],List.getElem?_eq_getElem _⟩
       have hcv:(bvs i.l)[m]? =some (bv c0):=by rw[bvs,List.getElem?_map,hc0];rfl
       have hmx:i.l.take (m+1)=i.l.take m++[c0]:=by rw[List.take_add_one,hc0];rfl
       have hml:(i.l.take m).length=m:=by rw[List.length_take];omega
       have hql:(pr3++L.flat (li.take j)++i.l.take m).length≤140737488355000:=by rw[List.length_append,List.length_append];omega
       have hasc2:pr3++L.flat (li.take j)++i.l.take (m+1)=(pr3++L.flat (li.take j)++i.l.take m)++[c0]:=by rw[hmx];simp only[List.append_assoc]
       generalize pr3++L.flat (li.take j)++i.l.take m=pr4 at*
       repeat' (first|refine pN_ai0 (t:=58) m rfl hm ?_|refine pN_l (b:=ib) hS hcv ?_|(refine pN_lss_s ?_ ?_<;>intro hc<;>try (exfalso;omega))|refine pIf_t ?_|(refine pN_b1 hS (by rfl) (by decide) ?_;clear hS;intro s w hS)|(refine pN_app hS (by first|rfl|omega|simpa only[go_sem] using True.intro|(simp only[go_sem];omega)) (by first|rfl|omega|simpa only[go_sem] using True.intro|(simp only[go_sem];omega)) (by first|omega|(simp only[go_sem];omega)) ?_;clear hS;intro s w hS)|refine pN_v (hk:=?_)|fail)
       rw[←hasc2] at hS ⊢
       exact⟨⟨m+1,_,hm,rfl,rfl,hS.to⟩,by simp[RowKit.intOf]<;>omega⟩
      ·obtain rfl:m=32:=by omega
       rw[←i.h,List.take_length,List.append_assoc,←hnx] at hS ⊢
       repeat' (first|(refine pN_lss_s ?_ ?_<;>intro hc<;>try (exfalso;omega))|refine pIf_f ?_|refine pN_v (hk:=?_)|fail)
       exact⟨⟨j+1,so,hlt2,rfl,rfl,hS.to⟩,by simp[RowKit.intOf]<;>omega⟩
     ·obtain rfl:j=li.length:=by omega
      rw[List.take_length] at hS ⊢
      repeat' (first|refine pN_fa ha (rw_sums (x,sx,li)) fun ad2 ha2=>?_|refine pN_ld1 ha2 hS ?_|(refine pN_lss_s ?_ ?_<;>intro hc<;>try (exfalso;omega))|refine pIf_f ?_|refine pN_ixk hS _ (by first|rfl|(exact(Int.toNat_of_nonneg (by omega)).symm)) (by first|rfl|omega|simpa only[go_sem] using True.intro|(simp only[go_sem];omega)) (by assumption) fun a ha hel=>?_|refine pN_v (hk:=?_)|fail)
      exact⟨_,rfl,hS.to⟩
    ·rw[if_neg k0,List.append_nil]
     repeat' (first|(refine pN_eql_s ?_ ?_<;>intro hc<;>try (exfalso;first|omega|exact gone hc|exact gon2 hc))|refine pIf_f ?_|refine pN_l hS (by first|rfl|assumption) ?_|refine pN_v (hk:=?_)|fail)
     exact⟨_,rfl,hS⟩
   ·clear hS
    rintro _ _ w ⟨so,rfl,hS⟩
    by_cases k0:x.Kind=0
    ·rw[if_pos k0] at hS ⊢
     repeat' (first|(refine pN_eql_s ?_ ?_<;>intro hc<;>try (exfalso;first|omega|exact gone hc|exact gon2 hc))|refine pIf_f ?_|refine pN_l hS (by first|rfl|assumption) ?_|refine pN_v (hk:=?_)|fail)
     exact⟨_,rfl,hS.to⟩
    ·rw[if_neg k0,List.append_nil] at hS ⊢
     by_cases k2:x.Kind=2
     ·have htail:=ht2 k2
      subst htail
      rw[List.length_append] at hpl
      repeat' (first|(refine pcq (f:=150) (r6num_ok (x.Link.length:Int) (by omega) (by omega) hS (by omega) ?_);clear hS;intro s5 w hS;rw[Int.toNat_natCast] at hS ⊢)|(refine pN_apst hS rfl (by simp only[List.length_append];omega) ?_;clear hS;intro s6 w hS)|refine pN_slen ?_|(refine pN_eql_s ?_ ?_<;>intro hc<;>try (exfalso;first|omega|exact gone hc|exact gon2 hc))|refine pIf_t ?_|refine pN_l hS (by first|rfl|assumption) ?_|refine pN_v (hk:=?_)|fail)
      rw[List.append_assoc] at hS ⊢
      exact⟨_,rfl,hS.to⟩
     ·have htail:=ht1 k0 k2
      subst htail
      rw[List.append_nil]
      repeat' (first|(refine pN_eql_s ?_ ?_<;>intro hc<;>try (exfalso;first|omega|exact gone hc|exact gon2 hc))|refine pIf_f ?_|refine pN_l hS (by first|rfl|assumption) ?_|refine pN_v (hk:=?_)|fail)
      exact⟨_,rfl,hS.to⟩
  ·clear hS
   rintro _ _ w ⟨so,rfl,hS⟩
   repeat' (first|refine pN_v (hk:=?_)|fail)
   exact⟨⟨k+1,so,by omega,by rw[hput],rfl,by rw[hput];exact hS⟩,by simp[RowKit.intOf]<;>omega⟩
 ·obtain rfl:k=es.length:=by omega
  rw[hes,List.take_length,←hes] at hS ⊢
  repeat' (first|(refine pN_lss_s ?_ ?_<;>intro hc<;>try (exfalso;omega))|refine pIf_f ?_|refine pN_v (hk:=?_)|fail)
  exact hQ _ _ hS
end
end
end
section
variable [Pan] {x0:Value} {w:World} {Q:QQ}
set_option maxRecDepth 100000
def pithref33_Right.H:Hints:={ cut:=fun|2=>some ([34],34359738304)|5=>some ([64],36893483749372592128)|7=>some ([88],618969982749201990030458880)|_=>none,loop:=fun _=>([],0),order:=fun _=>[] }
def pithref33_Right.F (x0:Value) (w:World) (Q:QQ):Prop:=
 pN zp (oBox 49 x0) w fun x1 w1=>
 ∃I2:Value→World→Prop,
 (pN zp (oFld 49 x1 2) w1 fun x6 w2=>
 pN zp (oLoad 3 x6) w2 fun x7 w3=>
 pN zp (oBin .lss 3 (.tmp 7) (.const (.int .i64 0)) x7 (.int .i64 0)) w3 fun x8 w4=>
 pGd (gB x8 false) (pN zp (oFld 49 x1 2) w4) w4 fun x10 w5=>
 pGd (gB x8 false) (pN zp (oLoad 3 x10) w5) w5 fun x11 w6=>
 pGd (gB x8 false) (pN zp (oBin .gtr 3 (.tmp 11) (.const (.int .i64 2)) x11 (.int .i64 2)) w6) w6 fun x12 w7=>
 pN zp (oPick x8 (.bool true) x12) w7 fun x13 w8=>
 pGd (gB x13 false) (pN zp (oFld 49 x1 2) w8) w8 fun x15 w9=>
 pGd (gB x13 false) (pN zp (oLoad 3 x15) w9) w9 fun x16 w10=>
 pGd (gB x13 false) (pN zp (oBin .neq 3 (.tmp 16) (.const (.int .i64 2)) x16 (.int .i64 2)) w10) w10 fun x17 w11=>
 pGd (gB x13 false) (pN zp (oMv x17) w11) w11 fun x18 w12=>
 pGd (gB x18 true) (pN zp (oFld 49 x1 1) w12) w12 fun x19 w13=>
 pGd (gB x18 true) (pN zp (oLoad 9 x19) w13) w13 fun x20 w14=>
 pGd (gB x18 true) (pN zp (oBin .neq 9 (.tmp 20) (.const (.string ⟨#[]⟩)) x20 (.string ⟨#[]⟩)) w14) w14 fun x21 w15=>
 pGd (gB x13 false) (pN zp (oPick x18 x21 (.bool false)) w15) w15 fun x22 w16=>
 pN zp (oPick x13 (.bool true) x22) w16 fun x23 w17=>
 pGd (gB x23 false) (pN zp (oFld 49 x1 2) w17) w17 fun x25 w18=>
 pGd (gB x23 false) (pN zp (oLoad 3 x25) w18) w18 fun x26 w19=>
 pGd (gB x23 false) (pN zp (oBin .neq 3 (.tmp 26) (.const (.int .i64 0)) x26 (.int .i64 0)) w19) w19 fun x27 w20=>
 pGd (gB x23 false) (pN zp (oMv x27) w20) w20 fun x28 w21=>
 pGd (gB x28 true) (pN zp (oFld 49 x1 5) w21) w21 fun x29 w22=>
 pGd (gB x28 true) (pN zp (oLoad 47 x29) w22) w22 fun x30 w23=>
 pGd (gB x28 true) (pN zp (oBi .len #[47] 3 [false] [x30]) w23) w23 fun x31 w24=>
 pGd (gB x28 true) (pN zp (oBin .gtr 3 (.tmp 31) (.const (.int .i64 0)) x31 (.int .i64 0)) w24) w24 fun x32 w25=>
 pGd (gB x23 false) (pN zp (oPick x28 x32 (.bool false)) w25) w25 fun x33 w26=>
 pN zp (oPick x23 (.bool true) x33) w26 fun x34 w27=>
 I2 x34 w27)∧
 ∀(_j2:Env) (v34c2:Value) (w28:World),I2 v34c2 w28→
 pIf v34c2
 (Q (.int .i64 6) w28)
 (pN zp (oFld 49 x1 0) w28 fun x36 w29=>
 pN zp (oLoad 9 x36) w29 fun x37 w30=>
 pN zp (oCall 146 [x37]) w30 fun x38 w31=>
 pN zp (oExt x38 0) w31 fun _ w32=>
 pN zp (oExt x38 1) w32 fun _ w33=>
 pN zp (oExt x38 2) w33 fun x41 w34=>
 ∃I5:Value→World→Prop,
 (pN zp (oUn .not x41) w34 fun x43 w35=>
 pGd (gB x43 false) (pN zp (oFld 49 x1 2) w35) w35 fun x45 w36=>
 pGd (gB x43 false) (pN zp (oLoad 3 x45) w36) w36 fun x46 w37=>
 pGd (gB x43 false) (pN zp (oBin .eql 3 (.tmp 46) (.const (.int .i64 2)) x46 (.int .i64 2)) w37) w37 fun x47 w38=>
 pGd (gB x43 false) (pN zp (oMv x47) w38) w38 fun x48 w39=>
 pGd (gB x48 true) (pN zp (oFld 49 x1 1) w39) w39 fun x49 w40=>
 pGd (gB x48 true) (pN zp (oLoad 9 x49) w40) w40 fun x50 w41=>
 pGd (gB x48 true) (pN zp (oBin .eql 9 (.tmp 50) (.const (.string ⟨#[]⟩)) x50 (.string ⟨#[]⟩)) w41) w41 fun x51 w42=>
 pGd (gB x48 true) (pN zp (oMv x51) w42) w42 fun x52 w43=>
 pGd (gB x52 false) (pN zp (oFld 49 x1 1) w43) w43 fun x53 w44=>
 pGd (gB x52 false) (pN zp (oLoad 9 x53) w44) w44 fun x54 w45=>
 pGd (gB x52 false) (pN zp (oBi .len #[9] 3 [false] [x54]) w45) w45 fun x55 w46=>
 pGd (gB x52 false) (pN zp (oBin .gtr 3 (.tmp 55) (.const (.int .i64 100)) x55 (.int .i64 100)) w46) w46 fun x56 w47=>
 pGd (gB x48 true) (pN zp (oPick x52 (.bool true) x56) w47) w47 fun x57 w48=>
 pGd (gB x48 true) (pN zp (oMv x57) w48) w48 fun x58 w49=>
 pGd (gB x58 false) (pN zp (oFld 49 x1 1) w49) w49 fun x59 w50=>
 pGd (gB x58 false) (pN zp (oLoad 9 x59) w50) w50 fun x60 w51=>
 pGd (gB x58 false) (pN zp (oCall 147 [x60]) w51) w51 fun x61 w52=>
 pGd (gB x48 true) (pN zp (oPick x58 (.bool true) x61) w52) w52 fun x62 w53=>
 pGd (gB x43 false) (pN zp (oPick x48 x62 (.bool false)) w53) w53 fun x63 w54=>
 pN zp (oPick x43 (.bool true) x63) w54 fun x64 w55=>
 I5 x64 w55)∧
 ∀(_j5:Env) (v64c5:Value) (w56:World),I5 v64c5 w56→
 pIf v64c5
 (Q (.int .i64 8) w56)
 (∃I7:Value→World→Prop,
 (pN zp (oFld 49 x1 3) w56 fun x65 w57=>
 pN zp (oLoad 3 x65) w57 fun x66 w58=>
 pN zp (oBin .lss 3 (.tmp 66) (.const (.int .i64 0)) x66 (.int .i64 0)) w58 fun x67 w59=>
 pGd (gB x67 false) (pN zp (oFld 49 x1 3) w59) w59 fun x69 w60=>
 pGd (gB x67 false) (pN zp (oLoad 3 x69) w60) w60 fun x70 w61=>
 pGd (gB x67 false) (pN zp (oBin .gtr 3 (.tmp 70) (.const (.int .i64 4095)) x70 (.int .i64 4095)) w61) w61 fun x71 w62=>
 pN zp (oPick x67 (.bool true) x71) w62 fun x72 w63=>
 pGd (gB x72 false) (pN zp (oFld 49 x1 4) w63) w63 fun x74 w64=>
 pGd (gB x72 false) (pN zp (oLoad 3 x74) w64) w64 fun x75 w65=>
 pGd (gB x72 false) (pN zp (oBin .lss 3 (.tmp 75) (.const (.int .i64 0)) x75 (.int .i64 0)) w65) w65 fun x76 w66=>
 pN zp (oPick x72 (.bool true) x76) w66 fun x77 w67=>
 pGd (gB x77 false) (pN zp (oFld 49 x1 4) w67) w67 fun x79 w68=>
 pGd (gB x77 false) (pN zp (oLoad 3 x79) w68) w68 fun x80 w69=>
 pGd (gB x77 false) (pN zp (oBin .gtr 3 (.tmp 80) (.const (.int .i64 8589934591)) x80 (.int .i64 8589934591)) w69) w69 fun x81 w70=>
 pN zp (oPick x77 (.bool true) x81) w70 fun x82 w71=>
 pGd (gB x82 false) (pN zp (oFld 49 x1 5) w71) w71 fun x84 w72=>
 pGd (gB x82 false) (pN zp (oLoad 47 x84) w72) w72 fun x85 w73=>
 pGd (gB x82 false) (pN zp (oBi .len #[47] 3 [false] [x85]) w73) w73 fun x86 w74=>
 pGd (gB x82 false) (pN zp (oBin .gtr 3 (.tmp 86) (.const (.int .i64 8589934591)) x86 (.int .i64 8589934591)) w74) w74 fun x87 w75=>
 pN zp (oPick x82 (.bool true) x87) w75 fun x88 w76=>
 I7 x88 w76)∧
 ∀(_j7:Env) (v88c7:Value) (w77:World),I7 v88c7 w77→
 pIf v88c7
 (Q (.int .i64 7) w77)
 (Q (.int .i64 0) w77)))
theorem pithref33_Right.calls (h:pithref33_Right.F x0 w Q):Calls zp 111 #[x0] w (retP Q):=cl pithref33_Right.H [x0] Tryz.func111 h
def pithref33_Cut.H:Hints:={ cut:=fun _=>none,loop:=fun|6=>([5],1125899906777148)|_=>([],0),order:=fun|9=>(ot 19)|_=>[] }
def pithref33_Cut.F (x0:Value) (w:World) (Q:QQ):Prop:=
 pN zp (oBin .eql 9 (.tmp 6) (.const (.string ⟨#[]⟩)) x0 (.string ⟨#[]⟩)) w fun x7 w1=>
 pGd (gB x7 false) (pN zp (oMv x0) w1) w1 fun x9 w2=>
 pGd (gB x7 false) (pN zp (oCall 147 [x9]) w2) w2 fun x10 w3=>
 pN zp (oPick x7 (.bool true) x10) w3 fun x11 w4=>
 pIf x11
 (Q (.tuple #[(.string ⟨#[]⟩),(.string ⟨#[]⟩),(.bool false)]) w4)
 (pN zp (oBi .len #[9] 3 [false] [x0]) w4 fun x13 w5=>
 pN zp (oBin .leq 3 (.tmp 13) (.const (.int .i64 100)) x13 (.int .i64 100)) w5 fun x14 w6=>
 pIf x14
 (Q (.tuple #[(.string ⟨#[]⟩),x0,(.bool true)]) w6)
 (∃(L6:Value→World→Prop) (m6:Value→World→Nat),
 L6 (.int .i64 1) w6∧
 ∀(_k6:Env) (i5l6:Value) (w7:World),L6 i5l6 w7→
 pN zp (oBi .len #[9] 3 [false] [x0]) w7 fun x18 w8=>
 pN zp (oBin .lss 3 (.tmp 16) (.tmp 18) i5l6 x18) w8 fun x19 w9=>
 pIf x19
 (pN zp (oIndex 9 x0 i5l6) w9 fun x24 w10=>
 pN zp (oBin .eql 5 (.tmp 24) (.const (.int .u8 47)) x24 (bv 47)) w10 fun x25 w11=>
 pGd (gB x25 true) (pN zp (oMv x0) w11) w11 fun x27 w12=>
 pGd (gB x25 true) (pN zp (oBi .len #[9] 3 [false] [x27]) w12) w12 fun x28 w13=>
 pGd (gB x25 true) (pN zp (oMv i5l6) w13) w13 fun x29 w14=>
 pGd (gB x25 true) (pN zp (oBin .sub 3 (.tmp 28) (.tmp 29) x28 x29) w14) w14 fun x30 w15=>
 pGd (gB x25 true) (pN zp (oBin .sub 3 (.tmp 30) (.const (.int .i64 1)) x30 (.int .i64 1)) w15) w15 fun x31 w16=>
 pGd (gB x25 true) (pN zp (oBin .leq 3 (.tmp 31) (.const (.int .i64 100)) x31 (.int .i64 100)) w16) w16 fun x32 w17=>
 pN zp (oPick x25 x32 (.bool false)) w17 fun x33 w18=>
 pIf x33
 (pDr w18 fun w19=>
 pA zp (oSl 9 x0 none (some i5l6) none) fun x36=>
 pA zp (oBin .add 3 (.tmp 38) (.const (.int .i64 1)) i5l6 (.int .i64 1)) fun x39=>
 pA zp (oSl 9 x0 (some x39) none none) fun x40=>
 pA zp (oBin .leq 3 (.tmp 41) (.const (.int .i64 155)) i5l6 (.int .i64 155)) fun x42=>
 gA (gB x42 true) (pA zp (oMv i5l6)) fun x44=>
 gA (gB x42 true) (pA zp (oMv x0)) fun x45=>
 gA (gB x42 true) (pA zp (oBi .len #[9] 3 [false] [x45])) fun x46=>
 gA (gB x42 true) (pA zp (oBin .sub 3 (.tmp 46) (.const (.int .i64 1)) x46 (.int .i64 1))) fun x47=>
 gA (gB x42 true) (pA zp (oBin .lss 3 (.tmp 44) (.tmp 47) x44 x47)) fun x48=>
 pA zp (oPick x42 x48 (.bool false)) fun x49=>
 Q (.tuple #[x36,x40,x49]) w19)
 (pN zp (oBin .add 3 (.tmp 20) (.const (.int .i64 1)) i5l6 (.int .i64 1)) w18 fun x21 w20=>
 (L6 x21 w20∧m6 x21 w20<m6 i5l6 w7)))
 (Q (.tuple #[(.string ⟨#[]⟩),(.string ⟨#[]⟩),(.bool false)]) w9)))
theorem pithref33_Cut.calls (h:pithref33_Cut.F x0 w Q):Calls zp 146 #[x0] w (retP Q):=cl pithref33_Cut.H [x0] Tryz.func146 h
def pithref33_has.H:Hints:={ cut:=fun _=>none,loop:=fun|2=>([3],16380)|_=>([],0),order:=fun _=>[] }
def pithref33_has.F (x0:Value) (w:World) (Q:QQ):Prop:=
 ∃(L2:Value→World→Prop) (m2:Value→World→Nat),
 L2 (.int .i64 0) w∧
 ∀(_k2:Env) (i3l2:Value) (w1:World),L2 i3l2 w1→
 pN zp (oBi .len #[9] 3 [false] [x0]) w1 fun x6 w2=>
 pN zp (oBin .lss 3 (.tmp 4) (.tmp 6) i3l2 x6) w2 fun x7 w3=>
 pIf x7
 (pN zp (oIndex 9 x0 i3l2) w3 fun x12 w4=>
 pN zp (oBin .eql 5 (.tmp 12) (.const (.int .u8 0)) x12 (bv 0)) w4 fun x13 w5=>
 pIf x13
 (Q (.bool true) w5)
 (pN zp (oBin .add 3 (.tmp 8) (.const (.int .i64 1)) i3l2 (.int .i64 1)) w5 fun x9 w6=>
 (L2 x9 w6∧m2 x9 w6<m2 i3l2 w1)))
 (Q (.bool false) w3)
theorem pithref33_has.calls (h:pithref33_has.F x0 w Q):Calls zp 147 #[x0] w (retP Q):=cl pithref33_has.H [x0] Tryz.func147 h
end
section
attribute [local irreducible] oMv oV oU oCall oCallV oBi oBin oUn oLoad oStore oNil oFld oField oIdx oIndex oPick oAlloc oBox oBuild oBs oConv oMk oSl oExt oFn oIface oMap oLook oMapUp oRange oNext oEntry oInv oAssert oPanic oRes pN pA pL pDr pIf gA pGd Calls
section
namespace A
theorem has_take3 {l:List UInt8} {k:Nat} {x:UInt8} (h:l[k]? =some x):l.take (k+1)=l.take k++[x]:=by rw[List.take_add_one,h];rfl
theorem zero_take3 {l:List UInt8} {k:Nat} {x:UInt8} (h:l[k]? =some x) (hx:x≠0) (h0:0∉l.take k):0∉l.take (k+1):=by
 rw[has_take3 h]
 intro hm
 rcases List.mem_append.1 hm with hm|hm
 ·exact h0 hm
 ·exact hx (List.mem_singleton.1 hm).symm
end A
attribute [local irreducible] A.wrong A.parted
section
variable [Pan] {E w:World} {K Q:Value→World→Prop} {L M:List HA} {l r:List UInt8} {s s2 sl sl2:Sl}
theorem r33has_ok (hl:l.length≤140737488355328) (hQ:Q (.bool (decide (0∈l))) w):Calls zp 147 #[.string ⟨l.toArray⟩] w (retP Q):=by
 refine pithref33_has.calls ?_
 unfold pithref33_has.F
 refine⟨fun i w'=>∃k:Nat,k≤l.length∧i= .int .i64 k∧0∉l.take k∧w'=w,fun i _=>l.length-(RowKit.intOf i).toNat,⟨0,Nat.zero_le _,rfl,by simp,rfl⟩,?_⟩
 rintro _ _ _ ⟨k,hk,rfl,h0,rfl⟩
 by_cases hlt:k<l.length
 ·obtain⟨x,hx⟩:∃x,l[k]? =some x:=⟨l[k],by simp[hlt]⟩
  by_cases hx0:x=0
  ·subst hx0
   rw[decide_eq_true (List.mem_of_getElem? hx)] at hQ
   repeat' (first|refine pN_slen ?_|refine pN_sidx _ (by first|rfl|(exact(Int.toNat_of_nonneg (by omega)).symm)) (by first|assumption|rfl) ?_|(refine pN_lss_s ?_ ?_<;>intro hc<;>try (exfalso;omega))|(refine pN_eql_s ?_ ?_<;>intro hc<;>try (exfalso;first|omega|exact gone hc|exact gon2 hc))|refine pIf_t ?_|fail)
   exact hQ
  ·have hxi:¬(x.toNat:Int)=((0:UInt8).toNat:Int):=fun e=>hx0 (UInt8.toNat_inj.1 (Int.ofNat_inj.1 e))
   repeat' (first|refine pN_slen ?_|refine pN_sidx _ (by first|rfl|(exact(Int.toNat_of_nonneg (by omega)).symm)) (by first|assumption|rfl) ?_|(refine pN_lss_s ?_ ?_<;>intro hc<;>try (exfalso;omega))|(refine pN_eql_s ?_ ?_<;>intro hc<;>try (exfalso;first|omega|exact gone hc|exact gon2 hc))|refine pIf_t ?_|refine pIf_f ?_|refine pN_v (hk:=?_)|fail)
   exact⟨⟨k+1,hlt,rfl,A.zero_take3 hx hx0 h0,rfl⟩,by simp[RowKit.intOf]<;>omega⟩
 ·obtain rfl:k=l.length:=by omega
  rw[List.take_length] at h0
  rw[decide_eq_false h0] at hQ
  repeat' (first|refine pN_slen ?_|(refine pN_lss_s ?_ ?_<;>intro hc<;>try (exfalso;omega))|refine pIf_f ?_|fail)
  exact hQ
set_option maxHeartbeats 1000000 in
theorem r33Cut_ok (hl:l.length≤140737488355328) (hS:Sat E w L) (hQ:∀w,Sat E w L→Q (.tuple #[.string ⟨(A.parted l).1.toArray⟩,.string ⟨(A.parted l).2.1.toArray⟩,.bool (A.parted l).2.2]) w):
  Calls zp 146 #[.string ⟨l.toArray⟩] w (retP Q):=by
 refine pithref33_Cut.calls ?_
 unfold pithref33_Cut.F
 have e0:(.string ⟨#[]⟩:Value)= .string ⟨List.toArray []⟩:=rfl
 rw[e0]
 by_cases h1:l=[]∨0∈l
 ·have hp:A.parted l=([],[],false):=by rw[A.parted,if_pos h1]
  rw[hp] at hQ
  by_cases h2:l=[]
  ·repeat' (first|(refine pN_eql_ss ?_ ?_<;>intro hc<;>try (exfalso;first|omega|exact gone hc|exact gon2 hc))|refine pIf_t ?_|refine pGd_no (by rfl) ?_|refine pN_v (hk:=?_)|fail)
   all_goals exact hQ _ hS
  ·have h3:decide (0∈l)=true:=decide_eq_true (h1.resolve_left h2)
   repeat' (first|(refine pcq (f:=147) (r33has_ok hl ?_);rw[h3])|(refine pN_eql_ss ?_ ?_<;>intro hc<;>try (exfalso;first|omega|exact gone hc|exact gon2 hc))|refine pIf_t ?_|refine pGd_go (by rfl) ?_|refine pN_v (hk:=?_)|fail)
   all_goals exact hQ _ hS
 have h2:¬l=[]:=fun e=>h1 (.inl e)
 have h3:decide (0∈l)=false:=decide_eq_false fun e=>h1 (.inr e)
 by_cases h4:l.length≤100
 ·have hp:A.parted l=([],l,true):=by rw[A.parted,if_neg h1,if_pos h4]
  rw[hp] at hQ
  repeat' (first|(refine pcq (f:=147) (r33has_ok hl ?_);rw[h3])|refine pN_slen ?_|(refine pN_leq_s ?_ ?_<;>intro hc<;>try (exfalso;omega))|(refine pN_eql_ss ?_ ?_<;>intro hc<;>try (exfalso;first|omega|exact gone hc|exact gon2 hc))|refine pIf_t ?_|refine pIf_f ?_|refine pGd_go (by rfl) ?_|refine pN_v (hk:=?_)|fail)
  all_goals exact hQ _ hS
 have hpn:A.slash l (max 1 (l.length-101))=none→A.parted l=([],[],false):=fun e=>by rw[A.parted,if_neg h1,if_neg h4,e]
 have hps:∀i,A.slash l (max 1 (l.length-101))=some i→A.parted l=(l.take i,l.drop (i+1),decide (i≤155∧i+1<l.length)):=fun i e=>by rw[A.parted,if_neg h1,if_neg h4,e]
 generalize hm0:max 1 (l.length-101)=m0 at*
 repeat' (first|(refine pcq (f:=147) (r33has_ok hl ?_);rw[h3])|refine pN_slen ?_|(refine pN_leq_s ?_ ?_<;>intro hc<;>try (exfalso;omega))|(refine pN_eql_ss ?_ ?_<;>intro hc<;>try (exfalso;first|omega|exact gone hc|exact gon2 hc))|refine pIf_f ?_|refine pGd_go (by rfl) ?_|refine pN_v (hk:=?_)|fail)
 refine⟨fun v w'=>∃i:Nat,v= .int .i64 i∧1≤i∧i≤l.length∧A.slash l m0=A.slash l (max i m0)∧Sat E w' L,fun v _=>l.length-(RowKit.intOf v).toNat,⟨1,rfl,Nat.le_refl _,by omega,by rw[show max 1 m0=m0 from by omega],hS⟩,?_⟩
 clear hS
 rintro _ _ w1 ⟨i,rfl,hi,hi2,hsl,hS⟩
 by_cases hlt:i<l.length
 ·obtain⟨x,hx⟩:∃x,l[i]? =some x:=⟨l[i]'hlt,by simp⟩
  have hnext:¬(x=47∧m0≤i)→A.slash l m0=A.slash l (max (i+1) m0):=fun hn=>by
   by_cases hmi:m0≤i
   ·rw[hsl,show max i m0=i from by omega,A.slash_miss hx fun e=>hn ⟨e,hmi⟩,show max (i+1) m0=i+1 from by omega]
   ·rw[show max (i+1) m0=m0 from by omega]
  by_cases h47:x=47
  ·subst h47
   by_cases hmi:m0≤i
   ·rw[show max i m0=i from by omega,A.slash_hit hx] at hsl
    rw[hps _ hsl] at hQ
    by_cases h5:i≤155
    ·by_cases h6:i+1<l.length
     ·rw[decide_eq_true ⟨h5,h6⟩] at hQ
      repeat' (first|refine pN_slen ?_|refine pA_slen ?_|refine pN_sidx _ (by first|rfl|(exact(Int.toNat_of_nonneg (by omega)).symm)) (by first|assumption|rfl) ?_|refine pA_ssl1 _ (by first|rfl|(exact(Int.toNat_of_nonneg (by omega)).symm)) (by first|omega|(simp only[go_sem];omega)) ?_|refine pA_sslh _ (by first|rfl|(exact(Int.toNat_of_nonneg (by omega)).symm)) (by first|omega|(simp only[go_sem];omega)) ?_|((first|refine pN_lss_s ?_ ?_|refine pA_lss_s ?_ ?_|refine pN_leq_s ?_ ?_|refine pA_leq_s ?_ ?_)<;>intro hc<;>try (exfalso;omega))|(refine pN_eql_s ?_ ?_<;>intro hc<;>try (exfalso;first|omega|exact gone hc|exact gon2 hc))|refine pIf_t ?_|refine gA_go (by rfl) ?_|refine pGd_go (by rfl) ?_|(refine pDr_go hS ?_;clear hS;intro w hS)|refine pN_v (hk:=?_)|refine pA_v (hk:=?_)|fail)
      exact hQ _ hS
     ·rw[decide_eq_false (fun h=>h6 h.2)] at hQ
      repeat' (first|refine pN_slen ?_|refine pA_slen ?_|refine pN_sidx _ (by first|rfl|(exact(Int.toNat_of_nonneg (by omega)).symm)) (by first|assumption|rfl) ?_|refine pA_ssl1 _ (by first|rfl|(exact(Int.toNat_of_nonneg (by omega)).symm)) (by first|omega|(simp only[go_sem];omega)) ?_|refine pA_sslh _ (by first|rfl|(exact(Int.toNat_of_nonneg (by omega)).symm)) (by first|omega|(simp only[go_sem];omega)) ?_|((first|refine pN_lss_s ?_ ?_|refine pA_lss_s ?_ ?_|refine pN_leq_s ?_ ?_|refine pA_leq_s ?_ ?_)<;>intro hc<;>try (exfalso;omega))|(refine pN_eql_s ?_ ?_<;>intro hc<;>try (exfalso;first|omega|exact gone hc|exact gon2 hc))|refine pIf_t ?_|refine gA_go (by rfl) ?_|refine pGd_go (by rfl) ?_|(refine pDr_go hS ?_;clear hS;intro w hS)|refine pN_v (hk:=?_)|refine pA_v (hk:=?_)|fail)
      exact hQ _ hS
    ·rw[decide_eq_false (fun h=>h5 h.1)] at hQ
     repeat' (first|refine pN_slen ?_|refine pN_sidx _ (by first|rfl|(exact(Int.toNat_of_nonneg (by omega)).symm)) (by first|assumption|rfl) ?_|refine pA_ssl1 _ (by first|rfl|(exact(Int.toNat_of_nonneg (by omega)).symm)) (by first|omega|(simp only[go_sem];omega)) ?_|refine pA_sslh _ (by first|rfl|(exact(Int.toNat_of_nonneg (by omega)).symm)) (by first|omega|(simp only[go_sem];omega)) ?_|((first|refine pN_lss_s ?_ ?_|refine pN_leq_s ?_ ?_|refine pA_leq_s ?_ ?_)<;>intro hc<;>try (exfalso;omega))|(refine pN_eql_s ?_ ?_<;>intro hc<;>try (exfalso;first|omega|exact gone hc|exact gon2 hc))|refine pIf_t ?_|refine gA_no (by rfl) ?_|refine pGd_go (by rfl) ?_|(refine pDr_go hS ?_;clear hS;intro w hS)|refine pN_v (hk:=?_)|refine pA_v (hk:=?_)|fail)
     exact hQ _ hS
   ·have hn:=hnext fun h=>hmi h.2
    repeat' (first|refine pN_slen ?_|refine pN_sidx _ (by first|rfl|(exact(Int.toNat_of_nonneg (by omega)).symm)) (by first|assumption|rfl) ?_|((first|refine pN_lss_s ?_ ?_|refine pN_leq_s ?_ ?_)<;>intro hc<;>try (exfalso;omega))|(refine pN_eql_s ?_ ?_<;>intro hc<;>try (exfalso;first|omega|exact gone hc|exact gon2 hc))|refine pIf_t ?_|refine pIf_f ?_|refine pGd_go (by rfl) ?_|refine pN_v (hk:=?_)|fail)
    exact⟨⟨i+1,rfl,by omega,by omega,hn,hS⟩,by simp[RowKit.intOf]<;>omega⟩
  ·have h48:¬(x.toNat:Int)=((47:UInt8).toNat:Int):=fun e=>h47 (UInt8.toNat_inj.1 (by omega))
   have hn:=hnext fun h=>h47 h.1
   repeat' (first|refine pN_slen ?_|refine pN_sidx _ (by first|rfl|(exact(Int.toNat_of_nonneg (by omega)).symm)) (by first|assumption|rfl) ?_|(refine pN_lss_s ?_ ?_<;>intro hc<;>try (exfalso;omega))|(refine pN_eql_s ?_ ?_<;>intro hc<;>try (exfalso;first|omega|exact gone hc|exact gon2 hc))|refine pIf_t ?_|refine pIf_f ?_|refine pGd_no (by rfl) ?_|refine pN_v (hk:=?_)|fail)
   exact⟨⟨i+1,rfl,by omega,by omega,hn,hS⟩,by simp[RowKit.intOf]<;>omega⟩
 ·rw[A.slash_out (l:=l) (i:=max i m0) (by omega)] at hsl
  rw[hpn hsl] at hQ
  repeat' (first|refine pN_slen ?_|(refine pN_lss_s ?_ ?_<;>intro hc<;>try (exfalso;omega))|refine pIf_f ?_|fail)
  exact hQ _ hS
set_option maxHeartbeats 4000000 in
theorem r33Right_ok (x:T_api_Item) (hn:x.Name.length≤140737488355328) (hk:x.Link.length≤140737488355328) (hS:Sat E w L) (hQ:∀w,Sat E w L→Q (.int .i64 (A.wrong x)) w):
  Calls zp 111 #[.agg x.enc.toArray] w (retP Q):=by
 refine pithref33_Right.calls ?_
 unfold pithref33_Right.F
 obtain⟨name,link,kind,mode,time,data⟩:=x
 obtain⟨w6,w8,w7,w0⟩:(kind<0∨3≤kind∨(kind≠2∧link.length≠0)∨(kind≠0∧0<data.2.length)→A.wrong ⟨name,link,kind,mode,time,data⟩=6)∧
   (¬(kind<0∨3≤kind∨(kind≠2∧link.length≠0)∨(kind≠0∧0<data.2.length))→((A.parted name).2.2=false∨(kind=2∧(link.length=0∨100<link.length∨0∈link)))→A.wrong ⟨name,link,kind,mode,time,data⟩=8)∧
   (¬(kind<0∨3≤kind∨(kind≠2∧link.length≠0)∨(kind≠0∧0<data.2.length))→¬((A.parted name).2.2=false∨(kind=2∧(link.length=0∨100<link.length∨0∈link)))→(mode<0∨4096≤mode∨time<0∨8589934592≤time∨8589934592≤data.2.length)→A.wrong ⟨name,link,kind,mode,time,data⟩=7)∧
   (¬(kind<0∨3≤kind∨(kind≠2∧link.length≠0)∨(kind≠0∧0<data.2.length))→¬((A.parted name).2.2=false∨(kind=2∧(link.length=0∨100<link.length∨0∈link)))→¬(mode<0∨4096≤mode∨time<0∨8589934592≤time∨8589934592≤data.2.length)→A.wrong ⟨name,link,kind,mode,time,data⟩=0):=
  ⟨fun h=>by rw[A.wrong,if_pos h],fun h h2=>by rw[A.wrong,if_neg h,if_pos h2],fun h h2 h3=>by rw[A.wrong,if_neg h,if_neg h2,if_pos h3],fun h h2 h3=>by rw[A.wrong,if_neg h,if_neg h2,if_neg h3]⟩
 dsimp only[T_api_Item.enc] at hn hk ⊢
 generalize A.wrong ⟨name,link,kind,mode,time,data⟩=res at*
 have e0:(.string ⟨#[]⟩:Value)= .string ⟨List.toArray []⟩:=rfl
 rw[e0]
 have hlk:(link=[]∧link.length=0)∨(¬link=[]∧0<link.length):=by
  rcases link with _|⟨b,t⟩<;>simp
 refine pN_bx hS (by rfl) ?_
 clear hS
 intro a w hS
 have hC:=fun {K:Value→World→Prop} {w:World} (hS:Sat E w (cel a ⟨49,[.string ⟨name.toArray⟩,.string ⟨link.toArray⟩,.int .i64 kind,.int .i64 mode,.int .i64 time,.slice data.1.a data.2.length data.1.c]⟩::L))=>r33Cut_ok (Q:=K) hn hS
 generalize A.parted name=pn at*
 obtain⟨p1,p2,p3⟩:=pn
 dsimp only at*
 have hH:=fun {K:Value→World→Prop} {w:World}=>r33has_ok (Q:=K) (w:=w) hk
 refine⟨fun v w'=>v= .bool (decide (kind<0∨3≤kind∨(kind≠2∧link.length≠0)∨(kind≠0∧0<data.2.length)))∧Sat E w' (cel a ⟨49,[.string ⟨name.toArray⟩,.string ⟨link.toArray⟩,.int .i64 kind,.int .i64 mode,.int .i64 time,.slice data.1.a data.2.length data.1.c]⟩::L),?_,?_⟩
 ·clear hQ w6 w8 w7 w0
  rcases hlk with⟨hl0,hll⟩|⟨hl0,hll⟩
  all_goals
   repeat' (first|((first|refine pN_lss_s ?_ ?_|refine pN_gtr_s ?_ ?_)<;>intro hc<;>try (exfalso;omega))|((first|refine pN_neq_s ?_ ?_|refine pN_neq_ss ?_ ?_)<;>intro hc<;>try (exfalso;first|omega|exact gone hc|exact gon2 hc))|refine pGd_go (by rfl) ?_|refine pGd_no (by rfl) ?_|refine pN_l hS (by first|rfl|assumption) ?_|refine pN_v (hk:=?_)|fail)
   all_goals first
    |exact⟨congrArg Value.bool (decide_eq_true (by omega)).symm,hS⟩
    |exact⟨congrArg Value.bool (decide_eq_false (by omega)).symm,hS⟩
 clear hS
 rintro _ _ w ⟨rfl,hS⟩
 by_cases C1:kind<0∨3≤kind∨(kind≠2∧link.length≠0)∨(kind≠0∧0<data.2.length)
 ·rw[decide_eq_true C1]
  refine pIf_t ?_
  have:=w6 C1
  subst this
  exact hQ _ hS.to
 rw[decide_eq_false C1]
 refine pIf_f ?_
 have w8:=w8 C1
 have w7:=w7 C1
 have w0:=w0 C1
 clear w6 C1
 repeat' (first|(refine pcq (f:=146) (hC hS ?_);clear hS;intro w hS)|refine pN_l hS (by first|rfl|assumption) ?_|refine pN_v (hk:=?_)|fail)
 refine⟨fun v w'=>v= .bool (decide (p3=false∨(kind=2∧(link.length=0∨100<link.length∨0∈link))))∧Sat E w' (cel a ⟨49,[.string ⟨name.toArray⟩,.string ⟨link.toArray⟩,.int .i64 kind,.int .i64 mode,.int .i64 time,.slice data.1.a data.2.length data.1.c]⟩::L),?_,?_⟩
 ·clear hQ w8 w7 w0
  cases p3
  ·repeat' (first|refine pGd_no (by rfl) ?_|refine pN_v (hk:=?_)|fail)
   exact⟨congrArg Value.bool (decide_eq_true (.inl rfl)).symm,hS⟩
  ·simp only[Bool.true_eq_false,false_or]
   by_cases hm0:0∈link
   ·have hm:=decide_eq_true hm0
    simp only[hm0,or_true,and_true]
    rcases hlk with⟨hl0,hll⟩|⟨hl0,hll⟩
    all_goals
     repeat' (first|(refine pcq (f:=147) (hH ?_);rw[hm])|refine pN_slen ?_|(refine pN_gtr_s ?_ ?_<;>intro hc<;>try (exfalso;omega))|((first|refine pN_eql_s ?_ ?_|refine pN_eql_ss ?_ ?_)<;>intro hc<;>try (exfalso;first|omega|exact gone hc|exact gon2 hc))|refine pGd_go (by rfl) ?_|refine pGd_no (by rfl) ?_|refine pN_l hS (by first|rfl|assumption) ?_|refine pN_v (hk:=?_)|fail)
     all_goals first
      |exact⟨congrArg Value.bool (decide_eq_true (by omega)).symm,hS⟩
      |exact⟨congrArg Value.bool (decide_eq_false (by omega)).symm,hS⟩
   ·have hm:=decide_eq_false hm0
    simp only[hm0,or_false]
    rcases hlk with⟨hl0,hll⟩|⟨hl0,hll⟩
    all_goals
     repeat' (first|(refine pcq (f:=147) (hH ?_);rw[hm])|refine pN_slen ?_|(refine pN_gtr_s ?_ ?_<;>intro hc<;>try (exfalso;omega))|((first|refine pN_eql_s ?_ ?_|refine pN_eql_ss ?_ ?_)<;>intro hc<;>try (exfalso;first|omega|exact gone hc|exact gon2 hc))|refine pGd_go (by rfl) ?_|refine pGd_no (by rfl) ?_|refine pN_l hS (by first|rfl|assumption) ?_|refine pN_v (hk:=?_)|fail)
     all_goals first
      |exact⟨congrArg Value.bool (decide_eq_true (by omega)).symm,hS⟩
      |exact⟨congrArg Value.bool (decide_eq_false (by omega)).symm,hS⟩
 clear hS
 rintro _ _ w ⟨rfl,hS⟩
 by_cases C2:p3=false∨(kind=2∧(link.length=0∨100<link.length∨0∈link))
 ·rw[decide_eq_true C2]
  refine pIf_t ?_
  have:=w8 C2
  subst this
  exact hQ _ hS.to
 rw[decide_eq_false C2]
 refine pIf_f ?_
 have w7:=w7 C2
 have w0:=w0 C2
 clear w8 C2
 refine⟨fun v w'=>v= .bool (decide (mode<0∨4096≤mode∨time<0∨8589934592≤time∨8589934592≤data.2.length))∧Sat E w' (cel a ⟨49,[.string ⟨name.toArray⟩,.string ⟨link.toArray⟩,.int .i64 kind,.int .i64 mode,.int .i64 time,.slice data.1.a data.2.length data.1.c]⟩::L),?_,?_⟩
 ·clear hQ w7 w0
  repeat' (first|((first|refine pN_lss_s ?_ ?_|refine pN_gtr_s ?_ ?_)<;>intro hc<;>try (exfalso;omega))|refine pGd_go (by rfl) ?_|refine pGd_no (by rfl) ?_|refine pN_l hS (by first|rfl|assumption) ?_|refine pN_v (hk:=?_)|fail)
  all_goals first
   |exact⟨congrArg Value.bool (decide_eq_true (by omega)).symm,hS⟩
   |exact⟨congrArg Value.bool (decide_eq_false (by omega)).symm,hS⟩
 clear hS
 rintro _ _ w ⟨rfl,hS⟩
 by_cases C3:mode<0∨4096≤mode∨time<0∨8589934592≤time∨8589934592≤data.2.length
 ·rw[decide_eq_true C3]
  refine pIf_t ?_
  have:=w7 C3
  subst this
  exact hQ _ hS.to
 ·rw[decide_eq_false C3]
  refine pIf_f ?_
  have:=w0 C3
  subst this
  exact hQ _ hS.to
end
end
section
namespace L
theorem rrows_s {right:En→Bool} {n:Nat} {last:Option (List UInt8)} {b q:List UInt8} {l:List En} (h:rrows right (n+1) last b=some (l,q)):
  ∃e r l',rrow right b=some (e,r)∧(match last with|some x=>Op.bytesLess x e.name|none=>true)=true∧rrows right n (some e.name) r=some (l',q)∧l=e::l':=by
 rw[rrows] at h
 cases hr:rrow right b with
 |none=>rw[hr] at h;cases h
 |some p=>
  obtain⟨e,r⟩:=p
  rw[hr] at h
  simp only at h
  cases last with
  |none=>
   simp only[if_true] at h
   cases hl:rrows right n (some e.name) r with
   |none=>rw[hl] at h;cases h
   |some p2=>
    obtain⟨l',q'⟩:=p2
    rw[hl] at h
    simp only[Option.some.injEq,Prod.mk.injEq] at h
    obtain⟨rfl,rfl⟩:=h
    exact⟨e,r,l',rfl,rfl,hl,rfl⟩
  |some x=>
   by_cases hc:Op.bytesLess x e.name=true
   ·simp only[hc,if_true] at h
    cases hl:rrows right n (some e.name) r with
    |none=>rw[hl] at h;cases h
    |some p2=>
     obtain⟨l',q'⟩:=p2
     rw[hl] at h
     simp only[Option.some.injEq,Prod.mk.injEq] at h
     obtain⟨rfl,rfl⟩:=h
     exact⟨e,r,l',rfl,hc,hl,rfl⟩
   ·simp only[hc] at h;cases h
theorem rrows_0 {right:En→Bool} {last:Option (List UInt8)} {b q:List UInt8} {l:List En} (h:rrows right 0 last b=some (l,q)):l=[]∧q=b:=by
 rw[rrows] at h
 simp only[Option.some.injEq,Prod.mk.injEq] at h
 exact⟨h.1.symm,h.2.symm⟩
theorem rrow_len {right:En→Bool} {b q:List UInt8} {e:En} (h:rrow right b=some (e,q)):q.length+1≤b.length:=by
 obtain⟨kb,b1,m,b2,t,b3,n,b4,h1,h2,h3,h4,h5,_⟩:=rrow_some h
 have e0:=(take_some h1).1
 have e1:b1.length=b.length-1:=by rw[(take_some h1).2.2,List.length_drop]
 have e2:=number_len h2
 have e3:=number_len h3
 have e4:=(rtext_len h4).1
 have e5:q.length≤b4.length:=by
  by_cases k0:((kb.headD 0).toNat:Int)=0
  ·obtain⟨cnt,b5,l,h6,h7,_⟩:=rtail_0 k0 h5
   have:=number_len h6
   have h8:∀{n:Nat} {b q:List UInt8} {l:List I32},rsums n b=some (l,q)→q.length≤b.length:=by
    intro n
    induction n with
    |zero=>intro b q l h;obtain⟨_,rfl⟩:=rsums_0 h;exact Nat.le_refl _
    |succ n ih=>
     intro b q l h
     obtain⟨i,l',_,h2,_⟩:=rsums_s h
     have:=ih h2
     rw[List.length_drop] at this
     omega
   have:=h8 h7
   omega
  ·by_cases k2:((kb.headD 0).toNat:Int)=2
   ·obtain⟨lk,h6,_⟩:=rtail_2 k2 h5
    exact(rtext_len h6).1
   ·obtain⟨_,rfl⟩:=rtail_1 k0 k2 h5
    exact Nat.le_refl _
 omega
theorem rrows_len {right:En→Bool}:∀{n:Nat} {last:Option (List UInt8)} {b q:List UInt8} {l:List En},rrows right n last b=some (l,q)→l.length=n∧n≤b.length
 |0,last,b,q,l,h=>by obtain⟨rfl,_⟩:=rrows_0 h;exact⟨rfl,Nat.zero_le _⟩
 |n+1,last,b,q,l,h=>by
  obtain⟨e,r,l',h1,_,h2,rfl⟩:=rrows_s h
  obtain⟨h3,h4⟩:=rrows_len h2
  have:=rrow_len h1
  exact⟨by rw[List.length_cons,h3],by omega⟩
theorem rlist_some {right:En→Bool} {b:List UInt8} {l:List En} (h:rlist right b=some l):∃n r,number b=some (n,r)∧rrows right n none r=some (l,[])∧n=l.length∧n≤b.length:=by
 unfold rlist at h
 split at h
 ·rename_i n r hn
  split at h
  ·rename_i l' q' hl
   split at h
   ·rename_i hq
    simp only[Option.some.injEq] at h
    subst h hq
    obtain⟨h1,h2⟩:=rrows_len hl
    have:=number_len hn
    exact⟨n,r,hn,hl,h1.symm,by omega⟩
   ·cases h
  ·cases h
 ·cases h
end L
def eeR (ee:List EE):List HA:=ee.map fun p=>rows (cdI 58) p.2.1 p.2.2
theorem eeR_snoc {E w:World} {M:List HA} {ee:List EE} (p:EE) (hS:Sat E w (rows (cdI 58) p.2.1 p.2.2::bag (eeR ee)::M)):Sat E w (bag (eeR (ee++[p]))::M):=by
 have h1:=(hS.perm (List.Perm.swap _ _ _)).openBag
 have e:eeR ee++(rows (cdI 58) p.2.1 p.2.2::M)=eeR (ee++[p])++M:=by simp[eeR]
 rw[e] at h1
 exact h1.shutBag
theorem eeR_rd {ee:List EE} {p:EE} (h:p∈ee):RdP (cdI 58) (bag (eeR ee)) p.2.1 p.2.2:=⟨fun w ⟨h1,hN,hh⟩=>by
 obtain⟨h2,hA,hs⟩:=Sats.mem (List.mem_map.2 ⟨p,h,rfl⟩:rows (cdI 58) p.2.1 p.2.2∈eeR ee) hN
 exact RdA.own w ⟨h2,hA,fun b o e=>hh b o (hs b o e)⟩⟩
theorem bare_snoc {ee:List EE} {e:L.En} {ss:Sl} (h:∀p∈ee,p.1=S.bare (enOf p)):∀p∈ee++[(S.bare e,(ss,e.sums))],p.1=S.bare (enOf p):=fun p hp=>by
 rcases List.mem_append.1 hp with hp|hp
 ·exact h p hp
 ·obtain rfl:p=(S.bare e,(ss,e.sums)):=by simpa using hp
  rfl
theorem pN_eqni [Pan] {w:World} {K:Value→World→Prop} {x:Nat} (hk:K (.bool true) w):pN zp (oBin .eql 20 (.tmp x) (.const .nilIface) .nilIface .nilIface) w K:=by
 have:(oBin .eql 20 (.tmp x) (.const .nilIface) .nilIface .nilIface).run zp w= .ok (.value (.bool true)) w:=by kernel_rfl
 rw[pN_def,this];exact hk
attribute [local irreducible] C.put C.get L.number L.take L.rtext L.rrow L.rrows
section
variable {E w W:World} {K Q:Value→World→Prop} {LL M N N':List HA} {b q:List UInt8} {s s2:Sl} {r:Nat}
theorem rdC_idle {x2 x3:Nat} (hS:Sat E w M) (hQ:∀w,Sat E w M→Q (.tuple #[]) w):snap_read_c1.F .nilIface (.pointer (some ⟨x2,0,none⟩)) (.pointer (some ⟨x3,0,none⟩)) w Q:=by
 unfold snap_read_c1.F
 refine pN_eqni ?_
 repeat' (first|refine pIf_t ?_|fail)
 exact hQ _ hS
set_option maxHeartbeats 4000000 in
theorem sread_ok [Pan] (hS:Sat E w M) [hr:Rds cd_uint8 M s b] (hbl:b.length≤1099511627776) {es:List L.En} (h:L.rlist S.right b=some es)
  (hQ:∀(ee:List EE) se w,ee.map enOf=es→(∀p∈ee,p.1=S.bare (enOf p))→Sat E w (rows cdE se ee::bag (eeR ee)::M)→Q (.tuple #[.slice se.a ee.length se.c,.int .i64 0]) w):
  Calls zp 101 #[.slice s.a b.length s.c] w (retP Q):=by
 refine snap_read.calls ?_
 unfold snap_read.F
 obtain⟨n,r1,hnum,hrows,hn,hnb⟩:=L.rlist_some h
 have hl1:=L.number_len hnum
 clear h
 refine pN_nz hS ?_
 clear hS
 intro x2 w hS
 refine pN_nz hS ?_
 clear hS
 intro x3 w hS
 refine pN_fn ?_
 refine pDf_fn ?_
 let Z:Pan:=⟨fun _ _=>False⟩
 refine⟨Z,fun _ _ h=>h.elim,?_⟩
 repeat' (first|(refine pN_bx hS (by rfl) ?_;clear hS;intro a w hS)|refine pN_v (hk:=?_)|fail)
 revert a
 intro rb hS
 have hS:Sat E w (cel rb (rdO s b)::cel x3 ⟨38,[.int .i64 0]⟩::cel x2 ⟨116,[.slice none 0 0]⟩::M):=hS.to
 refine pcq (f:=130) (rnum_ok hS (by omega) hnum ?_)
 clear hS
 intro s1 hp1 w hS
 refine⟨fun v w=>∃(ee:List EE) (rest:List L.En) (bj:List UInt8) (sj se:Sl),v= .int .i64 ee.length∧es=ee.map enOf++rest∧(∀p∈ee,p.1=S.bare (enOf p))∧L.rrows S.right rest.length (ee.getLast?.map (·.1.Name)) bj=some (rest,[])∧Part cd_uint8 s b sj bj∧bj.length≤b.length∧
  Sat E w (cel rb (rdO sj bj)::cel x3 ⟨38,[.int .i64 0]⟩::cel x2 ⟨116,[.slice se.a ee.length se.c]⟩::rows cdE se ee::bag (eeR ee)::M),fun v _=>n-(RowKit.intOf v).toNat,
  ⟨[],es,r1,s1,⟨none,0⟩,rfl,rfl,fun p h=>(by cases h),by rw[←hn];exact hrows,hp1,hl1,?_⟩,?_⟩
 ·have h8:Sat E w (rows cdE ⟨none,0⟩ []::_):=hS.nil cdE.e cdE.size
  have h9:Sat E w (bag (eeR [])::rows cdE ⟨none,0⟩ []::_):=h8.bag_nil
  exact h9.to
 clear hS
 rintro _ _ w ⟨ee,rest,bj,sj,se,rfl,hes,hba,hrr,hpj,hbj,hS⟩
 have hll:=congrArg List.length hes
 rw[List.length_append,List.length_map,←hn] at hll
 cases rest with
 |cons e rest=>
  rw[List.length_cons] at hll hrr
  obtain⟨e2,r2,rest2,h1,h2,h3,h4⟩:=L.rrows_s hrr
  obtain⟨rfl,rfl⟩:=List.cons.inj h4
  haveI:=hpj.rd M hr
  have hl2:=L.rrow_len h1
  repeat' (first|(refine pN_lss_s ?_ ?_<;>intro hc<;>try (exfalso;omega))|refine pIf_t ?_|fail)
  refine pcq (f:=131) (rent_ok hS (by omega) h1 ?_)
  clear hS
  intro ss s2 hp2 w hS
  repeat' (first|(refine pA_eql_s ?_ ?_<;>intro hc<;>try (exfalso;first|omega|exact gone hc|exact gon2 hc))|refine gA_go (by rfl) ?_|refine gA_no (by rfl) ?_|refine pL_l hS (by first|rfl|assumption) ?_|refine pL_ld1 ha hS ?_|refine pA_fa ha (by rfl) fun a ha=>?_|(refine pN_sa hS (by rfl) (by rfl) (by rfl) ?_;clear hS;intro w hS;try dsimp only at hS)|(refine pDr_go hS ?_;clear hS;intro w hS)|(refine pN_nz hS ?_;clear hS;intro a w hS)|refine pA_ix hS _ (by first|rfl|(exact(Int.toNat_of_nonneg (by omega)).symm)) (by first|rfl|omega|simpa only[go_sem] using True.intro|(simp only[go_sem];omega)) (by first|omega|(simp only[go_sem];omega)) fun a x hx ha hel=>?_|refine pA_v (hk:=?_)|fail)
  ·repeat' (first|(refine pcq (f:=132) (form_ok ?_))|(refine pN_b1 (x:=(S.bare e,(ss,e.sums))) hS rfl (by decide) ?_;clear hS;intro s3 w hS)|(refine pN_app (C:=cdE) (s:=se) (l:=ee) hS rfl rfl (by rw[List.length_cons,List.length_nil];omega) ?_;clear hS;intro s4 w hS)|refine pN_l hS (by first|rfl|assumption) ?_|refine pN_la hS (by rfl) ?_|(refine pN_s hS (by first|exact Nat.le_of_ble_eq_true rfl|assumption) (by rfl) ?_;clear hS;intro w hS;try simp only[List.set_cons_zero,List.set_cons_succ] at hS)|refine⟨trivial,?_⟩|refine pN_v (hk:=?_)|fail)
   have hS:Sat E w (rows (cdI 58) ss e.sums::bag (eeR ee)::cel rb (rdO s2 r2)::cel x3 ⟨38,[.int .i64 0]⟩::cel x2 ⟨116,[.slice s4.a (ee++[(S.bare e,(ss,e.sums))]).length s4.c]⟩::rows cdE s4 (ee++[(S.bare e,(ss,e.sums))])::M):=hS.to
   have hS:=eeR_snoc (S.bare e,(ss,e.sums)) hS
   refine⟨⟨ee++[(S.bare e,(ss,e.sums))],rest,r2,s2,s4,by rw[List.length_append];rfl,by rw[List.map_append,List.append_assoc];exact hes,bare_snoc hba,by rw[List.getLast?_concat];exact h3,hpj.trans hp2,by omega,hS.to⟩,by simp[RowKit.intOf]<;>omega⟩
  ·have hgl:ee.getLast?=some x:=by
    rw[List.getLast?_eq_getElem?]
    have e1:((ee.length:Int)-1).toNat=ee.length-1:=by omega
    rw[e1] at hx
    exact hx
   rw[hgl] at h2
   have h2:Op.bytesLess x.1.Name e.name=true:=h2
   rw[h2]
   repeat' (first|(refine pcq (f:=132) (form_ok ?_))|(refine pN_b1 (x:=(S.bare e,(ss,e.sums))) hS rfl (by decide) ?_;clear hS;intro s3 w hS)|(refine pN_app (C:=cdE) (s:=se) (l:=ee) hS rfl rfl (by rw[List.length_cons,List.length_nil];omega) ?_;clear hS;intro s4 w hS)|refine pN_l hS (by first|rfl|assumption) ?_|refine pN_la hS (by rfl) ?_|(refine pN_s hS (by first|exact Nat.le_of_ble_eq_true rfl|assumption) (by rfl) ?_;clear hS;intro w hS;try simp only[List.set_cons_zero,List.set_cons_succ] at hS)|refine⟨trivial,?_⟩|refine pN_v (hk:=?_)|fail)
   have hS:Sat E w (rows (cdI 58) ss e.sums::bag (eeR ee)::cel rb (rdO s2 r2)::cel x3 ⟨38,[.int .i64 0]⟩::cel x2 ⟨116,[.slice s4.a (ee++[(S.bare e,(ss,e.sums))]).length s4.c]⟩::rows cdE s4 (ee++[(S.bare e,(ss,e.sums))])::M):=hS.to
   have hS:=eeR_snoc (S.bare e,(ss,e.sums)) hS
   refine⟨⟨ee++[(S.bare e,(ss,e.sums))],rest,r2,s2,s4,by rw[List.length_append];rfl,by rw[List.map_append,List.append_assoc];exact hes,bare_snoc hba,by rw[List.getLast?_concat];exact h3,hpj.trans hp2,by omega,hS.to⟩,by simp[RowKit.intOf]<;>omega⟩
 |nil=>
  obtain⟨_,hbn⟩:=L.rrows_0 hrr
  subst hbn
  rw[List.append_nil] at hes
  rw[List.length_nil,Nat.add_zero] at hll
  repeat' (first|refine pcq (f:=132) (form_ok ?_)|(refine pN_lss_s ?_ ?_<;>intro hc<;>try (exfalso;omega))|(refine pN_eql_s ?_ ?_<;>intro hc<;>try (exfalso;first|omega|exact gone hc|exact gon2 hc))|refine pIf_f ?_|refine pN_l hS (by first|rfl|assumption) ?_|(refine pN_s hS (by first|exact Nat.le_of_ble_eq_true rfl|assumption) (by rfl) ?_;clear hS;intro w hS;try simp only[List.set_cons_zero,List.set_cons_succ] at hS)|refine pN_v (hk:=?_)|fail)
  refine dE_of call_snap_read_c1 (u2:= .returning) (cap:=[.pointer (some ⟨x2,0,none⟩),.pointer (some ⟨x3,0,none⟩)]) (args:=[]) (Q:=fun r w=>Sat E w (cel x3 ⟨38,[.int .i64 0]⟩::cel x2 ⟨116,[.slice se.a ee.length se.c]⟩::cel rb (rdO sj [])::rows cdE se ee::bag (eeR ee)::M)) rfl ?_ (snap_read_c1.idles (rdC_idle hS fun w hS=>hS))
  clear hS
  rintro _ w hS
  repeat' (first|refine pL_r hS (by rfl) ?_|fail)
  exact hQ ee se _ hes.symm hba hS.to
end
end
section
namespace D
theorem get_pre {d:T} {l:List I32} {b q:B} {j:Nat} (h:d.get l=some b) (h2:d.get (l.take j)=some q):q.length≤b.length:=by
 have h3:=get_app (d:=d) (l.take j) (l.drop j)
 rw[List.take_append_drop,h,h2] at h3
 cases h4:d.get (l.drop j) with
 |none=>rw[h4] at h3;cases h3
 |some r=>
  rw[h4] at h3
  have h3:some b=some (q++r):=h3
  rw[Option.some.inj h3,List.length_append];omega
end D
section
variable [Pan] {P:Program} {J:Value→Prop} {t:TypeId} {xo yo:Operand} {a b:I32}
theorem pA_neq_id [h:A32 P t] (ht:a=b→J (.bool false)) (hf:¬a=b→J (.bool true)):pA P (oBin .neq t xo yo (.agg (bvs a.l).toArray) (.agg (bvs b.l).toArray)) J:=by
 refine pA_of (v:= .bool (!decide (a=b))) (fun w=>run_neq_id w) ?_
 by_cases e:a=b
 ·rw[decide_eq_true e];exact ht e
 ·rw[decide_eq_false e];exact hf e
end
section
variable [Pan] {E w W:World} {K Q:Value→World→Prop} {LL M N N':List HA} {b q:List UInt8} {s s2:Sl} {c:T_api_Config} {db:Nat} {d:D.T} {la lb:List I32} {sa sb:Sl}
theorem slisted_ok (hS:Sat E w LL) [hf:Fnd (Dep c db) LL d N] (n:NKey) {es:List L.En} {root:List I32} (ht:S.Tells d n.1 es root) (hrl:root.length≤1099511627776) (hbl:∀q,d.get root=some q→q.length≤1099511627776)
  (hQ:∀(ee:List EE) se sr w,ee.map enOf=es→(∀p∈ee,p.1=S.bare (enOf p))→Sat E w (rows cdE se ee::bag (eeR ee)::rows (cdI 58) sr root::Dep c db d::N)→Q (.tuple #[.slice se.a ee.length se.c,.slice sr.a root.length sr.c,.int .i64 0]) w):
  Calls zp 61 #[.pointer (some ⟨db,0,none⟩),nke n] w (retP Q):=by
 refine snap_listed.calls ?_
 unfold snap_listed.F
 obtain⟨bs,hg,hrd⟩:=ht.get
 have hb1:=hbl _ hg
 refine pcq (f:=54) (DRoot_ok (c:=c) hS n (fun q hq=>by rw[ht.ns] at hq;cases hq;exact hrl) (fun hno=>by rw[ht.ns] at hno;cases hno) fun q hq=>?_)
 rw[ht.ns] at hq
 cases hq
 clear hS
 intro sr w hS
 repeat' (first|(refine pcq (f:=55) (DGet_ok (c:=c) (s:=sr) (li:=root) hS hrl (fun j q hq=>by have:=D.get_pre hg hq;omega) (fun hno=>by rw[hg] at hno;cases hno) ?_))|(refine pN_neq_s ?_ ?_<;>intro hc<;>try (exfalso;first|omega|exact gone hc|exact gon2 hc))|refine pIf_f ?_|refine pN_v (hk:=?_)|fail)
 intro q hq
 rw[hg] at hq
 cases hq
 clear hS
 intro sb w hS
 repeat' (first|(refine pcq (f:=101) (sread_ok (s:=sb) (b:=bs) hS hb1 hrd ?_);clear hS;intro ee se w hee hba hS)|(refine pN_neq_s ?_ ?_<;>intro hc<;>try (exfalso;first|omega|exact gone hc|exact gon2 hc))|refine pIf_f ?_|refine pN_v (hk:=?_)|fail)
 exact hQ ee se sr _ hee hba hS.to
end
end
section
namespace S
end S
section
variable [Pan] {P:Program} {E w:World} {J:Value→Prop} {L:List HA} {t:TypeId} {α:Type} {C:Cd α} {s:Sl} {l:List α} {k1:IntKind} {i1:Int} {n:Nat}
theorem pA_sl1p (hS:Sat E w L) [Row P t α C] [h:Rds C L s l] (lo:Nat) (h1:i1=(lo:Int)) (hn:n=l.length) (hlo:lo≤l.length)
  (hk:∀s',Part C s l s' (l.drop lo)→J (.slice s'.a (l.length-lo) s'.c)):pA P (oSl t (.slice s.a n s.c) (some (.int k1 i1)) none none) J:=by
 subst h1 hn
 refine pA_sl_l (Row.slt (C:=C)) (hS.rds (C:=C) (s:=s)) (by omega) (by omega) ?_
 rw[Int.toNat_natCast,subV_sl]
 refine hk _ ⟨fun L hL=>?_⟩
 have:=Rds.sub (C:=C) (L:=L) (s:=s) (l:=l) lo l.length hlo (Nat.le_refl _)
 rwa[List.take_of_length_le (by simp)] at this
end
section
variable [Pan] {E w W:World} {K Q:Value→World→Prop} {LL M N N':List HA} {c:T_api_Config} {db:Nat} {d:D.T}
end
end
section
namespace L
variable {rt:En→Bool} {b b1 b2 b3 b4 q:List UInt8} {c0:UInt8} {m t:Nat} {n:List UInt8}
theorem rrow_nil:rrow rt []=none:=rfl
theorem take_1 (c:UInt8) (b:List UInt8):take 1 (c::b)=some ([c],b):=take_app [c] b
theorem rrow_m (h:number b1=none):rrow rt (c0::b1)=none:=by
 unfold rrow rhead
 rw[take_1]
 simp only[h]
theorem rrow_t (h1:number b1=some (m,b2)) (h:number b2=none):rrow rt (c0::b1)=none:=by
 unfold rrow rhead
 rw[take_1]
 simp only[h1,h]
theorem rrow_n (h1:number b1=some (m,b2)) (h2:number b2=some (t,b3)) (h:rtext b3=none):rrow rt (c0::b1)=none:=by
 unfold rrow rhead
 rw[take_1]
 simp only[h1,h2,h]
theorem rrow_go (h1:number b1=some (m,b2)) (h2:number b2=some (t,b3)) (h3:rtext b3=some (n,b4)):
  rrow rt (c0::b1)=match rtail ⟨(c0.toNat:Int),m,t,n,[],[]⟩ b4 with
   |some (e,q)=>if rt e=true then some (e,q) else none
   |none=>none:=by
 unfold rrow rhead
 rw[take_1]
 simp only[h1,h2,h3]
 rfl
theorem rrow_tail (h1:number b1=some (m,b2)) (h2:number b2=some (t,b3)) (h3:rtext b3=some (n,b4)) (h:rtail ⟨(c0.toNat:Int),m,t,n,[],[]⟩ b4=none):rrow rt (c0::b1)=none:=by
 rw[rrow_go h1 h2 h3,h]
theorem rrow_end {e:En} (h1:number b1=some (m,b2)) (h2:number b2=some (t,b3)) (h3:rtext b3=some (n,b4)) (h:rtail ⟨(c0.toNat:Int),m,t,n,[],[]⟩ b4=some (e,q)):rrow rt (c0::b1)=if rt e=true then some (e,q) else none:=by
 rw[rrow_go h1 h2 h3,h]
theorem rtail_0n {e:En} (k:e.kind=0) (h:number b=none):rtail e b=none:=by unfold rtail;rw[if_pos k,h]
theorem rtail_0m {e:En} {v:Nat} (k:e.kind=0) (h:number b=some (v,q)) (h2:rsums v q=none):rtail e b=none:=by unfold rtail;rw[if_pos k,h];simp only[h2]
theorem rtail_0s {e:En} {v:Nat} {l:List I32} {r:List UInt8} (k:e.kind=0) (h:number b=some (v,q)) (h2:rsums v q=some (l,r)):rtail e b=some ({ e with sums:=l },r):=by unfold rtail;rw[if_pos k,h];simp only[h2]
theorem rtail_2n {e:En} (k:e.kind=2) (h:rtext b=none):rtail e b=none:=by unfold rtail;rw[if_neg (by omega),if_pos k,h]
theorem rtail_2s {e:En} (k:e.kind=2) (h:rtext b=some (n,q)):rtail e b=some ({ e with link:=n },q):=by unfold rtail;rw[if_neg (by omega),if_pos k,h]
theorem rtail_1s {e:En} (k:e.kind≠0) (k2:e.kind≠2):rtail e b=some (e,b):=by unfold rtail;rw[if_neg k,if_neg k2]
theorem rsums_none:∀{v:Nat} {b:List UInt8},b.length<32*v→rsums v b=none
 |0,b,h=>by omega
 |v+1,b,h=>by
  rw[rsums]
  split
  ·rename_i h1
   rw[rsums_none (v:=v) (b:=b.drop 32) (by rw[List.length_drop];omega)]
  ·rfl
theorem rsums_ok:∀{v:Nat} {b:List UInt8},32*v≤b.length→∃l q,rsums v b=some (l,q)
 |0,b,h=>⟨[],b,rfl⟩
 |v+1,b,h=>by
  obtain⟨l,q,h1⟩:=rsums_ok (v:=v) (b:=b.drop 32) (by rw[List.length_drop];omega)
  have h2:32≤b.length:=by omega
  exact⟨_,_,by rw[rsums,dif_pos h2,h1]⟩
theorem rtext_none (h:number b=none):rtext b=none:=by unfold rtext;rw[h]
theorem rtext_short {v:Nat} (h:number b=some (v,q)) (h2:q.length<v):rtext b=none:=by unfold rtext;rw[h];simp only[];unfold take;rw[if_neg (by omega)]
theorem rtext_ok {v:Nat} (h:number b=some (v,q)) (h2:v≤q.length):rtext b=some (q.take v,q.drop v):=by unfold rtext;rw[h];simp only[];unfold take;rw[if_pos h2]
theorem number_none (h:(C.get 0 0 b).2.2≠0):number b=none:=by unfold number;rw[if_neg h]
theorem number_ok (h:(C.get 0 0 b).2.2=0):number b=some ((C.get 0 0 b).1,b.drop (C.get 0 0 b).2.1):=by unfold number;rw[if_pos h]
def part32 (l:List UInt8) (k:Nat):List UInt8:=l.take k++List.replicate (32-k) 0
theorem part32_0 (l:List UInt8):part32 l 0=List.replicate 32 0:=rfl
theorem part32_all {l:List UInt8} (h:l.length=32):part32 l 32=l:=by unfold part32;rw[←h,List.take_length];simp
theorem part32_len {l:List UInt8} (h:l.length=32) {k:Nat} (hk:k≤32):(part32 l k).length=32:=by unfold part32;rw[List.length_append,List.length_take,List.length_replicate];omega
theorem part32_set {l:List UInt8} (h:l.length=32) {k:Nat} {c:UInt8} (hc:l[k]? =some c):(part32 l k).set k c=part32 l (k+1):=by
 have hk:=(List.getElem?_eq_some_iff.1 hc).1
 have e:List.replicate (32-k) (0:UInt8)=0::List.replicate (32-(k+1)) 0:=by rw[←List.replicate_succ];congr 1;omega
 have hl:(l.take k).length=k:=by rw[List.length_take];omega
 unfold part32
 rw[e,List.set_append_right _ _ (by omega),hl,Nat.sub_self,List.set_cons_zero,List.take_add_one,hc,List.append_assoc]
 rfl
end L
section
variable [Pan] {P:Program} {w w':World} {J:Value→Prop} {E:World} {L:List HA} {t:TypeId} {α:Type} {C:Cd α} {s:Sl} {l:List α} {n:Nat} {k2:IntKind} {i2:Int}
theorem pA_slhp (hS:Sat E w L) [Row P t α C] [h:Rds C L s l] (hi:Nat) (h2:i2=(hi:Int)) (hn:n=l.length) (hhi:hi≤l.length)
  (hk:∀s',Part C s l s' (l.take hi)→J (.slice s'.a hi s'.c)):pA P (oSl t (.slice s.a n s.c) none (some (.int k2 i2)) none) J:=by
 subst h2 hn
 refine pA_sl_h (Row.slt (C:=C)) (hS.rds (C:=C) (s:=s)) (by omega) (by omega) ?_
 rw[Int.toNat_natCast,subV_sl]
 refine hk _ ⟨fun L hL=>?_⟩
 have:=Rds.sub (C:=C) (L:=L) (s:=s) (l:=l) 0 hi (Nat.zero_le _) hhi
 rwa[List.drop_zero,Nat.sub_zero] at this
end
theorem bvs_put (l:List UInt8) (k:Nat) (c:UInt8):(bvs l).set k (bv c)=bvs (l.set k c):=by rw[bvs,bvs,List.map_set]
attribute [local irreducible] C.put C.get L.number L.take L.rtext L.part32 L.rsums L.rtail
section
variable [Pan] {E w W:World} {K Q:Value→World→Prop} {LL M N N':List HA} {b q:List UInt8} {s s2:Sl}
theorem r6taken_ok (hS:Sat E w M) [hr:Rds cd_uint8 M s b] (hbl:b.length<4611686018427387904)
  (hyes:∀v q s2 w,L.number b=some (v,q)→Part cd_uint8 s b s2 q→v<9223372036854775808→Sat E w M→Q (.tuple #[.int .i64 v,.slice s2.a q.length s2.c,.bool true]) w)
  (hno:∀w,L.number b=none→Sat E w M→Q (.tuple #[.int .i64 0,.slice none 0 0,.bool false]) w):
  Calls zp 203 #[.slice s.a b.length s.c] w (retP Q):=by
 refine pithref36_taken.calls ?_
 unfold pithref36_taken.F
 refine pcq (f:=216) (r2get_ok hS hbl ?_)
 clear hS
 intro w hS
 by_cases h0:(C.get 0 0 b).2.2=0
 ·have hnm:=L.number_ok h0
  obtain⟨_,_,_,hn,hv⟩:=L.number_some hnm
  have hdl:(b.drop (C.get 0 0 b).2.1).length=b.length-(C.get 0 0 b).2.1:=List.length_drop
  rw[h0]
  generalize (C.get 0 0 b).1=v at*
  generalize (C.get 0 0 b).2.1=n at*
  repeat' (first|(refine pA_sl1p (C:=cd_uint8) (s:=s) (l:=b) hS n rfl rfl hn ?_;intro s2 hp2)|(refine pN_neq_s ?_ ?_<;>intro hc<;>try (exfalso;first|omega|exact gone hc|exact gon2 hc))|refine pIf_f ?_|(refine pDr_go hS ?_;clear hS;intro w hS)|refine pN_v (hk:=?_)|refine pL_v (hk:=?_)|fail)
  rw[←hdl]
  exact hyes v _ s2 _ hnm hp2 hv hS
 ·have hnm:=L.number_none h0
  generalize (C.get 0 0 b).2.2=e at*
  repeat' (first|(refine pN_neq_s ?_ ?_<;>intro hc<;>try (exfalso;first|omega|exact gone hc|exact gon2 hc))|refine pIf_t ?_|refine pN_v (hk:=?_)|fail)
  exact hno _ hnm hS
theorem r6text_ok (hS:Sat E w M) [hr:Rds cd_uint8 M s b] (hbl:b.length≤140737488355328)
  (hyes:∀t q s2 w,L.rtext b=some (t,q)→Part cd_uint8 s b s2 q→Sat E w M→Q (.tuple #[.string ⟨t.toArray⟩,.slice s2.a q.length s2.c,.bool true]) w)
  (hno:∀w,L.rtext b=none→Sat E w M→Q (.tuple #[.string ⟨#[]⟩,.slice none 0 0,.bool false]) w):
  Calls zp 217 #[.slice s.a b.length s.c] w (retP Q):=by
 refine pithref36_text.calls ?_
 unfold pithref36_text.F
 refine pcq (f:=203) (r6taken_ok hS (by omega) (fun v q s2 w hnm hp2 hv hS=>?_) fun w hnm hS=>?_)
 ·have hql:=L.number_len hnm
  haveI h2:Rds cd_uint8 M s2 q:=hp2.rd M hr
  by_cases hlt:q.length<v
  ·have ht:=L.rtext_short hnm hlt
   repeat' (first|(refine pN_gtr_s ?_ ?_<;>intro hc<;>try (exfalso;omega))|refine pIf_t ?_|refine pGd_go (by rfl) ?_|refine pN_v (hk:=?_)|fail)
   exact hno _ ht hS
  ·have ht:=L.rtext_ok hnm (by omega)
   have htl:(q.take v).length=v:=by rw[List.length_take];omega
   have hdl:(q.drop v).length=q.length-v:=List.length_drop
   repeat' (first|(refine pA_slhp (C:=cd_uint8) (s:=s2) (l:=q) hS v rfl rfl (by omega) ?_;intro s3 hp3)|(refine pN_gtr_s ?_ ?_<;>intro hc<;>try (exfalso;omega))|refine pIf_f ?_|refine pGd_go (by rfl) ?_|(refine pDr_go hS ?_;clear hS;intro w hS)|refine pN_v (hk:=?_)|fail)
   haveI h3:Rds cd_uint8 M s3 (q.take v):=hp3.rd M h2
   refine pL_st (s:=s3) (l:=q.take v) hS htl.symm ?_
   refine pA_sl1p (C:=cd_uint8) (s:=s2) (l:=q) hS v rfl rfl (by omega) ?_
   intro s4 hp4
   rw[←hdl]
   exact hyes _ _ s4 _ ht (hp2.trans hp4) hS
 ·have ht:=L.rtext_none hnm
  repeat' (first|refine pIf_t ?_|refine pGd_no (by rfl) ?_|refine pN_v (hk:=?_)|fail)
  exact hno _ ht hS
set_option maxHeartbeats 4000000 in
theorem r6row_ok (hS:Sat E w M) [hr:Rds cd_uint8 M s b] (hbl:b.length≤140737488355328)
  (hyes:∀e q ss s2 w,L.rrow S.right b=some (e,q)→Part cd_uint8 s b s2 q→Sat E w (rows (cdI 58) ss e.sums::M)→Q (.tuple #[.agg (enC e.name e.link e.kind e.mode e.time ss e.sums.length).toArray,.slice s2.a q.length s2.c,.bool true]) w)
  (hno:∀vs u w,L.rrow S.right b=none→vs.length=7→vs.all (·.oneCell')=true→Sat E w M→Q (.tuple #[.agg (List.toArray vs),u,.bool false]) w):
  Calls zp 204 #[.slice s.a b.length s.c] w (retP Q):=by
 refine pithref36_row.calls ?_
 unfold pithref36_row.F
 obtain⟨zc,hzc⟩:∃zc,zc=[Value.string ⟨#[]⟩,.string ⟨#[]⟩,.int .i64 0,.int .i64 0,.int .i64 0,.slice none 0 0,.slice none 0 0]:=⟨_,rfl⟩
 have hz7:zc.length=7:=by rw[hzc];rfl
 have hz1:zc.all (·.oneCell')=true:=by rw[hzc];rfl
 refine pN_nz hS ?_
 rw[←hzc]
 clear hS
 intro x2 w hS
 have hfail:∀w,L.rrow S.right b=none→Sat E w (cel x2 ⟨194,zc⟩::M)→pN zp (oStore 194 (.pointer (some ⟨x2,0,none⟩)) (.agg #[Value.string ⟨#[]⟩,.string ⟨#[]⟩,.int .i64 0,.int .i64 0,.int .i64 0,.slice none 0 0,.slice none 0 0])) w fun _ w5=>pL zp (oRes 194 (.pointer (some ⟨x2,0,none⟩))) w5 fun r2=>Q (.tuple #[r2,.slice none 0 0,.bool false]) w5:=fun w hn hS=>by
  subst hzc
  refine pN_sa (us:=[Value.string ⟨#[]⟩,.string ⟨#[]⟩,.int .i64 0,.int .i64 0,.int .i64 0,.slice none 0 0,.slice none 0 0]) hS rfl rfl rfl ?_
  clear hS
  intro w hS
  refine pL_ra hS rfl ?_
  exact hno _ _ _ hn rfl rfl hS.to
 cases b with
 |nil=>
  have hn:L.rrow S.right []=none:=L.rrow_nil
  repeat' (first|(refine pN_eql_s ?_ ?_<;>intro hc<;>try (exfalso;first|omega|exact gone hc|exact gon2 hc))|refine pIf_t ?_|refine pN_v (hk:=?_)|fail)
  exact hfail _ hn hS
 |cons c0 b1=>
  have hb0:(c0::b1)[0]? =some c0:=rfl
  have hb1:(c0::b1).drop 1=b1:=rfl
  rw[List.length_cons] at hbl
  have hl1:(c0::b1).length-1=b1.length:=rfl
  have hone:1≤(c0::b1).length:=by rw[List.length_cons];omega
  have hlen1:(c0::b1).length=b1.length+1:=rfl
  repeat' (first|refine pN_ixk (C:=cd_uint8) (s:=s) (l:=c0::b1) hS 0 rfl rfl hb0 fun ad ha hel=>?_|(refine pN_sl1 (C:=cd_uint8) (s:=s) (l:=c0::b1) hS 1 rfl rfl hone ?_;intro s1 hp1;rw[hb1] at hp1)|(refine pN_eql_s ?_ ?_<;>intro hc<;>try (exfalso;first|omega|exact gone hc|exact gon2 hc))|refine pIf_f ?_|refine pN_ofb ?_|refine pN_ld1 ha hS ?_|(refine pN_sa hS (by rfl) (by rfl) (by rfl) ?_;clear hS;intro w hS;try dsimp only at hS)|(refine pN_nz hS ?_;clear hS;intro a w hS)|refine pN_v (hk:=?_)|fail)
  rename Nat=>x5
  rw[hl1]
  have hS:Sat E w (cel x5 ⟨194,enC [] [] c0.toNat 0 0 ⟨none,0⟩ 0⟩::cel x2 ⟨194,zc⟩::M):=hS.to
  haveI h1:Rds cd_uint8 M s1 b1:=hp1.rd M hr
  refine pcq (f:=203) (r6taken_ok (b:=b1) hS (by omega) (fun m b2 s2 w hm hp2 hmv hS=>?_) fun w hm hS=>?_)
  rotate_left 1
  ·have hn:=L.rrow_m (rt:=S.right) (c0:=c0) hm
   repeat' (first|refine pIf_t ?_|(refine pN_s hS (by first|exact Nat.le_of_ble_eq_true rfl|assumption) (by rfl) ?_;clear hS;intro w hS;try simp only[List.set_cons_zero,List.set_cons_succ] at hS)|refine pN_v (hk:=?_)|fail)
   exact hfail _ hn hS.to
  have l2:=L.number_len hm
  haveI h2:Rds cd_uint8 M s2 b2:=hp2.rd M h1
  have hq2:=hp1.trans hp2
  repeat' (first|refine pIf_f ?_|(refine pN_s hS (by first|exact Nat.le_of_ble_eq_true rfl|assumption) (by rfl) ?_;clear hS;intro w hS;try simp only[List.set_cons_zero,List.set_cons_succ] at hS)|refine pN_v (hk:=?_)|fail)
  refine pcq (f:=203) (r6taken_ok (b:=b2) hS (by omega) (fun t b3 s3 w ht hp3 htv hS=>?_) fun w ht hS=>?_)
  rotate_left 1
  ·have hn:=L.rrow_t (rt:=S.right) (c0:=c0) hm ht
   repeat' (first|refine pIf_t ?_|(refine pN_s hS (by first|exact Nat.le_of_ble_eq_true rfl|assumption) (by rfl) ?_;clear hS;intro w hS;try simp only[List.set_cons_zero,List.set_cons_succ] at hS)|refine pN_v (hk:=?_)|fail)
   exact hfail _ hn hS.to
  have l3:=L.number_len ht
  haveI h3:Rds cd_uint8 M s3 b3:=hp3.rd M h2
  have hq3:=hq2.trans hp3
  repeat' (first|refine pIf_f ?_|(refine pN_s hS (by first|exact Nat.le_of_ble_eq_true rfl|assumption) (by rfl) ?_;clear hS;intro w hS;try simp only[List.set_cons_zero,List.set_cons_succ] at hS)|refine pN_v (hk:=?_)|fail)
  refine pcq (f:=217) (r6text_ok (b:=b3) hS (by omega) (fun n b4 s4 w hnn hp4 hS=>?_) fun w hnn hS=>?_)
  rotate_left 1
  ·have hn:=L.rrow_n (rt:=S.right) (c0:=c0) hm ht hnn
   repeat' (first|refine pIf_t ?_|(refine pN_s hS (by first|exact Nat.le_of_ble_eq_true rfl|assumption) (by rfl) ?_;clear hS;intro w hS;try simp only[List.set_cons_zero,List.set_cons_succ] at hS)|refine pN_v (hk:=?_)|fail)
   exact hfail _ hn hS.to
  obtain⟨l4,ln⟩:=L.rtext_len hnn
  haveI h4:Rds cd_uint8 M s4 b4:=hp4.rd M h3
  have hq4:=hq3.trans hp4
  have hrt:=fun h=>L.rrow_tail (rt:=S.right) (c0:=c0) hm ht hnn h
  have hre:=fun {e:L.En} {q:List UInt8} h=>L.rrow_end (rt:=S.right) (c0:=c0) (e:=e) (q:=q) hm ht hnn h
  obtain⟨e0,he0⟩:∃e0:L.En,e0=⟨(c0.toNat:Int),m,t,n,[],[]⟩:=⟨_,rfl⟩
  rw[←he0] at hrt hre
  have hk0:e0.kind=(c0.toNat:Int):=by rw[he0]
  repeat' (first|refine pIf_f ?_|(refine pN_s hS (by first|exact Nat.le_of_ble_eq_true rfl|assumption) (by rfl) ?_;clear hS;intro w hS;try simp only[List.set_cons_zero,List.set_cons_succ] at hS)|refine pN_v (hk:=?_)|fail)
  have hS:Sat E w (cel x5 ⟨194,enC n [] c0.toNat m t ⟨none,0⟩ 0⟩::cel x2 ⟨194,zc⟩::M):=hS.to
  refine⟨fun v w=>∃(ss:Sl) (l:List I32) (bj:List UInt8) (sj:Sl),v= .slice sj.a bj.length sj.c∧Part cd_uint8 s (c0::b1) sj bj∧bj.length≤b4.length∧((c0.toNat:Int)=0→L.rtail e0 b4=some ({ e0 with sums:=l },bj))∧(¬(c0.toNat:Int)=0→l=[]∧bj=b4)∧
   Sat E w (cel x5 ⟨194,enC n [] c0.toNat m t ss l.length⟩::rows (cdI 58) ss l::cel x2 ⟨194,zc⟩::M),?_,?_⟩
  ·by_cases k0:(c0.toNat:Int)=0
   ·repeat' (first|(refine pN_eql_s ?_ ?_<;>intro hc<;>try (exfalso;first|omega|exact gone hc|exact gon2 hc))|refine pIf_t ?_|refine pN_l hS (by first|rfl|assumption) ?_|refine pN_v (hk:=?_)|fail)
    refine pcq (f:=203) (r6taken_ok (b:=b4) hS (by omega) (fun cnt b5 s5 w hc5 hp5 hcv hS=>?_) fun w hc5 hS=>?_)
    rotate_left 1
    ·have hn:=hrt (L.rtail_0n (by rw[hk0];exact k0) hc5)
     repeat' (first|refine pIf_t ?_|refine pGd_no (by rfl) ?_|refine pN_v (hk:=?_)|fail)
     exact hfail _ hn hS.to
    have l5:=L.number_len hc5
    have hq5:=hq4.trans hp5
    have hdiv:((b5.length:Nat):Int) / 32=((b5.length / 32:Nat):Int):=by omega
    by_cases hlt:b5.length / 32<cnt
    ·have hn:=hrt (L.rtail_0m (by rw[hk0];exact k0) hc5 (L.rsums_none (by omega)))
     repeat' (first|(refine pN_gtr_s ?_ ?_<;>intro hc<;>try (exfalso;omega))|refine pIf_t ?_|refine pGd_go (by rfl) ?_|refine pN_v (hk:=?_)|fail)
     exact hfail _ hn hS.to
    obtain⟨l,q5,hl5⟩:=L.rsums_ok (v:=cnt) (b:=b5) (by omega)
    obtain⟨l6,l7⟩:=L.rsums_len hl5
    have hts:=L.rtail_0s (e:=e0) (by rw[hk0];exact k0) hc5 hl5
    have h8:Sat E w (rows (cdI 58) ⟨none,0⟩ []::cel x5 ⟨194,enC n [] c0.toNat m t ⟨none,0⟩ 0⟩::cel x2 ⟨194,zc⟩::M):=hS.nil (cdI 58).e (cdI 58).size
    clear hS
    have hS:=h8
    clear h8
    repeat' (first|(refine pN_gtr_s ?_ ?_<;>intro hc<;>try (exfalso;omega))|refine pIf_f ?_|refine pGd_go (by rfl) ?_|refine pN_v (hk:=?_)|fail)
    refine⟨fun v v' w=>∃(j:Nat) (l0 l1:List I32) (bj:List UInt8) (sj ss:Sl),v= .slice sj.a bj.length sj.c∧v'= .int .i64 j∧l=l0++l1∧l0.length=j∧bj.length≤b4.length∧L.rsums l1.length bj=some (l1,q5)∧Part cd_uint8 s (c0::b1) sj bj∧
     Sat E w (cel x5 ⟨194,enC n [] c0.toNat m t ss l0.length⟩::rows (cdI 58) ss l0::cel x2 ⟨194,zc⟩::M),fun _ v _=>cnt-(RowKit.intOf v).toNat,
     ⟨0,[],l,b5,s5,⟨none,0⟩,rfl,rfl,rfl,rfl,by omega,by rw[l6];exact hl5,hq5,hS.to⟩,?_⟩
    clear hS
    rintro _ _ _ w ⟨j,l0,l1,bj,sj,ss,rfl,rfl,hl,hj,hbj,hrs,hpj,hS⟩
    have hll:=congrArg List.length hl
    rw[List.length_append] at hll
    cases l1 with
    |cons i l1=>
     rw[List.length_cons] at hll hrs
     obtain⟨i2,l2',h8,h9,h10⟩:=L.rsums_s hrs
     obtain⟨rfl,rfl⟩:=List.cons.inj h10
     obtain⟨t1,t2,_⟩:=L.take_some h8
     haveI hj0:Rds cd_uint8 M sj bj:=hpj.rd M hr
     have hi32:=i.h
     have hp0:=L.part32_0 i.l
     have hpA:=L.part32_all hi32
     have hpL:=fun {k:Nat}=>L.part32_len hi32 (k:=k)
     have hpS:=fun {k:Nat} {c:UInt8}=>L.part32_set hi32 (k:=k) (c:=c)
     repeat' (first|(refine pN_nz (t:=58) hS ?_;rw[zeros32];clear hS;intro ib w hS)|(refine pN_lss_s ?_ ?_<;>intro hc<;>try (exfalso;omega))|refine pIf_t ?_|fail)
     refine⟨fun v w=>∃k:Nat,v= .int .i64 k∧k≤32∧Sat E w (cel ib ⟨58,bvs (L.part32 i.l k)⟩::cel x5 ⟨194,enC n [] c0.toNat m t ss l0.length⟩::rows (cdI 58) ss l0::cel x2 ⟨194,zc⟩::M),fun v _=>32-(RowKit.intOf v).toNat,⟨0,rfl,by omega,by rw[hp0];exact hS⟩,?_⟩
     clear hS
     rintro _ _ w ⟨k,rfl,hk,hS⟩
     by_cases hk32:k<32
     ·obtain⟨c,hc⟩:∃c,i.l[k]? =some c:=⟨i.l[k],List.getElem?_eq_getElem _⟩
      have hcb:bj[k]? =some c:=by
       rw[t2,List.getElem?_take,if_pos hk32] at hc
       exact hc
      have hst:=hpS hc
      have hpl:=hpL (Nat.le_of_lt hk32)
      have hbv:=bvs_put (L.part32 i.l k) k c
      have hbl2:k<(bvs (L.part32 i.l k)).length:=by rw[bvs_length,hpl];exact hk32
      generalize L.part32 i.l k=PP at*
      repeat' (first|refine pN_ixk (C:=cd_uint8) (s:=sj) (l:=bj) hS k rfl rfl hcb fun ad ha hel=>?_|refine pN_ai0 (t:=58) k rfl hk32 ?_|(refine pN_s (b:=ib) hS hbl2 (by rfl) ?_;clear hS;intro w hS;dsimp only at hS)|(refine pN_lss_s ?_ ?_<;>intro hc<;>try (exfalso;omega))|refine pIf_t ?_|refine pN_ld1 ha hS ?_|refine pN_v (hk:=?_)|fail)
      rw[hbv,hst] at hS
      exact⟨⟨k+1,rfl,hk32,hS⟩,by simp[RowKit.intOf]<;>omega⟩
     ·obtain rfl:k=32:=by omega
      rw[hpA] at hS
      have hdl:(bj.drop 32).length=bj.length-32:=List.length_drop
      have hl2:l0.length≤140737488355328:=by omega
      repeat' (first|refine pN_la_at (b:=ib) (n:=32) hS (bvs i.l) (i32t _) (i32n _) ?_|(refine pN_b1 (C:=cdI 58) (x:=i) hS rfl (by decide) ?_;clear hS;intro sb w hS)|(refine pN_app (C:=cdI 58) (s:=ss) (l:=l0) hS rfl rfl (by rw[List.length_singleton];omega) ?_;clear hS;intro sc w hS)|(refine pN_sl1 (C:=cd_uint8) (s:=sj) (l:=bj) hS 32 rfl rfl t1 ?_;intro sd hpd)|(refine pN_lss_s ?_ ?_<;>intro hc<;>try (exfalso;omega))|refine pIf_f ?_|refine pN_l hS (by first|rfl|assumption) ?_|(refine pN_s hS (by first|exact Nat.le_of_ble_eq_true rfl|assumption) (by rfl) ?_;clear hS;intro w hS;try simp only[List.set_cons_zero,List.set_cons_succ] at hS)|refine pN_v (hk:=?_)|fail)
      rw[←hdl]
      exact⟨⟨j+1,l0++[i],l1,_,sd,sc,rfl,rfl,by rw[hl,List.append_assoc];rfl,by rw[List.length_append,hj];rfl,by omega,h9,hpj.trans hpd,hS.to⟩,by simp[RowKit.intOf]<;>omega⟩
    |nil=>
     obtain⟨_,rfl⟩:=L.rsums_0 hrs
     rw[List.append_nil] at hl
     subst hl
     rw[List.length_nil] at hll
     repeat' (first|(refine pN_lss_s ?_ ?_<;>intro hc<;>try (exfalso;omega))|refine pIf_f ?_|fail)
     exact⟨ss,l,_,sj,rfl,hpj,hbj,fun _=>hts,fun h=>absurd k0 h,hS⟩
   ·have h8:Sat E w (rows (cdI 58) ⟨none,0⟩ []::_):=hS.nil (cdI 58).e (cdI 58).size
    clear hS
    have hS:=h8
    clear h8
    repeat' (first|(refine pN_eql_s ?_ ?_<;>intro hc<;>try (exfalso;first|omega|exact gone hc|exact gon2 hc))|refine pIf_f ?_|refine pN_l hS (by first|rfl|assumption) ?_|refine pN_v (hk:=?_)|fail)
    exact⟨⟨none,0⟩,[],b4,s4,rfl,hq4,Nat.le_refl _,fun h=>absurd h k0,fun _=>⟨rfl,rfl⟩,hS.to⟩
  ·clear hS
   rintro _ _ w ⟨ss,l,bj,sj,rfl,hpj,hbj,hj0,hj1,hS⟩
   haveI hrj:Rds cd_uint8 M sj bj:=hpj.rd M hr
   refine⟨fun v w=>∃(ss:Sl) (e:L.En) (q:List UInt8) (sj:Sl),v= .slice sj.a q.length sj.c∧Part cd_uint8 s (c0::b1) sj q∧L.rtail e0 b4=some (e,q)∧e.name.length≤140737488355328∧e.link.length≤140737488355328∧
    Sat E w (cel x5 ⟨194,enC e.name e.link e.kind e.mode e.time ss e.sums.length⟩::rows (cdI 58) ss e.sums::cel x2 ⟨194,zc⟩::M),?_,?_⟩
   ·by_cases k2:(c0.toNat:Int)=2
    ·obtain⟨rfl,rfl⟩:=hj1 (by omega)
     repeat' (first|(refine pN_eql_s ?_ ?_<;>intro hc<;>try (exfalso;first|omega|exact gone hc|exact gon2 hc))|refine pIf_t ?_|refine pN_l hS (by first|rfl|assumption) ?_|refine pN_v (hk:=?_)|fail)
     refine pcq (f:=217) (r6text_ok (b:=bj) hS (by omega) (fun lk q6 s6 w hlk hp6 hS=>?_) fun w hlk hS=>?_)
     ·obtain⟨_,lkl⟩:=L.rtext_len hlk
      have hts:=L.rtail_2s (e:=e0) (by rw[hk0];exact k2) hlk
      repeat' (first|refine pIf_f ?_|(refine pN_s hS (by first|exact Nat.le_of_ble_eq_true rfl|assumption) (by rfl) ?_;clear hS;intro w hS;try simp only[List.set_cons_zero,List.set_cons_succ] at hS)|refine pN_v (hk:=?_)|fail)
      refine⟨ss,_,q6,s6,rfl,hpj.trans hp6,hts,?_,by show lk.length≤_;omega,?_⟩
      ·rw[he0];show n.length≤_;omega
      ·rw[he0];exact hS.to
     ·have hn:=hrt (L.rtail_2n (by rw[hk0];exact k2) hlk)
      repeat' (first|refine pIf_t ?_|(refine pN_s hS (by first|exact Nat.le_of_ble_eq_true rfl|assumption) (by rfl) ?_;clear hS;intro w hS;try simp only[List.set_cons_zero,List.set_cons_succ] at hS)|refine pN_v (hk:=?_)|fail)
      exact hfail _ hn hS.to
    ·by_cases k0:(c0.toNat:Int)=0
     ·have hts:=hj0 k0
      repeat' (first|(refine pN_eql_s ?_ ?_<;>intro hc<;>try (exfalso;first|omega|exact gone hc|exact gon2 hc))|refine pIf_f ?_|refine pN_l hS (by first|rfl|assumption) ?_|refine pN_v (hk:=?_)|fail)
      refine⟨ss,_,bj,sj,rfl,hpj,hts,?_,?_,?_⟩
      ·rw[he0];show n.length≤_;omega
      ·rw[he0];show([]:List UInt8).length≤_;exact Nat.zero_le _
      ·rw[he0];exact hS.to
     ·obtain⟨rfl,rfl⟩:=hj1 k0
      have hts:=L.rtail_1s (b:=bj) (e:=e0) (by rw[hk0];exact k0) (by rw[hk0];exact k2)
      repeat' (first|(refine pN_eql_s ?_ ?_<;>intro hc<;>try (exfalso;first|omega|exact gone hc|exact gon2 hc))|refine pIf_f ?_|refine pN_l hS (by first|rfl|assumption) ?_|refine pN_v (hk:=?_)|fail)
      refine⟨ss,_,bj,sj,rfl,hpj,hts,?_,?_,?_⟩
      ·rw[he0];show n.length≤_;omega
      ·rw[he0];show([]:List UInt8).length≤_;exact Nat.zero_le _
      ·rw[he0];exact hS.to
   ·clear hS
    rintro _ _ w ⟨ss,e,q,sj,rfl,hpj,hts,hen,hel,hS⟩
    have hend:=hre hts
    have hrg:S.right e=decide (A.wrong (S.bare e)=0):=rfl
    repeat' (first|refine pL_la (b:=x5) hS rfl ?_|refine pL_la_at (b:=x5) (n:=6) hS (S.bare e).enc rfl rfl ?_|(refine pDr_go hS ?_;clear hS;intro w hS)|refine pA_v (hk:=?_)|fail)
    refine pcq (f:=111) (r33Right_ok (S.bare e) hen hel hS ?_)
    clear hS
    intro w hS
    refine⟨⟨run_la_at (n:=7) hS (enC e.name e.link e.kind e.mode e.time ss e.sums.length) rfl rfl,trivial⟩,?_⟩
    have hz7':zc.length=(enC e.name e.link e.kind e.mode e.time ss e.sums.length).length:=by rw[hz7];rfl
    by_cases hw:A.wrong (S.bare e)=0
    ·rw[hrg,decide_eq_true hw,if_pos rfl] at hend
     rw[hw]
     repeat' (first|(refine pN_sa (b:=x2) (us:=enC e.name e.link e.kind e.mode e.time ss e.sums.length) hS rfl hz7'.symm rfl ?_;clear hS;intro w hS;refine⟨trivial,?_⟩;refine pL_ra (b:=x2) hS rfl ?_)|(refine pA_eql_s ?_ ?_<;>intro hc<;>try (exfalso;first|omega|exact gone hc|exact gon2 hc))|fail)
     exact hyes e q ss sj _ hend hpj hS.to
    ·rw[hrg,decide_eq_false hw,if_neg (by decide)] at hend
     generalize A.wrong (S.bare e)=we at*
     repeat' (first|(refine pN_sa (b:=x2) (us:=enC e.name e.link e.kind e.mode e.time ss e.sums.length) hS rfl hz7'.symm rfl ?_;clear hS;intro w hS;refine⟨trivial,?_⟩;refine pL_ra (b:=x2) hS rfl ?_)|(refine pA_eql_s ?_ ?_<;>intro hc<;>try (exfalso;first|omega|exact gone hc|exact gon2 hc))|fail)
     exact hno _ _ _ hend rfl rfl hS.to
end
end
section
namespace L
def rrest (n:Nat) (es:List En) (b:List UInt8):Option (List En):=match rrows S.right (n-es.length) (es.getLast?.map (·.name)) b with
 |some (l,q)=>if q=[] then some (es++l) else none
 |none=>none
theorem rrest_0 {b q:List UInt8} {n:Nat} (h:number b=some (n,q)):rlist S.right b=rrest n [] q:=by
 unfold rlist rrest
 rw[h]
 simp only[List.length_nil,Nat.sub_zero,List.getLast?_nil,Option.map_none]
 rfl
theorem rlist_none {b:List UInt8} (h:number b=none):rlist S.right b=none:=by unfold rlist;rw[h]
def follows (es:List En) (e:En):Bool:=match es.getLast? with
 |some x=>Op.bytesLess x.name e.name
 |none=>true
theorem rrest_end {n:Nat} {es:List En} {b:List UInt8} (h:n≤es.length):rrest n es b=if b=[] then some es else none:=by
 unfold rrest
 rw[show n-es.length=0 by omega,rrows]
 simp only[List.append_nil]
theorem rrest_s {n:Nat} {es:List En} {b:List UInt8} (h:es.length<n):rrest n es b=match rrow S.right b with
  |some (e,q)=>if follows es e=true then rrest n (es++[e]) q else none
  |none=>none:=by
 unfold rrest follows
 obtain⟨m,hm⟩:∃m,n-es.length=m+1:=⟨n-es.length-1,by omega⟩
 rw[hm,rrows]
 cases hr:rrow S.right b with
 |none=>rfl
 |some p=>
  obtain⟨e,q⟩:=p
  simp only[]
  have hm2:n-(es++[e]).length=m:=by rw[List.length_append,List.length_singleton];omega
  rw[hm2,List.getLast?_concat]
  cases hg:es.getLast? with
  |none=>
   simp only[Option.map_none,Option.map_some,if_true]
   cases rrows S.right m (some e.name) q with
   |none=>rfl
   |some p=>
    obtain⟨l,q2⟩:=p
    simp only[List.append_assoc,List.singleton_append]
  |some x=>
   simp only[Option.map_some]
   by_cases hc:Op.bytesLess x.name e.name=true
   ·simp only[hc,if_true]
    cases rrows S.right m (some e.name) q with
    |none=>rfl
    |some p=>
     obtain⟨l,q2⟩:=p
     simp only[List.append_assoc,List.singleton_append]
   ·simp only[if_neg hc]
theorem rrest_no {n:Nat} {es:List En} {b:List UInt8} (h:es.length<n) (hr:rrow S.right b=none):rrest n es b=none:=by rw[rrest_s h,hr]
theorem rrest_bad {n:Nat} {es:List En} {b q:List UInt8} {e:En} (h:es.length<n) (hr:rrow S.right b=some (e,q)) (hf:follows es e=false):rrest n es b=none:=by rw[rrest_s h,hr];simp only[hf];rfl
theorem rrest_go {n:Nat} {es:List En} {b q:List UInt8} {e:En} (h:es.length<n) (hr:rrow S.right b=some (e,q)) (hf:follows es e=true):rrest n es b=rrest n (es++[e]) q:=by rw[rrest_s h,hr];simp only[hf,if_true]
theorem follows_nil (e:En):follows [] e=true:=rfl
theorem follows_last {es:List En} {x e:En} (h:es.getLast?=some x):follows es e=Op.bytesLess x.name e.name:=by unfold follows;rw[h]
theorem not_follows (x y:List UInt8):(Op.bytesLess y x||y==x)= !Op.bytesLess x y:=by
 cases h:Op.bytesLess x y with
 |true=>
  have h1:Op.bytesLess y x=false:=S.less_ord.asym h
  have h2:(y==x)=false:=beq_eq_false_iff_ne.2 fun e=>by rw[e,S.less_irr] at h;cases h
  rw[h1,h2];rfl
 |false=>
  cases h1:Op.bytesLess y x with
  |true=>rfl
  |false=>
   have:=S.less_tri x y h h1
   subst this
   simp
end L
attribute [local irreducible] L.number L.rrow L.rlist L.rrest L.follows
section
variable [Pan] {E w W:World} {K Q:Value→World→Prop} {LL M N N':List HA} {b q:List UInt8} {s s2:Sl}
set_option maxHeartbeats 4000000 in
theorem r6Rows_ok (hS:Sat E w M) [hr:Rds cd_uint8 M s b] (hbl:b.length≤1099511627776)
  (hyes:∀es ee so w,L.rlist S.right b=some es→ee.map enOf=es→(∀p∈ee,p.1=S.bare (enOf p))→ee.length≤b.length→Sat E w (rows cdRw so ee::bag (eeR ee)::M)→Q (.tuple #[.slice so.a ee.length so.c,.bool true]) w)
  (hno:∀v w,L.rlist S.right b=none→Sat E w M→Q (.tuple #[v,.bool false]) w):
  Calls zp 153 #[.slice s.a b.length s.c] w (retP Q):=by
 refine pithref36_Rows.calls ?_
 unfold pithref36_Rows.F
 refine pcq (f:=203) (r6taken_ok hS (by omega) (fun n b' s1 w hn hp1 hnv hS=>?_) fun w hn hS=>?_)
 rotate_left 1
 ·have h:=L.rlist_none hn
  repeat' (first|refine pIf_t ?_|refine pN_v (hk:=?_)|fail)
  exact hno _ _ h hS
 have hb':=L.number_len hn
 have hst:=L.rrest_0 hn
 rw[hst] at hyes hno
 clear hst
 repeat' (first|refine pIf_f ?_|refine pN_v (hk:=?_)|fail)
 refine⟨fun v v' w=>∃(ee:List EE) (bj:List UInt8) (sj so:Sl),v= .slice sj.a bj.length sj.c∧v'= .slice so.a ee.length so.c∧ee.length≤n∧ee.length+bj.length≤b'.length∧L.rrest n [] b'=L.rrest n (ee.map enOf) bj∧(∀p∈ee,p.1=S.bare (enOf p))∧Part cd_uint8 s b sj bj∧Sat E w (rows cdRw so ee::bag (eeR ee)::M),fun v _ _=>(match v with| .slice _ m _=>m|_=>0),
  ⟨[],b',s1,⟨none,0⟩,rfl,rfl,Nat.zero_le _,by simp,rfl,fun p hp=>(by cases hp),hp1,?_⟩,?_⟩
 ·have h8:Sat E w (rows cdRw ⟨none,0⟩ []::_):=hS.nil cdRw.e cdRw.size
  have h9:Sat E w (bag (eeR [])::rows cdRw ⟨none,0⟩ []::_):=h8.bag_nil
  exact h9.perm (List.Perm.swap _ _ _)
 clear hS hp1
 rintro _ _ _ w ⟨ee,bj,sj,so,rfl,rfl,hen,hel,hrr,hba,hpj,hS⟩
 rw[hrr] at hyes hno
 have hml:(ee.map enOf).length=ee.length:=List.length_map ..
 haveI hrj:Rds cd_uint8 M sj bj:=hpj.rd M hr
 by_cases hlt:ee.length<n
 ·have h1:=fun h=>L.rrest_no (n:=n) (es:=ee.map enOf) (b:=bj) (by omega) h
  have h2:=fun {e:L.En} {q:List UInt8} h hf=>L.rrest_bad (n:=n) (es:=ee.map enOf) (b:=bj) (e:=e) (q:=q) (by omega) h hf
  have h3:=fun {e:L.En} {q:List UInt8} h hf=>L.rrest_go (n:=n) (es:=ee.map enOf) (b:=bj) (e:=e) (q:=q) (by omega) h hf
  repeat' (first|(refine pN_lss_s ?_ ?_<;>intro hc<;>try (exfalso;omega))|refine pIf_t ?_|refine pN_v (hk:=?_)|fail)
  refine pcq (f:=204) (r6row_ok (b:=bj) hS (by omega) (fun e q ss s2 w he hp2 hS=>?_) fun vs u w he hv7 hv1 hS=>?_)
  ·have hqb:=L.rrow_len he
   have hnf:∀y,(Op.bytesLess e.name y||e.name==y)= !Op.bytesLess y e.name:=fun y=>L.not_follows y e.name
   by_cases hz:ee.length=0
   ·have hz2:ee=[]:=List.eq_nil_of_length_eq_zero hz
    have hf:L.follows (ee.map enOf) e=true:=by rw[hz2];exact L.follows_nil e
    have hgo:=h3 he hf
    repeat' (first|(refine pN_nz (t:=194) hS ?_;clear hS;intro x7 w hS)|(refine pN_sa (b:=x7) (us:=enC e.name e.link e.kind e.mode e.time ss e.sums.length) hS rfl rfl rfl ?_;clear hS;intro w hS;dsimp only at hS)|refine pN_la (b:=x7) hS rfl ?_|(refine pN_b1 (C:=cdRw) (x:=((S.bare e,(ss,e.sums)):EE)) hS rfl (by decide) ?_;clear hS;intro s3 w hS)|(refine pN_app (C:=cdRw) (s:=so) (l:=ee) (m:=[((S.bare e,(ss,e.sums)):EE)]) hS rfl rfl (by rw[List.length_singleton];omega) ?_;clear hS;intro s4 w hS)|(refine pA_gtr_s ?_ ?_<;>intro hc<;>try (exfalso;omega))|refine pIf_f ?_|refine gA_go (by rfl) ?_|refine gA_no (by rfl) ?_|(refine pDr_go hS ?_;clear hS;intro w hS)|refine pN_v (hk:=?_)|refine pA_v (hk:=?_)|fail)
    have hS:Sat E w (rows (cdI 58) ss e.sums::bag (eeR ee)::rows cdRw s4 (ee++[((S.bare e,(ss,e.sums)):EE)])::M):=hS.to
    have hS:=eeR_snoc ((S.bare e,(ss,e.sums)):EE) hS
    refine⟨⟨ee++[((S.bare e,(ss,e.sums)):EE)],q,s2,s4,rfl,rfl,by rw[List.length_append,List.length_singleton];omega,by rw[List.length_append,List.length_singleton];omega,?_,bare_snoc hba,hpj.trans hp2,hS.perm (List.Perm.swap _ _ _)⟩,by show q.length<bj.length;omega⟩
    rw[hrr,hgo,List.map_append];rfl
   ·obtain⟨y,hyl,hgl⟩:∃y,ee[ee.length-1]? =some y∧(ee.map enOf).getLast?=some (enOf y):=by
     obtain⟨y,hy⟩:∃y,ee[ee.length-1]? =some y:=⟨ee[ee.length-1],List.getElem?_eq_getElem _⟩
     exact⟨y,hy,by rw[List.getLast?_eq_getElem?,hml,List.getElem?_map,hy];rfl⟩
    have hfl:=L.follows_last (e:=e) hgl
    have hyn:(enOf y).name=y.1.Name:=rfl
    rw[hyn] at hfl
    have hnfy:=hnf y.1.Name
    cases hf:Op.bytesLess y.1.Name e.name with
    |true=>
     rw[hf] at hfl hnfy
     have hgo:=h3 he hfl
     repeat' (first|(refine pN_nz (t:=194) hS ?_;clear hS;intro x7 w hS)|(refine pN_sa (b:=x7) (us:=enC e.name e.link e.kind e.mode e.time ss e.sums.length) hS rfl rfl rfl ?_;clear hS;intro w hS;dsimp only at hS)|refine pA_ixk (C:=cdRw) (s:=so) (l:=ee) hS (ee.length-1) (by omega) rfl hyl fun ad ha hel2=>?_|refine pL_l (b:=x7) hS rfl ?_|(rw[pA_leq_l,hnfy,Bool.not_true])|refine pN_la (b:=x7) hS rfl ?_|(refine pN_b1 (C:=cdRw) (x:=((S.bare e,(ss,e.sums)):EE)) hS rfl (by decide) ?_;clear hS;intro s3 w hS)|(refine pN_app (C:=cdRw) (s:=so) (l:=ee) (m:=[((S.bare e,(ss,e.sums)):EE)]) hS rfl rfl (by rw[List.length_singleton];omega) ?_;clear hS;intro s4 w hS)|(refine pA_gtr_s ?_ ?_<;>intro hc<;>try (exfalso;omega))|refine pIf_f ?_|refine gA_go (by rfl) ?_|refine pL_ld1 ha hS ?_|refine pA_fa ha (by rfl) fun a ha=>?_|(refine pDr_go hS ?_;clear hS;intro w hS)|refine pN_v (hk:=?_)|refine pA_v (hk:=?_)|fail)
     have hS:Sat E w (rows (cdI 58) ss e.sums::bag (eeR ee)::rows cdRw s4 (ee++[((S.bare e,(ss,e.sums)):EE)])::M):=hS.to
     have hS:=eeR_snoc ((S.bare e,(ss,e.sums)):EE) hS
     refine⟨⟨ee++[((S.bare e,(ss,e.sums)):EE)],q,s2,s4,rfl,rfl,by rw[List.length_append,List.length_singleton];omega,by rw[List.length_append,List.length_singleton];omega,?_,bare_snoc hba,hpj.trans hp2,hS.perm (List.Perm.swap _ _ _)⟩,by show q.length<bj.length;omega⟩
     rw[hrr,hgo,List.map_append];rfl
    |false=>
     rw[hf] at hfl hnfy
     have hno2:=h2 he hfl
     repeat' (first|(refine pN_nz (t:=194) hS ?_;clear hS;intro x7 w hS)|(refine pN_sa (b:=x7) (us:=enC e.name e.link e.kind e.mode e.time ss e.sums.length) hS rfl rfl rfl ?_;clear hS;intro w hS;dsimp only at hS)|refine pA_ixk (C:=cdRw) (s:=so) (l:=ee) hS (ee.length-1) (by omega) rfl hyl fun ad ha hel2=>?_|refine pL_l (b:=x7) hS rfl ?_|(rw[pA_leq_l,hnfy,Bool.not_false])|(refine pA_gtr_s ?_ ?_<;>intro hc<;>try (exfalso;omega))|refine pIf_t ?_|refine gA_go (by rfl) ?_|refine pL_ld1 ha hS ?_|refine pA_fa ha (by rfl) fun a ha=>?_|(refine pDr_go hS ?_;clear hS;intro w hS)|refine pN_v (hk:=?_)|refine pA_v (hk:=?_)|fail)
     exact hno _ _ hno2 hS.to
  ·have hno2:=h1 he
   repeat' (first|(refine pN_nz (t:=194) hS ?_;clear hS;intro x7 w hS)|(refine pN_sa (b:=x7) (us:=vs) hS hv7.symm (by rw[hv7];rfl) hv1 ?_;clear hS;intro w hS)|refine pIf_t ?_|refine gA_no (by rfl) ?_|(refine pDr_go hS ?_;clear hS;intro w hS)|refine pN_v (hk:=?_)|refine pA_v (hk:=?_)|fail)
   exact hno _ _ hno2 hS.to
 ·obtain rfl:ee.length=n:=by omega
  have hend:=L.rrest_end (n:=ee.length) (es:=ee.map enOf) (b:=bj) (by omega)
  by_cases hbe:bj=[]
  ·subst hbe
   rw[if_pos rfl] at hend
   repeat' (first|(refine pN_lss_s ?_ ?_<;>intro hc<;>try (exfalso;omega))|(refine pN_eql_s ?_ ?_<;>intro hc<;>try (exfalso;first|omega|exact gone hc|exact gon2 hc))|refine pIf_f ?_|refine pN_v (hk:=?_)|fail)
   exact hyes _ ee so _ hend rfl hba (by omega) hS
  ·rw[if_neg hbe] at hend
   have hbp:=List.length_pos_iff.2 hbe
   repeat' (first|(refine pN_lss_s ?_ ?_<;>intro hc<;>try (exfalso;omega))|(refine pN_eql_s ?_ ?_<;>intro hc<;>try (exfalso;first|omega|exact gone hc|exact gon2 hc))|refine pIf_f ?_|refine pN_v (hk:=?_)|fail)
   exact hno _ _ hend hS.to
end
end
end
section
namespace C
theorem roll_fold:∀(l:List UInt8) (s:W),l.foldl roll s=s<<<l.length+l.foldl roll 0
 | [],s=>by simp
 |x::l,s=>by
  rw[List.foldl_cons,List.foldl_cons,roll_fold l (roll s x),roll_fold l (roll 0 x),←BitVec.add_assoc,List.length_cons]
  congr 1
  simp only[roll,BitVec.shiftLeft_eq_mul_twoPow]
  rw[BitVec.add_mul,BitVec.add_mul,BitVec.mul_assoc]
  congr 1
  ·congr 1
   apply BitVec.eq_of_toNat_eq
   simp[BitVec.toNat_twoPow,Nat.pow_succ,Nat.mul_comm,Nat.shiftLeft_eq]
  ·simp
def anew (p:List UInt8):W:=(p.drop (p.length-64)).foldl roll 0
theorem anew_eq (p:List UInt8):p.foldl roll 0=anew p:=by
 have h:=List.take_append_drop (p.length-64) p
 have h1:p.foldl roll 0=(p.take (p.length-64)++p.drop (p.length-64)).foldl roll 0:=by rw[h]
 rw[h1,List.foldl_append,roll_fold,anew]
 by_cases h64:p.length≤64
 ·have e:p.length-64=0:=by omega
  rw[e,List.take_zero]
  simp
 ·have e:(p.drop (p.length-64)).length=64:=by rw[List.length_drop];omega
  rw[e,BitVec.shiftLeft_eq_zero (by omega)]
  simp
theorem far_fold {k:K}:∀{l:List UInt8} {s s':W} {n n':Nat},far k s n l=some (s',n')→s'=l.foldl roll s∧n'=n+l.length
 | [],s,s',n,n',h=>by
  rw[far] at h
  cases h
  exact⟨rfl,rfl⟩
 |x::r,s,s',n,n',h=>by
  rw[far] at h
  split at h
  ·cases h
  ·obtain⟨h1,h2⟩:=far_fold h
   rw[List.length_cons]
   exact⟨h1,by omega⟩
theorem far_snoc {k:K} {x:UInt8}:∀{l:List UInt8} {s s':W} {n n':Nat},far k s n l=some (s',n')→far k s n (l++[x])=if over k (roll s' x) (n'+1) then none else some (roll s' x,n'+1)
 | [],s,s',n,n',h=>by
  rw[far] at h
  cases h
  rfl
 |y::r,s,s',n,n',h=>by
  rw[far] at h
  split at h
  ·cases h
  ·rename_i h0
   rw[List.cons_append,far,if_neg h0]
   exact far_snoc h
theorem far_most {k:K} (hk:k.least≤k.most):∀{l:List UInt8} {s:W} {n:Nat} {z:W×Nat},far k s n l=some z→(n:Int)<k.most→((n+l.length:Nat):Int)<k.most
 | [],s,n,z,h,hn=>hn
 |x::r,s,n,z,h,hn=>by
  rw[far] at h
  split at h
  ·cases h
  ·rename_i h0
   have h1:((n+1:Nat):Int)<k.most:=by
    rcases Int.lt_or_le ((n+1:Nat):Int) k.most with h1|h1
    ·exact h1
    ·have e:((n+1:Nat):Int)=k.most:=by omega
     rw[over_eq,decide_eq_true (by omega),decide_eq_true e] at h0
     exact absurd rfl h0
   have:=far_most hk h h1
   rw[List.length_cons]
   have e:n+(r.length+1)=n+1+r.length:=by omega
   rw[e];exact this
theorem eat_far {k:K} {y:List UInt8}:∀{l:List UInt8} {s s':W} {n n':Nat},far k s n l=some (s',n')→eat k s n (l++y)=(l.length+(eat k s' n' y).1,(eat k s' n' y).2)
 | [],s,s',n,n',h=>by
  rw[far] at h
  cases h
  rw[List.nil_append,List.length_nil,Nat.zero_add]
 |x::r,s,s',n,n',h=>by
  rw[far] at h
  split at h
  ·cases h
  ·rename_i h0
   rw[List.cons_append,eat,if_neg h0,eat_far h,List.length_cons]
   simp only[Prod.mk.injEq,and_true]
   omega
def endsR (k:K) (p:List UInt8):Bool:=if (p.length:Int)<k.least then false else if k.most≤(p.length:Int)∨k.bits=0 then true else decide (anew p>>>(64-k.bits.toNat)=0#64)
theorem ends_over {k:K} (hk:k.legal) {q:List UInt8} {x:UInt8} {s:W} {n:Nat} (h:far k 0 0 q=some (s,n)):over k (roll s x) (n+1)=endsR k (q++[x]):=by
 obtain⟨k1,k2,k3,k4,k5⟩:=hk
 obtain⟨h1,h2⟩:=far_fold h
 have h3:=far_most k2 h (by omega)
 have hl:(q++[x]).length=n+1:=by rw[List.length_append,h2];simp
 have hr:roll s x=anew (q++[x]):=by rw[←anew_eq,List.foldl_append,←h1];rfl
 rw[over_eq,endsR,hl,hr]
 by_cases c1:k.least≤((n+1:Nat):Int)
 ·rw[decide_eq_true c1,if_neg (by omega),Bool.true_and]
  by_cases c2:((n+1:Nat):Int)=k.most
  ·rw[decide_eq_true c2,if_pos (.inl (by omega))];rfl
  ·rw[decide_eq_false c2,Bool.false_or]
   by_cases c3:k.bits=0
   ·rw[if_pos (.inr c3),c3]
    apply decide_eq_true
    apply BitVec.eq_of_toNat_eq
    have:=(anew (q++[x])).isLt
    simp only[Int.toNat_zero,Nat.sub_zero,BitVec.toNat_ushiftRight,Nat.shiftRight_eq_div_pow]
    exact Nat.div_eq_of_lt this
   ·rw[if_neg (by omega)]
 ·rw[decide_eq_false c1,if_pos (by omega)];rfl
structure Cutting (k:K) (l:List UInt8) (A:List (List UInt8)) (b i:Nat):Prop where
 pc:pieces k l=A++pieces k (l.drop b)
 fl:A.flatten.length=b
 bi:b≤i
 il:i≤l.length
 fr:∃s n,far k 0 0 ((l.drop b).take (i-b))=some (s,n)
theorem cutting_0 (k:K) (l:List UInt8):Cutting k l [] 0 0:=⟨by rw[List.drop_zero];rfl,rfl,by omega,by omega,0,0,rfl⟩
theorem take_snoc {l:List UInt8} {n:Nat} {x:UInt8} (h:l[n]? =some x):l.take (n+1)=l.take n++[x]:=by rw[List.take_add_one,h];rfl
theorem Cutting.next {k:K} (hk:k.legal) {l:List UInt8} {A:List (List UInt8)} {b i:Nat} (h:Cutting k l A b i) (hi:i<l.length):
  ((endsR k ((l.drop b).take (i+1-b))=true∨i+1=l.length)→Cutting k l (A++[(l.drop b).take (i+1-b)]) (i+1) (i+1))∧
  (endsR k ((l.drop b).take (i+1-b))=false→i+1≠l.length→Cutting k l A b (i+1)):=by
 obtain⟨s,n,hf⟩:=h.fr
 have hb:=h.bi
 obtain⟨x,hx⟩:∃x,(l.drop b)[i-b]? =some x:=⟨l[i],by rw[List.getElem?_drop,List.getElem?_eq_some_iff];exact⟨by omega,by congr 1;omega⟩⟩
 have e1:i+1-b=i-b+1:=by omega
 have hq:=take_snoc hx
 rw[e1,hq,←ends_over hk hf]
 have hfl:=far_fold hf
 have hql:((l.drop b).take (i-b)).length=i-b:=by rw[List.length_take,List.length_drop];omega
 have hd:l.drop b=((l.drop b).take (i-b)++[x])++l.drop (i+1):=by
  have:=List.take_append_drop (i-b+1) (l.drop b)
  rw[List.drop_drop,show b+(i-b+1)=i+1 by omega,hq] at this
  exact this.symm
 have hne:l.drop b≠[]:=fun e=>by rw[e] at hx;cases hx
 have hfin:fst k (l.drop b)=i-b+1→Cutting k l (A++[(l.drop b).take (i-b)++[x]]) (i+1) (i+1):=fun hfs=>by
  refine⟨?_,?_,Nat.le_refl _,by omega,0,0,by rw[Nat.sub_self,List.take_zero];rfl⟩
  ·rw[h.pc,pieces_cons k hne,hfs,hq,List.drop_drop,show b+(i-b+1)=i+1 by omega,List.append_assoc];rfl
  ·rw[List.flatten_append,List.length_append,h.fl]
   simp only[List.flatten_cons,List.flatten_nil,List.append_nil,List.length_append,hql,List.length_cons,List.length_nil]
   omega
 have hd2:l.drop b=(l.drop b).take (i-b)++(x::l.drop (i+1)):=by
  rw[List.append_assoc] at hd
  exact hd
 have hE:fst k (l.drop b)=i-b+(eat k s n (x::l.drop (i+1))).1:=by
  have h2:fst k (l.drop b)=(eat k 0 0 ((l.drop b).take (i-b)++(x::l.drop (i+1)))).1:=by rw[fst,←hd2]
  rw[h2,eat_far hf,hql]
 rw[eat] at hE
 cases ho:over k (roll s x) (n+1) with
 |true=>
  rw[if_pos ho] at hE
  exact⟨fun _=>hfin hE,fun h=>(by cases h)⟩
 |false=>
  rw[ho,if_neg (by decide)] at hE
  refine⟨fun h1=>?_,fun _ h1=>⟨h.pc,h.fl,by omega,by omega,roll s x,n+1,?_⟩⟩
  ·rcases h1 with h1|h1
   ·cases h1
   ·have e:l.drop (i+1)=[]:=List.drop_of_length_le (by omega)
    rw[e,eat] at hE
    exact hfin (by rw[hE])
  ·rw[e1,hq,far_snoc hf,ho]
   rfl
end C
end
section
variable [Pan] {x0 x1:Value} {w:World} {Q:QQ}
set_option maxRecDepth 100000
def pithref34_Legal.F (x0:Value) (w:World) (Q:QQ):Prop:=
 pN zp (oBox 27 x0) w fun x1 w1=>
 pN zp (oFld 27 x1 0) w1 fun x3 w2=>
 pN zp (oLoad 3 x3) w2 fun x4 w3=>
 pN zp (oBin .lss 3 (.tmp 4) (.const (.int .i64 64)) x4 (.int .i64 64)) w3 fun x5 w4=>
 pGd (gB x5 false) (pN zp (oFld 27 x1 0) w4) w4 fun x7 w5=>
 pGd (gB x5 false) (pN zp (oLoad 3 x7) w5) w5 fun x8 w6=>
 pGd (gB x5 false) (pN zp (oFld 27 x1 1) w6) w6 fun x9 w7=>
 pGd (gB x5 false) (pN zp (oLoad 3 x9) w7) w7 fun x10 w8=>
 pGd (gB x5 false) (pN zp (oBin .gtr 3 (.tmp 8) (.tmp 10) x8 x10) w8) w8 fun x11 w9=>
 pN zp (oPick x5 (.bool true) x11) w9 fun x12 w10=>
 pGd (gB x12 false) (pN zp (oFld 27 x1 1) w10) w10 fun x14 w11=>
 pGd (gB x12 false) (pN zp (oLoad 3 x14) w11) w11 fun x15 w12=>
 pGd (gB x12 false) (pN zp (oBin .gtr 3 (.tmp 15) (.const (.int .i64 1048576)) x15 (.int .i64 1048576)) w12) w12 fun x16 w13=>
 pN zp (oPick x12 (.bool true) x16) w13 fun x17 w14=>
 pGd (gB x17 false) (pN zp (oFld 27 x1 2) w14) w14 fun x19 w15=>
 pGd (gB x17 false) (pN zp (oLoad 3 x19) w15) w15 fun x20 w16=>
 pGd (gB x17 false) (pN zp (oBin .lss 3 (.tmp 20) (.const (.int .i64 0)) x20 (.int .i64 0)) w16) w16 fun x21 w17=>
 pN zp (oPick x17 (.bool true) x21) w17 fun x22 w18=>
 pGd (gB x22 false) (pN zp (oFld 27 x1 2) w18) w18 fun x24 w19=>
 pGd (gB x22 false) (pN zp (oLoad 3 x24) w19) w19 fun x25 w20=>
 pGd (gB x22 false) (pN zp (oBin .gtr 3 (.tmp 25) (.const (.int .i64 20)) x25 (.int .i64 20)) w20) w20 fun x26 w21=>
 pN zp (oPick x22 (.bool true) x26) w21 fun x27 w22=>
 pIf x27
 (Q (.int .i64 6) w22)
 (Q (.int .i64 0) w22)
theorem pithref34_Legal.calls (h:pithref34_Legal.F x0 w Q):Calls zp 109 #[x0] w (retP Q):=cl .z [x0] Tryz.func109 h
def pithref34_Cut.H:Hints:={ cut:=fun|7=>some ([6,7],34359476416)|_=>none,loop:=fun|6=>([6,7,8],34359734720)|_=>([],0),order:=fun|8=>(ot 12)|_=>[] }
def pithref34_Cut.F (x0 x1:Value) (w:World) (Q:QQ):Prop:=
 pN zp (oBox 27 x1) w fun x3 w1=>
 pN zp (oLoad 27 x3) w1 fun x9 w2=>
 pN zp (oCall 109 [x9]) w2 fun x10 w3=>
 pN zp (oBin .neq 3 (.tmp 10) (.const (.int .i64 0)) x10 (.int .i64 0)) w3 fun x11 w4=>
 pIf x11
 (Q (.tuple #[(.slice none 0 0),(.int .i64 6)]) w4)
 (∃(L6:Value→Value→Value→World→Prop) (m6:Value→Value→Value→World→Nat),
 L6 (.slice none 0 0) (.int .i64 0) (.int .i64 1) w4∧
 ∀(_k6:Env) (l6l6:Value) (from7l6:Value) (i8l6:Value) (w5:World),L6 l6l6 from7l6 i8l6 w5→
 pN zp (oBi .len #[47] 3 [false] [x0]) w5 fun x14 w6=>
 pN zp (oBin .leq 3 (.tmp 12) (.tmp 14) i8l6 x14) w6 fun x15 w7=>
 pIf x15
 (∃I7:Value→Value→World→Prop,
 (pDr w7 fun w8=>
 pA zp (oSl 47 x0 (some from7l6) (some i8l6) none) fun x21=>
 pL zp (oLoad 27 x3) w8 fun x22=>
 pN zp (oCall 197 [x21,x22]) w8 fun x23 w9=>
 (True)∧(gA (gB x23 false) (pA zp (oMv i8l6)) fun x25=>
 gA (gB x23 false) (pA zp (oMv x0)) fun x26=>
 gA (gB x23 false) (pA zp (oBi .len #[47] 3 [false] [x26])) fun x27=>
 gA (gB x23 false) (pA zp (oBin .eql 3 (.tmp 25) (.tmp 27) x25 x27)) fun x28=>
 pA zp (oPick x23 (.bool true) x28) fun x29=>
 pIf x29
 (pN zp (oBs 46 1 [(0,i8l6)]) w9 fun x32 w10=>
 pN zp (oBi .append #[46,46] 46 [false,false] [l6l6,x32]) w10 fun x33 w11=>
 I7 x33 i8l6 w11)
 (I7 l6l6 from7l6 w9)))∧
 ∀(_j7:Env) (l6c7:Value) (from7c7:Value) (w12:World),I7 l6c7 from7c7 w12→
 pN zp (oBin .add 3 (.tmp 16) (.const (.int .i64 1)) i8l6 (.int .i64 1)) w12 fun x17 w13=>
 (L6 l6c7 from7c7 x17 w13∧m6 l6c7 from7c7 x17 w13<m6 l6l6 from7l6 i8l6 w5))
 (Q (.tuple #[l6l6,(.int .i64 0)]) w7))
theorem pithref34_Cut.calls (h:pithref34_Cut.F x0 x1 w Q):Calls zp 148 #[x0,x1] w (retP Q):=cl pithref34_Cut.H [x0,x1] Tryz.func148 h
def pithref34_ends.H:Hints:={ cut:=fun _=>none,loop:=fun _=>([],0),order:=fun|5=>[(0,0),(2,1),(3,5),(4,13),(1,29),(5,31),(6,63),(7,127)]|_=>[] }
def pithref34_ends.F (x0 x1:Value) (w:World) (Q:QQ):Prop:=
 pN zp (oBox 27 x1) w fun x3 w1=>
 pN zp (oBi .len #[47] 3 [false] [x0]) w1 fun x6 w2=>
 pN zp (oFld 27 x3 0) w2 fun x7 w3=>
 pN zp (oLoad 3 x7) w3 fun x8 w4=>
 pN zp (oBin .lss 3 (.tmp 6) (.tmp 8) x6 x8) w4 fun x9 w5=>
 pIf x9
 (Q (.bool false) w5)
 (pN zp (oBi .len #[47] 3 [false] [x0]) w5 fun x11 w6=>
 pN zp (oFld 27 x3 1) w6 fun x12 w7=>
 pN zp (oLoad 3 x12) w7 fun x13 w8=>
 pN zp (oBin .geq 3 (.tmp 11) (.tmp 13) x11 x13) w8 fun x14 w9=>
 pGd (gB x14 false) (pN zp (oFld 27 x3 2) w9) w9 fun x16 w10=>
 pGd (gB x14 false) (pN zp (oLoad 3 x16) w10) w10 fun x17 w11=>
 pGd (gB x14 false) (pN zp (oBin .eql 3 (.tmp 17) (.const (.int .i64 0)) x17 (.int .i64 0)) w11) w11 fun x18 w12=>
 pN zp (oPick x14 (.bool true) x18) w12 fun x19 w13=>
 pIf x19
 (Q (.bool true) w13)
 (pDr w13 fun w14=>
 pA zp (oFld 27 x3 2) fun x22=>
 pL zp (oLoad 3 x22) w14 fun x23=>
 pA zp (oBin .sub 3 (.const (.int .i64 64)) (.tmp 23) (.int .i64 64) x23) fun x24=>
 pN zp (oCall 213 [x0]) w14 fun x21 w15=>
 ((Sem.run zp (oLoad 3 x22) w15= .ok (.value x23) w15)∧True)∧(pA zp (oBin .shr 212 (.tmp 21) (.tmp 24) x21 x24) fun x25=>
 pA zp (oBin .eql 212 (.tmp 25) (.const (.int .u64 0)) x25 (.int .u64 0)) fun x26=>
 Q x26 w15)))
theorem pithref34_ends.calls (h:pithref34_ends.F x0 x1 w Q):Calls zp 197 #[x0,x1] w (retP Q):=cl pithref34_ends.H [x0,x1] Tryz.func197 h
def pithref34_sum.H:Hints:={ cut:=fun|4=>some ([3],4040)|_=>none,loop:=fun|6=>([4,5],134209584)|_=>([],0),order:=fun _=>[] }
def pithref34_sum.F (x0:Value) (w:World) (Q:QQ):Prop:=
 ∃I4:Value→World→Prop,
 (pN zp (oBi .len #[47] 3 [false] [x0]) w fun x7 w1=>
 pN zp (oBin .gtr 3 (.tmp 7) (.const (.int .i64 64)) x7 (.int .i64 64)) w1 fun x8 w2=>
 pIf x8
 (pN zp (oBi .len #[47] 3 [false] [x0]) w2 fun x10 w3=>
 pN zp (oBin .sub 3 (.tmp 10) (.const (.int .i64 64)) x10 (.int .i64 64)) w3 fun x11 w4=>
 I4 x11 w4)
 (I4 (.int .i64 0) w2))∧
 ∀(_j4:Env) (from3c4:Value) (w5:World),I4 from3c4 w5→
 ∃(L6:Value→Value→World→Prop) (m6:Value→Value→World→Nat),
 L6 (.int .u64 0) from3c4 w5∧
 ∀(_k6:Env) (s4l6:Value) (i5l6:Value) (w6:World),L6 s4l6 i5l6 w6→
 pN zp (oBi .len #[47] 3 [false] [x0]) w6 fun x15 w7=>
 pN zp (oBin .lss 3 (.tmp 13) (.tmp 15) i5l6 x15) w7 fun x16 w8=>
 pIf x16
 (pN zp (oBin .mul 212 (.const (.int .u64 2)) (.tmp 19) (.int .u64 2) s4l6) w8 fun x20 w9=>
 pN zp (oIdx 47 x0 i5l6) w9 fun x23 w10=>
 pN zp (oLoad 5 x23) w10 fun x24 w11=>
 pN zp (oCall 221 [x24]) w11 fun x25 w12=>
 pN zp (oBin .add 212 (.tmp 20) (.tmp 25) x20 x25) w12 fun x26 w13=>
 pN zp (oBin .add 3 (.tmp 17) (.const (.int .i64 1)) i5l6 (.int .i64 1)) w13 fun x18 w14=>
 (L6 x26 x18 w14∧m6 x26 x18 w14<m6 s4l6 i5l6 w6))
 (Q s4l6 w8)
theorem pithref34_sum.calls (h:pithref34_sum.F x0 w Q):Calls zp 213 #[x0] w (retP Q):=cl pithref34_sum.H [x0] Tryz.func213 h
def pithref34_Gear.F (x0:Value) (w:World) (Q:QQ):Prop:=
 pN zp (oConv 5 212 x0) w fun x5 w1=>
 pN zp (oBin .add 212 (.tmp 5) (.const (.int .u64 1)) x5 (.int .u64 1)) w1 fun x6 w2=>
 pN zp (oBin .mul 212 (.tmp 6) (.const (.int .u64 11400714819323198485)) x6 (.int .u64 11400714819323198485)) w2 fun x7 w3=>
 pN zp (oBin .quo 212 (.tmp 9) (.const (.int .u64 1073741824)) x7 (.int .u64 1073741824)) w3 fun x10 w4=>
 pN zp (oBin .xor 212 (.tmp 8) (.tmp 10) x7 x10) w4 fun x11 w5=>
 pN zp (oBin .mul 212 (.tmp 11) (.const (.int .u64 13787848793156543929)) x11 (.int .u64 13787848793156543929)) w5 fun x12 w6=>
 pN zp (oBin .quo 212 (.tmp 14) (.const (.int .u64 134217728)) x12 (.int .u64 134217728)) w6 fun x15 w7=>
 pN zp (oBin .xor 212 (.tmp 13) (.tmp 15) x12 x15) w7 fun x16 w8=>
 pN zp (oBin .mul 212 (.tmp 16) (.const (.int .u64 10723151780598845931)) x16 (.int .u64 10723151780598845931)) w8 fun x17 w9=>
 pN zp (oBin .quo 212 (.tmp 19) (.const (.int .u64 2147483648)) x17 (.int .u64 2147483648)) w9 fun x20 w10=>
 pN zp (oBin .xor 212 (.tmp 18) (.tmp 20) x17 x20) w10 fun x21 w11=>
 Q x21 w11
theorem pithref34_Gear.calls (h:pithref34_Gear.F x0 w Q):Calls zp 221 #[x0] w (retP Q):=cl .z [x0] Tryz.func221 h
end
section
attribute [local irreducible] oMv oV oU oCall oCallV oBi oBin oUn oLoad oStore oNil oFld oField oIdx oIndex oPick oAlloc oBox oBuild oBs oConv oMk oSl oExt oFn oIface oMap oLook oMapUp oRange oNext oEntry oInv oAssert oPanic oRes pN pA pL pDr pIf gA pGd Calls
section
section
variable [Pan] {P:Program} {w:World} {K:Value→World→Prop} {t:TypeId} {xo yo:Operand} {x:BitVec 64}
theorem pN_quo_v (n:Nat) {m:Int} (hm:m=((2^n:Nat):Int)) (hk:K (lv (x>>>n)) w):pN P (oBin .quo t xo yo (lv x) (.int .u64 m)) w K:=by
 subst hm
 have hp:0<2^n:=Nat.pow_pos (by decide)
 have h1:x.toNat / 2^n≤x.toNat:=Nat.div_le_self _ _
 have hx:=x.isLt
 unfold lv at hk ⊢
 rw[pN_quo _ _ _ _ _ _ (by omega),←Int.ofNat_tdiv,w64_nat (by omega)]
 rw[BitVec.toNat_ushiftRight,Nat.shiftRight_eq_div_pow] at hk
 exact hk
theorem pN_two_v (hk:K (lv (x<<<1)) w):pN P (oBin .mul t xo yo (.int .u64 2) (lv x)) w K:=by
 have h:pN P (oBin .mul t xo yo (lv 2#64) (lv x)) w K:=pN_mul_v (by
  rw[show 2#64*x=x<<<1 by rw[BitVec.shiftLeft_eq_mul_twoPow,BitVec.mul_comm];rfl]
  exact hk)
 exact h
end
namespace C
theorem ends_snoc:∀(A:List (List UInt8)) (q:List UInt8) (a:Nat),ends a (A++[q])=ends a A++[a+A.flatten.length+q.length]
 | [],q,a=>rfl
 |p::A,q,a=>by
  rw[List.cons_append,ends,ends,ends_snoc A q,List.flatten_cons,List.length_append,List.cons_append]
  congr 4;omega
def endsA (A:List (List UInt8)):List Int:=(ends 0 A).map fun n:Nat=>(n:Int)
theorem endsA_nil:endsA []=[]:=rfl
theorem endsA_snoc (A:List (List UInt8)) (q:List UInt8):endsA (A++[q])=endsA A++[((A.flatten.length+q.length:Nat):Int)]:=by
 unfold endsA
 rw[ends_snoc,List.map_append,Nat.zero_add];rfl
theorem endsA_len (A:List (List UInt8)):(endsA A).length=A.length:=by unfold endsA;rw[List.length_map,ends_len]
theorem endsA_all (k:K) (l:List UInt8):endsA (pieces k l)=endsI k l:=rfl
theorem anew_def (p:List UInt8):anew p=(p.drop (p.length-64)).foldl roll 0:=rfl
theorem fold_take {l:List UInt8} {j:Nat} {x:UInt8} (h:l[j]? =some x) (s:W):(l.take (j+1)).foldl roll s=roll ((l.take j).foldl roll s) x:=by
 rw[List.take_add_one,h,List.foldl_append];rfl
theorem roll_def (s:W) (x:UInt8):s<<<1+gear x=roll s x:=rfl
theorem endsR_def (k:K) (p:List UInt8):endsR k p=if (p.length:Int)<k.least then false else if k.most≤(p.length:Int)∨k.bits=0 then true else decide (anew p>>>(64-k.bits.toNat)=0#64):=rfl
theorem pieces_cut {k:K} {l:List UInt8} {A:List (List UInt8)} {b i:Nat} (h:Cutting k l A b i) (hb:b=l.length):pieces k l=A:=by
 rw[h.pc,hb,List.drop_length,pieces_nil,List.append_nil]
end C
attribute [local irreducible] C.endsA C.fst
section
variable [Pan] {E w W:World} {K Q:Value→World→Prop} {J:Value→Prop} {L M N:List HA} {l p:List UInt8} {s s2:Sl} {b:Nat} {k:C.K}
theorem rLegal_ok (k:C.K) (hS:Sat E w M) (hQ:∀w,Sat E w M→Q (.int .i64 (if k.legal then 0 else 6)) w):Calls zp 109 #[.agg #[.int .i64 k.least,.int .i64 k.most,.int .i64 k.bits]] w (retP Q):=by
 refine pithref34_Legal.calls ?_
 unfold pithref34_Legal.F
 refine pN_bx (z:=[.int .i64 k.least,.int .i64 k.most,.int .i64 k.bits]) hS rfl ?_
 clear hS
 intro b w hS
 have hyes:k.legal→Q (.int .i64 0) w:=fun h=>by rw[if_pos h] at hQ;exact hQ _ hS.drop
 have hno:¬k.legal→Q (.int .i64 6) w:=fun h=>by rw[if_neg h] at hQ;exact hQ _ hS.drop
 clear hQ
 unfold C.K.legal at hyes hno
 by_cases h1:k.least<64
 ·repeat' (first|(refine pN_lss_s ?_ ?_<;>intro hc<;>try (exfalso;omega))|refine pIf_t ?_|refine pGd_no (by rfl) ?_|refine pN_l hS (by first|rfl|assumption) ?_|refine pN_v (hk:=?_)|fail)
  exact hno (by omega)
 ·by_cases h2:k.least>k.most
  ·repeat' (first|((first|refine pN_lss_s ?_ ?_|refine pN_gtr_s ?_ ?_)<;>intro hc<;>try (exfalso;omega))|refine pIf_t ?_|refine pGd_go (by rfl) ?_|refine pGd_no (by rfl) ?_|refine pN_l hS (by first|rfl|assumption) ?_|refine pN_v (hk:=?_)|fail)
   exact hno (by omega)
  ·by_cases h3:k.most>1048576
   ·repeat' (first|((first|refine pN_lss_s ?_ ?_|refine pN_gtr_s ?_ ?_)<;>intro hc<;>try (exfalso;omega))|refine pIf_t ?_|refine pGd_go (by rfl) ?_|refine pGd_no (by rfl) ?_|refine pN_l hS (by first|rfl|assumption) ?_|refine pN_v (hk:=?_)|fail)
    exact hno (by omega)
   ·by_cases h4:k.bits<0
    ·repeat' (first|((first|refine pN_lss_s ?_ ?_|refine pN_gtr_s ?_ ?_)<;>intro hc<;>try (exfalso;omega))|refine pIf_t ?_|refine pGd_go (by rfl) ?_|refine pGd_no (by rfl) ?_|refine pN_l hS (by first|rfl|assumption) ?_|refine pN_v (hk:=?_)|fail)
     exact hno (by omega)
    ·by_cases h5:k.bits>20
     ·repeat' (first|((first|refine pN_lss_s ?_ ?_|refine pN_gtr_s ?_ ?_)<;>intro hc<;>try (exfalso;omega))|refine pIf_t ?_|refine pGd_go (by rfl) ?_|refine pN_l hS (by first|rfl|assumption) ?_|refine pN_v (hk:=?_)|fail)
      exact hno (by omega)
     ·repeat' (first|((first|refine pN_lss_s ?_ ?_|refine pN_gtr_s ?_ ?_)<;>intro hc<;>try (exfalso;omega))|refine pIf_f ?_|refine pGd_go (by rfl) ?_|refine pN_l hS (by first|rfl|assumption) ?_|refine pN_v (hk:=?_)|fail)
      exact hyes (by omega)
theorem rGear_ok (c:UInt8) (hS:Sat E w M) (hQ:∀w,Sat E w M→Q (lv (C.gear c)) w):Calls zp 221 #[bv c] w (retP Q):=by
 refine pithref34_Gear.calls ?_
 unfold pithref34_Gear.F
 repeat' (first|refine pN_tol ?_|refine pN_add_vk 1#64 rfl ?_|refine pN_mul_vk 11400714819323198485#64 rfl ?_|refine pN_mul_vk 13787848793156543929#64 rfl ?_|refine pN_mul_vk 10723151780598845931#64 rfl ?_|refine pN_quo_v 30 rfl ?_|refine pN_quo_v 27 rfl ?_|refine pN_quo_v 31 rfl ?_|refine pN_xor_v ?_|fail)
 exact hQ _ hS
end
attribute [local irreducible] C.gear C.roll C.anew C.endsR
section
variable [Pan] {E w W:World} {K Q:Value→World→Prop} {J:Value→Prop} {L M N:List HA} {l p:List UInt8} {s s2:Sl} {b:Nat} {k:C.K}
set_option maxHeartbeats 1000000 in
theorem rsum_ok (hS:Sat E w M) [hr:Rds cd_uint8 M s p] (hl:p.length≤1099511627776) (hQ:∀w,Sat E w M→Q (lv (C.anew p)) w):
  Calls zp 213 #[.slice s.a p.length s.c] w (retP Q):=by
 refine pithref34_sum.calls ?_
 unfold pithref34_sum.F
 refine⟨fun v w=>v= .int .i64 ((p.length-64:Nat):Int)∧Sat E w M,?_,?_⟩
 ·by_cases h:64<p.length
  ·repeat' (first|(refine pN_gtr_s ?_ ?_<;>intro hc<;>try (exfalso;omega))|refine pIf_t ?_|refine pN_v (hk:=?_)|fail)
   exact⟨by congr 1;omega,hS⟩
  ·repeat' (first|(refine pN_gtr_s ?_ ?_<;>intro hc<;>try (exfalso;omega))|refine pIf_f ?_|refine pN_v (hk:=?_)|fail)
   exact⟨by congr 1;omega,hS⟩
 clear hS
 rintro _ _ w ⟨rfl,hS⟩
 obtain⟨f,hf⟩:∃f,f=p.length-64:=⟨_,rfl⟩
 rw[C.anew_def,←hf] at hQ
 rw[←hf]
 have hBl:(p.drop f).length=p.length-f:=List.length_drop
 refine⟨fun v i w=>∃j:Nat,v=lv (((p.drop f).take j).foldl C.roll 0)∧i= .int .i64 ((f+j:Nat):Int)∧f+j≤p.length∧Sat E w M,fun _ i _=>p.length-(RowKit.intOf i).toNat,⟨0,rfl,rfl,by omega,hS⟩,?_⟩
 clear hS
 rintro _ _ _ w ⟨j,rfl,rfl,hj,hS⟩
 by_cases hlt:f+j<p.length
 ·obtain⟨x,hx⟩:∃x,p[f+j]? =some x:=⟨p[f+j],List.getElem?_eq_getElem _⟩
  have hst:=C.fold_take (l:=p.drop f) (j:=j) (x:=x) (by rw[List.getElem?_drop];exact hx) 0
  generalize ((p.drop f).take j).foldl C.roll 0=S0 at*
  have hro:=C.roll_def S0 x
  repeat' (first|refine pN_ixk hS (f+j) (by omega) (by omega) hx fun ad ha hel=>?_|refine pN_two_v ?_|(refine pcq (f:=221) (rGear_ok x hS ?_);clear hS;intro w hS)|refine pN_add_v ?_|(refine pN_lss_s ?_ ?_<;>intro hc<;>try (exfalso;omega))|refine pIf_t ?_|refine pN_ld1 ha hS ?_|refine pN_v (hk:=?_)|fail)
  rw[hro,←hst]
  exact⟨⟨j+1,rfl,by congr 1,by omega,hS⟩,by simp[RowKit.intOf]<;>omega⟩
 ·have hj2:j=p.length-f:=by omega
  rw[hj2,←hBl,List.take_length]
  generalize (p.drop f).foldl C.roll 0=S0 at*
  repeat' (first|(refine pN_lss_s ?_ ?_<;>intro hc<;>try (exfalso;omega))|refine pIf_f ?_|refine pN_v (hk:=?_)|fail)
  exact hQ _ hS
set_option maxHeartbeats 1000000 in
theorem rends_ok (hk:k.legal) (hS:Sat E w M) [hr:Rds cd_uint8 M s p] (hl:p.length≤1099511627776) (hQ:∀w,Sat E w M→Q (.bool (C.endsR k p)) w):
  Calls zp 197 #[.slice s.a p.length s.c,.agg #[.int .i64 k.least,.int .i64 k.most,.int .i64 k.bits]] w (retP Q):=by
 obtain⟨k1,k2,k3,k4,k5⟩:=hk
 refine pithref34_ends.calls ?_
 unfold pithref34_ends.F
 refine pN_bx (z:=[.int .i64 k.least,.int .i64 k.most,.int .i64 k.bits]) hS rfl ?_
 clear hS
 intro b w hS
 have hd:=C.endsR_def k p
 by_cases c1:(p.length:Int)<k.least
 ·rw[if_pos c1] at hd
  rw[hd] at hQ
  repeat' (first|(refine pN_lss_s ?_ ?_<;>intro hc<;>try (exfalso;omega))|refine pIf_t ?_|refine pN_l hS (by first|rfl|assumption) ?_|refine pN_v (hk:=?_)|fail)
  exact hQ _ hS.to
 ·rw[if_neg c1] at hd
  by_cases c2:k.most≤(p.length:Int)
  ·rw[if_pos (.inl c2)] at hd
   rw[hd] at hQ
   repeat' (first|((first|refine pN_lss_s ?_ ?_|refine pN_geq_s ?_ ?_)<;>intro hc<;>try (exfalso;omega))|refine pIf_t ?_|refine pIf_f ?_|refine pGd_no (by rfl) ?_|refine pN_l hS (by first|rfl|assumption) ?_|refine pN_v (hk:=?_)|fail)
   exact hQ _ hS.to
  ·by_cases c3:k.bits=0
   ·rw[if_pos (.inr c3)] at hd
    rw[hd] at hQ
    repeat' (first|((first|refine pN_lss_s ?_ ?_|refine pN_geq_s ?_ ?_)<;>intro hc<;>try (exfalso;omega))|(refine pN_eql_s ?_ ?_<;>intro hc<;>try (exfalso;first|omega|exact gone hc|exact gon2 hc))|refine pIf_t ?_|refine pIf_f ?_|refine pGd_go (by rfl) ?_|refine pN_l hS (by first|rfl|assumption) ?_|refine pN_v (hk:=?_)|fail)
    exact hQ _ hS.to
   ·rw[if_neg (by omega)] at hd
    repeat' (first|(refine pcq (f:=213) (rsum_ok (s:=s) (p:=p) hS hl ?_);clear hS;intro w hS)|refine⟨⟨run_l hS (by rfl),trivial⟩,?_⟩|refine pA_shr_v (64-k.bits.toNat) (by omega) (by omega) ?_|refine pA_eql_v0 (fun hC=>?_) (fun hC=>?_)|((first|refine pN_lss_s ?_ ?_|refine pN_geq_s ?_ ?_)<;>intro hc<;>try (exfalso;omega))|(refine pN_eql_s ?_ ?_<;>intro hc<;>try (exfalso;first|omega|exact gone hc|exact gon2 hc))|refine pIf_f ?_|refine pGd_go (by rfl) ?_|refine pN_l hS (by first|rfl|assumption) ?_|refine pL_l hS (by first|rfl|assumption) ?_|(refine pDr_go hS ?_;clear hS;intro w hS)|refine pN_v (hk:=?_)|refine pA_v (hk:=?_)|fail)
    ·rw[hd,decide_eq_true hC] at hQ
     exact hQ _ hS.to
    ·rw[hd,decide_eq_false hC] at hQ
     exact hQ _ hS.to
set_option maxHeartbeats 2000000 in
theorem rCut_ok (hk:k.legal) (hS:Sat E w M) [hr:Rds cd_uint8 M s l] (hl:l.length≤1099511627776)
  (hQ:∀so w,Sat E w (rows cd_int so (endsI k l)::M)→Q (.tuple #[.slice so.a (C.pieces k l).length so.c,.int .i64 0]) w):
  Calls zp 148 #[.slice s.a l.length s.c,.agg #[.int .i64 k.least,.int .i64 k.most,.int .i64 k.bits]] w (retP Q):=by
 refine pithref34_Cut.calls ?_
 unfold pithref34_Cut.F
 have hpl:=C.pieces_len k l
 have hcn:=fun {A:List (List UInt8)} {b i:Nat} (h:C.Cutting k l A b i) (hi:i<l.length)=>h.next hk hi
 have hcp:=fun {A:List (List UInt8)} {b i:Nat} (h:C.Cutting k l A b i) (hb:b=l.length)=>C.pieces_cut h hb
 rw[←C.endsA_all] at hQ
 refine pN_bx (z:=[.int .i64 k.least,.int .i64 k.most,.int .i64 k.bits]) hS rfl ?_
 clear hS
 intro kb w hS
 repeat' (first|(refine pcq (f:=109) (rLegal_ok k hS ?_);rw[if_pos hk];clear hS;intro w hS)|(refine pN_neq_s ?_ ?_<;>intro hc<;>try (exfalso;first|omega|exact gone hc|exact gon2 hc))|refine pIf_f ?_|refine pN_la hS (by rfl) ?_|fail)
 refine⟨fun v v' v'' w=>∃(A:List (List UInt8)) (b i:Nat) (so:Sl),v= .slice so.a (C.endsA A).length so.c∧v'= .int .i64 b∧v''= .int .i64 ((i+1:Nat):Int)∧C.Cutting k l A b i∧(i=l.length→b=i)∧(C.endsA A).length≤i∧Sat E w (rows cd_int so (C.endsA A)::cel kb ⟨27,[.int .i64 k.least,.int .i64 k.most,.int .i64 k.bits]⟩::M),fun _ _ v _=>l.length+1-(RowKit.intOf v).toNat,
  ⟨[],0,0,⟨none,0⟩,by rw[C.endsA_nil];rfl,rfl,rfl,C.cutting_0 k l,fun _=>rfl,by rw[C.endsA_nil];exact Nat.le_refl _,by rw[C.endsA_nil];exact hS.nil cd_int.e cd_int.size⟩,?_⟩
 clear hS
 rintro _ _ _ _ w ⟨A,b,i,so,rfl,rfl,rfl,hc0,hil,hAl,hS⟩
 have hc1:=hc0.bi
 have hc2:=hc0.il
 by_cases hlt:i<l.length
 ·obtain⟨hyes,hno⟩:=hcn hc0 hlt
  have hql:((l.drop b).take (i+1-b)).length=i+1-b:=by rw[List.length_take,List.length_drop];omega
  have hsn:=C.endsA_snoc A ((l.drop b).take (i+1-b))
  have hsl:=C.endsA_len A
  rw[hc0.fl,hql,show b+(i+1-b)=i+1 by omega] at hsn
  repeat' (first|(refine pN_leq_s ?_ ?_<;>intro hc<;>try (exfalso;omega))|refine pIf_t ?_|refine pN_v (hk:=?_)|fail)
  refine⟨fun v f w=>∃(A':List (List UInt8)) (b':Nat) (so:Sl),v= .slice so.a (C.endsA A').length so.c∧f= .int .i64 b'∧C.Cutting k l A' b' (i+1)∧(i+1=l.length→b'=i+1)∧(C.endsA A').length≤i+1∧Sat E w (rows cd_int so (C.endsA A')::cel kb ⟨27,[.int .i64 k.least,.int .i64 k.most,.int .i64 k.bits]⟩::M),?_,?_⟩
  ·repeat' (first|refine pA_sl2w (C:=cd_uint8) (s:=s) (l:=l) hS b (i+1) rfl rfl rfl (by omega) (by omega) ?_;intro hp|refine pL_la hS (by rfl) ?_|(refine pDr_go hS ?_;clear hS;intro w hS)|fail)
   haveI:=hp
   rw[←hql]
   refine pcq (f:=197) (rends_ok (s:=s.sub b cd_uint8.size) (p:=(l.drop b).take (i+1-b)) hk hS (by rw[hql];omega) ?_)
   clear hS
   intro w hS
   clear hp this
   cases he:C.endsR k ((l.drop b).take (i+1-b)) with
   |true=>
    have hy:=hyes (.inl he)
    generalize A++[(l.drop b).take (i+1-b)]=A' at*
    generalize C.endsA A=T at*
    repeat' (first|refine pIf_t ?_|refine gA_no (by rfl) ?_|refine⟨trivial,?_⟩|(refine pN_b1 hS (by rfl) (by decide) ?_;clear hS;intro s w hS)|(refine pN_app hS (by first|rfl|omega|simpa only[go_sem] using True.intro|(simp only[go_sem];omega)) (by first|rfl|omega|simpa only[go_sem] using True.intro|(simp only[go_sem];omega)) (by first|omega|(simp only[go_sem];omega)) ?_;clear hS;intro s w hS)|refine pA_v (hk:=?_)|fail)
    rw[←hsn] at hS ⊢
    exact⟨A',i+1,s,rfl,rfl,hy,fun _=>rfl,by rw[hsn,List.length_append,List.length_singleton];omega,hS.to⟩
   |false=>
    by_cases hi1:i+1=l.length
    ·have hy:=hyes (.inr hi1)
     generalize A++[(l.drop b).take (i+1-b)]=A' at*
     generalize C.endsA A=T at*
     repeat' (first|(refine pA_eql_s ?_ ?_<;>intro hc<;>try (exfalso;first|omega|exact gone hc|exact gon2 hc))|refine pIf_t ?_|refine gA_go (by rfl) ?_|refine⟨trivial,?_⟩|(refine pN_b1 hS (by rfl) (by decide) ?_;clear hS;intro s w hS)|(refine pN_app hS (by first|rfl|omega|simpa only[go_sem] using True.intro|(simp only[go_sem];omega)) (by first|rfl|omega|simpa only[go_sem] using True.intro|(simp only[go_sem];omega)) (by first|omega|(simp only[go_sem];omega)) ?_;clear hS;intro s w hS)|refine pA_v (hk:=?_)|fail)
     rw[←hsn] at hS ⊢
     exact⟨A',i+1,s,rfl,rfl,hy,fun _=>rfl,by rw[hsn,List.length_append,List.length_singleton];omega,hS.to⟩
    ·have hn:=hno he hi1
     repeat' (first|(refine pA_eql_s ?_ ?_<;>intro hc<;>try (exfalso;first|omega|exact gone hc|exact gon2 hc))|refine pIf_f ?_|refine gA_go (by rfl) ?_|refine⟨trivial,?_⟩|refine pA_v (hk:=?_)|fail)
     exact⟨A,b,so,rfl,rfl,hn,fun h=>absurd h hi1,by omega,hS⟩
  ·clear hS
   rintro _ _ _ w ⟨A',b',so,rfl,rfl,hc',hi',hA',hS⟩
   repeat' (first|refine pN_v (hk:=?_)|fail)
   exact⟨⟨A',b',i+1,so,rfl,rfl,rfl,hc',hi',hA',hS⟩,by simp[RowKit.intOf]<;>omega⟩
 ·obtain rfl:i=l.length:=by omega
  have hb:=hil rfl
  have hA:=hcp hc0 hb
  rw[hA] at hQ
  rw[←C.endsA_len] at hQ
  repeat' (first|(refine pN_leq_s ?_ ?_<;>intro hc<;>try (exfalso;omega))|refine pIf_f ?_|refine pN_v (hk:=?_)|fail)
  exact hQ _ _ hS.to
end
end
end
end Go.Proofs.YtikmogfhhggafaaGreatDoor
