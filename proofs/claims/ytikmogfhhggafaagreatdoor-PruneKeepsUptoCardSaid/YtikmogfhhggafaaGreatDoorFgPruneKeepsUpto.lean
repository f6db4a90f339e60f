/-
 The statement PruneKeepsUpto,proved:for every input that the row speaks of the call returns true,and what was there stays. The row's frame is after the kit's own shell for a law;the walk stands in YtikmogfhhggafaaGreatDoorPruneKeeps.
-/
import Derived.JoinedCond
import Derived.Test.YtikmogfhhggafaaGreatDoorTie
import Derived.Test.YtikmogfhhggafaaGreatDoorCards
import Derived.LaidMore
import Derived.Lay
import Derived.SevenTiedAt
import Derived.Stop.Joined
import Derived.Deep.DeepHandedRow
import Derived.Test.YtikmogfhhggafaaGreatDoorMg10
set_option linter.all false
namespace Go.Proofs.YtikmogfhhggafaaGreatDoor.pruneKeepsUpto
open Go.ChangeShapes Go.WideShapes Go.ChangeAt Go.RowKit
open Go.ChangeMaps (open_string shut_string)

theorem own:ownKnob Tryz.prog.godebug=none:=by kernel_rfl
theorem laidOut:laidOutB Tryz.prog=true:=by kernel_rfl

set_option maxRecDepth 100000 in
theorem lifted (os:Os) (started:os.Started) (H:Type) (enc:TypeId×Value→H) (F:Stop.Interp):
  ReturnsInHanded {} Tryz.checked os 6 .any ((Rows.OpenSpec.upto Rows.pruneKeepsSpec).preRow enc Tryz.prog Tryz.f6 Rows.pruneKeepsUptoRow.domain false Rows.pruneKeepsUptoRow.laid) (((Rows.OpenSpec.upto Rows.pruneKeepsSpec).at F).post enc Tryz.prog Tryz.f6 false true false false):=by
 have hx:DataW.whole enc Tryz.prog ((World.laidAll Tryz.prog os Rows.pruneKeepsUptoRow.laid).forCall (fun _ _=>0) ⟨#[],#[(.slice none 0 0),(.slice none 0 0),(.int .i64 0)],[]⟩).memory Tryz.f6.params.toList Rows.pruneKeepsSpec.vars false #[(.slice none 0 0),(.slice none 0 0),(.int .i64 0)].toList 8=some ([.nil,.nil,.lit (.int .i64 0)],[],[]):=by kernel_rfl
 refine returnsInHanded_of_row (C:=Tryz.checked) (s:=Rows.OpenSpec.upto Rows.pruneKeepsSpec) own started (by kernel_rfl) Tryz.func6
  (witness_row_at (enc:=enc) (C:=Tryz.checked) false (World.laidAll Tryz.prog os Rows.pruneKeepsUptoRow.laid) #[(.slice none 0 0),(.slice none 0 0),(.int .i64 0)] (World.laidAll_os _ _ _) (by kernel_rfl) (by kernel_rfl) (by kernel_rfl)
   (OpenSpec.preRow_of_cond 8 hx (by kernel_rfl) (fun k hk=>by cases hk;kernel_rfl) (by kernel_rfl) (by rw[MakeChecks.laidMetH_plain _ _ _ (by kernel_rfl)];exact laidMet_laidAll _ (by kernel_rfl) (by kernel_rfl)))) ?_
 intro W base args ds gs before hval0 hW hcnd hcond hsz0 hLaid _ _
 have hk:=hcond _ rfl
 have hval:∀(j:Nat) t v,Tryz.f6.params[j]? =some t→args[j]? =some v→Value.okWide Tryz.prog W .any base t v:=hval0
 have hW':=hW
 obtain⟨p,q,hA0,hV,rfl,hfz,hnd⟩:=hW
 have hA:DataW.TrodAll enc Tryz.prog W 0 (fun _=>true) true Tryz.f6.params.toList args.toList ds p:=hA0
 rw[Tryz.params6] at hA hval
 obtain⟨v0,vs0,d0,ds0,p0,pq0,hargs,rfl,rfl,h0,r0⟩:=trodAll_cons hA
 obtain⟨v1,vs1,d1,ds1,p1,pq1,rfl,rfl,rfl,h1,r1⟩:=trodAll_cons r0
 obtain⟨v2,vs2,d2,ds2,p2,pq2,rfl,rfl,rfl,h2,r2⟩:=trodAll_cons r1
 obtain⟨rfl,rfl,rfl⟩:=trodAll_nil r2
 obtain rfl:args=#[v0,v1,v2]:=by cases args;simp_all
 obtain⟨rfl,rfl⟩:=trodVars_none hV
 have hsz:=List.all_eq_true.1 hsz0
 have y0:=h0
 have lt0:∀x∈p0,x.block<W.heap.size:=by obtain⟨i,hi⟩:=y0;exact DataW.trod_lt i _ _ _ hi
 obtain⟨x0,e0,o0⟩:=opn_arg (opn_sliceS (C:=cd_pithlaw37_Snap) Tryz.underlying82 cells_144 bytes_144 (opnS_pithlaw37_Snap W)) h0 fun i hi=>of_decide_eq_true (hsz i (DataW.weights_mem_each (j:=0) (t:=82) rfl rfl i hi))
 have one0:v0.oneCell'=true:=by obtain⟨_,_,_,rfl⟩:=okWide_slice Tryz.underlying82 (hval 0 82 v0 rfl rfl);rfl
 obtain rfl:v0= .slice x0.1.a x0.2.length x0.1.c:=cells_one e0 one0
 have y1:=h1
 have lt1:∀x∈p1,x.block<W.heap.size:=by obtain⟨i,hi⟩:=y1;exact DataW.trod_lt i _ _ _ hi
 obtain⟨x1,e1,o1⟩:=opn_arg (opn_sliceS (C:=cd_sl_uint8) Tryz.underlying71 cells_47 bytes_47 (opn_slice (C:=cd_uint8) Tryz.underlying47 cells_5 bytes_5 (opn_u8 Tryz.underlying5))) h1 fun i hi=>of_decide_eq_true (hsz i (DataW.weights_mem_each (j:=1) (t:=71) rfl rfl i hi))
 have one1:v1.oneCell'=true:=by obtain⟨_,_,_,rfl⟩:=okWide_slice Tryz.underlying71 (hval 1 71 v1 rfl rfl);rfl
 obtain rfl:v1= .slice x1.1.a x1.2.length x1.1.c:=cells_one e1 one1
 have y2:=h2
 have lt2:∀x∈p2,x.block<W.heap.size:=by obtain⟨i,hi⟩:=y2;exact DataW.trod_lt i _ _ _ hi
 obtain⟨x2,e2,o2⟩:=opn_arg (opn_i64 Tryz.underlying3) h2 fun i hi=>of_decide_eq_true (hsz i (DataW.weights_mem_each (j:=2) (t:=3) rfl rfl i hi))
 have one2:v2.oneCell'=true:=by obtain⟨_,rfl⟩:=okWide_int Tryz.underlying3 (hval 2 3 v2 rfl rfl);rfl
 obtain rfl:v2= .int .i64 x2:=cells_one e2 one2
 clear hA0 hval0
 refine(walk_PruneKeeps W (glo_of_laid hLaid (by kernel_rfl) (by first|exact List.Mem.head _|exact List.Mem.tail _ (List.Mem.head _)|exact List.Mem.tail _ (List.Mem.tail _ (List.Mem.head _))|exact List.Mem.tail _ (List.Mem.tail _ (List.Mem.tail _ (List.Mem.head _)))|exact List.Mem.tail _ (List.Mem.tail _ (List.Mem.tail _ (List.Mem.tail _ (List.Mem.head _))))|exact List.Mem.tail _ (List.Mem.tail _ (List.Mem.tail _ (List.Mem.tail _ (List.Mem.tail _ (List.Mem.head _)))))|exact List.Mem.tail _ (List.Mem.tail _ (List.Mem.tail _ (List.Mem.tail _ (List.Mem.tail _ (List.Mem.tail _ (List.Mem.head _))))))|exact List.Mem.tail _ (List.Mem.tail _ (List.Mem.tail _ (List.Mem.tail _ (List.Mem.tail _ (List.Mem.tail _ (List.Mem.tail _ (List.Mem.head _)))))))|exact List.Mem.tail _ (List.Mem.tail _ (List.Mem.tail _ (List.Mem.tail _ (List.Mem.tail _ (List.Mem.tail _ (List.Mem.tail _ (List.Mem.tail _ (List.Mem.head _))))))))|exact List.Mem.tail _ (List.Mem.tail _ (List.Mem.tail _ (List.Mem.tail _ (List.Mem.tail _ (List.Mem.tail _ (List.Mem.tail _ (List.Mem.tail _ (List.Mem.tail _ (List.Mem.head _)))))))))|exact List.Mem.tail _ (List.Mem.tail _ (List.Mem.tail _ (List.Mem.tail _ (List.Mem.tail _ (List.Mem.tail _ (List.Mem.tail _ (List.Mem.tail _ (List.Mem.tail _ (List.Mem.tail _ (List.Mem.head _))))))))))|exact List.Mem.tail _ (List.Mem.tail _ (List.Mem.tail _ (List.Mem.tail _ (List.Mem.tail _ (List.Mem.tail _ (List.Mem.tail _ (List.Mem.tail _ (List.Mem.tail _ (List.Mem.tail _ (List.Mem.tail _ (List.Mem.head _)))))))))))) (by first|exact List.Mem.head _|exact List.Mem.tail _ (List.Mem.head _)|exact List.Mem.tail _ (List.Mem.tail _ (List.Mem.head _))|exact List.Mem.tail _ (List.Mem.tail _ (List.Mem.tail _ (List.Mem.head _)))|exact List.Mem.tail _ (List.Mem.tail _ (List.Mem.tail _ (List.Mem.tail _ (List.Mem.head _))))|exact List.Mem.tail _ (List.Mem.tail _ (List.Mem.tail _ (List.Mem.tail _ (List.Mem.tail _ (List.Mem.head _)))))|exact List.Mem.tail _ (List.Mem.tail _ (List.Mem.tail _ (List.Mem.tail _ (List.Mem.tail _ (List.Mem.tail _ (List.Mem.head _))))))|exact List.Mem.tail _ (List.Mem.tail _ (List.Mem.tail _ (List.Mem.tail _ (List.Mem.tail _ (List.Mem.tail _ (List.Mem.tail _ (List.Mem.head _)))))))|exact List.Mem.tail _ (List.Mem.tail _ (List.Mem.tail _ (List.Mem.tail _ (List.Mem.tail _ (List.Mem.tail _ (List.Mem.tail _ (List.Mem.tail _ (List.Mem.head _))))))))|exact List.Mem.tail _ (List.Mem.tail _ (List.Mem.tail _ (List.Mem.tail _ (List.Mem.tail _ (List.Mem.tail _ (List.Mem.tail _ (List.Mem.tail _ (List.Mem.tail _ (List.Mem.head _)))))))))|exact List.Mem.tail _ (List.Mem.tail _ (List.Mem.tail _ (List.Mem.tail _ (List.Mem.tail _ (List.Mem.tail _ (List.Mem.tail _ (List.Mem.tail _ (List.Mem.tail _ (List.Mem.tail _ (List.Mem.head _))))))))))|exact List.Mem.tail _ (List.Mem.tail _ (List.Mem.tail _ (List.Mem.tail _ (List.Mem.tail _ (List.Mem.tail _ (List.Mem.tail _ (List.Mem.tail _ (List.Mem.tail _ (List.Mem.tail _ (List.Mem.tail _ (List.Mem.head _)))))))))))) (by first|exact List.Mem.head _|exact List.Mem.tail _ (List.Mem.head _)|exact List.Mem.tail _ (List.Mem.tail _ (List.Mem.head _))|exact List.Mem.tail _ (List.Mem.tail _ (List.Mem.tail _ (List.Mem.head _)))|exact List.Mem.tail _ (List.Mem.tail _ (List.Mem.tail _ (List.Mem.tail _ (List.Mem.head _))))|exact List.Mem.tail _ (List.Mem.tail _ (List.Mem.tail _ (List.Mem.tail _ (List.Mem.tail _ (List.Mem.head _)))))|exact List.Mem.tail _ (List.Mem.tail _ (List.Mem.tail _ (List.Mem.tail _ (List.Mem.tail _ (List.Mem.tail _ (List.Mem.head _))))))|exact List.Mem.tail _ (List.Mem.tail _ (List.Mem.tail _ (List.Mem.tail _ (List.Mem.tail _ (List.Mem.tail _ (List.Mem.tail _ (List.Mem.head _)))))))|exact List.Mem.tail _ (List.Mem.tail _ (List.Mem.tail _ (List.Mem.tail _ (List.Mem.tail _ (List.Mem.tail _ (List.Mem.tail _ (List.Mem.tail _ (List.Mem.head _))))))))|exact List.Mem.tail _ (List.Mem.tail _ (List.Mem.tail _ (List.Mem.tail _ (List.Mem.tail _ (List.Mem.tail _ (List.Mem.tail _ (List.Mem.tail _ (List.Mem.tail _ (List.Mem.head _)))))))))|exact List.Mem.tail _ (List.Mem.tail _ (List.Mem.tail _ (List.Mem.tail _ (List.Mem.tail _ (List.Mem.tail _ (List.Mem.tail _ (List.Mem.tail _ (List.Mem.tail _ (List.Mem.tail _ (List.Mem.head _))))))))))|exact List.Mem.tail _ (List.Mem.tail _ (List.Mem.tail _ (List.Mem.tail _ (List.Mem.tail _ (List.Mem.tail _ (List.Mem.tail _ (List.Mem.tail _ (List.Mem.tail _ (List.Mem.tail _ (List.Mem.tail _ (List.Mem.head _))))))))))))) x0 x1 x2 (Rows.uptoBulk d0) (Rows.uptoBulk d1) (Rows.uptoBulk d2) o0 o1 o2 (bulk_small hk d0 (by simp)) (bulk_small hk d1 (by simp)) (bulk_small hk d2 (by simp))).mono fun e W' he=>?_
 match e,he with
 | .returned _,⟨rfl,bel⟩=>exact⟨_,rfl,_,_,_,[],_,[],hW',trodAll_mk1 (shut_bool Tryz.underlying4 _),(trodAll_cons_mk (Below.trod laidOut (by kernel_rfl) (of_decide_eq_true (by kernel_rfl)) y0 bel lt0) (trodAll_cons_mk (Below.trod laidOut (by kernel_rfl) (of_decide_eq_true (by kernel_rfl)) y1 bel lt1) (trodAll_cons_mk (Below.trod laidOut (by kernel_rfl) (of_decide_eq_true (by kernel_rfl)) y2 bel lt2) trodAll_mk0))),rfl,bel.frame _,fun h=>by cases h⟩

theorem over:Rows.PruneKeepsUptoSaid:=
 OpenClaim.holds_of_cond 6 Tryz.f6 rfl rfl rfl rfl rfl rfl rfl ⟨rfl,rfl,rfl,rfl,rfl⟩ rfl rfl rfl rfl rfl (by kernel_rfl) Tryz.func6 (by kernel_rfl)
  (of_decide_eq_true (by kernel_rfl)) (by unfold Func.isWrapper;first|(rw[if_pos (by decide+kernel)];kernel_rfl)|(rw[if_neg (by decide+kernel)];exact⟨rfl,rfl⟩))
  (fun os started H enc _ F=>by rw[OpenClaim.pre_eq_preRow];exact lifted os started H enc F)

theorem proved:Rows.PruneKeepsUptoCardSaid:=
 Claim7.holds_tied_plain_at .later [] [.data,.data,.data] true (true,"495ec6f9c69481de9eead86e398dd7264d368a76a1c11ac9f2604c34a632099a") true over (fun _ h=>by cases h) (by kernel_rfl) (fun _ h=>by cases h) pruneKeepsUpto_row_tie rfl ⟨rfl,rfl⟩ (by kernel_rfl) rfl
  (fun f fn hf hfn=>by
   obtain rfl:f=6:=Option.some.inj ((show Tryz.prog.funcNamed "pith/pithlaw37.PruneKeeps"=some 6 by kernel_rfl).symm.trans hf) |>.symm
   obtain rfl:fn=Tryz.f6:=(Option.some.inj (Tryz.func6.symm.trans hfn)).symm
   exact⟨by kernel_rfl,fun j t ht=>by
    rw[Tryz.params6] at ht
    have hm:t∈[82,71,3]:=by simpa using Array.mem_of_getElem? ht
    have hall:([82,71,3].all fun u=> !Tryz.prog.wantsStandIn u)=true:=by kernel_rfl
    exact(show Tryz.prog.wantsStandIn t=false by simpa using List.all_eq_true.1 hall t hm)⟩)
  (by kernel_rfl)
#print axioms proved
end Go.Proofs.YtikmogfhhggafaaGreatDoor.pruneKeepsUpto
