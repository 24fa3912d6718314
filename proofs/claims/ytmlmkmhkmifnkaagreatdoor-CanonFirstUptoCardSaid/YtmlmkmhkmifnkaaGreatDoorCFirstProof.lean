/- CanonFirst holds, on the terms of its row: what a table has a value for is called so, whatever tables stand behind it. Condition: that of the statement of the second form (the arguments are not larger than it says). -/
import Derived.Test.YtmlmkmhkmifnkaaGreatDoorM35
import Derived.Test.YtmlmkmhkmifnkaaGreatDoorCards
import Derived.Test.YtmlmkmhkmifnkaaGreatDoorTie
import Derived.ShutString
import Derived.ChangeOld
import Derived.SevenTiedAt
set_option maxHeartbeats 16000000
set_option maxRecDepth 1000000
namespace Go.Proofs.YtmlmkmhkmifnkaaGreatDoor.canonFirstUpto
open Go.ChangeShapes Go.WideShapes Go.ChangeAt Go.RowKit Go.Proofs.YtmlmkmhkmifnkaaGreatDoor.Ci
open Go.ChangeMaps (open_string shut_string)
set_option linter.unusedVariables false
theorem laidOut:laidOutB Tryz.prog=true:=by kernel_rfl
theorem reads(os:Os){H:Type}(enc:TypeId×Value→H):∃places,DataW.whole enc Tryz.prog ((laidWorld os).forCall (fun _ _=>0) ⟨#[],#[.string ⟨#[]⟩,.string ⟨#[]⟩,.agg #[.bool false,.string ⟨#[]⟩,.string ⟨#[]⟩,.bool false]],[]⟩).memory Tryz.f6.params.toList Rows.canonFirstSpec.vars false #[.string ⟨#[]⟩,.string ⟨#[]⟩,.agg #[.bool false,.string ⟨#[]⟩,.string ⟨#[]⟩,.bool false]].toList 8=some ([.lit (.string []),.lit (.string []),.agg [.lit (.bool false),.lit (.string []),.lit (.string []),.lit (.bool false)]],[],places):=
 ⟨[],by kernel_rfl⟩
theorem lifted(os:Os)(started:os.Started)(H:Type)(enc:TypeId×Value→H)(F:Stop.Interp):
 ReturnsInHanded {} Tryz.checked os 6 .any ((Rows.OpenSpec.upto Rows.canonFirstSpec).preRow enc Tryz.prog Tryz.f6 Rows.canonFirstUptoRow.domain false Rows.canonFirstUptoRow.laid) (((Rows.OpenSpec.upto Rows.canonFirstSpec).at F).post enc Tryz.prog Tryz.f6 false true false false):=by
 obtain⟨places,hx⟩:=reads os enc
 refine returnsInHanded_of_row (C:=Tryz.checked) (s:=Rows.OpenSpec.upto Rows.canonFirstSpec) own started (by kernel_rfl) Tryz.func6
  (witness_row_atRef (enc:=enc) (C:=Tryz.checked) false (laidWorld os) #[.string ⟨#[]⟩,.string ⟨#[]⟩,.agg #[.bool false,.string ⟨#[]⟩,.string ⟨#[]⟩,.bool false]] rfl (by kernel_rfl) (by kernel_rfl) (by kernel_rfl)
    (OpenSpec.preRow_of_cond 8 hx (by kernel_rfl) (fun k hk=>by cases hk;kernel_rfl) (by kernel_rfl) (laid_met os _))) ?_
 intro W base args ds gs before hval0 hW _ hcond hz hL hS _
 have HL:=Tb.lat_of (W:=W) hL hS
 have hval:∀(j:Nat) t v,Tryz.f6.params[j]?=some t→args[j]?=some v→Value.okWide Tryz.prog W .any base t v:=hval0
 have hW':=hW
 obtain⟨p,q,hA0,hV,rfl,hfz,hnd⟩:=hW
 have hA:DataW.TrodAll enc Tryz.prog W 0 (fun _=>true) true Tryz.f6.params.toList args.toList ds p:=hA0
 rw[Tryz.params6]at hA hval
 obtain⟨v0,vs0,d0,ds0,p0,q0,hargs,rfl,rfl,h0,r0⟩:=trodAll_cons hA
 obtain⟨v1,vs1,d1,ds1,p1,q1,rfl,rfl,rfl,h1,r1⟩:=trodAll_cons r0
 obtain⟨v2,vs2,d2,ds2,p2,q2,rfl,rfl,rfl,h2,r2⟩:=trodAll_cons r1
 obtain⟨rfl,rfl,rfl⟩:=trodAll_nil r2
 obtain rfl:args=#[v0,v1,v2]:=by cases args;simp_all
 obtain⟨rfl,rfl⟩:=trodVars_none hV
 have k0:=h0
 have lt0:∀x∈p0,x.block<W.heap.size:=by obtain⟨m,hm⟩:=k0;exact DataW.trod_lt m _ _ _ hm
 have k1:=h1
 have lt1:∀x∈p1,x.block<W.heap.size:=by obtain⟨m,hm⟩:=k1;exact DataW.trod_lt m _ _ _ hm
 have k2:=h2
 have lt2:∀x∈p2,x.block<W.heap.size:=by obtain⟨m,hm⟩:=k2;exact DataW.trod_lt m _ _ _ hm
 obtain⟨s,rfl,rfl,rfl,ws0⟩:=open_string Tryz.underlying9 (hval 0 9 v0 rfl rfl) h0
 obtain⟨t,rfl,rfl,rfl,ws1⟩:=open_string Tryz.underlying9 (hval 1 9 v1 rfl rfl) h1
 obtain⟨pa,rfl,hp1,hp2⟩:=Tb.pt_of (hval 2 26 v2 rfl rfl) h2
 have hbk:=of_decide_eq_true (hcond _ rfl)
 simp only[List.cons_append,List.nil_append,Rows.uptoBulkAll]at hbk
 clear hA0 hval0
 refine(Tb.first_law s t pa W HL ⟨by omega,by omega⟩).mono fun e W' ⟨he,bel⟩=> ?_
 subst he
 exact⟨_,rfl,_,_,_,[],_,[],hW',trodAll_mk1 (shut_bool Tryz.underlying4 _),(trodAll_cons_mk (Below.trod laidOut (by kernel_rfl) (of_decide_eq_true (by kernel_rfl)) k0 bel lt0) (trodAll_cons_mk (Below.trod laidOut (by kernel_rfl) (of_decide_eq_true (by kernel_rfl)) k1 bel lt1) (trodAll_cons_mk (Below.trod laidOut (by kernel_rfl) (of_decide_eq_true (by kernel_rfl)) k2 bel lt2) trodAll_mk0))),rfl,bel.frame _,fun h=>by cases h⟩
theorem facts:joinedFacts Tryz.pinned.checked.prog 6 Tryz.f6 (Rows.OpenSpec.upto Rows.canonFirstSpec).bare Rows.canonFirstUptoRow=true:=by kernel_rfl
theorem named:Tryz.pinned.checked.prog.funcNamed Rows.canonFirstUptoRow.func=some 6:=by kernel_rfl
theorem inst:Tryz.f6.isInstance Tryz.pinned.checked.prog Rows.canonFirstUptoRow.origin Rows.canonFirstUptoRow.targs:=of_decide_eq_true (by kernel_rfl)
theorem wrapper:Tryz.f6.isWrapper Tryz.pinned.checked.prog Rows.canonFirstUptoRow.wrapper Rows.canonFirstUptoRow.mainSum:=by unfold Func.isWrapper;first|(rw[if_pos (by decide+kernel)];kernel_rfl)|(rw[if_neg (by decide+kernel)];exact⟨rfl,rfl⟩)
theorem lift2:∀os:Os,os.Started→∀(H:Type) (enc:TypeId×Value→H),(∀a b,enc a=enc b→a=b)→∀F:Stop.Interp,
 ReturnsInHanded Rows.canonFirstUptoRow.assume Tryz.pinned.checked os 6 .any (Rows.canonFirstUptoRow.pre enc Tryz.pinned.checked.prog Tryz.f6 (Rows.OpenSpec.upto Rows.canonFirstSpec)) (((Rows.OpenSpec.upto Rows.canonFirstSpec).at F).post enc Tryz.pinned.checked.prog Tryz.f6 Rows.canonFirstUptoRow.apart Rows.canonFirstUptoRow.fresh Rows.canonFirstUptoRow.handsOn Rows.canonFirstUptoRow.again):=
 fun os started H enc _ F=>by rw[OpenClaim.pre_eq_preRow];exact lifted os started H enc F
theorem said:Rows.CanonFirstUptoSaid:=
 OpenClaim.holds_of_cond 6 Tryz.f6 rfl rfl rfl rfl rfl rfl rfl ⟨rfl,rfl,rfl,rfl,rfl⟩ rfl rfl rfl rfl rfl named Tryz.func6 facts inst wrapper lift2
theorem plain(f:FuncId)(fn:Func)(hf:Tryz.pinned.checked.prog.funcNamed "waybill/waybilllaw15.CanonFirst"=some f)(hfn:Tryz.pinned.checked.prog.funcs[f]?=some fn):
 true=Tryz.pinned.checked.prog.looks []∧∀(j:Nat) t,fn.params[j]?=some t→Tryz.pinned.checked.prog.wantsStandIn t=false:=by
 obtain rfl:f=6:=Option.some.inj ((show Tryz.prog.funcNamed "waybill/waybilllaw15.CanonFirst"=some 6 by kernel_rfl).symm.trans hf)|>.symm
 obtain rfl:fn=Tryz.f6:=(Option.some.inj (Tryz.func6.symm.trans hfn)).symm
 refine⟨by kernel_rfl,fun j t ht=> ?_⟩
 rw[Tryz.params6]at ht
 have hm:=Array.mem_of_getElem? ht
 have:t=9∨t=9∨t=26:=by simpa using hm
 rcases this with rfl|rfl|rfl
 ·exact(show Tryz.prog.wantsStandIn 9=false by kernel_rfl)
 ·exact(show Tryz.prog.wantsStandIn 9=false by kernel_rfl)
 ·exact(show Tryz.prog.wantsStandIn 26=false by kernel_rfl)
theorem proved:Rows.CanonFirstUptoCardSaid:=
 Claim7.holds_tied_plain_at .later [] _ _ _ _ said (fun _ h=>by cases h) (by kernel_rfl) (fun _ h=>by cases h) canonFirstUpto_row_tie rfl ⟨rfl,rfl⟩ (by kernel_rfl) rfl plain (by kernel_rfl)
end Go.Proofs.YtmlmkmhkmifnkaaGreatDoor.canonFirstUpto