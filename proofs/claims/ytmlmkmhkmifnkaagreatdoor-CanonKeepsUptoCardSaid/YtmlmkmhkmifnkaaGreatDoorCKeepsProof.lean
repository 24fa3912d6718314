/- CanonKeeps holds, on the terms of its row: of a content that is called anew the fields' names, number and order are the same, each field without addresses and the body are the same byte for byte; and a content stays one. Condition: that of the statement of the second form (the arguments are not larger than it says). -/
import Derived.Test.YtmlmkmhkmifnkaaGreatDoorK31
import Derived.Test.YtmlmkmhkmifnkaaGreatDoorCards
import Derived.Test.YtmlmkmhkmifnkaaGreatDoorTie
import Derived.ShutString
import Derived.ChangeOld
import Derived.SevenTiedAt
set_option maxHeartbeats 16000000
set_option maxRecDepth 1000000
namespace Go.Proofs.YtmlmkmhkmifnkaaGreatDoor.canonKeepsUpto
open Go.ChangeShapes Go.WideShapes Go.ChangeAt Go.RowKit Go.Proofs.YtmlmkmhkmifnkaaGreatDoor.Ci
open Go.ChangeMaps (open_string shut_string)
set_option linter.unusedVariables false
theorem laidOut:laidOutB Tryz.prog=true:=by kernel_rfl
theorem reads(os:Os){H:Type}(enc:TypeId×Value→H):∃places,DataW.whole enc Tryz.prog ((laidWorld os).forCall (fun _ _=>0) ⟨#[],#[.agg #[.string ⟨#[]⟩,.slice none 0 0],.slice none 0 0],[]⟩).memory Tryz.f9.params.toList Rows.canonKeepsSpec.vars false #[.agg #[.string ⟨#[]⟩,.slice none 0 0],.slice none 0 0].toList 8=some ([.agg [.lit (.string []),.nil],.nil],[],places):=
 ⟨[],by kernel_rfl⟩
theorem lifted(os:Os)(started:os.Started)(H:Type)(enc:TypeId×Value→H)(F:Stop.Interp):
 ReturnsInHanded {} Tryz.checked os 9 .any ((Rows.OpenSpec.upto Rows.canonKeepsSpec).preRow enc Tryz.prog Tryz.f9 Rows.canonKeepsUptoRow.domain false Rows.canonKeepsUptoRow.laid) (((Rows.OpenSpec.upto Rows.canonKeepsSpec).at F).post enc Tryz.prog Tryz.f9 false true false false):=by
 obtain⟨places,hx⟩:=reads os enc
 refine returnsInHanded_of_row (C:=Tryz.checked) (s:=Rows.OpenSpec.upto Rows.canonKeepsSpec) own started (by kernel_rfl) Tryz.func9
  (witness_row_atRef (enc:=enc) (C:=Tryz.checked) false (laidWorld os) #[.agg #[.string ⟨#[]⟩,.slice none 0 0],.slice none 0 0] rfl (by kernel_rfl) (by kernel_rfl) (by kernel_rfl)
    (OpenSpec.preRow_of_cond 8 hx (by kernel_rfl) (fun k hk=>by cases hk;kernel_rfl) (by kernel_rfl) (laid_met os _))) ?_
 intro W base args ds gs before hval0 hW _ hcond hz hL hS _
 have HL:=Tb.lat_of (W:=W) hL hS
 have hval:∀(j:Nat) t v,Tryz.f9.params[j]?=some t→args[j]?=some v→Value.okWide Tryz.prog W .any base t v:=hval0
 have hW':=hW
 obtain⟨p,q,hA0,hV,rfl,hfz,hnd⟩:=hW
 have hA:DataW.TrodAll enc Tryz.prog W 0 (fun _=>true) true Tryz.f9.params.toList args.toList ds p:=hA0
 rw[Tryz.params9]at hA hval
 obtain⟨v0,vs0,d0,ds0,p0,q0,hargs,rfl,rfl,h0,r0⟩:=trodAll_cons hA
 obtain⟨v1,vs1,d1,ds1,p1,q1,rfl,rfl,rfl,h1,r1⟩:=trodAll_cons r0
 obtain⟨rfl,rfl,rfl⟩:=trodAll_nil r1
 obtain rfl:args=#[v0,v1]:=by cases args;simp_all
 obtain⟨rfl,rfl⟩:=trodVars_none hV
 have k0:=h0
 have lt0:∀x∈p0,x.block<W.heap.size:=by obtain⟨m,hm⟩:=k0;exact DataW.trod_lt m _ _ _ hm
 have k1:=h1
 have lt1:∀x∈p1,x.block<W.heap.size:=by obtain⟨m,hm⟩:=k1;exact DataW.trod_lt m _ _ _ hm
 obtain⟨hs,x,bs,cap,rfl,hH,hS9⟩:=Tb.asked_of (hval 0 24 v0 rfl rfl) h0
 obtain⟨dp,dl,dc,rfl⟩:=okWide_slice Tryz.underlying48 (hval 1 48 v1 rfl rfl)
 obtain⟨dd,rfl,hBr,hBl⟩:=Hs.byts_of h1
 have hbk:=of_decide_eq_true (hcond _ rfl)
 simp only[List.cons_append,List.nil_append,Rows.uptoBulkAll]at hbk
 clear hA0 hval0
 refine(Hs.keeps_law hs x bs cap dp dd dc W HL (by omega) hS9 hBr (by omega)).mono fun e W' ⟨he,bel⟩=> ?_
 subst he
 exact⟨_,rfl,_,_,_,[],_,[],hW',trodAll_mk1 (shut_bool Tryz.underlying4 _),(trodAll_cons_mk (Below.trod laidOut (by kernel_rfl) (of_decide_eq_true (by kernel_rfl)) k0 bel lt0) (trodAll_cons_mk (Below.trod laidOut (by kernel_rfl) (of_decide_eq_true (by kernel_rfl)) k1 bel lt1) trodAll_mk0)),rfl,bel.frame _,fun h=>by cases h⟩
theorem facts:joinedFacts Tryz.pinned.checked.prog 9 Tryz.f9 (Rows.OpenSpec.upto Rows.canonKeepsSpec).bare Rows.canonKeepsUptoRow=true:=by kernel_rfl
theorem named:Tryz.pinned.checked.prog.funcNamed Rows.canonKeepsUptoRow.func=some 9:=by kernel_rfl
theorem inst:Tryz.f9.isInstance Tryz.pinned.checked.prog Rows.canonKeepsUptoRow.origin Rows.canonKeepsUptoRow.targs:=of_decide_eq_true (by kernel_rfl)
theorem wrapper:Tryz.f9.isWrapper Tryz.pinned.checked.prog Rows.canonKeepsUptoRow.wrapper Rows.canonKeepsUptoRow.mainSum:=by unfold Func.isWrapper;first|(rw[if_pos (by decide+kernel)];kernel_rfl)|(rw[if_neg (by decide+kernel)];exact⟨rfl,rfl⟩)
theorem lift2:∀os:Os,os.Started→∀(H:Type) (enc:TypeId×Value→H),(∀a b,enc a=enc b→a=b)→∀F:Stop.Interp,
 ReturnsInHanded Rows.canonKeepsUptoRow.assume Tryz.pinned.checked os 9 .any (Rows.canonKeepsUptoRow.pre enc Tryz.pinned.checked.prog Tryz.f9 (Rows.OpenSpec.upto Rows.canonKeepsSpec)) (((Rows.OpenSpec.upto Rows.canonKeepsSpec).at F).post enc Tryz.pinned.checked.prog Tryz.f9 Rows.canonKeepsUptoRow.apart Rows.canonKeepsUptoRow.fresh Rows.canonKeepsUptoRow.handsOn Rows.canonKeepsUptoRow.again):=
 fun os started H enc _ F=>by rw[OpenClaim.pre_eq_preRow];exact lifted os started H enc F
theorem said:Rows.CanonKeepsUptoSaid:=
 OpenClaim.holds_of_cond 9 Tryz.f9 rfl rfl rfl rfl rfl rfl rfl ⟨rfl,rfl,rfl,rfl,rfl⟩ rfl rfl rfl rfl rfl named Tryz.func9 facts inst wrapper lift2
theorem plain(f:FuncId)(fn:Func)(hf:Tryz.pinned.checked.prog.funcNamed "waybill/waybilllaw15.CanonKeeps"=some f)(hfn:Tryz.pinned.checked.prog.funcs[f]?=some fn):
 true=Tryz.pinned.checked.prog.looks []∧∀(j:Nat) t,fn.params[j]?=some t→Tryz.pinned.checked.prog.wantsStandIn t=false:=by
 obtain rfl:f=9:=Option.some.inj ((show Tryz.prog.funcNamed "waybill/waybilllaw15.CanonKeeps"=some 9 by kernel_rfl).symm.trans hf)|>.symm
 obtain rfl:fn=Tryz.f9:=(Option.some.inj (Tryz.func9.symm.trans hfn)).symm
 refine⟨by kernel_rfl,fun j t ht=> ?_⟩
 rw[Tryz.params9]at ht
 have hm:=Array.mem_of_getElem? ht
 have:t=24∨t=48:=by simpa using hm
 rcases this with rfl|rfl
 ·exact(show Tryz.prog.wantsStandIn 24=false by kernel_rfl)
 ·exact(show Tryz.prog.wantsStandIn 48=false by kernel_rfl)
theorem proved:Rows.CanonKeepsUptoCardSaid:=
 Claim7.holds_tied_plain_at .later [] _ _ _ _ said (fun _ h=>by cases h) (by kernel_rfl) (fun _ h=>by cases h) canonKeepsUpto_row_tie rfl ⟨rfl,rfl⟩ (by kernel_rfl) rfl plain (by kernel_rfl)
end Go.Proofs.YtmlmkmhkmifnkaaGreatDoor.canonKeepsUpto