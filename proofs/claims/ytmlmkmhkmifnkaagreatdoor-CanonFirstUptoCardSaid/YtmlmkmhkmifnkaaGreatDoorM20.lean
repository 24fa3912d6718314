import Derived.Test.YtmlmkmhkmifnkaaGreatDoorM08
import Derived.Lib.Index
set_option maxHeartbeats 16000000
set_option maxRecDepth 1000000
namespace Go.Proofs.YtmlmkmhkmifnkaaGreatDoor.Ci
open Go.RowKit
def decF(l:List UInt8):Nat:=l.foldl (fun a b=>a*10+(b.toNat-48)) 0
theorem decF_snoc(l:List UInt8)(b:UInt8):decF (l++[b])=decF l*10+(b.toNat-48):=by simp[decF]
theorem decF_lt:∀(k:Nat) (l:List UInt8),l.length=k→l.all digB=true→decF l<10^k
 |0,l,h,_=>by
  rw[List.length_eq_zero_iff.1 h];decide
 |k+1,l,h,hb=>by
  have hne:l≠[]:=by intro f;rw[f]at h;cases h
  have e:l=l.dropLast++[l.getLast hne]:=(List.dropLast_concat_getLast hne).symm
  rw[e,List.all_append,Bool.and_eq_true]at hb
  have ih:=decF_lt k l.dropLast (by rw[List.length_dropLast];omega) hb.1
  have hd:digB (l.getLast hne)=true:=by simpa using hb.2
  unfold digB at hd
  simp only[Bool.and_eq_true,decide_eq_true_eq]at hd
  rw[e,decF_snoc,Nat.pow_succ]
  omega
theorem take_get(s:ByteArray)(k:Nat)(h:k<s.size):s.data.toList.take (k+1)=s.data.toList.take k++[s[k]]:=by
 rw[List.take_succ_eq_append_getElem (by rw[←Lib.size_eq];exact h)]
 rfl
def numV2(o:Option Nat):Value:=.tuple #[.int .i64 (o.getD 0:Nat),.bool o.isSome]
theorem decimal_run(s:ByteArray)(w:World):
 Calls Tryz.prog 161 #[.string s] w fun e w'=>e=.returned (numV2 (numL s.data.toList))∧Bel w w':=by
 have hl:s.data.toList.length=s.size:=by rw[Lib.size_eq]
 have none_:∀h:¬(1≤s.data.toList.length∧s.data.toList.length≤3∧(1<s.data.toList.length→s.data.toList[0]?≠some 48)∧s.data.toList.all digB=true),numL s.data.toList=none:=fun h=>by unfold numL;rw[if_neg h]
 by_cases h0:s.size<1
 ·have d0:decide (s.size<1)=true:=decide_eq_true h0
  have hq:=none_ (by intro f;omega)
  rw[hq]
  clear none_ hl hq
  go_enter Tryz.func161,Tryz.ntmps161
  go_wp2_with fail
  go_ret2
  exact⟨rfl,Bel.refl w⟩
 ·have d0:decide (s.size<1)=false:=decide_eq_false h0
  by_cases h3:3<s.size
  ·have d3:decide (3<s.size)=true:=decide_eq_true h3
   have hq:=none_ (by intro f;omega)
   rw[hq]
   clear none_ hl hq
   go_enter Tryz.func161,Tryz.ntmps161
   go_wp2_with fail
   go_ret2
   exact⟨rfl,Bel.refl w⟩
  ·have d3:decide (3<s.size)=false:=decide_eq_false h3
   have h1:0<s.size:=by omega
   by_cases hz:s[0]=48∧1<s.size
   ·have hq:=none_ (by intro f;exact f.2.2.1 (by omega) (by rw[at_get s 0 h1,hz.1]))
    have hzb:(((s[0]'h1).toNat:Int)==48)=true:=by rw[hz.1];rfl
    have h2:=hz.2
    have d2:decide (1<s.size)=true:=decide_eq_true h2
    rw[hq]
    clear none_ hl hq hz
    go_enter Tryz.func161,Tryz.ntmps161
    go_wp2_with fail
    go_ret2
    exact⟨rfl,Bel.refl w⟩
   ·have HQ:=hid (fun(f:¬s.data.toList.all digB=true)=>none_ (fun g=>f g.2.2.2))
    have HS:=hid (fun(f:s.data.toList.all digB=true)=>show numL s.data.toList=some (decF s.data.toList) by
     unfold numL
     rw[if_pos ⟨by omega,by omega,fun g e=>hz ⟨by rw[at_get s 0 h1]at e;exact Option.some.inj e,by omega⟩,f⟩]
     rfl)
    by_cases hs0:s[0]=48
    ·have z0:(((s[0]'h1).toNat:Int)==48)=true:=by rw[hs0];rfl
     have h2:¬1<s.size:=fun f=>hz ⟨hs0,f⟩
     have d2:decide (1<s.size)=false:=decide_eq_false h2
     clear none_ hz hs0
     have HL:=hid hl
     have H3:=hid (show s.size≤3 by omega)
     go_enter Tryz.func161,Tryz.ntmps161
     go_wp2_with fail
     clear d0 d3 z0 d2
     go_loop [4,5] (fun v4 v5=>∃(a k:Nat),v4=.int .i64 a∧v5=.int .i64 k∧k≤s.size∧Hid (a=decF (s.data.toList.take k)∧(s.data.toList.take k).all digB=true))
      (fun _ v5=>s.size-(intOf v5).toNat)
     case atStart=>exact⟨0,0,rfl,rfl,by omega,hid ⟨rfl,rfl⟩⟩
     case round=>
      obtain⟨a,k,rfl,rfl,hk,HA⟩:=hrel
      have hlt:=decF_lt _ _ rfl HA.out.2
      rw[List.length_take,HL.out,Nat.min_eq_left hk,←HA.out.1]at hlt
      have h1000:10^k≤10^3:=Nat.pow_le_pow_right (by decide) (by have:=H3.out;omega)
      have ha:a<1000:=by omega
      clear hlt h1000
      by_cases hkn:k<s.size
      ·have HT:=hid (take_get s k hkn)
       have hm:s[k]∈s.data.toList:=by
        have:=at_get s k hkn
        exact List.mem_of_getElem? this
       by_cases c1:(s[k]'hkn).toNat<48
       ·have HN:=hid (HQ.out (fun f=>by
         have:=List.all_eq_true.1 f _ hm
         unfold digB at this
         simp only[Bool.and_eq_true,decide_eq_true_eq]at this
         omega))
        have b1:decide (((s[k]'hkn).toNat:Int)<48)=true:=decide_eq_true (by omega)
        clear hm c1
        go_wp2_with fail
        go_ret2
        exact⟨by rw[HN.out];rfl,Bel.refl w⟩
       ·have b1:decide (((s[k]'hkn).toNat:Int)<48)=false:=decide_eq_false (by omega)
        by_cases c2:57<(s[k]'hkn).toNat
        ·have HN:=hid (HQ.out (fun f=>by
          have:=List.all_eq_true.1 f _ hm
          unfold digB at this
          simp only[Bool.and_eq_true,decide_eq_true_eq]at this
          omega))
         have b2:decide (57<((s[k]'hkn).toNat:Int))=true:=decide_eq_true (by omega)
         clear hm c1 c2
         go_wp2_with fail
         go_ret2
         exact⟨by rw[HN.out];rfl,Bel.refl w⟩
        ·have b2:decide (57<((s[k]'hkn).toNat:Int))=false:=decide_eq_false (by omega)
         have HN:=hid (show a*10+((s[k]'hkn).toNat-48)=decF (s.data.toList.take (k+1))∧(s.data.toList.take (k+1)).all digB=true by
          rw[HT.out,decF_snoc,←HA.out.1,List.all_append,HA.out.2]
          refine⟨rfl,?_⟩
          simp only[List.all_cons,List.all_nil,digB,Bool.true_and,Bool.and_true,Bool.and_eq_true,decide_eq_true_eq]
          omega)
         have hc:48≤(s[k]'hkn).toNat∧(s[k]'hkn).toNat≤57:=by omega
         clear hm c1 c2
         go_wp2_with fail
         go_round
         case rel=>exact⟨a*10+((s[k]'hkn).toNat-48),k+1,by go_num,by go_num,by omega,HN⟩
         case measure=>first|(simp[intOf];done)|(simp[intOf];omega)
      ·obtain rfl:k=s.size:=by omega
       rw[List.take_of_length_le (by rw[HL.out];exact Nat.le_refl _)]at HA
       have HN:=hid (show numL s.data.toList=some a by
        rw[HS.out HA.out.2,HA.out.1])
       clear HA
       go_wp2_with fail
       go_ret2
       exact⟨by rw[HN.out];rfl,Bel.refl w⟩
    ·have z0:(((s[0]'h1).toNat:Int)==48)=false:=by
      rw[beq_eq_false_iff_ne]
      intro f
      exact hs0 (UInt8.toNat_inj.1 (by have:(48:UInt8).toNat=48:=rfl;omega))
     clear none_ hz hs0
     have HL:=hid hl
     have H3:=hid (show s.size≤3 by omega)
     go_enter Tryz.func161,Tryz.ntmps161
     go_wp2_with fail
     clear d0 d3 z0
     go_loop [4,5] (fun v4 v5=>∃(a k:Nat),v4=.int .i64 a∧v5=.int .i64 k∧k≤s.size∧Hid (a=decF (s.data.toList.take k)∧(s.data.toList.take k).all digB=true))
      (fun _ v5=>s.size-(intOf v5).toNat)
     case atStart=>exact⟨0,0,rfl,rfl,by omega,hid ⟨rfl,rfl⟩⟩
     case round=>
      obtain⟨a,k,rfl,rfl,hk,HA⟩:=hrel
      have hlt:=decF_lt _ _ rfl HA.out.2
      rw[List.length_take,HL.out,Nat.min_eq_left hk,←HA.out.1]at hlt
      have h1000:10^k≤10^3:=Nat.pow_le_pow_right (by decide) (by have:=H3.out;omega)
      have ha:a<1000:=by omega
      clear hlt h1000
      by_cases hkn:k<s.size
      ·have HT:=hid (take_get s k hkn)
       have hm:s[k]∈s.data.toList:=by
        have:=at_get s k hkn
        exact List.mem_of_getElem? this
       by_cases c1:(s[k]'hkn).toNat<48
       ·have HN:=hid (HQ.out (fun f=>by
         have:=List.all_eq_true.1 f _ hm
         unfold digB at this
         simp only[Bool.and_eq_true,decide_eq_true_eq]at this
         omega))
        have b1:decide (((s[k]'hkn).toNat:Int)<48)=true:=decide_eq_true (by omega)
        clear hm c1
        go_wp2_with fail
        go_ret2
        exact⟨by rw[HN.out];rfl,Bel.refl w⟩
       ·have b1:decide (((s[k]'hkn).toNat:Int)<48)=false:=decide_eq_false (by omega)
        by_cases c2:57<(s[k]'hkn).toNat
        ·have HN:=hid (HQ.out (fun f=>by
          have:=List.all_eq_true.1 f _ hm
          unfold digB at this
          simp only[Bool.and_eq_true,decide_eq_true_eq]at this
          omega))
         have b2:decide (57<((s[k]'hkn).toNat:Int))=true:=decide_eq_true (by omega)
         clear hm c1 c2
         go_wp2_with fail
         go_ret2
         exact⟨by rw[HN.out];rfl,Bel.refl w⟩
        ·have b2:decide (57<((s[k]'hkn).toNat:Int))=false:=decide_eq_false (by omega)
         have HN:=hid (show a*10+((s[k]'hkn).toNat-48)=decF (s.data.toList.take (k+1))∧(s.data.toList.take (k+1)).all digB=true by
          rw[HT.out,decF_snoc,←HA.out.1,List.all_append,HA.out.2]
          refine⟨rfl,?_⟩
          simp only[List.all_cons,List.all_nil,digB,Bool.true_and,Bool.and_true,Bool.and_eq_true,decide_eq_true_eq]
          omega)
         have hc:48≤(s[k]'hkn).toNat∧(s[k]'hkn).toNat≤57:=by omega
         clear hm c1 c2
         go_wp2_with fail
         go_round
         case rel=>exact⟨a*10+((s[k]'hkn).toNat-48),k+1,by go_num,by go_num,by omega,HN⟩
         case measure=>first|(simp[intOf];done)|(simp[intOf];omega)
      ·obtain rfl:k=s.size:=by omega
       rw[List.take_of_length_le (by rw[HL.out];exact Nat.le_refl _)]at HA
       have HN:=hid (show numL s.data.toList=some a by
        rw[HS.out HA.out.2,HA.out.1])
       clear HA
       go_wp2_with fail
       go_ret2
       exact⟨by rw[HN.out];rfl,Bel.refl w⟩
end Go.Proofs.YtmlmkmhkmifnkaaGreatDoor.Ci
namespace Go.Proofs.YtmlmkmhkmifnkaaGreatDoor.Ci
open Go.RowKit
theorem group_run(s:ByteArray)(w:World):
 Calls Tryz.prog 229 #[.string s] w fun e w'=>e=.returned (numV2 (grpL s.data.toList))∧Bel w w':=by
 have hl:s.data.toList.length=s.size:=by rw[Lib.size_eq]
 have none_:∀h:¬(1≤s.data.toList.length∧s.data.toList.length≤4∧s.data.toList.all hexB=true),grpL s.data.toList=none:=fun h=>by unfold grpL;rw[if_neg h]
 by_cases h0:s.size<1
 ·have d0:decide (s.size<1)=true:=decide_eq_true h0
  have hq:=none_ (by intro f;omega)
  rw[hq]
  clear none_ hl hq
  go_enter Tryz.func229,Tryz.ntmps229
  go_wp2_with fail
  go_ret2
  exact⟨rfl,Bel.refl w⟩
 ·have d0:decide (s.size<1)=false:=decide_eq_false h0
  by_cases h3:4<s.size
  ·have d3:decide (4<s.size)=true:=decide_eq_true h3
   have hq:=none_ (by intro f;omega)
   rw[hq]
   clear none_ hl hq
   go_enter Tryz.func229,Tryz.ntmps229
   go_wp2_with fail
   go_ret2
   exact⟨rfl,Bel.refl w⟩
  ·have d3:decide (4<s.size)=false:=decide_eq_false h3
   have h1:0<s.size:=by omega
   have HQ:=hid (fun(f:¬s.data.toList.all hexB=true)=>none_ (fun g=>f g.2.2))
   have HS:=hid (fun(f:s.data.toList.all hexB=true)=>show grpL s.data.toList=some (hexF s.data.toList) by
    unfold grpL
    rw[if_pos ⟨by omega,by omega,f⟩]
    rfl)
   clear none_
   have HL:=hid hl
   have H3:=hid (show s.size≤4 by omega)
   go_enter Tryz.func229,Tryz.ntmps229
   go_wp2_with fail
   clear d0 d3
   go_loop [4,5] (fun v4 v5=>∃(a k:Nat),v4=.int .i64 a∧v5=.int .i64 k∧k≤s.size∧Hid (a=hexF (s.data.toList.take k)∧(s.data.toList.take k).all hexB=true))
    (fun _ v5=>s.size-(intOf v5).toNat)
   case atStart=>exact⟨0,0,rfl,rfl,by omega,hid ⟨rfl,rfl⟩⟩
   case round=>
    obtain⟨a,k,rfl,rfl,hk,HA⟩:=hrel
    have hlt:=hexF_lt _ _ rfl (List.all_eq_true.1 HA.out.2)
    rw[List.length_take,HL.out,Nat.min_eq_left hk,←HA.out.1]at hlt
    have h1000:16^k≤16^4:=Nat.pow_le_pow_right (by decide) (by have:=H3.out;omega)
    have ha:a<65536:=by omega
    clear hlt h1000
    by_cases hkn:k<s.size
    ·have HT:=hid (take_get s k hkn)
     have hm:s[k]∈s.data.toList:=by
      have:=at_get s k hkn
      exact List.mem_of_getElem? this
     have hc256:(s[k]'hkn).toNat<256:=(s[k]'hkn).toNat_lt
     by_cases q0:(s[k]'hkn).toNat<48
     ·have b0:decide (48≤((s[k]'hkn).toNat:Int))=false:=decide_eq_false (by omega)
      have b1:decide (((s[k]'hkn).toNat:Int)≤57)=true:=decide_eq_true (by omega)
      have b2:decide (97≤((s[k]'hkn).toNat:Int))=false:=decide_eq_false (by omega)
      have b3:decide (((s[k]'hkn).toNat:Int)≤102)=true:=decide_eq_true (by omega)
      have b4:decide (65≤((s[k]'hkn).toNat:Int))=false:=decide_eq_false (by omega)
      have b5:decide (((s[k]'hkn).toNat:Int)≤70)=true:=decide_eq_true (by omega)
      have HN:=hid (HQ.out (fun f=>by
       have:=List.all_eq_true.1 f _ hm
       unfold hexB digB at this
       simp only[Bool.and_eq_true,Bool.or_eq_true,decide_eq_true_eq]at this
       omega))
      clear hm
      go_wp2_with fail
      go_ret2
      exact⟨by rw[HN.out];rfl,Bel.refl w⟩
     ·by_cases q1:(s[k]'hkn).toNat<58
      ·have b0:decide (48≤((s[k]'hkn).toNat:Int))=true:=decide_eq_true (by omega)
       have b1:decide (((s[k]'hkn).toNat:Int)≤57)=true:=decide_eq_true (by omega)
       have b2:decide (97≤((s[k]'hkn).toNat:Int))=false:=decide_eq_false (by omega)
       have b3:decide (((s[k]'hkn).toNat:Int)≤102)=true:=decide_eq_true (by omega)
       have b4:decide (65≤((s[k]'hkn).toNat:Int))=false:=decide_eq_false (by omega)
       have b5:decide (((s[k]'hkn).toNat:Int)≤70)=true:=decide_eq_true (by omega)
       have HN:=hid (show a*16+((s[k]'hkn).toNat-48)=hexF (s.data.toList.take (k+1))∧(s.data.toList.take (k+1)).all hexB=true by
        rw[HT.out,hexF_snoc,←HA.out.1,List.all_append,HA.out.2]
        refine⟨?_,?_⟩
        ·congr 1
         unfold hexV
         (repeat' split)<;>omega
        ·simp only[List.all_cons,List.all_nil,hexB,digB,Bool.true_and,Bool.and_true,Bool.and_eq_true,Bool.or_eq_true,decide_eq_true_eq]
         omega)
       clear hm
       go_wp2_with fail
       go_round
       case rel=>exact⟨a*16+((s[k]'hkn).toNat-48),k+1,by go_num,by go_num,by omega,HN⟩
       case measure=>simp[intOf]<;>omega
      ·by_cases q2:(s[k]'hkn).toNat<65
       ·have b0:decide (48≤((s[k]'hkn).toNat:Int))=true:=decide_eq_true (by omega)
        have b1:decide (((s[k]'hkn).toNat:Int)≤57)=false:=decide_eq_false (by omega)
        have b2:decide (97≤((s[k]'hkn).toNat:Int))=false:=decide_eq_false (by omega)
        have b3:decide (((s[k]'hkn).toNat:Int)≤102)=true:=decide_eq_true (by omega)
        have b4:decide (65≤((s[k]'hkn).toNat:Int))=false:=decide_eq_false (by omega)
        have b5:decide (((s[k]'hkn).toNat:Int)≤70)=true:=decide_eq_true (by omega)
        have HN:=hid (HQ.out (fun f=>by
         have:=List.all_eq_true.1 f _ hm
         unfold hexB digB at this
         simp only[Bool.and_eq_true,Bool.or_eq_true,decide_eq_true_eq]at this
         omega))
        clear hm
        go_wp2_with fail
        go_ret2
        exact⟨by rw[HN.out];rfl,Bel.refl w⟩
       ·by_cases q3:(s[k]'hkn).toNat<71
        ·have b0:decide (48≤((s[k]'hkn).toNat:Int))=true:=decide_eq_true (by omega)
         have b1:decide (((s[k]'hkn).toNat:Int)≤57)=false:=decide_eq_false (by omega)
         have b2:decide (97≤((s[k]'hkn).toNat:Int))=false:=decide_eq_false (by omega)
         have b3:decide (((s[k]'hkn).toNat:Int)≤102)=true:=decide_eq_true (by omega)
         have b4:decide (65≤((s[k]'hkn).toNat:Int))=true:=decide_eq_true (by omega)
         have b5:decide (((s[k]'hkn).toNat:Int)≤70)=true:=decide_eq_true (by omega)
         have HN:=hid (show a*16+((s[k]'hkn).toNat-65+10)=hexF (s.data.toList.take (k+1))∧(s.data.toList.take (k+1)).all hexB=true by
          rw[HT.out,hexF_snoc,←HA.out.1,List.all_append,HA.out.2]
          refine⟨?_,?_⟩
          ·congr 1
           unfold hexV
           (repeat' split)<;>omega
          ·simp only[List.all_cons,List.all_nil,hexB,digB,Bool.true_and,Bool.and_true,Bool.and_eq_true,Bool.or_eq_true,decide_eq_true_eq]
           omega)
         clear hm
         go_wp2_with fail
         go_round
         case rel=>exact⟨a*16+((s[k]'hkn).toNat-65+10),k+1,by go_num,by go_num,by omega,HN⟩
         case measure=>simp[intOf]<;>omega
        ·by_cases q4:(s[k]'hkn).toNat<97
         ·have b0:decide (48≤((s[k]'hkn).toNat:Int))=true:=decide_eq_true (by omega)
          have b1:decide (((s[k]'hkn).toNat:Int)≤57)=false:=decide_eq_false (by omega)
          have b2:decide (97≤((s[k]'hkn).toNat:Int))=false:=decide_eq_false (by omega)
          have b3:decide (((s[k]'hkn).toNat:Int)≤102)=true:=decide_eq_true (by omega)
          have b4:decide (65≤((s[k]'hkn).toNat:Int))=true:=decide_eq_true (by omega)
          have b5:decide (((s[k]'hkn).toNat:Int)≤70)=false:=decide_eq_false (by omega)
          have HN:=hid (HQ.out (fun f=>by
           have:=List.all_eq_true.1 f _ hm
           unfold hexB digB at this
           simp only[Bool.and_eq_true,Bool.or_eq_true,decide_eq_true_eq]at this
           omega))
          clear hm
          go_wp2_with fail
          go_ret2
          exact⟨by rw[HN.out];rfl,Bel.refl w⟩
         ·by_cases q5:(s[k]'hkn).toNat<103
          ·have b0:decide (48≤((s[k]'hkn).toNat:Int))=true:=decide_eq_true (by omega)
           have b1:decide (((s[k]'hkn).toNat:Int)≤57)=false:=decide_eq_false (by omega)
           have b2:decide (97≤((s[k]'hkn).toNat:Int))=true:=decide_eq_true (by omega)
           have b3:decide (((s[k]'hkn).toNat:Int)≤102)=true:=decide_eq_true (by omega)
           have b4:decide (65≤((s[k]'hkn).toNat:Int))=true:=decide_eq_true (by omega)
           have b5:decide (((s[k]'hkn).toNat:Int)≤70)=false:=decide_eq_false (by omega)
           have HN:=hid (show a*16+((s[k]'hkn).toNat-97+10)=hexF (s.data.toList.take (k+1))∧(s.data.toList.take (k+1)).all hexB=true by
            rw[HT.out,hexF_snoc,←HA.out.1,List.all_append,HA.out.2]
            refine⟨?_,?_⟩
            ·congr 1
             unfold hexV
             (repeat' split)<;>omega
            ·simp only[List.all_cons,List.all_nil,hexB,digB,Bool.true_and,Bool.and_true,Bool.and_eq_true,Bool.or_eq_true,decide_eq_true_eq]
             omega)
           clear hm
           go_wp2_with fail
           go_round
           case rel=>exact⟨a*16+((s[k]'hkn).toNat-97+10),k+1,by go_num,by go_num,by omega,HN⟩
           case measure=>simp[intOf]<;>omega
          ·have b0:decide (48≤((s[k]'hkn).toNat:Int))=true:=decide_eq_true (by omega)
           have b1:decide (((s[k]'hkn).toNat:Int)≤57)=false:=decide_eq_false (by omega)
           have b2:decide (97≤((s[k]'hkn).toNat:Int))=true:=decide_eq_true (by omega)
           have b3:decide (((s[k]'hkn).toNat:Int)≤102)=false:=decide_eq_false (by omega)
           have b4:decide (65≤((s[k]'hkn).toNat:Int))=true:=decide_eq_true (by omega)
           have b5:decide (((s[k]'hkn).toNat:Int)≤70)=false:=decide_eq_false (by omega)
           have HN:=hid (HQ.out (fun f=>by
            have:=List.all_eq_true.1 f _ hm
            unfold hexB digB at this
            simp only[Bool.and_eq_true,Bool.or_eq_true,decide_eq_true_eq]at this
            omega))
           clear hm
           go_wp2_with fail
           go_ret2
           exact⟨by rw[HN.out];rfl,Bel.refl w⟩
    ·obtain rfl:k=s.size:=by omega
     rw[List.take_of_length_le (by rw[HL.out];exact Nat.le_refl _)]at HA
     have HN:=hid (show grpL s.data.toList=some a by
      rw[HS.out HA.out.2,HA.out.1])
     clear HA
     go_wp2_with fail
     go_ret2
     exact⟨by rw[HN.out];rfl,Bel.refl w⟩
end Go.Proofs.YtmlmkmhkmifnkaaGreatDoor.Ci
namespace Go.Proofs.YtmlmkmhkmifnkaaGreatDoor.Ci
open Go.RowKit
theorem allL_snoc:∀(l:List (List UInt8)) (gs:List Nat) (p:List UInt8) (g:Nat),allL l=some gs→grpL p=some g→allL (l++[p])=some (gs++[g])
 |[],gs,p,g,h,hp=>by
  cases h
  simp[allL,hp]
 |q::l,gs,p,g,h,hp=>by
  unfold allL at h
  cases h1:grpL q with
  |none=>rw[h1]at h;cases h
  |some v=>
   cases h2:allL l with
   |none=>rw[h1,h2]at h;cases h
   |some vs=>
    rw[h1,h2]at h
    cases h
    show allL (q::(l++[p]))=_
    unfold allL
    rw[h1,allL_snoc l vs p g h2 hp]
    rfl
theorem allL_bad:∀(l:List (List UInt8)) (p:List UInt8),p∈l→grpL p=none→allL l=none
 |[],_,h,_=>by cases h
 |q::l,p,h,hp=>by
  unfold allL
  rcases List.mem_cons.1 h with rfl|h
  ·rw[hp]
  ·rw[allL_bad l p h hp]
   cases grpL q<;>rfl
theorem int_infos:(Tryz.prog.info? 3).map (fun i=>(i.zero,i.size,i.bytes))=some (some (.int .i64 0),1,8):=by kernel_rfl
def intV(g:Nat):Value:=.int .i64 (g:Int)
theorem Txts.cell{a0 W:World}{g m p:Nat}{ps:List ByteArray}(h:Txts a0 W (.slice (some ⟨g,0,none⟩) m p) ps)(k:Nat)(hk:k<ps.length):W.cell? ⟨g,k,none⟩=some (.string ps[k]):=by
 obtain⟨g',e,h⟩:=h.at_ k hk
 cases e
 exact h
def RGPost(o:Option (List Nat))(w:World)(e:Ending)(w':World):Prop:=match o with
 |some gs=>∃v,e=.returned (.tuple #[v,.bool true])∧w'.ownsRow w.heap.size 3 1 v gs.length (gs.map intV)∧Bel w w'
 |none=>e=.returned (.tuple #[.slice none 0 0,.bool false])∧Bel w w'
theorem split_row{c:UInt8}{s:ByteArray}{w w':World}{v:Value}{ps:List ByteArray}(h:Txts w w' v ps)(he:ps.map (·.data.toList)=splitL c s.data.toList):
 ∃g p,v=.slice (some ⟨g,0,none⟩) ps.length p∧1≤ps.length∧ps.length≤s.size+1:=by
 have h1:1≤ps.length:=by
  have:=splitL_ne c s.data.toList
  rw[←he]at this
  cases ps with
  |nil=>exact absurd rfl this
  |cons p ps=>simp
 obtain⟨x,p,rfl⟩:=h.len
 obtain⟨g,rfl,-⟩:=h.at_ 0 h1
 refine⟨g,p,rfl,h1,?_⟩
 have:=splitL_len c s.data.toList
 rw[←he,List.length_map]at this
 have h2:s.data.toList.count c≤s.data.toList.length:=List.count_le_length
 rw[←Lib.size_eq]at h2
 omega
theorem rgroups_run(s:ByteArray)(w:World)(hs:s.size<4294967281):
 Calls Tryz.prog 162 #[.string s] w (RGPost (groupsL s.data.toList) w):=by
 by_cases h0:s.data.toList=[]
 ·have hq:groupsL s.data.toList=some []:=by rw[h0];rfl
  have he:s.toList.isEmpty=true:=by rw[Lib.toList_data,h0];rfl
  rw[hq]
  clear hq h0
  go_enter Tryz.func162,Tryz.ntmps162
  go_wp2_with fail
  go_ret2
  exact⟨_,rfl,World.ownsRow_nil _ _ _ _,Bel.refl w⟩
 have he:s.toList.isEmpty=false:=by
  rw[Lib.toList_data]
  simpa using h0
 have HS:=(show Hid (Calls Tryz.prog 160 #[.string s,.int .u8 58] w (SplitPost 58 s w))from rsplit_run s 58 w hs)
 have hq:groupsL s.data.toList=allL (splitL 58 s.data.toList):=by
  unfold groupsL
  rw[if_neg h0]
 rw[hq]
 generalize hoz:allL (splitL 58 s.data.toList)=o
 have HO0:=hid hoz
 clear hq h0 hoz
 go_enter Tryz.func162,Tryz.ntmps162
 go_wp2_with fail
 refine HS.out.mono ?_
 rintro e w1 ⟨v,ps,rfl,hT,hps,hb1⟩
 obtain⟨g,p,rfl,hl1,hl2⟩:=split_row hT hps
 have HO:=hid (show allL (ps.map (·.data.toList))=o by rw[hps];exact HO0.out)
 have H0:=hid (And.intro hb1 hT)
 have H1:=hid (show Bel w1 w1∧w1.ownsRow w1.heap.size 3 1 (.slice none 0 0) 0 []from⟨Bel.refl w1,World.ownsRow_nil _ _ _ _⟩)
 clear hb1 hT hps HS
 go_wp2_with fail
 go_loopg [5,6] ps.length (fun gg v5 v6 wr=>∃(gs:List Nat) (k:Nat) (x5:Option Addr) (p5:Nat),v5=.slice x5 k p5∧v6=.int .i64 k∧k+gg=ps.length∧Hid (Bel w1 wr∧wr.ownsRow w1.heap.size 3 1 (.slice x5 k p5) k (gs.map intV)∧allL ((ps.take k).map (·.data.toList))=some gs))
 case atStart=>exact⟨[],0,none,0,rfl,rfl,by omega,hid ⟨H1.out.1,H1.out.2,rfl⟩⟩
 case round=>
  clear H1
  obtain⟨gs,k,x5,p5,rfl,rfl,hk,H⟩:=hrel
  have Hk:=hid hk
  have hks:k≤ps.length:=by omega
  clear hk
  by_cases hlt:k<ps.length
  ·have c0:=(H0.out.2.next H.out.1).cell k hlt
   have HG:=(show Hid (∀W,Calls Tryz.prog 229 #[.string ps[k]] W fun e w'=>e=.returned (numV2 (grpL ps[k].data.toList))∧Bel W w')from fun W=>group_run ps[k] W)
   have HM:=hid (show ps[k].data.toList∈ps.map (·.data.toList)from List.mem_map_of_mem (List.getElem_mem hlt))
   have HTk:=hid (show(ps.take (k+1)).map (·.data.toList)=(ps.take k).map (·.data.toList)++[ps[k].data.toList] by rw[List.take_succ_eq_append_getElem hlt,List.map_append];rfl)
   generalize ps[k]=x at c0 HG HM HTk
   cases hg:grpL x.data.toList with
   |none=>
    rw[hg]at HG
    have hn:o=none:=by rw[←HO.out];exact allL_bad _ _ HM.out hg
    subst hn
    clear hg
    unfold numV2 at HG
    go_wp2_with fail
    refine(HG.out _).mono ?_
    rintro e w2 ⟨rfl,hb2⟩
    go_wp2_with fail
    go_ret2
    exact⟨rfl,H0.out.1.trans (H.out.1.trans hb2)⟩
   |some n=>
    rw[hg]at HG
    have HA:=hid (show allL ((ps.take (k+1)).map (·.data.toList))=some (gs++[n]) by rw[HTk.out];exact allL_snoc _ _ _ _ H.out.2.2 hg)
    clear hg HM HTk
    unfold numV2 at HG
    go_wp2_with fail
    refine(HG.out _).mono ?_
    rintro e w2 ⟨rfl,hb2⟩
    have H2:=hid (show Bel w1 w2∧w2.ownsRow w1.heap.size 3 1 (.slice x5 k p5) k (gs.map intV)from⟨H.out.1.trans hb2,own_bel H.out.2.1 hb2⟩)
    clear H hb2 c0 HG
    go_wp2_with (at_builtin;refine wpList_push (a0:=w1) (W:=w2) rfl (.tmp 29) (.tmp 31) 143 rfl 3 (.int .i64 0) 1 8 Tryz.underlying143 int_infos rfl (by decide) (.slice x5 k p5) k (gs.map intV) rfl H2.out.2 H2.out.1 #[.int .i64 n] rfl rfl (by intro u hu;simp at hu;subst hu;rfl) (by unfold maxLen;omega) (by omega) ?_;intro x' p' w' hown hb)
    have HN:=hid (show Bel w1 w'∧w'.ownsRow w1.heap.size 3 1 (.slice x' (k+1) p') (k+1) ((gs++[n]).map intV)∧allL ((ps.take (k+1)).map (·.data.toList))=some (gs++[n])from⟨hb,(by rw[List.map_append];exact hown),HA.out⟩)
    clear H2 hown hb HA
    go_wp2_with fail
    go_roundg (gk-1)
    case measure=>have:=Hk.out;omega
    case rel=>exact⟨gs++[n],k+1,x',p',rfl,by go_num,by have:=Hk.out;omega,HN⟩
  ·obtain rfl:k=ps.length:=by omega
   have ho:o=some gs:=by
    have:=H.out.2.2
    rw[List.take_of_length_le (Nat.le_refl _),HO.out]at this
    exact this
   have hgl:gs.length=ps.length:=by
    have:=(allL_lt _ _ (HO.out.trans ho)).1
    rw[List.length_map]at this
    exact this
   subst ho
   go_wp2_with fail
   go_ret2
   refine⟨_,rfl,?_,H0.out.1.trans H.out.1⟩
   rw[hgl]
   exact own_base H.out.2.1 H0.out.1.size
end Go.Proofs.YtmlmkmhkmifnkaaGreatDoor.Ci
namespace Go.Proofs.YtmlmkmhkmifnkaaGreatDoor.Ci
open Go.RowKit
theorem allB_snoc:∀(l:List (List UInt8)) (gs:List Nat) (p:List UInt8) (g:Nat),allB l=some gs→byteL p=some g→allB (l++[p])=some (gs++[g])
 |[],gs,p,g,h,hp=>by
  cases h
  simp[allB,hp]
 |q::l,gs,p,g,h,hp=>by
  unfold allB at h
  cases h1:byteL q with
  |none=>rw[h1]at h;cases h
  |some v=>
   cases h2:allB l with
   |none=>rw[h1,h2]at h;cases h
   |some vs=>
    rw[h1,h2]at h
    cases h
    show allB (q::(l++[p]))=_
    unfold allB
    rw[h1,allB_snoc l vs p g h2 hp]
    rfl
theorem allB_bad:∀(l:List (List UInt8)) (p:List UInt8),p∈l→byteL p=none→allB l=none
 |[],_,h,_=>by cases h
 |q::l,p,h,hp=>by
  unfold allB
  rcases List.mem_cons.1 h with rfl|h
  ·rw[hp]
  ·rw[allB_bad l p h hp]
   cases byteL q<;>rfl
def fourR(xs:List Nat):Nt:=⟨false,32,xs++List.replicate (16-xs.length) 0⟩
theorem fourR_fits(xs:List Nat)(h:xs.length≤4)(hx:∀x∈xs,x<256):(fourR xs).Fits:=by
 refine⟨by simp[fourR],by simp[fourR],by simp[fourR];omega,fun x hm=> ?_⟩
 unfold fourR at hm
 rcases List.mem_append.1 hm with f|f
 ·exact hx x f
 ·obtain⟨-,rfl⟩:=List.mem_replicate.1 f
  decide
theorem fourR_set(xs:List Nat)(x:Nat)(h:xs.length<4):(netC (fourR xs)).set (2+xs.length) (u8V x)=netC (fourR (xs++[x])):=by
 rw[netC_set]
 congr 1
 unfold fourR
 congr 1
 rw[List.set_append_right _ _ (Nat.le_refl _),Nat.sub_self,List.length_append,List.length_singleton,(by omega:16-xs.length=(16-(xs.length+1))+1),List.replicate_succ,List.set_cons_zero,List.append_assoc]
 rfl
theorem rfour_run(s:ByteArray)(w:World)(hs:s.size<4294967281):
 Calls Tryz.prog 93 #[.string s] w (NetPost (fourN' s.data.toList) w):=by
 have HS:=(show Hid (∀W,Calls Tryz.prog 160 #[.string s,.int .u8 46] W (SplitPost 46 s W))from fun W=>rsplit_run s 46 W hs)
 have hq:fourN' s.data.toList=(if(splitL 46 s.data.toList).length=4 then allB (splitL 46 s.data.toList)else none).map fun l=>(⟨false,32,l++List.replicate 12 0⟩:Nt):=rfl
 generalize hoz:fourN' s.data.toList=o
 rw[hoz]at hq
 have HO:=hid hq
 clear hoz hq
 go_enter Tryz.func93,Tryz.ntmps93
 go_upto_region 1 with(fail)
 have HE:=hid (show Bel w (w.alloc (.cells #[.bool false,.int .i64 0,.int .u8 0,.int .u8 0,.int .u8 0,.int .u8 0,.int .u8 0,.int .u8 0,.int .u8 0,.int .u8 0,.int .u8 0,.int .u8 0,.int .u8 0,.int .u8 0,.int .u8 0,.int .u8 0,.int .u8 0,.int .u8 0] 86))∧(w.alloc (.cells #[.bool false,.int .i64 0,.int .u8 0,.int .u8 0,.int .u8 0,.int .u8 0,.int .u8 0,.int .u8 0,.int .u8 0,.int .u8 0,.int .u8 0,.int .u8 0,.int .u8 0,.int .u8 0,.int .u8 0,.int .u8 0,.int .u8 0,.int .u8 0] 86)).heap[w.heap.size]?=some (.cells (netC zeroN).toArray 86 (0,0))from⟨(Bel.refl w).alloc _,heap_alloc_new w _⟩)
 generalize (w.alloc (.cells #[.bool false,.int .i64 0,.int .u8 0,.int .u8 0,.int .u8 0,.int .u8 0,.int .u8 0,.int .u8 0,.int .u8 0,.int .u8 0,.int .u8 0,.int .u8 0,.int .u8 0,.int .u8 0,.int .u8 0,.int .u8 0,.int .u8 0,.int .u8 0] 86))=e0 at HE⊢
 go_wp2_with fail
 refine(HS.out _).mono ?_
 rintro e w1 ⟨v,ps,rfl,hT,hps,hb1⟩
 rw[←hps]at HO
 obtain⟨g,p,rfl,hl1,hl2⟩:=split_row hT hps
 have H0:=hid (And.intro (HE.out.1.trans hb1) (And.intro (hb1.heap HE.out.2) hT))
 have HF0:=hid (fourR_fits [] (by decide) (fun x hx=>by cases hx))
 have P:=hid (put_net w1 (fourR []) HF0.out.len)
 have HZ0:=hid (net_len (fourR []) HF0.out.len)
 clear hb1 hT hps HS HE
 go_upto_region 3 with(first
  | (refine wpList_store_mid rfl 86 (.tmp 5) (.tmp 11) rfl w1.heap.size 0 (netC (fourR [])).toArray rfl rfl ?_ (by rw[List.size_toArray];exact HZ0.out) (netC_one _) ?_;exact there_net w1 (fourR []) HF0.out.len))
 generalize ((w1.alloc (.cells #[.bool false,.int .i64 0,.int .u8 0,.int .u8 0,.int .u8 0,.int .u8 0,.int .u8 0,.int .u8 0,.int .u8 0,.int .u8 0,.int .u8 0,.int .u8 0,.int .u8 0,.int .u8 0,.int .u8 0,.int .u8 0,.int .u8 0,.int .u8 0] 86)).setCells w1.heap.size 0 (netC (fourR [])))=w2 at P⊢
 clear HZ0
 by_cases h4:ps.length=4
 ·have d4:((ps.length:Int) !=4)=false:=by rw[h4];rfl
  have HO4:=hid (show o=(allB (ps.map (·.data.toList))).map fun l=>(⟨false,32,l++List.replicate 12 0⟩:Nt) by rw[HO.out,List.length_map,if_pos h4])
  clear HO
  go_wp2_with fail
  go_loopg [6] 4 (fun gg v6 wr=>∃(xs:List Nat),v6=.int .i64 xs.length∧xs.length+gg=4∧Hid (Bel w1 wr∧wr.heap[w1.heap.size]?=some (.cells (netC (fourR xs)).toArray 86 (0,0))∧allB ((ps.take xs.length).map (·.data.toList))=some xs))
  case atStart=>exact⟨[],rfl,rfl,hid ⟨P.out.1,P.out.2,rfl⟩⟩
  case round=>
   clear P HF0
   obtain⟨xs,rfl,hk,H⟩:=hrel
   have Hk:=hid hk
   have hks:xs.length≤4:=by omega
   have HX:=hid (fourR_fits xs hks (allB_lt _ _ H.out.2.2).2)
   clear hk
   by_cases hlt:xs.length<4
   ·have hlt2:xs.length<ps.length:=by omega
    have c0:=(H0.out.2.2.next H.out.1).cell xs.length hlt2
    have HG:=(show Hid (∀W,Calls Tryz.prog 161 #[.string ps[xs.length]] W fun e w'=>e=.returned (numV2 (numL ps[xs.length].data.toList))∧Bel W w')from fun W=>decimal_run ps[xs.length] W)
    have HM:=hid (show ps[xs.length].data.toList∈ps.map (·.data.toList)from List.mem_map_of_mem (List.getElem_mem hlt2))
    have HTk:=hid (show(ps.take (xs.length+1)).map (·.data.toList)=(ps.take xs.length).map (·.data.toList)++[ps[xs.length].data.toList] by rw[List.take_succ_eq_append_getElem hlt2,List.map_append];rfl)
    generalize ps[xs.length]=x at c0 HG HM HTk
    cases hg:numL x.data.toList with
    |none=>
     rw[hg]at HG
     have hn:o=none:=by rw[HO4.out,allB_bad _ _ HM.out (by unfold byteL;rw[hg])];rfl
     subst hn
     clear hg
     unfold numV2 at HG
     go_wp2_with fail
     refine(HG.out _).mono ?_
     rintro e w3 ⟨rfl,hb3⟩
     have H3:=hid (show Bel w w3∧w3.heap[w1.heap.size]?=some (.cells (netC (fourR xs)).toArray 86 (0,0))∧w3.heap[w.heap.size]?=some (.cells (netC zeroN).toArray 86 (0,0))from⟨(H0.out.1.trans H.out.1).trans hb3,hb3.heap H.out.2.1,(H.out.1.trans hb3).heap H0.out.2.1⟩)
     clear hb3 HG c0 H
     have HZ:=hid (net_len (fourR xs) (HX.out).len)
     have HT:=hid (show w3.there w.heap.size 0 (netC (fourR xs)).toArray.size from there_of (cs:=netC zeroN) H3.out.2.2 (by rw[List.size_toArray,netC_len _ (HX.out).len];decide))
     go_wp2_with (first
      | (refine wpList_load_mid rfl 86 (.tmp 5) rfl w1.heap.size 0 rfl (netC (fourR xs)) _ ?_ Tryz.underlying86 rfl HZ.out ?_;exact range_net H3.out.2.1)
      | (refine wpList_store_mid rfl 86 (.tmp 2) (.tmp 34) rfl w.heap.size 0 (netC (fourR xs)).toArray rfl rfl ?_ (by rw[List.size_toArray];exact HZ.out) (netC_one _) ?_;exact HT.out))
     have hl2:=run_loadVar_mid (P:=Tryz.prog) (w3.setCells w.heap.size 0 (netC (fourR xs))) w.heap.size 0 86 (netC (fourR xs)) _ (World.rangeAt_setCells_same _ _ _ _ (by simpa using HT.out)) Tryz.underlying86 rfl HZ.out
     refine bodyPost_ret (v:=.tuple #[netV (fourR xs),.bool false]) (by simp[results,Tryz.results93,asAddr,hl2,netV]) rfl ⟨⟨fourR xs,HX.out,rfl,fun m hm=>by cases hm⟩,Bel.setCells (Nat.le_refl _) _ _ _ H3.out.1⟩
    |some n=>
     rw[hg]at HG
     have hn1000:=numL_lt hg
     unfold numV2 at HG
     by_cases hbig:255<n
     ·have dbig:decide (255<(n:Int))=true:=decide_eq_true (by omega)
      have hn:o=none:=by rw[HO4.out,allB_bad _ _ HM.out (by unfold byteL;rw[hg];show(if n≤255 then some n else none)=none;rw[if_neg (by omega)])];rfl
      subst hn
      clear hg
      go_wp2_with fail
      refine(HG.out _).mono ?_
      rintro e w3 ⟨rfl,hb3⟩
      have H3:=hid (show Bel w w3∧w3.heap[w1.heap.size]?=some (.cells (netC (fourR xs)).toArray 86 (0,0))∧w3.heap[w.heap.size]?=some (.cells (netC zeroN).toArray 86 (0,0))from⟨(H0.out.1.trans H.out.1).trans hb3,hb3.heap H.out.2.1,(H.out.1.trans hb3).heap H0.out.2.1⟩)
      clear hb3 HG c0 H
      have HZ:=hid (net_len (fourR xs) (HX.out).len)
      have HT:=hid (show w3.there w.heap.size 0 (netC (fourR xs)).toArray.size from there_of (cs:=netC zeroN) H3.out.2.2 (by rw[List.size_toArray,netC_len _ (HX.out).len];decide))
      go_wp2_with (first
       | (refine wpList_load_mid rfl 86 (.tmp 5) rfl w1.heap.size 0 rfl (netC (fourR xs)) _ ?_ Tryz.underlying86 rfl HZ.out ?_;exact range_net H3.out.2.1)
       | (refine wpList_store_mid rfl 86 (.tmp 2) (.tmp 34) rfl w.heap.size 0 (netC (fourR xs)).toArray rfl rfl ?_ (by rw[List.size_toArray];exact HZ.out) (netC_one _) ?_;exact HT.out))
      have hl2:=run_loadVar_mid (P:=Tryz.prog) (w3.setCells w.heap.size 0 (netC (fourR xs))) w.heap.size 0 86 (netC (fourR xs)) _ (World.rangeAt_setCells_same _ _ _ _ (by simpa using HT.out)) Tryz.underlying86 rfl HZ.out
      refine bodyPost_ret (v:=.tuple #[netV (fourR xs),.bool false]) (by simp[results,Tryz.results93,asAddr,hl2,netV]) rfl ⟨⟨fourR xs,HX.out,rfl,fun m hm=>by cases hm⟩,Bel.setCells (Nat.le_refl _) _ _ _ H3.out.1⟩
     ·have dbig:decide (255<(n:Int))=false:=decide_eq_false (by omega)
      have HA:=hid (show allB ((ps.take (xs.length+1)).map (·.data.toList))=some (xs++[n]) by
       rw[HTk.out]
       exact allB_snoc _ _ _ _ H.out.2.2 (by unfold byteL;rw[hg];show(if n≤255 then some n else none)=some n;rw[if_pos (by omega)]))
      clear hg HM HTk
      go_wp2_with fail
      refine(HG.out _).mono ?_
      rintro e w3 ⟨rfl,hb3⟩
      have H3:=hid (show Bel w1 w3∧w3.heap[w1.heap.size]?=some (.cells (netC (fourR xs)).toArray 86 (0,0))from⟨H.out.1.trans hb3,hb3.heap H.out.2.1⟩)
      have hf3:w3.frozen? ⟨w1.heap.size,2+xs.length,none⟩=false:=by simp[World.frozen?,H3.out.2]
      have hc2:∃v,w3.cell? ⟨w1.heap.size,2+xs.length,none⟩=some v:=by
       have:2+xs.length<(netC (fourR xs)).length:=by rw[netC_len _ HX.out.len];omega
       exact⟨(netC (fourR xs))[2+xs.length],by simp[World.cell?,H3.out.2,this]⟩
      obtain⟨vc,hc2⟩:=hc2
      have hwr:IntKind.u8.wrap (n:Int)=(n:Int):=by rw[IntKind.wrap_u8];omega
      have HN:=hid (show Bel w1 (w3.setCell ⟨w1.heap.size,2+xs.length,none⟩ (.int .u8 (n:Int)))∧(w3.setCell ⟨w1.heap.size,2+xs.length,none⟩ (.int .u8 (n:Int))).heap[w1.heap.size]?=some (.cells (netC (fourR (xs++[n]))).toArray 86 (0,0))∧allB ((ps.take (xs++[n]).length).map (·.data.toList))=some (xs++[n])from
       ⟨H3.out.1.setCell (Nat.le_refl _) _,by rw[heap_setCell_same w3 _ _ _ _ _ H3.out.2,List.setIfInBounds_toArray,←fourR_set xs n hlt];rfl,by rw[List.length_append];exact HA.out⟩)
      clear hb3 HG c0 H HA H3
      go_wp2_with fail
      go_roundg (gk-1)
      case measure=>have:=Hk.out;omega
      case rel=>exact⟨xs++[n],by rw[List.length_append,List.length_singleton];go_num,by rw[List.length_append,List.length_singleton];have:=Hk.out;omega,HN⟩
   ·have hx4:xs.length=4:=by omega
    have H3:=hid (show Bel w wr∧wr.heap[w1.heap.size]?=some (.cells (netC (fourR xs)).toArray 86 (0,0))∧wr.heap[w.heap.size]?=some (.cells (netC zeroN).toArray 86 (0,0))from⟨H0.out.1.trans H.out.1,H.out.2.1,H.out.1.heap H0.out.2.1⟩)
    have ho:o=some (fourR xs):=by
     have:=H.out.2.2
     rw[hx4,←h4,List.take_of_length_le (Nat.le_refl _)]at this
     rw[HO4.out,this]
     unfold fourR
     rw[hx4]
     rfl
    subst ho
    have HX4:=hid hx4
    clear H
    have HZ:=hid (net_len (fourR xs) (HX.out).len)
    have HT:=hid (show wr.there w.heap.size 0 (netC (fourR xs)).toArray.size from there_of (cs:=netC zeroN) H3.out.2.2 (by rw[List.size_toArray,netC_len _ (HX.out).len];decide))
    go_wp2_with (first
     | (refine wpList_load_mid rfl 86 (.tmp 5) rfl w1.heap.size 0 rfl (netC (fourR xs)) _ ?_ Tryz.underlying86 rfl HZ.out ?_;exact range_net H3.out.2.1)
     | (refine wpList_store_mid rfl 86 (.tmp 2) (.tmp 40) rfl w.heap.size 0 (netC (fourR xs)).toArray rfl rfl ?_ (by rw[List.size_toArray];exact HZ.out) (netC_one _) ?_;exact HT.out))
    have hl2:=run_loadVar_mid (P:=Tryz.prog) (wr.setCells w.heap.size 0 (netC (fourR xs))) w.heap.size 0 86 (netC (fourR xs)) _ (World.rangeAt_setCells_same _ _ _ _ (by simpa using HT.out)) Tryz.underlying86 rfl HZ.out
    refine bodyPost_ret (v:=.tuple #[netV (fourR xs),.bool true]) (by simp[results,Tryz.results93,asAddr,hl2,netV]) rfl ⟨⟨fourR xs,HX.out,rfl,fun m hm=>Option.some.inj hm⟩,Bel.setCells (Nat.le_refl _) _ _ _ H3.out.1⟩
 ·have d4:((ps.length:Int) !=4)=true:=by rw[bne_iff_ne];omega
  have hn:o=none:=by rw[HO.out,List.length_map,if_neg h4];rfl
  subst hn
  have H3:=hid (show Bel w w2∧w2.heap[w1.heap.size]?=some (.cells (netC (fourR [])).toArray 86 (0,0))∧w2.heap[w.heap.size]?=some (.cells (netC zeroN).toArray 86 (0,0))from⟨H0.out.1.trans P.out.1,P.out.2,P.out.1.heap H0.out.2.1⟩)
  clear h4
  have HZ:=hid (net_len (fourR []) (HF0.out).len)
  have HT:=hid (show w2.there w.heap.size 0 (netC (fourR [])).toArray.size from there_of (cs:=netC zeroN) H3.out.2.2 (by rw[List.size_toArray,netC_len _ (HF0.out).len];decide))
  go_wp2_with (first
   | (refine wpList_load_mid rfl 86 (.tmp 5) rfl w1.heap.size 0 rfl (netC (fourR [])) _ ?_ Tryz.underlying86 rfl HZ.out ?_;exact range_net H3.out.2.1)
   | (refine wpList_store_mid rfl 86 (.tmp 2) (.tmp 15) rfl w.heap.size 0 (netC (fourR [])).toArray rfl rfl ?_ (by rw[List.size_toArray];exact HZ.out) (netC_one _) ?_;exact HT.out))
  have hl2:=run_loadVar_mid (P:=Tryz.prog) (w2.setCells w.heap.size 0 (netC (fourR []))) w.heap.size 0 86 (netC (fourR [])) _ (World.rangeAt_setCells_same _ _ _ _ (by simpa using HT.out)) Tryz.underlying86 rfl HZ.out
  refine bodyPost_ret (v:=.tuple #[netV (fourR []),.bool false]) (by simp[results,Tryz.results93,asAddr,hl2,netV]) rfl ⟨⟨fourR [],HF0.out,rfl,fun m hm=>by cases hm⟩,Bel.setCells (Nat.le_refl _) _ _ _ H3.out.1⟩
end Go.Proofs.YtmlmkmhkmifnkaaGreatDoor.Ci
namespace Go.Proofs.YtmlmkmhkmifnkaaGreatDoor.Ci
open Go.RowKit
theorem occ2(l:List UInt8)(k:Nat)(h:k+1<l.length):Lib.occAt l [58,58] k=(l[k]==58&&l[k+1]==58):=by
 have e:l.drop k=l[k]::l[k+1]::l.drop (k+2):=by
  rw[List.drop_eq_getElem_cons (by omega:k<l.length),List.drop_eq_getElem_cons h]
 unfold Lib.occAt
 rw[e]
 show((58==l[k])&&((58==l[k+1])&&List.isPrefixOf [] _))=_
 rw[show List.isPrefixOf ([]:List UInt8) (l.drop (k+2))=true by cases l.drop (k+2)<;>rfl,Bool.and_true,Bool.beq_comm,Bool.beq_comm (a:=(58:UInt8))]
theorem occ_far(l:List UInt8)(k:Nat)(h:¬k+1<l.length):Lib.occAt l [58,58] k=false:=by
 rw[Bool.eq_false_iff]
 intro f
 rcases Lib.occAt_room f with g|g
 ·have:k+2≤l.length:=g
  omega
 ·cases g
theorem cut_found(l:List UInt8)(k:Nat)(h:k+2≤l.length)(ho:Lib.occAt l [58,58] k=true)(hn:∀j,j<k→Lib.occAt l [58,58] j=false):Lib.cut l [58,58]=(l.take k,l.drop (k+2),true):=by
 have hi:=Lib.index_first (by omega:k≤l.length) ho hn
 unfold Lib.cut
 rw[hi,if_pos (by omega)]
 rfl
theorem cut_lost(l:List UInt8)(k:Nat)(h:¬k+1<l.length)(hn:∀j,j<k→Lib.occAt l [58,58] j=false):Lib.cut l [58,58]=(l,[],false):=by
 have hi:Lib.index l [58,58]= -1:=Lib.index_none fun j _=>by
  by_cases hj:j<k
  ·exact hn j hj
  ·exact occ_far l j (by omega)
 unfold Lib.cut
 rw[hi,if_neg (by decide)]
def sixR(xs:List Nat):Nt:=⟨true,128,bytesL xs++List.replicate (16-2*xs.length) 0⟩
theorem sixR_fits(xs:List Nat)(h:xs.length≤8)(hx:∀g∈xs,g<65536):(sixR xs).Fits:=by
 refine⟨by simp[sixR],by simp[sixR],by simp[sixR,bytesL_len];omega,fun x hm=> ?_⟩
 unfold sixR at hm
 rcases List.mem_append.1 hm with f|f
 ·exact bytesL_lt xs hx x f
 ·obtain⟨-,rfl⟩:=List.mem_replicate.1 f
  decide
theorem netC_set2(n:Nt)(k x y:Nat):((netC n).set (2+k) (u8V x)).set (2+k+1) (u8V y)=netC {n with addr:=(n.addr.set k x).set (k+1) y}:=by
 rw[netC_set,Nat.add_assoc,netC_set]
theorem sixR_set(xs:List Nat)(g:Nat)(h:xs.length<8):((netC (sixR xs)).set (2+2*xs.length) (u8V (g/256))).set (2+2*xs.length+1) (u8V (g%256))=netC (sixR (xs++[g])):=by
 rw[netC_set2]
 congr 1
 unfold sixR
 congr 1
 have hl:=bytesL_len xs
 rw[bytesL_app,List.set_append_right _ _ (by omega),List.set_append_right _ _ (by omega),hl,Nat.sub_self,(by omega:2*xs.length+1-2*xs.length=1),List.length_append,List.length_singleton,(by omega:16-2*xs.length=(16-2*(xs.length+1))+1+1),List.replicate_succ,List.replicate_succ,List.set_cons_zero,List.set_cons_succ,List.set_cons_zero,List.append_assoc]
 rfl
def allR(a b:List Nat):List Nat:=a++List.replicate (8-a.length-b.length) 0++b
theorem allR_len(a b:List Nat)(h:a.length+b.length≤8):(allR a b).length=8:=by
 simp[allR];omega
theorem splice_one(a:List Nat):splice ((allR [] []).map intV) 0 (a.map intV)=(allR a []).map intV:=by
 unfold splice
 rw[show allR [] []=List.replicate 8 0 from rfl,List.map_replicate,List.drop_replicate,List.take_zero,List.nil_append,List.length_map,Nat.zero_add]
 unfold allR
 rw[List.map_append,List.map_append,List.map_replicate,List.map_nil,List.append_nil]
 rfl
theorem splice_two(a b:List Nat)(h:a.length+b.length≤8):splice ((allR a []).map intV) (8-b.length) (b.map intV)=(allR a b).map intV:=by
 have hl:(allR a []).length=8:=allR_len a [] (by simp;omega)
 unfold splice
 rw[←List.map_take,List.length_map,(by omega:8-b.length+b.length=8),←List.map_drop,List.drop_of_length_le (by omega),List.map_nil,List.append_nil,←List.map_append]
 congr 1
 unfold allR
 rw[List.append_nil,List.take_append,List.take_of_length_le (by omega),List.take_replicate,List.length_nil]
 congr 2
 congr 1
 omega
def sixM(o1 o2:Option (List Nat))(sh:Bool):Option Nt:=match o1,o2 with
 |some a,some b=>if sh then(if a.length+b.length≤7 then some ⟨true,128,bytesL (allR a b)⟩else none)else(if a.length=8 then some ⟨true,128,bytesL a⟩else none)
 |_,_=>none
theorem sixQ_eq(l:List UInt8):sixQ l=sixM (groupsL (Lib.cut l [58,58]).1) (groupsL (Lib.cut l [58,58]).2.1) (Lib.cut l [58,58]).2.2:=by
 unfold sixQ sixL sixM
 cases groupsL (Lib.cut l [58,58]).1 with
 |none=>rfl
 |some a=>
  cases groupsL (Lib.cut l [58,58]).2.1 with
  |none=>rfl
  |some b=>
   simp only
   split
   ·split<;>rfl
   ·split<;>rfl
theorem int_size:(Tryz.prog.info? 3).map (·.size)=some 1:=by kernel_rfl
theorem ints_one(l:List Nat):∀v∈l.map intV,v.oneCell'=true:=by
 intro v hv
 obtain⟨x,-,rfl⟩:=List.mem_map.1 hv
 rfl
theorem int_elem:Tryz.prog.elem 143=3:=by kernel_rfl
theorem slice8(g n:Nat)(hn:n≤8):∃dp:Addr,(0<n→dp=⟨g,8-n,none⟩)∧∀W:World,(Instr.sliceAt 143 (.slice (some ⟨g,0,none⟩) 8 8) (some (.int .i64 (8-(n:Int)))) none none).run Tryz.prog W=.ok (.slice (some dp) n n) W:=by
 refine⟨if 8=8-n then⟨g,0,none⟩else⟨g,8-n,none⟩,fun h=>if_neg (by omega),fun W=> ?_⟩
 rw[run_sliceAt_slice W 143 _ _ _ _ (by kernel_rfl),run_slice_l W 143 _ _ _ (by kernel_rfl) .i64 _ (by omega) (by omega),int_elem,Tryz.sizeOf3]
 simp only[Result.andThen_ok,sliced,(by omega:(8-(n:Int)).toNat=8-n),(by omega:8-(8-n)=n),Nat.mul_one]
 by_cases h:8=8-n
 ·rw[if_pos h,if_pos h]
 ·rw[if_neg h,if_neg h]
  show Result.ok (Value.slice (some ((⟨g,0,none⟩:Addr).add (8-n))) n n) W=_
  rw[addr_add,Nat.zero_add]
theorem RGPost.out{o:Option (List Nat)}{w w':World}{e:Ending}(h:RGPost o w e w'):
 ∃(x:Option Addr) (n p:Nat),e=.returned (.tuple #[.slice x n p,.bool o.isSome])∧Bel w w'∧∀gs,o=some gs→n=gs.length∧w'.ownsRow w.heap.size 3 1 (.slice x n p) n (gs.map intV):=by
 cases o with
 |none=>
  obtain⟨rfl,hb⟩:=h
  exact⟨none,0,0,rfl,hb,fun gs f=>by cases f⟩
 |some gs=>
  obtain⟨v,rfl,ho,hb⟩:=h
  obtain⟨x,p,rfl,h1,h2⟩:=row_shape ho
  exact⟨x,_,p,rfl,hb,fun gs2 f=>by cases f;exact⟨rfl,ho⟩⟩
end Go.Proofs.YtmlmkmhkmifnkaaGreatDoor.Ci