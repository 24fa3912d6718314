import Derived.Test.YtmlmkmhkmifnkaaGreatDoorM28
set_option maxHeartbeats 16000000
set_option maxRecDepth 1000000
namespace Go.Proofs.YtmlmkmhkmifnkaaGreatDoor.Tb
open Go.RowKit
open Ci (Bel hid own_bel row_shape own_base addr_add splitL int_infos)
open Ma (byte_eq byte_ne ext_front)
theorem rln_infos:(Tryz.prog.info? 147).map (fun i=>(i.zero,i.size,i.bytes))=some (some (.agg #[.int .i64 0,.string ⟨#[]⟩,.slice none 0 0]),3,48):=by kernel_rfl
def intsV(l:List Nat):List Value:=l.map fun k=>Value.int .i64 ((k:Nat):Int)
theorem intsV_snoc(l:List Nat)(k:Nat):intsV (l++[k])=intsV l++[.int .i64 ((k:Nat):Int)]:=by unfold intsV;rw[List.map_append];rfl
def IntRow(w0 W:World)(v:Value)(l:List Nat):Prop:=W.ownsRow w0.heap.size 3 1 v l.length (intsV l)
theorem IntRow.snoc{w0 W:World}{v:Value}{l:List Nat}{n k:Nat}(h:W.ownsRow w0.heap.size 3 1 v (n+1) (intsV l++[.int .i64 ((k:Nat):Int)]))(hn:n=l.length):IntRow w0 W v (l++[k]):=by
 subst hn
 unfold IntRow
 rw[intsV_snoc,List.length_append]
 exact h
theorem RnM.keep{w0 W W3:World}{v:Value}{M:List (Ln×Value)}{r:Value}{n:Nat}{xs:List Value}{o:Obj}(h:RnM w0 W v M)(hr:W.ownsRow w0.heap.size 3 1 r n xs)(hg:(W.alloc o).grownBy W3 r.ownBlock):RnM w0 W3 v M:=by
 have hk3:∀k,k<W.heap.size→some k≠r.ownBlock→W3.heap[k]?=W.heap[k]?:=fun k hk hne=>(hg.block k (by rw[World.size_alloc];omega) hne).trans (heap_alloc_old W _ hk)
 have hvT:∀(T:TypeId),3≠T→∀(s n:Nat) (y:Value) (xs:List Value),W.ownsRow w0.heap.size T s y n xs→∀g,y.ownBlock=some g→some g≠r.ownBlock:=fun T hT s n y xs hy g hgy e=>by
  rcases hr.2 with⟨rfl,-⟩|⟨g2,cap,cu,rfl,-,hh,-⟩
  ·cases e
  ·cases e
   exact own_ne hy hh hT hgy
 exact⟨own_keep h.row fun g hg'=>hk3 g (own_lt h.row hg').2 (hvT _ (by decide) _ _ _ _ h.row g hg'),fun x hx=>own_keep (h.pcs x hx) fun g hg'=>hk3 g (own_lt (h.pcs x hx) hg').2 (hvT _ (by decide) _ _ _ _ (h.pcs x hx) g hg'),h.apart⟩
theorem IntRow.keep{w0 W W3:World}{l:List Nat}{v r:Value}{n s:Nat}{T:TypeId}{xs:List Value}{o:Obj}(h:IntRow w0 W v l)(hT:T≠3)(hr:W.ownsRow w0.heap.size T s r n xs)(hg:(W.alloc o).grownBy W3 r.ownBlock):IntRow w0 W3 v l:=by
 refine own_keep h fun g hg'=> ?_
 have hlt:=(own_lt h hg').2
 refine(hg.block g (by rw[World.size_alloc];omega) fun e=> ?_).trans (heap_alloc_old W _ hlt)
 rcases hr.2 with⟨rfl,-⟩|⟨g2,cap,cu,rfl,-,hh,-⟩
 ·cases e
 ·cases e
  exact own_ne h hh hT hg'
theorem radd_of {base g o:Nat} {ax x9:Option Addr} {np cp n9 c9:Nat} {cur:Array Value} {L:List (List UInt8)} {t:ByteArray} {W w9:World} (_hb:W.heap[g]?=some (.cells cur 147 (0,0))) (_ho:cur[o+2]?=some (.slice ax np cp)) (hnp:np=L.length)
 (_hpv:W.ownsRow base 9 1 (.slice ax np cp) L.length (strs L)) (hg:(W.alloc (.cells #[.string t] 9)).grownBy w9 (Value.slice ax np cp).ownBlock) (hf:(Value.slice x9 n9 c9).ownBlock=(Value.slice ax np cp).ownBlock∨∃r,(Value.slice x9 n9 c9).ownBlock=some r∧W.heap.size≤r)
 (e9:w9.heap[g]?=some (.cells cur 147 (0,0))) (hown:w9.ownsRow base 9 1 (.slice x9 n9 c9) (np+1) (strs L++[.string t])):
 RAddP base g o (.slice ax np cp) cur (L++[t.data.toList]) W (w9.setCell ⟨g,o+2,none⟩ (.slice x9 n9 c9)) (.slice x9 n9 c9):=by
 refine⟨heap_setCell_same _ _ _ _ _ _ e9,?_,?_,?_,?_,?_,?_,?_⟩
 ·have e:strs (L++[t.data.toList])=strs L++[.string t]:=by unfold strs;rw[List.map_append];rfl
  rw[e,List.length_append]
  have hown:w9.ownsRow base 9 1 (.slice x9 n9 c9) (L.length+1) (strs L++[.string t]):=by rw[←hnp];exact hown
  have hne:=own_ne hown e9 (by decide)
  exact own_keep hown fun r hr=>heap_setCell_other _ _ _ _ fun e=>hne (by rw[hr,e])
 ·intro k hk h1 h2
  rw[heap_setCell_other _ _ _ _ h1,hg.block k (by rw[World.size_alloc];omega) h2,heap_alloc_old W _ hk]
 ·exact hg.os
 ·exact hg.tape
 ·exact hg.output
 ·rw[World.size_setCell]
  have:=hg.size
  rw[World.size_alloc]at this
  omega
 ·rcases hf with f|⟨r,e,f⟩
  ·exact .inl f
  ·exact .inr ⟨r,e,f⟩
theorem IntRow.radd{w0 W W2:World}{l:List Nat}{v pv pv':Value}{g o n:Nat}{cur:Array Value}{L:List (List UInt8)}{xs:List Value}(h:IntRow w0 W v l)(hb:W.heap[g]?=some (.cells cur 147 (0,0)))(hpv:W.ownsRow w0.heap.size 9 1 pv n xs)(hA:RAddP w0.heap.size g o pv cur L W W2 pv'):IntRow w0 W2 v l:=by
 refine own_keep h fun k hk=>hA.keep k (own_lt h hk).2 (fun e=>own_ne h hb (by decide) (by rw[hk,e])) fun e=> ?_
 rcases hpv.2 with⟨rfl,-⟩|⟨g2,cap,cu,rfl,-,hh,-⟩
 ·cases e
 ·cases e
  exact own_ne h hh (by decide) hk
structure LiS (s:List UInt8) (w wr:World) (c:Rs) (v4 v5:Value) (M:List (Ln×Value)):Prop where
 bel:Bel w wr
 mem:RnM w wr v4 M
 eq:M.map (·.1)=c.out
 ints:IntRow w wr v5 c.bads
 ci:RCutI s c
def LinesPost(s:List UInt8)(w:World)(e:Ending)(w':World):Prop:=∃v4 v5 M,e=.returned (.tuple #[v4,v5])∧Bel w w'∧RnM w w' v4 M∧M.map (·.1)=(rsAll s).out∧IntRow w w' v5 (rsAll s).bads
theorem skip_bytes{l0 t:ByteArray}(ht:t.data.toList=trm l0.data.toList):skipR l0.data.toList=((t.toList==[])||decide (∃h:0<t.size,t[0]=35)):=by
 unfold skipR
 rw[←ht,ByteArray.toList_eq]
 cases hx:t.data.toList with
 |nil=>simp
 |cons b l=>
  have h0:0<t.size:=by rw[Lib.size_eq,hx];simp
  have e:t[0]=b:=by
   have:=bytes_cons h0
   rw[hx]at this
   exact(List.cons.inj this).1.symm
  have e1:((b::l:List UInt8)==[])=false:=rfl
  rw[e1,Bool.false_or,Bool.eq_iff_iff,decide_eq_true_iff,decide_eq_true_iff]
  simp only[List.head?_cons,Option.some.injEq,reduceCtorEq,false_or]
  exact⟨fun h=>⟨h0,e.trans h⟩,fun⟨_,h⟩=>e.symm.trans h⟩
theorem blank_bytes{l0:ByteArray}(h:0<l0.size):blankR l0.data.toList=isBl l0[0]:=by rw[bytes_cons h];rfl
theorem trm_ne_pos{l0:ByteArray}(h:trm l0.data.toList≠[]):0<l0.size:=by
 rcases Nat.eq_zero_or_pos l0.size with f|f
 ·have:l0.data.toList=[]:=List.eq_nil_of_length_eq_zero (by rw[←Lib.size_eq];exact f)
  rw[this]at h
  exact absurd rfl h
 ·exact f
theorem rlines_run(s:ByteArray)(w:World)(hs:s.size≤262144):Calls Tryz.prog 83 #[.string s] w (LinesPost s.data.toList w):=by
 have HSZ:=hid (Lib.size_eq s)
 have HTrim:=(show Hid (∀(x:ByteArray),x.size≤262144→∀W,Calls Tryz.prog 152 #[.string x] W fun e w'=>e=.returned (.string ⟨(trm x.data.toList).toArray⟩)∧w'=W)from fun x hx W=>rtrim_run x W (by omega))
 have HBlank:=(show Hid (∀(b:UInt8) W,Calls Tryz.prog 153 #[.int .u8 (b.toNat:Int)] W fun e w'=>e=.returned (.bool (isBl b))∧w'=W)from fun b W=>rblank_run b W)
 have HZ:=hid (show IntRow w w (.slice none 0 0) []from World.ownsRow_nil _ _ _ _)
 go_enter Tryz.func83,Tryz.ntmps83
 go_wp2_with fail
 go_loopg [5,6] s.size (fun gg v5 v6 wr=>∃(k:Nat) (x5:Option Addr) (nb p5:Nat) (bs:List Nat),v5=.slice x5 nb p5∧v6=.int .i64 k∧k+gg=s.size∧nb≤k∧Hid (nb=bs.length)∧Hid (Bel w wr∧IntRow w wr (.slice x5 nb p5) bs∧badsOf s.data.toList 0=bs++badsOf (s.data.toList.drop k) k))
 case atStart=>exact⟨0,none,0,0,[],rfl,rfl,by omega,Nat.le_refl _,hid rfl,hid ⟨Bel.refl w,HZ.out,by simp⟩⟩
 case round=>
  clear HZ
  obtain⟨k,x5,nb,p5,bs,rfl,rfl,hk,hnb,HNb,H⟩:=hrel
  have Hk:=hid hk
  have hkn:k≤s.size:=by omega
  clear hk
  by_cases hlt:k<s.size
  ·have hlt':k<s.data.toList.length:=by rw[←HSZ.out];exact hlt
   have HC:=hid (show s.data.toList[k]'hlt'=s[k]from rfl)
   have HBd:=hid (bads_at hlt')
   have HBi:=hid (bad_int s[k])
   have HBe:=hid H.out.1
   have HI:=hid (show wr.ownsRow w.heap.size 3 1 (.slice x5 nb p5) nb (intsV bs)from by have:=H.out.2.1;unfold IntRow at this;rw[←HNb.out]at this;exact this)
   by_cases h9:s[k]=9
   ·have c9':(((s[k]'hlt).toNat:Int)==9)=true:=byte_eq (n:=9) (by decide) h9
    have HB9:=hid (show(s[k]==9)=true by simpa using h9)
    clear h9
    have HN:=hid (show badsOf s.data.toList 0=bs++badsOf (s.data.toList.drop (k+1)) (k+1)from by rw[H.out.2.2,HBd.out,HC.out,HBi.out,HB9.out,Bool.true_or,Bool.true_or];rfl)
    go_wp2_with fail
    go_roundg (gk-1)
    case measure=>have:=Hk.out;omega
    case rel=>exact⟨k+1,x5,nb,p5,bs,rfl,by go_num,by have:=Hk.out;omega,by omega,HNb,hid ⟨H.out.1,H.out.2.1,HN.out⟩⟩
   ·have c9':(((s[k]'hlt).toNat:Int)==9)=false:=byte_ne (n:=9) (by decide) h9
    have HB9:=hid (show(s[k]==9)=false by simpa using h9)
    clear h9
    by_cases h10:s[k]=10
    ·have c10:(((s[k]'hlt).toNat:Int)==10)=true:=byte_eq (n:=10) (by decide) h10
     have HB10:=hid (show(s[k]==10)=true by simpa using h10)
     clear h10
     have HN:=hid (show badsOf s.data.toList 0=bs++badsOf (s.data.toList.drop (k+1)) (k+1)from by rw[H.out.2.2,HBd.out,HC.out,HBi.out,HB9.out,HB10.out,Bool.or_true,Bool.true_or];rfl)
     go_wp2_with fail
     go_roundg (gk-1)
     case measure=>have:=Hk.out;omega
     case rel=>exact⟨k+1,x5,nb,p5,bs,rfl,by go_num,by have:=Hk.out;omega,by omega,HNb,hid ⟨H.out.1,H.out.2.1,HN.out⟩⟩
    ·have c10:(((s[k]'hlt).toNat:Int)==10)=false:=byte_ne (n:=10) (by decide) h10
     have HB10:=hid (show(s[k]==10)=false by simpa using h10)
     clear h10
     cases d1:decide ((32:Int)≤((s[k]'hlt).toNat:Int))with
     |false=>
      have HN:=hid (show badsOf s.data.toList 0=(bs++[k])++badsOf (s.data.toList.drop (k+1)) (k+1)from by rw[H.out.2.2,HBd.out,HC.out,HBi.out,HB9.out,HB10.out,d1];simp)
      go_wp2_with (first|(at_builtin;refine wpList_push_at (W:=wr) rfl (.tmp 36) (.tmp 38) 143 rfl 3 (.int .i64 0) 1 8 Tryz.underlying143 int_infos rfl (by decide) w.heap.size (.slice x5 nb p5) nb _ (by rfl) HI.out HBe.out.size #[.int .i64 (k:Nat)] (by rfl) (by rfl) (by intro u hu;simp at hu;subst hu;rfl) (by unfold maxLen;omega) (by omega) ?_;intro v9 w9 hown9 hg9 hf9;obtain⟨x9,c9,rfl,-,-⟩:=row_shape hown9;have HO9:=hid hown9;have HG9:=hid hg9;clear hown9 hg9 hf9))
      go_roundg (gk-1)
      case measure=>have:=Hk.out;omega
      case rel=>exact⟨k+1,x9,nb+1,c9,bs++[k],rfl,by go_num,by have:=Hk.out;omega,by omega,hid (by rw[List.length_append,←HNb.out];rfl),hid ⟨Ci.Bel.grown (HBe.out.alloc _) HG9.out (HI.out.alloc _),IntRow.snoc HO9.out HNb.out,HN.out⟩⟩
     |true=>
      cases d2:decide (((s[k]'hlt).toNat:Int)≤126)with
      |false=>
       have HN:=hid (show badsOf s.data.toList 0=(bs++[k])++badsOf (s.data.toList.drop (k+1)) (k+1)from by rw[H.out.2.2,HBd.out,HC.out,HBi.out,HB9.out,HB10.out,d1,d2];simp)
       go_wp2_with (first|(at_builtin;refine wpList_push_at (W:=wr) rfl (.tmp 36) (.tmp 38) 143 rfl 3 (.int .i64 0) 1 8 Tryz.underlying143 int_infos rfl (by decide) w.heap.size (.slice x5 nb p5) nb _ (by rfl) HI.out HBe.out.size #[.int .i64 (k:Nat)] (by rfl) (by rfl) (by intro u hu;simp at hu;subst hu;rfl) (by unfold maxLen;omega) (by omega) ?_;intro v9 w9 hown9 hg9 hf9;obtain⟨x9,c9,rfl,-,-⟩:=row_shape hown9;have HO9:=hid hown9;have HG9:=hid hg9;clear hown9 hg9 hf9))
       go_roundg (gk-1)
       case measure=>have:=Hk.out;omega
       case rel=>exact⟨k+1,x9,nb+1,c9,bs++[k],rfl,by go_num,by have:=Hk.out;omega,by omega,hid (by rw[List.length_append,←HNb.out];rfl),hid ⟨Ci.Bel.grown (HBe.out.alloc _) HG9.out (HI.out.alloc _),IntRow.snoc HO9.out HNb.out,HN.out⟩⟩
      |true=>
       have HN:=hid (show badsOf s.data.toList 0=bs++badsOf (s.data.toList.drop (k+1)) (k+1)from by rw[H.out.2.2,HBd.out,HC.out,HBi.out,HB9.out,HB10.out,d1,d2];rfl)
       go_wp2_with fail
       go_roundg (gk-1)
       case measure=>have:=Hk.out;omega
       case rel=>exact⟨k+1,x5,nb,p5,bs,rfl,by go_num,by have:=Hk.out;omega,by omega,HNb,hid ⟨H.out.1,H.out.2.1,HN.out⟩⟩
  ·obtain rfl:k=s.size:=by omega
   have HC0:=hid (show LiS s.data.toList w wr ⟨0,[],bs⟩ (.slice none 0 0) (.slice x5 nb p5) []from by
    have e:bs=badsOf s.data.toList 0:=by
     have:=H.out.2.2
     rw[List.drop_eq_nil_of_le (by rw[←HSZ.out];exact Nat.le_refl _)]at this
     rw[this]
     show bs=bs++[]
     simp
    subst e
    exact⟨H.out.1,rnM_nil _ _,rfl,H.out.2.1,RCutI.start _⟩)
   have HNb':=hid HNb.out
   clear H HNb
   obtain⟨wA,hwA⟩:∃wA,wA=wr:=⟨_,rfl⟩
   rw[←hwA]
   have HWA:=hid hwA
   rw[←hwA]at HC0
   clear hwA
   go_wp2_with fail
   go_loopg [4,5,8] (s.size+1) (fun gg v4 v5 v8 wr=>∃(k:Nat) (out:List Ln) (bads:List Nat) (x4 x5:Option Addr) (m p4 nb p5:Nat) (M:List (Ln×Value)),v4=.slice x4 m p4∧v5=.slice x5 nb p5∧v8=.int .i64 k∧k+gg=s.size+1∧Hid (m=M.length)∧Hid (nb=bads.length)∧Hid (LiS s.data.toList w wr ⟨k,out,bads⟩ (.slice x4 m p4) (.slice x5 nb p5) M))
   case atStart=>exact⟨0,[],bs,none,x5,0,0,nb,p5,[],rfl,rfl,rfl,by omega,hid rfl,HNb',HC0⟩
   case round=>
    clear HC0 HNb'
    obtain⟨k,out,bads,x4,x5,m,p4,nb,p5,M,rfl,rfl,rfl,hk,HMl,HNb,H⟩:=hrel
    have Hk:=hid hk
    have hkle:k≤s.size+1:=by omega
    obtain⟨gout,hg0⟩:∃gout,gout=gk:=⟨_,rfl⟩
    subst hg0
    obtain⟨wr0,hwr0⟩:∃wr0,wr0=wr:=⟨_,rfl⟩
    subst hwr0
    clear hk
    by_cases hlt:k<s.size
    ·have hlt':k<s.data.toList.length:=by rw[←HSZ.out];exact hlt
     have hnum:m≤k:=by rw[HMl.out,←List.length_map (f:=(·.1)),H.out.eq];exact H.out.ci.num
     have hnbs:nb≤600000:=by
      have h1:=H.out.ci.nb
      rw[HNb.out]
      have:bads.length≤s.data.toList.length+k:=h1
      rw[←HSZ.out]at this
      omega
     go_wp2_with fail
     go_loopg [9] (s.size-k) (fun gg v9 wr=>∃e:Nat,v9=.int .i64 e∧k≤e∧e+gg=s.size∧Hid (wr=wr0∧(10:UInt8)∉(s.data.toList.drop k).take (e-k)))
     case atStart=>exact⟨k,rfl,Nat.le_refl _,by omega,hid ⟨rfl,by simp⟩⟩
     case round=>
      obtain⟨e,rfl,hke,he,He⟩:=hrel
      have Hee:=hid he
      have hen:e≤s.size:=by omega
      have ew:=He.out.1.symm
      subst ew
      clear he
      by_cases hmore:∃h:e<s.size,s[e]≠10
      ·obtain⟨hle,hne⟩:=hmore
       have c10:¬((s[e]'hle).toNat:Int)=10:=by have:=byte_ne (n:=10) (by decide) hne;rwa[beq_eq_false_iff_ne]at this
       have HN:=hid (show(10:UInt8)∉(s.data.toList.drop k).take (e+1-k)from by
        have hle':e<s.data.toList.length:=by rw[←HSZ.out];exact hle
        rw[Ma.take_more hke hle']
        intro f
        rcases List.mem_append.1 f with f|f
        ·exact He.out.2 f
        ·exact hne (List.mem_singleton.1 f).symm)
       clear hne
       go_wp2_with fail
       go_roundg (gk-1)
       case measure=>have:=Hee.out;omega
       case rel=>exact⟨e+1,by go_num,by omega,by have:=Hee.out;omega,hid ⟨rfl,HN.out⟩⟩
      ·have HStop:=hid (show e=s.data.toList.length∨∃h:e<s.data.toList.length,s.data.toList[e]=10 from by
        rcases Nat.lt_or_ge e s.size with hle|hge
        ·refine .inr ⟨by rw[←HSZ.out];exact hle,?_⟩
         refine Classical.byContradiction fun f=>hmore ⟨hle,fun g=>f g⟩
        ·exact .inl (by rw[←HSZ.out];omega))
       have HTest:Hid ((e=s.size)∨∃h:e<s.size,((s[e]'h).toNat:Int)=10):=hid (by
        rcases Nat.lt_or_ge e s.size with hle|hge
        ·refine .inr ⟨hle,?_⟩
         have:s[e]=10:=Classical.byContradiction fun f=>hmore ⟨hle,f⟩
         rw[this];rfl
        ·exact .inl (by omega))
       clear hmore
       have HStep:=hid (H.out.ci.step (e:=e) hlt' hke (by rw[←HSZ.out];exact hen) He.out.2 HStop.out)
       have HL0:=hid (Lib.extract_data s k e)
       have hl0z:(s.extract k e).size≤262144:=by rw[ByteArray.size_extract];omega
       have HL0':=hid (show(s.extract k e).data.toList=(s.data.toList.drop k).take (e-k)from HL0.out)
       have HStep2:=hid (show RCutI s.data.toList (rsStep ⟨k,out,bads⟩ (s.extract k e).data.toList)∧(rsStep ⟨k,out,bads⟩ (s.extract k e).data.toList).at_=e+1 from by rw[HL0'.out];exact HStep.out)
       have HTr:=(show Hid (∀W,Calls Tryz.prog 152 #[.string (s.extract k e)] W fun z w'=>z=.returned (.string ⟨(trm (s.extract k e).data.toList).toArray⟩)∧w'=W)from fun W=>HTrim.out _ hl0z W)
       clear HStep HL0 HL0' He HStop
       generalize hx:s.extract k e=l0 at HStep2 HTr hl0z
       have hie:(0:Int)≤(k:Int)∧(k:Int)≤(e:Int)∧(e:Int)≤(s.size:Int):=⟨by omega,by omega,by omega⟩
       obtain⟨t,ht⟩:∃t:ByteArray,t=⟨(trm l0.data.toList).toArray⟩:=⟨_,rfl⟩
       have HTd:=hid (show t.data.toList=trm l0.data.toList by rw[ht])
       rw[←ht]at HTr
       clear ht
       have HSk:=hid (skip_bytes HTd.out)
       have HBe:=hid H.out.bel
       have HM:=hid H.out.mem
       have HE:=hid H.out.eq
       have HI:=hid (show wr0.ownsRow w.heap.size 3 1 (.slice x5 nb p5) nb (intsV bads)from by have:=H.out.ints;unfold IntRow at this;rw[←HNb.out]at this;exact this)
       have HIr:=hid H.out.ints
       have HFw:=hid (show∀l∈out,l.pcs.length≤k from H.out.ci.few)
       clear H
       by_cases h0:t.data.toList=[]
       ·have e1:(t.toList==[])=true:=by rw[ByteArray.toList_eq,h0];rfl
        have hsk:skipR l0.data.toList=true:=by rw[HSk.out,e1];rfl
        clear h0
        have HN:=hid (show RCutI s.data.toList ⟨e+1,out,bads⟩from by
         have h1:=HStep2.out.1
         have h2:=HStep2.out.2
         unfold rsStep at h1 h2
         simp only at h1 h2
         rw[h2,hsk]at h1
         exact h1)
        clear hsk
        rcases HTest.out with rfl|⟨hle,c10⟩
        ·go_wp2_with (first|(go_at_call 152;refine(HTr.out _).mono ?_;rintro e w1 ⟨rfl,h1⟩;have h1:=h1.symm;subst h1))
         go_roundg (gout-(s.size+1-k))
         case measure=>have:=Hk.out;omega
         case rel=>exact⟨s.size+1,out,bads,x4,x5,m,p4,nb,p5,M,rfl,rfl,by go_num,by have:=Hk.out;omega,HMl,HNb,hid ⟨HBe.out,HM.out,HE.out,HIr.out,HN.out⟩⟩
        ·go_wp2_with (first|(go_at_call 152;refine(HTr.out _).mono ?_;rintro e w1 ⟨rfl,h1⟩;have h1:=h1.symm;subst h1))
         go_roundg (gout-(e+1-k))
         case measure=>have:=Hk.out;omega
         case rel=>exact⟨e+1,out,bads,x4,x5,m,p4,nb,p5,M,rfl,rfl,by go_num,by have:=Hk.out;omega,HMl,HNb,hid ⟨HBe.out,HM.out,HE.out,HIr.out,HN.out⟩⟩
       ·have e1:(t.toList==[])=false:=by
         rw[ByteArray.toList_eq]
         cases hx:t.data.toList with
         |nil=>exact absurd hx h0
         |cons=>rfl
        have ht0:0<t.size:=by
         rw[Lib.size_eq]
         exact List.length_pos_iff.2 h0
        have hl0:0<l0.size:=trm_ne_pos (by rw[←HTd.out];exact h0)
        clear h0
        by_cases h35:t[0]=35
        ·have c35:(((t[0]'ht0).toNat:Int)==35)=true:=byte_eq (n:=35) (by decide) h35
         have hsk:skipR l0.data.toList=true:=by rw[HSk.out,e1,decide_eq_true ⟨ht0,h35⟩];rfl
         clear h35
         have HN:=hid (show RCutI s.data.toList ⟨e+1,out,bads⟩from by
          have h1:=HStep2.out.1
          have h2:=HStep2.out.2
          unfold rsStep at h1 h2
          simp only at h1 h2
          rw[h2,hsk]at h1
          exact h1)
         clear hsk
         rcases HTest.out with rfl|⟨hle,c10⟩
         ·go_wp2_with (first|(go_at_call 152;refine(HTr.out _).mono ?_;rintro e w1 ⟨rfl,h1⟩;have h1:=h1.symm;subst h1))
          go_roundg (gout-(s.size+1-k))
          case measure=>have:=Hk.out;omega
          case rel=>exact⟨s.size+1,out,bads,x4,x5,m,p4,nb,p5,M,rfl,rfl,by go_num,by have:=Hk.out;omega,HMl,HNb,hid ⟨HBe.out,HM.out,HE.out,HIr.out,HN.out⟩⟩
         ·go_wp2_with (first|(go_at_call 152;refine(HTr.out _).mono ?_;rintro e w1 ⟨rfl,h1⟩;have h1:=h1.symm;subst h1))
          go_roundg (gout-(e+1-k))
          case measure=>have:=Hk.out;omega
          case rel=>exact⟨e+1,out,bads,x4,x5,m,p4,nb,p5,M,rfl,rfl,by go_num,by have:=Hk.out;omega,HMl,HNb,hid ⟨HBe.out,HM.out,HE.out,HIr.out,HN.out⟩⟩
        ·have c35:(((t[0]'ht0).toNat:Int)==35)=false:=byte_ne (n:=35) (by decide) h35
         have hsk:skipR l0.data.toList=false:=by rw[HSk.out,e1,decide_eq_false fun⟨_,h⟩=>h35 h];rfl
         clear h35
         have hbl:=blank_bytes hl0
         have HBl:=(show Hid (∀W,Calls Tryz.prog 153 #[.int .u8 ((l0[0]'hl0).toNat:Int)] W fun z w'=>z=.returned (.bool (isBl l0[0]))∧w'=W)from fun W=>HBlank.out _ W)
         rw[←hbl]at HBl
         clear hbl
         cases hb:blankR l0.data.toList with
         |false=>
          rw[hb]at HBl
          have HN:=hid (show RCutI s.data.toList ⟨e+1,out++[⟨k,l0.data.toList,[]⟩],bads⟩from by
           have h1:=HStep2.out.1
           have h2:=HStep2.out.2
           unfold rsStep at h1 h2
           simp only at h1 h2
           rw[h2,hsk,hb]at h1
           exact h1)
          clear hsk hb
          rcases HTest.out with rfl|⟨hle,c10⟩
          ·go_wp2_with (first|(go_at_call 152;refine(HTr.out _).mono ?_;rintro e w1 ⟨rfl,h1⟩;have h1:=h1.symm;subst h1)|(go_at_call 153;refine(HBl.out _).mono ?_;rintro e w2 ⟨rfl,h2⟩;have h2:=h2.symm;subst h2)|(at_builtin;refine wpList_push_at (W:=wr0) rfl (.tmp 63) (.tmp 67) 142 rfl 147 (.agg #[.int .i64 0,.string ⟨#[]⟩,.slice none 0 0]) 3 48 Tryz.underlying142 rln_infos rfl (by decide) w.heap.size (.slice x4 m p4) m _ (by rfl) (by have h:=HM.out.row;rw[←HMl.out]at h;exact h) HBe.out.size #[.int .i64 (k:Nat),.string l0,.slice none 0 0] (by rfl) (by rfl) (by intro u hu;simp at hu;rcases hu with rfl|rfl|rfl<;>rfl) (by unfold maxLen;omega) (by omega) ?_;intro v9 w9 hown9 hg9 hf9;obtain⟨x9,c9,rfl,-,-⟩:=row_shape hown9;have HO9:=hid hown9;have HG9:=hid hg9;clear hown9 hg9 hf9))
           go_roundg (gout-(s.size+1-k))
           case measure=>have:=Hk.out;omega
           case rel=>exact⟨s.size+1,_,bads,x9,x5,m+1,c9,nb,p5,M++[(⟨k,l0.data.toList,[]⟩,.slice none 0 0)],rfl,rfl,by go_num,by have:=Hk.out;omega,hid (by rw[List.length_append,←HMl.out];rfl),HNb,hid ⟨Ci.Bel.grown (HBe.out.alloc _) HG9.out (HM.out.row.alloc _),RnM.push HM.out HG9.out (by rw[←HMl.out];exact HO9.out),by rw[List.map_append,HE.out];rfl,IntRow.keep HIr.out (by decide) HM.out.row HG9.out,HN.out⟩⟩
          ·go_wp2_with (first|(go_at_call 152;refine(HTr.out _).mono ?_;rintro e w1 ⟨rfl,h1⟩;have h1:=h1.symm;subst h1)|(go_at_call 153;refine(HBl.out _).mono ?_;rintro e w2 ⟨rfl,h2⟩;have h2:=h2.symm;subst h2)|(at_builtin;refine wpList_push_at (W:=wr0) rfl (.tmp 63) (.tmp 67) 142 rfl 147 (.agg #[.int .i64 0,.string ⟨#[]⟩,.slice none 0 0]) 3 48 Tryz.underlying142 rln_infos rfl (by decide) w.heap.size (.slice x4 m p4) m _ (by rfl) (by have h:=HM.out.row;rw[←HMl.out]at h;exact h) HBe.out.size #[.int .i64 (k:Nat),.string l0,.slice none 0 0] (by rfl) (by rfl) (by intro u hu;simp at hu;rcases hu with rfl|rfl|rfl<;>rfl) (by unfold maxLen;omega) (by omega) ?_;intro v9 w9 hown9 hg9 hf9;obtain⟨x9,c9,rfl,-,-⟩:=row_shape hown9;have HO9:=hid hown9;have HG9:=hid hg9;clear hown9 hg9 hf9))
           go_roundg (gout-(e+1-k))
           case measure=>have:=Hk.out;omega
           case rel=>exact⟨e+1,_,bads,x9,x5,m+1,c9,nb,p5,M++[(⟨k,l0.data.toList,[]⟩,.slice none 0 0)],rfl,rfl,by go_num,by have:=Hk.out;omega,hid (by rw[List.length_append,←HMl.out];rfl),HNb,hid ⟨Ci.Bel.grown (HBe.out.alloc _) HG9.out (HM.out.row.alloc _),RnM.push HM.out HG9.out (by rw[←HMl.out];exact HO9.out),by rw[List.map_append,HE.out];rfl,IntRow.keep HIr.out (by decide) HM.out.row HG9.out,HN.out⟩⟩
         |true=>
          rw[hb]at HBl
          have hMM:M=[]∨∃(M0:List (Ln×Value)) (x:Ln×Value),M=M0++[x]:=by
           rcases List.eq_nil_or_concat M with h|⟨a,b,h⟩
           ·exact .inl h
           ·exact .inr ⟨a,b,by rw[h];simp⟩
          rcases hMM with rfl|⟨M0,⟨l,pv⟩,rfl⟩
          ·have hout:out=[]:=HE.out.symm
           subst hout
           obtain rfl:m=0:=HMl.out
           have HN:=hid (show RCutI s.data.toList ⟨e+1,[],bads++[k]⟩from by
            have h1:=HStep2.out.1
            have h2:=HStep2.out.2
            unfold rsStep at h1 h2
            simp only at h1 h2
            rw[h2,hsk,hb]at h1
            exact h1)
           clear hsk hb
           rcases HTest.out with rfl|⟨hle,c10⟩
           ·go_wp2_with (first|(go_at_call 152;refine(HTr.out _).mono ?_;rintro e w1 ⟨rfl,h1⟩;have h1:=h1.symm;subst h1)|(go_at_call 153;refine(HBl.out _).mono ?_;rintro e w2 ⟨rfl,h2⟩;have h2:=h2.symm;subst h2)|(at_builtin;refine wpList_push_at (W:=wr0) rfl (.tmp 86) (.tmp 88) 143 rfl 3 (.int .i64 0) 1 8 Tryz.underlying143 int_infos rfl (by decide) w.heap.size (.slice x5 nb p5) nb _ (by rfl) HI.out HBe.out.size #[.int .i64 (k:Nat)] (by rfl) (by rfl) (by intro u hu;simp at hu;subst hu;rfl) (by unfold maxLen;omega) (by omega) ?_;intro v9 w9 hown9 hg9 hf9;obtain⟨x9,c9,rfl,-,-⟩:=row_shape hown9;have HO9:=hid hown9;have HG9:=hid hg9;clear hown9 hg9 hf9))
            go_roundg (gout-(s.size+1-k))
            case measure=>have:=Hk.out;omega
            case rel=>exact⟨s.size+1,[],bads++[k],x4,x9,0,p4,nb+1,c9,[],rfl,rfl,by go_num,by have:=Hk.out;omega,hid rfl,hid (by rw[List.length_append,←HNb.out];rfl),hid ⟨Ci.Bel.grown (HBe.out.alloc _) HG9.out (HI.out.alloc _),RnM.keep HM.out HI.out HG9.out,rfl,IntRow.snoc HO9.out HNb.out,HN.out⟩⟩
           ·go_wp2_with (first|(go_at_call 152;refine(HTr.out _).mono ?_;rintro e w1 ⟨rfl,h1⟩;have h1:=h1.symm;subst h1)|(go_at_call 153;refine(HBl.out _).mono ?_;rintro e w2 ⟨rfl,h2⟩;have h2:=h2.symm;subst h2)|(at_builtin;refine wpList_push_at (W:=wr0) rfl (.tmp 86) (.tmp 88) 143 rfl 3 (.int .i64 0) 1 8 Tryz.underlying143 int_infos rfl (by decide) w.heap.size (.slice x5 nb p5) nb _ (by rfl) HI.out HBe.out.size #[.int .i64 (k:Nat)] (by rfl) (by rfl) (by intro u hu;simp at hu;subst hu;rfl) (by unfold maxLen;omega) (by omega) ?_;intro v9 w9 hown9 hg9 hf9;obtain⟨x9,c9,rfl,-,-⟩:=row_shape hown9;have HO9:=hid hown9;have HG9:=hid hg9;clear hown9 hg9 hf9))
            go_roundg (gout-(e+1-k))
            case measure=>have:=Hk.out;omega
            case rel=>exact⟨e+1,[],bads++[k],x4,x9,0,p4,nb+1,c9,[],rfl,rfl,by go_num,by have:=Hk.out;omega,hid rfl,hid (by rw[List.length_append,←HNb.out];rfl),hid ⟨Ci.Bel.grown (HBe.out.alloc _) HG9.out (HI.out.alloc _),RnM.keep HM.out HI.out HG9.out,rfl,IntRow.snoc HO9.out HNb.out,HN.out⟩⟩
          ·have hout:out=M0.map (·.1)++[l]:=HE.out.symm.trans (by simp)
           subst hout
           have HN:=hid (show RCutI s.data.toList ⟨e+1,M0.map (·.1)++[⟨l.at_,l.key,l.pcs++[t.data.toList]⟩],bads⟩from by
            have h1:=HStep2.out.1
            have h2:=HStep2.out.2
            unfold rsStep at h1 h2
            simp only at h1 h2
            have h3:M0.map (·.1)++[l]≠[]:=by simp
            have h4:(M0.map (·.1)++[l]).isEmpty=false:=by simp
            rw[h2,hsk,hb,if_neg Bool.false_ne_true,if_neg Bool.false_ne_true,if_pos rfl,if_neg h3,h4,←HTd.out]at h1
            unfold addLast at h1
            rw[List.getLast?_concat,List.dropLast_concat]at h1
            exact h1)
           clear hsk hb
           obtain rfl:m=M0.length+1:=HMl.out.trans (by simp)
           obtain⟨g,rfl⟩:∃g,x4=some ⟨g,0,none⟩:=by
            rcases HM.out.row.2 with⟨-,h0⟩|⟨g,cap,cur,e,-⟩
            ·simp at h0
            ·exact⟨g,(Value.slice.inj e).1⟩
           obtain⟨cur,hcur⟩:∃cur,wr0.heap[g]?=some (.cells cur 147 (0,0)):=by
            rcases HM.out.row.2 with⟨e,-⟩|⟨g2,cap,cur,e,-,hh,-⟩
            ·cases(Value.slice.inj e).1
            ·cases(Value.slice.inj e).1;exact⟨cur,hh⟩
           have HCu:=hid hcur
           have hg2:cur[M0.length*3+2]?=some pv:=by
            rcases HM.out.row.2 with⟨e,-⟩|⟨g2,cap,cu,e,-,hh,-,-,-,htk⟩
            ·cases(Value.slice.inj e).1
            ·cases(Value.slice.inj e).1
             rw[hcur]at hh
             cases hh
             have:(cur.toList.take ((M0++[(l,pv)]).length*3))[M0.length*3+2]?=some pv:=by
              rw[htk,lnCs_snoc,List.getElem?_append_right (by rw[lnCs_len];omega),lnCs_len,show M0.length*3+2-M0.length*3=2 by omega]
              rfl
             rw[List.getElem?_take]at this
             split at this
             ·simpa using this
             ·cases this
           have HG2:=hid hg2
           have hbg:w.heap.size≤g:=by
            rcases HM.out.row.2 with⟨e,-⟩|⟨g2,cap,cu,e,hbg,-⟩
            ·cases(Value.slice.inj e).1
            ·cases(Value.slice.inj e).1;exact hbg
           have hfew:=HFw.out l (by simp)
           have HPv:=hid (HM.out.pcs (l,pv) (by simp))
           obtain⟨ax,np,cp,rfl⟩:∃ax np cp,pv=.slice ax np cp:=by
            obtain⟨x,c,e,-⟩:=row_shape HPv.out
            exact⟨_,_,_,e⟩
           have hnp:np=l.pcs.length:=by
            obtain⟨x,c,e,-⟩:=row_shape HPv.out
            exact(Value.slice.inj e).2.1
           have HNp:=hid hnp
           have hnpl:np≤262144:=by omega
           have c0:wr0.cell? ⟨g,M0.length*3+2,none⟩=some (.slice ax np cp):=by rw[Lib.cell_of_heap HCu.out];exact HG2.out
           have HBg:=hid hbg
           clear hcur hg2 hfew hnp hbg
           rcases HTest.out with rfl|⟨hle,c10⟩
           ·go_wp2_with (first|(go_at_call 152;refine(HTr.out _).mono ?_;rintro e w1 ⟨rfl,h1⟩;have h1:=h1.symm;subst h1)|(go_at_call 153;refine(HBl.out _).mono ?_;rintro e w2 ⟨rfl,h2⟩;have h2:=h2.symm;subst h2)|(at_builtin;refine wpList_push_at (W:=wr0) rfl (.tmp 104) (.tmp 106) 22 rfl 9 (.string ⟨#[]⟩) 1 16 Tryz.underlying22 str_infos rfl (by decide) w.heap.size (.slice ax np cp) np _ (by rfl) (by have h:=HPv.out;rw[←HNp.out]at h;exact h) HBe.out.size #[.string t] (by rfl) (by rfl) (by intro u hu;simp at hu;subst hu;rfl) (by unfold maxLen;omega) (by omega) ?_;intro v9 w9 hown9 hg9 hf9;obtain⟨x9,n9,c9,rfl⟩:∃x n c,v9=.slice x n c:=(by obtain⟨x,c,e,-⟩:=row_shape hown9;exact⟨_,_,_,e⟩);have HO9:=hid hown9;have HG9:=hid hg9;have HF9:=hid hf9;have e9:w9.heap[g]?=some (.cells cur 147 (0,0)):=(by rw[hg9.block g (by rw[World.size_alloc];have:=(Array.getElem?_eq_some_iff.1 HCu.out).1;omega) (fun e=>own_ne HPv.out HCu.out (by decide) e.symm),heap_alloc_old wr0 _ (Array.getElem?_eq_some_iff.1 HCu.out).1];exact HCu.out);have d9:w9.cell? ⟨g,M0.length*3+2,none⟩=some (.slice ax np cp):=(by rw[Lib.cell_of_heap e9];exact HG2.out);have f9:w9.frozen? ⟨g,M0.length*3+2,none⟩=false:=Lib.frozen_of_heap e9 (M0.length*3+2);have HE9:=hid e9;clear hown9 hg9 hf9 e9))
            have HA:=hid (radd_of (t:=t) HCu.out HG2.out HNp.out HPv.out HG9.out HF9.out HE9.out HO9.out)
            go_roundg (gout-(s.size+1-k))
            case measure=>have:=Hk.out;omega
            case rel=>exact⟨s.size+1,_,bads,some ⟨g,0,none⟩,x5,M0.length+1,p4,nb,p5,M0++[(⟨l.at_,l.key,l.pcs++[t.data.toList]⟩,.slice x9 n9 c9)],rfl,rfl,by go_num,by have:=Hk.out;omega,hid (by simp),HNb,hid ⟨HA.out.bel HBe.out HBg.out HPv.out,RnM.more HM.out HCu.out HA.out,by rw[List.map_append];rfl,IntRow.radd HIr.out HCu.out HPv.out HA.out,HN.out⟩⟩
           ·go_wp2_with (first|(go_at_call 152;refine(HTr.out _).mono ?_;rintro e w1 ⟨rfl,h1⟩;have h1:=h1.symm;subst h1)|(go_at_call 153;refine(HBl.out _).mono ?_;rintro e w2 ⟨rfl,h2⟩;have h2:=h2.symm;subst h2)|(at_builtin;refine wpList_push_at (W:=wr0) rfl (.tmp 104) (.tmp 106) 22 rfl 9 (.string ⟨#[]⟩) 1 16 Tryz.underlying22 str_infos rfl (by decide) w.heap.size (.slice ax np cp) np _ (by rfl) (by have h:=HPv.out;rw[←HNp.out]at h;exact h) HBe.out.size #[.string t] (by rfl) (by rfl) (by intro u hu;simp at hu;subst hu;rfl) (by unfold maxLen;omega) (by omega) ?_;intro v9 w9 hown9 hg9 hf9;obtain⟨x9,n9,c9,rfl⟩:∃x n c,v9=.slice x n c:=(by obtain⟨x,c,e,-⟩:=row_shape hown9;exact⟨_,_,_,e⟩);have HO9:=hid hown9;have HG9:=hid hg9;have HF9:=hid hf9;have e9:w9.heap[g]?=some (.cells cur 147 (0,0)):=(by rw[hg9.block g (by rw[World.size_alloc];have:=(Array.getElem?_eq_some_iff.1 HCu.out).1;omega) (fun e=>own_ne HPv.out HCu.out (by decide) e.symm),heap_alloc_old wr0 _ (Array.getElem?_eq_some_iff.1 HCu.out).1];exact HCu.out);have d9:w9.cell? ⟨g,M0.length*3+2,none⟩=some (.slice ax np cp):=(by rw[Lib.cell_of_heap e9];exact HG2.out);have f9:w9.frozen? ⟨g,M0.length*3+2,none⟩=false:=Lib.frozen_of_heap e9 (M0.length*3+2);have HE9:=hid e9;clear hown9 hg9 hf9 e9))
            have HA:=hid (radd_of (t:=t) HCu.out HG2.out HNp.out HPv.out HG9.out HF9.out HE9.out HO9.out)
            go_roundg (gout-(e+1-k))
            case measure=>have:=Hk.out;omega
            case rel=>exact⟨e+1,_,bads,some ⟨g,0,none⟩,x5,M0.length+1,p4,nb,p5,M0++[(⟨l.at_,l.key,l.pcs++[t.data.toList]⟩,.slice x9 n9 c9)],rfl,rfl,by go_num,by have:=Hk.out;omega,hid (by simp),HNb,hid ⟨HA.out.bel HBe.out HBg.out HPv.out,RnM.more HM.out HCu.out HA.out,by rw[List.map_append];rfl,IntRow.radd HIr.out HCu.out HPv.out HA.out,HN.out⟩⟩
    ·have HD:=hid (H.out.ci.done (by rw[←HSZ.out];exact Nat.le_of_not_lt hlt))
     go_wp2_with fail
     go_ret2
     exact⟨.slice x4 m p4,.slice x5 nb p5,M,rfl,H.out.bel,H.out.mem,by rw[HD.out.1];exact H.out.eq,by rw[HD.out.2];exact H.out.ints⟩
end Go.Proofs.YtmlmkmhkmifnkaaGreatDoor.Tb
namespace Go.Proofs.YtmlmkmhkmifnkaaGreatDoor.Tb
open Go.RowKit
open Ci (Bel hid own_bel row_shape own_base addr_add app_data ext_bytes)
theorem str_at{W:World}{base n c:Nat}{x:Option Addr}{ps:List (List UInt8)}(h:W.ownsRow base 9 1 (.slice x n c) n (strs ps))(hn:n=ps.length)(k:Nat)(hk:k<ps.length):∃g,x=some ⟨g,0,none⟩∧W.cell? ⟨g,k,none⟩=some (.string ⟨ps[k].toArray⟩):=by
 rcases h.2 with⟨-,h0⟩|⟨g,cap,cur,e,-⟩
 ·omega
 ·cases e
  refine⟨g,rfl,?_⟩
  rw[World.ownsRow.cellAt h k (by omega)]
  unfold strs
  simp[hk]
theorem valR_step{s:List UInt8}{ps:List (List UInt8)}{i:Nat}(hi:i<ps.length):valR s (ps.drop i)=valR ((if s=[]then s else s++[32])++ps[i]) (ps.drop (i+1)):=by
 rw[List.drop_eq_getElem_cons hi];rfl
theorem rvalue_run(first:ByteArray)(x:Option Addr)(n c base:Nat)(ps:List (List UInt8))(w:World)(hf:first.size≤262144)(hn:n=ps.length)(hn2:n≤262144)(hp:∀p∈ps,p.length≤262144)(hrow:w.ownsRow base 9 1 (.slice x n c) n (strs ps)):
 Calls Tryz.prog 154 #[.string first,.slice x n c] w fun e w'=>e=.returned (.string ⟨(valR (trm first.data.toList) ps).toArray⟩)∧w'=w:=by
 have HTr:=(show Hid (∀W,Calls Tryz.prog 152 #[.string first] W fun e w'=>e=.returned (.string ⟨(trm first.data.toList).toArray⟩)∧w'=W)from fun W=>rtrim_run first W (by omega))
 have htl:=trm_le first.data.toList
 rw[←Lib.size_eq]at htl
 obtain⟨t,ht⟩:∃t:ByteArray,t=⟨(trm first.data.toList).toArray⟩:=⟨_,rfl⟩
 have htz:t.size≤262144:=by rw[ht,Lib.size_eq];show(trm first.data.toList).length≤_;omega
 have HTd:=hid (show t.data.toList=trm first.data.toList by rw[ht])
 rw[←ht]at HTr
 rw[←HTd.out]
 have HN:=hid hn
 have HRow:=hid hrow
 have HP:=hid hp
 obtain⟨R,hR⟩:∃R,R=valR t.data.toList ps:=⟨_,rfl⟩
 rw[←hR]
 have HR:=hid hR
 clear ht htl hn hrow hp hR
 go_enter Tryz.func154,Tryz.ntmps154
 go_wp2_with (first|(go_at_call 152;refine(HTr.out _).mono ?_;rintro e w1 ⟨rfl,h1⟩;have h1:=h1.symm;subst h1))
 go_loopg [5,6] n (fun gg v5 v6 wr=>∃(cur:ByteArray) (i:Nat),v5=.string cur∧v6=.int .i64 i∧i+gg=n∧cur.size≤(i+1)*300000∧Hid (wr=w∧R=valR cur.data.toList (ps.drop i)))
 case atStart=>exact⟨t,0,rfl,rfl,by omega,by omega,hid ⟨rfl,HR.out⟩⟩
 case round=>
  obtain⟨cur,i,rfl,rfl,hi,hcz,H⟩:=hrel
  have Hi:=hid hi
  have hin:i≤n:=by omega
  have ew:=H.out.1.symm
  subst ew
  clear hi
  by_cases hlt:i<n
  ·have hip:i<ps.length:=by rw[←HN.out];exact hlt
   obtain⟨g,rfl,c0⟩:=str_at HRow.out HN.out i hip
   have HS:=hid (H.out.2.trans (valR_step hip))
   have hpl:=HP.out ps[i] (List.getElem_mem hip)
   generalize ps[i]=pi at c0 HS hpl
   obtain⟨q,hq⟩:∃q:ByteArray,q=⟨pi.toArray⟩:=⟨_,rfl⟩
   have hqz:q.size≤262144:=by rw[hq,Lib.size_eq];exact hpl
   have HQd:=hid (show q.data.toList=pi by rw[hq])
   rw[←hq]at c0
   rw[←HQd.out]at HS
   have d1:decide ((i:Int)<0)=false:=decide_eq_false (by omega)
   have d2:decide ((n:Int)≤(i:Int))=false:=decide_eq_false (by omega)
   have hcz2:cur.size≤100000000000:=by omega
   clear hq hpl
   by_cases he:cur.data.toList=[]
   ·have b1:¬cur.toList=[]→False:=fun f=>f (by rw[ByteArray.toList_eq];exact he)
    have b2:(cur.toList==[])=true:=by rw[ByteArray.toList_eq,he];rfl
    have b3:(cur.toList !=[])=false:=by rw[ByteArray.toList_eq,he];rfl
    have a1:∀W:World,(Op.stringOp .add cur q).run Tryz.prog W=.ok (.string (cur++q)) W:=fun W=>run_string_add_sum W _ _ (by omega)
    have HN2:=hid (show R=valR (cur++q).data.toList (ps.drop (i+1))from by rw[HS.out,if_pos he,app_data])
    have hcz3:(cur++q).size≤(i+1+1)*300000:=by rw[ByteArray.size_append];omega
    clear he b1
    go_wp2_with fail
    go_roundg (gk-1)
    case measure=>have:=Hi.out;omega
    case rel=>exact⟨cur++q,i+1,rfl,by go_num,by have:=Hi.out;omega,hcz3,hid ⟨rfl,HN2.out⟩⟩
   ·have b1:¬cur.toList=[]:=by rw[ByteArray.toList_eq];exact he
    have b2:(cur.toList==[])=false:=by rw[beq_eq_false_iff_ne];exact b1
    have b3:(cur.toList !=[])=true:=by simpa using b1
    have b4:cur.toList.isEmpty=false:=by rw[←Bool.not_eq_true,List.isEmpty_iff];exact b1
    have a1:∀W:World,(Op.stringOp .add cur ⟨#[32]⟩).run Tryz.prog W=.ok (.string (cur++⟨#[32]⟩)) W:=fun W=>run_string_add_sum W _ _ (by show cur.size+1≤_;omega)
    have a2:∀W:World,(Op.stringOp .add (cur++⟨#[32]⟩) q).run Tryz.prog W=.ok (.string ((cur++⟨#[32]⟩)++q)) W:=fun W=>run_string_add_sum W _ _ (by rw[ByteArray.size_append];show cur.size+1+q.size≤_;omega)
    have HN2:=hid (show R=valR ((cur++⟨#[32]⟩)++q).data.toList (ps.drop (i+1))from by rw[HS.out,if_neg he,app_data,app_data])
    have hcz3:((cur++⟨#[32]⟩)++q).size≤(i+1+1)*300000:=by rw[ByteArray.size_append,ByteArray.size_append];show cur.size+1+q.size≤_;omega
    clear he
    go_wp2_with fail
    go_roundg (gk-1)
    case measure=>have:=Hi.out;omega
    case rel=>exact⟨(cur++⟨#[32]⟩)++q,i+1,rfl,by go_num,by have:=Hi.out;omega,hcz3,hid ⟨rfl,HN2.out⟩⟩
  ·obtain rfl:i=n:=by omega
   have HX:=hid (show R=cur.data.toList by
    rw[H.out.2,HN.out,List.drop_eq_nil_of_le (Nat.le_refl _)];rfl)
   go_wp2_with fail
   go_ret
   exact⟨by rw[HX.out];rfl,rfl⟩
end Go.Proofs.YtmlmkmhkmifnkaaGreatDoor.Tb
namespace Go.Proofs.YtmlmkmhkmifnkaaGreatDoor.Tb
open Go.RowKit
open Ci (Bel hid own_bel row_shape own_base addr_add Aft wp_region_aft)
theorem cell_lt{w:World}{b o:Nat}{v:Value}(h:w.cell? ⟨b,o,none⟩=some v):b<w.heap.size:=by
 cases h1:w.heap[b]? with
 |none=>simp[World.cell?,h1]at h
 |some x=>exact(Array.getElem?_eq_some_iff.1 h1).1
theorem less_ltK:∀(x y:List UInt8),Op.bytesLess x y=ltK x y
 |[],[]=>by rw[ltK,cmp_nil];rfl
 |b::l,[]=>by rw[ltK,cmp_nil_r];rfl
 |[],b::l=>by rw[ltK,cmp_nil_l];rfl
 |a::x,b::y=>by
  rw[Op.bytesLess,less_ltK x y,ltK,ltK,cmp_cons]
  by_cases h1:a<b
  ·simp[h1]
  ·by_cases h2:b<a
   ·have:(a==b)=false:=by
     cases e:a==b with
     |false=>rfl
     |true=>rw[eq_of_beq e]at h2;exact absurd h2 (u8_irr b)
    simp[h1,h2,this]
   ·have:a=b:=UInt8.toNat_inj.1 (by
     rw[UInt8.lt_iff_toNat_lt]at h1 h2;omega)
    subst this
    simp[h1]
theorem eq_cmp(x y:List UInt8):(x==y)=decide (Lib.compareBytes x y=0):=by
 by_cases e:x=y
 ·subst e;simp[cmp_self]
 ·rw[beq_false_of_ne e,decide_eq_false fun h=>e ((cmp_zero x y).1 h)]
theorem rplace_run(b:Nat)(x:Option Addr)(es:List En)(c:Nat)(key:ByteArray)(w:World)(hb:w.heap[b]?=some (.cells #[.slice x es.length c] 80 (0,0)))(hE:∀k (hk:k<es.length),∃b o,x=some ⟨b,o,none⟩∧w.cell? ⟨b,o+k*2,none⟩=some (.string ⟨es[k].key.toArray⟩))(hs:Srt es)(hn:es.length≤2000):
 Calls Tryz.prog 85 #[.pointer (some ⟨b,0,none⟩),.string key] w fun e w'=>e=.returned (.tuple #[.int .i64 (rank es key.data.toList:Nat),.bool (foundB es key.data.toList)])∧Bel w w':=by
 have HB:=hid hb
 have c0:w.cell? ⟨b,0,none⟩=some (.slice x es.length c):=by rw[Lib.cell_of_heap HB.out];rfl
 have H0:=hid (show BsI es key.data.toList 0 es.length from⟨Nat.zero_le _,Nat.le_refl _,fun t _ h=>absurd h (Nat.not_lt_zero _),fun t ht h=>by omega⟩)
 go_enter Tryz.func85,Tryz.ntmps85
 go_wp2_with fail
 go_loopg [6,7] (es.length+1) (fun gg v6 v7 wr=>∃lo hi:Nat,v6=.int .i64 lo∧v7=.int .i64 hi∧hi-lo≤gg∧Hid (wr=w∧BsI es key.data.toList lo hi))
 case atStart=>exact⟨0,es.length,rfl,rfl,by omega,hid ⟨rfl,H0.out⟩⟩
 case round=>
  obtain⟨lo,hi,rfl,rfl,hg,H⟩:=hrel
  have ew:=H.out.1.symm
  subst ew
  have hle:=H.out.2.le
  have hhi:=H.out.2.hle
  by_cases hlt:lo<hi
  ·have hm:(lo+hi)/2<es.length:=by omega
   obtain⟨g,o,rfl,cm⟩:=hE ((lo+hi)/2) hm
   have hL:Op.bytesLess es[(lo+hi)/2].key key.toList=ltK es[(lo+hi)/2].key key.data.toList:=by rw[Lib.toList_data];exact less_ltK _ _
   cases hk:ltK es[(lo+hi)/2].key key.data.toList with
   |true=>
    rw[hk]at hL
    have HU:=hid (H.out.2.up hs (by omega:(lo+hi)/2<hi) (by omega) hk)
    generalize es[(lo+hi)/2]=y at cm hL
    go_wp2_with fail
    go_roundg (gk-1)
    case measure=>omega
    case rel=>exact⟨(lo+hi)/2+1,hi,by rw[show((lo:Int)+(hi:Int))/2+1=(((lo+hi)/2+1:Nat):Int) by omega],rfl,by omega,hid ⟨rfl,HU.out⟩⟩
   |false=>
    rw[hk]at hL
    have HU:=hid (H.out.2.down hs (by omega:(lo+hi)/2<hi) (by omega) hk)
    generalize es[(lo+hi)/2]=y at cm hL
    go_wp2_with fail
    go_roundg (gk-1)
    case measure=>omega
    case rel=>exact⟨lo,(lo+hi)/2,rfl,by rw[show((lo:Int)+(hi:Int))/2=(((lo+hi)/2:Nat):Int) by omega],by omega,hid ⟨rfl,HU.out⟩⟩
  ·obtain rfl:hi=lo:=by omega
   have HR:=hid (rank_eq hhi H.out.2.low H.out.2.high)
   by_cases hlast:hi<es.length
   ·obtain⟨g,o,rfl,cm⟩:=hE hi hlast
    have HF:=hid (found_at HR.out hlast)
    have hL:(es[hi].key==key.toList)=decide (Lib.compareBytes es[hi].key key.data.toList=0):=by rw[Lib.toList_data];exact eq_cmp _ _
    generalize es[hi]=y at cm hL HF
    clear hE hs
    have C0:∀p:Aft w,p.wd.cell? ⟨b,0,none⟩=some (.slice (some ⟨g,o,none⟩) es.length c):=fun p=>(bel_cell p.bel (cell_lt c0)).trans c0
    have CM:∀p:Aft w,p.wd.cell? ⟨g,o+hi*2,none⟩=some (.string ⟨y.key.toArray⟩):=fun p=>(bel_cell p.bel (cell_lt cm)).trans cm
    have d1:decide ((hi:Int)<es.length)=true:=decide_eq_true (by omega)
    go_wp2_with fail
    refine wp_region_aft (by kernel_rfl) (by kernel_rfl) ?_
    repeat (first|go_big_quiet_skip|go_big_quiet_step (fail)|quiet_step (fail))
    refine wpQuiet_nil ?_
    rintro _ ⟨p,rfl⟩
    go_wp2_with fail
    go_ret2
    exact⟨by rw[HR.out,HF.out];rfl,p.bel⟩
   ·obtain rfl:hi=es.length:=by omega
    have HF:=hid (found_no HR.out)
    have C0:∀p:Aft w,p.wd.cell? ⟨b,0,none⟩=some (.slice x es.length c):=fun p=>(bel_cell p.bel (cell_lt c0)).trans c0
    have d1:decide ((es.length:Int)<es.length)=false:=decide_eq_false (by omega)
    go_wp2_with fail
    refine wp_region_aft (by kernel_rfl) (by kernel_rfl) ?_
    repeat (first|go_big_quiet_skip|go_big_quiet_step (fail)|quiet_step (fail))
    refine wpQuiet_nil ?_
    rintro _ ⟨p,rfl⟩
    go_wp2_with fail
    go_ret2
    exact⟨by rw[HR.out,HF.out];rfl,p.bel⟩
end Go.Proofs.YtmlmkmhkmifnkaaGreatDoor.Tb