import Derived.Test.YtmlmkmhkmifnkaaGreatDoorK30
import Derived.Test.YtmlmkmhkmifnkaaGreatDoorRows
import Derived.ProofKit
import Derived.OpenShut
import Derived.ChangeArms
import Derived.DataShut
import Derived.Deep.Slices
import Derived.Deep.Fields
import Derived.ChangeSame
import Derived.Carry
import Derived.Deep.DeepHandedRow
import Derived.Deep.DeepWitnessRowRef
import Derived.Lib.LaidIn
import Derived.Lib.LaidTab
import Derived.Lib.LaidU8
import Derived.Lib.LaidCaseMet
import Derived.PinnedBridge
import Derived.Stop.LaidErr
import Derived.HandedShaped
import Derived.WalkSmall
set_option maxHeartbeats 16000000
set_option maxRecDepth 1000000
namespace Go.Proofs.YtmlmkmhkmifnkaaGreatDoor.Hs
open Go.RowKit
open Ci (hid Bel own_bel own_base row_shape addr_add Lay Aft wp_region_aft Calls.aft)
open Tb (bodyQ isA body_cl Lat CnAt Sts newC En cnew_run CnPost cawake_run isaddr_run)
theorem new_err2{h:ByteArray}{x:Option Addr}{bs:List ByteArray}{c:Nat}{w:World}{k:Int}(hw:Lat w)(hh:h.size≤4194304)(hS:Sts w x bs)(hn:newC h.data.toList (bs.map (·.data.toList))=.error k)(W:World)(hW:Bel w W):Calls Tryz.prog 11 #[.string h,.slice x bs.length c] W fun e w'=>e=.returned (.tuple #[.pointer none,.int .i64 k])∧Bel W w':=by
 refine(cnew_run h x bs c W (hw.next hW) hh (hS.next hW)).mono fun e w' hp=> ?_
 unfold CnPost at hp
 rw[hn]at hp
 exact hp
theorem new_good2{h:ByteArray}{x:Option Addr}{bs:List ByteArray}{c:Nat}{w:World}{ts:List (List En)}(hw:Lat w)(hh:h.size≤4194304)(hS:Sts w x bs)(hn:newC h.data.toList (bs.map (·.data.toList))=.ok ts)(W:World)(hW:Bel w W):Calls Tryz.prog 11 #[.string h,.slice x bs.length c] W fun e w'=>∃b:Nat,e=.returned (.tuple #[.pointer (some ⟨b,0,none⟩),.int .i64 0])∧Bel W w'∧CnAt w' (some ⟨b,0,none⟩) h.data.toList ts:=by
 refine(cnew_run h x bs c W (hw.next hW) hh (hS.next hW)).mono fun e w' hp=> ?_
 unfold CnPost at hp
 rw[hn]at hp
 obtain⟨a,h1,h2,h3⟩:=hp
 obtain⟨b,t,mb,rfl,-⟩:=h3.at_
 exact⟨b,h1,h2,h3⟩
theorem fd_at{W:World}{g:Nat}{S:List Sg}(h:∀j u,(fdCs (fds 0 S))[j]?=some u→W.cell? ⟨g,j,none⟩=some u)(k:Nat)(hk:k<S.length):W.cell? ⟨g,k*4,none⟩=some (.string ⟨S[k].nm.toArray⟩)∧W.cell? ⟨g,k*4+2,none⟩=some (.int .i64 ((fl (S.take k)).length:Nat))∧W.cell? ⟨g,k*4+3,none⟩=some (.int .i64 ((fl (S.take (k+1))).length:Nat)):=
 ⟨h _ _ (fds_cells S k hk 0 _ rfl),h _ _ (fds_cells S k hk 2 _ rfl),h _ _ (fds_cells S k hk 3 _ rfl)⟩
theorem tail_eq{d r:List UInt8}{S:List Sg}(h:d=fl S++r):d.drop ((fl S).length+stopAt r)=r.drop (stopAt r):=by
 rw[h,←List.drop_drop,List.drop_left]
theorem stop_le(r:List UInt8):stopAt r≤r.length:=by
 unfold stopAt
 split
 ·exact Nat.zero_le _
 ·split
  ·exact next_le r
  ·exact Nat.zero_le _
theorem tail_le{d r:List UInt8}{S:List Sg}(h:d=fl S++r):(fl S).length+stopAt r≤d.length:=by
 have h1:=congrArg List.length h
 rw[List.length_append]at h1
 have:=stop_le r
 omega
theorem too_turn{S:List Sg}(T:Sg→Sg)(h:tooI (fds 0 S)=0):tooI (fds 0 (S.map T))=0∨tooI (fds 0 (S.map T))=111:=by
 obtain⟨-,h2⟩:=too_small h
 unfold tooI
 rw[fds_len,List.length_map]
 split
 ·right;rfl
 ·rw[if_neg (by omega)];left;rfl
theorem br_from{W:World}{p:Option Addr}{c:Nat}{l:List UInt8}(h:Br W p c l)(k:Nat)(hk:k≤l.length):Bs W (if c=k then p else p.map (·.add k)) (l.drop k):=fun h0=>by
 rw[List.length_drop]at h0
 obtain⟨b,o,rfl,hc⟩:=h.bs (by omega)
 have:=h.le
 rw[if_neg (by omega)]
 have h2:=bs_drop hc k
 rw[Option.map_some,addr_add]
 exact h2 (by rw[List.length_drop];omega)
theorem fl_part{S:List Sg}{k:Nat}(hk:k<S.length):(fl (S.take k)).length+(S[k]).b.length=(fl (S.take (k+1))).length∧(fl (S.take (k+1))).length≤(fl S).length:=by
 refine⟨by rw[fl_take_one hk,List.length_append],?_⟩
 have h2:fl S=fl (S.take (k+1))++fl (S.drop (k+1)):=by rw[←fl_app,List.take_append_drop]
 have h3:=congrArg List.length h2
 rw[List.length_append]at h3
 omega
theorem fl_cut{d r:List UInt8}{S:List Sg}(h:d=fl S++r){k:Nat}(hk:k<S.length):(d.drop (fl (S.take k)).length).take (S[k]).b.length=(S[k]).b:=by
 have:=fds_bytes S r k hk
 rw[←h,←(fl_part hk).1]at this
 rw[List.drop_take]at this
 rwa[Nat.add_sub_cancel_left]at this
theorem keep_cell{a w:World}{b o:Nat}{v:Value}(h:Bel a w)(hc:a.cell? ⟨b,o,none⟩=some v):w.cell? ⟨b,o,none⟩=some v:=by
 have hlt:b<a.heap.size:=by
  refine Nat.lt_of_not_le fun hge=> ?_
  simp[World.cell?,Array.getElem?_eq_none hge]at hc
 rw[h.cell hlt];exact hc
theorem part_run{W:World}{b o c:Nat}{d r:List UInt8}{S:List Sg}(h:Br W (some ⟨b,o,none⟩) c d)(hd:d=fl S++r){k:Nat}(hk:k<S.length){fr tt:Nat}(h1:fr=(fl (S.take k)).length)(h2:tt=(fl (S.take (k+1))).length):
 (convert 48 9 (.slice (some ⟨b,o+fr,none⟩) (tt-fr) (c-fr))).run Tryz.prog W=.ok (.string ⟨(S[k]).b.toArray⟩) W:=by
 have h3:=(fl_part hk).1
 have h4:=fl_cut hd hk
 have hsl:=(S[k]).len
 have h6:=(fl_part hk).2
 have h7:=congrArg List.length hd
 rw[List.length_append]at h7
 obtain⟨b',o',e,hc⟩:=h.bs (by omega)
 cases e
 have h5:=bs_sub hc fr (tt-fr)
 rw[h1,h2,←h3,Nat.add_sub_cancel_left,h4]at h5
 rw[h1,h2,←h3,Nat.add_sub_cancel_left]
 exact conv_bs h5 _
theorem new_err_ne{h:List UInt8}{L:List (List UInt8)}{k:Int}(hn:newC h L=.error k):(k !=0)=true:=by
 have hk:k≠0:=by
  unfold newC at hn
  split at hn
  ·cases hn;decide
  ·split at hn<;>cases hn
   decide
 simpa using hk
theorem keeps_law(hs:ByteArray)(x:Option Addr)(bs:List ByteArray)(cap:Nat)(p:Option Addr)(d:List UInt8)(c:Nat)(w:World)(hw:Lat w)(hh:hs.size≤4194304)(hS:Sts w x bs)(hb:Br w p c d)(hd:d.length≤4194304):
 Calls Tryz.prog 9 #[.agg #[.string hs,.slice x bs.length cap],.slice p d.length c] w fun e w'=>e=.returned (.bool true)∧Bel w w':=by
 obtain⟨W1,hW1⟩:∃W1,W1=w.alloc (.cells #[.string hs,.slice x bs.length cap] 24):=⟨_,rfl⟩
 have HB1:=hid (show Bel w W1 by rw[hW1];exact(Bel.refl w).alloc _)
 have HK:=hid (show∀W,Bel W1 W→W.cell? ⟨w.heap.size,0,none⟩=some (.string hs)∧W.cell? ⟨w.heap.size,1,none⟩=some (.slice x bs.length cap)from fun W hW=>by
  have h0:W1.heap[w.heap.size]?=some (.cells #[.string hs,.slice x bs.length cap] 24 (0,0)):=by rw[hW1];exact heap_alloc_new w _
  exact⟨by rw[Lib.cell_of_heap (hW.heap h0)];rfl,by rw[Lib.cell_of_heap (hW.heap h0)];rfl⟩)
 have HAw:=hid (fun W (hW:Bel w W)=>cawake_run W (hw.next hW))
 cases hn:newC hs.data.toList (bs.map (·.data.toList))with
 |error k=>
  have HN:=hid (new_err2 (c:=cap) hw hh hS hn)
  have b1:=new_err_ne hn
  clear hw hS hn hb
  generalize bs.length=n at hW1 HK HN⊢
  go_enter Tryz.func9,Tryz.ntmps9
  go_wp2_with (first|(go_at_call 10;(try rw[←hW1]);with_reducible refine(HAw.out W1 HB1.out).mono ?_;rintro _ W2 ⟨rfl,hb2⟩;have HX2:=hid hb2;have HB2:=hid (HB1.out.trans hb2);have c0:=(HK.out W2 hb2).1;have c1:=(HK.out W2 hb2).2;clear hb2)|(go_at_call 11;with_reducible refine(HN.out W2 HB2.out).mono ?_;rintro _ W3 ⟨rfl,hb3⟩;have HB3:=hid (HB2.out.trans hb3);clear hb3))
  go_ret
  exact⟨rfl,HB3.out⟩
 |ok ts=>
  obtain⟨S,r,hD,-⟩:=splits d
  obtain⟨M,hM⟩:∃M,M=msgQ hs.data.toList ts d S r:=⟨_,rfl⟩
  have HN:=hid (new_good2 (c:=cap) hw hh hS hn)
  have HMs:=(show Hid (∀W b,Bel w W→CnAt W (some ⟨b,0,none⟩) hs.data.toList ts→Calls Tryz.prog 21 #[.pointer (some ⟨b,0,none⟩),.slice p d.length c] W fun e w'=>∃q dd,e=.returned (.slice q M.length dd)∧Bel W w'∧Br w' q dd M)from hid fun W b hW hC=>by rw[hM];exact message_run _ _ ts p c d W (hw.next hW) hC (hb.next hW) hd S r hD)
  have hMl:M.length≤69730304:=by rw[hM];have:=msg_le (h:=hs.data.toList) (ts:=ts) hD;omega
  obtain⟨E,hE⟩:∃E,E=tooI (fds 0 S):=⟨_,rfl⟩
  obtain⟨A1,hA1⟩:∃A1,A1=(fl S).length+stopAt r:=⟨_,rfl⟩
  obtain⟨n,hnS⟩:∃n,n=S.length:=⟨_,rfl⟩
  have HSp:=(show Hid (∀W,Bel w W→Calls Tryz.prog 23 #[.slice p d.length c] W fun e w'=>∃v,e=.returned (if E=0 then .tuple #[v,.int .i64 (A1:Int),.int .i64 0]else .tuple #[.slice none 0 0,.int .i64 0,.int .i64 E])∧Bel W w'∧FdR w' v (fds 0 S))from hid fun W hW=>by
   have h0:=hb.next hW
   have h1:=rsplit_run p d c W h0.bs (by omega) h0.le h0.lt
   rw[splits_of hD]at h1
   dsimp only at h1
   rw[←hE,←hA1]at h1
   exact h1.mono fun e w' ⟨v,h2,h3,h4⟩=>⟨v,h2,h3,h4.read⟩)
  have HD:=hid hD
  have HM:=hid hM
  have HE:=hid hE
  have HA1:=hid hA1
  have HNS:=hid hnS
  have HBr:=hid hb
  have hle:=hb.le
  have hlt:=hb.lt
  have HW:=hid hw
  clear hw hS hn hb hM hD hE hA1 hnS
  generalize bs.length=nb at hW1 HK HN⊢
  by_cases h0:E=0
  ·subst h0
   have HSp2:=(show Hid (∀W,Bel w W→Calls Tryz.prog 23 #[.slice p d.length c] W fun e w'=>∃x5 c5,e=.returned (.tuple #[.slice x5 n c5,.int .i64 (A1:Int),.int .i64 0])∧Bel W w'∧n≤c5∧c5≤9223372036854775807∧(S≠[]→∃g,x5=some ⟨g,0,none⟩∧∀j u,(fdCs (fds 0 S))[j]?=some u→w'.cell? ⟨g,j,none⟩=some u))from hid fun W hW=>(HSp.out W hW).mono fun e w' ⟨v,h1,h2,h3⟩=>by
    obtain⟨x5,c5,hv,e1,e2,e3⟩:=h3
    subst hv
    rw[fds_len,←HNS.out]at h1 e1
    exact⟨x5,c5,h1,h2,e1,e2,fun hne=>e3 fun e=>hne (by have:=congrArg List.length e;rw[fds_len]at this;exact List.length_eq_zero_iff.mp this)⟩)
   obtain⟨S2,hS2⟩:∃S2,S2=S.map (turnQ hs.data.toList ts):=⟨_,rfl⟩
   have hM2:M=fl S2++r:=by rw[HM.out];unfold msgQ;rw[if_pos HE.out.symm,hS2]
   have hD2:Dec M S2 r:=by
    rw[hM2,hS2]
    exact turn_dec (fun b hb=>body_cl hb) HD.out
   have hE2:=too_turn (turnQ hs.data.toList ts) HE.out.symm
   rw[←hS2]at hE2
   obtain⟨A2,hA2⟩:∃A2,A2=(fl S2).length+stopAt r:=⟨_,rfl⟩
   have hS2l:S2.length=n:=by rw[hS2,List.length_map,HNS.out]
   clear HSp
   rcases hE2 with h2|h2
   ·have HSq:=(show Hid (∀W q dd,Br W q dd M→Calls Tryz.prog 23 #[.slice q M.length dd] W fun e w'=>∃x5 c5,e=.returned (.tuple #[.slice x5 n c5,.int .i64 (A2:Int),.int .i64 0])∧Bel W w'∧n≤c5∧c5≤9223372036854775807∧(S2≠[]→∃g,x5=some ⟨g,0,none⟩∧∀j u,(fdCs (fds 0 S2))[j]?=some u→w'.cell? ⟨g,j,none⟩=some u))from hid fun W q dd hb=>by
     have h1:=rsplit_run q M dd W hb.bs (by omega) hb.le hb.lt
     rw[splits_of hD2]at h1
     dsimp only at h1
     simp only[if_pos h2]at h1
     rw[←hA2]at h1
     refine h1.mono fun e w' ⟨v,g1,g2,g3⟩=> ?_
     obtain⟨x5,c5,hv,e1,e2,e3⟩:=g3.read
     subst hv
     rw[fds_len,hS2l]at g1 e1
     exact⟨x5,c5,g1,g2,e1,e2,fun hne=>e3 fun e=>hne (by have:=congrArg List.length e;rw[fds_len]at this;exact List.length_eq_zero_iff.mp this)⟩)
    obtain⟨tb,htb⟩:∃tb:ByteArray,tb=⟨(r.drop (stopAt r)).toArray⟩:=⟨_,rfl⟩
    have hA1d:A1≤d.length:=by rw[HA1.out];exact tail_le HD.out.eq
    have hA2d:A2≤M.length:=by rw[hA2];exact tail_le hM2
    have HCv1:=(show Hid (∀W,Bel w W→(convert 48 9 (.slice (if c=A1 then p else Option.map (fun x=>x.add A1) p) (d.length-A1) (c-A1))).run Tryz.prog W=.ok (.string tb) W)from hid fun W hW=>by
     have h1:=br_from (HBr.out.next hW) A1 hA1d
     have h3:=conv_bs h1 (c-A1)
     rw[List.length_drop,HA1.out,tail_eq HD.out.eq,←htb,←HA1.out]at h3
     exact h3)
    have HCv2:=(show Hid (∀W q dd,Br W q dd M→(convert 48 9 (.slice (if dd=A2 then q else Option.map (fun x=>x.add A2) q) (M.length-A2) (dd-A2))).run Tryz.prog W=.ok (.string tb) W)from hid fun W q dd hb=>by
     have h1:=br_from hb A2 hA2d
     have h3:=conv_bs h1 (dd-A2)
     rw[List.length_drop,hA2,tail_eq hM2,←htb,←hA2]at h3
     exact h3)
    have HM2:=hid (And.intro hM2 (And.intro hS2 (And.intro hD2 (And.intro hA2 hS2l))))
    clear hM2 hD2 hA2 htb h2 hS2 hS2l
    go_enter Tryz.func9,Tryz.ntmps9
    go_upto_region 14 with(first|(go_at_call 10;(try rw[←hW1]);with_reducible refine(HAw.out W1 HB1.out).mono ?_;rintro _ W2 ⟨rfl,hb2⟩;have HX2:=hid hb2;have HB2:=hid (HB1.out.trans hb2);have c0:=(HK.out W2 hb2).1;have c1:=(HK.out W2 hb2).2;clear hb2)|(go_at_call 11;with_reducible refine(HN.out W2 HB2.out).mono ?_;rintro _ W3 ⟨b3,rfl,hb3,hc3⟩;have HC3:=hid hc3;have HB3:=hid (HB2.out.trans hb3);clear hb3 hc3)|(go_at_call 21;with_reducible refine(HMs.out W3 b3 HB3.out HC3.out).mono ?_;rintro _ W4 ⟨q,dd,rfl,hb4,hr4⟩;have HB34:=hid hb4;have HB4:=hid (HB3.out.trans hb4);have HR4:=hid hr4;clear hb4 hr4)|(go_at_call 23;with_reducible refine(HSp2.out W4 HB4.out).mono ?_;rintro _ W5 ⟨x5,c5,rfl,hb5,hn5,hm5,hf5⟩;have HB45:=hid hb5;have HB5:=hid (HB4.out.trans hb5);have HF5:=hid hf5;clear hb5 hf5)|(go_at_call 23;with_reducible refine(HSq.out W5 q dd (HR4.out.next HB45.out)).mono ?_;rintro _ W6 ⟨x6,c6,rfl,hb6,hn6,hm6,hf6⟩;have HB56:=hid hb6;have HB6:=hid (HB5.out.trans hb6);have HF6:=hid hf6;clear hb6 hf6))
    have cv1:=fun k:Nat=>HCv1.out (W6.drewN k) (HB6.out.drewN k)
    have cv2:=fun k:Nat=>HCv2.out (W6.drewN k) q dd (HR4.out.next ((HB45.out.trans HB56.out).drewN k))
    have hdd:=HR4.out.le
    have hdl:=HR4.out.lt
    have i1:(A1:Int)≤(d.length:Int):=by omega
    have i2:(A2:Int)≤(M.length:Int):=by omega
    go_quiet (fail)
    obtain⟨w7,hw7⟩:∃w7,w7=W6.drewN nq:=⟨_,rfl⟩
    have HB7:=hid (show Bel W6 w7 by rw[hw7];exact(Bel.refl W6).drewN nq)
    rw[←hw7]
    clear hw7 cv1 cv2 i1 i2
    generalize (if c=A1 then p else Option.map (fun x=>x.add A1) p)=z1
    generalize (if dd=A2 then q else Option.map (fun x=>x.add A2) q)=z2
    have HBw7:=hid (HB6.out.trans HB7.out)
    go_wp2_with fail
    go_loopg [15] n (fun gg v15 wr=>∃k:Nat,v15=.int .i64 k∧k+gg=n∧Hid (Bel w7 wr))
    case atStart=>exact⟨0,rfl,by omega,hid (Bel.refl w7)⟩
    case round=>
     obtain⟨k,rfl,hk,H⟩:=hrel
     have HK:=hid hk
     have hkn:k≤n:=by omega
     clear hk
     have HBwr:=hid (HBw7.out.trans H.out)
     have HB4r:=hid (HB45.out.trans (HB56.out.trans (HB7.out.trans H.out)))
     have HB5r:=hid (HB56.out.trans (HB7.out.trans H.out))
     have HB6r:=hid (HB7.out.trans H.out)
     by_cases hltk:k<n
     ·have b0:decide ((k:Int)<(n:Int))=true:=decide_eq_true (by omega)
      have hkS:k<S.length:=by rw[←HNS.out];exact hltk
      have hkS2:k<S2.length:=by rw[HM2.out.2.2.2.2];exact hltk
      obtain⟨g5,hx5,hc5⟩:=HF5.out (fun e=>by rw[e]at hkS;cases hkS)
      obtain⟨g6,hx6,hc6⟩:=HF6.out (fun e=>by rw[e]at hkS2;cases hkS2)
      subst hx5
      subst hx6
      obtain⟨s,hs0⟩:∃s,s=S[k]'hkS:=⟨_,rfl⟩
      have hs2:S2[k]'hkS2=turnQ hs.data.toList ts s:=by
       have:S2[k]?=some (turnQ hs.data.toList ts s):=by rw[HM2.out.2.1,List.getElem?_map,List.getElem?_eq_getElem hkS,hs0];rfl
       exact Option.some.inj ((List.getElem?_eq_getElem hkS2).symm.trans this)
      obtain⟨c50,c52,c53⟩:=fd_at hc5 k hkS
      obtain⟨c60,c62,c63⟩:=fd_at hc6 k hkS2
      obtain⟨fr1,hfr1⟩:∃y,y=(fl (S.take k)).length:=⟨_,rfl⟩
      obtain⟨to1,hto1⟩:∃y,y=(fl (S.take (k+1))).length:=⟨_,rfl⟩
      obtain⟨fr2,hfr2⟩:∃y,y=(fl (S2.take k)).length:=⟨_,rfl⟩
      obtain⟨to2,hto2⟩:∃y,y=(fl (S2.take (k+1))).length:=⟨_,rfl⟩
      obtain⟨nm,hnm⟩:∃nm:ByteArray,nm=⟨s.nm.toArray⟩:=⟨_,rfl⟩
      rw[←hs0,←hnm]at c50
      rw[hs2,show(turnQ hs.data.toList ts s).nm=s.nm from(turn_nm _ _ _ s).1,←hnm]at c60
      rw[←hfr1]at c52
      rw[←hto1]at c53
      rw[←hfr2]at c62
      rw[←hto2]at c63
      have hp1:=fl_part hkS
      have hp2:=fl_part hkS2
      have hl1:=(S[k]'hkS).len
      have hl2:=(S2[k]'hkS2).len
      have hd1:=congrArg List.length HD.out.eq
      have hd2:=congrArg List.length HM2.out.1
      rw[List.length_append]at hd1 hd2
      have hcd:=HR4.out.le
      have f1:fr1<to1:=by omega
      have f2:fr2<to2:=by omega
      have f3:to1≤d.length:=by omega
      have f4:to2≤M.length:=by omega
      obtain⟨xs,hxs⟩:∃xs:ByteArray,xs=⟨s.b.toArray⟩:=⟨_,rfl⟩
      obtain⟨ys,hys⟩:∃ys:ByteArray,ys=⟨(turnQ hs.data.toList ts s).b.toArray⟩:=⟨_,rfl⟩
      have HYs:=hid (show isA s.nm=false→ys=xs from fun h=>by rw[hys,hxs,turn_not h])
      obtain⟨b1,o1,hpp,-⟩:=HBr.out.bs (by omega)
      obtain⟨b2,o2,hqq,-⟩:=HR4.out.bs (by omega)
      subst hpp
      subst hqq
      have HCx:=(show Hid (∀W,Bel wr W→(convert 48 9 (.slice (some ⟨b1,o1+fr1,none⟩) (to1-fr1) (c-fr1))).run Tryz.prog W=.ok (.string xs) W)from hid fun W hW=>by
       have:=part_run (HBr.out.next (HBwr.out.trans hW)) HD.out.eq hkS hfr1 hto1
       rw[←hs0,←hxs]at this
       exact this)
      have HCy:=(show Hid (∀W,Bel wr W→(convert 48 9 (.slice (some ⟨b2,o2+fr2,none⟩) (to2-fr2) (dd-fr2))).run Tryz.prog W=.ok (.string ys) W)from hid fun W hW=>by
       have:=part_run (HR4.out.next (HB4r.out.trans hW)) HM2.out.1 hkS2 hfr2 hto2
       rw[hs2,←hys]at this
       exact this)
      have HCl:=(show Hid (∀W,Bel wr W→W.cell? ⟨g5,k*4,none⟩=some (.string nm)∧W.cell? ⟨g5,k*4+2,none⟩=some (.int .i64 fr1)∧W.cell? ⟨g5,k*4+3,none⟩=some (.int .i64 to1)∧W.cell? ⟨g6,k*4,none⟩=some (.string nm)∧W.cell? ⟨g6,k*4+2,none⟩=some (.int .i64 fr2)∧W.cell? ⟨g6,k*4+3,none⟩=some (.int .i64 to2))from hid fun W hW=>⟨keep_cell (HB5r.out.trans hW) c50,keep_cell (HB5r.out.trans hW) c52,keep_cell (HB5r.out.trans hW) c53,keep_cell (HB6r.out.trans hW) c60,keep_cell (HB6r.out.trans hW) c62,keep_cell (HB6r.out.trans hW) c63⟩)
      have hnl:nm.data.toList=s.nm:=by rw[hnm]
      have hnz:nm.size=s.nm.length:=by rw[hnm];exact List.size_toArray ..
      obtain⟨is,his⟩:∃is,is=isA s.nm:=⟨_,rfl⟩
      rw[←his]at HYs
      have HIs:=(show Hid (∀W,Calls Tryz.prog 24 #[.string nm] W fun e w'=>e=.returned (.bool is)∧Bel W w')from hid fun W=>by
       have:=isaddr_run nm W (by rw[hnz,hs0];omega)
       rw[hnl,←his]at this
       exact this)
      have j1:(fr1:Int)≤(to1:Int):=by omega
      have j2:(to1:Int)≤(c:Int):=by omega
      have j3:¬c=fr1:=by omega
      have j4:(fr2:Int)≤(to2:Int):=by omega
      have j5:(to2:Int)≤(dd:Int):=by omega
      have j6:¬dd=fr2:=by omega
      clear hs0 hs2 c50 c52 c53 c60 c62 c63 hfr1 hto1 hfr2 hto2 hnm hp1 hp2 hl1 hl2 hd1 hd2 hxs hys hnl hnz his hc5 hc6
      obtain⟨d0,d2,d3,e0,e2,e3⟩:=HCl.out wr (Bel.refl wr)
      have cvx:=fun j:Nat=>HCx.out (wr.drewN j) ((Bel.refl wr).drewN j)
      go_upto_region 19 with fail
      go_quiet (fail)
      obtain⟨w8,hw8⟩:∃w8,w8=wr.drewN nq:=⟨_,rfl⟩
      have HB8:=hid (show Bel wr w8 by rw[hw8];exact(Bel.refl wr).drewN nq)
      rw[←hw8]
      clear hw8 cvx d0 d2 d3 e0 e2 e3
      obtain⟨d0,d2,d3,e0,e2,e3⟩:=HCl.out w8 HB8.out
      have cvy:=fun j:Nat=>HCy.out (w8.drewN j) (HB8.out.drewN j)
      go_upto_region 20 with fail
      go_quiet (fail)
      obtain⟨w9,hw9⟩:∃w9,w9=w8.drewN nq:=⟨_,rfl⟩
      have HB9:=hid (show Bel wr w9 by rw[hw9];exact HB8.out.drewN nq)
      rw[←hw9]
      clear hw9 cvy d0 d2 d3 e0 e2 e3
      obtain⟨d0,-,-,e0,-,-⟩:=HCl.out w9 HB9.out
      go_upto_region 22 with(first|(go_at_call 24;with_reducible refine(HIs.out w9).mono ?_;rintro _ w10 ⟨rfl,hb10⟩;have HB10:=hid (HB9.out.trans hb10);clear hb10 d0 e0;obtain⟨d0,-,-,e0,-,-⟩:=HCl.out w10 HB10.out))
      cases is with
      |false=>
       have hyx:=HYs.out rfl
       subst hyx
       go_quiet (fail)
       obtain⟨w11,hw11⟩:∃w11,w11=w10.drewN nq:=⟨_,rfl⟩
       have HB11:=hid (show Bel wr w11 by rw[hw11];exact HB10.out.drewN nq)
       rw[←hw11]
       clear hw11 d0 e0
       go_wp2_with fail
       go_roundg (gk-1)
       case measure=>have:=HK.out;omega
       case rel=>exact⟨k+1,by go_num,by have:=HK.out;omega,hid (H.out.trans HB11.out)⟩
      |true=>
       go_quiet (fail)
       obtain⟨w11,hw11⟩:∃w11,w11=w10.drewN nq:=⟨_,rfl⟩
       have HB11:=hid (show Bel wr w11 by rw[hw11];exact HB10.out.drewN nq)
       rw[←hw11]
       clear hw11 d0 e0
       go_wp2_with fail
       go_roundg (gk-1)
       case measure=>have:=HK.out;omega
       case rel=>exact⟨k+1,by go_num,by have:=HK.out;omega,hid (H.out.trans HB11.out)⟩
     ·have b0:decide ((k:Int)<(n:Int))=false:=decide_eq_false (by omega)
      have HC1:=(show Hid (Calls Tryz.prog 25 #[.slice p d.length c] wr fun e w'=>(∃E1:Int,e=.returned (.int .i64 E1)∧Hid (E1=0↔Sent d))∧w'=wr)from hid ((rcontent_run p d c wr (HBr.out.next HBwr.out).bs (by omega)).mono fun e w' ⟨⟨E1,h1,h2⟩,h3⟩=>⟨⟨E1,h1,hid h2⟩,h3⟩))
      have HC2:=(show Hid (Calls Tryz.prog 25 #[.slice q M.length dd] wr fun e w'=>(∃E1:Int,e=.returned (.int .i64 E1)∧Hid (E1=0↔Sent M))∧w'=wr)from hid ((rcontent_run q M dd wr (HR4.out.next HB4r.out).bs (by omega)).mono fun e w' ⟨⟨E1,h1,h2⟩,h3⟩=>⟨⟨E1,h1,hid h2⟩,h3⟩))
      have HSn:=hid (show Sent d→Sent M from fun h=>by
       rw[HM2.out.1,HM2.out.2.1]
       refine sent_turn (fun b hb=>may_fine hb) S HD.out.ends HD.out.ok ?_
       rw[←HD.out.eq];exact h)
      go_upto_region 26 with(first|(go_at_call 25;with_reducible refine HC1.out.mono ?_;rintro _ w8 ⟨⟨E1,rfl,hE1⟩,hw⟩;have hw:=hw.symm;subst hw)|(go_at_call 25;with_reducible refine HC2.out.mono ?_;rintro _ w9 ⟨⟨E2,rfl,hE2⟩,hw⟩;have hw:=hw.symm;subst hw))
      by_cases h1:E1=0
      ·have h2:E2=0:=hE2.out.2 (HSn.out (hE1.out.1 h1))
       subst h1
       subst h2
       go_wp2_with fail
       go_ret
       exact⟨rfl,HBwr.out⟩
      ·have b1:(E1 !=0)=true:=by simpa using h1
       go_wp2_with fail
       go_ret
       exact⟨rfl,HBwr.out⟩
   ·have HSq:=(show Hid (∀W q dd,Br W q dd M→Calls Tryz.prog 23 #[.slice q M.length dd] W fun e w'=>e=.returned (.tuple #[.slice none 0 0,.int .i64 0,.int .i64 111])∧Bel W w')from hid fun W q dd hb=>by
     have h1:=rsplit_run q M dd W hb.bs (by omega) hb.le hb.lt
     rw[splits_of hD2]at h1
     dsimp only at h1
     rw[h2]at h1
     exact h1.mono fun e w' ⟨v,g1,g2,g3⟩=>⟨g1,g2⟩)
    clear hM2 hD2 hA2 h2 hS2 hS2l
    go_enter Tryz.func9,Tryz.ntmps9
    go_wp2_with (first|(go_at_call 10;(try rw[←hW1]);with_reducible refine(HAw.out W1 HB1.out).mono ?_;rintro _ W2 ⟨rfl,hb2⟩;have HX2:=hid hb2;have HB2:=hid (HB1.out.trans hb2);have c0:=(HK.out W2 hb2).1;have c1:=(HK.out W2 hb2).2;clear hb2)|(go_at_call 11;with_reducible refine(HN.out W2 HB2.out).mono ?_;rintro _ W3 ⟨b3,rfl,hb3,hc3⟩;have HC3:=hid hc3;have HB3:=hid (HB2.out.trans hb3);clear hb3 hc3)|(go_at_call 21;with_reducible refine(HMs.out W3 b3 HB3.out HC3.out).mono ?_;rintro _ W4 ⟨q,dd,rfl,hb4,hr4⟩;have HB34:=hid hb4;have HB4:=hid (HB3.out.trans hb4);have HR4:=hid hr4;clear hb4 hr4)|(go_at_call 23;with_reducible refine(HSp2.out W4 HB4.out).mono ?_;rintro _ W5 ⟨x5,c5,rfl,hb5,hn5,hm5,hf5⟩;have HB45:=hid hb5;have HB5:=hid (HB4.out.trans hb5);have HF5:=hid hf5;clear hb5 hf5)|(go_at_call 23;with_reducible refine(HSq.out W5 q dd (HR4.out.next HB45.out)).mono ?_;rintro _ W6 ⟨rfl,hb6⟩;have HB6:=hid (HB5.out.trans hb6);clear hb6))
    go_ret
    exact⟨rfl,HB6.out⟩
  ·have hMd:M=d:=by rw[HM.out];unfold msgQ;rw[if_neg (by rw[←HE.out];exact h0)]
   subst hMd
   have b1:(E !=0)=true:=by simpa using h0
   simp only[if_neg h0]at HSp
   obtain⟨db,hdb⟩:∃db:ByteArray,db=⟨M.toArray⟩:=⟨_,rfl⟩
   have hcv:=(show Hid (∀W (q:Option Addr) (dd:Nat),Bs W q M→(convert 48 9 (.slice q M.length dd)).run Tryz.prog W=.ok (.string db) W)from hid fun W q dd h=>by rw[hdb];exact conv_bs h dd)
   clear hdb h0
   go_enter Tryz.func9,Tryz.ntmps9
   go_wp2_with (first|(go_at_call 10;(try rw[←hW1]);with_reducible refine(HAw.out W1 HB1.out).mono ?_;rintro _ W2 ⟨rfl,hb2⟩;have HX2:=hid hb2;have HB2:=hid (HB1.out.trans hb2);have c0:=(HK.out W2 hb2).1;have c1:=(HK.out W2 hb2).2;clear hb2)|(go_at_call 11;with_reducible refine(HN.out W2 HB2.out).mono ?_;rintro _ W3 ⟨b3,rfl,hb3,hc3⟩;have HC3:=hid hc3;have HB3:=hid (HB2.out.trans hb3);clear hb3 hc3)|(go_at_call 21;with_reducible refine(HMs.out W3 b3 HB3.out HC3.out).mono ?_;rintro _ W4 ⟨q,dd,rfl,hb4,hr4⟩;have HB34:=hid hb4;have HB4:=hid (HB3.out.trans hb4);have HR4:=hid hr4;clear hb4 hr4)|(go_at_call 23;with_reducible refine(HSp.out W4 HB4.out).mono ?_;rintro _ W5 ⟨v5,rfl,hb5,hf5⟩;have HB5:=hid (HB4.out.trans hb5);have cv1:=hcv.out W5 q dd (HR4.out.bs.next hb5);have cv2:=hcv.out W5 p c (HBr.out.next HB5.out).bs;clear hb5 hf5))
   go_ret
   exact⟨rfl,HB5.out⟩
end Go.Proofs.YtmlmkmhkmifnkaaGreatDoor.Hs
namespace Go.Proofs.YtmlmkmhkmifnkaaGreatDoor.Ma
open Go.ChangeShapes Go.WideShapes Go.Deep
theorem cellsS:Tryz.prog.cellsOf 9=1:=by kernel_rfl
theorem bulk_mem{H:Type}:∀(l:List (DataW H)) (d:DataW H),d∈l→Rows.uptoBulk d≤Rows.uptoBulkAll l
 |[],d,h=>by cases h
 |e::l,d,h=>by
  rw[Rows.uptoBulkAll]
  rcases List.mem_cons.1 h with rfl|h
  ·omega
  ·have:=bulk_mem l d h;omega
end Go.Proofs.YtmlmkmhkmifnkaaGreatDoor.Ma
namespace Go.Proofs.YtmlmkmhkmifnkaaGreatDoor.Ci
open Go.RowKit Go.ChangeShapes Go.WideShapes Go.ChangeAt Go.Lib Go.Proofs
theorem own:ownKnob Tryz.prog.godebug=none:=by kernel_rfl
def laidL:List (String×DataW Unit):=[("math/bits.deBruijn32tab",Rows.laid_math_bits_deBruijn32tab),("math/bits.deBruijn64tab",Rows.laid_math_bits_deBruijn64tab),("internal/strconv.uint64pow10",Rows.laid_internal_strconv_uint64pow10),("unicode/utf8.acceptRanges",Rows.laid_unicode_utf8_acceptRanges),("strconv.ErrRange",Rows.laid_strconv_ErrRange),("strconv.ErrSyntax",Rows.laid_strconv_ErrSyntax),("unicode.CaseRanges",Rows.laid_unicode_CaseRanges),("unicode/utf8.first",Rows.laid_unicode_utf8_first)]
def db64:List Int:=[0,1,56,2,57,49,28,3,61,58,42,50,38,29,17,4,62,47,59,36,45,43,51,22,53,39,33,30,24,18,12,5,63,55,48,27,60,41,37,16,46,35,44,21,52,32,23,11,54,26,40,15,34,20,31,10,25,14,19,9,13,8,7,6]
theorem star: "*"++ "errors.errorString"= "*errors.errorString":=by decide
theorem rowE(u:TypeId)(h:Tryz.prog.typeName? 3 u=some "*errors.errorString"):u=317:=
 typeName_ptr_named (nm:= "errors.errorString") (by rw[star];kernel_rfl) (by kernel_rfl) (by decide) u (by rw[star];exact h)
theorem gPow:Tryz.prog.globalNamed "internal/strconv.uint64pow10"=some 4:=by kernel_rfl
theorem gDb:Tryz.prog.globalNamed "math/bits.deBruijn64tab"=some 8:=by kernel_rfl
theorem gErr:Tryz.prog.globalNamed "strconv.ErrSyntax"=some 5:=by kernel_rfl
theorem lay_of{W:World}(hL:laidMet Tryz.prog laidL W)(hS:W.ShapedOpen Tryz.prog):Lay W:=by
 have hdb:Lib.TabIs Tryz.prog W "math/bits.deBruijn64tab" .u8 db64:=
  Lib.tabIs_of_head (e:=5) gDb (by kernel_rfl) Tryz.underlying321 Tryz.underlying5 (by kernel_rfl) (by kernel_rfl) (show laidMet Tryz.prog (("math/bits.deBruijn64tab",Lib.tabData .u8 db64)::_) W from hL.tail)
 have hpw:Lib.TabIs Tryz.prog W "internal/strconv.uint64pow10" .u64 Lib.pow10Tab:=
  Lib.tabIs_of_head (e:=241) gPow (by kernel_rfl) Tryz.underlying309 Tryz.underlying241 (by kernel_rfl) (by kernel_rfl) (show laidMet Tryz.prog (("internal/strconv.uint64pow10",Lib.tabData .u64 Lib.pow10Tab)::_) W from hL.tail.tail)
 obtain⟨a0,t0,hv0,-,-,-⟩:=laid_sentinel (g:=5) hL.tail.tail.tail.tail.tail (by kernel_rfl) (by kernel_rfl) Tryz.underlying130 rowE Tryz.underlying317 Tryz.underlying319 rfl rfl Tryz.underlying9 (by kernel_rfl) (by kernel_rfl)
 have c15:W.cell? ⟨8,15,none⟩=some (.int .u8 4):=hdb.cell gDb 15 (by decide)
 have hsz:8<W.heap.size:=by
  rcases Nat.lt_or_ge 8 W.heap.size with f|f
  ·exact f
  ·simp[World.cell?,Array.getElem?_eq_none f]at c15
 refine⟨hsz,?_,⟨_,_,World.var?_cell gErr hv0 0⟩,fun w' hb=> ?_,c15⟩
 ·exact Go.Proofs.cell_of_shapedOpen_int (g:=1) (zero:=#[.int .i64 0]) (t:=3) hS (of_decide_eq_true (by kernel_rfl)) (by kernel_rfl) rfl (by kernel_rfl) (by kernel_rfl) Tryz.underlying3
 ·exact var?_below hb gPow (by omega) hpw
noncomputable def laidWorld(os:Os):World:=
 let N:=(World.settled Tryz.prog os).heap.size
 let w0:=World.holding Tryz.prog os ⟨#[.cells #[.string ⟨#[105,110,118,97,108,105,100,32,115,121,110,116,97,120]⟩] 319,.cells #[.string ⟨#[118,97,108,117,101,32,111,117,116,32,111,102,32,114,97,110,103,101]⟩] 319,.cells Lib.caseCells5 301],#[],[]⟩
 let put (h:Array Obj) (g:Nat) (cs:Array Value):Array Obj:=h.modify g fun
  |.cells _ t frozen=>.cells cs t frozen
  |o=>o
 let h0:=put (put w0.heap 5 #[.iface 317 (.pointer (some ⟨N,0,none⟩))]) 6 #[.iface 317 (.pointer (some ⟨N+1,0,none⟩))]
 let h1:=put h0 2 (Lib.firstTab.map fun z=>Value.int .u8 z).toArray
 let h2:=put h1 3 ((List.range 16).flatMap fun i=>[Value.int .u8 (Lib.accLo i),Value.int .u8 (Lib.accHi i)]).toArray
 let h3:=put h2 4 (Lib.pow10Tab.map fun z=>Value.int .u64 z).toArray
 let h4:=put h3 8 (db64.map fun z=>Value.int .u8 z).toArray
 let h5:=put h4 7 (([0,1,28,2,29,14,24,3,30,22,20,15,25,17,4,8,31,27,13,23,21,19,16,7,26,12,18,6,11,5,10,9]:List Int).map fun z=>Value.int .u8 z).toArray
 let h6:=put h5 0 #[.slice (some ⟨N+2,0,none⟩) caseA.size caseA.size]
 {w0 with heap:=h6}
noncomputable abbrev N0:Nat:=(World.settled Tryz.prog default).heap.size
theorem laidVars_split{P:Program}{w:World}:∀{l l':List (String×DataW Unit)} {ps:List MemPlace},DataW.LaidVars P w (l++l') ps→∃p q,ps=p++q∧DataW.LaidVars P w l p∧DataW.LaidVars P w l' q
 |[],_,ps,h=>⟨[],ps,rfl,rfl,h⟩
 | (n,d)::r,l',ps,h=>by
  obtain⟨g,t,cs,fuel,p,q,h1,h2,h3,h4,h5,rfl⟩:=h
  obtain⟨p',q',rfl,h6,h7⟩:=laidVars_split h5
  exact⟨MemPlace.row ⟨g,0,none⟩ cs.size++p++p',q',by simp[List.append_assoc],⟨g,t,cs,fuel,p,p',h1,h2,h3,h4,h6,rfl⟩,h7⟩
theorem laidMet_turn{P:Program}{w:World}{a b c:List (String×DataW Unit)}(h:laidMet P (a++b++c) w):laidMet P (a++c++b) w:=by
 obtain⟨ps,h1,h2,h3⟩:=h
 obtain⟨p,r,rfl,h4,h5⟩:=laidVars_split h1
 obtain⟨p,q,rfl,h6,h7⟩:=laidVars_split h4
 have hp:(p++r++q).Perm (p++q++r):=by
  rw[List.append_assoc,List.append_assoc]
  exact List.Perm.append_left _ List.perm_append_comm
 exact⟨p++r++q,LaidVars_append (LaidVars_append h6 h5) h7,hp.nodup_iff.2 h2,fun x o hx=>h3 x o (hp.mem_iff.1 hx)⟩
def laidA:List (String×DataW Unit):=[("math/bits.deBruijn32tab",Rows.laid_math_bits_deBruijn32tab),("math/bits.deBruijn64tab",Rows.laid_math_bits_deBruijn64tab),("internal/strconv.uint64pow10",Rows.laid_internal_strconv_uint64pow10),("unicode/utf8.acceptRanges",Rows.laid_unicode_utf8_acceptRanges),("strconv.ErrRange",Rows.laid_strconv_ErrRange),("strconv.ErrSyntax",Rows.laid_strconv_ErrSyntax)]
def laidF:List (String×DataW Unit):=[("unicode/utf8.first",Rows.laid_unicode_utf8_first)]
theorem case_extra:CaseExtra Tryz.prog Tryz.lays204_ren:=⟨by kernel_rfl,by kernel_rfl,by kernel_rfl,by kernel_rfl,by kernel_rfl,by kernel_rfl⟩
theorem laid_met(os:Os)(args:Array Value):laidMet Tryz.prog laidL ((laidWorld os).forCall (fun _ _=>0) ⟨#[],args,[]⟩).memory:=by
 have h:=laidMet_with_case (P:=Tryz.prog) (ρ:=Tryz.lays204_ren) {Tryz.lays204 with} Tryz.underlying298 case_extra (w:=((laidWorld os).forCall (fun _ _=>0) ⟨#[],args,[]⟩).memory) (l:=laidA++laidF) 8 (by kernel_rfl) (by kernel_rfl) (by kernel_rfl) (N0+2) 301 (of_decide_eq_true (by kernel_rfl)) (by kernel_rfl) (by kernel_rfl) (by kernel_rfl)
 have e:Rows.laid_unicode_CaseRanges=caseData:=Pinned.caseRanges_eq
 have:=laidMet_turn h
 rw[←e]at this
 exact this
end Go.Proofs.YtmlmkmhkmifnkaaGreatDoor.Ci
namespace Go.Proofs.YtmlmkmhkmifnkaaGreatDoor.Tb
open Go.ChangeShapes Go.WideShapes Go.Deep Go.RowKit Go.Lib
open Ma (Pt Pts ptC)
open Ci (Bel Lay laidL lay_of)
theorem laid_first:("unicode/utf8.first",Lib.firstData)∈laidL:=by
 have e:Rows.laid_unicode_utf8_first=Lib.firstData:=by kernel_rfl
 rw[←e]
 unfold laidL
 simp
theorem laid_accept:("unicode/utf8.acceptRanges",Lib.acceptData)∈laidL:=by
 have e:Rows.laid_unicode_utf8_acceptRanges=Lib.acceptData:=by kernel_rfl
 rw[←e]
 unfold laidL
 simp
theorem nF:Tryz.prog.globalNamed "unicode/utf8.first"=some 2:=by kernel_rfl
theorem nA:Tryz.prog.globalNamed "unicode/utf8.acceptRanges"=some 3:=by kernel_rfl
theorem tabs_of{W:World}(hL:laidMet Tryz.prog laidL W):Lib.Utf8Tabs 2 3 W:=by
 have h3:=Lib.laidMet.reads hL laid_first
 have h4:=Lib.laidMet.reads hL laid_accept
 refine⟨fun c hc=> ?_,fun i hi=> ?_⟩
 ·obtain⟨g,t,cs,fuel,p,hg,hty,hvar,hd⟩:=h3
  obtain rfl:=Option.some.inj (nF.symm.trans hg)
  obtain rfl:279=t:=Option.some.inj ((show(Tryz.prog.globals[2]?).map (·.type)=some 279 by kernel_rfl).symm.trans hty)
  have hcs:=cells_of_tab Tryz.underlying279 Tryz.underlying5 (by kernel_rfl) (by kernel_rfl) hd
  have:=World.var?_cell hg hvar c
  rw[this,←Array.getElem?_toList,hcs]
  simp[firstTab,hc]
 ·obtain⟨g,t,cs,fuel,p,hg,hty,hvar,hd⟩:=h4
  obtain rfl:=Option.some.inj (nA.symm.trans hg)
  obtain rfl:282=t:=Option.some.inj ((show(Tryz.prog.globals[3]?).map (·.type)=some 282 by kernel_rfl).symm.trans hty)
  obtain⟨fuel',d,q,hdi,he⟩:=array_elem Tryz.underlying282 hd i hi
  simp only[List.getElem?_map,List.getElem?_range hi,Option.map_some,Option.some.injEq]at hdi
  subst hdi
  rw[show Tryz.prog.cellsOf 281=2 by kernel_rfl]at he
  have hcs:=ints_of_struct Tryz.underlying281 (fun j f hj=>by
   match j,hj with
   |0,hj=>simp at hj;subst hj;exact⟨Tryz.underlying5,rfl,by kernel_rfl⟩
   |1,hj=>simp at hj;subst hj;exact⟨Tryz.underlying5,rfl,by kernel_rfl⟩
   |j+2,hj=>simp at hj) (by kernel_rfl) he
  have e0:=congrArg (·[0]?) hcs
  have e1:=congrArg (·[1]?) hcs
  simp only[List.getElem?_take,List.getElem?_drop]at e0 e1
  constructor
  ·rw[World.var?_cell hg hvar (2*i),←Array.getElem?_toList]
   simpa[Nat.mul_comm]using e0
  ·rw[World.var?_cell hg hvar (2*i+1),←Array.getElem?_toList]
   simpa[Nat.mul_comm]using e1
theorem lat_of{W:World}(hL:laidMet Tryz.prog laidL W)(hS:W.ShapedOpen Tryz.prog):Lat W:=by
 exact⟨lay_of hL hS,(lay_of hL hS).size,fun w' hb=>Utf8Tabs_below (tabs_of hL) hb⟩
theorem bulk_le{H:Type}:∀l:List (DataW H),l.length≤Rows.uptoBulkAll l:=by
 intro l
 induction l with
 |nil=>exact Nat.zero_le _
 |cons e l ih=>
  have:1≤Rows.uptoBulk e:=by
   cases e with
   |lit q=>cases q<;>simp[Rows.uptoBulk]
   |_=>simp[Rows.uptoBulk]
  rw[Rows.uptoBulkAll,List.length_cons];omega
theorem sts_of {H:Type} {enc:TypeId×Value→H} {W:World} {x:Option Addr} {len cap:Nat} {d:DataW H} {ps:List MemPlace}
 (h:DataW.Trod enc Tryz.prog W 0 (fun _=>true) true 22 (.slice x len cap) d ps):
 ∃bs:List ByteArray,len=bs.length∧Sts W x bs∧(∀b∈bs,b.size≤Rows.uptoBulk d)∧bs.length≤Rows.uptoBulk d:=by
 obtain⟨fuel,hf⟩:=h
 rcases open_strings Tryz.underlying22 Tryz.underlying9 Ma.cellsS hf with⟨hcs,-⟩|⟨a,l,c,ss,hcs,-,hl,hm,hz,hx,hc,hsz⟩
 ·simp[Value.cells]at hcs
  obtain⟨rfl,rfl,rfl⟩:=hcs
  exact⟨[],rfl,⟨.inl rfl⟩,by simp,by simp⟩
 ·simp[Value.cells]at hcs
  obtain⟨rfl,rfl,rfl⟩:=hcs
  simp only[if_true]at hz
  simp only[Prod.mk.injEq]at hx
  have hlen:(ss.take len).length=len:=by rw[List.length_take,hz];omega
  have hbd:∀b∈ss.take len,b.size≤Rows.uptoBulk d:=by
   intro b hb
   rw[hx.1]
   have:=Ma.bulk_mem (H:=H) (Go.ChangeShapes.strs (ss.take len)) (.lit (.string b.data.toList)) (List.mem_map.2 ⟨b,hb,rfl⟩)
   have e:Rows.uptoBulk (DataW.lit (.string b.data.toList):DataW H)=b.data.toList.length+1:=rfl
   rw[e,←Lib.size_eq]at this
   rw[Rows.uptoBulk];omega
  have hln:len≤Rows.uptoBulk d:=by
   rw[hx.1,Rows.uptoBulk]
   have:=bulk_le (H:=H) (Go.ChangeShapes.strs (ss.take len))
   have e:(Go.ChangeShapes.strs (ss.take len):List (DataW H)).length=len:=by unfold Go.ChangeShapes.strs;rw[List.length_map,hlen]
   rw[e]at this
   omega
  refine⟨ss.take len,hlen.symm,⟨?_⟩,hbd,by rw[hlen];exact hln⟩
  by_cases h0:len=0
  ·left;rw[h0];rfl
  ·right
   have h00:=hc 0 (by omega)
   obtain⟨b,o,sp⟩:=a
   have hsp:sp=none:=by simpa[Addr.add]using World.cell?_spot h00
   subst hsp
   refine⟨b,o,rfl,?_,?_⟩
   ·refine Nat.lt_of_not_le fun hge=> ?_
    simp[Addr.add,World.cell?,Array.getElem?_eq_none hge]at h00
   ·intro k hk
    have hk':k<len:=by rw[hlen]at hk;exact hk
    have h:=hc k (by omega)
    rw[Ci.addr_add]at h
    rw[h,List.getElem_take,List.getD_eq_getElem?_getD,List.getElem?_eq_getElem (by omega)]
    rfl
end Go.Proofs.YtmlmkmhkmifnkaaGreatDoor.Tb
namespace Go.Proofs.YtmlmkmhkmifnkaaGreatDoor.Hs
open Go.ChangeShapes Go.WideShapes Go.Deep Go.RowKit Go.Lib
open Ci (Bel Lay)
theorem cellsU8:Tryz.prog.cellsOf 5=1:=by kernel_rfl
theorem byts_of {H:Type} {enc:TypeId×Value→H} {W:World} {p:Option Addr} {len cap:Nat} {d:DataW H} {ps:List MemPlace}
 (h:DataW.Trod enc Tryz.prog W 0 (fun _=>true) true 48 (.slice p len cap) d ps):∃l:List UInt8,len=l.length∧Br W p cap l∧l.length≤Rows.uptoBulk d:=by
 obtain⟨fuel,hf⟩:=h
 rcases open_ints Tryz.underlying48 Tryz.underlying5 cellsU8 hf with⟨hcs,-⟩|⟨a,len',cap',zs,hcs,-,hl,hm,hz,hx,hcell,hwz⟩
 ·simp[Value.cells]at hcs
  obtain⟨rfl,rfl,rfl⟩:=hcs
  exact⟨[],rfl,⟨fun h=>absurd h (Nat.lt_irrefl 0),Nat.le_refl _,by omega,fun _=>rfl⟩,Nat.zero_le _⟩
 ·simp[Value.cells]at hcs
  obtain⟨rfl,rfl,rfl⟩:=hcs
  simp only[if_true]at hz
  simp only[Prod.mk.injEq]at hx
  have hlen:(zs.take len).length=len:=by rw[List.length_take,hz];omega
  obtain⟨l,hl0⟩:∃l:List UInt8,l=(zs.take len).map fun z=>UInt8.ofNat z.toNat:=⟨_,rfl⟩
  have hll:l.length=len:=by rw[hl0,List.length_map,hlen]
  have hat:∀i (hi:i<l.length),zs.getD i 0=(l[i].toNat:Int):=fun i hi=>by
   have hz2:i<zs.length:=by omega
   have h1:l[i]=UInt8.ofNat zs[i].toNat:=by
    simp only[hl0,List.getElem_map,List.getElem_take]
   have h2:=hwz zs[i] (List.getElem_mem hz2)
   have h3:IntKind.u8.min=0:=rfl
   have h4:IntKind.u8.max=255:=rfl
   simp only[Lit.wf,Bool.and_eq_true,decide_eq_true_eq]at h2
   rw[List.getD_eq_getElem?_getD,List.getElem?_eq_getElem hz2,h1,UInt8.toNat_ofNat']
   show zs[i]=_
   omega
  refine⟨l,hll.symm,⟨fun h0=> ?_,by omega,by unfold maxLen at hm;omega,fun e=>by cases e⟩,?_⟩
  ·have h00:=hcell 0 (by omega)
   obtain⟨b,o,sp⟩:=a
   have hsp:sp=none:=by simpa[Addr.add]using World.cell?_spot h00
   subst hsp
   refine⟨b,o,rfl,fun i hi=> ?_⟩
   have h:=hcell i (by omega)
   rw[Ci.addr_add,hat i hi]at h
   exact h
  ·rw[hx.1,Rows.uptoBulk]
   have:=Tb.bulk_le (H:=H) (lits .u8 (zs.take len))
   have e:(lits .u8 (zs.take len):List (DataW H)).length=len:=by unfold lits;rw[List.length_map,hlen]
   rw[e]at this
   omega
end Go.Proofs.YtmlmkmhkmifnkaaGreatDoor.Hs
namespace Go.Proofs.YtmlmkmhkmifnkaaGreatDoor.Tb
open Go.ChangeShapes Go.WideShapes Go.Deep Go.RowKit Go.Lib
open Ma (Pt Pts ptC)
open Ci (Bel Lay)
theorem cellsTx:Tryz.prog.cellsOf 22=1:=by kernel_rfl
theorem cellsAk:Tryz.prog.cellsOf 24=2:=by kernel_rfl
theorem asked_of {H:Type} {enc:TypeId×Value→H} {W:World} {r:Reach} {b0:Nat} {v:Value} {d:DataW H} {ps:List MemPlace} (hv:Value.okWide Tryz.prog W r b0 24 v)
 (h:DataW.Trod enc Tryz.prog W 0 (fun _=>true) true 24 v d ps):∃(hs:ByteArray) (x:Option Addr) (bs:List ByteArray) (cap:Nat),v=.agg #[.string hs,.slice x bs.length cap]∧hs.size≤Rows.uptoBulk d∧Sts W x bs:=by
 obtain⟨cs,rfl,hsz⟩:=okWide_struct Tryz.underlying24 hv
 obtain⟨fuel,hf⟩:=h
 obtain⟨ys,n',hn',hy,hlen,hyl,hfs⟩:=DataW.trod_struct Tryz.underlying24 hf
 rw[cellsAk]at hlen
 have h0:DataW.trod enc Tryz.prog W 0 (fun _=>true) true n' 9 (((Value.agg cs).cells.toList.drop 0).take (Tryz.prog.cellsOf 9))=ys[0]?:=hfs 0 _ rfl
 have h1:DataW.trod enc Tryz.prog W 0 (fun _=>true) true n' 22 (((Value.agg cs).cells.toList.drop 1).take (Tryz.prog.cellsOf 22))=ys[1]?:=hfs 1 _ rfl
 rw[Ma.cellsS]at h0
 rw[cellsTx]at h1
 have hyl2:ys.length=2:=hyl
 match ys,hyl2 with
 |[y0,y1],_=>
  have hcl:(Value.agg cs).cells.toList.length=2:=hlen
  generalize hcs:(Value.agg cs).cells.toList=l at h0 h1 hcl
  match l,hcl with
  |[a0,a1],_=>
   obtain⟨s0,e0,d0,-⟩:=DataW.trod_string Tryz.underlying9 (x:=y0) h0
   have f0:a0=.string s0:=by simpa using e0
   have h1':DataW.trod enc Tryz.prog W 0 (fun _=>true) true n' 22 [a1]=some y1:=h1
   have key:∃x len cap,a1=.slice x len cap:=by
    rcases open_strings Tryz.underlying22 Tryz.underlying9 Ma.cellsS h1' with⟨hc2,-⟩|⟨a,l,c,ss,hc2,-⟩
    ·exact⟨_,_,_,List.head_eq_of_cons_eq hc2⟩
    ·exact⟨_,_,_,List.head_eq_of_cons_eq hc2⟩
   obtain⟨x,len,cap,rfl⟩:=key
   have hT:DataW.Trod enc Tryz.prog W 0 (fun _=>true) true 22 (.slice x len cap) y1.1 y1.2:=⟨n',h1'⟩
   obtain⟨bs,rfl,hS,-,-⟩:=sts_of hT
   refine⟨s0,x,bs,cap,?_,?_,hS⟩
   ·have e:cs=#[a0,.slice x bs.length cap]:=by
     have:cs.toList=[a0,.slice x bs.length cap]:=by simpa[Value.cells]using hcs
     rw[←Array.toArray_toList (xs:=cs),this]
    rw[e,f0]
   ·have hb:d=(.agg [y0.1,y1.1]:DataW H):=by
     have:=congrArg Prod.fst hy
     simpa using this
    rw[hb]
    have k1:Rows.uptoBulk y0.1=s0.data.toList.length+1:=by rw[d0];rfl
    have k2:Rows.uptoBulk (.agg [y0.1,y1.1]:DataW H)=Rows.uptoBulk y0.1+(Rows.uptoBulk y1.1+0)+1:=rfl
    rw[k2,Lib.size_eq]
    omega
end Go.Proofs.YtmlmkmhkmifnkaaGreatDoor.Tb