import Derived.Test.YtmlmkmhkmifnkaaGreatDoorK11
set_option maxHeartbeats 16000000
set_option maxRecDepth 1000000
namespace Go.Proofs.YtmlmkmhkmifnkaaGreatDoor.Ma
open Go.RowKit
open Ci (Bel own_bel row_shape addr_add own_base)
theorem mailbox_bare(X:Cx)(hX:X.Ok)(hP:X.Pos)(st:St)(sl:Value)(w:World)(h:Ps X st sl w)(hs:Sf X st)(hall:st.all.length≤65537)(hq:(st.l.getD (phraseN st) z).kind≠60):
 Calls Tryz.prog 177 #[.pointer (some ⟨X.W.heap.size,0,none⟩)] w fun e w'=>e=.returned (.tuple #[])∧∃sl',Ps X (mailboxQ X.body.data.toList st) sl' w':=by
 have hp:=hs.pos
 have hn:=hs.ph hX
 obtain⟨q,cp,ad,hl,hq1,hcp1,hcp2,had,hpb⟩:=h.at_
 obtain rfl:=had hp
 have HH:=hid h
 have HM:=hid (show mailboxQ X.body.data.toList st=specQ [] st by unfold mailboxQ;rw[if_pos hq])
 have HPH:=(show Hid (Calls Tryz.prog 176 #[.pointer (some ⟨X.W.heap.size,0,none⟩)] w fun e w'=>e=.returned (.tuple #[.int .i64 (phraseN st:Nat),.string ⟨(phraseT X.body.data.toList st).toArray⟩])∧Bel w w'∧w'.cell? ⟨X.W.heap.size,1,none⟩=some (.slice (some ⟨X.lb,q*4,none⟩) st.l.length cp)∧w'.cell? ⟨X.lb,q*4+phraseN st*4,none⟩=some (.int .u8 (st.l.getD (phraseN st) z).kind.toNat))from by
  refine(phrase_run X hX hP st sl w h hs).mono ?_
  rintro e w' ⟨rfl,hb⟩
  refine⟨rfl,hb,(Ps.c1 (hb.heap hpb)).2.1,?_⟩
  have:=(h.next hb).tok hX hl (phraseN st) hn 0 _ rfl
  rw[Nat.add_mul,Nat.add_zero]at this
  rw[List.getD_eq_getElem?_getD,List.getElem?_eq_getElem hn]
  exact this)
 have HSP:=(show Hid (∀W,Ps X st sl W→Calls Tryz.prog 232 #[.pointer (some ⟨X.W.heap.size,0,none⟩),.string ⟨#[]⟩] W fun e w'=>e=.returned (.tuple #[])∧∃sl',Ps X (specQ [] st) sl' w')from fun W hW=>spec_run X hX st sl W [] hW hs hall)
 have hb1:decide ((phraseN st:Int)<(st.l.length:Int))=true:=decide_eq_true (by omega)
 have hle:=hs.le hX
 generalize st.l.getD (phraseN st) z=t at hq HPH
 generalize phraseT X.body.data.toList st=nm at HPH
 generalize phraseN st=n at HPH hb1 hn
 have b6:((t.kind.toNat:Int)==60)=false:=byte_ne (n:=60) (by decide) hq
 have b6n:¬((t.kind.toNat:Int)=60):=by simpa using b6
 clear h hX hP hs hq hpb hl had
 go_enter Tryz.func177,Tryz.ntmps177
 go_wp2_with (first|(go_at_call 176;refine HPH.out.mono ?_;rintro e w1 ⟨rfl,hw1,p1,k1⟩)|(go_at_call 232;refine(HSP.out _ (HH.out.next hw1)).mono ?_;rintro e w2 ⟨rfl,sl',hp2⟩))
 refine bodyPost_ret (results_none rfl _ _ _) rfl ?_
 rw[HM.out]
 exact⟨rfl,sl',hp2⟩
theorem routeQ_all:∀(n:Nat) (st:St),(routeQ n st).all=st.all
 |0,_=>rfl
 |n+1,st=>by
  have h1:(domQ (wantS 64 st)).2.2.all=st.all:=by rw[dom_all];rfl
  show(if isQ 44 (domQ (wantS 64 st)).2.2=true then routeQ n (takeS 44 (domQ (wantS 64 st)).2.2)else(domQ (wantS 64 st)).2.2).all=st.all
  split
  ·rw[routeQ_all n,take_all];exact h1
  ·exact h1
theorem domLoop_le:∀(n:Nat) (s:List UInt8) (t:Tk) (st:St),(domLoop n s t st).2.2.l.length≤st.l.length
 |0,_,_,_=>Nat.le_refl _
 |n+1,s,t,st=>by
  rw[Ma.domLoop]
  split
  ·refine Nat.le_trans (domLoop_le n _ _ _) ?_
   unfold wantS takeS
   (repeat' split)<;>simp<;>omega
  ·exact Nat.le_refl _
theorem want_le(k:UInt8)(st:St):(wantS k st).l.length≤st.l.length:=by
 unfold wantS takeS
 split<;>simp
theorem dom_le(st:St):(domQ st).2.2.l.length≤st.l.length:=by
 unfold domQ
 split
 ·unfold takeS;split<;>simp
 ·exact Nat.le_trans (domLoop_le _ _ _ _) (want_le _ _)
theorem take_lt{k:UInt8}{st:St}(h:isQ k st=true)(hp:0<st.l.length):(takeS k st).l.length<st.l.length:=by
 unfold takeS
 rw[if_pos h]
 simp;omega
theorem mailbox_angle(X:Cx)(hX:X.Ok)(hP:X.Pos)(st:St)(sl:Value)(w:World)(h:Ps X st sl w)(hs:Sf X st)(hall:st.all.length≤65537)(hq:(st.l.getD (phraseN st) z).kind=60):
 Calls Tryz.prog 177 #[.pointer (some ⟨X.W.heap.size,0,none⟩)] w fun e w'=>e=.returned (.tuple #[])∧∃sl',Ps X (mailboxQ X.body.data.toList st) sl' w':=by
 have hp:=hs.pos
 have hn:=hs.ph hX
 have hsa:=hs.behind hX (by rw[hq];decide)
 obtain⟨q,cp,ad,hl,hq1,hcp1,hcp2,had,hpb⟩:=h.at_
 obtain rfl:=had hp
 have HH:=hid h
 have HXX:=hid hX
 have HM:=hid (show mailboxQ X.body.data.toList st=wantS 62 (specQ (phraseT X.body.data.toList st) (if isQ 64 ⟨st.bad,st.l.drop (phraseN st+1),st.all⟩=true then wantS 58 (routeQ ((st.l.drop (phraseN st+1)).length+1) ⟨st.bad,st.l.drop (phraseN st+1),st.all⟩)else⟨st.bad,st.l.drop (phraseN st+1),st.all⟩)) by unfold mailboxQ;rw[if_neg (by rw[hq];simp)])
 have HPH:=(show Hid (Calls Tryz.prog 176 #[.pointer (some ⟨X.W.heap.size,0,none⟩)] w fun e w'=>e=.returned (.tuple #[.int .i64 (phraseN st:Nat),.string ⟨(phraseT X.body.data.toList st).toArray⟩])∧Bel w w'∧w'.heap[X.W.heap.size]?=some (.cells #[.string X.body,.slice (some ⟨X.lb,q*4,none⟩) st.l.length cp,.bool st.bad,sl] 164 (0,0))∧w'.cell? ⟨X.lb,q*4+phraseN st*4,none⟩=some (.int .u8 60))from by
  refine(phrase_run X hX hP st sl w h hs).mono ?_
  rintro e w' ⟨rfl,hb⟩
  refine⟨rfl,hb,hb.heap hpb,?_⟩
  have:=(h.next hb).tok hX hl (phraseN st) hn 0 _ rfl
  rw[Nat.add_mul,Nat.add_zero]at this
  rw[List.getD_eq_getElem?_getD,List.getElem?_eq_getElem hn]at hq
  rw[this]
  have hq2:st.l[phraseN st].kind=60:=hq
  rw[hq2];rfl)
 have hb1:decide ((phraseN st:Int)<(st.l.length:Int))=true:=decide_eq_true (by omega)
 have hle:=hs.le hX
 have hn2:phraseN st+1<st.l.length:=by
  have:=hsa.pos
  simp only[List.length_drop]at this
  omega
 generalize phraseT X.body.data.toList st=nm at HPH HM
 have hnk:X.T.drop q=st.l:=hl.symm
 obtain⟨n,hnn⟩:∃n,n=phraseN st:=⟨_,rfl⟩
 rw[←hnn]at HPH hb1 hn hn2 HM hsa
 have hcn:¬(cp=n+1):=by omega
 have HA:=(show Hid (∀W W',Bel w W→(∀k,k≠X.W.heap.size→W'.heap[k]?=W.heap[k]?)→(∀U:World,Bel U W→U.heap.size≤X.W.heap.size→Bel U W')→W'.heap[X.W.heap.size]?=some (.cells #[.string X.body,.slice (some ⟨X.lb,q*4+(n+1)*4,none⟩) (st.l.length-(n+1):Nat) (cp-(n+1):Nat),.bool st.bad,sl] 164 (0,0))→Ps X ⟨st.bad,st.l.drop (n+1),st.all⟩ sl W')from fun W W' hb ho hbb hw=>(h.next hb).upd ho hbb rfl ⟨q+(n+1),cp-(n+1),_,by rw[hl,List.drop_drop],by have:=congrArg List.length hl;rw[List.length_drop]at this;omega,by rw[List.length_drop];omega,by omega,fun _=>by rw[Nat.add_mul],by rw[List.length_drop];exact hw⟩)
 obtain⟨a,haa⟩:∃a:St,a=⟨st.bad,st.l.drop (n+1),st.all⟩:=⟨_,rfl⟩
 have hall':a.all.length≤65537:=by rw[haa];exact hall
 rw[←haa]at hsa HA HM
 rw[show st.l.drop (n+1)=a.l by rw[haa]]at HM
 have HI:=(show Hid (∀W,Ps X a sl W→Calls Tryz.prog 173 #[.pointer (some ⟨X.W.heap.size,0,none⟩),.int .u8 64] W fun e w'=>e=.returned (.bool (isQ 64 a))∧w'=W)from fun W hW=>is_run X hX a sl W 64 hW hsa.pos)
 have HSP:=(show Hid (∀b,Sf X b→b.all.length≤65537→∀W,Ps X b sl W→Calls Tryz.prog 232 #[.pointer (some ⟨X.W.heap.size,0,none⟩),.string ⟨nm.toArray⟩] W fun e w'=>e=.returned (.tuple #[])∧∃sl',Ps X (specQ nm b) sl' w')from fun b hb hbl W hW=>spec_run X hX b sl W nm hW hb hbl)
 have HWA:=(show Hid (∀b,Sf X b→∀(k:UInt8) sl' W,Ps X b sl' W→Calls Tryz.prog 175 #[.pointer (some ⟨X.W.heap.size,0,none⟩),.int .u8 k.toNat] W fun e w'=>e=.returned (tkV (takeT k b))∧Pw X (wantS k b) sl' W w')from fun b hb k sl' W hW=>want_run X hX b sl' W k hW hb.pos)
 have HDO:=(show Hid (∀b,Sf X b→∀W,Ps X b sl W→Calls Tryz.prog 233 #[.pointer (some ⟨X.W.heap.size,0,none⟩)] W fun e w'=>e=.returned (.tuple #[.string ⟨(domQ b).1.toArray⟩,.int .i64 ((domQ b).2.1.til:Nat)])∧Pw X (domQ b).2.2 sl W w')from fun b hb W hW=>domain_run X hX b sl W hW hb)
 have HTO:=(show Hid (∀b,Sf X b→∀W,Ps X b sl W→Calls Tryz.prog 174 #[.pointer (some ⟨X.W.heap.size,0,none⟩),.int .u8 44] W fun e w'=>e=.returned (.bool (isQ 44 b))∧Pw X (takeS 44 b) sl W w')from fun b hb W hW=>took_run X hX b sl W 44 hW hb.pos)
 clear h hX hP hs hq hpb hl had hnk hnn hall haa
 by_cases h64:isQ 64 a=true
 ·rw[h64]at HI
  rw[if_pos h64]at HM
  clear h64
  go_enter Tryz.func177,Tryz.ntmps177
  go_wp2_with (first|(go_at_call 176;refine HPH.out.mono ?_;rintro e w1 ⟨rfl,hw1,hq1',k1⟩;have p1:=(Ps.c1 hq1').2.1)|((with_reducible refine wpList_store_one (by with_unfolding_all rfl) 158 (.tmp 29) (.tmp 27) (by with_unfolding_all rfl) X.W.heap.size 1 _ (by with_unfolding_all rfl) (by with_unfolding_all rfl) (by with_unfolding_all rfl) slice_size [_,_,_,_] _ hq1' (by with_unfolding_all simp) ?_);intro w2 hq2 ho2 hb2 he2;have ha2:=hid (HA.out w1 w2 hw1 ho2 hb2 hq2);clear he2 hq2 ho2 hb2 hq1' p1)|(go_at_call 173;refine(HI.out _ ha2.out).mono ?_;rintro e w3 ⟨rfl,rfl⟩))
  go_loopg [33] (a.l.length+1) (fun gg _ wr=>∃b:St,Hid (routeQ gg b=routeQ (a.l.length+1) a∧Ps X b sl wr∧Sf X b∧b.l.length<gg))
  case atStart=>exact⟨a,hid ⟨rfl,ha2.out,hsa,Nat.lt_succ_self _⟩⟩
  case round=>
   obtain⟨b,H⟩:=hrel
   obtain⟨hr,hps,hsb,hbl⟩:=H.out
   obtain⟨m,hm⟩:∃m,gk=m+1:=⟨gk-1,by omega⟩
   have HW:=(show Hid (∀W,Ps X b sl W→Calls Tryz.prog 175 #[.pointer (some ⟨X.W.heap.size,0,none⟩),.int .u8 64] W fun e w'=>e=.returned (tkV (takeT 64 b))∧Pw X (wantS 64 b) sl W w')from fun W hW=>HWA.out b hsb 64 sl W hW)
   have hs1:=hsb.want HXX.out (k:=64) (by decide)
   have HD:=HDO.out _ hs1
   have hs2:=hs1.dom HXX.out
   have HT:=HTO.out _ hs2
   have hdl:=Nat.le_trans (dom_le (wantS 64 b)) (want_le 64 b)
   have hrr:routeQ gk b=if isQ 44 (domQ (wantS 64 b)).2.2=true then routeQ m (takeS 44 (domQ (wantS 64 b)).2.2)else(domQ (wantS 64 b)).2.2:=by rw[hm];rfl
   rw[hr]at hrr
   have HPS:=hid hps
   have HDd:=(show Hid (∀W,Ps X (wantS 64 b) sl W→Calls Tryz.prog 233 #[.pointer (some ⟨X.W.heap.size,0,none⟩)] W fun e w'=>e=.returned (.tuple #[.string ⟨(domQ (wantS 64 b)).1.toArray⟩,.int .i64 ((domQ (wantS 64 b)).2.1.til:Nat)])∧Pw X (domQ (wantS 64 b)).2.2 sl W w')from HD)
   clear HD
   generalize domQ (wantS 64 b)=D at HDd HT hs2 hdl hrr
   obtain⟨D1,D2,d⟩:=D
   dsimp only at HDd HT hs2 hdl hrr
   by_cases h44:isQ 44 d=true
   ·have HTt:=(show Hid (∀W,Ps X d sl W→Calls Tryz.prog 174 #[.pointer (some ⟨X.W.heap.size,0,none⟩),.int .u8 44] W fun e w'=>e=.returned (.bool true)∧Pw X (takeS 44 d) sl W w')from h44▸HT)
    rw[if_pos h44]at hrr
    have hlt:=take_lt h44 hs2.pos
    have HN:=hid (And.intro hrr (And.intro (hs2.take HXX.out (k:=44) (by decide)) (show(takeS 44 d).l.length<m by omega)))
    have HM1:=hid hm
    clear h44 HT hr hps hsb hbl H hs1 hs2 hdl hrr hlt hm
    go_wp2_with (first|(go_at_call 175;refine(HW.out _ HPS.out).mono ?_;rintro e w4 ⟨rfl,hp4⟩)|(go_at_call 233;refine(HDd.out _ hp4.ps).mono ?_;rintro e w5 ⟨rfl,hp5⟩)|(go_at_call 174;refine(HTt.out _ hp5.ps).mono ?_;rintro e w6 ⟨rfl,hp6⟩))
    go_roundg m
    case measure=>have:=HM1.out;omega
    case rel=>exact⟨_,hid ⟨HN.out.1.symm,hp6.ps,HN.out.2.1,HN.out.2.2⟩⟩
   ·have HTt:=(show Hid (∀W,Ps X d sl W→Calls Tryz.prog 174 #[.pointer (some ⟨X.W.heap.size,0,none⟩),.int .u8 44] W fun e w'=>e=.returned (.bool false)∧Pw X (takeS 44 d) sl W w')from good_of h44▸HT)
    rw[if_neg h44]at hrr
    have hts:takeS 44 d=d:=by unfold takeS;rw[if_neg h44]
    rw[hts]at HTt
    have hda:d.all=a.all:=by rw[←hrr];exact routeQ_all _ _
    have hs3:=hs2.want HXX.out (k:=58) (by decide)
    have HW5:=(show Hid (∀W,Ps X d sl W→Calls Tryz.prog 175 #[.pointer (some ⟨X.W.heap.size,0,none⟩),.int .u8 58] W fun e w'=>e=.returned (tkV (takeT 58 d))∧Pw X (wantS 58 d) sl W w')from fun W hW=>HWA.out d hs2 58 sl W hW)
    have HS:=(show Hid (∀W,Ps X (wantS 58 d) sl W→Calls Tryz.prog 232 #[.pointer (some ⟨X.W.heap.size,0,none⟩),.string ⟨nm.toArray⟩] W fun e w'=>e=.returned (.tuple #[])∧∃sl',Ps X (specQ nm (wantS 58 d)) sl' w')from HSP.out _ hs3 (by show d.all.length≤_;rw[hda];exact hall'))
    have HW6:=(show Hid (∀sl' W,Ps X (specQ nm (wantS 58 d)) sl' W→Calls Tryz.prog 175 #[.pointer (some ⟨X.W.heap.size,0,none⟩),.int .u8 62] W fun e w'=>e=.returned (tkV (takeT 62 (specQ nm (wantS 58 d))))∧Pw X (wantS 62 (specQ nm (wantS 58 d))) sl' W w')from fun sl' W hW=>HWA.out _ (hs3.spec HXX.out nm) 62 sl' W hW)
    have HE:=hid (show mailboxQ X.body.data.toList st=wantS 62 (specQ nm (wantS 58 d)) by rw[HM.out,hrr])
    clear h44 HT hr hps hsb hbl H hs1 hs2 hdl hrr hm hts hda hs3
    go_wp2_with (first|(go_at_call 175;first|((with_reducible refine(HW.out _ HPS.out).mono ?_);rintro e w4 ⟨rfl,hp4⟩)|((with_reducible refine(HW5.out _ hp6.ps).mono ?_);rintro e w7 ⟨rfl,hp7⟩)|((with_reducible refine(HW6.out _ _ hp8).mono ?_);rintro e w9 ⟨rfl,hp9⟩))|(go_at_call 233;refine(HDd.out _ hp4.ps).mono ?_;rintro e w5 ⟨rfl,hp5⟩)|(go_at_call 174;refine(HTt.out _ hp5.ps).mono ?_;rintro e w6 ⟨rfl,hp6⟩)|(go_at_call 232;refine(HS.out _ hp7.ps).mono ?_;rintro e w8 ⟨rfl,sl',hp8⟩))
    show bodyPost Tryz.prog Tryz.f177 _ Exit.normal _ _
    refine bodyPost_end (results_none rfl _ _ _) rfl ?_
    rw[HE.out]
    exact⟨rfl,sl',hp9.ps⟩
 ·have HIf:=good_of h64
  rw[HIf]at HI
  rw[if_neg h64]at HM
  have HS:=(show Hid (∀W,Ps X a sl W→Calls Tryz.prog 232 #[.pointer (some ⟨X.W.heap.size,0,none⟩),.string ⟨nm.toArray⟩] W fun e w'=>e=.returned (.tuple #[])∧∃sl',Ps X (specQ nm a) sl' w')from HSP.out _ hsa hall')
  have HW6:=(show Hid (∀sl' W,Ps X (specQ nm a) sl' W→Calls Tryz.prog 175 #[.pointer (some ⟨X.W.heap.size,0,none⟩),.int .u8 62] W fun e w'=>e=.returned (tkV (takeT 62 (specQ nm a)))∧Pw X (wantS 62 (specQ nm a)) sl' W w')from fun sl' W hW=>HWA.out _ (hsa.spec HXX.out nm) 62 sl' W hW)
  clear h64 HIf hsa hall'
  go_enter Tryz.func177,Tryz.ntmps177
  go_wp2_with (first|(go_at_call 176;refine HPH.out.mono ?_;rintro e w1 ⟨rfl,hw1,hq1',k1⟩;have p1:=(Ps.c1 hq1').2.1)|((with_reducible refine wpList_store_one (by with_unfolding_all rfl) 158 (.tmp 29) (.tmp 27) (by with_unfolding_all rfl) X.W.heap.size 1 _ (by with_unfolding_all rfl) (by with_unfolding_all rfl) (by with_unfolding_all rfl) slice_size [_,_,_,_] _ hq1' (by with_unfolding_all simp) ?_);intro w2 hq2 ho2 hb2 he2;have ha2:=hid (HA.out w1 w2 hw1 ho2 hb2 hq2);clear he2 hq2 ho2 hb2 hq1' p1)|(go_at_call 173;refine(HI.out _ ha2.out).mono ?_;rintro e w3 ⟨rfl,rfl⟩)|(go_at_call 232;refine(HS.out _ ha2.out).mono ?_;rintro e w8 ⟨rfl,sl',hp8⟩)|(go_at_call 175;refine(HW6.out _ _ hp8).mono ?_;rintro e w9 ⟨rfl,hp9⟩))
  show bodyPost Tryz.prog Tryz.f177 _ Exit.normal _ _
  refine bodyPost_end (results_none rfl _ _ _) rfl ?_
  rw[HM.out]
  exact⟨rfl,sl',hp9.ps⟩
theorem mailbox_run(X:Cx)(hX:X.Ok)(hP:X.Pos)(st:St)(sl:Value)(w:World)(h:Ps X st sl w)(hs:Sf X st)(hall:st.all.length≤65537):
 Calls Tryz.prog 177 #[.pointer (some ⟨X.W.heap.size,0,none⟩)] w fun e w'=>e=.returned (.tuple #[])∧∃sl',Ps X (mailboxQ X.body.data.toList st) sl' w':=by
 by_cases hq:(st.l.getD (phraseN st) z).kind=60
 ·exact mailbox_angle X hX hP st sl w h hs hall hq
 ·exact mailbox_bare X hX hP st sl w h hs hall hq
end Go.Proofs.YtmlmkmhkmifnkaaGreatDoor.Ma
namespace Go.Proofs.YtmlmkmhkmifnkaaGreatDoor.Ma
def cnt(st:St):Nat:=st.all.length+st.l.length
theorem locLoop_le:∀(n:Nat) (s:List UInt8) (st:St),(locLoop n s st).2.l.length≤st.l.length
 |0,_,_=>Nat.le_refl _
 |n+1,s,st=>by
  rw[Ma.locLoop]
  split
  ·refine Nat.le_trans (locLoop_le n _ _) (Nat.le_trans (word_le _) ?_)
   unfold takeS
   split<;>simp
  ·exact Nat.le_refl _
theorem isQ_ne{k:UInt8}{st:St}(hk:k≠0)(h:isQ k st=true):0<st.l.length:=by
 cases st with
 |mk bad l all=>cases l with
  |nil=>simp[isQ,hd,z,Ne.symm hk]at h
  |cons t l=>simp
theorem word_lt{st:St}(h:(wordS st).bad=false):(wordS st).l.length<st.l.length:=by
 unfold wordS at h⊢
 by_cases hq:isQ 113 st=true
 ·rw[if_pos hq]
  exact take_lt hq (isQ_ne (by decide) hq)
 ·rw[if_neg hq]at h⊢
  have h2:=want_bad h
  exact take_lt h2 (isQ_ne (by decide) h2)
theorem spec_cnt(name:List UInt8)(st:St)(h:(specQ name st).bad=false):cnt (specQ name st)≤cnt st∧(specQ name st).l.length≤st.l.length:=by
 have hw:(wordS st).bad=false:=good_of fun hb=>by
  have h1:(locQ st).2=wordS st:=by unfold locQ;rw[locLoop_bad _ _ _ hb]
  have h2:(specQ name st).bad=true:=dom_bad _ (by rw[h1];simp[wantS,hb])
  rw[h2]at h;exact absurd h (by simp)
 have h1:=word_lt hw
 have h2:(locQ st).2.l.length≤(wordS st).l.length:=locLoop_le _ _ _
 have h3:=want_le 64 (locQ st).2
 have h4:=dom_le (wantS 64 (locQ st).2)
 have h5:(domQ (wantS 64 (locQ st).2)).2.2.all=st.all:=by
  rw[dom_all]
  show(locQ st).2.all=st.all
  unfold locQ
  rw[locLoop_all,word_all]
 unfold cnt
 show((domQ (wantS 64 (locQ st).2)).2.2.all++[_]).length+(domQ (wantS 64 (locQ st).2)).2.2.l.length≤_∧(domQ (wantS 64 (locQ st).2)).2.2.l.length≤_
 rw[h5,List.length_append,List.length_singleton]
 omega
theorem route_le:∀(n:Nat) (st:St),(routeQ n st).l.length≤st.l.length
 |0,_=>Nat.le_refl _
 |n+1,st=>by
  have h1:(domQ (wantS 64 st)).2.2.l.length≤st.l.length:=Nat.le_trans (dom_le _) (want_le _ _)
  show(if isQ 44 (domQ (wantS 64 st)).2.2=true then routeQ n (takeS 44 (domQ (wantS 64 st)).2.2)else(domQ (wantS 64 st)).2.2).l.length≤_
  split
  ·refine Nat.le_trans (route_le n _) (Nat.le_trans ?_ h1)
   unfold takeS
   split<;>simp
  ·exact h1
theorem want_good{k:UInt8}{st:St}(h:(wantS k st).bad=false):st.bad=false:=by
 unfold wantS at h
 simp at h
 exact h.1
theorem mailbox_cnt(body:List UInt8)(st:St)(h:(mailboxQ body st).bad=false):cnt (mailboxQ body st)≤cnt st∧(mailboxQ body st).l.length≤st.l.length:=by
 unfold mailboxQ at h⊢
 by_cases hq:(st.l.getD (phraseN st) z).kind≠60
 ·rw[if_pos hq]at h⊢
  exact spec_cnt [] st h
 ·rw[if_neg hq]at h⊢
  dsimp only at h⊢
  have hs:=want_good h
  have key:∀b:St,b.all=st.all→b.l.length≤st.l.length→(specQ (phraseT body st) b).bad=false→cnt (wantS 62 (specQ (phraseT body st) b))≤cnt st∧(wantS 62 (specQ (phraseT body st) b)).l.length≤st.l.length:=by
   intro b h1 h2 h3
   have h4:=spec_cnt (phraseT body st) b h3
   have h5:=want_le 62 (specQ (phraseT body st) b)
   unfold cnt at h4⊢
   rw[show(wantS 62 (specQ (phraseT body st) b)).all=(specQ (phraseT body st) b).all from rfl]
   rw[h1]at h4
   omega
  refine key _ ?_ ?_ hs
  ·split
   ·show(routeQ _ _).all=st.all
    rw[routeQ_all]
   ·rfl
  ·have hd:(st.l.drop (phraseN st+1)).length≤st.l.length:=by rw[List.length_drop];omega
   split
   ·exact Nat.le_trans (want_le _ _) (Nat.le_trans (route_le _ _) hd)
   ·exact hd
theorem commas_cnt(e:UInt8)(f:St→St)(hf:∀st,(f st).bad=false→cnt (f st)≤cnt st∧(f st).l.length≤st.l.length):∀(n:Nat) (st:St),(commasQ e f n st).bad=false→cnt (commasQ e f n st)≤cnt st∧(commasQ e f n st).l.length≤st.l.length
 |0,_,_=>⟨Nat.le_refl _,Nat.le_refl _⟩
 |n+1,st,h=>by
  rw[commasQ]at h⊢
  generalize ha:(if(!isQ 44 st&& !isQ e st&& !st.bad)=true then f st else st)=a at h⊢
  have h1:a.bad=false→cnt a≤cnt st∧a.l.length≤st.l.length:=by
   intro hb
   by_cases hc:(!isQ 44 st&& !isQ e st&& !st.bad)=true
   ·rw[if_pos hc]at ha
    subst ha
    exact hf st hb
   ·rw[if_neg hc]at ha
    subst ha
    exact⟨Nat.le_refl _,Nat.le_refl _⟩
  by_cases hq:isQ 44 a=true
  ·rw[if_pos hq]at h⊢
   have h2:=commas_cnt e f hf n (takeS 44 a) h
   have h3:=h1 (isQ_bad hq)
   have h4:=take_lt hq (isQ_ne (by decide) hq)
   have h5:=take_all 44 a
   unfold cnt at*
   rw[h5]at h2
   omega
  ·rw[if_neg hq]at h⊢
   have h3:=h1 (want_good h)
   have h4:=want_le e a
   unfold cnt at*
   rw[show(wantS e a).all=a.all from rfl]
   omega
end Go.Proofs.YtmlmkmhkmifnkaaGreatDoor.Ma
namespace Go.Proofs.YtmlmkmhkmifnkaaGreatDoor.Ma
open Go.RowKit
open Ci (Bel own_bel row_shape addr_add own_base)
theorem commas_mb(X:Cx)(hX:X.Ok)(hP:X.Pos)(st:St)(sl:Value)(w:World)(h:Ps X st sl w)(hs:Sf X st)(hbad:st.bad=false)(hc:cnt st≤65537):
 Calls Tryz.prog 102 #[.pointer (some ⟨X.W.heap.size,0,none⟩),.int .u8 59,.func (.func 177) #[.pointer (some ⟨X.W.heap.size,0,none⟩)] #[]] w fun e w'=>e=.returned (.tuple #[])∧∃sl',Ps X (commasQ 59 (mailboxQ X.body.data.toList) (st.l.length+1) st) sl' w':=by
 have HIS:=(show Hid (∀(k:UInt8) b,Sf X b→∀sl' W,Ps X b sl' W→Calls Tryz.prog 173 #[.pointer (some ⟨X.W.heap.size,0,none⟩),.int .u8 k.toNat] W fun e w'=>e=.returned (.bool (isQ k b))∧w'=W)from fun k b hb sl' W hW=>is_run X hX b sl' W k hW hb.pos)
 have HTO:=(show Hid (∀b,Sf X b→∀sl' W,Ps X b sl' W→Calls Tryz.prog 174 #[.pointer (some ⟨X.W.heap.size,0,none⟩),.int .u8 44] W fun e w'=>e=.returned (.bool (isQ 44 b))∧Pw X (takeS 44 b) sl' W w')from fun b hb sl' W hW=>took_run X hX b sl' W 44 hW hb.pos)
 have HWA:=(show Hid (∀b,Sf X b→∀sl' W,Ps X b sl' W→Calls Tryz.prog 175 #[.pointer (some ⟨X.W.heap.size,0,none⟩),.int .u8 59] W fun e w'=>e=.returned (tkV (takeT 59 b))∧Pw X (wantS 59 b) sl' W w')from fun b hb sl' W hW=>want_run X hX b sl' W 59 hW hb.pos)
 have HMB:=(show Hid (∀b,Sf X b→b.all.length≤65537→∀sl' W,Ps X b sl' W→Calls Tryz.prog 177 #[.pointer (some ⟨X.W.heap.size,0,none⟩)] W fun e w'=>e=.returned (.tuple #[])∧∃sl2,Ps X (mailboxQ X.body.data.toList b) sl2 w')from fun b hb hl sl' W hW=>mailbox_run X hX hP b sl' W hW hb hl)
 have HXX:=hid hX
 have HH:=hid h
 clear hP h hX
 go_enter Tryz.func102,Tryz.ntmps102
 go_wp2_with fail
 go_loopg [6] (st.l.length+1) (fun gg _ wr=>∃(b:St) (sl':Value),Hid (commasQ 59 (mailboxQ X.body.data.toList) gg b=commasQ 59 (mailboxQ X.body.data.toList) (st.l.length+1) st∧Ps X b sl' wr∧Sf X b∧b.l.length<gg∧b.bad=false∧cnt b≤65537))
 case atStart=>exact⟨st,sl,hid ⟨rfl,HH.out,hs,Nat.lt_succ_self _,hbad,hc⟩⟩
 case round=>
  obtain⟨b,sl',H⟩:=hrel
  obtain⟨hr,hps,hsb,hbl,hbb,hbc⟩:=H.out
  obtain⟨m,hm⟩:∃m,gk=m+1:=⟨gk-1,by omega⟩
  have hrr:commasQ 59 (mailboxQ X.body.data.toList) gk b=if isQ 44 (if(!isQ 44 b&& !isQ 59 b&& !b.bad)=true then mailboxQ X.body.data.toList b else b)=true then commasQ 59 (mailboxQ X.body.data.toList) m (takeS 44 (if(!isQ 44 b&& !isQ 59 b&& !b.bad)=true then mailboxQ X.body.data.toList b else b))else wantS 59 (if(!isQ 44 b&& !isQ 59 b&& !b.bad)=true then mailboxQ X.body.data.toList b else b):=by rw[hm];rfl
  rw[hr,hbb]at hrr
  have HI1:=(show Hid (∀W,Ps X b sl' W→Calls Tryz.prog 173 #[.pointer (some ⟨X.W.heap.size,0,none⟩),.int .u8 44] W fun e w'=>e=.returned (.bool (isQ 44 b))∧w'=W)from fun W hW=>HIS.out 44 b hsb sl' W hW)
  have HI2:=(show Hid (∀W,Ps X b sl' W→Calls Tryz.prog 173 #[.pointer (some ⟨X.W.heap.size,0,none⟩),.int .u8 59] W fun e w'=>e=.returned (.bool (isQ 59 b))∧w'=W)from fun W hW=>HIS.out 59 b hsb sl' W hW)
  have HPS:=hid hps
  have p2:wr.cell? ⟨X.W.heap.size,2,none⟩=some (.bool false):=by
   obtain⟨k',cp',ad',h1,h2,h3,h4,h5,h6⟩:=hps.at_
   have:=(Ps.c1 h6).2.2.1
   rw[hbb]at this
   exact this
  by_cases q1:isQ 44 b=true
  ·have HT:=(show Hid (∀W,Ps X b sl' W→Calls Tryz.prog 174 #[.pointer (some ⟨X.W.heap.size,0,none⟩),.int .u8 44] W fun e w'=>e=.returned (.bool true)∧Pw X (takeS 44 b) sl' W w')from fun W hW=>q1▸HTO.out b hsb sl' W hW)
   rw[q1]at HI1
   simp only[q1,Bool.not_true,Bool.false_and,Bool.false_eq_true,if_false,if_true]at hrr
   have hlt:=take_lt q1 hsb.pos
   have HN:=hid (And.intro hrr (And.intro (hsb.take HXX.out (k:=44) (by decide)) (And.intro (show(takeS 44 b).l.length<m by omega) (And.intro ((take_bad 44 b).trans hbb) (show cnt (takeS 44 b)≤65537 by unfold cnt at hbc⊢;rw[take_all];omega)))))
   have HM1:=hid hm
   clear q1 hr hps hsb hbl hbb hbc H hrr hlt hm
   go_wp2_with (first|(go_at_call 173;(with_reducible refine(HI1.out _ HPS.out).mono ?_);rintro e w3 ⟨rfl,rfl⟩)|(go_at_call 174;refine(HT.out _ HPS.out).mono ?_;rintro e w6 ⟨rfl,hp6⟩))
   go_roundg m
   case measure=>have:=HM1.out;omega
   case rel=>exact⟨_,sl',hid ⟨HN.out.1.symm,hp6.ps,HN.out.2⟩⟩
  ·have q1f:=good_of q1
   rw[q1f]at HI1
   by_cases q2:isQ 59 b=true
   ·have HT:=(show Hid (∀W,Ps X b sl' W→Calls Tryz.prog 174 #[.pointer (some ⟨X.W.heap.size,0,none⟩),.int .u8 44] W fun e w'=>e=.returned (.bool false)∧Pw X (takeS 44 b) sl' W w')from fun W hW=>q1f▸HTO.out b hsb sl' W hW)
    have hts:takeS 44 b=b:=by unfold takeS;rw[if_neg q1]
    rw[hts]at HT
    rw[q2]at HI2
    simp only[q1f,q2,Bool.not_true,Bool.and_false,Bool.false_and,Bool.false_eq_true,if_false]at hrr
    have HW:=HWA.out b hsb
    have HR:=hid hrr
    clear q1 q1f q2 hr hps hsb hbl hbb hbc H hrr hm hts
    go_wp2_with (first|(go_at_call 173;first|((with_reducible refine(HI1.out _ HPS.out).mono ?_);rintro e w3 ⟨rfl,rfl⟩)|((with_reducible refine(HI2.out _ HPS.out).mono ?_);rintro e w3 ⟨rfl,rfl⟩))|(go_at_call 174;refine(HT.out _ HPS.out).mono ?_;rintro e w6 ⟨rfl,hp6⟩)|(go_at_call 175;refine(HW _ _ hp6.ps).mono ?_;rintro e w7 ⟨rfl,hp7⟩))
    show bodyPost Tryz.prog Tryz.f102 _ Exit.normal _ _
    refine bodyPost_end (results_none rfl _ _ _) rfl ?_
    rw[HR.out]
    exact⟨rfl,sl',hp7.ps⟩
   ·have q2f:=good_of q2
    rw[q2f]at HI2
    simp only[q1f,q2f,Bool.not_false,Bool.and_true,if_true]at hrr
    have hsa:=hsb.mailbox HXX.out X.body.data.toList
    have HM:=(show Hid (∀W,Ps X b sl' W→Calls Tryz.prog 177 #[.pointer (some ⟨X.W.heap.size,0,none⟩)] W fun e w'=>e=.returned (.tuple #[])∧∃sl2,Ps X (mailboxQ X.body.data.toList b) sl2 w')from HMB.out b hsb (by unfold cnt at hbc;omega) sl')
    have hcn:=mailbox_cnt X.body.data.toList b
    generalize mailboxQ X.body.data.toList b=a at HM hsa hrr hcn
    by_cases q3:isQ 44 a=true
    ·have HT:=(show Hid (∀sl2 W,Ps X a sl2 W→Calls Tryz.prog 174 #[.pointer (some ⟨X.W.heap.size,0,none⟩),.int .u8 44] W fun e w'=>e=.returned (.bool true)∧Pw X (takeS 44 a) sl2 W w')from fun sl2 W hW=>q3▸HTO.out a hsa sl2 W hW)
     rw[if_pos q3]at hrr
     have hab:=isQ_bad q3
     have hcn2:=hcn hab
     have hlt:=take_lt q3 hsa.pos
     have HN:=hid (And.intro hrr (And.intro (hsa.take HXX.out (k:=44) (by decide)) (And.intro (show(takeS 44 a).l.length<m by omega) (And.intro ((take_bad 44 a).trans hab) (show cnt (takeS 44 a)≤65537 by unfold cnt at hbc hcn2⊢;rw[take_all];omega)))))
     have HM1:=hid hm
     clear q1 q1f q2 q2f q3 hr hps hsb hbl hbb hbc H hrr hlt hm hab hcn hcn2 hsa
     go_wp2_with (first|(go_at_call 173;first|((with_reducible refine(HI1.out _ HPS.out).mono ?_);rintro e w3 ⟨rfl,rfl⟩)|((with_reducible refine(HI2.out _ HPS.out).mono ?_);rintro e w3 ⟨rfl,rfl⟩))|(go_at_call 177;refine(HM.out _ HPS.out).mono ?_;rintro e w5 ⟨rfl,sl2,hp5⟩)|(go_at_call 174;refine(HT.out _ _ hp5).mono ?_;rintro e w6 ⟨rfl,hp6⟩))
     go_roundg m
     case measure=>have:=HM1.out;omega
     case rel=>exact⟨_,sl2,hid ⟨HN.out.1.symm,hp6.ps,HN.out.2⟩⟩
    ·have HT:=(show Hid (∀sl2 W,Ps X a sl2 W→Calls Tryz.prog 174 #[.pointer (some ⟨X.W.heap.size,0,none⟩),.int .u8 44] W fun e w'=>e=.returned (.bool false)∧Pw X (takeS 44 a) sl2 W w')from fun sl2 W hW=>good_of q3▸HTO.out a hsa sl2 W hW)
     have hts:takeS 44 a=a:=by unfold takeS;rw[if_neg q3]
     rw[hts]at HT
     rw[if_neg q3]at hrr
     have HW:=HWA.out a hsa
     have HR:=hid hrr
     clear q1 q1f q2 q2f q3 hr hps hsb hbl hbb hbc H hrr hm hcn hsa hts
     go_wp2_with (first|(go_at_call 173;first|((with_reducible refine(HI1.out _ HPS.out).mono ?_);rintro e w3 ⟨rfl,rfl⟩)|((with_reducible refine(HI2.out _ HPS.out).mono ?_);rintro e w3 ⟨rfl,rfl⟩))|(go_at_call 177;refine(HM.out _ HPS.out).mono ?_;rintro e w5 ⟨rfl,sl2,hp5⟩)|(go_at_call 174;refine(HT.out _ _ hp5).mono ?_;rintro e w6 ⟨rfl,hp6⟩)|(go_at_call 175;refine(HW _ _ hp6.ps).mono ?_;rintro e w7 ⟨rfl,hp7⟩))
     show bodyPost Tryz.prog Tryz.f102 _ Exit.normal _ _
     refine bodyPost_end (results_none rfl _ _ _) rfl ?_
     rw[HR.out]
     exact⟨rfl,sl2,hp7.ps⟩
end Go.Proofs.YtmlmkmhkmifnkaaGreatDoor.Ma
namespace Go.Proofs.YtmlmkmhkmifnkaaGreatDoor.Ma
open Go.RowKit
open Ci (Bel own_bel row_shape addr_add own_base)
theorem element_run(X:Cx)(hX:X.Ok)(hP:X.Pos)(st:St)(sl:Value)(w:World)(h:Ps X st sl w)(hs:Sf X st)(hbad:st.bad=false)(hc:cnt st≤65537):
 Calls Tryz.prog 103 #[.pointer (some ⟨X.W.heap.size,0,none⟩)] w fun e w'=>e=.returned (.tuple #[])∧∃sl',Ps X (elementQ X.body.data.toList st) sl' w':=by
 have hp:=hs.pos
 have hn:=hs.ph hX
 obtain⟨q,cp,ad,hl,hq1,hcp1,hcp2,had,hpb⟩:=h.at_
 obtain rfl:=had hp
 have HH:=hid h
 have hmf:∀(fn:Fn) (first cap:Array Value) (w:World),(Instr.makeFunc fn first cap).run Tryz.prog w=.ok (.func fn first cap) w:=fun _ _ _ _=>rfl
 have HPH:=(show Hid (Calls Tryz.prog 176 #[.pointer (some ⟨X.W.heap.size,0,none⟩)] w fun e w'=>e=.returned (.tuple #[.int .i64 (phraseN st:Nat),.string ⟨(phraseT X.body.data.toList st).toArray⟩])∧Bel w w'∧w'.heap[X.W.heap.size]?=some (.cells #[.string X.body,.slice (some ⟨X.lb,q*4,none⟩) st.l.length cp,.bool st.bad,sl] 164 (0,0))∧w'.cell? ⟨X.lb,q*4+phraseN st*4,none⟩=some (.int .u8 (st.l.getD (phraseN st) z).kind.toNat))from by
  refine(phrase_run X hX hP st sl w h hs).mono ?_
  rintro e w' ⟨rfl,hb⟩
  refine⟨rfl,hb,hb.heap hpb,?_⟩
  have:=(h.next hb).tok hX hl (phraseN st) hn 0 _ rfl
  rw[Nat.add_mul,Nat.add_zero]at this
  rw[List.getD_eq_getElem?_getD,List.getElem?_eq_getElem hn]
  exact this)
 have hb1:decide ((phraseN st:Int)<(st.l.length:Int))=true:=decide_eq_true (by omega)
 have hle:=hs.le hX
 by_cases hq:phraseN st=0∨(st.l.getD (phraseN st) z).kind≠58
 ·have HM:=hid (show elementQ X.body.data.toList st=mailboxQ X.body.data.toList st by unfold elementQ;rw[if_pos hq])
  have HMB:=(show Hid (∀W,Ps X st sl W→Calls Tryz.prog 177 #[.pointer (some ⟨X.W.heap.size,0,none⟩)] W fun e w'=>e=.returned (.tuple #[])∧∃sl2,Ps X (mailboxQ X.body.data.toList st) sl2 w')from fun W hW=>mailbox_run X hX hP st sl W hW hs (by unfold cnt at hc;omega))
  generalize st.l.getD (phraseN st) z=t at hq HPH
  generalize phraseT X.body.data.toList st=nm at HPH
  generalize phraseN st=n at HPH hb1 hn hq
  clear h hX hP hs hpb hl had hbad hc
  by_cases h0:n=0
  ·subst h0
   clear hq
   go_enter Tryz.func103,Tryz.ntmps103
   go_wp2_with (first|(go_at_call 176;refine HPH.out.mono ?_;rintro e w1 ⟨rfl,hw1,hq1',k1⟩;have p1:=(Ps.c1 hq1').2.1)|(go_at_call 177;refine(HMB.out _ (HH.out.next hw1)).mono ?_;rintro e w2 ⟨rfl,sl',hp2⟩))
   refine bodyPost_ret (results_none rfl _ _ _) rfl ?_
   rw[HM.out]
   exact⟨rfl,sl',hp2⟩
  ·have hk:t.kind≠58:=hq.resolve_left h0
   have b0:((n:Int)==0)=false:=by rw[beq_eq_false_iff_ne];omega
   have b6:((t.kind.toNat:Int)==58)=false:=byte_ne (n:=58) (by decide) hk
   have b6n:¬((t.kind.toNat:Int)=58):=by simpa using b6
   clear hq hk
   go_enter Tryz.func103,Tryz.ntmps103
   go_wp2_with (first|(go_at_call 176;refine HPH.out.mono ?_;rintro e w1 ⟨rfl,hw1,hq1',k1⟩;have p1:=(Ps.c1 hq1').2.1)|(go_at_call 177;refine(HMB.out _ (HH.out.next hw1)).mono ?_;rintro e w2 ⟨rfl,sl',hp2⟩))
   refine bodyPost_ret (results_none rfl _ _ _) rfl ?_
   rw[HM.out]
   exact⟨rfl,sl',hp2⟩
 ·simp only[not_or,Classical.not_not]at hq
  obtain⟨h0,hk⟩:=hq
  have HM:=hid (show elementQ X.body.data.toList st=commasQ 59 (mailboxQ X.body.data.toList) ((st.l.drop (phraseN st+1)).length+1) ⟨st.bad,st.l.drop (phraseN st+1),st.all⟩ by unfold elementQ;rw[if_neg (by rintro(e|e);exact h0 e;exact e hk)])
  have hsa:=hs.behind hX (by rw[hk];decide)
  have hn2:phraseN st+1<st.l.length:=by
   have:=hsa.pos
   simp only[List.length_drop]at this
   omega
  generalize hT:st.l.getD (phraseN st) z=t at hk HPH
  generalize phraseT X.body.data.toList st=nm at HPH
  obtain⟨n,hnn⟩:∃n,n=phraseN st:=⟨_,rfl⟩
  rw[←hnn]at HPH hb1 hn hn2 HM hsa h0
  have hcn:¬(cp=n+1):=by omega
  have HA:=(show Hid (∀W W',Bel w W→(∀k,k≠X.W.heap.size→W'.heap[k]?=W.heap[k]?)→(∀U:World,Bel U W→U.heap.size≤X.W.heap.size→Bel U W')→W'.heap[X.W.heap.size]?=some (.cells #[.string X.body,.slice (some ⟨X.lb,q*4+(n+1)*4,none⟩) (st.l.length-(n+1):Nat) (cp-(n+1):Nat),.bool st.bad,sl] 164 (0,0))→Ps X ⟨st.bad,st.l.drop (n+1),st.all⟩ sl W')from fun W W' hb ho hbb hw=>(h.next hb).upd ho hbb rfl ⟨q+(n+1),cp-(n+1),_,by rw[hl,List.drop_drop],by have:=congrArg List.length hl;rw[List.length_drop]at this;omega,by rw[List.length_drop];omega,by omega,fun _=>by rw[Nat.add_mul],by rw[List.length_drop];exact hw⟩)
  have HC:=(show Hid (∀W,Ps X ⟨st.bad,st.l.drop (n+1),st.all⟩ sl W→Calls Tryz.prog 102 #[.pointer (some ⟨X.W.heap.size,0,none⟩),.int .u8 59,.func (.func 177) #[.pointer (some ⟨X.W.heap.size,0,none⟩)] #[]] W fun e w'=>e=.returned (.tuple #[])∧∃sl',Ps X (commasQ 59 (mailboxQ X.body.data.toList) ((st.l.drop (n+1)).length+1) ⟨st.bad,st.l.drop (n+1),st.all⟩) sl' w')from fun W hW=>commas_mb X hX hP _ sl W hW hsa hbad (by unfold cnt at hc⊢;rw[List.length_drop];dsimp only;omega))
  have b0:((n:Int)==0)=false:=by rw[beq_eq_false_iff_ne];omega
  have b6:((t.kind.toNat:Int)==58)=true:=byte_eq (n:=58) (by decide) hk
  clear h hX hP hs hpb hl had hnn hbad hc hT hk h0
  go_enter Tryz.func103,Tryz.ntmps103
  go_wp2_with (first|(go_at_call 176;refine HPH.out.mono ?_;rintro e w1 ⟨rfl,hw1,hq1',k1⟩;have p1:=(Ps.c1 hq1').2.1)|((with_reducible refine wpList_store_one (by with_unfolding_all rfl) 158 (.tmp 33) (.tmp 31) (by with_unfolding_all rfl) X.W.heap.size 1 _ (by with_unfolding_all rfl) (by with_unfolding_all rfl) (by with_unfolding_all rfl) slice_size [_,_,_,_] _ hq1' (by with_unfolding_all simp) ?_);intro w2 hq2 ho2 hb2 he2;have ha2:=hid (HA.out w1 w2 hw1 ho2 hb2 hq2);clear he2 hq2 ho2 hb2 hq1' p1)|(go_at_call 102;refine(HC.out _ ha2.out).mono ?_;rintro e w3 ⟨rfl,sl',hp3⟩))
  show bodyPost Tryz.prog Tryz.f103 _ Exit.normal _ _
  refine bodyPost_end (results_none rfl _ _ _) rfl ?_
  rw[HM.out]
  exact⟨rfl,sl',hp3⟩
end Go.Proofs.YtmlmkmhkmifnkaaGreatDoor.Ma
namespace Go.Proofs.YtmlmkmhkmifnkaaGreatDoor.Ma
open Go.RowKit
open Ci (Bel own_bel row_shape addr_add own_base)
theorem Sf.commas{X:Cx}(hX:X.Ok)(e:UInt8)(he:e≠101)(f:St→St)(hf:∀st,Sf X st→Sf X (f st)):∀(n:Nat) (st:St),Sf X st→Sf X (commasQ e f n st)
 |0,_,h=>h
 |n+1,st,h=>by
  rw[commasQ]
  generalize ha:(if(!isQ 44 st&& !isQ e st&& !st.bad)=true then f st else st)=a
  have h1:Sf X a:=by
   subst ha
   split
   ·exact hf st h
   ·exact h
  split
  ·exact Sf.commas hX e he f hf n _ (h1.take hX (by decide))
  ·exact h1.want hX he
theorem Sf.element{X:Cx}{st:St}(hX:X.Ok)(h:Sf X st)(body:List UInt8):Sf X (elementQ body st):=by
 unfold elementQ
 by_cases hq:phraseN st=0∨(st.l.getD (phraseN st) z).kind≠58
 ·rw[if_pos hq]
  exact h.mailbox hX body
 ·rw[if_neg hq]
  simp only[not_or,Classical.not_not]at hq
  exact Sf.commas hX 59 (by decide) _ (fun b hb=>hb.mailbox hX body) _ _ (h.behind hX (by rw[hq.2];decide))
theorem element_cnt(body:List UInt8)(st:St)(h:(elementQ body st).bad=false):cnt (elementQ body st)≤cnt st∧(elementQ body st).l.length≤st.l.length:=by
 unfold elementQ at h⊢
 by_cases hq:phraseN st=0∨(st.l.getD (phraseN st) z).kind≠58
 ·rw[if_pos hq]at h⊢
  exact mailbox_cnt body st h
 ·rw[if_neg hq]at h⊢
  dsimp only at h⊢
  have h1:=commas_cnt 59 (mailboxQ body) (fun b=>mailbox_cnt body b) _ _ h
  have h2:(st.l.drop (phraseN st+1)).length≤st.l.length:=by rw[List.length_drop];omega
  unfold cnt at h1⊢
  dsimp only at h1
  omega
theorem commas_el(X:Cx)(hX:X.Ok)(hP:X.Pos)(st:St)(sl:Value)(w:World)(h:Ps X st sl w)(hs:Sf X st)(hbad:st.bad=false)(hc:cnt st≤65537):
 Calls Tryz.prog 102 #[.pointer (some ⟨X.W.heap.size,0,none⟩),.int .u8 101,.func (.func 103) #[.pointer (some ⟨X.W.heap.size,0,none⟩)] #[]] w fun e w'=>e=.returned (.tuple #[])∧∃sl',Ps X (commasQ 101 (elementQ X.body.data.toList) (st.l.length+1) st) sl' w':=by
 have HIS:=(show Hid (∀(k:UInt8) b,Sf X b→∀sl' W,Ps X b sl' W→Calls Tryz.prog 173 #[.pointer (some ⟨X.W.heap.size,0,none⟩),.int .u8 k.toNat] W fun e w'=>e=.returned (.bool (isQ k b))∧w'=W)from fun k b hb sl' W hW=>is_run X hX b sl' W k hW hb.pos)
 have HTO:=(show Hid (∀b,Sf X b→∀sl' W,Ps X b sl' W→Calls Tryz.prog 174 #[.pointer (some ⟨X.W.heap.size,0,none⟩),.int .u8 44] W fun e w'=>e=.returned (.bool (isQ 44 b))∧Pw X (takeS 44 b) sl' W w')from fun b hb sl' W hW=>took_run X hX b sl' W 44 hW hb.pos)
 have HWA:=(show Hid (∀b,Sf X b→∀sl' W,Ps X b sl' W→Calls Tryz.prog 175 #[.pointer (some ⟨X.W.heap.size,0,none⟩),.int .u8 101] W fun e w'=>e=.returned (tkV (takeT 101 b))∧Pw X (wantS 101 b) sl' W w')from fun b hb sl' W hW=>want_run X hX b sl' W 101 hW hb.pos)
 have HMB:=(show Hid (∀b,Sf X b→b.bad=false→cnt b≤65537→∀sl' W,Ps X b sl' W→Calls Tryz.prog 103 #[.pointer (some ⟨X.W.heap.size,0,none⟩)] W fun e w'=>e=.returned (.tuple #[])∧∃sl2,Ps X (elementQ X.body.data.toList b) sl2 w')from fun b hb hb2 hl sl' W hW=>element_run X hX hP b sl' W hW hb hb2 hl)
 have HXX:=hid hX
 have HH:=hid h
 clear hP h hX
 go_enter Tryz.func102,Tryz.ntmps102
 go_wp2_with fail
 go_loopg [6] (st.l.length+1) (fun gg _ wr=>∃(b:St) (sl':Value),Hid (commasQ 101 (elementQ X.body.data.toList) gg b=commasQ 101 (elementQ X.body.data.toList) (st.l.length+1) st∧Ps X b sl' wr∧Sf X b∧b.l.length<gg∧b.bad=false∧cnt b≤65537))
 case atStart=>exact⟨st,sl,hid ⟨rfl,HH.out,hs,Nat.lt_succ_self _,hbad,hc⟩⟩
 case round=>
  obtain⟨b,sl',H⟩:=hrel
  obtain⟨hr,hps,hsb,hbl,hbb,hbc⟩:=H.out
  obtain⟨m,hm⟩:∃m,gk=m+1:=⟨gk-1,by omega⟩
  have hrr:commasQ 101 (elementQ X.body.data.toList) gk b=if isQ 44 (if(!isQ 44 b&& !isQ 101 b&& !b.bad)=true then elementQ X.body.data.toList b else b)=true then commasQ 101 (elementQ X.body.data.toList) m (takeS 44 (if(!isQ 44 b&& !isQ 101 b&& !b.bad)=true then elementQ X.body.data.toList b else b))else wantS 101 (if(!isQ 44 b&& !isQ 101 b&& !b.bad)=true then elementQ X.body.data.toList b else b):=by rw[hm];rfl
  rw[hr,hbb]at hrr
  have HI1:=(show Hid (∀W,Ps X b sl' W→Calls Tryz.prog 173 #[.pointer (some ⟨X.W.heap.size,0,none⟩),.int .u8 44] W fun e w'=>e=.returned (.bool (isQ 44 b))∧w'=W)from fun W hW=>HIS.out 44 b hsb sl' W hW)
  have HI2:=(show Hid (∀W,Ps X b sl' W→Calls Tryz.prog 173 #[.pointer (some ⟨X.W.heap.size,0,none⟩),.int .u8 101] W fun e w'=>e=.returned (.bool (isQ 101 b))∧w'=W)from fun W hW=>HIS.out 101 b hsb sl' W hW)
  have HPS:=hid hps
  have p2:wr.cell? ⟨X.W.heap.size,2,none⟩=some (.bool false):=by
   obtain⟨k',cp',ad',h1,h2,h3,h4,h5,h6⟩:=hps.at_
   have:=(Ps.c1 h6).2.2.1
   rw[hbb]at this
   exact this
  by_cases q1:isQ 44 b=true
  ·have HT:=(show Hid (∀W,Ps X b sl' W→Calls Tryz.prog 174 #[.pointer (some ⟨X.W.heap.size,0,none⟩),.int .u8 44] W fun e w'=>e=.returned (.bool true)∧Pw X (takeS 44 b) sl' W w')from fun W hW=>q1▸HTO.out b hsb sl' W hW)
   rw[q1]at HI1
   simp only[q1,Bool.not_true,Bool.false_and,Bool.false_eq_true,if_false,if_true]at hrr
   have hlt:=take_lt q1 hsb.pos
   have HN:=hid (And.intro hrr (And.intro (hsb.take HXX.out (k:=44) (by decide)) (And.intro (show(takeS 44 b).l.length<m by omega) (And.intro ((take_bad 44 b).trans hbb) (show cnt (takeS 44 b)≤65537 by unfold cnt at hbc⊢;rw[take_all];omega)))))
   have HM1:=hid hm
   clear q1 hr hps hsb hbl hbb hbc H hrr hlt hm
   go_wp2_with (first|(go_at_call 173;(with_reducible refine(HI1.out _ HPS.out).mono ?_);rintro e w3 ⟨rfl,rfl⟩)|(go_at_call 174;refine(HT.out _ HPS.out).mono ?_;rintro e w6 ⟨rfl,hp6⟩))
   go_roundg m
   case measure=>have:=HM1.out;omega
   case rel=>exact⟨_,sl',hid ⟨HN.out.1.symm,hp6.ps,HN.out.2⟩⟩
  ·have q1f:=good_of q1
   rw[q1f]at HI1
   by_cases q2:isQ 101 b=true
   ·have HT:=(show Hid (∀W,Ps X b sl' W→Calls Tryz.prog 174 #[.pointer (some ⟨X.W.heap.size,0,none⟩),.int .u8 44] W fun e w'=>e=.returned (.bool false)∧Pw X (takeS 44 b) sl' W w')from fun W hW=>q1f▸HTO.out b hsb sl' W hW)
    have hts:takeS 44 b=b:=by unfold takeS;rw[if_neg q1]
    rw[hts]at HT
    rw[q2]at HI2
    simp only[q1f,q2,Bool.not_true,Bool.and_false,Bool.false_and,Bool.false_eq_true,if_false]at hrr
    have HW:=HWA.out b hsb
    have HR:=hid hrr
    clear q1 q1f q2 hr hps hsb hbl hbb hbc H hrr hm hts
    go_wp2_with (first|(go_at_call 173;first|((with_reducible refine(HI1.out _ HPS.out).mono ?_);rintro e w3 ⟨rfl,rfl⟩)|((with_reducible refine(HI2.out _ HPS.out).mono ?_);rintro e w3 ⟨rfl,rfl⟩))|(go_at_call 174;refine(HT.out _ HPS.out).mono ?_;rintro e w6 ⟨rfl,hp6⟩)|(go_at_call 175;refine(HW _ _ hp6.ps).mono ?_;rintro e w7 ⟨rfl,hp7⟩))
    show bodyPost Tryz.prog Tryz.f102 _ Exit.normal _ _
    refine bodyPost_end (results_none rfl _ _ _) rfl ?_
    rw[HR.out]
    exact⟨rfl,sl',hp7.ps⟩
   ·have q2f:=good_of q2
    rw[q2f]at HI2
    simp only[q1f,q2f,Bool.not_false,Bool.and_true,if_true]at hrr
    have hsa:=hsb.element HXX.out X.body.data.toList
    have HM:=(show Hid (∀W,Ps X b sl' W→Calls Tryz.prog 103 #[.pointer (some ⟨X.W.heap.size,0,none⟩)] W fun e w'=>e=.returned (.tuple #[])∧∃sl2,Ps X (elementQ X.body.data.toList b) sl2 w')from HMB.out b hsb hbb hbc sl')
    have hcn:=element_cnt X.body.data.toList b
    generalize elementQ X.body.data.toList b=a at HM hsa hrr hcn
    by_cases q3:isQ 44 a=true
    ·have HT:=(show Hid (∀sl2 W,Ps X a sl2 W→Calls Tryz.prog 174 #[.pointer (some ⟨X.W.heap.size,0,none⟩),.int .u8 44] W fun e w'=>e=.returned (.bool true)∧Pw X (takeS 44 a) sl2 W w')from fun sl2 W hW=>q3▸HTO.out a hsa sl2 W hW)
     rw[if_pos q3]at hrr
     have hab:=isQ_bad q3
     have hcn2:=hcn hab
     have hlt:=take_lt q3 hsa.pos
     have HN:=hid (And.intro hrr (And.intro (hsa.take HXX.out (k:=44) (by decide)) (And.intro (show(takeS 44 a).l.length<m by omega) (And.intro ((take_bad 44 a).trans hab) (show cnt (takeS 44 a)≤65537 by unfold cnt at hbc hcn2⊢;rw[take_all];omega)))))
     have HM1:=hid hm
     clear q1 q1f q2 q2f q3 hr hps hsb hbl hbb hbc H hrr hlt hm hab hcn hcn2 hsa
     go_wp2_with (first|(go_at_call 173;first|((with_reducible refine(HI1.out _ HPS.out).mono ?_);rintro e w3 ⟨rfl,rfl⟩)|((with_reducible refine(HI2.out _ HPS.out).mono ?_);rintro e w3 ⟨rfl,rfl⟩))|(go_at_call 103;refine(HM.out _ HPS.out).mono ?_;rintro e w5 ⟨rfl,sl2,hp5⟩)|(go_at_call 174;refine(HT.out _ _ hp5).mono ?_;rintro e w6 ⟨rfl,hp6⟩))
     go_roundg m
     case measure=>have:=HM1.out;omega
     case rel=>exact⟨_,sl2,hid ⟨HN.out.1.symm,hp6.ps,HN.out.2⟩⟩
    ·have HT:=(show Hid (∀sl2 W,Ps X a sl2 W→Calls Tryz.prog 174 #[.pointer (some ⟨X.W.heap.size,0,none⟩),.int .u8 44] W fun e w'=>e=.returned (.bool false)∧Pw X (takeS 44 a) sl2 W w')from fun sl2 W hW=>good_of q3▸HTO.out a hsa sl2 W hW)
     have hts:takeS 44 a=a:=by unfold takeS;rw[if_neg q3]
     rw[hts]at HT
     rw[if_neg q3]at hrr
     have HW:=HWA.out a hsa
     have HR:=hid hrr
     clear q1 q1f q2 q2f q3 hr hps hsb hbl hbb hbc H hrr hm hcn hsa hts
     go_wp2_with (first|(go_at_call 173;first|((with_reducible refine(HI1.out _ HPS.out).mono ?_);rintro e w3 ⟨rfl,rfl⟩)|((with_reducible refine(HI2.out _ HPS.out).mono ?_);rintro e w3 ⟨rfl,rfl⟩))|(go_at_call 103;refine(HM.out _ HPS.out).mono ?_;rintro e w5 ⟨rfl,sl2,hp5⟩)|(go_at_call 174;refine(HT.out _ _ hp5).mono ?_;rintro e w6 ⟨rfl,hp6⟩)|(go_at_call 175;refine(HW _ _ hp6.ps).mono ?_;rintro e w7 ⟨rfl,hp7⟩))
     show bodyPost Tryz.prog Tryz.f102 _ Exit.normal _ _
     refine bodyPost_end (results_none rfl _ _ _) rfl ?_
     rw[HR.out]
     exact⟨rfl,sl2,hp7.ps⟩
end Go.Proofs.YtmlmkmhkmifnkaaGreatDoor.Ma
namespace Go.Proofs.YtmlmkmhkmifnkaaGreatDoor.Ma
theorem posn_in:∀(l:List It) (o:Nat),∀t∈posn o l,o≤t.from_∧t.from_≤t.til∧t.til≤o+(flat l).length
 |[],_,t,h=>by simp[posn]at h
 |i::l,o,t,h=>by
  have hb:i.b.length=i.gap.length+i.raw.length:=by unfold It.b;rw[List.length_append]
  rw[posn]at h
  rw[flat_cons,List.length_append]
  rcases List.mem_cons.1 h with rfl|h
  ·refine⟨?_,?_,?_⟩
   ·show o≤o+i.gap.length;omega
   ·show o+i.gap.length≤o+i.b.length;omega
   ·show o+i.b.length≤_;omega
  ·have:=posn_in l (o+i.b.length) t h
   omega
theorem posn_ord:∀(l:List It) (o i j:Nat) (hi:i<(posn o l).length) (hj:j<(posn o l).length),i≤j→(posn o l)[i].from_≤(posn o l)[j].til
 |[],_,_,_,hi,_,_=>by simp[posn]at hi
 |x::l,o,i,j,hi,hj,hij=>by
  cases i with
  |zero=>
   have h1:=posn_in (x::l) o ((posn o (x::l))[j]) (List.getElem_mem hj)
   have hb:x.b.length=x.gap.length+x.raw.length:=by unfold It.b;rw[List.length_append]
   cases j with
   |zero=>exact(posn_in (x::l) o _ (List.getElem_mem hi)).2.1
   |succ j=>
    have hj':j<(posn (o+x.b.length) l).length:=by simpa[posn]using hj
    have h2:=posn_in l (o+x.b.length) ((posn (o+x.b.length) l)[j]) (List.getElem_mem hj')
    show o+x.gap.length≤((posn (o+x.b.length) l)[j]).til
    omega
  |succ i=>
   cases j with
   |zero=>omega
   |succ j=>
    have hi':i<(posn (o+x.b.length) l).length:=by simpa[posn]using hi
    have hj':j<(posn (o+x.b.length) l).length:=by simpa[posn]using hj
    exact posn_ord l (o+x.b.length) i j hi' hj' (by omega)
theorem posn_kind:∀(l:List It) (o:Nat),∀t∈posn o l,∃i∈l,t.kind=i.kind∧t.text=i.text
 |[],_,t,h=>by simp[posn]at h
 |i::l,o,t,h=>by
  rw[posn]at h
  rcases List.mem_cons.1 h with rfl|h
  ·exact⟨i,List.mem_cons_self ..,rfl,rfl⟩
  ·obtain⟨j,hj,e⟩:=posn_kind l _ t h
   exact⟨j,List.mem_cons_of_mem _ hj,e⟩
end Go.Proofs.YtmlmkmhkmifnkaaGreatDoor.Ma
namespace Go.Proofs.YtmlmkmhkmifnkaaGreatDoor.Ma
open Ci (splitL addrQ formQ Nt rightQ)
structure Pt where
 null:Bool
 loc:List UInt8
 dom:List UInt8
 lit:Bool
deriving DecidableEq
def lowB(b:UInt8):UInt8:=if 65≤b.toNat∧b.toNat≤90 then b+32 else b
def lowL(l:List UInt8):List UInt8:=l.map lowB
def lgB(b:UInt8):Bool:=(decide (97≤b.toNat)&&decide (b.toNat≤122))||(decide (65≤b.toNat)&&decide (b.toNat≤90))||(decide (48≤b.toNat)&&decide (b.toNat≤57))
def ldhB(b:UInt8):Bool:=lgB b||b==45
def patB(b:UInt8):Bool:=lgB b||([33,35,36,37,38,39,42,43,45,47,61,63,94,95,96,123,124,125,126]:List UInt8).contains b
def lblQ(l:List UInt8):Bool:= !l.isEmpty&&decide (l.length≤63)&&l.all ldhB&&l.head? !=some 45&&l.getLast? !=some 45
def namedQ(s:List UInt8):Bool:=(splitL 46 s).all lblQ
def ipv6:List UInt8:=[105,112,118,54,58]
def IPv6:List UInt8:=[73,80,118,54,58]
def isLit(s:List UInt8):Bool:=decide (1<s.length)&&s.head?==some 91&&s.getLast?==some 93
def innerQ(s:List UInt8):List UInt8:=(s.take (s.length-1)).drop 1
def sixQ'(i:List UInt8):Bool:=decide (4<i.length)&&lowL (i.take 5)==ipv6
def stripQ(i:List UInt8):List UInt8:=if sixQ' i then i.drop 5 else i
def domainQ(s:List UInt8):List UInt8×Bool×Int:=
 if isLit s then match addrQ (stripQ (innerQ s))with
  |some n=>if n.six=sixQ' (innerQ s)then(formQ n,true,0)else([],false,90)
  |none=>([],false,90)
 else if !namedQ s then([],false,90)else if 255<s.length then([],false,91)else(lowL s,false,0)
def dottedQ(s:List UInt8):Bool:=(splitL 46 s).all fun a=> !a.isEmpty&&a.all patB
def esc(b:UInt8):List UInt8:=if b=34∨b=92 then[92,b]else[b]
def formP(s:List UInt8):List UInt8:=if dottedQ s then s else 34::(s.flatMap esc++[34])
def sixP(p:Pt):Bool:=match addrQ p.dom with
 |some n=>n.six
 |none=>false
def domP(p:Pt):List UInt8:=if p.lit then[91]++(if sixP p then IPv6 else[])++p.dom++[93]else p.dom
def shownP(p:Pt):List UInt8:=if p.null then[]else if !p.lit&&p.dom.isEmpty then formP p.loc else formP p.loc++[64]++domP p
def oddB(b:UInt8):Bool:=decide (b.toNat<32)||decide (126<b.toNat)
def pmL:List UInt8:=[112,111,115,116,109,97,115,116,101,114]
def mayQ(p:Pt):Bool:=
 if p.null then p==⟨true,[],[],false⟩
 else if p.loc.isEmpty||p.loc.any oddB then false
 else if p.lit then match addrQ p.dom with
  |some n=>formQ n==p.dom
  |none=>false
 else if p.dom.isEmpty then p.loc==pmL else namedQ p.dom&&lowL p.dom==p.dom
def rightP(p:Pt):Int:=
 if !mayQ p then 90 else if p.null then 0
 else if 64<(formP p.loc).length∨(!p.lit)∧255<p.dom.length∨256<(shownP p).length+2 then 91 else 0
structure Ml where
 path:Pt
 from_:Nat
 til:Nat
 name:List UInt8
def addrOf(loc dom:List UInt8):Pt×Int:=
 let y:Pt:=⟨false,loc,(domainQ dom).1,(domainQ dom).2.1⟩
 (y,if(domainQ dom).2.2=0 then rightP y else(domainQ dom).2.2)
def mailsQ:List Sp→List Ml×Int
 |[]=>([],0)
 |x::r=>if(addrOf x.loc x.dom).2=0 then
  (if(mailsQ r).2=0 then(⟨(addrOf x.loc x.dom).1,x.from_,x.til,x.name⟩::(mailsQ r).1,0)else([],(mailsQ r).2))
  else([],if(addrOf x.loc x.dom).2=91 then 101 else 100)
def parseQ(body:List UInt8):List Ml×Int:=
 if 65536<body.length then([],101)else match readQ body with
 |none=>([],100)
 |some L=>if(mailsQ L).2=0∧200<(mailsQ L).1.length then([],102)else mailsQ L
def showQ(p:Pt):List UInt8×Int:=
 if p.null||p.dom.isEmpty then([],1)else if rightP p=0 then(shownP p,0)else([],rightP p)
def replF(body:List UInt8):Nat→List UInt8→List Ml→List Pt→List UInt8×Int
 |at_,b,x::xs,p::ps=>if(showQ p).2=0 then replF body x.til (b++(body.take x.from_).drop at_++(showQ p).1) xs ps else([],(showQ p).2)
 |at_,b,_,_=>if 65536<(b++body.drop at_).length then([],101)else(b++body.drop at_,0)
def replaceQ(body:List UInt8)(l:List Pt):List UInt8×Int:=
 if(parseQ body).2≠0 then([],(parseQ body).2)else if(parseQ body).1.length≠l.length then([],1)else replF body 0 [] (parseQ body).1 l
end Go.Proofs.YtmlmkmhkmifnkaaGreatDoor.Ma