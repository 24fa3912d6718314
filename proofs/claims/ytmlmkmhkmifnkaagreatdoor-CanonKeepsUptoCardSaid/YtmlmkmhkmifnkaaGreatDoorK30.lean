import Derived.Test.YtmlmkmhkmifnkaaGreatDoorK28
import Derived.Test.YtmlmkmhkmifnkaaGreatDoorK29
import Derived.Lib.AtoiErrMem
import Derived.Deep.RegionWith
set_option maxHeartbeats 16000000
set_option maxRecDepth 1000000
namespace Go.Proofs.YtmlmkmhkmifnkaaGreatDoor.Hs
open Ma (parseQ replaceQ replF parse_ok replace_ok Ml Pt)
open Tb (bodyQ isA pathC)
def turnQ(h:List UInt8)(ts:List (List Tb.En))(s:Sg):Sg:=turn (bodyQ h ts) mayQ isA s
def msgQ(h:List UInt8)(ts:List (List Tb.En))(d:List UInt8)(S:List Sg)(r:List UInt8):List UInt8:=if tooI (fds 0 S)=0 then fl (S.map (turnQ h ts))++r else d
theorem replF_le(body:List UInt8):∀(xs:List Ml) (ps:List Pt) (at_:Nat) (b:List UInt8),(replF body at_ b xs ps).1.length≤65536
 |[],ps,at_,b=>by
  rw[replF.eq_def]
  split
  ·rename_i h;cases h
  ·split
   ·exact Nat.zero_le _
   ·rename_i h;exact Nat.le_of_not_lt h
 |x::xs,[],at_,b=>by
  rw[replF.eq_def]
  split
  ·rename_i h;cases h
  ·split
   ·exact Nat.zero_le _
   ·rename_i h;exact Nat.le_of_not_lt h
 |x::xs,p::ps,at_,b=>by
  rw[replF]
  split
  ·exact replF_le body xs ps _ _
  ·exact Nat.zero_le _
theorem bodyQ_le{h:List UInt8}{ts:List (List Tb.En)}{s:List UInt8}(hs:s.length≤65536):(bodyQ h ts s).length≤65536:=by
 unfold bodyQ
 split
 ·exact hs
 ·split
  ·exact hs
  ·split
   ·exact hs
   ·unfold replaceQ
    split
    ·exact Nat.zero_le _
    ·split
     ·exact Nat.zero_le _
     ·exact replF_le _ _ _ _ _
theorem too_small{S:List Sg}(h:tooI (fds 0 S)=0):(fl S).length≤65536∧S.length≤1000:=by
 unfold tooI at h
 rw[show lastTo (fds 0 S)=(fl S).length from fds_to S,fds_len]at h
 split at h
 ·cases h
 ·split at h
  ·cases h
  ·omega
theorem sg_le{S:List Sg}{s:Sg}(hs:s∈S):s.b.length≤(fl S).length:=by
 induction S with
 |nil=>cases hs
 |cons x S ih=>
  have e:(fl (x::S)).length=x.b.length+(fl S).length:=by simp[fl]
  rcases List.mem_cons.mp hs with rfl|h
  ·omega
  ·have:=ih h;omega
theorem turn_le{h:List UInt8}{ts:List (List Tb.En)}{s:Sg}(hs:s.b.length≤65536):(turnQ h ts s).b.length≤s.b.length+65536:=by
 unfold turnQ turn
 split
 ·have h1:=bodyQ_le (h:=h) (ts:=ts) (s:=s.bd) (by rw[Sg.len]at hs;omega)
  rw[Sg.len,Sg.len]
  show s.nm.length+1+(bodyQ h ts s.bd).length+(tl s.cr).length≤_
  omega
 ·omega
theorem fl_turn_le{h:List UInt8}{ts:List (List Tb.En)}:∀S:List Sg,(∀s∈S,s.b.length≤65536)→(fl (S.map (turnQ h ts))).length≤(fl S).length+65536*S.length
 |[],_=>Nat.zero_le _
 |s::S,hs=>by
  have h1:=turn_le (h:=h) (ts:=ts) (hs s (List.mem_cons_self ..))
  have h2:=fl_turn_le (h:=h) (ts:=ts) S fun x hx=>hs x (List.mem_cons_of_mem _ hx)
  have e1:(fl ((s::S).map (turnQ h ts))).length=(turnQ h ts s).b.length+(fl (S.map (turnQ h ts))).length:=by simp[fl]
  have e2:(fl (s::S)).length=s.b.length+(fl S).length:=by simp[fl]
  rw[List.length_cons,e1,e2]
  omega
theorem msg_le{h:List UInt8}{ts:List (List Tb.En)}{d:List UInt8}{S:List Sg}{r:List UInt8}(hD:Dec d S r):(msgQ h ts d S r).length≤d.length+65536000:=by
 unfold msgQ
 split
 ·rename_i h0
  obtain⟨h1,h2⟩:=too_small h0
  have h3:=fl_turn_le (h:=h) (ts:=ts) S fun s hs=>Nat.le_trans (sg_le hs) h1
  have e:=congrArg List.length hD.eq
  rw[List.length_append]at e⊢
  omega
 ·omega
theorem fl_take_one{S:List Sg}{k:Nat}(hk:k<S.length):fl (S.take (k+1))=fl (S.take k)++(S[k]).b:=by
 rw[List.take_succ_eq_append_getElem hk,fl_one]
theorem fl_take_map{S:List Sg}{T:Sg→Sg}{k:Nat}(hk:k<S.length):fl ((S.take (k+1)).map T)=fl ((S.take k).map T)++(T S[k]).b:=by
 rw[List.take_succ_eq_append_getElem hk,List.map_append,List.map_cons,List.map_nil,fl_one]
theorem fds_cells(S:List Sg)(k:Nat)(hk:k<S.length)(j:Nat)(u:Value)(h:(fdC ⟨S[k].nm,S[k].bd,(fl (S.take k)).length,(fl (S.take (k+1))).length⟩)[j]?=some u):(fdCs (fds 0 S))[k*4+j]?=some u:=by
 have hg:=fds_get S 0 k hk
 rw[Nat.zero_add,Nat.zero_add]at hg
 obtain⟨hk2,e⟩:=List.getElem?_eq_some_iff.1 hg
 have e2:fds 0 S=(fds 0 S).take k++(fds 0 S)[k]::(fds 0 S).drop (k+1):=by
  rw[←List.drop_eq_getElem_cons hk2,List.take_append_drop]
 have hl:(fdCs ((fds 0 S).take k)).length=k*4:=by
  rw[fdCs_len,List.length_take];omega
 rw[e2,fdCs_app,List.getElem?_append_right (by omega),hl,Nat.add_sub_cancel_left]
 have e3:fdCs ((fds 0 S)[k]::(fds 0 S).drop (k+1))=fdC (fds 0 S)[k]++fdCs ((fds 0 S).drop (k+1)):=rfl
 rw[e3,e,List.getElem?_append_left (by rw[←e]at h⊢;exact(List.getElem?_eq_some_iff.1 h).1)]
 exact h
end Go.Proofs.YtmlmkmhkmifnkaaGreatDoor.Hs
namespace Go.Proofs.YtmlmkmhkmifnkaaGreatDoor.Hs
open Go.RowKit
open Ci (hid Bel own_bel own_base row_shape addr_add Lay Aft wp_region_aft Calls.aft)
open Ma (wpList_store_blk lowL)
open Tb (bodyQ isA cbody_run body_cl run_lookup_s fld_is tolow_run Lat CnAt)
theorem fd_size:(Tryz.prog.info? 55).map (·.size)=some 4:=by kernel_rfl
theorem fd_all(f:Fd):((fdC f).toArray.all (·.oneCell'))=true:=by simp[fdC,Value.oneCell']
theorem fd_cells{W:World}{b:Nat}{f:Fd}{T:TypeId}(h:W.heap[b]?=some (.cells (fdC f).toArray T (0,0))):W.cell? ⟨b,0,none⟩=some (.string ⟨f.nm.toArray⟩)∧W.cell? ⟨b,1,none⟩=some (.string ⟨f.bd.toArray⟩)∧W.cell? ⟨b,2,none⟩=some (.int .i64 f.fr)∧W.cell? ⟨b,3,none⟩=some (.int .i64 f.tt):=by
 simp[World.cell?,h,fdC]
theorem bel_bytes(w:World)(s:ByteArray):Bel w (Lib.bytesWorld w 5 s):=Lib.bytesWorld_below w _ s
theorem br_bytes(w:World)(s:ByteArray)(hs:s.size≤maxLen):Br (Lib.bytesWorld w 5 s) (some ⟨w.heap.size,0,none⟩) (grownCap w s.size 0 5) s.data.toList where
 bs:=fun _=>⟨_,0,rfl,fun i hi=>by
  have hi2:i<s.size:=by rw[Lib.size_eq];exact hi
  rw[Nat.zero_add,Lib.bytesWorld_cell w _ s i hi2,List.getD_eq_getElem?_getD,List.getElem?_eq_getElem hi];rfl⟩
 le:=by
  rw[←Lib.size_eq]
  exact grownCap_ge w s.size 0 _
 lt:=by
  have:=grownCap_le_maxLen w s.size 0 5 hs
  unfold maxLen at this;omega
 nil:=fun e=>by cases e
theorem turn_not{h:List UInt8}{ts:List (List Tb.En)}{s:Sg}(ha:isA s.nm=false):turnQ h ts s=s:=by
 unfold turnQ turn
 rw[if_neg (fun e=>by rw[ha]at e;cases e.1)]
theorem message_run(a:Option Addr)(h:List UInt8)(ts:List (List Tb.En))(p:Option Addr)(c:Nat)(d:List UInt8)(w:World)(hw:Lat w)(hC:CnAt w a h ts)(hb:Br w p c d)(hs:d.length≤4194304)(S:List Sg)(r:List UInt8)(hD:Dec d S r):
 Calls Tryz.prog 21 #[.pointer a,.slice p d.length c] w fun e w'=>∃q dd,e=.returned (.slice q (msgQ h ts d S r).length dd)∧Bel w w'∧Br w' q dd (msgQ h ts d S r):=by
 obtain⟨F,hF⟩:∃F,F=fds 0 S:=⟨_,rfl⟩
 obtain⟨B,hB⟩:∃B,B=(fl S).length+stopAt r:=⟨_,rfl⟩
 have hsp:=hsplit_run p d c w hw.lay hb.bs (by omega) hb.le hb.lt
 rw[splits_of hD]at hsp
 dsimp only at hsp
 rw[←hF,←hB]at hsp
 have HF:=hid hF
 have HFl:=hid (show F.length=S.length by rw[hF,fds_len])
 have HD:=hid hD
 have HW:=hid hw
 have HCn:=hid hC
 have HBr:=hid hb
 have hle:=hb.le
 have hlt:=hb.lt
 obtain⟨M,hM⟩:∃M,M=msgQ h ts d S r:=⟨_,rfl⟩
 have HM:=hid hM
 rw[←hM]
 have HM0:=hid (show M=if tooI F=0 then fl (S.map (turnQ h ts))++r else d by rw[hM,hF];rfl)
 obtain⟨E,hE⟩:∃E,E=tooI F:=⟨_,rfl⟩
 rw[←hE]at hsp HM0
 have HE:=hid hE
 obtain⟨ab,ct,mb,ha0,hab,-,hsm⟩:=hC.at_
 subst ha0
 have HCa:=(show Hid (∀W,Bel w W→W.cell? ⟨ab,2,none⟩=some (.map (some mb)))from hid fun W hW=>by rw[Lib.cell_of_heap (hW.heap hab)];rfl)
 have HLk:=(show Hid (∀W (nm:List UInt8),Bel w W→(Instr.lookup 70 (.map (some mb)) (.string ⟨(lowL nm).toArray⟩) false).run Tryz.prog W=.ok (.bool (isA nm)) W)from hid fun W nm hW=>by
  rw[run_lookup_s W mb _ _ (.bool false) Tryz.underlying70 Tryz.underlying9 (fun w=>by kernel_rfl) (hsm.next hW),fld_is]
  cases isA nm<;>rfl)
 have HBody:=(show Hid (∀(x:ByteArray) W,Bel w W→Calls Tryz.prog 19 #[.pointer (some ⟨ab,0,none⟩),.string x] W fun e w'=>e=.returned (.string ⟨(bodyQ h ts x.data.toList).toArray⟩)∧Bel W w')from hid fun x W hW=>cbody_run _ h ts x W (hw.next hW) (hC.next hW))
 clear hM hE hF hB hD hw hC hb hab hsm
 by_cases h0:E=0
 ·rw[if_pos h0]at HM0
  have HSp:=(show Hid (Calls Tryz.prog 52 #[.slice p d.length c] w fun e w'=>∃v,e=.returned (.tuple #[v,.int .i64 (B:Int),.int .i64 0])∧Bel w w'∧FdR w' v F)from hid (by simpa only[if_pos h0]using hsp))
  clear hsp
  obtain⟨n,hn⟩:∃n,n=S.length:=⟨_,rfl⟩
  have HN:=hid hn
  have HSz:=hid (show(fl S).length≤65536∧S.length≤1000 from too_small (by rw[←HF.out,←HE.out];exact h0))
  have hn1:n≤1000:=by have:=HSz.out.2;omega
  have hFn:F.length=n:=by rw[HFl.out,hn]
  clear hn h0
  go_enter Tryz.func21,Tryz.ntmps21
  go_wp2_with (first|(go_at_call 52;refine HSp.out.mono ?_;rintro _ w2 ⟨vF,rfl,hb2,hfd⟩;obtain⟨x,cx,hvx,hcx,hcx63,hcell⟩:=hfd;rw[hFn]at hvx hcx;subst hvx;have HB2:=hid hb2;have HCell:=hid hcell;clear hb2 hcell))
  go_loopg [8,9,27] n (fun gg v8 v9 v27 wr=>∃k at_:Nat,v27=.int .i64 k∧v9=.int .i64 at_∧k+gg=n∧Hid (at_=(fl (S.take k)).length∧Bel w2 wr∧Ob w2 wr v8 (fl ((S.take k).map (turnQ h ts)))))
  case atStart=>exact⟨0,0,rfl,rfl,by omega,hid ⟨rfl,Bel.refl w2,World.ownsRow_nil _ _ _ _⟩⟩
  case round=>
   obtain⟨k,at_,rfl,rfl,hk,H⟩:=hrel
   have HK:=hid hk
   have hkn:k≤n:=by omega
   clear hk
   obtain⟨hat,hb,ho8⟩:=H.out
   have HAt:=hid hat
   have HB:=hid hb
   have HO8:=hid ho8
   clear hat hb ho8 H
   by_cases hltk:k<n
   ·have b0:decide ((k:Int)<(n:Int))=true:=decide_eq_true (by omega)
    have hkS:k<S.length:=by rw[←HN.out];exact hltk
    obtain⟨g,hg,hcl⟩:=HCell.out (fun e=>by have:=hFn;rw[e]at this;simp at this;omega)
    subst hg
    obtain⟨s,hs0⟩:∃s,s=S[k]'hkS:=⟨_,rfl⟩
    have hsb:=fl_take_one hkS
    rw[←hs0]at hsb
    obtain⟨fr,hfr⟩:∃fr,fr=(fl (S.take k)).length:=⟨_,rfl⟩
    obtain⟨tt,hto⟩:∃tt,tt=(fl (S.take (k+1))).length:=⟨_,rfl⟩
    have hft:tt=fr+s.b.length:=by rw[hto,hfr,hsb,List.length_append]
    have hsl:=s.len
    have HDq:=hid (HD.out.eq)
    have htd:tt≤d.length:=by
     have h1:=congrArg List.length HD.out.eq
     rw[List.length_append]at h1
     have h2:fl S=fl (S.take (k+1))++fl (S.drop (k+1)):=by rw[←fl_app,List.take_append_drop]
     have h3:=congrArg List.length h2
     rw[List.length_append]at h3
     omega
    have HPc:=hid (show(d.drop fr).take (tt-fr)=s.b by
     have:=fds_bytes S r k hkS
     rw[←HD.out.eq,←hto,←hfr,←hs0]at this
     rw[←List.drop_take];exact this)
    have hrg:wr.rangeAt g (k*4) (fdC ⟨s.nm,s.bd,fr,tt⟩):=fun j v hv=>by
     have h1:=fds_cells S k hkS j v (by rw[←hs0,←hfr,←hto];exact hv)
     rw[←HF.out]at h1
     have h2:=hcl _ v h1
     have hlt2:g<w2.heap.size:=by
      refine Nat.lt_of_not_le fun hge=> ?_
      simp[World.cell?,Array.getElem?_eq_none hge]at h2
     rw[HB.out.cell hlt2]
     exact h2
    obtain⟨L8,hL8⟩:∃L8,L8=fl ((S.take k).map (turnQ h ts)):=⟨_,rfl⟩
    rw[←hL8]at HO8
    obtain⟨T,hT⟩:∃T,T=(turnQ h ts s).b:=⟨_,rfl⟩
    have HTs:=hid hT
    have HL8:=hid (show fl ((S.take (k+1)).map (turnQ h ts))=L8++T by rw[fl_take_map hkS,←hs0,←hL8,hT])
    have hsB:s.b.length≤65536:=by rw[hs0];exact Nat.le_trans (sg_le (List.getElem_mem hkS)) HSz.out.1
    have hTl:T.length≤131072:=by rw[hT];have:=turn_le (h:=h) (ts:=ts) hsB;omega
    have hL8l:L8.length≤65601536:=by
     have h1:=fl_turn_le (h:=h) (ts:=ts) (S.take k) fun y hy=>Nat.le_trans (sg_le (List.mem_of_mem_take hy)) HSz.out.1
     rw[←hL8,List.length_take]at h1
     have h2:=HSz.out.1
     have h3:(fl (S.take k)).length≤(fl S).length:=by
      have h4:fl S=fl (S.take k)++fl (S.drop k):=by rw[←fl_app,List.take_append_drop]
      have h5:=congrArg List.length h4
      rw[List.length_append]at h5
      omega
     omega
    have HOk:=hid (HD.out.ok s (by rw[hs0];exact List.getElem_mem hkS))
    obtain⟨b,o,hp,-⟩:=HBr.out.bs (by omega)
    subst hp
    obtain⟨C,hCc⟩:∃C,C=c-fr:=⟨_,rfl⟩
    obtain⟨m,hm⟩:∃m,m=tt-fr:=⟨_,rfl⟩
    obtain⟨o1,ho1⟩:∃o1,o1=o+fr:=⟨_,rfl⟩
    have hms:m=s.b.length:=by omega
    have HPb:=(show Hid (∀W,Bel w W→Br W (some ⟨b,o1,none⟩) C s.b)from hid fun W hW=>by
     have hB:=HBr.out.next hW
     obtain⟨b',o',e,hc'⟩:=hB.bs (by omega)
     cases e
     refine⟨?_,by omega,by omega,fun e=>by cases e⟩
     have:=bs_sub hc' fr (tt-fr)
     rw[HPc.out,←ho1]at this
     exact this)
    have HX:=hid (And.intro hsb (And.intro hfr (And.intro hto hsl)))
    have HY:=hid (And.intro hft (And.intro hms (And.intro hm (And.intro hCc ho1))))
    have HNx:=hid (show(fl (S.take (k+1))).length=tt from hto.symm)
    have hrg':=hid hrg
    obtain⟨nb,hnb⟩:∃nb:ByteArray,nb=⟨s.nm.toArray⟩:=⟨_,rfl⟩
    obtain⟨bb,hbb⟩:∃bb:ByteArray,bb=⟨s.bd.toArray⟩:=⟨_,rfl⟩
    have HNb:=hid (And.intro hnb hbb)
    have HFc:=(show Hid (∀W:World,W.heap[wr.heap.size]?=some (.cells (fdC ⟨s.nm,s.bd,fr,tt⟩).toArray 55 (0,0))→W.cell? ⟨wr.heap.size,0,none⟩=some (.string nb)∧W.cell? ⟨wr.heap.size,1,none⟩=some (.string bb)∧W.cell? ⟨wr.heap.size,2,none⟩=some (.int .i64 fr)∧W.cell? ⟨wr.heap.size,3,none⟩=some (.int .i64 tt))from hid fun W hh=>by rw[hnb,hbb];exact fd_cells hh)
    have j1:(fr:Int)≤(tt:Int):=by omega
    have j2:(tt:Int)≤(c:Int):=by omega
    have j3:¬c=fr:=by omega
    clear hsb hfr hto hs0 hL8 hT hcl hsl hnb hbb hrg hft hms hm hCc ho1 HDq
    go_upto_region 11 with(first
     | (refine wpList_load_mid rfl 55 (.tmp 29) rfl g (k*4) rfl (fdC ⟨s.nm,s.bd,fr,tt⟩) _ hrg'.out Tryz.underlying55 rfl fd_size ?_)
     | (refine wpList_store_blk rfl 55 (.tmp 11) (.tmp 30) rfl wr.heap.size (fdC ⟨s.nm,s.bd,fr,tt⟩) rfl rfl fd_size (fd_all _) (fdC ⟨[],[],0,0⟩) _ (heap_alloc_new wr _) rfl ?_;intro w5 hc5 ho5 hs5 hb5;have HB5:=hid (hb5 wr ((Bel.refl wr).alloc _) (Nat.le_refl _));have HS5:=hid hs5;have HC5:=hid hc5;obtain⟨f0,f1,f2,f3⟩:=HFc.out _ hc5;clear ho5 hs5 hb5 hc5))
    obtain⟨hft,hms,hm,hCc,ho1⟩:=HY.out
    rw[←hm,←hCc,←ho1]
    clear hft hms hm hCc ho1
    obtain⟨is,his⟩:∃is,is=isA s.nm:=⟨_,rfl⟩
    obtain⟨low,hlow⟩:∃low:ByteArray,low=⟨(lowL s.nm).toArray⟩:=⟨_,rfl⟩
    have HBw5:=hid (HB2.out.trans (HB.out.trans HB5.out))
    have hlk:=fun W hW=>HLk.out W s.nm hW
    rw[←his,←hlow]at hlk
    have HIs:=hid his
    have HTl:=(show Hid (∀W,Calls Tryz.prog 31 #[.string nb] W fun e w'=>e=.returned (.string low)∧Bel W w')from hid fun W=>by
     have h1:=HNb.out.1
     have h2:nb.data.toList=s.nm:=by rw[h1]
     have h3:nb.size=s.nm.length:=by rw[h1];exact List.size_toArray ..
     have h5:=s.len
     have:=tolow_run nb (by omega) (fun x hx=>by
      rw[h2]at hx
      have:=nameB_all HOk.out.nm x hx
      unfold nameB at this
      simp at this
      omega) W
     rw[h2,←hlow]at this
     exact this)
    have e1:∀P:Aft w5,P.wd.cell? ⟨ab,2,none⟩=some (.map (some mb)):=fun P=>HCa.out _ (HBw5.out.trans P.bel)
    have e2:∀P:Aft w5,P.wd.cell? ⟨wr.heap.size,0,none⟩=some (.string nb):=fun P=>(HFc.out _ (P.bel.heap HC5.out)).1
    have e3:∀P:Aft w5,(Instr.lookup 70 (.map (some mb)) (.string low) false).run Tryz.prog P.wd=.ok (.bool is) P.wd:=fun P=>hlk _ (HBw5.out.trans P.bel)
    clear hlk his hlow f0 f1 f2 f3
    refine wp_region_aft (by kernel_rfl) (by kernel_rfl) ?_
    repeat (first|go_big_quiet_skip|go_big_quiet_step (first|(go_at_call 31;exact Calls.aft (HTl.out _)))|quiet_step (first|(go_at_call 31;exact Calls.aft (HTl.out _))))
    refine wpQuiet_nil ?_
    rintro _ ⟨P6,rfl⟩
    obtain⟨w6,hw6⟩:∃W6,W6=P6.wd:=⟨_,rfl⟩
    have HB6:=hid (show Bel w5 w6 by rw[hw6];exact P6.bel)
    rw[←hw6]
    clear hw6 e1 e2 e3
    go_upto_if 46 with fail
    go_cut [12,13,14,27]from 27 to 74 (fun v12 v13 v14 v27 wx=>∃q c',v12=.slice q T.length c'∧v27=.int .i64 k∧Hid (Bel w5 wx∧Br wx q c' T))
    case first=>
     cases is with
     |false=>
      have hT2:=hid (show T=s.b by rw[HTs.out,turn_not HIs.out.symm])
      go_wp2_with fail
      go_meet
      case rel=>exact⟨_,_,by rw[hT2.out,←HY.out.2.1],rfl,hid ⟨HB6.out,by rw[hT2.out];exact HPb.out _ (HBw5.out.trans HB6.out)⟩⟩
     |true=>
      obtain⟨g0,g1,-⟩:=HFc.out w6 (HB6.out.heap HC5.out)
      obtain⟨hd,hhd⟩:∃hd,hd=nb.size+1:=⟨_,rfl⟩
      obtain⟨e3,he3⟩:∃e3,e3=hd+bb.size:=⟨_,rfl⟩
      have hnz:nb.size=s.nm.length:=by rw[HNb.out.1];exact List.size_toArray ..
      have hbz:bb.size=s.bd.length:=by rw[HNb.out.2];exact List.size_toArray ..
      have hsl:=s.len
      have hmC:m≤C:=by obtain⟨h1,h2,h3,h4,h5⟩:=HY.out;omega
      have hmb:=HY.out.2.1
      have q1:(nb.size:Int)+1=(hd:Int):=by omega
      have q2:IntKind.i64.wrap (hd:Int)=(hd:Int):=IntWalk.i64_in _ (by omega)
      have q3:(hd:Int)+(bb.size:Int)=(e3:Int):=by omega
      have q4:IntKind.i64.wrap (e3:Int)=(e3:Int):=IntWalk.i64_in _ (by omega)
      have q5:(hd:Int)≤(C:Int):=by omega
      have q6:(e3:Int)≤(m:Int):=by omega
      have q7:¬C=0:=by omega
      have HE3:=hid (And.intro hhd (And.intro he3 (And.intro hnz (And.intro hbz (And.intro hsl hmb)))))
      clear hhd he3 hnz hbz hsl hmb
      obtain⟨nbd,hnbd⟩:∃nbd:ByteArray,nbd=⟨(bodyQ h ts s.bd).toArray⟩:=⟨_,rfl⟩
      obtain⟨bw,hbw⟩:∃f:World→World,∀W,f W=Lib.bytesWorld W 5 nbd:=⟨_,fun _=>rfl⟩
      obtain⟨gc,hgc⟩:∃f:World→Nat,∀W,f W=grownCap W nbd.size 0 5:=⟨_,fun _=>rfl⟩
      have hcv:∀W,(convert 9 48 (.string nbd)).run Tryz.prog W=.ok (.slice (some ⟨W.heap.size,0,none⟩) nbd.size (gc W)) (bw W):=fun W=>by
       rw[hbw,hgc]
       exact Lib.run_convert_string_bytes W _ _ _ nbd Tryz.underlying9 Tryz.underlying48 Tryz.underlying5
      have hnl:nbd.data.toList=bodyQ h ts s.bd:=by rw[hnbd]
      have hnzz:nbd.size=(bodyQ h ts s.bd).length:=by rw[hnbd];exact List.size_toArray ..
      have hnz2:nbd.size≤65536:=by
       rw[hnzz]
       refine bodyQ_le ?_
       have:=s.len
       omega
      have hbel:∀W,Bel W (bw W):=fun W=>by rw[hbw];exact bel_bytes W nbd
      have hbr:∀W,Br (bw W) (some ⟨W.heap.size,0,none⟩) (gc W) (bodyQ h ts s.bd):=fun W=>by
       rw[hbw,hgc,←hnl]
       exact br_bytes W nbd (by unfold maxLen;omega)
      have HBd:=(show Hid (∀W,Bel w6 W→Calls Tryz.prog 19 #[.pointer (some ⟨ab,0,none⟩),.string bb] W fun e w'=>e=.returned (.string nbd)∧Bel W w')from hid fun W hW=>by
       have:=HBody.out bb W (HBw5.out.trans (HB6.out.trans hW))
       rw[show bb.data.toList=s.bd by rw[HNb.out.2],←hnbd]at this
       exact this)
      obtain⟨Nx,hNx⟩:∃Nx,Nx=(⟨s.nm,bodyQ h ts s.bd,s.cr⟩:Sg).b:=⟨_,rfl⟩
      have hhd:=HE3.out.1
      have he3:=HE3.out.2.1
      have hnz:=HE3.out.2.2.1
      have hbz:=HE3.out.2.2.2.1
      have hsl:=HE3.out.2.2.2.2.1
      have hmb:=HE3.out.2.2.2.2.2
      have hNe:s.nm++[58]++bodyQ h ts s.bd++tl s.cr=Nx:=by rw[hNx];simp[Sg.b]
      have hsb:s.b=(s.nm++[58])++(s.bd++tl s.cr):=by simp[Sg.b]
      have hl1:(s.nm++[58]).length=hd:=by rw[List.length_append,hhd,hnz];rfl
      have hl3:(tl s.cr).length=m-e3:=by omega
      have hNl:Nx.length≤196608:=by rw[←hNe];simp only[List.length_append,List.length_cons,List.length_nil];omega
      have hN0:0<Nx.length:=by rw[←hNe];simp only[List.length_append,List.length_cons,List.length_nil];omega
      have HCt:=(show Hid (∀W (T:TypeId),Bel w6 W→Calls Tryz.prog 54 #[.slice (some ⟨(bw W).heap.size,0,none⟩) 3 3] ((bw W).alloc (.cells #[.slice (some ⟨b,o1,none⟩) hd C,.slice (some ⟨W.heap.size,0,none⟩) nbd.size (gc W),.slice (some ⟨b,if C=e3 then o1 else o1+e3,none⟩) (m-e3) (C-e3)] T)) fun e w'=>∃b9 o9 d9,e=.returned (.slice (some ⟨b9,o9,none⟩) Nx.length d9)∧Bel w6 w'∧Br w' (some ⟨b9,o9,none⟩) d9 Nx)from hid fun W T hW=>by
       obtain⟨W9,hW9⟩:∃W9,W9=(bw W).alloc (.cells #[.slice (some ⟨b,o1,none⟩) hd C,.slice (some ⟨W.heap.size,0,none⟩) nbd.size (gc W),.slice (some ⟨b,if C=e3 then o1 else o1+e3,none⟩) (m-e3) (C-e3)] T):=⟨_,rfl⟩
       have hB9:Bel W W9:=by rw[hW9];exact(hbel W).alloc _
       have hc9:W9.heap[(bw W).heap.size]?=some (.cells #[.slice (some ⟨b,o1,none⟩) (s.nm++[58]).length C,.slice (some ⟨W.heap.size,0,none⟩) (bodyQ h ts s.bd).length (gc W),.slice (some ⟨b,if C=e3 then o1 else o1+e3,none⟩) (tl s.cr).length (C-e3)] T (0,0)):=by
        rw[hW9,hl1,hl3,←hnzz]
        exact heap_alloc_new _ _
       have hB69:Bel w W9:=HBw5.out.trans (HB6.out.trans (hW.trans hB9))
       have hp:=HPb.out W9 hB69
       obtain⟨b',o',e,hcell⟩:=hp.bs (by omega)
       cases e
       have h1:Br W9 (some ⟨b,o1,none⟩) C (s.nm++[58]):=by
        refine⟨?_,by rw[hl1];omega,hp.lt,fun e=>by cases e⟩
        have:=bs_sub hcell 0 hd
        rw[hsb,List.drop_zero,List.take_left' hl1]at this
        exact this
       have h2:Br W9 (some ⟨W.heap.size,0,none⟩) (gc W) (bodyQ h ts s.bd):=(hbr W).next (by rw[hW9];exact(Bel.refl _).alloc _)
       have h3:Br W9 (some ⟨b,if C=e3 then o1 else o1+e3,none⟩) (C-e3) (tl s.cr):=by
        refine⟨fun h0=> ?_,by rw[hl3];omega,by have:=hp.lt;omega,fun e=>by cases e⟩
        rw[if_neg (by omega)]
        have:=bs_drop hcell e3
        have e4:s.b.drop e3=tl s.cr:=by
         rw[hsb,←List.append_assoc,List.drop_left' (by rw[List.length_append,hl1,he3,hbz])]
        rw[e4]at this
        exact this h0
       have:=concat_run (bw W).heap.size _ _ _ _ _ _ _ _ _ T W9 hc9 h1 h2 h3 (by rw[hl1];omega) (by rw[hl1,hl3,←hnzz];omega)
       rw[hNe]at this
       rw[←hW9]
       refine this.mono ?_
       rintro e w' ⟨q,d9,rfl,hb,hr⟩
       obtain⟨b9,o9,rfl,-⟩:=hr.bs hN0
       exact⟨b9,o9,d9,rfl,hW.trans (hB9.trans hb),hr⟩)
      have HKc:=(show Hid (∀W,Bel w6 W→W.cell? ⟨wr.heap.size,1,none⟩=some (.string bb))from hid fun W hW=>(HFc.out W ((HB6.out.trans hW).heap HC5.out)).2.1)
      have HNx:=hid (And.intro hNx (And.intro hNl hN0))
      have HBe:=hid hbel
      have hmC2:e3≤m:=by omega
      clear hnbd hbw hgc hnl hnzz hnz2 hbel hbr hNx hhd he3 hnz hbz hsl hmb hNe hsb hl1 hl3 hNl hN0
      go_upto_region 13 with fail
      go_cut [12,13,14,27]from 27 to 74 (fun v12 v13 v14 v27 wx=>v12=.slice (some ⟨b,o1,none⟩) m C∧v27=.int .i64 k∧∃b9 o9 d9,v14=.slice (some ⟨b9,o9,none⟩) Nx.length d9∧Hid (Bel w6 wx∧Br wx (some ⟨b9,o9,none⟩) d9 Nx))
      case first=>
       by_cases q8:C=e3
       ·have hmc:m=C:=by omega
        subst hmc
        subst q8
        simp only[↓reduceIte,Nat.sub_self]at HCt
        go_region_with (first|(go_at_call 19;refine(HBd.out _ (Bel.refl w6).drew).mono ?_;rintro e w7 ⟨rfl,hb7⟩;have HB7:=hid ((Bel.refl w6).drew.trans hb7);have k7:=HKc.out _ HB7.out;have k7b:=HKc.out _ (HB7.out.trans (HBe.out _));clear hb7)|(go_at_call 54;refine(HCt.out w7 _ HB7.out).mono ?_;rintro e w8 ⟨b9,o9,d9,rfl,hb8,hr8⟩;have HB8:=hid hb8;have HR8:=hid hr8;clear hb8 hr8))
        all_goals
         go_wp2_with fail
         go_meet
         case rel=>exact⟨rfl,rfl,_,_,_,rfl,hid ⟨HB8.out,HR8.out⟩⟩
       ·simp only[if_neg q8]at HCt
        go_region_with (first|(go_at_call 19;refine(HBd.out _ (Bel.refl w6).drew).mono ?_;rintro e w7 ⟨rfl,hb7⟩;have HB7:=hid ((Bel.refl w6).drew.trans hb7);have k7:=HKc.out _ HB7.out;have k7b:=HKc.out _ (HB7.out.trans (HBe.out _));clear hb7)|(go_at_call 54;refine(HCt.out w7 _ HB7.out).mono ?_;rintro e w8 ⟨b9,o9,d9,rfl,hb8,hr8⟩;have HB8:=hid hb8;have HR8:=hid hr8;clear hb8 hr8))
        all_goals
         go_wp2_with fail
         go_meet
         case rel=>exact⟨rfl,rfl,_,_,_,rfl,hid ⟨HB8.out,HR8.out⟩⟩
      case rest=>
       obtain⟨rfl,rfl,b9,o9,d9,rfl,hx⟩:=hcut
       have HBc:=hid hx.out.1
       have HRc:=hid hx.out.2
       have hNl:=HNx.out.2.1
       obtain⟨my,hmy⟩:∃my,my=mayQ Nx:=⟨_,rfl⟩
       have HMy:=hid hmy
       have HMa:=(show Hid (Calls Tryz.prog 55 #[.slice (some ⟨b9,o9,none⟩) Nx.length d9] wc fun e w'=>e=.returned (.bool my)∧Bel wc w')from hid (by
        rw[hmy]
        exact may_run any_run b9 o9 d9 Nx wc (HW.out.next (HBw5.out.trans (HB6.out.trans HBc.out))) HRc.out (by omega) (List.length_pos_iff.mp HNx.out.2.2)))
       clear hx hmy
       cases my with
       |false=>
        have hT2:=hid (show T=s.b by
         rw[HTs.out];unfold turnQ turn
         rw[if_neg]
         rintro⟨-,e⟩
         rw[←HNx.out.1,←HMy.out]at e
         cases e)
        go_wp2_with (first|(go_at_call 55;with_reducible refine HMa.out.mono ?_;rintro _ w9 ⟨rfl,hb9⟩;have HB9:=hid (HB6.out.trans (HBc.out.trans hb9));clear hb9))
        go_meet
        case rel=>exact⟨_,_,by rw[hT2.out,←HY.out.2.1],rfl,hid ⟨HB9.out,by rw[hT2.out];exact HPb.out _ (HBw5.out.trans HB9.out)⟩⟩
       |true=>
        have hT2:=hid (show T=Nx by
         rw[HTs.out];unfold turnQ turn
         rw[if_pos ⟨HIs.out.symm,by rw[←HNx.out.1,←HMy.out]⟩,HNx.out.1])
        go_wp2_with (first|(go_at_call 55;with_reducible refine HMa.out.mono ?_;rintro _ w9 ⟨rfl,hb9⟩;have HB9:=hid (HB6.out.trans (HBc.out.trans hb9));have HR9:=hid (HRc.out.next hb9);clear hb9))
        go_meet
        case rel=>exact⟨_,_,by rw[hT2.out],rfl,hid ⟨HB9.out,by rw[hT2.out];exact HR9.out⟩⟩
    case rest=>
     obtain⟨q,c',rfl,rfl,hx⟩:=hcut
     have HBc:=hid hx.out.1
     have HRc:=hid hx.out.2
     have HOc:=hid (HO8.out.next (HB5.out.trans HBc.out))
     have HB2c:=hid (HB.out.trans (HB5.out.trans HBc.out))
     clear hx
     go_wp2_with (first|(at_builtin;refine wpList_append_bs (a0:=w2) (W:=wc) rfl (.tmp 71) (.tmp 72) rfl u8 L8 T q c' rfl HOc.out HB2c.out rfl HRc.out (by omega) ?_;intro v9 w9 ho9 hb9 hg9;have HO9:=hid ho9;have HB9:=hid hb9;clear ho9 hb9 hg9))
     go_roundg (gk-1)
     case measure=>have:=HK.out;omega
     case rel=>exact⟨k+1,tt,by go_num,rfl,by have:=HK.out;omega,hid ⟨HNx.out.symm,HB9.out,by rw[HL8.out];exact HO9.out⟩⟩
   ·have hkl:k=S.length:=by rw[←HN.out];omega
    have b0:decide ((k:Int)<(n:Int))=false:=decide_eq_false (by omega)
    obtain⟨L8,hL8⟩:∃L8,L8=fl (S.map (turnQ h ts)):=⟨_,rfl⟩
    have HO:=hid (show Ob w2 wr u8 L8 by
     have:=HO8.out
     rw[hkl,List.take_length,←hL8]at this
     exact this)
    have hat:at_=(fl S).length:=by
     have:=HAt.out
     rw[hkl,List.take_length]at this
     exact this
    have hdr:d.drop at_=r:=by rw[hat,HD.out.eq,List.drop_left]
    have hatd:at_≤d.length:=by rw[hat,HD.out.eq,List.length_append];omega
    have hrl:r.length=d.length-at_:=by rw[←hdr,List.length_drop]
    have hL8l:L8.length≤65601536:=by
     have h1:=fl_turn_le (h:=h) (ts:=ts) S fun y hy=>Nat.le_trans (sg_le hy) HSz.out.1
     rw[←hL8]at h1
     have h2:=HSz.out
     omega
    have HMe:=hid (show M=L8++r by rw[HM0.out,hL8])
    have hrs:L8.length+r.length≤140737488355328:=by omega
    have j1:(at_:Int)≤(d.length:Int):=by omega
    have HRl:=hid hrl
    have HDr:=hid hdr
    have HAd:=hid hatd
    clear hkl hL8 hat hdr hrl HO8 HAt
    have HTl:=(show Hid (∀p',Bs wr p' r→∀c',r.length≤c'→c'≤c→(p'=none→c'=0)→Br wr p' c' r)from hid fun p' h1 c' h2 h3 h4=>⟨h1,h2,by omega,h4⟩)
    have HBp:=hid (HBr.out.next (HB2.out.trans HB.out))
    cases p with
    |none=>
     have hc0:=HBr.out.nil rfl
     subst hc0
     have hd0:d.length=0:=by omega
     have ha0:at_=0:=by have:=HAd.out;omega
     subst ha0
     have hr0:r=[]:=List.length_eq_zero_iff.mp (by have:=HRl.out;omega)
     have hd1:d=[]:=List.length_eq_zero_iff.mp hd0
     subst hr0
     subst hd1
     clear hd0
     have HRp:=hid (HTl.out none (fun h0=>absurd h0 (Nat.lt_irrefl 0)) 0 (Nat.le_refl _) (Nat.le_refl _) (fun _=>rfl))
     go_wp2_with (first|(at_builtin;refine wpList_append_bs (a0:=w2) (W:=wr) rfl (.tmp 75) (.tmp 78) rfl u8 L8 [] none 0 rfl HO.out HB.out rfl HRp.out hrs ?_;intro v9 w9 ho9 hb9 hg9;have HO9:=hid ho9;have HB9:=hid hb9;clear ho9 hb9 hg9;obtain⟨q,d9,hv9,hd1,hd2⟩:=row_shape HO9.out;subst hv9))
     go_ret
     refine⟨q,d9,by rw[HMe.out,List.append_nil];rfl,HB2.out.trans HB9.out,?_⟩
     rw[HMe.out]
     exact HO9.out.read.2
    |some ad=>
     by_cases e:c=at_
     ·subst e
      have hr0:r=[]:=List.length_eq_zero_iff.mp (by have:=HRl.out;omega)
      subst hr0
      have HRp:=hid (HTl.out (some ad) (fun h0=>absurd h0 (Nat.lt_irrefl 0)) 0 (Nat.le_refl _) (by omega) (fun e=>by cases e))
      go_wp2_with (first|(at_builtin;refine wpList_append_bs (a0:=w2) (W:=wr) rfl (.tmp 75) (.tmp 78) rfl u8 L8 [] (some ad) 0 rfl HO.out HB.out rfl HRp.out hrs ?_;intro v9 w9 ho9 hb9 hg9;have HO9:=hid ho9;have HB9:=hid hb9;clear ho9 hb9 hg9;obtain⟨q,d9,hv9,hd1,hd2⟩:=row_shape HO9.out;subst hv9))
      go_ret
      refine⟨q,d9,by rw[HMe.out,List.append_nil];rfl,HB2.out.trans HB9.out,?_⟩
      rw[HMe.out]
      exact HO9.out.read.2
     ·have HRp:=hid (HTl.out (some (ad.add at_)) (fun h0=>by
       obtain⟨b,o,e2,hc⟩:=HBp.out.bs (by have:=HRl.out;omega)
       cases e2
       have:=bs_drop hc at_
       rw[HDr.out]at this
       rw[addr_add]
       exact this h0) (c-at_) (by have:=HRl.out;omega) (by omega) (fun e=>by cases e))
      go_wp2_with (first|(at_builtin;refine wpList_append_bs (a0:=w2) (W:=wr) rfl (.tmp 75) (.tmp 78) rfl u8 L8 r (some (ad.add at_)) (c-at_) rfl HO.out HB.out (by rw[HRl.out];rfl) HRp.out hrs ?_;intro v9 w9 ho9 hb9 hg9;have HO9:=hid ho9;have HB9:=hid hb9;clear ho9 hb9 hg9;obtain⟨q,d9,hv9,hd1,hd2⟩:=row_shape HO9.out;subst hv9))
      go_ret
      refine⟨q,d9,by rw[HMe.out,List.length_append];rfl,HB2.out.trans HB9.out,?_⟩
      rw[HMe.out]
      exact HO9.out.read.2
 ·rw[if_neg h0]at HM0
  have hMd:=HM0.out
  subst hMd
  obtain⟨v0,hv0⟩:∃v0:Value,v0=.slice none 0 0:=⟨_,rfl⟩
  have b1:(E !=0)=true:=by simpa using h0
  have HSp:=(show Hid (Calls Tryz.prog 52 #[.slice p M.length c] w fun e w'=>e=.returned (.tuple #[.slice none 0 0,.int .i64 0,.int .i64 E])∧Bel w w')from hid (by
   simp only[if_neg h0]at hsp
   exact hsp.mono fun e w' ⟨v,h1,h2,_⟩=>⟨h1,h2⟩))
  clear hsp h0
  have HCl:=(show Hid (∀W,Bel w W→Calls Tryz.prog 53 #[.slice p M.length c] W fun e w'=>∃q d,e=.returned (.slice q M.length d)∧Bel W w'∧Br w' q d M)from hid fun W hW=>clone_run p c M W (HBr.out.next hW) (by omega))
  go_enter Tryz.func21,Tryz.ntmps21
  go_wp2_with (first|(go_at_call 52;with_reducible refine HSp.out.mono ?_;rintro _ w2 ⟨rfl,hb2⟩;have HB2:=hid hb2;clear hb2)|(go_at_call 53;with_reducible refine(HCl.out _ HB2.out).mono ?_;rintro _ w3 ⟨q,dd,rfl,hb3,hr3⟩;have HB3:=hid hb3;have HR3:=hid hr3;clear hb3 hr3))
  go_ret
  exact⟨q,dd,rfl,HB2.out.trans HB3.out,HR3.out⟩
end Go.Proofs.YtmlmkmhkmifnkaaGreatDoor.Hs
namespace Go.Proofs.YtmlmkmhkmifnkaaGreatDoor.Tb
open Go.RowKit
open Ci (Bel hid own_bel row_shape own_base addr_add Aft wp_region_aft Lay Calls.aft)
open Ma (Pt ptC ptC_one ptC_range pt_size zeroP domainQ rightP wpList_store_blk load_pt)
def mxE:List UInt8:=[109,120,46,101,120,97,109,112,108,101]
def awT:List UInt8:=[97,64,120,46,101,120,97,109,112,108,101,32,98,64,121,46,101,120,97,109,112,108,101,10]
def awE:En:=⟨[97,64,120,46,101,120,97,109,112,108,101],[98,64,121,46,101,120,97,109,112,108,101]⟩
def awA:Pt:=⟨false,[97],[120,46,101,120,97,109,112,108,101],false⟩
def awB:Pt:=⟨false,[98],[121,46,101,120,97,109,112,108,101],false⟩
theorem aw_parse:tparse awT=some [awE]:=by kernel_rfl
theorem aw_vals:valsC [awE]=true:=by kernel_rfl
theorem aw_host:hostC mxE=true:=by kernel_rfl
theorem aw_new:newC mxE [awT]=.ok [[awE]]:=by
 unfold newC
 rw[aw_host]
 have:newT [awT] []=some [[awE]]:=by
  unfold newT
  rw[aw_parse]
  show(if valsC [awE]then newT [] ([]++[[awE]])else none)=_
  rw[aw_vals];rfl
 rw[this];rfl
theorem aw_path:pathC mxE [[awE]] awA=awB:=by kernel_rfl
theorem cawake_run(w:World)(hw:Lat w):Calls Tryz.prog 10 #[] w fun e w'=>e=.returned (.bool true)∧Bel w w':=by
 obtain⟨W1,hW1⟩:∃W1,W1=w.alloc (.cells #[.string ⟨#[97,64,120,46,101,120,97,109,112,108,101,32,98,64,121,46,101,120,97,109,112,108,101,10]⟩] 9):=⟨_,rfl⟩
 have HB1:=hid (show Bel w W1 by rw[hW1];exact(Bel.refl w).alloc _)
 have hS:Sts W1 (some ⟨w.heap.size,0,none⟩) [⟨awT.toArray⟩]:=⟨.inr ⟨w.heap.size,0,rfl,by rw[hW1,World.size_alloc];omega,fun k hk=>by
  obtain rfl:k=0:=by simp at hk;omega
  rw[hW1,Lib.cell_of_heap (heap_alloc_new w _)];rfl⟩⟩
 have HN:=(show Hid (Calls Tryz.prog 11 #[.string ⟨mxE.toArray⟩,.slice (some ⟨w.heap.size,0,none⟩) 1 1] W1 fun e w'=>∃a,e=.returned (.tuple #[.pointer a,.int .i64 0])∧Bel W1 w'∧CnAt w' a mxE [[awE]])from by
  have h:=cnew_run ⟨mxE.toArray⟩ (some ⟨w.heap.size,0,none⟩) [⟨awT.toArray⟩] 1 W1 (hw.next HB1.out) (by rw[Lib.size_eq];exact of_decide_eq_true (by kernel_rfl)) hS
  have e:([⟨awT.toArray⟩]:List ByteArray).map (·.data.toList)=[awT]:=rfl
  rw[e]at h
  refine h.mono fun e w' hp=> ?_
  unfold CnPost at hp
  rw[show newC (⟨mxE.toArray⟩:ByteArray).data.toList [awT]=.ok [[awE]]from aw_new]at hp
  exact hp)
 have HP:=(show Hid (∀W,Bel W1 W→∀a,CnAt W a mxE [[awE]]→Calls Tryz.prog 13 #[.pointer a,.agg (ptC awA).toArray] W fun e w'=>e=.returned (.agg (ptC awB).toArray)∧Bel W w')from fun W hW a hC=>by
  have h:=cpath_run a mxE [[awE]] awA W (hw.next (HB1.out.trans hW)) hC (by decide) (by decide)
  rw[aw_path]at h
  exact h)
 have heq:∀W:World,(Op.equalIn 10000 26 (.agg (ptC awB).toArray) (.agg #[.bool false,.string ⟨#[98]⟩,.string ⟨#[121,46,101,120,97,109,112,108,101]⟩,.bool false])).run Tryz.prog W=.ok true W:=fun W=>by
  have:=eq_ptc awB awB W
  rw[decide_eq_true rfl]at this
  exact this
 clear hw hS
 go_enter Tryz.func10,Tryz.ntmps10
 go_wp2_with (first|(go_at_call 11;(try rw[←hW1]);refine HN.out.mono ?_;rintro _ w2 ⟨a,rfl,hb2,hc2⟩;obtain⟨cb,ct,mb,hab,-⟩:=hc2.at_;subst hab;have HB2:=hid hb2;have HC2:=hid hc2;clear hb2 hc2)|(go_at_call 13;refine(HP.out w2 HB2.out _ HC2.out).mono ?_;rintro _ w3 ⟨rfl,hb3⟩;have HB3:=hid (HB2.out.trans hb3);clear hb3)|(refine wpList_store_blk rfl 26 (.tmp 3) (.tmp 17) rfl w3.heap.size (ptC awB) rfl rfl pt_size (ptC_one _) (ptC zeroP) _ (heap_alloc_new w3 _) rfl ?_;intro w9 hc9 ho9 hs9 hb9;have HB9:=hid (hb9 w3 ((Bel.refl w3).alloc _) (Nat.le_refl _));have HC9:=hid hc9;clear ho9 hs9 hb9 hc9)|(refine wpList_load_mid rfl 26 (.tmp 3) rfl w3.heap.size 0 rfl (ptC awB) _ (ptC_range HC9.out) Tryz.underlying26 rfl pt_size ?_))
 go_ret
 exact⟨rfl,HB1.out.trans (HB3.out.trans HB9.out)⟩
end Go.Proofs.YtmlmkmhkmifnkaaGreatDoor.Tb