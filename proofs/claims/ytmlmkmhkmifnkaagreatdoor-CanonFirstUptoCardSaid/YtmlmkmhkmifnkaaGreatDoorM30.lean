import Derived.Test.YtmlmkmhkmifnkaaGreatDoorM29
import Derived.Test.YtmlmkmhkmifnkaaGreatDoorM17
set_option maxHeartbeats 16000000
set_option maxRecDepth 1000000
namespace Go.Proofs.YtmlmkmhkmifnkaaGreatDoor.Tb
open Go.RowKit
open Ci (Bel hid own_bel Aft wp_region_aft Calls.aft)
open Ma (lowL)
theorem ren_size:(Tryz.prog.info? 82).map (·.size)=some 2:=by kernel_rfl
theorem rload_en{w:World}{b:Nat}{cs:List Value}{T:TypeId}(hc:w.heap[b]?=some (.cells cs.toArray T (0,0)))(hl:cs.length=2):(loadVar 82 ⟨b,0,none⟩).run Tryz.prog w=.ok (.agg cs.toArray) w:=
 run_loadVar_mid w b 0 82 cs _ (Ci.range_of hc fun j v hv=>by rw[Nat.zero_add];simpa using hv) Tryz.underlying82 rfl (by rw[hl];exact ren_size)
theorem keyN_le:∀s:List UInt8,keyN s≤s.length
 |[]=>Nat.le_refl _
 |b::l=>by unfold keyN;exact(List.takeWhile_sublist _).length_le
theorem keyN_cons(b:UInt8)(l:List UInt8):keyN (b::l)=if isBl b then 0 else keyN l+1:=by
 unfold keyN
 cases h:isBl b<;>simp[List.takeWhile,h]
theorem keyN_bl:∀{s:List UInt8} {i:Nat} (hi:i<s.length),i≤keyN s→isBl s[i]=true→keyN s=i
 |b::l,0,_,_,h=>by rw[keyN_cons,if_pos (show isBl b=true from h)]
 |b::l,i+1,hi,hk,h=>by
  rw[keyN_cons]at hk⊢
  by_cases hb:isBl b=true
  ·rw[if_pos hb]at hk;omega
  ·rw[if_neg hb]at hk⊢
   have hi2:i<l.length:=by simpa using hi
   have:=keyN_bl hi2 (by omega) h
   omega
theorem keyN_nb:∀{s:List UInt8} {i:Nat} (hi:i<s.length),i≤keyN s→isBl s[i]=false→i+1≤keyN s
 |b::l,0,_,_,h=>by rw[keyN_cons,if_neg (by rw[show isBl b=false from h];simp)];omega
 |b::l,i+1,hi,hk,h=>by
  rw[keyN_cons]at hk⊢
  by_cases hb:isBl b=true
  ·rw[if_pos hb]at hk;omega
  ·rw[if_neg hb]at hk⊢
   have:=keyN_nb (by simpa using hi) (Nat.le_of_succ_le_succ hk) h
   omega
theorem rentry_run(k0:Int)(s:ByteArray)(x:Option Addr)(n c base:Nat)(ps:List (List UInt8))(w:World)(hs:s.size≤262144)(hn:n=ps.length)(hn2:n≤262144)(hp:∀p∈ps,p.length≤262144)(hrow:w.ownsRow base 9 1 (.slice x n c) n (strs ps)):
 Calls Tryz.prog 84 #[.agg #[.int .i64 k0,.string s,.slice x n c]] w fun e w'=>e=.returned (.agg #[.string ⟨(lowL (s.data.toList.take (keyN s.data.toList))).toArray⟩,.string ⟨(valR (trm (s.data.toList.drop (keyN s.data.toList))) ps).toArray⟩])∧Bel w w':=by
 subst hn
 have HRow:=hid hrow
 have HP:=hid hp
 have HBl:=(show Hid (∀(b:UInt8) W,Calls Tryz.prog 153 #[.int .u8 (b.toNat:Int)] W fun e w'=>e=.returned (.bool (isBl b))∧w'=W)from fun b W=>rblank_run b W)
 go_enter Tryz.func84,Tryz.ntmps84
 go_wp2_with fail
 obtain⟨W0,hW0⟩:∃W0,W0=(w.alloc (.cells #[.int .i64 k0,.string s,.slice x ps.length c] 147)).alloc (.cells #[.string ⟨#[]⟩,.string ⟨#[]⟩] 82):=⟨_,rfl⟩
 rw[←hW0]
 have HB0:=hid (show Bel w W0 by rw[hW0];exact((Bel.refl w).alloc _).alloc _)
 have h1:W0.heap[w.heap.size]?=some (.cells #[.int .i64 k0,.string s,.slice x ps.length c] 147 (0,0)):=by rw[hW0];exact Bel.heap ((Bel.refl _).alloc _) (heap_alloc_new w _)
 have c1:W0.cell? ⟨w.heap.size,1,none⟩=some (.string s):=by rw[Lib.cell_of_heap h1];rfl
 have c2:W0.cell? ⟨w.heap.size,2,none⟩=some (.slice x ps.length c):=by rw[Lib.cell_of_heap h1];rfl
 have h2:W0.heap[w.heap.size+1]?=some (.cells #[.string ⟨#[]⟩,.string ⟨#[]⟩] 82 (0,0)):=by rw[hW0];exact Ci.alloc_second w _ _
 clear hW0
 have Hz:=hid (Lib.size_eq s)
 go_loopg [3] (s.size+1) (fun gg v3 wr=>∃i:Nat,v3=.int .i64 i∧i+gg=s.size+1∧Hid (wr=W0∧i≤keyN s.data.toList))
 case atStart=>exact⟨0,rfl,by omega,hid ⟨rfl,Nat.zero_le _⟩⟩
 case round=>
  obtain⟨i,rfl,hg,H⟩:=hrel
  have ew:=H.out.1.symm
  subst ew
  have hile:=Nat.le_trans H.out.2 (keyN_le _)
  rw[←Lib.size_eq]at hile
  by_cases hlt:i<s.size
  ·have d1:decide ((i:Int)<(s.size:Int))=true:=decide_eq_true (by omega)
   have hl:i<s.data.toList.length:=by rw[←Lib.size_eq];exact hlt
   have HB1:=(show Hid (∀W,Calls Tryz.prog 153 #[.int .u8 ((s[i]'hlt).toNat:Int)] W fun e w'=>e=.returned (.bool (isBl s[i]))∧w'=W)from fun W=>HBl.out _ W)
   have hei:s.data.toList[i]=s[i]:=by rw[Array.getElem_toList];rfl
   cases hb:isBl s[i]with
   |true=>
    have HK:=hid (keyN_bl hl H.out.2 (by rw[hei];exact hb))
    rw[hb]at HB1
    clear hb
    have C1:∀p:Aft W0,p.wd.cell? ⟨w.heap.size,1,none⟩=some (.string s):=fun p=>(bel_cell p.bel (cell_lt c1)).trans c1
    have C2:∀p:Aft W0,p.wd.cell? ⟨w.heap.size,2,none⟩=some (.slice x ps.length c):=fun p=>(bel_cell p.bel (cell_lt c2)).trans c2
    have HVa:=(show Hid (∀p:Aft W0,Calls Tryz.prog 154 #[.string (s.extract i s.size),.slice x ps.length c] p.wd fun e w'=>e=.returned (.string ⟨(valR (trm (s.data.toList.drop (keyN s.data.toList))) ps).toArray⟩)∧Bel p.wd w')from fun p=>by
     have:=rvalue_run (s.extract i s.size) x ps.length c base ps p.wd (by rw[ByteArray.size_extract];omega) rfl hn2 HP.out (own_bel HRow.out (HB0.out.trans p.bel))
     rw[show(s.extract i s.size).data.toList=s.data.toList.drop (keyN s.data.toList)from by rw[HK.out,ByteArray.data_extract,Array.toList_extract,List.extract_eq_take_drop,List.take_of_length_le (by rw[List.length_drop,←Lib.size_eq];exact Nat.le_refl _)]]at this
     exact this.mono fun e w' h=>⟨h.1,h.2▸Bel.refl _⟩)
    have HLo:=(show Hid (∀W,Calls Tryz.prog 38 #[.string (s.extract 0 i)] W fun e w'=>e=.returned (.string ⟨(lowL (s.data.toList.take (keyN s.data.toList))).toArray⟩)∧Bel W w')from fun W=>by
     have:=Ma.rlower_run (s.extract 0 i) W (by rw[ByteArray.size_extract];omega)
     rw[show(s.extract 0 i).data.toList=s.data.toList.take (keyN s.data.toList)from by rw[HK.out,ByteArray.data_extract,Array.toList_extract,List.extract_eq_take_drop,List.drop_zero,Nat.sub_zero]]at this
     exact this)
    go_wp2_with (first|(go_at_call 153;refine(HB1.out _).mono ?_;rintro e w1 ⟨rfl,h1⟩;have h1:=h1.symm;subst h1))
    refine wp_region_aft (by kernel_rfl) (by kernel_rfl) ?_
    repeat (first|go_big_quiet_skip|go_big_quiet_step (first|(go_at_call 154;exact Calls.aft (HVa.out _)))|quiet_step (first|(go_at_call 154;exact Calls.aft (HVa.out _))))
    refine wpQuiet_nil ?_
    rintro _ ⟨p,rfl⟩
    have R1:=p.bel.heap h2
    go_wp2_with (first|(go_at_call 38;refine(HLo.out _).mono ?_;rintro e w1 ⟨rfl,hb1⟩;have R2:=hb1.heap R1)|((with_reducible refine Ma.wpList_store_blk (by with_unfolding_all rfl) 82 (.tmp 2) (.tmp 33) (by with_unfolding_all rfl) (w.heap.size+1) [.string ⟨(lowL (s.data.toList.take (keyN s.data.toList))).toArray⟩,.string ⟨(valR (trm (s.data.toList.drop (keyN s.data.toList))) ps).toArray⟩] (by with_unfolding_all rfl) (by with_unfolding_all rfl) (by with_unfolding_all exact ren_size) (by with_unfolding_all simp[Value.oneCell']) [.string ⟨#[]⟩,.string ⟨#[]⟩] _ (by with_unfolding_all exact R2) (by with_unfolding_all rfl) ?_);intro w9 hc9 ho9 hs9 hb9))
    have hl2:=rload_en (cs:=[.string ⟨(lowL (s.data.toList.take (keyN s.data.toList))).toArray⟩,.string ⟨(valR (trm (s.data.toList.drop (keyN s.data.toList))) ps).toArray⟩]) hc9 rfl
    have HB9:=hb9 w ((HB0.out.trans p.bel).trans hb1) (by omega)
    exact bodyPost_ret (v:=.agg ([.string ⟨(lowL (s.data.toList.take (keyN s.data.toList))).toArray⟩,.string ⟨(valR (trm (s.data.toList.drop (keyN s.data.toList))) ps).toArray⟩]).toArray) (by simp[results,Tryz.results84,asAddr,hl2,Act.put]) rfl ⟨rfl,HB9⟩
   |false=>
    have HK:=hid (keyN_nb hl H.out.2 (by rw[hei];exact hb))
    rw[hb]at HB1
    clear hb
    go_wp2_with (first|(go_at_call 153;refine(HB1.out _).mono ?_;rintro e w1 ⟨rfl,h1⟩;have h1:=h1.symm;subst h1))
    go_roundg (gk-1)
    case measure=>omega
    case rel=>exact⟨i+1,by go_num,by omega,hid ⟨rfl,HK.out⟩⟩
  ·have HK:Hid (keyN s.data.toList=i):=hid (by
    have:=keyN_le s.data.toList
    rw[←Lib.size_eq]at this
    have:=H.out.2
    omega)
   have d1:decide ((i:Int)<(s.size:Int))=false:=decide_eq_false (by omega)
   have C1:∀p:Aft W0,p.wd.cell? ⟨w.heap.size,1,none⟩=some (.string s):=fun p=>(bel_cell p.bel (cell_lt c1)).trans c1
   have C2:∀p:Aft W0,p.wd.cell? ⟨w.heap.size,2,none⟩=some (.slice x ps.length c):=fun p=>(bel_cell p.bel (cell_lt c2)).trans c2
   have HVa:=(show Hid (∀p:Aft W0,Calls Tryz.prog 154 #[.string (s.extract i s.size),.slice x ps.length c] p.wd fun e w'=>e=.returned (.string ⟨(valR (trm (s.data.toList.drop (keyN s.data.toList))) ps).toArray⟩)∧Bel p.wd w')from fun p=>by
    have:=rvalue_run (s.extract i s.size) x ps.length c base ps p.wd (by rw[ByteArray.size_extract];omega) rfl hn2 HP.out (own_bel HRow.out (HB0.out.trans p.bel))
    rw[show(s.extract i s.size).data.toList=s.data.toList.drop (keyN s.data.toList)from by rw[HK.out,ByteArray.data_extract,Array.toList_extract,List.extract_eq_take_drop,List.take_of_length_le (by rw[List.length_drop,←Lib.size_eq];exact Nat.le_refl _)]]at this
    exact this.mono fun e w' h=>⟨h.1,h.2▸Bel.refl _⟩)
   have HLo:=(show Hid (∀W,Calls Tryz.prog 38 #[.string (s.extract 0 i)] W fun e w'=>e=.returned (.string ⟨(lowL (s.data.toList.take (keyN s.data.toList))).toArray⟩)∧Bel W w')from fun W=>by
    have:=Ma.rlower_run (s.extract 0 i) W (by rw[ByteArray.size_extract];omega)
    rw[show(s.extract 0 i).data.toList=s.data.toList.take (keyN s.data.toList)from by rw[HK.out,ByteArray.data_extract,Array.toList_extract,List.extract_eq_take_drop,List.drop_zero,Nat.sub_zero]]at this
    exact this)
   go_wp2_with fail
   refine wp_region_aft (by kernel_rfl) (by kernel_rfl) ?_
   repeat (first|go_big_quiet_skip|go_big_quiet_step (first|(go_at_call 154;exact Calls.aft (HVa.out _)))|quiet_step (first|(go_at_call 154;exact Calls.aft (HVa.out _))))
   refine wpQuiet_nil ?_
   rintro _ ⟨p,rfl⟩
   have R1:=p.bel.heap h2
   go_wp2_with (first|(go_at_call 38;refine(HLo.out _).mono ?_;rintro e w1 ⟨rfl,hb1⟩;have R2:=hb1.heap R1)|((with_reducible refine Ma.wpList_store_blk (by with_unfolding_all rfl) 82 (.tmp 2) (.tmp 33) (by with_unfolding_all rfl) (w.heap.size+1) [.string ⟨(lowL (s.data.toList.take (keyN s.data.toList))).toArray⟩,.string ⟨(valR (trm (s.data.toList.drop (keyN s.data.toList))) ps).toArray⟩] (by with_unfolding_all rfl) (by with_unfolding_all rfl) (by with_unfolding_all exact ren_size) (by with_unfolding_all simp[Value.oneCell']) [.string ⟨#[]⟩,.string ⟨#[]⟩] _ (by with_unfolding_all exact R2) (by with_unfolding_all rfl) ?_);intro w9 hc9 ho9 hs9 hb9))
   have hl2:=rload_en (cs:=[.string ⟨(lowL (s.data.toList.take (keyN s.data.toList))).toArray⟩,.string ⟨(valR (trm (s.data.toList.drop (keyN s.data.toList))) ps).toArray⟩]) hc9 rfl
   have HB9:=hb9 w ((HB0.out.trans p.bel).trans hb1) (by omega)
   exact bodyPost_ret (v:=.agg ([.string ⟨(lowL (s.data.toList.take (keyN s.data.toList))).toArray⟩,.string ⟨(valR (trm (s.data.toList.drop (keyN s.data.toList))) ps).toArray⟩]).toArray) (by simp[results,Tryz.results84,asAddr,hl2,Act.put]) rfl ⟨rfl,HB9⟩
end Go.Proofs.YtmlmkmhkmifnkaaGreatDoor.Tb
namespace Go.Proofs.YtmlmkmhkmifnkaaGreatDoor.Tb
open Go.RowKit
open Ci (splitL splitL_ne)
def sumL:List (List UInt8)→Nat
 |[]=>0
 |p::L=>p.length+1+sumL L
theorem sum_split:∀s:List UInt8,sumL (splitL 10 s)=s.length+1
 |[]=>rfl
 |c::s=>by
  have ih:=sum_split s
  unfold Ci.splitL
  split
  ·show 0+1+sumL (splitL 10 s)=_
   rw[ih,List.length_cons];omega
  ·cases hs:splitL 10 s with
   |nil=>exact absurd hs (Ci.splitL_ne 10 s)
   |cons q qs=>
    rw[hs]at ih
    have ih2:q.length+1+sumL qs=s.length+1:=ih
    show(c::q).length+1+sumL qs=_
    rw[List.length_cons,List.length_cons];omega
theorem bads_lt:∀(s:List UInt8) (k b:Nat),b∈badsOf s k→b<k+s.length
 |[],k,b,h=>by cases h
 |c::s,k,b,h=>by
  unfold badsOf at h
  rw[List.length_cons]
  split at h
  ·rcases List.mem_cons.1 h with rfl|h
   ·omega
   ·have:=bads_lt s (k+1) b h;omega
  ·have:=bads_lt s (k+1) b h;omega
theorem add_mem{out:List Ln}{p:List UInt8}{l:Ln}(h:l∈addLast out p):l∈out∨∃x∈out,l=⟨x.at_,x.key,x.pcs++[p]⟩:=by
 unfold addLast at h
 split at h
 ·exact .inl h
 ·rename_i x hx
  rcases List.mem_append.1 h with h|h
  ·exact .inl (List.dropLast_subset _ h)
  ·exact .inr ⟨x,List.mem_of_getLast? hx,List.mem_singleton.1 h⟩
theorem add_len{out:List Ln}{p:List UInt8}:(addLast out p).length=out.length:=by
 unfold addLast
 split
 ·rfl
 ·rename_i x hx
  have:out≠[]:=by intro f;rw[f]at hx;cases hx
  have:=List.length_pos_iff.2 this
  simp only[List.length_append,List.length_dropLast,List.length_cons,List.length_nil];omega
structure RsB (N:Nat) (r:Rs):Prop where
 at_:∀l∈r.out,l.at_≤N
 key:∀l∈r.out,l.key.length≤N
 pcs:∀l∈r.out,∀p∈l.pcs,p.length≤N
 num:∀l∈r.out,l.pcs.length+1≤r.at_
 cnt:r.out.length≤r.at_
 bads:∀b∈r.bads,b≤N
 nb:r.bads.length≤N+r.at_
theorem RsB.step{N:Nat}{r:Rs}(h:RsB N r)(s:List UInt8)(hs:r.at_+s.length≤N):RsB N (rsStep r s):=by
 have ht:=trm_le s
 have key:∀l∈(rsStep r s).out,l∈r.out∨(∃x∈r.out,l=⟨x.at_,x.key,x.pcs++[trm s]⟩)∨l=⟨r.at_,s,[]⟩:=by
  intro l hl
  have hl:l∈(if skipR s then r.out else if blankR s then(if r.out=[]then r.out else addLast r.out (trm s))else r.out++[⟨r.at_,s,[]⟩]):=hl
  split at hl
  ·exact .inl hl
  ·split at hl
   ·split at hl
    ·exact .inl hl
    ·rcases add_mem hl with h1|h1
     ·exact .inl h1
     ·exact .inr (.inl h1)
   ·rcases List.mem_append.1 hl with hl|hl
    ·exact .inl hl
    ·exact .inr (.inr (List.mem_singleton.1 hl))
 refine⟨fun l hl=> ?_,fun l hl=> ?_,fun l hl p hp=> ?_,fun l hl=> ?_,?_,?_,?_⟩
 ·rcases key l hl with f|⟨x,hx,rfl⟩|rfl
  ·exact h.at_ l f
  ·exact h.at_ x hx
  ·show r.at_≤N;omega
 ·rcases key l hl with f|⟨x,hx,rfl⟩|rfl
  ·exact h.key l f
  ·exact h.key x hx
  ·show s.length≤N;omega
 ·rcases key l hl with f|⟨x,hx,rfl⟩|rfl
  ·exact h.pcs l f p hp
  ·rcases List.mem_append.1 hp with hp|hp
   ·exact h.pcs x hx p hp
   ·rw[List.mem_singleton.1 hp];omega
  ·cases hp
 ·show l.pcs.length+1≤r.at_+s.length+1
  rcases key l hl with f|⟨x,hx,rfl⟩|rfl
  ·have:=h.num l f;omega
  ·have:=h.num x hx
   show(x.pcs++[trm s]).length+1≤_
   rw[List.length_append,List.length_singleton];omega
  ·show 0+1≤_;omega
 ·have:=h.cnt
  show(if skipR s then r.out else if blankR s then(if r.out=[]then r.out else addLast r.out (trm s))else r.out++[⟨r.at_,s,[]⟩]).length≤r.at_+s.length+1
  split
  ·omega
  ·split
   ·split
    ·omega
    ·rw[add_len];omega
   ·rw[List.length_append,List.length_singleton];omega
 ·intro b hb
  have hb:b∈(if skipR s then r.bads else if blankR s&&r.out.isEmpty then r.bads++[r.at_]else r.bads):=hb
  split at hb
  ·exact h.bads b hb
  ·split at hb
   ·rcases List.mem_append.1 hb with hb|hb
    ·exact h.bads b hb
    ·rw[List.mem_singleton.1 hb];omega
   ·exact h.bads b hb
 ·have:=h.nb
  show(if skipR s then r.bads else if blankR s&&r.out.isEmpty then r.bads++[r.at_]else r.bads).length≤N+(r.at_+s.length+1)
  split
  ·omega
  ·split
   ·rw[List.length_append,List.length_singleton];omega
   ·omega
theorem RsB.fold{N:Nat}:∀(L:List (List UInt8)) (r:Rs),RsB N r→r.at_+sumL L≤N+1→RsB N (L.foldl rsStep r)∧(L.foldl rsStep r).at_≤N+1
 |[],r,h,hs=>⟨h,by have:sumL []=0:=rfl;show r.at_≤N+1;omega⟩
 |s::L,r,h,hs=>by
  have e:sumL (s::L)=s.length+1+sumL L:=rfl
  have e2:(rsStep r s).at_=r.at_+s.length+1:=rfl
  exact RsB.fold L (rsStep r s) (h.step s (by omega)) (by omega)
theorem rs_b(s:List UInt8):RsB s.length (rsAll s)∧(rsAll s).at_≤s.length+1:=by
 unfold rsAll
 refine RsB.fold _ _ ⟨fun l hl=>(by cases hl),fun l hl=>(by cases hl),fun l hl=>(by cases hl),fun l hl=>(by cases hl),Nat.le_refl _,fun b hb=> ?_,?_⟩ ?_
 ·have:=bads_lt s 0 b hb;omega
 ·exact Nat.le_trans (bads_len s 0) (Nat.le_add_right _ _)
 ·rw[sum_split];show 0+_≤_;omega
end Go.Proofs.YtmlmkmhkmifnkaaGreatDoor.Tb
namespace Go.Proofs.YtmlmkmhkmifnkaaGreatDoor.Tb
open Go.RowKit
open Ci (Bel hid own_bel row_shape own_base)
open Ma (lowL)
theorem ren_infos:(Tryz.prog.info? 82).map (fun i=>(i.zero,i.size,i.bytes))=some (some (.agg #[.string ⟨#[]⟩,.string ⟨#[]⟩]),2,32):=by kernel_rfl
def REns(W:World)(x:Option Addr)(es:List En):Prop:=
 es=[]∨∃b cur,x=some ⟨b,0,none⟩∧W.heap[b]?=some (.cells cur 82 (0,0))∧cur.toList.take (es.length*2)=enCs es
theorem REns.next{W W':World}{x:Option Addr}{es:List En}(h:REns W x es)(hb:Bel W W'):REns W' x es:=by
 rcases h with f|⟨b,cur,e,h1,h2⟩
 ·exact .inl f
 ·exact .inr ⟨b,cur,e,hb.heap h1,h2⟩
theorem REns.cell{W:World}{x:Option Addr}{es:List En}(h:REns W x es){k:Nat}(hk:k<es.length):∃b,x=some ⟨b,0,none⟩∧W.cell? ⟨b,k*2,none⟩=some (.string ⟨es[k].key.toArray⟩)∧W.cell? ⟨b,k*2+1,none⟩=some (.string ⟨es[k].val.toArray⟩):=by
 rcases h with f|⟨b,cur,e,h1,h2⟩
 ·rw[f]at hk;cases hk
 ·have e1:=enCs_at es k hk 0 _ rfl
  have e2:=enCs_at es k hk 1 _ rfl
  rw[Nat.add_zero]at e1
  rw[←h2]at e1 e2
  have go:∀j v,(cur.toList.take (es.length*2))[j]?=some v→W.cell? ⟨b,j,none⟩=some v:=fun j v hj=>by
   rw[Lib.cell_of_heap h1]
   rw[List.getElem?_take]at hj
   split at hj
   ·simpa using hj
   ·cases hj
  exact⟨b,e,go _ _ e1,go _ _ e2⟩
theorem rens_of_row{W:World}{base n c:Nat}{x:Option Addr}{es:List En}(h:W.ownsRow base 82 2 (.slice x n c) es.length (enCs es)):REns W x es:=by
 rcases h.2 with⟨-,h0⟩|⟨g,cap,cur,e,hg,hh,-,-,-,ht⟩
 ·exact .inl (List.eq_nil_of_length_eq_zero h0)
 ·obtain⟨rfl,-,-⟩:=Value.slice.inj e
  exact .inr ⟨g,cur,rfl,hh,ht⟩
structure RTabAt (W:World) (a:Option Addr) (es:List En):Prop where
 at_:∃b x c,a=some ⟨b,0,none⟩∧W.heap[b]?=some (.cells #[.slice x es.length c] 80 (0,0))∧REns W x es
 srt:Srt es
 num:es.length≤2000
theorem RTabAt.next{W W':World}{a:Option Addr}{es:List En}(h:RTabAt W a es)(hb:Bel W W'):RTabAt W' a es:=by
 obtain⟨b,x,c,e,h1,h2⟩:=h.at_
 exact⟨⟨b,x,c,e,hb.heap h1,h2.next hb⟩,h.srt,h.num⟩
structure RTab (base:Nat) (W:World) (b:Nat) (v:Value) (es:List En):Prop where
 blk:W.heap[b]?=some (.cells #[v] 80 (0,0))
 row:W.ownsRow base 82 2 v es.length (enCs es)
 srt:Srt es
 num:es.length≤2000
theorem RTab.next{base b:Nat}{W W':World}{v:Value}{es:List En}(h:RTab base W b v es)(hb:Bel W W'):RTab base W' b v es:=⟨hb.heap h.blk,own_bel h.row hb,h.srt,h.num⟩
theorem RTab.done{base b:Nat}{W:World}{v:Value}{es:List En}(h:RTab base W b v es):RTabAt W (some ⟨b,0,none⟩) es:=by
 obtain⟨x,c,rfl,-,-⟩:=row_shape h.row
 exact⟨⟨b,x,c,rfl,h.blk,rens_of_row h.row⟩,h.srt,h.num⟩
def PM(s:List UInt8)(rest:List Ln)(es:List En)(code at_:Int):Prop:=
 (code=0∧at_=s.length+1∧(rsAll s).bads=[]∧pG (rest.map entR) es=pG ((rsAll s).out.map entR) [])∨(code≠0∧tparse s=none)
theorem PM.ok{s:List UInt8}{l:Ln}{r:List Ln}{es:List En}{code at_:Int}(h:PM s (l::r) es code at_)(hs:Srt es)(h1:okE (entR l)=true)(h2:foundB es (entR l).key=false)(h3:es.length≠2000):PM s r (es.take (rank es (entR l).key)++entR l::es.drop (rank es (entR l).key)) code at_:=by
 rcases h with⟨a,b,c,d⟩|⟨a,b⟩
 ·refine .inl ⟨a,b,c,?_⟩
  rw[←d,List.map_cons,pG,if_pos]
  ·rw[←put_ins es _ hs];rfl
  ·rw[h1,←found_has _ _ hs,h2]
   simpa using h3
 ·exact .inr ⟨a,b⟩
theorem PM.no{s:List UInt8}{l:Ln}{r:List Ln}{es:List En}{code at_:Int}(h:PM s (l::r) es code at_)(hl:¬262144<s.length)(hs:Srt es)(hn:okE (entR l)=false∨foundB es (entR l).key=true∨es.length=2000):tparse s=none:=by
 rcases h with⟨a,b,c,d⟩|⟨a,b⟩
 ·rw[tparse_ref,if_neg hl,if_neg (fun f=>f c),←d,List.map_cons,pG,if_neg]
  rw[←found_has _ _ hs]
  rcases hn with f|f|f
  ·rw[f];simp
  ·rw[f];simp
  ·rw[f];simp
 ·exact b
theorem PM.bad{s:List UInt8}{r:List Ln}{es:List En}{code at_:Int}(h:PM s r es code at_)(hc:code≠0):tparse s=none:=by
 rcases h with⟨a,-⟩|⟨-,b⟩
 ·exact absurd a hc
 ·exact b
theorem PM.good{s:List UInt8}{es:List En}{code at_:Int}(h:PM s [] es code at_)(hl:¬262144<s.length)(hc:code=0):tparse s=some es:=by
 rcases h with⟨-,b,c,d⟩|⟨a,-⟩
 ·rw[tparse_ref,if_neg hl,if_neg (fun f=>f c),←d];rfl
 ·exact absurd hc a
theorem PM.at_eq{s:List UInt8}{r:List Ln}{es:List En}{code at_:Int}(h:PM s r es code at_)(hc:code=0):at_=s.length+1:=by
 rcases h with⟨-,b,-⟩|⟨a,-⟩
 ·exact b
 ·exact absurd hc a
theorem PM.zero(s:List UInt8)(hb:(rsAll s).bads=[]):PM s (rsAll s).out [] 0 (s.length+1):=.inl ⟨rfl,rfl,hb,rfl⟩
theorem PM.one(s:List UInt8)(at_:Int)(hb:(rsAll s).bads≠[])(r:List Ln):PM s r [] 61 at_:=.inr ⟨by decide,by
 rw[tparse_ref]
 split
 ·rfl
 ·first|rfl|rw[if_pos hb]⟩
def RParsePost(s:List UInt8)(w:World)(e:Ending)(w':World):Prop:=match tparse s with
 |some es=>∃a,e=.returned (.tuple #[.pointer a,.agg #[.int .i64 0,.int .i64 0]])∧Bel w w'∧RTabAt w' a es
 |none=>∃code at_:Int,code≠0∧e=.returned (.tuple #[.pointer none,.agg #[.int .i64 code,.int .i64 at_]])∧Bel w w'
theorem rparse_none{s:List UInt8}{w w':World}{code at_:Int}(h:tparse s=none)(hc:code≠0)(hb:Bel w w'):RParsePost s w (.returned (.tuple #[.pointer none,.agg #[.int .i64 code,.int .i64 at_]])) w':=by
 unfold RParsePost
 rw[h]
 exact⟨code,at_,hc,rfl,hb⟩
theorem rparse_some{s:List UInt8}{w w':World}{es:List En}{a:Option Addr}(h:tparse s=some es)(hb:Bel w w')(ht:RTabAt w' a es):RParsePost s w (.returned (.tuple #[.pointer a,.agg #[.int .i64 0,.int .i64 0]])) w':=by
 unfold RParsePost
 rw[h]
 exact⟨a,rfl,hb,ht⟩
theorem RnM.place{w0 W:World}{v:Value}{M:List (Ln×Value)}(h:RnM w0 W v M){k:Nat}(hk:k<M.length):∃g c,v=.slice (some ⟨g,0,none⟩) M.length c∧∀j u,(lnC M[k])[j]?=some u→W.cell? ⟨g,k*3+j,none⟩=some u:=by
 rcases h.row.2 with⟨-,h0⟩|⟨g,cap,cur,e,-⟩
 ·omega
 ·refine⟨g,cap,e,fun j u hu=> ?_⟩
  subst e
  have h2:=lnCs_at M k hk j u hu
  have hl:k*3+j<(lnCs M).length:=(List.getElem?_eq_some_iff.1 h2).1
  rw[lnCs_len]at hl
  rw[World.ownsRow.cellAt h.row (k*3+j) hl]
  exact h2
end Go.Proofs.YtmlmkmhkmifnkaaGreatDoor.Tb