import Derived.Test.YtmlmkmhkmifnkaaGreatDoorK06
import Derived.Laws.BytesArg
set_option maxHeartbeats 16000000
set_option maxRecDepth 1000000
namespace Go.Proofs.YtmlmkmhkmifnkaaGreatDoor.Ci
open Go.RowKit
def zeroN:Nt:=⟨false,0,List.replicate 16 0⟩
theorem zeroN_fits:zeroN.Fits:=⟨by decide,by decide,rfl,fun x hx=>by obtain⟨-,rfl⟩:=List.mem_replicate.1 hx;decide⟩
def fourN'(s:List UInt8):Option Nt:=(fourT s).map fun l=>⟨false,32,l++List.replicate 12 0⟩
def addrQ(s:List UInt8):Option Nt:=(fourN' s).or (sixQ s)
def errQ(o:Option Nt):Int:=if o.isSome then 0 else 70
theorem addr_run(s:ByteArray)(w:World)(hw:Lay w)(hs:s.size<4294967281):
 Calls Tryz.prog 64 #[.string s] w fun e w'=>e=.returned (.tuple #[netV ((addrQ s.data.toList).getD zeroN),.int .i64 (errQ (addrQ s.data.toList))])∧Bel w w':=by
 have H4:=(show Hid (∀W,Lay W→Calls Tryz.prog 121 #[.string s] W (NetPost (fourN' s.data.toList) W))from fun W hW=>by unfold fourN';rw[←fourQ_eq];exact four_run s W hW hs)
 have H6:=(show Hid (∀W,Lay W→Calls Tryz.prog 122 #[.string s] W (NetPost (sixQ s.data.toList) W))from fun W hW=>six_run s W hW hs)
 have hq:addrQ s.data.toList=(fourN' s.data.toList).or (sixQ s.data.toList):=rfl
 generalize addrQ s.data.toList=o at hq⊢
 generalize fourN' s.data.toList=o4 at H4 hq
 generalize sixQ s.data.toList=o6 at H6 hq
 have HO:=hid hq
 have HW:=hid hw
 clear hq hw
 go_enter Tryz.func64,Tryz.ntmps64
 go_wp2_with fail
 have H0:=hid (show Bel w ((w.alloc (.cells #[.bool false,.int .i64 0,.int .u8 0,.int .u8 0,.int .u8 0,.int .u8 0,.int .u8 0,.int .u8 0,.int .u8 0,.int .u8 0,.int .u8 0,.int .u8 0,.int .u8 0,.int .u8 0,.int .u8 0,.int .u8 0,.int .u8 0,.int .u8 0] 86)).alloc (.cells #[.func (.func 121) #[] #[],.func (.func 122) #[] #[]] 153))∧
  ((w.alloc (.cells #[.bool false,.int .i64 0,.int .u8 0,.int .u8 0,.int .u8 0,.int .u8 0,.int .u8 0,.int .u8 0,.int .u8 0,.int .u8 0,.int .u8 0,.int .u8 0,.int .u8 0,.int .u8 0,.int .u8 0,.int .u8 0,.int .u8 0,.int .u8 0] 86)).alloc (.cells #[.func (.func 121) #[] #[],.func (.func 122) #[] #[]] 153)).heap[w.heap.size]?=some (.cells (netC zeroN).toArray 86 (0,0))∧
  ((w.alloc (.cells #[.bool false,.int .i64 0,.int .u8 0,.int .u8 0,.int .u8 0,.int .u8 0,.int .u8 0,.int .u8 0,.int .u8 0,.int .u8 0,.int .u8 0,.int .u8 0,.int .u8 0,.int .u8 0,.int .u8 0,.int .u8 0,.int .u8 0,.int .u8 0] 86)).alloc (.cells #[.func (.func 121) #[] #[],.func (.func 122) #[] #[]] 153)).heap[w.heap.size+1]?=some (.cells #[.func (.func 121) #[] #[],.func (.func 122) #[] #[]] 153 (0,0))∧(0<0→o4=none)∧(1<0→o6=none)from
  ⟨((Bel.refl w).alloc _).alloc _,(Below.heap_alloc _ _ _ (by simp)).trans (heap_alloc_new w _),alloc_second w _ _,fun f=>(by omega),fun f=>(by omega)⟩)
 go_loopg [10] 2 (fun gg v10 wr=>∃k:Nat,v10=.int .i64 k∧k+gg=2∧Hid (Bel w wr∧wr.heap[w.heap.size]?=some (.cells (netC zeroN).toArray 86 (0,0))∧wr.heap[w.heap.size+1]?=some (.cells #[.func (.func 121) #[] #[],.func (.func 122) #[] #[]] 153 (0,0))∧(0<k→o4=none)∧(1<k→o6=none)))
 case atStart=>exact⟨0,rfl,by omega,H0⟩
 case round=>
  obtain⟨k,rfl,hk,HF⟩:=hrel
  clear H0
  rcases(by omega:k=0∨k=1∨k=2)with rfl|rfl|rfl
  ·have Hk:=hid hk
   clear hk
   have c0:wr.cell? ⟨w.heap.size+1,0,none⟩=some (.func (.func 121) #[] #[]):=by simp[World.cell?,HF.out.2.2.1]
   cases o4 with
   |none=>
    go_wp2_with fail
    refine(H4.out _ (HW.out.next HF.out.1)).mono ?_
    intro e w3 hp
    obtain⟨⟨n,hn,rfl,hno⟩,hb3⟩:=hp
    have hN:=hid (And.intro hn hno)
    have hZ:=hid (show(Tryz.prog.info? 86).map (·.size)=some (netC n).length by rw[netC_len _ hN.out.1.len];exact net_info)
    have hth:=hid (show(w3.alloc (.cells #[.bool false,.int .i64 0,.int .u8 0,.int .u8 0,.int .u8 0,.int .u8 0,.int .u8 0,.int .u8 0,.int .u8 0,.int .u8 0,.int .u8 0,.int .u8 0,.int .u8 0,.int .u8 0,.int .u8 0,.int .u8 0,.int .u8 0,.int .u8 0] 86)).there w3.heap.size 0 (netC n).toArray.size from there_of (cs:=#[.bool false,.int .i64 0,.int .u8 0,.int .u8 0,.int .u8 0,.int .u8 0,.int .u8 0,.int .u8 0,.int .u8 0,.int .u8 0,.int .u8 0,.int .u8 0,.int .u8 0,.int .u8 0,.int .u8 0,.int .u8 0,.int .u8 0,.int .u8 0].toList) (heap_alloc_new w3 _) (by rw[List.size_toArray,netC_len _ hN.out.1.len];decide))
    have hF3:=hid (show Bel w ((w3.alloc (.cells #[.bool false,.int .i64 0,.int .u8 0,.int .u8 0,.int .u8 0,.int .u8 0,.int .u8 0,.int .u8 0,.int .u8 0,.int .u8 0,.int .u8 0,.int .u8 0,.int .u8 0,.int .u8 0,.int .u8 0,.int .u8 0,.int .u8 0,.int .u8 0] 86)).setCells w3.heap.size 0 (netC n))∧((w3.alloc (.cells #[.bool false,.int .i64 0,.int .u8 0,.int .u8 0,.int .u8 0,.int .u8 0,.int .u8 0,.int .u8 0,.int .u8 0,.int .u8 0,.int .u8 0,.int .u8 0,.int .u8 0,.int .u8 0,.int .u8 0,.int .u8 0,.int .u8 0,.int .u8 0] 86)).setCells w3.heap.size 0 (netC n)).heap[w.heap.size]?=some (.cells (netC zeroN).toArray 86 (0,0))∧((w3.alloc (.cells #[.bool false,.int .i64 0,.int .u8 0,.int .u8 0,.int .u8 0,.int .u8 0,.int .u8 0,.int .u8 0,.int .u8 0,.int .u8 0,.int .u8 0,.int .u8 0,.int .u8 0,.int .u8 0,.int .u8 0,.int .u8 0,.int .u8 0,.int .u8 0] 86)).setCells w3.heap.size 0 (netC n)).heap[w.heap.size+1]?=some (.cells #[.func (.func 121) #[] #[],.func (.func 122) #[] #[]] 153 (0,0))∧((w3.alloc (.cells #[.bool false,.int .i64 0,.int .u8 0,.int .u8 0,.int .u8 0,.int .u8 0,.int .u8 0,.int .u8 0,.int .u8 0,.int .u8 0,.int .u8 0,.int .u8 0,.int .u8 0,.int .u8 0,.int .u8 0,.int .u8 0,.int .u8 0,.int .u8 0] 86)).setCells w3.heap.size 0 (netC n)).heap[w3.heap.size]?=some (.cells (netC n).toArray 86 (0,0))from by
     have hb:=((HF.out.1.trans hb3).alloc (.cells #[.bool false,.int .i64 0,.int .u8 0,.int .u8 0,.int .u8 0,.int .u8 0,.int .u8 0,.int .u8 0,.int .u8 0,.int .u8 0,.int .u8 0,.int .u8 0,.int .u8 0,.int .u8 0,.int .u8 0,.int .u8 0,.int .u8 0,.int .u8 0] 86))
     have hx:=(Bel.refl w3).alloc (.cells #[.bool false,.int .i64 0,.int .u8 0,.int .u8 0,.int .u8 0,.int .u8 0,.int .u8 0,.int .u8 0,.int .u8 0,.int .u8 0,.int .u8 0,.int .u8 0,.int .u8 0,.int .u8 0,.int .u8 0,.int .u8 0,.int .u8 0,.int .u8 0] 86)
     have l1:=(Array.getElem?_eq_some_iff.1 (hb3.heap HF.out.2.2.1)).1
     exact⟨Bel.setCells (by omega) _ _ _ hb,(heap_setCells_other _ _ (by omega) _ _ _).trans (hx.heap (hb3.heap HF.out.2.1)),(heap_setCells_other _ _ (by omega) _ _ _).trans (hx.heap (hb3.heap HF.out.2.2.1)),heap_setCells_whole (cs:=#[.bool false,.int .i64 0,.int .u8 0,.int .u8 0,.int .u8 0,.int .u8 0,.int .u8 0,.int .u8 0,.int .u8 0,.int .u8 0,.int .u8 0,.int .u8 0,.int .u8 0,.int .u8 0,.int .u8 0,.int .u8 0,.int .u8 0,.int .u8 0].toList) (heap_alloc_new w3 _) (by rw[netC_len _ hN.out.1.len];rfl)⟩)
    have H3:=HF.out.2.2.2
    have HH:=hid H3
    clear HF hb3 hn hno c0 H3
    go_wp2_with (first
     | (refine wpList_store_mid rfl 86 (.tmp 6) (.tmp 18) rfl w3.heap.size 0 (netC n).toArray rfl rfl ?_ (by rw[List.size_toArray];exact hZ.out) (netC_one _) ?_;exact hth.out))
    go_roundg (gk-1)
    case measure=>have:=Hk.out;omega
    case rel=>exact⟨0+1,by go_num,by have:=Hk.out;omega,hid ⟨hF3.out.1,hF3.out.2.1,hF3.out.2.2.1,fun _=>(by first|rfl|trivial),fun f=>(by omega)⟩⟩
   |some m=>
    go_wp2_with fail
    refine(H4.out _ (HW.out.next HF.out.1)).mono ?_
    intro e w3 hp
    obtain⟨⟨n,hn,rfl,hno⟩,hb3⟩:=hp
    have hN:=hid (And.intro hn hno)
    have hZ:=hid (show(Tryz.prog.info? 86).map (·.size)=some (netC n).length by rw[netC_len _ hN.out.1.len];exact net_info)
    have hth:=hid (show(w3.alloc (.cells #[.bool false,.int .i64 0,.int .u8 0,.int .u8 0,.int .u8 0,.int .u8 0,.int .u8 0,.int .u8 0,.int .u8 0,.int .u8 0,.int .u8 0,.int .u8 0,.int .u8 0,.int .u8 0,.int .u8 0,.int .u8 0,.int .u8 0,.int .u8 0] 86)).there w3.heap.size 0 (netC n).toArray.size from there_of (cs:=#[.bool false,.int .i64 0,.int .u8 0,.int .u8 0,.int .u8 0,.int .u8 0,.int .u8 0,.int .u8 0,.int .u8 0,.int .u8 0,.int .u8 0,.int .u8 0,.int .u8 0,.int .u8 0,.int .u8 0,.int .u8 0,.int .u8 0,.int .u8 0].toList) (heap_alloc_new w3 _) (by rw[List.size_toArray,netC_len _ hN.out.1.len];decide))
    have hF3:=hid (show Bel w ((w3.alloc (.cells #[.bool false,.int .i64 0,.int .u8 0,.int .u8 0,.int .u8 0,.int .u8 0,.int .u8 0,.int .u8 0,.int .u8 0,.int .u8 0,.int .u8 0,.int .u8 0,.int .u8 0,.int .u8 0,.int .u8 0,.int .u8 0,.int .u8 0,.int .u8 0] 86)).setCells w3.heap.size 0 (netC n))∧((w3.alloc (.cells #[.bool false,.int .i64 0,.int .u8 0,.int .u8 0,.int .u8 0,.int .u8 0,.int .u8 0,.int .u8 0,.int .u8 0,.int .u8 0,.int .u8 0,.int .u8 0,.int .u8 0,.int .u8 0,.int .u8 0,.int .u8 0,.int .u8 0,.int .u8 0] 86)).setCells w3.heap.size 0 (netC n)).heap[w.heap.size]?=some (.cells (netC zeroN).toArray 86 (0,0))∧((w3.alloc (.cells #[.bool false,.int .i64 0,.int .u8 0,.int .u8 0,.int .u8 0,.int .u8 0,.int .u8 0,.int .u8 0,.int .u8 0,.int .u8 0,.int .u8 0,.int .u8 0,.int .u8 0,.int .u8 0,.int .u8 0,.int .u8 0,.int .u8 0,.int .u8 0] 86)).setCells w3.heap.size 0 (netC n)).heap[w.heap.size+1]?=some (.cells #[.func (.func 121) #[] #[],.func (.func 122) #[] #[]] 153 (0,0))∧((w3.alloc (.cells #[.bool false,.int .i64 0,.int .u8 0,.int .u8 0,.int .u8 0,.int .u8 0,.int .u8 0,.int .u8 0,.int .u8 0,.int .u8 0,.int .u8 0,.int .u8 0,.int .u8 0,.int .u8 0,.int .u8 0,.int .u8 0,.int .u8 0,.int .u8 0] 86)).setCells w3.heap.size 0 (netC n)).heap[w3.heap.size]?=some (.cells (netC n).toArray 86 (0,0))from by
     have hb:=((HF.out.1.trans hb3).alloc (.cells #[.bool false,.int .i64 0,.int .u8 0,.int .u8 0,.int .u8 0,.int .u8 0,.int .u8 0,.int .u8 0,.int .u8 0,.int .u8 0,.int .u8 0,.int .u8 0,.int .u8 0,.int .u8 0,.int .u8 0,.int .u8 0,.int .u8 0,.int .u8 0] 86))
     have hx:=(Bel.refl w3).alloc (.cells #[.bool false,.int .i64 0,.int .u8 0,.int .u8 0,.int .u8 0,.int .u8 0,.int .u8 0,.int .u8 0,.int .u8 0,.int .u8 0,.int .u8 0,.int .u8 0,.int .u8 0,.int .u8 0,.int .u8 0,.int .u8 0,.int .u8 0,.int .u8 0] 86)
     have l1:=(Array.getElem?_eq_some_iff.1 (hb3.heap HF.out.2.2.1)).1
     exact⟨Bel.setCells (by omega) _ _ _ hb,(heap_setCells_other _ _ (by omega) _ _ _).trans (hx.heap (hb3.heap HF.out.2.1)),(heap_setCells_other _ _ (by omega) _ _ _).trans (hx.heap (hb3.heap HF.out.2.2.1)),heap_setCells_whole (cs:=#[.bool false,.int .i64 0,.int .u8 0,.int .u8 0,.int .u8 0,.int .u8 0,.int .u8 0,.int .u8 0,.int .u8 0,.int .u8 0,.int .u8 0,.int .u8 0,.int .u8 0,.int .u8 0,.int .u8 0,.int .u8 0,.int .u8 0,.int .u8 0].toList) (heap_alloc_new w3 _) (by rw[netC_len _ hN.out.1.len];rfl)⟩)
    have H3:=hid (show o=some m from HO.out.trans (by rfl))
    have HM:=hid (hN.out.2 m rfl)
    clear HF hb3 hn hno c0
    go_wp2_with (first
     | (refine wpList_store_mid rfl 86 (.tmp 6) (.tmp 18) rfl w3.heap.size 0 (netC n).toArray rfl rfl ?_ (by rw[List.size_toArray];exact hZ.out) (netC_one _) ?_;exact hth.out)
     | (refine wpList_load_mid rfl 86 (.tmp 6) rfl w3.heap.size 0 rfl (netC n) _ ?_ Tryz.underlying86 rfl hZ.out ?_;exact range_of hF3.out.2.2.2 fun j v hv=>by simpa using hv)
     | (refine wpList_store_mid rfl 86 (.tmp 2) (.tmp 21) rfl w.heap.size 0 (netC n).toArray rfl rfl ?_ (by rw[List.size_toArray];exact hZ.out) (netC_one _) ?_;exact there_of hF3.out.2.1 (by rw[List.size_toArray,netC_len _ hN.out.1.len];decide)))
    have hT:=hid (show((w3.alloc (.cells #[.bool false,.int .i64 0,.int .u8 0,.int .u8 0,.int .u8 0,.int .u8 0,.int .u8 0,.int .u8 0,.int .u8 0,.int .u8 0,.int .u8 0,.int .u8 0,.int .u8 0,.int .u8 0,.int .u8 0,.int .u8 0,.int .u8 0,.int .u8 0] 86)).setCells w3.heap.size 0 (netC n)).there w.heap.size 0 (netC n).toArray.size from there_of hF3.out.2.1 (by rw[List.size_toArray,netC_len _ hN.out.1.len];decide))
    have hl2:=run_loadVar_mid (P:=Tryz.prog) (((w3.alloc (.cells #[.bool false,.int .i64 0,.int .u8 0,.int .u8 0,.int .u8 0,.int .u8 0,.int .u8 0,.int .u8 0,.int .u8 0,.int .u8 0,.int .u8 0,.int .u8 0,.int .u8 0,.int .u8 0,.int .u8 0,.int .u8 0,.int .u8 0,.int .u8 0] 86)).setCells w3.heap.size 0 (netC n)).setCells w.heap.size 0 (netC n)) w.heap.size 0 86 (netC n) _
     (World.rangeAt_setCells_same _ _ _ _ (by simpa using hT.out)) Tryz.underlying86 rfl hZ.out
    refine bodyPost_ret (v:=.tuple #[netV n,.int .i64 0]) (by simp[results,Tryz.results64,asAddr,hl2,netV]) rfl ⟨by rw[H3.out,HM.out];rfl,?_⟩
    exact Bel.setCells (Nat.le_refl _) _ _ _ hF3.out.1
  ·have Hk:=hid hk
   clear hk
   have c0:wr.cell? ⟨w.heap.size+1,1,none⟩=some (.func (.func 122) #[] #[]):=by simp[World.cell?,HF.out.2.2.1]
   cases o6 with
   |none=>
    go_wp2_with fail
    refine(H6.out _ (HW.out.next HF.out.1)).mono ?_
    intro e w3 hp
    obtain⟨⟨n,hn,rfl,hno⟩,hb3⟩:=hp
    have hN:=hid (And.intro hn hno)
    have hZ:=hid (show(Tryz.prog.info? 86).map (·.size)=some (netC n).length by rw[netC_len _ hN.out.1.len];exact net_info)
    have hth:=hid (show(w3.alloc (.cells #[.bool false,.int .i64 0,.int .u8 0,.int .u8 0,.int .u8 0,.int .u8 0,.int .u8 0,.int .u8 0,.int .u8 0,.int .u8 0,.int .u8 0,.int .u8 0,.int .u8 0,.int .u8 0,.int .u8 0,.int .u8 0,.int .u8 0,.int .u8 0] 86)).there w3.heap.size 0 (netC n).toArray.size from there_of (cs:=#[.bool false,.int .i64 0,.int .u8 0,.int .u8 0,.int .u8 0,.int .u8 0,.int .u8 0,.int .u8 0,.int .u8 0,.int .u8 0,.int .u8 0,.int .u8 0,.int .u8 0,.int .u8 0,.int .u8 0,.int .u8 0,.int .u8 0,.int .u8 0].toList) (heap_alloc_new w3 _) (by rw[List.size_toArray,netC_len _ hN.out.1.len];decide))
    have hF3:=hid (show Bel w ((w3.alloc (.cells #[.bool false,.int .i64 0,.int .u8 0,.int .u8 0,.int .u8 0,.int .u8 0,.int .u8 0,.int .u8 0,.int .u8 0,.int .u8 0,.int .u8 0,.int .u8 0,.int .u8 0,.int .u8 0,.int .u8 0,.int .u8 0,.int .u8 0,.int .u8 0] 86)).setCells w3.heap.size 0 (netC n))∧((w3.alloc (.cells #[.bool false,.int .i64 0,.int .u8 0,.int .u8 0,.int .u8 0,.int .u8 0,.int .u8 0,.int .u8 0,.int .u8 0,.int .u8 0,.int .u8 0,.int .u8 0,.int .u8 0,.int .u8 0,.int .u8 0,.int .u8 0,.int .u8 0,.int .u8 0] 86)).setCells w3.heap.size 0 (netC n)).heap[w.heap.size]?=some (.cells (netC zeroN).toArray 86 (0,0))∧((w3.alloc (.cells #[.bool false,.int .i64 0,.int .u8 0,.int .u8 0,.int .u8 0,.int .u8 0,.int .u8 0,.int .u8 0,.int .u8 0,.int .u8 0,.int .u8 0,.int .u8 0,.int .u8 0,.int .u8 0,.int .u8 0,.int .u8 0,.int .u8 0,.int .u8 0] 86)).setCells w3.heap.size 0 (netC n)).heap[w.heap.size+1]?=some (.cells #[.func (.func 121) #[] #[],.func (.func 122) #[] #[]] 153 (0,0))∧((w3.alloc (.cells #[.bool false,.int .i64 0,.int .u8 0,.int .u8 0,.int .u8 0,.int .u8 0,.int .u8 0,.int .u8 0,.int .u8 0,.int .u8 0,.int .u8 0,.int .u8 0,.int .u8 0,.int .u8 0,.int .u8 0,.int .u8 0,.int .u8 0,.int .u8 0] 86)).setCells w3.heap.size 0 (netC n)).heap[w3.heap.size]?=some (.cells (netC n).toArray 86 (0,0))from by
     have hb:=((HF.out.1.trans hb3).alloc (.cells #[.bool false,.int .i64 0,.int .u8 0,.int .u8 0,.int .u8 0,.int .u8 0,.int .u8 0,.int .u8 0,.int .u8 0,.int .u8 0,.int .u8 0,.int .u8 0,.int .u8 0,.int .u8 0,.int .u8 0,.int .u8 0,.int .u8 0,.int .u8 0] 86))
     have hx:=(Bel.refl w3).alloc (.cells #[.bool false,.int .i64 0,.int .u8 0,.int .u8 0,.int .u8 0,.int .u8 0,.int .u8 0,.int .u8 0,.int .u8 0,.int .u8 0,.int .u8 0,.int .u8 0,.int .u8 0,.int .u8 0,.int .u8 0,.int .u8 0,.int .u8 0,.int .u8 0] 86)
     have l1:=(Array.getElem?_eq_some_iff.1 (hb3.heap HF.out.2.2.1)).1
     exact⟨Bel.setCells (by omega) _ _ _ hb,(heap_setCells_other _ _ (by omega) _ _ _).trans (hx.heap (hb3.heap HF.out.2.1)),(heap_setCells_other _ _ (by omega) _ _ _).trans (hx.heap (hb3.heap HF.out.2.2.1)),heap_setCells_whole (cs:=#[.bool false,.int .i64 0,.int .u8 0,.int .u8 0,.int .u8 0,.int .u8 0,.int .u8 0,.int .u8 0,.int .u8 0,.int .u8 0,.int .u8 0,.int .u8 0,.int .u8 0,.int .u8 0,.int .u8 0,.int .u8 0,.int .u8 0,.int .u8 0].toList) (heap_alloc_new w3 _) (by rw[netC_len _ hN.out.1.len];rfl)⟩)
    have H3:=HF.out.2.2.2
    have HH:=hid H3
    clear HF hb3 hn hno c0 H3
    go_wp2_with (first
     | (refine wpList_store_mid rfl 86 (.tmp 6) (.tmp 18) rfl w3.heap.size 0 (netC n).toArray rfl rfl ?_ (by rw[List.size_toArray];exact hZ.out) (netC_one _) ?_;exact hth.out))
    go_roundg (gk-1)
    case measure=>have:=Hk.out;omega
    case rel=>exact⟨1+1,by go_num,by have:=Hk.out;omega,hid ⟨hF3.out.1,hF3.out.2.1,hF3.out.2.2.1,fun _=>HH.out.1 (by decide),fun _=>(by first|rfl|trivial)⟩⟩
   |some m=>
    go_wp2_with fail
    refine(H6.out _ (HW.out.next HF.out.1)).mono ?_
    intro e w3 hp
    obtain⟨⟨n,hn,rfl,hno⟩,hb3⟩:=hp
    have hN:=hid (And.intro hn hno)
    have hZ:=hid (show(Tryz.prog.info? 86).map (·.size)=some (netC n).length by rw[netC_len _ hN.out.1.len];exact net_info)
    have hth:=hid (show(w3.alloc (.cells #[.bool false,.int .i64 0,.int .u8 0,.int .u8 0,.int .u8 0,.int .u8 0,.int .u8 0,.int .u8 0,.int .u8 0,.int .u8 0,.int .u8 0,.int .u8 0,.int .u8 0,.int .u8 0,.int .u8 0,.int .u8 0,.int .u8 0,.int .u8 0] 86)).there w3.heap.size 0 (netC n).toArray.size from there_of (cs:=#[.bool false,.int .i64 0,.int .u8 0,.int .u8 0,.int .u8 0,.int .u8 0,.int .u8 0,.int .u8 0,.int .u8 0,.int .u8 0,.int .u8 0,.int .u8 0,.int .u8 0,.int .u8 0,.int .u8 0,.int .u8 0,.int .u8 0,.int .u8 0].toList) (heap_alloc_new w3 _) (by rw[List.size_toArray,netC_len _ hN.out.1.len];decide))
    have hF3:=hid (show Bel w ((w3.alloc (.cells #[.bool false,.int .i64 0,.int .u8 0,.int .u8 0,.int .u8 0,.int .u8 0,.int .u8 0,.int .u8 0,.int .u8 0,.int .u8 0,.int .u8 0,.int .u8 0,.int .u8 0,.int .u8 0,.int .u8 0,.int .u8 0,.int .u8 0,.int .u8 0] 86)).setCells w3.heap.size 0 (netC n))∧((w3.alloc (.cells #[.bool false,.int .i64 0,.int .u8 0,.int .u8 0,.int .u8 0,.int .u8 0,.int .u8 0,.int .u8 0,.int .u8 0,.int .u8 0,.int .u8 0,.int .u8 0,.int .u8 0,.int .u8 0,.int .u8 0,.int .u8 0,.int .u8 0,.int .u8 0] 86)).setCells w3.heap.size 0 (netC n)).heap[w.heap.size]?=some (.cells (netC zeroN).toArray 86 (0,0))∧((w3.alloc (.cells #[.bool false,.int .i64 0,.int .u8 0,.int .u8 0,.int .u8 0,.int .u8 0,.int .u8 0,.int .u8 0,.int .u8 0,.int .u8 0,.int .u8 0,.int .u8 0,.int .u8 0,.int .u8 0,.int .u8 0,.int .u8 0,.int .u8 0,.int .u8 0] 86)).setCells w3.heap.size 0 (netC n)).heap[w.heap.size+1]?=some (.cells #[.func (.func 121) #[] #[],.func (.func 122) #[] #[]] 153 (0,0))∧((w3.alloc (.cells #[.bool false,.int .i64 0,.int .u8 0,.int .u8 0,.int .u8 0,.int .u8 0,.int .u8 0,.int .u8 0,.int .u8 0,.int .u8 0,.int .u8 0,.int .u8 0,.int .u8 0,.int .u8 0,.int .u8 0,.int .u8 0,.int .u8 0,.int .u8 0] 86)).setCells w3.heap.size 0 (netC n)).heap[w3.heap.size]?=some (.cells (netC n).toArray 86 (0,0))from by
     have hb:=((HF.out.1.trans hb3).alloc (.cells #[.bool false,.int .i64 0,.int .u8 0,.int .u8 0,.int .u8 0,.int .u8 0,.int .u8 0,.int .u8 0,.int .u8 0,.int .u8 0,.int .u8 0,.int .u8 0,.int .u8 0,.int .u8 0,.int .u8 0,.int .u8 0,.int .u8 0,.int .u8 0] 86))
     have hx:=(Bel.refl w3).alloc (.cells #[.bool false,.int .i64 0,.int .u8 0,.int .u8 0,.int .u8 0,.int .u8 0,.int .u8 0,.int .u8 0,.int .u8 0,.int .u8 0,.int .u8 0,.int .u8 0,.int .u8 0,.int .u8 0,.int .u8 0,.int .u8 0,.int .u8 0,.int .u8 0] 86)
     have l1:=(Array.getElem?_eq_some_iff.1 (hb3.heap HF.out.2.2.1)).1
     exact⟨Bel.setCells (by omega) _ _ _ hb,(heap_setCells_other _ _ (by omega) _ _ _).trans (hx.heap (hb3.heap HF.out.2.1)),(heap_setCells_other _ _ (by omega) _ _ _).trans (hx.heap (hb3.heap HF.out.2.2.1)),heap_setCells_whole (cs:=#[.bool false,.int .i64 0,.int .u8 0,.int .u8 0,.int .u8 0,.int .u8 0,.int .u8 0,.int .u8 0,.int .u8 0,.int .u8 0,.int .u8 0,.int .u8 0,.int .u8 0,.int .u8 0,.int .u8 0,.int .u8 0,.int .u8 0,.int .u8 0].toList) (heap_alloc_new w3 _) (by rw[netC_len _ hN.out.1.len];rfl)⟩)
    have H3:=hid (show o=some m from HO.out.trans (by rw[HF.out.2.2.2.1 (by decide)];rfl))
    have HM:=hid (hN.out.2 m rfl)
    clear HF hb3 hn hno c0
    go_wp2_with (first
     | (refine wpList_store_mid rfl 86 (.tmp 6) (.tmp 18) rfl w3.heap.size 0 (netC n).toArray rfl rfl ?_ (by rw[List.size_toArray];exact hZ.out) (netC_one _) ?_;exact hth.out)
     | (refine wpList_load_mid rfl 86 (.tmp 6) rfl w3.heap.size 0 rfl (netC n) _ ?_ Tryz.underlying86 rfl hZ.out ?_;exact range_of hF3.out.2.2.2 fun j v hv=>by simpa using hv)
     | (refine wpList_store_mid rfl 86 (.tmp 2) (.tmp 21) rfl w.heap.size 0 (netC n).toArray rfl rfl ?_ (by rw[List.size_toArray];exact hZ.out) (netC_one _) ?_;exact there_of hF3.out.2.1 (by rw[List.size_toArray,netC_len _ hN.out.1.len];decide)))
    have hT:=hid (show((w3.alloc (.cells #[.bool false,.int .i64 0,.int .u8 0,.int .u8 0,.int .u8 0,.int .u8 0,.int .u8 0,.int .u8 0,.int .u8 0,.int .u8 0,.int .u8 0,.int .u8 0,.int .u8 0,.int .u8 0,.int .u8 0,.int .u8 0,.int .u8 0,.int .u8 0] 86)).setCells w3.heap.size 0 (netC n)).there w.heap.size 0 (netC n).toArray.size from there_of hF3.out.2.1 (by rw[List.size_toArray,netC_len _ hN.out.1.len];decide))
    have hl2:=run_loadVar_mid (P:=Tryz.prog) (((w3.alloc (.cells #[.bool false,.int .i64 0,.int .u8 0,.int .u8 0,.int .u8 0,.int .u8 0,.int .u8 0,.int .u8 0,.int .u8 0,.int .u8 0,.int .u8 0,.int .u8 0,.int .u8 0,.int .u8 0,.int .u8 0,.int .u8 0,.int .u8 0,.int .u8 0] 86)).setCells w3.heap.size 0 (netC n)).setCells w.heap.size 0 (netC n)) w.heap.size 0 86 (netC n) _
     (World.rangeAt_setCells_same _ _ _ _ (by simpa using hT.out)) Tryz.underlying86 rfl hZ.out
    refine bodyPost_ret (v:=.tuple #[netV n,.int .i64 0]) (by simp[results,Tryz.results64,asAddr,hl2,netV]) rfl ⟨by rw[H3.out,HM.out];rfl,?_⟩
    exact Bel.setCells (Nat.le_refl _) _ _ _ hF3.out.1
  ·have ho:o=none:=by rw[HO.out,HF.out.2.2.2.1 (by decide),HF.out.2.2.2.2 (by decide)];rfl
   clear H4 H6 HO
   subst ho
   have hZ:=hid (show(Tryz.prog.info? 86).map (·.size)=some (netC zeroN).length by rw[netC_len _ zeroN_fits.len];exact net_info)
   have hT:=hid (show wr.there w.heap.size 0 (netC zeroN).toArray.size from there_of HF.out.2.1 (by rw[List.size_toArray];exact Nat.le_of_eq (Nat.zero_add _)))
   go_wp2_with (first
    | (refine wpList_store_mid rfl 86 (.tmp 2) (.tmp 23) rfl w.heap.size 0 (netC zeroN).toArray rfl rfl ?_ (by rw[List.size_toArray];exact hZ.out) (netC_one _) ?_;exact hT.out))
   have hl2:=run_loadVar_mid (P:=Tryz.prog) (wr.setCells w.heap.size 0 (netC zeroN)) w.heap.size 0 86 (netC zeroN) _
    (World.rangeAt_setCells_same _ _ _ _ (by simpa using hT.out)) Tryz.underlying86 rfl hZ.out
   refine bodyPost_ret (v:=.tuple #[netV zeroN,.int .i64 70]) (by simp[results,Tryz.results64,asAddr,hl2,netV]) rfl ⟨rfl,?_⟩
   exact Bel.setCells (Nat.le_refl _) _ _ _ HF.out.1
end Go.Proofs.YtmlmkmhkmifnkaaGreatDoor.Ci
namespace Go.Proofs.YtmlmkmhkmifnkaaGreatDoor.Ci
open Go.RowKit
def onlyRight(n:Nt):Option Nt:=if rightQ n then some n else none
def parseQ(s:List UInt8):Option Nt:=
 (addrQ (Lib.cut s [47]).1).bind fun n=>if(Lib.cut s [47]).2.2 then(numL (Lib.cut s [47]).2.1).bind fun k=>onlyRight {n with bits:=k}else onlyRight n
theorem allB_lt:∀(ps:List (List UInt8)) (l:List Nat),allB ps=some l→l.length=ps.length∧∀x∈l,x<256
 |[],l,h=>by
  obtain rfl:=Option.some.inj h
  exact⟨rfl,by simp⟩
 |p::ps,l,h=>by
  unfold allB at h
  split at h
  ·rename_i v vs hv hvs
   obtain rfl:=Option.some.inj h
   have ih:=allB_lt ps vs hvs
   refine⟨by simp[ih.1],fun g hg=> ?_⟩
   rcases List.mem_cons.1 hg with rfl|hg
   ·unfold byteL at hv
    split at hv
    ·split at hv
     ·rename_i hc
      have:=Option.some.inj hv
      omega
     ·cases hv
    ·cases hv
   ·exact ih.2 g hg
  ·cases h
theorem sixL_len{s:List UInt8}{gs:List Nat}(h:sixL s=some gs):gs.length=8∧∀g∈gs,g<65536:=by
 unfold sixL at h
 split at h
 ·rename_i a b ha hb
  have la:=groupsL_lt ha
  have lb:=groupsL_lt hb
  split at h
  ·split at h
   ·obtain rfl:=Option.some.inj h
    refine⟨by simp;omega,fun g hg=> ?_⟩
    rcases List.mem_append.1 hg with hg|hg
    ·rcases List.mem_append.1 hg with hg|hg
     ·exact la.2 g hg
     ·obtain⟨-,rfl⟩:=List.mem_replicate.1 hg
      decide
    ·exact lb.2 g hg
   ·cases h
  ·split at h
   ·rename_i h8
    obtain rfl:=Option.some.inj h
    exact⟨h8,la.2⟩
   ·cases h
 ·cases h
theorem addrQ_fits{s:List UInt8}{n:Nt}(h:addrQ s=some n):n.Fits∧(n.six=false→n.bits=32):=by
 unfold addrQ at h
 cases h4:fourN' s with
 |some m=>
  rw[h4]at h
  obtain rfl:=Option.some.inj h
  unfold fourN' at h4
  obtain⟨l,hl,rfl⟩:=Option.map_eq_some_iff.1 h4
  unfold fourT at hl
  split at hl
  ·rename_i h4l
   have:=allB_lt _ _ hl
   refine⟨⟨by show(-9223372036854775808:Int)≤32;decide,by show(32:Int)≤_;decide,by simp[this.1,h4l],fun x hx=> ?_⟩,fun _=>rfl⟩
   rcases List.mem_append.1 hx with hx|hx
   ·exact this.2 x hx
   ·obtain⟨-,rfl⟩:=List.mem_replicate.1 hx
    decide
  ·cases hl
 |none=>
  rw[h4]at h
  have h:sixQ s=some n:=h
  unfold sixQ at h
  obtain⟨gs,hg,rfl⟩:=Option.map_eq_some_iff.1 h
  have:=sixL_len hg
  exact⟨⟨by show(-9223372036854775808:Int)≤128;decide,by show(128:Int)≤_;decide,by show(bytesL gs).length=16;rw[bytesL_len,this.1],bytesL_lt gs this.2⟩,fun f=>by cases f⟩
end Go.Proofs.YtmlmkmhkmifnkaaGreatDoor.Ci
namespace Go.Proofs.YtmlmkmhkmifnkaaGreatDoor.Ci
open Go.RowKit
theorem wpList_push {P:Program} {a0 W:World} {ops:Array Oper} {rest:List Oper} {o:Oper} {a:Act} {Q:Exit→Act→World→Prop} (hgd:o.guard=none) (s x:Operand) (t:TypeId)
 (ho:o.op=.call {callee:=.builtin .append,args:=#[s,x],argTypes:=#[t,t]})
 (e:TypeId) (z:Value) (size bytes:Nat) (ht:P.underlying t=some (.slice e)) (hi:(P.info? e).map (fun i=>(i.zero,i.size,i.bytes))=some (some z,size,bytes)) (hzs:z.cells.size=size) (hsz:0<size)
 (v:Value) (n:Nat) (xs:List Value) (hs:a.eval s=v) (hown:W.ownsRow a0.heap.size e size v n xs) (hb:Bel a0 W)
 (c:Array Value) (hx:a.eval x=.slice (some ⟨W.heap.size,0,none⟩) 1 1) (hc:c.size=size) (h1:∀u∈c.toList,u.oneCell'=true) (hm:n+1≤maxLen) (hbytes:(n+1)*bytes≤140737488355328)
 (h:∀x' p w',w'.ownsRow a0.heap.size e size (.slice x' (n+1) p) (n+1) (xs++c.toList)→Bel a0 w'→wpList P ops Q rest (a.put o.dst (.slice x' (n+1:Nat) p)) w'):wpList P ops Q (o::rest) a (W.alloc (.cells c e)):=by
 obtain⟨i,hi,j2,j3,j4⟩:=info_parts hi
 refine wpList_append_own _ hgd s x t ho a0.heap.size e i z size bytes ht hi j2 j3 j4 hzs hsz v n xs hs (hown.alloc _) ⟨W.heap.size,0,none⟩ 1 1 c.toList hx (by rw[Array.length_toList,hc,Nat.one_mul]) ?_ h1 hm hbytes (by have:=hb.size;rw[World.size_alloc];omega) ?_
 ·intro j u hu
  rw[addr_add,Nat.zero_add]
  have e:=heap_alloc_new W (.cells c e)
  simp only[World.cell?,e]
  simpa using hu
 ·intro v' w' h2 hg _
  obtain⟨x',p,rfl,-,-⟩:=row_shape h2
  exact h x' p w' h2 ((hb.alloc _).grown hg (hown.alloc _))
def Txts(a0 W:World)(v:Value)(ps:List ByteArray):Prop:=W.ownsRow a0.heap.size 9 1 v ps.length (ps.map Value.string)
def SplitPost(c:UInt8)(s:ByteArray)(w:World)(e:Ending)(w':World):Prop:=∃v ps,e=.returned v∧Txts w w' v ps∧ps.map (·.data.toList)=splitL c s.data.toList∧Bel w w'
structure SpI (c:UInt8) (l:List UInt8) (k f:Nat) (ps:List ByteArray):Prop where
 le:f≤k
 num:ps.length≤k
 eq:ps.map (·.data.toList)++splitL c (l.drop f)=splitL c l
 not:c∉(l.drop f).take (k-f)
end Go.Proofs.YtmlmkmhkmifnkaaGreatDoor.Ci
namespace Go.Proofs.YtmlmkmhkmifnkaaGreatDoor.Ma
open Go.RowKit
open Ci (Bel own_bel row_shape addr_add)
def Byts(a0 W:World)(v:Value)(bs:List UInt8):Prop:=W.ownsRow a0.heap.size 5 1 v bs.length (bs.map fun b=>Value.int .u8 b.toNat)
theorem conv_byts{a0 W:World}{x:Option Addr}{n p:Nat}{bs:List UInt8}(h:Byts a0 W (.slice x n p) bs):(convert 48 9 (.slice x n p)).run Tryz.prog W=.ok (.string ⟨bs.toArray⟩) W:=by
 rcases h.2 with⟨e,h0⟩|⟨g,cap,cur,e,-⟩
 ·cases e
  have:bs=[]:=List.eq_nil_of_length_eq_zero h0
  subst this
  exact run_convert_bytes_nil W 48 5 Tryz.underlying48 Tryz.underlying5 0 0 9 Tryz.underlying9
 ·cases e
  refine run_convert_bytes_back W 48 9 5 ⟨g,0,none⟩ p bs Tryz.underlying48 Tryz.underlying5 Tryz.underlying9 fun j hj=> ?_
  rw[addr_add,Nat.zero_add,World.ownsRow.cellAt h j (by omega)]
  simp[hj]
structure QuI (l:List UInt8) (k:Nat) (bs:List UInt8):Prop where
 pos:1≤k
 num:bs.length≤k
 eq:quoL (l.drop 1)=(quoL (l.drop k)).map fun x=>(bs++x.1,x.2+(k-1))
theorem qmap(o:Option (List UInt8×Nat))(f:List UInt8→List UInt8)(bs cs:List UInt8)(a b c:Nat)(h:a+b=c)(hf:∀x,bs++f x=cs++x):
 ((o.map fun x=>(f x.1,x.2+a)).map fun x=>(bs++x.1,x.2+b))=o.map fun x=>(cs++x.1,x.2+c):=by
 cases o with
 |none=>rfl
 |some x=>show some (bs++f x.1,x.2+a+b)=some (cs++x.1,x.2+c);rw[hf,←h,Nat.add_assoc]
theorem QuI.skip{l:List UInt8}{k:Nat}{bs:List UInt8}(h:QuI l k bs)(hk:k<l.length)(h1:l[k]≠34)(h2:l[k]=13∨l[k]=10):QuI l (k+1) bs:=by
 have:=h.pos
 refine⟨by omega,by have:=h.num;omega,?_⟩
 rw[h.eq,drop_at hk,quoL.eq_def]
 simp only
 rw[if_neg h1,if_pos h2]
 exact qmap _ id bs bs 1 (k-1) (k+1-1) (by omega) fun x=>rfl
theorem QuI.done{l:List UInt8}{k:Nat}{bs:List UInt8}(h:QuI l k bs)(hk:k<l.length)(h1:l[k]=34):quoL (l.drop 1)=some (bs,k):=by
 have:=h.pos
 rw[h.eq,drop_at hk,quoL.eq_def]
 simp only
 rw[if_pos h1]
 show some (bs++[],1+(k-1))=_
 rw[List.append_nil]
 congr 2;omega
theorem QuI.bad{l:List UInt8}{k:Nat}{bs:List UInt8}(h:QuI l k bs)(hk:k<l.length)(h1:l[k]≠34)(h2:¬(l[k]=13∨l[k]=10))(h3:l[k]≠92)(h4:l[k].toNat<32∧l[k]≠9∨l[k]=127):quoL (l.drop 1)=none:=by
 rw[h.eq,drop_at hk,quoL.eq_def]
 simp only
 rw[if_neg h1,if_neg h2,if_neg h3,if_pos h4];rfl
theorem QuI.plain{l:List UInt8}{k:Nat}{bs:List UInt8}(h:QuI l k bs)(hk:k<l.length)(h1:l[k]≠34)(h2:¬(l[k]=13∨l[k]=10))(h3:l[k]≠92)(h4:¬(l[k].toNat<32∧l[k]≠9∨l[k]=127)):QuI l (k+1) (bs++[tab l[k]]):=by
 have:=h.pos
 refine⟨by omega,by have:=h.num;simp;omega,?_⟩
 rw[h.eq,drop_at hk,quoL.eq_def]
 simp only
 rw[if_neg h1,if_neg h2,if_neg h3,if_neg h4]
 exact qmap _ (fun x=>tab l[k]::x) bs (bs++[tab l[k]]) 1 (k-1) (k+1-1) (by omega) fun x=>by simp
theorem QuI.escEnd{l:List UInt8}{k:Nat}{bs:List UInt8}(h:QuI l k bs)(hk:k<l.length)(h3:l[k]=92)(hk2:k+1=l.length):quoL (l.drop 1)=none:=by
 rw[h.eq,drop_at hk,quoL.eq_def]
 simp only
 rw[if_neg (by rw[h3];decide),if_neg (by rw[h3];decide),if_pos h3,List.drop_eq_nil_of_le (by omega)];rfl
theorem QuI.escBad{l:List UInt8}{k:Nat}{bs:List UInt8}(h:QuI l k bs)(hk:k<l.length)(h3:l[k]=92)(hk2:k+1<l.length)(h4:l[k+1]=13∨l[k+1]=10):quoL (l.drop 1)=none:=by
 rw[h.eq,drop_at hk,quoL.eq_def]
 simp only
 rw[if_neg (by rw[h3];decide),if_neg (by rw[h3];decide),if_pos h3,drop_at hk2]
 simp only
 rw[if_pos h4];rfl
theorem QuI.esc{l:List UInt8}{k:Nat}{bs:List UInt8}(h:QuI l k bs)(hk:k<l.length)(h3:l[k]=92)(hk2:k+1<l.length)(h4:¬(l[k+1]=13∨l[k+1]=10)):QuI l (k+2) (bs++[tab l[k+1]]):=by
 have:=h.pos
 refine⟨by omega,by have:=h.num;simp;omega,?_⟩
 rw[h.eq,drop_at hk,quoL.eq_def]
 simp only
 rw[if_neg (by rw[h3];decide),if_neg (by rw[h3];decide),if_pos h3,drop_at hk2]
 simp only
 rw[if_neg h4]
 exact qmap _ (fun x=>tab l[k+1]::x) bs (bs++[tab l[k+1]]) 2 (k-1) (k+2-1) (by omega) fun x=>by simp
theorem QuI.end_{l:List UInt8}{k:Nat}{bs:List UInt8}(h:QuI l k bs)(hk:l.length≤k):quoL (l.drop 1)=none:=by
 rw[h.eq,List.drop_eq_nil_of_le hk];rfl
def quoR(l:List UInt8):List UInt8×Nat:=match quoL (l.drop 1)with
 |some x=>(x.1,x.2+1)
 |none=>([],0)
theorem tab_no{b:UInt8}(h:b≠9):tab b=b:=by unfold tab;rw[if_neg h]
theorem tab_yes{b:UInt8}(h:b=9):tab b=32:=by unfold tab;rw[if_pos h]
theorem byts_snoc{a0 W:World}{v:Value}{bs:List UInt8}{n:Nat}{b:UInt8}(h:W.ownsRow a0.heap.size 5 1 v n ((bs.map fun b=>Value.int .u8 b.toNat)++[.int .u8 b.toNat]))(hn:n=bs.length+1):Byts a0 W v (bs++[b]):=by
 subst hn
 unfold Byts
 rw[List.length_append,List.map_append]
 exact h
theorem uint8_infos:(Tryz.prog.info? 5).map (fun i=>(i.zero,i.size,i.bytes))=some (some (.int .u8 0),1,1):=by kernel_rfl
theorem quote_run(s:ByteArray)(w:World)(hs:s.size≤65536):
 Calls Tryz.prog 170 #[.string s] w fun e w'=>e=.returned (.tuple #[.string ⟨(quoR s.data.toList).1.toArray⟩,.int .i64 ((quoR s.data.toList).2:Nat)])∧Bel w w':=by
 have hl:s.data.toList.length=s.size:=by rw[Lib.size_eq]
 have HL:=hid hl
 have H0:=hid (show QuI s.data.toList 1 []from⟨Nat.le_refl _,by simp,by cases quoL (s.data.toList.drop 1)<;>rfl⟩)
 have HZ:=hid (show Byts w w (.slice none 0 0) []from World.ownsRow_nil _ _ _ _)
 clear hl
 go_enter Tryz.func170,Tryz.ntmps170
 go_wp2_with fail
 go_loopg [4,5] (s.size+1) (fun gg v4 v5 wr=>∃(bs:List UInt8) (x4:Option Addr) (p4 k:Nat),v4=.slice x4 bs.length p4∧v5=.int .i64 k∧k+gg=s.size+2∧1≤k∧k≤s.size+1∧Hid (Bel w wr∧Byts w wr (.slice x4 bs.length p4) bs∧QuI s.data.toList k bs))
 case atStart=>exact⟨[],none,0,1,rfl,rfl,by omega,by omega,by omega,hid ⟨Bel.refl w,HZ.out,H0.out⟩⟩
 case round=>
  clear H0 HZ
  obtain⟨bs,x4,p4,k,rfl,rfl,hk,hk1,hk2,H⟩:=hrel
  by_cases hlt:k<s.size
  ·skip
   have hlt':k<s.data.toList.length:=by rw[HL.out];exact hlt
   have HC:=hid (show s.data.toList[k]'hlt'=s[k]from rfl)
   by_cases h1:s[k]=34
   ·skip
    have n1:(((s[k]'hlt).toNat:Int)==34)=true:=byte_eq (n:=34) (by decide) h1
    have HX:=hid (show quoR s.data.toList=(bs,k+1) by unfold quoR;rw[H.out.2.2.done hlt' (HC.out.trans h1)])
    have hcv:=conv_byts H.out.2.1
    clear h1
    go_wp2_with fail
    go_ret2
    exact⟨by rw[HX.out];rfl,H.out.1⟩
   ·skip
    by_cases g1:s[k]=13
    ·skip
     have n1:(((s[k]'hlt).toNat:Int)==34)=false:=byte_ne (n:=34) (by decide) h1
     have n2:(((s[k]'hlt).toNat:Int)==13)=true:=byte_eq (n:=13) (by decide) g1
     have HN:=hid (show Bel w wr∧Byts w wr (.slice x4 bs.length p4) bs∧QuI s.data.toList (k+1) bs from⟨H.out.1,H.out.2.1,H.out.2.2.skip hlt' (by rw[HC.out];exact h1) (by rw[HC.out];exact(.inl g1))⟩)
     clear h1 g1 H
     go_wp2_with fail
     go_roundg (gk-1)
     case measure=>omega
     case rel=>exact⟨bs,x4,p4,k+1,rfl,by go_num,by omega,by omega,by omega,HN⟩
    ·skip
     by_cases g2:s[k]=10
     ·skip
      have n1:(((s[k]'hlt).toNat:Int)==34)=false:=byte_ne (n:=34) (by decide) h1
      have n2:(((s[k]'hlt).toNat:Int)==13)=false:=byte_ne (n:=13) (by decide) g1
      have n3:(((s[k]'hlt).toNat:Int)==10)=true:=byte_eq (n:=10) (by decide) g2
      have HN:=hid (show Bel w wr∧Byts w wr (.slice x4 bs.length p4) bs∧QuI s.data.toList (k+1) bs from⟨H.out.1,H.out.2.1,H.out.2.2.skip hlt' (by rw[HC.out];exact h1) (by rw[HC.out];exact(.inr g2))⟩)
      clear h1 g1 g2 H
      go_wp2_with fail
      go_roundg (gk-1)
      case measure=>omega
      case rel=>exact⟨bs,x4,p4,k+1,rfl,by go_num,by omega,by omega,by omega,HN⟩
     ·skip
      by_cases h3:s[k]=92
      ·skip
       clear h1 g1 g2
       by_cases h5:k+1=s.size
       ·skip
        have n1:(((s[k]'hlt).toNat:Int)==34)=false:=byte_ne (n:=34) (by decide) (by rw[h3];decide)
        have n2:(((s[k]'hlt).toNat:Int)==13)=false:=byte_ne (n:=13) (by decide) (by rw[h3];decide)
        have n3:(((s[k]'hlt).toNat:Int)==10)=false:=byte_ne (n:=10) (by decide) (by rw[h3];decide)
        have n4:(((s[k]'hlt).toNat:Int)==92)=true:=byte_eq (n:=92) (by decide) h3
        have e1:((k:Int)+1==(s.size:Int))=true:=by rw[beq_iff_eq];omega
        have HX:=hid (show quoR s.data.toList=([],0) by unfold quoR;rw[H.out.2.2.escEnd hlt' (HC.out.trans h3) (by rw[HL.out];exact h5)])
        clear h3
        go_wp2_with fail
        go_ret2
        exact⟨by rw[HX.out];rfl,H.out.1⟩
       ·skip
        have n1:(((s[k]'hlt).toNat:Int)==34)=false:=byte_ne (n:=34) (by decide) (by rw[h3];decide)
        have n2:(((s[k]'hlt).toNat:Int)==13)=false:=byte_ne (n:=13) (by decide) (by rw[h3];decide)
        have n3:(((s[k]'hlt).toNat:Int)==10)=false:=byte_ne (n:=10) (by decide) (by rw[h3];decide)
        have n4:(((s[k]'hlt).toNat:Int)==92)=true:=byte_eq (n:=92) (by decide) h3
        have hlt2:k+1<s.size:=by omega
        have hlt2':k+1<s.data.toList.length:=by rw[HL.out];exact hlt2
        have HC2:=hid (show s.data.toList[k+1]'hlt2'=s[k+1]from rfl)
        have e1:((k:Int)+1==(s.size:Int))=false:=by rw[beq_eq_false_iff_ne];omega
        by_cases h6:s[k+1]=13
        ·skip
         have m1:(((s[k+1]'hlt2).toNat:Int)==13)=true:=byte_eq (n:=13) (by decide) h6
         have HX:=hid (show quoR s.data.toList=([],0) by unfold quoR;rw[H.out.2.2.escBad hlt' (HC.out.trans h3) hlt2' (.inl (HC2.out.trans h6))])
         clear h3 h6
         go_wp2_with fail
         go_ret2
         exact⟨by rw[HX.out];rfl,H.out.1⟩
        ·skip
         by_cases h7:s[k+1]=10
         ·skip
          have m1:(((s[k+1]'hlt2).toNat:Int)==13)=false:=byte_ne (n:=13) (by decide) h6
          have m2:(((s[k+1]'hlt2).toNat:Int)==10)=true:=byte_eq (n:=10) (by decide) h7
          have HX:=hid (show quoR s.data.toList=([],0) by unfold quoR;rw[H.out.2.2.escBad hlt' (HC.out.trans h3) hlt2' (.inr (HC2.out.trans h7))])
          clear h3 h6 h7
          go_wp2_with fail
          go_ret2
          exact⟨by rw[HX.out];rfl,H.out.1⟩
         ·skip
          by_cases h9:s[k+1]=9
          ·skip
           have m1:(((s[k+1]'hlt2).toNat:Int)==13)=false:=byte_ne (n:=13) (by decide) h6
           have m2:(((s[k+1]'hlt2).toNat:Int)==10)=false:=byte_ne (n:=10) (by decide) h7
           have h8:¬(s[k+1]=13∨s[k+1]=10):=fun h=>h.elim h6 h7
           have m3:(((s[k+1]'hlt2).toNat:Int)==9)=true:=byte_eq (n:=9) (by decide) h9
           have HQ:=hid (show QuI s.data.toList (k+2) (bs++[(32:UInt8)])from(by have:=H.out.2.2.esc hlt' (HC.out.trans h3) hlt2' (by rw[HC2.out];exact h8);rw[HC2.out,tab_yes h9]at this;exact this))
           have HB:=hid H.out.2.1
           have HW:=hid H.out.1
           have hnum:=H.out.2.2.num
           clear H h3 h6 h7 h8 h9
           go_wp2_with (at_builtin;refine Ci.wpList_push (a0:=w) (W:=wr) rfl (.tmp 63) (.tmp 65) 48 rfl 5 (.int .u8 0) 1 1 Tryz.underlying48 uint8_infos rfl (by decide) (.slice x4 bs.length p4) bs.length _ rfl HB.out HW.out #[.int .u8 32] rfl rfl (by intro u hu;simp at hu;subst hu;rfl) (by unfold maxLen;omega) (by omega) ?_;intro x' p' w' hown hb)
           have HN:=hid (show Bel w w'∧Byts w w' (.slice x' (bs++[(32:UInt8)]).length p') (bs++[(32:UInt8)])∧QuI s.data.toList (k+2) (bs++[(32:UInt8)])from⟨hb,byts_snoc (by rw[List.length_append];exact hown) rfl,HQ.out⟩)
           clear HQ HB HW hown hb
           go_wp2_with fail
           go_roundg (gk-2)
           case measure=>omega
           case rel=>exact⟨bs++[(32:UInt8)],x',p',k+2,by rw[List.length_append];rfl,by go_num,by omega,by omega,by omega,HN⟩
          ·skip
           have m1:(((s[k+1]'hlt2).toNat:Int)==13)=false:=byte_ne (n:=13) (by decide) h6
           have m2:(((s[k+1]'hlt2).toNat:Int)==10)=false:=byte_ne (n:=10) (by decide) h7
           have h8:¬(s[k+1]=13∨s[k+1]=10):=fun h=>h.elim h6 h7
           have m3:(((s[k+1]'hlt2).toNat:Int)==9)=false:=byte_ne (n:=9) (by decide) h9
           have HQ:=hid (show QuI s.data.toList (k+2) (bs++[s[k+1]])from(by have:=H.out.2.2.esc hlt' (HC.out.trans h3) hlt2' (by rw[HC2.out];exact h8);rw[HC2.out,tab_no h9]at this;exact this))
           have HB:=hid H.out.2.1
           have HW:=hid H.out.1
           have hnum:=H.out.2.2.num
           clear H h3 h6 h7 h8 h9
           go_wp2_with (at_builtin;refine Ci.wpList_push (a0:=w) (W:=wr) rfl (.tmp 63) (.tmp 65) 48 rfl 5 (.int .u8 0) 1 1 Tryz.underlying48 uint8_infos rfl (by decide) (.slice x4 bs.length p4) bs.length _ rfl HB.out HW.out #[.int .u8 (s[k+1]).toNat] rfl rfl (by intro u hu;simp at hu;subst hu;rfl) (by unfold maxLen;omega) (by omega) ?_;intro x' p' w' hown hb)
           have HN:=hid (show Bel w w'∧Byts w w' (.slice x' (bs++[s[k+1]]).length p') (bs++[s[k+1]])∧QuI s.data.toList (k+2) (bs++[s[k+1]])from⟨hb,byts_snoc (by rw[List.length_append];exact hown) rfl,HQ.out⟩)
           clear HQ HB HW hown hb
           go_wp2_with fail
           go_roundg (gk-2)
           case measure=>omega
           case rel=>exact⟨bs++[s[k+1]],x',p',k+2,by rw[List.length_append];rfl,by go_num,by omega,by omega,by omega,HN⟩
      ·skip
       by_cases h4:s[k]=9
       ·skip
        have h9:s[k].toNat=9:=by rw[h4];rfl
        have n1:(((s[k]'hlt).toNat:Int)==34)=false:=byte_ne (n:=34) (by decide) h1
        have n2:(((s[k]'hlt).toNat:Int)==13)=false:=byte_ne (n:=13) (by decide) g1
        have n3:(((s[k]'hlt).toNat:Int)==10)=false:=byte_ne (n:=10) (by decide) g2
        have n4:(((s[k]'hlt).toNat:Int)==92)=false:=byte_ne (n:=92) (by decide) h3
        have h2:¬(s[k]=13∨s[k]=10):=fun h=>h.elim g1 g2
        have n6:(((s[k]'hlt).toNat:Int)==9)=true:=byte_eq (n:=9) (by decide) h4
        have n5:decide (((s[k]'hlt).toNat:Int)<32)=true:=decide_eq_true (by omega)
        have n7:(((s[k]'hlt).toNat:Int)==127)=false:=byte_ne (n:=127) (by decide) (by rw[h4];decide)
        have HQ:=hid (show QuI s.data.toList (k+1) (bs++[(32:UInt8)])from(by have:=H.out.2.2.plain hlt' (by rw[HC.out];exact h1) (by rw[HC.out];exact h2) (by rw[HC.out];exact h3) (by rw[HC.out];exact(by rw[h4];decide));rw[HC.out,tab_yes h4]at this;exact this))
        have HB:=hid H.out.2.1
        have HW:=hid H.out.1
        have hnum:=H.out.2.2.num
        clear H h9 h1 h2 h3 h4 g1 g2
        go_wp2_with (at_builtin;refine Ci.wpList_push (a0:=w) (W:=wr) rfl (.tmp 63) (.tmp 65) 48 rfl 5 (.int .u8 0) 1 1 Tryz.underlying48 uint8_infos rfl (by decide) (.slice x4 bs.length p4) bs.length _ rfl HB.out HW.out #[.int .u8 32] rfl rfl (by intro u hu;simp at hu;subst hu;rfl) (by unfold maxLen;omega) (by omega) ?_;intro x' p' w' hown hb)
        have HN:=hid (show Bel w w'∧Byts w w' (.slice x' (bs++[(32:UInt8)]).length p') (bs++[(32:UInt8)])∧QuI s.data.toList (k+1) (bs++[(32:UInt8)])from⟨hb,byts_snoc (by rw[List.length_append];exact hown) rfl,HQ.out⟩)
        clear HQ HB HW hown hb
        go_wp2_with fail
        go_roundg (gk-1)
        case measure=>omega
        case rel=>exact⟨bs++[(32:UInt8)],x',p',k+1,by rw[List.length_append];rfl,by go_num,by omega,by omega,by omega,HN⟩
       ·skip
        by_cases h5:s[k].toNat<32
        ·skip
         have n1:(((s[k]'hlt).toNat:Int)==34)=false:=byte_ne (n:=34) (by decide) h1
         have n2:(((s[k]'hlt).toNat:Int)==13)=false:=byte_ne (n:=13) (by decide) g1
         have n3:(((s[k]'hlt).toNat:Int)==10)=false:=byte_ne (n:=10) (by decide) g2
         have n4:(((s[k]'hlt).toNat:Int)==92)=false:=byte_ne (n:=92) (by decide) h3
         have h2:¬(s[k]=13∨s[k]=10):=fun h=>h.elim g1 g2
         have n6:(((s[k]'hlt).toNat:Int)==9)=false:=byte_ne (n:=9) (by decide) h4
         have n5:decide (((s[k]'hlt).toNat:Int)<32)=true:=decide_eq_true (by omega)
         have HX:=hid (show quoR s.data.toList=([],0) by unfold quoR;rw[H.out.2.2.bad hlt' (by rw[HC.out];exact h1) (by rw[HC.out];exact h2) (by rw[HC.out];exact h3) (by rw[HC.out];exact(.inl ⟨h5,h4⟩))])
         clear h1 h2 h3 h4 g1 g2 h5
         go_wp2_with fail
         go_ret2
         exact⟨by rw[HX.out];rfl,H.out.1⟩
        ·skip
         by_cases h6:s[k]=127
         ·skip
          have n1:(((s[k]'hlt).toNat:Int)==34)=false:=byte_ne (n:=34) (by decide) h1
          have n2:(((s[k]'hlt).toNat:Int)==13)=false:=byte_ne (n:=13) (by decide) g1
          have n3:(((s[k]'hlt).toNat:Int)==10)=false:=byte_ne (n:=10) (by decide) g2
          have n4:(((s[k]'hlt).toNat:Int)==92)=false:=byte_ne (n:=92) (by decide) h3
          have h2:¬(s[k]=13∨s[k]=10):=fun h=>h.elim g1 g2
          have n6:(((s[k]'hlt).toNat:Int)==9)=false:=byte_ne (n:=9) (by decide) h4
          have n5:decide (((s[k]'hlt).toNat:Int)<32)=false:=decide_eq_false (by omega)
          have n7:(((s[k]'hlt).toNat:Int)==127)=true:=byte_eq (n:=127) (by decide) h6
          have HX:=hid (show quoR s.data.toList=([],0) by unfold quoR;rw[H.out.2.2.bad hlt' (by rw[HC.out];exact h1) (by rw[HC.out];exact h2) (by rw[HC.out];exact h3) (by rw[HC.out];exact(.inr h6))])
          clear h1 h2 h3 h4 g1 g2 h5 h6
          go_wp2_with fail
          go_ret2
          exact⟨by rw[HX.out];rfl,H.out.1⟩
         ·skip
          have n1:(((s[k]'hlt).toNat:Int)==34)=false:=byte_ne (n:=34) (by decide) h1
          have n2:(((s[k]'hlt).toNat:Int)==13)=false:=byte_ne (n:=13) (by decide) g1
          have n3:(((s[k]'hlt).toNat:Int)==10)=false:=byte_ne (n:=10) (by decide) g2
          have n4:(((s[k]'hlt).toNat:Int)==92)=false:=byte_ne (n:=92) (by decide) h3
          have h2:¬(s[k]=13∨s[k]=10):=fun h=>h.elim g1 g2
          have n6:(((s[k]'hlt).toNat:Int)==9)=false:=byte_ne (n:=9) (by decide) h4
          have n5:decide (((s[k]'hlt).toNat:Int)<32)=false:=decide_eq_false (by omega)
          have n7:(((s[k]'hlt).toNat:Int)==127)=false:=byte_ne (n:=127) (by decide) h6
          have HQ:=hid (show QuI s.data.toList (k+1) (bs++[s[k]])from(by have:=H.out.2.2.plain hlt' (by rw[HC.out];exact h1) (by rw[HC.out];exact h2) (by rw[HC.out];exact h3) (by rw[HC.out];exact(fun h=>h.elim (fun h=>h5 h.1) h6));rw[HC.out,tab_no h4]at this;exact this))
          have HB:=hid H.out.2.1
          have HW:=hid H.out.1
          have hnum:=H.out.2.2.num
          clear H h1 h2 h3 h4 g1 g2 h5 h6
          go_wp2_with (at_builtin;refine Ci.wpList_push (a0:=w) (W:=wr) rfl (.tmp 63) (.tmp 65) 48 rfl 5 (.int .u8 0) 1 1 Tryz.underlying48 uint8_infos rfl (by decide) (.slice x4 bs.length p4) bs.length _ rfl HB.out HW.out #[.int .u8 (s[k]).toNat] rfl rfl (by intro u hu;simp at hu;subst hu;rfl) (by unfold maxLen;omega) (by omega) ?_;intro x' p' w' hown hb)
          have HN:=hid (show Bel w w'∧Byts w w' (.slice x' (bs++[s[k]]).length p') (bs++[s[k]])∧QuI s.data.toList (k+1) (bs++[s[k]])from⟨hb,byts_snoc (by rw[List.length_append];exact hown) rfl,HQ.out⟩)
          clear HQ HB HW hown hb
          go_wp2_with fail
          go_roundg (gk-1)
          case measure=>omega
          case rel=>exact⟨bs++[s[k]],x',p',k+1,by rw[List.length_append];rfl,by go_num,by omega,by omega,by omega,HN⟩
  ·have HX:=hid (show quoR s.data.toList=([],0) by unfold quoR;rw[H.out.2.2.end_ (by rw[HL.out];omega)])
   go_wp2_with fail
   go_ret2
   exact⟨by rw[HX.out];rfl,H.out.1⟩
end Go.Proofs.YtmlmkmhkmifnkaaGreatDoor.Ma
namespace Go.Proofs.YtmlmkmhkmifnkaaGreatDoor.Ma
open Go.RowKit
open Ci (Bel own_bel row_shape addr_add)
theorem one_pos{l:List UInt8}{n:Nat}{x:Option (UInt8×List UInt8)}(h:one l=some (n,x)):0<n∧n≤l.length:=by
 obtain⟨c,t,rfl,rfl,h1,_⟩:=one_sound l n x h
 exact⟨h1,by simp⟩
theorem cutL_fuel:∀(f g k:Nat) (l:List UInt8),l.length<f→l.length<g→cutL f k l=cutL g k l
 |0,_,_,_,h,_=>absurd h (by omega)
 |_+1,0,_,_,_,h=>absurd h (by omega)
 |f+1,g+1,k,[],_,_=>rfl
 |f+1,g+1,k,c::t,h1,h2=>by
  rw[cutL,cutL]
  rcases h:one (c::t)with _|⟨n,_|⟨kd,x⟩⟩
  ·rfl
  ·have hp:=one_pos h
   exact cutL_fuel f g _ _ (by rw[List.length_drop];omega) (by rw[List.length_drop];omega)
  ·have hp:=one_pos h
   simp only
   rw[cutL_fuel f g (k+n) ((c::t).drop n) (by rw[List.length_drop];omega) (by rw[List.length_drop];omega)]
def cutX(k:Nat)(l:List UInt8):Option (List Tk):=cutL (l.length+1) k l
theorem cutX_skip{k n:Nat}{l:List UInt8}(h:one l=some (n,none)):cutX k l=cutX (k+n) (l.drop n):=by
 have hp:=one_pos h
 cases l with
 |nil=>simp[one]at h
 |cons c t=>
  unfold cutX
  rw[cutL]
  simp only[h]
  exact cutL_fuel _ _ _ _ (by rw[List.length_drop];omega) (by omega)
theorem cutX_tok{k n:Nat}{l:List UInt8}{kd:UInt8}{x:List UInt8}(h:one l=some (n,some (kd,x))):cutX k l=(cutX (k+n) (l.drop n)).map fun T=>⟨kd,x,k,k+n⟩::T:=by
 have hp:=one_pos h
 cases l with
 |nil=>simp[one]at h
 |cons c t=>
  unfold cutX
  rw[cutL]
  simp only[h]
  rw[cutL_fuel (c::t).length _ _ _ (by rw[List.length_drop];omega) (Nat.lt_succ_self _)]
theorem cutX_bad{k:Nat}{l:List UInt8}(h:one l=none)(hl:l≠[]):cutX k l=none:=by
 cases l with
 |nil=>exact absurd rfl hl
 |cons c t=>
  unfold cutX
  rw[cutL]
  simp only[h]
structure CuI (l:List UInt8) (k:Nat) (T:List Tk):Prop where
 le:k≤l.length
 num:T.length≤k
 eq:cutX 0 l=(cutX k (l.drop k)).map fun U=>T++U
theorem CuI.zero(l:List UInt8):CuI l 0 []:=⟨Nat.zero_le _,Nat.le_refl _,by rw[List.drop_zero];cases cutX 0 l<;>rfl⟩
theorem CuI.skip{l:List UInt8}{k n:Nat}{T:List Tk}(h:CuI l k T)(h1:one (l.drop k)=some (n,none)):CuI l (k+n) T:=by
 have hp:=one_pos h1
 rw[List.length_drop]at hp
 have:=h.le
 refine⟨by omega,by have:=h.num;omega,?_⟩
 rw[h.eq,cutX_skip h1,List.drop_drop]
theorem CuI.tok{l:List UInt8}{k n:Nat}{T:List Tk}{kd:UInt8}{x:List UInt8}(h:CuI l k T)(h1:one (l.drop k)=some (n,some (kd,x))):CuI l (k+n) (T++[⟨kd,x,k,k+n⟩]):=by
 have hp:=one_pos h1
 rw[List.length_drop]at hp
 have:=h.le
 refine⟨by omega,by have:=h.num;simp;omega,?_⟩
 rw[h.eq,cutX_tok h1,List.drop_drop]
 cases cutX (k+n) (l.drop (k+n))with
 |none=>rfl
 |some U=>simp
theorem CuI.bad{l:List UInt8}{k:Nat}{T:List Tk}(h:CuI l k T)(hk:k<l.length)(h1:one (l.drop k)=none):cutQ l=none:=by
 show cutX 0 l=none
 rw[h.eq,cutX_bad h1 (by intro e;have:=congrArg List.length e;rw[List.length_drop]at this;simp at this;omega)]
 rfl
theorem CuI.end_{l:List UInt8}{k:Nat}{T:List Tk}(h:CuI l k T)(hk:k=l.length):cutQ l=some (T++[⟨101,[],k,k⟩]):=by
 show cutX 0 l=_
 rw[h.eq,hk,List.drop_length]
 rfl
section
variable {l:List UInt8} {k:Nat}
theorem one_at(hk:k<l.length):one (l.drop k)=one (l[k]::l.drop (k+1)):=by rw[drop_at hk]
theorem one_bl(hk:k<l.length)(h:blB l[k]=true):one (l.drop k)=some (1,none):=by rw[one_at hk,one,if_pos h]
theorem one_cm(hk:k<l.length)(h:l[k]=40):one (l.drop k)=(cmtL (l.drop k) 0).map fun n=>(n,none):=by
 rw[one_at hk,one,if_neg (by rw[h];decide),if_pos h,drop_at hk]
theorem one_qu(hk:k<l.length)(h:l[k]=34):one (l.drop k)=(quoL ((l.drop k).drop 1)).map fun x=>(x.2+1,some (113,x.1)):=by
 rw[one_at hk,one,if_neg (by rw[h];decide),if_neg (by rw[h];decide),if_pos h,drop_at hk];rfl
theorem one_br(hk:k<l.length)(h:l[k]=91):one (l.drop k)=(brkL ((l.drop k).drop 1)).map fun n=>(n+1,some (108,(l.drop k).take (n+1))):=by
 rw[one_at hk,one,if_neg (by rw[h];decide),if_neg (by rw[h];decide),if_neg (by rw[h];decide),if_pos h,drop_at hk];rfl
theorem one_sg(hk:k<l.length)(h:sgB l[k]=true):one (l.drop k)=some (1,some (l[k],[])):=by
 obtain⟨h1,h2,h3,h4,h5,_⟩:=sg_ne h
 rw[one_at hk,one,if_neg (by simp[h2]),if_neg h3,if_neg h4,if_neg h5,if_pos h]
theorem one_else(hk:k<l.length)(h1:blB l[k]=false)(h2:l[k]≠40)(h3:l[k]≠34)(h4:l[k]≠91)(h5:sgB l[k]=false):
 one (l.drop k)=if atN (l.drop k)=0 then none else some (atN (l.drop k),some (97,(l.drop k).take (atN (l.drop k)))):=by
 rw[one_at hk,one,if_neg (by simp[h1]),if_neg h2,if_neg h3,if_neg h4,if_neg (by simp[h5]),drop_at hk]
 by_cases h:atB l[k]=true
 ·rw[if_pos h,atN,if_pos h,if_neg (by omega)]
 ·rw[if_neg h,atN,if_neg h,if_pos rfl]
end
def tkC(t:Tk):List Value:=[.int .u8 t.kind.toNat,.string ⟨t.text.toArray⟩,.int .i64 t.from_,.int .i64 t.til]
def tkCs(T:List Tk):List Value:=T.flatMap tkC
def Toks(a0 W:World)(v:Value)(T:List Tk):Prop:=W.ownsRow a0.heap.size 218 4 v T.length (tkCs T)
theorem Toks.next{a0 W W':World}{v:Value}{T:List Tk}(h:Toks a0 W v T)(hb:Bel W W'):Toks a0 W' v T:=own_bel h hb
theorem tkCs_snoc(T:List Tk)(t:Tk):tkCs (T++[t])=tkCs T++tkC t:=by unfold tkCs;rw[List.flatMap_append];simp
theorem tok_infos:(Tryz.prog.info? 218).map (fun i=>(i.zero,i.size,i.bytes))=some (some (.agg #[.int .u8 0,.string ⟨#[]⟩,.int .i64 0,.int .i64 0]),4,40):=by kernel_rfl
def CutPost(s:ByteArray)(w:World)(e:Ending)(w':World):Prop:=∃v,e=.returned (.tuple #[v,.bool (cutQ s.data.toList).isSome])∧Bel w w'∧match cutQ s.data.toList with
 |none=>v=.slice none 0 0
 |some T=>Toks w w' v T
end Go.Proofs.YtmlmkmhkmifnkaaGreatDoor.Ma