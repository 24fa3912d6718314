import Derived.Test.YtmlmkmhkmifnkaaGreatDoorM05
import Derived.Laws.BytesArg
set_option maxHeartbeats 16000000
set_option maxRecDepth 1000000
namespace Go.Proofs.YtmlmkmhkmifnkaaGreatDoor.Ci
open Go.RowKit
def zeroN:Nt:=⟨false,0,List.replicate 16 0⟩
theorem zeroN_fits:zeroN.Fits:=⟨by decide,by decide,rfl,fun x hx=>by obtain⟨-,rfl⟩:=List.mem_replicate.1 hx;decide⟩
def fourN'(s:List UInt8):Option Nt:=(fourT s).map fun l=>⟨false,32,l++List.replicate 12 0⟩
def addrQ(s:List UInt8):Option Nt:=(fourN' s).or (sixQ s)
def errQ(o:Option Nt):Int:=if o.isSome then 0 else 70
theorem addr_run(s:ByteArray)(w:World)(hw:Lay w)(hs:s.size<4294967281):
 Calls Tryz.prog 64 #[.string s] w fun e w'=>e=.returned (.tuple #[netV ((addrQ s.data.toList).getD zeroN),.int .i64 (errQ (addrQ s.data.toList))])∧Bel w w':=by
 have H4:=(show Hid (∀W,Lay W→Calls Tryz.prog 121 #[.string s] W (NetPost (fourN' s.data.toList) W))from fun W hW=>by unfold fourN';rw[←fourQ_eq];exact four_run s W hW hs)
 have H6:=(show Hid (∀W,Lay W→Calls Tryz.prog 122 #[.string s] W (NetPost (sixQ s.data.toList) W))from fun W hW=>six_run s W hW hs)
 have hq:addrQ s.data.toList=(fourN' s.data.toList).or (sixQ s.data.toList):=rfl
 generalize addrQ s.data.toList=o at hq⊢
 generalize fourN' s.data.toList=o4 at H4 hq
 generalize sixQ s.data.toList=o6 at H6 hq
 have HO:=hid hq
 have HW:=hid hw
 clear hq hw
 go_enter Tryz.func64,Tryz.ntmps64
 go_wp2_with fail
 have H0:=hid (show Bel w ((w.alloc (.cells #[.bool false,.int .i64 0,.int .u8 0,.int .u8 0,.int .u8 0,.int .u8 0,.int .u8 0,.int .u8 0,.int .u8 0,.int .u8 0,.int .u8 0,.int .u8 0,.int .u8 0,.int .u8 0,.int .u8 0,.int .u8 0,.int .u8 0,.int .u8 0] 86)).alloc (.cells #[.func (.func 121) #[] #[],.func (.func 122) #[] #[]] 153))∧
  ((w.alloc (.cells #[.bool false,.int .i64 0,.int .u8 0,.int .u8 0,.int .u8 0,.int .u8 0,.int .u8 0,.int .u8 0,.int .u8 0,.int .u8 0,.int .u8 0,.int .u8 0,.int .u8 0,.int .u8 0,.int .u8 0,.int .u8 0,.int .u8 0,.int .u8 0] 86)).alloc (.cells #[.func (.func 121) #[] #[],.func (.func 122) #[] #[]] 153)).heap[w.heap.size]?=some (.cells (netC zeroN).toArray 86 (0,0))∧
  ((w.alloc (.cells #[.bool false,.int .i64 0,.int .u8 0,.int .u8 0,.int .u8 0,.int .u8 0,.int .u8 0,.int .u8 0,.int .u8 0,.int .u8 0,.int .u8 0,.int .u8 0,.int .u8 0,.int .u8 0,.int .u8 0,.int .u8 0,.int .u8 0,.int .u8 0] 86)).alloc (.cells #[.func (.func 121) #[] #[],.func (.func 122) #[] #[]] 153)).heap[w.heap.size+1]?=some (.cells #[.func (.func 121) #[] #[],.func (.func 122) #[] #[]] 153 (0,0))∧(0<0→o4=none)∧(1<0→o6=none)from
  ⟨((Bel.refl w).alloc _).alloc _,(Below.heap_alloc _ _ _ (by simp)).trans (heap_alloc_new w _),alloc_second w _ _,fun f=>(by omega),fun f=>(by omega)⟩)
 go_loopg [10] 2 (fun gg v10 wr=>∃k:Nat,v10=.int .i64 k∧k+gg=2∧Hid (Bel w wr∧wr.heap[w.heap.size]?=some (.cells (netC zeroN).toArray 86 (0,0))∧wr.heap[w.heap.size+1]?=some (.cells #[.func (.func 121) #[] #[],.func (.func 122) #[] #[]] 153 (0,0))∧(0<k→o4=none)∧(1<k→o6=none)))
 case atStart=>exact⟨0,rfl,by omega,H0⟩
 case round=>
  obtain⟨k,rfl,hk,HF⟩:=hrel
  clear H0
  rcases(by omega:k=0∨k=1∨k=2)with rfl|rfl|rfl
  ·have Hk:=hid hk
   clear hk
   have c0:wr.cell? ⟨w.heap.size+1,0,none⟩=some (.func (.func 121) #[] #[]):=by simp[World.cell?,HF.out.2.2.1]
   cases o4 with
   |none=>
    go_wp2_with fail
    refine(H4.out _ (HW.out.next HF.out.1)).mono ?_
    intro e w3 hp
    obtain⟨⟨n,hn,rfl,hno⟩,hb3⟩:=hp
    have hN:=hid (And.intro hn hno)
    have hZ:=hid (show(Tryz.prog.info? 86).map (·.size)=some (netC n).length by rw[netC_len _ hN.out.1.len];exact net_info)
    have hth:=hid (show(w3.alloc (.cells #[.bool false,.int .i64 0,.int .u8 0,.int .u8 0,.int .u8 0,.int .u8 0,.int .u8 0,.int .u8 0,.int .u8 0,.int .u8 0,.int .u8 0,.int .u8 0,.int .u8 0,.int .u8 0,.int .u8 0,.int .u8 0,.int .u8 0,.int .u8 0] 86)).there w3.heap.size 0 (netC n).toArray.size from there_of (cs:=#[.bool false,.int .i64 0,.int .u8 0,.int .u8 0,.int .u8 0,.int .u8 0,.int .u8 0,.int .u8 0,.int .u8 0,.int .u8 0,.int .u8 0,.int .u8 0,.int .u8 0,.int .u8 0,.int .u8 0,.int .u8 0,.int .u8 0,.int .u8 0].toList) (heap_alloc_new w3 _) (by rw[List.size_toArray,netC_len _ hN.out.1.len];decide))
    have hF3:=hid (show Bel w ((w3.alloc (.cells #[.bool false,.int .i64 0,.int .u8 0,.int .u8 0,.int .u8 0,.int .u8 0,.int .u8 0,.int .u8 0,.int .u8 0,.int .u8 0,.int .u8 0,.int .u8 0,.int .u8 0,.int .u8 0,.int .u8 0,.int .u8 0,.int .u8 0,.int .u8 0] 86)).setCells w3.heap.size 0 (netC n))∧((w3.alloc (.cells #[.bool false,.int .i64 0,.int .u8 0,.int .u8 0,.int .u8 0,.int .u8 0,.int .u8 0,.int .u8 0,.int .u8 0,.int .u8 0,.int .u8 0,.int .u8 0,.int .u8 0,.int .u8 0,.int .u8 0,.int .u8 0,.int .u8 0,.int .u8 0] 86)).setCells w3.heap.size 0 (netC n)).heap[w.heap.size]?=some (.cells (netC zeroN).toArray 86 (0,0))∧((w3.alloc (.cells #[.bool false,.int .i64 0,.int .u8 0,.int .u8 0,.int .u8 0,.int .u8 0,.int .u8 0,.int .u8 0,.int .u8 0,.int .u8 0,.int .u8 0,.int .u8 0,.int .u8 0,.int .u8 0,.int .u8 0,.int .u8 0,.int .u8 0,.int .u8 0] 86)).setCells w3.heap.size 0 (netC n)).heap[w.heap.size+1]?=some (.cells #[.func (.func 121) #[] #[],.func (.func 122) #[] #[]] 153 (0,0))∧((w3.alloc (.cells #[.bool false,.int .i64 0,.int .u8 0,.int .u8 0,.int .u8 0,.int .u8 0,.int .u8 0,.int .u8 0,.int .u8 0,.int .u8 0,.int .u8 0,.int .u8 0,.int .u8 0,.int .u8 0,.int .u8 0,.int .u8 0,.int .u8 0,.int .u8 0] 86)).setCells w3.heap.size 0 (netC n)).heap[w3.heap.size]?=some (.cells (netC n).toArray 86 (0,0))from by
     have hb:=((HF.out.1.trans hb3).alloc (.cells #[.bool false,.int .i64 0,.int .u8 0,.int .u8 0,.int .u8 0,.int .u8 0,.int .u8 0,.int .u8 0,.int .u8 0,.int .u8 0,.int .u8 0,.int .u8 0,.int .u8 0,.int .u8 0,.int .u8 0,.int .u8 0,.int .u8 0,.int .u8 0] 86))
     have hx:=(Bel.refl w3).alloc (.cells #[.bool false,.int .i64 0,.int .u8 0,.int .u8 0,.int .u8 0,.int .u8 0,.int .u8 0,.int .u8 0,.int .u8 0,.int .u8 0,.int .u8 0,.int .u8 0,.int .u8 0,.int .u8 0,.int .u8 0,.int .u8 0,.int .u8 0,.int .u8 0] 86)
     have l1:=(Array.getElem?_eq_some_iff.1 (hb3.heap HF.out.2.2.1)).1
     exact⟨Bel.setCells (by omega) _ _ _ hb,(heap_setCells_other _ _ (by omega) _ _ _).trans (hx.heap (hb3.heap HF.out.2.1)),(heap_setCells_other _ _ (by omega) _ _ _).trans (hx.heap (hb3.heap HF.out.2.2.1)),heap_setCells_whole (cs:=#[.bool false,.int .i64 0,.int .u8 0,.int .u8 0,.int .u8 0,.int .u8 0,.int .u8 0,.int .u8 0,.int .u8 0,.int .u8 0,.int .u8 0,.int .u8 0,.int .u8 0,.int .u8 0,.int .u8 0,.int .u8 0,.int .u8 0,.int .u8 0].toList) (heap_alloc_new w3 _) (by rw[netC_len _ hN.out.1.len];rfl)⟩)
    have H3:=HF.out.2.2.2
    have HH:=hid H3
    clear HF hb3 hn hno c0 H3
    go_wp2_with (first
     | (refine wpList_store_mid rfl 86 (.tmp 6) (.tmp 18) rfl w3.heap.size 0 (netC n).toArray rfl rfl ?_ (by rw[List.size_toArray];exact hZ.out) (netC_one _) ?_;exact hth.out))
    go_roundg (gk-1)
    case measure=>have:=Hk.out;omega
    case rel=>exact⟨0+1,by go_num,by have:=Hk.out;omega,hid ⟨hF3.out.1,hF3.out.2.1,hF3.out.2.2.1,fun _=>(by first|rfl|trivial),fun f=>(by omega)⟩⟩
   |some m=>
    go_wp2_with fail
    refine(H4.out _ (HW.out.next HF.out.1)).mono ?_
    intro e w3 hp
    obtain⟨⟨n,hn,rfl,hno⟩,hb3⟩:=hp
    have hN:=hid (And.intro hn hno)
    have hZ:=hid (show(Tryz.prog.info? 86).map (·.size)=some (netC n).length by rw[netC_len _ hN.out.1.len];exact net_info)
    have hth:=hid (show(w3.alloc (.cells #[.bool false,.int .i64 0,.int .u8 0,.int .u8 0,.int .u8 0,.int .u8 0,.int .u8 0,.int .u8 0,.int .u8 0,.int .u8 0,.int .u8 0,.int .u8 0,.int .u8 0,.int .u8 0,.int .u8 0,.int .u8 0,.int .u8 0,.int .u8 0] 86)).there w3.heap.size 0 (netC n).toArray.size from there_of (cs:=#[.bool false,.int .i64 0,.int .u8 0,.int .u8 0,.int .u8 0,.int .u8 0,.int .u8 0,.int .u8 0,.int .u8 0,.int .u8 0,.int .u8 0,.int .u8 0,.int .u8 0,.int .u8 0,.int .u8 0,.int .u8 0,.int .u8 0,.int .u8 0].toList) (heap_alloc_new w3 _) (by rw[List.size_toArray,netC_len _ hN.out.1.len];decide))
    have hF3:=hid (show Bel w ((w3.alloc (.cells #[.bool false,.int .i64 0,.int .u8 0,.int .u8 0,.int .u8 0,.int .u8 0,.int .u8 0,.int .u8 0,.int .u8 0,.int .u8 0,.int .u8 0,.int .u8 0,.int .u8 0,.int .u8 0,.int .u8 0,.int .u8 0,.int .u8 0,.int .u8 0] 86)).setCells w3.heap.size 0 (netC n))∧((w3.alloc (.cells #[.bool false,.int .i64 0,.int .u8 0,.int .u8 0,.int .u8 0,.int .u8 0,.int .u8 0,.int .u8 0,.int .u8 0,.int .u8 0,.int .u8 0,.int .u8 0,.int .u8 0,.int .u8 0,.int .u8 0,.int .u8 0,.int .u8 0,.int .u8 0] 86)).setCells w3.heap.size 0 (netC n)).heap[w.heap.size]?=some (.cells (netC zeroN).toArray 86 (0,0))∧((w3.alloc (.cells #[.bool false,.int .i64 0,.int .u8 0,.int .u8 0,.int .u8 0,.int .u8 0,.int .u8 0,.int .u8 0,.int .u8 0,.int .u8 0,.int .u8 0,.int .u8 0,.int .u8 0,.int .u8 0,.int .u8 0,.int .u8 0,.int .u8 0,.int .u8 0] 86)).setCells w3.heap.size 0 (netC n)).heap[w.heap.size+1]?=some (.cells #[.func (.func 121) #[] #[],.func (.func 122) #[] #[]] 153 (0,0))∧((w3.alloc (.cells #[.bool false,.int .i64 0,.int .u8 0,.int .u8 0,.int .u8 0,.int .u8 0,.int .u8 0,.int .u8 0,.int .u8 0,.int .u8 0,.int .u8 0,.int .u8 0,.int .u8 0,.int .u8 0,.int .u8 0,.int .u8 0,.int .u8 0,.int .u8 0] 86)).setCells w3.heap.size 0 (netC n)).heap[w3.heap.size]?=some (.cells (netC n).toArray 86 (0,0))from by
     have hb:=((HF.out.1.trans hb3).alloc (.cells #[.bool false,.int .i64 0,.int .u8 0,.int .u8 0,.int .u8 0,.int .u8 0,.int .u8 0,.int .u8 0,.int .u8 0,.int .u8 0,.int .u8 0,.int .u8 0,.int .u8 0,.int .u8 0,.int .u8 0,.int .u8 0,.int .u8 0,.int .u8 0] 86))
     have hx:=(Bel.refl w3).alloc (.cells #[.bool false,.int .i64 0,.int .u8 0,.int .u8 0,.int .u8 0,.int .u8 0,.int .u8 0,.int .u8 0,.int .u8 0,.int .u8 0,.int .u8 0,.int .u8 0,.int .u8 0,.int .u8 0,.int .u8 0,.int .u8 0,.int .u8 0,.int .u8 0] 86)
     have l1:=(Array.getElem?_eq_some_iff.1 (hb3.heap HF.out.2.2.1)).1
     exact⟨Bel.setCells (by omega) _ _ _ hb,(heap_setCells_other _ _ (by omega) _ _ _).trans (hx.heap (hb3.heap HF.out.2.1)),(heap_setCells_other _ _ (by omega) _ _ _).trans (hx.heap (hb3.heap HF.out.2.2.1)),heap_setCells_whole (cs:=#[.bool false,.int .i64 0,.int .u8 0,.int .u8 0,.int .u8 0,.int .u8 0,.int .u8 0,.int .u8 0,.int .u8 0,.int .u8 0,.int .u8 0,.int .u8 0,.int .u8 0,.int .u8 0,.int .u8 0,.int .u8 0,.int .u8 0,.int .u8 0].toList) (heap_alloc_new w3 _) (by rw[netC_len _ hN.out.1.len];rfl)⟩)
    have H3:=hid (show o=some m from HO.out.trans (by rfl))
    have HM:=hid (hN.out.2 m rfl)
    clear HF hb3 hn hno c0
    go_wp2_with (first
     | (refine wpList_store_mid rfl 86 (.tmp 6) (.tmp 18) rfl w3.heap.size 0 (netC n).toArray rfl rfl ?_ (by rw[List.size_toArray];exact hZ.out) (netC_one _) ?_;exact hth.out)
     | (refine wpList_load_mid rfl 86 (.tmp 6) rfl w3.heap.size 0 rfl (netC n) _ ?_ Tryz.underlying86 rfl hZ.out ?_;exact range_of hF3.out.2.2.2 fun j v hv=>by simpa using hv)
     | (refine wpList_store_mid rfl 86 (.tmp 2) (.tmp 21) rfl w.heap.size 0 (netC n).toArray rfl rfl ?_ (by rw[List.size_toArray];exact hZ.out) (netC_one _) ?_;exact there_of hF3.out.2.1 (by rw[List.size_toArray,netC_len _ hN.out.1.len];decide)))
    have hT:=hid (show((w3.alloc (.cells #[.bool false,.int .i64 0,.int .u8 0,.int .u8 0,.int .u8 0,.int .u8 0,.int .u8 0,.int .u8 0,.int .u8 0,.int .u8 0,.int .u8 0,.int .u8 0,.int .u8 0,.int .u8 0,.int .u8 0,.int .u8 0,.int .u8 0,.int .u8 0] 86)).setCells w3.heap.size 0 (netC n)).there w.heap.size 0 (netC n).toArray.size from there_of hF3.out.2.1 (by rw[List.size_toArray,netC_len _ hN.out.1.len];decide))
    have hl2:=run_loadVar_mid (P:=Tryz.prog) (((w3.alloc (.cells #[.bool false,.int .i64 0,.int .u8 0,.int .u8 0,.int .u8 0,.int .u8 0,.int .u8 0,.int .u8 0,.int .u8 0,.int .u8 0,.int .u8 0,.int .u8 0,.int .u8 0,.int .u8 0,.int .u8 0,.int .u8 0,.int .u8 0,.int .u8 0] 86)).setCells w3.heap.size 0 (netC n)).setCells w.heap.size 0 (netC n)) w.heap.size 0 86 (netC n) _
     (World.rangeAt_setCells_same _ _ _ _ (by simpa using hT.out)) Tryz.underlying86 rfl hZ.out
    refine bodyPost_ret (v:=.tuple #[netV n,.int .i64 0]) (by simp[results,Tryz.results64,asAddr,hl2,netV]) rfl ⟨by rw[H3.out,HM.out];rfl,?_⟩
    exact Bel.setCells (Nat.le_refl _) _ _ _ hF3.out.1
  ·have Hk:=hid hk
   clear hk
   have c0:wr.cell? ⟨w.heap.size+1,1,none⟩=some (.func (.func 122) #[] #[]):=by simp[World.cell?,HF.out.2.2.1]
   cases o6 with
   |none=>
    go_wp2_with fail
    refine(H6.out _ (HW.out.next HF.out.1)).mono ?_
    intro e w3 hp
    obtain⟨⟨n,hn,rfl,hno⟩,hb3⟩:=hp
    have hN:=hid (And.intro hn hno)
    have hZ:=hid (show(Tryz.prog.info? 86).map (·.size)=some (netC n).length by rw[netC_len _ hN.out.1.len];exact net_info)
    have hth:=hid (show(w3.alloc (.cells #[.bool false,.int .i64 0,.int .u8 0,.int .u8 0,.int .u8 0,.int .u8 0,.int .u8 0,.int .u8 0,.int .u8 0,.int .u8 0,.int .u8 0,.int .u8 0,.int .u8 0,.int .u8 0,.int .u8 0,.int .u8 0,.int .u8 0,.int .u8 0] 86)).there w3.heap.size 0 (netC n).toArray.size from there_of (cs:=#[.bool false,.int .i64 0,.int .u8 0,.int .u8 0,.int .u8 0,.int .u8 0,.int .u8 0,.int .u8 0,.int .u8 0,.int .u8 0,.int .u8 0,.int .u8 0,.int .u8 0,.int .u8 0,.int .u8 0,.int .u8 0,.int .u8 0,.int .u8 0].toList) (heap_alloc_new w3 _) (by rw[List.size_toArray,netC_len _ hN.out.1.len];decide))
    have hF3:=hid (show Bel w ((w3.alloc (.cells #[.bool false,.int .i64 0,.int .u8 0,.int .u8 0,.int .u8 0,.int .u8 0,.int .u8 0,.int .u8 0,.int .u8 0,.int .u8 0,.int .u8 0,.int .u8 0,.int .u8 0,.int .u8 0,.int .u8 0,.int .u8 0,.int .u8 0,.int .u8 0] 86)).setCells w3.heap.size 0 (netC n))∧((w3.alloc (.cells #[.bool false,.int .i64 0,.int .u8 0,.int .u8 0,.int .u8 0,.int .u8 0,.int .u8 0,.int .u8 0,.int .u8 0,.int .u8 0,.int .u8 0,.int .u8 0,.int .u8 0,.int .u8 0,.int .u8 0,.int .u8 0,.int .u8 0,.int .u8 0] 86)).setCells w3.heap.size 0 (netC n)).heap[w.heap.size]?=some (.cells (netC zeroN).toArray 86 (0,0))∧((w3.alloc (.cells #[.bool false,.int .i64 0,.int .u8 0,.int .u8 0,.int .u8 0,.int .u8 0,.int .u8 0,.int .u8 0,.int .u8 0,.int .u8 0,.int .u8 0,.int .u8 0,.int .u8 0,.int .u8 0,.int .u8 0,.int .u8 0,.int .u8 0,.int .u8 0] 86)).setCells w3.heap.size 0 (netC n)).heap[w.heap.size+1]?=some (.cells #[.func (.func 121) #[] #[],.func (.func 122) #[] #[]] 153 (0,0))∧((w3.alloc (.cells #[.bool false,.int .i64 0,.int .u8 0,.int .u8 0,.int .u8 0,.int .u8 0,.int .u8 0,.int .u8 0,.int .u8 0,.int .u8 0,.int .u8 0,.int .u8 0,.int .u8 0,.int .u8 0,.int .u8 0,.int .u8 0,.int .u8 0,.int .u8 0] 86)).setCells w3.heap.size 0 (netC n)).heap[w3.heap.size]?=some (.cells (netC n).toArray 86 (0,0))from by
     have hb:=((HF.out.1.trans hb3).alloc (.cells #[.bool false,.int .i64 0,.int .u8 0,.int .u8 0,.int .u8 0,.int .u8 0,.int .u8 0,.int .u8 0,.int .u8 0,.int .u8 0,.int .u8 0,.int .u8 0,.int .u8 0,.int .u8 0,.int .u8 0,.int .u8 0,.int .u8 0,.int .u8 0] 86))
     have hx:=(Bel.refl w3).alloc (.cells #[.bool false,.int .i64 0,.int .u8 0,.int .u8 0,.int .u8 0,.int .u8 0,.int .u8 0,.int .u8 0,.int .u8 0,.int .u8 0,.int .u8 0,.int .u8 0,.int .u8 0,.int .u8 0,.int .u8 0,.int .u8 0,.int .u8 0,.int .u8 0] 86)
     have l1:=(Array.getElem?_eq_some_iff.1 (hb3.heap HF.out.2.2.1)).1
     exact⟨Bel.setCells (by omega) _ _ _ hb,(heap_setCells_other _ _ (by omega) _ _ _).trans (hx.heap (hb3.heap HF.out.2.1)),(heap_setCells_other _ _ (by omega) _ _ _).trans (hx.heap (hb3.heap HF.out.2.2.1)),heap_setCells_whole (cs:=#[.bool false,.int .i64 0,.int .u8 0,.int .u8 0,.int .u8 0,.int .u8 0,.int .u8 0,.int .u8 0,.int .u8 0,.int .u8 0,.int .u8 0,.int .u8 0,.int .u8 0,.int .u8 0,.int .u8 0,.int .u8 0,.int .u8 0,.int .u8 0].toList) (heap_alloc_new w3 _) (by rw[netC_len _ hN.out.1.len];rfl)⟩)
    have H3:=HF.out.2.2.2
    have HH:=hid H3
    clear HF hb3 hn hno c0 H3
    go_wp2_with (first
     | (refine wpList_store_mid rfl 86 (.tmp 6) (.tmp 18) rfl w3.heap.size 0 (netC n).toArray rfl rfl ?_ (by rw[List.size_toArray];exact hZ.out) (netC_one _) ?_;exact hth.out))
    go_roundg (gk-1)
    case measure=>have:=Hk.out;omega
    case rel=>exact⟨1+1,by go_num,by have:=Hk.out;omega,hid ⟨hF3.out.1,hF3.out.2.1,hF3.out.2.2.1,fun _=>HH.out.1 (by decide),fun _=>(by first|rfl|trivial)⟩⟩
   |some m=>
    go_wp2_with fail
    refine(H6.out _ (HW.out.next HF.out.1)).mono ?_
    intro e w3 hp
    obtain⟨⟨n,hn,rfl,hno⟩,hb3⟩:=hp
    have hN:=hid (And.intro hn hno)
    have hZ:=hid (show(Tryz.prog.info? 86).map (·.size)=some (netC n).length by rw[netC_len _ hN.out.1.len];exact net_info)
    have hth:=hid (show(w3.alloc (.cells #[.bool false,.int .i64 0,.int .u8 0,.int .u8 0,.int .u8 0,.int .u8 0,.int .u8 0,.int .u8 0,.int .u8 0,.int .u8 0,.int .u8 0,.int .u8 0,.int .u8 0,.int .u8 0,.int .u8 0,.int .u8 0,.int .u8 0,.int .u8 0] 86)).there w3.heap.size 0 (netC n).toArray.size from there_of (cs:=#[.bool false,.int .i64 0,.int .u8 0,.int .u8 0,.int .u8 0,.int .u8 0,.int .u8 0,.int .u8 0,.int .u8 0,.int .u8 0,.int .u8 0,.int .u8 0,.int .u8 0,.int .u8 0,.int .u8 0,.int .u8 0,.int .u8 0,.int .u8 0].toList) (heap_alloc_new w3 _) (by rw[List.size_toArray,netC_len _ hN.out.1.len];decide))
    have hF3:=hid (show Bel w ((w3.alloc (.cells #[.bool false,.int .i64 0,.int .u8 0,.int .u8 0,.int .u8 0,.int .u8 0,.int .u8 0,.int .u8 0,.int .u8 0,.int .u8 0,.int .u8 0,.int .u8 0,.int .u8 0,.int .u8 0,.int .u8 0,.int .u8 0,.int .u8 0,.int .u8 0] 86)).setCells w3.heap.size 0 (netC n))∧((w3.alloc (.cells #[.bool false,.int .i64 0,.int .u8 0,.int .u8 0,.int .u8 0,.int .u8 0,.int .u8 0,.int .u8 0,.int .u8 0,.int .u8 0,.int .u8 0,.int .u8 0,.int .u8 0,.int .u8 0,.int .u8 0,.int .u8 0,.int .u8 0,.int .u8 0] 86)).setCells w3.heap.size 0 (netC n)).heap[w.heap.size]?=some (.cells (netC zeroN).toArray 86 (0,0))∧((w3.alloc (.cells #[.bool false,.int .i64 0,.int .u8 0,.int .u8 0,.int .u8 0,.int .u8 0,.int .u8 0,.int .u8 0,.int .u8 0,.int .u8 0,.int .u8 0,.int .u8 0,.int .u8 0,.int .u8 0,.int .u8 0,.int .u8 0,.int .u8 0,.int .u8 0] 86)).setCells w3.heap.size 0 (netC n)).heap[w.heap.size+1]?=some (.cells #[.func (.func 121) #[] #[],.func (.func 122) #[] #[]] 153 (0,0))∧((w3.alloc (.cells #[.bool false,.int .i64 0,.int .u8 0,.int .u8 0,.int .u8 0,.int .u8 0,.int .u8 0,.int .u8 0,.int .u8 0,.int .u8 0,.int .u8 0,.int .u8 0,.int .u8 0,.int .u8 0,.int .u8 0,.int .u8 0,.int .u8 0,.int .u8 0] 86)).setCells w3.heap.size 0 (netC n)).heap[w3.heap.size]?=some (.cells (netC n).toArray 86 (0,0))from by
     have hb:=((HF.out.1.trans hb3).alloc (.cells #[.bool false,.int .i64 0,.int .u8 0,.int .u8 0,.int .u8 0,.int .u8 0,.int .u8 0,.int .u8 0,.int .u8 0,.int .u8 0,.int .u8 0,.int .u8 0,.int .u8 0,.int .u8 0,.int .u8 0,.int .u8 0,.int .u8 0,.int .u8 0] 86))
     have hx:=(Bel.refl w3).alloc (.cells #[.bool false,.int .i64 0,.int .u8 0,.int .u8 0,.int .u8 0,.int .u8 0,.int .u8 0,.int .u8 0,.int .u8 0,.int .u8 0,.int .u8 0,.int .u8 0,.int .u8 0,.int .u8 0,.int .u8 0,.int .u8 0,.int .u8 0,.int .u8 0] 86)
     have l1:=(Array.getElem?_eq_some_iff.1 (hb3.heap HF.out.2.2.1)).1
     exact⟨Bel.setCells (by omega) _ _ _ hb,(heap_setCells_other _ _ (by omega) _ _ _).trans (hx.heap (hb3.heap HF.out.2.1)),(heap_setCells_other _ _ (by omega) _ _ _).trans (hx.heap (hb3.heap HF.out.2.2.1)),heap_setCells_whole (cs:=#[.bool false,.int .i64 0,.int .u8 0,.int .u8 0,.int .u8 0,.int .u8 0,.int .u8 0,.int .u8 0,.int .u8 0,.int .u8 0,.int .u8 0,.int .u8 0,.int .u8 0,.int .u8 0,.int .u8 0,.int .u8 0,.int .u8 0,.int .u8 0].toList) (heap_alloc_new w3 _) (by rw[netC_len _ hN.out.1.len];rfl)⟩)
    have H3:=hid (show o=some m from HO.out.trans (by rw[HF.out.2.2.2.1 (by decide)];rfl))
    have HM:=hid (hN.out.2 m rfl)
    clear HF hb3 hn hno c0
    go_wp2_with (first
     | (refine wpList_store_mid rfl 86 (.tmp 6) (.tmp 18) rfl w3.heap.size 0 (netC n).toArray rfl rfl ?_ (by rw[List.size_toArray];exact hZ.out) (netC_one _) ?_;exact hth.out)
     | (refine wpList_load_mid rfl 86 (.tmp 6) rfl w3.heap.size 0 rfl (netC n) _ ?_ Tryz.underlying86 rfl hZ.out ?_;exact range_of hF3.out.2.2.2 fun j v hv=>by simpa using hv)
     | (refine wpList_store_mid rfl 86 (.tmp 2) (.tmp 21) rfl w.heap.size 0 (netC n).toArray rfl rfl ?_ (by rw[List.size_toArray];exact hZ.out) (netC_one _) ?_;exact there_of hF3.out.2.1 (by rw[List.size_toArray,netC_len _ hN.out.1.len];decide)))
    have hT:=hid (show((w3.alloc (.cells #[.bool false,.int .i64 0,.int .u8 0,.int .u8 0,.int .u8 0,.int .u8 0,.int .u8 0,.int .u8 0,.int .u8 0,.int .u8 0,.int .u8 0,.int .u8 0,.int .u8 0,.int .u8 0,.int .u8 0,.int .u8 0,.int .u8 0,.int .u8 0] 86)).setCells w3.heap.size 0 (netC n)).there w.heap.size 0 (netC n).toArray.size from there_of hF3.out.2.1 (by rw[List.size_toArray,netC_len _ hN.out.1.len];decide))
    have hl2:=run_loadVar_mid (P:=Tryz.prog) (((w3.alloc (.cells #[.bool false,.int .i64 0,.int .u8 0,.int .u8 0,.int .u8 0,.int .u8 0,.int .u8 0,.int .u8 0,.int .u8 0,.int .u8 0,.int .u8 0,.int .u8 0,.int .u8 0,.int .u8 0,.int .u8 0,.int .u8 0,.int .u8 0,.int .u8 0] 86)).setCells w3.heap.size 0 (netC n)).setCells w.heap.size 0 (netC n)) w.heap.size 0 86 (netC n) _
     (World.rangeAt_setCells_same _ _ _ _ (by simpa using hT.out)) Tryz.underlying86 rfl hZ.out
    refine bodyPost_ret (v:=.tuple #[netV n,.int .i64 0]) (by simp[results,Tryz.results64,asAddr,hl2,netV]) rfl ⟨by rw[H3.out,HM.out];rfl,?_⟩
    exact Bel.setCells (Nat.le_refl _) _ _ _ hF3.out.1
  ·have ho:o=none:=by rw[HO.out,HF.out.2.2.2.1 (by decide),HF.out.2.2.2.2 (by decide)];rfl
   clear H4 H6 HO
   subst ho
   have hZ:=hid (show(Tryz.prog.info? 86).map (·.size)=some (netC zeroN).length by rw[netC_len _ zeroN_fits.len];exact net_info)
   have hT:=hid (show wr.there w.heap.size 0 (netC zeroN).toArray.size from there_of HF.out.2.1 (by rw[List.size_toArray];exact Nat.le_of_eq (Nat.zero_add _)))
   go_wp2_with (first
    | (refine wpList_store_mid rfl 86 (.tmp 2) (.tmp 23) rfl w.heap.size 0 (netC zeroN).toArray rfl rfl ?_ (by rw[List.size_toArray];exact hZ.out) (netC_one _) ?_;exact hT.out))
   have hl2:=run_loadVar_mid (P:=Tryz.prog) (wr.setCells w.heap.size 0 (netC zeroN)) w.heap.size 0 86 (netC zeroN) _
    (World.rangeAt_setCells_same _ _ _ _ (by simpa using hT.out)) Tryz.underlying86 rfl hZ.out
   refine bodyPost_ret (v:=.tuple #[netV zeroN,.int .i64 70]) (by simp[results,Tryz.results64,asAddr,hl2,netV]) rfl ⟨rfl,?_⟩
   exact Bel.setCells (Nat.le_refl _) _ _ _ HF.out.1
end Go.Proofs.YtmlmkmhkmifnkaaGreatDoor.Ci
namespace Go.Proofs.YtmlmkmhkmifnkaaGreatDoor.Ci
open Go.RowKit
def onlyRight(n:Nt):Option Nt:=if rightQ n then some n else none
def parseQ(s:List UInt8):Option Nt:=
 (addrQ (Lib.cut s [47]).1).bind fun n=>if(Lib.cut s [47]).2.2 then(numL (Lib.cut s [47]).2.1).bind fun k=>onlyRight {n with bits:=k}else onlyRight n
theorem allB_lt:∀(ps:List (List UInt8)) (l:List Nat),allB ps=some l→l.length=ps.length∧∀x∈l,x<256
 |[],l,h=>by
  obtain rfl:=Option.some.inj h
  exact⟨rfl,by simp⟩
 |p::ps,l,h=>by
  unfold allB at h
  split at h
  ·rename_i v vs hv hvs
   obtain rfl:=Option.some.inj h
   have ih:=allB_lt ps vs hvs
   refine⟨by simp[ih.1],fun g hg=> ?_⟩
   rcases List.mem_cons.1 hg with rfl|hg
   ·unfold byteL at hv
    split at hv
    ·split at hv
     ·rename_i hc
      have:=Option.some.inj hv
      omega
     ·cases hv
    ·cases hv
   ·exact ih.2 g hg
  ·cases h
theorem sixL_len{s:List UInt8}{gs:List Nat}(h:sixL s=some gs):gs.length=8∧∀g∈gs,g<65536:=by
 unfold sixL at h
 split at h
 ·rename_i a b ha hb
  have la:=groupsL_lt ha
  have lb:=groupsL_lt hb
  split at h
  ·split at h
   ·obtain rfl:=Option.some.inj h
    refine⟨by simp;omega,fun g hg=> ?_⟩
    rcases List.mem_append.1 hg with hg|hg
    ·rcases List.mem_append.1 hg with hg|hg
     ·exact la.2 g hg
     ·obtain⟨-,rfl⟩:=List.mem_replicate.1 hg
      decide
    ·exact lb.2 g hg
   ·cases h
  ·split at h
   ·rename_i h8
    obtain rfl:=Option.some.inj h
    exact⟨h8,la.2⟩
   ·cases h
 ·cases h
theorem numL_lt{l:List UInt8}{k:Nat}(h:numL l=some k):k<1000:=by
 have:=numQ_eq ⟨l.toArray⟩
 rw[mkB,h]at this
 have h2:=numQ_range this
 have h3:Int.ofNat k=(k:Int):=rfl
 omega
theorem addrQ_fits{s:List UInt8}{n:Nt}(h:addrQ s=some n):n.Fits∧(n.six=false→n.bits=32):=by
 unfold addrQ at h
 cases h4:fourN' s with
 |some m=>
  rw[h4]at h
  obtain rfl:=Option.some.inj h
  unfold fourN' at h4
  obtain⟨l,hl,rfl⟩:=Option.map_eq_some_iff.1 h4
  unfold fourT at hl
  split at hl
  ·rename_i h4l
   have:=allB_lt _ _ hl
   refine⟨⟨by show(-9223372036854775808:Int)≤32;decide,by show(32:Int)≤_;decide,by simp[this.1,h4l],fun x hx=> ?_⟩,fun _=>rfl⟩
   rcases List.mem_append.1 hx with hx|hx
   ·exact this.2 x hx
   ·obtain⟨-,rfl⟩:=List.mem_replicate.1 hx
    decide
  ·cases hl
 |none=>
  rw[h4]at h
  have h:sixQ s=some n:=h
  unfold sixQ at h
  obtain⟨gs,hg,rfl⟩:=Option.map_eq_some_iff.1 h
  have:=sixL_len hg
  exact⟨⟨by show(-9223372036854775808:Int)≤128;decide,by show(128:Int)≤_;decide,by show(bytesL gs).length=16;rw[bytesL_len,this.1],bytesL_lt gs this.2⟩,fun f=>by cases f⟩
end Go.Proofs.YtmlmkmhkmifnkaaGreatDoor.Ci
namespace Go.Proofs.YtmlmkmhkmifnkaaGreatDoor.Ci
open Go.RowKit
theorem wpList_push {P:Program} {a0 W:World} {ops:Array Oper} {rest:List Oper} {o:Oper} {a:Act} {Q:Exit→Act→World→Prop} (hgd:o.guard=none) (s x:Operand) (t:TypeId)
 (ho:o.op=.call {callee:=.builtin .append,args:=#[s,x],argTypes:=#[t,t]})
 (e:TypeId) (z:Value) (size bytes:Nat) (ht:P.underlying t=some (.slice e)) (hi:(P.info? e).map (fun i=>(i.zero,i.size,i.bytes))=some (some z,size,bytes)) (hzs:z.cells.size=size) (hsz:0<size)
 (v:Value) (n:Nat) (xs:List Value) (hs:a.eval s=v) (hown:W.ownsRow a0.heap.size e size v n xs) (hb:Bel a0 W)
 (c:Array Value) (hx:a.eval x=.slice (some ⟨W.heap.size,0,none⟩) 1 1) (hc:c.size=size) (h1:∀u∈c.toList,u.oneCell'=true) (hm:n+1≤maxLen) (hbytes:(n+1)*bytes≤140737488355328)
 (h:∀x' p w',w'.ownsRow a0.heap.size e size (.slice x' (n+1) p) (n+1) (xs++c.toList)→Bel a0 w'→wpList P ops Q rest (a.put o.dst (.slice x' (n+1:Nat) p)) w'):wpList P ops Q (o::rest) a (W.alloc (.cells c e)):=by
 obtain⟨i,hi,j2,j3,j4⟩:=info_parts hi
 refine wpList_append_own _ hgd s x t ho a0.heap.size e i z size bytes ht hi j2 j3 j4 hzs hsz v n xs hs (hown.alloc _) ⟨W.heap.size,0,none⟩ 1 1 c.toList hx (by rw[Array.length_toList,hc,Nat.one_mul]) ?_ h1 hm hbytes (by have:=hb.size;rw[World.size_alloc];omega) ?_
 ·intro j u hu
  rw[addr_add,Nat.zero_add]
  have e:=heap_alloc_new W (.cells c e)
  simp only[World.cell?,e]
  simpa using hu
 ·intro v' w' h2 hg _
  obtain⟨x',p,rfl,-,-⟩:=row_shape h2
  exact h x' p w' h2 ((hb.alloc _).grown hg (hown.alloc _))
theorem string_infos:(Tryz.prog.info? 9).map (fun i=>(i.zero,i.size,i.bytes))=some (some (.string ⟨#[]⟩),1,16):=by kernel_rfl
def Txts(a0 W:World)(v:Value)(ps:List ByteArray):Prop:=W.ownsRow a0.heap.size 9 1 v ps.length (ps.map Value.string)
theorem Txts.next{a0 W W':World}{v:Value}{ps:List ByteArray}(h:Txts a0 W v ps)(hb:Bel W W'):Txts a0 W' v ps:=own_bel h hb
theorem Txts.len{a0 W:World}{v:Value}{ps:List ByteArray}(h:Txts a0 W v ps):∃x p,v=.slice x ps.length p:=by
 obtain⟨x,p,e,-,-⟩:=row_shape h
 exact⟨x,p,e⟩
theorem Txts.at_{a0 W:World}{x:Option Addr}{m p:Nat}{ps:List ByteArray}(h:Txts a0 W (.slice x m p) ps)(k:Nat)(hk:k<ps.length):∃g,x=some ⟨g,0,none⟩∧W.cell? ⟨g,k,none⟩=some (.string ps[k]):=by
 rcases h.2 with⟨-,h0⟩|⟨g,cap,cur,e,-⟩
 ·rw[h0]at hk;cases hk
 ·cases e
  refine⟨g,rfl,?_⟩
  rw[World.ownsRow.cellAt h k (by omega)]
  simp[hk]
def SplitPost(c:UInt8)(s:ByteArray)(w:World)(e:Ending)(w':World):Prop:=∃v ps,e=.returned v∧Txts w w' v ps∧ps.map (·.data.toList)=splitL c s.data.toList∧Bel w w'
structure SpI (c:UInt8) (l:List UInt8) (k f:Nat) (ps:List ByteArray):Prop where
 le:f≤k
 num:ps.length≤k
 eq:ps.map (·.data.toList)++splitL c (l.drop f)=splitL c l
 not:c∉(l.drop f).take (k-f)
theorem SpI.more{c:UInt8}{l:List UInt8}{k f:Nat}{ps:List ByteArray}(h:SpI c l k f ps)(hk:k<l.length)(hn:l[k]≠c):SpI c l (k+1) f ps:=by
 have:=h.le
 refine⟨by omega,by have:=h.num;omega,h.eq,?_⟩
 rw[show k+1-f=(k-f)+1 by omega,List.take_succ_eq_append_getElem (by rw[List.length_drop];omega)]
 intro f'
 rcases List.mem_append.1 f' with g|g
 ·exact h.not g
 ·rw[List.mem_singleton,List.getElem_drop]at g
  have e:l[f+(k-f)]'(by omega)=l[k]:=by congr 1;omega
  rw[e]at g
  exact hn g.symm
theorem SpI.cut{c:UInt8}{l:List UInt8}{k f:Nat}{ps:List ByteArray}(h:SpI c l k f ps)(hk:k<l.length)(hn:l[k]=c)(p:ByteArray)(hp:p.data.toList=(l.drop f).take (k-f)):SpI c l (k+1) (k+1) (ps++[p]):=by
 have hle:=h.le
 have hnum:=h.num
 refine⟨Nat.le_refl _,by simp;omega,?_,by simp⟩
 rw[←h.eq,List.map_append,List.append_assoc]
 congr 1
 have e:l.drop f=(l.drop f).take (k-f)++c::l.drop (k+1):=by
  rw[←hn]
  have h1:l[k]::l.drop (k+1)=l.drop k:=(List.drop_eq_getElem_cons hk).symm
  rw[h1]
  have h2:l.drop k=(l.drop f).drop (k-f):=by rw[List.drop_drop];congr 1;omega
  rw[h2,List.take_append_drop]
 rw[e,splitL_app c _ _ h.not,List.map_singleton,hp,List.singleton_append]
theorem SpI.done{c:UInt8}{l:List UInt8}{f:Nat}{ps:List ByteArray}(h:SpI c l l.length f ps)(p:ByteArray)(hp:p.data.toList=l.drop f):(ps++[p]).map (·.data.toList)=splitL c l:=by
 rw[←h.eq,List.map_append,List.map_singleton,hp]
 have:=h.not
 rw[List.take_of_length_le (by rw[List.length_drop];exact Nat.le_refl _)]at this
 rw[splitL_none c _ this]
theorem rsplit_run(s:ByteArray)(c:UInt8)(w:World)(hs:s.size<4294967281):
 Calls Tryz.prog 160 #[.string s,.int .u8 c.toNat] w (SplitPost c s w):=by
 have hl:s.data.toList.length=s.size:=by rw[Lib.size_eq]
 have HL:=hid hl
 have H0:=hid (show Bel w w∧Txts w w (.slice none 0 0) []∧SpI c s.data.toList 0 0 []from⟨Bel.refl w,World.ownsRow_nil _ _ _ _,Nat.le_refl _,Nat.le_refl _,rfl,by simp⟩)
 clear hl
 go_enter Tryz.func160,Tryz.ntmps160
 go_wp2_with fail
 go_loopg [5,6,7] s.size (fun gg v5 v6 v7 wr=>∃(ps:List ByteArray) (x5:Option Addr) (p5 f k:Nat),v5=.slice x5 ps.length p5∧v6=.int .i64 f∧v7=.int .i64 k∧k+gg=s.size∧f≤k∧ps.length≤k∧Hid (Bel w wr∧Txts w wr (.slice x5 ps.length p5) ps∧SpI c s.data.toList k f ps))
 case atStart=>exact⟨[],none,0,0,0,rfl,rfl,rfl,by omega,Nat.le_refl _,Nat.le_refl _,H0⟩
 case round=>
  clear H0
  obtain⟨ps,x5,p5,f,k,rfl,rfl,rfl,hk,hf,hnum,H⟩:=hrel
  have Hk:=hid hk
  have hks:k≤s.size:=by omega
  clear hk
  by_cases hlt:k<s.size
  ·have HC:=hid (show s.data.toList[k]'(by rw[HL.out];exact hlt)=s[k]from rfl)
   by_cases hc:s[k]=c
   ·have bc:(((s[k]'hlt).toNat:Int)==(c.toNat:Int))=true:=by rw[hc];simp
    have HX:=hid (H.out.2.2.cut (by rw[HL.out];exact hlt) (HC.out.trans hc) (s.extract f k) (Lib.extract_data s f k))
    clear hc
    go_wp2_with (at_builtin;refine wpList_push (a0:=w) (W:=wr) rfl (.tmp 19) (.tmp 24) 22 rfl 9 (.string ⟨#[]⟩) 1 16 Tryz.underlying22 string_infos rfl (by decide) (.slice x5 ps.length p5) ps.length (ps.map Value.string) rfl H.out.2.1 H.out.1 #[.string (s.extract f k)] rfl rfl (by intro u hu;simp at hu;subst hu;rfl) (by unfold maxLen;omega) (by omega) ?_;intro x' p' w' hown hb)
    have HN:=hid (show Bel w w'∧Txts w w' (.slice x' (ps++[s.extract f k]).length p') (ps++[s.extract f k])∧SpI c s.data.toList (k+1) (k+1) (ps++[s.extract f k])from⟨hb,(by unfold Txts;rw[List.map_append,List.length_append];exact hown),HX.out⟩)
    clear H hown hb HX
    go_wp2_with fail
    go_roundg (gk-1)
    case measure=>have:=Hk.out;omega
    case rel=>exact⟨ps++[s.extract f k],x',p',k+1,k+1,by rw[List.length_append];rfl,by go_num,by go_num,by have:=Hk.out;omega,Nat.le_refl _,by rw[List.length_append];show ps.length+1≤_;omega,HN⟩
   ·have bc:(((s[k]'hlt).toNat:Int)==(c.toNat:Int))=false:=by
     rw[beq_eq_false_iff_ne]
     intro g
     exact hc (UInt8.toNat_inj.1 (by omega))
    have HN:=hid (show Bel w wr∧Txts w wr (.slice x5 ps.length p5) ps∧SpI c s.data.toList (k+1) f ps from⟨H.out.1,H.out.2.1,H.out.2.2.more (by rw[HL.out];exact hlt) (fun g=>hc (HC.out.symm.trans g))⟩)
    clear hc H
    go_wp2_with fail
    go_roundg (gk-1)
    case measure=>have:=Hk.out;omega
    case rel=>exact⟨ps,x5,p5,f,k+1,rfl,rfl,by go_num,by have:=Hk.out;omega,by omega,by omega,HN⟩
  ·obtain rfl:k=s.size:=by omega
   have HX:=hid ((show SpI c s.data.toList s.data.toList.length f ps by rw[HL.out];exact H.out.2.2).done (s.extract f s.size) (Lib.extract_to_end s f))
   go_wp2_with (at_builtin;refine wpList_push (a0:=w) (W:=wr) rfl (.tmp 28) (.tmp 32) 22 rfl 9 (.string ⟨#[]⟩) 1 16 Tryz.underlying22 string_infos rfl (by decide) (.slice x5 ps.length p5) ps.length (ps.map Value.string) rfl H.out.2.1 H.out.1 #[.string (s.extract f s.size)] rfl rfl (by intro u hu;simp at hu;subst hu;rfl) (by unfold maxLen;omega) (by omega) ?_;intro x' p' w' hown hb)
   go_wp2_with fail
   go_ret
   refine⟨_,ps++[s.extract f s.size],rfl,?_,HX.out,hb⟩
   unfold Txts
   rw[List.map_append,List.length_append]
   exact hown
end Go.Proofs.YtmlmkmhkmifnkaaGreatDoor.Ci
namespace Go.Proofs.YtmlmkmhkmifnkaaGreatDoor.Ma
open Go.RowKit
open Ci (Bel own_bel row_shape addr_add)
def Byts(a0 W:World)(v:Value)(bs:List UInt8):Prop:=W.ownsRow a0.heap.size 5 1 v bs.length (bs.map fun b=>Value.int .u8 b.toNat)
theorem conv_byts{a0 W:World}{x:Option Addr}{n p:Nat}{bs:List UInt8}(h:Byts a0 W (.slice x n p) bs):(convert 48 9 (.slice x n p)).run Tryz.prog W=.ok (.string ⟨bs.toArray⟩) W:=by
 rcases h.2 with⟨e,h0⟩|⟨g,cap,cur,e,-⟩
 ·cases e
  have:bs=[]:=List.eq_nil_of_length_eq_zero h0
  subst this
  exact run_convert_bytes_nil W 48 5 Tryz.underlying48 Tryz.underlying5 0 0 9 Tryz.underlying9
 ·cases e
  refine run_convert_bytes_back W 48 9 5 ⟨g,0,none⟩ p bs Tryz.underlying48 Tryz.underlying5 Tryz.underlying9 fun j hj=> ?_
  rw[addr_add,Nat.zero_add,World.ownsRow.cellAt h j (by omega)]
  simp[hj]
structure QuI (l:List UInt8) (k:Nat) (bs:List UInt8):Prop where
 pos:1≤k
 num:bs.length≤k
 eq:quoL (l.drop 1)=(quoL (l.drop k)).map fun x=>(bs++x.1,x.2+(k-1))
def quoR(l:List UInt8):List UInt8×Nat:=match quoL (l.drop 1)with
 |some x=>(x.1,x.2+1)
 |none=>([],0)
theorem byts_snoc{a0 W:World}{v:Value}{bs:List UInt8}{n:Nat}{b:UInt8}(h:W.ownsRow a0.heap.size 5 1 v n ((bs.map fun b=>Value.int .u8 b.toNat)++[.int .u8 b.toNat]))(hn:n=bs.length+1):Byts a0 W v (bs++[b]):=by
 subst hn
 unfold Byts
 rw[List.length_append,List.map_append]
 exact h
theorem uint8_infos:(Tryz.prog.info? 5).map (fun i=>(i.zero,i.size,i.bytes))=some (some (.int .u8 0),1,1):=by kernel_rfl
end Go.Proofs.YtmlmkmhkmifnkaaGreatDoor.Ma
namespace Go.Proofs.YtmlmkmhkmifnkaaGreatDoor.Ma
open Go.RowKit
open Ci (Bel own_bel row_shape addr_add)
def cutX(k:Nat)(l:List UInt8):Option (List Tk):=cutL (l.length+1) k l
structure CuI (l:List UInt8) (k:Nat) (T:List Tk):Prop where
 le:k≤l.length
 num:T.length≤k
 eq:cutX 0 l=(cutX k (l.drop k)).map fun U=>T++U
section
variable {l:List UInt8} {k:Nat}
end
def tkC(t:Tk):List Value:=[.int .u8 t.kind.toNat,.string ⟨t.text.toArray⟩,.int .i64 t.from_,.int .i64 t.til]
def tkCs(T:List Tk):List Value:=T.flatMap tkC
def Toks(a0 W:World)(v:Value)(T:List Tk):Prop:=W.ownsRow a0.heap.size 218 4 v T.length (tkCs T)
def CutPost(s:ByteArray)(w:World)(e:Ending)(w':World):Prop:=∃v,e=.returned (.tuple #[v,.bool (cutQ s.data.toList).isSome])∧Bel w w'∧match cutQ s.data.toList with
 |none=>v=.slice none 0 0
 |some T=>Toks w w' v T
end Go.Proofs.YtmlmkmhkmifnkaaGreatDoor.Ma
namespace Go.Proofs.YtmlmkmhkmifnkaaGreatDoor.Ma
open Go.RowKit
open Ci (Bel heap_setCells heap_setCells_other there_of)
end Go.Proofs.YtmlmkmhkmifnkaaGreatDoor.Ma