import Derived.Test.YtmlmkmhkmifnkaaGreatDoorM21
set_option maxHeartbeats 16000000
set_option maxRecDepth 1000000
namespace Go.Proofs.YtmlmkmhkmifnkaaGreatDoor.Ci
open Go.RowKit
def AddrPost(o:Option Nt)(w:World)(e:Ending)(w':World):Prop:=e=.returned (.tuple #[netV (o.getD zeroN),.int .i64 (errQ o)])∧Bel w w'
theorem raddr_run(s:ByteArray)(w:World)(hs:s.size<4294967281):
 Calls Tryz.prog 39 #[.string s] w (AddrPost (addrQ s.data.toList) w):=by
 have HF:=(show Hid (∀W,Calls Tryz.prog 93 #[.string s] W (NetPost (fourN' s.data.toList) W))from fun W=>rfour_run s W hs)
 have HS:=(show Hid (∀W,Calls Tryz.prog 94 #[.string s] W (NetPost (sixQ s.data.toList) W))from fun W=>rsix_run s W hs)
 unfold addrQ
 generalize fourN' s.data.toList=o4 at HF⊢
 generalize sixQ s.data.toList=o6 at HS⊢
 go_enter Tryz.func39,Tryz.ntmps39
 go_upto_region 1 with(fail)
 have HE:=hid (show Bel w (w.alloc (.cells #[.bool false,.int .i64 0,.int .u8 0,.int .u8 0,.int .u8 0,.int .u8 0,.int .u8 0,.int .u8 0,.int .u8 0,.int .u8 0,.int .u8 0,.int .u8 0,.int .u8 0,.int .u8 0,.int .u8 0,.int .u8 0,.int .u8 0,.int .u8 0] 86))∧(w.alloc (.cells #[.bool false,.int .i64 0,.int .u8 0,.int .u8 0,.int .u8 0,.int .u8 0,.int .u8 0,.int .u8 0,.int .u8 0,.int .u8 0,.int .u8 0,.int .u8 0,.int .u8 0,.int .u8 0,.int .u8 0,.int .u8 0,.int .u8 0,.int .u8 0] 86)).heap[w.heap.size]?=some (.cells (netC zeroN).toArray 86 (0,0))from⟨(Bel.refl w).alloc _,heap_alloc_new w _⟩)
 generalize (w.alloc (.cells #[.bool false,.int .i64 0,.int .u8 0,.int .u8 0,.int .u8 0,.int .u8 0,.int .u8 0,.int .u8 0,.int .u8 0,.int .u8 0,.int .u8 0,.int .u8 0,.int .u8 0,.int .u8 0,.int .u8 0,.int .u8 0,.int .u8 0,.int .u8 0] 86))=e0 at HE⊢
 go_wp2_with fail
 refine(HF.out _).mono ?_
 rintro e w1 ⟨⟨n,hn,rfl,hm⟩,hb1⟩
 have HN:=hid (And.intro hn hm)
 have P:=hid (put_net w1 n HN.out.1.len)
 have HZ0:=hid (net_len n HN.out.1.len)
 have H0:=hid (And.intro (HE.out.1.trans hb1) (hb1.heap HE.out.2))
 unfold netV
 clear hb1 HF HE hn hm
 go_upto_region 2 with(first
  | (refine wpList_store_mid rfl 86 (.tmp 4) (.tmp 9) rfl w1.heap.size 0 (netC n).toArray rfl rfl ?_ (by rw[List.size_toArray];exact HZ0.out) (netC_one _) ?_;exact there_net w1 n HN.out.1.len))
 generalize ((w1.alloc (.cells #[.bool false,.int .i64 0,.int .u8 0,.int .u8 0,.int .u8 0,.int .u8 0,.int .u8 0,.int .u8 0,.int .u8 0,.int .u8 0,.int .u8 0,.int .u8 0,.int .u8 0,.int .u8 0,.int .u8 0,.int .u8 0,.int .u8 0,.int .u8 0] 86)).setCells w1.heap.size 0 (netC n))=w2 at P⊢
 have hBw:w.heap.size<w1.heap.size:=(Array.getElem?_eq_some_iff.1 H0.out.2).1
 have H2:=hid (show Bel w w2∧w2.heap[w.heap.size]?=some (.cells (netC zeroN).toArray 86 (0,0))∧w2.heap[w1.heap.size]?=some (.cells (netC n).toArray 86 (0,0))from⟨H0.out.1.trans P.out.1,P.out.1.heap H0.out.2,P.out.2⟩)
 clear P H0 HZ0
 generalize w1.heap.size=B at H2 hBw⊢
 cases o4 with
 |some m=>
  obtain rfl:n=m:=HN.out.2 m rfl
  have HZ:=hid (net_len n (HN.out.1).len)
  have HT:=hid (show w2.there w.heap.size 0 (netC n).toArray.size from there_of (cs:=netC zeroN) H2.out.2.1 (by rw[List.size_toArray,netC_len _ (HN.out.1).len];decide))
  go_wp2_with (first
   | (refine wpList_load_mid rfl 86 (.tmp 4) rfl B 0 rfl (netC n) _ ?_ Tryz.underlying86 rfl HZ.out ?_;exact range_net H2.out.2.2)
   | (refine wpList_store_mid rfl 86 (.tmp 2) (.tmp 12) rfl w.heap.size 0 (netC n).toArray rfl rfl ?_ (by rw[List.size_toArray];exact HZ.out) (netC_one _) ?_;exact HT.out))
  have hl2:=run_loadVar_mid (P:=Tryz.prog) (w2.setCells w.heap.size 0 (netC n)) w.heap.size 0 86 (netC n) _ (World.rangeAt_setCells_same _ _ _ _ (by simpa using HT.out)) Tryz.underlying86 rfl HZ.out
  refine bodyPost_ret (v:=.tuple #[netV n,.int .i64 0]) (by simp[results,Tryz.results39,asAddr,hl2,netV]) rfl ⟨by simp[errQ,netV],Bel.setCells (Nat.le_refl _) _ _ _ H2.out.1⟩
 |none=>
  go_wp2_with fail
  refine(HS.out _).mono ?_
  rintro e w3 ⟨⟨n2,hn2,rfl,hm2⟩,hb3⟩
  have HN2:=hid (And.intro hn2 hm2)
  have HZ2:=hid (net_len n2 HN2.out.1.len)
  have H3:=hid (show Bel w w3∧w3.heap[w.heap.size]?=some (.cells (netC zeroN).toArray 86 (0,0))∧w3.heap[B]?=some (.cells (netC n).toArray 86 (0,0))from⟨H2.out.1.trans hb3,hb3.heap H2.out.2.1,hb3.heap H2.out.2.2⟩)
  have HT2:=hid (show w3.there B 0 (netC n2).toArray.size from there_of (cs:=netC n) H3.out.2.2 (by rw[List.size_toArray,netC_len _ HN2.out.1.len,netC_len _ HN.out.1.len];decide))
  unfold netV
  clear hb3 HS hn2 hm2 H2
  go_upto_region 5 with(first
   | (refine wpList_store_mid rfl 86 (.tmp 4) (.tmp 16) rfl B 0 (netC n2).toArray rfl rfl ?_ (by rw[List.size_toArray];exact HZ2.out) (netC_one _) ?_;exact HT2.out))
  have H4:=hid (show Bel w (w3.setCells B 0 (netC n2))∧(w3.setCells B 0 (netC n2)).heap[w.heap.size]?=some (.cells (netC zeroN).toArray 86 (0,0))∧(w3.setCells B 0 (netC n2)).heap[B]?=some (.cells (netC n2).toArray 86 (0,0))from⟨Bel.setCells (Nat.le_of_lt hBw) _ _ _ H3.out.1,(heap_setCells_other B w.heap.size (by omega) _ _ _).trans H3.out.2.1,heap_setCells_whole H3.out.2.2 (by rw[netC_len _ HN2.out.1.len,netC_len _ HN.out.1.len])⟩)
  generalize (w3.setCells B 0 (netC n2))=w4 at H4⊢
  clear H3 HZ2 HT2
  cases o6 with
  |some m=>
   obtain rfl:n2=m:=HN2.out.2 m rfl
   have HZ:=hid (net_len n2 (HN2.out.1).len)
   have HT:=hid (show w4.there w.heap.size 0 (netC n2).toArray.size from there_of (cs:=netC zeroN) H4.out.2.1 (by rw[List.size_toArray,netC_len _ (HN2.out.1).len];decide))
   go_wp2_with (first
    | (refine wpList_load_mid rfl 86 (.tmp 4) rfl B 0 rfl (netC n2) _ ?_ Tryz.underlying86 rfl HZ.out ?_;exact range_net H4.out.2.2)
    | (refine wpList_store_mid rfl 86 (.tmp 2) (.tmp 19) rfl w.heap.size 0 (netC n2).toArray rfl rfl ?_ (by rw[List.size_toArray];exact HZ.out) (netC_one _) ?_;exact HT.out))
   have hl2:=run_loadVar_mid (P:=Tryz.prog) (w4.setCells w.heap.size 0 (netC n2)) w.heap.size 0 86 (netC n2) _ (World.rangeAt_setCells_same _ _ _ _ (by simpa using HT.out)) Tryz.underlying86 rfl HZ.out
   refine bodyPost_ret (v:=.tuple #[netV n2,.int .i64 0]) (by simp[results,Tryz.results39,asAddr,hl2,netV]) rfl ⟨by simp[errQ,netV],Bel.setCells (Nat.le_refl _) _ _ _ H4.out.1⟩
  |none=>
   have HZ:=hid (net_len zeroN (zeroN_fits).len)
   have HT:=hid (show w4.there w.heap.size 0 (netC zeroN).toArray.size from there_of (cs:=netC zeroN) H4.out.2.1 (by rw[List.size_toArray,netC_len _ (zeroN_fits).len];decide))
   go_wp2_with (first
    | (refine wpList_store_mid rfl 86 (.tmp 2) (.tmp 20) rfl w.heap.size 0 (netC zeroN).toArray rfl rfl ?_ (by rw[List.size_toArray];exact HZ.out) (netC_one _) ?_;exact HT.out))
   have hl2:=run_loadVar_mid (P:=Tryz.prog) (w4.setCells w.heap.size 0 (netC zeroN)) w.heap.size 0 86 (netC zeroN) _ (World.rangeAt_setCells_same _ _ _ _ (by simpa using HT.out)) Tryz.underlying86 rfl HZ.out
   refine bodyPost_ret (v:=.tuple #[netV zeroN,.int .i64 70]) (by simp[results,Tryz.results39,asAddr,hl2,netV]) rfl ⟨by simp[errQ,netV],Bel.setCells (Nat.le_refl _) _ _ _ H4.out.1⟩
end Go.Proofs.YtmlmkmhkmifnkaaGreatDoor.Ci
namespace Go.Proofs.YtmlmkmhkmifnkaaGreatDoor.Ci
def bitQ(l:List Nat)(i:Nat):Nat:=(l.getD (i/8) 0>>>(7-i%8))%2
def rightR(n:Nt):Bool:=decide (0≤n.bits)&&decide (n.bits≤sizeQ n.six)&&(List.range' n.bits.toNat (128-n.bits.toNat)).all fun i=>bitQ n.addr i==0
def bitB(x b:Nat):Nat:=(x>>>(7-b))%2
theorem cutB_bit(x:Nat)(keep:Int)(b:Nat)(hx:x<256)(hb:b<8):bitB (cutB x keep) b=if(b:Int)<keep then bitB x b else 0:=by
 unfold cutB
 by_cases h1:keep≤0
 ·rw[if_pos h1,if_neg (by omega)]
  simp[bitB]
 ·rw[if_neg h1]
  by_cases h2:keep<8
  ·rw[if_pos h2]
   have key:∀k:Fin 8,0<k.val→∀b:Fin 8,∀x:Fin 256,bitB (x.val&&&((255*2^(8-k.val))%256)) b.val=if b.val<k.val then bitB x.val b.val else 0:=by decide+kernel
   have:=key ⟨keep.toNat,by omega⟩ (by simp;omega) ⟨b,hb⟩ ⟨x,hx⟩
   simp only at this
   rw[(by omega:(8-keep).toNat=8-keep.toNat),this]
   by_cases h3:b<keep.toNat
   ·rw[if_pos h3,if_pos (by omega)]
   ·rw[if_neg h3,if_neg (by omega)]
  ·rw[if_neg h2,if_pos (by omega)]
theorem byte_bits(x:Nat)(hx:x<256):x=bitB x 0*128+bitB x 1*64+bitB x 2*32+bitB x 3*16+bitB x 4*8+bitB x 5*4+bitB x 6*2+bitB x 7:=by
 have key:∀x:Fin 256,x.val=bitB x.val 0*128+bitB x.val 1*64+bitB x.val 2*32+bitB x.val 3*16+bitB x.val 4*8+bitB x.val 5*4+bitB x.val 6*2+bitB x.val 7:=by decide+kernel
 exact key ⟨x,hx⟩
theorem byte_ext{x y:Nat}(hx:x<256)(hy:y<256)(h:∀b,b<8→bitB x b=bitB y b):x=y:=by
 rw[byte_bits x hx,byte_bits y hy,h 0 (by decide),h 1 (by decide),h 2 (by decide),h 3 (by decide),h 4 (by decide),h 5 (by decide),h 6 (by decide),h 7 (by decide)]
theorem cutB_lt'(x:Nat)(keep:Int)(h:x<256):cutB x keep<256:=by
 unfold cutB
 split
 ·omega
 ·split
  ·exact Nat.lt_of_le_of_lt Nat.and_le_left h
  ·exact h
theorem cutL_iff(l m:List Nat)(k:Nat)(hl:l.length=16)(hm:m.length=16)(hx:∀x∈l,x<256)(hy:∀x∈m,x<256):
 cutL l k=m↔(∀i,i<k→i<128→bitQ l i=bitQ m i)∧∀i,k≤i→i<128→bitQ m i=0:=by
 have hget:∀(q:List Nat),q.length=16→∀j (hj:j<16) b,b<8→bitQ q (8*j+b)=bitB (q[j]?.getD 0) b:=by
  intro q hq j hj b hb
  unfold bitQ bitB
  rw[(by omega:(8*j+b)/8=j),(by omega:(8*j+b)%8=b),List.getD_eq_getElem?_getD]
 constructor
 ·rintro rfl
  have hc:∀j:Nat,j<16→(cutL l k)[j]?.getD 0=cutB (l[j]?.getD 0) (k-8*j):=by
   intro j hj
   unfold cutL
   simp[hl,hj]
  have hlt:∀j:Nat,j<16→l[j]?.getD 0<256:=by
   intro j hj
   simp only[hl,hj,getElem?_pos,Option.getD_some]
   exact hx _ (List.getElem_mem _)
  constructor
  ·intro i hi h128
   have e:i=8*(i/8)+i%8:=by omega
   rw[e,hget l hl _ (by omega) _ (by omega),hget (cutL l k) hm _ (by omega) _ (by omega),hc _ (by omega),cutB_bit _ _ _ (hlt _ (by omega)) (by omega),if_pos (by omega)]
  ·intro i hi h128
   have e:i=8*(i/8)+i%8:=by omega
   rw[e,hget (cutL l k) hm _ (by omega) _ (by omega),hc _ (by omega),cutB_bit _ _ _ (hlt _ (by omega)) (by omega),if_neg (by omega)]
 ·rintro⟨h1,h2⟩
  refine List.ext_getElem (by simp[cutL,hl,hm]) fun j hj hj2=> ?_
  have hj16:j<16:=by omega
  have hxl:=hx _ (List.getElem_mem (by omega:j<l.length))
  have hym:=hy _ (List.getElem_mem (by omega:j<m.length))
  have e:(cutL l k)[j]=cutB l[j] (k-8*j):=by simp[cutL]
  rw[e]
  refine byte_ext (cutB_lt' _ _ hxl) hym fun b hb=> ?_
  rw[cutB_bit _ _ _ hxl hb]
  have hgm:=hget m hm j hj16 b hb
  have hgl:=hget l hl j hj16 b hb
  simp only[hm,hj16,hl,getElem?_pos,Option.getD_some]at hgm hgl
  by_cases hk:(b:Int)<k-8*j
  ·rw[if_pos hk,←hgl,←hgm]
   exact h1 _ (by omega) (by omega)
  ·rw[if_neg hk,←hgm]
   exact(h2 _ (by omega) (by omega)).symm
theorem rightR_eq(n:Nt)(h:n.Fits):rightR n=rightQ n:=by
 unfold rightR rightQ
 cases h0:decide (0≤n.bits)with
 |false=>rfl
 |true=>
  cases h1:decide (n.bits≤sizeQ n.six)with
  |false=>rfl
  |true=>
   have h0:=of_decide_eq_true h0
   have h1:=of_decide_eq_true h1
   have hs:(sizeQ n.six:Int)≤128:=by unfold sizeQ;split<;>decide
   obtain⟨k,hk⟩:∃k:Nat,n.bits=k:=⟨n.bits.toNat,by omega⟩
   simp only[Bool.true_and]
   rw[Bool.eq_iff_iff,List.all_eq_true,decide_eq_true_iff,hk,cutL_iff _ _ k h.len h.len h.by_ h.by_]
   constructor
   ·intro f
    refine⟨fun _ _ _=>rfl,fun i hi h128=> ?_⟩
    have:=f i (List.mem_range'_1.2 ⟨by omega,by omega⟩)
    exact beq_iff_eq.1 this
   ·rintro⟨-,f⟩ i hi
    have:=List.mem_range'_1.1 hi
    exact beq_iff_eq.2 (f i (by omega) (by omega))
end Go.Proofs.YtmlmkmhkmifnkaaGreatDoor.Ci
namespace Go.Proofs.YtmlmkmhkmifnkaaGreatDoor.Ci
open Go.RowKit
theorem rsize_run(b:Bool)(w:World):Calls Tryz.prog 98 #[.bool b] w fun e w'=>e=.returned (.int .i64 (sizeQ b:Nat))∧Bel w w':=by
 cases b with
 |false=>
  go_enter Tryz.func98,Tryz.ntmps98
  go_wp2_with fail
  go_ret
  exact⟨rfl,Bel.refl _⟩
 |true=>
  go_enter Tryz.func98,Tryz.ntmps98
  go_wp2_with fail
  go_ret
  exact⟨rfl,Bel.refl _⟩
theorem bit1(x k:Nat)(hx:x<256):bits .and .u8 ((x:Int)/2^k) 1=((x>>>k%2:Nat):Int):=by
 have h:=u8_and_nat (x/2^k) 1 (Nat.lt_of_le_of_lt (Nat.div_le_self _ _) hx) (by decide)
 rw[Nat.and_one_is_mod,←Nat.shiftRight_eq_div_pow]at h
 rw[←h,Nat.shiftRight_eq_div_pow]
 simp
theorem bit_run(l:List Nat)(hl:l.length=16)(hx:∀x∈l,x<256)(i:Nat)(hi:i<128)(w:World):
 Calls Tryz.prog 163 #[addrV l,.int .i64 (i:Int)] w fun e w'=>e=.returned (.int .u8 (bitQ l i:Nat))∧Bel w w':=by
 have hj:i/8<l.length:=by omega
 have c0:(w.alloc (.cells (l.map u8V).toArray 84)).cell? ⟨w.heap.size,i/8,none⟩=some (.int .u8 (l[i/8]:Int)):=by
  simp only[World.cell?,heap_alloc_new w _]
  simp[hj,u8V]
 have hq:bitQ l i=(l[i/8]>>>(7-i%8))%2:=by unfold bitQ;simp[hj]
 have hxl:=hx _ (List.getElem_mem hj)
 generalize l[i/8]=x at c0 hq hxl
 have HQ:=hid hq
 unfold addrV
 clear hx hq hj hl
 go_enter Tryz.func163,Tryz.ntmps163
 go_wp2_with fail
 go_ret
 refine⟨?_,(Bel.refl w).alloc _⟩
 rw[HQ.out,←bit1 x (7-i%8) hxl]
 rfl
theorem zero_more(l:List Nat)(f i:Nat)(hf:f≤i):((List.range' f (i+1-f)).all fun j=>bitQ l j==0)=(((List.range' f (i-f)).all fun j=>bitQ l j==0)&&(bitQ l i==0)):=by
 rw[(by omega:i+1-f=(i-f)+1),List.range'_concat,List.all_append,(by omega:f+1*(i-f)=i)]
 simp
theorem rright_run(n:Nt)(hn:n.Fits)(w:World):Calls Tryz.prog 95 #[netV n] w fun e w'=>e=.returned (.bool (rightQ n))∧Bel w w':=by
 have h0:=hid (And.intro ((Bel.refl w).alloc (.cells (netC n).toArray 86)) (heap_alloc_new w (.cells (netC n).toArray 86)))
 have HS:=(show Hid (∀W,Calls Tryz.prog 98 #[.bool n.six] W fun e w'=>e=.returned (.int .i64 (sizeQ n.six:Nat))∧Bel W w')from fun W=>rsize_run n.six W)
 have HB:=(show Hid (∀i:Nat,i<128→∀W,Calls Tryz.prog 163 #[.agg (n.addr.map u8V).toArray,.int .i64 (i:Int)] W fun e w'=>e=.returned (.int .u8 (bitQ n.addr i:Nat))∧Bel W w')from fun i hi W=>bit_run n.addr hn.len hn.by_ i hi W)
 have hZa:=hid (show(Tryz.prog.info? 84).map (·.size)=some (n.addr.map u8V).length by rw[List.length_map,hn.len];kernel_rfl)
 have c0:(w.alloc (.cells (netC n).toArray 86)).cell? ⟨w.heap.size,0,none⟩=some (.bool n.six):=by simp only[World.cell?,heap_alloc_new w _];simp[netC]
 have hb1:=hn.b1
 have hb2:=hn.b2
 rw[←rightR_eq n hn]
 unfold netV
 clear hn
 go_enter Tryz.func95,Tryz.ntmps95
 go_wp2_with fail
 generalize w.alloc (.cells (netC n).toArray 86)=w1 at h0 c0⊢
 refine(HS.out _).mono ?_
 rintro e w2 ⟨rfl,hb⟩
 have h2:=hid (And.intro (h0.out.1.trans hb) (hb.heap h0.out.2))
 clear h0 hb HS c0
 have c1:w2.cell? ⟨w.heap.size,1,none⟩=some (.int .i64 n.bits):=by simp[World.cell?,h2.out.2,netC]
 have hr:rightR n=(decide (0≤n.bits)&&decide (n.bits≤sizeQ n.six)&&(List.range' n.bits.toNat (128-n.bits.toNat)).all fun i=>bitQ n.addr i==0):=rfl
 have hs:(sizeQ n.six:Int)≤128:=by unfold sizeQ;split<;>decide
 by_cases h1:n.bits<0
 ·have HR:=hid (show rightR n=false by rw[hr,decide_eq_false (by omega:¬0≤n.bits)];rfl)
  clear hr
  go_wp2_with fail
  go_ret
  exact⟨by rw[HR.out];rfl,h2.out.1⟩
 ·by_cases hbig:(sizeQ n.six:Int)<n.bits
  ·have d1:decide ((sizeQ n.six:Int)<n.bits)=true:=decide_eq_true hbig
   have HR:=hid (show rightR n=false by rw[hr,decide_eq_false (by omega:¬n.bits≤sizeQ n.six)];simp)
   clear hr
   go_wp2_with fail
   go_ret
   exact⟨by rw[HR.out];rfl,h2.out.1⟩
  ·have d1:decide ((sizeQ n.six:Int)<n.bits)=false:=decide_eq_false hbig
   have HR:=hid (show rightR n=(List.range' n.bits.toNat (128-n.bits.toNat)).all fun i=>bitQ n.addr i==0 by rw[hr,decide_eq_true (by omega:0≤n.bits),decide_eq_true (by omega:n.bits≤sizeQ n.six)];simp)
   clear hr
   have hb128:n.bits≤128:=by omega
   obtain⟨f,hf⟩:∃f:Nat,n.bits=f:=⟨n.bits.toNat,by omega⟩
   rw[hf]at c1 d1 hb128 hbig
   have HF:=hid (show n.bits.toNat=f by omega)
   have d0:decide ((f:Int)<0)=false:=decide_eq_false (by omega)
   have d2:decide (sizeQ n.six<f)=false:=decide_eq_false (by omega)
   clear h1 hs hb1 hb2
   clear hf
   go_wp2_with fail
   clear c1
   go_loopg [4] (128-f) (fun gg v4 wr=>∃i:Nat,v4=.int .i64 i∧i+gg=128∧f≤i∧Hid (((List.range' f (i-f)).all fun j=>bitQ n.addr j==0)=true)∧Hid (Bel w wr∧wr.heap[w.heap.size]?=some (.cells (netC n).toArray 86 (0,0))))
   case atStart=>exact⟨f,rfl,by omega,Nat.le_refl _,hid (by rw[Nat.sub_self];rfl),h2⟩
   case round=>
    clear h2
    obtain⟨i,rfl,hi,hfi,HA,h2⟩:=hrel
    have Hi:=hid hi
    have hin:i≤128:=by omega
    clear hi
    by_cases hlt:i<128
    ·have hz:=zero_more n.addr f i hfi
     rw[HA.out,Bool.true_and]at hz
     have HBi:=hid (HB.out i hlt)
     generalize hbit:bitQ n.addr i=x at HBi hz
     have HZ:=hid (And.intro hz hbit)
     clear hz hbit
     go_wp2_with (first
      | (refine wpList_load_mid rfl 84 (.tmp 23) rfl w.heap.size 2 rfl (n.addr.map u8V) _ ?_ Tryz.underlying84 rfl hZa.out ?_;exact range_of h2.out.2 fun j v hv=>by simpa[netC,Nat.add_comm]using hv))
     refine(HBi.out _).mono ?_
     rintro e w3 ⟨rfl,hb3⟩
     have h3:=hid (And.intro (h2.out.1.trans hb3) (hb3.heap h2.out.2))
     clear h2 hb3 HBi
     by_cases hx:x=0
     ·have dx:((x:Int) !=0)=false:=by rw[hx];rfl
      have HN:=hid (show((List.range' f (i+1-f)).all fun j=>bitQ n.addr j==0)=true by rw[HZ.out.1,hx];rfl)
      clear hx
      go_wp2_with fail
      go_roundg (gk-1)
      case measure=>have:=Hi.out;omega
      case rel=>exact⟨i+1,by go_num,by have:=Hi.out;omega,by omega,HN,h3⟩
     ·have dx:((x:Int) !=0)=true:=by rw[bne_iff_ne];omega
      have HN:=hid (show rightR n=false by
       rw[HR.out,HF.out,Bool.eq_false_iff]
       intro hall
       have:=List.all_eq_true.1 hall i (List.mem_range'_1.2 ⟨hfi,by omega⟩)
       rw[HZ.out.2]at this
       exact hx (beq_iff_eq.1 this))
      clear hx
      go_wp2_with fail
      go_ret
      exact⟨by rw[HN.out];rfl,h3.out.1⟩
    ·obtain rfl:i=128:=by omega
     have HN:=hid (show rightR n=true by rw[HR.out,HF.out];exact HA.out)
     go_wp2_with fail
     go_ret
     exact⟨by rw[HN.out];rfl,h2.out.1⟩
end Go.Proofs.YtmlmkmhkmifnkaaGreatDoor.Ci
namespace Go.Proofs.YtmlmkmhkmifnkaaGreatDoor.Ci
open Go.RowKit
def bT(l:List UInt8):ByteArray:=⟨l.toArray⟩
theorem bT_app(a b:List UInt8):bT a++bT b=bT (a++b):=ext_bytes (by rw[app_data];rfl)
theorem conv1(b:UInt8)(W:World):(convert 48 9 (.slice (some ⟨W.heap.size,0,none⟩) 1 1)).run Tryz.prog (W.alloc (.cells #[.int .u8 (b.toNat:Int)] 5))=.ok (.string (bT [b])) (W.alloc (.cells #[.int .u8 (b.toNat:Int)] 5)):=by
 refine run_convert_bytes_back (W.alloc (.cells #[.int .u8 (b.toNat:Int)] 5)) 48 9 5 ⟨W.heap.size,0,none⟩ 1 [b] Tryz.underlying48 Tryz.underlying5 Tryz.underlying9 fun j hj=> ?_
 obtain rfl:j=0:=by simpa using hj
 rw[addr_add]
 simp only[World.cell?,heap_alloc_new W _]
 rfl
def decD(n:Nat):UInt8:=UInt8.ofNat (48+n)
theorem decD_val(n:Nat)(h:n<10):((decD n).toNat:Int)=48+(n:Int):=by
 unfold decD
 rw[UInt8.toNat_ofNat']
 omega
theorem decD_mod(n:Nat):((decD (n%10)).toNat:Int)=48+(n:Int)%10:=by
 rw[decD_val _ (Nat.mod_lt _ (by decide))];omega
def digitsL(n:Nat):List UInt8:=Lib.decDigits n
theorem digitsL_small{n:Nat}(h:n<10):digitsL n=[decD n]:=by unfold digitsL;rw[Lib.decDigits,dif_pos h];rfl
theorem digitsL_big{n:Nat}(h:¬n<10):digitsL n=digitsL (n/10)++[decD (n%10)]:=by unfold digitsL;rw[Lib.decDigits,dif_neg h];rfl
theorem digits_run(n:Nat)(hn:n<1000)(w:World):Calls Tryz.prog 97 #[.int .i64 (n:Int)] w fun e w'=>e=.returned (.string (bT (digitsL n)))∧Bel w w':=by
 go_enter Tryz.func97,Tryz.ntmps97
 go_wp2_with fail
 go_loopg [0,3] n (fun gg v0 v3 wr=>∃(x:Nat) (ds:List UInt8),v0=.int .i64 x∧v3=.string (bT ds)∧x=gg∧ds.length≤8∧Hid (digitsL n=digitsL x++ds∧x*10^ds.length≤n∧Bel w wr))
 case atStart=>exact⟨n,[],rfl,rfl,rfl,by decide,hid ⟨by simp,by simp,Bel.refl w⟩⟩
 case round=>
  obtain⟨x,ds,rfl,rfl,hg,hds,H⟩:=hrel
  have HG:=hid hg
  clear hg
  have hx:x<1000:=by
   have:=H.out.2.1
   have h2:x*1≤x*10^ds.length:=Nat.mul_le_mul_left _ (Nat.pow_pos (by decide))
   omega
  have hd4:10≤x→ds.length≤3:=fun h=>by
   have:=H.out.2.1
   rcases Nat.lt_or_ge 3 ds.length with f|f
   ·have h2:10^4≤10^ds.length:=Nat.pow_le_pow_right (by decide) f
    have h3:x*10^4≤x*10^ds.length:=Nat.mul_le_mul_left _ h2
    omega
   ·exact f
  have sz:(bT ds).size≤8:=by rw[Lib.size_eq];exact hds
  by_cases h16:10≤x
  ·have hd:=decD_mod x
   have hcv:=conv1 (decD (x%10))
   rw[hd]at hcv
   have ad:∀W:World,(Op.stringOp .add (bT [decD (x%10)]) (bT ds)).run Tryz.prog W=.ok (.string (bT [decD (x%10)]++bT ds)) W:=fun W=>run_string_add_sum W _ _ (by show 1+_≤_;omega)
   have he:bT [decD (x%10)]++bT ds=bT (decD (x%10)::ds):=bT_app _ _
   have HE:=hid he
   have HD:=hid (hd4 h16)
   clear he sz hd4
   go_wp2_with fail
   go_roundg (x/10)
   case measure=>have:=HG.out;omega
   case rel=>
    refine⟨x/10,decD (x%10)::ds,by go_num,by rw[HE.out],rfl,by have:=HD.out;rw[List.length_cons];omega,hid ⟨?_,?_,H.out.2.2.alloc _⟩⟩
    ·rw[H.out.1,digitsL_big (by omega)];simp
    ·have:=H.out.2.1
     rw[List.length_cons,Nat.pow_succ,Nat.mul_comm (10^ds.length),←Nat.mul_assoc]
     exact Nat.le_trans (Nat.mul_le_mul_right _ (Nat.div_mul_le_self x 10)) this
  ·have hd:=decD_val x (by omega)
   have hcv:=conv1 (decD x)
   rw[hd]at hcv
   have ad:∀W:World,(Op.stringOp .add (bT [decD x]) (bT ds)).run Tryz.prog W=.ok (.string (bT [decD x]++bT ds)) W:=fun W=>run_string_add_sum W _ _ (by show 1+_≤_;omega)
   have HE:=hid (show bT [decD x]++bT ds=bT (digitsL n) by rw[H.out.1,digitsL_small (by omega)];exact bT_app _ _)
   clear sz hd4
   go_wp2_with fail
   go_ret
   exact⟨by rw[←HE.out];rfl,H.out.2.2.alloc _⟩
theorem hexI2(k:Nat)(h:k<16)(p:k<(⟨#[48,49,50,51,52,53,54,55,56,57,97,98,99,100,101,102]⟩:ByteArray).size):(⟨#[48,49,50,51,52,53,54,55,56,57,97,98,99,100,101,102]⟩:ByteArray)[k]'p=hexD k:=by
 have key:∀k:Fin 16,(#[48,49,50,51,52,53,54,55,56,57,97,98,99,100,101,102]:Array UInt8)[k.val]?=some (hexD k.val):=by decide
 exact(Array.getElem?_eq_some_iff.1 (key ⟨k,h⟩)).2
theorem rhex_run(n:Nat)(hn:n<65536)(w:World):Calls Tryz.prog 164 #[.int .i64 (n:Int)] w fun e w'=>e=.returned (.string (bT (hexL n)))∧Bel w w':=by
 go_enter Tryz.func164,Tryz.ntmps164
 go_wp2_with fail
 go_loopg [0,3] n (fun gg v0 v3 wr=>∃(x:Nat) (ds:List UInt8),v0=.int .i64 x∧v3=.string (bT ds)∧x=gg∧ds.length≤8∧Hid (hexL n=hexL x++ds∧x*16^ds.length≤n∧Bel w wr))
 case atStart=>exact⟨n,[],rfl,rfl,rfl,by decide,hid ⟨by simp,by simp,Bel.refl w⟩⟩
 case round=>
  obtain⟨x,ds,rfl,rfl,hg,hds,H⟩:=hrel
  have HG:=hid hg
  clear hg
  have hx:x<65536:=by
   have:=H.out.2.1
   have h2:x*1≤x*16^ds.length:=Nat.mul_le_mul_left _ (Nat.pow_pos (by decide))
   omega
  have hd4:16≤x→ds.length≤3:=fun h=>by
   have:=H.out.2.1
   rcases Nat.lt_or_ge 3 ds.length with f|f
   ·have h2:16^4≤16^ds.length:=Nat.pow_le_pow_right (by decide) f
    have h3:x*16^4≤x*16^ds.length:=Nat.mul_le_mul_left _ h2
    omega
   ·exact f
  have sz:(bT ds).size≤8:=by rw[Lib.size_eq];exact hds
  by_cases h16:16≤x
  ·have hm0:(0:Int)≤(x:Int)%16:=by omega
   have hm1:(x:Int)%16<16:=by omega
   have hcv:∀(W:World) p,(convert 48 9 (.slice (some ⟨W.heap.size,0,none⟩) 1 1)).run Tryz.prog (W.alloc (.cells #[.int .u8 (((⟨#[48,49,50,51,52,53,54,55,56,57,97,98,99,100,101,102]⟩:ByteArray)[x%16]'p).toNat:Int)] 5))=.ok (.string (bT [hexD (x%16)])) (W.alloc (.cells #[.int .u8 (((⟨#[48,49,50,51,52,53,54,55,56,57,97,98,99,100,101,102]⟩:ByteArray)[x%16]'p).toNat:Int)] 5)):=fun W p=>by rw[hexI2 _ (Nat.mod_lt _ (by decide))];exact conv1 _ W
   have ad:∀W:World,(Op.stringOp .add (bT [hexD (x%16)]) (bT ds)).run Tryz.prog W=.ok (.string (bT [hexD (x%16)]++bT ds)) W:=fun W=>run_string_add_sum W _ _ (by show 1+_≤_;omega)
   have he:bT [hexD (x%16)]++bT ds=bT (hexD (x%16)::ds):=bT_app _ _
   have HE:=hid he
   have HD:=hid (hd4 h16)
   clear he sz hd4
   go_wp2_with fail
   go_roundg (x/16)
   case measure=>have:=HG.out;omega
   case rel=>
    refine⟨x/16,hexD (x%16)::ds,by go_num,by rw[HE.out],rfl,by have:=HD.out;rw[List.length_cons];omega,hid ⟨?_,?_,H.out.2.2.alloc _⟩⟩
    ·rw[H.out.1,hexL_big (by omega)];simp
    ·have:=H.out.2.1
     rw[List.length_cons,Nat.pow_succ,Nat.mul_comm (16^ds.length),←Nat.mul_assoc]
     exact Nat.le_trans (Nat.mul_le_mul_right _ (Nat.div_mul_le_self x 16)) this
  ·have hm1:(x:Int)<16:=by omega
   have hcv:∀(W:World) p,(convert 48 9 (.slice (some ⟨W.heap.size,0,none⟩) 1 1)).run Tryz.prog (W.alloc (.cells #[.int .u8 (((⟨#[48,49,50,51,52,53,54,55,56,57,97,98,99,100,101,102]⟩:ByteArray)[x]'p).toNat:Int)] 5))=.ok (.string (bT [hexD x])) (W.alloc (.cells #[.int .u8 (((⟨#[48,49,50,51,52,53,54,55,56,57,97,98,99,100,101,102]⟩:ByteArray)[x]'p).toNat:Int)] 5)):=fun W p=>by rw[hexI2 _ (by omega)];exact conv1 _ W
   have ad:∀W:World,(Op.stringOp .add (bT [hexD x]) (bT ds)).run Tryz.prog W=.ok (.string (bT [hexD x]++bT ds)) W:=fun W=>run_string_add_sum W _ _ (by show 1+_≤_;omega)
   have HE:=hid (show bT [hexD x]++bT ds=bT (hexL n) by rw[H.out.1,hexL_small (by omega)];exact bT_app _ _)
   clear sz hd4
   go_wp2_with fail
   go_ret
   exact⟨by rw[←HE.out];rfl,H.out.2.2.alloc _⟩
end Go.Proofs.YtmlmkmhkmifnkaaGreatDoor.Ci
namespace Go.Proofs.YtmlmkmhkmifnkaaGreatDoor.Ci
open Go.RowKit
def intVd(n:Nat):Value:=.int .i64 (n:Int)
def gC(gs:List Nat)(k:Nat):List Value:=(gs.take k).map intVd++List.replicate (8-k) (.int .i64 0)
theorem gC_set(gs:List Nat)(k:Nat)(hk:k<8)(hl:k<gs.length):(gC gs k).set k (intVd gs[k])=gC gs (k+1):=by
 unfold gC
 have h1:((gs.take k).map intVd).length=k:=by simp;omega
 rw[List.set_append_right _ _ (by omega),h1,Nat.sub_self,(by omega:8-k=(8-(k+1))+1),List.replicate_succ,List.set_cons_zero,List.take_succ_eq_append_getElem hl,List.map_append,List.append_assoc]
 rfl
structure RefW (w wr:World) (l gs:List Nat) (k:Nat):Prop where
 bel:Bel w wr
 hc:wr.heap[w.heap.size]?=some (.cells (l.map u8V).toArray 84 (0,0))
 hg:wr.heap[w.heap.size+1]?=some (.cells (gC gs k).toArray 3 (0,0))
theorem RefW.next{w wr w':World}{l gs:List Nat}{k:Nat}(h:RefW w wr l gs k)(hx:Bel wr w'):RefW w w' l gs k:=⟨h.bel.trans hx,hx.heap h.hc,hx.heap h.hg⟩
theorem RefW.drew{w wr:World}{l gs:List Nat}{k:Nat}(h:RefW w wr l gs k):RefW w wr.drew l gs k:=⟨h.bel.drew,h.hc,h.hg⟩
theorem RefW.set{w wr:World}{l gs:List Nat}{k:Nat}(h:RefW w wr l gs k)(hk:k<8)(hl:k<gs.length):RefW w (wr.setCell ⟨w.heap.size+1,k,none⟩ (.int .i64 (gs[k]:Int))) l gs (k+1):=by
 refine⟨h.bel.setCell (by omega) _,?_,?_⟩
 ·rw[heap_setCell_other _ _ _ _ (by simp)]
  exact h.hc
 ·rw[heap_setCell_same wr _ _ _ _ _ h.hg,List.setIfInBounds_toArray]
  have:=gC_set gs k hk hl
  unfold intVd at this
  rw[this]
theorem RefW.byte{w wr:World}{l gs:List Nat}{k:Nat}(h:RefW w wr l gs k){i x:Nat}(hx:l[i]?=some x):wr.cell? ⟨w.heap.size,i,none⟩=some (.int .u8 (x:Int)):=by simp[World.cell?,h.hc,u8V,hx]
theorem RefW.place{w W:World}{l gs:List Nat}{k:Nat}(h:RefW w W l gs k)(hk:k<8)(hl:k≤gs.length):W.cell? ⟨w.heap.size+1,k,none⟩=some (.int .i64 0)∧W.frozen? ⟨w.heap.size+1,k,none⟩=false:=by
 refine⟨?_,by simp[World.frozen?,h.hg]⟩
 have:(gC gs k)[k]?=some (.int .i64 0):=by
  unfold gC
  rw[List.getElem?_append_right (by simp;omega),List.length_map,List.length_take,Nat.min_eq_left hl,Nat.sub_self]
  exact List.getElem?_replicate_of_lt (by omega)
 simp[World.cell?,h.hg,this]
theorem RefW.val{w W:World}{l gs:List Nat}(h:RefW w W l gs 8)(hl:gs.length=8){j:Nat}(hj:j<8):W.cell? ⟨w.heap.size+1,j,none⟩=some (.int .i64 ((gs[j]'(by omega):Nat):Int)):=by
 have:(gC gs 8)[j]?=some (.int .i64 ((gs[j]'(by omega):Nat):Int)):=by
  unfold gC
  rw[List.take_of_length_le (by omega),List.getElem?_append_left (by simp;omega)]
  simp[(by omega:j<gs.length),intVd]
 simp[World.cell?,h.hg,this]
def frm(gs:List Nat)(i:Nat):Int:=if(longest gs i).2=1 then -1 else(longest gs i).1
def curF(gs:List Nat)(f m i:Nat):List Nat:=if m=1∨i≤f then gs.take i else(gs.drop (f+m)).take (i-(f+m))
def preF(gs:List Nat)(f m i:Nat):List UInt8:=
 if m=1∨i≤f then Lib.join ((gs.take i).map hexL) [58]
 else Lib.join ((gs.take f).map hexL) [58]++[58,58]++Lib.join (((gs.drop (f+m)).take (i-(f+m))).map hexL) [58]
theorem join_snoc(l:List Nat)(g:Nat):Lib.join ((l++[g]).map hexL) [58]=Lib.join (l.map hexL) [58]++(if l=[]then[]else[58])++hexL g:=by
 cases l with
 |nil=>simp[Lib.join_one,Lib.join_nil]
 |cons a l=>
  rw[List.cons_append,List.map_cons,List.map_cons,Lib.join_cons,Lib.join_cons,List.map_append]
  simp[Lib.joinTail]
theorem join_last(l:List Nat)(h:l≠[]):∃p b,Lib.join (l.map hexL) [58]=p++[b]∧b≠58:=by
 have e:=List.dropLast_concat_getLast h
 have key:∀g,∃p b,hexL g=p++[b]∧b≠58:=fun g=>by
  have e2:=List.dropLast_concat_getLast (hexL_ne g)
  exact⟨_,_,e2.symm,(hexL_ok g _ (List.getLast_mem (hexL_ne g))).2.1⟩
 obtain⟨p,b,hp,hb⟩:=key (l.getLast h)
 refine⟨Lib.join (l.dropLast.map hexL) [58]++(if l.dropLast=[]then[]else[58])++p,b,?_,hb⟩
 rw[←e,join_snoc,hp]
 simp
theorem pre_next(gs:List Nat)(f m i:Nat)(hi:i<gs.length)(hm:m=1∨i<f∨f+m≤i)(hm1:1≤m):preF gs f m (i+1)=preF gs f m i++(if curF gs f m i=[]then[]else[58])++hexL gs[i]:=by
 unfold preF curF
 by_cases h1:m=1∨i<f
 ·have c1:m=1∨i+1≤f:=by omega
  have c2:m=1∨i≤f:=by omega
  simp only[if_pos c1,if_pos c2]
  rw[List.take_succ_eq_append_getElem hi,join_snoc]
 ·have h2:f+m≤i:=by omega
  have c1:¬(m=1∨i+1≤f):=by omega
  have c2:¬(m=1∨i≤f):=by omega
  simp only[if_neg c1,if_neg c2]
  rw[(by omega:i+1-(f+m)=i-(f+m)+1),List.take_succ_eq_append_getElem (by rw[List.length_drop];omega),join_snoc]
  rw[List.getElem_drop]
  simp only[(by omega:f+m+(i-(f+m))=i),List.append_assoc]
theorem pre_row(gs:List Nat)(f m:Nat)(hm:m≠1)(hm1:1≤m):preF gs f m (f+m)=preF gs f m f++[58,58]:=by
 unfold preF
 rw[if_neg (by omega),if_pos (.inr (Nat.le_refl _)),Nat.sub_self,List.take_zero]
 simp[Lib.join_nil]
theorem pre_zero(gs:List Nat)(f m:Nat):preF gs f m 0=[]∧curF gs f m 0=[]:=by
 unfold preF curF
 rw[if_pos (.inr (Nat.zero_le _)),if_pos (.inr (Nat.zero_le _))]
 exact⟨rfl,rfl⟩
theorem pre_last(gs:List Nat)(f m i:Nat)(hi:i≤gs.length)(h0:0<i):∃p b,preF gs f m i=p++[b]∧(curF gs f m i=[]↔b=58):=by
 unfold preF curF
 by_cases h1:m=1∨i≤f
 ·rw[if_pos h1,if_pos h1]
  have hne:gs.take i≠[]:=by
   intro e
   have:=congrArg List.length e
   rw[List.length_take]at this
   simp only[List.length_nil]at this
   omega
  obtain⟨p,b,e,hb⟩:=join_last _ hne
  exact⟨p,b,e,fun f=>absurd f hne,fun f=>absurd f hb⟩
 ·rw[if_neg h1,if_neg h1]
  by_cases hc:(gs.drop (f+m)).take (i-(f+m))=[]
  ·rw[hc]
   exact⟨Lib.join ((gs.take f).map hexL) [58]++[58],58,by simp[Lib.join_nil],fun _=>rfl,fun _=>rfl⟩
  ·obtain⟨p,b,e,hb⟩:=join_last _ hc
   exact⟨Lib.join ((gs.take f).map hexL) [58]++[58,58]++p,b,by rw[e];simp,fun f=>absurd f hc,fun f=>absurd f hb⟩
theorem pre_all(gs:List Nat)(h8:gs.length=8)(h:(longest gs 8).2=1∨(longest gs 8).1+(longest gs 8).2≤8):preF gs (longest gs 8).1 (longest gs 8).2 8=formL gs:=by
 have hp:=longest_pos gs 8
 unfold preF formL
 by_cases h1:(longest gs 8).2=1
 ·rw[if_pos (.inl h1),if_pos h1,List.take_of_length_le (by omega)]
 ·rw[if_neg h1]
  rw[if_neg (by omega),List.take_of_length_le (l:=gs.drop ((longest gs 8).1+(longest gs 8).2)) (by rw[List.length_drop];omega)]
theorem pre_size(gs:List Nat)(hg:∀g∈gs,g<65536)(f m i:Nat)(h8:gs.length=8):(bT (preF gs f m i)).size≤100:=by
 rw[Lib.size_eq]
 show(preF gs f m i).length≤100
 have h1:=join_small (gs.take i) fun x hx=>hg x (List.mem_of_mem_take hx)
 have h2:=join_small (gs.take f) fun x hx=>hg x (List.mem_of_mem_take hx)
 have h3:=join_small ((gs.drop (f+m)).take (i-(f+m))) fun x hx=>hg x (List.mem_of_mem_drop (List.mem_of_mem_take hx))
 simp only[List.length_take,List.length_drop]at h1 h2 h3
 unfold preF
 split
 ·omega
 ·simp only[List.length_append,List.length_cons,List.length_nil]
  omega
theorem last_byte(p:List UInt8)(b:UInt8)(q:(bT (p++[b])).size-1<(bT (p++[b])).size):(bT (p++[b]))[(bT (p++[b])).size-1]'q=b:=by
 show(p++[b]).toArray[(p++[b]).toArray.size-1]'q=b
 simp
theorem form6_run(l:List Nat)(hl:l.length=16)(hx:∀x∈l,x<256)(w:World):
 Calls Tryz.prog 96 #[addrV l] w fun e w'=>e=.returned (.string (bT (formL (groupsOf l))))∧Bel w w':=by
 have hgl:=groupsOf_len 8 l hl
 have hglt:=groupsOf_lt 8 l hl hx
 have hgat:∀i,i<8→∃x y,l[2*i]?=some x∧l[2*i+1]?=some y∧(groupsOf l)[i]?=some (256*x+y):=fun i hi=>⟨_,_,List.getElem?_eq_getElem (by omega),List.getElem?_eq_getElem (by omega),groupsOf_at 8 l hl i hi⟩
 generalize groupsOf l=gs at hgl hglt hgat⊢
 have HA:=hid (And.intro hl (And.intro hx (And.intro hgl (And.intro hglt hgat))))
 unfold addrV
 clear hgat hx hl hgl hglt
 have hmk:∀W:World,(Instr.makeSlice 143 (.int .i64 8) (.int .i64 8)).run Tryz.prog W=.ok (.slice (some ⟨W.heap.size,0,none⟩) 8 8) (W.alloc (.cells #[.int .i64 0,.int .i64 0,.int .i64 0,.int .i64 0,.int .i64 0,.int .i64 0,.int .i64 0,.int .i64 0] 3)):=fun W=>by kernel_rfl
 go_enter Tryz.func96,Tryz.ntmps96
 go_wp2_with fail
 go_loopg [4] 8 (fun gg v4 wr=>∃k:Nat,v4=.int .i64 k∧k+gg=8∧Hid (RefW w wr l gs k))
 case atStart=>
  refine⟨0,rfl,by omega,hid ⟨((Bel.refl w).alloc _).alloc _,?_,?_⟩⟩
  ·exact(Below.heap_alloc _ _ _ (by simp)).trans (heap_alloc_new w _)
  ·exact alloc_second w _ _
 case round=>
  obtain⟨k,rfl,hk,HF⟩:=hrel
  have Hk:=hid hk
  have hkn:k≤8:=by omega
  clear hk
  by_cases hlt:k<8
  ·obtain⟨hl,hx,hgl,hglt,hgat⟩:=HA.out
   obtain⟨x,y,hlx,hly,hgv⟩:=hgat k hlt
   have hx0:=hx x (List.mem_of_getElem? hlx)
   have hx1:=hx y (List.mem_of_getElem? hly)
   have c0:=HF.out.byte hlx
   have c1:=HF.out.byte hly
   obtain⟨c2,f2⟩:=HF.out.place hlt (by omega)
   obtain⟨hlk,hgv⟩:=List.getElem?_eq_some_iff.1 hgv
   have hS:=HF.out.drew.set hlt hlk
   rw[hgv]at hS
   have HS:=hid hS
   clear hgat hgv hx hl hgl hglt hlx hly hS
   go_wp2_with fail
   go_region
   go_wp2_with fail
   go_roundg (gk-1)
   case measure=>have:=Hk.out;omega
   case rel=>exact⟨k+1,by go_num,by have:=Hk.out;omega,HS⟩
  ·obtain rfl:k=8:=by omega
   rw[show((8:Nat):Int)=8 from rfl]
   go_wp2_with fail
   go_loopg [5,6,7] 8 (fun gg v5 v6 v7 wq=>∃i:Nat,v5=.int .i64 (frm gs i)∧v6=.int .i64 (longest gs i).2∧v7=.int .i64 i∧i+gg=8∧Hid (RefW w wq l gs 8))
   case atStart=>exact⟨0,rfl,rfl,rfl,by omega,HF⟩
   case round=>
    clear HF Hk hkn hlt
    obtain⟨i,rfl,rfl,rfl,hi,HF⟩:=hrel
    have Hi:=hid hi
    have hin:i≤8:=by omega
    clear hi
    by_cases hlt:i<8
    ·obtain⟨wo,hwo⟩:∃wo,wo=wr:=⟨_,rfl⟩
     rw[←hwo]at HF⊢
     clear hwo
     obtain⟨gq,hgq⟩:∃gq,gq=gk:=⟨gk,rfl⟩
     have HQ:=hid hgq
     clear hgq
     have d8:decide ((i:Int)<8)=true:=decide_eq_true (by omega)
     have hl1:=longest_pos gs i
     go_wp2_with fail
     go_loopg [8] (zerosAt gs i) (fun gg v8 wq=>∃n:Nat,v8=.int .i64 n∧n+gg=zerosAt gs i∧wq=wo)
     case atStart=>exact⟨0,rfl,by omega,rfl⟩
     case round=>
      obtain⟨n,rfl,hn,rfl⟩:=hrel
      have hz8:=zeros_le gs i
      have hl8:=HA.out.2.2.1
      have hn8:i+n≤8:=by omega
      have hnz:n≤zerosAt gs i:=by omega
      have Hn:=hid hn
      have hL1:longest gs (i+1)=if(longest gs i).2<zerosAt gs i then(i,zerosAt gs i)else longest gs i:=rfl
      by_cases hz:n<zerosAt gs i
      ·have hin2:i+n<8:=by omega
       have c0:=HF.out.val hl8 hin2
       have d0:(((gs[i+n]'(by omega):Nat):Int)==0)=true:=by
        rw[(zeros_step gs i n hnz (by omega)).2 hz]
        rfl
       generalize gs[i+n]'(by omega)=v at c0 d0
       clear hn hL1 hl8 hz8 hnz
       go_wp2_with fail
       go_roundg (gk-1)
       case measure=>have:=Hn.out;omega
       case rel=>exact⟨n+1,by go_num,by have:=Hn.out;omega,rfl⟩
      ·have hzn:zerosAt gs i=n:=by omega
       rw[hzn]at hL1
       have HL:=hid hL1
       clear hn Hn hz hnz hL1
       by_cases hin2:i+n<8
       ·have c0:=HF.out.val hl8 hin2
        have d0:(((gs[i+n]'(by omega):Nat):Int)==0)=false:=by
         rw[beq_eq_false_iff_ne]
         intro f
         have:=(zeros_step gs i n (by omega) (by omega)).1 (by omega)
         omega
        generalize gs[i+n]'(by omega)=v at c0 d0
        clear hl8 hz8 hzn
        by_cases hm:(longest gs i).2<n
        ·have h1:longest gs (i+1)=(i,n):=by rw[HL.out,if_pos hm]
         have HM:=hid (show frm gs (i+1)=(i:Int)∧(longest gs (i+1)).2=n from⟨by unfold frm;rw[h1];exact if_neg (by omega),by rw[h1]⟩)
         clear h1
         go_wp2_with fail
         go_roundg (gq-1)
         case measure=>have:=Hi.out;have:=HQ.out;omega
         case rel=>exact⟨i+1,by rw[HM.out.1],by rw[HM.out.2],by go_num,by have:=Hi.out;have:=HQ.out;omega,HF⟩
        ·have h1:longest gs (i+1)=longest gs i:=by rw[HL.out,if_neg hm]
         have HM:=hid (show frm gs (i+1)=frm gs i∧(longest gs (i+1)).2=(longest gs i).2 from⟨by unfold frm;rw[h1],by rw[h1]⟩)
         clear h1
         go_wp2_with fail
         go_roundg (gq-1)
         case measure=>have:=Hi.out;have:=HQ.out;omega
         case rel=>exact⟨i+1,by rw[HM.out.1],by rw[HM.out.2],by go_num,by have:=Hi.out;have:=HQ.out;omega,HF⟩
       ·clear hl8 hz8 hzn
        by_cases hm:(longest gs i).2<n
        ·have h1:longest gs (i+1)=(i,n):=by rw[HL.out,if_pos hm]
         have HM:=hid (show frm gs (i+1)=(i:Int)∧(longest gs (i+1)).2=n from⟨by unfold frm;rw[h1];exact if_neg (by omega),by rw[h1]⟩)
         clear h1
         go_wp2_with fail
         go_roundg (gq-1)
         case measure=>have:=Hi.out;have:=HQ.out;omega
         case rel=>exact⟨i+1,by rw[HM.out.1],by rw[HM.out.2],by go_num,by have:=Hi.out;have:=HQ.out;omega,HF⟩
        ·have h1:longest gs (i+1)=longest gs i:=by rw[HL.out,if_neg hm]
         have HM:=hid (show frm gs (i+1)=frm gs i∧(longest gs (i+1)).2=(longest gs i).2 from⟨by unfold frm;rw[h1],by rw[h1]⟩)
         clear h1
         go_wp2_with fail
         go_roundg (gq-1)
         case measure=>have:=Hi.out;have:=HQ.out;omega
         case rel=>exact⟨i+1,by rw[HM.out.1],by rw[HM.out.2],by go_num,by have:=Hi.out;have:=HQ.out;omega,HF⟩
    ·obtain rfl:i=8:=by omega
     go_wp2_with fail
     obtain⟨-,-,hl8,hglt,-⟩:=HA.out
     have hrow:=longest_row gs 8
     have hpos:=longest_pos gs 8
     have hfm:(longest gs 8).2=1∨(longest gs 8).1+(longest gs 8).2≤8:=by
      rcases hrow with f|⟨f,f2⟩
      ·exact .inl f
      ·have:=zeros_le gs (longest gs 8).1
       omega
     have hq:=pre_all gs hl8 hfm
     have hfr:frm gs 8=if(longest gs 8).2=1 then -1 else((longest gs 8).1:Int):=rfl
     generalize frm gs 8=fr at hfr⊢
     clear hrow
     generalize (longest gs 8).1=f at hfm hq hfr⊢
     generalize (longest gs 8).2=m at hfm hq hfr hpos⊢
     have HQ:=hid hq
     have HFR:=hid hfr
     have HL8:=hid (And.intro hl8 hglt)
     clear hq hfr hl8 hglt hin hlt Hi
     go_loopg [9,10] 8 (fun gg v9 v10 wq=>∃i:Nat,v9=.string (bT (preF gs f m i))∧v10=.int .i64 i∧i+gg=8∧(m=1∨i≤f∨f+m≤i)∧Hid (RefW w wq l gs 8))
     case atStart=>exact⟨0,by rw[(pre_zero gs f m).1];rfl,rfl,by omega,by omega,HF⟩
     case round=>
      clear HF
      obtain⟨i,rfl,rfl,hi,him,HF⟩:=hrel
      have Hi:=hid hi
      have hin:i≤8:=by omega
      clear hi
      by_cases hlt:i<8
      ·by_cases hrow:m≠1∧i=f
       ·obtain⟨hm1,rfl⟩:=hrow
        have dr:((i:Int)==fr)=true:=by
         rw[HFR.out,if_neg hm1]
         exact beq_iff_eq.2 rfl
        have hfm2:i+m≤8:=by omega
        have HE:=hid (pre_row gs i m hm1 hpos)
        have hsz:=pre_size gs HL8.out.2 i m i HL8.out.1
        generalize hS:bT (preF gs i m i)=S at hsz⊢
        have ad1:∀W:World,(Op.stringOp .add S ⟨#[58,58]⟩).run Tryz.prog W=.ok (.string (S++⟨#[58,58]⟩)) W:=fun W=>run_string_add_sum W _ _ (by show _+2≤_;omega)
        have HSE:=hid (show S++⟨#[58,58]⟩=bT (preF gs i m (i+m)) by rw[HE.out,←hS];exact bT_app _ _)
        clear hS hsz hm1 him hfm HE
        go_wp2_with fail
        go_roundg (gk-m)
        case measure=>have:=Hi.out;omega
        case rel=>exact⟨i+m,by rw[HSE.out],by go_num,by have:=Hi.out;omega,.inr (.inr (Nat.le_refl _)),HF⟩
       ·have him2:m=1∨i<f∨f+m≤i:=by omega
        have dr:((i:Int)==fr)=false:=by
         rw[HFR.out,beq_eq_false_iff_ne]
         split
         ·omega
         ·omega
        have hi8:i<gs.length:=by have:=HL8.out.1;omega
        have hnx:=pre_next gs f m i hi8 him2 hpos
        have hv:=HL8.out.2 _ (List.getElem_mem hi8)
        have c0:=HF.out.val HL8.out.1 hlt
        generalize gs[i]=v at hnx hv c0
        have HX:=(show Hid (∀W,Calls Tryz.prog 164 #[.int .i64 (v:Int)] W fun e w'=>e=.returned (.string (bT (hexL v)))∧Bel W w')from fun W=>rhex_run v hv W)
        have hsz:=pre_size gs HL8.out.2 f m i HL8.out.1
        have hsv:(bT (hexL v)).size≤4:=by rw[Lib.size_eq];exact(hexL_len 3 v hv).2
        have hnim:m=1∨i+1≤f∨f+m≤i+1:=by omega
        rcases Nat.eq_zero_or_pos i with hz|hz
        ·have hc:curF gs f m i=[]:=by rw[hz];exact(pre_zero gs f m).2
         have hS:bT (preF gs f m i)=⟨#[]⟩:=by rw[hz,(pre_zero gs f m).1];rfl
         clear hz
         rw[hS]at hsz⊢
         have ad2:∀W:World,(Op.stringOp .add ⟨#[]⟩ (bT (hexL v))).run Tryz.prog W=.ok (.string (⟨#[]⟩++bT (hexL v))) W:=fun W=>run_string_add_sum W _ _ (by show 0+_≤_;omega)
         have HSE:=hid (show(⟨#[]⟩:ByteArray)++bT (hexL v)=bT (preF gs f m (i+1)) by
          rw[hnx,if_pos hc,←hS,bT_app,List.append_nil])
         have HNI:=hid hnim
         clear hnx hc hS hsz hsv hnim him him2 hrow hfm hv hi8
         go_wp2_with fail
         refine(HX.out _).mono ?_
         rintro e w3 ⟨rfl,hb3⟩
         have HF3:=hid (HF.out.next hb3)
         clear HF hb3 HX c0
         go_wp2_with fail
         go_roundg (gk-1)
         case measure=>have:=Hi.out;omega
         case rel=>exact⟨i+1,by rw[HSE.out],by go_num,by have:=Hi.out;omega,HNI.out,HF3⟩
        ·obtain⟨p,b,hpb,hcb⟩:=pre_last gs f m i (by omega) hz
         have hse:(bT (preF gs f m i)).toList.isEmpty=false:=by
          rw[hpb,Lib.toList_data]
          show(p++[b]).isEmpty=false
          simp
         have hs1:1≤(bT (preF gs f m i)).size:=by
          rw[hpb,Lib.size_eq]
          show 1≤(p++[b]).length
          simp
         have hlb:∀q,(bT (preF gs f m i))[(bT (preF gs f m i)).size-1]'q=b:=by rw[hpb];exact last_byte p b
         by_cases hc:curF gs f m i=[]
         ·have hb:b=58:=hcb.1 hc
          have dl:∀q,((((bT (preF gs f m i))[(bT (preF gs f m i)).size-1]'q).toNat:Int) !=58)=false:=fun q=>by rw[hlb q,hb];rfl
          clear hlb hpb hcb hb
          generalize hS:bT (preF gs f m i)=S at hse hs1 dl hsz⊢
          have i0:(0:Int)≤(S.size:Int)-1:=by omega
          have i1:(S.size:Int)-1<(S.size:Int):=by omega
          have ad2:∀W:World,(Op.stringOp .add (S) (bT (hexL v))).run Tryz.prog W=.ok (.string (S++bT (hexL v))) W:=fun W=>run_string_add_sum W _ _ (by omega)
          have HSE:=hid (show S++bT (hexL v)=bT (preF gs f m (i+1)) by
           rw[hnx,if_pos hc,←hS]
           rw[bT_app,List.append_nil])
          have HNI:=hid hnim
          clear hnx hc hS hsv hnim him him2 hrow hfm hv hi8
          go_wp2_with fail
          refine(HX.out _).mono ?_
          rintro e w3 ⟨rfl,hb3⟩
          have HF3:=hid (HF.out.next hb3)
          clear HF hb3 HX c0
          go_wp2_with fail
          go_roundg (gk-1)
          case measure=>have:=Hi.out;omega
          case rel=>exact⟨i+1,by rw[HSE.out],by go_num,by have:=Hi.out;omega,HNI.out,HF3⟩
         ·have hb:b≠58:=fun f=>hc (hcb.2 f)
          have dl:∀q,((((bT (preF gs f m i))[(bT (preF gs f m i)).size-1]'q).toNat:Int) !=58)=true:=fun q=>by
           rw[hlb q,bne_iff_ne]
           intro f
           exact hb (UInt8.toNat_inj.1 (by have:(58:UInt8).toNat=58:=rfl;omega))
          clear hlb hpb hcb hb
          generalize hS:bT (preF gs f m i)=S at hse hs1 dl hsz⊢
          have i0:(0:Int)≤(S.size:Int)-1:=by omega
          have i1:(S.size:Int)-1<(S.size:Int):=by omega
          have ad1:∀W:World,(Op.stringOp .add S ⟨#[58]⟩).run Tryz.prog W=.ok (.string (S++⟨#[58]⟩)) W:=fun W=>run_string_add_sum W _ _ (by show _+1≤_;omega)
          have ad2:∀W:World,(Op.stringOp .add (S++⟨#[58]⟩) (bT (hexL v))).run Tryz.prog W=.ok (.string (S++⟨#[58]⟩++bT (hexL v))) W:=fun W=>run_string_add_sum W _ _ (by rw[ByteArray.size_append];show _+1+_≤_;omega)
          have HSE:=hid (show S++⟨#[58]⟩++bT (hexL v)=bT (preF gs f m (i+1)) by
           rw[hnx,if_neg hc,←hS]
           show bT _++bT [58]++bT _=_
           rw[bT_app,bT_app])
          have HNI:=hid hnim
          clear hnx hc hS hsv hnim him him2 hrow hfm hv hi8
          go_wp2_with fail
          refine(HX.out _).mono ?_
          rintro e w3 ⟨rfl,hb3⟩
          have HF3:=hid (HF.out.next hb3)
          clear HF hb3 HX c0
          go_wp2_with fail
          go_roundg (gk-1)
          case measure=>have:=Hi.out;omega
          case rel=>exact⟨i+1,by rw[HSE.out],by go_num,by have:=Hi.out;omega,HNI.out,HF3⟩
      ·obtain rfl:i=8:=by omega
       rw[HQ.out]
       go_wp2_with fail
       go_ret
       exact⟨rfl,HF.out.bel⟩
end Go.Proofs.YtmlmkmhkmifnkaaGreatDoor.Ci