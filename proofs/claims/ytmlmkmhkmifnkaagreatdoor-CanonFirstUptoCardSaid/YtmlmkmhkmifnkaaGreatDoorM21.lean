import Derived.Test.YtmlmkmhkmifnkaaGreatDoorM20
set_option maxHeartbeats 16000000
set_option maxRecDepth 1000000
namespace Go.Proofs.YtmlmkmhkmifnkaaGreatDoor.Ci
open Go.RowKit
theorem rsix_run(s:ByteArray)(w:World)(hs:s.size<4294967281):
 Calls Tryz.prog 94 #[.string s] w (NetPost (sixQ s.data.toList) w):=by
 have hl:s.data.toList.length=s.size:=by rw[Lib.size_eq]
 have hq:=sixQ_eq s.data.toList
 generalize hoz:sixQ s.data.toList=o
 rw[hoz]at hq
 have HO:=hid hq
 clear hoz hq
 have HL:=hid hl
 have HF0:=hid (sixR_fits [] (by decide) (fun x hx=>by cases hx))
 go_enter Tryz.func94,Tryz.ntmps94
 go_upto_region 1 with(fail)
 have HE:=hid (show Bel w (w.alloc (.cells #[.bool false,.int .i64 0,.int .u8 0,.int .u8 0,.int .u8 0,.int .u8 0,.int .u8 0,.int .u8 0,.int .u8 0,.int .u8 0,.int .u8 0,.int .u8 0,.int .u8 0,.int .u8 0,.int .u8 0,.int .u8 0,.int .u8 0,.int .u8 0] 86))∧(w.alloc (.cells #[.bool false,.int .i64 0,.int .u8 0,.int .u8 0,.int .u8 0,.int .u8 0,.int .u8 0,.int .u8 0,.int .u8 0,.int .u8 0,.int .u8 0,.int .u8 0,.int .u8 0,.int .u8 0,.int .u8 0,.int .u8 0,.int .u8 0,.int .u8 0] 86)).heap[w.heap.size]?=some (.cells (netC zeroN).toArray 86 (0,0))from⟨(Bel.refl w).alloc _,heap_alloc_new w _⟩)
 generalize (w.alloc (.cells #[.bool false,.int .i64 0,.int .u8 0,.int .u8 0,.int .u8 0,.int .u8 0,.int .u8 0,.int .u8 0,.int .u8 0,.int .u8 0,.int .u8 0,.int .u8 0,.int .u8 0,.int .u8 0,.int .u8 0,.int .u8 0,.int .u8 0,.int .u8 0] 86))=e0 at HE⊢
 have P:=hid (put_net e0 (sixR []) HF0.out.len)
 have HZ0:=hid (net_len (sixR []) HF0.out.len)
 go_upto_region 2 with(first
  | (refine wpList_store_mid rfl 86 (.tmp 4) (.tmp 15) rfl e0.heap.size 0 (netC (sixR [])).toArray rfl rfl ?_ (by rw[List.size_toArray];exact HZ0.out) (netC_one _) ?_;exact there_net e0 (sixR []) HF0.out.len))
 generalize ((e0.alloc (.cells #[.bool false,.int .i64 0,.int .u8 0,.int .u8 0,.int .u8 0,.int .u8 0,.int .u8 0,.int .u8 0,.int .u8 0,.int .u8 0,.int .u8 0,.int .u8 0,.int .u8 0,.int .u8 0,.int .u8 0,.int .u8 0,.int .u8 0,.int .u8 0] 86)).setCells e0.heap.size 0 (netC (sixR [])))=w2 at P⊢
 have HX:=hid (show Bel w w2∧w2.heap[w.heap.size]?=some (.cells (netC zeroN).toArray 86 (0,0))∧w2.heap[e0.heap.size]?=some (.cells (netC (sixR [])).toArray 86 (0,0))from⟨HE.out.1.trans P.out.1,P.out.1.heap HE.out.2,P.out.2⟩)
 have HEz:=hid HE.out.2
 clear HZ0 P HE hl
 go_wp2_with fail
 go_loop [5,6] (fun v5 v6=>∃(at_:Int) (k:Nat),v5=.int .i64 at_∧v6=.int .i64 k∧k≤s.size∧((at_= -1∧Hid (∀j,j<k→Lib.occAt s.data.toList [58,58] j=false))∨(∃m:Nat,at_=m∧m+2≤s.size∧Hid (Lib.cut s.data.toList [58,58]=(s.data.toList.take m,s.data.toList.drop (m+2),true)))))
  (fun _ v6=>s.size-(intOf v6).toNat)
 case atStart=>exact⟨-1,0,rfl,rfl,Nat.zero_le _,.inl ⟨rfl,hid fun j hj=>by omega⟩⟩
 case round=>
  obtain⟨at_,k,rfl,rfl,hk,hcase⟩:=hrel
  rcases hcase with⟨rfl,HN⟩|⟨m,rfl,hm,HC⟩
  ·by_cases hk1:k+1<s.size
   ·have hkn:k<s.size:=by omega
    have HO2:=hid (occ2 s.data.toList k (by rw[HL.out];exact hk1))
    have HS0:=hid (show s.data.toList[k]'(by rw[HL.out];omega)=s[k]'hkn from rfl)
    have HS1:=hid (show s.data.toList[k+1]'(by rw[HL.out];exact hk1)=s[k+1]'hk1 from rfl)
    have d1:decide ((k:Int)+1<(s.size:Int))=true:=decide_eq_true (by omega)
    by_cases h0:s[k]'hkn=58∧s[k+1]'hk1=58
    ·have b0:(((s[k]'hkn).toNat:Int)==58)=true:=by rw[h0.1];rfl
     have b1:(((s[k+1]'hk1).toNat:Int)==58)=true:=by rw[h0.2];rfl
     have HC:=hid (cut_found s.data.toList k (by rw[HL.out];omega) (by rw[HO2.out,HS0.out,HS1.out,h0.1,h0.2];rfl) HN.out)
     clear h0
     go_wp2_with fail
     go_round
     case rel=>exact⟨k,k+1,by go_num,by go_num,by omega,.inr ⟨k,rfl,by omega,HC⟩⟩
     case measure=>simp[intOf]<;>omega
    ·have HNN:=hid (show∀j,j<k+1→Lib.occAt s.data.toList [58,58] j=false from fun j hj=>by
      by_cases hjk:j<k
      ·exact HN.out j hjk
      ·obtain rfl:j=k:=by omega
       rw[HO2.out,HS0.out,HS1.out,Bool.eq_false_iff]
       intro f
       rw[Bool.and_eq_true,beq_iff_eq,beq_iff_eq]at f
       exact h0 f)
     by_cases h1:s[k]'hkn=58
     ·have b0:(((s[k]'hkn).toNat:Int)==58)=true:=by rw[h1];rfl
      have b1:(((s[k+1]'hk1).toNat:Int)==58)=false:=by
       rw[beq_eq_false_iff_ne]
       intro f
       exact h0 ⟨h1,UInt8.toNat_inj.1 (by have:(58:UInt8).toNat=58:=rfl;omega)⟩
      clear h0 h1
      go_wp2_with fail
      go_round
      case rel=>exact⟨-1,k+1,rfl,by go_num,by omega,.inl ⟨rfl,HNN⟩⟩
      case measure=>simp[intOf]<;>omega
     ·have b0:(((s[k]'hkn).toNat:Int)==58)=false:=by
       rw[beq_eq_false_iff_ne]
       intro f
       exact h1 (UInt8.toNat_inj.1 (by have:(58:UInt8).toNat=58:=rfl;omega))
      clear h0 h1
      go_wp2_with fail
      go_round
      case rel=>exact⟨-1,k+1,rfl,by go_num,by omega,.inl ⟨rfl,HNN⟩⟩
      case measure=>simp[intOf]<;>omega
   ·have d1:decide ((k:Int)+1<(s.size:Int))=false:=decide_eq_false (by omega)
    have hcut:=cut_lost s.data.toList k (by rw[HL.out];exact hk1) HN.out
    have ho:=HO.out
    rw[hcut]at ho
    obtain⟨o1,h1⟩:∃o1,o1=groupsL s.data.toList:=⟨_,rfl⟩
    obtain⟨o2,h2⟩:∃o2,o2=groupsL (⟨#[]⟩:ByteArray).data.toList:=⟨_,rfl⟩
    have HOs:=hid (show o1=groupsL s.data.toList∧o2=groupsL (⟨#[]⟩:ByteArray).data.toList∧o=sixM o1 o2 false from⟨h1,h2,by rw[ho,h1,h2]⟩)
    clear ho hcut h1 h2 HO HN
    have HG1:=(show Hid (∀W,Calls Tryz.prog 162 #[.string s] W (RGPost o1 W))from fun W=>by rw[HOs.out.1];exact rgroups_run _ W (by omega))
    have HG2:=(show Hid (∀W,Calls Tryz.prog 162 #[.string ⟨#[]⟩] W (RGPost o2 W))from fun W=>by rw[HOs.out.2.1];exact rgroups_run ⟨#[]⟩ W (by decide))
    go_wp2_with fail
    refine(HG1.out _).mono ?_
    intro e w3 hp
    obtain⟨x1,n1,p1,rfl,hb3,hg1⟩:=hp.out
    have H1:=hid (And.intro hb3 hg1)
    clear hp hb3 hg1
    go_wp2_with fail
    refine(HG2.out _).mono ?_
    intro e w4 hp
    obtain⟨x2,n2,p2,rfl,hb4,hg2⟩:=hp.out
    have H2:=hid (And.intro hb4 hg2)
    clear hp hb4 hg2 HG1 HG2
    have H4:=hid (show Bel w w4∧w4.heap[w.heap.size]?=some (.cells (netC zeroN).toArray 86 (0,0))∧w4.heap[e0.heap.size]?=some (.cells (netC (sixR [])).toArray 86 (0,0))from⟨HX.out.1.trans (H1.out.1.trans H2.out.1),(H1.out.1.trans H2.out.1).heap HX.out.2.1,(H1.out.1.trans H2.out.1).heap HX.out.2.2⟩)
    cases o1 with
    |none=>
     have hn:o=none:=by rw[HOs.out.2.2];rfl
     subst hn
     clear H1 H2 HX
     have HZ:=hid (net_len (sixR []) (HF0.out).len)
     have HT:=hid (show w4.there w.heap.size 0 (netC (sixR [])).toArray.size from there_of (cs:=netC zeroN) H4.out.2.1 (by rw[List.size_toArray,netC_len _ (HF0.out).len];decide))
     go_wp2_with (first
      | (refine wpList_load_mid rfl 86 (.tmp 4) rfl e0.heap.size 0 rfl (netC (sixR [])) _ ?_ Tryz.underlying86 rfl HZ.out ?_;exact range_net H4.out.2.2)
      | (refine wpList_store_mid rfl 86 (.tmp 2) (.tmp 86) rfl w.heap.size 0 (netC (sixR [])).toArray rfl rfl ?_ (by rw[List.size_toArray];exact HZ.out) (netC_one _) ?_;exact HT.out))
     have hl2:=run_loadVar_mid (P:=Tryz.prog) (w4.setCells w.heap.size 0 (netC (sixR []))) w.heap.size 0 86 (netC (sixR [])) _ (World.rangeAt_setCells_same _ _ _ _ (by simpa using HT.out)) Tryz.underlying86 rfl HZ.out
     refine bodyPost_ret (v:=.tuple #[netV (sixR []),.bool false]) (by simp[results,Tryz.results94,asAddr,hl2,netV]) rfl ⟨⟨sixR [],HF0.out,rfl,fun m hm=>by cases hm⟩,Bel.setCells (Nat.le_refl _) _ _ _ H4.out.1⟩
    |some a=>
     cases o2 with
     |none=>
      have hn:o=none:=by rw[HOs.out.2.2];rfl
      subst hn
      clear H1 H2 HX
      have HZ:=hid (net_len (sixR []) (HF0.out).len)
      have HT:=hid (show w4.there w.heap.size 0 (netC (sixR [])).toArray.size from there_of (cs:=netC zeroN) H4.out.2.1 (by rw[List.size_toArray,netC_len _ (HF0.out).len];decide))
      go_wp2_with (first
       | (refine wpList_load_mid rfl 86 (.tmp 4) rfl e0.heap.size 0 rfl (netC (sixR [])) _ ?_ Tryz.underlying86 rfl HZ.out ?_;exact range_net H4.out.2.2)
       | (refine wpList_store_mid rfl 86 (.tmp 2) (.tmp 86) rfl w.heap.size 0 (netC (sixR [])).toArray rfl rfl ?_ (by rw[List.size_toArray];exact HZ.out) (netC_one _) ?_;exact HT.out))
      have hl2:=run_loadVar_mid (P:=Tryz.prog) (w4.setCells w.heap.size 0 (netC (sixR []))) w.heap.size 0 86 (netC (sixR [])) _ (World.rangeAt_setCells_same _ _ _ _ (by simpa using HT.out)) Tryz.underlying86 rfl HZ.out
      refine bodyPost_ret (v:=.tuple #[netV (sixR []),.bool false]) (by simp[results,Tryz.results94,asAddr,hl2,netV]) rfl ⟨⟨sixR [],HF0.out,rfl,fun m hm=>by cases hm⟩,Bel.setCells (Nat.le_refl _) _ _ _ H4.out.1⟩
     |some b=>
      have HN:=hid (And.intro (H1.out.2 a rfl).1 (H2.out.2 b rfl).1)
      have HA:=hid (And.intro (own_bel (H1.out.2 a rfl).2 H2.out.1) (own_base (base':=w2.heap.size) (H2.out.2 b rfl).2 H1.out.1.size))
      have HQ:=hid HOs.out.2.2
      have HV:=hid (And.intro (groupsL_lt HOs.out.1.symm).2 (groupsL_lt HOs.out.2.1.symm).2)
      have hb0:b=[]:=by
       have:=HOs.out.2.1
       exact Option.some.inj this
      have hbl:b.length=0:=by rw[hb0];rfl
      clear H1 H2 HOs
      by_cases hc:a.length=8
      ·have hab:a.length+b.length≤8:=by omega
       have HQo:=hid (show o=some (⟨true,128,bytesL (allR a b)⟩:Nt) by
        rw[HQ.out]
        show(if false=true then(if a.length+b.length≤7 then some (⟨true,128,bytesL (allR a b)⟩:Nt)else none)else(if a.length=8 then some ⟨true,128,bytesL a⟩else none))=_
        rw[if_neg (by decide),if_pos hc,hb0];unfold allR;rw[hc];simp)
       have hn1:n1=a.length:=HN.out.1
       have hn2:n2=b.length:=HN.out.2
       have hn18:n1≤8:=by omega
       have hn28:n2≤8:=by omega
       have d8:((n1:Int) !=8)=false:=by rw[hn1,hc];rfl
       have HN12:=hid (And.intro hn1 hn2)
       have HAB:=hid hab
       have hwn:Int.toNat (n1:Int)=n1:=Int.toNat_natCast _
       have hmk:∀W:World,(Instr.makeSlice 143 (.int .i64 8) (.int .i64 8)).run Tryz.prog W=.ok (.slice (some ⟨W.heap.size,0,none⟩) 8 8) (W.alloc (.cells #[.int .i64 0,.int .i64 0,.int .i64 0,.int .i64 0,.int .i64 0,.int .i64 0,.int .i64 0,.int .i64 0] 3)):=fun W=>by kernel_rfl
       clear hn1 hn2 hc hab HX HQ hb0 hbl
       go_upto_region 18 with(fail)
       have HM:=hid (show Bel w4 (w4.alloc (.cells #[.int .i64 0,.int .i64 0,.int .i64 0,.int .i64 0,.int .i64 0,.int .i64 0,.int .i64 0,.int .i64 0] 3))∧(w4.alloc (.cells #[.int .i64 0,.int .i64 0,.int .i64 0,.int .i64 0,.int .i64 0,.int .i64 0,.int .i64 0,.int .i64 0] 3)).heap[w4.heap.size]?=some (.cells ((allR [] []).map intV).toArray 3 (0,0))from⟨(Bel.refl w4).alloc _,heap_alloc_new w4 _⟩)
       clear hmk
       generalize (w4.alloc (.cells #[.int .i64 0,.int .i64 0,.int .i64 0,.int .i64 0,.int .i64 0,.int .i64 0,.int .i64 0,.int .i64 0] 3))=w5 at HM⊢
       obtain⟨dp,hdp,hsl⟩:=slice8 w4.heap.size n2 hn28
       have HDP:=hid hdp
       have HA5:=hid (And.intro (own_bel HA.out.1 HM.out.1) (own_bel HA.out.2 HM.out.1))
       clear hdp
       go_upto_region 19 with(refine copy_keep rfl (.tmp 88) (.tmp 89) 143 143 rfl 3 Tryz.underlying143 int_size (some ⟨w4.heap.size,0,none⟩) x1 8 8 n1 p1 rfl rfl w4.heap.size 0 ((allR [] []).map intV) 3 HM.out.2 (a.map intV) ?_ (fun hp=>⟨rfl,row_src HA5.out.1 hp⟩) ?_ (ints_one _) ?_)
       ·rw[List.length_map,←HN12.out.1];exact(Nat.min_eq_left hn18).symm
       ·rw[List.length_map,List.length_map,allR_len [] [] (by decide),←HN12.out.1];omega
       intro w6 hc6 hk6 hB6
       have H6:=hid (show Bel w4 w6∧w6.heap[w4.heap.size]?=some (.cells ((allR a []).map intV).toArray 3 (0,0))from⟨hB6 _ _ HM.out.1 (Nat.le_refl _),by rw[hc6.out,splice_one]⟩)
       have HA6:=hid (own_bel HA.out.2 H6.out.1)
       clear hc6 hk6 hB6 HM HA5 HA
       go_upto_region 20 with(refine copy_keep rfl (.tmp 95) (.tmp 96) 143 143 rfl 3 Tryz.underlying143 int_size (some dp) x2 n2 n2 n2 p2 rfl rfl w4.heap.size (8-n2) ((allR a []).map intV) 3 H6.out.2 (b.map intV) ?_ (fun hp=>⟨?_,row_src HA6.out hp⟩) ?_ (ints_one _) ?_)
       ·rw[List.length_map,←HN12.out.2];exact(Nat.min_eq_left (Nat.le_refl _)).symm
       ·rw[HDP.out (by rw[List.length_map,←HN12.out.2]at hp;exact hp)]
       ·rw[List.length_map,List.length_map,allR_len a [] (by have:=HAB.out;simp;omega),←HN12.out.2];omega
       intro w7 hc7 hk7 hB7
       have hg0:e0.heap.size<w4.heap.size:=by
        have:=(Array.getElem?_eq_some_iff.1 H4.out.2.2).1
        exact this
       have hg1:w.heap.size<w4.heap.size:=(Array.getElem?_eq_some_iff.1 H4.out.2.1).1
       have H7:=hid (show Bel w4 w7∧w7.heap[w4.heap.size]?=some (.cells ((allR a b).map intV).toArray 3 (0,0))from⟨hB7 _ _ H6.out.1 (Nat.le_refl _),by rw[hc7.out,HN12.out.2,splice_two a b HAB.out]⟩)
       clear hc7 hk7 hB7 H6 HA6 HDP hsl
       have HVV:=hid (show(allR a b).length=8∧∀g∈allR a b,g<65536 from⟨allR_len a b HAB.out,fun g hg=>by
        unfold allR at hg
        rcases List.mem_append.1 hg with f|f
        ·rcases List.mem_append.1 f with f|f
         ·exact HV.out.1 g f
         ·obtain⟨-,rfl⟩:=List.mem_replicate.1 f;decide
        ·exact HV.out.2 g f⟩)
       generalize allR a b=V at HVV H7 HQo
       have H0:=hid (show Bel w w7∧w7.heap[w.heap.size]?=some (.cells (netC zeroN).toArray 86 (0,0))∧w7.heap[e0.heap.size]?=some (.cells (netC (sixR (V.take 0))).toArray 86 (0,0))∧w7.heap[w4.heap.size]?=some (.cells (V.map intV).toArray 3 (0,0))from
        ⟨H4.out.1.trans H7.out.1,H7.out.1.heap H4.out.2.1,H7.out.1.heap H4.out.2.2,H7.out.2⟩)
       obtain⟨G,hG⟩:∃G,G=w4.heap.size:=⟨_,rfl⟩
       obtain⟨B,hB⟩:∃B,B=e0.heap.size:=⟨_,rfl⟩
       rw[←hG]at H0 hg0 hg1⊢
       rw[←hB]at H0 hg0⊢
       have HGw:=hid (And.intro hg0 hg1)
       have hBw:w.heap.size<B:=by
        rw[hB];exact(Array.getElem?_eq_some_iff.1 HEz.out).1
       clear H7 H4 hG hB
       go_wp2_with fail
       go_loopg [14] 8 (fun gg v14 wr=>∃i:Nat,v14=.int .i64 i∧i+gg=8∧Hid (Bel w wr∧wr.heap[w.heap.size]?=some (.cells (netC zeroN).toArray 86 (0,0))∧wr.heap[B]?=some (.cells (netC (sixR (V.take i))).toArray 86 (0,0))∧wr.heap[G]?=some (.cells (V.map intV).toArray 3 (0,0))))
       case atStart=>exact⟨0,rfl,rfl,H0⟩
       case round=>
        clear H0
        obtain⟨i,rfl,hi,H⟩:=hrel
        have Hi:=hid hi
        have hi8:i≤8:=by omega
        clear hi
        by_cases hlt:i<8
        ·have hiv:i<V.length:=by rw[HVV.out.1];exact hlt
         have c0:wr.cell? ⟨G,i,none⟩=some (.int .i64 (V[i]:Nat)):=by simp[World.cell?,H.out.2.2.2,hiv,intV]
         have HT:=hid (show V.take (i+1)=V.take i++[V[i]]from List.take_succ_eq_append_getElem hiv)
         have hgl:=HVV.out.2 _ (List.getElem_mem hiv)
         have HLT:=hid (show(V.take i).length=i by rw[List.length_take];omega)
         have hxl:(netC (sixR (V.take i))).length=18:=netC_len _ (by simp[sixR,bytesL_len,HLT.out];omega)
         have hf1:wr.frozen? ⟨B,2+2*i,none⟩=false:=by simp[World.frozen?,H.out.2.2.1]
         have hc1:∃v,wr.cell? ⟨B,2+2*i,none⟩=some v:=⟨(netC (sixR (V.take i)))[2+2*i]'(by omega),by simp[World.cell?,H.out.2.2.1,(by omega:2+2*i<(netC (sixR (V.take i))).length)]⟩
         obtain⟨vc,hc1⟩:=hc1
         generalize hvi:V[i]=n at c0 HT hgl
         have HVi:=hid hvi
         clear hvi
         have hq1:IntKind.u8.wrap ((n:Int)/256)=((n/256:Nat):Int):=by rw[IntKind.wrap_u8];omega
         have hq2:IntKind.u8.wrap ((n:Int)%256)=((n%256:Nat):Int):=by rw[IntKind.wrap_u8];omega
         go_upto_region 24 with(fail)
         have H8:=hid (show Bel w (wr.setCell ⟨B,2+2*i,none⟩ (.int .u8 ((n:Int)/256)))∧(wr.setCell ⟨B,2+2*i,none⟩ (.int .u8 ((n:Int)/256))).heap[w.heap.size]?=some (.cells (netC zeroN).toArray 86 (0,0))∧(wr.setCell ⟨B,2+2*i,none⟩ (.int .u8 ((n:Int)/256))).heap[B]?=some (.cells ((netC (sixR (V.take i))).set (2+2*i) (u8V (n/256))).toArray 86 (0,0))∧(wr.setCell ⟨B,2+2*i,none⟩ (.int .u8 ((n:Int)/256))).heap[G]?=some (.cells (V.map intV).toArray 3 (0,0))from
          ⟨H.out.1.setCell (by omega) _,by rw[heap_setCell_other _ _ _ _ (by show w.heap.size≠B;omega)];exact H.out.2.1,by rw[heap_setCell_same wr _ _ _ _ _ H.out.2.2.1,List.setIfInBounds_toArray];rfl,by rw[heap_setCell_other _ _ _ _ (by show G≠B;omega)];exact H.out.2.2.2⟩)
         generalize wr.setCell ⟨B,2+2*i,none⟩ (.int .u8 ((n:Int)/256))=w8 at H8⊢
         clear H hf1 hc1
         have c1:w8.cell? ⟨G,i,none⟩=some (.int .i64 (n:Nat)):=by
          have:=HVi.out
          simp[World.cell?,H8.out.2.2.2,hiv,intV,this]
         have hf2:w8.frozen? ⟨B,2+(2*i+1),none⟩=false:=by simp[World.frozen?,H8.out.2.2.1]
         have hc2:∃v,w8.cell? ⟨B,2+(2*i+1),none⟩=some v:=⟨((netC (sixR (V.take i))).set (2+2*i) (u8V (n/256)))[2+(2*i+1)]'(by rw[List.length_set];omega),by simp only[World.cell?,H8.out.2.2.1];simp[(by omega:2+(2*i+1)<(netC (sixR (V.take i))).length)]⟩
         obtain⟨vd,hc2⟩:=hc2
         have HN9:=hid (show Bel w (w8.setCell ⟨B,2+(2*i+1),none⟩ (.int .u8 ((n:Int)%256)))∧(w8.setCell ⟨B,2+(2*i+1),none⟩ (.int .u8 ((n:Int)%256))).heap[w.heap.size]?=some (.cells (netC zeroN).toArray 86 (0,0))∧(w8.setCell ⟨B,2+(2*i+1),none⟩ (.int .u8 ((n:Int)%256))).heap[B]?=some (.cells (netC (sixR (V.take (i+1)))).toArray 86 (0,0))∧(w8.setCell ⟨B,2+(2*i+1),none⟩ (.int .u8 ((n:Int)%256))).heap[G]?=some (.cells (V.map intV).toArray 3 (0,0))from
          ⟨H8.out.1.setCell (by omega) _,by rw[heap_setCell_other _ _ _ _ (by show w.heap.size≠B;omega)];exact H8.out.2.1,by
           rw[heap_setCell_same w8 _ _ _ _ _ H8.out.2.2.1,List.setIfInBounds_toArray,HT.out]
           have hs:=sixR_set (V.take i) n (by rw[HLT.out];exact hlt)
           rw[HLT.out]at hs
           rw[←hs,Nat.add_assoc]
           rfl,by rw[heap_setCell_other _ _ _ _ (by show G≠B;omega)];exact H8.out.2.2.2⟩)
         clear H8 c0
         go_wp2_with fail
         go_roundg (gk-1)
         case measure=>have:=Hi.out;omega
         case rel=>exact⟨i+1,by go_num,by have:=Hi.out;omega,HN9⟩
        ·obtain rfl:i=8:=by omega
         have hV8:V.take 8=V:=List.take_of_length_le (by rw[HVV.out.1];exact Nat.le_refl _)
         rw[hV8]at H
         have HF:=hid (sixR_fits V (by rw[HVV.out.1];exact Nat.le_refl _) HVV.out.2)
         have ho:o=some (sixR V):=by
          rw[HQo.out]
          unfold sixR
          rw[HVV.out.1]
          simp
         subst ho
         clear hV8
         have HZ:=hid (net_len (sixR V) (HF.out).len)
         have HT:=hid (show wr.there w.heap.size 0 (netC (sixR V)).toArray.size from there_of (cs:=netC zeroN) H.out.2.1 (by rw[List.size_toArray,netC_len _ (HF.out).len];decide))
         go_wp2_with (first
          | (refine wpList_load_mid rfl 86 (.tmp 4) rfl B 0 rfl (netC (sixR V)) _ ?_ Tryz.underlying86 rfl HZ.out ?_;exact range_net H.out.2.2.1)
          | (refine wpList_store_mid rfl 86 (.tmp 2) (.tmp 123) rfl w.heap.size 0 (netC (sixR V)).toArray rfl rfl ?_ (by rw[List.size_toArray];exact HZ.out) (netC_one _) ?_;exact HT.out))
         have hl2:=run_loadVar_mid (P:=Tryz.prog) (wr.setCells w.heap.size 0 (netC (sixR V))) w.heap.size 0 86 (netC (sixR V)) _ (World.rangeAt_setCells_same _ _ _ _ (by simpa using HT.out)) Tryz.underlying86 rfl HZ.out
         refine bodyPost_ret (v:=.tuple #[netV (sixR V),.bool true]) (by simp[results,Tryz.results94,asAddr,hl2,netV]) rfl ⟨⟨sixR V,HF.out,rfl,fun m hm=>Option.some.inj hm⟩,Bel.setCells (Nat.le_refl _) _ _ _ H.out.1⟩
      ·have hn:o=none:=by
        rw[HQ.out]
        show(if false=true then(if a.length+b.length≤7 then some (⟨true,128,bytesL (allR a b)⟩:Nt)else none)else(if a.length=8 then some ⟨true,128,bytesL a⟩else none))=_
        rw[if_neg (by decide),if_neg hc]
       subst hn
       have hn1:n1=a.length:=HN.out.1
       have hn2:n2=b.length:=HN.out.2
       have d8:((n1:Int) !=8)=true:=by rw[bne_iff_ne];omega
       clear hn1 hn2 hc HX hb0 hbl
       have HZ:=hid (net_len (sixR []) (HF0.out).len)
       have HT:=hid (show w4.there w.heap.size 0 (netC (sixR [])).toArray.size from there_of (cs:=netC zeroN) H4.out.2.1 (by rw[List.size_toArray,netC_len _ (HF0.out).len];decide))
       go_wp2_with (first
        | (refine wpList_load_mid rfl 86 (.tmp 4) rfl e0.heap.size 0 rfl (netC (sixR [])) _ ?_ Tryz.underlying86 rfl HZ.out ?_;exact range_net H4.out.2.2)
        | (refine wpList_store_mid rfl 86 (.tmp 2) (.tmp 86) rfl w.heap.size 0 (netC (sixR [])).toArray rfl rfl ?_ (by rw[List.size_toArray];exact HZ.out) (netC_one _) ?_;exact HT.out))
       have hl2:=run_loadVar_mid (P:=Tryz.prog) (w4.setCells w.heap.size 0 (netC (sixR []))) w.heap.size 0 86 (netC (sixR [])) _ (World.rangeAt_setCells_same _ _ _ _ (by simpa using HT.out)) Tryz.underlying86 rfl HZ.out
       refine bodyPost_ret (v:=.tuple #[netV (sixR []),.bool false]) (by simp[results,Tryz.results94,asAddr,hl2,netV]) rfl ⟨⟨sixR [],HF0.out,rfl,fun m hm=>by cases hm⟩,Bel.setCells (Nat.le_refl _) _ _ _ H4.out.1⟩
  ·have ho:=HO.out
   rw[HC.out]at ho
   have hd1:(s.extract 0 m).data.toList=s.data.toList.take m:=by rw[Lib.extract_data,List.drop_zero,Nat.sub_zero]
   have hd2:(s.extract (m+2) s.size).data.toList=s.data.toList.drop (m+2):=Lib.extract_to_end s (m+2)
   obtain⟨o1,h1⟩:∃o1,o1=groupsL (s.data.toList.take m):=⟨_,rfl⟩
   obtain⟨o2,h2⟩:∃o2,o2=groupsL (s.data.toList.drop (m+2)):=⟨_,rfl⟩
   have HOs:=hid (show o1=groupsL (s.extract 0 m).data.toList∧o2=groupsL (s.extract (m+2) s.size).data.toList∧o=sixM o1 o2 true from⟨by rw[hd1];exact h1,by rw[hd2];exact h2,by rw[ho,h1,h2]⟩)
   clear ho h1 h2 hd1 hd2 HO HC
   have d0:decide ((m:Int)<0)=false:=decide_eq_false (by omega)
   have d9:decide (0≤(m:Int))=true:=decide_eq_true (by omega)
   by_cases hk1:k+1<s.size
   ·have d1:decide ((k:Int)+1<(s.size:Int))=true:=decide_eq_true (by omega)
    have HG1:=(show Hid (∀W,Calls Tryz.prog 162 #[.string (s.extract 0 m)] W (RGPost o1 W))from fun W=>by rw[HOs.out.1];exact rgroups_run _ W (by rw[ByteArray.size_extract];omega))
    have HG2:=(show Hid (∀W,Calls Tryz.prog 162 #[.string (s.extract (m+2) s.size)] W (RGPost o2 W))from fun W=>by rw[HOs.out.2.1];exact rgroups_run _ W (by rw[ByteArray.size_extract];omega))
    go_wp2_with fail
    refine(HG1.out _).mono ?_
    intro e w3 hp
    obtain⟨x1,n1,p1,rfl,hb3,hg1⟩:=hp.out
    have H1:=hid (And.intro hb3 hg1)
    clear hp hb3 hg1
    go_wp2_with fail
    refine(HG2.out _).mono ?_
    intro e w4 hp
    obtain⟨x2,n2,p2,rfl,hb4,hg2⟩:=hp.out
    have H2:=hid (And.intro hb4 hg2)
    clear hp hb4 hg2 HG1 HG2
    have H4:=hid (show Bel w w4∧w4.heap[w.heap.size]?=some (.cells (netC zeroN).toArray 86 (0,0))∧w4.heap[e0.heap.size]?=some (.cells (netC (sixR [])).toArray 86 (0,0))from⟨HX.out.1.trans (H1.out.1.trans H2.out.1),(H1.out.1.trans H2.out.1).heap HX.out.2.1,(H1.out.1.trans H2.out.1).heap HX.out.2.2⟩)
    cases o1 with
    |none=>
     have hn:o=none:=by rw[HOs.out.2.2];rfl
     subst hn
     clear H1 H2 HX
     have HZ:=hid (net_len (sixR []) (HF0.out).len)
     have HT:=hid (show w4.there w.heap.size 0 (netC (sixR [])).toArray.size from there_of (cs:=netC zeroN) H4.out.2.1 (by rw[List.size_toArray,netC_len _ (HF0.out).len];decide))
     go_wp2_with (first
      | (refine wpList_load_mid rfl 86 (.tmp 4) rfl e0.heap.size 0 rfl (netC (sixR [])) _ ?_ Tryz.underlying86 rfl HZ.out ?_;exact range_net H4.out.2.2)
      | (refine wpList_store_mid rfl 86 (.tmp 2) (.tmp 86) rfl w.heap.size 0 (netC (sixR [])).toArray rfl rfl ?_ (by rw[List.size_toArray];exact HZ.out) (netC_one _) ?_;exact HT.out))
     have hl2:=run_loadVar_mid (P:=Tryz.prog) (w4.setCells w.heap.size 0 (netC (sixR []))) w.heap.size 0 86 (netC (sixR [])) _ (World.rangeAt_setCells_same _ _ _ _ (by simpa using HT.out)) Tryz.underlying86 rfl HZ.out
     refine bodyPost_ret (v:=.tuple #[netV (sixR []),.bool false]) (by simp[results,Tryz.results94,asAddr,hl2,netV]) rfl ⟨⟨sixR [],HF0.out,rfl,fun m hm=>by cases hm⟩,Bel.setCells (Nat.le_refl _) _ _ _ H4.out.1⟩
    |some a=>
     cases o2 with
     |none=>
      have hn:o=none:=by rw[HOs.out.2.2];rfl
      subst hn
      clear H1 H2 HX
      have HZ:=hid (net_len (sixR []) (HF0.out).len)
      have HT:=hid (show w4.there w.heap.size 0 (netC (sixR [])).toArray.size from there_of (cs:=netC zeroN) H4.out.2.1 (by rw[List.size_toArray,netC_len _ (HF0.out).len];decide))
      go_wp2_with (first
       | (refine wpList_load_mid rfl 86 (.tmp 4) rfl e0.heap.size 0 rfl (netC (sixR [])) _ ?_ Tryz.underlying86 rfl HZ.out ?_;exact range_net H4.out.2.2)
       | (refine wpList_store_mid rfl 86 (.tmp 2) (.tmp 86) rfl w.heap.size 0 (netC (sixR [])).toArray rfl rfl ?_ (by rw[List.size_toArray];exact HZ.out) (netC_one _) ?_;exact HT.out))
      have hl2:=run_loadVar_mid (P:=Tryz.prog) (w4.setCells w.heap.size 0 (netC (sixR []))) w.heap.size 0 86 (netC (sixR [])) _ (World.rangeAt_setCells_same _ _ _ _ (by simpa using HT.out)) Tryz.underlying86 rfl HZ.out
      refine bodyPost_ret (v:=.tuple #[netV (sixR []),.bool false]) (by simp[results,Tryz.results94,asAddr,hl2,netV]) rfl ⟨⟨sixR [],HF0.out,rfl,fun m hm=>by cases hm⟩,Bel.setCells (Nat.le_refl _) _ _ _ H4.out.1⟩
     |some b=>
      have HN:=hid (And.intro (H1.out.2 a rfl).1 (H2.out.2 b rfl).1)
      have HA:=hid (And.intro (own_bel (H1.out.2 a rfl).2 H2.out.1) (own_base (base':=w2.heap.size) (H2.out.2 b rfl).2 H1.out.1.size))
      have HQ:=hid HOs.out.2.2
      have HV:=hid (And.intro (groupsL_lt HOs.out.1.symm).2 (groupsL_lt HOs.out.2.1.symm).2)
      have hla:a.length≤4294967283:=by
       have:=(groupsL_lt HOs.out.1.symm).1
       rw[←Lib.size_eq,ByteArray.size_extract]at this
       omega
      have hlb:b.length≤4294967283:=by
       have:=(groupsL_lt HOs.out.2.1.symm).1
       rw[←Lib.size_eq,ByteArray.size_extract]at this
       omega
      clear H1 H2 HOs
      by_cases hc:a.length+b.length≤7
      ·have hab:a.length+b.length≤8:=by omega
       have HQo:=hid (show o=some (⟨true,128,bytesL (allR a b)⟩:Nt) by
        rw[HQ.out]
        show(if true=true then(if a.length+b.length≤7 then some (⟨true,128,bytesL (allR a b)⟩:Nt)else none)else(if a.length=8 then some ⟨true,128,bytesL a⟩else none))=_
        rw[if_pos rfl,if_pos hc])
       have hn1:n1=a.length:=HN.out.1
       have hn2:n2=b.length:=HN.out.2
       have hn18:n1≤8:=by omega
       have hn28:n2≤8:=by omega
       have d7:decide ((7:Int)<(n1:Int)+(n2:Int))=false:=decide_eq_false (by omega)
       have HN12:=hid (And.intro hn1 hn2)
       have HAB:=hid hab
       have hwn:Int.toNat (n1:Int)=n1:=Int.toNat_natCast _
       have hmk:∀W:World,(Instr.makeSlice 143 (.int .i64 8) (.int .i64 8)).run Tryz.prog W=.ok (.slice (some ⟨W.heap.size,0,none⟩) 8 8) (W.alloc (.cells #[.int .i64 0,.int .i64 0,.int .i64 0,.int .i64 0,.int .i64 0,.int .i64 0,.int .i64 0,.int .i64 0] 3)):=fun W=>by kernel_rfl
       clear hn1 hn2 hc hab HX HQ hla hlb
       go_upto_region 18 with(fail)
       have HM:=hid (show Bel w4 (w4.alloc (.cells #[.int .i64 0,.int .i64 0,.int .i64 0,.int .i64 0,.int .i64 0,.int .i64 0,.int .i64 0,.int .i64 0] 3))∧(w4.alloc (.cells #[.int .i64 0,.int .i64 0,.int .i64 0,.int .i64 0,.int .i64 0,.int .i64 0,.int .i64 0,.int .i64 0] 3)).heap[w4.heap.size]?=some (.cells ((allR [] []).map intV).toArray 3 (0,0))from⟨(Bel.refl w4).alloc _,heap_alloc_new w4 _⟩)
       clear hmk
       generalize (w4.alloc (.cells #[.int .i64 0,.int .i64 0,.int .i64 0,.int .i64 0,.int .i64 0,.int .i64 0,.int .i64 0,.int .i64 0] 3))=w5 at HM⊢
       obtain⟨dp,hdp,hsl⟩:=slice8 w4.heap.size n2 hn28
       have HDP:=hid hdp
       have HA5:=hid (And.intro (own_bel HA.out.1 HM.out.1) (own_bel HA.out.2 HM.out.1))
       clear hdp
       go_upto_region 19 with(refine copy_keep rfl (.tmp 88) (.tmp 89) 143 143 rfl 3 Tryz.underlying143 int_size (some ⟨w4.heap.size,0,none⟩) x1 8 8 n1 p1 rfl rfl w4.heap.size 0 ((allR [] []).map intV) 3 HM.out.2 (a.map intV) ?_ (fun hp=>⟨rfl,row_src HA5.out.1 hp⟩) ?_ (ints_one _) ?_)
       ·rw[List.length_map,←HN12.out.1];exact(Nat.min_eq_left hn18).symm
       ·rw[List.length_map,List.length_map,allR_len [] [] (by decide),←HN12.out.1];omega
       intro w6 hc6 hk6 hB6
       have H6:=hid (show Bel w4 w6∧w6.heap[w4.heap.size]?=some (.cells ((allR a []).map intV).toArray 3 (0,0))from⟨hB6 _ _ HM.out.1 (Nat.le_refl _),by rw[hc6.out,splice_one]⟩)
       have HA6:=hid (own_bel HA.out.2 H6.out.1)
       clear hc6 hk6 hB6 HM HA5 HA
       go_upto_region 20 with(refine copy_keep rfl (.tmp 95) (.tmp 96) 143 143 rfl 3 Tryz.underlying143 int_size (some dp) x2 n2 n2 n2 p2 rfl rfl w4.heap.size (8-n2) ((allR a []).map intV) 3 H6.out.2 (b.map intV) ?_ (fun hp=>⟨?_,row_src HA6.out hp⟩) ?_ (ints_one _) ?_)
       ·rw[List.length_map,←HN12.out.2];exact(Nat.min_eq_left (Nat.le_refl _)).symm
       ·rw[HDP.out (by rw[List.length_map,←HN12.out.2]at hp;exact hp)]
       ·rw[List.length_map,List.length_map,allR_len a [] (by have:=HAB.out;simp;omega),←HN12.out.2];omega
       intro w7 hc7 hk7 hB7
       have hg0:e0.heap.size<w4.heap.size:=by
        have:=(Array.getElem?_eq_some_iff.1 H4.out.2.2).1
        exact this
       have hg1:w.heap.size<w4.heap.size:=(Array.getElem?_eq_some_iff.1 H4.out.2.1).1
       have H7:=hid (show Bel w4 w7∧w7.heap[w4.heap.size]?=some (.cells ((allR a b).map intV).toArray 3 (0,0))from⟨hB7 _ _ H6.out.1 (Nat.le_refl _),by rw[hc7.out,HN12.out.2,splice_two a b HAB.out]⟩)
       clear hc7 hk7 hB7 H6 HA6 HDP hsl
       have HVV:=hid (show(allR a b).length=8∧∀g∈allR a b,g<65536 from⟨allR_len a b HAB.out,fun g hg=>by
        unfold allR at hg
        rcases List.mem_append.1 hg with f|f
        ·rcases List.mem_append.1 f with f|f
         ·exact HV.out.1 g f
         ·obtain⟨-,rfl⟩:=List.mem_replicate.1 f;decide
        ·exact HV.out.2 g f⟩)
       generalize allR a b=V at HVV H7 HQo
       have H0:=hid (show Bel w w7∧w7.heap[w.heap.size]?=some (.cells (netC zeroN).toArray 86 (0,0))∧w7.heap[e0.heap.size]?=some (.cells (netC (sixR (V.take 0))).toArray 86 (0,0))∧w7.heap[w4.heap.size]?=some (.cells (V.map intV).toArray 3 (0,0))from
        ⟨H4.out.1.trans H7.out.1,H7.out.1.heap H4.out.2.1,H7.out.1.heap H4.out.2.2,H7.out.2⟩)
       obtain⟨G,hG⟩:∃G,G=w4.heap.size:=⟨_,rfl⟩
       obtain⟨B,hB⟩:∃B,B=e0.heap.size:=⟨_,rfl⟩
       rw[←hG]at H0 hg0 hg1⊢
       rw[←hB]at H0 hg0⊢
       have HGw:=hid (And.intro hg0 hg1)
       have hBw:w.heap.size<B:=by
        rw[hB];exact(Array.getElem?_eq_some_iff.1 HEz.out).1
       clear H7 H4 hG hB
       go_wp2_with fail
       go_loopg [14] 8 (fun gg v14 wr=>∃i:Nat,v14=.int .i64 i∧i+gg=8∧Hid (Bel w wr∧wr.heap[w.heap.size]?=some (.cells (netC zeroN).toArray 86 (0,0))∧wr.heap[B]?=some (.cells (netC (sixR (V.take i))).toArray 86 (0,0))∧wr.heap[G]?=some (.cells (V.map intV).toArray 3 (0,0))))
       case atStart=>exact⟨0,rfl,rfl,H0⟩
       case round=>
        clear H0
        obtain⟨i,rfl,hi,H⟩:=hrel
        have Hi:=hid hi
        have hi8:i≤8:=by omega
        clear hi
        by_cases hlt:i<8
        ·have hiv:i<V.length:=by rw[HVV.out.1];exact hlt
         have c0:wr.cell? ⟨G,i,none⟩=some (.int .i64 (V[i]:Nat)):=by simp[World.cell?,H.out.2.2.2,hiv,intV]
         have HT:=hid (show V.take (i+1)=V.take i++[V[i]]from List.take_succ_eq_append_getElem hiv)
         have hgl:=HVV.out.2 _ (List.getElem_mem hiv)
         have HLT:=hid (show(V.take i).length=i by rw[List.length_take];omega)
         have hxl:(netC (sixR (V.take i))).length=18:=netC_len _ (by simp[sixR,bytesL_len,HLT.out];omega)
         have hf1:wr.frozen? ⟨B,2+2*i,none⟩=false:=by simp[World.frozen?,H.out.2.2.1]
         have hc1:∃v,wr.cell? ⟨B,2+2*i,none⟩=some v:=⟨(netC (sixR (V.take i)))[2+2*i]'(by omega),by simp[World.cell?,H.out.2.2.1,(by omega:2+2*i<(netC (sixR (V.take i))).length)]⟩
         obtain⟨vc,hc1⟩:=hc1
         generalize hvi:V[i]=n at c0 HT hgl
         have HVi:=hid hvi
         clear hvi
         have hq1:IntKind.u8.wrap ((n:Int)/256)=((n/256:Nat):Int):=by rw[IntKind.wrap_u8];omega
         have hq2:IntKind.u8.wrap ((n:Int)%256)=((n%256:Nat):Int):=by rw[IntKind.wrap_u8];omega
         go_upto_region 24 with(fail)
         have H8:=hid (show Bel w (wr.setCell ⟨B,2+2*i,none⟩ (.int .u8 ((n:Int)/256)))∧(wr.setCell ⟨B,2+2*i,none⟩ (.int .u8 ((n:Int)/256))).heap[w.heap.size]?=some (.cells (netC zeroN).toArray 86 (0,0))∧(wr.setCell ⟨B,2+2*i,none⟩ (.int .u8 ((n:Int)/256))).heap[B]?=some (.cells ((netC (sixR (V.take i))).set (2+2*i) (u8V (n/256))).toArray 86 (0,0))∧(wr.setCell ⟨B,2+2*i,none⟩ (.int .u8 ((n:Int)/256))).heap[G]?=some (.cells (V.map intV).toArray 3 (0,0))from
          ⟨H.out.1.setCell (by omega) _,by rw[heap_setCell_other _ _ _ _ (by show w.heap.size≠B;omega)];exact H.out.2.1,by rw[heap_setCell_same wr _ _ _ _ _ H.out.2.2.1,List.setIfInBounds_toArray];rfl,by rw[heap_setCell_other _ _ _ _ (by show G≠B;omega)];exact H.out.2.2.2⟩)
         generalize wr.setCell ⟨B,2+2*i,none⟩ (.int .u8 ((n:Int)/256))=w8 at H8⊢
         clear H hf1 hc1
         have c1:w8.cell? ⟨G,i,none⟩=some (.int .i64 (n:Nat)):=by
          have:=HVi.out
          simp[World.cell?,H8.out.2.2.2,hiv,intV,this]
         have hf2:w8.frozen? ⟨B,2+(2*i+1),none⟩=false:=by simp[World.frozen?,H8.out.2.2.1]
         have hc2:∃v,w8.cell? ⟨B,2+(2*i+1),none⟩=some v:=⟨((netC (sixR (V.take i))).set (2+2*i) (u8V (n/256)))[2+(2*i+1)]'(by rw[List.length_set];omega),by simp only[World.cell?,H8.out.2.2.1];simp[(by omega:2+(2*i+1)<(netC (sixR (V.take i))).length)]⟩
         obtain⟨vd,hc2⟩:=hc2
         have HN9:=hid (show Bel w (w8.setCell ⟨B,2+(2*i+1),none⟩ (.int .u8 ((n:Int)%256)))∧(w8.setCell ⟨B,2+(2*i+1),none⟩ (.int .u8 ((n:Int)%256))).heap[w.heap.size]?=some (.cells (netC zeroN).toArray 86 (0,0))∧(w8.setCell ⟨B,2+(2*i+1),none⟩ (.int .u8 ((n:Int)%256))).heap[B]?=some (.cells (netC (sixR (V.take (i+1)))).toArray 86 (0,0))∧(w8.setCell ⟨B,2+(2*i+1),none⟩ (.int .u8 ((n:Int)%256))).heap[G]?=some (.cells (V.map intV).toArray 3 (0,0))from
          ⟨H8.out.1.setCell (by omega) _,by rw[heap_setCell_other _ _ _ _ (by show w.heap.size≠B;omega)];exact H8.out.2.1,by
           rw[heap_setCell_same w8 _ _ _ _ _ H8.out.2.2.1,List.setIfInBounds_toArray,HT.out]
           have hs:=sixR_set (V.take i) n (by rw[HLT.out];exact hlt)
           rw[HLT.out]at hs
           rw[←hs,Nat.add_assoc]
           rfl,by rw[heap_setCell_other _ _ _ _ (by show G≠B;omega)];exact H8.out.2.2.2⟩)
         clear H8 c0
         go_wp2_with fail
         go_roundg (gk-1)
         case measure=>have:=Hi.out;omega
         case rel=>exact⟨i+1,by go_num,by have:=Hi.out;omega,HN9⟩
        ·obtain rfl:i=8:=by omega
         have hV8:V.take 8=V:=List.take_of_length_le (by rw[HVV.out.1];exact Nat.le_refl _)
         rw[hV8]at H
         have HF:=hid (sixR_fits V (by rw[HVV.out.1];exact Nat.le_refl _) HVV.out.2)
         have ho:o=some (sixR V):=by
          rw[HQo.out]
          unfold sixR
          rw[HVV.out.1]
          simp
         subst ho
         clear hV8
         have HZ:=hid (net_len (sixR V) (HF.out).len)
         have HT:=hid (show wr.there w.heap.size 0 (netC (sixR V)).toArray.size from there_of (cs:=netC zeroN) H.out.2.1 (by rw[List.size_toArray,netC_len _ (HF.out).len];decide))
         go_wp2_with (first
          | (refine wpList_load_mid rfl 86 (.tmp 4) rfl B 0 rfl (netC (sixR V)) _ ?_ Tryz.underlying86 rfl HZ.out ?_;exact range_net H.out.2.2.1)
          | (refine wpList_store_mid rfl 86 (.tmp 2) (.tmp 123) rfl w.heap.size 0 (netC (sixR V)).toArray rfl rfl ?_ (by rw[List.size_toArray];exact HZ.out) (netC_one _) ?_;exact HT.out))
         have hl2:=run_loadVar_mid (P:=Tryz.prog) (wr.setCells w.heap.size 0 (netC (sixR V))) w.heap.size 0 86 (netC (sixR V)) _ (World.rangeAt_setCells_same _ _ _ _ (by simpa using HT.out)) Tryz.underlying86 rfl HZ.out
         refine bodyPost_ret (v:=.tuple #[netV (sixR V),.bool true]) (by simp[results,Tryz.results94,asAddr,hl2,netV]) rfl ⟨⟨sixR V,HF.out,rfl,fun m hm=>Option.some.inj hm⟩,Bel.setCells (Nat.le_refl _) _ _ _ H.out.1⟩
      ·have hn:o=none:=by
        rw[HQ.out]
        show(if true=true then(if a.length+b.length≤7 then some (⟨true,128,bytesL (allR a b)⟩:Nt)else none)else(if a.length=8 then some ⟨true,128,bytesL a⟩else none))=_
        rw[if_pos rfl,if_neg hc]
       subst hn
       have hn1:n1=a.length:=HN.out.1
       have hn2:n2=b.length:=HN.out.2
       have hn1b:n1≤4294967283:=by omega
       have hn2b:n2≤4294967283:=by omega
       have d7:decide ((7:Int)<(n1:Int)+(n2:Int))=true:=decide_eq_true (by omega)
       clear hn1 hn2 hc HX hla hlb
       have HZ:=hid (net_len (sixR []) (HF0.out).len)
       have HT:=hid (show w4.there w.heap.size 0 (netC (sixR [])).toArray.size from there_of (cs:=netC zeroN) H4.out.2.1 (by rw[List.size_toArray,netC_len _ (HF0.out).len];decide))
       go_wp2_with (first
        | (refine wpList_load_mid rfl 86 (.tmp 4) rfl e0.heap.size 0 rfl (netC (sixR [])) _ ?_ Tryz.underlying86 rfl HZ.out ?_;exact range_net H4.out.2.2)
        | (refine wpList_store_mid rfl 86 (.tmp 2) (.tmp 86) rfl w.heap.size 0 (netC (sixR [])).toArray rfl rfl ?_ (by rw[List.size_toArray];exact HZ.out) (netC_one _) ?_;exact HT.out))
       have hl2:=run_loadVar_mid (P:=Tryz.prog) (w4.setCells w.heap.size 0 (netC (sixR []))) w.heap.size 0 86 (netC (sixR [])) _ (World.rangeAt_setCells_same _ _ _ _ (by simpa using HT.out)) Tryz.underlying86 rfl HZ.out
       refine bodyPost_ret (v:=.tuple #[netV (sixR []),.bool false]) (by simp[results,Tryz.results94,asAddr,hl2,netV]) rfl ⟨⟨sixR [],HF0.out,rfl,fun m hm=>by cases hm⟩,Bel.setCells (Nat.le_refl _) _ _ _ H4.out.1⟩
   ·have d1:decide ((k:Int)+1<(s.size:Int))=false:=decide_eq_false (by omega)
    have HG1:=(show Hid (∀W,Calls Tryz.prog 162 #[.string (s.extract 0 m)] W (RGPost o1 W))from fun W=>by rw[HOs.out.1];exact rgroups_run _ W (by rw[ByteArray.size_extract];omega))
    have HG2:=(show Hid (∀W,Calls Tryz.prog 162 #[.string (s.extract (m+2) s.size)] W (RGPost o2 W))from fun W=>by rw[HOs.out.2.1];exact rgroups_run _ W (by rw[ByteArray.size_extract];omega))
    go_wp2_with fail
    refine(HG1.out _).mono ?_
    intro e w3 hp
    obtain⟨x1,n1,p1,rfl,hb3,hg1⟩:=hp.out
    have H1:=hid (And.intro hb3 hg1)
    clear hp hb3 hg1
    go_wp2_with fail
    refine(HG2.out _).mono ?_
    intro e w4 hp
    obtain⟨x2,n2,p2,rfl,hb4,hg2⟩:=hp.out
    have H2:=hid (And.intro hb4 hg2)
    clear hp hb4 hg2 HG1 HG2
    have H4:=hid (show Bel w w4∧w4.heap[w.heap.size]?=some (.cells (netC zeroN).toArray 86 (0,0))∧w4.heap[e0.heap.size]?=some (.cells (netC (sixR [])).toArray 86 (0,0))from⟨HX.out.1.trans (H1.out.1.trans H2.out.1),(H1.out.1.trans H2.out.1).heap HX.out.2.1,(H1.out.1.trans H2.out.1).heap HX.out.2.2⟩)
    cases o1 with
    |none=>
     have hn:o=none:=by rw[HOs.out.2.2];rfl
     subst hn
     clear H1 H2 HX
     have HZ:=hid (net_len (sixR []) (HF0.out).len)
     have HT:=hid (show w4.there w.heap.size 0 (netC (sixR [])).toArray.size from there_of (cs:=netC zeroN) H4.out.2.1 (by rw[List.size_toArray,netC_len _ (HF0.out).len];decide))
     go_wp2_with (first
      | (refine wpList_load_mid rfl 86 (.tmp 4) rfl e0.heap.size 0 rfl (netC (sixR [])) _ ?_ Tryz.underlying86 rfl HZ.out ?_;exact range_net H4.out.2.2)
      | (refine wpList_store_mid rfl 86 (.tmp 2) (.tmp 86) rfl w.heap.size 0 (netC (sixR [])).toArray rfl rfl ?_ (by rw[List.size_toArray];exact HZ.out) (netC_one _) ?_;exact HT.out))
     have hl2:=run_loadVar_mid (P:=Tryz.prog) (w4.setCells w.heap.size 0 (netC (sixR []))) w.heap.size 0 86 (netC (sixR [])) _ (World.rangeAt_setCells_same _ _ _ _ (by simpa using HT.out)) Tryz.underlying86 rfl HZ.out
     refine bodyPost_ret (v:=.tuple #[netV (sixR []),.bool false]) (by simp[results,Tryz.results94,asAddr,hl2,netV]) rfl ⟨⟨sixR [],HF0.out,rfl,fun m hm=>by cases hm⟩,Bel.setCells (Nat.le_refl _) _ _ _ H4.out.1⟩
    |some a=>
     cases o2 with
     |none=>
      have hn:o=none:=by rw[HOs.out.2.2];rfl
      subst hn
      clear H1 H2 HX
      have HZ:=hid (net_len (sixR []) (HF0.out).len)
      have HT:=hid (show w4.there w.heap.size 0 (netC (sixR [])).toArray.size from there_of (cs:=netC zeroN) H4.out.2.1 (by rw[List.size_toArray,netC_len _ (HF0.out).len];decide))
      go_wp2_with (first
       | (refine wpList_load_mid rfl 86 (.tmp 4) rfl e0.heap.size 0 rfl (netC (sixR [])) _ ?_ Tryz.underlying86 rfl HZ.out ?_;exact range_net H4.out.2.2)
       | (refine wpList_store_mid rfl 86 (.tmp 2) (.tmp 86) rfl w.heap.size 0 (netC (sixR [])).toArray rfl rfl ?_ (by rw[List.size_toArray];exact HZ.out) (netC_one _) ?_;exact HT.out))
      have hl2:=run_loadVar_mid (P:=Tryz.prog) (w4.setCells w.heap.size 0 (netC (sixR []))) w.heap.size 0 86 (netC (sixR [])) _ (World.rangeAt_setCells_same _ _ _ _ (by simpa using HT.out)) Tryz.underlying86 rfl HZ.out
      refine bodyPost_ret (v:=.tuple #[netV (sixR []),.bool false]) (by simp[results,Tryz.results94,asAddr,hl2,netV]) rfl ⟨⟨sixR [],HF0.out,rfl,fun m hm=>by cases hm⟩,Bel.setCells (Nat.le_refl _) _ _ _ H4.out.1⟩
     |some b=>
      have HN:=hid (And.intro (H1.out.2 a rfl).1 (H2.out.2 b rfl).1)
      have HA:=hid (And.intro (own_bel (H1.out.2 a rfl).2 H2.out.1) (own_base (base':=w2.heap.size) (H2.out.2 b rfl).2 H1.out.1.size))
      have HQ:=hid HOs.out.2.2
      have HV:=hid (And.intro (groupsL_lt HOs.out.1.symm).2 (groupsL_lt HOs.out.2.1.symm).2)
      have hla:a.length≤4294967283:=by
       have:=(groupsL_lt HOs.out.1.symm).1
       rw[←Lib.size_eq,ByteArray.size_extract]at this
       omega
      have hlb:b.length≤4294967283:=by
       have:=(groupsL_lt HOs.out.2.1.symm).1
       rw[←Lib.size_eq,ByteArray.size_extract]at this
       omega
      clear H1 H2 HOs
      by_cases hc:a.length+b.length≤7
      ·have hab:a.length+b.length≤8:=by omega
       have HQo:=hid (show o=some (⟨true,128,bytesL (allR a b)⟩:Nt) by
        rw[HQ.out]
        show(if true=true then(if a.length+b.length≤7 then some (⟨true,128,bytesL (allR a b)⟩:Nt)else none)else(if a.length=8 then some ⟨true,128,bytesL a⟩else none))=_
        rw[if_pos rfl,if_pos hc])
       have hn1:n1=a.length:=HN.out.1
       have hn2:n2=b.length:=HN.out.2
       have hn18:n1≤8:=by omega
       have hn28:n2≤8:=by omega
       have d7:decide ((7:Int)<(n1:Int)+(n2:Int))=false:=decide_eq_false (by omega)
       have HN12:=hid (And.intro hn1 hn2)
       have HAB:=hid hab
       have hwn:Int.toNat (n1:Int)=n1:=Int.toNat_natCast _
       have hmk:∀W:World,(Instr.makeSlice 143 (.int .i64 8) (.int .i64 8)).run Tryz.prog W=.ok (.slice (some ⟨W.heap.size,0,none⟩) 8 8) (W.alloc (.cells #[.int .i64 0,.int .i64 0,.int .i64 0,.int .i64 0,.int .i64 0,.int .i64 0,.int .i64 0,.int .i64 0] 3)):=fun W=>by kernel_rfl
       clear hn1 hn2 hc hab HX HQ hla hlb
       go_upto_region 18 with(fail)
       have HM:=hid (show Bel w4 (w4.alloc (.cells #[.int .i64 0,.int .i64 0,.int .i64 0,.int .i64 0,.int .i64 0,.int .i64 0,.int .i64 0,.int .i64 0] 3))∧(w4.alloc (.cells #[.int .i64 0,.int .i64 0,.int .i64 0,.int .i64 0,.int .i64 0,.int .i64 0,.int .i64 0,.int .i64 0] 3)).heap[w4.heap.size]?=some (.cells ((allR [] []).map intV).toArray 3 (0,0))from⟨(Bel.refl w4).alloc _,heap_alloc_new w4 _⟩)
       clear hmk
       generalize (w4.alloc (.cells #[.int .i64 0,.int .i64 0,.int .i64 0,.int .i64 0,.int .i64 0,.int .i64 0,.int .i64 0,.int .i64 0] 3))=w5 at HM⊢
       obtain⟨dp,hdp,hsl⟩:=slice8 w4.heap.size n2 hn28
       have HDP:=hid hdp
       have HA5:=hid (And.intro (own_bel HA.out.1 HM.out.1) (own_bel HA.out.2 HM.out.1))
       clear hdp
       go_upto_region 19 with(refine copy_keep rfl (.tmp 88) (.tmp 89) 143 143 rfl 3 Tryz.underlying143 int_size (some ⟨w4.heap.size,0,none⟩) x1 8 8 n1 p1 rfl rfl w4.heap.size 0 ((allR [] []).map intV) 3 HM.out.2 (a.map intV) ?_ (fun hp=>⟨rfl,row_src HA5.out.1 hp⟩) ?_ (ints_one _) ?_)
       ·rw[List.length_map,←HN12.out.1];exact(Nat.min_eq_left hn18).symm
       ·rw[List.length_map,List.length_map,allR_len [] [] (by decide),←HN12.out.1];omega
       intro w6 hc6 hk6 hB6
       have H6:=hid (show Bel w4 w6∧w6.heap[w4.heap.size]?=some (.cells ((allR a []).map intV).toArray 3 (0,0))from⟨hB6 _ _ HM.out.1 (Nat.le_refl _),by rw[hc6.out,splice_one]⟩)
       have HA6:=hid (own_bel HA.out.2 H6.out.1)
       clear hc6 hk6 hB6 HM HA5 HA
       go_upto_region 20 with(refine copy_keep rfl (.tmp 95) (.tmp 96) 143 143 rfl 3 Tryz.underlying143 int_size (some dp) x2 n2 n2 n2 p2 rfl rfl w4.heap.size (8-n2) ((allR a []).map intV) 3 H6.out.2 (b.map intV) ?_ (fun hp=>⟨?_,row_src HA6.out hp⟩) ?_ (ints_one _) ?_)
       ·rw[List.length_map,←HN12.out.2];exact(Nat.min_eq_left (Nat.le_refl _)).symm
       ·rw[HDP.out (by rw[List.length_map,←HN12.out.2]at hp;exact hp)]
       ·rw[List.length_map,List.length_map,allR_len a [] (by have:=HAB.out;simp;omega),←HN12.out.2];omega
       intro w7 hc7 hk7 hB7
       have hg0:e0.heap.size<w4.heap.size:=by
        have:=(Array.getElem?_eq_some_iff.1 H4.out.2.2).1
        exact this
       have hg1:w.heap.size<w4.heap.size:=(Array.getElem?_eq_some_iff.1 H4.out.2.1).1
       have H7:=hid (show Bel w4 w7∧w7.heap[w4.heap.size]?=some (.cells ((allR a b).map intV).toArray 3 (0,0))from⟨hB7 _ _ H6.out.1 (Nat.le_refl _),by rw[hc7.out,HN12.out.2,splice_two a b HAB.out]⟩)
       clear hc7 hk7 hB7 H6 HA6 HDP hsl
       have HVV:=hid (show(allR a b).length=8∧∀g∈allR a b,g<65536 from⟨allR_len a b HAB.out,fun g hg=>by
        unfold allR at hg
        rcases List.mem_append.1 hg with f|f
        ·rcases List.mem_append.1 f with f|f
         ·exact HV.out.1 g f
         ·obtain⟨-,rfl⟩:=List.mem_replicate.1 f;decide
        ·exact HV.out.2 g f⟩)
       generalize allR a b=V at HVV H7 HQo
       have H0:=hid (show Bel w w7∧w7.heap[w.heap.size]?=some (.cells (netC zeroN).toArray 86 (0,0))∧w7.heap[e0.heap.size]?=some (.cells (netC (sixR (V.take 0))).toArray 86 (0,0))∧w7.heap[w4.heap.size]?=some (.cells (V.map intV).toArray 3 (0,0))from
        ⟨H4.out.1.trans H7.out.1,H7.out.1.heap H4.out.2.1,H7.out.1.heap H4.out.2.2,H7.out.2⟩)
       obtain⟨G,hG⟩:∃G,G=w4.heap.size:=⟨_,rfl⟩
       obtain⟨B,hB⟩:∃B,B=e0.heap.size:=⟨_,rfl⟩
       rw[←hG]at H0 hg0 hg1⊢
       rw[←hB]at H0 hg0⊢
       have HGw:=hid (And.intro hg0 hg1)
       have hBw:w.heap.size<B:=by
        rw[hB];exact(Array.getElem?_eq_some_iff.1 HEz.out).1
       clear H7 H4 hG hB
       go_wp2_with fail
       go_loopg [14] 8 (fun gg v14 wr=>∃i:Nat,v14=.int .i64 i∧i+gg=8∧Hid (Bel w wr∧wr.heap[w.heap.size]?=some (.cells (netC zeroN).toArray 86 (0,0))∧wr.heap[B]?=some (.cells (netC (sixR (V.take i))).toArray 86 (0,0))∧wr.heap[G]?=some (.cells (V.map intV).toArray 3 (0,0))))
       case atStart=>exact⟨0,rfl,rfl,H0⟩
       case round=>
        clear H0
        obtain⟨i,rfl,hi,H⟩:=hrel
        have Hi:=hid hi
        have hi8:i≤8:=by omega
        clear hi
        by_cases hlt:i<8
        ·have hiv:i<V.length:=by rw[HVV.out.1];exact hlt
         have c0:wr.cell? ⟨G,i,none⟩=some (.int .i64 (V[i]:Nat)):=by simp[World.cell?,H.out.2.2.2,hiv,intV]
         have HT:=hid (show V.take (i+1)=V.take i++[V[i]]from List.take_succ_eq_append_getElem hiv)
         have hgl:=HVV.out.2 _ (List.getElem_mem hiv)
         have HLT:=hid (show(V.take i).length=i by rw[List.length_take];omega)
         have hxl:(netC (sixR (V.take i))).length=18:=netC_len _ (by simp[sixR,bytesL_len,HLT.out];omega)
         have hf1:wr.frozen? ⟨B,2+2*i,none⟩=false:=by simp[World.frozen?,H.out.2.2.1]
         have hc1:∃v,wr.cell? ⟨B,2+2*i,none⟩=some v:=⟨(netC (sixR (V.take i)))[2+2*i]'(by omega),by simp[World.cell?,H.out.2.2.1,(by omega:2+2*i<(netC (sixR (V.take i))).length)]⟩
         obtain⟨vc,hc1⟩:=hc1
         generalize hvi:V[i]=n at c0 HT hgl
         have HVi:=hid hvi
         clear hvi
         have hq1:IntKind.u8.wrap ((n:Int)/256)=((n/256:Nat):Int):=by rw[IntKind.wrap_u8];omega
         have hq2:IntKind.u8.wrap ((n:Int)%256)=((n%256:Nat):Int):=by rw[IntKind.wrap_u8];omega
         go_upto_region 24 with(fail)
         have H8:=hid (show Bel w (wr.setCell ⟨B,2+2*i,none⟩ (.int .u8 ((n:Int)/256)))∧(wr.setCell ⟨B,2+2*i,none⟩ (.int .u8 ((n:Int)/256))).heap[w.heap.size]?=some (.cells (netC zeroN).toArray 86 (0,0))∧(wr.setCell ⟨B,2+2*i,none⟩ (.int .u8 ((n:Int)/256))).heap[B]?=some (.cells ((netC (sixR (V.take i))).set (2+2*i) (u8V (n/256))).toArray 86 (0,0))∧(wr.setCell ⟨B,2+2*i,none⟩ (.int .u8 ((n:Int)/256))).heap[G]?=some (.cells (V.map intV).toArray 3 (0,0))from
          ⟨H.out.1.setCell (by omega) _,by rw[heap_setCell_other _ _ _ _ (by show w.heap.size≠B;omega)];exact H.out.2.1,by rw[heap_setCell_same wr _ _ _ _ _ H.out.2.2.1,List.setIfInBounds_toArray];rfl,by rw[heap_setCell_other _ _ _ _ (by show G≠B;omega)];exact H.out.2.2.2⟩)
         generalize wr.setCell ⟨B,2+2*i,none⟩ (.int .u8 ((n:Int)/256))=w8 at H8⊢
         clear H hf1 hc1
         have c1:w8.cell? ⟨G,i,none⟩=some (.int .i64 (n:Nat)):=by
          have:=HVi.out
          simp[World.cell?,H8.out.2.2.2,hiv,intV,this]
         have hf2:w8.frozen? ⟨B,2+(2*i+1),none⟩=false:=by simp[World.frozen?,H8.out.2.2.1]
         have hc2:∃v,w8.cell? ⟨B,2+(2*i+1),none⟩=some v:=⟨((netC (sixR (V.take i))).set (2+2*i) (u8V (n/256)))[2+(2*i+1)]'(by rw[List.length_set];omega),by simp only[World.cell?,H8.out.2.2.1];simp[(by omega:2+(2*i+1)<(netC (sixR (V.take i))).length)]⟩
         obtain⟨vd,hc2⟩:=hc2
         have HN9:=hid (show Bel w (w8.setCell ⟨B,2+(2*i+1),none⟩ (.int .u8 ((n:Int)%256)))∧(w8.setCell ⟨B,2+(2*i+1),none⟩ (.int .u8 ((n:Int)%256))).heap[w.heap.size]?=some (.cells (netC zeroN).toArray 86 (0,0))∧(w8.setCell ⟨B,2+(2*i+1),none⟩ (.int .u8 ((n:Int)%256))).heap[B]?=some (.cells (netC (sixR (V.take (i+1)))).toArray 86 (0,0))∧(w8.setCell ⟨B,2+(2*i+1),none⟩ (.int .u8 ((n:Int)%256))).heap[G]?=some (.cells (V.map intV).toArray 3 (0,0))from
          ⟨H8.out.1.setCell (by omega) _,by rw[heap_setCell_other _ _ _ _ (by show w.heap.size≠B;omega)];exact H8.out.2.1,by
           rw[heap_setCell_same w8 _ _ _ _ _ H8.out.2.2.1,List.setIfInBounds_toArray,HT.out]
           have hs:=sixR_set (V.take i) n (by rw[HLT.out];exact hlt)
           rw[HLT.out]at hs
           rw[←hs,Nat.add_assoc]
           rfl,by rw[heap_setCell_other _ _ _ _ (by show G≠B;omega)];exact H8.out.2.2.2⟩)
         clear H8 c0
         go_wp2_with fail
         go_roundg (gk-1)
         case measure=>have:=Hi.out;omega
         case rel=>exact⟨i+1,by go_num,by have:=Hi.out;omega,HN9⟩
        ·obtain rfl:i=8:=by omega
         have hV8:V.take 8=V:=List.take_of_length_le (by rw[HVV.out.1];exact Nat.le_refl _)
         rw[hV8]at H
         have HF:=hid (sixR_fits V (by rw[HVV.out.1];exact Nat.le_refl _) HVV.out.2)
         have ho:o=some (sixR V):=by
          rw[HQo.out]
          unfold sixR
          rw[HVV.out.1]
          simp
         subst ho
         clear hV8
         have HZ:=hid (net_len (sixR V) (HF.out).len)
         have HT:=hid (show wr.there w.heap.size 0 (netC (sixR V)).toArray.size from there_of (cs:=netC zeroN) H.out.2.1 (by rw[List.size_toArray,netC_len _ (HF.out).len];decide))
         go_wp2_with (first
          | (refine wpList_load_mid rfl 86 (.tmp 4) rfl B 0 rfl (netC (sixR V)) _ ?_ Tryz.underlying86 rfl HZ.out ?_;exact range_net H.out.2.2.1)
          | (refine wpList_store_mid rfl 86 (.tmp 2) (.tmp 123) rfl w.heap.size 0 (netC (sixR V)).toArray rfl rfl ?_ (by rw[List.size_toArray];exact HZ.out) (netC_one _) ?_;exact HT.out))
         have hl2:=run_loadVar_mid (P:=Tryz.prog) (wr.setCells w.heap.size 0 (netC (sixR V))) w.heap.size 0 86 (netC (sixR V)) _ (World.rangeAt_setCells_same _ _ _ _ (by simpa using HT.out)) Tryz.underlying86 rfl HZ.out
         refine bodyPost_ret (v:=.tuple #[netV (sixR V),.bool true]) (by simp[results,Tryz.results94,asAddr,hl2,netV]) rfl ⟨⟨sixR V,HF.out,rfl,fun m hm=>Option.some.inj hm⟩,Bel.setCells (Nat.le_refl _) _ _ _ H.out.1⟩
      ·have hn:o=none:=by
        rw[HQ.out]
        show(if true=true then(if a.length+b.length≤7 then some (⟨true,128,bytesL (allR a b)⟩:Nt)else none)else(if a.length=8 then some ⟨true,128,bytesL a⟩else none))=_
        rw[if_pos rfl,if_neg hc]
       subst hn
       have hn1:n1=a.length:=HN.out.1
       have hn2:n2=b.length:=HN.out.2
       have hn1b:n1≤4294967283:=by omega
       have hn2b:n2≤4294967283:=by omega
       have d7:decide ((7:Int)<(n1:Int)+(n2:Int))=true:=decide_eq_true (by omega)
       clear hn1 hn2 hc HX hla hlb
       have HZ:=hid (net_len (sixR []) (HF0.out).len)
       have HT:=hid (show w4.there w.heap.size 0 (netC (sixR [])).toArray.size from there_of (cs:=netC zeroN) H4.out.2.1 (by rw[List.size_toArray,netC_len _ (HF0.out).len];decide))
       go_wp2_with (first
        | (refine wpList_load_mid rfl 86 (.tmp 4) rfl e0.heap.size 0 rfl (netC (sixR [])) _ ?_ Tryz.underlying86 rfl HZ.out ?_;exact range_net H4.out.2.2)
        | (refine wpList_store_mid rfl 86 (.tmp 2) (.tmp 86) rfl w.heap.size 0 (netC (sixR [])).toArray rfl rfl ?_ (by rw[List.size_toArray];exact HZ.out) (netC_one _) ?_;exact HT.out))
       have hl2:=run_loadVar_mid (P:=Tryz.prog) (w4.setCells w.heap.size 0 (netC (sixR []))) w.heap.size 0 86 (netC (sixR [])) _ (World.rangeAt_setCells_same _ _ _ _ (by simpa using HT.out)) Tryz.underlying86 rfl HZ.out
       refine bodyPost_ret (v:=.tuple #[netV (sixR []),.bool false]) (by simp[results,Tryz.results94,asAddr,hl2,netV]) rfl ⟨⟨sixR [],HF0.out,rfl,fun m hm=>by cases hm⟩,Bel.setCells (Nat.le_refl _) _ _ _ H4.out.1⟩
end Go.Proofs.YtmlmkmhkmifnkaaGreatDoor.Ci