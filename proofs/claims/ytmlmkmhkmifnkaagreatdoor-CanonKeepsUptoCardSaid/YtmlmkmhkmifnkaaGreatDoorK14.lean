import Derived.Test.YtmlmkmhkmifnkaaGreatDoorK13
import Derived.Lib.Replace
import Derived.Lib.FieldsP
import Derived.Lib.DecodeN
set_option maxHeartbeats 16000000
set_option maxRecDepth 1000000
namespace Go.Proofs.YtmlmkmhkmifnkaaGreatDoor.Ma
open Go.RowKit
open Ci (Bel Lay ext_bytes app_data Nt netC netV zeroN zeroN_fits addrQ errQ netC_one net_len range_net)
theorem repl_one(c:UInt8)(r:List UInt8):∀(k:Nat) (l:List UInt8),l.count c=k→Lib.replaceK [c] r k l=l.flatMap fun b=>if b=c then r else[b]
 |0,l,h=>by
  have hn:c∉l:=List.count_eq_zero.1 h
  show l=_
  have:∀l:List UInt8,c∉l→l=l.flatMap fun b=>if b=c then r else[b]:=by
   intro l
   induction l with
   |nil=>intro _;rfl
   |cons b l ih=>
    intro hn
    rw[List.flatMap_cons,if_neg (fun e=>hn (by rw[e];exact List.mem_cons_self ..)),←ih fun e=>hn (List.mem_cons_of_mem _ e)]
    rfl
  exact this l hn
 |k+1,l,h=>by
  rcases Ci.split_at c l with hn|⟨p,q,rfl,hp⟩
  ·rw[List.count_eq_zero.2 hn]at h;cases h
  ·have hc:(p++c::q).count c=q.count c+1:=by
    rw[List.count_append,List.count_cons_self,List.count_eq_zero.2 hp,Nat.zero_add]
   have hq:q.count c=k:=by omega
   rw[Lib.replaceK_hit [c] r k _ p.length (Ci.index_one_some c p q hp),List.take_left]
   have e:(p++c::q).drop (p.length+[c].length)=q:=by simp
   rw[e,repl_one c r k q hq,List.flatMap_append,List.flatMap_cons,if_pos rfl]
   have:p=p.flatMap fun b=>if b=c then r else[b]:=by
    have key:∀l:List UInt8,c∉l→l=l.flatMap fun b=>if b=c then r else[b]:=by
     intro l
     induction l with
     |nil=>intro _;rfl
     |cons b l ih=>
      intro hn
      rw[List.flatMap_cons,if_neg (fun e=>hn (by rw[e];exact List.mem_cons_self ..)),←ih fun e=>hn (List.mem_cons_of_mem _ e)]
      rfl
    exact key p hp
   rw[←this]
   simp
def escK(l:List UInt8):List UInt8:=l.flatMap fun b=>if b=92 then[92,92]else[b]
def escQ(l:List UInt8):List UInt8:=l.flatMap fun b=>if b=34 then[92,34]else[b]
theorem esc_two:∀l:List UInt8,escQ (escK l)=l.flatMap esc
 |[]=>rfl
 |b::l=>by
  have ih:=esc_two l
  unfold escQ escK at ih⊢
  rw[List.flatMap_cons,List.flatMap_append,ih,List.flatMap_cons]
  congr 1
  unfold esc
  by_cases h1:b=92
  ·subst h1;decide
  ·by_cases h2:b=34
   ·subst h2;decide
   ·rw[if_neg h1,if_neg (fun e=>e.elim h2 h1)]
    simp[h2]
theorem repl_len(c:UInt8)(r:List UInt8)(hr:r.length≤2):∀l:List UInt8,(l.flatMap fun b=>if b=c then r else[b]).length≤2*l.length
 |[]=>by simp
 |b::l=>by
  have ih:=repl_len c r hr l
  rw[List.flatMap_cons,List.length_append,List.length_cons]
  by_cases h:b=c
  ·rw[if_pos h];omega
  ·rw[if_neg h,List.length_singleton];omega
theorem esc_len(l:List UInt8):(escK l).length≤2*l.length∧(escQ (escK l)).length≤4*l.length:=by
 have h1:=repl_len 92 [92,92] (Nat.le_refl _) l
 have h2:=repl_len 34 [92,34] (Nat.le_refl _) (escK l)
 exact⟨h1,Nat.le_trans h2 (by show 2*(escK l).length≤_;have:(escK l).length≤2*l.length:=h1;omega)⟩
theorem form_len(l:List UInt8):(formP l).length≤4*l.length+2:=by
 unfold formP
 split
 ·omega
 ·have:=(esc_len l).2
  rw[esc_two]at this
  rw[List.length_cons,List.length_append,List.length_singleton]
  omega
theorem countB_le(s:ByteArray)(c:UInt8):Lib.countB s ⟨#[c]⟩≤s.size:=by
 have h:=Ci.pieces_data s c
 have h1:=congrArg List.length h
 rw[List.length_map,Ci.splitL_len]at h1
 have h2:=List.count_le_length (a:=c) (l:=s.data.toList)
 rw[←Lib.size_eq]at h2
 have h3:(Ci.pieces s ⟨#[c]⟩).length=Lib.countB s ⟨#[c]⟩+1:=Lib.splitB_all ⟨#[c]⟩ (Nat.le_refl 1) 0 _ s rfl
 omega
theorem repl_all(s:List UInt8)(c:UInt8)(r:List UInt8)(hr:r≠[c])(hc:Lib.count s [c]=s.count c):Lib.replaceAll s [c] r=s.flatMap fun b=>if b=c then r else[b]:=by
 unfold Lib.replaceAll Lib.replace Lib.replaceNum
 rw[if_neg (by rw[beq_iff_eq];exact fun e=>hr e.symm),if_pos (.inl (by decide)),hc]
 exact repl_one c r _ s rfl
theorem replace_run(s:ByteArray)(c:UInt8)(r:List UInt8)(hr:r≠[c])(h2:r.length≤2)(w:World)(hw:Lay w)(hs:s.size≤16777216):
 Calls Tryz.prog 158 #[.string s,.string ⟨#[c]⟩,.string ⟨r.toArray⟩] w fun e w'=>e=.returned (.string ⟨(s.data.toList.flatMap fun b=>if b=c then r else[b]).toArray⟩)∧Bel w w':=by
 obtain⟨m,hm⟩:=hw.most
 have hcb:=countB_le s c
 have hrs:(⟨r.toArray⟩:ByteArray).size=r.length:=by rw[Lib.size_eq]
 have hb:Lib.countB s ⟨#[c]⟩*(⟨r.toArray⟩:ByteArray).size≤33554432:=by
  rw[hrs]
  have:=Nat.mul_le_mul hcb h2
  omega
 have hc:Lib.count s.data.toList [c]=s.data.toList.count c:=by
  have h:=congrArg List.length (Ci.pieces_data s c)
  rw[List.length_map,Ci.splitL_len]at h
  have h3:(Ci.pieces s ⟨#[c]⟩).length=Lib.countB s ⟨#[c]⟩+1:=Lib.splitB_all ⟨#[c]⟩ (Nat.le_refl 1) 0 _ s rfl
  have h4:Lib.countB s ⟨#[c]⟩=Lib.count s.data.toList [c]:=rfl
  omega
 have:=Tryz.strings_ReplaceAll s ⟨#[c]⟩ ⟨r.toArray⟩ m w (by omega) hm (Nat.le_refl 1) (by omega)
 rw[show(⟨#[c]⟩:ByteArray).data.toList=[c]from rfl,show(⟨r.toArray⟩:ByteArray).data.toList=r by simp,repl_all _ _ _ hr hc]at this
 exact this
end Go.Proofs.YtmlmkmhkmifnkaaGreatDoor.Ma
namespace Go.Proofs.YtmlmkmhkmifnkaaGreatDoor.Ma
open Go.RowKit
open Ci (Bel Lay ext_bytes app_data Nt netC netV zeroN zeroN_fits addrQ errQ netC_one net_len range_net Aft wp_region_aft Calls.aft)
theorem lower_le(l:List UInt8):(lowL l).length=l.length:=by unfold lowL;rw[List.length_map]
theorem form_run(s:ByteArray)(w:World)(hw:Lay w)(hs:s.size≤4194304):
 Calls Tryz.prog 88 #[.string s] w fun e w'=>e=.returned (.string ⟨(formP s.data.toList).toArray⟩)∧Bel w w':=by
 have hs':=Lib.size_eq s
 have he:=esc_len s.data.toList
 have hk:(⟨(escK s.data.toList).toArray⟩:ByteArray).size=(escK s.data.toList).length:=by rw[Lib.size_eq]
 have hq:(⟨(escQ (escK s.data.toList)).toArray⟩:ByteArray).size=(escQ (escK s.data.toList)).length:=by rw[Lib.size_eq]
 have HD:=(show Hid (∀W,Lay W→Calls Tryz.prog 157 #[.string s] W fun e w'=>e=.returned (.bool (dottedQ s.data.toList))∧Bel W w')from fun W hW=>dotted_run s W hW (by omega))
 have H1:=(show Hid (∀W,Lay W→Calls Tryz.prog 158 #[.string s,.string ⟨#[92]⟩,.string ⟨#[92,92]⟩] W fun e w'=>e=.returned (.string ⟨(escK s.data.toList).toArray⟩)∧Bel W w')from fun W hW=>replace_run s 92 [92,92] (by decide) (Nat.le_refl _) W hW (by omega))
 have H2:=(show Hid (∀W,Lay W→Calls Tryz.prog 158 #[.string ⟨(escK s.data.toList).toArray⟩,.string ⟨#[34]⟩,.string ⟨#[92,34]⟩] W fun e w'=>e=.returned (.string ⟨(escQ (escK s.data.toList)).toArray⟩)∧Bel W w')from fun W hW=>replace_run ⟨(escK s.data.toList).toArray⟩ 34 [92,34] (by decide) (Nat.le_refl _) W hW (by omega))
 have HF:=hid (show formP s.data.toList=if dottedQ s.data.toList then s.data.toList else 34::(escQ (escK s.data.toList)++[34]) by rw[esc_two];rfl)
 have a1:∀W:World,(Op.stringOp .add ⟨#[34]⟩ ⟨(escQ (escK s.data.toList)).toArray⟩).run Tryz.prog W=.ok (.string (⟨#[34]⟩++⟨(escQ (escK s.data.toList)).toArray⟩)) W:=fun W=>run_string_add_sum W _ _ (by rw[hq];show 1+_≤_;omega)
 have a2:∀W:World,(Op.stringOp .add (⟨#[34]⟩++⟨(escQ (escK s.data.toList)).toArray⟩) ⟨#[34]⟩).run Tryz.prog W=.ok (.string ((⟨#[34]⟩++⟨(escQ (escK s.data.toList)).toArray⟩)++⟨#[34]⟩)) W:=fun W=>run_string_add_sum W _ _ (by rw[ByteArray.size_append,hq];show 1+_+1≤_;omega)
 have HR:=hid (show formP s.data.toList=34::(escQ (escK s.data.toList)++[34])→(⟨(formP s.data.toList).toArray⟩:ByteArray)=(⟨#[34]⟩++⟨(escQ (escK s.data.toList)).toArray⟩)++⟨#[34]⟩from fun h=>by
  rw[h]
  refine ext_bytes ?_
  rw[app_data,app_data]
  simp)
 generalize escQ (escK s.data.toList)=q2 at H2 HF HR a1 a2
 generalize escK s.data.toList=q1 at H1 H2
 generalize formP s.data.toList=r at HF HR
 have HW:=hid hw
 clear hw hs hs' he hk hq
 cases hd:dottedQ s.data.toList with
 |true=>
  rw[hd]at HD HF
  clear hd a1 a2
  go_enter Tryz.func88,Tryz.ntmps88
  go_wp2_with (first|(go_at_call 157;refine(HD.out _ HW.out).mono ?_;rintro e w1 ⟨rfl,hb1⟩))
  go_ret
  refine⟨?_,hb1⟩
  rw[HF.out,if_pos trivial]
  rfl
 |false=>
  rw[hd]at HD HF
  clear hd
  go_enter Tryz.func88,Tryz.ntmps88
  go_wp2_with (first|(go_at_call 157;refine(HD.out _ HW.out).mono ?_;rintro e w1 ⟨rfl,hb1⟩)|(go_at_call 158;first|(with_reducible refine(H1.out _ (HW.out.next hb1)).mono ?_;rintro e w2 ⟨rfl,hb2⟩)|(with_reducible refine(H2.out _ (HW.out.next (hb1.trans hb2))).mono ?_;rintro e w3 ⟨rfl,hb3⟩)))
  go_ret
  refine⟨?_,hb1.trans (hb2.trans hb3)⟩
  rw[HR.out (by rw[HF.out];rfl)]
  rfl
theorem pshown_run(n:Bool)(l d:ByteArray)(t:Bool)(w:World)(hw:Lay w)(hl:l.size≤4194304)(hd:d.size≤4194304):
 Calls Tryz.prog 89 #[.agg #[.bool n,.string l,.string d,.bool t]] w fun e w'=>e=.returned (.string ⟨(shownP ⟨n,l.data.toList,d.data.toList,t⟩).toArray⟩)∧Bel w w':=by
 have H0:=hid (And.intro ((Bel.refl w).alloc (.cells #[.bool n,.string l,.string d,.bool t] 26)) (heap_alloc_new w (.cells #[.bool n,.string l,.string d,.bool t] 26)))
 have hlen:=form_len l.data.toList
 have hs':=Lib.size_eq l
 have hF:(⟨(formP l.data.toList).toArray⟩:ByteArray).size=(formP l.data.toList).length:=by rw[Lib.size_eq]
 have HF:=(show Hid (∀W,Lay W→Calls Tryz.prog 88 #[.string l] W fun e w'=>e=.returned (.string ⟨(formP l.data.toList).toArray⟩)∧Bel W w')from fun W hW=>form_run l W hW hl)
 have HS:=hid (show shownP ⟨n,l.data.toList,d.data.toList,t⟩=if n then[]else if !t&&d.data.toList.isEmpty then formP l.data.toList else formP l.data.toList++[64]++domP ⟨n,l.data.toList,d.data.toList,t⟩from rfl)
 have HDm:=hid (show domP ⟨n,l.data.toList,d.data.toList,t⟩=if t then[91]++(if((addrQ d.data.toList).getD zeroN).six then IPv6 else[])++d.data.toList++[93]else d.data.toList from by
  unfold domP sixP
  cases h:addrQ d.data.toList with
  |none=>rfl
  |some k=>rfl)
 generalize shownP ⟨n,l.data.toList,d.data.toList,t⟩=r at HS
 generalize domP ⟨n,l.data.toList,d.data.toList,t⟩=dm at HS HDm
 have HA:=(show Hid (∀W,Lay W→Calls Tryz.prog 64 #[.string d] W fun e w'=>e=.returned (.tuple #[.agg (netC ((addrQ d.data.toList).getD zeroN)).toArray,.int .i64 (errQ (addrQ d.data.toList))])∧Bel W w')from fun W hW=>Ci.addr_run d W hW (by omega))
 have HN:=hid (show((addrQ d.data.toList).getD zeroN).Fits by
  cases h:addrQ d.data.toList with
  |none=>exact zeroN_fits
  |some k=>exact(Ci.addrQ_fits h).1)
 generalize (addrQ d.data.toList).getD zeroN=a at HA HN HDm
 generalize errQ (addrQ d.data.toList)=ea at HA
 have HW:=hid hw
 have hFl:(⟨(formP l.data.toList).toArray⟩:ByteArray).size≤20000000:=by rw[hF];omega
 have HX:=hid (show(⟨(formP l.data.toList).toArray⟩:ByteArray).data.toList=formP l.data.toList from rfl)
 generalize (⟨(formP l.data.toList).toArray⟩:ByteArray)=fl at HF hFl HX
 rw[←HX.out]at HS
 clear hw hlen hs' hF HX hl
 cases n with
 |true=>
  have HX:=hid (show r=[]from HS.out)
  go_enter Tryz.func89,Tryz.ntmps89
  go_wp2_with fail
  go_ret
  exact⟨by rw[HX.out];rfl,H0.out.1⟩
 |false=>
  cases t with
  |true=>
   have HX:=hid (show r=fl.data.toList++[64]++([91]++(if a.six then IPv6 else[])++d.data.toList++[93]) by
    rw[HS.out,HDm.out];rfl)
   clear HS HDm
   have HZ:=hid (net_len a HN.out.len)
   have hBz:(netC a).length=(netC zeroN).length:=by rw[Ci.netC_len a HN.out.len,Ci.netC_len zeroN zeroN_fits.len]
   have HL:=hid hBz
   clear hBz
   have HP0:=hid H0.out.2
   cases h6:a.six with
   |true=>
    have a1:∀W:World,(Op.stringOp .add fl ⟨#[64,91]⟩).run Tryz.prog W=.ok (.string (fl++⟨#[64,91]⟩)) W:=fun W=>run_string_add_sum W _ _ (by show fl.size+2≤_;omega)
    have a2:∀W:World,(Op.stringOp .add (fl++⟨#[64,91]⟩) ⟨#[73,80,118,54,58]⟩).run Tryz.prog W=.ok (.string ((fl++⟨#[64,91]⟩)++⟨#[73,80,118,54,58]⟩)) W:=fun W=>run_string_add_sum W _ _ (by rw[ByteArray.size_append];show fl.size+2+_≤_;show fl.size+2+5≤_;omega)
    have a3:∀W:World,(Op.stringOp .add ((fl++⟨#[64,91]⟩)++⟨#[73,80,118,54,58]⟩) d).run Tryz.prog W=.ok (.string (((fl++⟨#[64,91]⟩)++⟨#[73,80,118,54,58]⟩)++d)) W:=fun W=>run_string_add_sum W _ _ (by rw[ByteArray.size_append,ByteArray.size_append];show fl.size+2+5+d.size≤_;omega)
    have a4:∀W:World,(Op.stringOp .add (((fl++⟨#[64,91]⟩)++⟨#[73,80,118,54,58]⟩)++d) ⟨#[93]⟩).run Tryz.prog W=.ok (.string ((((fl++⟨#[64,91]⟩)++⟨#[73,80,118,54,58]⟩)++d)++⟨#[93]⟩)) W:=fun W=>run_string_add_sum W _ _ (by rw[ByteArray.size_append,ByteArray.size_append,ByteArray.size_append];show fl.size+2+5+d.size+1≤_;omega)
    rw[h6]at HX
    go_enter Tryz.func89,Tryz.ntmps89
    go_upto_region 8 with(first|(go_at_call 64;refine(HA.out _ (HW.out.next H0.out.1)).mono ?_;rintro e w2 ⟨rfl,hb2⟩;have hp2:=hb2.heap HP0.out)|(refine wpList_store_blk rfl 86 (.tmp 3) (.tmp 16) rfl w2.heap.size (netC a) rfl rfl HZ.out (netC_one a) (netC zeroN) _ (heap_alloc_new w2 _) HL.out ?_;intro w3 hc3 ho3 hs3 hb3;have HB3:=hid (hb3 w2 ((Bel.refl w2).alloc _) (Nat.le_refl _));have c3:w3.cell? ⟨w2.heap.size,0,none⟩=some (.bool true):=(by simp[World.cell?,hc3,netC,h6]);clear ho3 hs3 hb3))
    have HB4:=hid (show Bel w w3 from H0.out.1.trans (hb2.trans HB3.out))
    have hp3:=HB3.out.heap hp2
    have k1:∀p:Aft w3,p.wd.cell? ⟨w.heap.size,1,none⟩=some (.string l):=fun p=>p.cell hp3 rfl
    have k2:∀p:Aft w3,p.wd.cell? ⟨w.heap.size,2,none⟩=some (.string d):=fun p=>p.cell hp3 rfl
    have HFq:=hid (fun p:Aft w3=>HF.out p.wd (HW.out.next (HB4.out.trans p.bel)))
    clear c3 hc3 hp2 hp3 hb2 h6
    refine wp_region_aft (by kernel_rfl) (by kernel_rfl) ?_
    repeat (first
     |go_big_quiet_skip
     |go_big_quiet_step (first|(go_at_call 88;exact Calls.aft (HFq.out _)))
     |quiet_step (first|(go_at_call 88;exact Calls.aft (HFq.out _))))
    refine wpQuiet_nil ?_
    rintro _ ⟨p,rfl⟩
    go_wp2_with fail
    go_ret
    refine⟨?_,HB4.out.trans p.bel⟩
    refine congrArg Ending.returned (congrArg Value.string (ext_bytes ?_))
    rw[app_data,app_data,app_data,app_data,HX.out]
    simp[IPv6]
   |false=>
    have a1:∀W:World,(Op.stringOp .add fl ⟨#[64,91]⟩).run Tryz.prog W=.ok (.string (fl++⟨#[64,91]⟩)) W:=fun W=>run_string_add_sum W _ _ (by show fl.size+2≤_;omega)
    have a2:∀W:World,(Op.stringOp .add (fl++⟨#[64,91]⟩) ⟨#[]⟩).run Tryz.prog W=.ok (.string ((fl++⟨#[64,91]⟩)++⟨#[]⟩)) W:=fun W=>run_string_add_sum W _ _ (by rw[ByteArray.size_append];show fl.size+2+_≤_;show fl.size+2+0≤_;omega)
    have a3:∀W:World,(Op.stringOp .add ((fl++⟨#[64,91]⟩)++⟨#[]⟩) d).run Tryz.prog W=.ok (.string (((fl++⟨#[64,91]⟩)++⟨#[]⟩)++d)) W:=fun W=>run_string_add_sum W _ _ (by rw[ByteArray.size_append,ByteArray.size_append];show fl.size+2+0+d.size≤_;omega)
    have a4:∀W:World,(Op.stringOp .add (((fl++⟨#[64,91]⟩)++⟨#[]⟩)++d) ⟨#[93]⟩).run Tryz.prog W=.ok (.string ((((fl++⟨#[64,91]⟩)++⟨#[]⟩)++d)++⟨#[93]⟩)) W:=fun W=>run_string_add_sum W _ _ (by rw[ByteArray.size_append,ByteArray.size_append,ByteArray.size_append];show fl.size+2+0+d.size+1≤_;omega)
    rw[h6]at HX
    go_enter Tryz.func89,Tryz.ntmps89
    go_upto_region 8 with(first|(go_at_call 64;refine(HA.out _ (HW.out.next H0.out.1)).mono ?_;rintro e w2 ⟨rfl,hb2⟩;have hp2:=hb2.heap HP0.out)|(refine wpList_store_blk rfl 86 (.tmp 3) (.tmp 16) rfl w2.heap.size (netC a) rfl rfl HZ.out (netC_one a) (netC zeroN) _ (heap_alloc_new w2 _) HL.out ?_;intro w3 hc3 ho3 hs3 hb3;have HB3:=hid (hb3 w2 ((Bel.refl w2).alloc _) (Nat.le_refl _));have c3:w3.cell? ⟨w2.heap.size,0,none⟩=some (.bool false):=(by simp[World.cell?,hc3,netC,h6]);clear ho3 hs3 hb3))
    have HB4:=hid (show Bel w w3 from H0.out.1.trans (hb2.trans HB3.out))
    have hp3:=HB3.out.heap hp2
    have k1:∀p:Aft w3,p.wd.cell? ⟨w.heap.size,1,none⟩=some (.string l):=fun p=>p.cell hp3 rfl
    have k2:∀p:Aft w3,p.wd.cell? ⟨w.heap.size,2,none⟩=some (.string d):=fun p=>p.cell hp3 rfl
    have HFq:=hid (fun p:Aft w3=>HF.out p.wd (HW.out.next (HB4.out.trans p.bel)))
    clear c3 hc3 hp2 hp3 hb2 h6
    refine wp_region_aft (by kernel_rfl) (by kernel_rfl) ?_
    repeat (first
     |go_big_quiet_skip
     |go_big_quiet_step (first|(go_at_call 88;exact Calls.aft (HFq.out _)))
     |quiet_step (first|(go_at_call 88;exact Calls.aft (HFq.out _))))
    refine wpQuiet_nil ?_
    rintro _ ⟨p,rfl⟩
    go_wp2_with fail
    go_ret
    refine⟨?_,HB4.out.trans p.bel⟩
    refine congrArg Ending.returned (congrArg Value.string (ext_bytes ?_))
    rw[app_data,app_data,app_data,app_data,HX.out]
    simp
  |false=>
   cases hemp:d.toList.isEmpty with
   |true=>
    have HX:=hid (show r=fl.data.toList by
     rw[emp_iff]at hemp
     rw[HS.out,hemp];rfl)
    clear HS HDm
    go_enter Tryz.func89,Tryz.ntmps89
    go_wp2_with (first|(go_at_call 88;refine(HF.out _ (HW.out.next H0.out.1)).mono ?_;rintro e w2 ⟨rfl,hb2⟩))
    go_ret
    exact⟨by rw[HX.out];rfl,H0.out.1.trans hb2⟩
   |false=>
    have HX:=hid (show r=fl.data.toList++[64]++d.data.toList by
     rw[emp_iff]at hemp
     rw[HS.out,HDm.out,hemp];rfl)
    have a1:∀W:World,(Op.stringOp .add fl ⟨#[64]⟩).run Tryz.prog W=.ok (.string (fl++⟨#[64]⟩)) W:=fun W=>run_string_add_sum W _ _ (by show fl.size+1≤_;omega)
    have a2:∀W:World,(Op.stringOp .add (fl++⟨#[64]⟩) d).run Tryz.prog W=.ok (.string ((fl++⟨#[64]⟩)++d)) W:=fun W=>run_string_add_sum W _ _ (by rw[ByteArray.size_append];show fl.size+1+d.size≤_;omega)
    clear HS HDm
    go_enter Tryz.func89,Tryz.ntmps89
    go_upto_region 11 with(fail)
    have hp3:=H0.out.2
    have HB4:=hid H0.out.1
    generalize w.alloc (.cells #[.bool false,.string l,.string d,.bool false] 26)=w3 at hp3 HB4⊢
    have k1:∀p:Aft w3,p.wd.cell? ⟨w.heap.size,1,none⟩=some (.string l):=fun p=>p.cell hp3 rfl
    have k2:∀p:Aft w3,p.wd.cell? ⟨w.heap.size,2,none⟩=some (.string d):=fun p=>p.cell hp3 rfl
    have HFq:=hid (fun p:Aft w3=>HF.out p.wd (HW.out.next (HB4.out.trans p.bel)))
    clear hp3
    refine wp_region_aft (by kernel_rfl) (by kernel_rfl) ?_
    repeat (first
     |go_big_quiet_skip
     |go_big_quiet_step (first|(go_at_call 88;exact Calls.aft (HFq.out _)))
     |quiet_step (first|(go_at_call 88;exact Calls.aft (HFq.out _))))
    refine wpQuiet_nil ?_
    rintro _ ⟨p,rfl⟩
    go_wp2_with fail
    go_ret
    refine⟨?_,HB4.out.trans p.bel⟩
    refine congrArg Ending.returned (congrArg Value.string (ext_bytes ?_))
    rw[app_data,app_data,HX.out]
end Go.Proofs.YtmlmkmhkmifnkaaGreatDoor.Ma
namespace Go.Proofs.YtmlmkmhkmifnkaaGreatDoor.Ma
open Go.RowKit
theorem tl_ne{a b:ByteArray}(h:¬a=b):¬a.toList=b.toList:=by
 rw[ByteArray.toList_eq,ByteArray.toList_eq]
 exact fun e=>h (by
  have:=Array.toList_inj.1 e
  cases a;cases b
  simpa using this)
theorem eq_pt(n1:Bool)(l1 d1:ByteArray)(t1:Bool)(n2:Bool)(l2 d2:ByteArray)(t2:Bool)(w:World):
 (Op.equalIn 10000 26 (.agg #[.bool n1,.string l1,.string d1,.bool t1]) (.agg #[.bool n2,.string l2,.string d2,.bool t2])).run Tryz.prog w=.ok (decide (n1=n2∧l1=l2∧d1=d2∧t1=t2)) w:=by
 have u4:=Tryz.underlying4
 have a4:=Tryz.isAgg4
 have z4:=Tryz.sizeOf4
 have u9:=Tryz.underlying9
 have a9:=Tryz.isAgg9
 have z9:=Tryz.sizeOf9
 rw[show(10000:Nat)=9999+1 from rfl,Op.equalIn]
 simp only[Sem.run_bind,run_underlying Tryz.underlying26,Result.andThen_ok]
 go_simp
 by_cases h1:n1=n2
 case neg=>simp[h1]
 subst h1
 by_cases h2:l1=l2
 case neg=>simp[h2,tl_ne h2]
 subst h2
 by_cases h3:d1=d2
 case neg=>simp[h3,tl_ne h3]
 subst h3
 by_cases h4:t1=t2
 case neg=>simp[h4]
 subst h4
 simp
end Go.Proofs.YtmlmkmhkmifnkaaGreatDoor.Ma
namespace Go.Proofs.YtmlmkmhkmifnkaaGreatDoor.Ci
open Go.RowKit
theorem dec_big(n b0 b1 b2 b3:Nat)(h:¬b0<128)(hn:1≤n):
 128≤(Lib.decodeN n b0 b1 b2 b3).1∧1≤(Lib.decodeN n b0 b1 b2 b3).2∧(Lib.decodeN n b0 b1 b2 b3).2≤n∧(Lib.decodeN n b0 b1 b2 b3).2≤4∧(1<(Lib.decodeN n b0 b1 b2 b3).2→128≤b1)∧(2<(Lib.decodeN n b0 b1 b2 b3).2→128≤b2)∧(3<(Lib.decodeN n b0 b1 b2 b3).2→128≤b3):=by
 unfold Lib.decodeN
 repeat' split
 all_goals (simp only;omega)
theorem get_at(s:ByteArray)(i:Nat):s.get! i=s.data.toList.getD i 0:=by
 cases s with
 |mk d=>
  show d[i]! =d.toList.getD i 0
  simp[List.getD,Array.getElem!_eq_getD,Array.getD_eq_getD_getElem?]
  rfl
end Go.Proofs.YtmlmkmhkmifnkaaGreatDoor.Ci
namespace Go.Proofs.YtmlmkmhkmifnkaaGreatDoor.Ma
open Go.RowKit
open Ci (Bel Lay ext_bytes app_data Nt netC netV zeroN zeroN_fits addrQ errQ netC_one net_len range_net Aft wp_region_aft Calls.aft dec_big get_at formQ rightQ)
def oddR(x:Nat):Bool:=decide (x<32)||decide (126<x)
theorem idx_odd(s:ByteArray):∀(f pos:Nat),pos≤s.size→s.size-pos≤f→decide (0≤Lib.idxFuncFrom oddR true s f pos)=(s.data.toList.drop pos).any oddB
 |0,pos,h1,h2=>by
  have:=Lib.size_eq s
  rw[List.drop_eq_nil_of_le (by omega)]
  rfl
 |f+1,pos,h1,h2=>by
  have hsz:=Lib.size_eq s
  by_cases hp:pos<s.size
  ·unfold Lib.idxFuncFrom
   rw[if_pos hp,List.drop_eq_getElem_cons (by omega:pos<s.data.toList.length),List.any_cons]
   have hg:s.get! pos=s.data.toList[pos]'(by omega):=by
    rw[Ci.get_at,List.getD_eq_getElem?_getD,List.getElem?_eq_getElem (by omega)]
    rfl
   rw[←hg]
   have hd:=Lib.decode_at s pos
   by_cases hb:(s.get! pos).toNat<128
   ·have e:Utf8.decode s pos=((s.get! pos).toNat,1):=by
     rw[hd];unfold Lib.decodeN;rw[if_pos hb]
    have ih:=idx_odd s f (pos+1) (by omega) (by omega)
    rw[e]
    have eo:oddR (s.get! pos).toNat=oddB (s.get! pos):=rfl
    simp only
    rw[eo]
    cases oddB (s.get! pos)with
    |true=>rw[if_pos rfl,Bool.true_or];exact decide_eq_true (by omega)
    |false=>rw[if_neg (by decide),Bool.false_or];exact ih
   ·have hB:=dec_big (s.size-pos) (s.get! pos).toNat (s.get! (pos+1)).toNat (s.get! (pos+2)).toNat (s.get! (pos+3)).toNat hb (by omega)
    rw[←hd]at hB
    have eo:oddR (Utf8.decode s pos).1=true:=by unfold oddR;rw[decide_eq_true (by omega:126<(Utf8.decode s pos).1),Bool.or_true]
    have eb:oddB (s.get! pos)=true:=by unfold oddB;rw[decide_eq_true (by omega:126<(s.get! pos).toNat),Bool.or_true]
    rw[eo,if_pos rfl,eb,Bool.true_or]
    exact decide_eq_true (by omega)
  ·rw[List.drop_eq_nil_of_le (by omega),Lib.idxFuncFrom_end _ _ _ _ _ hp]
   rfl
theorem odd_run(x:Nat)(hx:x≤1114111)(w:World):Calls Tryz.prog 156 #[.int .i32 (x:Int)] w fun e w'=>e=.returned (.bool (oddR x))∧Bel w w':=by
 by_cases h:x<32
 ·have b1:decide ((x:Int)<32)=true:=decide_eq_true (by omega)
  have HX:=hid (show oddR x=true by unfold oddR;rw[decide_eq_true h];rfl)
  clear h
  go_enter Tryz.func156,Tryz.ntmps156
  go_wp2_with fail
  go_ret
  exact⟨by rw[HX.out];rfl,Bel.refl w⟩
 ·have b1:decide ((x:Int)<32)=false:=decide_eq_false (by omega)
  have HX:=hid (show oddR x=decide ((126:Int)<(x:Int)) by
   unfold oddR
   rw[decide_eq_false h,Bool.false_or,decide_eq_decide];omega)
  clear h
  go_enter Tryz.func156,Tryz.ntmps156
  go_wp2_with fail
  go_ret
  exact⟨by rw[HX.out];rfl,Bel.refl w⟩
theorem indexFunc_run(s:ByteArray)(w:World):Calls Tryz.prog 129 #[.string s,.func (.func 156) #[] #[]] w fun e w'=>e=.returned (.int .i64 (Lib.idxFunc oddR true s))∧Bel w w':=
 Tryz.strings_IndexFunc_grows 156 #[] (enters_of Tryz.func156 (by kernel_rfl) rfl) oddR s w fun W x hx _=>by
  change Calls Tryz.prog 156 #[.int .i32 (x:Int)] W _
  exact odd_run x hx W
theorem beq_nil{x:ByteArray}:(x=⟨#[]⟩)↔x.data.toList=[]:=by
 constructor
 ·rintro rfl;rfl
 ·intro h;exact ext_bytes h
theorem may_null(l d:ByteArray)(t:Bool):mayQ ⟨true,l.data.toList,d.data.toList,t⟩=(decide (l=⟨#[]⟩)&&(decide (d=⟨#[]⟩)&& !t)):=by
 unfold mayQ
 rw[if_pos rfl,Bool.eq_iff_iff,beq_iff_eq,Pt.mk.injEq]
 simp[beq_nil]
theorem addr_fits(l:List UInt8):((addrQ l).getD zeroN).Fits:=by
 cases h:addrQ l with
 |none=>exact zeroN_fits
 |some n=>exact(Ci.addrQ_fits h).1
theorem addr_right{s:List UInt8}{n:Nt}(h:addrQ s=some n):rightQ n=true:=by
 have key:∀(six:Bool) (ad:List Nat),ad.length=16→(∀i (hi:i<ad.length),(Ci.sizeQ six)≤8*i→ad[i]=0)→rightQ ⟨six,(Ci.sizeQ six:Nat),ad⟩=true:=by
  intro six ad hl hz
  unfold rightQ
  have e:Ci.cutL ad (Ci.sizeQ six:Nat)=ad:=by
   unfold Ci.cutL
   refine List.ext_getElem (by simp) fun i h1 h2=> ?_
   rw[List.getElem_mapIdx]
   unfold Ci.cutB
   by_cases hc:((Ci.sizeQ six:Nat):Int)-8*i≤0
   ·rw[if_pos hc,hz i h2 (by omega)]
   ·rw[if_neg hc,if_neg (by cases six<;>simp[Ci.sizeQ]at hc⊢ <;>omega)]
  simp only[e]
  cases six<;>simp[Ci.sizeQ]
 unfold addrQ at h
 cases h4:Ci.fourN' s with
 |some m=>
  rw[h4]at h
  obtain rfl:=Option.some.inj h
  unfold Ci.fourN' at h4
  obtain⟨l,hl,rfl⟩:=Option.map_eq_some_iff.1 h4
  have hlen:l.length=4:=by
   unfold Ci.fourT at hl
   split at hl
   ·rename_i h4l
    have:=(Ci.allB_lt _ _ hl).1
    omega
   ·cases hl
  refine key false _ (by simp[hlen]) fun i hi h8=> ?_
  have:32≤8*i:=h8
  rw[List.getElem_append_right (by omega),List.getElem_replicate]
 |none=>
  rw[h4]at h
  have h:Ci.sixQ s=some n:=h
  unfold Ci.sixQ at h
  obtain⟨gs,hg,rfl⟩:=Option.map_eq_some_iff.1 h
  have hg8:=(Ci.sixL_len hg).1
  refine key true _ (by rw[Ci.bytesL_len,hg8]) fun i hi h8=> ?_
  have:128≤8*i:=h8
  rw[Ci.bytesL_len,hg8]at hi
  omega
theorem may_lit(l d:ByteArray)(hl:(l.data.toList.isEmpty||l.data.toList.any oddB)=false):mayQ ⟨false,l.data.toList,d.data.toList,true⟩=(errQ (addrQ d.data.toList)==0&&((⟨((Ci.showQ ((addrQ d.data.toList).getD zeroN)).getD []).toArray⟩:ByteArray).toList==d.toList)):=by
 unfold mayQ
 rw[if_neg Bool.false_ne_true]
 simp only
 rw[hl,if_neg Bool.false_ne_true,if_pos trivial]
 cases h:addrQ d.data.toList with
 |none=>rfl
 |some n=>
  have hr:=addr_right h
  have e:Ci.showQ ((some n).getD zeroN)=some (formQ n):=by unfold Ci.showQ;rw[show(some n).getD zeroN=n from rfl,if_pos hr]
  rw[e]
  show(formQ n==d.data.toList)=_
  rw[show errQ (some n)=0 from rfl]
  show _=(true&&((⟨(formQ n).toArray⟩:ByteArray).toList==d.toList))
  rw[Bool.true_and,ByteArray.toList_eq,ByteArray.toList_eq]
theorem may_run(n:Bool)(l d:ByteArray)(t:Bool)(w:World)(hw:Lay w)(hl:l.size≤4194304)(hd:d.size≤4194304):
 Calls Tryz.prog 87 #[.agg #[.bool n,.string l,.string d,.bool t]] w fun e w'=>e=.returned (.bool (mayQ ⟨n,l.data.toList,d.data.toList,t⟩))∧Bel w w':=by
 have H0:=hid (And.intro ((Bel.refl w).alloc (.cells #[.bool n,.string l,.string d,.bool t] 26)) (heap_alloc_new w (.cells #[.bool n,.string l,.string d,.bool t] 26)))
 have HW:=hid hw
 cases n with
 |true=>
  have HQ:=hid (may_null l d t)
  have he:=fun W=>eq_pt true l d t true ⟨#[]⟩ ⟨#[]⟩ false W
  clear hw
  go_enter Tryz.func87,Tryz.ntmps87
  go_wp2_with fail
  go_ret
  exact⟨by rw[HQ.out];rfl,H0.out.1⟩
 |false=>
  cases hemp:l.toList.isEmpty with
  |true=>
   have HX:=hid (show mayQ ⟨false,l.data.toList,d.data.toList,t⟩=false by
    rw[emp_iff]at hemp
    unfold mayQ
    rw[if_neg Bool.false_ne_true]
    simp only
    rw[hemp,Bool.true_or,if_pos rfl])
   clear hw
   go_enter Tryz.func87,Tryz.ntmps87
   go_wp2_with fail
   go_ret
   exact⟨by rw[HX.out];rfl,H0.out.1⟩
  |false=>
   have hio:decide (0≤Lib.idxFunc oddR true l)=l.data.toList.any oddB:=by
    have:=idx_odd l l.size 0 (Nat.zero_le _) (by omega)
    rw[List.drop_zero]at this
    exact this
   have HI:=(show Hid (∀W,Calls Tryz.prog 129 #[.string l,.func (.func 156) #[] #[]] W fun e w'=>e=.returned (.int .i64 (Lib.idxFunc oddR true l))∧Bel W w')from fun W=>indexFunc_run l W)
   generalize Lib.idxFunc oddR true l=ix at hio HI
   cases ho:l.data.toList.any oddB with
   |true=>
    have b1:decide (0≤ix)=true:=by rw[hio,ho]
    have HX:=hid (show mayQ ⟨false,l.data.toList,d.data.toList,t⟩=false by
     unfold mayQ
     rw[if_neg Bool.false_ne_true]
     simp only
     rw[ho,Bool.or_true,if_pos rfl])
    clear hw hio
    go_enter Tryz.func87,Tryz.ntmps87
    go_wp2_with (first|(go_at_call 129;refine(HI.out _).mono ?_;rintro e w2 ⟨rfl,hb2⟩))
    go_ret
    exact⟨by rw[HX.out];rfl,H0.out.1.trans hb2⟩
   |false=>
    have b1:decide (0≤ix)=false:=by rw[hio,ho]
    have hlo:(l.data.toList.isEmpty||l.data.toList.any oddB)=false:=by rw[←emp_iff,hemp,ho];rfl
    cases t with
    |true=>
     have HX:=hid (may_lit l d hlo)
     have HA:=(show Hid (∀W,Lay W→Calls Tryz.prog 64 #[.string d] W fun e w'=>e=.returned (.tuple #[.agg (netC ((addrQ d.data.toList).getD zeroN)).toArray,.int .i64 (errQ (addrQ d.data.toList))])∧Bel W w')from fun W hW=>Ci.addr_run d W hW (by omega))
     have HN:=hid (addr_fits d.data.toList)
     generalize (addrQ d.data.toList).getD zeroN=a at HA HN HX
     have HV:=(show Hid (∀W,Lay W→Calls Tryz.prog 65 #[.agg (netC a).toArray] W fun e w'=>e=.returned (.tuple #[.string ⟨((Ci.showQ a).getD []).toArray⟩,.int .i64 (Ci.errS a)])∧Bel W w')from fun W hW=>Ci.show_run a HN.out W hW)
     have HZ:=hid (net_len a HN.out.len)
     have HL:=hid (show(netC a).length=(netC zeroN).length by rw[Ci.netC_len a HN.out.len,Ci.netC_len zeroN zeroN_fits.len])
     have HP0:=hid H0.out.2
     generalize (⟨((Ci.showQ a).getD []).toArray⟩:ByteArray)=v at HV HX
     generalize Ci.errS a=es at HV
     generalize errQ (addrQ d.data.toList)=ea at HA HX
     clear hw hio ho hlo
     by_cases h0:ea=0
     ·subst h0
      go_enter Tryz.func87,Tryz.ntmps87
      go_wp2_with (first|(go_at_call 129;refine(HI.out _).mono ?_;rintro e w1 ⟨rfl,hb1⟩;have hp1:=hb1.heap HP0.out;have HB1:=hid (H0.out.1.trans hb1);have q3:w1.cell? ⟨w.heap.size,3,none⟩=some (.bool true):=(by simp[World.cell?,hp1]);have q2:w1.cell? ⟨w.heap.size,2,none⟩=some (.string d):=(by simp[World.cell?,hp1]);have q1:w1.cell? ⟨w.heap.size,1,none⟩=some (.string l):=(by simp[World.cell?,hp1]))|(go_at_call 64;refine(HA.out _ (HW.out.next HB1.out)).mono ?_;rintro e w2 ⟨rfl,hb2⟩;have hp2:=hb2.heap hp1)|(refine wpList_store_blk rfl 86 (.tmp 4) (.tmp 32) rfl w2.heap.size (netC a) rfl rfl HZ.out (netC_one a) (netC zeroN) _ (heap_alloc_new w2 _) HL.out ?_;intro w3 hc3 ho3 hs3 hb3;have HB3:=hid (hb3 w2 ((Bel.refl w2).alloc _) (Nat.le_refl _));have hp3:=HB3.out.heap hp2;clear ho3 hs3 hb3)|(refine wpList_load_mid rfl 86 (.tmp 4) rfl w2.heap.size 0 rfl (netC a) _ (range_net hc3) Tryz.underlying86 rfl HZ.out ?_)|(go_at_call 65;refine(HV.out _ (HW.out.next (HB1.out.trans (hb2.trans HB3.out)))).mono ?_;rintro e w4 ⟨rfl,hb4⟩;have c4:w4.cell? ⟨w.heap.size,2,none⟩=some (.string d):=(by simp[World.cell?,hb4.heap hp3])))
      go_ret
      refine⟨?_,HB1.out.trans (hb2.trans (HB3.out.trans hb4))⟩
      rw[HX.out]
      rfl
     ·have b2:(ea==0)=false:=by simpa using h0
      rw[b2]at HX
      clear h0
      go_enter Tryz.func87,Tryz.ntmps87
      go_wp2_with (first|(go_at_call 129;refine(HI.out _).mono ?_;rintro e w1 ⟨rfl,hb1⟩;have hp1:=hb1.heap HP0.out;have HB1:=hid (H0.out.1.trans hb1);have q3:w1.cell? ⟨w.heap.size,3,none⟩=some (.bool true):=(by simp[World.cell?,hp1]);have q2:w1.cell? ⟨w.heap.size,2,none⟩=some (.string d):=(by simp[World.cell?,hp1]);have q1:w1.cell? ⟨w.heap.size,1,none⟩=some (.string l):=(by simp[World.cell?,hp1]))|(go_at_call 64;refine(HA.out _ (HW.out.next HB1.out)).mono ?_;rintro e w2 ⟨rfl,hb2⟩;have hp2:=hb2.heap hp1)|(refine wpList_store_blk rfl 86 (.tmp 4) (.tmp 32) rfl w2.heap.size (netC a) rfl rfl HZ.out (netC_one a) (netC zeroN) _ (heap_alloc_new w2 _) HL.out ?_;intro w3 hc3 ho3 hs3 hb3;have HB3:=hid (hb3 w2 ((Bel.refl w2).alloc _) (Nat.le_refl _));have hp3:=HB3.out.heap hp2;clear ho3 hs3 hb3)|(refine wpList_load_mid rfl 86 (.tmp 4) rfl w2.heap.size 0 rfl (netC a) _ (range_net hc3) Tryz.underlying86 rfl HZ.out ?_)|(go_at_call 65;refine(HV.out _ (HW.out.next (HB1.out.trans (hb2.trans HB3.out)))).mono ?_;rintro e w4 ⟨rfl,hb4⟩;have c4:w4.cell? ⟨w.heap.size,2,none⟩=some (.string d):=(by simp[World.cell?,hb4.heap hp3])))
      go_ret
      refine⟨?_,HB1.out.trans (hb2.trans (HB3.out.trans hb4))⟩
      rw[HX.out]
      rfl
    |false=>
     have HP0:=hid H0.out.2
     have HM:=hid (show mayQ ⟨false,l.data.toList,d.data.toList,false⟩=if d.data.toList.isEmpty then l.data.toList==pmL else namedQ d.data.toList&&lowL d.data.toList==d.data.toList by
      unfold mayQ
      rw[if_neg Bool.false_ne_true]
      simp only
      rw[hlo,if_neg Bool.false_ne_true,if_neg Bool.false_ne_true])
     cases hde:d.toList.isEmpty with
     |true=>
      have HX:=hid (show mayQ ⟨false,l.data.toList,d.data.toList,false⟩=(l.toList==[112,111,115,116,109,97,115,116,101,114]) by
       rw[emp_iff]at hde
       rw[HM.out,hde,if_pos rfl,ByteArray.toList_eq]
       rfl)
      clear hw hio ho hlo
      go_enter Tryz.func87,Tryz.ntmps87
      go_wp2_with (first|(go_at_call 129;refine(HI.out _).mono ?_;rintro e w1 ⟨rfl,hb1⟩;have hp1:=hb1.heap HP0.out;have HB1:=hid (H0.out.1.trans hb1);have q3:w1.cell? ⟨w.heap.size,3,none⟩=some (.bool false):=(by simp[World.cell?,hp1]);have q2:w1.cell? ⟨w.heap.size,2,none⟩=some (.string d):=(by simp[World.cell?,hp1]);have q1:w1.cell? ⟨w.heap.size,1,none⟩=some (.string l):=(by simp[World.cell?,hp1])))
      go_ret
      refine⟨?_,HB1.out⟩
      rw[HX.out]
      rfl
     |false=>
      have HX:=hid (show mayQ ⟨false,l.data.toList,d.data.toList,false⟩=(namedQ d.data.toList&&((⟨(lowL d.data.toList).toArray⟩:ByteArray).toList==d.toList)) by
       rw[emp_iff]at hde
       rw[HM.out,hde,if_neg Bool.false_ne_true,ByteArray.toList_eq,ByteArray.toList_eq])
      have HNm:=(show Hid (∀W,Lay W→Calls Tryz.prog 66 #[.string d] W fun e w'=>e=.returned (.bool (namedQ d.data.toList))∧Bel W w')from fun W hW=>named_run d W hW (by omega))
      have HLo:=(show Hid (∀W,Calls Tryz.prog 63 #[.string d] W fun e w'=>e=.returned (.string ⟨(lowL d.data.toList).toArray⟩)∧Bel W w')from fun W=>lower_run d W (by omega))
      generalize (⟨(lowL d.data.toList).toArray⟩:ByteArray)=lo at HX HLo
      clear hw hio ho hlo
      cases hn:namedQ d.data.toList with
      |false=>
       rw[hn]at HX HNm
       clear hn
       go_enter Tryz.func87,Tryz.ntmps87
       go_upto_region 12 with(first|(go_at_call 129;refine(HI.out _).mono ?_;rintro e w1 ⟨rfl,hb1⟩;have hp1:=hb1.heap HP0.out;have HB1:=hid (H0.out.1.trans hb1);have q3:w1.cell? ⟨w.heap.size,3,none⟩=some (.bool false):=(by simp[World.cell?,hp1]);have q2:w1.cell? ⟨w.heap.size,2,none⟩=some (.string d):=(by simp[World.cell?,hp1]);have q1:w1.cell? ⟨w.heap.size,1,none⟩=some (.string l):=(by simp[World.cell?,hp1])))
       have k2:∀p:Aft w1,p.wd.cell? ⟨w.heap.size,2,none⟩=some (.string d):=fun p=>p.cell hp1 rfl
       have HNq:=hid (fun p:Aft w1=>HNm.out p.wd (HW.out.next (HB1.out.trans p.bel)))
       clear hp1 q1 q2 q3
       refine wp_region_aft (by kernel_rfl) (by kernel_rfl) ?_
       repeat (first
        |go_big_quiet_skip
        |go_big_quiet_step (first|(go_at_call 66;exact Calls.aft (HNq.out _)))
        |quiet_step (first|(go_at_call 66;exact Calls.aft (HNq.out _))))
       refine wpQuiet_nil ?_
       rintro _ ⟨p,rfl⟩
       go_wp2_with fail
       go_ret
       refine⟨?_,HB1.out.trans p.bel⟩
       rw[HX.out]
       rfl
      |true=>
       rw[hn]at HX HNm
       clear hn
       go_enter Tryz.func87,Tryz.ntmps87
       go_upto_region 12 with(first|(go_at_call 129;refine(HI.out _).mono ?_;rintro e w1 ⟨rfl,hb1⟩;have hp1:=hb1.heap HP0.out;have HB1:=hid (H0.out.1.trans hb1);have q3:w1.cell? ⟨w.heap.size,3,none⟩=some (.bool false):=(by simp[World.cell?,hp1]);have q2:w1.cell? ⟨w.heap.size,2,none⟩=some (.string d):=(by simp[World.cell?,hp1]);have q1:w1.cell? ⟨w.heap.size,1,none⟩=some (.string l):=(by simp[World.cell?,hp1])))
       have k2:∀p:Aft w1,p.wd.cell? ⟨w.heap.size,2,none⟩=some (.string d):=fun p=>p.cell hp1 rfl
       have HNq:=hid (fun p:Aft w1=>HNm.out p.wd (HW.out.next (HB1.out.trans p.bel)))
       have HLq:=hid (fun p:Aft w1=>HLo.out p.wd)
       clear hp1 q1 q2 q3
       refine wp_region_aft (by kernel_rfl) (by kernel_rfl) ?_
       repeat (first
        |go_big_quiet_skip
        |go_big_quiet_step (first|(go_at_call 66;exact Calls.aft (HNq.out _))|(go_at_call 63;exact Calls.aft (HLq.out _)))
        |quiet_step (first|(go_at_call 66;exact Calls.aft (HNq.out _))|(go_at_call 63;exact Calls.aft (HLq.out _))))
       refine wpQuiet_nil ?_
       rintro _ ⟨p,rfl⟩
       go_wp2_with fail
       go_ret
       refine⟨?_,HB1.out.trans p.bel⟩
       rw[HX.out]
       rfl
end Go.Proofs.YtmlmkmhkmifnkaaGreatDoor.Ma
namespace Go.Proofs.YtmlmkmhkmifnkaaGreatDoor.Ma
open Go.RowKit
open Ci (Bel Lay)
theorem pt_size:(Tryz.prog.info? 26).map (·.size)=some 4:=by kernel_rfl
theorem range_pt{w:World}{b:Nat}{n t:Bool}{l d:ByteArray}{T:TypeId}(h:w.heap[b]?=some (.cells #[.bool n,.string l,.string d,.bool t] T (0,0))):w.rangeAt b 0 [.bool n,.string l,.string d,.bool t]:=
 Ci.range_of h fun j v hv=>by rw[Nat.zero_add];exact hv
theorem shown_len(p:Pt)(hl:p.loc.length≤4194304)(hd:p.dom.length≤4194304):(shownP p).length≤30000000:=by
 have h1:=form_len p.loc
 have h2:(domP p).length≤p.dom.length+7:=by
  unfold domP
  split
  ·simp only[List.length_append,List.length_cons,List.length_nil]
   split<;>simp[IPv6]<;>omega
  ·omega
 unfold shownP
 split
 ·simp
 ·split
  ·omega
  ·simp only[List.length_append,List.length_cons,List.length_nil];omega
def pOf(n:Bool)(l d:ByteArray)(t:Bool):Pt:=⟨n,l.data.toList,d.data.toList,t⟩
theorem right_run(n:Bool)(l d:ByteArray)(t:Bool)(w:World)(hw:Lay w)(hl:l.size≤4194304)(hd:d.size≤4194304):
 Calls Tryz.prog 36 #[.agg #[.bool n,.string l,.string d,.bool t]] w fun e w'=>e=.returned (.int .i64 (rightP (pOf n l d t)))∧Bel w w':=by
 have H0:=hid (And.intro ((Bel.refl w).alloc (.cells #[.bool n,.string l,.string d,.bool t] 26)) (heap_alloc_new w (.cells #[.bool n,.string l,.string d,.bool t] 26)))
 have HW:=hid hw
 have HM:=(show Hid (∀W,Lay W→Calls Tryz.prog 87 #[.agg #[.bool n,.string l,.string d,.bool t]] W fun e w'=>e=.returned (.bool (mayQ (pOf n l d t)))∧Bel W w')from fun W hW=>may_run n l d t W hW hl hd)
 have HF:=(show Hid (∀W,Lay W→Calls Tryz.prog 88 #[.string l] W fun e w'=>e=.returned (.string ⟨(formP l.data.toList).toArray⟩)∧Bel W w')from fun W hW=>form_run l W hW hl)
 have HS:=(show Hid (∀W,Lay W→Calls Tryz.prog 89 #[.agg #[.bool n,.string l,.string d,.bool t]] W fun e w'=>e=.returned (.string ⟨(shownP (pOf n l d t)).toArray⟩)∧Bel W w')from fun W hW=>pshown_run n l d t W hW hl hd)
 have e1:(⟨(formP l.data.toList).toArray⟩:ByteArray).size=(formP l.data.toList).length:=by rw[Lib.size_eq]
 have e2:(⟨(shownP (pOf n l d t)).toArray⟩:ByteArray).size=(shownP (pOf n l d t)).length:=by rw[Lib.size_eq]
 have e3:(shownP (pOf n l d t)).length≤30000000:=shown_len _ (by show l.data.toList.length≤_;rw[←Lib.size_eq];exact hl) (by show d.data.toList.length≤_;rw[←Lib.size_eq];exact hd)
 have e4:(formP l.data.toList).length≤30000000:=by have:=form_len l.data.toList;rw[←Lib.size_eq]at this;omega
 have hR:rightP (pOf n l d t)=if !mayQ (pOf n l d t)then 90 else if n then 0 else if 64<(⟨(formP l.data.toList).toArray⟩:ByteArray).size∨(!t)∧255<d.size∨256<(⟨(shownP (pOf n l d t)).toArray⟩:ByteArray).size+2 then 91 else 0:=by
  rw[e1,e2,Lib.size_eq d]
  rfl
 rw[←e1]at e4
 rw[←e2]at e3
 generalize (⟨(formP l.data.toList).toArray⟩:ByteArray)=fl at HF hR e4
 generalize (⟨(shownP (pOf n l d t)).toArray⟩:ByteArray)=sh at HS hR e3
 generalize mayQ (pOf n l d t)=m at HM hR
 generalize rightP (pOf n l d t)=r at hR
 clear e1 e2 hw
 have HP0:=hid H0.out.2
 cases m with
 |false=>
  have HX:=hid (show r=90 by rw[hR];rfl)
  clear hR
  go_enter Tryz.func36,Tryz.ntmps36
  go_wp2_with (first|(refine wpList_load_mid rfl 26 (.tmp 1) rfl w.heap.size 0 rfl [.bool n,.string l,.string d,.bool t] _ (range_pt HP0.out) Tryz.underlying26 rfl pt_size ?_)|(go_at_call 87;refine(HM.out _ (HW.out.next H0.out.1)).mono ?_;rintro e w1 ⟨rfl,hb1⟩))
  go_ret
  exact⟨by rw[HX.out];rfl,H0.out.1.trans hb1⟩
 |true=>
  cases n with
  |true=>
   have HX:=hid (show r=0 by rw[hR];rfl)
   clear hR
   go_enter Tryz.func36,Tryz.ntmps36
   go_wp2_with (first|(refine wpList_load_mid rfl 26 (.tmp 1) rfl w.heap.size 0 rfl [.bool true,.string l,.string d,.bool t] _ (range_pt HP0.out) Tryz.underlying26 rfl pt_size ?_)|(go_at_call 87;refine(HM.out _ (HW.out.next H0.out.1)).mono ?_;rintro e w1 ⟨rfl,hb1⟩;have q0:w1.cell? ⟨w.heap.size,0,none⟩=some (.bool true):=(by simp[World.cell?,hb1.heap HP0.out])))
   go_ret
   exact⟨by rw[HX.out];rfl,H0.out.1.trans hb1⟩
  |false=>
   have hR2:r=if 64<fl.size∨(!t)∧255<d.size∨256<sh.size+2 then 91 else 0:=hR
   clear hR
   by_cases h1:64<fl.size
   ·have b1:decide ((64:Int)<(fl.size:Int))=true:=decide_eq_true (by omega)
    have HX:=hid (show r=91 by rw[hR2,if_pos (.inl h1)])
    clear hR2 h1
    go_enter Tryz.func36,Tryz.ntmps36
    go_wp2_with (first|(refine wpList_load_mid rfl 26 (.tmp 1) rfl w.heap.size 0 rfl [.bool false,.string l,.string d,.bool t] _ (range_pt HP0.out) Tryz.underlying26 rfl pt_size ?_)|(go_at_call 87;refine(HM.out _ (HW.out.next H0.out.1)).mono ?_;rintro e w1 ⟨rfl,hb1⟩;have HB1:=hid (H0.out.1.trans hb1);have hp1:=hb1.heap HP0.out;have q0:w1.cell? ⟨w.heap.size,0,none⟩=some (.bool false):=(by simp[World.cell?,hp1]);have q1:w1.cell? ⟨w.heap.size,1,none⟩=some (.string l):=(by simp[World.cell?,hp1]))|(go_at_call 88;refine(HF.out _ (HW.out.next HB1.out)).mono ?_;rintro e w2 ⟨rfl,hb2⟩;have hp2:=hb2.heap hp1;have r2:w2.cell? ⟨w.heap.size,2,none⟩=some (.string d):=(by simp[World.cell?,hp2]);have r3:w2.cell? ⟨w.heap.size,3,none⟩=some (.bool t):=(by simp[World.cell?,hp2]))|(refine wpList_load_mid rfl 26 (.tmp 1) rfl w.heap.size 0 rfl [.bool false,.string l,.string d,.bool t] _ (range_pt hp2) Tryz.underlying26 rfl pt_size ?_)|(go_at_call 89;refine(HS.out _ (HW.out.next (HB1.out.trans hb2))).mono ?_;rintro e w3 ⟨rfl,hb3⟩))
    go_ret
    exact⟨by rw[HX.out];rfl,HB1.out.trans hb2⟩
   ·have b1:decide ((64:Int)<(fl.size:Int))=false:=decide_eq_false (by omega)
    by_cases h2:(!t)=true∧255<d.size
    ·have ht:t=false:=by simpa using h2.1
     subst ht
     have b2:decide ((255:Int)<(d.size:Int))=true:=decide_eq_true (by have:=h2.2;omega)
     have HX:=hid (show r=91 by rw[hR2,if_pos (.inr (.inl h2))])
     clear hR2 h1 h2
     go_enter Tryz.func36,Tryz.ntmps36
     go_wp2_with (first|(refine wpList_load_mid rfl 26 (.tmp 1) rfl w.heap.size 0 rfl [.bool false,.string l,.string d,.bool false] _ (range_pt HP0.out) Tryz.underlying26 rfl pt_size ?_)|(go_at_call 87;refine(HM.out _ (HW.out.next H0.out.1)).mono ?_;rintro e w1 ⟨rfl,hb1⟩;have HB1:=hid (H0.out.1.trans hb1);have hp1:=hb1.heap HP0.out;have q0:w1.cell? ⟨w.heap.size,0,none⟩=some (.bool false):=(by simp[World.cell?,hp1]);have q1:w1.cell? ⟨w.heap.size,1,none⟩=some (.string l):=(by simp[World.cell?,hp1]))|(go_at_call 88;refine(HF.out _ (HW.out.next HB1.out)).mono ?_;rintro e w2 ⟨rfl,hb2⟩;have hp2:=hb2.heap hp1;have r2:w2.cell? ⟨w.heap.size,2,none⟩=some (.string d):=(by simp[World.cell?,hp2]);have r3:w2.cell? ⟨w.heap.size,3,none⟩=some (.bool false):=(by simp[World.cell?,hp2]))|(refine wpList_load_mid rfl 26 (.tmp 1) rfl w.heap.size 0 rfl [.bool false,.string l,.string d,.bool false] _ (range_pt hp2) Tryz.underlying26 rfl pt_size ?_)|(go_at_call 89;refine(HS.out _ (HW.out.next (HB1.out.trans hb2))).mono ?_;rintro e w3 ⟨rfl,hb3⟩))
     go_ret
     exact⟨by rw[HX.out];rfl,HB1.out.trans hb2⟩
    ·have b3:wrap64 ((sh.size:Int)+2)=(sh.size:Int)+2:=by unfold wrap64;omega
     by_cases h3:256<sh.size+2
     ·have b4:decide ((256:Int)<(sh.size:Int)+2)=true:=decide_eq_true (by omega)
      have HX:=hid (show r=91 by rw[hR2,if_pos (.inr (.inr h3))])
      cases t with
      |true=>
       clear hR2 h1 h2 h3
       go_enter Tryz.func36,Tryz.ntmps36
       go_wp2_with (first|(refine wpList_load_mid rfl 26 (.tmp 1) rfl w.heap.size 0 rfl [.bool false,.string l,.string d,.bool true] _ (range_pt HP0.out) Tryz.underlying26 rfl pt_size ?_)|(go_at_call 87;refine(HM.out _ (HW.out.next H0.out.1)).mono ?_;rintro e w1 ⟨rfl,hb1⟩;have HB1:=hid (H0.out.1.trans hb1);have hp1:=hb1.heap HP0.out;have q0:w1.cell? ⟨w.heap.size,0,none⟩=some (.bool false):=(by simp[World.cell?,hp1]);have q1:w1.cell? ⟨w.heap.size,1,none⟩=some (.string l):=(by simp[World.cell?,hp1]))|(go_at_call 88;refine(HF.out _ (HW.out.next HB1.out)).mono ?_;rintro e w2 ⟨rfl,hb2⟩;have hp2:=hb2.heap hp1;have r2:w2.cell? ⟨w.heap.size,2,none⟩=some (.string d):=(by simp[World.cell?,hp2]);have r3:w2.cell? ⟨w.heap.size,3,none⟩=some (.bool true):=(by simp[World.cell?,hp2]))|(refine wpList_load_mid rfl 26 (.tmp 1) rfl w.heap.size 0 rfl [.bool false,.string l,.string d,.bool true] _ (range_pt hp2) Tryz.underlying26 rfl pt_size ?_)|(go_at_call 89;refine(HS.out _ (HW.out.next (HB1.out.trans hb2))).mono ?_;rintro e w3 ⟨rfl,hb3⟩))
       go_ret
       exact⟨by rw[HX.out];rfl,HB1.out.trans (hb2.trans hb3)⟩
      |false=>
       have b2:decide ((255:Int)<(d.size:Int))=false:=decide_eq_false (by have:¬255<d.size:=fun e=>h2 ⟨rfl,e⟩;omega)
       clear hR2 h1 h2 h3
       go_enter Tryz.func36,Tryz.ntmps36
       go_wp2_with (first|(refine wpList_load_mid rfl 26 (.tmp 1) rfl w.heap.size 0 rfl [.bool false,.string l,.string d,.bool false] _ (range_pt HP0.out) Tryz.underlying26 rfl pt_size ?_)|(go_at_call 87;refine(HM.out _ (HW.out.next H0.out.1)).mono ?_;rintro e w1 ⟨rfl,hb1⟩;have HB1:=hid (H0.out.1.trans hb1);have hp1:=hb1.heap HP0.out;have q0:w1.cell? ⟨w.heap.size,0,none⟩=some (.bool false):=(by simp[World.cell?,hp1]);have q1:w1.cell? ⟨w.heap.size,1,none⟩=some (.string l):=(by simp[World.cell?,hp1]))|(go_at_call 88;refine(HF.out _ (HW.out.next HB1.out)).mono ?_;rintro e w2 ⟨rfl,hb2⟩;have hp2:=hb2.heap hp1;have r2:w2.cell? ⟨w.heap.size,2,none⟩=some (.string d):=(by simp[World.cell?,hp2]);have r3:w2.cell? ⟨w.heap.size,3,none⟩=some (.bool false):=(by simp[World.cell?,hp2]))|(refine wpList_load_mid rfl 26 (.tmp 1) rfl w.heap.size 0 rfl [.bool false,.string l,.string d,.bool false] _ (range_pt hp2) Tryz.underlying26 rfl pt_size ?_)|(go_at_call 89;refine(HS.out _ (HW.out.next (HB1.out.trans hb2))).mono ?_;rintro e w3 ⟨rfl,hb3⟩))
       go_ret
       exact⟨by rw[HX.out];rfl,HB1.out.trans (hb2.trans hb3)⟩
     ·have b4:decide ((256:Int)<(sh.size:Int)+2)=false:=decide_eq_false (by omega)
      have HX:=hid (show r=0 by rw[hR2,if_neg (by rintro(e|e|e);exact h1 e;exact h2 e;exact h3 e)])
      cases t with
      |true=>
       clear hR2 h1 h2 h3
       go_enter Tryz.func36,Tryz.ntmps36
       go_wp2_with (first|(refine wpList_load_mid rfl 26 (.tmp 1) rfl w.heap.size 0 rfl [.bool false,.string l,.string d,.bool true] _ (range_pt HP0.out) Tryz.underlying26 rfl pt_size ?_)|(go_at_call 87;refine(HM.out _ (HW.out.next H0.out.1)).mono ?_;rintro e w1 ⟨rfl,hb1⟩;have HB1:=hid (H0.out.1.trans hb1);have hp1:=hb1.heap HP0.out;have q0:w1.cell? ⟨w.heap.size,0,none⟩=some (.bool false):=(by simp[World.cell?,hp1]);have q1:w1.cell? ⟨w.heap.size,1,none⟩=some (.string l):=(by simp[World.cell?,hp1]))|(go_at_call 88;refine(HF.out _ (HW.out.next HB1.out)).mono ?_;rintro e w2 ⟨rfl,hb2⟩;have hp2:=hb2.heap hp1;have r2:w2.cell? ⟨w.heap.size,2,none⟩=some (.string d):=(by simp[World.cell?,hp2]);have r3:w2.cell? ⟨w.heap.size,3,none⟩=some (.bool true):=(by simp[World.cell?,hp2]))|(refine wpList_load_mid rfl 26 (.tmp 1) rfl w.heap.size 0 rfl [.bool false,.string l,.string d,.bool true] _ (range_pt hp2) Tryz.underlying26 rfl pt_size ?_)|(go_at_call 89;refine(HS.out _ (HW.out.next (HB1.out.trans hb2))).mono ?_;rintro e w3 ⟨rfl,hb3⟩))
       go_ret
       exact⟨by rw[HX.out];rfl,HB1.out.trans (hb2.trans hb3)⟩
      |false=>
       have b2:decide ((255:Int)<(d.size:Int))=false:=decide_eq_false (by have:¬255<d.size:=fun e=>h2 ⟨rfl,e⟩;omega)
       clear hR2 h1 h2 h3
       go_enter Tryz.func36,Tryz.ntmps36
       go_wp2_with (first|(refine wpList_load_mid rfl 26 (.tmp 1) rfl w.heap.size 0 rfl [.bool false,.string l,.string d,.bool false] _ (range_pt HP0.out) Tryz.underlying26 rfl pt_size ?_)|(go_at_call 87;refine(HM.out _ (HW.out.next H0.out.1)).mono ?_;rintro e w1 ⟨rfl,hb1⟩;have HB1:=hid (H0.out.1.trans hb1);have hp1:=hb1.heap HP0.out;have q0:w1.cell? ⟨w.heap.size,0,none⟩=some (.bool false):=(by simp[World.cell?,hp1]);have q1:w1.cell? ⟨w.heap.size,1,none⟩=some (.string l):=(by simp[World.cell?,hp1]))|(go_at_call 88;refine(HF.out _ (HW.out.next HB1.out)).mono ?_;rintro e w2 ⟨rfl,hb2⟩;have hp2:=hb2.heap hp1;have r2:w2.cell? ⟨w.heap.size,2,none⟩=some (.string d):=(by simp[World.cell?,hp2]);have r3:w2.cell? ⟨w.heap.size,3,none⟩=some (.bool false):=(by simp[World.cell?,hp2]))|(refine wpList_load_mid rfl 26 (.tmp 1) rfl w.heap.size 0 rfl [.bool false,.string l,.string d,.bool false] _ (range_pt hp2) Tryz.underlying26 rfl pt_size ?_)|(go_at_call 89;refine(HS.out _ (HW.out.next (HB1.out.trans hb2))).mono ?_;rintro e w3 ⟨rfl,hb3⟩))
       go_ret
       exact⟨by rw[HX.out];rfl,HB1.out.trans (hb2.trans hb3)⟩
theorem pshow_run(n:Bool)(l d:ByteArray)(t:Bool)(w:World)(hw:Lay w)(hl:l.size≤4194304)(hd:d.size≤4194304):
 Calls Tryz.prog 178 #[.agg #[.bool n,.string l,.string d,.bool t]] w fun e w'=>e=.returned (.tuple #[.string ⟨(if rightP (pOf n l d t)=0 then shownP (pOf n l d t)else[]).toArray⟩,.int .i64 (rightP (pOf n l d t))])∧Bel w w':=by
 have H0:=hid (And.intro ((Bel.refl w).alloc (.cells #[.bool n,.string l,.string d,.bool t] 26)) (heap_alloc_new w (.cells #[.bool n,.string l,.string d,.bool t] 26)))
 have HW:=hid hw
 have HP0:=hid H0.out.2
 have HR:=(show Hid (∀W,Lay W→Calls Tryz.prog 36 #[.agg #[.bool n,.string l,.string d,.bool t]] W fun e w'=>e=.returned (.int .i64 (rightP (pOf n l d t)))∧Bel W w')from fun W hW=>right_run n l d t W hW hl hd)
 have HS:=(show Hid (∀W,Lay W→Calls Tryz.prog 89 #[.agg #[.bool n,.string l,.string d,.bool t]] W fun e w'=>e=.returned (.string ⟨(shownP (pOf n l d t)).toArray⟩)∧Bel W w')from fun W hW=>pshown_run n l d t W hW hl hd)
 obtain⟨ss,hss⟩:∃ss,ss=(if rightP (pOf n l d t)=0 then shownP (pOf n l d t)else[]):=⟨_,rfl⟩
 rw[←hss]
 generalize shownP (pOf n l d t)=sh at HS hss
 generalize rightP (pOf n l d t)=r at HR hss⊢
 clear hw
 by_cases h0:r=0
 ·subst h0
  rw[if_pos rfl]at hss
  subst hss
  go_enter Tryz.func178,Tryz.ntmps178
  go_wp2_with (first|(refine wpList_load_mid rfl 26 (.tmp 1) rfl w.heap.size 0 rfl [.bool n,.string l,.string d,.bool t] _ (range_pt HP0.out) Tryz.underlying26 rfl pt_size ?_)|(go_at_call 36;refine(HR.out _ (HW.out.next H0.out.1)).mono ?_;rintro e w1 ⟨rfl,hb1⟩;have hp1:=hb1.heap HP0.out)|(refine wpList_load_mid rfl 26 (.tmp 1) rfl w.heap.size 0 rfl [.bool n,.string l,.string d,.bool t] _ (range_pt hp1) Tryz.underlying26 rfl pt_size ?_)|(go_at_call 89;refine(HS.out _ (HW.out.next (H0.out.1.trans hb1))).mono ?_;rintro e w2 ⟨rfl,hb2⟩))
  go_ret2
  exact⟨rfl,H0.out.1.trans (hb1.trans hb2)⟩
 ·have b1:(r==0)=false:=by simpa using h0
  rw[if_neg h0]at hss
  subst hss
  clear h0
  go_enter Tryz.func178,Tryz.ntmps178
  go_wp2_with (first|(refine wpList_load_mid rfl 26 (.tmp 1) rfl w.heap.size 0 rfl [.bool n,.string l,.string d,.bool t] _ (range_pt HP0.out) Tryz.underlying26 rfl pt_size ?_)|(go_at_call 36;refine(HR.out _ (HW.out.next H0.out.1)).mono ?_;rintro e w1 ⟨rfl,hb1⟩))
  go_ret2
  exact⟨rfl,H0.out.1.trans hb1⟩
end Go.Proofs.YtmlmkmhkmifnkaaGreatDoor.Ma