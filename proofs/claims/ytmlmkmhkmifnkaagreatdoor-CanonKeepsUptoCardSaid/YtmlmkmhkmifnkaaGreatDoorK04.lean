import Derived.Test.YtmlmkmhkmifnkaaGreatDoorK02
import Derived.Test.YtmlmkmhkmifnkaaGreatDoorK03
import Derived.Shelf.Strings.SlTrimAscii
import Derived.Lib.SplitLaws
import Derived.Lib.Atoi
import Derived.Lib.SlTrimSet
import Derived.Lib.ItoaNum
import Derived.Lib.Join
set_option maxHeartbeats 16000000
set_option maxRecDepth 1000000
namespace Go.Proofs.YtmlmkmhkmifnkaaGreatDoor.Ci
open Go.RowKit
structure Lay (w:World):Prop where
 size:8<w.heap.size
 most:∃m,w.cell? ⟨1,0,none⟩=some (.int .i64 m)
 err:∃te pe,w.cell? ⟨5,0,none⟩=some (.iface te pe)
 pow:∀w',Bel w w'→Lib.TabIs Tryz.prog w' "internal/strconv.uint64pow10" .u64 Lib.pow10Tab
 bru:w.cell? ⟨8,15,none⟩=some (.int .u8 4)
theorem Bel.cell{a w:World}(h:Bel a w){b o:Nat}(hb:b<a.heap.size):w.cell? ⟨b,o,none⟩=a.cell? ⟨b,o,none⟩:=Below.cell h hb
theorem Lay.next{a w:World}(h:Lay a)(hx:Bel a w):Lay w:=by
 have hs:=h.size
 refine⟨Nat.le_trans hs hx.size,?_,?_,fun w' hw=>h.pow w' (hx.trans hw),?_⟩
 ·obtain⟨m,hm⟩:=h.most
  exact⟨m,(hx.cell (by omega)).trans hm⟩
 ·obtain⟨te,pe,hm⟩:=h.err
  exact⟨te,pe,(hx.cell (by omega)).trans hm⟩
 ·exact(hx.cell (by omega)).trans h.bru
theorem bel_bytes(w:World)(t:ByteArray):Bel w (Lib.bytesWorld w 5 t):=
 Lib.bytesWorld_below _ _ _
def digs:ByteArray:=⟨#[48,49,50,51,52,53,54,55,56,57]⟩
def hexs:ByteArray:=⟨#[48,49,50,51,52,53,54,55,56,57,97,98,99,100,101,102,65,66,67,68,69,70]⟩
theorem trim_run(s c:ByteArray)(w:World)(hs:s.size≤9223372036854775807)(hc:c.size<4294967281)(ha:c.data.toList.all (fun b=>decide (b.toNat<128))=true):
 Calls Tryz.prog 133 #[.string s,.string c] w fun e w'=>e=.returned (.string ⟨(Lib.trimS s.data.toList c.data.toList).toArray⟩)∧Bel w w':=
 Any.strings_Trim_laid Tryz.lays160 (by kernel_rfl) s c w hs hc (ascii_of_all ha)
theorem cut_str_run(s sep:ByteArray)(w:World)(hw:Lay w)(hs:s.size<4294967281):
 Calls Tryz.prog 131 #[.string s,.string sep] w fun e w'=>e=.returned (.tuple #[.string ⟨(Lib.cut s.data.toList sep.data.toList).1.toArray⟩,.string ⟨(Lib.cut s.data.toList sep.data.toList).2.1.toArray⟩,.bool (Lib.cut s.data.toList sep.data.toList).2.2])∧Bel w w':=by
 obtain⟨m,hm⟩:=hw.most
 refine(Tryz.strings_Cut s sep m w hs hm).mono ?_
 rintro e w' ⟨rfl,n,rfl⟩
 exact⟨rfl,(Bel.refl w).drewN n⟩
def numQ(s:ByteArray):Option Int:=
 if 3<s.size∨(1<s.size∧s.data.toList[0]?=some 48)∨Lib.trimS s.data.toList digs.data.toList≠[]then none else Lib.atoi s.data.toList
def numV(o:Option Int):Value:=match o with
 |some n=>.tuple #[.int .i64 n,.bool true]
 |none=>.tuple #[.int .i64 0,.bool false]
theorem atoi_any(s:ByteArray)(hl:s.size≤18)(w:World)(hw:Lay w):
 Calls Tryz.prog 250 #[.string s] w fun e w'=>(∃n,Lib.atoi s.data.toList=some n∧e=.returned (.tuple #[.int .i64 n,.nilIface])∧Bel w w')∨(Lib.atoi s.data.toList=none∧∃t v,e=.returned (.tuple #[.int .i64 0,.iface t v])∧Bel w w'):=by
 cases h:Lib.atoi s.data.toList with
 |some n=>
  refine(Tryz.strconv_Atoi s n hl h w).mono ?_
  rintro e w' ⟨rfl,t,rfl⟩
  exact .inl ⟨n,rfl,rfl,bel_bytes w t⟩
 |none=>
  obtain⟨te,pe,hm⟩:=hw.err
  refine(Tryz.strconv_Atoi_err s hl h _ w hm (.inr ⟨te,pe,rfl⟩)).mono ?_
  rintro e w' ⟨N,rfl,h1,h2,h3⟩
  exact .inr ⟨rfl,_,_,rfl,h3⟩
theorem at_get(s:ByteArray)(k:Nat)(h:k<s.size):s.data.toList[k]?=some s[k]:=by
 rw[List.getElem?_eq_getElem (by rw[←Lib.size_eq];exact h)]
 rfl
theorem number_run(s:ByteArray)(w:World)(hw:Lay w)(hs:s.size≤9223372036854775807):
 Calls Tryz.prog 195 #[.string s] w fun e w'=>e=.returned (numV (numQ s))∧Bel w w':=by
 have HT:=(show Hid (∀W,Calls Tryz.prog 133 #[.string s,.string digs] W fun e w'=>e=.returned (.string ⟨(Lib.trimS s.data.toList digs.data.toList).toArray⟩)∧Bel W w')from fun W=>trim_run s digs W hs (by decide) (by decide))
 have HW:=hid hw
 by_cases h1:3<s.size
 ·have d1:decide (3<s.size)=true:=decide_eq_true h1
  have hq:numQ s=none:=by
   unfold numQ
   rw[if_pos (.inl h1)]
  clear hw
  go_enter Tryz.func195,Tryz.ntmps195
  go_wp2_with fail
  go_ret2
  exact⟨by first|rfl|(rw[hq];rfl),Bel.refl w⟩
 ·have d1:decide (3<s.size)=false:=decide_eq_false h1
  by_cases h2:1<s.size
  ·have d2:decide (1<s.size)=true:=decide_eq_true h2
   by_cases h3:s[0]=48
   ·go_enter Tryz.func195,Tryz.ntmps195
    go_wp2_with fail
    go_ret2
    have hq:numQ s=none:=by
     unfold numQ
     rw[if_pos (.inr (.inl ⟨h2,by rw[at_get s 0 (by omega),h3]⟩))]
    exact⟨by first|rfl|(rw[hq];rfl),Bel.refl w⟩
   ·have h3b:(((s[0]'(by omega)).toNat:Int)==48)=false:=by
     rw[beq_eq_false_iff_ne]
     intro f
     exact h3 (UInt8.toNat_inj.1 (by have:(48:UInt8).toNat=48:=rfl;omega))
    have HA:=(show Hid (∀W,Lay W→Calls Tryz.prog 250 #[.string s] W fun e w'=>(∃n,Lib.atoi s.data.toList=some n∧e=.returned (.tuple #[.int .i64 n,.nilIface])∧Bel W w')∨(Lib.atoi s.data.toList=none∧∃t v,e=.returned (.tuple #[.int .i64 0,.iface t v])∧Bel W w'))from fun W hW=>atoi_any s (by omega) W hW)
    by_cases h4:Lib.trimS s.data.toList digs.data.toList=[]
    ·have hq:numQ s=Lib.atoi s.data.toList:=by
      unfold numQ
      rw[if_neg (by rintro(f|⟨f,f2⟩|f);exact h1 f;exact h3 (by rw[at_get s 0 (by omega)]at f2;exact Option.some.inj f2);exact f h4)]
     rw[h4]at HT
     clear hw
     go_enter Tryz.func195,Tryz.ntmps195
     go_wp2_with fail
     refine(HT.out _).mono ?_
     rintro e w1 ⟨rfl,hb1⟩
     go_wp2_with fail
     refine(HA.out _ (HW.out.next hb1)).mono ?_
     rintro e w2 (⟨n,hn,rfl,hb2⟩|⟨hn,t,v,rfl,hb2⟩)
     ·go_wp2_with fail
      go_quiet (fail)
      go_wp2_with fail
      go_ret2
      exact⟨by rw[hq,hn];rfl,(hb1.trans hb2).drewN _⟩
     ·go_wp2_with fail
      go_quiet (fail)
      go_wp2_with fail
      go_ret2
      exact⟨by rw[hq,hn];rfl,(hb1.trans hb2).drewN _⟩
    ·have hq:numQ s=none:=by
      unfold numQ
      rw[if_pos (.inr (.inr h4))]
     have d4:(⟨(Lib.trimS s.data.toList digs.data.toList).toArray⟩:ByteArray).toList.isEmpty=false:=by
      rw[Lib.toList_data]
      simpa using h4
     generalize (⟨(Lib.trimS s.data.toList digs.data.toList).toArray⟩:ByteArray)=tr at HT d4
     clear hw
     go_enter Tryz.func195,Tryz.ntmps195
     go_wp2_with fail
     refine(HT.out _).mono ?_
     rintro e w1 ⟨rfl,hb1⟩
     go_wp2_with fail
     go_ret2
     exact⟨by rw[hq];rfl,hb1⟩
  ·have d2:decide (1<s.size)=false:=decide_eq_false h2
   have HA:=(show Hid (∀W,Lay W→Calls Tryz.prog 250 #[.string s] W fun e w'=>(∃n,Lib.atoi s.data.toList=some n∧e=.returned (.tuple #[.int .i64 n,.nilIface])∧Bel W w')∨(Lib.atoi s.data.toList=none∧∃t v,e=.returned (.tuple #[.int .i64 0,.iface t v])∧Bel W w'))from fun W hW=>atoi_any s (by omega) W hW)
   by_cases h4:Lib.trimS s.data.toList digs.data.toList=[]
   ·have hq:numQ s=Lib.atoi s.data.toList:=by
     unfold numQ
     rw[if_neg (by rintro(f|⟨f,f2⟩|f);exact h1 f;exact h2 f;exact f h4)]
    rw[h4]at HT
    clear hw
    go_enter Tryz.func195,Tryz.ntmps195
    go_wp2_with fail
    refine(HT.out _).mono ?_
    rintro e w1 ⟨rfl,hb1⟩
    go_wp2_with fail
    refine(HA.out _ (HW.out.next hb1)).mono ?_
    rintro e w2 (⟨n,hn,rfl,hb2⟩|⟨hn,t,v,rfl,hb2⟩)
    ·go_wp2_with fail
     go_quiet (fail)
     go_wp2_with fail
     go_ret2
     exact⟨by rw[hq,hn];rfl,(hb1.trans hb2).drewN _⟩
    ·go_wp2_with fail
     go_quiet (fail)
     go_wp2_with fail
     go_ret2
     exact⟨by rw[hq,hn];rfl,(hb1.trans hb2).drewN _⟩
   ·have hq:numQ s=none:=by
     unfold numQ
     rw[if_pos (.inr (.inr h4))]
    have d4:(⟨(Lib.trimS s.data.toList digs.data.toList).toArray⟩:ByteArray).toList.isEmpty=false:=by
     rw[Lib.toList_data]
     simpa using h4
    generalize (⟨(Lib.trimS s.data.toList digs.data.toList).toArray⟩:ByteArray)=tr at HT d4
    clear hw
    go_enter Tryz.func195,Tryz.ntmps195
    go_wp2_with fail
    refine(HT.out _).mono ?_
    rintro e w1 ⟨rfl,hb1⟩
    go_wp2_with fail
    go_ret2
    exact⟨by rw[hq];rfl,hb1⟩
end Go.Proofs.YtmlmkmhkmifnkaaGreatDoor.Ci
namespace Go.Proofs.YtmlmkmhkmifnkaaGreatDoor.Ci
open Go.RowKit
def pieces(s sep:ByteArray):List ByteArray:=Lib.splitB sep 0 (Lib.countB s sep) s
theorem split_run(s sep:ByteArray)(w:World)(hw:Lay w)(hs:s.size<4294967281)(h1:1≤sep.size):
 Calls Tryz.prog 127 #[.string s,.string sep] w fun e w'=>e=.returned (.slice (some ⟨w.heap.size,0,none⟩) (pieces s sep).length (pieces s sep).length)∧
  w'.heap[w.heap.size]?=some (.cells ((pieces s sep).map Value.string).toArray 9 (0,0))∧Bel w w':=by
 obtain⟨m,hm⟩:=hw.most
 refine(Tryz.strings_Split s sep m w hs hm h1).mono ?_
 rintro e w' ⟨rfl,rfl⟩
 have hl:(pieces s sep).length=Lib.countB s sep+1:=Lib.splitB_all sep h1 0 _ s rfl
 rw[hl]
 exact⟨rfl,heap_alloc_new w _,(Bel.refl w).alloc _⟩
theorem pieces_size(s sep:ByteArray)(h:s.size<4294967281):∀x∈pieces s sep,x.size<4294967281:=by
 have key:∀(k:Nat) (s:ByteArray),s.size<4294967281→∀x∈Lib.splitB sep 0 k s,x.size<4294967281:=by
  intro k
  induction k with
  |zero=>
   intro s hs x hx
   rw[Lib.splitB_zero]at hx
   obtain rfl:=List.mem_singleton.1 hx
   exact hs
  |succ k ih=>
   intro s hs x hx
   unfold Lib.splitB at hx
   split at hx
   ·obtain rfl:=List.mem_singleton.1 hx
    exact hs
   ·rcases List.mem_cons.1 hx with rfl|hx
    ·rw[ByteArray.size_extract];omega
    ·exact ih _ (by rw[ByteArray.size_extract];omega) x hx
 exact key _ s h
def okB(x:ByteArray):Bool:=match numQ x with
 |some n=>decide (n≤255)
 |none=>false
def numOr(x:ByteArray):Nat:=((numQ x).getD 0).toNat
def dot:ByteArray:=⟨#[46]⟩
def fourL(l:List ByteArray):Bool:=decide (l.length=4)&&l.all okB
def fourQ(s:ByteArray):Option (List Nat):=if fourL (pieces s dot)then some ((pieces s dot).map numOr)else none
def fourN(l:List ByteArray)(k:Nat):Nt:=⟨false,32,(l.take k).map numOr++List.replicate (16-k) 0⟩
theorem fourN_len(l:List ByteArray)(k:Nat)(hk:k≤4)(hl:k≤l.length):(fourN l k).addr.length=16:=by
 simp[fourN];omega
theorem dropWhile_nil{α:Type}(p:α→Bool):∀l:List α,l.dropWhile p=[]→∀x∈l,p x=true
 |[],_,x,hx=>by cases hx
 |a::l,h,x,hx=>by
  rw[List.dropWhile_cons]at h
  split at h
  ·rename_i ha
   rcases List.mem_cons.1 hx with rfl|hx
   ·exact ha
   ·exact dropWhile_nil p l h x hx
  ·cases h
theorem dropWhile_mem{α:Type}(p:α→Bool):∀l:List α,∀x∈l,p x=true∨x∈l.dropWhile p
 |[],x,hx=>by cases hx
 |a::l,x,hx=>by
  rw[List.dropWhile_cons]
  split
  ·rename_i ha
   rcases List.mem_cons.1 hx with rfl|hx
   ·exact .inl ha
   ·exact dropWhile_mem p l x hx
  ·exact .inr hx
theorem trim_nil{l cs:List UInt8}(h:Lib.trimS l cs=[]):∀x∈l,cs.contains x=true:=by
 intro x hx
 unfold Lib.trimS Lib.trimLeftS Lib.trimRightS at h
 have h2:=dropWhile_nil _ _ h
 rcases dropWhile_mem (cs.contains ·) l.reverse x (List.mem_reverse.2 hx)with f|f
 ·exact f
 ·exact h2 x (List.mem_reverse.2 f)
theorem digs_val{b:UInt8}(h:digs.data.toList.contains b=true):48≤b.toNat∧b.toNat≤57:=by
 have key:∀n:Fin 256,digs.data.toList.contains (UInt8.ofNat n.val)=true→48≤n.val∧n.val≤57:=by decide
 have:=key ⟨b.toNat,b.toNat_lt⟩ (by rw[show UInt8.ofNat b.toNat=b by simp];exact h)
 exact this
theorem decFrom_le:∀(l:List UInt8) (a n m:Nat),Lib.decFrom a l=some n→a≤m→n≤m*10^l.length+(10^l.length-1)
 |[],a,n,m,h,ha=>by
  simp only[Lib.decFrom,Option.some.injEq]at h
  simp;omega
 |b::l,a,n,m,h,ha=>by
  unfold Lib.decFrom Lib.digitVal at h
  split at h
  ·rename_i d hd
   split at hd
   ·rename_i hr
    obtain rfl:=Option.some.inj hd
    have:=decFrom_le l _ n (m*10+9) h (by omega)
    rw[List.length_cons,Nat.pow_succ]
    have hp:1≤10^l.length:=Nat.pow_pos (by decide)
    rw[Nat.add_mul,Nat.mul_assoc]at this
    have e:m*(10*10^l.length)=m*(10^l.length*10):=by rw[Nat.mul_comm 10]
    omega
   ·cases hd
  ·cases h
theorem numQ_some{x:ByteArray}{n:Int}(h:numQ x=some n):x.size≤3∧1≤x.size∧(x.data.toList[0]?=some 48→x.size=1)∧(∀b∈x.data.toList,48≤b.toNat∧b.toNat≤57)∧∃m:Nat,Lib.decFrom 0 x.data.toList=some m∧n=m:=by
 unfold numQ at h
 split at h
 ·cases h
 ·rename_i hc
  have h1:¬3<x.size:=fun f=>hc (.inl f)
  have h2:¬(1<x.size∧x.data.toList[0]?=some 48):=fun f=>hc (.inr (.inl f))
  have h3:Lib.trimS x.data.toList digs.data.toList=[]:=Classical.byContradiction fun f=>hc (.inr (.inr f))
  have hd:=fun b hb=>digs_val (trim_nil h3 b hb)
  have hs:=Lib.size_eq x
  cases hl:x.data.toList with
  |nil=>rw[hl]at h;cases h
  |cons b r=>
   rw[hl]at h hd hs h2
   have hb:=hd b (List.mem_cons_self ..)
   unfold Lib.atoi at h
   have n1:(b==45)=false:=by
    rw[beq_eq_false_iff_ne];rintro rfl;exact absurd hb.1 (by decide)
   have n2:(b==43)=false:=by
    rw[beq_eq_false_iff_ne];rintro rfl;exact absurd hb.1 (by decide)
   simp only[n1,n2,Bool.false_eq_true,if_false,Option.map_eq_some_iff]at h
   obtain⟨m,hm,e⟩:=h
   refine⟨by omega,by rw[hs];simp,fun f=> ?_,hd,m,?_,e.symm⟩
   ·have hlen:1≤x.size:=by rw[hs];simp
    have:¬1<x.size:=fun g=>h2 ⟨g,f⟩
    omega
   ·unfold Lib.decNat at hm
    simpa using hm
theorem numQ_range{x:ByteArray}{n:Int}(h:numQ x=some n):0≤n∧n≤999:=by
 obtain⟨h1,-,-,-,m,hm,rfl⟩:=numQ_some h
 have:=decFrom_le _ _ _ 0 hm (Nat.le_refl _)
 rw[←Lib.size_eq]at this
 have h3:x.size=0∨x.size=1∨x.size=2∨x.size=3:=by omega
 rcases h3 with e|e|e|e<;>rw[e]at this<;>omega
theorem netC_set(n:Nt)(k:Nat)(x:Nat):(netC n).set (2+k) (u8V x)=netC {n with addr:=n.addr.set k x}:=by
 simp[netC,Nat.add_comm 2 k,List.map_set]
theorem fourN_set(l:List ByteArray)(k:Nat)(hk:k<4)(hl:k<l.length):(netC (fourN l k)).set (2+k) (u8V (numOr l[k]))=netC (fourN l (k+1)):=by
 rw[netC_set]
 congr 1
 unfold fourN
 congr 1
 have h1:((l.take k).map numOr).length=k:=by simp;omega
 rw[List.set_append_right _ _ (by omega),h1,Nat.sub_self,(by omega:16-k=(16-(k+1))+1),List.replicate_succ,List.set_cons_zero,List.take_succ_eq_append_getElem hl,List.map_append,List.append_assoc]
 rfl
theorem fourN_fits(l:List ByteArray)(k:Nat)(hk:k≤4)(hl:k≤l.length)(ho:∀x∈l.take k,okB x=true):(fourN l k).Fits:=by
 refine⟨by simp[fourN],by simp[fourN],fourN_len l k hk hl,fun x hx=> ?_⟩
 unfold fourN at hx
 rcases List.mem_append.1 hx with hx|hx
 ·obtain⟨y,hy,rfl⟩:=List.mem_map.1 hx
  have:=ho y hy
  unfold okB at this
  unfold numOr
  cases h:numQ y with
  |none=>decide
  |some n=>
   rw[h]at this
   have h2:n≤255:=by simpa using this
   show n.toNat<256
   omega
 ·obtain⟨-,rfl⟩:=List.mem_replicate.1 hx
  decide
theorem netC_one(n:Nt):((netC n).toArray.all (·.oneCell'))=true:=by
 simp[netC,u8V,Value.oneCell']
theorem netC_len(n:Nt)(h:n.addr.length=16):(netC n).length=18:=by simp[netC,h]
theorem net_info:(Tryz.prog.info? 86).map (·.size)=some 18:=by kernel_rfl
structure FourW (w wr:World) (l:List ByteArray) (g k:Nat):Prop where
 bel:Bel w wr
 hg:w.heap.size+2≤g
 gl:g<wr.heap.size
 hl:wr.heap[g]?=some (.cells (l.map Value.string).toArray 9 (0,0))
 hn:wr.heap[w.heap.size+1]?=some (.cells (netC (fourN l k)).toArray 86 (0,0))
 hr:wr.heap[w.heap.size]?=some (.cells (netC ⟨false,0,List.replicate 16 0⟩).toArray 86 (0,0))
 ok:∀x∈l.take k,okB x=true
 four:0<k→l.length=4
theorem FourW.next{w wr w':World}{l:List ByteArray}{g k:Nat}(h:FourW w wr l g k)(hx:Bel wr w'):FourW w w' l g k:=
 ⟨h.bel.trans hx,h.hg,Nat.lt_of_lt_of_le h.gl hx.size,hx.heap h.hl,hx.heap h.hn,hx.heap h.hr,h.ok,h.four⟩
theorem FourW.cell{w wr:World}{l:List ByteArray}{g k:Nat}(h:FourW w wr l g k)(j:Nat)(hj:j<l.length):wr.cell? ⟨g,j,none⟩=some (.string l[j]):=by
 simp[World.cell?,h.hl,hj]
theorem FourW.set{w wr:World}{l:List ByteArray}{g k:Nat}(h:FourW w wr l g k)(h4:l.length=4)(ho:∀x∈l.take (k+1),okB x=true)(x:Nat)(hs:(netC (fourN l k)).set (2+k) (u8V x)=netC (fourN l (k+1))):
 FourW w (wr.setCell ⟨w.heap.size+1,2+k,none⟩ (.int .u8 (x:Int))) l g (k+1):=by
 have hx:Bel w (wr.setCell ⟨w.heap.size+1,2+k,none⟩ (.int .u8 (x:Int))):=h.bel.setCell (by omega) _
 refine⟨hx,h.hg,by rw[World.size_setCell];exact h.gl,?_,?_,?_,ho,fun _=>h4⟩
 ·rw[heap_setCell_other _ _ _ _ (by have:=h.hg;show g≠w.heap.size+1;omega)];exact h.hl
 ·rw[heap_setCell_same wr _ _ _ _ _ h.hn,List.setIfInBounds_toArray,←hs]
  rfl
 ·rw[heap_setCell_other _ _ _ _ (by show w.heap.size≠w.heap.size+1;omega)];exact h.hr
def NetPost(o:Option Nt)(w:World)(e:Ending)(w':World):Prop:=
 (∃n:Nt,n.Fits∧e=.returned (.tuple #[netV n,.bool o.isSome])∧(∀m,o=some m→n=m))∧Bel w w'
theorem four_run(s:ByteArray)(w:World)(hw:Lay w)(hs:s.size<4294967281):
 Calls Tryz.prog 121 #[.string s] w (NetPost ((fourQ s).map fun l=>⟨false,32,l++List.replicate 12 0⟩) w):=by
 have HS:=(show Hid (∀W,Lay W→Calls Tryz.prog 127 #[.string s,.string dot] W fun e w'=>e=.returned (.slice (some ⟨W.heap.size,0,none⟩) (pieces s dot).length (pieces s dot).length)∧
  w'.heap[W.heap.size]?=some (.cells ((pieces s dot).map Value.string).toArray 9 (0,0))∧Bel W w')from fun W hW=>split_run s dot W hW hs (by decide))
 have HP:=hid (pieces_size s dot hs)
 have hq:fourQ s=if fourL (pieces s dot)then some ((pieces s dot).map numOr)else none:=rfl
 have hlen:(pieces s dot).length≤9223372036854775807:=by
  have:(pieces s dot).length=Lib.countB s dot+1:=Lib.splitB_all dot (by decide) 0 _ s rfl
  have:=Lib.countB_le dot (by decide) _ s (Nat.le_refl _)
  omega
 have hl1:1≤(pieces s dot).length:=by
  have:(pieces s dot).length=Lib.countB s dot+1:=Lib.splitB_all dot (by decide) 0 _ s rfl
  omega
 rw[hq]
 generalize pieces s dot=l at HS HP hlen hl1⊢
 generalize hoz:(if fourL l then some (l.map numOr)else none).map (fun l=>(⟨false,32,l++List.replicate 12 0⟩:Nt))=o
 have HO:=hid hoz
 clear hoz
 have HW:=hid hw
 clear hq hw
 have hz:=hid (show(Tryz.prog.info? 86).map (·.size)=some (netC (fourN l 0)).length by rw[netC_len _ (fourN_len l 0 (by decide) (Nat.zero_le _))];exact net_info)
 go_enter Tryz.func121,Tryz.ntmps121
 go_upto_region 1 with(fail)
 have hb0:=hid (show Bel w ((w.alloc (.cells #[.bool false,.int .i64 0,.int .u8 0,.int .u8 0,.int .u8 0,.int .u8 0,.int .u8 0,.int .u8 0,.int .u8 0,.int .u8 0,.int .u8 0,.int .u8 0,.int .u8 0,.int .u8 0,.int .u8 0,.int .u8 0,.int .u8 0,.int .u8 0] 86)).alloc (.cells #[.bool false,.int .i64 0,.int .u8 0,.int .u8 0,.int .u8 0,.int .u8 0,.int .u8 0,.int .u8 0,.int .u8 0,.int .u8 0,.int .u8 0,.int .u8 0,.int .u8 0,.int .u8 0,.int .u8 0,.int .u8 0,.int .u8 0,.int .u8 0] 86))from((Bel.refl w).alloc _).alloc _)
 have hc0:=hid (show((w.alloc (.cells #[.bool false,.int .i64 0,.int .u8 0,.int .u8 0,.int .u8 0,.int .u8 0,.int .u8 0,.int .u8 0,.int .u8 0,.int .u8 0,.int .u8 0,.int .u8 0,.int .u8 0,.int .u8 0,.int .u8 0,.int .u8 0,.int .u8 0,.int .u8 0] 86)).alloc (.cells #[.bool false,.int .i64 0,.int .u8 0,.int .u8 0,.int .u8 0,.int .u8 0,.int .u8 0,.int .u8 0,.int .u8 0,.int .u8 0,.int .u8 0,.int .u8 0,.int .u8 0,.int .u8 0,.int .u8 0,.int .u8 0,.int .u8 0,.int .u8 0] 86)).heap[w.heap.size]?=some (.cells (netC ⟨false,0,List.replicate 16 0⟩).toArray 86 (0,0))from(Below.heap_alloc _ _ _ (by simp)).trans (heap_alloc_new w _))
 have hc1:=hid (show((w.alloc (.cells #[.bool false,.int .i64 0,.int .u8 0,.int .u8 0,.int .u8 0,.int .u8 0,.int .u8 0,.int .u8 0,.int .u8 0,.int .u8 0,.int .u8 0,.int .u8 0,.int .u8 0,.int .u8 0,.int .u8 0,.int .u8 0,.int .u8 0,.int .u8 0] 86)).alloc (.cells #[.bool false,.int .i64 0,.int .u8 0,.int .u8 0,.int .u8 0,.int .u8 0,.int .u8 0,.int .u8 0,.int .u8 0,.int .u8 0,.int .u8 0,.int .u8 0,.int .u8 0,.int .u8 0,.int .u8 0,.int .u8 0,.int .u8 0,.int .u8 0] 86)).heap[w.heap.size+1]?=some (.cells (netC ⟨false,0,List.replicate 16 0⟩).toArray 86 (0,0))from alloc_second w _ _)
 have hs0:=hid (show((w.alloc (.cells #[.bool false,.int .i64 0,.int .u8 0,.int .u8 0,.int .u8 0,.int .u8 0,.int .u8 0,.int .u8 0,.int .u8 0,.int .u8 0,.int .u8 0,.int .u8 0,.int .u8 0,.int .u8 0,.int .u8 0,.int .u8 0,.int .u8 0,.int .u8 0] 86)).alloc (.cells #[.bool false,.int .i64 0,.int .u8 0,.int .u8 0,.int .u8 0,.int .u8 0,.int .u8 0,.int .u8 0,.int .u8 0,.int .u8 0,.int .u8 0,.int .u8 0,.int .u8 0,.int .u8 0,.int .u8 0,.int .u8 0,.int .u8 0,.int .u8 0] 86)).heap.size=w.heap.size+2 by simp only[World.size_alloc])
 have hth:=hid (show((w.alloc (.cells #[.bool false,.int .i64 0,.int .u8 0,.int .u8 0,.int .u8 0,.int .u8 0,.int .u8 0,.int .u8 0,.int .u8 0,.int .u8 0,.int .u8 0,.int .u8 0,.int .u8 0,.int .u8 0,.int .u8 0,.int .u8 0,.int .u8 0,.int .u8 0] 86)).alloc (.cells #[.bool false,.int .i64 0,.int .u8 0,.int .u8 0,.int .u8 0,.int .u8 0,.int .u8 0,.int .u8 0,.int .u8 0,.int .u8 0,.int .u8 0,.int .u8 0,.int .u8 0,.int .u8 0,.int .u8 0,.int .u8 0,.int .u8 0,.int .u8 0] 86)).there (w.heap.size+1) 0 (netC (fourN l 0)).toArray.size from there_of hc1.out (by rw[List.size_toArray,netC_len _ (fourN_len l 0 (by decide) (Nat.zero_le _))];decide))
 go_wp2_with (refine wpList_store_mid rfl 86 (.tmp 4) (.tmp 10) rfl (w.heap.size+1) 0 (netC (fourN l 0)).toArray rfl rfl ?_ (by rw[List.size_toArray];exact hz.out) (netC_one _) ?_;exact hth.out)
 have hb1:=hid (show Bel w (((w.alloc (.cells #[.bool false,.int .i64 0,.int .u8 0,.int .u8 0,.int .u8 0,.int .u8 0,.int .u8 0,.int .u8 0,.int .u8 0,.int .u8 0,.int .u8 0,.int .u8 0,.int .u8 0,.int .u8 0,.int .u8 0,.int .u8 0,.int .u8 0,.int .u8 0] 86)).alloc (.cells #[.bool false,.int .i64 0,.int .u8 0,.int .u8 0,.int .u8 0,.int .u8 0,.int .u8 0,.int .u8 0,.int .u8 0,.int .u8 0,.int .u8 0,.int .u8 0,.int .u8 0,.int .u8 0,.int .u8 0,.int .u8 0,.int .u8 0,.int .u8 0] 86)).setCells (w.heap.size+1) 0 (netC (fourN l 0)))from Bel.setCells (by omega) _ _ _ hb0.out)
 have hd1:=heap_setCells_whole (vs:=netC (fourN l 0)) hc1.out (by rw[netC_len _ (fourN_len l 0 (by decide) (Nat.zero_le _))];rfl)
 have hd0:=(heap_setCells_other (w.heap.size+1) w.heap.size (by omega) (netC (fourN l 0)) 0 _).trans hc0.out
 have hd:=hid (And.intro hd0 hd1)
 have hsz:=hid (show(((w.alloc (.cells #[.bool false,.int .i64 0,.int .u8 0,.int .u8 0,.int .u8 0,.int .u8 0,.int .u8 0,.int .u8 0,.int .u8 0,.int .u8 0,.int .u8 0,.int .u8 0,.int .u8 0,.int .u8 0,.int .u8 0,.int .u8 0,.int .u8 0,.int .u8 0] 86)).alloc (.cells #[.bool false,.int .i64 0,.int .u8 0,.int .u8 0,.int .u8 0,.int .u8 0,.int .u8 0,.int .u8 0,.int .u8 0,.int .u8 0,.int .u8 0,.int .u8 0,.int .u8 0,.int .u8 0,.int .u8 0,.int .u8 0,.int .u8 0,.int .u8 0] 86)).setCells (w.heap.size+1) 0 (netC (fourN l 0))).heap.size=w.heap.size+2 from(size_setCells _ _ _ _).trans hs0.out)
 clear hd0 hd1 hc0 hc1 hb0 hth hs0
 generalize ((w.alloc (.cells #[.bool false,.int .i64 0,.int .u8 0,.int .u8 0,.int .u8 0,.int .u8 0,.int .u8 0,.int .u8 0,.int .u8 0,.int .u8 0,.int .u8 0,.int .u8 0,.int .u8 0,.int .u8 0,.int .u8 0,.int .u8 0,.int .u8 0,.int .u8 0] 86)).alloc (.cells #[.bool false,.int .i64 0,.int .u8 0,.int .u8 0,.int .u8 0,.int .u8 0,.int .u8 0,.int .u8 0,.int .u8 0,.int .u8 0,.int .u8 0,.int .u8 0,.int .u8 0,.int .u8 0,.int .u8 0,.int .u8 0,.int .u8 0,.int .u8 0] 86)).setCells (w.heap.size+1) 0 (netC (fourN l 0))=W at hb1 hd hsz⊢
 refine(HS.out _ (HW.out.next hb1.out)).mono ?_
 rintro e w2 ⟨rfl,hg2,hb2⟩
 rw[hsz.out]at hg2⊢
 have H0:=hid (show FourW w w2 l (w.heap.size+2) 0 from⟨hb1.out.trans hb2,Nat.le_refl _,(Array.getElem?_eq_some_iff.1 hg2).1,hg2,hb2.heap hd.out.2,hb2.heap hd.out.1,fun x hx=>(by simp at hx),fun h=>(by omega)⟩)
 obtain⟨g,hgz⟩:∃g,g=w.heap.size+2:=⟨_,rfl⟩
 rw[←hgz]at H0⊢
 clear hgz hg2 hb2 hb1 hd hz hsz
 go_wp2_with fail
 go_loopg [6,7,8,9,15] l.length (fun gg v6 v7 v8 v9 v15 wr=>∃k:Nat,v15=.int .i64 k∧k+gg=l.length∧Hid (FourW w wr l g k))
 case atStart=>exact⟨0,rfl,by omega,H0⟩
 case round=>
  obtain⟨k,rfl,hk,HF⟩:=hrel
  have Hk:=hid hk
  have hkn:k≤l.length:=by omega
  clear hk H0
  by_cases hlt:k<l.length
  ·have c0:=HF.out.cell k hlt
   have HN:=(show Hid (∀W,Lay W→Calls Tryz.prog 195 #[.string l[k]] W fun e w'=>e=.returned (numV (numQ l[k]))∧Bel W w')from fun W hW=>number_run l[k] W hW (by have:=HP.out _ (List.getElem_mem hlt);omega))
   have hf0:wr.frozen? ⟨w.heap.size+1,2+k,none⟩=false:=by simp[World.frozen?,HF.out.hn]
   have hmem:l[k]∈l:=List.getElem_mem hlt
   have hset:=fun(h4:l.length=4)=>fourN_set l k (by omega) hlt
   have htk:l.take (k+1)=l.take k++[l[k]]:=List.take_succ_eq_append_getElem hlt
   generalize hx:l[k]=x at c0 HN hmem hset htk
   have HF0:=HF
   clear HF
   go_wp2_with fail
   refine(HN.out _ (HW.out.next HF0.out.bel)).mono ?_
   rintro e w3 ⟨rfl,hb3⟩
   have HF:=hid (HF0.out.next hb3)
   have hk4:k≤4:=by
    rcases Nat.eq_zero_or_pos k with f|f
    ·omega
    ·have:=HF.out.four f;omega
   have hf3:w3.frozen? ⟨w.heap.size+1,2+k,none⟩=false:=by simp[World.frozen?,HF.out.hn]
   clear HF0 hb3 hf0 HN c0
   cases hn:numQ x with
   |none=>
    have hbad:(if fourL l then some (l.map numOr)else none)=none:=by
     refine if_neg fun f=> ?_
     unfold fourL at f
     have:=List.all_eq_true.1 (Bool.and_eq_true_iff.1 f).2 x hmem
     unfold okB at this
     rw[hn]at this
     cases this
    unfold numV
    dsimp only
    have hxd:=hid (And.intro hx (And.intro hn htk))
    clear hx hn htk hset
    have hZ:=hid (show(Tryz.prog.info? 86).map (·.size)=some (netC (fourN l k)).length by rw[netC_len _ (fourN_len l k (by omega) (by omega))];exact net_info)
    have hR:=hid (show w3.rangeAt (w.heap.size+1) 0 (netC (fourN l k))from range_of HF.out.hn fun j v hv=>by simpa using hv)
    have hT:=hid (show w3.there w.heap.size 0 (netC (fourN l k)).toArray.size from there_of HF.out.hr (by rw[List.size_toArray,netC_len _ (fourN_len l k (by omega) (by omega))];decide))
    go_wp2_with (first
     | (refine wpList_load_mid rfl 86 (.tmp 4) rfl (w.heap.size+1) 0 rfl (netC (fourN l k)) _ ?_ Tryz.underlying86 rfl hZ.out ?_;exact hR.out)
     | (refine wpList_store_mid rfl 86 (.tmp 2) (.tmp 36) rfl w.heap.size 0 (netC (fourN l k)).toArray rfl rfl ?_ (by rw[List.size_toArray];exact hZ.out) (netC_one _) ?_;exact hT.out))
    have hl2:=run_loadVar_mid (P:=Tryz.prog) (w3.setCells w.heap.size 0 (netC (fourN l k))) w.heap.size 0 86 (netC (fourN l k)) _
     (World.rangeAt_setCells_same _ _ _ _ (by simpa using hT.out)) Tryz.underlying86 rfl hZ.out
    refine bodyPost_ret (v:=.tuple #[netV (fourN l k),.bool false]) (by simp[results,Tryz.results121,asAddr,hl2,netV]) rfl ⟨⟨fourN l k,fourN_fits l k (by omega) (by omega) HF.out.ok,by rw[←HO.out,hbad];rfl,by rw[←HO.out,hbad];intro m hm;cases hm⟩,?_⟩
    exact Bel.setCells (Nat.le_refl _) _ _ _ HF.out.bel
   |some n=>
    have hnr:=numQ_range hn
    unfold numV
    dsimp only
    by_cases hbig:255<n
    ·have dbig:decide (255<n)=true:=decide_eq_true hbig
     have hbad:(if fourL l then some (l.map numOr)else none)=none:=by
      refine if_neg fun f=> ?_
      unfold fourL at f
      have:=List.all_eq_true.1 (Bool.and_eq_true_iff.1 f).2 x hmem
      unfold okB at this
      rw[hn]at this
      have h2:n≤255:=by simpa using this
      omega
     have hxd:=hid (And.intro hx (And.intro hn htk))
     clear hx hn htk hset
     have hZ:=hid (show(Tryz.prog.info? 86).map (·.size)=some (netC (fourN l k)).length by rw[netC_len _ (fourN_len l k (by omega) (by omega))];exact net_info)
     have hR:=hid (show w3.rangeAt (w.heap.size+1) 0 (netC (fourN l k))from range_of HF.out.hn fun j v hv=>by simpa using hv)
     have hT:=hid (show w3.there w.heap.size 0 (netC (fourN l k)).toArray.size from there_of HF.out.hr (by rw[List.size_toArray,netC_len _ (fourN_len l k (by omega) (by omega))];decide))
     go_wp2_with (first
      | (refine wpList_load_mid rfl 86 (.tmp 4) rfl (w.heap.size+1) 0 rfl (netC (fourN l k)) _ ?_ Tryz.underlying86 rfl hZ.out ?_;exact hR.out)
      | (refine wpList_store_mid rfl 86 (.tmp 2) (.tmp 36) rfl w.heap.size 0 (netC (fourN l k)).toArray rfl rfl ?_ (by rw[List.size_toArray];exact hZ.out) (netC_one _) ?_;exact hT.out))
     have hl2:=run_loadVar_mid (P:=Tryz.prog) (w3.setCells w.heap.size 0 (netC (fourN l k))) w.heap.size 0 86 (netC (fourN l k)) _
      (World.rangeAt_setCells_same _ _ _ _ (by simpa using hT.out)) Tryz.underlying86 rfl hZ.out
     refine bodyPost_ret (v:=.tuple #[netV (fourN l k),.bool false]) (by simp[results,Tryz.results121,asAddr,hl2,netV]) rfl ⟨⟨fourN l k,fourN_fits l k (by omega) (by omega) HF.out.ok,by rw[←HO.out,hbad];rfl,by rw[←HO.out,hbad];intro m hm;cases hm⟩,?_⟩
     exact Bel.setCells (Nat.le_refl _) _ _ _ HF.out.bel
    ·have dbig:decide (255<n)=false:=decide_eq_false hbig
     by_cases h4:l.length=4
     ·have d4:((l.length:Int) !=4)=false:=by rw[h4];rfl
      have hval:numOr x=n.toNat:=by unfold numOr;rw[hn];rfl
      have hok:okB x=true:=by
       unfold okB
       rw[hn]
       exact decide_eq_true (by omega)
      have hs2:=hset h4
      rw[hval]at hs2
      have HN2:=hid (HF.out.set h4 (by rw[htk];intro y hy;rcases List.mem_append.1 hy with hy|hy;exact HF.out.ok y hy;rw[List.mem_singleton.1 hy];exact hok) (n.toNat) hs2)
      have hin:((n.toNat:Nat):Int)=n:=by omega
      rw[hin]at HN2
      have hc2:∃v,w3.cell? ⟨w.heap.size+1,2+k,none⟩=some v:=by
       have:2+k<(netC (fourN l k)).length:=by rw[netC_len _ (fourN_len l k hk4 (by omega))];omega
       exact⟨(netC (fourN l k))[2+k],by simp[World.cell?,HF.out.hn,this]⟩
      obtain⟨v0,hc2⟩:=hc2
      have hwr:IntKind.u8.wrap n=n:=by rw[IntKind.wrap_u8];omega
      have hxd:=hid (And.intro hx (And.intro hn htk))
      have H4:=hid h4
      clear hx hn htk hset hs2 hval HF h4
      go_wp2_with fail
      go_roundg (gk-1)
      case measure=>have:=Hk.out;omega
      case rel=>exact⟨k+1,by go_num,by have:=Hk.out;omega,HN2⟩
     ·have d4:((l.length:Int) !=4)=true:=by rw[bne_iff_ne];omega
      have hbad:(if fourL l then some (l.map numOr)else none)=none:=by
       refine if_neg fun f=> ?_
       unfold fourL at f
       exact h4 (by simpa using(Bool.and_eq_true_iff.1 f).1)
      have hxd:=hid (And.intro hx (And.intro hn htk))
      clear hx hn htk hset
      have hZ:=hid (show(Tryz.prog.info? 86).map (·.size)=some (netC (fourN l k)).length by rw[netC_len _ (fourN_len l k (by omega) (by omega))];exact net_info)
      have hR:=hid (show w3.rangeAt (w.heap.size+1) 0 (netC (fourN l k))from range_of HF.out.hn fun j v hv=>by simpa using hv)
      have hT:=hid (show w3.there w.heap.size 0 (netC (fourN l k)).toArray.size from there_of HF.out.hr (by rw[List.size_toArray,netC_len _ (fourN_len l k (by omega) (by omega))];decide))
      go_wp2_with (first
       | (refine wpList_load_mid rfl 86 (.tmp 4) rfl (w.heap.size+1) 0 rfl (netC (fourN l k)) _ ?_ Tryz.underlying86 rfl hZ.out ?_;exact hR.out)
       | (refine wpList_store_mid rfl 86 (.tmp 2) (.tmp 36) rfl w.heap.size 0 (netC (fourN l k)).toArray rfl rfl ?_ (by rw[List.size_toArray];exact hZ.out) (netC_one _) ?_;exact hT.out))
      have hl2:=run_loadVar_mid (P:=Tryz.prog) (w3.setCells w.heap.size 0 (netC (fourN l k))) w.heap.size 0 86 (netC (fourN l k)) _
       (World.rangeAt_setCells_same _ _ _ _ (by simpa using hT.out)) Tryz.underlying86 rfl hZ.out
      refine bodyPost_ret (v:=.tuple #[netV (fourN l k),.bool false]) (by simp[results,Tryz.results121,asAddr,hl2,netV]) rfl ⟨⟨fourN l k,fourN_fits l k (by omega) (by omega) HF.out.ok,by rw[←HO.out,hbad];rfl,by rw[←HO.out,hbad];intro m hm;cases hm⟩,?_⟩
      exact Bel.setCells (Nat.le_refl _) _ _ _ HF.out.bel
  ·obtain rfl:k=l.length:=by omega
   have h4:l.length=4:=HF.out.four (by omega)
   have hgood:fourL l=true:=by
    unfold fourL
    rw[h4,Bool.and_eq_true_iff]
    exact⟨rfl,List.all_eq_true.2 fun x hx=>HF.out.ok x (by rw[List.take_of_length_le (Nat.le_refl _)];exact hx)⟩
   have h4a:l.length≤4:=by omega
   have H4:=hid h4
   clear h4
   have hZ:=hid (show(Tryz.prog.info? 86).map (·.size)=some (netC (fourN l l.length)).length by rw[netC_len _ (fourN_len l l.length (by omega) (Nat.le_refl _))];exact net_info)
   have hR:=hid (show wr.rangeAt (w.heap.size+1) 0 (netC (fourN l l.length))from range_of HF.out.hn fun j v hv=>by simpa using hv)
   have hT:=hid (show wr.there w.heap.size 0 (netC (fourN l l.length)).toArray.size from there_of HF.out.hr (by rw[List.size_toArray,netC_len _ (fourN_len l l.length (by omega) (by omega))];decide))
   go_wp2_with (first
    | (refine wpList_load_mid rfl 86 (.tmp 4) rfl (w.heap.size+1) 0 rfl (netC (fourN l l.length)) _ ?_ Tryz.underlying86 rfl hZ.out ?_;exact hR.out)
    | (refine wpList_store_mid rfl 86 (.tmp 2) (.tmp 43) rfl w.heap.size 0 (netC (fourN l l.length)).toArray rfl rfl ?_ (by rw[List.size_toArray];exact hZ.out) (netC_one _) ?_;exact hT.out))
   have hl2:=run_loadVar_mid (P:=Tryz.prog) (wr.setCells w.heap.size 0 (netC (fourN l l.length))) w.heap.size 0 86 (netC (fourN l l.length)) _
    (World.rangeAt_setCells_same _ _ _ _ (by simpa using hT.out)) Tryz.underlying86 rfl hZ.out
   refine bodyPost_ret (v:=.tuple #[netV (fourN l l.length),.bool true]) (by simp[results,Tryz.results121,asAddr,hl2,netV]) rfl ⟨⟨fourN l l.length,fourN_fits l l.length (by omega) (by omega) HF.out.ok,by rw[←HO.out,if_pos hgood];rfl,by rw[←HO.out,if_pos hgood];intro m hm;rw[←Option.some.inj hm];unfold fourN;rw[List.take_of_length_le (Nat.le_refl _),H4.out]⟩,?_⟩
   exact Bel.setCells (Nat.le_refl _) _ _ _ HF.out.bel
end Go.Proofs.YtmlmkmhkmifnkaaGreatDoor.Ci
namespace Go.Proofs.YtmlmkmhkmifnkaaGreatDoor.Ci
def splitL(c:UInt8):List UInt8→List (List UInt8)
 |[]=>[[]]
 |b::l=>if b=c then[]::splitL c l else match splitL c l with
  |p::ps=>(b::p)::ps
  |[]=>[[b]]
theorem splitL_ne(c:UInt8):∀l,splitL c l≠[]
 |[]=>by simp[splitL]
 |b::l=>by
  unfold splitL
  split
  ·simp
  ·split<;>simp
theorem splitL_app(c:UInt8):∀(p l:List UInt8),c∉p→splitL c (p++c::l)=p::splitL c l
 |[],l,_=>by simp[splitL]
 |b::p,l,h=>by
  have hb:b≠c:=fun e=>h (by simp[e])
  have ih:=splitL_app c p l (fun e=>h (List.mem_cons_of_mem _ e))
  show splitL c (b::(p++c::l))=_
  rw[splitL,if_neg hb,ih]
theorem splitL_none(c:UInt8):∀(p:List UInt8),c∉p→splitL c p=[p]
 |[],_=>rfl
 |b::p,h=>by
  have hb:b≠c:=fun e=>h (by simp[e])
  have ih:=splitL_none c p (fun e=>h (List.mem_cons_of_mem _ e))
  unfold splitL
  rw[if_neg hb,ih]
theorem splitL_len(c:UInt8):∀l,(splitL c l).length=l.count c+1
 |[]=>rfl
 |b::l=>by
  have ih:=splitL_len c l
  unfold splitL
  by_cases h:b=c
  ·rw[if_pos h,h];simp[ih]
  ·rw[if_neg h]
   have h2:(b::l).count c=l.count c:=List.count_cons_of_ne h
   rw[h2]
   split
   ·rename_i e;rw[e]at ih;exact ih
   ·rename_i e;exact absurd e (splitL_ne c l)
theorem index_one_none(c:UInt8):∀(l:List UInt8),c∉l→Lib.index l [c]= -1
 |[],_=>rfl
 |b::l,h=>by
  have hb:c≠b:=fun e=>h (by simp[e])
  have ih:=index_one_none c l (fun e=>h (List.mem_cons_of_mem _ e))
  unfold Lib.index
  rw[ih]
  simp[List.isPrefixOf,hb]
theorem index_one_some(c:UInt8):∀(p l:List UInt8),c∉p→Lib.index (p++c::l) [c]=p.length
 |[],l,_=>by
  show Lib.index (c::l) [c]=_
  unfold Lib.index
  simp[List.isPrefixOf]
 |b::p,l,h=>by
  have hb:c≠b:=fun e=>h (by simp[e])
  have ih:=index_one_some c p l (fun e=>h (List.mem_cons_of_mem _ e))
  show Lib.index (b::(p++c::l)) [c]=_
  unfold Lib.index
  rw[ih]
  have e:((p.length:Int)== -1)=false:=by rw[beq_eq_false_iff_ne];omega
  simp[List.isPrefixOf,hb,e]
theorem split_at(c:UInt8):∀(l:List UInt8),c∉l∨∃p r,l=p++c::r∧c∉p
 |[]=>.inl (by simp)
 |b::l=>by
  by_cases h:b=c
  ·exact .inr ⟨[],l,by simp[h],by simp⟩
  ·rcases split_at c l with f|⟨p,r,rfl,f⟩
   ·exact .inl (by simp only[List.mem_cons,not_or];exact⟨fun g=>h g.symm,f⟩)
   ·exact .inr ⟨b::p,r,rfl,by simp only[List.mem_cons,not_or];exact⟨fun g=>h g.symm,f⟩⟩
theorem splitK_one(c:UInt8):∀(k:Nat) (l:List UInt8),l.count c=k→Lib.splitK [c] 0 k l=splitL c l
 |0,l,h=>by
  rw[splitL_none c l (List.count_eq_zero.1 h)];rfl
 |k+1,l,h=>by
  rcases split_at c l with f|⟨p,r,rfl,f⟩
  ·rw[List.count_eq_zero.2 f]at h;cases h
  ·have hi:=index_one_some c p r f
   have hk:r.count c=k:=by
    rw[List.count_append,List.count_cons_self,List.count_eq_zero.2 f]at h;omega
   have e:((p.length:Int)== -1)=false:=by rw[beq_eq_false_iff_ne];omega
   unfold Lib.splitK
   rw[hi,e,splitL_app c p r f,←splitK_one c k r hk]
   simp
def digB(b:UInt8):Bool:=decide (48≤b.toNat)&&decide (b.toNat≤57)
def numL(l:List UInt8):Option Nat:=
 if 1≤l.length∧l.length≤3∧(1<l.length→l[0]?≠some 48)∧l.all digB=true then some (l.foldl (fun a b=>a*10+(b.toNat-48)) 0)else none
def hexB(b:UInt8):Bool:=digB b||(decide (97≤b.toNat)&&decide (b.toNat≤102))||(decide (65≤b.toNat)&&decide (b.toNat≤70))
def hexV(b:UInt8):Nat:=if b.toNat≤57 then b.toNat-48 else if b.toNat≤70 then b.toNat-55 else b.toNat-87
def grpL(l:List UInt8):Option Nat:=
 if 1≤l.length∧l.length≤4∧l.all hexB=true then some (l.foldl (fun a b=>a*16+hexV b) 0)else none
def allL:List (List UInt8)→Option (List Nat)
 |[]=>some []
 |p::ps=>match grpL p,allL ps with
  |some v,some vs=>some (v::vs)
  |_,_=>none
def groupsL(l:List UInt8):Option (List Nat):=if l=[]then some []else allL (splitL 58 l)
def sixL(l:List UInt8):Option (List Nat):=
 match groupsL (Lib.cut l [58,58]).1,groupsL (Lib.cut l [58,58]).2.1 with
 |some a,some b=>if(Lib.cut l [58,58]).2.2 then(if a.length+b.length≤7 then some (a++List.replicate (8-a.length-b.length) 0++b)else none)else(if a.length=8 then some a else none)
 |_,_=>none
def bytesL:List Nat→List Nat
 |[]=>[]
 |g::gs=>g/256::g%256::bytesL gs
theorem bytesL_len:∀l,(bytesL l).length=2*l.length
 |[]=>rfl
 |g::gs=>by simp[bytesL,bytesL_len gs];omega
theorem bytesL_app:∀a b,bytesL (a++b)=bytesL a++bytesL b
 |[],_=>rfl
 |g::gs,b=>by simp[bytesL,bytesL_app gs b]
theorem bytesL_zero:∀k,bytesL (List.replicate k 0)=List.replicate (2*k) 0
 |0=>rfl
 |k+1=>by rw[List.replicate_succ,bytesL,bytesL_zero k,(by omega:2*(k+1)=2*k+1+1),List.replicate_succ,List.replicate_succ]
def byteL(p:List UInt8):Option Nat:=match numL p with
 |some n=>if n≤255 then some n else none
 |none=>none
def allB:List (List UInt8)→Option (List Nat)
 |[]=>some []
 |p::ps=>match byteL p,allB ps with
  |some v,some vs=>some (v::vs)
  |_,_=>none
def fourT(l:List UInt8):Option (List Nat):=if(splitL 46 l).length=4 then allB (splitL 46 l)else none
end Go.Proofs.YtmlmkmhkmifnkaaGreatDoor.Ci
namespace Go.Proofs.YtmlmkmhkmifnkaaGreatDoor.Ci
def hexD(n:Nat):UInt8:=if n<10 then UInt8.ofNat (48+n)else UInt8.ofNat (87+n)
def hexL(n:Nat):List UInt8:=
 if _h:n<16 then[hexD n]else hexL (n/16)++[hexD (n%16)]
termination_by n
decreasing_by omega
theorem hexL_small{n:Nat}(h:n<16):hexL n=[hexD n]:=by rw[hexL,dif_pos h]
theorem hexL_big{n:Nat}(h:¬n<16):hexL n=hexL (n/16)++[hexD (n%16)]:=by rw[hexL,dif_neg h]
theorem hexD_ok(n:Nat)(h:n<16):hexB (hexD n)=true∧hexV (hexD n)=n∧hexD n≠58∧hexD n≠46∧hexD n≠47:=by
 have key:∀n:Fin 16,hexB (hexD n.val)=true∧hexV (hexD n.val)=n.val∧hexD n.val≠58∧hexD n.val≠46∧hexD n.val≠47:=by decide
 exact key ⟨n,h⟩
theorem hexL_len:∀(k n:Nat),n<16^(k+1)→1≤(hexL n).length∧(hexL n).length≤k+1
 |0,n,h=>by rw[hexL_small (by simpa using h)];simp
 |k+1,n,h=>by
  by_cases h2:n<16
  ·rw[hexL_small h2];simp
  ·rw[hexL_big h2,List.length_append]
   have:=hexL_len k (n/16) (by rw[Nat.pow_succ]at h;omega)
   simp;omega
theorem hexL_ok:∀(n:Nat),∀b∈hexL n,hexB b=true∧b≠58∧b≠46∧b≠47:=by
 intro n
 induction n using Nat.strongRecOn with
 |_ n ih=>
  intro b hb
  by_cases h2:n<16
  ·rw[hexL_small h2]at hb
   rw[List.mem_singleton.1 hb]
   have:=hexD_ok n h2
   exact⟨this.1,this.2.2.1,this.2.2.2.1,this.2.2.2.2⟩
  ·rw[hexL_big h2]at hb
   rcases List.mem_append.1 hb with hb|hb
   ·exact ih (n/16) (by omega) b hb
   ·rw[List.mem_singleton.1 hb]
    have:=hexD_ok (n%16) (by omega)
    exact⟨this.1,this.2.2.1,this.2.2.2.1,this.2.2.2.2⟩
theorem hexL_val(n:Nat):(hexL n).foldl (fun a b=>a*16+hexV b) 0=n:=by
 induction n using Nat.strongRecOn with
 |_ n ih=>
  by_cases h2:n<16
  ·rw[hexL_small h2]
   have:=(hexD_ok n h2).2.1
   simp[this]
  ·rw[hexL_big h2,List.foldl_append,ih (n/16) (by omega)]
   have:=(hexD_ok (n%16) (by omega)).2.1
   simp only[List.foldl_cons,List.foldl_nil,this]
   omega
theorem hexL_zero(n:Nat):hexL n=[48]↔n=0:=by
 constructor
 ·intro e
  have:=hexL_val n
  rw[e]at this
  simpa[hexV]using this.symm
 ·rintro rfl;rw[hexL_small (by decide)];rfl
def zerosAt(l:List Nat)(i:Nat):Nat:=((l.drop i).takeWhile (· ==0)).length
def longest(l:List Nat):Nat→Nat×Nat
 |0=>(0,1)
 |i+1=>if(longest l i).2<zerosAt l i then(i,zerosAt l i)else longest l i
def formL(l:List Nat):List UInt8:=
 if(longest l 8).2=1 then Lib.join (l.map hexL) [58]
 else Lib.join ((l.take (longest l 8).1).map hexL) [58]++[58,58]++Lib.join ((l.drop ((longest l 8).1+(longest l 8).2)).map hexL) [58]
theorem longest_pos(l:List Nat):∀i,1≤(longest l i).2
 |0=>Nat.le_refl _
 |i+1=>by
  unfold longest
  split
  ·have:=longest_pos l i;show 1≤zerosAt l i;omega
  ·exact longest_pos l i
theorem longest_row(l:List Nat):∀i,(longest l i).2=1∨zerosAt l (longest l i).1=(longest l i).2∧(longest l i).1<i
 |0=>.inl rfl
 |i+1=>by
  unfold longest
  split
  ·exact .inr ⟨rfl,Nat.lt_succ_self _⟩
  ·rcases longest_row l i with h|⟨h,k⟩
   ·exact .inl h
   ·exact .inr ⟨h,by omega⟩
theorem zeros_le(l:List Nat)(i:Nat):zerosAt l i≤l.length-i:=by
 unfold zerosAt
 have:=(List.takeWhile_sublist (· ==0) (l:=l.drop i)).length_le
 rwa[List.length_drop]at this
theorem decDigits_ok:∀(n:Nat),∀b∈Lib.decDigits n,digB b=true:=by
 intro n
 have key:∀n:Fin 10,digB (UInt8.ofNat (48+n.val))=true:=by decide
 induction n using Nat.strongRecOn with
 |_ n ih=>
  intro b hb
  rw[Lib.decDigits]at hb
  split at hb
  ·rename_i h2
   rw[List.mem_singleton.1 hb]
   exact key ⟨n,h2⟩
  ·rcases List.mem_append.1 hb with hb|hb
   ·exact ih (n/10) (by omega) b hb
   ·rw[List.mem_singleton.1 hb]
    exact key ⟨n%10,by omega⟩
theorem decDigits_len:∀(k n:Nat),n<10^(k+1)→1≤(Lib.decDigits n).length∧(Lib.decDigits n).length≤k+1
 |0,n,h=>by rw[Lib.decDigits,dif_pos (by simpa using h)];simp
 |k+1,n,h=>by
  rw[Lib.decDigits]
  split
  ·simp
  ·have:=decDigits_len k (n/10) (by rw[Nat.pow_succ]at h;omega)
   rw[List.length_append]
   simp;omega
end Go.Proofs.YtmlmkmhkmifnkaaGreatDoor.Ci
namespace Go.Proofs.YtmlmkmhkmifnkaaGreatDoor.Ci
open Go.RowKit
theorem dropWhile_all{α:Type}(p:α→Bool):∀l:List α,(∀x∈l,p x=true)→l.dropWhile p=[]
 |[],_=>rfl
 |a::l,h=>by
  rw[List.dropWhile_cons,if_pos (h a (List.mem_cons_self ..))]
  exact dropWhile_all p l fun x hx=>h x (List.mem_cons_of_mem _ hx)
theorem trim_iff(l cs:List UInt8):Lib.trimS l cs=[]↔∀x∈l,cs.contains x=true:=by
 constructor
 ·exact trim_nil
 ·intro h
  unfold Lib.trimS Lib.trimLeftS Lib.trimRightS
  rw[dropWhile_all _ l.reverse fun x hx=>h x (List.mem_reverse.1 hx)]
  rfl
theorem digs_has(b:UInt8):digs.data.toList.contains b=digB b:=by
 have key:∀n:Fin 256,digs.data.toList.contains (UInt8.ofNat n.val)=digB (UInt8.ofNat n.val):=by decide+kernel
 have:=key ⟨b.toNat,b.toNat_lt⟩
 rwa[show UInt8.ofNat b.toNat=b by simp]at this
theorem hexs_has(b:UInt8):hexs.data.toList.contains b=hexB b:=by
 have key:∀n:Fin 256,hexs.data.toList.contains (UInt8.ofNat n.val)=hexB (UInt8.ofNat n.val):=by decide+kernel
 have:=key ⟨b.toNat,b.toNat_lt⟩
 rwa[show UInt8.ofNat b.toNat=b by simp]at this
theorem trim_digs(l:List UInt8):Lib.trimS l digs.data.toList=[]↔l.all digB=true:=by
 rw[trim_iff,List.all_eq_true]
 simp only[digs_has]
theorem trim_hexs(l:List UInt8):Lib.trimS l hexs.data.toList=[]↔l.all hexB=true:=by
 rw[trim_iff,List.all_eq_true]
 simp only[hexs_has]
theorem decFrom_digs:∀(l:List UInt8) (a:Nat),l.all digB=true→Lib.decFrom a l=some (l.foldl (fun a b=>a*10+(b.toNat-48)) a)
 |[],_,_=>rfl
 |b::l,a,h=>by
  rw[List.all_cons,Bool.and_eq_true_iff]at h
  have hb:=h.1
  unfold digB at hb
  simp only[Bool.and_eq_true,decide_eq_true_eq]at hb
  unfold Lib.decFrom Lib.digitVal
  rw[if_pos hb]
  exact decFrom_digs l _ h.2
theorem numQ_eq(s:ByteArray):numQ s=(numL s.data.toList).map Int.ofNat:=by
 unfold numQ numL
 rw[Lib.size_eq]
 generalize s.data.toList=l
 cases l with
 |nil=>
  rw[if_neg (by simp[Lib.trimS,Lib.trimLeftS,Lib.trimRightS]),if_neg (by simp)]
  rfl
 |cons b r=>
  by_cases h:3<(b::r).length∨(1<(b::r).length∧(b::r)[0]?=some 48)∨Lib.trimS (b::r) digs.data.toList≠[]
  ·rw[if_pos h,if_neg]
   ·rfl
   ·rintro⟨-,h2,h3,h4⟩
    rcases h with h|⟨h5,h6⟩|h
    ·omega
    ·exact h3 h5 h6
    ·exact h ((trim_digs _).2 h4)
  ·have h1:¬3<(b::r).length:=fun f=>h (.inl f)
   have h2:¬(1<(b::r).length∧(b::r)[0]?=some 48):=fun f=>h (.inr (.inl f))
   have h3:Lib.trimS (b::r) digs.data.toList=[]:=Classical.byContradiction fun f=>h (.inr (.inr f))
   have hd:=(trim_digs _).1 h3
   rw[if_neg h,if_pos ⟨by simp,by omega,fun f g=>h2 ⟨f,g⟩,hd⟩]
   have hb:=hd
   rw[List.all_cons,Bool.and_eq_true_iff]at hb
   have hb:=hb.1
   unfold digB at hb
   simp only[Bool.and_eq_true,decide_eq_true_eq]at hb
   unfold Lib.atoi
   have n1:(b==45)=false:=by
    rw[beq_eq_false_iff_ne];rintro rfl;exact absurd hb.1 (by decide)
   have n2:(b==43)=false:=by
    rw[beq_eq_false_iff_ne];rintro rfl;exact absurd hb.1 (by decide)
   simp only[n1,n2,Bool.false_eq_true,if_false]
   unfold Lib.decNat
   rw[if_neg (by simp),decFrom_digs _ 0 hd]
   rfl
theorem pieces_data(s:ByteArray)(c:UInt8):(pieces s ⟨#[c]⟩).map (·.data.toList)=splitL c s.data.toList:=by
 unfold pieces
 rw[Lib.splitB_data]
 exact splitK_one c _ _ (Lib.count_one c s.data.toList).symm
theorem byteL_eq(p:ByteArray):byteL p.data.toList=if okB p=true then some (numOr p)else none:=by
 unfold byteL okB numOr
 rw[numQ_eq p]
 cases h:numL p.data.toList with
 |none=>rfl
 |some n=>
  by_cases h2:n≤255
  ·simp[h2,(by omega:(n:Int)≤255)]
  ·simp[h2]
   omega
theorem allB_eq:∀(ps:List ByteArray),allB (ps.map (·.data.toList))=if ps.all okB=true then some (ps.map numOr)else none
 |[]=>rfl
 |p::ps=>by
  rw[List.map_cons,allB,allB_eq ps,List.all_cons,byteL_eq,List.map_cons]
  generalize okB p=a
  generalize ps.all okB=b
  cases a<;>cases b<;>rfl
theorem fourQ_eq(s:ByteArray):fourQ s=fourT s.data.toList:=by
 unfold fourQ fourT fourL
 have hp:=pieces_data s 46
 rw[←hp,List.length_map,allB_eq]
 show(if(decide ((pieces s dot).length=4)&&(pieces s dot).all okB)=true then _ else _)=_
 by_cases h:(pieces s ⟨#[46]⟩).length=4
 ·rw[if_pos h]
  have:decide ((pieces s dot).length=4)=true:=decide_eq_true h
  rw[this,Bool.true_and]
  rfl
 ·rw[if_neg h]
  have:decide ((pieces s dot).length=4)=false:=decide_eq_false h
  rw[this]
  rfl
def grpOk(x:ByteArray):Bool:=(grpL x.data.toList).isSome
def grpOr(x:ByteArray):Nat:=(grpL x.data.toList).getD 0
theorem grpL_eq(p:ByteArray):grpL p.data.toList=if grpOk p=true then some (grpOr p)else none:=by
 unfold grpOk grpOr
 cases grpL p.data.toList<;>rfl
theorem allL_eq:∀(ps:List ByteArray),allL (ps.map (·.data.toList))=if ps.all grpOk=true then some (ps.map grpOr)else none
 |[]=>rfl
 |p::ps=>by
  rw[List.map_cons,allL,allL_eq ps,List.all_cons,grpL_eq,List.map_cons]
  generalize grpOk p=a
  generalize ps.all grpOk=b
  cases a<;>cases b<;>rfl
theorem grpL_some{x:ByteArray}(h:grpOk x=true):1≤x.size∧x.size≤4∧x.data.toList.all hexB=true∧grpOr x=x.data.toList.foldl (fun a b=>a*16+hexV b) 0:=by
 unfold grpOk at h
 unfold grpOr
 unfold grpL at h⊢
 split at h
 ·rename_i hc
  rw[if_pos hc]
  rw[←Lib.size_eq]at hc
  exact⟨hc.1,hc.2.1,hc.2.2,rfl⟩
 ·cases h
end Go.Proofs.YtmlmkmhkmifnkaaGreatDoor.Ci