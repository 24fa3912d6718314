import Derived.Test.YtmlmkmhkmifnkaaGreatDoorK05
import Derived.Laws.CopyOwn
set_option maxHeartbeats 16000000
set_option maxRecDepth 1000000
namespace Go.Proofs.YtmlmkmhkmifnkaaGreatDoor.Ci
open Go.RowKit
theorem mkB(l:List UInt8):(⟨l.toArray⟩:ByteArray).data.toList=l:=rfl
theorem cut_len(l sep:List UInt8):(Lib.cut l sep).1.length≤l.length∧(Lib.cut l sep).2.1.length≤l.length:=by
 unfold Lib.cut
 split
 ·simp;omega
 ·simp
theorem allL_lt:∀(ps:List (List UInt8)) (gs:List Nat),allL ps=some gs→gs.length=ps.length∧∀g∈gs,g<65536
 |[],gs,h=>by
  obtain rfl:=Option.some.inj h
  exact⟨rfl,by simp⟩
 |p::ps,gs,h=>by
  unfold allL at h
  split at h
  ·rename_i v vs hv hvs
   obtain rfl:=Option.some.inj h
   have ih:=allL_lt ps vs hvs
   refine⟨by simp[ih.1],fun g hg=> ?_⟩
   rcases List.mem_cons.1 hg with rfl|hg
   ·unfold grpL at hv
    split at hv
    ·rename_i hc
     have:=hexF_lt _ p rfl (List.all_eq_true.1 hc.2.2)
     have h2:16^p.length≤16^4:=Nat.pow_le_pow_right (by decide) hc.2.1
     have h3:=Option.some.inj hv
     unfold hexF at this
     omega
    ·cases hv
   ·exact ih.2 g hg
  ·cases h
theorem groupsL_lt{l:List UInt8}{gs:List Nat}(h:groupsL l=some gs):gs.length≤l.length+1∧∀g∈gs,g<65536:=by
 unfold groupsL at h
 split at h
 ·obtain rfl:=Option.some.inj h
  exact⟨by simp,by simp⟩
 ·have:=allL_lt _ _ h
  rw[splitL_len]at this
  have h2:=List.count_le_length (a:=(58:UInt8)) (l:=l)
  exact⟨by omega,this.2⟩
theorem bytesL_lt:∀(gs:List Nat),(∀g∈gs,g<65536)→∀x∈bytesL gs,x<256
 |[],_,x,hx=>by cases hx
 |g::gs,h,x,hx=>by
  unfold bytesL at hx
  have hg:=h g (List.mem_cons_self ..)
  rcases List.mem_cons.1 hx with rfl|hx
  ·omega
  ·rcases List.mem_cons.1 hx with rfl|hx
   ·omega
   ·exact bytesL_lt gs (fun y hy=>h y (List.mem_cons_of_mem _ hy)) x hx
def sixQ(s:List UInt8):Option Nt:=(sixL s).map fun gs=>⟨true,128,bytesL gs⟩
def sixN(a b:List Nat):Nt:=⟨true,128,bytesL a++List.replicate (16-2*a.length-2*b.length) 0++bytesL b⟩
theorem sixN_eq(a b:List Nat)(h:a.length+b.length≤8):(⟨true,128,bytesL (a++List.replicate (8-a.length-b.length) 0++b)⟩:Nt)=sixN a b:=by
 unfold sixN
 rw[bytesL_app,bytesL_app,bytesL_zero]
 congr 4
 omega
theorem sixN_len(a b:List Nat)(h:a.length+b.length≤8):(sixN a b).addr.length=16:=by
 simp[sixN,bytesL_len];omega
theorem sixN_fits(a b:List Nat)(h:a.length+b.length≤8)(ha:∀g∈a,g<65536)(hb:∀g∈b,g<65536):(sixN a b).Fits:=by
 refine⟨by simp[sixN],by simp[sixN],sixN_len a b h,fun x hx=> ?_⟩
 unfold sixN at hx
 rcases List.mem_append.1 hx with hx|hx
 ·rcases List.mem_append.1 hx with hx|hx
  ·exact bytesL_lt a ha x hx
  ·obtain⟨-,rfl⟩:=List.mem_replicate.1 hx
   decide
 ·exact bytesL_lt b hb x hx
theorem splice_net(n:Nt)(off:Nat)(cs:List Nat):splice (netC n) (2+off) (cs.map u8V)=netC {n with addr:=n.addr.take off++(cs++n.addr.drop (off+cs.length))}:=by
 unfold splice netC
 rw[List.length_map,(by omega:2+off+cs.length=off+cs.length+1+1),(by omega:2+off=off+1+1)]
 simp only[List.take_succ_cons,List.drop_succ_cons,List.map_append,List.map_take,List.map_drop,List.cons_append]
theorem splice_first(a:List Nat):splice (netC (sixN [] [])) 2 ((bytesL a).map u8V)=netC (sixN a []):=by
 have h:=splice_net (sixN [] []) 0 (bytesL a)
 rw[Nat.add_zero]at h
 rw[h]
 congr 1
 unfold sixN
 congr 1
 rw[Nat.zero_add,bytesL_len,List.take_zero]
 show[]++(bytesL a++List.drop (2*a.length) ([]++List.replicate 16 0++[]))=_
 rw[List.nil_append,List.nil_append,List.append_nil,List.drop_replicate]
 simp[bytesL]
theorem splice_second(a b:List Nat)(h:a.length+b.length≤8):splice (netC (sixN a [])) (2+(16-2*b.length)) ((bytesL b).map u8V)=netC (sixN a b):=by
 rw[splice_net]
 congr 1
 unfold sixN
 congr 1
 have ha:=bytesL_len a
 have hb:=bytesL_len b
 show List.take (16-2*b.length) (bytesL a++List.replicate (16-2*a.length-2*0) 0++[])++(bytesL b++List.drop (16-2*b.length+(bytesL b).length) (bytesL a++List.replicate (16-2*a.length-2*0) 0++[]))=_
 rw[List.append_nil,List.take_append,List.drop_of_length_le (by simp;omega),List.take_of_length_le (by omega),List.take_replicate,List.append_nil]
 congr 3
 omega
theorem copy_keep {P:Program} {w:World} {ops:Array Oper} {rest:List Oper} {o:Oper} {a:Act} {Q:Exit→Act→World→Prop} (hgd:o.guard=none) (d s:Operand) (dT sT:TypeId)
 (ho:o.op=.call {callee:=.builtin .copy,args:=#[d,s],argTypes:=#[dT,sT]}) (elem:TypeId) (hu:P.underlying dT=some (.slice elem)) (hsz:(P.info? elem).map (·.size)=some 1)
 (dp sp:Option Addr) (dLen dCap sLen sCap:Nat) (hd:a.eval d=.slice dp dLen dCap) (hs:a.eval s=.slice sp sLen sCap)
 (g off:Nat) (cur:List Value) (t:TypeId) (hg:w.heap[g]?=some (.cells cur.toArray t (0,0))) (cs:List Value) (hn:cs.length=Nat.min sLen dLen)
 (hpos:0<cs.length→dp=some ⟨g,off,none⟩∧∃ad,sp=some ad∧∀j v,cs[j]?=some v→w.cell? (ad.add j)=some v)
 (hfit:off+cs.length≤cur.length) (h1:∀v∈cs,v.oneCell'=true)
 (h:∀w',Hid (w'.heap[g]?=some (.cells (splice cur off cs).toArray t (0,0)))→(∀k,k≠g→w'.heap[k]?=w.heap[k]?)→(∀B w0,Below B w0 w→B≤g→Below B w0 w')→wpList P ops Q rest (a.put o.dst (goInt cs.length)) w'):
 wpList P ops Q (o::rest) a w:=by
 by_cases h0:cs.length=0
 ·obtain rfl:cs=[]:=List.eq_nil_of_length_eq_zero h0
  refine wpList_copy_nothing hgd d s dT sT ho elem hu hsz dp sp dLen dCap sLen sCap hd hs (by simpa using hn.symm) ?_
  exact h w (show _=_ by simpa[splice]using hg) (fun _ _=>rfl) (fun _ _ hb _=>hb)
 ·obtain⟨rfl,ad,rfl,hsrc⟩:=hpos (by omega)
  refine wpList_copy_own hgd d s dT sT ho elem hu hsz g off dLen dCap ad sLen sCap hd hs cur.toArray t hg cs hn hsrc (by simpa using hfit) h1 ?_
  exact h _ (show _=_ by simpa[splice]using setRow_heap w g _ _ t _ hg) (fun k hk=>setRow_other w g k _ hk) (fun _ _ hb hB=>below_setRow hb hB _)
theorem row_src{w:World}{base e n:Nat}{x:Option Addr}{p:Nat}{xs:List Value}(h:w.ownsRow base e 1 (.slice x n p) n xs)(hp:0<xs.length):∃ad,x=some ad∧∀j v,xs[j]?=some v→w.cell? (ad.add j)=some v:=by
 rcases h.2 with⟨f,f2⟩|⟨g,cap,cur,f,-⟩
 ·have:=h.1
  omega
 ·injection f with f1 f2 f3
  subst f1
  exact⟨_,rfl,h.cells rfl⟩
theorem row_keep{w w':World}{base e size n g:Nat}{v:Value}{xs:List Value}(h:w.ownsRow base e size v n xs)(hk:∀k,k≠g→w'.heap[k]?=w.heap[k]?)(hg:g<base):w'.ownsRow base e size v n xs:=by
 refine⟨h.1,?_⟩
 rcases h.2 with f|⟨b,cap,cur,e,hb,hh,rest⟩
 ·exact .inl f
 ·exact .inr ⟨b,cap,cur,e,hb,(hk b (by omega)).trans hh,rest⟩
theorem GroupsPost.out{o:Option (List Nat)}{w w':World}{e:Ending}(h:GroupsPost o w e w'):
 ∃(x:Option Addr) (n p:Nat),e=.returned (.tuple #[.slice x n p,.bool o.isSome])∧Bel w w'∧n≤p∧p≤9223372036854775807∧∀gs,o=some gs→n=2*gs.length∧w'.ownsRow w.heap.size 5 1 (.slice x n p) n ((bytesL gs).map u8V):=by
 cases o with
 |none=>
  obtain⟨rfl,hb⟩:=h
  exact⟨none,0,0,rfl,hb,Nat.le_refl _,by decide,fun gs f=>by cases f⟩
 |some gs=>
  obtain⟨v,rfl,ho,hb⟩:=h
  obtain⟨x,p,rfl,h1,h2⟩:=row_shape ho
  exact⟨x,_,p,rfl,hb,h1,h2,fun gs2 f=>by cases f;exact⟨rfl,ho⟩⟩
def dcolon:ByteArray:=⟨#[58,58]⟩
theorem cut_short(l sep:List UInt8)(h:(Lib.cut l sep).2.2=false):(Lib.cut l sep).2.1=[]:=by
 unfold Lib.cut at h⊢
 split
 ·rename_i f;rw[if_pos f]at h;cases h
 ·rfl
theorem bytes_one(l:List Nat):∀v∈l.map u8V,v.oneCell'=true:=by
 intro v hv
 obtain⟨x,-,rfl⟩:=List.mem_map.1 hv
 rfl
theorem uint8_size:(Tryz.prog.info? 5).map (·.size)=some 1:=by kernel_rfl
theorem arr16_len:Tryz.prog.arrayLen 84=16:=by kernel_rfl
theorem arr16_elem:Tryz.prog.elem 84=5:=by kernel_rfl
theorem slice_all(W:World)(a:Addr):(Instr.sliceAt 84 (.pointer (some a)) none none none).run Tryz.prog W=.ok (.slice (some (a.add 0)) 16 16) W:=by
 rw[run_sliceAt_array_all W 84 _ (by kernel_rfl),arr16_len,arr16_elem,Tryz.sizeOf5]
 simp only[Result.andThen_ok,slicedAt]
 rfl
theorem slice_from(W:World)(b o n:Nat)(hn:n≤16):(Instr.sliceAt 84 (.pointer (some ⟨b,o,none⟩)) (some (.int .i64 (16-(n:Int)))) none none).run Tryz.prog W=.ok (.slice (some (if n=0 then⟨b,o,none⟩else⟨b,o+(16-n),none⟩)) n n) W:=by
 rw[run_sliceAt_array_l W 84 _ (by kernel_rfl) .i64 _ (by omega) (by rw[arr16_len];omega),arr16_len,arr16_elem,Tryz.sizeOf5]
 simp only[Result.andThen_ok,slicedAt,(by omega:(16-(n:Int)).toNat=16-n),(by omega:16-(16-n)=n),addr_add,Nat.mul_one]
 by_cases h:n=0
 ·subst h;rfl
 ·rw[if_neg (by omega),if_neg h]
theorem six_run(s:ByteArray)(w:World)(hw:Lay w)(hs:s.size<4294967281):
 Calls Tryz.prog 122 #[.string s] w (NetPost (sixQ s.data.toList) w):=by
 have HC:=(show Hid (∀W,Lay W→Calls Tryz.prog 131 #[.string s,.string dcolon] W fun e w'=>e=.returned (.tuple #[.string ⟨(Lib.cut s.data.toList [58,58]).1.toArray⟩,.string ⟨(Lib.cut s.data.toList [58,58]).2.1.toArray⟩,.bool (Lib.cut s.data.toList [58,58]).2.2])∧Bel W w')from fun W hW=>cut_str_run s dcolon W hW hs)
 have hcl:=cut_len s.data.toList [58,58]
 have hsh:=cut_short s.data.toList [58,58]
 have hq:sixQ s.data.toList=Option.map (fun gs=>(⟨true,128,bytesL gs⟩:Nt)) (match groupsL (Lib.cut s.data.toList [58,58]).1,groupsL (Lib.cut s.data.toList [58,58]).2.1 with
  |some a,some b=>if(Lib.cut s.data.toList [58,58]).2.2 then(if a.length+b.length≤7 then some (a++List.replicate (8-a.length-b.length) 0++b)else none)else(if a.length=8 then some a else none)
  |_,_=>none):=rfl
 rw[←Lib.size_eq]at hcl
 rw[hq]
 clear hq
 generalize Lib.cut s.data.toList [58,58]=c at HC hcl hsh⊢
 obtain⟨hd,tl,sh⟩:=c
 simp only at HC hcl hsh⊢
 have HG1:=(show Hid (∀W,Lay W→Calls Tryz.prog 196 #[.string ⟨hd.toArray⟩] W (GroupsPost (groupsL hd) W))from fun W hW=>groups_run ⟨hd.toArray⟩ W hW (by rw[Lib.size_eq,mkB];omega))
 have HG2:=(show Hid (∀W,Lay W→Calls Tryz.prog 196 #[.string ⟨tl.toArray⟩] W (GroupsPost (groupsL tl) W))from fun W hW=>groups_run ⟨tl.toArray⟩ W hW (by rw[Lib.size_eq,mkB];omega))
 have HL1:=hid (fun gs (h:groupsL hd=some gs)=>groupsL_lt h)
 have HL2:=hid (fun gs (h:groupsL tl=some gs)=>groupsL_lt h)
 have HS:=hid (show sh=false→groupsL tl=some []from fun f=>by rw[hsh f];rfl)
 have HW:=hid hw
 have hhl:hd.length≤4294967281:=by omega
 have htl:tl.length≤4294967281:=by omega
 generalize groupsL hd=o1 at HG1 HL1⊢
 generalize groupsL tl=o2 at HG2 HL2 HS⊢
 clear hw hcl hsh
 generalize hoz:Option.map _ _=oq
 have HO:=hid hoz
 clear hoz
 have hz:=hid (show(Tryz.prog.info? 86).map (·.size)=some (netC (sixN [] [])).length by rw[netC_len _ (sixN_len [] [] (by decide))];exact net_info)
 go_enter Tryz.func122,Tryz.ntmps122
 go_upto_region 1 with(fail)
 have hb0:=hid (show Bel w ((w.alloc (.cells #[.bool false,.int .i64 0,.int .u8 0,.int .u8 0,.int .u8 0,.int .u8 0,.int .u8 0,.int .u8 0,.int .u8 0,.int .u8 0,.int .u8 0,.int .u8 0,.int .u8 0,.int .u8 0,.int .u8 0,.int .u8 0,.int .u8 0,.int .u8 0] 86)).alloc (.cells #[.bool false,.int .i64 0,.int .u8 0,.int .u8 0,.int .u8 0,.int .u8 0,.int .u8 0,.int .u8 0,.int .u8 0,.int .u8 0,.int .u8 0,.int .u8 0,.int .u8 0,.int .u8 0,.int .u8 0,.int .u8 0,.int .u8 0,.int .u8 0] 86))from((Bel.refl w).alloc _).alloc _)
 have hc0:=hid (show((w.alloc (.cells #[.bool false,.int .i64 0,.int .u8 0,.int .u8 0,.int .u8 0,.int .u8 0,.int .u8 0,.int .u8 0,.int .u8 0,.int .u8 0,.int .u8 0,.int .u8 0,.int .u8 0,.int .u8 0,.int .u8 0,.int .u8 0,.int .u8 0,.int .u8 0] 86)).alloc (.cells #[.bool false,.int .i64 0,.int .u8 0,.int .u8 0,.int .u8 0,.int .u8 0,.int .u8 0,.int .u8 0,.int .u8 0,.int .u8 0,.int .u8 0,.int .u8 0,.int .u8 0,.int .u8 0,.int .u8 0,.int .u8 0,.int .u8 0,.int .u8 0] 86)).heap[w.heap.size]?=some (.cells (netC ⟨false,0,List.replicate 16 0⟩).toArray 86 (0,0))from(Below.heap_alloc _ _ _ (by simp)).trans (heap_alloc_new w _))
 have hc1:=hid (show((w.alloc (.cells #[.bool false,.int .i64 0,.int .u8 0,.int .u8 0,.int .u8 0,.int .u8 0,.int .u8 0,.int .u8 0,.int .u8 0,.int .u8 0,.int .u8 0,.int .u8 0,.int .u8 0,.int .u8 0,.int .u8 0,.int .u8 0,.int .u8 0,.int .u8 0] 86)).alloc (.cells #[.bool false,.int .i64 0,.int .u8 0,.int .u8 0,.int .u8 0,.int .u8 0,.int .u8 0,.int .u8 0,.int .u8 0,.int .u8 0,.int .u8 0,.int .u8 0,.int .u8 0,.int .u8 0,.int .u8 0,.int .u8 0,.int .u8 0,.int .u8 0] 86)).heap[w.heap.size+1]?=some (.cells (netC ⟨false,0,List.replicate 16 0⟩).toArray 86 (0,0))from alloc_second w _ _)
 have hs0:=hid (show((w.alloc (.cells #[.bool false,.int .i64 0,.int .u8 0,.int .u8 0,.int .u8 0,.int .u8 0,.int .u8 0,.int .u8 0,.int .u8 0,.int .u8 0,.int .u8 0,.int .u8 0,.int .u8 0,.int .u8 0,.int .u8 0,.int .u8 0,.int .u8 0,.int .u8 0] 86)).alloc (.cells #[.bool false,.int .i64 0,.int .u8 0,.int .u8 0,.int .u8 0,.int .u8 0,.int .u8 0,.int .u8 0,.int .u8 0,.int .u8 0,.int .u8 0,.int .u8 0,.int .u8 0,.int .u8 0,.int .u8 0,.int .u8 0,.int .u8 0,.int .u8 0] 86)).heap.size=w.heap.size+2 by simp only[World.size_alloc])
 have hth:=hid (show((w.alloc (.cells #[.bool false,.int .i64 0,.int .u8 0,.int .u8 0,.int .u8 0,.int .u8 0,.int .u8 0,.int .u8 0,.int .u8 0,.int .u8 0,.int .u8 0,.int .u8 0,.int .u8 0,.int .u8 0,.int .u8 0,.int .u8 0,.int .u8 0,.int .u8 0] 86)).alloc (.cells #[.bool false,.int .i64 0,.int .u8 0,.int .u8 0,.int .u8 0,.int .u8 0,.int .u8 0,.int .u8 0,.int .u8 0,.int .u8 0,.int .u8 0,.int .u8 0,.int .u8 0,.int .u8 0,.int .u8 0,.int .u8 0,.int .u8 0,.int .u8 0] 86)).there (w.heap.size+1) 0 (netC (sixN [] [])).toArray.size from there_of hc1.out (by rw[List.size_toArray,netC_len _ (sixN_len [] [] (by decide))];decide))
 go_wp2_with (refine wpList_store_mid rfl 86 (.tmp 4) (.tmp 12) rfl (w.heap.size+1) 0 (netC (sixN [] [])).toArray rfl rfl ?_ (by rw[List.size_toArray];exact hz.out) (netC_one _) ?_;exact hth.out)
 have hb1:=hid (show Bel w (((w.alloc (.cells #[.bool false,.int .i64 0,.int .u8 0,.int .u8 0,.int .u8 0,.int .u8 0,.int .u8 0,.int .u8 0,.int .u8 0,.int .u8 0,.int .u8 0,.int .u8 0,.int .u8 0,.int .u8 0,.int .u8 0,.int .u8 0,.int .u8 0,.int .u8 0] 86)).alloc (.cells #[.bool false,.int .i64 0,.int .u8 0,.int .u8 0,.int .u8 0,.int .u8 0,.int .u8 0,.int .u8 0,.int .u8 0,.int .u8 0,.int .u8 0,.int .u8 0,.int .u8 0,.int .u8 0,.int .u8 0,.int .u8 0,.int .u8 0,.int .u8 0] 86)).setCells (w.heap.size+1) 0 (netC (sixN [] [])))from Bel.setCells (by omega) _ _ _ hb0.out)
 have hd1:=heap_setCells_whole (vs:=netC (sixN [] [])) hc1.out (by rw[netC_len _ (sixN_len [] [] (by decide))];rfl)
 have hd0:=(heap_setCells_other (w.heap.size+1) w.heap.size (by omega) (netC (sixN [] [])) 0 _).trans hc0.out
 have hsz:=(show(((w.alloc (.cells #[.bool false,.int .i64 0,.int .u8 0,.int .u8 0,.int .u8 0,.int .u8 0,.int .u8 0,.int .u8 0,.int .u8 0,.int .u8 0,.int .u8 0,.int .u8 0,.int .u8 0,.int .u8 0,.int .u8 0,.int .u8 0,.int .u8 0,.int .u8 0] 86)).alloc (.cells #[.bool false,.int .i64 0,.int .u8 0,.int .u8 0,.int .u8 0,.int .u8 0,.int .u8 0,.int .u8 0,.int .u8 0,.int .u8 0,.int .u8 0,.int .u8 0,.int .u8 0,.int .u8 0,.int .u8 0,.int .u8 0,.int .u8 0,.int .u8 0] 86)).setCells (w.heap.size+1) 0 (netC (sixN [] []))).heap.size=w.heap.size+2 from(size_setCells _ _ _ _).trans hs0.out)
 have HX:=hid (And.intro hb1.out (And.intro hd0 hd1))
 have HZ:=hid hsz
 clear hd0 hd1 hc0 hc1 hb0 hth hs0 hb1 hsz
 generalize ((w.alloc (.cells #[.bool false,.int .i64 0,.int .u8 0,.int .u8 0,.int .u8 0,.int .u8 0,.int .u8 0,.int .u8 0,.int .u8 0,.int .u8 0,.int .u8 0,.int .u8 0,.int .u8 0,.int .u8 0,.int .u8 0,.int .u8 0,.int .u8 0,.int .u8 0] 86)).alloc (.cells #[.bool false,.int .i64 0,.int .u8 0,.int .u8 0,.int .u8 0,.int .u8 0,.int .u8 0,.int .u8 0,.int .u8 0,.int .u8 0,.int .u8 0,.int .u8 0,.int .u8 0,.int .u8 0,.int .u8 0,.int .u8 0,.int .u8 0,.int .u8 0] 86)).setCells (w.heap.size+1) 0 (netC (sixN [] []))=W at HX HZ⊢
 refine(HC.out _ (HW.out.next HX.out.1)).mono ?_
 rintro e w2 ⟨rfl,hb2⟩
 have HB2:=hid hb2
 clear hb2
 go_wp2_with fail
 refine(HG1.out _ (HW.out.next (HX.out.1.trans HB2.out))).mono ?_
 intro e w3 hp
 obtain⟨x1,n1,p1,rfl,hb3,hnp1,hp1,hg1⟩:=hp.out
 have H1:=hid (And.intro hb3 hg1)
 clear hp hb3 hg1
 go_wp2_with fail
 refine(HG2.out _ (HW.out.next (HX.out.1.trans (HB2.out.trans H1.out.1)))).mono ?_
 intro e w4 hp
 obtain⟨x2,n2,p2,rfl,hb4,hnp2,hp2,hg2⟩:=hp.out
 have H2:=hid (And.intro hb4 hg2)
 clear hp hb4 hg2
 have HX4:=hid (show Bel w w4∧w4.heap[w.heap.size]?=some (.cells (netC ⟨false,0,List.replicate 16 0⟩).toArray 86 (0,0))∧w4.heap[w.heap.size+1]?=some (.cells (netC (sixN [] [])).toArray 86 (0,0))from by
  have hb:=HB2.out.trans (H1.out.1.trans H2.out.1)
  exact⟨HX.out.1.trans hb,hb.heap HX.out.2.1,hb.heap HX.out.2.2⟩)
 cases o1 with
 |none=>
  clear HG1 HG2 HC HL1 HL2 HS H1 H2 HB2 HX HZ
  have HQ:=hid (show oq=none from HO.out.symm.trans rfl)
  have hZ:=hid (show(Tryz.prog.info? 86).map (·.size)=some (netC (sixN [] [])).length by rw[netC_len _ (sixN_len [] [] (by decide))];exact net_info)
  have hR:=hid (show w4.rangeAt (w.heap.size+1) 0 (netC (sixN [] []))from range_of HX4.out.2.2 fun j v hv=>by simpa using hv)
  have hT:=hid (show w4.there w.heap.size 0 (netC (sixN [] [])).toArray.size from there_of HX4.out.2.1 (by rw[List.size_toArray,netC_len _ (sixN_len [] [] (by decide))];decide))
  go_wp2_with (first
   | (refine wpList_load_mid rfl 86 (.tmp 4) rfl (w.heap.size+1) 0 rfl (netC (sixN [] [])) _ ?_ Tryz.underlying86 rfl hZ.out ?_;exact hR.out)
   | (refine wpList_store_mid rfl 86 (.tmp 2) (.tmp 55) rfl w.heap.size 0 (netC (sixN [] [])).toArray rfl rfl ?_ (by rw[List.size_toArray];exact hZ.out) (netC_one _) ?_;exact hT.out))
  have hl2:=run_loadVar_mid (P:=Tryz.prog) (w4.setCells w.heap.size 0 (netC (sixN [] []))) w.heap.size 0 86 (netC (sixN [] [])) _
   (World.rangeAt_setCells_same _ _ _ _ (by simpa using hT.out)) Tryz.underlying86 rfl hZ.out
  refine bodyPost_ret (v:=.tuple #[netV (sixN [] []),.bool false]) (by simp[results,Tryz.results122,asAddr,hl2,netV]) rfl ⟨⟨sixN [] [],sixN_fits [] [] (by decide) (by simp) (by simp),by rw[HQ.out];rfl,fun m hm=>(by rw[HQ.out]at hm;cases hm)⟩,?_⟩
  exact Bel.setCells (Nat.le_refl _) _ _ _ HX4.out.1
 |some a=>
  cases o2 with
  |none=>
   clear HG1 HG2 HC HL1 HL2 HS H1 H2 HB2 HX HZ
   have HQ:=hid (show oq=none from HO.out.symm.trans rfl)
   have hZ:=hid (show(Tryz.prog.info? 86).map (·.size)=some (netC (sixN [] [])).length by rw[netC_len _ (sixN_len [] [] (by decide))];exact net_info)
   have hR:=hid (show w4.rangeAt (w.heap.size+1) 0 (netC (sixN [] []))from range_of HX4.out.2.2 fun j v hv=>by simpa using hv)
   have hT:=hid (show w4.there w.heap.size 0 (netC (sixN [] [])).toArray.size from there_of HX4.out.2.1 (by rw[List.size_toArray,netC_len _ (sixN_len [] [] (by decide))];decide))
   go_wp2_with (first
    | (refine wpList_load_mid rfl 86 (.tmp 4) rfl (w.heap.size+1) 0 rfl (netC (sixN [] [])) _ ?_ Tryz.underlying86 rfl hZ.out ?_;exact hR.out)
    | (refine wpList_store_mid rfl 86 (.tmp 2) (.tmp 55) rfl w.heap.size 0 (netC (sixN [] [])).toArray rfl rfl ?_ (by rw[List.size_toArray];exact hZ.out) (netC_one _) ?_;exact hT.out))
   have hl2:=run_loadVar_mid (P:=Tryz.prog) (w4.setCells w.heap.size 0 (netC (sixN [] []))) w.heap.size 0 86 (netC (sixN [] [])) _
    (World.rangeAt_setCells_same _ _ _ _ (by simpa using hT.out)) Tryz.underlying86 rfl hZ.out
   refine bodyPost_ret (v:=.tuple #[netV (sixN [] []),.bool false]) (by simp[results,Tryz.results122,asAddr,hl2,netV]) rfl ⟨⟨sixN [] [],sixN_fits [] [] (by decide) (by simp) (by simp),by rw[HQ.out];rfl,fun m hm=>(by rw[HQ.out]at hm;cases hm)⟩,?_⟩
   exact Bel.setCells (Nat.le_refl _) _ _ _ HX4.out.1
  |some b=>
   obtain⟨hn1,hr1⟩:=H1.out.2 a rfl
   obtain⟨hn2,hr2⟩:=H2.out.2 b rfl
   have hla:=(HL1.out a rfl).1
   have hlb:=(HL2.out b rfl).1
   have hga:=(HL1.out a rfl).2
   have hgb:=(HL2.out b rfl).2
   have hss:=HS.out
   have HA:=hid (And.intro hga hgb)
   have hr3:=own_bel hr1 H2.out.1
   have hz2:w.heap.size+2≤w2.heap.size:=by have:=HB2.out.size;have:=HZ.out;omega
   have hz3:w.heap.size+2≤w3.heap.size:=by have:=H1.out.1.size;omega
   have HR:=hid (And.intro (own_base (base':=w.heap.size+2) hr3 hz2) (own_base (base':=w.heap.size+2) hr2 hz3))
   have HN:=hid (And.intro hn1 hn2)
   have hm1:n1≤8589934600:=by omega
   have hm2:n2≤8589934600:=by omega
   clear HG1 HG2 HC HL1 HL2 HS H1 H2 HB2 HX HZ hr1 hr2 hr3 hz2 hz3 hga hgb hn1 hn2
   cases sh with
   |true=>
    by_cases h14:n1+n2≤14
    ·have d14:decide ((14:Int)<(n1:Int)+(n2:Int))=false:=decide_eq_false (by omega)
     have HQ:=hid (show oq=some (sixN a b)from by
      have:=HN.out
      refine HO.out.symm.trans ?_
      show Option.map (fun gs=>(⟨true,128,bytesL gs⟩:Nt)) (if true=true then(if a.length+b.length≤7 then some (a++List.replicate (8-a.length-b.length) 0++b)else none)else(if a.length=8 then some a else none))=_
      rw[if_pos rfl,if_pos (by omega)]
      exact congrArg some (sixN_eq a b (by omega)))
     have h8:a.length+b.length≤8:=by have:=HN.out;omega
     have hn16:n1≤16∧n2≤16:=by omega
     clear hla hlb hss h14
     obtain⟨dp,hdp⟩:∃dp:Addr,dp=(if n2=0 then⟨w.heap.size+1,2,none⟩else⟨w.heap.size+1,2+(16-n2),none⟩):=⟨_,rfl⟩
     have hs1:∀W:World,(Instr.sliceAt 84 (.pointer (some ⟨w.heap.size+1,2,none⟩)) none none none).run Tryz.prog W=.ok (.slice (some ⟨w.heap.size+1,2,none⟩) 16 16) W:=fun W=>slice_all W _
     have hs2:∀W:World,(Instr.sliceAt 84 (.pointer (some ⟨w.heap.size+1,2,none⟩)) (some (.int .i64 (16-(n2:Int)))) none none).run Tryz.prog W=.ok (.slice (some dp) n2 n2) W:=fun W=>by rw[hdp];exact slice_from W _ 2 n2 hn16.2
     have HDP:=hid hdp
     have H8:=hid h8
     have hn16a:n1≤16:=hn16.1
     have hn16b:n2≤16:=hn16.2
     clear hdp h8 hn16
     go_wp2_with (refine copy_keep rfl (.tmp 57) (.tmp 58) 48 48 rfl 5 Tryz.underlying48 uint8_size (some ⟨w.heap.size+1,2,none⟩) x1 16 16 n1 p1 rfl rfl (w.heap.size+1) 2 (netC (sixN [] [])) 86 HX4.out.2.2 ((bytesL a).map u8V) ?_ (fun hp=>⟨rfl,row_src HR.out.1 hp⟩) ?_ (bytes_one _) ?_)
     ·rw[List.length_map,bytesL_len,←HN.out.1];exact(Nat.min_eq_left hn16a).symm
     ·rw[List.length_map,bytesL_len,←HN.out.1,netC_len _ (sixN_len [] [] (by decide))];omega
     intro w5 hc5 hk5 hB5
     have HX5:=hid (show Bel w w5∧w5.heap[w.heap.size]?=some (.cells (netC ⟨false,0,List.replicate 16 0⟩).toArray 86 (0,0))∧w5.heap[w.heap.size+1]?=some (.cells (netC (sixN a [])).toArray 86 (0,0))from
      ⟨hB5 _ _ HX4.out.1 (by omega),(hk5 _ (by omega)).trans HX4.out.2.1,by rw[hc5.out,splice_first]⟩)
     have HR5:=hid (row_keep HR.out.2 hk5 (by omega))
     clear hc5 hk5 hB5 HX4 HR
     go_wp2_with (refine copy_keep rfl (.tmp 64) (.tmp 65) 48 48 rfl 5 Tryz.underlying48 uint8_size (some dp) x2 n2 n2 n2 p2 rfl rfl (w.heap.size+1) (2+(16-n2)) (netC (sixN a [])) 86 HX5.out.2.2 ((bytesL b).map u8V) ?_ (fun hp=>⟨?_,row_src HR5.out hp⟩) ?_ (bytes_one _) ?_)
     ·rw[List.length_map,bytesL_len,←HN.out.2];exact(Nat.min_eq_left (Nat.le_refl _)).symm
     ·rw[HDP.out,if_neg]
      intro f
      rw[List.length_map,bytesL_len,←HN.out.2,f]at hp
      cases hp
     ·rw[List.length_map,bytesL_len,←HN.out.2,netC_len _ (sixN_len a [] (by have:=H8.out;simp;omega))];omega
     intro w6 hc6 hk6 hB6
     have HX6:=hid (show Bel w w6∧w6.heap[w.heap.size]?=some (.cells (netC ⟨false,0,List.replicate 16 0⟩).toArray 86 (0,0))∧w6.heap[w.heap.size+1]?=some (.cells (netC (sixN a b)).toArray 86 (0,0))from
      ⟨hB6 _ _ HX5.out.1 (by omega),(hk6 _ (by omega)).trans HX5.out.2.1,by rw[hc6.out,HN.out.2,splice_second a b H8.out]⟩)
     clear hc6 hk6 hB6 HX5 HR5
     have hZ:=hid (show(Tryz.prog.info? 86).map (·.size)=some (netC (sixN a b)).length by rw[netC_len _ (sixN_len a b H8.out)];exact net_info)
     have hR:=hid (show w6.rangeAt (w.heap.size+1) 0 (netC (sixN a b))from range_of HX6.out.2.2 fun j v hv=>by simpa using hv)
     have hT:=hid (show w6.there w.heap.size 0 (netC (sixN a b)).toArray.size from there_of HX6.out.2.1 (by rw[List.size_toArray,netC_len _ (sixN_len a b H8.out)];decide))
     go_wp2_with (first
      | (refine wpList_load_mid rfl 86 (.tmp 4) rfl (w.heap.size+1) 0 rfl (netC (sixN a b)) _ ?_ Tryz.underlying86 rfl hZ.out ?_;exact hR.out)
      | (refine wpList_store_mid rfl 86 (.tmp 2) (.tmp 67) rfl w.heap.size 0 (netC (sixN a b)).toArray rfl rfl ?_ (by rw[List.size_toArray];exact hZ.out) (netC_one _) ?_;exact hT.out))
     have hl2:=run_loadVar_mid (P:=Tryz.prog) (w6.setCells w.heap.size 0 (netC (sixN a b))) w.heap.size 0 86 (netC (sixN a b)) _
      (World.rangeAt_setCells_same _ _ _ _ (by simpa using hT.out)) Tryz.underlying86 rfl hZ.out
     refine bodyPost_ret (v:=.tuple #[netV (sixN a b),.bool true]) (by simp[results,Tryz.results122,asAddr,hl2,netV]) rfl ⟨⟨sixN a b,sixN_fits a b H8.out HA.out.1 HA.out.2,by rw[HQ.out];rfl,fun m hm=>(by rw[HQ.out]at hm;exact Option.some.inj hm)⟩,?_⟩
     exact Bel.setCells (Nat.le_refl _) _ _ _ HX6.out.1
    ·have d14:decide ((14:Int)<(n1:Int)+(n2:Int))=true:=decide_eq_true (by omega)
     have HQ:=hid (show oq=none from by
      have:=HN.out
      refine HO.out.symm.trans ?_
      show Option.map (fun gs=>(⟨true,128,bytesL gs⟩:Nt)) (if true=true then(if a.length+b.length≤7 then some (a++List.replicate (8-a.length-b.length) 0++b)else none)else(if a.length=8 then some a else none))=_
      rw[if_pos rfl,if_neg (by omega)]
      rfl)
     clear hla hlb hss h14
     have hZ:=hid (show(Tryz.prog.info? 86).map (·.size)=some (netC (sixN [] [])).length by rw[netC_len _ (sixN_len [] [] (by decide))];exact net_info)
     have hR:=hid (show w4.rangeAt (w.heap.size+1) 0 (netC (sixN [] []))from range_of HX4.out.2.2 fun j v hv=>by simpa using hv)
     have hT:=hid (show w4.there w.heap.size 0 (netC (sixN [] [])).toArray.size from there_of HX4.out.2.1 (by rw[List.size_toArray,netC_len _ (sixN_len [] [] (by decide))];decide))
     go_wp2_with (first
      | (refine wpList_load_mid rfl 86 (.tmp 4) rfl (w.heap.size+1) 0 rfl (netC (sixN [] [])) _ ?_ Tryz.underlying86 rfl hZ.out ?_;exact hR.out)
      | (refine wpList_store_mid rfl 86 (.tmp 2) (.tmp 55) rfl w.heap.size 0 (netC (sixN [] [])).toArray rfl rfl ?_ (by rw[List.size_toArray];exact hZ.out) (netC_one _) ?_;exact hT.out))
     have hl2:=run_loadVar_mid (P:=Tryz.prog) (w4.setCells w.heap.size 0 (netC (sixN [] []))) w.heap.size 0 86 (netC (sixN [] [])) _
      (World.rangeAt_setCells_same _ _ _ _ (by simpa using hT.out)) Tryz.underlying86 rfl hZ.out
     refine bodyPost_ret (v:=.tuple #[netV (sixN [] []),.bool false]) (by simp[results,Tryz.results122,asAddr,hl2,netV]) rfl ⟨⟨sixN [] [],sixN_fits [] [] (by decide) (by simp) (by simp),by rw[HQ.out];rfl,fun m hm=>(by rw[HQ.out]at hm;cases hm)⟩,?_⟩
     exact Bel.setCells (Nat.le_refl _) _ _ _ HX4.out.1
   |false=>
    by_cases h16:n1=16
    ·have d16:((n1:Int) !=16)=false:=by rw[h16];rfl
     have hb0:b=[]:=Option.some.inj (hss rfl)
     have h8:a.length+b.length≤8:=by have:=HN.out;rw[hb0];simp;omega
     have HQ:=hid (show oq=some (sixN a b)from by
      have:=HN.out
      refine HO.out.symm.trans ?_
      show Option.map (fun gs=>(⟨true,128,bytesL gs⟩:Nt)) (if false=true then(if a.length+b.length≤7 then some (a++List.replicate (8-a.length-b.length) 0++b)else none)else(if a.length=8 then some a else none))=_
      rw[if_neg (by decide),if_pos (by omega)]
      have e:=sixN_eq a b h8
      rw[hb0]at e⊢
      rw[←e]
      simp[(by omega:a.length=8)])
     have hn16:n1≤16∧n2≤16:=by have:=HN.out;rw[hb0]at this;simp at this;omega
     clear hla hlb hss h16 hb0
     obtain⟨dp,hdp⟩:∃dp:Addr,dp=(if n2=0 then⟨w.heap.size+1,2,none⟩else⟨w.heap.size+1,2+(16-n2),none⟩):=⟨_,rfl⟩
     have hs1:∀W:World,(Instr.sliceAt 84 (.pointer (some ⟨w.heap.size+1,2,none⟩)) none none none).run Tryz.prog W=.ok (.slice (some ⟨w.heap.size+1,2,none⟩) 16 16) W:=fun W=>slice_all W _
     have hs2:∀W:World,(Instr.sliceAt 84 (.pointer (some ⟨w.heap.size+1,2,none⟩)) (some (.int .i64 (16-(n2:Int)))) none none).run Tryz.prog W=.ok (.slice (some dp) n2 n2) W:=fun W=>by rw[hdp];exact slice_from W _ 2 n2 hn16.2
     have HDP:=hid hdp
     have H8:=hid h8
     have hn16a:n1≤16:=hn16.1
     have hn16b:n2≤16:=hn16.2
     clear hdp h8 hn16
     go_wp2_with (refine copy_keep rfl (.tmp 57) (.tmp 58) 48 48 rfl 5 Tryz.underlying48 uint8_size (some ⟨w.heap.size+1,2,none⟩) x1 16 16 n1 p1 rfl rfl (w.heap.size+1) 2 (netC (sixN [] [])) 86 HX4.out.2.2 ((bytesL a).map u8V) ?_ (fun hp=>⟨rfl,row_src HR.out.1 hp⟩) ?_ (bytes_one _) ?_)
     ·rw[List.length_map,bytesL_len,←HN.out.1];exact(Nat.min_eq_left hn16a).symm
     ·rw[List.length_map,bytesL_len,←HN.out.1,netC_len _ (sixN_len [] [] (by decide))];omega
     intro w5 hc5 hk5 hB5
     have HX5:=hid (show Bel w w5∧w5.heap[w.heap.size]?=some (.cells (netC ⟨false,0,List.replicate 16 0⟩).toArray 86 (0,0))∧w5.heap[w.heap.size+1]?=some (.cells (netC (sixN a [])).toArray 86 (0,0))from
      ⟨hB5 _ _ HX4.out.1 (by omega),(hk5 _ (by omega)).trans HX4.out.2.1,by rw[hc5.out,splice_first]⟩)
     have HR5:=hid (row_keep HR.out.2 hk5 (by omega))
     clear hc5 hk5 hB5 HX4 HR
     go_wp2_with (refine copy_keep rfl (.tmp 64) (.tmp 65) 48 48 rfl 5 Tryz.underlying48 uint8_size (some dp) x2 n2 n2 n2 p2 rfl rfl (w.heap.size+1) (2+(16-n2)) (netC (sixN a [])) 86 HX5.out.2.2 ((bytesL b).map u8V) ?_ (fun hp=>⟨?_,row_src HR5.out hp⟩) ?_ (bytes_one _) ?_)
     ·rw[List.length_map,bytesL_len,←HN.out.2];exact(Nat.min_eq_left (Nat.le_refl _)).symm
     ·rw[HDP.out,if_neg]
      intro f
      rw[List.length_map,bytesL_len,←HN.out.2,f]at hp
      cases hp
     ·rw[List.length_map,bytesL_len,←HN.out.2,netC_len _ (sixN_len a [] (by have:=H8.out;simp;omega))];omega
     intro w6 hc6 hk6 hB6
     have HX6:=hid (show Bel w w6∧w6.heap[w.heap.size]?=some (.cells (netC ⟨false,0,List.replicate 16 0⟩).toArray 86 (0,0))∧w6.heap[w.heap.size+1]?=some (.cells (netC (sixN a b)).toArray 86 (0,0))from
      ⟨hB6 _ _ HX5.out.1 (by omega),(hk6 _ (by omega)).trans HX5.out.2.1,by rw[hc6.out,HN.out.2,splice_second a b H8.out]⟩)
     clear hc6 hk6 hB6 HX5 HR5
     have hZ:=hid (show(Tryz.prog.info? 86).map (·.size)=some (netC (sixN a b)).length by rw[netC_len _ (sixN_len a b H8.out)];exact net_info)
     have hR:=hid (show w6.rangeAt (w.heap.size+1) 0 (netC (sixN a b))from range_of HX6.out.2.2 fun j v hv=>by simpa using hv)
     have hT:=hid (show w6.there w.heap.size 0 (netC (sixN a b)).toArray.size from there_of HX6.out.2.1 (by rw[List.size_toArray,netC_len _ (sixN_len a b H8.out)];decide))
     go_wp2_with (first
      | (refine wpList_load_mid rfl 86 (.tmp 4) rfl (w.heap.size+1) 0 rfl (netC (sixN a b)) _ ?_ Tryz.underlying86 rfl hZ.out ?_;exact hR.out)
      | (refine wpList_store_mid rfl 86 (.tmp 2) (.tmp 67) rfl w.heap.size 0 (netC (sixN a b)).toArray rfl rfl ?_ (by rw[List.size_toArray];exact hZ.out) (netC_one _) ?_;exact hT.out))
     have hl2:=run_loadVar_mid (P:=Tryz.prog) (w6.setCells w.heap.size 0 (netC (sixN a b))) w.heap.size 0 86 (netC (sixN a b)) _
      (World.rangeAt_setCells_same _ _ _ _ (by simpa using hT.out)) Tryz.underlying86 rfl hZ.out
     refine bodyPost_ret (v:=.tuple #[netV (sixN a b),.bool true]) (by simp[results,Tryz.results122,asAddr,hl2,netV]) rfl ⟨⟨sixN a b,sixN_fits a b H8.out HA.out.1 HA.out.2,by rw[HQ.out];rfl,fun m hm=>(by rw[HQ.out]at hm;exact Option.some.inj hm)⟩,?_⟩
     exact Bel.setCells (Nat.le_refl _) _ _ _ HX6.out.1
    ·have d16:((n1:Int) !=16)=true:=by rw[bne_iff_ne];omega
     have HQ:=hid (show oq=none from by
      have:=HN.out
      refine HO.out.symm.trans ?_
      show Option.map (fun gs=>(⟨true,128,bytesL gs⟩:Nt)) (if false=true then(if a.length+b.length≤7 then some (a++List.replicate (8-a.length-b.length) 0++b)else none)else(if a.length=8 then some a else none))=_
      rw[if_neg (by decide),if_neg (by omega)]
      rfl)
     clear hla hlb hss h16
     have hZ:=hid (show(Tryz.prog.info? 86).map (·.size)=some (netC (sixN [] [])).length by rw[netC_len _ (sixN_len [] [] (by decide))];exact net_info)
     have hR:=hid (show w4.rangeAt (w.heap.size+1) 0 (netC (sixN [] []))from range_of HX4.out.2.2 fun j v hv=>by simpa using hv)
     have hT:=hid (show w4.there w.heap.size 0 (netC (sixN [] [])).toArray.size from there_of HX4.out.2.1 (by rw[List.size_toArray,netC_len _ (sixN_len [] [] (by decide))];decide))
     go_wp2_with (first
      | (refine wpList_load_mid rfl 86 (.tmp 4) rfl (w.heap.size+1) 0 rfl (netC (sixN [] [])) _ ?_ Tryz.underlying86 rfl hZ.out ?_;exact hR.out)
      | (refine wpList_store_mid rfl 86 (.tmp 2) (.tmp 55) rfl w.heap.size 0 (netC (sixN [] [])).toArray rfl rfl ?_ (by rw[List.size_toArray];exact hZ.out) (netC_one _) ?_;exact hT.out))
     have hl2:=run_loadVar_mid (P:=Tryz.prog) (w4.setCells w.heap.size 0 (netC (sixN [] []))) w.heap.size 0 86 (netC (sixN [] [])) _
      (World.rangeAt_setCells_same _ _ _ _ (by simpa using hT.out)) Tryz.underlying86 rfl hZ.out
     refine bodyPost_ret (v:=.tuple #[netV (sixN [] []),.bool false]) (by simp[results,Tryz.results122,asAddr,hl2,netV]) rfl ⟨⟨sixN [] [],sixN_fits [] [] (by decide) (by simp) (by simp),by rw[HQ.out];rfl,fun m hm=>(by rw[HQ.out]at hm;cases hm)⟩,?_⟩
     exact Bel.setCells (Nat.le_refl _) _ _ _ HX4.out.1
end Go.Proofs.YtmlmkmhkmifnkaaGreatDoor.Ci