import Derived.Test.YtmlmkmhkmifnkaaGreatDoorK08
import Derived.WalkMore
import Derived.ScopeJumps
set_option maxHeartbeats 16000000
set_option maxRecDepth 1000000
namespace Go.Proofs.YtmlmkmhkmifnkaaGreatDoor.Ma
open Go.RowKit
open Ci (Bel own_bel row_shape addr_add wpList_push)
theorem wp_scope_pass {P:Program} {a:Act} {w:World} {Q:Exit→Act→World→Prop} {c rest:Code} (l:Nat) (J:Act→World→Prop) (μ:Act→World→Nat) (hf:findLabel c l=some (Code.skip.seq rest))
 (first:∀Q':Exit→Act→World→Prop,(∀a w,J a w→rest.wp P Q' a w)→c.wp P Q' a w)
 (pass:∀a w,J a w→rest.wp P (Exit.jump l (fun a' w'=>J a' w'∧μ a' w'<μ a w) Q) a w):(Code.scope c).wp P Q a w:=by
 refine wp_scope_jumps l J μ hf (first _ fun a w hJ=>Code.wp_mono ?_ (pass a w hJ)) fun a w hJ=>wp_seq (wp_skip (pass a w hJ))
 intro e a' w' h
 cases e with
 |goto l'=>exact⟨h.1,h.2.1⟩
 |_=>exact h
def cutOf:Value→Nat
 |.int _ q=>q.toNat
 |_=>0
def CuM(s:ByteArray)(w:World)(k0:Nat)(w':World)(v4 v5:Value):Prop:=
 ∃(T:List Tk) (x:Option Addr) (p k:Nat),v4=.slice x T.length p∧v5=.int .i64 k∧k0≤k∧k≤s.size∧T.length≤k∧Hid (Bel w w'∧Toks w w' (.slice x T.length p) T∧CuI s.data.toList k T)
theorem idx_pos{c:UInt8}{l:List UInt8}{b:Bool}(h:l.contains c=b):decide ((0:Int)≤Lib.indexByte l c)=b:=by rw[index_has,h]
theorem toks_snoc{a0 W:World}{x:Option Addr}{p:Nat}{T:List Tk}{c:Array Value}{t:Tk}(h:W.ownsRow a0.heap.size 218 4 (.slice x (T.length+1:Nat) p) (T.length+1) (tkCs T++c.toList))(hc:c.toList=tkC t):Toks a0 W (.slice x (T++[t]).length p) (T++[t]):=by
 unfold Toks
 rw[List.length_append,tkCs_snoc,←hc]
 exact h
theorem tk_text(s:ByteArray)(k m:Nat)(kd:UInt8)(c:Nat):(#[.int .u8 kd.toNat,.string (s.extract k (k+m)),.int .i64 (k:Nat),.int .i64 (c:Nat)]:Array Value).toList=tkC ⟨kd,(s.data.toList.drop k).take m,k,c⟩:=by
 have e:s.extract k (k+m)=⟨((s.data.toList.drop k).take m).toArray⟩:=by
  refine Ci.ext_bytes ?_
  rw[Lib.extract_data,Nat.add_sub_cancel_left]
 rw[e];rfl
theorem cut_none{s:ByteArray}{w W':World}(hb:Bel w W')(h:cutQ s.data.toList=none):CutPost s w (.returned (.tuple #[.slice none 0 0,.bool false])) W':=by
 refine⟨.slice none 0 0,by rw[h];rfl,hb,?_⟩
 rw[h]
theorem cut_some{s:ByteArray}{w W':World}{v:Value}{T:List Tk}(hb:Bel w W')(h:cutQ s.data.toList=some T)(ht:Toks w W' v T):CutPost s w (.returned (.tuple #[v,.bool true])) W':=by
 refine⟨v,by rw[h];rfl,hb,?_⟩
 rw[h]
 exact ht
def CuJ(s:ByteArray)(w:World)(a:Act)(w':World):Prop:=
 a.defers=[]∧a.tmps.size=111∧a.tmps.getD 0 undef=.string s∧a.tmps.getD 2 undef=.slice none 0 0∧a.tmps.getD 3 undef=.bool false∧CuM s w 0 w' (a.tmps.getD 4 undef) (a.tmps.getD 5 undef)
theorem arr_lit(A:Array Value)(n:Nat)(h:A.size=n):A=((List.range n).map fun i=>A.getD i undef).toArray:=by
 refine Array.ext (by simp[h]) fun i h1 h2=> ?_
 simp[Array.getD,h1]
theorem cut_run(s:ByteArray)(w:World)(hs:s.size≤65536):
 Calls Tryz.prog 101 #[.string s] w (CutPost s w):=by
 have hl:s.data.toList.length=s.size:=by rw[Lib.size_eq]
 have HL:=hid hl
 have H0:=hid (show CuM s w 0 w (.slice none 0 0) (.int .i64 0)from⟨[],none,0,0,rfl,rfl,Nat.le_refl _,Nat.zero_le _,Nat.le_refl _,hid ⟨Bel.refl w,World.ownsRow_nil _ _ _ _,CuI.zero _⟩⟩)
 have HB:=(show Hid (∀(c:UInt8) (W:World),Calls Tryz.prog 168 #[.string ⟨#[32,9,13,10]⟩,.int .u8 c.toNat] W fun e w'=>e=.returned (.int .i64 (Lib.indexByte [32,9,13,10] c))∧w'=W)from fun c W=>by have:=Tryz.strings_IndexByte ⟨#[32,9,13,10]⟩ c.toNat W;rw[u8_back]at this;exact this)
 have HS:=(show Hid (∀(c:UInt8) (W:World),Calls Tryz.prog 168 #[.string ⟨#[60,62,64,44,59,58,46]⟩,.int .u8 c.toNat] W fun e w'=>e=.returned (.int .i64 (Lib.indexByte [60,62,64,44,59,58,46] c))∧w'=W)from fun c W=>by have:=Tryz.strings_IndexByte ⟨#[60,62,64,44,59,58,46]⟩ c.toNat W;rw[u8_back]at this;exact this)
 have STRS:=hid (show(Tryz.prog.info? 9).map (·.size)=some 1 by kernel_rfl)
 have INTS:=hid (show(Tryz.prog.info? 3).map (·.size)=some 1 by kernel_rfl)
 have TOKS:=hid (show(Tryz.prog.info? 218).map (·.size)=some 4 by kernel_rfl)
 clear hl
 go_enter Tryz.func101,Tryz.ntmps101
 go_wp2_with fail
 refine wp_scope_pass 0 (CuJ s w) (fun a' _=>s.size+1-cutOf (a'.tmps.getD 5 undef)) rfl ?_ ?_
 ·intro Q' hR
  go_wp2_with fail
  go_step3
  rename_i K hK
  refine hK _ _ (hR _ _ ?_)
  exact⟨rfl,rfl,rfl,rfl,rfl,H0.out⟩
 ·clear H0
  rintro a0 w0 ⟨h1,h2,h3,h4,h5,H1⟩
  obtain⟨A,ds⟩:=a0
  dsimp only at h1 h2 h3 h4 h5 H1
  subst h1
  obtain⟨u,hu⟩:∃u:Nat→Value,u=fun i=>A.getD i undef:=⟨_,rfl⟩
  have hA:A=#[u 0,u 1,u 2,u 3,u 4,u 5,u 6,u 7,u 8,u 9,u 10,u 11,u 12,u 13,u 14,u 15,u 16,u 17,u 18,u 19,u 20,u 21,u 22,u 23,u 24,u 25,u 26,u 27,u 28,u 29,u 30,u 31,u 32,u 33,u 34,u 35,u 36,u 37,u 38,u 39,u 40,u 41,u 42,u 43,u 44,u 45,u 46,u 47,u 48,u 49,u 50,u 51,u 52,u 53,u 54,u 55,u 56,u 57,u 58,u 59,u 60,u 61,u 62,u 63,u 64,u 65,u 66,u 67,u 68,u 69,u 70,u 71,u 72,u 73,u 74,u 75,u 76,u 77,u 78,u 79,u 80,u 81,u 82,u 83,u 84,u 85,u 86,u 87,u 88,u 89,u 90,u 91,u 92,u 93,u 94,u 95,u 96,u 97,u 98,u 99,u 100,u 101,u 102,u 103,u 104,u 105,u 106,u 107,u 108,u 109,u 110]:=by
   rw[hu]
   exact(arr_lit A 111 h2).trans rfl
  rw[show A.getD 4 undef=u 4 by rw[hu],show A.getD 5 undef=u 5 by rw[hu]]at H1
  rw[show A.getD 0 undef=u 0 by rw[hu]]at h3
  rw[show A.getD 2 undef=u 2 by rw[hu]]at h4
  rw[show A.getD 3 undef=u 3 by rw[hu]]at h5
  rw[h3,h4,h5]at hA
  clear hu h2
  subst hA
  clear h3 h4 h5
  generalize u 4=v4 at H1⊢
  generalize u 5=v5 at H1⊢
  generalize u 1=u1
  generalize u 6=u6
  generalize u 7=u7
  generalize u 8=u8
  generalize u 9=u9
  generalize u 10=u10
  generalize u 11=u11
  generalize u 12=u12
  generalize u 13=u13
  generalize u 14=u14
  generalize u 15=u15
  generalize u 16=u16
  generalize u 17=u17
  generalize u 18=u18
  generalize u 19=u19
  generalize u 20=u20
  generalize u 21=u21
  generalize u 22=u22
  generalize u 23=u23
  generalize u 24=u24
  generalize u 25=u25
  generalize u 26=u26
  generalize u 27=u27
  generalize u 28=u28
  generalize u 29=u29
  generalize u 30=u30
  generalize u 31=u31
  generalize u 32=u32
  generalize u 33=u33
  generalize u 34=u34
  generalize u 35=u35
  generalize u 36=u36
  generalize u 37=u37
  generalize u 38=u38
  generalize u 39=u39
  generalize u 40=u40
  generalize u 41=u41
  generalize u 42=u42
  generalize u 43=u43
  generalize u 44=u44
  generalize u 45=u45
  generalize u 46=u46
  generalize u 47=u47
  generalize u 48=u48
  generalize u 49=u49
  generalize u 50=u50
  generalize u 51=u51
  generalize u 52=u52
  generalize u 53=u53
  generalize u 54=u54
  generalize u 55=u55
  generalize u 56=u56
  generalize u 57=u57
  generalize u 58=u58
  generalize u 59=u59
  generalize u 60=u60
  generalize u 61=u61
  generalize u 62=u62
  generalize u 63=u63
  generalize u 64=u64
  generalize u 65=u65
  generalize u 66=u66
  generalize u 67=u67
  generalize u 68=u68
  generalize u 69=u69
  generalize u 70=u70
  generalize u 71=u71
  generalize u 72=u72
  generalize u 73=u73
  generalize u 74=u74
  generalize u 75=u75
  generalize u 76=u76
  generalize u 77=u77
  generalize u 78=u78
  generalize u 79=u79
  generalize u 80=u80
  generalize u 81=u81
  generalize u 82=u82
  generalize u 83=u83
  generalize u 84=u84
  generalize u 85=u85
  generalize u 86=u86
  generalize u 87=u87
  generalize u 88=u88
  generalize u 89=u89
  generalize u 90=u90
  generalize u 91=u91
  generalize u 92=u92
  generalize u 93=u93
  generalize u 94=u94
  generalize u 95=u95
  generalize u 96=u96
  generalize u 97=u97
  generalize u 98=u98
  generalize u 99=u99
  generalize u 100=u100
  generalize u 101=u101
  generalize u 102=u102
  generalize u 103=u103
  generalize u 104=u104
  generalize u 105=u105
  generalize u 106=u106
  generalize u 107=u107
  generalize u 108=u108
  generalize u 109=u109
  generalize u 110=u110
  obtain⟨T0,x0,p0,k0,rfl,rfl,-,hk0,hn0,H1⟩:=H1
  have Hk0:=hid hk0
  go_wp2_with fail
  go_loopg [2,3,4,5] (s.size+1-k0) (fun gg v2 v3 v4 v5 wr=>∃k:Nat,v2=.slice none 0 0∧v3=.bool false∧v5=.int .i64 k∧k+gg=s.size+1∧Hid (CuM s w k0 wr v4 v5))
  case atStart=>exact⟨k0,rfl,rfl,rfl,by omega,hid ⟨T0,x0,p0,k0,rfl,rfl,Nat.le_refl _,hk0,hn0,H1⟩⟩
  case round=>
   clear H1 hn0
   obtain⟨k',rfl,rfl,rfl,hgk,H⟩:=hrel
   obtain⟨T,x,p,k,rfl,he,hk1,hk2,hn,H⟩:=H.out
   obtain rfl:k'=k:=by have:=(Value.int.inj he).2;omega
   clear he
   by_cases hlt:k'<s.size
   ·have hlt':k'<s.data.toList.length:=by rw[HL.out];exact hlt
    have HC:=hid (show s.data.toList[k']'hlt'=s[k']from rfl)
    skip
    by_cases h1:blB s[k']=true
    ·skip
     have hx:=idx_pos (c:=s[k']) (l:=[32,9,13,10]) h1
     have HN:=hid (H.out.2.2.skip (one_bl hlt' (by rw[HC.out];exact h1)))
     clear h1
     go_wp2_with (first|(go_at_call 168;first|(with_reducible refine(HB.out _ _).mono ?_;rintro e w1 ⟨rfl,rfl⟩)|(with_reducible refine(HS.out _ _).mono ?_;rintro e w1 ⟨rfl,rfl⟩)))
     go_step3
     simp+zetaDelta only[Exit.inBlock,Exit.then,Exit.jump]
     refine⟨trivial,⟨rfl,rfl,rfl,rfl,rfl,T,x,p,k'+1,rfl,by go_num,Nat.zero_le _,by omega,by omega,hid ⟨H.out.1.alloc _,H.out.2.1.next ((Bel.refl _).alloc _),HN.out⟩⟩,?_⟩
     show s.size+1-((k':Int)+1).toNat<s.size+1-((k0:Nat):Int).toNat
     omega
    ·skip
     by_cases h2:s[k']=40
     ·skip
      rcases hr:cmtL (s.data.toList.drop k') 0 with _|n
      ·skip
       have b1:=idx_pos (c:=s[k']) (l:=[32,9,13,10]) (good_of h1)
       have b2:(((s[k']'hlt).toNat:Int)==40)=true:=byte_eq (n:=40) (by decide) h2
       have HF:=(show Hid (∀W',Bel w W'→CutPost s w (.returned (.tuple #[.slice none 0 0,.bool false])) W')from fun W' hb=>cut_none hb (H.out.2.2.bad hlt' (by rw[one_cm hlt' (HC.out.trans h2),hr];rfl)))
       have HCM:=(show Hid (∀W,Calls Tryz.prog 169 #[.string (s.extract k' s.size)] W fun e w'=>e=.returned (.int .i64 0)∧Bel W w')from fun W=>by
        have:=comment_run (s.extract k' s.size) W (by rw[ByteArray.size_extract];omega) (by rw[Lib.extract_to_end];intro h;have e:=drop_at hlt';simp only[e];exact HC.out.trans h2)
        rw[Lib.extract_to_end,hr]at this
        exact this)
       clear h1 h2 hr
       go_wp2_with (first|(go_at_call 168;first|(with_reducible refine(HB.out _ _).mono ?_;rintro e w1 ⟨rfl,rfl⟩)|(with_reducible refine(HS.out _ _).mono ?_;rintro e w1 ⟨rfl,rfl⟩))|(go_at_call 169;refine(HCM.out _).mono ?_;rintro e w2 ⟨rfl,hb2⟩))
       simp+zetaDelta only[Exit.jump]
       go_ret2
       exact HF.out _ ((H.out.1.alloc _).trans hb2)
      ·skip
       have b1:=idx_pos (c:=s[k']) (l:=[32,9,13,10]) (good_of h1)
       have b2:(((s[k']'hlt).toNat:Int)==40)=true:=byte_eq (n:=40) (by decide) h2
       have HN:=hid (H.out.2.2.skip (n:=n) (by rw[one_cm hlt' (HC.out.trans h2),hr];rfl))
       have hn1:0<n:=(one_pos (by rw[one_cm hlt' (HC.out.trans h2),hr];rfl:one (s.data.toList.drop k')=some (n,none))).1
       have hn2:n≤(s.data.toList.drop k').length:=(one_pos (by rw[one_cm hlt' (HC.out.trans h2),hr];rfl:one (s.data.toList.drop k')=some (n,none))).2
       rw[List.length_drop,HL.out]at hn2
       have b3:decide ((0:Int)<(n:Int))=true:=decide_eq_true (by omega)
       have HCM:=(show Hid (∀W,Calls Tryz.prog 169 #[.string (s.extract k' s.size)] W fun e w'=>e=.returned (.int .i64 (n:Nat))∧Bel W w')from fun W=>by
        have:=comment_run (s.extract k' s.size) W (by rw[ByteArray.size_extract];omega) (by rw[Lib.extract_to_end];intro h;have e:=drop_at hlt';simp only[e];exact HC.out.trans h2)
        rw[Lib.extract_to_end,hr]at this
        exact this)
       clear h1 h2 hr
       go_wp2_with (first|(go_at_call 168;first|(with_reducible refine(HB.out _ _).mono ?_;rintro e w1 ⟨rfl,rfl⟩)|(with_reducible refine(HS.out _ _).mono ?_;rintro e w1 ⟨rfl,rfl⟩))|(go_at_call 169;refine(HCM.out _).mono ?_;rintro e w2 ⟨rfl,hb2⟩))
       go_step3
       simp+zetaDelta only[Exit.inBlock,Exit.then,Exit.jump]
       refine⟨trivial,⟨rfl,rfl,rfl,rfl,rfl,T,x,p,k'+n,rfl,by go_num,Nat.zero_le _,by omega,by omega,hid ⟨(H.out.1.alloc _).trans hb2,H.out.2.1.next (((Bel.refl _).alloc _).trans hb2),HN.out⟩⟩,?_⟩
       show s.size+1-((k':Int)+n).toNat<s.size+1-((k0:Nat):Int).toNat
       omega
     ·skip
      by_cases h3:s[k']=34
      ·skip
       rcases hr:quoL ((s.data.toList.drop k').drop 1)with _|⟨y,n⟩
       ·skip
        have b1:=idx_pos (c:=s[k']) (l:=[32,9,13,10]) (good_of h1)
        have b2:(((s[k']'hlt).toNat:Int)==40)=false:=byte_ne (n:=40) (by decide) h2
        have b3:(((s[k']'hlt).toNat:Int)==34)=true:=byte_eq (n:=34) (by decide) h3
        have HF:=(show Hid (∀W',Bel w W'→CutPost s w (.returned (.tuple #[.slice none 0 0,.bool false])) W')from fun W' hb=>cut_none hb (H.out.2.2.bad hlt' (by rw[one_qu hlt' (HC.out.trans h3),hr];rfl)))
        have HQU:=(show Hid (∀W,Calls Tryz.prog 170 #[.string (s.extract k' s.size)] W fun e w'=>e=.returned (.tuple #[.string ⟨#[]⟩,.int .i64 0])∧Bel W w')from fun W=>by
         have:=quote_run (s.extract k' s.size) W (by rw[ByteArray.size_extract];omega)
         rw[Lib.extract_to_end]at this
         unfold quoR at this
         rw[hr]at this
         exact this)
        clear h1 h2 h3 hr
        go_wp2_with (first|(go_at_call 168;first|(with_reducible refine(HB.out _ _).mono ?_;rintro e w1 ⟨rfl,rfl⟩)|(with_reducible refine(HS.out _ _).mono ?_;rintro e w1 ⟨rfl,rfl⟩))|(go_at_call 170;refine(HQU.out _).mono ?_;rintro e w2 ⟨rfl,hb2⟩;have hq2:=hb2.heap (heap_alloc_new wr (.cells #[.int .u8 113,.string ⟨#[]⟩,.int .i64 (k':Nat),.int .i64 0] 218));have hr2:Bel wr w2:=((Bel.refl wr).alloc _).trans hb2)|(refine wpList_store_one rfl 9 (.tmp 74) (.tmp 72) rfl wr.heap.size 1 (.string ⟨#[]⟩) rfl rfl rfl STRS.out [.int .u8 113,.string ⟨#[]⟩,.int .i64 (k':Nat),.int .i64 0] _ hq2 (by simp) ?_;intro w3 hq3 ho3 hb3 he3;have hr3:=hb3 wr hr2 (Nat.le_refl _);have hq3:w3.heap[wr.heap.size]?=some (.cells #[.int .u8 113,.string ⟨#[]⟩,.int .i64 (k':Nat),.int .i64 0] 218 (0,0)):=hq3;clear hb3 ho3 he3 hq2 hr2))
        simp+zetaDelta only[Exit.jump]
        go_ret2
        exact HF.out _ (H.out.1.trans hr3)
       ·skip
        have b1:=idx_pos (c:=s[k']) (l:=[32,9,13,10]) (good_of h1)
        have b2:(((s[k']'hlt).toNat:Int)==40)=false:=byte_ne (n:=40) (by decide) h2
        have b3:(((s[k']'hlt).toNat:Int)==34)=true:=byte_eq (n:=34) (by decide) h3
        have HN:=hid (H.out.2.2.tok (n:=n+1) (kd:=113) (x:=y) (by rw[one_qu hlt' (HC.out.trans h3),hr];rfl))
        have hn2:n+1≤(s.data.toList.drop k').length:=(one_pos (by rw[one_qu hlt' (HC.out.trans h3),hr];rfl:one (s.data.toList.drop k')=some (n+1,some (113,y)))).2
        rw[List.length_drop,HL.out]at hn2
        have HQU:=(show Hid (∀W,Calls Tryz.prog 170 #[.string (s.extract k' s.size)] W fun e w'=>e=.returned (.tuple #[.string ⟨y.toArray⟩,.int .i64 ((n+1:Nat):Int)])∧Bel W w')from fun W=>by
         have:=quote_run (s.extract k' s.size) W (by rw[ByteArray.size_extract];omega)
         rw[Lib.extract_to_end]at this
         unfold quoR at this
         rw[hr]at this
         exact this)
        obtain⟨m,hm⟩:∃m,m=n+1:=⟨_,rfl⟩
        rw[←hm]at HN HQU hn2
        have hm1:0<m:=by omega
        clear h1 h2 h3 hr hm
        have bm:((m:Int)==0)=false:=by rw[beq_eq_false_iff_ne];omega
        go_wp2_with (first|(go_at_call 168;first|(with_reducible refine(HB.out _ _).mono ?_;rintro e w1 ⟨rfl,rfl⟩)|(with_reducible refine(HS.out _ _).mono ?_;rintro e w1 ⟨rfl,rfl⟩))|(go_at_call 170;refine(HQU.out _).mono ?_;rintro e w2 ⟨rfl,hb2⟩;have hq2:=hb2.heap (heap_alloc_new wr (.cells #[.int .u8 113,.string ⟨#[]⟩,.int .i64 (k':Nat),.int .i64 0] 218));have hr2:Bel wr w2:=((Bel.refl wr).alloc _).trans hb2)|(refine wpList_store_one rfl 9 (.tmp 74) (.tmp 72) rfl wr.heap.size 1 (.string ⟨y.toArray⟩) rfl rfl rfl STRS.out [.int .u8 113,.string ⟨#[]⟩,.int .i64 (k':Nat),.int .i64 0] _ hq2 (by simp) ?_;intro w3 hq3 ho3 hb3 he3;have hr3:=hb3 wr hr2 (Nat.le_refl _);have hq3:w3.heap[wr.heap.size]?=some (.cells #[.int .u8 113,.string ⟨y.toArray⟩,.int .i64 (k':Nat),.int .i64 0] 218 (0,0)):=hq3;clear hb3 ho3 he3 hq2 hr2)|(refine wpList_store_one rfl 3 (.tmp 100) (.tmp 99) rfl wr.heap.size 3 (.int .i64 ((k':Int)+m)) rfl rfl rfl INTS.out [.int .u8 113,.string ⟨y.toArray⟩,.int .i64 (k':Nat),.int .i64 0] _ hq3 (by simp) ?_;intro w4 hq4 ho4 hb4 he4;have hr4:=hb4 wr hr3 (Nat.le_refl _);have hq4:w4.heap[wr.heap.size]?=some (.cells #[.int .u8 113,.string ⟨y.toArray⟩,.int .i64 (k':Nat),.int .i64 ((k':Int)+m)] 218 (0,0)):=hq4;clear hb4 ho4 he4 hq3 hr3)|(refine wpList_load_mid rfl 218 (.tmp 6) rfl wr.heap.size 0 rfl [.int .u8 113,.string ⟨y.toArray⟩,.int .i64 (k':Nat),.int .i64 ((k':Int)+m)] _ ?_ Tryz.underlying218 rfl TOKS.out ?_;exact Ci.range_of hq4 fun j v hv=>by simpa using hv)|(at_builtin;refine wpList_push (a0:=w) (W:=w4) rfl (.tmp 101) (.tmp 103) 158 rfl 218 (.agg #[.int .u8 0,.string ⟨#[]⟩,.int .i64 0,.int .i64 0]) 4 40 Tryz.underlying158 tok_infos rfl (by decide) (.slice x T.length p) T.length (tkCs T) rfl (H.out.2.1.next hr4) (H.out.1.trans hr4) _ rfl rfl (by intro u hu;simp at hu;rcases hu with rfl|rfl|rfl|rfl<;>rfl) (by unfold maxLen;omega) (by omega) ?_;intro x' p' w' hown hb))
        have HN2:=hid (show Bel w w'∧Toks w w' (.slice x' (T++[(⟨113,y,k',k'+m⟩:Tk)]).length p') (T++[(⟨113,y,k',k'+m⟩:Tk)])∧CuI s.data.toList (k'+m) (T++[(⟨113,y,k',k'+m⟩:Tk)])from⟨hb,toks_snoc hown rfl,HN.out⟩)
        clear hown hb
        go_wp2_with fail
        go_roundg (gk-m)
        case measure=>omega
        case rel=>exact⟨k'+m,rfl,rfl,by go_num,by omega,hid ⟨T++[(⟨113,y,k',k'+m⟩:Tk)],x',p',k'+m,by rw[List.length_append];rfl,rfl,by omega,by omega,by rw[List.length_append];show T.length+1≤_;omega,HN2⟩⟩
      ·skip
       by_cases h4:s[k']=91
       ·skip
        rcases hr:brkL ((s.data.toList.drop k').drop 1)with _|n
        ·skip
         have b1:=idx_pos (c:=s[k']) (l:=[32,9,13,10]) (good_of h1)
         have b2:(((s[k']'hlt).toNat:Int)==40)=false:=byte_ne (n:=40) (by decide) h2
         have b3:(((s[k']'hlt).toNat:Int)==34)=false:=byte_ne (n:=34) (by decide) h3
         have b4:(((s[k']'hlt).toNat:Int)==91)=true:=byte_eq (n:=91) (by decide) h4
         have HF:=(show Hid (∀W',Bel w W'→CutPost s w (.returned (.tuple #[.slice none 0 0,.bool false])) W')from fun W' hb=>cut_none hb (H.out.2.2.bad hlt' (by rw[one_br hlt' (HC.out.trans h4),hr];rfl)))
         have HBR:=(show Hid (∀W,Calls Tryz.prog 171 #[.string (s.extract k' s.size)] W fun e w'=>e=.returned (.int .i64 0)∧Bel W w')from fun W=>by
          have:=bracket_run (s.extract k' s.size) W (by rw[ByteArray.size_extract];omega)
          rw[Lib.extract_to_end]at this
          unfold brkN at this
          rw[hr]at this
          exact this)
         clear h1 h2 h3 h4 hr
         go_wp2_with (first|(go_at_call 168;first|(with_reducible refine(HB.out _ _).mono ?_;rintro e w1 ⟨rfl,rfl⟩)|(with_reducible refine(HS.out _ _).mono ?_;rintro e w1 ⟨rfl,rfl⟩))|(go_at_call 171;refine(HBR.out _).mono ?_;rintro e w2 ⟨rfl,hb2⟩;have hq2:=hb2.heap (heap_alloc_new wr (.cells #[.int .u8 108,.string ⟨#[]⟩,.int .i64 (k':Nat),.int .i64 0] 218));have hr2:Bel wr w2:=((Bel.refl wr).alloc _).trans hb2)|(refine wpList_store_one rfl 9 (.tmp 89) (.tmp 88) rfl wr.heap.size 1 _ rfl rfl rfl STRS.out [.int .u8 108,.string ⟨#[]⟩,.int .i64 (k':Nat),.int .i64 0] _ hq2 (by simp) ?_;intro w3 hq3 ho3 hb3 he3;have hr3:=hb3 wr hr2 (Nat.le_refl _);clear hb3 ho3 he3 hq2 hr2 hq3))
         simp+zetaDelta only[Exit.jump]
         go_ret2
         exact HF.out _ (H.out.1.trans hr3)
        ·skip
         have b1:=idx_pos (c:=s[k']) (l:=[32,9,13,10]) (good_of h1)
         have b2:(((s[k']'hlt).toNat:Int)==40)=false:=byte_ne (n:=40) (by decide) h2
         have b3:(((s[k']'hlt).toNat:Int)==34)=false:=byte_ne (n:=34) (by decide) h3
         have b4:(((s[k']'hlt).toNat:Int)==91)=true:=byte_eq (n:=91) (by decide) h4
         have HN:=hid (H.out.2.2.tok (n:=n+1) (kd:=108) (x:=(s.data.toList.drop k').take (n+1)) (by rw[one_br hlt' (HC.out.trans h4),hr];rfl))
         have hn2:n+1≤(s.data.toList.drop k').length:=(one_pos (by rw[one_br hlt' (HC.out.trans h4),hr];rfl:one (s.data.toList.drop k')=some (n+1,some (108,(s.data.toList.drop k').take (n+1))))).2
         rw[List.length_drop,HL.out]at hn2
         have HBR:=(show Hid (∀W,Calls Tryz.prog 171 #[.string (s.extract k' s.size)] W fun e w'=>e=.returned (.int .i64 ((n+1:Nat):Int))∧Bel W w')from fun W=>by
          have:=bracket_run (s.extract k' s.size) W (by rw[ByteArray.size_extract];omega)
          rw[Lib.extract_to_end]at this
          unfold brkN at this
          rw[hr]at this
          exact this)
         obtain⟨m,hm⟩:∃m,m=n+1:=⟨_,rfl⟩
         rw[←hm]at HN HBR hn2
         have hm1:0<m:=by omega
         clear h1 h2 h3 h4 hr hm
         have bm:((m:Int)==0)=false:=by rw[beq_eq_false_iff_ne];omega
         go_wp2_with (first|(go_at_call 168;first|(with_reducible refine(HB.out _ _).mono ?_;rintro e w1 ⟨rfl,rfl⟩)|(with_reducible refine(HS.out _ _).mono ?_;rintro e w1 ⟨rfl,rfl⟩))|(go_at_call 171;refine(HBR.out _).mono ?_;rintro e w2 ⟨rfl,hb2⟩;have hq2:=hb2.heap (heap_alloc_new wr (.cells #[.int .u8 108,.string ⟨#[]⟩,.int .i64 (k':Nat),.int .i64 0] 218));have hr2:Bel wr w2:=((Bel.refl wr).alloc _).trans hb2)|(refine wpList_store_one rfl 9 (.tmp 89) (.tmp 88) rfl wr.heap.size 1 (.string (s.extract k' (k'+m))) rfl rfl rfl STRS.out [.int .u8 108,.string ⟨#[]⟩,.int .i64 (k':Nat),.int .i64 0] _ hq2 (by simp) ?_;intro w3 hq3 ho3 hb3 he3;have hr3:=hb3 wr hr2 (Nat.le_refl _);have hq3:w3.heap[wr.heap.size]?=some (.cells #[.int .u8 108,.string (s.extract k' (k'+m)),.int .i64 (k':Nat),.int .i64 0] 218 (0,0)):=hq3;clear hb3 ho3 he3 hq2 hr2)|(refine wpList_store_one rfl 3 (.tmp 100) (.tmp 99) rfl wr.heap.size 3 (.int .i64 ((k':Int)+m)) rfl rfl rfl INTS.out [.int .u8 108,.string (s.extract k' (k'+m)),.int .i64 (k':Nat),.int .i64 0] _ hq3 (by simp) ?_;intro w4 hq4 ho4 hb4 he4;have hr4:=hb4 wr hr3 (Nat.le_refl _);have hq4:w4.heap[wr.heap.size]?=some (.cells #[.int .u8 108,.string (s.extract k' (k'+m)),.int .i64 (k':Nat),.int .i64 ((k':Int)+m)] 218 (0,0)):=hq4;clear hb4 ho4 he4 hq3 hr3)|(refine wpList_load_mid rfl 218 (.tmp 6) rfl wr.heap.size 0 rfl [.int .u8 108,.string (s.extract k' (k'+m)),.int .i64 (k':Nat),.int .i64 ((k':Int)+m)] _ ?_ Tryz.underlying218 rfl TOKS.out ?_;exact Ci.range_of hq4 fun j v hv=>by simpa using hv)|(at_builtin;refine wpList_push (a0:=w) (W:=w4) rfl (.tmp 101) (.tmp 103) 158 rfl 218 (.agg #[.int .u8 0,.string ⟨#[]⟩,.int .i64 0,.int .i64 0]) 4 40 Tryz.underlying158 tok_infos rfl (by decide) (.slice x T.length p) T.length (tkCs T) rfl (H.out.2.1.next hr4) (H.out.1.trans hr4) _ rfl rfl (by intro u hu;simp at hu;rcases hu with rfl|rfl|rfl|rfl<;>rfl) (by unfold maxLen;omega) (by omega) ?_;intro x' p' w' hown hb))
         have HN2:=hid (show Bel w w'∧Toks w w' (.slice x' (T++[(⟨108,(s.data.toList.drop k').take m,k',k'+m⟩:Tk)]).length p') (T++[(⟨108,(s.data.toList.drop k').take m,k',k'+m⟩:Tk)])∧CuI s.data.toList (k'+m) (T++[(⟨108,(s.data.toList.drop k').take m,k',k'+m⟩:Tk)])from⟨hb,toks_snoc hown (tk_text s k' m 108 (k'+m)),HN.out⟩)
         clear hown hb
         go_wp2_with fail
         go_roundg (gk-m)
         case measure=>omega
         case rel=>exact⟨k'+m,rfl,rfl,by go_num,by omega,hid ⟨T++[(⟨108,(s.data.toList.drop k').take m,k',k'+m⟩:Tk)],x',p',k'+m,by rw[List.length_append];rfl,rfl,by omega,by omega,by rw[List.length_append];show T.length+1≤_;omega,HN2⟩⟩
       ·skip
        by_cases h5:sgB s[k']=true
        ·skip
         have b1:=idx_pos (c:=s[k']) (l:=[32,9,13,10]) (good_of h1)
         have b2:(((s[k']'hlt).toNat:Int)==40)=false:=byte_ne (n:=40) (by decide) h2
         have b3:(((s[k']'hlt).toNat:Int)==34)=false:=byte_ne (n:=34) (by decide) h3
         have b4:(((s[k']'hlt).toNat:Int)==91)=false:=byte_ne (n:=91) (by decide) h4
         have b5:=idx_pos (c:=s[k']) (l:=[60,62,64,44,59,58,46]) h5
         have HN:=hid (H.out.2.2.tok (one_sg hlt' (by rw[HC.out];exact h5)))
         rw[HC.out]at HN
         have HO:=(show Hid (∀o,(wr.alloc o).ownsRow w.heap.size 218 4 (.slice x T.length p) T.length (tkCs T))from fun o=>H.out.2.1.next ((Bel.refl wr).alloc o))
         have HW:=(show Hid (∀o,Bel w (wr.alloc o))from fun o=>H.out.1.alloc o)
         clear h1 h2 h3 h4 h5
         go_wp2_with (first|(go_at_call 168;first|(with_reducible refine(HB.out _ _).mono ?_;rintro e w1 ⟨rfl,rfl⟩)|(with_reducible refine(HS.out _ _).mono ?_;rintro e w1 ⟨rfl,rfl⟩))|(at_builtin;refine wpList_push (a0:=w) rfl (.tmp 101) (.tmp 103) 158 rfl 218 (.agg #[.int .u8 0,.string ⟨#[]⟩,.int .i64 0,.int .i64 0]) 4 40 Tryz.underlying158 tok_infos rfl (by decide) (.slice x T.length p) T.length (tkCs T) rfl (HO.out _) (HW.out _) _ (by rw[World.size_alloc];rfl) rfl (by intro u hu;simp at hu;rcases hu with rfl|rfl|rfl|rfl<;>rfl) (by unfold maxLen;omega) (by omega) ?_;intro x' p' w' hown hb))
         have HN2:=hid (show Bel w w'∧Toks w w' (.slice x' (T++[(⟨s[k'],[],k',k'+1⟩:Tk)]).length p') (T++[(⟨s[k'],[],k',k'+1⟩:Tk)])∧CuI s.data.toList (k'+1) (T++[(⟨s[k'],[],k',k'+1⟩:Tk)])from⟨hb,toks_snoc hown rfl,HN.out⟩)
         clear hown hb
         go_wp2_with fail
         go_roundg (gk-1)
         case measure=>omega
         case rel=>exact⟨k'+1,rfl,rfl,by go_num,by omega,hid ⟨T++[(⟨s[k'],[],k',k'+1⟩:Tk)],x',p',k'+1,by rw[List.length_append];rfl,rfl,by omega,by omega,by rw[List.length_append];show T.length+1≤_;omega,HN2⟩⟩
        ·skip
         have b1:=idx_pos (c:=s[k']) (l:=[32,9,13,10]) (good_of h1)
         have b2:(((s[k']'hlt).toNat:Int)==40)=false:=byte_ne (n:=40) (by decide) h2
         have b3:(((s[k']'hlt).toNat:Int)==34)=false:=byte_ne (n:=34) (by decide) h3
         have b4:(((s[k']'hlt).toNat:Int)==91)=false:=byte_ne (n:=91) (by decide) h4
         have b5:=idx_pos (c:=s[k']) (l:=[60,62,64,44,59,58,46]) (good_of h5)
         have HO1:=hid (one_else hlt' (by rw[HC.out];exact good_of h1) (by rw[HC.out];exact h2) (by rw[HC.out];exact h3) (by rw[HC.out];exact h4) (by rw[HC.out];exact good_of h5))
         clear h1 h2 h3 h4 h5
         go_wp2_with (first|(go_at_call 168;first|(with_reducible refine(HB.out _ _).mono ?_;rintro e w1 ⟨rfl,rfl⟩)|(with_reducible refine(HS.out _ _).mono ?_;rintro e w1 ⟨rfl,rfl⟩)))
         obtain⟨wo,rfl⟩:∃z,z=wr:=⟨_,rfl⟩
         go_loopg [7] (s.size+1) (fun gi v7 wz=>∃m:Nat,v7=.int .i64 m∧m+gi=s.size+1∧k'+m≤s.size∧Hid (Bel (wo.alloc (.cells #[.int .u8 97,.string ⟨#[]⟩,.int .i64 (k':Nat),.int .i64 0] 218)) wz∧atN (s.data.toList.drop k')=m+atN (s.data.toList.drop (k'+m))))
         case atStart=>exact⟨0,rfl,by omega,by omega,hid ⟨Bel.refl _,by rw[Nat.zero_add,Nat.add_zero]⟩⟩
         case round=>
          obtain⟨m,rfl,hmg,hkm,HI⟩:=hrel
          obtain⟨w2,rfl⟩:∃z,z=wr:=⟨_,rfl⟩
          by_cases hl2:k'+m<s.size
          ·have e1:decide (((k':Int)+(m:Int))<(s.size:Int))=true:=decide_eq_true (by omega)
           have hl2':k'+m<s.data.toList.length:=by rw[HL.out];exact hl2
           have HC2:=hid (show s.data.toList[k'+m]'hl2'=s[k'+m]from rfl)
           by_cases ha:atB s[k'+m]=true
           ·have HIA:=(show Hid (∀W,Calls Tryz.prog 172 #[.int .u8 (s[k'+m]'hl2).toNat] W fun e w'=>e=.returned (.bool true)∧Bel W w')from fun W=>by have:=inAtom_run (s[k'+m]'hl2) W;rw[ha]at this;exact this)
            have hat:=HI.out.2
            rw[drop_at hl2',atN,HC2.out,if_pos ha]at hat
            have HT:=hid hat
            clear ha hat
            go_wp2_with (first|(go_at_call 172;refine(HIA.out _).mono ?_;rintro e w3 ⟨rfl,hb3⟩))
            go_roundg (gk-1)
            case measure=>omega
            case rel=>exact⟨m+1,by go_num,by omega,by omega,hid ⟨HI.out.1.trans hb3,by rw[HT.out,Nat.add_assoc k' m 1];omega⟩⟩
           ·have HIA:=(show Hid (∀W,Calls Tryz.prog 172 #[.int .u8 (s[k'+m]'hl2).toNat] W fun e w'=>e=.returned (.bool false)∧Bel W w')from fun W=>by have:=inAtom_run (s[k'+m]'hl2) W;rw[good_of ha]at this;exact this)
            have hat:=HI.out.2
            rw[drop_at hl2',atN,HC2.out,if_neg ha,Nat.add_zero]at hat
            clear ha
            have hb2:=HI.out.1
            have hq2:=hb2.heap (heap_alloc_new wo (.cells #[.int .u8 97,.string ⟨#[]⟩,.int .i64 (k':Nat),.int .i64 0] 218))
            have hr2:Bel wo w2:=((Bel.refl wo).alloc _).trans hb2
            by_cases hm0:m=0
            ·skip
             subst hm0
             have HF:=(show Hid (∀W',Bel w W'→CutPost s w (.returned (.tuple #[.slice none 0 0,.bool false])) W')from fun W' hb=>cut_none hb (H.out.2.2.bad hlt' (by rw[HO1.out,hat,if_pos rfl])))
             clear hat HO1
             go_wp2_with (first|(go_at_call 172;refine(HIA.out _).mono ?_;rintro e w3' ⟨rfl,hb3'⟩;have hq2:=hb3'.heap hq2;have hr2:=hr2.trans hb3')|(refine wpList_store_one rfl 9 (.tmp 44) (.tmp 43) rfl wo.heap.size 1 _ rfl rfl rfl STRS.out [.int .u8 97,.string ⟨#[]⟩,.int .i64 (k':Nat),.int .i64 0] _ hq2 (by simp) ?_;intro w3 hq3 ho3 hb3 he3;have hr3:=hb3 wo hr2 (Nat.le_refl _);clear hb3 ho3 he3 hq2 hr2 hq3))
             simp+zetaDelta only[Exit.jump]
             go_ret2
             exact HF.out _ (H.out.1.trans hr3)
            ·skip
             have HN:=hid (H.out.2.2.tok (n:=m) (kd:=97) (x:=(s.data.toList.drop k').take m) (by rw[HO1.out,hat,if_neg (by omega)]))
             have bm:((m:Int)==0)=false:=by rw[beq_eq_false_iff_ne];omega
             clear hat HO1
             go_wp2_with (first|(go_at_call 172;refine(HIA.out _).mono ?_;rintro e w3' ⟨rfl,hb3'⟩;have hq2:=hb3'.heap hq2;have hr2:=hr2.trans hb3')|(refine wpList_store_one rfl 9 (.tmp 44) (.tmp 43) rfl wo.heap.size 1 (.string (s.extract k' (k'+m))) rfl rfl rfl STRS.out [.int .u8 97,.string ⟨#[]⟩,.int .i64 (k':Nat),.int .i64 0] _ hq2 (by simp) ?_;intro w3 hq3 ho3 hb3 he3;have hr3:=hb3 wo hr2 (Nat.le_refl _);have hq3:w3.heap[wo.heap.size]?=some (.cells #[.int .u8 97,.string (s.extract k' (k'+m)),.int .i64 (k':Nat),.int .i64 0] 218 (0,0)):=hq3;clear hb3 ho3 he3 hq2 hr2)|(refine wpList_store_one rfl 3 (.tmp 100) (.tmp 99) rfl wo.heap.size 3 (.int .i64 ((k':Int)+m)) rfl rfl rfl INTS.out [.int .u8 97,.string (s.extract k' (k'+m)),.int .i64 (k':Nat),.int .i64 0] _ hq3 (by simp) ?_;intro w4 hq4 ho4 hb4 he4;have hr4:=hb4 wo hr3 (Nat.le_refl _);have hq4:w4.heap[wo.heap.size]?=some (.cells #[.int .u8 97,.string (s.extract k' (k'+m)),.int .i64 (k':Nat),.int .i64 ((k':Int)+m)] 218 (0,0)):=hq4;clear hb4 ho4 he4 hq3 hr3)|(refine wpList_load_mid rfl 218 (.tmp 6) rfl wo.heap.size 0 rfl [.int .u8 97,.string (s.extract k' (k'+m)),.int .i64 (k':Nat),.int .i64 ((k':Int)+m)] _ ?_ Tryz.underlying218 rfl TOKS.out ?_;exact Ci.range_of hq4 fun j v hv=>by simpa using hv)|(at_builtin;refine wpList_push (a0:=w) (W:=w4) rfl (.tmp 101) (.tmp 103) 158 rfl 218 (.agg #[.int .u8 0,.string ⟨#[]⟩,.int .i64 0,.int .i64 0]) 4 40 Tryz.underlying158 tok_infos rfl (by decide) (.slice x T.length p) T.length (tkCs T) rfl (H.out.2.1.next hr4) (H.out.1.trans hr4) _ rfl rfl (by intro u hu;simp at hu;rcases hu with rfl|rfl|rfl|rfl<;>rfl) (by unfold maxLen;omega) (by omega) ?_;intro x' p' w' hown hb))
             have HN2:=hid (show Bel w w'∧Toks w w' (.slice x' (T++[(⟨97,(s.data.toList.drop k').take m,k',k'+m⟩:Tk)]).length p') (T++[(⟨97,(s.data.toList.drop k').take m,k',k'+m⟩:Tk)])∧CuI s.data.toList (k'+m) (T++[(⟨97,(s.data.toList.drop k').take m,k',k'+m⟩:Tk)])from⟨hb,toks_snoc hown (tk_text s k' m 97 (k'+m)),HN.out⟩)
             clear hown hb
             go_wp2_with fail
             go_roundg (s.size+1-k'-m)
             case measure=>omega
             case rel=>exact⟨k'+m,rfl,rfl,by go_num,by omega,hid ⟨T++[(⟨97,(s.data.toList.drop k').take m,k',k'+m⟩:Tk)],x',p',k'+m,by rw[List.length_append];rfl,rfl,by omega,by omega,by rw[List.length_append];show T.length+1≤_;omega,HN2⟩⟩
          ·have e1:decide (((k':Int)+(m:Int))<(s.size:Int))=false:=decide_eq_false (by omega)
           have hat:=HI.out.2
           rw[List.drop_eq_nil_of_le (by rw[HL.out];omega:s.data.toList.length≤k'+m),atN,Nat.add_zero]at hat
           have hb2:=HI.out.1
           have hq2:=hb2.heap (heap_alloc_new wo (.cells #[.int .u8 97,.string ⟨#[]⟩,.int .i64 (k':Nat),.int .i64 0] 218))
           have hr2:Bel wo w2:=((Bel.refl wo).alloc _).trans hb2
           by_cases hm0:m=0
           ·skip
            exact absurd hlt (by omega)
           ·skip
            have HN:=hid (H.out.2.2.tok (n:=m) (kd:=97) (x:=(s.data.toList.drop k').take m) (by rw[HO1.out,hat,if_neg (by omega)]))
            have bm:((m:Int)==0)=false:=by rw[beq_eq_false_iff_ne];omega
            clear hat HO1
            go_wp2_with (first|(refine wpList_store_one rfl 9 (.tmp 44) (.tmp 43) rfl wo.heap.size 1 (.string (s.extract k' (k'+m))) rfl rfl rfl STRS.out [.int .u8 97,.string ⟨#[]⟩,.int .i64 (k':Nat),.int .i64 0] _ hq2 (by simp) ?_;intro w3 hq3 ho3 hb3 he3;have hr3:=hb3 wo hr2 (Nat.le_refl _);have hq3:w3.heap[wo.heap.size]?=some (.cells #[.int .u8 97,.string (s.extract k' (k'+m)),.int .i64 (k':Nat),.int .i64 0] 218 (0,0)):=hq3;clear hb3 ho3 he3 hq2 hr2)|(refine wpList_store_one rfl 3 (.tmp 100) (.tmp 99) rfl wo.heap.size 3 (.int .i64 ((k':Int)+m)) rfl rfl rfl INTS.out [.int .u8 97,.string (s.extract k' (k'+m)),.int .i64 (k':Nat),.int .i64 0] _ hq3 (by simp) ?_;intro w4 hq4 ho4 hb4 he4;have hr4:=hb4 wo hr3 (Nat.le_refl _);have hq4:w4.heap[wo.heap.size]?=some (.cells #[.int .u8 97,.string (s.extract k' (k'+m)),.int .i64 (k':Nat),.int .i64 ((k':Int)+m)] 218 (0,0)):=hq4;clear hb4 ho4 he4 hq3 hr3)|(refine wpList_load_mid rfl 218 (.tmp 6) rfl wo.heap.size 0 rfl [.int .u8 97,.string (s.extract k' (k'+m)),.int .i64 (k':Nat),.int .i64 ((k':Int)+m)] _ ?_ Tryz.underlying218 rfl TOKS.out ?_;exact Ci.range_of hq4 fun j v hv=>by simpa using hv)|(at_builtin;refine wpList_push (a0:=w) (W:=w4) rfl (.tmp 101) (.tmp 103) 158 rfl 218 (.agg #[.int .u8 0,.string ⟨#[]⟩,.int .i64 0,.int .i64 0]) 4 40 Tryz.underlying158 tok_infos rfl (by decide) (.slice x T.length p) T.length (tkCs T) rfl (H.out.2.1.next hr4) (H.out.1.trans hr4) _ rfl rfl (by intro u hu;simp at hu;rcases hu with rfl|rfl|rfl|rfl<;>rfl) (by unfold maxLen;omega) (by omega) ?_;intro x' p' w' hown hb))
            have HN2:=hid (show Bel w w'∧Toks w w' (.slice x' (T++[(⟨97,(s.data.toList.drop k').take m,k',k'+m⟩:Tk)]).length p') (T++[(⟨97,(s.data.toList.drop k').take m,k',k'+m⟩:Tk)])∧CuI s.data.toList (k'+m) (T++[(⟨97,(s.data.toList.drop k').take m,k',k'+m⟩:Tk)])from⟨hb,toks_snoc hown (tk_text s k' m 97 (k'+m)),HN.out⟩)
            clear hown hb
            go_wp2_with fail
            go_roundg (s.size+1-k'-m)
            case measure=>omega
            case rel=>exact⟨k'+m,rfl,rfl,by go_num,by omega,hid ⟨T++[(⟨97,(s.data.toList.drop k').take m,k',k'+m⟩:Tk)],x',p',k'+m,by rw[List.length_append];rfl,rfl,by omega,by omega,by rw[List.length_append];show T.length+1≤_;omega,HN2⟩⟩
   ·skip
    obtain rfl:k'=s.size:=by omega
    have HX:=hid (H.out.2.2.end_ HL.out.symm)
    go_wp2_with (first|(at_builtin;refine wpList_push (a0:=w) (W:=wr) rfl (.tmp 105) (.tmp 109) 158 rfl 218 (.agg #[.int .u8 0,.string ⟨#[]⟩,.int .i64 0,.int .i64 0]) 4 40 Tryz.underlying158 tok_infos rfl (by decide) (.slice x T.length p) T.length (tkCs T) rfl H.out.2.1 H.out.1 _ rfl rfl (by intro u hu;simp at hu;rcases hu with rfl|rfl|rfl|rfl<;>rfl) (by unfold maxLen;omega) (by omega) ?_;intro x' p' w' hown hb))
    simp+zetaDelta only[Exit.jump]
    go_ret2
    have ht:=toks_snoc (t:=⟨101,[],s.size,s.size⟩) hown rfl
    rw[List.length_append]at ht
    exact cut_some hb HX.out ht
end Go.Proofs.YtmlmkmhkmifnkaaGreatDoor.Ma