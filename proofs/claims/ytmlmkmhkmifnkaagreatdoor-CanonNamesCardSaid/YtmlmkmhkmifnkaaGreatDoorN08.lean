/- Walk: cut. -/
import Derived.Test.YtmlmkmhkmifnkaaGreatDoorN07
import Derived.Deep.MidRow
import Derived.WalkMore
import Derived.ScopeJumps
import Derived.Laws.ResultCell
import Derived.Deep.RegionHeld3
import Derived.Deep.RegionLaw
import Derived.Laws.AppendOwn
import Derived.Test.YtmlmkmhkmifnkaaGreatDoorN01
namespace Go.Proofs.YtmlmkmhkmifnkaaGreatDoor.Ma
open Go.RowKit
open Ci (Bel own_bel row_shape addr_add wpList_push)

theorem wp_scope_pass {P : Program} {a : Act} {w : World} {Q : Exit → Act → World → Prop} {c rest : Code} (l : Nat) (J : Act → World → Prop) (μ : Act → World → Nat) (hf : findLabel c l = some (Code.skip.seq rest))
    (first : ∀ Q' : Exit → Act → World → Prop, (∀ a w, J a w → rest.wp P Q' a w) → c.wp P Q' a w)
    (pass : ∀ a w, J a w → rest.wp P (Exit.jump l (fun a' w' => J a' w' ∧ μ a' w' < μ a w) Q) a w) : (Code.scope c).wp P Q a w := by
  refine wp_scope_jumps l J μ hf (first _ fun a w hJ => Code.wp_mono ?_ (pass a w hJ)) fun a w hJ => wp_seq (wp_skip (pass a w hJ))
  intro e a' w' h
  cases e with
  | goto l' => exact ⟨h.1, h.2.1⟩
  | _ => exact h
def cutOf : Value → Nat
  | .int _ q => q.toNat
  | _ => 0
/-- What holds whenever a token begins. -/
def CuM (s : ByteArray) (w : World) (k0 : Nat) (w' : World) (v4 v5 : Value) : Prop :=
  ∃ (T : List Tk) (x : Option Addr) (p k : Nat), v4 = .slice x T.length p ∧ v5 = .int .i64 k ∧ k0 ≤ k ∧ k ≤ s.size ∧ T.length ≤ k ∧ Hid (Bel w w' ∧ Toks w w' (.slice x T.length p) T ∧ CuI s.data.toList k T)
theorem idx_pos {c : UInt8} {l : List UInt8} {b : Bool} (h : l.contains c = b) : decide ((0 : Int) ≤ Lib.indexByte l c) = b := by rw [index_has, h]
theorem toks_snoc {a0 W : World} {x : Option Addr} {p : Nat} {T : List Tk} {c : Array Value} {t : Tk} (h : W.ownsRow a0.heap.size 218 4 (.slice x (T.length + 1 : Nat) p) (T.length + 1) (tkCs T ++ c.toList)) (hc : c.toList = tkC t) : Toks a0 W (.slice x (T ++ [t]).length p) (T ++ [t]) := by
  unfold Toks
  rw [List.length_append, tkCs_snoc, ← hc]
  exact h
theorem tk_text (s : ByteArray) (k m : Nat) (kd : UInt8) (c : Nat) : (#[.int .u8 kd.toNat, .string (s.extract k (k + m)), .int .i64 (k : Nat), .int .i64 (c : Nat)] : Array Value).toList = tkC ⟨kd, (s.data.toList.drop k).take m, k, c⟩ := by
  have e : s.extract k (k + m) = ⟨((s.data.toList.drop k).take m).toArray⟩ := by
    refine Ci.ext_bytes ?_
    rw [Lib.extract_data, Nat.add_sub_cancel_left]
  rw [e]; rfl
theorem cut_none {s : ByteArray} {w W' : World} (hb : Bel w W') (h : cutQ s.data.toList = none) : CutPost s w (.returned (.tuple #[.slice none 0 0, .bool false])) W' := by
  refine ⟨.slice none 0 0, by rw [h]; rfl, hb, ?_⟩
  rw [h]
theorem cut_some {s : ByteArray} {w W' : World} {v : Value} {T : List Tk} (hb : Bel w W') (h : cutQ s.data.toList = some T) (ht : Toks w W' v T) : CutPost s w (.returned (.tuple #[v, .bool true])) W' := by
  refine ⟨v, by rw [h]; rfl, hb, ?_⟩
  rw [h]
  exact ht
/-- What holds at every jump. -/
def CuJ (s : ByteArray) (w : World) (a : Act) (w' : World) : Prop :=
  a.defers = [] ∧ a.tmps.size = 111 ∧ a.tmps.getD 0 undef = .string s ∧ a.tmps.getD 2 undef = .slice none 0 0 ∧ a.tmps.getD 3 undef = .bool false ∧ CuM s w 0 w' (a.tmps.getD 4 undef) (a.tmps.getD 5 undef)
theorem arr_lit (A : Array Value) (n : Nat) (h : A.size = n) : A = ((List.range n).map fun i => A.getD i undef).toArray := by
  refine Array.ext (by simp [h]) fun i h1 h2 => ?_
  simp [Array.getD, h1]
set_option maxHeartbeats 16000000 in
set_option maxRecDepth 1000000 in
theorem cut_run (s : ByteArray) (w : World) (hs : s.size ≤ 65536) :
    Calls Tryz.prog 101 #[.string s] w (CutPost s w) := by
  have hl : s.data.toList.length = s.size := by rw [Lib.size_eq]
  have HL := hid hl
  have H0 := hid (show CuM s w 0 w (.slice none 0 0) (.int .i64 0) from ⟨[], none, 0, 0, rfl, rfl, Nat.le_refl _, Nat.zero_le _, Nat.le_refl _, hid ⟨Bel.refl w, World.ownsRow_nil _ _ _ _, CuI.zero _⟩⟩)
  have HB := (show Hid (∀ (c : UInt8) (W : World), Calls Tryz.prog 168 #[.string ⟨#[32, 9, 13, 10]⟩, .int .u8 c.toNat] W fun e w' => e = .returned (.int .i64 (Lib.indexByte [32, 9, 13, 10] c)) ∧ w' = W) from fun c W => by have := Tryz.strings_IndexByte ⟨#[32, 9, 13, 10]⟩ c.toNat W; rw [u8_back] at this; exact this)
  have HS := (show Hid (∀ (c : UInt8) (W : World), Calls Tryz.prog 168 #[.string ⟨#[60, 62, 64, 44, 59, 58, 46]⟩, .int .u8 c.toNat] W fun e w' => e = .returned (.int .i64 (Lib.indexByte [60, 62, 64, 44, 59, 58, 46] c)) ∧ w' = W) from fun c W => by have := Tryz.strings_IndexByte ⟨#[60, 62, 64, 44, 59, 58, 46]⟩ c.toNat W; rw [u8_back] at this; exact this)
  have STRS := hid (show (Tryz.prog.info? 9).map (·.size) = some 1 by kernel_rfl)
  have INTS := hid (show (Tryz.prog.info? 3).map (·.size) = some 1 by kernel_rfl)
  have TOKS := hid (show (Tryz.prog.info? 218).map (·.size) = some 4 by kernel_rfl)
  clear hl
  go_enter Tryz.func101, Tryz.ntmps101
  go_wp2_with fail
  refine wp_scope_pass 0 (CuJ s w) (fun a' _ => s.size + 1 - cutOf (a'.tmps.getD 5 undef)) rfl ?_ ?_
  · intro Q' hR
    go_wp2_with fail
    go_step3
    rename_i K hK
    refine hK _ _ (hR _ _ ?_)
    exact ⟨rfl, rfl, rfl, rfl, rfl, H0.out⟩
  · clear H0
    rintro a0 w0 ⟨h1, h2, h3, h4, h5, H1⟩
    obtain ⟨A, ds⟩ := a0
    dsimp only at h1 h2 h3 h4 h5 H1
    subst h1
    obtain ⟨u, hu⟩ : ∃ u : Nat → Value, u = fun i => A.getD i undef := ⟨_, rfl⟩
    have hA : A = #[u 0, u 1, u 2, u 3, u 4, u 5, u 6, u 7, u 8, u 9, u 10, u 11, u 12, u 13, u 14, u 15, u 16, u 17, u 18, u 19, u 20, u 21, u 22, u 23, u 24, u 25, u 26, u 27, u 28, u 29, u 30, u 31, u 32, u 33, u 34, u 35, u 36, u 37, u 38, u 39, u 40, u 41, u 42, u 43, u 44, u 45, u 46, u 47, u 48, u 49, u 50, u 51, u 52, u 53, u 54, u 55, u 56, u 57, u 58, u 59, u 60, u 61, u 62, u 63, u 64, u 65, u 66, u 67, u 68, u 69, u 70, u 71, u 72, u 73, u 74, u 75, u 76, u 77, u 78, u 79, u 80, u 81, u 82, u 83, u 84, u 85, u 86, u 87, u 88, u 89, u 90, u 91, u 92, u 93, u 94, u 95, u 96, u 97, u 98, u 99, u 100, u 101, u 102, u 103, u 104, u 105, u 106, u 107, u 108, u 109, u 110] := by
      rw [hu]
      exact (arr_lit A 111 h2).trans rfl
    rw [show A.getD 4 undef = u 4 by rw [hu], show A.getD 5 undef = u 5 by rw [hu]] at H1
    rw [show A.getD 0 undef = u 0 by rw [hu]] at h3
    rw [show A.getD 2 undef = u 2 by rw [hu]] at h4
    rw [show A.getD 3 undef = u 3 by rw [hu]] at h5
    rw [h3, h4, h5] at hA
    clear hu h2
    subst hA
    clear h3 h4 h5
    generalize u 4 = v4 at H1 ⊢
    generalize u 5 = v5 at H1 ⊢
    generalize u 1 = u1
    generalize u 6 = u6
    generalize u 7 = u7
    generalize u 8 = u8
    generalize u 9 = u9
    generalize u 10 = u10
    generalize u 11 = u11
    generalize u 12 = u12
    generalize u 13 = u13
    generalize u 14 = u14
    generalize u 15 = u15
    generalize u 16 = u16
    generalize u 17 = u17
    generalize u 18 = u18
    generalize u 19 = u19
    generalize u 20 = u20
    generalize u 21 = u21
    generalize u 22 = u22
    generalize u 23 = u23
    generalize u 24 = u24
    generalize u 25 = u25
    generalize u 26 = u26
    generalize u 27 = u27
    generalize u 28 = u28
    generalize u 29 = u29
    generalize u 30 = u30
    generalize u 31 = u31
    generalize u 32 = u32
    generalize u 33 = u33
    generalize u 34 = u34
    generalize u 35 = u35
    generalize u 36 = u36
    generalize u 37 = u37
    generalize u 38 = u38
    generalize u 39 = u39
    generalize u 40 = u40
    generalize u 41 = u41
    generalize u 42 = u42
    generalize u 43 = u43
    generalize u 44 = u44
    generalize u 45 = u45
    generalize u 46 = u46
    generalize u 47 = u47
    generalize u 48 = u48
    generalize u 49 = u49
    generalize u 50 = u50
    generalize u 51 = u51
    generalize u 52 = u52
    generalize u 53 = u53
    generalize u 54 = u54
    generalize u 55 = u55
    generalize u 56 = u56
    generalize u 57 = u57
    generalize u 58 = u58
    generalize u 59 = u59
    generalize u 60 = u60
    generalize u 61 = u61
    generalize u 62 = u62
    generalize u 63 = u63
    generalize u 64 = u64
    generalize u 65 = u65
    generalize u 66 = u66
    generalize u 67 = u67
    generalize u 68 = u68
    generalize u 69 = u69
    generalize u 70 = u70
    generalize u 71 = u71
    generalize u 72 = u72
    generalize u 73 = u73
    generalize u 74 = u74
    generalize u 75 = u75
    generalize u 76 = u76
    generalize u 77 = u77
    generalize u 78 = u78
    generalize u 79 = u79
    generalize u 80 = u80
    generalize u 81 = u81
    generalize u 82 = u82
    generalize u 83 = u83
    generalize u 84 = u84
    generalize u 85 = u85
    generalize u 86 = u86
    generalize u 87 = u87
    generalize u 88 = u88
    generalize u 89 = u89
    generalize u 90 = u90
    generalize u 91 = u91
    generalize u 92 = u92
    generalize u 93 = u93
    generalize u 94 = u94
    generalize u 95 = u95
    generalize u 96 = u96
    generalize u 97 = u97
    generalize u 98 = u98
    generalize u 99 = u99
    generalize u 100 = u100
    generalize u 101 = u101
    generalize u 102 = u102
    generalize u 103 = u103
    generalize u 104 = u104
    generalize u 105 = u105
    generalize u 106 = u106
    generalize u 107 = u107
    generalize u 108 = u108
    generalize u 109 = u109
    generalize u 110 = u110
    obtain ⟨T0, x0, p0, k0, rfl, rfl, -, hk0, hn0, H1⟩ := H1
    have Hk0 := hid hk0
    go_wp2_with fail
    go_loopg [2, 3, 4, 5] (s.size + 1 - k0) (fun gg v2 v3 v4 v5 wr => ∃ k : Nat, v2 = .slice none 0 0 ∧ v3 = .bool false ∧ v5 = .int .i64 k ∧ k + gg = s.size + 1 ∧ Hid (CuM s w k0 wr v4 v5))
    case atStart => exact ⟨k0, rfl, rfl, rfl, by omega, hid ⟨T0, x0, p0, k0, rfl, rfl, Nat.le_refl _, hk0, hn0, H1⟩⟩
    case round =>
      clear H1 hn0
      obtain ⟨k', rfl, rfl, rfl, hgk, H⟩ := hrel
      obtain ⟨T, x, p, k, rfl, he, hk1, hk2, hn, H⟩ := H.out
      obtain rfl : k' = k := by have := (Value.int.inj he).2; omega
      clear he
      by_cases hlt : k' < s.size
      · have hlt' : k' < s.data.toList.length := by rw [HL.out]; exact hlt
        have HC := hid (show s.data.toList[k']'hlt' = s[k'] from rfl)
        skip
        by_cases h1 : blB s[k'] = true
        · skip
          have hx := idx_pos (c := s[k']) (l := [32, 9, 13, 10]) h1
          have HN := hid (H.out.2.2.skip (one_bl hlt' (by rw [HC.out]; exact h1)))
          clear h1
          go_wp2_with (first | (go_at_call 168; first | (with_reducible refine (HB.out _ _).mono ?_; rintro e w1 ⟨rfl, rfl⟩) | (with_reducible refine (HS.out _ _).mono ?_; rintro e w1 ⟨rfl, rfl⟩)))
          go_step3
          simp +zetaDelta only [Exit.inBlock, Exit.then, Exit.jump]
          refine ⟨trivial, ⟨rfl, rfl, rfl, rfl, rfl, T, x, p, k' + 1, rfl, by go_num, Nat.zero_le _, by omega, by omega, hid ⟨H.out.1.alloc _, H.out.2.1.next ((Bel.refl _).alloc _), HN.out⟩⟩, ?_⟩
          show s.size + 1 - ((k' : Int) + 1).toNat < s.size + 1 - ((k0 : Nat) : Int).toNat
          omega
        · skip
          by_cases h2 : s[k'] = 40
          · skip
            rcases hr : cmtL (s.data.toList.drop k') 0 with _ | n
            · skip
              have b1 := idx_pos (c := s[k']) (l := [32, 9, 13, 10]) (good_of h1)
              have b2 : (((s[k']'hlt).toNat : Int) == 40) = true := byte_eq (n := 40) (by decide) h2
              have HF := (show Hid (∀ W', Bel w W' → CutPost s w (.returned (.tuple #[.slice none 0 0, .bool false])) W') from fun W' hb => cut_none hb (H.out.2.2.bad hlt' (by rw [one_cm hlt' (HC.out.trans h2), hr]; rfl)))
              have HCM := (show Hid (∀ W, Calls Tryz.prog 169 #[.string (s.extract k' s.size)] W fun e w' => e = .returned (.int .i64 0) ∧ Bel W w') from fun W => by
                have := comment_run (s.extract k' s.size) W (by rw [ByteArray.size_extract]; omega) (by rw [Lib.extract_to_end]; intro h; have e := drop_at hlt'; simp only [e]; exact HC.out.trans h2)
                rw [Lib.extract_to_end, hr] at this
                exact this)
              clear h1 h2 hr
              go_wp2_with (first | (go_at_call 168; first | (with_reducible refine (HB.out _ _).mono ?_; rintro e w1 ⟨rfl, rfl⟩) | (with_reducible refine (HS.out _ _).mono ?_; rintro e w1 ⟨rfl, rfl⟩)) | (go_at_call 169; refine (HCM.out _).mono ?_; rintro e w2 ⟨rfl, hb2⟩))
              simp +zetaDelta only [Exit.jump]
              go_ret2
              exact HF.out _ ((H.out.1.alloc _).trans hb2)
            · skip
              have b1 := idx_pos (c := s[k']) (l := [32, 9, 13, 10]) (good_of h1)
              have b2 : (((s[k']'hlt).toNat : Int) == 40) = true := byte_eq (n := 40) (by decide) h2
              have HN := hid (H.out.2.2.skip (n := n) (by rw [one_cm hlt' (HC.out.trans h2), hr]; rfl))
              have hn1 : 0 < n := (one_pos (by rw [one_cm hlt' (HC.out.trans h2), hr]; rfl : one (s.data.toList.drop k') = some (n, none))).1
              have hn2 : n ≤ (s.data.toList.drop k').length := (one_pos (by rw [one_cm hlt' (HC.out.trans h2), hr]; rfl : one (s.data.toList.drop k') = some (n, none))).2
              rw [List.length_drop, HL.out] at hn2
              have b3 : decide ((0 : Int) < (n : Int)) = true := decide_eq_true (by omega)
              have HCM := (show Hid (∀ W, Calls Tryz.prog 169 #[.string (s.extract k' s.size)] W fun e w' => e = .returned (.int .i64 (n : Nat)) ∧ Bel W w') from fun W => by
                have := comment_run (s.extract k' s.size) W (by rw [ByteArray.size_extract]; omega) (by rw [Lib.extract_to_end]; intro h; have e := drop_at hlt'; simp only [e]; exact HC.out.trans h2)
                rw [Lib.extract_to_end, hr] at this
                exact this)
              clear h1 h2 hr
              go_wp2_with (first | (go_at_call 168; first | (with_reducible refine (HB.out _ _).mono ?_; rintro e w1 ⟨rfl, rfl⟩) | (with_reducible refine (HS.out _ _).mono ?_; rintro e w1 ⟨rfl, rfl⟩)) | (go_at_call 169; refine (HCM.out _).mono ?_; rintro e w2 ⟨rfl, hb2⟩))
              go_step3
              simp +zetaDelta only [Exit.inBlock, Exit.then, Exit.jump]
              refine ⟨trivial, ⟨rfl, rfl, rfl, rfl, rfl, T, x, p, k' + n, rfl, by go_num, Nat.zero_le _, by omega, by omega, hid ⟨(H.out.1.alloc _).trans hb2, H.out.2.1.next (((Bel.refl _).alloc _).trans hb2), HN.out⟩⟩, ?_⟩
              show s.size + 1 - ((k' : Int) + n).toNat < s.size + 1 - ((k0 : Nat) : Int).toNat
              omega
          · skip
            by_cases h3 : s[k'] = 34
            · skip
              rcases hr : quoL ((s.data.toList.drop k').drop 1) with _ | ⟨y, n⟩
              · skip
                have b1 := idx_pos (c := s[k']) (l := [32, 9, 13, 10]) (good_of h1)
                have b2 : (((s[k']'hlt).toNat : Int) == 40) = false := byte_ne (n := 40) (by decide) h2
                have b3 : (((s[k']'hlt).toNat : Int) == 34) = true := byte_eq (n := 34) (by decide) h3
                have HF := (show Hid (∀ W', Bel w W' → CutPost s w (.returned (.tuple #[.slice none 0 0, .bool false])) W') from fun W' hb => cut_none hb (H.out.2.2.bad hlt' (by rw [one_qu hlt' (HC.out.trans h3), hr]; rfl)))
                have HQU := (show Hid (∀ W, Calls Tryz.prog 170 #[.string (s.extract k' s.size)] W fun e w' => e = .returned (.tuple #[.string ⟨#[]⟩, .int .i64 0]) ∧ Bel W w') from fun W => by
                  have := quote_run (s.extract k' s.size) W (by rw [ByteArray.size_extract]; omega)
                  rw [Lib.extract_to_end] at this
                  unfold quoR at this
                  rw [hr] at this
                  exact this)
                clear h1 h2 h3 hr
                go_wp2_with (first | (go_at_call 168; first | (with_reducible refine (HB.out _ _).mono ?_; rintro e w1 ⟨rfl, rfl⟩) | (with_reducible refine (HS.out _ _).mono ?_; rintro e w1 ⟨rfl, rfl⟩)) | (go_at_call 170; refine (HQU.out _).mono ?_; rintro e w2 ⟨rfl, hb2⟩; have hq2 := hb2.heap (heap_alloc_new wr (.cells #[.int .u8 113, .string ⟨#[]⟩, .int .i64 (k' : Nat), .int .i64 0] 218)); have hr2 : Bel wr w2 := ((Bel.refl wr).alloc _).trans hb2) | (refine wpList_store_one rfl 9 (.tmp 74) (.tmp 72) rfl wr.heap.size 1 (.string ⟨#[]⟩) rfl rfl rfl STRS.out [.int .u8 113, .string ⟨#[]⟩, .int .i64 (k' : Nat), .int .i64 0] _ hq2 (by simp) ?_; intro w3 hq3 ho3 hb3 he3; have hr3 := hb3 wr hr2 (Nat.le_refl _); have hq3 : w3.heap[wr.heap.size]? = some (.cells #[.int .u8 113, .string ⟨#[]⟩, .int .i64 (k' : Nat), .int .i64 0] 218 (0, 0)) := hq3; clear hb3 ho3 he3 hq2 hr2))
                simp +zetaDelta only [Exit.jump]
                go_ret2
                exact HF.out _ (H.out.1.trans hr3)
              · skip
                have b1 := idx_pos (c := s[k']) (l := [32, 9, 13, 10]) (good_of h1)
                have b2 : (((s[k']'hlt).toNat : Int) == 40) = false := byte_ne (n := 40) (by decide) h2
                have b3 : (((s[k']'hlt).toNat : Int) == 34) = true := byte_eq (n := 34) (by decide) h3
                have HN := hid (H.out.2.2.tok (n := n + 1) (kd := 113) (x := y) (by rw [one_qu hlt' (HC.out.trans h3), hr]; rfl))
                have hn2 : n + 1 ≤ (s.data.toList.drop k').length := (one_pos (by rw [one_qu hlt' (HC.out.trans h3), hr]; rfl : one (s.data.toList.drop k') = some (n + 1, some (113, y)))).2
                rw [List.length_drop, HL.out] at hn2
                have HQU := (show Hid (∀ W, Calls Tryz.prog 170 #[.string (s.extract k' s.size)] W fun e w' => e = .returned (.tuple #[.string ⟨y.toArray⟩, .int .i64 ((n + 1 : Nat) : Int)]) ∧ Bel W w') from fun W => by
                  have := quote_run (s.extract k' s.size) W (by rw [ByteArray.size_extract]; omega)
                  rw [Lib.extract_to_end] at this
                  unfold quoR at this
                  rw [hr] at this
                  exact this)
                obtain ⟨m, hm⟩ : ∃ m, m = n + 1 := ⟨_, rfl⟩
                rw [← hm] at HN HQU hn2
                have hm1 : 0 < m := by omega
                clear h1 h2 h3 hr hm
                have bm : ((m : Int) == 0) = false := by rw [beq_eq_false_iff_ne]; omega
                go_wp2_with (first | (go_at_call 168; first | (with_reducible refine (HB.out _ _).mono ?_; rintro e w1 ⟨rfl, rfl⟩) | (with_reducible refine (HS.out _ _).mono ?_; rintro e w1 ⟨rfl, rfl⟩)) | (go_at_call 170; refine (HQU.out _).mono ?_; rintro e w2 ⟨rfl, hb2⟩; have hq2 := hb2.heap (heap_alloc_new wr (.cells #[.int .u8 113, .string ⟨#[]⟩, .int .i64 (k' : Nat), .int .i64 0] 218)); have hr2 : Bel wr w2 := ((Bel.refl wr).alloc _).trans hb2) | (refine wpList_store_one rfl 9 (.tmp 74) (.tmp 72) rfl wr.heap.size 1 (.string ⟨y.toArray⟩) rfl rfl rfl STRS.out [.int .u8 113, .string ⟨#[]⟩, .int .i64 (k' : Nat), .int .i64 0] _ hq2 (by simp) ?_; intro w3 hq3 ho3 hb3 he3; have hr3 := hb3 wr hr2 (Nat.le_refl _); have hq3 : w3.heap[wr.heap.size]? = some (.cells #[.int .u8 113, .string ⟨y.toArray⟩, .int .i64 (k' : Nat), .int .i64 0] 218 (0, 0)) := hq3; clear hb3 ho3 he3 hq2 hr2) | (refine wpList_store_one rfl 3 (.tmp 100) (.tmp 99) rfl wr.heap.size 3 (.int .i64 ((k' : Int) + m)) rfl rfl rfl INTS.out [.int .u8 113, .string ⟨y.toArray⟩, .int .i64 (k' : Nat), .int .i64 0] _ hq3 (by simp) ?_; intro w4 hq4 ho4 hb4 he4; have hr4 := hb4 wr hr3 (Nat.le_refl _); have hq4 : w4.heap[wr.heap.size]? = some (.cells #[.int .u8 113, .string ⟨y.toArray⟩, .int .i64 (k' : Nat), .int .i64 ((k' : Int) + m)] 218 (0, 0)) := hq4; clear hb4 ho4 he4 hq3 hr3) | (refine wpList_load_mid rfl 218 (.tmp 6) rfl wr.heap.size 0 rfl [.int .u8 113, .string ⟨y.toArray⟩, .int .i64 (k' : Nat), .int .i64 ((k' : Int) + m)] _ ?_ Tryz.underlying218 rfl TOKS.out ?_; exact Ci.range_of hq4 fun j v hv => by simpa using hv) | (at_builtin; refine wpList_push (a0 := w) (W := w4) rfl (.tmp 101) (.tmp 103) 158 rfl 218 (.agg #[.int .u8 0, .string ⟨#[]⟩, .int .i64 0, .int .i64 0]) 4 40 Tryz.underlying158 tok_infos rfl (by decide) (.slice x T.length p) T.length (tkCs T) rfl (H.out.2.1.next hr4) (H.out.1.trans hr4) _ rfl rfl (by intro u hu; simp at hu; rcases hu with rfl | rfl | rfl | rfl <;> rfl) (by unfold maxLen; omega) (by omega) ?_; intro x' p' w' hown hb))
                have HN2 := hid (show Bel w w' ∧ Toks w w' (.slice x' (T ++ [(⟨113, y, k', k' + m⟩ : Tk)]).length p') (T ++ [(⟨113, y, k', k' + m⟩ : Tk)]) ∧ CuI s.data.toList (k' + m) (T ++ [(⟨113, y, k', k' + m⟩ : Tk)]) from ⟨hb, toks_snoc hown rfl, HN.out⟩)
                clear hown hb
                go_wp2_with fail
                go_roundg (gk - m)
                case measure => omega
                case rel => exact ⟨k' + m, rfl, rfl, by go_num, by omega, hid ⟨T ++ [(⟨113, y, k', k' + m⟩ : Tk)], x', p', k' + m, by rw [List.length_append]; rfl, rfl, by omega, by omega, by rw [List.length_append]; show T.length + 1 ≤ _; omega, HN2⟩⟩
            · skip
              by_cases h4 : s[k'] = 91
              · skip
                rcases hr : brkL ((s.data.toList.drop k').drop 1) with _ | n
                · skip
                  have b1 := idx_pos (c := s[k']) (l := [32, 9, 13, 10]) (good_of h1)
                  have b2 : (((s[k']'hlt).toNat : Int) == 40) = false := byte_ne (n := 40) (by decide) h2
                  have b3 : (((s[k']'hlt).toNat : Int) == 34) = false := byte_ne (n := 34) (by decide) h3
                  have b4 : (((s[k']'hlt).toNat : Int) == 91) = true := byte_eq (n := 91) (by decide) h4
                  have HF := (show Hid (∀ W', Bel w W' → CutPost s w (.returned (.tuple #[.slice none 0 0, .bool false])) W') from fun W' hb => cut_none hb (H.out.2.2.bad hlt' (by rw [one_br hlt' (HC.out.trans h4), hr]; rfl)))
                  have HBR := (show Hid (∀ W, Calls Tryz.prog 171 #[.string (s.extract k' s.size)] W fun e w' => e = .returned (.int .i64 0) ∧ Bel W w') from fun W => by
                    have := bracket_run (s.extract k' s.size) W (by rw [ByteArray.size_extract]; omega)
                    rw [Lib.extract_to_end] at this
                    unfold brkN at this
                    rw [hr] at this
                    exact this)
                  clear h1 h2 h3 h4 hr
                  go_wp2_with (first | (go_at_call 168; first | (with_reducible refine (HB.out _ _).mono ?_; rintro e w1 ⟨rfl, rfl⟩) | (with_reducible refine (HS.out _ _).mono ?_; rintro e w1 ⟨rfl, rfl⟩)) | (go_at_call 171; refine (HBR.out _).mono ?_; rintro e w2 ⟨rfl, hb2⟩; have hq2 := hb2.heap (heap_alloc_new wr (.cells #[.int .u8 108, .string ⟨#[]⟩, .int .i64 (k' : Nat), .int .i64 0] 218)); have hr2 : Bel wr w2 := ((Bel.refl wr).alloc _).trans hb2) | (refine wpList_store_one rfl 9 (.tmp 89) (.tmp 88) rfl wr.heap.size 1 _ rfl rfl rfl STRS.out [.int .u8 108, .string ⟨#[]⟩, .int .i64 (k' : Nat), .int .i64 0] _ hq2 (by simp) ?_; intro w3 hq3 ho3 hb3 he3; have hr3 := hb3 wr hr2 (Nat.le_refl _); clear hb3 ho3 he3 hq2 hr2 hq3))
                  simp +zetaDelta only [Exit.jump]
                  go_ret2
                  exact HF.out _ (H.out.1.trans hr3)
                · skip
                  have b1 := idx_pos (c := s[k']) (l := [32, 9, 13, 10]) (good_of h1)
                  have b2 : (((s[k']'hlt).toNat : Int) == 40) = false := byte_ne (n := 40) (by decide) h2
                  have b3 : (((s[k']'hlt).toNat : Int) == 34) = false := byte_ne (n := 34) (by decide) h3
                  have b4 : (((s[k']'hlt).toNat : Int) == 91) = true := byte_eq (n := 91) (by decide) h4
                  have HN := hid (H.out.2.2.tok (n := n + 1) (kd := 108) (x := (s.data.toList.drop k').take (n + 1)) (by rw [one_br hlt' (HC.out.trans h4), hr]; rfl))
                  have hn2 : n + 1 ≤ (s.data.toList.drop k').length := (one_pos (by rw [one_br hlt' (HC.out.trans h4), hr]; rfl : one (s.data.toList.drop k') = some (n + 1, some (108, (s.data.toList.drop k').take (n + 1))))).2
                  rw [List.length_drop, HL.out] at hn2
                  have HBR := (show Hid (∀ W, Calls Tryz.prog 171 #[.string (s.extract k' s.size)] W fun e w' => e = .returned (.int .i64 ((n + 1 : Nat) : Int)) ∧ Bel W w') from fun W => by
                    have := bracket_run (s.extract k' s.size) W (by rw [ByteArray.size_extract]; omega)
                    rw [Lib.extract_to_end] at this
                    unfold brkN at this
                    rw [hr] at this
                    exact this)
                  obtain ⟨m, hm⟩ : ∃ m, m = n + 1 := ⟨_, rfl⟩
                  rw [← hm] at HN HBR hn2
                  have hm1 : 0 < m := by omega
                  clear h1 h2 h3 h4 hr hm
                  have bm : ((m : Int) == 0) = false := by rw [beq_eq_false_iff_ne]; omega
                  go_wp2_with (first | (go_at_call 168; first | (with_reducible refine (HB.out _ _).mono ?_; rintro e w1 ⟨rfl, rfl⟩) | (with_reducible refine (HS.out _ _).mono ?_; rintro e w1 ⟨rfl, rfl⟩)) | (go_at_call 171; refine (HBR.out _).mono ?_; rintro e w2 ⟨rfl, hb2⟩; have hq2 := hb2.heap (heap_alloc_new wr (.cells #[.int .u8 108, .string ⟨#[]⟩, .int .i64 (k' : Nat), .int .i64 0] 218)); have hr2 : Bel wr w2 := ((Bel.refl wr).alloc _).trans hb2) | (refine wpList_store_one rfl 9 (.tmp 89) (.tmp 88) rfl wr.heap.size 1 (.string (s.extract k' (k' + m))) rfl rfl rfl STRS.out [.int .u8 108, .string ⟨#[]⟩, .int .i64 (k' : Nat), .int .i64 0] _ hq2 (by simp) ?_; intro w3 hq3 ho3 hb3 he3; have hr3 := hb3 wr hr2 (Nat.le_refl _); have hq3 : w3.heap[wr.heap.size]? = some (.cells #[.int .u8 108, .string (s.extract k' (k' + m)), .int .i64 (k' : Nat), .int .i64 0] 218 (0, 0)) := hq3; clear hb3 ho3 he3 hq2 hr2) | (refine wpList_store_one rfl 3 (.tmp 100) (.tmp 99) rfl wr.heap.size 3 (.int .i64 ((k' : Int) + m)) rfl rfl rfl INTS.out [.int .u8 108, .string (s.extract k' (k' + m)), .int .i64 (k' : Nat), .int .i64 0] _ hq3 (by simp) ?_; intro w4 hq4 ho4 hb4 he4; have hr4 := hb4 wr hr3 (Nat.le_refl _); have hq4 : w4.heap[wr.heap.size]? = some (.cells #[.int .u8 108, .string (s.extract k' (k' + m)), .int .i64 (k' : Nat), .int .i64 ((k' : Int) + m)] 218 (0, 0)) := hq4; clear hb4 ho4 he4 hq3 hr3) | (refine wpList_load_mid rfl 218 (.tmp 6) rfl wr.heap.size 0 rfl [.int .u8 108, .string (s.extract k' (k' + m)), .int .i64 (k' : Nat), .int .i64 ((k' : Int) + m)] _ ?_ Tryz.underlying218 rfl TOKS.out ?_; exact Ci.range_of hq4 fun j v hv => by simpa using hv) | (at_builtin; refine wpList_push (a0 := w) (W := w4) rfl (.tmp 101) (.tmp 103) 158 rfl 218 (.agg #[.int .u8 0, .string ⟨#[]⟩, .int .i64 0, .int .i64 0]) 4 40 Tryz.underlying158 tok_infos rfl (by decide) (.slice x T.length p) T.length (tkCs T) rfl (H.out.2.1.next hr4) (H.out.1.trans hr4) _ rfl rfl (by intro u hu; simp at hu; rcases hu with rfl | rfl | rfl | rfl <;> rfl) (by unfold maxLen; omega) (by omega) ?_; intro x' p' w' hown hb))
                  have HN2 := hid (show Bel w w' ∧ Toks w w' (.slice x' (T ++ [(⟨108, (s.data.toList.drop k').take m, k', k' + m⟩ : Tk)]).length p') (T ++ [(⟨108, (s.data.toList.drop k').take m, k', k' + m⟩ : Tk)]) ∧ CuI s.data.toList (k' + m) (T ++ [(⟨108, (s.data.toList.drop k').take m, k', k' + m⟩ : Tk)]) from ⟨hb, toks_snoc hown (tk_text s k' m 108 (k' + m)), HN.out⟩)
                  clear hown hb
                  go_wp2_with fail
                  go_roundg (gk - m)
                  case measure => omega
                  case rel => exact ⟨k' + m, rfl, rfl, by go_num, by omega, hid ⟨T ++ [(⟨108, (s.data.toList.drop k').take m, k', k' + m⟩ : Tk)], x', p', k' + m, by rw [List.length_append]; rfl, rfl, by omega, by omega, by rw [List.length_append]; show T.length + 1 ≤ _; omega, HN2⟩⟩
              · skip
                by_cases h5 : sgB s[k'] = true
                · skip
                  have b1 := idx_pos (c := s[k']) (l := [32, 9, 13, 10]) (good_of h1)
                  have b2 : (((s[k']'hlt).toNat : Int) == 40) = false := byte_ne (n := 40) (by decide) h2
                  have b3 : (((s[k']'hlt).toNat : Int) == 34) = false := byte_ne (n := 34) (by decide) h3
                  have b4 : (((s[k']'hlt).toNat : Int) == 91) = false := byte_ne (n := 91) (by decide) h4
                  have b5 := idx_pos (c := s[k']) (l := [60, 62, 64, 44, 59, 58, 46]) h5
                  have HN := hid (H.out.2.2.tok (one_sg hlt' (by rw [HC.out]; exact h5)))
                  rw [HC.out] at HN
                  have HO := (show Hid (∀ o, (wr.alloc o).ownsRow w.heap.size 218 4 (.slice x T.length p) T.length (tkCs T)) from fun o => H.out.2.1.next ((Bel.refl wr).alloc o))
                  have HW := (show Hid (∀ o, Bel w (wr.alloc o)) from fun o => H.out.1.alloc o)
                  clear h1 h2 h3 h4 h5
                  go_wp2_with (first | (go_at_call 168; first | (with_reducible refine (HB.out _ _).mono ?_; rintro e w1 ⟨rfl, rfl⟩) | (with_reducible refine (HS.out _ _).mono ?_; rintro e w1 ⟨rfl, rfl⟩)) | (at_builtin; refine wpList_push (a0 := w) rfl (.tmp 101) (.tmp 103) 158 rfl 218 (.agg #[.int .u8 0, .string ⟨#[]⟩, .int .i64 0, .int .i64 0]) 4 40 Tryz.underlying158 tok_infos rfl (by decide) (.slice x T.length p) T.length (tkCs T) rfl (HO.out _) (HW.out _) _ (by rw [World.size_alloc]; rfl) rfl (by intro u hu; simp at hu; rcases hu with rfl | rfl | rfl | rfl <;> rfl) (by unfold maxLen; omega) (by omega) ?_; intro x' p' w' hown hb))
                  have HN2 := hid (show Bel w w' ∧ Toks w w' (.slice x' (T ++ [(⟨s[k'], [], k', k' + 1⟩ : Tk)]).length p') (T ++ [(⟨s[k'], [], k', k' + 1⟩ : Tk)]) ∧ CuI s.data.toList (k' + 1) (T ++ [(⟨s[k'], [], k', k' + 1⟩ : Tk)]) from ⟨hb, toks_snoc hown rfl, HN.out⟩)
                  clear hown hb
                  go_wp2_with fail
                  go_roundg (gk - 1)
                  case measure => omega
                  case rel => exact ⟨k' + 1, rfl, rfl, by go_num, by omega, hid ⟨T ++ [(⟨s[k'], [], k', k' + 1⟩ : Tk)], x', p', k' + 1, by rw [List.length_append]; rfl, rfl, by omega, by omega, by rw [List.length_append]; show T.length + 1 ≤ _; omega, HN2⟩⟩
                · skip
                  have b1 := idx_pos (c := s[k']) (l := [32, 9, 13, 10]) (good_of h1)
                  have b2 : (((s[k']'hlt).toNat : Int) == 40) = false := byte_ne (n := 40) (by decide) h2
                  have b3 : (((s[k']'hlt).toNat : Int) == 34) = false := byte_ne (n := 34) (by decide) h3
                  have b4 : (((s[k']'hlt).toNat : Int) == 91) = false := byte_ne (n := 91) (by decide) h4
                  have b5 := idx_pos (c := s[k']) (l := [60, 62, 64, 44, 59, 58, 46]) (good_of h5)
                  have HO1 := hid (one_else hlt' (by rw [HC.out]; exact good_of h1) (by rw [HC.out]; exact h2) (by rw [HC.out]; exact h3) (by rw [HC.out]; exact h4) (by rw [HC.out]; exact good_of h5))
                  clear h1 h2 h3 h4 h5
                  go_wp2_with (first | (go_at_call 168; first | (with_reducible refine (HB.out _ _).mono ?_; rintro e w1 ⟨rfl, rfl⟩) | (with_reducible refine (HS.out _ _).mono ?_; rintro e w1 ⟨rfl, rfl⟩)))
                  obtain ⟨wo, rfl⟩ : ∃ z, z = wr := ⟨_, rfl⟩
                  go_loopg [7] (s.size + 1) (fun gi v7 wz => ∃ m : Nat, v7 = .int .i64 m ∧ m + gi = s.size + 1 ∧ k' + m ≤ s.size ∧ Hid (Bel (wo.alloc (.cells #[.int .u8 97, .string ⟨#[]⟩, .int .i64 (k' : Nat), .int .i64 0] 218)) wz ∧ atN (s.data.toList.drop k') = m + atN (s.data.toList.drop (k' + m))))
                  case atStart => exact ⟨0, rfl, by omega, by omega, hid ⟨Bel.refl _, by rw [Nat.zero_add, Nat.add_zero]⟩⟩
                  case round =>
                    obtain ⟨m, rfl, hmg, hkm, HI⟩ := hrel
                    obtain ⟨w2, rfl⟩ : ∃ z, z = wr := ⟨_, rfl⟩
                    by_cases hl2 : k' + m < s.size
                    · have e1 : decide (((k' : Int) + (m : Int)) < (s.size : Int)) = true := decide_eq_true (by omega)
                      have hl2' : k' + m < s.data.toList.length := by rw [HL.out]; exact hl2
                      have HC2 := hid (show s.data.toList[k' + m]'hl2' = s[k' + m] from rfl)
                      by_cases ha : atB s[k' + m] = true
                      · have HIA := (show Hid (∀ W, Calls Tryz.prog 172 #[.int .u8 (s[k' + m]'hl2).toNat] W fun e w' => e = .returned (.bool true) ∧ Bel W w') from fun W => by have := inAtom_run (s[k' + m]'hl2) W; rw [ha] at this; exact this)
                        have hat := HI.out.2
                        rw [drop_at hl2', atN, HC2.out, if_pos ha] at hat
                        have HT := hid hat
                        clear ha hat
                        go_wp2_with (first | (go_at_call 172; refine (HIA.out _).mono ?_; rintro e w3 ⟨rfl, hb3⟩))
                        go_roundg (gk - 1)
                        case measure => omega
                        case rel => exact ⟨m + 1, by go_num, by omega, by omega, hid ⟨HI.out.1.trans hb3, by rw [HT.out, Nat.add_assoc k' m 1]; omega⟩⟩
                      · have HIA := (show Hid (∀ W, Calls Tryz.prog 172 #[.int .u8 (s[k' + m]'hl2).toNat] W fun e w' => e = .returned (.bool false) ∧ Bel W w') from fun W => by have := inAtom_run (s[k' + m]'hl2) W; rw [good_of ha] at this; exact this)
                        have hat := HI.out.2
                        rw [drop_at hl2', atN, HC2.out, if_neg ha, Nat.add_zero] at hat
                        clear ha
                        have hb2 := HI.out.1
                        have hq2 := hb2.heap (heap_alloc_new wo (.cells #[.int .u8 97, .string ⟨#[]⟩, .int .i64 (k' : Nat), .int .i64 0] 218))
                        have hr2 : Bel wo w2 := ((Bel.refl wo).alloc _).trans hb2
                        by_cases hm0 : m = 0
                        · skip
                          subst hm0
                          have HF := (show Hid (∀ W', Bel w W' → CutPost s w (.returned (.tuple #[.slice none 0 0, .bool false])) W') from fun W' hb => cut_none hb (H.out.2.2.bad hlt' (by rw [HO1.out, hat, if_pos rfl])))
                          clear hat HO1
                          go_wp2_with (first | (go_at_call 172; refine (HIA.out _).mono ?_; rintro e w3' ⟨rfl, hb3'⟩; have hq2 := hb3'.heap hq2; have hr2 := hr2.trans hb3') | (refine wpList_store_one rfl 9 (.tmp 44) (.tmp 43) rfl wo.heap.size 1 _ rfl rfl rfl STRS.out [.int .u8 97, .string ⟨#[]⟩, .int .i64 (k' : Nat), .int .i64 0] _ hq2 (by simp) ?_; intro w3 hq3 ho3 hb3 he3; have hr3 := hb3 wo hr2 (Nat.le_refl _); clear hb3 ho3 he3 hq2 hr2 hq3))
                          simp +zetaDelta only [Exit.jump]
                          go_ret2
                          exact HF.out _ (H.out.1.trans hr3)
                        · skip
                          have HN := hid (H.out.2.2.tok (n := m) (kd := 97) (x := (s.data.toList.drop k').take m) (by rw [HO1.out, hat, if_neg (by omega)]))
                          have bm : ((m : Int) == 0) = false := by rw [beq_eq_false_iff_ne]; omega
                          clear hat HO1
                          go_wp2_with (first | (go_at_call 172; refine (HIA.out _).mono ?_; rintro e w3' ⟨rfl, hb3'⟩; have hq2 := hb3'.heap hq2; have hr2 := hr2.trans hb3') | (refine wpList_store_one rfl 9 (.tmp 44) (.tmp 43) rfl wo.heap.size 1 (.string (s.extract k' (k' + m))) rfl rfl rfl STRS.out [.int .u8 97, .string ⟨#[]⟩, .int .i64 (k' : Nat), .int .i64 0] _ hq2 (by simp) ?_; intro w3 hq3 ho3 hb3 he3; have hr3 := hb3 wo hr2 (Nat.le_refl _); have hq3 : w3.heap[wo.heap.size]? = some (.cells #[.int .u8 97, .string (s.extract k' (k' + m)), .int .i64 (k' : Nat), .int .i64 0] 218 (0, 0)) := hq3; clear hb3 ho3 he3 hq2 hr2) | (refine wpList_store_one rfl 3 (.tmp 100) (.tmp 99) rfl wo.heap.size 3 (.int .i64 ((k' : Int) + m)) rfl rfl rfl INTS.out [.int .u8 97, .string (s.extract k' (k' + m)), .int .i64 (k' : Nat), .int .i64 0] _ hq3 (by simp) ?_; intro w4 hq4 ho4 hb4 he4; have hr4 := hb4 wo hr3 (Nat.le_refl _); have hq4 : w4.heap[wo.heap.size]? = some (.cells #[.int .u8 97, .string (s.extract k' (k' + m)), .int .i64 (k' : Nat), .int .i64 ((k' : Int) + m)] 218 (0, 0)) := hq4; clear hb4 ho4 he4 hq3 hr3) | (refine wpList_load_mid rfl 218 (.tmp 6) rfl wo.heap.size 0 rfl [.int .u8 97, .string (s.extract k' (k' + m)), .int .i64 (k' : Nat), .int .i64 ((k' : Int) + m)] _ ?_ Tryz.underlying218 rfl TOKS.out ?_; exact Ci.range_of hq4 fun j v hv => by simpa using hv) | (at_builtin; refine wpList_push (a0 := w) (W := w4) rfl (.tmp 101) (.tmp 103) 158 rfl 218 (.agg #[.int .u8 0, .string ⟨#[]⟩, .int .i64 0, .int .i64 0]) 4 40 Tryz.underlying158 tok_infos rfl (by decide) (.slice x T.length p) T.length (tkCs T) rfl (H.out.2.1.next hr4) (H.out.1.trans hr4) _ rfl rfl (by intro u hu; simp at hu; rcases hu with rfl | rfl | rfl | rfl <;> rfl) (by unfold maxLen; omega) (by omega) ?_; intro x' p' w' hown hb))
                          have HN2 := hid (show Bel w w' ∧ Toks w w' (.slice x' (T ++ [(⟨97, (s.data.toList.drop k').take m, k', k' + m⟩ : Tk)]).length p') (T ++ [(⟨97, (s.data.toList.drop k').take m, k', k' + m⟩ : Tk)]) ∧ CuI s.data.toList (k' + m) (T ++ [(⟨97, (s.data.toList.drop k').take m, k', k' + m⟩ : Tk)]) from ⟨hb, toks_snoc hown (tk_text s k' m 97 (k' + m)), HN.out⟩)
                          clear hown hb
                          go_wp2_with fail
                          go_roundg (s.size + 1 - k' - m)
                          case measure => omega
                          case rel => exact ⟨k' + m, rfl, rfl, by go_num, by omega, hid ⟨T ++ [(⟨97, (s.data.toList.drop k').take m, k', k' + m⟩ : Tk)], x', p', k' + m, by rw [List.length_append]; rfl, rfl, by omega, by omega, by rw [List.length_append]; show T.length + 1 ≤ _; omega, HN2⟩⟩
                    · have e1 : decide (((k' : Int) + (m : Int)) < (s.size : Int)) = false := decide_eq_false (by omega)
                      have hat := HI.out.2
                      rw [List.drop_eq_nil_of_le (by rw [HL.out]; omega : s.data.toList.length ≤ k' + m), atN, Nat.add_zero] at hat
                      have hb2 := HI.out.1
                      have hq2 := hb2.heap (heap_alloc_new wo (.cells #[.int .u8 97, .string ⟨#[]⟩, .int .i64 (k' : Nat), .int .i64 0] 218))
                      have hr2 : Bel wo w2 := ((Bel.refl wo).alloc _).trans hb2
                      by_cases hm0 : m = 0
                      · skip
                        exact absurd hlt (by omega)
                      · skip
                        have HN := hid (H.out.2.2.tok (n := m) (kd := 97) (x := (s.data.toList.drop k').take m) (by rw [HO1.out, hat, if_neg (by omega)]))
                        have bm : ((m : Int) == 0) = false := by rw [beq_eq_false_iff_ne]; omega
                        clear hat HO1
                        go_wp2_with (first | (refine wpList_store_one rfl 9 (.tmp 44) (.tmp 43) rfl wo.heap.size 1 (.string (s.extract k' (k' + m))) rfl rfl rfl STRS.out [.int .u8 97, .string ⟨#[]⟩, .int .i64 (k' : Nat), .int .i64 0] _ hq2 (by simp) ?_; intro w3 hq3 ho3 hb3 he3; have hr3 := hb3 wo hr2 (Nat.le_refl _); have hq3 : w3.heap[wo.heap.size]? = some (.cells #[.int .u8 97, .string (s.extract k' (k' + m)), .int .i64 (k' : Nat), .int .i64 0] 218 (0, 0)) := hq3; clear hb3 ho3 he3 hq2 hr2) | (refine wpList_store_one rfl 3 (.tmp 100) (.tmp 99) rfl wo.heap.size 3 (.int .i64 ((k' : Int) + m)) rfl rfl rfl INTS.out [.int .u8 97, .string (s.extract k' (k' + m)), .int .i64 (k' : Nat), .int .i64 0] _ hq3 (by simp) ?_; intro w4 hq4 ho4 hb4 he4; have hr4 := hb4 wo hr3 (Nat.le_refl _); have hq4 : w4.heap[wo.heap.size]? = some (.cells #[.int .u8 97, .string (s.extract k' (k' + m)), .int .i64 (k' : Nat), .int .i64 ((k' : Int) + m)] 218 (0, 0)) := hq4; clear hb4 ho4 he4 hq3 hr3) | (refine wpList_load_mid rfl 218 (.tmp 6) rfl wo.heap.size 0 rfl [.int .u8 97, .string (s.extract k' (k' + m)), .int .i64 (k' : Nat), .int .i64 ((k' : Int) + m)] _ ?_ Tryz.underlying218 rfl TOKS.out ?_; exact Ci.range_of hq4 fun j v hv => by simpa using hv) | (at_builtin; refine wpList_push (a0 := w) (W := w4) rfl (.tmp 101) (.tmp 103) 158 rfl 218 (.agg #[.int .u8 0, .string ⟨#[]⟩, .int .i64 0, .int .i64 0]) 4 40 Tryz.underlying158 tok_infos rfl (by decide) (.slice x T.length p) T.length (tkCs T) rfl (H.out.2.1.next hr4) (H.out.1.trans hr4) _ rfl rfl (by intro u hu; simp at hu; rcases hu with rfl | rfl | rfl | rfl <;> rfl) (by unfold maxLen; omega) (by omega) ?_; intro x' p' w' hown hb))
                        have HN2 := hid (show Bel w w' ∧ Toks w w' (.slice x' (T ++ [(⟨97, (s.data.toList.drop k').take m, k', k' + m⟩ : Tk)]).length p') (T ++ [(⟨97, (s.data.toList.drop k').take m, k', k' + m⟩ : Tk)]) ∧ CuI s.data.toList (k' + m) (T ++ [(⟨97, (s.data.toList.drop k').take m, k', k' + m⟩ : Tk)]) from ⟨hb, toks_snoc hown (tk_text s k' m 97 (k' + m)), HN.out⟩)
                        clear hown hb
                        go_wp2_with fail
                        go_roundg (s.size + 1 - k' - m)
                        case measure => omega
                        case rel => exact ⟨k' + m, rfl, rfl, by go_num, by omega, hid ⟨T ++ [(⟨97, (s.data.toList.drop k').take m, k', k' + m⟩ : Tk)], x', p', k' + m, by rw [List.length_append]; rfl, rfl, by omega, by omega, by rw [List.length_append]; show T.length + 1 ≤ _; omega, HN2⟩⟩
      · skip
        obtain rfl : k' = s.size := by omega
        have HX := hid (H.out.2.2.end_ HL.out.symm)
        go_wp2_with (first | (at_builtin; refine wpList_push (a0 := w) (W := wr) rfl (.tmp 105) (.tmp 109) 158 rfl 218 (.agg #[.int .u8 0, .string ⟨#[]⟩, .int .i64 0, .int .i64 0]) 4 40 Tryz.underlying158 tok_infos rfl (by decide) (.slice x T.length p) T.length (tkCs T) rfl H.out.2.1 H.out.1 _ rfl rfl (by intro u hu; simp at hu; rcases hu with rfl | rfl | rfl | rfl <;> rfl) (by unfold maxLen; omega) (by omega) ?_; intro x' p' w' hown hb))
        simp +zetaDelta only [Exit.jump]
        go_ret2
        have ht := toks_snoc (t := ⟨101, [], s.size, s.size⟩) hown rfl
        rw [List.length_append] at ht
        exact cut_some hb HX.out ht
end Go.Proofs.YtmlmkmhkmifnkaaGreatDoor.Ma

/- The parser in memory; is, take, want, took. -/
namespace Go.Proofs.YtmlmkmhkmifnkaaGreatDoor.Ma
open Go.RowKit
open Ci (Bel own_bel row_shape addr_add own_base)

structure Cx where
  W : World
  lb : Nat
  body : ByteArray
  T : List Tk
def spC (x : Sp) : List Value := [.string ⟨x.loc.toArray⟩, .string ⟨x.dom.toArray⟩, .int .i64 x.from_, .int .i64 x.til, .string ⟨x.name.toArray⟩]
def spCs (l : List Sp) : List Value := l.flatMap spC
/-- What a parser stands on: its tokens, an end behind them. -/
structure Cx.Ok (X : Cx) : Prop where
  tk : ∀ j v, (tkCs X.T)[j]? = some v → X.W.cell? ⟨X.lb, j, none⟩ = some v
  lt : X.lb < X.W.heap.size
  num : X.T.length ≤ 65537
  en : ∃ T' e, X.T = T' ++ [e] ∧ e.kind = 101 ∧ ∀ t ∈ T', t.kind ≠ 101
  nn : ∀ t ∈ X.T, t.kind ≠ 0
  tx : ∀ t ∈ X.T, t.text.length ≤ 65536
/-- A parser's state in memory. -/
structure Ps (X : Cx) (st : St) (sl : Value) (w : World) : Prop where
  bel : Bel X.W w
  at_ : ∃ (k cp : Nat) (ad : Option Addr), st.l = X.T.drop k ∧ k ≤ X.T.length ∧ st.l.length ≤ cp ∧ cp ≤ maxLen ∧ (0 < st.l.length → ad = some ⟨X.lb, k * 4, none⟩) ∧
    w.heap[X.W.heap.size]? = some (.cells #[.string X.body, .slice ad st.l.length cp, .bool st.bad, sl] 164 (0, 0))
  own : w.ownsRow (X.W.heap.size + 1) 167 5 sl st.all.length (spCs st.all)
/-- All that was there but the parser is as it was. -/
structure Exc (b : Nat) (w w' : World) : Prop where
  le : w.heap.size ≤ w'.heap.size
  eq : ∀ j, j < w.heap.size → j ≠ b → w'.heap[j]? = w.heap[j]?
theorem Exc.refl (b : Nat) (w : World) : Exc b w w := ⟨Nat.le_refl _, fun _ _ _ => rfl⟩
theorem Exc.trans {b : Nat} {w w1 w2 : World} (h : Exc b w w1) (k : Exc b w1 w2) : Exc b w w2 :=
  ⟨Nat.le_trans h.le k.le, fun j hj hn => (k.eq j (Nat.lt_of_lt_of_le hj h.le) hn).trans (h.eq j hj hn)⟩
theorem Exc.bel {b : Nat} {w w' : World} (h : Bel w w') : Exc b w w' := ⟨h.size, fun j hj _ => h.block j hj⟩
theorem Exc.heap {b : Nat} {w w' : World} (h : Exc b w w') {j : Nat} {o : Obj} (hj : w.heap[j]? = some o) (hn : j ≠ b) : w'.heap[j]? = some o :=
  (h.eq j (Array.getElem?_eq_some_iff.1 hj).1 hn).trans hj
theorem own_other {w w' : World} {base b e size n : Nat} {v : Value} {xs : List Value} (h : w.ownsRow base e size v n xs) (hb : b < base) (he : ∀ k, k ≠ b → w'.heap[k]? = w.heap[k]?) : w'.ownsRow base e size v n xs := by
  refine ⟨h.1, ?_⟩
  rcases h.2 with f | ⟨g, cap, cur, rfl, hg, hh, rest⟩
  · exact .inl f
  · exact .inr ⟨g, cap, cur, rfl, hg, by rw [he g (by omega)]; exact hh, rest⟩
theorem Ps.next {X : Cx} {st : St} {sl : Value} {w w' : World} (h : Ps X st sl w) (hb : Bel w w') : Ps X st sl w' := by
  obtain ⟨k, cp, ad, h1, h2, h3, h4, h5, h6⟩ := h.at_
  exact ⟨h.bel.trans hb, ⟨k, cp, ad, h1, h2, h3, h4, h5, hb.heap h6⟩, own_bel h.own hb⟩
/-- The parser was written. -/
theorem Ps.upd {X : Cx} {st st' : St} {sl : Value} {w w' : World} (h : Ps X st sl w) (he : ∀ k, k ≠ X.W.heap.size → w'.heap[k]? = w.heap[k]?) (hb : ∀ U : World, Bel U w → U.heap.size ≤ X.W.heap.size → Bel U w') (ha : st'.all = st.all)
    (hat : ∃ (k cp : Nat) (ad : Option Addr), st'.l = X.T.drop k ∧ k ≤ X.T.length ∧ st'.l.length ≤ cp ∧ cp ≤ maxLen ∧ (0 < st'.l.length → ad = some ⟨X.lb, k * 4, none⟩) ∧
    w'.heap[X.W.heap.size]? = some (.cells #[.string X.body, .slice ad st'.l.length cp, .bool st'.bad, sl] 164 (0, 0))) : Ps X st' sl w' :=
  ⟨hb _ h.bel (Nat.le_refl _), hat, by rw [ha]; exact own_other h.own (Nat.lt_succ_self _) he⟩
theorem Exc.upd {b : Nat} {w w' : World} (hs : w.heap.size ≤ w'.heap.size) (he : ∀ k, k ≠ b → w'.heap[k]? = w.heap[k]?) : Exc b w w' := ⟨hs, fun j _ hn => he j hn⟩
theorem tkCs_at (T : List Tk) (k : Nat) (hk : k < T.length) (j : Nat) (v : Value) (hv : (tkC T[k])[j]? = some v) : (tkCs T)[k * 4 + j]? = some v := by
  induction T generalizing k with
  | nil => simp at hk
  | cons t T ih =>
    show (tkC t ++ tkCs T)[k * 4 + j]? = some v
    have hl : (tkC t).length = 4 := rfl
    cases k with
    | zero =>
      have hj : j < 4 := by
        have := (List.getElem?_eq_some_iff.1 hv).1
        exact this
      rw [List.getElem?_append_left (by omega), Nat.zero_mul, Nat.zero_add]
      exact hv
    | succ k =>
      rw [List.getElem?_append_right (by omega), hl, show (k + 1) * 4 + j - 4 = k * 4 + j by omega]
      exact ih k (by simp at hk; omega) hv
/-- A token in hand. -/
theorem Ps.tok {X : Cx} {st : St} {sl : Value} {w : World} (hX : X.Ok) (h : Ps X st sl w) {k : Nat} (hl : st.l = X.T.drop k) (i : Nat) (hi : i < st.l.length) : w.rangeAt X.lb ((k + i) * 4) (tkC st.l[i]) := by
  have hk : k + i < X.T.length := by rw [hl, List.length_drop] at hi; omega
  have e : st.l[i] = X.T[k + i] := by simp [hl]
  intro j v hv
  rw [e] at hv
  have hc := hX.tk _ v (tkCs_at X.T (k + i) hk j v hv)
  unfold World.cell? at hc ⊢
  simp only at hc ⊢
  rw [h.bel.block X.lb hX.lt]
  exact hc
theorem hd_eq {st : St} (h : 0 < st.l.length) : hd st = st.l[0] := by
  unfold hd
  cases st with
  | mk bad l all => cases l with
    | nil => simp at h
    | cons t l => rfl
/-! take -/
/-- What a method leaves: the state, and all else as it was. -/
structure Pw (X : Cx) (st : St) (sl : Value) (w w' : World) : Prop where
  ps : Ps X st sl w'
  ex : Exc X.W.heap.size w w'
theorem Pw.trans {X : Cx} {st st' : St} {sl sl' : Value} {w w1 w2 : World} (h : Pw X st sl w w1) (k : Pw X st' sl' w1 w2) : Pw X st' sl' w w2 := ⟨k.ps, h.ex.trans k.ex⟩
theorem wpList_store_blk {P : Program} {ops : Array Oper} {rest : List Oper} {op : Oper} {a : Act} {w : World} {Q : Exit → Act → World → Prop} (hgd : op.guard = none) (ty : TypeId) (x y : Operand) (ho : op.op = .store ty x y)
    (b : Nat) (vs : List Value) (hx : a.eval x = .pointer (some ⟨b, 0, none⟩)) (hy : a.eval y = .agg vs.toArray) (hi : (P.info? ty).map (·.size) = some vs.length) (h1 : vs.toArray.all (·.oneCell') = true)
    (cs : List Value) (T : TypeId) (hb : w.heap[b]? = some (.cells cs.toArray T (0, 0))) (hl : vs.length = cs.length)
    (h : ∀ w', w'.heap[b]? = some (.cells vs.toArray T (0, 0)) → (∀ k, k ≠ b → w'.heap[k]? = w.heap[k]?) → w'.heap.size = w.heap.size → (∀ U : World, Bel U w → U.heap.size ≤ b → Bel U w') → wpList P ops Q rest (a.put op.dst undef) w') :
    wpList P ops Q (op :: rest) a w := by
  refine wpList_store_mid hgd ty x y ho b 0 vs.toArray hx hy (Ci.there_of hb (by rw [List.size_toArray]; omega)) (by rw [List.size_toArray]; exact hi) h1 ?_
  rw [List.toList_toArray]
  exact h _ (Ci.heap_setCells_whole hb hl) (fun k hk => Ci.heap_setCells_other b k hk vs 0 w) (Ci.size_setCells b vs 0 w) fun U hU hs => Ci.Bel.setCells hs vs 0 w hU
end Go.Proofs.YtmlmkmhkmifnkaaGreatDoor.Ma

/- took, want, word. -/
namespace Go.Proofs.YtmlmkmhkmifnkaaGreatDoor.Ma
open Go.RowKit
open Ci (Bel own_bel row_shape addr_add own_base)

/-- The mark was written. -/
theorem Pw.bad {X : Cx} {st : St} {sl : Value} {w w1 w2 : World} {ad : Option Addr} {n cp : Nat} {b : Bool} (h : Pw X st sl w w1)
    (hp : w1.heap[X.W.heap.size]? = some (.cells #[.string X.body, .slice ad n cp, .bool st.bad, sl] 164 (0, 0)))
    (hp2 : w2.heap[X.W.heap.size]? = some (.cells #[.string X.body, .slice ad n cp, .bool b, sl] 164 (0, 0)))
    (ho : ∀ k, k ≠ X.W.heap.size → w2.heap[k]? = w1.heap[k]?) (hb : ∀ U : World, Bel U w1 → U.heap.size ≤ X.W.heap.size → Bel U w2) (hs : w2.heap.size = w1.heap.size) : Pw X ⟨b, st.l, st.all⟩ sl w w2 := by
  obtain ⟨k, cp', ad', h1, h2, h3, h4, h5, h6⟩ := h.ps.at_
  have e := h6.symm.trans hp
  simp only [Option.some.injEq, Obj.cells.injEq, and_true] at e
  have e1 : ad' = ad ∧ st.l.length = n ∧ cp' = cp := by
    have := congrArg (fun a : Array Value => a.toList) e
    simpa using this
  obtain ⟨rfl, e2, e3⟩ := e1
  subst e2 e3
  exact ⟨h.ps.upd (st' := ⟨b, st.l, st.all⟩) ho hb rfl ⟨k, cp', ad', h1, h2, h3, h4, h5, hp2⟩, h.ex.trans (Exc.upd (by omega) ho)⟩
end Go.Proofs.YtmlmkmhkmifnkaaGreatDoor.Ma

/- word, domain. -/
namespace Go.Proofs.YtmlmkmhkmifnkaaGreatDoor.Ma
open Go.RowKit
open Ci (Bel own_bel row_shape addr_add own_base)

/-- Tokens are left. -/
def Sf (X : Cx) (st : St) : Prop := ∃ q, st.l = X.T.drop q ∧ q < X.T.length
theorem Sf.pos {X : Cx} {st : St} (h : Sf X st) : 0 < st.l.length := by
  obtain ⟨q, e, h⟩ := h
  rw [e, List.length_drop]; omega
theorem Sf.drop {X : Cx} {st : St} (hX : X.Ok) (h : Sf X st) (n : Nat) (hn : n < st.l.length) (hk : st.l[n].kind ≠ 101) (bad : Bool) (all : List Sp) : Sf X ⟨bad, st.l.drop (n + 1), all⟩ := by
  obtain ⟨q, e, h⟩ := h
  refine ⟨q + (n + 1), by rw [e, List.drop_drop], ?_⟩
  rw [e, List.length_drop] at hn
  refine Classical.byContradiction fun hh => hk ?_
  have hq : q + n = X.T.length - 1 := by omega
  have e2 : st.l[n] = X.T[q + n]'(by omega) := by simp [e]
  obtain ⟨T', en, eT, h1, h2⟩ := hX.en
  have hl : X.T.length = T'.length + 1 := by rw [eT]; simp
  have e3 : X.T[q + n]'(by omega) = en := by
    have : q + n = T'.length := by omega
    simp [eT, this]
  rw [e2, e3, h1]
theorem Sf.take {X : Cx} {st : St} (hX : X.Ok) (h : Sf X st) {k : UInt8} (hk : k ≠ 101) : Sf X (takeS k st) := by
  unfold takeS
  by_cases hq : isQ k st = true
  · rw [if_pos hq]
    have hp := h.pos
    have := h.drop hX 0 hp (by
      have e : (hd st).kind = k := by
        unfold isQ at hq
        simp at hq
        exact hq.2
      rw [hd_eq hp] at e
      rw [e]; exact hk) st.bad st.all
    simpa using this
  · rw [if_neg hq]; exact h
theorem Sf.same {X : Cx} {st st' : St} (h : Sf X st) (e : st'.l = st.l) : Sf X st' := by
  obtain ⟨q, e1, h1⟩ := h
  exact ⟨q, e.trans e1, h1⟩
theorem Sf.want {X : Cx} {st : St} (hX : X.Ok) (h : Sf X st) {k : UInt8} (hk : k ≠ 101) : Sf X (wantS k st) := (h.take hX hk).same rfl
end Go.Proofs.YtmlmkmhkmifnkaaGreatDoor.Ma

/- domain. -/
namespace Go.Proofs.YtmlmkmhkmifnkaaGreatDoor.Ma
open Go.RowKit
open Ci (Bel own_bel row_shape addr_add own_base)

theorem Sf.text {X : Cx} {st : St} (hX : X.Ok) (h : Sf X st) (k : UInt8) : (takeT k st).text.length ≤ 65536 := by
  unfold takeT
  split
  · have hp := h.pos
    rw [hd_eq hp]
    obtain ⟨q, e, hq⟩ := h
    refine hX.tx _ ?_
    have h1 : ∀ t ∈ st.l, t ∈ X.T := fun t ht => List.mem_of_mem_drop (e ▸ ht)
    exact h1 _ (List.getElem_mem hp)
  · exact Nat.zero_le _
theorem Sf.le {X : Cx} {st : St} (hX : X.Ok) (h : Sf X st) : st.l.length ≤ 65537 := by
  obtain ⟨q, e, hq⟩ := h
  have := hX.num
  rw [e, List.length_drop]; omega
end Go.Proofs.YtmlmkmhkmifnkaaGreatDoor.Ma

/- phrase. -/
namespace Go.Proofs.YtmlmkmhkmifnkaaGreatDoor.Ma
open Go.RowKit
open Ci (Bel own_bel row_shape addr_add own_base)

/-- What stands of a phrase in hand. -/
structure PhS (l : List Tk) (k e : Nat) : Prop where
  hn : phN 0 l = k + phN k (l.drop k)
  he : phE 0 0 l = phE k e (l.drop k)
  hj : (k = 0 ∧ e = 0) ∨ ∃ j, ∃ h : j < l.length, e = l[j].til
theorem PhS.stop {l : List Tk} {k e : Nat} (h : PhS l k e) (hk : k < l.length) (c : (wrd l[k].kind || (l[k].kind == 46 && k != 0)) = false) : phN 0 l = k ∧ phE 0 0 l = e := by
  have hd' : l.drop k = l[k] :: l.drop (k + 1) := List.drop_eq_getElem_cons hk
  refine ⟨?_, ?_⟩
  · rw [h.hn, hd', phN, if_neg (by rw [c]; simp)]; omega
  · rw [h.he, hd', phE, if_neg (by rw [c]; simp)]
theorem PhS.end_ {l : List Tk} {k e : Nat} (h : PhS l k e) (hk : l.length ≤ k) : phN 0 l = k ∧ phE 0 0 l = e := by
  refine ⟨?_, ?_⟩
  · rw [h.hn, List.drop_eq_nil_of_le hk]; rfl
  · rw [h.he, List.drop_eq_nil_of_le hk]; rfl
end Go.Proofs.YtmlmkmhkmifnkaaGreatDoor.Ma

/- Ahead of mailbox: what is left behind a phrase, a domain, a mailbox. -/
namespace Go.Proofs.YtmlmkmhkmifnkaaGreatDoor.Ma
open Go.RowKit

theorem Sf.end_ {X : Cx} {st : St} (hX : X.Ok) (h : Sf X st) : ∃ t ∈ st.l, t.kind = 101 := by
  obtain ⟨q, e, hq⟩ := h
  obtain ⟨T', en, eT, h1, _⟩ := hX.en
  refine ⟨en, ?_, h1⟩
  have hl : q ≤ T'.length := by rw [eT, List.length_append, List.length_singleton] at hq; omega
  rw [e, eT, List.drop_append_of_le_length hl]
  simp
theorem Sf.domLoop {X : Cx} (hX : X.Ok) : ∀ (n : Nat) (s : List UInt8) (t : Tk) (st : St), Sf X st → Sf X (domLoop n s t st).2.2
  | 0, _, _, _, h => h
  | n + 1, s, t, st, h => by
    rw [Ma.domLoop]
    split
    · exact Sf.domLoop hX n _ _ _ ((h.take hX (by decide)).want hX (by decide))
    · exact h
theorem Sf.dom {X : Cx} {st : St} (hX : X.Ok) (h : Sf X st) : Sf X (domQ st).2.2 := by
  unfold domQ
  split
  · exact h.take hX (by decide)
  · exact Sf.domLoop hX _ _ _ _ (h.want hX (by decide))
end Go.Proofs.YtmlmkmhkmifnkaaGreatDoor.Ma

/- Mailboxes of SMTP, in plain terms; which texts stand for them in a field. -/
namespace Go.Proofs.YtmlmkmhkmifnkaaGreatDoor.Ma
open Ci (splitL addrQ formQ Nt rightQ)

structure Pt where
  null : Bool
  loc : List UInt8
  dom : List UInt8
  lit : Bool
deriving DecidableEq
def lowB (b : UInt8) : UInt8 := if 65 ≤ b.toNat ∧ b.toNat ≤ 90 then b + 32 else b
def lowL (l : List UInt8) : List UInt8 := l.map lowB
/-- A letter or a digit. -/
def lgB (b : UInt8) : Bool := (decide (97 ≤ b.toNat) && decide (b.toNat ≤ 122)) || (decide (65 ≤ b.toNat) && decide (b.toNat ≤ 90)) || (decide (48 ≤ b.toNat) && decide (b.toNat ≤ 57))
def ldhB (b : UInt8) : Bool := lgB b || b == 45
def patB (b : UInt8) : Bool := lgB b || ([33, 35, 36, 37, 38, 39, 42, 43, 45, 47, 61, 63, 94, 95, 96, 123, 124, 125, 126] : List UInt8).contains b
def lblQ (l : List UInt8) : Bool := !l.isEmpty && decide (l.length ≤ 63) && l.all ldhB && l.head? != some 45 && l.getLast? != some 45
def namedQ (s : List UInt8) : Bool := (splitL 46 s).all lblQ
def ipv6 : List UInt8 := [105, 112, 118, 54, 58]
def IPv6 : List UInt8 := [73, 80, 118, 54, 58]
def isLit (s : List UInt8) : Bool := decide (1 < s.length) && s.head? == some 91 && s.getLast? == some 93
def innerQ (s : List UInt8) : List UInt8 := (s.take (s.length - 1)).drop 1
def sixQ' (i : List UInt8) : Bool := decide (4 < i.length) && lowL (i.take 5) == ipv6
def stripQ (i : List UInt8) : List UInt8 := if sixQ' i then i.drop 5 else i
/-- A domain: its form, whether it is a literal, the error. -/
def domainQ (s : List UInt8) : List UInt8 × Bool × Int :=
  if isLit s then match addrQ (stripQ (innerQ s)) with
    | some n => if n.six = sixQ' (innerQ s) then (formQ n, true, 0) else ([], false, 90)
    | none => ([], false, 90)
  else if !namedQ s then ([], false, 90) else if 255 < s.length then ([], false, 91) else (lowL s, false, 0)
def dottedQ (s : List UInt8) : Bool := (splitL 46 s).all fun a => !a.isEmpty && a.all patB
def esc (b : UInt8) : List UInt8 := if b = 34 ∨ b = 92 then [92, b] else [b]
def formP (s : List UInt8) : List UInt8 := if dottedQ s then s else 34 :: (s.flatMap esc ++ [34])
def sixP (p : Pt) : Bool := match addrQ p.dom with
  | some n => n.six
  | none => false
/-- The domain as it stands in a form. -/
def domP (p : Pt) : List UInt8 := if p.lit then [91] ++ (if sixP p then IPv6 else []) ++ p.dom ++ [93] else p.dom
def shownP (p : Pt) : List UInt8 := if p.null then [] else if !p.lit && p.dom.isEmpty then formP p.loc else formP p.loc ++ [64] ++ domP p
def oddB (b : UInt8) : Bool := decide (b.toNat < 32) || decide (126 < b.toNat)
def pmL : List UInt8 := [112, 111, 115, 116, 109, 97, 115, 116, 101, 114]
def mayQ (p : Pt) : Bool :=
  if p.null then p == ⟨true, [], [], false⟩
  else if p.loc.isEmpty || p.loc.any oddB then false
  else if p.lit then match addrQ p.dom with
    | some n => formQ n == p.dom
    | none => false
  else if p.dom.isEmpty then p.loc == pmL else namedQ p.dom && lowL p.dom == p.dom
def rightP (p : Pt) : Int :=
  if !mayQ p then 90 else if p.null then 0
  else if 64 < (formP p.loc).length ∨ (!p.lit) ∧ 255 < p.dom.length ∨ 256 < (shownP p).length + 2 then 91 else 0
structure Ml where
  path : Pt
  from_ : Nat
  til : Nat
  name : List UInt8
def addrOf (loc dom : List UInt8) : Pt × Int :=
  let y : Pt := ⟨false, loc, (domainQ dom).1, (domainQ dom).2.1⟩
  (y, if (domainQ dom).2.2 = 0 then rightP y else (domainQ dom).2.2)
def mailsQ : List Sp → List Ml × Int
  | [] => ([], 0)
  | x :: r => if (addrOf x.loc x.dom).2 = 0 then
      (if (mailsQ r).2 = 0 then (⟨(addrOf x.loc x.dom).1, x.from_, x.til, x.name⟩ :: (mailsQ r).1, 0) else ([], (mailsQ r).2))
    else ([], if (addrOf x.loc x.dom).2 = 91 then 101 else 100)
def parseQ (body : List UInt8) : List Ml × Int :=
  if 65536 < body.length then ([], 101) else match readQ body with
  | none => ([], 100)
  | some L => if (mailsQ L).2 = 0 ∧ 200 < (mailsQ L).1.length then ([], 102) else mailsQ L
/-- A path as it may stand in a field. -/
def showQ (p : Pt) : List UInt8 × Int :=
  if p.null || p.dom.isEmpty then ([], 1) else if rightP p = 0 then (shownP p, 0) else ([], rightP p)
end Go.Proofs.YtmlmkmhkmifnkaaGreatDoor.Ma
