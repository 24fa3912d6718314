/- QmgrDead: the walk. -/
import Derived.Test.YtnakafmlenngnaaQdq
import Derived.Test.YtnakafmlenngnaaQww
namespace Go.Proofs.Ytnakafmlenngnaa.Qm
open Go.RowKit Go.Proofs.Ytnakafmlenngnaa.Wi

theorem Has.dead {w wr : World} {mb : Nat} {q : Qs} (h : Has w wr mb q) (n : ByteArray) : Calls Try.prog 32 #[.pointer (some ⟨mb, 0, none⟩), .string n] wr (QuietPost (.bool (ofD q n false fun d => decide (d.s = 0))) wr) := by
  obtain ⟨L, F, hM, rfl, -⟩ := h
  exact dead_q_run mb L F n wr hM
theorem Has.ext {w wr : World} {mb : Nat} {q : Qs} (h : Has w wr mb q) : Ext (fun _ => False) w wr := by
  obtain ⟨_, _, -, -, -, hx⟩ := h
  exact hx
theorem box_lim {w W : World} {a i m mi ma li : Int} (hx : Ext (fun _ => False) (w.alloc (.cells #[.int .i64 a, .int .i64 i, .int .i64 m, .int .i64 mi, .int .i64 ma, .int .i64 li] 43)) W) :
    W.heap[w.heap.size]? = some (.cells #[.int .i64 a, .int .i64 i, .int .i64 m, .int .i64 mi, .int .i64 ma, .int .i64 li] 43 (0, 0)) :=
  (hx.block _ (by simp) fun f => f).trans (MapKept.heap_alloc w _).1

def digA (x : Nat) : ByteArray := ⟨#[UInt8.ofNat (48 + x / 10), UInt8.ofNat (48 + x % 10)]⟩
def digB (x : Nat) : ByteArray := ⟨#[UInt8.ofNat (48 + x)]⟩
theorem conv_A (w : World) (x : Nat) : (convert 45 9 (.slice (some ⟨w.heap.size, 0, none⟩) 2 2)).run Try.prog (w.alloc (.cells #[.int .u8 (48 + (x : Int) / 10), .int .u8 (48 + (x : Int) % 10)] 5)) = .ok (.string (digA x)) (w.alloc (.cells #[.int .u8 (48 + (x : Int) / 10), .int .u8 (48 + (x : Int) % 10)] 5)) := by
  have e := (MapKept.heap_alloc w (.cells #[.int .u8 (48 + (x : Int) / 10), .int .u8 (48 + (x : Int) % 10)] 5)).1
  rw [conv_bytes _ w.heap.size [48 + (x : Int) / 10, 48 + (x : Int) % 10] 2 rfl (fun i hi => by
    rcases (by omega : i = 0 ∨ i = 1) with rfl | rfl <;> (unfold World.cell?; rw [e]; rfl))]
  have e1 : (48 + (x : Int) / 10).toNat = 48 + x / 10 := by omega
  have e2 : (48 + (x : Int) % 10).toNat = 48 + x % 10 := by omega
  simp [e1, e2, digA]
theorem conv_B (w : World) (x : Nat) : (convert 45 9 (.slice (some ⟨w.heap.size, 0, none⟩) 1 1)).run Try.prog (w.alloc (.cells #[.int .u8 (48 + (x : Int))] 5)) = .ok (.string (digB x)) (w.alloc (.cells #[.int .u8 (48 + (x : Int))] 5)) := by
  have e := (MapKept.heap_alloc w (.cells #[.int .u8 (48 + (x : Int))] 5)).1
  rw [conv_bytes _ w.heap.size [48 + (x : Int)] 1 rfl (fun i hi => by
    obtain rfl : i = 0 := by omega
    unfold World.cell?; rw [e]; rfl)]
  have e1 : (48 + (x : Int)).toNat = 48 + x := by omega
  simp [e1, digB]
theorem cat_A (i : Nat) : ByteArray.mk #[97] ++ digA i = idA i := by
  apply ByteArray.ext
  simp [idA, digA]
theorem cat_B (i : Nat) : ByteArray.mk #[98] ++ digB i = idB i := by
  apply ByteArray.ext
  simp [idB, digB]

set_option maxHeartbeats 8000000 in
set_option maxRecDepth 100000 in
theorem dead_law_run (a i m mi ma li now : Int) (x : Option Addr) (more : List Int) (c : Nat) (w : World) (hr : ResL w x more) : Calls Try.prog 8 #[limV a i m mi ma li, .int .i64 now, .slice x more.length c] w fun e w' => e = .returned (.bool true) ∧ Ext (fun _ => False) w w' := by
  have hxa : Ext (fun _ => False) w (w.alloc (.cells #[.int .i64 a, .int .i64 i, .int .i64 m, .int .i64 mi, .int .i64 ma, .int .i64 li] 43)) := (Ext.refl _ _).alloc _
  have HAw := (show Hid (∀ W, Calls Try.prog 26 #[] W fun e w' => e = .returned (.bool true) ∧ Ext (fun _ => False) W w') from awake_run)
  cases hok : okLim a i m mi ma li with
  | false =>
    have HN := (show Hid (∀ W, Calls Try.prog 27 #[limV a i m mi ma li] W (QuietPost (.tuple #[.pointer none, .int .i64 1]) W)) from fun W => new_bad_run a i m mi ma li hok W)
    unfold limV at HN ⊢
    clear hok hr
    go_enter Try.func8, Try.ntmps8
    go_wp2_with fail
    refine (HAw.out _).mono ?_
    rintro e w1 ⟨rfl, hx1⟩
    have b1 := box_lim hx1
    have p0 : w1.cell? ⟨w.heap.size, 0, none⟩ = some (.int .i64 a) := by simp [World.cell?, b1]
    have p1 : w1.cell? ⟨w.heap.size, 1, none⟩ = some (.int .i64 i) := by simp [World.cell?, b1]
    have p2 : w1.cell? ⟨w.heap.size, 2, none⟩ = some (.int .i64 m) := by simp [World.cell?, b1]
    have p3 : w1.cell? ⟨w.heap.size, 3, none⟩ = some (.int .i64 mi) := by simp [World.cell?, b1]
    have p4 : w1.cell? ⟨w.heap.size, 4, none⟩ = some (.int .i64 ma) := by simp [World.cell?, b1]
    have p5 : w1.cell? ⟨w.heap.size, 5, none⟩ = some (.int .i64 li) := by simp [World.cell?, b1]
    have HX := hid (hxa.trans hx1)
    clear hx1 b1 hxa HAw
    go_wp2_with fail
    refine (HN.out _).mono ?_
    rintro e w2 ⟨rfl, hx2⟩
    have HX2 := hid (HX.out.trans hx2)
    clear hx2 HN HX
    go_wp2_with fail
    go_ret
    exact ⟨rfl, HX2.out⟩
  | true =>
    obtain ⟨lm, hlm, hlv, rfl, rfl, rfl, rfl, rfl, rfl⟩ := okLim_ok hok
    have HN := (show Hid (∀ W, Calls Try.prog 27 #[limV lm.active lm.ini lm.lim lm.minb lm.maxb lm.life] W (NewPost lm W)) from fun W => by rw [← hlv]; exact new_ok_run lm hlm W)
    unfold limV at HN ⊢
    have HLM := hid hlm
    obtain ⟨l1, l2, l3, l4, l5, l6, l7, l8, l9, l10⟩ := hlm
    have hml := hr.1
    have HR := hid hr
    clear hok hlv hr
    go_enter Try.func8, Try.ntmps8
    go_wp2_with fail
    refine (HAw.out _).mono ?_
    rintro e w1 ⟨rfl, hx1⟩
    have HBx := (show Hid (∀ W, Ext (fun _ => False) w1 W → W.heap[w.heap.size]? = some (.cells #[.int .i64 lm.active, .int .i64 (lm.ini : Nat), .int .i64 (lm.lim : Nat), .int .i64 lm.minb, .int .i64 lm.maxb, .int .i64 lm.life] 43 (0, 0))) from fun W hW => box_lim (hx1.trans hW))
    have b1 := HBx.out w1 (Ext.refl _ _)
    have p0 : w1.cell? ⟨w.heap.size, 0, none⟩ = some (.int .i64 lm.active) := by simp [World.cell?, b1]
    have p1 : w1.cell? ⟨w.heap.size, 1, none⟩ = some (.int .i64 (lm.ini : Nat)) := by simp [World.cell?, b1]
    have p2 : w1.cell? ⟨w.heap.size, 2, none⟩ = some (.int .i64 (lm.lim : Nat)) := by simp [World.cell?, b1]
    have p3 : w1.cell? ⟨w.heap.size, 3, none⟩ = some (.int .i64 lm.minb) := by simp [World.cell?, b1]
    have p4 : w1.cell? ⟨w.heap.size, 4, none⟩ = some (.int .i64 lm.maxb) := by simp [World.cell?, b1]
    have p5 : w1.cell? ⟨w.heap.size, 5, none⟩ = some (.int .i64 lm.life) := by simp [World.cell?, b1]
    have HX := hid (hxa.trans hx1)
    clear hx1 b1 hxa HAw
    go_wp2_with fail
    refine (HN.out _).mono ?_
    rintro e w2 ⟨mb, L, F, rfl, hM, hq, hx2, hF⟩
    have q0 : w2.cell? ⟨w.heap.size, 0, none⟩ = some (.int .i64 lm.active) := by simp [World.cell?, HBx.out w2 hx2]
    have H0 := (show Hid (Has w1 w2 mb (begin0 lm)) from ⟨L, F, hM, hq, hF, hx2⟩)
    clear hM hq hF hx2 HN p0 p1 p2 p3 p4 p5
    rcases (by omega : now < 0 ∨ (¬ now < 0 ∧ 900000000 < now) ∨ (¬ now < 0 ∧ ¬ 900000000 < now ∧ lm.active < 100) ∨ (¬ now < 0 ∧ ¬ 900000000 < now ∧ ¬ lm.active < 100)) with h1 | ⟨h1, h2⟩ | ⟨h1, h2, h3⟩ | ⟨h1, h2, h3⟩
    · go_wp2_with fail
      go_ret
      exact ⟨rfl, HX.out.trans H0.out.ext⟩
    · go_wp2_with fail
      go_ret
      exact ⟨rfl, HX.out.trans H0.out.ext⟩
    · go_wp2_with fail
      go_ret
      exact ⟨rfl, HX.out.trans H0.out.ext⟩
    · have hn : isT now = true := by simp [isT]; omega
      have Hn := hid hn
      clear hn
      go_wp2_with fail
      go_loopg [10] lm.ini (fun gg kx wr => ∃ i : Nat, kx = .int .i64 i ∧ i + gg = lm.ini ∧ i ≤ 90 ∧ ∃ q, Hid (Has w1 wr mb q ∧ D1 q lm now i))
      case atStart => exact ⟨0, rfl, by omega, by omega, begin0 lm, H0.out, D1.start lm HLM.out now⟩
      case round =>
        obtain ⟨i, rfl, hi, hi9, q, HI⟩ := hrel
        have Hi := hid hi
        have him : i ≤ lm.ini := by omega
        have q1 : wr.cell? ⟨w.heap.size, 1, none⟩ = some (.int .i64 (lm.ini : Nat)) := by simp [World.cell?, HBx.out wr HI.out.1.ext]
        clear hi H0 q0
        by_cases hlt : i < lm.ini
        · by_cases h90 : i < 90
          · have hc1 := conv_A wr i
            have hx3 : Ext (fun _ => False) wr ((wr.alloc (.cells #[.int .u8 (48 + (i : Int) / 10), .int .u8 (48 + (i : Int) % 10)] 5)).alloc (.cells #[.string tX] 9)) := ((Ext.refl _ _).alloc _).alloc _
            obtain ⟨s1, s2, s3, s4, s5, s6, s7, s8, s9, s10⟩ := HI.out.2.step HLM.out hlt h90 Hn.out
            have HA := (show Hid (Calls Try.prog 28 #[.pointer (some ⟨mb, 0, none⟩), .string (ByteArray.mk #[97] ++ digA i), .int .i64 now, .slice (some ⟨wr.heap.size + 1, 0, none⟩) 1 1, .int .i64 now] ((wr.alloc (.cells #[.int .u8 (48 + (i : Int) / 10), .int .u8 (48 + (i : Int) % 10)] 5)).alloc (.cells #[.string tX] 9)) fun e w' => e = .returned (.int .i64 0) ∧ Has w1 w' mb (add q (idA i) now [tX] now).2) from by
              have hs := strs1 (wr.alloc (.cells #[.int .u8 (48 + (i : Int) / 10), .int .u8 (48 + (i : Int) % 10)] 5)) tX 9
              have e : (wr.alloc (.cells #[.int .u8 (48 + (i : Int) / 10), .int .u8 (48 + (i : Int) % 10)] 5)).heap.size = wr.heap.size + 1 := by simp
              rw [e] at hs
              have hlen := HI.out.2.len
              have := HI.out.1.add hx3 hs (by omega) (idA i) now now 1 (by omega) (by have := HI.out.2.dd.len; omega)
              rw [s1] at this
              rw [cat_A]
              exact this)
            have HJ := (show Hid (∀ W, Has w1 W mb (add q (idA i) now [tX] now).2 → Calls Try.prog 29 #[.pointer (some ⟨mb, 0, none⟩)] W fun e w' => ∃ y c, e = .returned (.tuple #[.agg #[.string (idA i), .string tX, .slice y 1 c], .bool true]) ∧ HasJ w1 w' mb (qb1 q lm now i) y [0]) from fun W hW =>
              hW.job (j := jD (idA i)) (by omega) (by omega) (by rw [s7]; simp) s2)
            have HD := (show Hid (∀ W b W0 y c, Ext (fun _ => False) W0 W → HasJ w1 W0 mb (qb1 q lm now i) y [0] → W0.heap.size ≤ b → W.cell? ⟨b, 0, none⟩ = some (.int .i64 1) → Calls Try.prog 30 #[.pointer (some ⟨mb, 0, none⟩), .agg #[.string (idA i), .string tX, .slice y 1 c], .slice (some ⟨b, 0, none⟩) 1 1, .bool false, .int .i64 now] W fun e w' => e = .returned (.int .i64 0) ∧ Has w1 w' mb (done (qb1 q lm now i) (jD (idA i)) [1] false now).2) from fun W b W0 y c hW h4 hb hc => by
              have := HasJ.done (j := jD (idA i)) h4 hW (res_one W 1 b hc) hb c 1 false now (by omega) (by omega) s10
              rw [s3] at this
              exact this)
            have HS := hid s4
            generalize idA i = ti at HA HJ HD HS
            generalize (add q ti now [tX] now).2 = qa at HA HJ
            generalize (done (qb1 q lm now i) (jD ti) [1] false now).2 = qd at HD HS
            clear s1 s2 s3 s4 s5 s6 s7 s8 s9 s10 hx3
            unfold tX at HA HJ HD
            go_wp2_with fail
            refine HA.out.mono ?_
            rintro e w3 ⟨rfl, h3⟩
            have HJ2 := hid (HJ.out _ h3)
            clear h3 HA HJ hc1 q1
            go_wp2_with fail
            refine HJ2.out.mono ?_
            rintro e w4 ⟨y, cc, rfl, h4⟩
            have H4 := hid h4
            clear h4 HJ2
            go_wp2_with fail
            refine (HD.out _ _ _ _ _ (((Ext.refl _ _).alloc _).alloc _) H4.out (by simp) (cell_new2 _ _ _ _)).mono ?_
            rintro e w5 ⟨rfl, h5⟩
            have HQ := (show Hid (Has w1 w5 mb qd ∧ D1 qd lm now (i + 1)) from ⟨h5, HS.out⟩)
            clear h5 HD H4 HS HI
            go_wp2_with fail
            go_roundg (gk - 1)
            case measure => have := Hi.out; omega
            case rel => exact ⟨i + 1, by go_num, by have := Hi.out; omega, by omega, qd, HQ.out⟩
          · obtain rfl : i = 90 := by omega
            have HDd := hid (HI.out.1.dead tX)
            rw [HI.out.2.dead HLM.out (by omega), show decide (lm.ini ≤ 90) = false from decide_eq_false (by omega)] at HDd
            unfold tX at HDd
            go_wp2_with fail
            refine HDd.out.mono ?_
            rintro e w3 ⟨rfl, h3⟩
            have q2 : w3.cell? ⟨w.heap.size, 1, none⟩ = some (.int .i64 (lm.ini : Nat)) := by simp [World.cell?, HBx.out w3 (HI.out.1.ext.trans h3)]
            have H3 := hid ((HX.out.trans HI.out.1.ext).trans h3)
            clear h3 HDd HI q1
            go_wp2_with fail
            go_ret
            exact ⟨rfl, H3.out⟩
        · obtain rfl : i = lm.ini := by omega
          have HDd := hid (HI.out.1.dead tX)
          rw [HI.out.2.dead HLM.out l3, show decide (lm.ini ≤ lm.ini) = true from decide_eq_true (Nat.le_refl _)] at HDd
          have HI2 := (show Hid (Has w1 wr mb q ∧ D2 q lm now 0) from ⟨HI.out.1, HI.out.2.to HLM.out hi9⟩)
          unfold tX at HDd
          clear HI
          go_wp2_with fail
          refine HDd.out.mono ?_
          rintro e w3 ⟨rfl, h3⟩
          have H3 := (show Hid (Has w1 w3 mb q ∧ D2 q lm now 0) from ⟨HI2.out.1.quiet h3, HI2.out.2⟩)
          clear h3 HDd HI2 q1
          go_wp2_with fail
          go_loopg [16] more.length (fun gg kx wy => ∃ i : Nat, kx = .int .i64 i ∧ i + gg = more.length ∧ i ≤ 10 ∧ ∃ q, Hid (Has w1 wy mb q ∧ D2 q lm now i))
          case atStart => exact ⟨0, rfl, by omega, by omega, q, H3.out⟩
          case round =>
            obtain ⟨k, rfl, hk, hk10, q', HJ⟩ := hrel
            have Hk := hid hk
            have hkm : k ≤ more.length := by omega
            have q3 : wr.cell? ⟨w.heap.size, 3, none⟩ = some (.int .i64 lm.minb) := by simp [World.cell?, HBx.out wr HJ.out.1.ext]
            clear hk H3
            by_cases hlt : k < more.length ∧ k < 10
            · obtain ⟨hlt, hk1⟩ := hlt
              obtain ⟨rb, ro, rfl, hrb, hrc⟩ := HR.out.2 k hlt
              have c1 := ((HX.out.trans HJ.out.1.ext).cell hrb (fun f => f) _).trans hrc
              dsimp only at c1
              rw [show more.getD k 0 = more[k] by simp [List.getD_eq_getElem?_getD, hlt]] at c1
              clear hrc
              generalize more[k] = v at c1
              rcases (by omega : v < 0 ∨ (¬ v < 0 ∧ lm.minb ≤ v) ∨ (0 ≤ v ∧ v < lm.minb)) with h1 | ⟨h1, h2⟩ | ⟨h1, h2⟩
              · go_wp2_with fail
                go_quiet (fail)
                go_wp2_with fail
                have HQ := (show Hid (Has w1 (wr.drewN nq) mb q' ∧ D2 q' lm now (k + 1)) from ⟨HJ.out.1.quiet ((Ext.refl _ _).drewN nq), HJ.out.2.later⟩)
                go_roundg (gk - 1)
                case measure => have := Hk.out; omega
                case rel => exact ⟨k + 1, by go_num, by have := Hk.out; omega, by omega, q', HQ.out⟩
              · go_wp2_with fail
                go_quiet (fail)
                go_wp2_with fail
                have HQ := (show Hid (Has w1 (wr.drewN nq) mb q' ∧ D2 q' lm now (k + 1)) from ⟨HJ.out.1.quiet ((Ext.refl _ _).drewN nq), HJ.out.2.later⟩)
                go_roundg (gk - 1)
                case measure => have := Hk.out; omega
                case rel => exact ⟨k + 1, by go_num, by have := Hk.out; omega, by omega, q', HQ.out⟩
              · have h3 : ¬ v < 0 := by omega
                have h4 : ¬ lm.minb ≤ v := by omega
                go_wp2_with fail
                go_quiet (fail)
                have q4 : (wr.drewN nq).cell? ⟨rb, ro + k, none⟩ = some (.int .i64 v) := c1
                have q5 : (wr.drewN nq).cell? ⟨w.heap.size, 3, none⟩ = some (.int .i64 lm.minb) := q3
                have HQ := (show Hid (Has w1 (wr.drewN nq) mb q' ∧ D2 q' lm now k) from ⟨HJ.out.1.quiet ((Ext.refl _ _).drewN nq), HJ.out.2⟩)
                have lrb : rb < (wr.drewN nq).heap.size := Nat.lt_of_lt_of_le hrb (HX.out.trans HJ.out.1.ext).size
                clear q3 c1
                generalize wr.drewN nq = wd at q4 q5 HQ lrb ⊢
                clear HJ
                have hc1 := conv_B wd k
                have hx3 : Ext (fun _ => False) wd ((wd.alloc (.cells #[.int .u8 (48 + (k : Int))] 5)).alloc (.cells #[.string tX] 9)) := ((Ext.refl _ _).alloc _).alloc _
                obtain ⟨s1, s2, s3, s4, s5, s6⟩ := HQ.out.2.step HLM.out hk1 (by omega) (by omega) h1 h2
                have HA := (show Hid (Calls Try.prog 28 #[.pointer (some ⟨mb, 0, none⟩), .string (ByteArray.mk #[98] ++ digB k), .int .i64 now, .slice (some ⟨wd.heap.size + 1, 0, none⟩) 1 1, .int .i64 (now + v)] ((wd.alloc (.cells #[.int .u8 (48 + (k : Int))] 5)).alloc (.cells #[.string tX] 9)) fun e w' => e = .returned (.int .i64 0) ∧ Has w1 w' mb (add q' (idB k) now [tX] (now + v)).2) from by
                  have hs := strs1 (wd.alloc (.cells #[.int .u8 (48 + (k : Int))] 5)) tX 9
                  have e : (wd.alloc (.cells #[.int .u8 (48 + (k : Int))] 5)).heap.size = wd.heap.size + 1 := by simp
                  rw [e] at hs
                  have hlen := HQ.out.2.len
                  have := HQ.out.1.add hx3 hs (by omega) (idB k) now (now + v) 1 (by omega) (by have := HQ.out.2.dd.len; omega)
                  rw [s1] at this
                  rw [cat_B]
                  exact this)
                have HJ := (show Hid (∀ W, Has w1 W mb (add q' (idB k) now [tX] (now + v)).2 → Calls Try.prog 29 #[.pointer (some ⟨mb, 0, none⟩)] W fun e w' => e = .returned (.tuple #[.agg #[.string ByteArray.empty, .string ByteArray.empty, .slice none 0 0], .bool false]) ∧ Has w1 w' mb (add q' (idB k) now [tX] (now + v)).2) from fun W hW => by
                  refine (hW.next (by have := s4.len; omega) (by omega) (by rw [s6]; simp)).mono ?_
                  rintro e w' (⟨-, e1, e2⟩ | ⟨j, q2, y, e1, -⟩)
                  · exact ⟨e1, e2⟩
                  · rw [s2] at e1; cases e1)
                have HW := (show Hid (∀ W, Has w1 W mb (add q' (idB k) now [tX] (now + v)).2 → Calls Try.prog 31 #[.pointer (some ⟨mb, 0, none⟩), .string (ByteArray.mk #[98] ++ digB k)] W (QuietPost (.int .i64 (whenQ (add q' (idB k) now [tX] (now + v)).2 (idB k))) W)) from fun W hW => by rw [cat_B]; exact hW.when (idB k))
                have HS := hid s4
                generalize whenQ (add q' (idB k) now [tX] (now + v)).2 (idB k) = due at HW s3
                generalize (add q' (idB k) now [tX] (now + v)).2 = qa at HA HJ HW HS
                clear s1 s2 s4 s5 s6 hx3
                have hd : ¬ due < now + lm.minb := by omega
                unfold tX at HA
                go_wp2_with fail
                generalize ByteArray.mk #[98] ++ digB k = ti at HA HW ⊢
                refine HA.out.mono ?_
                rintro e w3 ⟨rfl, h3⟩
                have HJ2 := hid (HJ.out _ h3)
                clear h3 HA HJ hc1 q4
                go_wp2_with fail
                refine HJ2.out.mono ?_
                rintro e w4 ⟨rfl, h4⟩
                have HW2 := hid (HW.out _ (h4.quiet ((Ext.refl _ _).alloc (.cells #[.string ByteArray.empty, .string ByteArray.empty, .slice none 0 0] 49))))
                have H4 := hid h4
                clear h4 HW HJ2 q5
                go_wp2_with fail
                refine HW2.out.mono ?_
                rintro e w5 ⟨rfl, h5⟩
                have H5 := (show Hid (Has w1 w5 mb qa ∧ D2 qa lm now (k + 1)) from ⟨(H4.out.quiet ((Ext.refl _ _).alloc _)).quiet h5, HS.out⟩)
                have q6 : w5.cell? ⟨w.heap.size, 3, none⟩ = some (.int .i64 lm.minb) := by simp [World.cell?, HBx.out w5 H5.out.1.ext]
                clear h5 HW2 H4 HS HQ
                go_wp2_with fail
                go_roundg (gk - 1)
                case measure => have := Hk.out; omega
                case rel => exact ⟨k + 1, by go_num, by have := Hk.out; omega, by omega, qa, H5.out⟩
            · have lbx : w.heap.size < wr.heap.size := heap_lt (HBx.out wr HJ.out.1.ext)
              obtain ⟨s1, ⟨q9, s2⟩, s3, s4, s5⟩ := HJ.out.2.last HLM.out (by omega) (by omega)
              have hx3 : Ext (fun _ => False) wr (wr.alloc (.cells #[.string tX] 9)) := (Ext.refl _ _).alloc _
              have HA := (show Hid (Calls Try.prog 28 #[.pointer (some ⟨mb, 0, none⟩), .string tC, .int .i64 now, .slice (some ⟨wr.heap.size, 0, none⟩) 1 1, .int .i64 (now + lm.minb)] (wr.alloc (.cells #[.string tX] 9)) fun e w' => e = .returned (.int .i64 0) ∧ Has w1 w' mb (add q' tC now [tX] (now + lm.minb)).2) from by
                have hs := strs1 wr tX 9
                have hlen := HJ.out.2.len
                have := HJ.out.1.add hx3 hs (by omega) tC now (now + lm.minb) 1 (by omega) (by have := HJ.out.2.dd.len; omega)
                rw [s1] at this
                exact this)
              have HN2 := (show Hid (∀ W, Has w1 W mb (add q' tC now [tX] (now + lm.minb)).2 → Calls Try.prog 29 #[.pointer (some ⟨mb, 0, none⟩)] W fun e w' => ∃ y c, e = .returned (.tuple #[.agg #[.string tC, .string tX, .slice y 1 c], .bool true]) ∧ HasJ w1 w' mb q9 y [0]) from fun W hW =>
                hW.job (j := jD tC) (by omega) (by omega) (by rw [s5]; simp) s2)
              generalize (add q' tC now [tX] (now + lm.minb)).2 = qa at HA HN2
              clear s1 s2 s3 s4 s5 hx3 HJ
              unfold tC tX at HA HN2
              rcases (by omega : k = more.length ∨ (k < more.length ∧ k = 10)) with rfl | ⟨hm, rfl⟩
              all_goals
                go_wp2_with fail
                refine HA.out.mono ?_
                rintro e w3 ⟨rfl, h3⟩
                have HJ2 := hid (HN2.out _ h3)
                clear h3 HA HN2 q3
                go_wp2_with fail
                refine HJ2.out.mono ?_
                rintro e w4 ⟨y, cc, rfl, h4⟩
                have H4 := hid h4
                clear h4 HJ2
                go_wp2_with fail
                go_ret
                obtain ⟨_, _, -, -, -, hx, -⟩ := H4.out
                exact ⟨rfl, HX.out.trans (hx.trans ((Ext.refl _ _).alloc _))⟩
theorem dead_both (a i m mi ma li now : Int) (x : Option Addr) (more : List Int) (c : Nat) (w : World) (hr : ResL w x more) : Calls Try.prog 8 #[limV a i m mi ma li, .int .i64 now, .slice x more.length c] w fun e w' => e = .returned (.bool true) ∧ Below w.heap.size w w' :=
  (dead_law_run a i m mi ma li now x more c w hr).mono fun _ _ ⟨he, hx⟩ => ⟨he, hx.below (Nat.le_refl _) fun _ f => f.elim⟩
end Go.Proofs.Ytnakafmlenngnaa.Qm
