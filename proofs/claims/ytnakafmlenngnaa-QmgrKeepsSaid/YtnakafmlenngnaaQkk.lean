/- QmgrKeeps: the walk. -/
import Derived.Test.YtnakafmlenngnaaQlr
import Derived.Test.YtnakafmlenngnaaQdk
namespace Go.Proofs.Ytnakafmlenngnaa.Qm
open Go.RowKit Go.Proofs.Ytnakafmlenngnaa.Wi

set_option maxHeartbeats 16000000 in
set_option maxRecDepth 100000 in
theorem keeps_law_run (a i m mi ma li : Int) (x : Option Addr) (sc : List St) (c : Nat) (w : World) (hr : StepsAt w x sc) : Calls Try.prog 10 #[limV a i m mi ma li, .slice x sc.length c] w fun e w' => e = .returned (.bool true) ∧ Ext (fun _ => False) w w' := by
  have hxa : Ext (fun _ => False) w (w.alloc (.cells #[.int .i64 a, .int .i64 i, .int .i64 m, .int .i64 mi, .int .i64 ma, .int .i64 li] 43)) := (Ext.refl _ _).alloc _
  have HAw := (show Hid (∀ W, Calls Try.prog 26 #[] W fun e w' => e = .returned (.bool true) ∧ Ext (fun _ => False) W w') from awake_run)
  cases hok : okLim a i m mi ma li with
  | false => as_aux_lemma =>
    have HN := (show Hid (∀ W, Calls Try.prog 27 #[limV a i m mi ma li] W (QuietPost (.tuple #[.pointer none, .int .i64 1]) W)) from fun W => new_bad_run a i m mi ma li hok W)
    unfold limV at HN ⊢
    clear hok hr
    go_enter Try.func10, Try.ntmps10
    go_wp2_with fail
    refine (HAw.out _).mono ?_
    rintro e w1 ⟨rfl, hx1⟩
    have b1 := box_lim hx1
    have p0 : w1.cell? ⟨w.heap.size, 0, none⟩ = some (.int .i64 a) := by simp [World.cell?, b1]
    have p1 : w1.cell? ⟨w.heap.size, 1, none⟩ = some (.int .i64 i) := by simp [World.cell?, b1]
    have p2 : w1.cell? ⟨w.heap.size, 2, none⟩ = some (.int .i64 m) := by simp [World.cell?, b1]
    have p3 : w1.cell? ⟨w.heap.size, 3, none⟩ = some (.int .i64 mi) := by simp [World.cell?, b1]
    have p4 : w1.cell? ⟨w.heap.size, 4, none⟩ = some (.int .i64 ma) := by simp [World.cell?, b1]
    have p5 : w1.cell? ⟨w.heap.size, 5, none⟩ = some (.int .i64 li) := by simp [World.cell?, b1]
    have HX := hid (hxa.trans hx1)
    clear hx1 b1 hxa HAw
    go_wp2_with fail
    refine (HN.out _).mono ?_
    rintro e w2 ⟨rfl, hx2⟩
    have HX2 := hid (HX.out.trans hx2)
    clear hx2 HN HX
    go_wp2_with fail
    go_ret
    exact ⟨rfl, HX2.out⟩
  | true => as_aux_lemma =>
    obtain ⟨lm, hlm, hlv, rfl, rfl, rfl, rfl, rfl, rfl⟩ := okLim_ok hok
    have HN := (show Hid (∀ W, Calls Try.prog 27 #[limV lm.active lm.ini lm.lim lm.minb lm.maxb lm.life] W (NewPost lm W)) from fun W => by rw [← hlv]; exact new_ok_run lm hlm W)
    unfold limV at HN ⊢
    have HLM := hid hlm
    obtain ⟨l1, l2, l3, l4, l5, l6, l7, l8, l9, l10⟩ := hlm
    have hml := hr.1
    have HR := hid hr
    clear hok hlv hr
    go_enter Try.func10, Try.ntmps10
    go_wp2_with fail
    refine (HAw.out _).mono ?_
    rintro e w1 ⟨rfl, hx1⟩
    have HBx := (show Hid (∀ W, Ext (fun _ => False) w1 W → W.heap[w.heap.size]? = some (.cells #[.int .i64 lm.active, .int .i64 (lm.ini : Nat), .int .i64 (lm.lim : Nat), .int .i64 lm.minb, .int .i64 lm.maxb, .int .i64 lm.life] 43 (0, 0))) from fun W hW => box_lim (hx1.trans hW))
    have b1 := HBx.out w1 (Ext.refl _ _)
    have p0 : w1.cell? ⟨w.heap.size, 0, none⟩ = some (.int .i64 lm.active) := by simp [World.cell?, b1]
    have p1 : w1.cell? ⟨w.heap.size, 1, none⟩ = some (.int .i64 (lm.ini : Nat)) := by simp [World.cell?, b1]
    have p2 : w1.cell? ⟨w.heap.size, 2, none⟩ = some (.int .i64 (lm.lim : Nat)) := by simp [World.cell?, b1]
    have p3 : w1.cell? ⟨w.heap.size, 3, none⟩ = some (.int .i64 lm.minb) := by simp [World.cell?, b1]
    have p4 : w1.cell? ⟨w.heap.size, 4, none⟩ = some (.int .i64 lm.maxb) := by simp [World.cell?, b1]
    have p5 : w1.cell? ⟨w.heap.size, 5, none⟩ = some (.int .i64 lm.life) := by simp [World.cell?, b1]
    have HX := hid (hxa.trans hx1)
    clear hx1 b1 hxa HAw
    go_wp2_with fail
    refine (HN.out _).mono ?_
    rintro e w2 ⟨mb, L, F, rfl, hM, hq, hx2, hF⟩
    have H0 := (show Hid (KpP w1 w2 mb lm (begin0 lm) (.slice none 0 0) (.slice none 0 0) (.slice none 0 0) [] [] [] 0) from
      ⟨(((show HasR w1 w2 mb (begin0 lm) [] from ⟨L, F, hM, hq, hF, hx2, Rows_.nil _ _ _⟩).empty 49 3).empty 9 1).empty 30 1, KpI.start lm HLM.out, rfl⟩)
    clear hM hq hF hx2 HN p0 p1 p2 p3 p4 p5
    go_wp2_with fail
    go_loopg [8, 9, 10, 11] sc.length (fun gg v8 v9 v10 v11 wr => ∃ i : Nat, v11 = .int .i64 i ∧ i + gg = sc.length ∧ i ≤ 120 ∧ ∃ q ls ns js, Hid (KpP w1 wr mb lm q v8 v9 v10 ls ns js i))
    case atStart => exact ⟨0, rfl, by omega, by omega, _, _, _, _, H0⟩
    case round => as_aux_lemma =>
      obtain ⟨i, rfl, hi, hi9, q, ls, ns, js, HI⟩ := hrel
      obtain ⟨w0, rfl⟩ : ∃ w0, w0 = wr := ⟨_, rfl⟩
      have Hi := hid hi
      have him : i ≤ sc.length := by omega
      clear hi H0
      by_cases hlt : i < sc.length ∧ i < 120
      · obtain ⟨hlt, h150⟩ := hlt
        have hb120 : decide ((i : Int) < 120) = true := decide_eq_true (by omega)
        obtain ⟨sb, so, rfl, hs⟩ := HR.out.2 i hlt
        have hs1 := hs.quiet HX.out
        clear hs
        generalize sc[i] = s at hs1
        have hcc : ∀ k, w0.cell? ⟨sb, k, none⟩ = w1.cell? ⟨sb, k, none⟩ := fun k => HI.out.1.ext.cell hs1.blt (fun f => f) k
        obtain ⟨sbl, s0, s1, s2, s3, s4, ⟨x5, c5, s5, k5⟩, ⟨x6, c6, s6, k6⟩, s7, ⟨t8, t9, x10, n10, c10, s8, s9, s10⟩⟩ := hs1
        rw [← hcc] at s0 s1 s2 s3 s4 s5 s6 s7 s8 s9 s10
        have K5 := hid k5
        have K6 := hid k6
        have HB := hid (HI.out.1.box (stC s x5 c5 x6 c6 t8 t9 x10 n10 c10) 64)
        have HP := hid HI.out.2
        have hq1 := HI.out.2.1.ml
        have hq2 := HI.out.2.1.dl
        have hq3 := HI.out.2.1.qj
        unfold stC at HB
        clear hcc k5 k6 HI
        go_upto_block 2 with (fail)
        go_cut [8, 9, 10] (fun v8 v9 v10 wx => ∃ q ls ns js, Hid (KpP w1 wx mb lm q v8 v9 v10 ls ns js (i + 1)))
        case first => as_aux_lemma =>
          rcases (show s.op = 0 ∨ s.op = 1 ∨ s.op = 2 ∨ s.op = 4 ∨ s.op = 5 ∨ (s.op ≠ 0 ∧ s.op ≠ 1 ∧ s.op ≠ 2 ∧ s.op ≠ 4 ∧ s.op ≠ 5) by omega) with hop | hop | hop | hop | hop | ⟨o0, o1, o2, o4, o5⟩
          · as_aux_lemma =>
            have b0 : (s.op == 0) = true := by rw [hop]; rfl
            clear hop
            go_wp2_with fail
            refine (HB.out.add K5.out s.id s.came s.now c5 (by omega) (by omega)).mono ?_
            rintro e w3 ⟨rfl, h3⟩
            have hadd := HP.out.1.add s.id s.came s.dests s.now
            have hlm3 := (add_lm q s.id s.came s.dests s.now).trans HP.out.2
            generalize Qm.add q s.id s.came s.dests s.now = R at h3 hadd hlm3 ⊢
            obtain ⟨f, q2⟩ := R
            dsimp only at h3 hadd hlm3 ⊢
            rcases hadd with ⟨hf, hqe⟩ | ⟨hf, hD, hA⟩
            · have HT := (show Hid (KpP w1 w3 mb lm q2 u8 u9 u10 ls ns js (i + 1)) from ⟨h3.tail, by rw [hqe]; exact HP.out.1.mono, hlm3⟩)
              have hf2 : (f == 0) = false := by simpa using hf
              clear h3 hqe hf HB HP hq1 hq2 hq3 hlm3
              go_wp2_with fail
              go_meet
              exact ⟨_, _, _, _, HT⟩
            · subst hf
              have hnl := HP.out.1.nl
              have hle1 : ls.length ≤ ns.length := by have := HP.out.1.len; simp at this; omega
              have hle2 : ns.length ≤ ls.length := by have := HP.out.1.len; simp at this; omega
              have HA := hid (And.intro hA hlm3)
              have HC1 := (show Hid (HasR w1 w3 mb q2 (iRow ⟨.slice none 0 0, []⟩ :: boxR w0.heap.size 64 [.int .i64 s.op, .int .i64 s.n, .string s.id, .int .i64 s.came, .int .i64 s.now, .slice x5 s.dests.length c5, .slice x6 s.results.length c6, .bool s.well, .string t8, .string t9, .slice x10 n10 c10] :: leftR u8 ls :: namesR u9 ns :: jobR u10 js :: (jRows js ++ iRows ls))) from h3.empty 3 1)
              clear h3 hA hlm3 HB HP hq1 hq2 hq3 s0 s1 s2 s3 s4 s5 s6 s7 s8 s9 s10
              have e5 := (HC1.out.boxAt (List.mem_cons_of_mem _ (List.mem_cons_self ..)) 5 (by simp)).1
              simp only [List.getElem_cons_succ, List.getElem_cons_zero] at e5
              go_wp2_with fail
              go_loopg [14, 15] s.dests.length (fun gg v14 v15 wz => ∃ k : Nat, v15 = .int .i64 k ∧ k + gg = s.dests.length ∧ Hid (HasR w1 wz mb q2 (iRow ⟨v14, plaK s.dests k⟩ :: boxR w0.heap.size 64 [.int .i64 s.op, .int .i64 s.n, .string s.id, .int .i64 s.came, .int .i64 s.now, .slice x5 s.dests.length c5, .slice x6 s.results.length c6, .bool s.well, .string t8, .string t9, .slice x10 n10 c10] :: leftR u8 ls :: namesR u9 ns :: jobR u10 js :: (jRows js ++ iRows ls))))
              case atStart => exact ⟨0, rfl, by omega, HC1⟩
              case round => as_aux_lemma =>
                obtain ⟨k, rfl, hk, H4⟩ := hrel
                have Hk := hid hk
                have hkn : k ≤ s.dests.length := by omega
                clear hk HC1 e5
                obtain ⟨e5, ebl, -⟩ := H4.out.boxAt (List.mem_cons_of_mem _ (List.mem_cons_self ..)) 5 (by simp)
                obtain ⟨e2, -, -⟩ := H4.out.boxAt (List.mem_cons_of_mem _ (List.mem_cons_self ..)) 2 (by simp)
                simp only [List.getElem_cons_succ, List.getElem_cons_zero] at e5 e2
                obtain ⟨xa, ca, ea, ya1, ya2⟩ := H4.out.shape (List.mem_cons_self ..)
                change u14 = .slice xa (plaK s.dests k).length ca at ea
                change (plaK s.dests k).length ≤ ca at ya1
                subst ea
                have hpl := plaK_length s.dests k
                by_cases hlk : k < s.dests.length
                · obtain ⟨db, do_, rfl, hdb, hdc⟩ := K5.out.2 k hlk
                  have d0 := (H4.out.ext.cell hdb (fun f => f) (do_ + k)).trans hdc
                  have hdb2 := Nat.lt_of_lt_of_le hdb H4.out.ext.size
                  have hpn := plaK_next s.dests k hlk
                  clear hdc hdb
                  generalize s.dests[k] = d at d0 hpn
                  cases he : d.toList.isEmpty with
                  | true => as_aux_lemma =>
                    rw [if_pos (size0 he), List.append_nil] at hpn
                    have H5 := (show Hid (HasR w1 wr mb q2 (iRow ⟨.slice xa (plaK s.dests k).length ca, plaK s.dests (k + 1)⟩ :: boxR w0.heap.size 64 [.int .i64 s.op, .int .i64 s.n, .string s.id, .int .i64 s.came, .int .i64 s.now, .slice (some ⟨db, do_, none⟩) s.dests.length c5, .slice x6 s.results.length c6, .bool s.well, .string t8, .string t9, .slice x10 n10 c10] :: leftR u8 ls :: namesR u9 ns :: jobR u10 js :: (jRows js ++ iRows ls))) from by rw [hpn]; exact H4.out)
                    clear H4 hpn
                    go_wp2_with fail
                    go_roundg (gk - 1)
                    case measure => have := Hk.out; omega
                    case rel => exact ⟨k + 1, by go_num, by have := Hk.out; omega, H5⟩
                  | false => as_aux_lemma =>
                    rw [if_neg (size1 he)] at hpn
                    obtain ⟨xb, cb, wA, hrun, z1, z2, hN2⟩ := H4.out.int1 k (by omega)
                    rw [← hpn] at hN2
                    have H5 := hid hN2
                    clear H4 hpn hN2
                    go_wp2_with (at_builtin; refine wpList_append_run rfl (.tmp 94) (.tmp 96) 30 rfl _ _ _ _ rfl rfl hrun ?_)
                    go_roundg (gk - 1)
                    case measure => have := Hk.out; omega
                    case rel => exact ⟨k + 1, by go_num, by have := Hk.out; omega, H5⟩
                · obtain rfl : k = s.dests.length := by omega
                  obtain ⟨xn, cn, en, yn1, yn2⟩ := H4.out.shape (List.mem_cons_of_mem _ (List.mem_cons_of_mem _ (List.mem_cons_of_mem _ (List.mem_cons_self ..))))
                  change u9 = .slice xn ns.length cn at en
                  change ns.length ≤ cn at yn1
                  obtain ⟨xl, cl, el, yl1, yl2⟩ := H4.out.shape (List.mem_cons_of_mem _ (List.mem_cons_of_mem _ (List.mem_cons_self ..)))
                  change u8 = .slice xl ls.length cl at el
                  change ls.length ≤ cl at yl1
                  subst en el
                  obtain ⟨xb, cb, wA, hrun, z1, z2, h5⟩ := (H4.out.pull [_, _, _]).name1 s.id (by omega)
                  obtain ⟨xd, cd, wB, hrun2, z3, z4, h6⟩ := (h5.pull [_, _, _]).left1 ⟨.slice xa (plaK s.dests s.dests.length).length ca, plaK s.dests s.dests.length⟩ rfl (by omega)
                  dsimp only at hrun2
                  have HT := (show Hid (KpP w1 wB mb lm q2 (.slice xd (ls.length + 1) cd) (.slice xb (ns.length + 1) cb) u10 (ls ++ [⟨.slice xa (plaK s.dests s.dests.length).length ca, plaK s.dests s.dests.length⟩]) (ns ++ [s.id]) js (i + 1)) from ⟨by
                    refine (h6.sub (List.Sublist.cons_cons _ (List.Sublist.cons_cons _ (List.Sublist.cons_cons _ (List.Sublist.cons _ (List.Sublist.refl _)))))).perm ?_
                    refine List.Perm.cons _ (List.Perm.cons _ ?_)
                    unfold iRows
                    rw [List.map_append, ← List.append_assoc]
                    exact (List.perm_append_singleton _ (jobR u10 js :: (jRows js ++ List.map iRow ls))).symm, by
                    have := HA.out.1
                    rw [List.map_append, List.map_cons, List.map_nil, plaK_all]
                    exact this, HA.out.2⟩)
                  clear h5 h6 H4 HA Hk
                  go_wp2_with (first
                    | (at_builtin; refine wpList_append_run rfl (.tmp 98) (.tmp 101) 46 rfl _ _ _ _ rfl rfl hrun ?_)
                    | (at_builtin; refine wpList_append_run rfl (.tmp 103) (.tmp 105) 72 rfl _ _ _ _ rfl rfl hrun2 ?_))
                  go_meet
                  exact ⟨_, _, _, _, HT⟩
          · as_aux_lemma =>
            have b0 : (s.op == 0) = false := by rw [hop]; rfl
            have b1 : (s.op == 1) = true := by rw [hop]; rfl
            clear hop
            have HN := hid (HB.out.next (by omega) (by omega) (by omega))
            go_wp2_with fail
            refine HN.out.mono ?_
            rintro e w3 (⟨hn, rfl, h3⟩ | ⟨j, q', xj, cj, hn, rfl, y1, y2, h3⟩)
            · have HT := (show Hid (KpP w1 (w3.alloc (.cells #[.string ByteArray.empty, .string ByteArray.empty, .slice none 0 0] 49)) mb lm q u8 u9 u10 ls ns js (i + 1)) from ⟨h3.tail.quiet ((Ext.refl _ _).alloc _), HP.out.1.mono, HP.out.2⟩)
              clear h3 HN HB HP hq1 hq2 hq3 hn
              go_wp2_with fail
              go_meet
              exact ⟨_, _, _, _, HT⟩
            · obtain ⟨g1, g2, g3⟩ := HP.out.1.next hn
              have hlm2 := (next_lm hn).trans HP.out.2
              have h4 := h3.box [.string j.id, .string j.dest, .slice xj j.rs.length cj] 49
              clear h3 HN HB
              go_upto_region 28 with (fail)
              generalize w3.alloc (.cells #[.string j.id, .string j.dest, .slice xj j.rs.length cj] 49) = w4 at h4 ⊢
              obtain ⟨e0, ebl, -⟩ := h4.boxAt (List.mem_cons_self ..) 0 (by simp)
              obtain ⟨e1, -, -⟩ := h4.boxAt (List.mem_cons_self ..) 1 (by simp)
              obtain ⟨e2, -, -⟩ := h4.boxAt (List.mem_cons_self ..) 2 (by simp)
              simp only [List.getElem_cons_succ, List.getElem_cons_zero] at e0 e1 e2
              obtain ⟨xo, co, eo, yo1, yo2⟩ := h4.shape (List.mem_cons_of_mem _ (List.mem_cons_of_mem _ (List.mem_cons_of_mem _ (List.mem_cons_of_mem _ (List.mem_cons_of_mem _ (List.mem_cons_self ..))))))
              change u10 = .slice xo js.length co at eo
              change js.length ≤ co at yo1
              subst eo
              have hjl := HP.out.1.jl
              simp only [List.length_map] at hjl
              obtain ⟨xb, cb, wA, hrun, z1, z2, h5⟩ := (h4.pull [_, _, _, _, _]).job1 (⟨.slice xj j.rs.length cj, j⟩ : LJ) rfl (by omega)
              dsimp only at hrun
              have HT := (show Hid (KpP w1 wA mb lm q' u8 u9 (.slice xb (js.length + 1) cb) ls ns (js ++ [⟨.slice xj j.rs.length cj, j⟩]) (i + 1)) from ⟨by
                refine (h5.sub (List.Sublist.cons_cons _ (List.Sublist.cons _ (List.Sublist.cons_cons _ (List.Sublist.cons _ (List.Sublist.refl _)))))).perm ?_
                have e : jRows (js ++ [⟨.slice xj j.rs.length cj, j⟩]) = jRows js ++ [jRow (.slice xj j.rs.length cj) j] := by unfold jRows; rw [List.map_append]; rfl
                rw [e]
                exact kp_perm _ _ _ _ (jRows js) (iRows ls), by rw [List.map_append]; exact g1, hlm2⟩)
              clear h4 h5 hn g1 hlm2 HP
              go_wp2_with (at_builtin; refine wpList_append_run rfl (.tmp 115) (.tmp 117) 60 rfl _ _ _ _ rfl rfl hrun ?_)
              go_meet
              exact ⟨_, _, _, _, HT⟩
          · as_aux_lemma =>
            have b0 : (s.op == 0) = false := by rw [hop]; rfl
            have b1 : (s.op == 1) = false := by rw [hop]; rfl
            have b2 : (s.op == 2) = true := by rw [hop]; rfl
            clear hop
            obtain ⟨xo, co, eo, yo1, yo2⟩ := HB.out.shape (List.mem_cons_of_mem _ (List.mem_cons_of_mem _ (List.mem_cons_of_mem _ (List.mem_cons_self ..))))
            change u10 = .slice xo js.length co at eo
            change js.length ≤ co at yo1
            subst eo
            clear yo1 yo2
            obtain ⟨gk0, hg0⟩ : ∃ g, g = gk := ⟨gk, rfl⟩
            have Hg0 := hid hg0
            clear hg0
            by_cases hN : s.n < 0 ∨ (js.length : Int) ≤ s.n
            · have HT := (show Hid (KpP w1 _ mb lm _ u8 u9 _ ls ns js (i + 1)) from ⟨HB.out.tail, HP.out.1.mono, HP.out.2⟩)
              have hcs : s.n < 0 ∨ (¬ s.n < 0 ∧ (js.length : Int) ≤ s.n) := by omega
              clear HB HP hq1 hq2 hq3 hN
              rcases hcs with hN | ⟨hN, hN2⟩
              · go_wp2_with fail
                go_roundg (gk0 - 1)
                case measure => have := Hi.out; have := Hg0.out; omega
                case rel => exact ⟨i + 1, by go_num, by have := Hi.out; have := Hg0.out; omega, by omega, _, _, _, _, HT⟩
              · go_wp2_with fail
                go_roundg (gk0 - 1)
                case measure => have := Hi.out; have := Hg0.out; omega
                case rel => exact ⟨i + 1, by go_num, by have := Hi.out; have := Hg0.out; omega, by omega, _, _, _, _, HT⟩
            · obtain ⟨N, hNe⟩ := Int.eq_ofNat_of_zero_le (show 0 ≤ s.n by omega)
              have hNj : N < js.length := by omega
              have hN1 : ¬ (N : Int) < 0 := by omega
              have hN2 : ¬ js.length ≤ N := by omega
              clear hN
              rw [hNe] at s1 HB
              obtain ⟨go, co', eo, hgo, jc0, jc1, jc2⟩ := HB.out.jobAt (List.mem_cons_of_mem _ (List.mem_cons_of_mem _ (List.mem_cons_of_mem _ (List.mem_cons_self ..)))) N hNj
              injection eo with eo1 eo2 eo3
              subst eo1 eo3
              clear eo2
              have hmem : jRow js[N].v js[N].j ∈ (jRows js ++ iRows ls) := List.mem_append_left _ (List.mem_map.2 ⟨js[N], List.getElem_mem hNj, rfl⟩)
              obtain ⟨xj, cj, ej, yj1, yj2⟩ := HB.out.shape (List.mem_cons_of_mem _ (List.mem_cons_of_mem _ (List.mem_cons_of_mem _ (List.mem_cons_of_mem _ hmem))))
              change js[N].v = .slice xj js[N].j.rs.length cj at ej
              rw [ej] at jc2 hmem
              change js[N].j.rs.length ≤ cj at yj1
              have HC := hid (HB.out.box [.string js[N].j.id, .string js[N].j.dest, .slice xj js[N].j.rs.length cj] 49)
              have hjl := HP.out.1.jl
              simp only [List.length_map] at hjl
              have hjm : js[N].j ∈ js.map (·.j) := List.mem_map.2 ⟨js[N], List.getElem_mem hNj, rfl⟩
              have hne := HP.out.1.rs js[N].j hjm
              have HD := hid (HC.out.done (j := js[N].j) (x := xj) (c := cj) (List.mem_cons_of_mem _ (List.mem_cons_of_mem _ (List.mem_cons_of_mem _ (List.mem_cons_of_mem _ (List.mem_cons_of_mem _ hmem))))) K6.out c6 s.well s.now (by omega) (by omega) (HP.out.1.inv.fitsJ _) (fun e => by rw [e] at hne; simp at hne))
              have hdone := hid (HP.out.1.done js[N].j hjm s.results s.well s.now)
              have Hmem := hid hmem
              clear hmem
              go_wp2_with fail
              refine HD.out.mono ?_
              rintro e w3 ⟨rfl, h3⟩
              have hdone' := hdone.out
              have hlm3 := (done_lengths q js[N].j s.results s.well s.now).2.2.2
              generalize Qm.done q js[N].j s.results s.well s.now = R at h3 hdone' hlm3 ⊢
              clear hdone HD
              obtain ⟨f, q2⟩ := R
              dsimp only at h3 hdone' hlm3 ⊢
              rcases hdone' with ⟨hf, hqe⟩ | ⟨hf, hres, hA, hB⟩
              · have HT := (show Hid (KpP w1 w3 mb lm q2 u8 u9 (.slice (some ⟨go, 0, none⟩) js.length co) ls ns js (i + 1)) from ⟨h3.tail.tail, by rw [hqe]; exact HP.out.1.mono, hlm3.trans HP.out.2⟩)
                have hf2 : (f == 0) = false := by simpa using hf
                clear h3 hqe hf HP HC HB hq1 hq2 hq3 hlm3 hjl hN1 hN2 jc0 jc1 jc2 hne hjm
                go_wp2_with fail
                go_roundg (gk0 - 1)
                case measure => have := Hi.out; have := Hg0.out; omega
                case rel => exact ⟨i + 1, by go_num, by have := Hi.out; have := Hg0.out; omega, by omega, _, _, _, _, HT⟩
              · subst hf
                obtain ⟨xn, cn, en, yn1, yn2⟩ := h3.shape (List.mem_cons_of_mem _ (List.mem_cons_of_mem _ (List.mem_cons_of_mem _ (List.mem_cons_self ..))))
                change u9 = .slice xn ns.length cn at en
                change ns.length ≤ cn at yn1
                subst en
                have h5 : HasR w1 w3 mb q2 (boxR (w0.heap.size + 1) 49 [.string js[N].j.id, .string js[N].j.dest, .slice xj js[N].j.rs.length cj] :: boxR w0.heap.size 64 [.int .i64 s.op, .int .i64 (N : Nat), .string s.id, .int .i64 s.came, .int .i64 s.now, .slice x5 s.dests.length c5, .slice x6 s.results.length c6, .bool s.well, .string t8, .string t9, .slice x10 n10 c10] :: leftR u8 ls :: namesR (.slice xn ns.length cn) ns :: jobR (.slice (some ⟨go, 0, none⟩) js.length co) js :: (jRows js ++ iRows ls)) := by simpa using h3
                have HC3 := hid h5
                have Hres := hid hres
                have hres2 : (js[N].j.rs.length : Nat) ≤ s.results.length := by omega
                clear hres
                have HA := hid (And.intro (And.intro hA hB) (hlm3.trans HP.out.2))
                have hle1 : ls.length ≤ ns.length := by have := HP.out.1.len; simp at this; omega
                have hle2 : ns.length ≤ ls.length := by have := HP.out.1.len; simp at this; omega
                have hnl := HP.out.1.nl
                have hlb := HP.out.1.ll
                have HLB := (show Hid (∀ m (hm : m < ls.length), ls[m].l.length ≤ 200) from fun m hm => hlb _ (List.mem_map.2 ⟨ls[m], List.getElem_mem hm, rfl⟩))
                clear h3 h5 hA hB hlm3 HC HB HP hq1 hq2 hq3 jc0 jc1 jc2 hlb hjm s0 s1 s2 s3 s4 s5 s6 s7 s8 s9 s10
                go_wp2_with fail
                go_loopg [20] ns.length (fun gg v20 wz => ∃ n : Nat, v20 = .int .i64 ((n : Int) - 1) ∧ n = gg ∧ n ≤ ns.length ∧ Hid (∀ m (hm : m < ns.length), n ≤ m → ns[m] ≠ js[N].j.id) ∧ Hid (HasR w1 wz mb q2 (boxR (w0.heap.size + 1) 49 [.string js[N].j.id, .string js[N].j.dest, .slice xj js[N].j.rs.length cj] :: boxR w0.heap.size 64 [.int .i64 s.op, .int .i64 (N : Nat), .string s.id, .int .i64 s.came, .int .i64 s.now, .slice x5 s.dests.length c5, .slice x6 s.results.length c6, .bool s.well, .string t8, .string t9, .slice x10 n10 c10] :: leftR u8 ls :: namesR (.slice xn ns.length cn) ns :: jobR (.slice (some ⟨go, 0, none⟩) js.length co) js :: (jRows js ++ iRows ls))))
                case atStart => exact ⟨ns.length, by go_num, rfl, by omega, (show Hid _ from fun m hm h => absurd hm (by omega)), HC3⟩
                case round => as_aux_lemma =>
                  obtain ⟨n, hv, hn, hnl2, HNo, H4⟩ := hrel
                  have Hn := hid hn
                  clear hn HC3
                  cases n with
                  | zero =>
                    have hv : u20 = .int .i64 (-1) := hv
                    subst hv
                    have HT := (show Hid (KpP w1 wr mb lm q2 u8 (.slice xn ns.length cn) (.slice (some ⟨go, 0, none⟩) js.length co) ls ns js (i + 1)) from ⟨H4.out.tail.tail, HA.out.1.2 (fun m hm => HNo.out m hm (Nat.zero_le _)), HA.out.2⟩)
                    clear H4 HA HNo
                    go_wp2_with fail
                    go_meet
                    exact ⟨_, _, _, _, HT⟩
                  | succ m =>
                    have hv : u20 = .int .i64 (m : Nat) := by rw [hv]; go_num
                    subst hv
                    have hmn : m < ns.length := by omega
                    have hml : m < ls.length := by omega
                    have hml2 : ¬ (m : Int) < 0 := by omega
                    obtain ⟨gn, cn', en, hgn, n0, -⟩ := H4.out.nameAt (List.mem_cons_of_mem _ (List.mem_cons_of_mem _ (List.mem_cons_of_mem _ (List.mem_cons_self ..)))) m hmn
                    injection en with en1 en2 en3
                    subst en1 en3
                    clear en2
                    obtain ⟨e0, ebl, -⟩ := H4.out.boxAt (List.mem_cons_self ..) 0 (by simp)
                    simp only [List.getElem_cons_zero] at e0
                    have hnn := (show (∀ x (hx : x < ns.length), m < x → ns[x] ≠ js[N].j.id) from fun x hx h => HNo.out x hx h)
                    have Hnn := hid hnn
                    clear hnn HNo
                    by_cases hnm : ns[m] = js[N].j.id
                    · rw [hnm] at n0
                      have Hnm := hid hnm
                      clear hnm
                      obtain ⟨gl, cl, el, hgl, l0, lfz⟩ := H4.out.leftAt (List.mem_cons_of_mem _ (List.mem_cons_of_mem _ (List.mem_cons_self ..))) m hml
                      subst el
                      obtain ⟨xi, ci, ei, yi1, yi2⟩ := H4.out.shape (List.mem_cons_of_mem _ (List.mem_cons_of_mem _ (List.mem_cons_of_mem _ (List.mem_cons_of_mem _ (List.mem_cons_of_mem _ (List.mem_append_right _ (List.mem_map.2 ⟨ls[m], List.getElem_mem hml, rfl⟩ : iRow ls[m] ∈ iRows ls)))))))
                      change ls[m].v = .slice xi ls[m].l.length ci at ei
                      change ls[m].l.length ≤ ci at yi1
                      rw [ei] at l0
                      have Hei := hid ei
                      have hlb := HLB.out m hml
                      clear ei
                      have hne0 : (js[N].j.id.toList != js[N].j.id.toList) = false := by simp
                      go_wp2_with fail
                      go_quiet (fail)
                      have H5 := (show Hid (HasR w1 (wr.drewN nq) mb q2 (iRow ⟨.slice none 0 0, []⟩ :: boxR (w0.heap.size + 1) 49 [.string js[N].j.id, .string js[N].j.dest, .slice xj js[N].j.rs.length cj] :: boxR w0.heap.size 64 [.int .i64 s.op, .int .i64 (N : Nat), .string s.id, .int .i64 s.came, .int .i64 s.now, .slice x5 s.dests.length c5, .slice x6 s.results.length c6, .bool s.well, .string t8, .string t9, .slice x10 n10 c10] :: leftR (.slice (some ⟨gl, 0, none⟩) ls.length cl) ls :: namesR (.slice (some ⟨gn, 0, none⟩) ns.length cn) ns :: jobR (.slice (some ⟨go, 0, none⟩) js.length co) js :: (jRows js ++ iRows ls))) from (H4.out.quiet ((Ext.refl _ _).drewN nq)).empty 3 1)
                      have hlz : (wr.drewN nq).cell? ⟨gl, m, none⟩ = some (.slice xi ls[m].l.length ci) := l0
                      clear H4 n0 e0
                      have hgl2 : gl < (wr.drewN nq).heap.size := by simpa using hgl
                      clear hgn ebl
                      go_wp2_with fail
                      go_loopg [21, 22] ls[m].l.length (fun gg v21 v22 wz => ∃ r : Nat, v22 = .int .i64 r ∧ r + gg = ls[m].l.length ∧ Hid (HasR w1 wz mb q2 (iRow ⟨v21, stayK ls[m].l js[N].j s.results r⟩ :: boxR (w0.heap.size + 1) 49 [.string js[N].j.id, .string js[N].j.dest, .slice xj js[N].j.rs.length cj] :: boxR w0.heap.size 64 [.int .i64 s.op, .int .i64 (N : Nat), .string s.id, .int .i64 s.came, .int .i64 s.now, .slice x5 s.dests.length c5, .slice x6 s.results.length c6, .bool s.well, .string t8, .string t9, .slice x10 n10 c10] :: leftR (.slice (some ⟨gl, 0, none⟩) ls.length cl) ls :: namesR (.slice (some ⟨gn, 0, none⟩) ns.length cn) ns :: jobR (.slice (some ⟨go, 0, none⟩) js.length co) js :: (jRows js ++ iRows ls))))
                      case atStart => exact ⟨0, rfl, by omega, H5⟩
                      case round => as_aux_lemma =>
                        obtain ⟨r, rfl, hr, H6⟩ := hrel
                        have Hr := hid hr
                        have hrn : r ≤ ls[m].l.length := by omega
                        clear hr H5 l0 hlz hgl hgl2 lfz
                        obtain ⟨gl', cl', el, hgl, l0, lfz⟩ := H6.out.leftAt (List.mem_cons_of_mem _ (List.mem_cons_of_mem _ (List.mem_cons_of_mem _ (List.mem_cons_self ..)))) m hml
                        injection el with el1 el2 el3
                        injection el1 with el1
                        injection el1 with el1
                        subst el1
                        clear el2 el3
                        rw [Hei.out] at l0
                        obtain ⟨xs, cs, es, ys1, ys2⟩ := H6.out.shape (List.mem_cons_self ..)
                        change u21 = .slice xs (stayK ls[m].l js[N].j s.results r).length cs at es
                        change (stayK ls[m].l js[N].j s.results r).length ≤ cs at ys1
                        subst es
                        have hsl := stayK_length ls[m].l js[N].j s.results r
                        by_cases hlr : r < ls[m].l.length
                        · obtain ⟨gk2, hg2⟩ : ∃ g, g = gk := ⟨gk, rfl⟩
                          have Hg2 := hid hg2
                          clear hg2
                          obtain ⟨e2, ebl, -⟩ := H6.out.boxAt (List.mem_cons_of_mem _ (List.mem_cons_self ..)) 2 (by simp)
                          simp only [List.getElem_cons_succ, List.getElem_cons_zero] at e2
                          go_wp2_with fail
                          go_loopg [23, 24] js[N].j.rs.length (fun gg v23 v24 wz => ∃ x : Nat, v24 = .int .i64 x ∧ v23 = .bool (gonK js[N].j s.results ls[m].l[r] x) ∧ x + gg = js[N].j.rs.length ∧ Hid (HasR w1 wz mb q2 (iRow ⟨.slice xs (stayK ls[m].l js[N].j s.results r).length cs, stayK ls[m].l js[N].j s.results r⟩ :: boxR (w0.heap.size + 1) 49 [.string js[N].j.id, .string js[N].j.dest, .slice xj js[N].j.rs.length cj] :: boxR w0.heap.size 64 [.int .i64 s.op, .int .i64 (N : Nat), .string s.id, .int .i64 s.came, .int .i64 s.now, .slice x5 s.dests.length c5, .slice x6 s.results.length c6, .bool s.well, .string t8, .string t9, .slice x10 n10 c10] :: leftR (.slice (some ⟨gl, 0, none⟩) ls.length cl) ls :: namesR (.slice (some ⟨gn, 0, none⟩) ns.length cn) ns :: jobR (.slice (some ⟨go, 0, none⟩) js.length co) js :: (jRows js ++ iRows ls))))
                          case atStart => exact ⟨0, rfl, by simp [gonK], by omega, H6⟩
                          case round => as_aux_lemma =>
                            obtain ⟨x, rfl, hv, hx, H7⟩ := hrel
                            have Hx := hid hx
                            have hxn : x ≤ js[N].j.rs.length := by omega
                            clear hx H6 l0 lfz hgl e2 ebl
                            obtain ⟨e2, ebl, -⟩ := H7.out.boxAt (List.mem_cons_of_mem _ (List.mem_cons_self ..)) 2 (by simp)
                            obtain ⟨e6, ebl6, -⟩ := H7.out.boxAt (List.mem_cons_of_mem _ (List.mem_cons_of_mem _ (List.mem_cons_self ..))) 6 (by simp)
                            simp only [List.getElem_cons_succ, List.getElem_cons_zero] at e2 e6
                            obtain ⟨gl', cl', el, hgl, l0, lfz⟩ := H7.out.leftAt (List.mem_cons_of_mem _ (List.mem_cons_of_mem _ (List.mem_cons_of_mem _ (List.mem_cons_self ..)))) m hml
                            injection el with el1 el2 el3
                            injection el1 with el1
                            injection el1 with el1
                            subst el1
                            clear el2 el3
                            rw [Hei.out] at l0
                            obtain ⟨gi, ci', ei, hgi, i0⟩ := H7.out.intAt (List.mem_cons_of_mem _ (List.mem_cons_of_mem _ (List.mem_cons_of_mem _ (List.mem_cons_of_mem _ (List.mem_cons_of_mem _ (List.mem_cons_of_mem _ (List.mem_append_right _ (List.mem_map.2 ⟨ls[m], List.getElem_mem hml, rfl⟩ : iRow ls[m] ∈ iRows ls)))))))) r hlr
                            rw [Hei.out] at ei
                            injection ei with ei1 ei2 ei3
                            subst ei1
                            clear ei2 ei3
                            by_cases hlx : x < js[N].j.rs.length
                            · obtain ⟨gj, cj', ej2, hgj, hcj⟩ := H7.out.jrowAt (List.mem_cons_of_mem _ (List.mem_cons_of_mem _ (List.mem_cons_of_mem _ (List.mem_cons_of_mem _ (List.mem_cons_of_mem _ (List.mem_cons_of_mem _ Hmem.out)))))) x hlx
                              injection ej2 with ej1 ej3 ej4
                              subst ej1
                              clear ej3 ej4
                              obtain ⟨gr, or_, rfl, hgr, hrc⟩ := K6.out.2 x (by omega)
                              have hrc2 : wr.cell? ⟨gr, or_ + x, none⟩ = some (.int .i64 (s.results.getD x 0)) := (H7.out.ext.cell hgr (fun f => f) (or_ + x)).trans hrc
                              have hgr2 := Nat.lt_of_lt_of_le hgr H7.out.ext.size
                              have hxr : x < s.results.length := by omega
                              rw [List.getD_eq_getElem?_getD, List.getElem?_eq_getElem hxr] at hrc2
                              simp only [Option.getD_some] at hrc2
                              have hou := gonK_next js[N].j s.results ls[m].l[r] x hlx hxr
                              generalize gonK js[N].j s.results ls[m].l[r] x = A at hv hou
                              have H9 := hid (fun (kk : Nat) => H7.out.quiet ((Ext.refl _ _).drewN kk))
                              clear H7 hrc hgr
                              subst hv
                              cases A with
                              | true => as_aux_lemma =>
                                have Hou := hid hou
                                clear hou
                                go_wp2_with fail
                                go_quiet (fail)
                                go_wp2_with fail
                                go_roundg (gk - 1)
                                case measure => have := Hx.out; omega
                                case rel => exact ⟨x + 1, by go_num, by rw [Hou.out]; rfl, by have := Hx.out; omega, hid (H9.out _)⟩
                              | false => as_aux_lemma =>
                                have hb1 : (((js[N].j.rs[x] : Nat) : Int) == ((ls[m].l[r] : Nat) : Int)) = decide (js[N].j.rs[x] = ls[m].l[r]) := by
                                  rw [Bool.eq_iff_iff, beq_iff_eq, decide_eq_true_iff]; omega
                                have hb2 : (s.results[x] != 1) = decide (s.results[x] ≠ 1) := by
                                  rw [Bool.eq_iff_iff, bne_iff_ne, decide_eq_true_iff]
                                rw [← hb1, ← hb2] at hou
                                clear hb1 hb2
                                have Hou := hid hou
                                clear hou
                                generalize hB : (((js[N].j.rs[x] : Nat) : Int) == ((ls[m].l[r] : Nat) : Int)) = B at Hou
                                generalize hC : (s.results[x] != 1) = C at Hou
                                cases B with
                                | false => as_aux_lemma =>
                                  clear hC
                                  go_wp2_with fail
                                  go_quiet (fail)
                                  go_wp2_with fail
                                  go_roundg (gk - 1)
                                  case measure => have := Hx.out; omega
                                  case rel => exact ⟨x + 1, by go_num, by rw [Hou.out]; rfl, by have := Hx.out; omega, hid (H9.out _)⟩
                                | true => as_aux_lemma =>
                                  cases C with
                                  | false => as_aux_lemma =>
                                    go_wp2_with fail
                                    go_quiet (fail)
                                    go_wp2_with fail
                                    go_roundg (gk - 1)
                                    case measure => have := Hx.out; omega
                                    case rel => exact ⟨x + 1, by go_num, by rw [Hou.out]; rfl, by have := Hx.out; omega, hid (H9.out _)⟩
                                  | true => as_aux_lemma =>
                                    go_wp2_with fail
                                    go_quiet (fail)
                                    go_wp2_with fail
                                    go_roundg (gk - 1)
                                    case measure => have := Hx.out; omega
                                    case rel => exact ⟨x + 1, by go_num, by rw [Hou.out]; rfl, by have := Hx.out; omega, hid (H9.out _)⟩
                            · obtain rfl : x = js[N].j.rs.length := by omega
                              rw [gonK_all _ _ _ Hres.out] at hv
                              have hlf := stayK_next ls[m].l js[N].j s.results r hlr
                              cases hin : goneR js[N].j s.results ls[m].l[r] with
                              | true => as_aux_lemma =>
                                rw [hin] at hv hlf
                                subst hv
                                simp only [if_true, List.append_nil] at hlf
                                have H9 := (show Hid (HasR w1 wr mb q2 (iRow ⟨.slice xs (stayK ls[m].l js[N].j s.results r).length cs, stayK ls[m].l js[N].j s.results (r + 1)⟩ :: _)) from by rw [hlf]; exact H7.out)
                                clear H7 hin hlf
                                go_wp2_with fail
                                go_roundg (gk2 - 1)
                                case measure => have := Hr.out; have := Hg2.out; omega
                                case rel => exact ⟨r + 1, by go_num, by have := Hr.out; have := Hg2.out; omega, H9⟩
                              | false => as_aux_lemma =>
                                rw [hin] at hv hlf
                                subst hv
                                simp only [Bool.false_eq_true, if_false] at hlf
                                obtain ⟨xb, cb, wA, hrun, y1, y2, hN2⟩ := H7.out.int1 ls[m].l[r] (by omega)
                                rw [← hlf] at hN2
                                have H9 := hid hN2
                                clear H7 hin hlf hN2
                                go_wp2_with (at_builtin; refine wpList_append_run rfl (.tmp 203) (.tmp 211) 30 rfl _ _ _ _ rfl rfl hrun ?_)
                                go_roundg (gk2 - 1)
                                case measure => have := Hr.out; have := Hg2.out; omega
                                case rel => exact ⟨r + 1, by go_num, by have := Hr.out; have := Hg2.out; omega, H9⟩
                        · obtain rfl : r = ls[m].l.length := by omega
                          have HT := (show Hid (KpP w1 (wr.setCell ⟨gl, m, none⟩ (.slice xs (stayK ls[m].l js[N].j s.results ls[m].l.length).length cs)) mb lm q2 (.slice (some ⟨gl, 0, none⟩) ls.length cl) (.slice (some ⟨gn, 0, none⟩) ns.length cn) (.slice (some ⟨go, 0, none⟩) js.length co) (ls.set m ⟨.slice xs (stayK ls[m].l js[N].j s.results ls[m].l.length).length cs, stayK ls[m].l js[N].j s.results ls[m].l.length⟩) ns js (i + 1)) from ⟨by
                            have h1 := (H6.out.pull [_, _, _]).lefts gl rfl m ⟨.slice xs (stayK ls[m].l js[N].j s.results ls[m].l.length).length cs, stayK ls[m].l js[N].j s.results ls[m].l.length⟩
                            have h2 := h1.sub (List.Sublist.cons_cons _ (List.Sublist.cons_cons _ (List.Sublist.cons _ (List.Sublist.cons _ (List.Sublist.refl _)))))
                            exact HasR.swap (pre := _ :: _ :: _ :: jRows js) (h2.perm (List.Perm.swap _ _ _)) m hml, by
                            have h1 := HA.out.1.1 m hmn (by simpa using hml) Hnm.out Hnn.out
                            rw [List.map_set, stayK_all]
                            simpa using h1, HA.out.2⟩)
                          clear HA Hnm Hnn H6
                          go_wp2_with fail
                          go_meet
                          exact ⟨_, _, _, _, HT⟩
                    · have hne0 : (ns[m].toList != js[N].j.id.toList) = true := by
                        rw [bne_iff_ne]
                        exact fun e => hnm (tl_inj e)
                      have hne1 : (ns[m].toList == js[N].j.id.toList) = false := by
                        rw [beq_eq_false_iff_ne]
                        exact fun e => hnm (tl_inj e)
                      have H5 := hid (fun (kk : Nat) => H4.out.quiet ((Ext.refl _ _).drewN kk))
                      have Hnn2 := (show Hid (∀ x (hx : x < ns.length), m ≤ x → ns[x] ≠ js[N].j.id) from fun x hx h => by
                        rcases Nat.lt_or_ge m x with f | f
                        · exact Hnn.out x hx f
                        · obtain rfl : x = m := by omega
                          exact hnm)
                      clear hnm H4 Hnn
                      go_wp2_with fail
                      go_quiet (fail)
                      go_wp2_with fail
                      go_roundg m
                      case measure => have := Hn.out; omega
                      case rel => exact ⟨m, by go_num, rfl, by omega, Hnn2, hid (H5.out _)⟩
          · as_aux_lemma =>
            have b0 : (s.op == 0) = false := by rw [hop]; rfl
            have b1 : (s.op == 1) = false := by rw [hop]; rfl
            have b2 : (s.op == 2) = false := by rw [hop]; rfl
            have b4 : (s.op == 4) = true := by rw [hop]; rfl
            clear hop
            go_wp2_with fail
            refine (HB.out.again s.id s.now (by omega) (by omega) HP.out.1.inv.rl).mono ?_
            rintro e w3 ⟨rfl, h3⟩
            have HT := (show Hid (KpP w1 w3 mb lm _ u8 u9 u10 ls ns js (i + 1)) from ⟨h3.tail, HP.out.1.again _ _, (again_lengths HP.out.1.inv.rl _ _).2.2.2.trans HP.out.2⟩)
            generalize (Qm.again q s.id s.now).2 = q2 at HT
            clear h3 HB HP hq1 hq2 hq3
            go_wp2_with fail
            go_meet
            exact ⟨_, _, _, _, HT⟩
          · as_aux_lemma =>
            have b0 : (s.op == 0) = false := by rw [hop]; rfl
            have b1 : (s.op == 1) = false := by rw [hop]; rfl
            have b2 : (s.op == 2) = false := by rw [hop]; rfl
            have b4 : (s.op == 4) = false := by rw [hop]; rfl
            have b5 : (s.op == 5) = true := by rw [hop]; rfl
            clear hop
            go_wp2_with fail
            refine (HB.out.drop s.id).mono ?_
            rintro e w3 ⟨rfl, h3⟩
            have hdrop := HP.out.1.drop s.id
            have hlm3 := (drop_lengths q s.id).2.2.2.trans HP.out.2
            generalize Qm.drop q s.id = R at h3 hdrop hlm3 ⊢
            obtain ⟨f, q2⟩ := R
            dsimp only at h3 hdrop hlm3 ⊢
            obtain ⟨xn, cn, en, yn1, yn2⟩ := h3.shape (List.mem_cons_of_mem _ (List.mem_cons_of_mem _ (List.mem_cons_self ..)))
            change u9 = .slice xn ns.length cn at en
            change ns.length ≤ cn at yn1
            subst en
            have hnl := HP.out.1.nl
            rcases hdrop with ⟨hf, hqe⟩ | ⟨hf, hA⟩
            · have HT := (show Hid (KpP w1 w3 mb lm q2 u8 (.slice xn ns.length cn) u10 ls ns js (i + 1)) from ⟨h3.tail, by rw [hqe]; exact HP.out.1.mono, hlm3⟩)
              have hf2 : (f == 0) = false := by simpa using hf
              clear h3 hqe hf HB HP hq1 hq2 hq3 hlm3 s0 s1 s2 s3 s4 s5 s6 s7 s8 s9 s10
              go_wp2_with fail
              go_loopg [26] ns.length (fun gg v26 wz => ∃ k : Nat, v26 = .int .i64 k ∧ k + gg = ns.length ∧ Hid (KpP w1 wz mb lm q2 u8 (.slice xn ns.length cn) u10 ls ns js (i + 1)))
              case atStart => exact ⟨0, rfl, by omega, HT⟩
              case round => as_aux_lemma =>
                obtain ⟨k, rfl, hk, H4⟩ := hrel
                have Hk := hid hk
                have hkn : k ≤ ns.length := by omega
                clear hk HT
                by_cases hlk : k < ns.length
                · have H5 := hid (fun (kk : Nat) => (show KpP w1 (wr.drewN kk) mb lm q2 u8 (.slice xn ns.length cn) u10 ls ns js (i + 1) from ⟨H4.out.1.quiet ((Ext.refl _ _).drewN kk), H4.out.2⟩))
                  clear H4
                  go_wp2_with fail
                  go_quiet (fail)
                  go_wp2_with fail
                  go_roundg (gk - 1)
                  case measure => have := Hk.out; omega
                  case rel => exact ⟨k + 1, by go_num, by have := Hk.out; omega, hid (H5.out _)⟩
                · obtain rfl : k = ns.length := by omega
                  go_wp2_with fail
                  go_meet
                  exact ⟨_, _, _, _, H4⟩
            · subst hf
              have HA := hid (And.intro hA hlm3)
              have h5 : HasR w1 w3 mb q2 (namesR (.slice xn ns.length cn) (strK s.id ns 0) :: boxR w0.heap.size 64 [.int .i64 s.op, .int .i64 s.n, .string s.id, .int .i64 s.came, .int .i64 s.now, .slice x5 s.dests.length c5, .slice x6 s.results.length c6, .bool s.well, .string t8, .string t9, .slice x10 n10 c10] :: leftR u8 ls :: jobR u10 js :: (jRows js ++ iRows ls)) := by rw [strK_zero]; exact h3.pull [_, _]
              have HC3 := hid h5
              clear h3 h5 hA HB HP hq1 hq2 hq3 hlm3 s0 s1 s2 s3 s4 s5 s6 s7 s8 s9 s10
              go_wp2_with fail
              go_loopg [26] ns.length (fun gg v26 wz => ∃ k : Nat, v26 = .int .i64 k ∧ k + gg = ns.length ∧ Hid (HasR w1 wz mb q2 (namesR (.slice xn ns.length cn) (strK s.id ns k) :: boxR w0.heap.size 64 [.int .i64 s.op, .int .i64 s.n, .string s.id, .int .i64 s.came, .int .i64 s.now, .slice x5 s.dests.length c5, .slice x6 s.results.length c6, .bool s.well, .string t8, .string t9, .slice x10 n10 c10] :: leftR u8 ls :: jobR u10 js :: (jRows js ++ iRows ls))))
              case atStart => exact ⟨0, rfl, by omega, HC3⟩
              case round => as_aux_lemma =>
                obtain ⟨k, rfl, hk, H4⟩ := hrel
                have Hk := hid hk
                have hkn : k ≤ ns.length := by omega
                clear hk HC3
                by_cases hlk : k < ns.length
                · have hsl := strK_length s.id ns k
                  obtain ⟨gn, cn', en, hgn, n0, nfz⟩ := H4.out.nameAt (List.mem_cons_self ..) k (by omega)
                  rw [strK_at s.id ns k hlk] at n0
                  rw [hsl] at en
                  injection en with en1 en2 en3
                  subst en1 en3
                  clear en2
                  obtain ⟨e2, ebl, -⟩ := H4.out.boxAt (List.mem_cons_of_mem _ (List.mem_cons_self ..)) 2 (by simp)
                  simp only [List.getElem_cons_succ, List.getElem_cons_zero] at e2
                  by_cases hnm : ns[k] = s.id
                  · have hst := strK_yes s.id ns k hlk hnm
                    rw [hnm] at n0
                    have H5 := (show Hid (∀ kk, HasR w1 ((wr.drewN kk).setCell ⟨gn, k, none⟩ (.string ByteArray.empty)) mb q2 (namesR (.slice (some ⟨gn, 0, none⟩) ns.length cn) (strK s.id ns (k + 1)) :: boxR w0.heap.size 64 [.int .i64 s.op, .int .i64 s.n, .string s.id, .int .i64 s.came, .int .i64 s.now, .slice x5 s.dests.length c5, .slice x6 s.results.length c6, .bool s.well, .string t8, .string t9, .slice x10 n10 c10] :: leftR u8 ls :: jobR u10 js :: (jRows js ++ iRows ls))) from fun kk => by
                      rw [hst]
                      exact (H4.out.quiet ((Ext.refl _ _).drewN kk)).struck gn rfl k)
                    clear H4 hst hnm hsl
                    have hne0 : (s.id.toList == s.id.toList) = true := by simp
                    go_wp2_with fail
                    go_quiet (fail)
                    go_wp2_with fail
                    go_roundg (gk - 1)
                    case measure => have := Hk.out; omega
                    case rel => exact ⟨k + 1, by go_num, by have := Hk.out; omega, hid (H5.out _)⟩
                  · have hst := strK_no s.id ns k hlk hnm
                    have hne0 : (ns[k].toList == s.id.toList) = false := by
                      rw [beq_eq_false_iff_ne]
                      exact fun e => hnm (tl_inj e)
                    have H5 := (show Hid (∀ kk, HasR w1 (wr.drewN kk) mb q2 (namesR (.slice (some ⟨gn, 0, none⟩) ns.length cn) (strK s.id ns (k + 1)) :: boxR w0.heap.size 64 [.int .i64 s.op, .int .i64 s.n, .string s.id, .int .i64 s.came, .int .i64 s.now, .slice x5 s.dests.length c5, .slice x6 s.results.length c6, .bool s.well, .string t8, .string t9, .slice x10 n10 c10] :: leftR u8 ls :: jobR u10 js :: (jRows js ++ iRows ls))) from fun kk => by
                      rw [hst]
                      exact H4.out.quiet ((Ext.refl _ _).drewN kk))
                    clear H4 hst hnm hsl
                    go_wp2_with fail
                    go_quiet (fail)
                    go_wp2_with fail
                    go_roundg (gk - 1)
                    case measure => have := Hk.out; omega
                    case rel => exact ⟨k + 1, by go_num, by have := Hk.out; omega, hid (H5.out _)⟩
                · obtain rfl : k = ns.length := by omega
                  have HT := (show Hid (KpP w1 wr mb lm q2 u8 (.slice xn ns.length cn) u10 ls (strike s.id ns) js (i + 1)) from ⟨by
                    have h1 := H4.out
                    rw [strK_all] at h1
                    exact (h1.sub (List.Sublist.cons_cons _ (List.Sublist.cons _ (List.Sublist.refl _)))).put [_], HA.out.1, HA.out.2⟩)
                  clear H4 HA
                  go_wp2_with fail
                  go_meet
                  exact ⟨_, _, _, _, HT⟩
          · as_aux_lemma =>
            have b0 : (s.op == 0) = false := by simpa using o0
            have b1 : (s.op == 1) = false := by simpa using o1
            have b2 : (s.op == 2) = false := by simpa using o2
            have b4 : (s.op == 4) = false := by simpa using o4
            have b5 : (s.op == 5) = false := by simpa using o5
            have HT := (show Hid (KpP w1 _ mb lm _ u8 u9 u10 ls ns js (i + 1)) from ⟨HB.out.tail, HP.out.1.mono, HP.out.2⟩)
            clear HB HP hq1 hq2 hq3
            go_wp2_with fail
            go_meet
            exact ⟨_, _, _, _, HT⟩
        case rest => as_aux_lemma =>
          clear HB HP hq1 hq2 hq3 s0 s1 s2 s3 s4 s5 s6 s7 s8 s9 s10 K5 K6
          clear q ls ns js
          obtain ⟨q, ls, ns, js, HT⟩ := hcut
          obtain ⟨gk0, hg0⟩ : ∃ g, g = gk := ⟨gk, rfl⟩
          have Hg0 := hid hg0
          clear hg0
          have hle1 : ls.length ≤ ns.length := by have := HT.out.2.1.len; simp at this; omega
          have hle2 : ns.length ≤ ls.length := by have := HT.out.2.1.len; simp at this; omega
          have hnl := HT.out.2.1.nl
          obtain ⟨xn, cn, en, yn1, yn2⟩ := HT.out.1.shape (List.mem_cons_of_mem _ (List.mem_cons_self ..))
          change u9 = .slice xn ns.length cn at en
          change ns.length ≤ cn at yn1
          obtain ⟨xl, cl, el, yl1, yl2⟩ := HT.out.1.shape (List.mem_cons_self ..)
          change u8 = .slice xl ls.length cl at el
          change ls.length ≤ cl at yl1
          subst en el
          go_wp2_with fail
          go_loopg [27] ns.length (fun gg v27 wz => ∃ k : Nat, v27 = .int .i64 k ∧ k + gg = ns.length ∧ Hid (KpP w1 wz mb lm q (.slice xl ls.length cl) (.slice xn ns.length cn) u10 ls ns js (i + 1)))
          case atStart => exact ⟨0, rfl, by omega, HT⟩
          case round => as_aux_lemma =>
            obtain ⟨k, rfl, hk, H4⟩ := hrel
            have Hk := hid hk
            have hkn : k ≤ ns.length := by omega
            clear hk HT
            by_cases hlk : k < ns.length
            · obtain ⟨gk1, hg1⟩ : ∃ g, g = gk := ⟨gk, rfl⟩
              have Hg1 := hid hg1
              clear hg1
              have hlk2 : k < ls.length := by omega
              go_wp2_with fail
              go_loopg [28, 29] (ns.length - (k + 1)) (fun gg v28 v29 wz => ∃ n : Nat, v29 = .int .i64 ((k + 1 + n : Nat) : Int) ∧ v28 = .bool (latK ns k n ns[k]) ∧ k + 1 + n + gg = ns.length ∧ Hid (KpP w1 wz mb lm q (.slice xl ls.length cl) (.slice xn ns.length cn) u10 ls ns js (i + 1)))
              case atStart => exact ⟨0, by go_num, by simp [latK], by omega, H4⟩
              case round => as_aux_lemma =>
                obtain ⟨n, rfl, hv, hn, H5⟩ := hrel
                have Hn := hid hn
                have hnn : k + 1 + n ≤ ns.length := by omega
                clear hn H4
                obtain ⟨gn, cn', en, hgn, nk, -⟩ := H5.out.1.nameAt (List.mem_cons_of_mem _ (List.mem_cons_self ..)) k hlk
                injection en with en1 en2 en3
                subst en1 en3
                clear en2
                by_cases hln : k + 1 + n < ns.length
                · obtain ⟨gn', cn', en, -, nn, -⟩ := H5.out.1.nameAt (List.mem_cons_of_mem _ (List.mem_cons_self ..)) (k + 1 + n) hln
                  injection en with en1 en2 en3
                  injection en1 with en1
                  injection en1 with en1
                  subst en1
                  clear en2 en3
                  have hla := latK_next ns k n ns[k] hln
                  have hb := tl_beq ns[k + 1 + n] ns[k]
                  rw [← hb] at hla
                  clear hb
                  generalize latK ns k n ns[k] = A at hv hla
                  subst hv
                  have H6 := hid (fun (kk : Nat) => (show KpP w1 (wr.drewN kk) mb lm q (.slice xl ls.length cl) (.slice (some ⟨gn, 0, none⟩) ns.length cn) u10 ls ns js (i + 1) from ⟨H5.out.1.quiet ((Ext.refl _ _).drewN kk), H5.out.2⟩))
                  clear H5
                  cases A with
                  | true => as_aux_lemma =>
                    have Hla := hid hla
                    clear hla
                    go_wp2_with fail
                    go_quiet (fail)
                    go_wp2_with fail
                    go_roundg (gk - 1)
                    case measure => have := Hn.out; omega
                    case rel => exact ⟨n + 1, by go_num, by rw [Hla.out]; rfl, by have := Hn.out; omega, hid (H6.out _)⟩
                  | false => as_aux_lemma =>
                    have Hla := hid hla
                    clear hla
                    generalize hB : (ns[k + 1 + n].toList == ns[k].toList) = B at Hla
                    go_wp2_with fail
                    go_quiet (fail)
                    go_wp2_with fail
                    go_roundg (gk - 1)
                    case measure => have := Hn.out; omega
                    case rel => exact ⟨n + 1, by go_num, by rw [Hla.out]; simp, by have := Hn.out; omega, hid (H6.out _)⟩
                · have hno := fun (h : latK ns k n ns[k] = false) => latK_no (s := ns[k]) (show k + 1 + n = ns.length by omega) h
                  generalize latK ns k n ns[k] = A at hv hno
                  subst hv
                  have Hno := hid hno
                  clear hno
                  cases he : ns[k].toList.isEmpty with
                  | true => as_aux_lemma =>
                    clear Hno
                    go_wp2_with fail
                    go_roundg (gk1 - 1)
                    case measure => have := Hk.out; have := Hg1.out; omega
                    case rel => exact ⟨k + 1, by go_num, by have := Hk.out; have := Hg1.out; omega, H5⟩
                  | false => as_aux_lemma =>
                    cases A with
                    | true => as_aux_lemma =>
                      clear Hno
                      go_wp2_with fail
                      go_roundg (gk1 - 1)
                      case measure => have := Hk.out; have := Hg1.out; omega
                      case rel => exact ⟨k + 1, by go_num, by have := Hk.out; have := Hg1.out; omega, H5⟩
                    | false => as_aux_lemma =>
                      have hcur := H5.out.2.1.cur k hlk (by simpa using hlk2) (size1 he) (Hno.out rfl)
                      have hlq : leftQ q ns[k] = ls[k].l := by have := hcur.q; simpa using this
                      have HL := hid (H5.out.1.left ns[k] H5.out.2.1.inv.rl)
                      rw [hlq] at HL
                      obtain ⟨xi, ci, ei, yi1, yi2⟩ := H5.out.1.shape (List.mem_cons_of_mem _ (List.mem_cons_of_mem _ (List.mem_cons_of_mem _ (List.mem_append_right _ (List.mem_map.2 ⟨ls[k], List.getElem_mem hlk2, rfl⟩ : iRow ls[k] ∈ iRows ls)))))
                      change ls[k].v = .slice xi ls[k].l.length ci at ei
                      have Hei := hid ei
                      have HP := hid H5.out.2
                      clear hcur hlq Hno ei
                      go_wp2_with fail
                      refine HL.out.mono ?_
                      rintro e w5 ⟨xz, cz, rfl, yz1, yz2, h6⟩
                      obtain ⟨gl, cl', el, hgl, l0, -⟩ := h6.leftAt (List.mem_cons_of_mem _ (List.mem_cons_self ..)) k hlk2
                      injection el with el1 el2 el3
                      subst el1 el3
                      clear el2
                      rw [Hei.out] at l0
                      have HSI := hid (h6.sameI (List.mem_cons_self ..) (List.mem_cons_of_mem _ (List.mem_cons_of_mem _ (List.mem_cons_of_mem _ (List.mem_cons_of_mem _ (List.mem_append_right _ (by rw [← Hei.out]; exact List.mem_map.2 ⟨ls[k], List.getElem_mem hlk2, rfl⟩ : iRow ⟨.slice xi ls[k].l.length ci, ls[k].l⟩ ∈ iRows ls)))))) (Ext.refl _ _))
                      rw [decide_eq_true rfl] at HSI
                      have H6 := hid h6
                      clear h6 HL H5
                      go_wp2_with fail
                      refine HSI.out.mono ?_
                      rintro e w6 ⟨rfl, hx6⟩
                      have H7 := (show Hid (KpP w1 w6 mb lm q (.slice (some ⟨gl, 0, none⟩) ls.length cl) (.slice (some ⟨gn, 0, none⟩) ns.length cn) u10 ls ns js (i + 1)) from ⟨H6.out.tail.quiet hx6, HP.out⟩)
                      clear H6 HSI hx6 HP
                      go_wp2_with fail
                      go_roundg (gk1 - 1)
                      case measure => have := Hk.out; have := Hg1.out; omega
                      case rel => exact ⟨k + 1, by go_num, by have := Hk.out; have := Hg1.out; omega, H7⟩
            · obtain rfl : k = ns.length := by omega
              go_wp2_with fail
              go_roundg (gk0 - 1)
              case measure => have := Hi.out; have := Hg0.out; omega
              case rel => exact ⟨i + 1, by go_num, by have := Hi.out; have := Hg0.out; omega, by omega, _, _, _, _, H4⟩
      · have hexit : ¬ (i < sc.length) ∨ (i < sc.length ∧ ¬ i < 120) := by omega
        have HE := hid (HX.out.trans HI.out.1.ext)
        clear hlt HI
        rcases hexit with h1 | ⟨h1, h2⟩
        · go_wp2_with fail
          go_ret
          exact ⟨rfl, HE.out⟩
        · go_wp2_with fail
          go_ret
          exact ⟨rfl, HE.out⟩
end Go.Proofs.Ytnakafmlenngnaa.Qm
