/- QmgrApart: the walk. -/
import Derived.Test.YtnakafmlenngnaaQar
import Derived.Test.YtnakafmlenngnaaQdk
namespace Go.Proofs.Ytnakafmlenngnaa.Qm
open Go.RowKit Go.Proofs.Ytnakafmlenngnaa.Wi

set_option maxHeartbeats 16000000 in
set_option maxRecDepth 100000 in
theorem apart_law_run (a i m mi ma li : Int) (x : Option Addr) (sc : List St) (c : Nat) (w : World) (hr : StepsAt w x sc) : Calls Try.prog 9 #[limV a i m mi ma li, .slice x sc.length c] w fun e w' => e = .returned (.bool true) ∧ Ext (fun _ => False) w w' := by
  have hxa : Ext (fun _ => False) w (w.alloc (.cells #[.int .i64 a, .int .i64 i, .int .i64 m, .int .i64 mi, .int .i64 ma, .int .i64 li] 43)) := (Ext.refl _ _).alloc _
  have HAw := (show Hid (∀ W, Calls Try.prog 26 #[] W fun e w' => e = .returned (.bool true) ∧ Ext (fun _ => False) W w') from awake_run)
  cases hok : okLim a i m mi ma li with
  | false =>
    have HN := (show Hid (∀ W, Calls Try.prog 27 #[limV a i m mi ma li] W (QuietPost (.tuple #[.pointer none, .int .i64 1]) W)) from fun W => new_bad_run a i m mi ma li hok W)
    unfold limV at HN ⊢
    clear hok hr
    go_enter Try.func9, Try.ntmps9
    go_wp2_with fail
    refine (HAw.out _).mono ?_
    rintro e w1 ⟨rfl, hx1⟩
    have b1 := box_lim hx1
    have p0 : w1.cell? ⟨w.heap.size, 0, none⟩ = some (.int .i64 a) := by simp [World.cell?, b1]
    have p1 : w1.cell? ⟨w.heap.size, 1, none⟩ = some (.int .i64 i) := by simp [World.cell?, b1]
    have p2 : w1.cell? ⟨w.heap.size, 2, none⟩ = some (.int .i64 m) := by simp [World.cell?, b1]
    have p3 : w1.cell? ⟨w.heap.size, 3, none⟩ = some (.int .i64 mi) := by simp [World.cell?, b1]
    have p4 : w1.cell? ⟨w.heap.size, 4, none⟩ = some (.int .i64 ma) := by simp [World.cell?, b1]
    have p5 : w1.cell? ⟨w.heap.size, 5, none⟩ = some (.int .i64 li) := by simp [World.cell?, b1]
    have HX := hid (hxa.trans hx1)
    clear hx1 b1 hxa HAw
    go_wp2_with fail
    refine (HN.out _).mono ?_
    rintro e w2 ⟨rfl, hx2⟩
    have HX2 := hid (HX.out.trans hx2)
    clear hx2 HN HX
    go_wp2_with fail
    go_ret
    exact ⟨rfl, HX2.out⟩
  | true =>
    obtain ⟨lm, hlm, hlv, rfl, rfl, rfl, rfl, rfl, rfl⟩ := okLim_ok hok
    have HN := (show Hid (∀ W, Calls Try.prog 27 #[limV lm.active lm.ini lm.lim lm.minb lm.maxb lm.life] W (NewPost lm W)) from fun W => by rw [← hlv]; exact new_ok_run lm hlm W)
    unfold limV at HN ⊢
    have HLM := hid hlm
    obtain ⟨l1, l2, l3, l4, l5, l6, l7, l8, l9, l10⟩ := hlm
    have hml := hr.1
    have HR := hid hr
    clear hok hlv hr
    go_enter Try.func9, Try.ntmps9
    go_wp2_with fail
    refine (HAw.out _).mono ?_
    rintro e w1 ⟨rfl, hx1⟩
    have HBx := (show Hid (∀ W, Ext (fun _ => False) w1 W → W.heap[w.heap.size]? = some (.cells #[.int .i64 lm.active, .int .i64 (lm.ini : Nat), .int .i64 (lm.lim : Nat), .int .i64 lm.minb, .int .i64 lm.maxb, .int .i64 lm.life] 43 (0, 0))) from fun W hW => box_lim (hx1.trans hW))
    have b1 := HBx.out w1 (Ext.refl _ _)
    have p0 : w1.cell? ⟨w.heap.size, 0, none⟩ = some (.int .i64 lm.active) := by simp [World.cell?, b1]
    have p1 : w1.cell? ⟨w.heap.size, 1, none⟩ = some (.int .i64 (lm.ini : Nat)) := by simp [World.cell?, b1]
    have p2 : w1.cell? ⟨w.heap.size, 2, none⟩ = some (.int .i64 (lm.lim : Nat)) := by simp [World.cell?, b1]
    have p3 : w1.cell? ⟨w.heap.size, 3, none⟩ = some (.int .i64 lm.minb) := by simp [World.cell?, b1]
    have p4 : w1.cell? ⟨w.heap.size, 4, none⟩ = some (.int .i64 lm.maxb) := by simp [World.cell?, b1]
    have p5 : w1.cell? ⟨w.heap.size, 5, none⟩ = some (.int .i64 lm.life) := by simp [World.cell?, b1]
    have HX := hid (hxa.trans hx1)
    clear hx1 b1 hxa HAw
    go_wp2_with fail
    refine (HN.out _).mono ?_
    rintro e w2 ⟨mb, L, F, rfl, hM, hq, hx2, hF⟩
    have H0 := (show Hid (ApP w1 w2 mb lm (begin0 lm) (.slice none 0 0) (.slice none 0 0) (.slice none 0 0) [] [] [] 0) from
      ⟨(((show HasR w1 w2 mb (begin0 lm) [] from ⟨L, F, hM, hq, hF, hx2, Rows_.nil _ _ _⟩).empty 66 2).empty 4 1).empty 49 3, ApI.start lm HLM.out, rfl⟩)
    clear hM hq hF hx2 HN p0 p1 p2 p3 p4 p5
    go_wp2_with fail
    go_loopg [8, 9, 10, 11] sc.length (fun gg v8 v9 v10 v11 wr => ∃ i : Nat, v11 = .int .i64 i ∧ i + gg = sc.length ∧ i ≤ 150 ∧ ∃ q js opn air, Hid (ApP w1 wr mb lm q v8 v9 v10 js opn air i))
    case atStart => exact ⟨0, rfl, by omega, by omega, _, _, _, _, H0⟩
    case round =>
      obtain ⟨i, rfl, hi, hi9, q, js, opn, air, HI⟩ := hrel
      have Hi := hid hi
      have him : i ≤ sc.length := by omega
      clear hi H0
      by_cases hlt : i < sc.length ∧ i < 150
      · obtain ⟨hlt, h150⟩ := hlt
        obtain ⟨sb, so, rfl, hs⟩ := HR.out.2 i hlt
        have hs1 := hs.quiet HX.out
        clear hs
        generalize sc[i] = s at hs1
        have hcc : ∀ k, wr.cell? ⟨sb, k, none⟩ = w1.cell? ⟨sb, k, none⟩ := fun k => HI.out.1.ext.cell hs1.blt (fun f => f) k
        obtain ⟨sbl, s0, s1, s2, s3, s4, ⟨x5, c5, s5, k5⟩, ⟨x6, c6, s6, k6⟩, s7, ⟨t8, t9, x10, n10, c10, s8, s9, s10⟩⟩ := hs1
        rw [← hcc] at s0 s1 s2 s3 s4 s5 s6 s7 s8 s9 s10
        have K5 := hid k5
        have K6 := hid k6
        have HB := hid (HI.out.1.box (stC s x5 c5 x6 c6 t8 t9 x10 n10 c10) 64)
        have HP := hid HI.out.2
        have hq1 := HI.out.2.1.ml
        have hq2 := HI.out.2.1.dl
        have hq3 := HI.out.2.1.jq
        unfold stC at HB
        clear hcc k5 k6 HI
        rcases (show s.op = 0 ∨ s.op = 1 ∨ s.op = 2 ∨ s.op = 4 ∨ s.op = 5 ∨ (s.op ≠ 0 ∧ s.op ≠ 1 ∧ s.op ≠ 2 ∧ s.op ≠ 4 ∧ s.op ≠ 5) by omega) with hop | hop | hop | hop | hop | ⟨o0, o1, o2, o4, o5⟩
        · as_aux_lemma =>
          rw [hop] at s0 HB
          go_wp2_with fail
          refine (HB.out.add K5.out s.id s.came s.now c5 (by omega) (by omega)).mono ?_
          rintro e w3 ⟨rfl, h3⟩
          have HT := (show Hid (ApP w1 w3 mb lm _ u8 u9 u10 js opn air (i + 1)) from ⟨h3.tail, HP.out.1.add _ _ _ _, (add_lm _ _ _ _ _).trans HP.out.2⟩)
          generalize (Qm.add q s.id s.came s.dests s.now).2 = q2 at HT
          clear h3 HB HP hq1 hq2 hq3
          have hq4 := HT.out.2.1.ml
          have HA38 := hid (HT.out.1.active (by omega))
          have hnl := HT.out.hand
          go_wp2_with fail
          refine HA38.out.mono ?_
          rintro e wt ⟨xt, ct, rfl, ht⟩
          have HT2 := hid (And.intro ht HT.out.2)
          have q0 : wt.cell? ⟨w.heap.size, 0, none⟩ = some (.int .i64 lm.active) := by simp [World.cell?, HBx.out wt ht.ext]
          clear ht HA38 HT
          go_wp2_with fail
          go_roundg (gk - 1)
          case measure => have := Hi.out; omega
          case rel => exact ⟨i + 1, by go_num, by have := Hi.out; omega, by omega, _, _, _, _, HT2⟩
        · as_aux_lemma =>
          rw [hop] at s0 HB
          have HN := hid (HB.out.next (by omega) (by omega) (by omega))
          go_wp2_with fail
          refine HN.out.mono ?_
          rintro e w3 (⟨hn, rfl, h3⟩ | ⟨j, q', xj, cj, hn, rfl, y1, y2, h3⟩)
          · have HT := (show Hid (ApP w1 (w3.alloc (.cells #[.string ByteArray.empty, .string ByteArray.empty, .slice none 0 0] 49)) mb lm q u8 u9 u10 js opn air (i + 1)) from ⟨h3.tail.quiet ((Ext.refl _ _).alloc _), HP.out.1.mono, HP.out.2⟩)
            clear h3 HN HB HP hq1 hq2 hq3 hn
            go_wp2_with fail
            go_roundg (gk - 1)
            case measure => have := Hi.out; omega
            case rel => exact ⟨i + 1, by go_num, by have := Hi.out; omega, by omega, _, _, _, _, HT⟩
          · obtain ⟨g1, g2, g3, g4, g5, d, g6, g7, g8⟩ := HP.out.1.next hn
            have hlm2 := (next_lm hn).trans HP.out.2
            have hdl := h3.win (List.mem_of_getElem? g6)
            rw [hlm2] at hdl
            have HS33 := (show Hid (∀ W l', HasR w1 W mb q' l' → Calls Try.prog 33 #[.pointer (some ⟨mb, 0, none⟩), .string j.dest] W (QuietPost (.int .i64 (d.s : Nat)) W)) from fun W l' hW => by
              have := hW.size j.dest
              unfold ofD at this
              rw [g6] at this
              exact this)
            have HS34 := (show Hid (∀ W l', HasR w1 W mb q' l' → Calls Try.prog 34 #[.pointer (some ⟨mb, 0, none⟩), .string j.dest] W (QuietPost (.int .i64 (d.f : Nat)) W)) from fun W l' hW => by
              have := hW.flight j.dest
              unfold ofD at this
              rw [g6] at this
              exact this)
            have HJ := hid (h3.box [.string j.id, .string j.dest, .slice xj j.rs.length cj] 49)
            have hds := d.s
            have HPq := HP
            have HP2 := hid (And.intro g1 hlm2)
            have HA := hid (And.intro g4 g5)
            have hm1 : ¬ (j.rs.length : Int) < 1 := by omega
            have hm2 : ¬ (50 : Int) < (j.rs.length : Int) := by omega
            have hm3 : ¬ d.s < d.f := by omega
            have hm4 : ¬ lm.lim < d.s := by omega
            have hm5 : ¬ (d.f : Int) < 1 := by omega
            clear h3 HN HB hn g1 hlm2 hdl g6 g4 g5
            go_wp2_with fail
            refine (HS33.out _ _ HJ.out).mono ?_
            rintro e w4 ⟨rfl, h4⟩
            have HJ4 := hid (HJ.out.quiet h4)
            obtain ⟨e1, e2, -⟩ := HJ4.out.boxAt (List.mem_cons_self ..) 1 (by simp)
            clear h4 HJ HS33
            go_wp2_with fail
            refine (HS34.out _ _ HJ4.out).mono ?_
            rintro e w5 ⟨rfl, h5⟩
            have HJ5 := hid (HJ4.out.quiet h5)
            obtain ⟨e3, e4, -⟩ := HJ5.out.boxAt (List.mem_cons_self ..) 2 (by simp)
            have q2 : w5.cell? ⟨w.heap.size, 2, none⟩ = some (.int .i64 (lm.lim : Nat)) := by simp [World.cell?, HBx.out w5 HJ5.out.ext]
            clear h5 HJ4 HS34 e1 e2
            go_wp2_with fail
            have HL0 := (show Hid (∃ rest, HasR w1 w5 mb q' (airR u10 (airK air j 0) :: rest) ∧ boxR w3.heap.size 49 [.string j.id, .string j.dest, .slice xj j.rs.length cj] ∈ rest ∧ jRow (.slice xj j.rs.length cj) j ∈ rest ∧ (∀ W v' a', HasR w1 W mb q' (airR v' a' :: rest) → HasR w1 W mb q' (jobR u8 js :: opnR u9 opn :: airR v' a' :: jRow (.slice xj j.rs.length cj) j :: jRows js))) from by
              rw [airK_zero]
              exact rows_split HJ5.out)
            obtain ⟨rest, HL, hmb, hmj, hsp⟩ := HL0.out
            have HL1 := hid HL
            have Hsp := hid hsp
            generalize w3.heap.size = jb at HL0 HL1 hmb e3 e4 ⊢
            clear HL0 HL hsp HJ5
            clear hm1 hm2 hm3 hm4 hm5 g7 g8 q2 hds
            have hal := HP2.out.1.al
            have hqa := HP.out.1.al
            obtain ⟨gko, hgo⟩ : ∃ g, g = gk := ⟨gk, rfl⟩
            have Hgo := hid hgo
            clear hgo
            go_loopg [10, 17] j.rs.length (fun gg v10 v17 wy => ∃ k : Nat, v17 = .int .i64 k ∧ k + gg = j.rs.length ∧ Hid (HasR w1 wy mb q' (airR v10 (airK air j k) :: rest)))
            case atStart => exact ⟨0, rfl, by omega, HL1⟩
            case round => as_aux_lemma =>
              obtain ⟨k, rfl, hk, HI⟩ := hrel
              have Hk := hid hk
              have hkn : k ≤ j.rs.length := by omega
              clear hk HL1 e3 e4
              obtain ⟨e3, e4, -⟩ := HI.out.boxAt (List.mem_cons_of_mem _ hmb) 2 (by simp)
              by_cases hlk : k < j.rs.length
              · obtain ⟨gki, hgi⟩ : ∃ g, g = gk := ⟨gk, rfl⟩
                have Hgi := hid hgi
                clear hgi
                have hak := airK_length air j k
                obtain ⟨xa, ca, ea, ya1, ya2⟩ := HI.out.shape (List.mem_cons_self ..)
                change u10 = .slice xa (airK air j k).length ca at ea
                subst ea
                go_wp2_with fail
                go_loopg [18] (airK air j k).length (fun gg v18 wz => ∃ n : Nat, v18 = .int .i64 n ∧ n + gg = (airK air j k).length ∧ Hid (HasR w1 wz mb q' (airR (.slice xa (airK air j k).length ca) (airK air j k) :: rest)))
                case atStart => exact ⟨0, rfl, by omega, HI⟩
                case round => as_aux_lemma =>
                  obtain ⟨n, rfl, hn, HN⟩ := hrel
                  have Hn := hid hn
                  have hnn : n ≤ (airK air j k).length := by omega
                  clear hn HI e3 e4
                  obtain ⟨e3, e4, -⟩ := HN.out.boxAt (List.mem_cons_of_mem _ hmb) 2 (by simp)
                  obtain ⟨e5, -, -⟩ := HN.out.boxAt (List.mem_cons_of_mem _ hmb) 0 (by simp)
                  obtain ⟨gj, cj', ej, hgj, hcj⟩ := HN.out.jrowAt (List.mem_cons_of_mem _ hmj) k hlk
                  injection ej with ej1 ej2 ej3
                  subst ej1
                  clear ej2 ej3
                  by_cases hnl : n < (airK air j k).length
                  · obtain ⟨ga, ca', ea, hga, ha1, ha2⟩ := HN.out.airAt (List.mem_cons_self ..) n hnl
                    injection ea with ea1 ea2 ea3
                    subst ea1
                    clear ea2 ea3
                    have hnot := airK_not HA.out.1 HA.out.2 k hlk n hnl
                    simp only [List.getElem_cons_succ, List.getElem_cons_zero] at e3 e5
                    generalize (airK air j k)[n] = p at ha1 ha2 hnot
                    cases h1 : (p.1.toList == j.id.toList) with
                    | false => as_aux_lemma =>
                      clear hnot
                      go_wp2_with fail
                      go_quiet (fail)
                      go_wp2_with fail
                      have HN2 := (show Hid (HasR w1 (wr.drewN nq) mb q' (airR (.slice (some ⟨ga, 0, none⟩) (airK air j k).length ca) (airK air j k) :: rest)) from HN.out.quiet ((Ext.refl _ _).drewN nq))
                      go_roundg (gk - 1)
                      case measure => have := Hn.out; omega
                      case rel => exact ⟨n + 1, by go_num, by have := Hn.out; omega, HN2⟩
                    | true => as_aux_lemma =>
                      have hp : p.1 = j.id := by
                        rw [tl_beq] at h1
                        exact of_decide_eq_true h1
                      have hp2 : ((p.2 : Int) == (j.rs[k] : Int)) = false := by
                        have := hnot hp
                        simpa using (show ¬ (p.2 : Int) = ((j.rs[k] : Nat) : Int) by omega)
                      clear hnot hp
                      go_wp2_with fail
                      go_quiet (fail)
                      go_wp2_with fail
                      have HN2 := (show Hid (HasR w1 (wr.drewN nq) mb q' (airR (.slice (some ⟨ga, 0, none⟩) (airK air j k).length ca) (airK air j k) :: rest)) from HN.out.quiet ((Ext.refl _ _).drewN nq))
                      go_roundg (gk - 1)
                      case measure => have := Hn.out; omega
                      case rel => exact ⟨n + 1, by go_num, by have := Hn.out; omega, HN2⟩
                  · obtain rfl : n = (airK air j k).length := by omega
                    simp only [List.getElem_cons_succ, List.getElem_cons_zero] at e3 e5
                    obtain ⟨xb, cb, wA, hrun, z1, z2, hN2⟩ := HN.out.air1 j.id j.rs[k] (by omega)
                    have HN2 := (show Hid (HasR w1 wA mb q' (airR (.slice xb ((airK air j k).length + 1) cb) (airK air j (k + 1)) :: rest)) from by rw [airK_next air j k hlk]; exact hN2)
                    clear hN2 hal HN
                    go_wp2_with fail
                    go_region_law (first | ((with_reducible refine step_append_run ?_ (.tmp 154) (.tmp 163) #[62, 62] ?_ _ _ _ _ ?_ ?_ hrun ?_); any_goals rfl))
                    all_goals go_wp2_with fail
                    all_goals go_roundg (gki - 1)
                    all_goals first
                      | (have := Hk.out; have := Hgi.out; omega)
                      | exact ⟨k + 1, by go_num, by have := Hk.out; have := Hgi.out; omega, HN2⟩
              · obtain rfl : k = j.rs.length := by omega
                obtain ⟨e5, -, -⟩ := HI.out.boxAt (List.mem_cons_of_mem _ hmb) 0 (by simp)
                obtain ⟨e6, -, -⟩ := HI.out.boxAt (List.mem_cons_of_mem _ hmb) 1 (by simp)
                simp only [List.getElem_cons_succ, List.getElem_cons_zero] at e3 e5 e6
                have HQ := Hsp.out _ _ _ HI.out
                obtain ⟨xo, co, eo, yo1, yo2⟩ := HQ.shape (List.mem_cons_self ..)
                change u8 = .slice xo js.length co at eo
                subst eo
                obtain ⟨xp, cp, ep, yp1, yp2⟩ := HQ.shape (List.mem_cons_of_mem _ (List.mem_cons_self ..))
                change u9 = .slice xp opn.length cp at ep
                subst ep
                change js.length ≤ co at yo1
                change opn.length ≤ cp at yp1
                have hjl := HP2.out.1.jl
                have hol := HP2.out.1.len
                simp only [List.length_append, List.length_map, List.length_cons, List.length_nil] at hjl hol
                obtain ⟨xb, cb, wA, hrun, z1, z2, hQ2⟩ := HQ.job1 (⟨.slice xj j.rs.length cj, j⟩ : LJ) rfl (by omega)
                dsimp only at hrun
                obtain ⟨xd, cd, wB, hrun2, z3, z4, hQ3⟩ := (hQ2.perm (List.Perm.swap _ _ _)).opn1 true (by omega)
                have HT := (show Hid (ApP w1 wB mb lm q' (.slice xb (js.length + 1) cb) (.slice xd (opn.length + 1) cd) u10 (js ++ [⟨.slice xj j.rs.length cj, j⟩]) (opn ++ [true]) (air ++ j.rs.map fun r => (j.id, r)) (i + 1)) from ⟨by
                  rw [← airK_all]
                  refine hQ3.perm ?_
                  refine (List.Perm.swap _ _ _).trans (List.Perm.cons _ (List.Perm.cons _ (List.Perm.cons _ ?_)))
                  unfold jRows
                  rw [List.map_append]
                  exact (List.perm_append_singleton _ _).symm, by have := HP2.out.1; rw [List.map_append]; exact this, HP2.out.2⟩)
                clear hQ2 hQ3 HQ HI HPq HP HP2 HA hal hqa Hsp hmb hmj hol hjl
                go_wp2_with (first
                  | (at_builtin; refine wpList_append_run rfl (.tmp 165) (.tmp 167) 60 rfl _ _ _ _ rfl rfl hrun ?_)
                  | (at_builtin; refine wpList_append_run rfl (.tmp 169) (.tmp 170) 61 rfl _ _ _ _ rfl rfl hrun2 ?_))
                have hq4 := HT.out.2.1.ml
                have HA38 := hid (HT.out.1.active (by omega))
                have hnl := HT.out.hand
                go_wp2_with fail
                refine HA38.out.mono ?_
                rintro e wt ⟨xt, ct, rfl, ht⟩
                have HT2 := hid (And.intro ht HT.out.2)
                have q0 : wt.cell? ⟨w.heap.size, 0, none⟩ = some (.int .i64 lm.active) := by simp [World.cell?, HBx.out wt ht.ext]
                clear ht HA38 HT
                go_wp2_with fail
                go_roundg (gko - 1)
                case measure => have := Hi.out; have := Hgo.out; omega
                case rel => exact ⟨i + 1, by go_num, by have := Hi.out; have := Hgo.out; omega, by omega, _, _, _, _, HT2⟩
        · as_aux_lemma =>
          rw [hop] at s0 HB
          obtain ⟨xo, co, eo, yo1, yo2⟩ := HB.out.shape (List.mem_cons_of_mem _ (List.mem_cons_self ..))
          change u8 = .slice xo js.length co at eo
          change js.length ≤ co at yo1
          subst eo
          clear yo1 yo2
          by_cases hN : s.n < 0 ∨ (js.length : Int) ≤ s.n
          · have HT := (show Hid (ApP w1 _ mb lm _ _ u9 u10 js opn air (i + 1)) from ⟨HB.out.tail, HP.out.1.mono, HP.out.2⟩)
            have hcs : s.n < 0 ∨ (¬ s.n < 0 ∧ (js.length : Int) ≤ s.n) := by omega
            clear HB HP hq1 hq2 hq3 hN
            rcases hcs with hN | ⟨hN, hN2⟩
            · go_wp2_with fail
              go_roundg (gk - 1)
              case measure => have := Hi.out; omega
              case rel => exact ⟨i + 1, by go_num, by have := Hi.out; omega, by omega, _, _, _, _, HT⟩
            · go_wp2_with fail
              go_roundg (gk - 1)
              case measure => have := Hi.out; omega
              case rel => exact ⟨i + 1, by go_num, by have := Hi.out; omega, by omega, _, _, _, _, HT⟩
          · obtain ⟨N, hNe⟩ := Int.eq_ofNat_of_zero_le (show 0 ≤ s.n by omega)
            have hNj : N < js.length := by omega
            have hN1 : ¬ (N : Int) < 0 := by omega
            have hN2 : ¬ js.length ≤ N := by omega
            clear hN
            rw [hNe] at s1 HB
            obtain ⟨go, co', eo, hgo, jc0, jc1, jc2⟩ := HB.out.jobAt (List.mem_cons_of_mem _ (List.mem_cons_self ..)) N hNj
            injection eo with eo1 eo2 eo3
            subst eo1 eo3
            clear eo2
            have hmem : jRow js[N].v js[N].j ∈ jRows js := List.mem_map.2 ⟨js[N], List.getElem_mem hNj, rfl⟩
            obtain ⟨xj, cj, ej, yj1, yj2⟩ := HB.out.shape (List.mem_cons_of_mem _ (List.mem_cons_of_mem _ (List.mem_cons_of_mem _ (List.mem_cons_of_mem _ hmem))))
            change js[N].v = .slice xj js[N].j.rs.length cj at ej
            rw [ej] at jc2 hmem
            change js[N].j.rs.length ≤ cj at yj1
            have HC := hid (HB.out.box [.string js[N].j.id, .string js[N].j.dest, .slice xj js[N].j.rs.length cj] 49)
            have hjl := HP.out.1.jl
            have hol := HP.out.1.len
            simp only [List.length_map] at hjl hol
            have hne := HP.out.1.rs js[N].j (List.mem_map.2 ⟨js[N], List.getElem_mem hNj, rfl⟩)
            have HD := hid (HC.out.done (j := js[N].j) (x := xj) (c := cj) (List.mem_cons_of_mem _ (List.mem_cons_of_mem _ (List.mem_cons_of_mem _ (List.mem_cons_of_mem _ (List.mem_cons_of_mem _ hmem))))) K6.out c6 s.well s.now (by omega) (by omega) (HP.out.1.fits _) (fun e => by rw [e] at hne; simp at hne))
            have hdone := hid (HP.out.1.done js[N].j s.results s.well s.now)
            have Hmem := hid hmem
            obtain ⟨gko, hgk⟩ : ∃ g, g = gk := ⟨gk, rfl⟩
            have Hgo := hid hgk
            have Hol := hid hol
            clear hmem hgk hol
            go_wp2_with fail
            refine HD.out.mono ?_
            rintro e w3 ⟨rfl, h3⟩
            have hdone' := hdone.out
            have hlm3 := (done_lengths q js[N].j s.results s.well s.now).2.2.2
            generalize Qm.done q js[N].j s.results s.well s.now = R at h3 hdone' hlm3 ⊢
            clear hdone HD
            obtain ⟨f, q2⟩ := R
            dsimp only at h3 hdone' hlm3 ⊢
            rcases hdone' with ⟨hf, hq2e⟩ | ⟨hf, hc, hA⟩
            · have HT := (show Hid (ApP w1 w3 mb lm q2 (.slice (some ⟨go, 0, none⟩) js.length co) u9 u10 js opn air (i + 1)) from ⟨h3.tail.tail, by rw [hq2e]; exact HP.out.1.mono, hlm3.trans HP.out.2⟩)
              have hf2 : (f == 0) = false := by simpa using hf
              clear h3 hq2e hf HP HC HB hq1 hq2 hq3 hlm3 hjl hN1 hN2 jc0 jc1 jc2
              have hq4 := HT.out.2.1.ml
              have HA38 := hid (HT.out.1.active (by omega))
              have hnl := HT.out.hand
              go_wp2_with fail
              refine HA38.out.mono ?_
              rintro e wt ⟨xt, ct, rfl, ht⟩
              have HT2 := hid (And.intro ht HT.out.2)
              have q0 : wt.cell? ⟨w.heap.size, 0, none⟩ = some (.int .i64 lm.active) := by simp [World.cell?, HBx.out wt ht.ext]
              clear ht HA38 HT
              go_wp2_with fail
              go_roundg (gk - 1)
              case measure => have := Hi.out; omega
              case rel => exact ⟨i + 1, by go_num, by have := Hi.out; omega, by omega, _, _, _, _, HT2⟩
            · subst hf
              have e64 := (h3.boxAt (List.mem_cons_of_mem _ (List.mem_cons_self ..)) 1 (by simp)).1
              simp only [List.getElem_cons_succ, List.getElem_cons_zero] at e64
              have h4 : HasR w1 w3 mb q2 (boxR (wr.heap.size + 1) 49 [.string js[N].j.id, .string js[N].j.dest, .slice xj js[N].j.rs.length cj] :: jobR (.slice (some ⟨go, 0, none⟩) js.length co) js :: opnR u9 opn :: airR u10 air :: jRows js) := by
                have := h3.sub (List.Sublist.cons_cons _ (List.Sublist.cons _ (List.Sublist.refl _)))
                simpa using this
              obtain ⟨gp, cp, eop, hgp, op1, op2⟩ := h4.opnAt (List.mem_cons_of_mem _ (List.mem_cons_of_mem _ (List.mem_cons_self ..))) N (by have := Hol.out; omega)
              subst eop
              have HC3 := hid h4
              have HA3 := hid (And.intro hA (hlm3.trans HP.out.2))
              have Hc := hid hc
              have hal := HP.out.1.al
              clear h3 h4 hA hlm3 hc HC HB HP hq1 hq2 hq3 jc0 jc1 jc2
              have hNo : N < opn.length := by have := Hol.out; omega
              generalize wr.heap.size + 1 = jb at HC3 ⊢
              generalize hob : opn[N]'(by have := Hol.out; omega) = ob at op1
              clear hob
              go_upto_if 207 with (fail)
              go_cut [] (fun wx => Hid (HasR w1 wx mb q2 (boxR jb 49 [.string js[N].j.id, .string js[N].j.dest, .slice xj js[N].j.rs.length cj] :: jobR (.slice (some ⟨go, 0, none⟩) js.length co) js :: opnR (.slice (some ⟨gp, 0, none⟩) opn.length cp) opn :: airR u10 air :: jRows js)))
              case first => as_aux_lemma =>
                cases ob with
                | true => as_aux_lemma =>
                  go_wp2_with fail
                  go_meet
                  exact HC3
                | false => as_aux_lemma =>
                  go_wp2_with fail
                  go_loopg [21, 22] js.length (fun gg v21 v22 wz => ∃ k : Nat, v22 = .int .i64 k ∧ v21 = .bool (agK js opn js[N].j k) ∧ k + gg = js.length ∧ Hid (HasR w1 wz mb q2 (boxR jb 49 [.string js[N].j.id, .string js[N].j.dest, .slice xj js[N].j.rs.length cj] :: jobR (.slice (some ⟨go, 0, none⟩) js.length co) js :: opnR (.slice (some ⟨gp, 0, none⟩) opn.length cp) opn :: airR u10 air :: jRows js)))
                  case atStart => exact ⟨0, rfl, by simp [agK], by omega, HC3⟩
                  case round => as_aux_lemma =>
                    obtain ⟨k, rfl, hv, hk, H4⟩ := hrel
                    have Hk := hid hk
                    have hkn : k ≤ js.length := by omega
                    clear hk HC3 e64
                    obtain ⟨e0, ebl, -⟩ := H4.out.boxAt (List.mem_cons_self ..) 0 (by simp)
                    obtain ⟨e1, -, -⟩ := H4.out.boxAt (List.mem_cons_self ..) 1 (by simp)
                    obtain ⟨e2, -, -⟩ := H4.out.boxAt (List.mem_cons_self ..) 2 (by simp)
                    simp only [List.getElem_cons_succ, List.getElem_cons_zero] at e0 e1 e2
                    by_cases hlk : k < js.length
                    · have hol := Hol.out
                      obtain ⟨ga, ca, ea, hga, a0, a1, a2⟩ := H4.out.jobAt (List.mem_cons_of_mem _ (List.mem_cons_self ..)) k hlk
                      injection ea with ea1 ea2 ea3
                      injection ea1 with ea1
                      injection ea1 with ea1
                      subst ea1
                      clear ea2 ea3
                      obtain ⟨xk, ck, ek, -, -⟩ := H4.out.shape (List.mem_cons_of_mem _ (List.mem_cons_of_mem _ (List.mem_cons_of_mem _ (List.mem_cons_of_mem _ (List.mem_map.2 ⟨js[k], List.getElem_mem hlk, rfl⟩ : jRow js[k].v js[k].j ∈ jRows js)))))
                      change js[k].v = .slice xk js[k].j.rs.length ck at ek
                      rw [ek] at a2
                      have hmk : jRow (.slice xk js[k].j.rs.length ck) js[k].j ∈ jRows js := List.mem_map.2 ⟨js[k], List.getElem_mem hlk, by rw [ek]⟩
                      have HS := (show Hid (∀ W, Ext (fun _ => False) wr W → Calls Try.prog 35 #[.agg #[.string js[k].j.id, .string js[k].j.dest, .slice xk js[k].j.rs.length ck], .agg #[.string js[N].j.id, .string js[N].j.dest, .slice xj js[N].j.rs.length cj]] W (QuietPost (.bool (sameJ js[k].j js[N].j)) W)) from fun W hW => H4.out.same (List.mem_cons_of_mem _ (List.mem_cons_of_mem _ (List.mem_cons_of_mem _ (List.mem_cons_of_mem _ hmk)))) (List.mem_cons_of_mem _ (List.mem_cons_of_mem _ (List.mem_cons_of_mem _ (List.mem_cons_of_mem _ Hmem.out)))) hW)
                      obtain ⟨gp', cp', eop, hgp, op1, op2⟩ := H4.out.opnAt (List.mem_cons_of_mem _ (List.mem_cons_of_mem _ (List.mem_cons_self ..))) k (by omega)
                      injection eop with ep1 ep2 ep3
                      injection ep1 with ep1
                      injection ep1 with ep1
                      subst ep1
                      clear ep2 ep3
                      have hko : k < opn.length := by have := Hol.out; omega
                      have hag := agK_next js opn js[N].j k hlk (by omega)
                      generalize opn[k] = O at op1 hag
                      generalize sameJ js[k].j js[N].j = S at HS hag
                      generalize agK js opn js[N].j k = A at hv hag
                      have Hag := hid hag
                      clear hol hag hmk
                      subst hv
                      cases A with
                      | true => as_aux_lemma =>
                        go_wp2_with fail
                        first
                          | (go_region_law (first | (go_simp; go_at_call 35; refine (HS.out _ (by exact (Ext.refl _ _).drew)).mono ?_; rintro e wz ⟨rfl, hxz⟩)))
                          | fail
                        all_goals have HN2 := hid (H4.out.quiet ((Ext.refl _ _).drew.trans hxz))
                        all_goals clear hxz HS
                        all_goals go_wp2_with fail
                        all_goals go_roundg (gk - 1)
                        all_goals first
                          | (have := Hk.out; omega)
                          | exact ⟨k + 1, by go_num, by rw [Hag.out]; simp, by have := Hk.out; omega, HN2⟩
                      | false => as_aux_lemma =>
                        go_wp2_with fail
                        first
                          | (go_region_law (first | (go_simp; go_at_call 35; refine (HS.out _ (by exact (Ext.refl _ _).drew)).mono ?_; rintro e wz ⟨rfl, hxz⟩)))
                          | fail
                        all_goals have HN2 := hid (H4.out.quiet ((Ext.refl _ _).drew.trans hxz))
                        all_goals have ho2 := (hxz.cell (by assumption) (fun f => f) k).trans op1
                        all_goals clear hxz HS
                        all_goals cases S
                        all_goals go_wp2_with fail
                        all_goals go_roundg (gk - 1)
                        all_goals first
                          | (have := Hk.out; omega)
                          | exact ⟨k + 1, by go_num, by rw [Hag.out]; simp, by have := Hk.out; omega, HN2⟩
                    · obtain rfl : k = js.length := by omega
                      rw [agK_all Hol.out Hc.out] at hv
                      subst hv
                      go_wp2_with fail
                      go_meet
                      exact H4
              case rest => as_aux_lemma =>
                have HC4 := hid hcut.out
                clear hcut HC3 e64 op1 op2 hgp
                go_wp2_with fail
                go_loopg [24] js.length (fun gg v24 wz => ∃ k : Nat, v24 = .int .i64 k ∧ k + gg = js.length ∧ Hid (∀ m (hm : m < k) (hl : m < js.length) (ho : m < opn.length), (sameJ js[m].j js[N].j && opn[m]) = false) ∧ Hid (HasR w1 wz mb q2 (boxR jb 49 [.string js[N].j.id, .string js[N].j.dest, .slice xj js[N].j.rs.length cj] :: jobR (.slice (some ⟨go, 0, none⟩) js.length co) js :: opnR (.slice (some ⟨gp, 0, none⟩) opn.length cp) opn :: airR u10 air :: jRows js)))
                case atStart => exact ⟨0, rfl, by omega, (show Hid _ from fun m hm => absurd hm (by omega)), HC4⟩
                case round => as_aux_lemma =>
                  obtain ⟨k, rfl, hk, HNo, H4⟩ := hrel
                  have Hk := hid hk
                  have hkn : k ≤ js.length := by omega
                  clear hk HC4
                  obtain ⟨e0, ebl, -⟩ := H4.out.boxAt (List.mem_cons_self ..) 0 (by simp)
                  obtain ⟨e1, -, -⟩ := H4.out.boxAt (List.mem_cons_self ..) 1 (by simp)
                  obtain ⟨e2, -, -⟩ := H4.out.boxAt (List.mem_cons_self ..) 2 (by simp)
                  simp only [List.getElem_cons_succ, List.getElem_cons_zero] at e0 e1 e2
                  by_cases hlk : k < js.length
                  · have hol := Hol.out
                    obtain ⟨ga, ca, ea, hga, a0, a1, a2⟩ := H4.out.jobAt (List.mem_cons_of_mem _ (List.mem_cons_self ..)) k hlk
                    injection ea with ea1 ea2 ea3
                    injection ea1 with ea1
                    injection ea1 with ea1
                    subst ea1
                    clear ea2 ea3
                    obtain ⟨xk, ck, ek, -, -⟩ := H4.out.shape (List.mem_cons_of_mem _ (List.mem_cons_of_mem _ (List.mem_cons_of_mem _ (List.mem_cons_of_mem _ (List.mem_map.2 ⟨js[k], List.getElem_mem hlk, rfl⟩ : jRow js[k].v js[k].j ∈ jRows js)))))
                    change js[k].v = .slice xk js[k].j.rs.length ck at ek
                    rw [ek] at a2
                    have hmk : jRow (.slice xk js[k].j.rs.length ck) js[k].j ∈ jRows js := List.mem_map.2 ⟨js[k], List.getElem_mem hlk, by rw [ek]⟩
                    have HS := (show Hid (∀ W, Ext (fun _ => False) wr W → Calls Try.prog 35 #[.agg #[.string js[k].j.id, .string js[k].j.dest, .slice xk js[k].j.rs.length ck], .agg #[.string js[N].j.id, .string js[N].j.dest, .slice xj js[N].j.rs.length cj]] W (QuietPost (.bool (sameJ js[k].j js[N].j)) W)) from fun W hW => H4.out.same (List.mem_cons_of_mem _ (List.mem_cons_of_mem _ (List.mem_cons_of_mem _ (List.mem_cons_of_mem _ hmk)))) (List.mem_cons_of_mem _ (List.mem_cons_of_mem _ (List.mem_cons_of_mem _ (List.mem_cons_of_mem _ Hmem.out)))) hW)
                    obtain ⟨gp', cp', eop, hgp, op1, op2⟩ := H4.out.opnAt (List.mem_cons_of_mem _ (List.mem_cons_of_mem _ (List.mem_cons_self ..))) k (by omega)
                    injection eop with ep1 ep2 ep3
                    injection ep1 with ep1
                    injection ep1 with ep1
                    subst ep1
                    clear ep2 ep3
                    have hko : k < opn.length := by have := Hol.out; omega
                    have hN5 := hid (fun (h : (sameJ js[k].j js[N].j && opn[k]) = false) => (show Hid (∀ m (hm : m < k + 1) (hl : m < js.length) (ho : m < opn.length), (sameJ js[m].j js[N].j && opn[m]) = false) from fun m hm hl ho => by
                      by_cases e : m = k
                      · subst e; exact h
                      · exact HNo.out m (by omega) hl ho))
                    have hN6 := hid (fun (h : (sameJ js[k].j js[N].j && opn[k]) = true) => cIdx_eq (js := js) (opn := opn) (j := js[N].j) hlk (by omega) h (fun m hm => HNo.out m hm (by omega) (by omega)))
                    generalize opn[k] = O at op1 hN5 hN6
                    generalize sameJ js[k].j js[N].j = S at HS hN5 hN6
                    clear hol hmk
                    go_upto_region 52 with (fail)
                    go_cut [25] (fun v25 wx => v25 = .bool S ∧ Hid (Ext (fun _ => False) wr wx))
                    case first => as_aux_lemma =>
                      go_region_law (first | (go_simp; go_at_call 35; refine (HS.out _ (by exact (Ext.refl _ _).drew)).mono ?_; rintro e wz ⟨rfl, hxz⟩))
                      all_goals have HX5 := hid ((Ext.refl _ _).drew.trans hxz)
                      all_goals clear hxz HS
                      all_goals go_wp2_with fail
                      all_goals go_meet
                      all_goals exact ⟨rfl, HX5⟩
                    case rest => as_aux_lemma =>
                      obtain ⟨rfl, HX5⟩ := hcut
                      have H5 := hid (H4.out.quiet HX5.out)
                      clear HS e0 e1 e2 a0 a1 a2 ebl
                      have ho2 := (HX5.out.cell hgp (fun f => f) k).trans op1
                      obtain ⟨gq, cq, eq, -, -, of2⟩ := H5.out.opnAt (List.mem_cons_of_mem _ (List.mem_cons_of_mem _ (List.mem_cons_self ..))) k (by have := Hol.out; omega)
                      injection eq with ep1 ep2 ep3
                      injection ep1 with ep1
                      injection ep1 with ep1
                      subst ep1
                      clear ep2 ep3 op1 op2 HX5 H4
                      cases S with
                      | false => as_aux_lemma =>
                        have hN7 := hN5.out rfl
                        clear hN5 hN6
                        go_wp2_with fail
                        go_roundg (gk - 1)
                        case measure => have := Hk.out; omega
                        case rel => exact ⟨k + 1, by go_num, by have := Hk.out; omega, hN7, H5⟩
                      | true => as_aux_lemma =>
                        cases O with
                        | false => as_aux_lemma =>
                          have hN7 := hN5.out rfl
                          clear hN5 hN6
                          go_wp2_with fail
                          go_roundg (gk - 1)
                          case measure => have := Hk.out; omega
                          case rel => exact ⟨k + 1, by go_num, by have := Hk.out; omega, hN7, H5⟩
                        | true => as_aux_lemma =>
                          have HK := hid (hN6.out rfl)
                          clear hN5 hN6 HNo
                          obtain ⟨xa, ca, ea, ya1, ya2⟩ := H5.out.shape (List.mem_cons_of_mem _ (List.mem_cons_of_mem _ (List.mem_cons_of_mem _ (List.mem_cons_self ..))))
                          change u10 = .slice xa air.length ca at ea
                          change air.length ≤ ca at ya1
                          subst ea
                          have H6 := (show Hid (HasR w1 (wc.setCell ⟨gp, k, none⟩ (.bool false)) mb q2 (airR (.slice none 0 0) [] :: boxR jb 49 [.string js[N].j.id, .string js[N].j.dest, .slice xj js[N].j.rs.length cj] :: jobR (.slice (some ⟨go, 0, none⟩) js.length co) js :: opnR (.slice (some ⟨gp, 0, none⟩) opn.length cp) (opn.set k false) :: airR (.slice xa air.length ca) air :: jRows js)) from
                            (((H5.out.pull [_, _]).close gp rfl k).put [_, _]).empty 66 2)
                          clear H5
                          go_wp2_with fail
                          clear of2 ho2 hgp hga
                          go_loopg [26, 27] air.length (fun gg v26 v27 wz => ∃ n : Nat, v27 = .int .i64 n ∧ n + gg = air.length ∧ Hid (HasR w1 wz mb q2 (airR v26 (lftK air js[N].j n) :: boxR jb 49 [.string js[N].j.id, .string js[N].j.dest, .slice xj js[N].j.rs.length cj] :: jobR (.slice (some ⟨go, 0, none⟩) js.length co) js :: opnR (.slice (some ⟨gp, 0, none⟩) opn.length cp) (opn.set k false) :: airR (.slice xa air.length ca) air :: jRows js)))
                          case atStart => exact ⟨0, rfl, by omega, H6⟩
                          case round => as_aux_lemma =>
                            obtain ⟨n, rfl, hn, H7⟩ := hrel
                            have Hn := hid hn
                            have hnn : n ≤ air.length := by omega
                            clear hn H6
                            by_cases hln : n < air.length
                            · obtain ⟨gki, hgi⟩ : ∃ g, g = gk := ⟨gk, rfl⟩
                              have Hgi := hid hgi
                              clear hgi
                              obtain ⟨gz, cz, ez, hgz, z0, z1⟩ := H7.out.airAt (List.mem_cons_of_mem _ (List.mem_cons_of_mem _ (List.mem_cons_of_mem _ (List.mem_cons_of_mem _ (List.mem_cons_self ..))))) n hln
                              injection ez with ez1 ez2 ez3
                              subst ez1
                              clear ez2 ez3
                              obtain ⟨e2, ebl, -⟩ := H7.out.boxAt (List.mem_cons_of_mem _ (List.mem_cons_self ..)) 2 (by simp)
                              simp only [List.getElem_cons_succ, List.getElem_cons_zero] at e2
                              go_wp2_with fail
                              go_loopg [28, 29] js[N].j.rs.length (fun gg v28 v29 wz => ∃ r : Nat, v29 = .int .i64 r ∧ v28 = .bool (outK js[N].j air[n] r) ∧ r + gg = js[N].j.rs.length ∧ Hid (HasR w1 wz mb q2 (airR u26 (lftK air js[N].j n) :: boxR jb 49 [.string js[N].j.id, .string js[N].j.dest, .slice xj js[N].j.rs.length cj] :: jobR (.slice (some ⟨go, 0, none⟩) js.length co) js :: opnR (.slice (some ⟨gp, 0, none⟩) opn.length cp) (opn.set k false) :: airR (.slice (some ⟨gz, 0, none⟩) air.length ca) air :: jRows js)))
                              case atStart => exact ⟨0, rfl, by rw [outK_zero], by omega, H7⟩
                              case round => as_aux_lemma =>
                                obtain ⟨r, rfl, hv, hr, H8⟩ := hrel
                                have Hr := hid hr
                                have hrn : r ≤ js[N].j.rs.length := by omega
                                clear hr H7 z0 z1 e2 ebl hgz
                                obtain ⟨e2, ebl, -⟩ := H8.out.boxAt (List.mem_cons_of_mem _ (List.mem_cons_self ..)) 2 (by simp)
                                obtain ⟨e0, -, -⟩ := H8.out.boxAt (List.mem_cons_of_mem _ (List.mem_cons_self ..)) 0 (by simp)
                                simp only [List.getElem_cons_succ, List.getElem_cons_zero] at e2 e0
                                obtain ⟨gz, cz, ez, hgz, z0, z1⟩ := H8.out.airAt (List.mem_cons_of_mem _ (List.mem_cons_of_mem _ (List.mem_cons_of_mem _ (List.mem_cons_of_mem _ (List.mem_cons_self ..))))) n hln
                                injection ez with ez1 ez2 ez3
                                injection ez1 with ez1
                                injection ez1 with ez1
                                subst ez1
                                clear ez2 ez3
                                by_cases hlr : r < js[N].j.rs.length
                                · obtain ⟨gj, cj', ej2, hgj, hcj⟩ := H8.out.jrowAt (List.mem_cons_of_mem _ (List.mem_cons_of_mem _ (List.mem_cons_of_mem _ (List.mem_cons_of_mem _ (List.mem_cons_of_mem _ Hmem.out))))) r hlr
                                  injection ej2 with ej1 ej3 ej4
                                  subst ej1
                                  clear ej3 ej4
                                  have hou := outK_next js[N].j air[n] r hlr
                                  generalize outK js[N].j air[n] r = A at hv hou
                                  have H9 := hid (fun (kk : Nat) => H8.out.quiet ((Ext.refl _ _).drewN kk))
                                  clear H8
                                  subst hv
                                  cases A with
                                  | true => as_aux_lemma =>
                                    have Hou := hid hou
                                    clear hou
                                    go_wp2_with fail
                                    go_quiet (fail)
                                    go_wp2_with fail
                                    go_roundg (gk - 1)
                                    case measure => have := Hr.out; omega
                                    case rel => exact ⟨r + 1, by go_num, by rw [Hou.out]; rfl, by have := Hr.out; omega, hid (H9.out _)⟩
                                  | false => as_aux_lemma =>
                                    have hb1 := tl_beq air[n].1 js[N].j.id
                                    have hb2 : (((air[n].2 : Nat) : Int) == ((js[N].j.rs[r] : Nat) : Int)) = decide (air[n].2 = js[N].j.rs[r]) := by
                                      rw [Bool.eq_iff_iff, beq_iff_eq, decide_eq_true_iff]; omega
                                    rw [← hb1, ← hb2] at hou
                                    clear hb1 hb2
                                    have Hou := hid hou
                                    clear hou
                                    generalize hB : (air[n].1.toList == js[N].j.id.toList) = B at Hou
                                    generalize hC : (((air[n].2 : Nat) : Int) == ((js[N].j.rs[r] : Nat) : Int)) = C at Hou
                                    cases B with
                                    | false => as_aux_lemma =>
                                      clear hC
                                      go_wp2_with fail
                                      go_quiet (fail)
                                      go_wp2_with fail
                                      go_roundg (gk - 1)
                                      case measure => have := Hr.out; omega
                                      case rel => exact ⟨r + 1, by go_num, by rw [Hou.out]; rfl, by have := Hr.out; omega, hid (H9.out _)⟩
                                    | true => as_aux_lemma =>
                                      cases C with
                                      | false => as_aux_lemma =>
                                        go_wp2_with fail
                                        go_quiet (fail)
                                        go_wp2_with fail
                                        go_roundg (gk - 1)
                                        case measure => have := Hr.out; omega
                                        case rel => exact ⟨r + 1, by go_num, by rw [Hou.out]; rfl, by have := Hr.out; omega, hid (H9.out _)⟩
                                      | true => as_aux_lemma =>
                                        go_wp2_with fail
                                        go_quiet (fail)
                                        go_wp2_with fail
                                        go_roundg (gk - 1)
                                        case measure => have := Hr.out; omega
                                        case rel => exact ⟨r + 1, by go_num, by rw [Hou.out]; rfl, by have := Hr.out; omega, hid (H9.out _)⟩
                                · obtain rfl : r = js[N].j.rs.length := by omega
                                  rw [outK_all] at hv
                                  have hlf := lftK_next air js[N].j n hln
                                  have hll := lftK_length air js[N].j n
                                  cases hin : inJob js[N].j air[n] with
                                  | true => as_aux_lemma =>
                                    rw [hin] at hv hlf
                                    subst hv
                                    simp only [if_true, List.append_nil] at hlf
                                    have H9 := (show Hid (HasR w1 wr mb q2 (airR u26 (lftK air js[N].j (n + 1)) :: boxR jb 49 [.string js[N].j.id, .string js[N].j.dest, .slice xj js[N].j.rs.length cj] :: jobR (.slice (some ⟨go, 0, none⟩) js.length co) js :: opnR (.slice (some ⟨gp, 0, none⟩) opn.length cp) (opn.set k false) :: airR (.slice (some ⟨gz, 0, none⟩) air.length ca) air :: jRows js)) from by rw [hlf]; exact H8.out)
                                    clear H8 hin hlf
                                    go_wp2_with fail
                                    go_roundg (gki - 1)
                                    case measure => have := Hn.out; have := Hgi.out; omega
                                    case rel => exact ⟨n + 1, by go_num, by have := Hn.out; have := Hgi.out; omega, H9⟩
                                  | false => as_aux_lemma =>
                                    rw [hin] at hv hlf
                                    subst hv
                                    simp only [Bool.false_eq_true, if_false] at hlf
                                    obtain ⟨xb, cb, wA, hrun, y1, y2, hN2⟩ := H8.out.air2 air[n].1 air[n].2 (by omega)
                                    rw [show lftK air js[N].j n ++ [(air[n].1, air[n].2)] = lftK air js[N].j (n + 1) from hlf.symm] at hN2
                                    have H9 := hid hN2
                                    clear H8 hin hlf hN2
                                    go_wp2_with (at_builtin; refine wpList_append_run rfl (.tmp 295) (.tmp 300) 62 rfl _ _ _ _ rfl rfl hrun ?_)
                                    go_roundg (gki - 1)
                                    case measure => have := Hn.out; have := Hgi.out; omega
                                    case rel => exact ⟨n + 1, by go_num, by have := Hn.out; have := Hgi.out; omega, H9⟩
                            · obtain rfl : n = air.length := by omega
                              have HT := (show Hid (ApP w1 wr mb lm q2 (.slice (some ⟨go, 0, none⟩) js.length co) (.slice (some ⟨gp, 0, none⟩) opn.length cp) u26 js (opn.set k false) (air.filter fun p => !inJob js[N].j p) (i + 1)) from by
                                have h1 := HA3.out.1
                                rw [HK.out] at h1
                                have h2 : lftK air js[N].j air.length = air.filter fun p => !inJob js[N].j p := by unfold lftK; rw [List.take_of_length_le (Nat.le_refl _)]
                                have h3 := H7.out
                                rw [h2] at h3
                                exact ⟨(h3.sub (List.Sublist.cons_cons _ (List.Sublist.cons _ (List.Sublist.cons_cons _ (List.Sublist.cons_cons _ (List.Sublist.cons _ (List.Sublist.refl _))))))).put [_, _], h1, HA3.out.2⟩)
                              clear H7 HA3 HK Hc Hmem Hol
                              have hq4 := HT.out.2.1.ml
                              have HA38 := hid (HT.out.1.active (by omega))
                              have hnl := HT.out.hand
                              go_wp2_with fail
                              refine HA38.out.mono ?_
                              rintro e wt ⟨xt, ct, rfl, ht⟩
                              have HT2 := hid (And.intro ht HT.out.2)
                              have q0 : wt.cell? ⟨w.heap.size, 0, none⟩ = some (.int .i64 lm.active) := by simp [World.cell?, HBx.out wt ht.ext]
                              clear ht HA38 HT
                              go_wp2_with fail
                              go_roundg (gko - 1)
                              case measure => have := Hi.out; have := Hgo.out; omega
                              case rel => exact ⟨i + 1, by go_num, by have := Hi.out; have := Hgo.out; omega, by omega, _, _, _, _, HT2⟩
                  · exact absurd (show cIdx (js.map (·.j)) opn js[N].j < (js.map (·.j)).length from by simpa using Hc.out) (cIdx_not Hol.out (fun m hm => HNo.out m (by omega) hm (by have := Hol.out; omega)))
        · as_aux_lemma =>
          rw [hop] at s0 HB
          go_wp2_with fail
          refine (HB.out.again s.id s.now (by omega) (by omega) HP.out.1.inv.rl).mono ?_
          rintro e w3 ⟨rfl, h3⟩
          have HT := (show Hid (ApP w1 w3 mb lm _ u8 u9 u10 js opn air (i + 1)) from ⟨h3.tail, HP.out.1.again _ _, (again_lengths HP.out.1.inv.rl _ _).2.2.2.trans HP.out.2⟩)
          generalize (Qm.again q s.id s.now).2 = q2 at HT
          clear h3 HB HP hq1 hq2 hq3
          have hq4 := HT.out.2.1.ml
          have HA38 := hid (HT.out.1.active (by omega))
          have hnl := HT.out.hand
          go_wp2_with fail
          refine HA38.out.mono ?_
          rintro e wt ⟨xt, ct, rfl, ht⟩
          have HT2 := hid (And.intro ht HT.out.2)
          have q0 : wt.cell? ⟨w.heap.size, 0, none⟩ = some (.int .i64 lm.active) := by simp [World.cell?, HBx.out wt ht.ext]
          clear ht HA38 HT
          go_wp2_with fail
          go_roundg (gk - 1)
          case measure => have := Hi.out; omega
          case rel => exact ⟨i + 1, by go_num, by have := Hi.out; omega, by omega, _, _, _, _, HT2⟩
        · as_aux_lemma =>
          rw [hop] at s0 HB
          go_wp2_with fail
          refine (HB.out.drop s.id).mono ?_
          rintro e w3 ⟨rfl, h3⟩
          have HT := (show Hid (ApP w1 w3 mb lm _ u8 u9 u10 js opn air (i + 1)) from ⟨h3.tail, HP.out.1.drop _, (drop_lengths _ _).2.2.2.trans HP.out.2⟩)
          generalize (Qm.drop q s.id).2 = q2 at HT
          clear h3 HB HP hq1 hq2 hq3
          have hq4 := HT.out.2.1.ml
          have HA38 := hid (HT.out.1.active (by omega))
          have hnl := HT.out.hand
          go_wp2_with fail
          refine HA38.out.mono ?_
          rintro e wt ⟨xt, ct, rfl, ht⟩
          have HT2 := hid (And.intro ht HT.out.2)
          have q0 : wt.cell? ⟨w.heap.size, 0, none⟩ = some (.int .i64 lm.active) := by simp [World.cell?, HBx.out wt ht.ext]
          clear ht HA38 HT
          go_wp2_with fail
          go_roundg (gk - 1)
          case measure => have := Hi.out; omega
          case rel => exact ⟨i + 1, by go_num, by have := Hi.out; omega, by omega, _, _, _, _, HT2⟩
        · as_aux_lemma =>
          have b0 : (s.op == 0) = false := by simpa using o0
          have b1 : (s.op == 1) = false := by simpa using o1
          have b2 : (s.op == 2) = false := by simpa using o2
          have b4 : (s.op == 4) = false := by simpa using o4
          have b5 : (s.op == 5) = false := by simpa using o5
          have HT := (show Hid (ApP w1 _ mb lm _ u8 u9 u10 js opn air (i + 1)) from ⟨HB.out.tail, HP.out.1.mono, HP.out.2⟩)
          clear HB HP hq1 hq2 hq3
          have hq4 := HT.out.2.1.ml
          have HA38 := hid (HT.out.1.active (by omega))
          have hnl := HT.out.hand
          go_wp2_with fail
          refine HA38.out.mono ?_
          rintro e wt ⟨xt, ct, rfl, ht⟩
          have HT2 := hid (And.intro ht HT.out.2)
          have q0 : wt.cell? ⟨w.heap.size, 0, none⟩ = some (.int .i64 lm.active) := by simp [World.cell?, HBx.out wt ht.ext]
          clear ht HA38 HT
          go_wp2_with fail
          go_roundg (gk - 1)
          case measure => have := Hi.out; omega
          case rel => exact ⟨i + 1, by go_num, by have := Hi.out; omega, by omega, _, _, _, _, HT2⟩
      · have hexit : ¬ (i < sc.length) ∨ (i < sc.length ∧ ¬ i < 150) := by omega
        have HE := hid (HX.out.trans HI.out.1.ext)
        clear hlt HI
        rcases hexit with h1 | ⟨h1, h2⟩
        · go_wp2_with fail
          go_ret
          exact ⟨rfl, HE.out⟩
        · go_wp2_with fail
          go_ret
          exact ⟨rfl, HE.out⟩
end Go.Proofs.Ytnakafmlenngnaa.Qm
