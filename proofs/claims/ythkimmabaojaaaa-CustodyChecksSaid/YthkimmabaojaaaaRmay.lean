/- The document's machine: may. -/
import Derived.Test.YthkimmabaojaaaaRfm
namespace Go.Proofs.Ythkimmabaojaaaa.Rf
open Go.RowKit Go.Proofs.Ythkimmabaojaaaa.Cu Go.Proofs.Ythkimmabaojaaaa.Cm Go.Proofs.Ythkimmabaojaaaa.Cl

/-- May a deed be done? -/
def mayS (st : St) (d : Dd) : Bool :=
  if d.kind = 1 then (findM st d.id).isNone && (decide (1 ≤ d.count) && decide (d.count ≤ 200))
  else match findM st d.id with
    | none => false
    | some c => may c d

theorem box4' {w w1 : World} {d : Dd} (hx : Ext (fun _ => False) (w.alloc (ddO d)) w1) :
    w1.cell? ⟨w.heap.size, 0, none⟩ = some (.int .i64 d.kind) ∧ w1.cell? ⟨w.heap.size, 1, none⟩ = some (.string d.id) ∧ w1.cell? ⟨w.heap.size, 2, none⟩ = some (.int .i64 d.who) ∧ w1.cell? ⟨w.heap.size, 3, none⟩ = some (.int .i64 d.count) := by
  have e : w1.heap[w.heap.size]? = some (ddO d) := (hx.block w.heap.size (by simp) (fun f => f)).trans (MapKept.heap_alloc w _).1
  unfold ddO at e
  simp [World.cell?, e]

theorem rmay_1 (rb B T : Nat) (es : List REnt) (d : Dd) (w : World) (h : RMach w rb B es T) (hk : d.kind = 1) :
    Calls Try.prog 26 #[.pointer (some ⟨rb, 0, none⟩), ddV d] w fun e w' => e = .returned (.bool (mayS (absR es) d)) ∧ Ext (fun _ => False) w w' := by
  have hm : mayS (absR es) d = ((findR es d.id).isNone && (decide (1 ≤ d.count) && decide (d.count ≤ 200))) := by
    rw [mayS, if_pos hk, findM_absR]
    cases findR es d.id <;> rfl
  rw [hm]
  have HF := (show Hid (Calls Try.prog 27 #[.pointer (some ⟨rb, 0, none⟩), .string d.id] (w.alloc (ddO d)) fun e w' => e = .returned (.pointer ((findR es d.id).map fun e => ⟨e.cb, 0, none⟩)) ∧ w.alloc (ddO d) = w') from
    find_run rb B T es d.id _ (h.grow ((Ext.refl _ w).alloc _)))
  unfold ddO at HF
  unfold ddV
  rw [hk] at HF ⊢
  clear hm hk h
  cases hf : findR es d.id with
  | some e =>
    rw [hf] at HF
    simp only [Option.map_some] at HF
    clear hf
    go_enter Try.func26, Try.ntmps26
    go_wp2_with (go_at_call 27; refine HF.out.mono ?_; rintro e w' ⟨rfl, rfl⟩)
    go_ret
    exact ⟨rfl, (Ext.refl _ _).alloc _⟩
  | none =>
    rw [hf] at HF
    simp only [Option.map_none] at HF
    clear hf
    by_cases h1 : 1 ≤ d.count
    · by_cases h2 : d.count ≤ 200
      · have b1 : decide (1 ≤ d.count) = true := by simpa using h1
        have b2 : decide (d.count ≤ 200) = true := by simpa using h2
        clear h1 h2
        go_enter Try.func26, Try.ntmps26
        go_wp2_with (go_at_call 27; refine HF.out.mono ?_; rintro e w' ⟨rfl, rfl⟩)
        go_ret
        exact ⟨by simp [b1, b2], (Ext.refl _ _).alloc _⟩
      · have b1 : decide (1 ≤ d.count) = true := by simpa using h1
        have b2 : decide (d.count ≤ 200) = false := by simpa using h2
        clear h1 h2
        go_enter Try.func26, Try.ntmps26
        go_wp2_with (go_at_call 27; refine HF.out.mono ?_; rintro e w' ⟨rfl, rfl⟩)
        go_ret
        exact ⟨by simp [b2], (Ext.refl _ _).alloc _⟩
    · have b1 : decide (1 ≤ d.count) = false := by simpa using h1
      clear h1
      go_enter Try.func26, Try.ntmps26
      go_wp2_with (go_at_call 27; refine HF.out.mono ?_; rintro e w' ⟨rfl, rfl⟩)
      go_ret
      exact ⟨by simp [b1], (Ext.refl _ _).alloc _⟩

theorem rmay_none (rb B T : Nat) (es : List REnt) (d : Dd) (w : World) (h : RMach w rb B es T) (hk1 : 2 ≤ d.kind) (hf : findR es d.id = none) :
    Calls Try.prog 26 #[.pointer (some ⟨rb, 0, none⟩), ddV d] w fun e w' => e = .returned (.bool false) ∧ Ext (fun _ => False) w w' := by
  have HF := (show Hid (Calls Try.prog 27 #[.pointer (some ⟨rb, 0, none⟩), .string d.id] (w.alloc (ddO d)) fun e w' => e = .returned (.pointer ((findR es d.id).map fun e => ⟨e.cb, 0, none⟩)) ∧ w.alloc (ddO d) = w') from
    find_run rb B T es d.id _ (h.grow ((Ext.refl _ w).alloc _)))
  rw [hf] at HF
  simp only [Option.map_none] at HF
  unfold ddO at HF
  unfold ddV
  have hk0 : (d.kind == 1) = false := by simp; omega
  clear hk1 h hf
  go_enter Try.func26, Try.ntmps26
  go_wp2_with (go_at_call 27; refine HF.out.mono ?_; rintro e w' ⟨rfl, rfl⟩)
  go_ret
  exact ⟨rfl, (Ext.refl _ _).alloc _⟩

theorem rmay_gone (rb B T : Nat) (es : List REnt) (e : REnt) (d : Dd) (w : World) (h : RMach w rb B es T) (hk1 : 2 ≤ d.kind) (hf : findR es d.id = some e) (hr : e.c.removed = true) :
    Calls Try.prog 26 #[.pointer (some ⟨rb, 0, none⟩), ddV d] w fun e w' => e = .returned (.bool false) ∧ Ext (fun _ => False) w w' := by
  have HF := (show Hid (Calls Try.prog 27 #[.pointer (some ⟨rb, 0, none⟩), .string d.id] (w.alloc (ddO d)) fun e w' => e = .returned (.pointer ((findR es d.id).map fun e => ⟨e.cb, 0, none⟩)) ∧ w.alloc (ddO d) = w') from
    find_run rb B T es d.id _ (h.grow ((Ext.refl _ w).alloc _)))
  rw [hf] at HF
  simp only [Option.map_some] at HF
  obtain ⟨-, -, -, -, c4⟩ := (h.cares e (findR_mem hf).1).cells
  have hcl : e.cb < w.heap.size := (Array.getElem?_eq_some_iff.1 (h.cares e (findR_mem hf).1).care).1
  rw [hr] at c4
  unfold ddO at HF
  unfold ddV
  have hk0 : (d.kind == 1) = false := by simp; omega
  clear hk1 h hf hr
  go_enter Try.func26, Try.ntmps26
  go_wp2_with (go_at_call 27; refine HF.out.mono ?_; rintro e w' ⟨rfl, rfl⟩)
  go_ret
  exact ⟨rfl, (Ext.refl _ _).alloc _⟩

set_option maxRecDepth 100000 in
set_option maxHeartbeats 4000000 in
theorem rmay_some (rb B T : Nat) (es : List REnt) (e : REnt) (d : Dd) (w : World) (h : RMach w rb B es T) (hk1 : 2 ≤ d.kind) (hk2 : d.kind ≤ 9) (hf : findR es d.id = some e) (hr : e.c.removed = false) :
    Calls Try.prog 26 #[.pointer (some ⟨rb, 0, none⟩), ddV d] w fun e' w' => e' = .returned (.bool (mayK e.c d)) ∧ Ext (fun _ => False) w w' := by
  have HF := (show Hid (Calls Try.prog 27 #[.pointer (some ⟨rb, 0, none⟩), .string d.id] (w.alloc (ddO d)) fun e w' => e = .returned (.pointer ((findR es d.id).map fun e => ⟨e.cb, 0, none⟩)) ∧ w.alloc (ddO d) = w') from
    find_run rb B T es d.id _ (h.grow ((Ext.refl _ w).alloc _)))
  rw [hf] at HF
  simp only [Option.map_some] at HF
  have hC := h.cares e (findR_mem hf).1
  have HC := (show Hid (RCare w B e T) from hC)
  obtain ⟨-, c1, c2, c3, c4⟩ := hC.cells
  have hcl : e.cb < w.heap.size := (Array.getElem?_eq_some_iff.1 hC.care).1
  have hsl : e.sb < w.heap.size := hC.states.lt
  have htop := hC.top
  have hcs := hC.capS
  rw [hr] at c4
  unfold ddO at HF
  unfold ddV
  have hk0 : (d.kind == 1) = false := by simp; omega
  clear h hf hr hC
  go_enter Try.func26, Try.ntmps26
  go_wp2_with (go_at_call 27; refine HF.out.mono ?_; rintro e w' ⟨rfl, rfl⟩)
  go_upto_region 6 with (fail)
  go_cut [6] (fun v wx => v = .bool (pend e.c d.who) ∧ Ext (fun _ => False) (w.alloc (.cells #[.int .i64 d.kind, .string d.id, .int .i64 d.who, .int .i64 d.count] 30)) wx)
  case first =>
    clear HF hk0 c3 c4 c2
    by_cases h1 : 0 ≤ d.who
    · by_cases h2 : d.who < e.c.l.length
      · have hkl : d.who.toNat < e.c.l.length := by omega
        have hs := HC.out.states.cell d.who.toNat (by simpa using hkl)
        have hp : pend e.c d.who = ((((e.c.l.map (·.1)).getD d.who.toNat 0 : Nat) : Int) == 1) := by
          unfold pend
          rw [decide_eq_true h1, decide_eq_true h2]
          simp only [Bool.true_and]
          rw [Bool.eq_iff_iff]
          simp [List.getD_eq_getElem?_getD, hkl]
          omega
        have HP := (show Hid (pend e.c d.who = ((((e.c.l.map (·.1)).getD d.who.toNat 0 : Nat) : Int) == 1)) from hp)
        generalize (e.c.l.map (·.1)).getD d.who.toNat 0 = s at hs HP
        have b1 : decide (0 ≤ d.who) = true := decide_eq_true h1
        have b2 : decide (d.who < (e.c.l.length : Int)) = true := decide_eq_true h2
        generalize e.c.l.length = n at c1 h2 htop b2
        clear hp HC hkl
        go_quiet (fail)
        go_wp2_with fail
        go_meet
        exact ⟨by rw [HP.out], (Ext.refl _ _).drewN _⟩
      · have HP := (show Hid (pend e.c d.who = false) from by
          show (_ && (decide (d.who < (e.c.l.length : Int)) && _)) = false
          rw [decide_eq_false h2]; simp)
        have e2 : decide (d.who < (e.c.l.length : Int)) = false := decide_eq_false h2
        clear HC
        go_quiet (fail)
        go_wp2_with fail
        go_meet
        exact ⟨by rw [HP.out], (Ext.refl _ _).drewN _⟩
    · have HP := (show Hid (pend e.c d.who = false) from by
        show (decide (0 ≤ d.who) && _) = false
        simp [h1])
      have e2 : decide (0 ≤ d.who) = false := by simpa using h1
      clear h1 HC
      go_quiet (fail)
      go_wp2_with fail
      go_meet
      exact ⟨by rw [HP.out], (Ext.refl _ _).drewN _⟩
  case rest =>
    obtain ⟨rfl, hx⟩ := hcut
    have hxw := ((Ext.refl (fun _ => False) w).alloc (.cells #[.int .i64 d.kind, .string d.id, .int .i64 d.who, .int .i64 d.count] 30)).trans hx
    obtain ⟨b0, b1, b2, b3⟩ := box4' (show Ext (fun _ => False) (w.alloc (ddO d)) wc from hx)
    have hC2 := HC.out.grow hxw
    obtain ⟨-, d1, d2, d3, d4⟩ := hC2.cells
    clear HF c1 c2 c3 c4 hx
    rcases (by omega : d.kind = 2 ∨ d.kind = 3 ∨ d.kind = 4 ∨ d.kind = 5 ∨ d.kind = 6 ∨ d.kind = 7 ∨ d.kind = 8 ∨ d.kind = 9) with k | k | k | k | k | k | k | k
    · have Hm : Hid (mayK e.c d = (!e.c.held && pend e.c d.who)) := (show mayK e.c d = (!e.c.held && pend e.c d.who) by simp [mayK, k])
      rw [k] at b0
      generalize e.c.held = x at d3 Hm
      generalize pend e.c d.who = p at Hm ⊢
      clear k hC2 hk0
      cases x <;> cases p
      all_goals
        as_aux_lemma =>
          go_wp2_with fail
          go_ret
          exact ⟨by rw [Hm.out]; rfl, hxw⟩
    · have Hm : Hid (mayK e.c d = (pend e.c d.who && decide (0 < (e.c.l.getD d.who.toNat (0, 0)).2))) := (show mayK e.c d = (pend e.c d.who && decide (0 < (e.c.l.getD d.who.toNat (0, 0)).2)) by simp [mayK, k])
      rw [k] at b0
      have hti : pend e.c d.who = true → ∃ j t : Nat, d.who = j ∧ j < e.c.l.length ∧ (e.c.l.getD d.who.toNat (0, 0)).2 = t ∧ wc.cell? ⟨e.tb, j, none⟩ = some (.int .i64 t) := by
        intro hp
        obtain ⟨p1, p2, -⟩ := pend_yes hp
        obtain ⟨j, hj⟩ := Int.eq_ofNat_of_zero_le p1
        rw [hj] at p2 ⊢
        simp only [Int.toNat_natCast] at p2
        refine ⟨j, _, rfl, p2, rfl, ?_⟩
        have := hC2.times.cell j (by simpa using p2)
        rw [this]
        simp [List.getD_eq_getElem?_getD, p2]
      have hct := hC2.capT
      clear k hC2 hk0
      generalize hp : pend e.c d.who = p at hti Hm ⊢
      cases p
      · clear hti hp
        go_wp2_with fail
        go_quiet (fail)
        go_wp2_with fail
        go_ret
        exact ⟨by rw [Hm.out]; rfl, hxw.drewN _⟩
      · obtain ⟨j, t, hj, hjl, hte, hcell⟩ := hti rfl
        rw [hte] at Hm
        have hw1 : 0 ≤ d.who := by omega
        have hw2 : d.who < e.c.l.length := by omega
        have hjn : j = d.who.toNat := by omega
        rw [hjn] at hcell
        generalize e.c.l.length = n at d1 d2 hw2 htop
        clear hti hp hte hj hjn hjl
        by_cases hpos : 0 < t
        · go_wp2_with fail
          go_quiet (fail)
          go_wp2_with fail
          go_ret
          exact ⟨by rw [Hm.out]; simp [hpos], hxw.drewN _⟩
        · obtain rfl : t = 0 := by omega
          go_wp2_with fail
          go_quiet (fail)
          go_wp2_with fail
          go_ret
          exact ⟨by rw [Hm.out]; rfl, hxw.drewN _⟩
    · have Hm : Hid (mayK e.c d = pend e.c d.who) := (show mayK e.c d = pend e.c d.who by simp [mayK, k])
      rw [k] at b0
      generalize pend e.c d.who = p at Hm ⊢
      clear k hC2 hk0
      go_wp2_with fail
      go_ret
      exact ⟨by rw [Hm.out]; rfl, hxw⟩
    · have Hm : Hid (mayK e.c d = pend e.c d.who) := (show mayK e.c d = pend e.c d.who by simp [mayK, k])
      rw [k] at b0
      generalize pend e.c d.who = p at Hm ⊢
      clear k hC2 hk0
      go_wp2_with fail
      go_ret
      exact ⟨by rw [Hm.out]; rfl, hxw⟩
    · have Hm : Hid (mayK e.c d = !e.c.held) := (show mayK e.c d = !e.c.held by simp [mayK, k])
      rw [k] at b0
      generalize e.c.held = x at d3 Hm
      generalize pend e.c d.who = p at Hm ⊢
      clear k hC2 hk0
      go_wp2_with fail
      go_ret
      exact ⟨by rw [Hm.out]; rfl, hxw⟩
    · have Hm : Hid (mayK e.c d = e.c.held) := (show mayK e.c d = e.c.held by simp [mayK, k])
      rw [k] at b0
      generalize e.c.held = x at d3 Hm
      generalize pend e.c d.who = p at Hm ⊢
      clear k hC2 hk0
      go_wp2_with fail
      go_ret
      exact ⟨by rw [Hm.out]; rfl, hxw⟩
    · have Hm : Hid (mayK e.c d = true) := (show mayK e.c d = true by simp [mayK, k])
      rw [k] at b0
      generalize pend e.c d.who = p at Hm ⊢
      clear k hC2 hk0
      go_wp2_with fail
      go_ret
      exact ⟨by rw [Hm.out]; rfl, hxw⟩
    · have Hm : Hid (mayK e.c d = over e.c) := (show mayK e.c d = over e.c by simp [mayK, k])
      rw [k] at b0
      generalize pend e.c d.who = p at Hm ⊢
      have HS := (show Hid (IntRow wc e.sb e.cs (e.c.l.map (·.1))) from hC2.states)
      clear k hC2 hk0
      generalize hn : e.c.l.length = n at d1 d2 htop
      have Hn := (show Hid (e.c.l.length = n) from hn)
      clear hn
      go_wp2_with fail
      go_loopg [7] n (fun g i wr => ∃ j : Nat, i = .int .i64 j ∧ j + g = n ∧ (∀ q, q < j → (e.c.l.getD q (0, 0)).1 ≠ 1) ∧ wr = wc)
      case atStart => exact ⟨0, rfl, by omega, fun q hq => by omega, rfl⟩
      case round =>
        obtain ⟨j, rfl, hj, hno, rfl⟩ := hrel
        have Hj := (show Hid (j + gk = n) from hj)
        have Hno := (show Hid (∀ q, q < j → (e.c.l.getD q (0, 0)).1 ≠ 1) from hno)
        have hjn : j ≤ n := by omega
        clear hj hno
        by_cases hlt : j < n
        · have hl' : j < e.c.l.length := by rw [Hn.out]; exact hlt
          have hcell := HS.out.cell j (by simpa using hl')
          have hse : (e.c.l.map (·.1)).getD j 0 = (e.c.l.getD j (0, 0)).1 := by simp [List.getD_eq_getElem?_getD, hl']
          rw [hse] at hcell
          have Hl' := (show Hid (j < e.c.l.length) from hl')
          clear hse hl'
          by_cases h1 : (e.c.l.getD j (0, 0)).1 = 1
          · have HO := (show Hid (over e.c = false) from over_no Hl'.out h1)
            rw [h1] at hcell
            clear h1
            go_wp2_with fail
            go_ret
            exact ⟨by rw [Hm.out, HO.out]; rfl, hxw⟩
          · have H1 := (show Hid ((e.c.l.getD j (0, 0)).1 ≠ 1) from h1)
            have hsb : (((e.c.l.getD j (0, 0)).1 : Int) == 1) = false := by rw [beq_eq_false_iff_ne]; omega
            generalize (e.c.l.getD j (0, 0)).1 = s at hcell hsb
            clear h1
            go_wp2_with fail
            go_roundg (gk - 1)
            case measure => have := Hj.out; omega
            case rel => exact ⟨j + 1, by go_num, by have := Hj.out; omega, fun q hq => by
                          by_cases f : q = j
                          · subst f; exact H1.out
                          · exact Hno.out q (by omega), rfl⟩
        · have HO := (show Hid (over e.c = true) from over_yes fun q hq => Hno.out q (by have := Hn.out; omega))
          go_wp2_with fail
          go_ret
          exact ⟨by rw [Hm.out, HO.out]; rfl, hxw⟩

theorem rmay_run (rb B T : Nat) (es : List REnt) (d : Dd) (w : World) (h : RMach w rb B es T) (hk1 : 1 ≤ d.kind) (hk2 : d.kind ≤ 9) :
    Calls Try.prog 26 #[.pointer (some ⟨rb, 0, none⟩), ddV d] w fun e w' => e = .returned (.bool (mayS (absR es) d)) ∧ Ext (fun _ => False) w w' := by
  by_cases hk : d.kind = 1
  · exact rmay_1 rb B T es d w h hk
  · have hm : mayS (absR es) d = match findR es d.id with | none => false | some e => mayK e.c d && !e.c.removed := by
      rw [mayS, if_neg hk, findM_absR]
      cases findR es d.id <;> rfl
    rw [hm]
    cases hf : findR es d.id with
    | none => exact rmay_none rb B T es d w h (by omega) hf
    | some e =>
      simp only
      cases hr : e.c.removed with
      | true => simpa using rmay_gone rb B T es e d w h (by omega) hf hr
      | false => simpa using rmay_some rb B T es e d w h (by omega) hk2 hf hr
end Go.Proofs.Ythkimmabaojaaaa.Rf
