/- CustodyKeeps: the walk of the law. -/
import Derived.Test.YthkimmabaojaaaaDeeds
namespace Go.Proofs.Ythkimmabaojaaaa.Ck
open Go.RowKit Go.Proofs.Ythkimmabaojaaaa.Cu Go.Proofs.Ythkimmabaojaaaa.Cm Go.Proofs.Ythkimmabaojaaaa.Cl

/-- A state behind delivery. -/
def Big (s : Nat) : Prop := 3 ≤ s ∧ s ≤ 5
theorem Big.facts {s : Nat} (h : Big s) : ((s : Int) == 0) = false ∧ ((s : Int) != 0) = true ∧ ((s : Int) == 1) = false ∧ ((s : Int) == 2) = false ∧ 1 < s ∧ s ≤ 5 := by
  unfold Big at h
  refine ⟨by simp; omega, by simp; omega, by simp; omega, by simp; omega, by omega, h.2⟩

set_option maxHeartbeats 8000000 in
set_option maxRecDepth 100000 in
theorem walk (x : Option Addr) (len cap : Nat) (D : Nat → Dd) (id : ByteArray) (a : Int) (w : World) (hD : Deeds w x len D) :
    Calls Try.prog 3 #[.slice x len cap, .string id, .int .i64 a] w fun e w' => e = .returned (.bool true) ∧ Below w.heap.size w w' := by
  obtain ⟨hlen, hcell⟩ := hD
  go_enter Try.func3, Try.ntmps3
  go_wp2_with (first
    | (go_at_call 7; refine (awake_run w).mono ?_; rintro e w1 ⟨rfl, hb⟩)
    | (go_at_call 8; refine (new_run _).mono ?_; rintro e w2 ⟨rfl, hM, hx⟩))
  have hB : w.heap.size ≤ w1.heap.size := hb.size
  have hM0 : MachS w2 (w1.heap.size + 1) [] 0 (fun k => w.heap.size ≤ k) := hM.wide fun k hk => Nat.le_trans hB hk
  have hb0 : Below w.heap.size w w2 := hb.trans (hx.below hB fun _ f => f.elim)
  clear hM hx hb
  generalize w1.heap.size + 1 = mb at hM0 ⊢
  clear hB
  go_loopg [9] 300 (fun g i wr => ∃ (k : Nat) (st : St), i = .int .i64 k ∧ k + g = 300 ∧ MachS wr mb st k (fun k => w.heap.size ≤ k) ∧ Cl.Good st ∧ Below w.heap.size w wr)
  case atStart => exact ⟨0, [], rfl, rfl, hM0, good_nil, hb0⟩
  case round =>
    obtain ⟨k, st, rfl, hk, hM, hG, hbr⟩ := hrel
    have Hk := (show Hid (k + gk = 300) from hk)
    have hk3 : k ≤ 300 := by omega
    clear hk
    by_cases hlt : k < len ∧ k < 300
    · obtain ⟨h1, h2⟩ := hlt
      obtain ⟨xb, xo, rfl, hxb, c0, c1, c2, c3⟩ := hcell k h1
      clear hcell
      generalize hd : D k = d at c0 c1 c2 c3
      clear hd
      have ht := turn st d id a
      have hg := rcOf_good hG id a
      have hg' := rcOf_good (good_step st d hG) id a
      have htb := times_le hM id a
      have HG := (show Hid (Cl.Good (stepS st d)) from good_step st d hG)
      have HM := (show Hid (∀ W, Below w.heap.size wr W → Ext (fun _ => False) wr W → Calls Try.prog 11 #[.pointer (some ⟨mb, 0, none⟩), ddV d] W fun e w' => e = .returned (.int .i64 (stepE st d)) ∧ MachS w' mb (stepS st d) (k + 1) (fun k => w.heap.size ≤ k) ∧ Below w.heap.size W w') from fun W hW hW2 => by
        refine (deed_run mb k st _ d W (by omega) (hM.grow hW2)).mono ?_
        rintro e w' ⟨rfl, hM', hx'⟩
        have hs := Nat.le_trans hbr.size hW.size
        exact ⟨rfl, hM'.wide fun j hj => hj.elim (fun f => f) fun f => Nat.le_trans hs f, hx'.below hs fun _ f => f⟩)
      unfold ddV at HM
      go_wp2_with fail
      refine (state_run mb k st _ id a _ hM).mono ?_
      rintro e w3 ⟨rfl, hx3⟩
      go_wp2_with fail
      refine (times_run mb k st _ id a _ (hM.grow hx3)).mono ?_
      rintro e w4 ⟨rfl, hx4⟩
      have hx4 := hx3.trans hx4
      have hb4 := hbr.trans (hx4.below hbr.size fun _ f => f.elim)
      have f0 := (Below.cell hb4 (p := ⟨xb, xo + k * 4, none⟩) hxb).trans c0
      have f1 := (Below.cell hb4 (p := ⟨xb, xo + k * 4 + 1, none⟩) hxb).trans c1
      have f2 := (Below.cell hb4 (p := ⟨xb, xo + k * 4 + 2, none⟩) hxb).trans c2
      have f3 := (Below.cell hb4 (p := ⟨xb, xo + k * 4 + 3, none⟩) hxb).trans c3
      clear hx3
      go_wp2_with fail
      refine (HM.out _ (hx4.below hbr.size fun _ f => f.elim) hx4).mono ?_
      rintro e w5 ⟨rfl, hM5, hb5⟩
      have hb5 := hb4.trans hb5
      clear f0 f1 f2 f3
      have f0 := (Below.cell hb5 (p := ⟨xb, xo + k * 4, none⟩) hxb).trans c0
      have f1 := (Below.cell hb5 (p := ⟨xb, xo + k * 4 + 1, none⟩) hxb).trans c1
      have f2 := (Below.cell hb5 (p := ⟨xb, xo + k * 4 + 2, none⟩) hxb).trans c2
      have f3 := (Below.cell hb5 (p := ⟨xb, xo + k * 4 + 3, none⟩) hxb).trans c3
      clear hb4 hx4
      go_wp2_with fail
      refine (state_run mb (k + 1) _ _ id a _ hM5).mono ?_
      rintro e w6 ⟨rfl, hx6⟩
      go_wp2_with fail
      refine (times_run mb (k + 1) _ _ id a _ (hM5.grow hx6)).mono ?_
      rintro e w7 ⟨rfl, hx7⟩
      have hx7 := hx6.trans hx7
      have hM7 := hM5.grow hx7
      have hb7 := hb5.trans (hx7.below hb5.size fun _ f => f.elim)
      clear f0 f1 f2 f3
      have f0 := (Below.cell hb7 (p := ⟨xb, xo + k * 4, none⟩) hxb).trans c0
      have f1 := (Below.cell hb7 (p := ⟨xb, xo + k * 4 + 1, none⟩) hxb).trans c1
      have f2 := (Below.cell hb7 (p := ⟨xb, xo + k * 4 + 2, none⟩) hxb).trans c2
      have f3 := (Below.cell hb7 (p := ⟨xb, xo + k * 4 + 3, none⟩) hxb).trans c3
      clear hx6 hb5 hM5 c0 c1 c2 c3 hM hbr HM
      have hend := (show Hid (∀ o : Obj, ∃ (k_1 : Nat) (st_1 : St), Value.int .i64 ((k : Int) + 1) = Value.int .i64 k_1 ∧ k_1 + (gk - 1) = 300 ∧ MachS (w7.alloc o) mb st_1 k_1 (fun k => w.heap.size ≤ k) ∧ Cl.Good st_1 ∧ Below w.heap.size w (w7.alloc o)) from
        fun o => ⟨k + 1, stepS st d, by go_num, by have := Hk.out; omega, hM7.grow ((Ext.refl _ _).alloc o), HG.out, hb7.alloc hb7.size o⟩)
      clear hM7 HG
      generalize rcOf st id a = p at ht hg htb ⊢
      generalize rcOf (stepS st d) id a = q at ht hg' ⊢
      generalize stepE st d = e0 at ht ⊢
      obtain ⟨s, t⟩ := p
      obtain ⟨s', t'⟩ := q
      simp only at ht hg hg' htb ⊢
      have ht300 : t ≤ 300 := by omega
      clear htb
      rcases ht with ⟨rfl, rfl, hA⟩ | ⟨rfl, rfl, rfl, rfl, hi, hki⟩ | ⟨rfl, rfl, rfl, rfl, hi, hki, hwh⟩ | ⟨rfl, rfl, rfl, htp, rfl, hi, hki, hwh⟩ | ⟨rfl, rfl, rfl, rfl, hi, hki, hwh⟩ | ⟨rfl, rfl, rfl, rfl, hi, hki, hwh⟩ | ⟨rfl, rfl, rfl, rfl, hi, hki⟩
      · obtain ⟨g1, g2⟩ := hg
        clear hg'
        have hsc : s' = 0 ∨ s' = 1 ∨ (s' = 2 ∧ 0 < t') ∨ Big s' := by unfold Big; omega
        clear g1 g2
        by_cases he : e0 = 0
        · subst he
          by_cases hid : d.id = id
          · have hib : (d.id.toList == id.toList) = true := by simp [hid]
            by_cases h9 : d.kind = 9
            · have hs1 : s' ≠ 1 := fun f => hA ⟨rfl, hid, h9, f⟩
              rw [h9] at f0
              clear hA hid h9
              rcases hsc with rfl | rfl | ⟨rfl, htp⟩ | hbig
              · clear hs1
                as_aux_lemma =>
                  go_wp2_with fail
                  go_roundg (gk - 1)
                  case measure => have := Hk.out; omega
                  case rel => exact hend.out _
              · exact (hs1 rfl).elim
              · clear hs1
                as_aux_lemma =>
                  go_wp2_with fail
                  go_roundg (gk - 1)
                  case measure => have := Hk.out; omega
                  case rel => exact hend.out _
              · obtain ⟨v0, v1, v2, v3, v4, v5⟩ := hbig.facts
                clear hs1 hbig
                as_aux_lemma =>
                  go_wp2_with fail
                  go_roundg (gk - 1)
                  case measure => have := Hk.out; omega
                  case rel => exact hend.out _
            · have h9b : (d.kind == 9) = false := by simpa using h9
              clear hA hid h9
              rcases hsc with rfl | rfl | ⟨rfl, htp⟩ | hbig
              case' inr.inr.inr => obtain ⟨v0, v1, v2, v3, v4, v5⟩ := hbig.facts; clear hbig
              all_goals
                as_aux_lemma =>
                  go_wp2_with fail
                  go_roundg (gk - 1)
                  case measure => have := Hk.out; omega
                  case rel => exact hend.out _
          · have hib : (d.id.toList == id.toList) = false := by
              rw [beq_eq_false_iff_ne]
              intro f
              apply hid
              rw [ByteArray.toList_eq, ByteArray.toList_eq] at f
              exact ByteArray.ext (Array.toList_inj.1 f)
            clear hA hid
            rcases hsc with rfl | rfl | ⟨rfl, htp⟩ | hbig
            case' inr.inr.inr => obtain ⟨v0, v1, v2, v3, v4, v5⟩ := hbig.facts; clear hbig
            all_goals
              as_aux_lemma =>
                go_wp2_with fail
                go_roundg (gk - 1)
                case measure => have := Hk.out; omega
                case rel => exact hend.out _
        · have heb : (e0 == 0) = false := by simpa using he
          clear hA he
          rcases hsc with rfl | rfl | ⟨rfl, htp⟩ | hbig
          case' inr.inr.inr => obtain ⟨v0, v1, v2, v3, v4, v5⟩ := hbig.facts; clear hbig
          all_goals
            as_aux_lemma =>
              go_wp2_with fail
              go_roundg (gk - 1)
              case measure => have := Hk.out; omega
              case rel => exact hend.out _
      all_goals
        have hib : (d.id.toList == id.toList) = true := by simp [hi]
        rw [hki] at f0
        clear hi hg hg'
      · clear hki
        as_aux_lemma =>
          go_wp2_with fail
          go_roundg (gk - 1)
          case measure => have := Hk.out; omega
          case rel => exact hend.out _
      · rw [hwh] at f2
        have q1 : ((t : Int) + 1 == t) = false := beq_eq_false_iff_ne.2 (by omega)
        have q2 : ((t : Int) + 1 != t) = true := by rw [bne_iff_ne]; omega
        clear hki hwh
        as_aux_lemma =>
          go_wp2_with fail
          go_roundg (gk - 1)
          case measure => have := Hk.out; omega
          case rel => exact hend.out _
      · rw [hwh] at f2
        clear hki hwh
        as_aux_lemma =>
          go_wp2_with fail
          go_roundg (gk - 1)
          case measure => have := Hk.out; omega
          case rel => exact hend.out _
      · rw [hwh] at f2
        clear hki hwh
        as_aux_lemma =>
          go_wp2_with fail
          go_roundg (gk - 1)
          case measure => have := Hk.out; omega
          case rel => exact hend.out _
      · rw [hwh] at f2
        clear hki hwh
        as_aux_lemma =>
          go_wp2_with fail
          go_roundg (gk - 1)
          case measure => have := Hk.out; omega
          case rel => exact hend.out _
      · clear hki
        by_cases hwh : d.who = a
        · rw [hwh] at f2
          clear hwh
          as_aux_lemma =>
            go_wp2_with fail
            go_roundg (gk - 1)
            case measure => have := Hk.out; omega
            case rel => exact hend.out _
        · have hwb : (d.who == a) = false := by simpa using hwh
          clear hwh
          as_aux_lemma =>
            go_wp2_with fail
            go_roundg (gk - 1)
            case measure => have := Hk.out; omega
            case rel => exact hend.out _
    · clear hcell
      rcases (by omega : ¬ k < len ∨ (k < len ∧ ¬ k < 300)) with h1 | ⟨h1, h2⟩
      all_goals
        go_wp2_with fail
        go_ret
        exact ⟨rfl, hbr⟩
end Go.Proofs.Ythkimmabaojaaaa.Ck
