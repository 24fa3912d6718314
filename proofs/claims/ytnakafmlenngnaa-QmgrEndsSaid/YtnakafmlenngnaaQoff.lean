/- putOff. -/
import Derived.Test.YtnakafmlenngnaaQdel
namespace Go.Proofs.Ytnakafmlenngnaa.Qm
open Go.RowKit Go.Proofs.Ytnakafmlenngnaa.Wi

def offL (n : ByteArray) (z : LM) : LM := { z with m := offM n z.m }
/-- The manager, k of its messages having been gone through. -/
def offPre (L : Lq) (n : ByteArray) (k : Nat) : Lq := { L with ms := (L.ms.take k).map (offL n) ++ L.ms.drop k }
/-- A message, r of its recipients having been gone through. -/
def offAt (n : ByteArray) (m : Ml) (r : Nat) : Ml := { m with rs := (m.rs.take r).map (offR n) ++ m.rs.drop r }

theorem offPre_length (L : Lq) (n : ByteArray) (k : Nat) : (offPre L n k).ms.length = L.ms.length := by simp [offPre]; omega
theorem offPre_zero (L : Lq) (n : ByteArray) : offPre L n 0 = L := by simp [offPre]
theorem offPre_all (L : Lq) (n : ByteArray) : offPre L n L.ms.length = { L with ms := L.ms.map (offL n) } := by simp [offPre]
theorem offPre_at (L : Lq) (n : ByteArray) (k : Nat) (hk : k < L.ms.length) (hk' : k < (offPre L n k).ms.length) : (offPre L n k).ms[k] = L.ms[k] := by
  simp only [offPre]
  rw [List.getElem_append_right (by simp; omega)]
  simp [Nat.min_eq_left (Nat.le_of_lt hk)]
theorem offPre_next (L : Lq) (n : ByteArray) (k : Nat) (hk : k < L.ms.length) : turned (offPre L n k) k (offM n L.ms[k].m) = offPre L n (k + 1) := by
  have hk' : k < (offPre L n k).ms.length := by rw [offPre_length]; exact hk
  rw [turned_set _ _ hk', offPre_at L n k hk hk']
  unfold offPre
  dsimp only
  congr 1
  rw [List.set_append_right _ _ (by simp; omega), List.take_succ_eq_append_getElem hk, List.map_append, List.append_assoc]
  congr 1
  rw [show k - ((L.ms.take k).map (offL n)).length = 0 by simp; omega, ← List.getElem_cons_drop hk, List.set_cons_zero]
  rfl
theorem offAt_zero (n : ByteArray) (m : Ml) : offAt n m 0 = m := by simp [offAt]
theorem offAt_all (n : ByteArray) (m : Ml) : offAt n m m.rs.length = offM n m := by simp [offAt, offM]
theorem offAt_length (n : ByteArray) (m : Ml) (r : Nat) : (offAt n m r).rs.length = m.rs.length := by simp [offAt]; omega
theorem offAt_at (n : ByteArray) (m : Ml) (r : Nat) (hr : r < m.rs.length) (hr' : r < (offAt n m r).rs.length) : (offAt n m r).rs[r] = m.rs[r] := by
  simp only [offAt]
  rw [List.getElem_append_right (by simp; omega)]
  simp [Nat.min_eq_left (Nat.le_of_lt hr)]
theorem offAt_next (n : ByteArray) (m : Ml) (r : Nat) (hr : r < m.rs.length) : offAt n m (r + 1) = { m with rs := (offAt n m r).rs.set r (offR n m.rs[r]) } := by
  unfold offAt
  dsimp only
  congr 1
  rw [List.set_append_right _ _ (by simp; omega), List.take_succ_eq_append_getElem hr, List.map_append, List.append_assoc]
  congr 1
  rw [show r - ((m.rs.take r).map (offR n)).length = 0 by simp; omega, ← List.getElem_cons_drop hr, List.set_cons_zero]
  rfl

structure OffI (w wr : World) (mb : Nat) (L : Lq) (F : Nat → Prop) (n : ByteArray) (k r : Nat) (hk : k < L.ms.length) : Prop where
  mg : Mg wr mb (turned (offPre L n k) k (offAt n L.ms[k].m r)) F
  ext : Ext F w wr

section
variable {w wr : World} {mb : Nat} {L : Lq} {F : Nat → Prop} {n : ByteArray} {k r : Nat} {hk : k < L.ms.length}
theorem OffI.mail (h : OffI w wr mb L F n k r hk) : MailAt wr { L.ms[k] with m := offAt n L.ms[k].m r } := by
  have hk' : k < (offPre L n k).ms.length := by rw [offPre_length]; exact hk
  have hl : k < (turned (offPre L n k) k (offAt n L.ms[k].m r)).ms.length := by rw [turned_length]; exact hk'
  have := h.mg.mails _ (List.getElem_mem hl)
  rw [turned_at hk' hl, offPre_at L n k hk hk'] at this
  exact this
theorem OffI.same (h : OffI w wr mb L F n k r hk) (hr : r < L.ms[k].m.rs.length) (hg : goes n L.ms[k].m.rs[r] = false) : OffI w wr mb L F n k (r + 1) hk := by
  have e : offAt n L.ms[k].m (r + 1) = offAt n L.ms[k].m r := by
    rw [offAt_next n _ r hr]
    have : offR n L.ms[k].m.rs[r] = L.ms[k].m.rs[r] := by unfold offR; rw [hg]; rfl
    rw [this]
    have hr' : r < (offAt n L.ms[k].m r).rs.length := by rw [offAt_length]; exact hr
    have e2 : (offAt n L.ms[k].m r).rs.set r L.ms[k].m.rs[r] = (offAt n L.ms[k].m r).rs :=
      (congrArg (fun x => (offAt n L.ms[k].m r).rs.set r x) (offAt_at n L.ms[k].m r hr hr').symm).trans (List.set_getElem_self hr')
    rw [e2]
    rfl
  exact ⟨by rw [e]; exact h.mg, h.ext⟩
theorem OffI.set (h : OffI w wr mb L F n k r hk) (hr : r < L.ms[k].m.rs.length) (hg : goes n L.ms[k].m.rs[r] = true) (g : Nat) (hv : L.ms[k].v.ownBlock = some g) : OffI w (wr.setCell ⟨g, r * 2 + 1, none⟩ (.int .i64 3)) mb L F n k (r + 1) hk := by
  have hk' : k < (offPre L n k).ms.length := by rw [offPre_length]; exact hk
  have hl : k < (turned (offPre L n k) k (offAt n L.ms[k].m r)).ms.length := by rw [turned_length]; exact hk'
  have hat := turned_at (m := offAt n L.ms[k].m r) hk' hl
  rw [offPre_at L n k hk hk'] at hat
  have hr2 : r < (offAt n L.ms[k].m r).rs.length := by rw [offAt_length]; exact hr
  have hFg : F g := by
    have := (h.mg.fm _ (List.getElem_mem hl)).2 g
    rw [hat] at this
    exact this hv
  have hm := h.mg.setRc k hl r (by simpa [hat] using hr2) 3 g (by rw [hat]; exact hv)
  rw [turned_turned] at hm
  have e2 : ({ (turned (offPre L n k) k (offAt n L.ms[k].m r)).ms[k].m with rs := (turned (offPre L n k) k (offAt n L.ms[k].m r)).ms[k].m.rs.set r { ((turned (offPre L n k) k (offAt n L.ms[k].m r)).ms[k].m.rs[r]'(by simpa [hat] using hr2)) with st := 3 } } : Ml) = offAt n L.ms[k].m (r + 1) := by
    rw [offAt_next n _ r hr]
    simp only [hat]
    rw [offAt_at n _ r hr hr2]
    unfold offR
    rw [hg]
    rfl
  rw [e2] at hm
  exact ⟨hm, h.ext.setCell g _ _ hFg⟩
end

def OffPost (mb : Nat) (L : Lq) (F : Nat → Prop) (n : ByteArray) (w : World) (e : Ending) (w' : World) : Prop :=
  e = .returned (.tuple #[]) ∧ Mg w' mb { L with ms := L.ms.map (offL n) } F ∧ Ext F w w'

set_option maxHeartbeats 4000000 in
set_option maxRecDepth 100000 in
theorem off_run (mb : Nat) (L : Lq) (F : Nat → Prop) (n : ByteArray) (w : World) (h : Mg w mb L F) (_hml : L.ms.length ≤ 50000) :
    Calls Try.prog 62 #[.pointer (some ⟨mb, 0, none⟩), .string n] w (OffPost mb L F n w) := by
  obtain ⟨xm, cm, hmv, xm1, xm2⟩ := row_shape h.mrow
  obtain ⟨-, -, -, -, -, -, t6, -⟩ := h.tops
  rw [hmv] at t6
  have HM := hid h
  clear h
  go_enter Try.func62, Try.ntmps62
  go_wp2_with fail
  go_loopg [13] L.ms.length (fun gg ix wr => ∃ k, ix = .int .i64 (k : Nat) ∧ k + gg = L.ms.length ∧ Hid (Mg wr mb (offPre L n k) F ∧ Ext F w wr))
  case atStart => exact ⟨0, rfl, by omega, by rw [offPre_zero]; exact HM.out, Ext.refl _ _⟩
  case round =>
    obtain ⟨k, rfl, hk, HI⟩ := hrel
    have Hk := hid hk
    have hkn : k ≤ L.ms.length := by omega
    clear hk t6
    by_cases hlt : k < L.ms.length
    · have hk' : k < (offPre L n k).ms.length := by rw [offPre_length]; exact hlt
      obtain ⟨gm, cm', e1, -, -, -, cmk, -⟩ := HI.out.1.mail_at k hk'
      change L.mv = _ at e1
      rw [hmv, offPre_length] at e1
      injection e1 with e1 e2 e3
      subst e1
      clear e2 e3
      rw [offPre_at L n k hlt hk'] at cmk
      unfold mPtr at cmk
      have J0 : Hid (OffI w wr mb L F n k 0 hlt) := by
        have e : turned (offPre L n k) k (offAt n L.ms[k].m 0) = offPre L n k := by
          rw [offAt_zero]
          have := turned_self (offPre L n k) k hk'
          rw [offPre_at L n k hlt hk'] at this
          exact this
        exact ⟨by rw [e]; exact HI.out.1, HI.out.2⟩
      obtain ⟨-, -, d2, -, -⟩ := J0.out.mail.cells
      obtain ⟨xr, cr, hzv, xr1, xr2⟩ := row_shape J0.out.mail.row
      rw [offAt_length] at hzv xr1
      dsimp only at d2 hzv
      rw [hzv] at d2
      have Hzv := hid hzv
      obtain ⟨gko, hgo⟩ : ∃ g, g = gk := ⟨gk, rfl⟩
      have Hgo := hid hgo
      clear hgo hzv
      go_wp2_with fail
      go_loopg [22] L.ms[k].m.rs.length (fun gg ix wy => ∃ r, ix = .int .i64 (r : Nat) ∧ r + gg = L.ms[k].m.rs.length ∧ Hid (OffI w wy mb L F n k r hlt))
      case atStart => exact ⟨0, rfl, by omega, J0⟩
      case round =>
        obtain ⟨r, rfl, hr, HN⟩ := hrel
        have Hr := hid hr
        have hrn : r ≤ L.ms[k].m.rs.length := by omega
        clear hr J0 d2 cmk
        by_cases hrl : r < L.ms[k].m.rs.length
        · obtain ⟨g, cg, e1, hgo, -, -, hgl, d0, d1, dfz⟩ := HN.out.mail.rc r (by rw [offAt_length]; exact hrl)
          obtain ⟨-, -, d2, -, -⟩ := HN.out.mail.cells
          rw [offAt_at _ _ _ hrl] at d0 d1
          dsimp only at e1 hgo d2
          have hgo' := hid hgo
          rw [Hzv.out] at d2 e1
          injection e1 with e1 e2 e3
          subst e1
          clear e2 e3 hgo
          have df := dfz (r * 2 + 1)
          cases hgs : goes n L.ms[k].m.rs[r] with
          | false =>
            have Hn := hid (HN.out.same hrl hgs)
            have hg2 : ((L.ms[k].m.rs[r].st : Int) == 1) = false ∨ (((L.ms[k].m.rs[r].st : Int) == 1) = true ∧ (L.ms[k].m.rs[r].dest.toList == n.toList) = false) := by
              unfold goes at hgs
              rw [tl_beq]
              by_cases hs : L.ms[k].m.rs[r].st = 1
              · right
                refine ⟨by simp [hs], ?_⟩
                simpa [hs] using hgs
              · left
                simp; omega
            clear hgs dfz
            rcases hg2 with h1 | ⟨h1, h2⟩
            · go_wp2_with fail
              go_roundg (gk - 1)
              case measure => have := Hr.out; omega
              case rel => exact ⟨r + 1, by go_num, by have := Hr.out; omega, Hn⟩
            · go_wp2_with fail
              go_roundg (gk - 1)
              case measure => have := Hr.out; omega
              case rel => exact ⟨r + 1, by go_num, by have := Hr.out; omega, Hn⟩
          | true =>
            have Hn := hid (HN.out.set hrl hgs g hgo'.out)
            have hg2 : ((L.ms[k].m.rs[r].st : Int) == 1) = true ∧ (L.ms[k].m.rs[r].dest.toList == n.toList) = true := by
              unfold goes at hgs
              simp only [Bool.and_eq_true, decide_eq_true_eq] at hgs
              rw [tl_beq]
              simp [hgs.1, hgs.2]
            obtain ⟨h1, h2⟩ := hg2
            clear hgs dfz
            go_wp2_with fail
            go_roundg (gk - 1)
            case measure => have := Hr.out; omega
            case rel => exact ⟨r + 1, by go_num, by have := Hr.out; omega, Hn⟩
        · obtain rfl : r = L.ms[k].m.rs.length := by omega
          have Hn := (show Hid (Mg wr mb (offPre L n (k + 1)) F ∧ Ext F w wr) from by
            have := HN.out.mg
            rw [offAt_all, offPre_next L n k hlt] at this
            exact ⟨this, HN.out.ext⟩)
          go_wp2_with fail
          go_roundg (gko - 1)
          case measure => have := Hk.out; have := Hgo.out; omega
          case rel => exact ⟨k + 1, by go_num, by have := Hk.out; have := Hgo.out; omega, Hn⟩
    · obtain rfl : k = L.ms.length := by omega
      have Hn := (show Hid (Mg wr mb { L with ms := L.ms.map (offL n) } F ∧ Ext F w wr) from by
        have := HI.out
        rw [offPre_all] at this
        exact this)
      go_wp2_with fail
      refine bodyPost_end (v := .tuple #[]) (by simp [results, Try.results62, go_sem]) rfl ?_
      exact ⟨rfl, Hn.out⟩
end Go.Proofs.Ytnakafmlenngnaa.Qm
