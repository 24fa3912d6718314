/- The bits of an address that are kept. -/
import Derived.Test.YtpmmaickjolimaaGreatDoorCm
import Derived.WalkSpells
import Derived.WalkLawsBesides
import Derived.OwnWalk
import Derived.Deep.QuietTactic
import Derived.BigQuiet
import Derived.Below
import Derived.Deep.LoopGhost
import Derived.Deep.DeepCutAuto
import Derived.Deep.CutBlock
import Derived.Deep.RegionHeld3
import Derived.Deep.MidRow
import Derived.Deep.WholeRow
import Derived.Lib.Hide
import Derived.Laws.BitsAllLaws
namespace Go.Proofs.YtpmmaickjolimaaGreatDoor.Ci
open Go.RowKit

theorem Hid.mk {p : Prop} (h : p) : Hid p := h
/-- What is known, kept from the walk's eyes. -/
theorem hid {p : Prop} (h : p) : Hid p := h
/-- All that was there is as it was. -/
def Bel (w w' : World) : Prop := Below w.heap.size w w'
theorem Bel.refl (w : World) : Bel w w := Below.refl _ _
theorem Bel.trans {a b c : World} (h : Bel a b) (k : Bel b c) : Bel a c := Below.trans h (Below.mono k h.size)
theorem Bel.alloc {a w : World} (h : Bel a w) (o : Obj) : Bel a (w.alloc o) := Below.alloc h h.size o
theorem Bel.drew {a w : World} (h : Bel a w) : Bel a w.drew := Below.drew h
theorem Bel.drewN {a w : World} (h : Bel a w) (n : Nat) : Bel a (w.drewN n) := ⟨h.os, h.tape, h.output, h.size, h.block⟩
theorem Bel.setCell {a w : World} (h : Bel a w) {b o : Nat} (hb : a.heap.size ≤ b) (v : Value) : Bel a (w.setCell ⟨b, o, none⟩ v) := Below.setCell h hb v
theorem Bel.setCells {a : World} {b : Nat} (hb : a.heap.size ≤ b) : ∀ (vs : List Value) (o : Nat) (w : World), Bel a w → Bel a (w.setCells b o vs)
  | [], _, _, h => h
  | v :: vs, o, w, h => Bel.setCells hb vs (o + 1) (w.setCell ⟨b, o, none⟩ v) (h.setCell hb v)
theorem Bel.heap {a w : World} (h : Bel a w) {k : Nat} {o : Obj} (hk : a.heap[k]? = some o) : w.heap[k]? = some o :=
  (h.block k (Array.getElem?_eq_some_iff.1 hk).1).trans hk

theorem cutB_lt (x : Nat) (keep : Int) (h : x < 256) : cutB x keep < 256 := by
  unfold cutB
  split
  · omega
  · split
    · exact Nat.lt_of_le_of_lt Nat.and_le_left h
    · exact h
/-- The first k bytes cut. -/
def cutK (l : List Nat) (bits : Int) (k : Nat) : List Nat := l.mapIdx fun i x => if i < k then cutB x (bits - 8 * i) else x
theorem cutK_zero (l : List Nat) (bits : Int) : cutK l bits 0 = l := by
  unfold cutK
  refine List.ext_getElem (by simp) fun i h1 h2 => by simp
theorem cutK_len (l : List Nat) (bits : Int) (k : Nat) : (cutK l bits k).length = l.length := by simp [cutK]
theorem cutK_all (l : List Nat) (bits : Int) (k : Nat) (h : l.length ≤ k) : cutK l bits k = cutL l bits := by
  unfold cutK cutL
  refine List.ext_getElem (by simp) fun i h1 h2 => ?_
  simp only [List.length_mapIdx] at h1
  simp [(by omega : i < k)]
theorem cutK_at (l : List Nat) (bits : Int) (k : Nat) (hk : k < l.length) : (cutK l bits k)[k]? = some l[k] := by
  simp [cutK, hk]
theorem cutK_next (l : List Nat) (bits : Int) (k : Nat) (hk : k < l.length) : cutK l bits (k + 1) = (cutK l bits k).set k (cutB l[k] (bits - 8 * k)) := by
  unfold cutK
  refine List.ext_getElem (by simp) fun i h1 h2 => ?_
  rw [List.getElem_set]
  by_cases e : k = i
  · subst e
    simp
  · rw [if_neg e]
    simp [(by omega : i < k + 1 ↔ i < k)]

/-- The memory of a cut in hand. -/
structure CutW (w wr : World) (l : List Nat) : Prop where
  bel : Bel w wr
  hc : wr.heap[w.heap.size]? = some (.cells (l.map u8V).toArray 23 (0, 0))
  hr : wr.heap[w.heap.size + 1]? = some (.cells (Array.replicate 16 (u8V 0)) 23 (0, 0))
theorem CutW.cell {w wr : World} {l : List Nat} (h : CutW w wr l) {k : Nat} {x : Nat} (hk : l[k]? = some x) : wr.cell? ⟨w.heap.size, k, none⟩ = some (.int .u8 (x : Int)) := by
  simp [World.cell?, h.hc, hk, u8V]
theorem CutW.set {w wr : World} {l : List Nat} (h : CutW w wr l) (k x : Nat) : CutW w (wr.setCell ⟨w.heap.size, k, none⟩ (.int .u8 (x : Int))) (l.set k x) := by
  refine ⟨h.bel.setCell (Nat.le_refl _) _, ?_, ?_⟩
  · rw [heap_setCell_same wr _ _ _ _ _ h.hc]
    simp [u8V, List.map_set]
  · rw [heap_setCell_other _ _ _ _ (by simp)]
    exact h.hr

theorem CutW.drew {w wr : World} {l : List Nat} (h : CutW w wr l) : CutW w wr.drew l := ⟨h.bel.drew, h.hc, h.hr⟩

set_option maxHeartbeats 1000000 in
set_option maxRecDepth 100000 in
theorem cut_run (l : List Nat) (nb : Int) (w : World) (hl : l.length = 16) (hx : ∀ x ∈ l, x < 256) (h0 : 0 ≤ nb) (h1 : nb ≤ 128) :
    Calls Tryz.prog 74 #[addrV l, .int .i64 nb] w fun e w' => e = .returned (addrV (cutL l nb)) ∧ Bel w w' := by
  have HX := hid hx
  unfold addrV
  clear hx
  go_enter Tryz.func74, Tryz.ntmps74
  go_wp2_with fail
  go_loopg [5, 6, 7] 16 (fun gg v5 v6 v7 wr => ∃ k : Nat, v7 = .int .i64 k ∧ k + gg = 16 ∧ Hid (CutW w wr (cutK l nb k)))
  case atStart =>
    refine ⟨0, rfl, by omega, hid ⟨((Bel.refl w).alloc _).alloc _, ?_, ?_⟩⟩
    · rw [cutK_zero]
      exact (Below.heap_alloc _ _ _ (by simp)).trans (heap_alloc_new w _)
    · have := heap_alloc_new (w.alloc (.cells (l.map u8V).toArray 23)) (.cells (Array.replicate 16 (u8V 0)) 23)
      rw [World.size_alloc] at this
      exact this
  case round =>
    obtain ⟨k, rfl, hk, H⟩ := hrel
    have Hk := hid hk
    have hkn : k ≤ 16 := by omega
    clear hk
    by_cases hlt : k < 16
    · have hkl : k < l.length := by omega
      have c0 := H.out.cell (cutK_at l nb k hkl)
      have hn := cutK_next l nb k hkl
      have hxl := HX.out _ (List.getElem_mem hkl)
      have f0 : wr.frozen? ⟨w.heap.size, k, none⟩ = false := by simp [World.frozen?, H.out.hc]
      generalize hx0 : l[k] = x at c0 hn hxl
      by_cases h8 : nb - 8 * k ≤ 0
      · have d1 : decide (nb - 8 * k ≤ 0) = true := decide_eq_true h8
        have he : cutB x (nb - 8 * k) = 0 := if_pos h8
        rw [he] at hn
        have HN := hid (H.out.set k 0)
        rw [← hn] at HN
        clear hn he
        go_wp2_with fail
        go_roundg (gk - 1)
        case measure => have := Hk.out; omega
        case rel => exact ⟨k + 1, by go_num, by have := Hk.out; omega, HN⟩
      · have d1 : decide (nb - 8 * k ≤ 0) = false := decide_eq_false h8
        by_cases h9 : nb - 8 * k < 8
        · have d2 : decide (nb - 8 * k < 8) = true := decide_eq_true h9
          have he : cutB x (nb - 8 * k) = x &&& ((255 * 2 ^ (8 - (nb - 8 * k)).toNat) % 256) := by
            unfold cutB
            rw [if_neg h8, if_pos h9]
          rw [he] at hn
          have HN := hid (H.out.set k (x &&& ((255 * 2 ^ (8 - (nb - 8 * k)).toNat) % 256))).drew
          rw [← hn] at HN
          have hb : bits .and .u8 (x : Int) (255 * 2 ^ (8 - (nb - 8 * (k : Int))).toNat % 256) = ((x &&& ((255 * 2 ^ (8 - (nb - 8 * k)).toNat) % 256) : Nat) : Int) := by
            rw [← u8_and_nat _ _ hxl (Nat.mod_lt _ (by decide))]
            simp
          clear hn he
          go_wp2_with fail
          go_region
          go_wp2_with fail
          go_roundg (gk - 1)
          case measure => have := Hk.out; omega
          case rel => exact ⟨k + 1, by go_num, by have := Hk.out; omega, HN⟩
        · have d2 : decide (nb - 8 * k < 8) = false := decide_eq_false h9
          have he : cutB x (nb - 8 * k) = x := by
            unfold cutB
            rw [if_neg h8, if_neg h9]
          rw [he] at hn
          have hs : (cutK l nb k).set k x = cutK l nb k := by
            refine List.ext_getElem (by simp) fun i h1 h2 => ?_
            rw [List.getElem_set]
            split
            · rename_i e
              subst e
              have := cutK_at l nb k hkl
              rw [List.getElem?_eq_getElem (by rw [cutK_len]; exact hkl), hx0] at this
              exact (Option.some.inj this).symm
            · rfl
          have HN := H
          rw [hs] at hn
          rw [← hn] at HN
          clear hn he hs
          go_wp2_with fail
          go_roundg (gk - 1)
          case measure => have := Hk.out; omega
          case rel => exact ⟨k + 1, by go_num, by have := Hk.out; omega, HN⟩
    · obtain rfl : k = 16 := by omega
      have hK : cutK l nb 16 = cutL l nb := cutK_all l nb 16 (by omega)
      rw [hK] at H
      clear hK
      have hll : (cutL l nb).length = 16 := by simp [cutL, hl]
      have hR := hid (show wr.rangeAt w.heap.size 0 ((cutL l nb).map u8V) from fun j v hv => by simp [World.cell?, H.out.hc, hv])
      have hT := hid (show wr.there (w.heap.size + 1) 0 ((cutL l nb).map u8V).toArray.size from fun j hj => by
        have hj' : j < 16 := by simpa [hll] using hj
        constructor
        · simp [World.cell?, H.out.hr, hj']
        · simp [World.frozen?, H.out.hr])
      have hZ := hid (show (Tryz.prog.info? 23).map (·.size) = some ((cutL l nb).map u8V).length by rw [List.length_map, hll]; kernel_rfl)
      go_wp2_with (first
        | refine wpList_load_mid rfl 23 (.tmp 2) rfl w.heap.size 0 rfl ((cutL l nb).map u8V) (.array 16 5) hR.out Tryz.underlying23 rfl hZ.out ?_
        | refine wpList_store_mid rfl 23 (.tmp 4) (.tmp 31) rfl (w.heap.size + 1) 0 ((cutL l nb).map u8V).toArray rfl rfl hT.out (by rw [List.size_toArray]; exact hZ.out) (by simp [u8V, Value.oneCell']) ?_)
      have hl2 := run_loadVar_mid (P := Tryz.prog) (wr.setCells (w.heap.size + 1) 0 ((cutL l nb).map u8V)) (w.heap.size + 1) 0 23 ((cutL l nb).map u8V) (.array 16 5)
        (World.rangeAt_setCells_same _ _ _ _ (by simpa using hT.out)) Tryz.underlying23 rfl hZ.out
      refine bodyPost_ret (v := .agg ((cutL l nb).map u8V).toArray) (by simp [results, Tryz.results74, Act.put, asAddr, hl2]) rfl ⟨rfl, ?_⟩
      exact Bel.setCells (by omega) _ _ _ H.out.bel
end Go.Proofs.YtpmmaickjolimaaGreatDoor.Ci
