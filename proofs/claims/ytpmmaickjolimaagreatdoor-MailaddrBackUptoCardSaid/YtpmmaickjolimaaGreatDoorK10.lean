/- Addr, Parse. -/
import Derived.Test.YtpmmaickjolimaaGreatDoorK09
namespace Go.Proofs.YtpmmaickjolimaaGreatDoor.Ci
open Go.RowKit

def zeroN : Nt := ⟨false, 0, List.replicate 16 0⟩
theorem zeroN_fits : zeroN.Fits := ⟨by decide, by decide, rfl, fun x hx => by obtain ⟨-, rfl⟩ := List.mem_replicate.1 hx; decide⟩
def fourN' (s : List UInt8) : Option Nt := (fourT s).map fun l => ⟨false, 32, l ++ List.replicate 12 0⟩
/-- The address that a text tells. -/
def addrQ (s : List UInt8) : Option Nt := (fourN' s).or (sixQ s)
def errQ (o : Option Nt) : Int := if o.isSome then 0 else 70
set_option maxHeartbeats 2000000 in
set_option maxRecDepth 100000 in
theorem addr_run (s : ByteArray) (w : World) (hw : Lay w) (hs : s.size < 4294967281) :
    Calls Tryz.prog 10 #[.string s] w fun e w' => e = .returned (.tuple #[netV ((addrQ s.data.toList).getD zeroN), .int .i64 (errQ (addrQ s.data.toList))]) ∧ Bel w w' := by
  have H4 := (show Hid (∀ W, Lay W → Calls Tryz.prog 30 #[.string s] W (NetPost (fourN' s.data.toList) W)) from fun W hW => by unfold fourN'; rw [← fourQ_eq]; exact four_run s W hW hs)
  have H6 := (show Hid (∀ W, Lay W → Calls Tryz.prog 31 #[.string s] W (NetPost (sixQ s.data.toList) W)) from fun W hW => six_run s W hW hs)
  have hq : addrQ s.data.toList = (fourN' s.data.toList).or (sixQ s.data.toList) := rfl
  generalize addrQ s.data.toList = o at hq ⊢
  generalize fourN' s.data.toList = o4 at H4 hq
  generalize sixQ s.data.toList = o6 at H6 hq
  have HO := hid hq
  have HW := hid hw
  clear hq hw
  go_enter Tryz.func10, Tryz.ntmps10
  go_wp2_with fail
  have H0 := hid (show Bel w ((w.alloc (.cells #[.bool false, .int .i64 0, .int .u8 0, .int .u8 0, .int .u8 0, .int .u8 0, .int .u8 0, .int .u8 0, .int .u8 0, .int .u8 0, .int .u8 0, .int .u8 0, .int .u8 0, .int .u8 0, .int .u8 0, .int .u8 0, .int .u8 0, .int .u8 0] 25)).alloc (.cells #[.func (.func 30) #[] #[], .func (.func 31) #[] #[]] 61)) ∧
    ((w.alloc (.cells #[.bool false, .int .i64 0, .int .u8 0, .int .u8 0, .int .u8 0, .int .u8 0, .int .u8 0, .int .u8 0, .int .u8 0, .int .u8 0, .int .u8 0, .int .u8 0, .int .u8 0, .int .u8 0, .int .u8 0, .int .u8 0, .int .u8 0, .int .u8 0] 25)).alloc (.cells #[.func (.func 30) #[] #[], .func (.func 31) #[] #[]] 61)).heap[w.heap.size]? = some (.cells (netC zeroN).toArray 25 (0, 0)) ∧
    ((w.alloc (.cells #[.bool false, .int .i64 0, .int .u8 0, .int .u8 0, .int .u8 0, .int .u8 0, .int .u8 0, .int .u8 0, .int .u8 0, .int .u8 0, .int .u8 0, .int .u8 0, .int .u8 0, .int .u8 0, .int .u8 0, .int .u8 0, .int .u8 0, .int .u8 0] 25)).alloc (.cells #[.func (.func 30) #[] #[], .func (.func 31) #[] #[]] 61)).heap[w.heap.size + 1]? = some (.cells #[.func (.func 30) #[] #[], .func (.func 31) #[] #[]] 61 (0, 0)) ∧ (0 < 0 → o4 = none) ∧ (1 < 0 → o6 = none) from
    ⟨((Bel.refl w).alloc _).alloc _, (Below.heap_alloc _ _ _ (by simp)).trans (heap_alloc_new w _), alloc_second w _ _, fun f => (by omega), fun f => (by omega)⟩)
  go_loopg [10] 2 (fun gg v10 wr => ∃ k : Nat, v10 = .int .i64 k ∧ k + gg = 2 ∧ Hid (Bel w wr ∧ wr.heap[w.heap.size]? = some (.cells (netC zeroN).toArray 25 (0, 0)) ∧ wr.heap[w.heap.size + 1]? = some (.cells #[.func (.func 30) #[] #[], .func (.func 31) #[] #[]] 61 (0, 0)) ∧ (0 < k → o4 = none) ∧ (1 < k → o6 = none)))
  case atStart => exact ⟨0, rfl, by omega, H0⟩
  case round =>
    obtain ⟨k, rfl, hk, HF⟩ := hrel
    clear H0
    rcases (by omega : k = 0 ∨ k = 1 ∨ k = 2) with rfl | rfl | rfl
    · have Hk := hid hk
      clear hk
      have c0 : wr.cell? ⟨w.heap.size + 1, 0, none⟩ = some (.func (.func 30) #[] #[]) := by simp [World.cell?, HF.out.2.2.1]
      cases o4 with
      | none =>
        go_wp2_with fail
        refine (H4.out _ (HW.out.next HF.out.1)).mono ?_
        intro e w3 hp
        obtain ⟨⟨n, hn, rfl, hno⟩, hb3⟩ := hp
        have hN := hid (And.intro hn hno)
        have hZ := hid (show (Tryz.prog.info? 25).map (·.size) = some (netC n).length by rw [netC_len _ hN.out.1.len]; exact net_info)
        have hth := hid (show (w3.alloc (.cells #[.bool false, .int .i64 0, .int .u8 0, .int .u8 0, .int .u8 0, .int .u8 0, .int .u8 0, .int .u8 0, .int .u8 0, .int .u8 0, .int .u8 0, .int .u8 0, .int .u8 0, .int .u8 0, .int .u8 0, .int .u8 0, .int .u8 0, .int .u8 0] 25)).there w3.heap.size 0 (netC n).toArray.size from there_of (cs := #[.bool false, .int .i64 0, .int .u8 0, .int .u8 0, .int .u8 0, .int .u8 0, .int .u8 0, .int .u8 0, .int .u8 0, .int .u8 0, .int .u8 0, .int .u8 0, .int .u8 0, .int .u8 0, .int .u8 0, .int .u8 0, .int .u8 0, .int .u8 0].toList) (heap_alloc_new w3 _) (by rw [List.size_toArray, netC_len _ hN.out.1.len]; decide))
        have hF3 := hid (show Bel w ((w3.alloc (.cells #[.bool false, .int .i64 0, .int .u8 0, .int .u8 0, .int .u8 0, .int .u8 0, .int .u8 0, .int .u8 0, .int .u8 0, .int .u8 0, .int .u8 0, .int .u8 0, .int .u8 0, .int .u8 0, .int .u8 0, .int .u8 0, .int .u8 0, .int .u8 0] 25)).setCells w3.heap.size 0 (netC n)) ∧ ((w3.alloc (.cells #[.bool false, .int .i64 0, .int .u8 0, .int .u8 0, .int .u8 0, .int .u8 0, .int .u8 0, .int .u8 0, .int .u8 0, .int .u8 0, .int .u8 0, .int .u8 0, .int .u8 0, .int .u8 0, .int .u8 0, .int .u8 0, .int .u8 0, .int .u8 0] 25)).setCells w3.heap.size 0 (netC n)).heap[w.heap.size]? = some (.cells (netC zeroN).toArray 25 (0, 0)) ∧ ((w3.alloc (.cells #[.bool false, .int .i64 0, .int .u8 0, .int .u8 0, .int .u8 0, .int .u8 0, .int .u8 0, .int .u8 0, .int .u8 0, .int .u8 0, .int .u8 0, .int .u8 0, .int .u8 0, .int .u8 0, .int .u8 0, .int .u8 0, .int .u8 0, .int .u8 0] 25)).setCells w3.heap.size 0 (netC n)).heap[w.heap.size + 1]? = some (.cells #[.func (.func 30) #[] #[], .func (.func 31) #[] #[]] 61 (0, 0)) ∧ ((w3.alloc (.cells #[.bool false, .int .i64 0, .int .u8 0, .int .u8 0, .int .u8 0, .int .u8 0, .int .u8 0, .int .u8 0, .int .u8 0, .int .u8 0, .int .u8 0, .int .u8 0, .int .u8 0, .int .u8 0, .int .u8 0, .int .u8 0, .int .u8 0, .int .u8 0] 25)).setCells w3.heap.size 0 (netC n)).heap[w3.heap.size]? = some (.cells (netC n).toArray 25 (0, 0)) from by
          have hb := ((HF.out.1.trans hb3).alloc (.cells #[.bool false, .int .i64 0, .int .u8 0, .int .u8 0, .int .u8 0, .int .u8 0, .int .u8 0, .int .u8 0, .int .u8 0, .int .u8 0, .int .u8 0, .int .u8 0, .int .u8 0, .int .u8 0, .int .u8 0, .int .u8 0, .int .u8 0, .int .u8 0] 25))
          have hx := (Bel.refl w3).alloc (.cells #[.bool false, .int .i64 0, .int .u8 0, .int .u8 0, .int .u8 0, .int .u8 0, .int .u8 0, .int .u8 0, .int .u8 0, .int .u8 0, .int .u8 0, .int .u8 0, .int .u8 0, .int .u8 0, .int .u8 0, .int .u8 0, .int .u8 0, .int .u8 0] 25)
          have l1 := (Array.getElem?_eq_some_iff.1 (hb3.heap HF.out.2.2.1)).1
          exact ⟨Bel.setCells (by omega) _ _ _ hb, (heap_setCells_other _ _ (by omega) _ _ _).trans (hx.heap (hb3.heap HF.out.2.1)), (heap_setCells_other _ _ (by omega) _ _ _).trans (hx.heap (hb3.heap HF.out.2.2.1)), heap_setCells_whole (cs := #[.bool false, .int .i64 0, .int .u8 0, .int .u8 0, .int .u8 0, .int .u8 0, .int .u8 0, .int .u8 0, .int .u8 0, .int .u8 0, .int .u8 0, .int .u8 0, .int .u8 0, .int .u8 0, .int .u8 0, .int .u8 0, .int .u8 0, .int .u8 0].toList) (heap_alloc_new w3 _) (by rw [netC_len _ hN.out.1.len]; rfl)⟩)
        have H3 := HF.out.2.2.2
        have HH := hid H3
        clear HF hb3 hn hno c0 H3
        go_wp2_with (first
          | (refine wpList_store_mid rfl 25 (.tmp 6) (.tmp 18) rfl w3.heap.size 0 (netC n).toArray rfl rfl ?_ (by rw [List.size_toArray]; exact hZ.out) (netC_one _) ?_; exact hth.out))
        go_roundg (gk - 1)
        case measure => have := Hk.out; omega
        case rel => exact ⟨0 + 1, by go_num, by have := Hk.out; omega, hid ⟨hF3.out.1, hF3.out.2.1, hF3.out.2.2.1, fun _ => (by first | rfl | trivial), fun f => (by omega)⟩⟩
      | some m =>
        go_wp2_with fail
        refine (H4.out _ (HW.out.next HF.out.1)).mono ?_
        intro e w3 hp
        obtain ⟨⟨n, hn, rfl, hno⟩, hb3⟩ := hp
        have hN := hid (And.intro hn hno)
        have hZ := hid (show (Tryz.prog.info? 25).map (·.size) = some (netC n).length by rw [netC_len _ hN.out.1.len]; exact net_info)
        have hth := hid (show (w3.alloc (.cells #[.bool false, .int .i64 0, .int .u8 0, .int .u8 0, .int .u8 0, .int .u8 0, .int .u8 0, .int .u8 0, .int .u8 0, .int .u8 0, .int .u8 0, .int .u8 0, .int .u8 0, .int .u8 0, .int .u8 0, .int .u8 0, .int .u8 0, .int .u8 0] 25)).there w3.heap.size 0 (netC n).toArray.size from there_of (cs := #[.bool false, .int .i64 0, .int .u8 0, .int .u8 0, .int .u8 0, .int .u8 0, .int .u8 0, .int .u8 0, .int .u8 0, .int .u8 0, .int .u8 0, .int .u8 0, .int .u8 0, .int .u8 0, .int .u8 0, .int .u8 0, .int .u8 0, .int .u8 0].toList) (heap_alloc_new w3 _) (by rw [List.size_toArray, netC_len _ hN.out.1.len]; decide))
        have hF3 := hid (show Bel w ((w3.alloc (.cells #[.bool false, .int .i64 0, .int .u8 0, .int .u8 0, .int .u8 0, .int .u8 0, .int .u8 0, .int .u8 0, .int .u8 0, .int .u8 0, .int .u8 0, .int .u8 0, .int .u8 0, .int .u8 0, .int .u8 0, .int .u8 0, .int .u8 0, .int .u8 0] 25)).setCells w3.heap.size 0 (netC n)) ∧ ((w3.alloc (.cells #[.bool false, .int .i64 0, .int .u8 0, .int .u8 0, .int .u8 0, .int .u8 0, .int .u8 0, .int .u8 0, .int .u8 0, .int .u8 0, .int .u8 0, .int .u8 0, .int .u8 0, .int .u8 0, .int .u8 0, .int .u8 0, .int .u8 0, .int .u8 0] 25)).setCells w3.heap.size 0 (netC n)).heap[w.heap.size]? = some (.cells (netC zeroN).toArray 25 (0, 0)) ∧ ((w3.alloc (.cells #[.bool false, .int .i64 0, .int .u8 0, .int .u8 0, .int .u8 0, .int .u8 0, .int .u8 0, .int .u8 0, .int .u8 0, .int .u8 0, .int .u8 0, .int .u8 0, .int .u8 0, .int .u8 0, .int .u8 0, .int .u8 0, .int .u8 0, .int .u8 0] 25)).setCells w3.heap.size 0 (netC n)).heap[w.heap.size + 1]? = some (.cells #[.func (.func 30) #[] #[], .func (.func 31) #[] #[]] 61 (0, 0)) ∧ ((w3.alloc (.cells #[.bool false, .int .i64 0, .int .u8 0, .int .u8 0, .int .u8 0, .int .u8 0, .int .u8 0, .int .u8 0, .int .u8 0, .int .u8 0, .int .u8 0, .int .u8 0, .int .u8 0, .int .u8 0, .int .u8 0, .int .u8 0, .int .u8 0, .int .u8 0] 25)).setCells w3.heap.size 0 (netC n)).heap[w3.heap.size]? = some (.cells (netC n).toArray 25 (0, 0)) from by
          have hb := ((HF.out.1.trans hb3).alloc (.cells #[.bool false, .int .i64 0, .int .u8 0, .int .u8 0, .int .u8 0, .int .u8 0, .int .u8 0, .int .u8 0, .int .u8 0, .int .u8 0, .int .u8 0, .int .u8 0, .int .u8 0, .int .u8 0, .int .u8 0, .int .u8 0, .int .u8 0, .int .u8 0] 25))
          have hx := (Bel.refl w3).alloc (.cells #[.bool false, .int .i64 0, .int .u8 0, .int .u8 0, .int .u8 0, .int .u8 0, .int .u8 0, .int .u8 0, .int .u8 0, .int .u8 0, .int .u8 0, .int .u8 0, .int .u8 0, .int .u8 0, .int .u8 0, .int .u8 0, .int .u8 0, .int .u8 0] 25)
          have l1 := (Array.getElem?_eq_some_iff.1 (hb3.heap HF.out.2.2.1)).1
          exact ⟨Bel.setCells (by omega) _ _ _ hb, (heap_setCells_other _ _ (by omega) _ _ _).trans (hx.heap (hb3.heap HF.out.2.1)), (heap_setCells_other _ _ (by omega) _ _ _).trans (hx.heap (hb3.heap HF.out.2.2.1)), heap_setCells_whole (cs := #[.bool false, .int .i64 0, .int .u8 0, .int .u8 0, .int .u8 0, .int .u8 0, .int .u8 0, .int .u8 0, .int .u8 0, .int .u8 0, .int .u8 0, .int .u8 0, .int .u8 0, .int .u8 0, .int .u8 0, .int .u8 0, .int .u8 0, .int .u8 0].toList) (heap_alloc_new w3 _) (by rw [netC_len _ hN.out.1.len]; rfl)⟩)
        have H3 := hid (show o = some m from HO.out.trans (by rfl))
        have HM := hid (hN.out.2 m rfl)
        clear HF hb3 hn hno c0
        go_wp2_with (first
          | (refine wpList_store_mid rfl 25 (.tmp 6) (.tmp 18) rfl w3.heap.size 0 (netC n).toArray rfl rfl ?_ (by rw [List.size_toArray]; exact hZ.out) (netC_one _) ?_; exact hth.out)
          | (refine wpList_load_mid rfl 25 (.tmp 6) rfl w3.heap.size 0 rfl (netC n) _ ?_ Tryz.underlying25 rfl hZ.out ?_; exact range_of hF3.out.2.2.2 fun j v hv => by simpa using hv)
          | (refine wpList_store_mid rfl 25 (.tmp 2) (.tmp 21) rfl w.heap.size 0 (netC n).toArray rfl rfl ?_ (by rw [List.size_toArray]; exact hZ.out) (netC_one _) ?_; exact there_of hF3.out.2.1 (by rw [List.size_toArray, netC_len _ hN.out.1.len]; decide)))
        have hT := hid (show ((w3.alloc (.cells #[.bool false, .int .i64 0, .int .u8 0, .int .u8 0, .int .u8 0, .int .u8 0, .int .u8 0, .int .u8 0, .int .u8 0, .int .u8 0, .int .u8 0, .int .u8 0, .int .u8 0, .int .u8 0, .int .u8 0, .int .u8 0, .int .u8 0, .int .u8 0] 25)).setCells w3.heap.size 0 (netC n)).there w.heap.size 0 (netC n).toArray.size from there_of hF3.out.2.1 (by rw [List.size_toArray, netC_len _ hN.out.1.len]; decide))
        have hl2 := run_loadVar_mid (P := Tryz.prog) (((w3.alloc (.cells #[.bool false, .int .i64 0, .int .u8 0, .int .u8 0, .int .u8 0, .int .u8 0, .int .u8 0, .int .u8 0, .int .u8 0, .int .u8 0, .int .u8 0, .int .u8 0, .int .u8 0, .int .u8 0, .int .u8 0, .int .u8 0, .int .u8 0, .int .u8 0] 25)).setCells w3.heap.size 0 (netC n)).setCells w.heap.size 0 (netC n)) w.heap.size 0 25 (netC n) _
          (World.rangeAt_setCells_same _ _ _ _ (by simpa using hT.out)) Tryz.underlying25 rfl hZ.out
        refine bodyPost_ret (v := .tuple #[netV n, .int .i64 0]) (by simp [results, Tryz.results10, asAddr, hl2, netV]) rfl ⟨by rw [H3.out, HM.out]; rfl, ?_⟩
        exact Bel.setCells (Nat.le_refl _) _ _ _ hF3.out.1
    · have Hk := hid hk
      clear hk
      have c0 : wr.cell? ⟨w.heap.size + 1, 1, none⟩ = some (.func (.func 31) #[] #[]) := by simp [World.cell?, HF.out.2.2.1]
      cases o6 with
      | none =>
        go_wp2_with fail
        refine (H6.out _ (HW.out.next HF.out.1)).mono ?_
        intro e w3 hp
        obtain ⟨⟨n, hn, rfl, hno⟩, hb3⟩ := hp
        have hN := hid (And.intro hn hno)
        have hZ := hid (show (Tryz.prog.info? 25).map (·.size) = some (netC n).length by rw [netC_len _ hN.out.1.len]; exact net_info)
        have hth := hid (show (w3.alloc (.cells #[.bool false, .int .i64 0, .int .u8 0, .int .u8 0, .int .u8 0, .int .u8 0, .int .u8 0, .int .u8 0, .int .u8 0, .int .u8 0, .int .u8 0, .int .u8 0, .int .u8 0, .int .u8 0, .int .u8 0, .int .u8 0, .int .u8 0, .int .u8 0] 25)).there w3.heap.size 0 (netC n).toArray.size from there_of (cs := #[.bool false, .int .i64 0, .int .u8 0, .int .u8 0, .int .u8 0, .int .u8 0, .int .u8 0, .int .u8 0, .int .u8 0, .int .u8 0, .int .u8 0, .int .u8 0, .int .u8 0, .int .u8 0, .int .u8 0, .int .u8 0, .int .u8 0, .int .u8 0].toList) (heap_alloc_new w3 _) (by rw [List.size_toArray, netC_len _ hN.out.1.len]; decide))
        have hF3 := hid (show Bel w ((w3.alloc (.cells #[.bool false, .int .i64 0, .int .u8 0, .int .u8 0, .int .u8 0, .int .u8 0, .int .u8 0, .int .u8 0, .int .u8 0, .int .u8 0, .int .u8 0, .int .u8 0, .int .u8 0, .int .u8 0, .int .u8 0, .int .u8 0, .int .u8 0, .int .u8 0] 25)).setCells w3.heap.size 0 (netC n)) ∧ ((w3.alloc (.cells #[.bool false, .int .i64 0, .int .u8 0, .int .u8 0, .int .u8 0, .int .u8 0, .int .u8 0, .int .u8 0, .int .u8 0, .int .u8 0, .int .u8 0, .int .u8 0, .int .u8 0, .int .u8 0, .int .u8 0, .int .u8 0, .int .u8 0, .int .u8 0] 25)).setCells w3.heap.size 0 (netC n)).heap[w.heap.size]? = some (.cells (netC zeroN).toArray 25 (0, 0)) ∧ ((w3.alloc (.cells #[.bool false, .int .i64 0, .int .u8 0, .int .u8 0, .int .u8 0, .int .u8 0, .int .u8 0, .int .u8 0, .int .u8 0, .int .u8 0, .int .u8 0, .int .u8 0, .int .u8 0, .int .u8 0, .int .u8 0, .int .u8 0, .int .u8 0, .int .u8 0] 25)).setCells w3.heap.size 0 (netC n)).heap[w.heap.size + 1]? = some (.cells #[.func (.func 30) #[] #[], .func (.func 31) #[] #[]] 61 (0, 0)) ∧ ((w3.alloc (.cells #[.bool false, .int .i64 0, .int .u8 0, .int .u8 0, .int .u8 0, .int .u8 0, .int .u8 0, .int .u8 0, .int .u8 0, .int .u8 0, .int .u8 0, .int .u8 0, .int .u8 0, .int .u8 0, .int .u8 0, .int .u8 0, .int .u8 0, .int .u8 0] 25)).setCells w3.heap.size 0 (netC n)).heap[w3.heap.size]? = some (.cells (netC n).toArray 25 (0, 0)) from by
          have hb := ((HF.out.1.trans hb3).alloc (.cells #[.bool false, .int .i64 0, .int .u8 0, .int .u8 0, .int .u8 0, .int .u8 0, .int .u8 0, .int .u8 0, .int .u8 0, .int .u8 0, .int .u8 0, .int .u8 0, .int .u8 0, .int .u8 0, .int .u8 0, .int .u8 0, .int .u8 0, .int .u8 0] 25))
          have hx := (Bel.refl w3).alloc (.cells #[.bool false, .int .i64 0, .int .u8 0, .int .u8 0, .int .u8 0, .int .u8 0, .int .u8 0, .int .u8 0, .int .u8 0, .int .u8 0, .int .u8 0, .int .u8 0, .int .u8 0, .int .u8 0, .int .u8 0, .int .u8 0, .int .u8 0, .int .u8 0] 25)
          have l1 := (Array.getElem?_eq_some_iff.1 (hb3.heap HF.out.2.2.1)).1
          exact ⟨Bel.setCells (by omega) _ _ _ hb, (heap_setCells_other _ _ (by omega) _ _ _).trans (hx.heap (hb3.heap HF.out.2.1)), (heap_setCells_other _ _ (by omega) _ _ _).trans (hx.heap (hb3.heap HF.out.2.2.1)), heap_setCells_whole (cs := #[.bool false, .int .i64 0, .int .u8 0, .int .u8 0, .int .u8 0, .int .u8 0, .int .u8 0, .int .u8 0, .int .u8 0, .int .u8 0, .int .u8 0, .int .u8 0, .int .u8 0, .int .u8 0, .int .u8 0, .int .u8 0, .int .u8 0, .int .u8 0].toList) (heap_alloc_new w3 _) (by rw [netC_len _ hN.out.1.len]; rfl)⟩)
        have H3 := HF.out.2.2.2
        have HH := hid H3
        clear HF hb3 hn hno c0 H3
        go_wp2_with (first
          | (refine wpList_store_mid rfl 25 (.tmp 6) (.tmp 18) rfl w3.heap.size 0 (netC n).toArray rfl rfl ?_ (by rw [List.size_toArray]; exact hZ.out) (netC_one _) ?_; exact hth.out))
        go_roundg (gk - 1)
        case measure => have := Hk.out; omega
        case rel => exact ⟨1 + 1, by go_num, by have := Hk.out; omega, hid ⟨hF3.out.1, hF3.out.2.1, hF3.out.2.2.1, fun _ => HH.out.1 (by decide), fun _ => (by first | rfl | trivial)⟩⟩
      | some m =>
        go_wp2_with fail
        refine (H6.out _ (HW.out.next HF.out.1)).mono ?_
        intro e w3 hp
        obtain ⟨⟨n, hn, rfl, hno⟩, hb3⟩ := hp
        have hN := hid (And.intro hn hno)
        have hZ := hid (show (Tryz.prog.info? 25).map (·.size) = some (netC n).length by rw [netC_len _ hN.out.1.len]; exact net_info)
        have hth := hid (show (w3.alloc (.cells #[.bool false, .int .i64 0, .int .u8 0, .int .u8 0, .int .u8 0, .int .u8 0, .int .u8 0, .int .u8 0, .int .u8 0, .int .u8 0, .int .u8 0, .int .u8 0, .int .u8 0, .int .u8 0, .int .u8 0, .int .u8 0, .int .u8 0, .int .u8 0] 25)).there w3.heap.size 0 (netC n).toArray.size from there_of (cs := #[.bool false, .int .i64 0, .int .u8 0, .int .u8 0, .int .u8 0, .int .u8 0, .int .u8 0, .int .u8 0, .int .u8 0, .int .u8 0, .int .u8 0, .int .u8 0, .int .u8 0, .int .u8 0, .int .u8 0, .int .u8 0, .int .u8 0, .int .u8 0].toList) (heap_alloc_new w3 _) (by rw [List.size_toArray, netC_len _ hN.out.1.len]; decide))
        have hF3 := hid (show Bel w ((w3.alloc (.cells #[.bool false, .int .i64 0, .int .u8 0, .int .u8 0, .int .u8 0, .int .u8 0, .int .u8 0, .int .u8 0, .int .u8 0, .int .u8 0, .int .u8 0, .int .u8 0, .int .u8 0, .int .u8 0, .int .u8 0, .int .u8 0, .int .u8 0, .int .u8 0] 25)).setCells w3.heap.size 0 (netC n)) ∧ ((w3.alloc (.cells #[.bool false, .int .i64 0, .int .u8 0, .int .u8 0, .int .u8 0, .int .u8 0, .int .u8 0, .int .u8 0, .int .u8 0, .int .u8 0, .int .u8 0, .int .u8 0, .int .u8 0, .int .u8 0, .int .u8 0, .int .u8 0, .int .u8 0, .int .u8 0] 25)).setCells w3.heap.size 0 (netC n)).heap[w.heap.size]? = some (.cells (netC zeroN).toArray 25 (0, 0)) ∧ ((w3.alloc (.cells #[.bool false, .int .i64 0, .int .u8 0, .int .u8 0, .int .u8 0, .int .u8 0, .int .u8 0, .int .u8 0, .int .u8 0, .int .u8 0, .int .u8 0, .int .u8 0, .int .u8 0, .int .u8 0, .int .u8 0, .int .u8 0, .int .u8 0, .int .u8 0] 25)).setCells w3.heap.size 0 (netC n)).heap[w.heap.size + 1]? = some (.cells #[.func (.func 30) #[] #[], .func (.func 31) #[] #[]] 61 (0, 0)) ∧ ((w3.alloc (.cells #[.bool false, .int .i64 0, .int .u8 0, .int .u8 0, .int .u8 0, .int .u8 0, .int .u8 0, .int .u8 0, .int .u8 0, .int .u8 0, .int .u8 0, .int .u8 0, .int .u8 0, .int .u8 0, .int .u8 0, .int .u8 0, .int .u8 0, .int .u8 0] 25)).setCells w3.heap.size 0 (netC n)).heap[w3.heap.size]? = some (.cells (netC n).toArray 25 (0, 0)) from by
          have hb := ((HF.out.1.trans hb3).alloc (.cells #[.bool false, .int .i64 0, .int .u8 0, .int .u8 0, .int .u8 0, .int .u8 0, .int .u8 0, .int .u8 0, .int .u8 0, .int .u8 0, .int .u8 0, .int .u8 0, .int .u8 0, .int .u8 0, .int .u8 0, .int .u8 0, .int .u8 0, .int .u8 0] 25))
          have hx := (Bel.refl w3).alloc (.cells #[.bool false, .int .i64 0, .int .u8 0, .int .u8 0, .int .u8 0, .int .u8 0, .int .u8 0, .int .u8 0, .int .u8 0, .int .u8 0, .int .u8 0, .int .u8 0, .int .u8 0, .int .u8 0, .int .u8 0, .int .u8 0, .int .u8 0, .int .u8 0] 25)
          have l1 := (Array.getElem?_eq_some_iff.1 (hb3.heap HF.out.2.2.1)).1
          exact ⟨Bel.setCells (by omega) _ _ _ hb, (heap_setCells_other _ _ (by omega) _ _ _).trans (hx.heap (hb3.heap HF.out.2.1)), (heap_setCells_other _ _ (by omega) _ _ _).trans (hx.heap (hb3.heap HF.out.2.2.1)), heap_setCells_whole (cs := #[.bool false, .int .i64 0, .int .u8 0, .int .u8 0, .int .u8 0, .int .u8 0, .int .u8 0, .int .u8 0, .int .u8 0, .int .u8 0, .int .u8 0, .int .u8 0, .int .u8 0, .int .u8 0, .int .u8 0, .int .u8 0, .int .u8 0, .int .u8 0].toList) (heap_alloc_new w3 _) (by rw [netC_len _ hN.out.1.len]; rfl)⟩)
        have H3 := hid (show o = some m from HO.out.trans (by rw [HF.out.2.2.2.1 (by decide)]; rfl))
        have HM := hid (hN.out.2 m rfl)
        clear HF hb3 hn hno c0
        go_wp2_with (first
          | (refine wpList_store_mid rfl 25 (.tmp 6) (.tmp 18) rfl w3.heap.size 0 (netC n).toArray rfl rfl ?_ (by rw [List.size_toArray]; exact hZ.out) (netC_one _) ?_; exact hth.out)
          | (refine wpList_load_mid rfl 25 (.tmp 6) rfl w3.heap.size 0 rfl (netC n) _ ?_ Tryz.underlying25 rfl hZ.out ?_; exact range_of hF3.out.2.2.2 fun j v hv => by simpa using hv)
          | (refine wpList_store_mid rfl 25 (.tmp 2) (.tmp 21) rfl w.heap.size 0 (netC n).toArray rfl rfl ?_ (by rw [List.size_toArray]; exact hZ.out) (netC_one _) ?_; exact there_of hF3.out.2.1 (by rw [List.size_toArray, netC_len _ hN.out.1.len]; decide)))
        have hT := hid (show ((w3.alloc (.cells #[.bool false, .int .i64 0, .int .u8 0, .int .u8 0, .int .u8 0, .int .u8 0, .int .u8 0, .int .u8 0, .int .u8 0, .int .u8 0, .int .u8 0, .int .u8 0, .int .u8 0, .int .u8 0, .int .u8 0, .int .u8 0, .int .u8 0, .int .u8 0] 25)).setCells w3.heap.size 0 (netC n)).there w.heap.size 0 (netC n).toArray.size from there_of hF3.out.2.1 (by rw [List.size_toArray, netC_len _ hN.out.1.len]; decide))
        have hl2 := run_loadVar_mid (P := Tryz.prog) (((w3.alloc (.cells #[.bool false, .int .i64 0, .int .u8 0, .int .u8 0, .int .u8 0, .int .u8 0, .int .u8 0, .int .u8 0, .int .u8 0, .int .u8 0, .int .u8 0, .int .u8 0, .int .u8 0, .int .u8 0, .int .u8 0, .int .u8 0, .int .u8 0, .int .u8 0] 25)).setCells w3.heap.size 0 (netC n)).setCells w.heap.size 0 (netC n)) w.heap.size 0 25 (netC n) _
          (World.rangeAt_setCells_same _ _ _ _ (by simpa using hT.out)) Tryz.underlying25 rfl hZ.out
        refine bodyPost_ret (v := .tuple #[netV n, .int .i64 0]) (by simp [results, Tryz.results10, asAddr, hl2, netV]) rfl ⟨by rw [H3.out, HM.out]; rfl, ?_⟩
        exact Bel.setCells (Nat.le_refl _) _ _ _ hF3.out.1
    · have ho : o = none := by rw [HO.out, HF.out.2.2.2.1 (by decide), HF.out.2.2.2.2 (by decide)]; rfl
      clear H4 H6 HO
      subst ho
      have hZ := hid (show (Tryz.prog.info? 25).map (·.size) = some (netC zeroN).length by rw [netC_len _ zeroN_fits.len]; exact net_info)
      have hT := hid (show wr.there w.heap.size 0 (netC zeroN).toArray.size from there_of HF.out.2.1 (by rw [List.size_toArray]; exact Nat.le_of_eq (Nat.zero_add _)))
      go_wp2_with (first
        | (refine wpList_store_mid rfl 25 (.tmp 2) (.tmp 23) rfl w.heap.size 0 (netC zeroN).toArray rfl rfl ?_ (by rw [List.size_toArray]; exact hZ.out) (netC_one _) ?_; exact hT.out))
      have hl2 := run_loadVar_mid (P := Tryz.prog) (wr.setCells w.heap.size 0 (netC zeroN)) w.heap.size 0 25 (netC zeroN) _
        (World.rangeAt_setCells_same _ _ _ _ (by simpa using hT.out)) Tryz.underlying25 rfl hZ.out
      refine bodyPost_ret (v := .tuple #[netV zeroN, .int .i64 70]) (by simp [results, Tryz.results10, asAddr, hl2, netV]) rfl ⟨rfl, ?_⟩
      exact Bel.setCells (Nat.le_refl _) _ _ _ HF.out.1
end Go.Proofs.YtpmmaickjolimaaGreatDoor.Ci
