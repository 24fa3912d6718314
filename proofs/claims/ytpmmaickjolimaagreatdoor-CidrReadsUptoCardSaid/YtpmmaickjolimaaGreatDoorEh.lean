/- The reference's Addr. -/
import Derived.Test.YtpmmaickjolimaaGreatDoorEg
namespace Go.Proofs.YtpmmaickjolimaaGreatDoor.Ci
open Go.RowKit

def AddrPost (o : Option Nt) (w : World) (e : Ending) (w' : World) : Prop := e = .returned (.tuple #[netV (o.getD zeroN), .int .i64 (errQ o)]) ∧ Bel w w'
set_option maxHeartbeats 4000000 in
set_option maxRecDepth 100000 in
theorem raddr_run (s : ByteArray) (w : World) (hs : s.size < 4294967281) :
    Calls Tryz.prog 11 #[.string s] w (AddrPost (addrQ s.data.toList) w) := by
  have HF := (show Hid (∀ W, Calls Tryz.prog 32 #[.string s] W (NetPost (fourN' s.data.toList) W)) from fun W => rfour_run s W hs)
  have HS := (show Hid (∀ W, Calls Tryz.prog 33 #[.string s] W (NetPost (sixQ s.data.toList) W)) from fun W => rsix_run s W hs)
  unfold addrQ
  generalize fourN' s.data.toList = o4 at HF ⊢
  generalize sixQ s.data.toList = o6 at HS ⊢
  go_enter Tryz.func11, Tryz.ntmps11
  go_upto_region 1 with (fail)
  have HE := hid (show Bel w (w.alloc (.cells #[.bool false, .int .i64 0, .int .u8 0, .int .u8 0, .int .u8 0, .int .u8 0, .int .u8 0, .int .u8 0, .int .u8 0, .int .u8 0, .int .u8 0, .int .u8 0, .int .u8 0, .int .u8 0, .int .u8 0, .int .u8 0, .int .u8 0, .int .u8 0] 25)) ∧ (w.alloc (.cells #[.bool false, .int .i64 0, .int .u8 0, .int .u8 0, .int .u8 0, .int .u8 0, .int .u8 0, .int .u8 0, .int .u8 0, .int .u8 0, .int .u8 0, .int .u8 0, .int .u8 0, .int .u8 0, .int .u8 0, .int .u8 0, .int .u8 0, .int .u8 0] 25)).heap[w.heap.size]? = some (.cells (netC zeroN).toArray 25 (0, 0)) from ⟨(Bel.refl w).alloc _, heap_alloc_new w _⟩)
  generalize (w.alloc (.cells #[.bool false, .int .i64 0, .int .u8 0, .int .u8 0, .int .u8 0, .int .u8 0, .int .u8 0, .int .u8 0, .int .u8 0, .int .u8 0, .int .u8 0, .int .u8 0, .int .u8 0, .int .u8 0, .int .u8 0, .int .u8 0, .int .u8 0, .int .u8 0] 25)) = e0 at HE ⊢
  go_wp2_with fail
  refine (HF.out _).mono ?_
  rintro e w1 ⟨⟨n, hn, rfl, hm⟩, hb1⟩
  have HN := hid (And.intro hn hm)
  have P := hid (put_net w1 n HN.out.1.len)
  have HZ0 := hid (net_len n HN.out.1.len)
  have H0 := hid (And.intro (HE.out.1.trans hb1) (hb1.heap HE.out.2))
  unfold netV
  clear hb1 HF HE hn hm
  go_upto_region 2 with (first
    | (refine wpList_store_mid rfl 25 (.tmp 4) (.tmp 9) rfl w1.heap.size 0 (netC n).toArray rfl rfl ?_ (by rw [List.size_toArray]; exact HZ0.out) (netC_one _) ?_; exact there_net w1 n HN.out.1.len))
  generalize ((w1.alloc (.cells #[.bool false, .int .i64 0, .int .u8 0, .int .u8 0, .int .u8 0, .int .u8 0, .int .u8 0, .int .u8 0, .int .u8 0, .int .u8 0, .int .u8 0, .int .u8 0, .int .u8 0, .int .u8 0, .int .u8 0, .int .u8 0, .int .u8 0, .int .u8 0] 25)).setCells w1.heap.size 0 (netC n)) = w2 at P ⊢
  have hBw : w.heap.size < w1.heap.size := (Array.getElem?_eq_some_iff.1 H0.out.2).1
  have H2 := hid (show Bel w w2 ∧ w2.heap[w.heap.size]? = some (.cells (netC zeroN).toArray 25 (0, 0)) ∧ w2.heap[w1.heap.size]? = some (.cells (netC n).toArray 25 (0, 0)) from ⟨H0.out.1.trans P.out.1, P.out.1.heap H0.out.2, P.out.2⟩)
  clear P H0 HZ0
  generalize w1.heap.size = B at H2 hBw ⊢
  cases o4 with
  | some m =>
    obtain rfl : n = m := HN.out.2 m rfl
    have HZ := hid (net_len n (HN.out.1).len)
    have HT := hid (show w2.there w.heap.size 0 (netC n).toArray.size from there_of (cs := netC zeroN) H2.out.2.1 (by rw [List.size_toArray, netC_len _ (HN.out.1).len]; decide))
    go_wp2_with (first
      | (refine wpList_load_mid rfl 25 (.tmp 4) rfl B 0 rfl (netC n) _ ?_ Tryz.underlying25 rfl HZ.out ?_; exact range_net H2.out.2.2)
      | (refine wpList_store_mid rfl 25 (.tmp 2) (.tmp 12) rfl w.heap.size 0 (netC n).toArray rfl rfl ?_ (by rw [List.size_toArray]; exact HZ.out) (netC_one _) ?_; exact HT.out))
    have hl2 := run_loadVar_mid (P := Tryz.prog) (w2.setCells w.heap.size 0 (netC n)) w.heap.size 0 25 (netC n) _ (World.rangeAt_setCells_same _ _ _ _ (by simpa using HT.out)) Tryz.underlying25 rfl HZ.out
    refine bodyPost_ret (v := .tuple #[netV n, .int .i64 0]) (by simp [results, Tryz.results11, asAddr, hl2, netV]) rfl ⟨by simp [errQ, netV], Bel.setCells (Nat.le_refl _) _ _ _ H2.out.1⟩
  | none =>
    go_wp2_with fail
    refine (HS.out _).mono ?_
    rintro e w3 ⟨⟨n2, hn2, rfl, hm2⟩, hb3⟩
    have HN2 := hid (And.intro hn2 hm2)
    have HZ2 := hid (net_len n2 HN2.out.1.len)
    have H3 := hid (show Bel w w3 ∧ w3.heap[w.heap.size]? = some (.cells (netC zeroN).toArray 25 (0, 0)) ∧ w3.heap[B]? = some (.cells (netC n).toArray 25 (0, 0)) from ⟨H2.out.1.trans hb3, hb3.heap H2.out.2.1, hb3.heap H2.out.2.2⟩)
    have HT2 := hid (show w3.there B 0 (netC n2).toArray.size from there_of (cs := netC n) H3.out.2.2 (by rw [List.size_toArray, netC_len _ HN2.out.1.len, netC_len _ HN.out.1.len]; decide))
    unfold netV
    clear hb3 HS hn2 hm2 H2
    go_upto_region 5 with (first
      | (refine wpList_store_mid rfl 25 (.tmp 4) (.tmp 16) rfl B 0 (netC n2).toArray rfl rfl ?_ (by rw [List.size_toArray]; exact HZ2.out) (netC_one _) ?_; exact HT2.out))
    have H4 := hid (show Bel w (w3.setCells B 0 (netC n2)) ∧ (w3.setCells B 0 (netC n2)).heap[w.heap.size]? = some (.cells (netC zeroN).toArray 25 (0, 0)) ∧ (w3.setCells B 0 (netC n2)).heap[B]? = some (.cells (netC n2).toArray 25 (0, 0)) from ⟨Bel.setCells (Nat.le_of_lt hBw) _ _ _ H3.out.1, (heap_setCells_other B w.heap.size (by omega) _ _ _).trans H3.out.2.1, heap_setCells_whole H3.out.2.2 (by rw [netC_len _ HN2.out.1.len, netC_len _ HN.out.1.len])⟩)
    generalize (w3.setCells B 0 (netC n2)) = w4 at H4 ⊢
    clear H3 HZ2 HT2
    cases o6 with
    | some m =>
      obtain rfl : n2 = m := HN2.out.2 m rfl
      have HZ := hid (net_len n2 (HN2.out.1).len)
      have HT := hid (show w4.there w.heap.size 0 (netC n2).toArray.size from there_of (cs := netC zeroN) H4.out.2.1 (by rw [List.size_toArray, netC_len _ (HN2.out.1).len]; decide))
      go_wp2_with (first
        | (refine wpList_load_mid rfl 25 (.tmp 4) rfl B 0 rfl (netC n2) _ ?_ Tryz.underlying25 rfl HZ.out ?_; exact range_net H4.out.2.2)
        | (refine wpList_store_mid rfl 25 (.tmp 2) (.tmp 19) rfl w.heap.size 0 (netC n2).toArray rfl rfl ?_ (by rw [List.size_toArray]; exact HZ.out) (netC_one _) ?_; exact HT.out))
      have hl2 := run_loadVar_mid (P := Tryz.prog) (w4.setCells w.heap.size 0 (netC n2)) w.heap.size 0 25 (netC n2) _ (World.rangeAt_setCells_same _ _ _ _ (by simpa using HT.out)) Tryz.underlying25 rfl HZ.out
      refine bodyPost_ret (v := .tuple #[netV n2, .int .i64 0]) (by simp [results, Tryz.results11, asAddr, hl2, netV]) rfl ⟨by simp [errQ, netV], Bel.setCells (Nat.le_refl _) _ _ _ H4.out.1⟩
    | none =>
      have HZ := hid (net_len zeroN (zeroN_fits).len)
      have HT := hid (show w4.there w.heap.size 0 (netC zeroN).toArray.size from there_of (cs := netC zeroN) H4.out.2.1 (by rw [List.size_toArray, netC_len _ (zeroN_fits).len]; decide))
      go_wp2_with (first
        | (refine wpList_store_mid rfl 25 (.tmp 2) (.tmp 20) rfl w.heap.size 0 (netC zeroN).toArray rfl rfl ?_ (by rw [List.size_toArray]; exact HZ.out) (netC_one _) ?_; exact HT.out))
      have hl2 := run_loadVar_mid (P := Tryz.prog) (w4.setCells w.heap.size 0 (netC zeroN)) w.heap.size 0 25 (netC zeroN) _ (World.rangeAt_setCells_same _ _ _ _ (by simpa using HT.out)) Tryz.underlying25 rfl HZ.out
      refine bodyPost_ret (v := .tuple #[netV zeroN, .int .i64 70]) (by simp [results, Tryz.results11, asAddr, hl2, netV]) rfl ⟨by simp [errQ, netV], Bel.setCells (Nat.le_refl _) _ _ _ H4.out.1⟩
end Go.Proofs.YtpmmaickjolimaaGreatDoor.Ci
