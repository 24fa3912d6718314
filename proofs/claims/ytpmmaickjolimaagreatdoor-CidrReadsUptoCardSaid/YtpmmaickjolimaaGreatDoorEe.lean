/- The reference's four. -/
import Derived.Test.YtpmmaickjolimaaGreatDoorEd
import Derived.Test.YtpmmaickjolimaaGreatDoorCw
namespace Go.Proofs.YtpmmaickjolimaaGreatDoor.Ci
open Go.RowKit

theorem allB_snoc : ∀ (l : List (List UInt8)) (gs : List Nat) (p : List UInt8) (g : Nat), allB l = some gs → byteL p = some g → allB (l ++ [p]) = some (gs ++ [g])
  | [], gs, p, g, h, hp => by
    cases h
    simp [allB, hp]
  | q :: l, gs, p, g, h, hp => by
    unfold allB at h
    cases h1 : byteL q with
    | none => rw [h1] at h; cases h
    | some v =>
      cases h2 : allB l with
      | none => rw [h1, h2] at h; cases h
      | some vs =>
        rw [h1, h2] at h
        cases h
        show allB (q :: (l ++ [p])) = _
        unfold allB
        rw [h1, allB_snoc l vs p g h2 hp]
        rfl
theorem allB_bad : ∀ (l : List (List UInt8)) (p : List UInt8), p ∈ l → byteL p = none → allB l = none
  | [], _, h, _ => by cases h
  | q :: l, p, h, hp => by
    unfold allB
    rcases List.mem_cons.1 h with rfl | h
    · rw [hp]
    · rw [allB_bad l p h hp]
      cases byteL q <;> rfl
def fourR (xs : List Nat) : Nt := ⟨false, 32, xs ++ List.replicate (16 - xs.length) 0⟩
theorem fourR_fits (xs : List Nat) (h : xs.length ≤ 4) (hx : ∀ x ∈ xs, x < 256) : (fourR xs).Fits := by
  refine ⟨by simp [fourR], by simp [fourR], by simp [fourR]; omega, fun x hm => ?_⟩
  unfold fourR at hm
  rcases List.mem_append.1 hm with f | f
  · exact hx x f
  · obtain ⟨-, rfl⟩ := List.mem_replicate.1 f
    decide
theorem fourR_set (xs : List Nat) (x : Nat) (h : xs.length < 4) : (netC (fourR xs)).set (2 + xs.length) (u8V x) = netC (fourR (xs ++ [x])) := by
  rw [netC_set]
  congr 1
  unfold fourR
  congr 1
  rw [List.set_append_right _ _ (Nat.le_refl _), Nat.sub_self, List.length_append, List.length_singleton, (by omega : 16 - xs.length = (16 - (xs.length + 1)) + 1), List.replicate_succ, List.set_cons_zero, List.append_assoc]
  rfl
set_option maxHeartbeats 4000000 in
set_option maxRecDepth 100000 in
theorem rfour_run (s : ByteArray) (w : World) (hs : s.size < 4294967281) :
    Calls Tryz.prog 32 #[.string s] w (NetPost (fourN' s.data.toList) w) := by
  have HS := (show Hid (∀ W, Calls Tryz.prog 37 #[.string s, .int .u8 46] W (SplitPost 46 s W)) from fun W => rsplit_run s 46 W hs)
  have hq : fourN' s.data.toList = (if (splitL 46 s.data.toList).length = 4 then allB (splitL 46 s.data.toList) else none).map fun l => (⟨false, 32, l ++ List.replicate 12 0⟩ : Nt) := rfl
  generalize hoz : fourN' s.data.toList = o
  rw [hoz] at hq
  have HO := hid hq
  clear hoz hq
  go_enter Tryz.func32, Tryz.ntmps32
  go_upto_region 1 with (fail)
  have HE := hid (show Bel w (w.alloc (.cells #[.bool false, .int .i64 0, .int .u8 0, .int .u8 0, .int .u8 0, .int .u8 0, .int .u8 0, .int .u8 0, .int .u8 0, .int .u8 0, .int .u8 0, .int .u8 0, .int .u8 0, .int .u8 0, .int .u8 0, .int .u8 0, .int .u8 0, .int .u8 0] 25)) ∧ (w.alloc (.cells #[.bool false, .int .i64 0, .int .u8 0, .int .u8 0, .int .u8 0, .int .u8 0, .int .u8 0, .int .u8 0, .int .u8 0, .int .u8 0, .int .u8 0, .int .u8 0, .int .u8 0, .int .u8 0, .int .u8 0, .int .u8 0, .int .u8 0, .int .u8 0] 25)).heap[w.heap.size]? = some (.cells (netC zeroN).toArray 25 (0, 0)) from ⟨(Bel.refl w).alloc _, heap_alloc_new w _⟩)
  generalize (w.alloc (.cells #[.bool false, .int .i64 0, .int .u8 0, .int .u8 0, .int .u8 0, .int .u8 0, .int .u8 0, .int .u8 0, .int .u8 0, .int .u8 0, .int .u8 0, .int .u8 0, .int .u8 0, .int .u8 0, .int .u8 0, .int .u8 0, .int .u8 0, .int .u8 0] 25)) = e0 at HE ⊢
  go_wp2_with fail
  refine (HS.out _).mono ?_
  rintro e w1 ⟨v, ps, rfl, hT, hps, hb1⟩
  rw [← hps] at HO
  obtain ⟨g, p, rfl, hl1, hl2⟩ := split_row hT hps
  have H0 := hid (And.intro (HE.out.1.trans hb1) (And.intro (hb1.heap HE.out.2) hT))
  have HF0 := hid (fourR_fits [] (by decide) (fun x hx => by cases hx))
  have P := hid (put_net w1 (fourR []) HF0.out.len)
  have HZ0 := hid (net_len (fourR []) HF0.out.len)
  clear hb1 hT hps HS HE
  go_upto_region 3 with (first
    | (refine wpList_store_mid rfl 25 (.tmp 5) (.tmp 11) rfl w1.heap.size 0 (netC (fourR [])).toArray rfl rfl ?_ (by rw [List.size_toArray]; exact HZ0.out) (netC_one _) ?_; exact there_net w1 (fourR []) HF0.out.len))
  generalize ((w1.alloc (.cells #[.bool false, .int .i64 0, .int .u8 0, .int .u8 0, .int .u8 0, .int .u8 0, .int .u8 0, .int .u8 0, .int .u8 0, .int .u8 0, .int .u8 0, .int .u8 0, .int .u8 0, .int .u8 0, .int .u8 0, .int .u8 0, .int .u8 0, .int .u8 0] 25)).setCells w1.heap.size 0 (netC (fourR []))) = w2 at P ⊢
  clear HZ0
  by_cases h4 : ps.length = 4
  · have d4 : ((ps.length : Int) != 4) = false := by rw [h4]; rfl
    have HO4 := hid (show o = (allB (ps.map (·.data.toList))).map fun l => (⟨false, 32, l ++ List.replicate 12 0⟩ : Nt) by rw [HO.out, List.length_map, if_pos h4])
    clear HO
    go_wp2_with fail
    go_loopg [6] 4 (fun gg v6 wr => ∃ (xs : List Nat), v6 = .int .i64 xs.length ∧ xs.length + gg = 4 ∧ Hid (Bel w1 wr ∧ wr.heap[w1.heap.size]? = some (.cells (netC (fourR xs)).toArray 25 (0, 0)) ∧ allB ((ps.take xs.length).map (·.data.toList)) = some xs))
    case atStart => exact ⟨[], rfl, rfl, hid ⟨P.out.1, P.out.2, rfl⟩⟩
    case round =>
      clear P HF0
      obtain ⟨xs, rfl, hk, H⟩ := hrel
      have Hk := hid hk
      have hks : xs.length ≤ 4 := by omega
      have HX := hid (fourR_fits xs hks (allB_lt _ _ H.out.2.2).2)
      clear hk
      by_cases hlt : xs.length < 4
      · have hlt2 : xs.length < ps.length := by omega
        have c0 := (H0.out.2.2.next H.out.1).cell xs.length hlt2
        have HG := (show Hid (∀ W, Calls Tryz.prog 38 #[.string ps[xs.length]] W fun e w' => e = .returned (numV2 (numL ps[xs.length].data.toList)) ∧ Bel W w') from fun W => decimal_run ps[xs.length] W)
        have HM := hid (show ps[xs.length].data.toList ∈ ps.map (·.data.toList) from List.mem_map_of_mem (List.getElem_mem hlt2))
        have HTk := hid (show (ps.take (xs.length + 1)).map (·.data.toList) = (ps.take xs.length).map (·.data.toList) ++ [ps[xs.length].data.toList] by rw [List.take_succ_eq_append_getElem hlt2, List.map_append]; rfl)
        generalize ps[xs.length] = x at c0 HG HM HTk
        cases hg : numL x.data.toList with
        | none =>
          rw [hg] at HG
          have hn : o = none := by rw [HO4.out, allB_bad _ _ HM.out (by unfold byteL; rw [hg])]; rfl
          subst hn
          clear hg
          unfold numV2 at HG
          go_wp2_with fail
          refine (HG.out _).mono ?_
          rintro e w3 ⟨rfl, hb3⟩
          have H3 := hid (show Bel w w3 ∧ w3.heap[w1.heap.size]? = some (.cells (netC (fourR xs)).toArray 25 (0, 0)) ∧ w3.heap[w.heap.size]? = some (.cells (netC zeroN).toArray 25 (0, 0)) from ⟨(H0.out.1.trans H.out.1).trans hb3, hb3.heap H.out.2.1, (H.out.1.trans hb3).heap H0.out.2.1⟩)
          clear hb3 HG c0 H
          have HZ := hid (net_len (fourR xs) (HX.out).len)
          have HT := hid (show w3.there w.heap.size 0 (netC (fourR xs)).toArray.size from there_of (cs := netC zeroN) H3.out.2.2 (by rw [List.size_toArray, netC_len _ (HX.out).len]; decide))
          go_wp2_with (first
            | (refine wpList_load_mid rfl 25 (.tmp 5) rfl w1.heap.size 0 rfl (netC (fourR xs)) _ ?_ Tryz.underlying25 rfl HZ.out ?_; exact range_net H3.out.2.1)
            | (refine wpList_store_mid rfl 25 (.tmp 2) (.tmp 34) rfl w.heap.size 0 (netC (fourR xs)).toArray rfl rfl ?_ (by rw [List.size_toArray]; exact HZ.out) (netC_one _) ?_; exact HT.out))
          have hl2 := run_loadVar_mid (P := Tryz.prog) (w3.setCells w.heap.size 0 (netC (fourR xs))) w.heap.size 0 25 (netC (fourR xs)) _ (World.rangeAt_setCells_same _ _ _ _ (by simpa using HT.out)) Tryz.underlying25 rfl HZ.out
          refine bodyPost_ret (v := .tuple #[netV (fourR xs), .bool false]) (by simp [results, Tryz.results32, asAddr, hl2, netV]) rfl ⟨⟨fourR xs, HX.out, rfl, fun m hm => by cases hm⟩, Bel.setCells (Nat.le_refl _) _ _ _ H3.out.1⟩
        | some n =>
          rw [hg] at HG
          have hn1000 := numL_lt hg
          unfold numV2 at HG
          by_cases hbig : 255 < n
          · have dbig : decide (255 < (n : Int)) = true := decide_eq_true (by omega)
            have hn : o = none := by rw [HO4.out, allB_bad _ _ HM.out (by unfold byteL; rw [hg]; show (if n ≤ 255 then some n else none) = none; rw [if_neg (by omega)])]; rfl
            subst hn
            clear hg
            go_wp2_with fail
            refine (HG.out _).mono ?_
            rintro e w3 ⟨rfl, hb3⟩
            have H3 := hid (show Bel w w3 ∧ w3.heap[w1.heap.size]? = some (.cells (netC (fourR xs)).toArray 25 (0, 0)) ∧ w3.heap[w.heap.size]? = some (.cells (netC zeroN).toArray 25 (0, 0)) from ⟨(H0.out.1.trans H.out.1).trans hb3, hb3.heap H.out.2.1, (H.out.1.trans hb3).heap H0.out.2.1⟩)
            clear hb3 HG c0 H
            have HZ := hid (net_len (fourR xs) (HX.out).len)
            have HT := hid (show w3.there w.heap.size 0 (netC (fourR xs)).toArray.size from there_of (cs := netC zeroN) H3.out.2.2 (by rw [List.size_toArray, netC_len _ (HX.out).len]; decide))
            go_wp2_with (first
              | (refine wpList_load_mid rfl 25 (.tmp 5) rfl w1.heap.size 0 rfl (netC (fourR xs)) _ ?_ Tryz.underlying25 rfl HZ.out ?_; exact range_net H3.out.2.1)
              | (refine wpList_store_mid rfl 25 (.tmp 2) (.tmp 34) rfl w.heap.size 0 (netC (fourR xs)).toArray rfl rfl ?_ (by rw [List.size_toArray]; exact HZ.out) (netC_one _) ?_; exact HT.out))
            have hl2 := run_loadVar_mid (P := Tryz.prog) (w3.setCells w.heap.size 0 (netC (fourR xs))) w.heap.size 0 25 (netC (fourR xs)) _ (World.rangeAt_setCells_same _ _ _ _ (by simpa using HT.out)) Tryz.underlying25 rfl HZ.out
            refine bodyPost_ret (v := .tuple #[netV (fourR xs), .bool false]) (by simp [results, Tryz.results32, asAddr, hl2, netV]) rfl ⟨⟨fourR xs, HX.out, rfl, fun m hm => by cases hm⟩, Bel.setCells (Nat.le_refl _) _ _ _ H3.out.1⟩
          · have dbig : decide (255 < (n : Int)) = false := decide_eq_false (by omega)
            have HA := hid (show allB ((ps.take (xs.length + 1)).map (·.data.toList)) = some (xs ++ [n]) by
              rw [HTk.out]
              exact allB_snoc _ _ _ _ H.out.2.2 (by unfold byteL; rw [hg]; show (if n ≤ 255 then some n else none) = some n; rw [if_pos (by omega)]))
            clear hg HM HTk
            go_wp2_with fail
            refine (HG.out _).mono ?_
            rintro e w3 ⟨rfl, hb3⟩
            have H3 := hid (show Bel w1 w3 ∧ w3.heap[w1.heap.size]? = some (.cells (netC (fourR xs)).toArray 25 (0, 0)) from ⟨H.out.1.trans hb3, hb3.heap H.out.2.1⟩)
            have hf3 : w3.frozen? ⟨w1.heap.size, 2 + xs.length, none⟩ = false := by simp [World.frozen?, H3.out.2]
            have hc2 : ∃ v, w3.cell? ⟨w1.heap.size, 2 + xs.length, none⟩ = some v := by
              have : 2 + xs.length < (netC (fourR xs)).length := by rw [netC_len _ HX.out.len]; omega
              exact ⟨(netC (fourR xs))[2 + xs.length], by simp [World.cell?, H3.out.2, this]⟩
            obtain ⟨vc, hc2⟩ := hc2
            have hwr : IntKind.u8.wrap (n : Int) = (n : Int) := by rw [IntKind.wrap_u8]; omega
            have HN := hid (show Bel w1 (w3.setCell ⟨w1.heap.size, 2 + xs.length, none⟩ (.int .u8 (n : Int))) ∧ (w3.setCell ⟨w1.heap.size, 2 + xs.length, none⟩ (.int .u8 (n : Int))).heap[w1.heap.size]? = some (.cells (netC (fourR (xs ++ [n]))).toArray 25 (0, 0)) ∧ allB ((ps.take (xs ++ [n]).length).map (·.data.toList)) = some (xs ++ [n]) from
              ⟨H3.out.1.setCell (Nat.le_refl _) _, by rw [heap_setCell_same w3 _ _ _ _ _ H3.out.2, List.setIfInBounds_toArray, ← fourR_set xs n hlt]; rfl, by rw [List.length_append]; exact HA.out⟩)
            clear hb3 HG c0 H HA H3
            go_wp2_with fail
            go_roundg (gk - 1)
            case measure => have := Hk.out; omega
            case rel => exact ⟨xs ++ [n], by rw [List.length_append, List.length_singleton]; go_num, by rw [List.length_append, List.length_singleton]; have := Hk.out; omega, HN⟩
      · have hx4 : xs.length = 4 := by omega
        have H3 := hid (show Bel w wr ∧ wr.heap[w1.heap.size]? = some (.cells (netC (fourR xs)).toArray 25 (0, 0)) ∧ wr.heap[w.heap.size]? = some (.cells (netC zeroN).toArray 25 (0, 0)) from ⟨H0.out.1.trans H.out.1, H.out.2.1, H.out.1.heap H0.out.2.1⟩)
        have ho : o = some (fourR xs) := by
          have := H.out.2.2
          rw [hx4, ← h4, List.take_of_length_le (Nat.le_refl _)] at this
          rw [HO4.out, this]
          unfold fourR
          rw [hx4]
          rfl
        subst ho
        have HX4 := hid hx4
        clear H
        have HZ := hid (net_len (fourR xs) (HX.out).len)
        have HT := hid (show wr.there w.heap.size 0 (netC (fourR xs)).toArray.size from there_of (cs := netC zeroN) H3.out.2.2 (by rw [List.size_toArray, netC_len _ (HX.out).len]; decide))
        go_wp2_with (first
          | (refine wpList_load_mid rfl 25 (.tmp 5) rfl w1.heap.size 0 rfl (netC (fourR xs)) _ ?_ Tryz.underlying25 rfl HZ.out ?_; exact range_net H3.out.2.1)
          | (refine wpList_store_mid rfl 25 (.tmp 2) (.tmp 40) rfl w.heap.size 0 (netC (fourR xs)).toArray rfl rfl ?_ (by rw [List.size_toArray]; exact HZ.out) (netC_one _) ?_; exact HT.out))
        have hl2 := run_loadVar_mid (P := Tryz.prog) (wr.setCells w.heap.size 0 (netC (fourR xs))) w.heap.size 0 25 (netC (fourR xs)) _ (World.rangeAt_setCells_same _ _ _ _ (by simpa using HT.out)) Tryz.underlying25 rfl HZ.out
        refine bodyPost_ret (v := .tuple #[netV (fourR xs), .bool true]) (by simp [results, Tryz.results32, asAddr, hl2, netV]) rfl ⟨⟨fourR xs, HX.out, rfl, fun m hm => Option.some.inj hm⟩, Bel.setCells (Nat.le_refl _) _ _ _ H3.out.1⟩
  · have d4 : ((ps.length : Int) != 4) = true := by rw [bne_iff_ne]; omega
    have hn : o = none := by rw [HO.out, List.length_map, if_neg h4]; rfl
    subst hn
    have H3 := hid (show Bel w w2 ∧ w2.heap[w1.heap.size]? = some (.cells (netC (fourR [])).toArray 25 (0, 0)) ∧ w2.heap[w.heap.size]? = some (.cells (netC zeroN).toArray 25 (0, 0)) from ⟨H0.out.1.trans P.out.1, P.out.2, P.out.1.heap H0.out.2.1⟩)
    clear h4
    have HZ := hid (net_len (fourR []) (HF0.out).len)
    have HT := hid (show w2.there w.heap.size 0 (netC (fourR [])).toArray.size from there_of (cs := netC zeroN) H3.out.2.2 (by rw [List.size_toArray, netC_len _ (HF0.out).len]; decide))
    go_wp2_with (first
      | (refine wpList_load_mid rfl 25 (.tmp 5) rfl w1.heap.size 0 rfl (netC (fourR [])) _ ?_ Tryz.underlying25 rfl HZ.out ?_; exact range_net H3.out.2.1)
      | (refine wpList_store_mid rfl 25 (.tmp 2) (.tmp 15) rfl w.heap.size 0 (netC (fourR [])).toArray rfl rfl ?_ (by rw [List.size_toArray]; exact HZ.out) (netC_one _) ?_; exact HT.out))
    have hl2 := run_loadVar_mid (P := Tryz.prog) (w2.setCells w.heap.size 0 (netC (fourR []))) w.heap.size 0 25 (netC (fourR [])) _ (World.rangeAt_setCells_same _ _ _ _ (by simpa using HT.out)) Tryz.underlying25 rfl HZ.out
    refine bodyPost_ret (v := .tuple #[netV (fourR []), .bool false]) (by simp [results, Tryz.results32, asAddr, hl2, netV]) rfl ⟨⟨fourR [], HF0.out, rfl, fun m hm => by cases hm⟩, Bel.setCells (Nat.le_refl _) _ _ _ H3.out.1⟩
end Go.Proofs.YtpmmaickjolimaaGreatDoor.Ci
