/- cidr's List. -/
import Derived.Test.YtpmmaickjolimaaGreatDoorEm
namespace Go.Proofs.YtpmmaickjolimaaGreatDoor.Ci
open Go.RowKit

set_option maxRecDepth 100000 in
theorem clip_run (x : Option Addr) (n c : Nat) (h : n ≤ c) (w : World) : Calls Tryz.prog 43 #[.slice x n c] w fun e w' => e = .returned (.slice x n n) ∧ w' = w := by
  have hs : ∀ W : World, (Instr.sliceAt 29 (.slice x n c) none (some (.int .i64 (n : Int))) (some (.int .i64 (n : Int)))).run Tryz.prog W = .ok (.slice x n n) W := fun W => by
    rw [run_sliceAt_slice W 29 _ _ _ _ (by kernel_rfl), run_slice_hm W 29 _ _ _ (by kernel_rfl) .i64 .i64 _ _ (by omega) (by omega) (by omega), show Tryz.prog.elem 29 = 25 by kernel_rfl, Tryz.sizeOf25]
    simp only [Result.andThen_ok, sliced, Int.toNat_natCast, Nat.sub_zero]
    by_cases h0 : n = 0
    · rw [if_pos h0]
    · rw [if_neg h0]
      cases x with
      | none => rfl
      | some a => simp [Addr.add]
  clear h
  go_enter Tryz.func43, Tryz.ntmps43
  go_wp2_with fail
  go_ret
  exact ⟨rfl, rfl⟩
theorem netrow_cap {w W : World} {x : Option Addr} {k p : Nat} {ns : List Nt} (h : NetRow w W (.slice x k p) ns) : k ≤ p := by
  rcases h.2 with ⟨e, -⟩ | ⟨g, cap, cur, e, hn, -⟩
  · cases e; exact Nat.le_refl _
  · cases e; exact hn
theorem netrow_clip {w W : World} {x : Option Addr} {k p : Nat} {ns : List Nt} (h : NetRow w W (.slice x k p) ns) : NetRow w W (.slice x k k) ns := by
  refine ⟨h.1, ?_⟩
  rcases h.2 with ⟨e, hn⟩ | ⟨g, cap, cur, e, hn, hm, rest⟩
  · cases e; exact .inl ⟨rfl, hn⟩
  · cases e; exact .inr ⟨g, _, cur, rfl, Nat.le_refl _, Nat.le_trans hn hm, rest⟩
set_option maxHeartbeats 8000000 in
set_option maxRecDepth 100000 in
theorem list_run (s : ByteArray) (w : World) (hw : Lay w) (hs : s.size < 4294967281) :
    Calls Tryz.prog 14 #[.string s] w (ListPost s w) := by
  have HF := (show Hid (Calls Tryz.prog 40 #[.string s, .func (.func 41) #[] #[]] w fun e w' => ∃ v ps, e = .returned v ∧ ps = wordsQ s ∧ Txts w w' v ps ∧ Bel w w') from (fields_run s w (by omega)).mono fun e w' ⟨v, h1, h2, h3⟩ => ⟨v, _, h1, rfl, h2, h3⟩)
  have HW := hid hw
  have HLW := hid (fun (ps : List ByteArray) (h : ps = wordsQ s) => show ps.length ≤ 4294967297 by rw [h]; have := words_len s; omega)
  have HSZ := hid (fun y (h : y ∈ wordsQ s) => show y.size < 4294967281 by have := words_size s y h; omega)
  go_enter Tryz.func14, Tryz.ntmps14
  go_wp2_with fail
  refine HF.out.mono ?_
  rintro e w1 ⟨v, ps, rfl, hps, hT, hb1⟩
  obtain ⟨x, p, rfl⟩ := hT.len
  have H0 := hid (And.intro hb1 hT)
  have HPS := hid hps
  have hpl : ps.length ≤ 4294967297 := HLW.out ps hps
  clear hb1 hT hps HF
  by_cases h200 : 200 < ps.length
  · have d200 : decide ((200 : Int) < (ps.length : Int)) = true := decide_eq_true (by omega)
    have HN := hid (show ListPost s w (.returned (.tuple #[.slice none 0 0, .int .i64 71])) w1 from ⟨.slice none 0 0, [], 71, rfl, netrow_nil w w1, by unfold listR; rw [← HPS.out, if_pos h200], H0.out.1⟩)
    clear h200
    go_wp2_with fail
    go_ret2
    exact HN.out
  · have d200 : decide ((200 : Int) < (ps.length : Int)) = false := decide_eq_false (by omega)
    have hl200 : ps.length ≤ 200 := by omega
    have HLR := hid (show listR s = listM (allP ps) from by unfold listR; rw [← HPS.out, if_neg h200])
    have H1 := hid (show Bel w1 w1 ∧ w1.ownsRow w1.heap.size 25 18 (.slice none 0 0) 0 (([] : List Nt).flatMap netC) ∧ allP (ps.take 0) = some ([] : List Nt) from ⟨Bel.refl w1, World.ownsRow_nil _ _ _ _, rfl⟩)
    clear h200
    go_wp2_with fail
    go_loopg [5, 17] ps.length (fun gg v5 v17 wr => ∃ (ns : List Nt) (k : Nat) (x5 : Option Addr) (p5 : Nat), v5 = .slice x5 k p5 ∧ v17 = .int .i64 k ∧ k + gg = ps.length ∧ Hid (Bel w1 wr ∧ wr.ownsRow w1.heap.size 25 18 (.slice x5 k p5) k (ns.flatMap netC) ∧ allP (ps.take k) = some ns))
    case atStart => exact ⟨[], 0, none, 0, rfl, rfl, by omega, H1⟩
    case round =>
      clear H1
      obtain ⟨ns, k, x5, p5, rfl, rfl, hk, H⟩ := hrel
      have Hk := hid hk
      have hks : k ≤ ps.length := by omega
      clear hk
      by_cases hlt : k < ps.length
      · obtain ⟨g, hg, c0⟩ := (H0.out.2.next H.out.1).at_ k hlt
        subst hg
        have HP := (show Hid (∀ W, Lay W → Calls Tryz.prog 12 #[.string ps[k]] W (AddrPost (parseQ ps[k].data.toList) W)) from fun W hW => parse_run ps[k] W hW (HSZ.out _ (by rw [← HPS.out]; exact List.getElem_mem hlt)))
        have HM := hid (show ps[k] ∈ ps from List.getElem_mem hlt)
        have HTk := hid (show ps.take (k + 1) = ps.take k ++ [ps[k]] from List.take_succ_eq_append_getElem hlt)
        generalize ps[k] = y at c0 HP HM HTk
        cases hq : parseQ y.data.toList with
        | none =>
          rw [hq] at HP
          have HP2 := (show Hid (∀ W, Lay W → Calls Tryz.prog 12 #[.string y] W fun e w' => e = .returned (.tuple #[.agg (netC zeroN).toArray, .int .i64 70]) ∧ Bel W w') from HP)
          have hbad : allP ps = none := allP_bad _ _ HM.out hq
          have HLR2 := hid (show listR s = ([], 70) by simp [HLR.out, hbad, listM])
          have HZ0 := hid (net_len zeroN zeroN_fits.len)
          clear hq HP hbad HLR
          go_wp2_with fail
          refine (HP2.out _ (HW.out.next (H0.out.1.trans H.out.1))).mono ?_
          rintro e w2 ⟨rfl, hb2⟩
          have P := hid (put_net w2 zeroN zeroN_fits.len)
          have H2 := hid (H0.out.1.trans (H.out.1.trans hb2))
          clear hb2 H HP2 c0
          go_upto_region 9 with (first
            | (refine wpList_store_mid rfl 25 (.tmp 8) (.tmp 24) rfl w2.heap.size 0 (netC zeroN).toArray rfl rfl ?_ (by rw [List.size_toArray]; exact HZ0.out) (netC_one _) ?_; exact there_net w2 zeroN zeroN_fits.len))
          generalize ((w2.alloc (.cells #[.bool false, .int .i64 0, .int .u8 0, .int .u8 0, .int .u8 0, .int .u8 0, .int .u8 0, .int .u8 0, .int .u8 0, .int .u8 0, .int .u8 0, .int .u8 0, .int .u8 0, .int .u8 0, .int .u8 0, .int .u8 0, .int .u8 0, .int .u8 0] 25)).setCells w2.heap.size 0 (netC zeroN)) = w3 at P ⊢
          have HN := hid (show ListPost s w (.returned (.tuple #[.slice none 0 0, .int .i64 70])) w3 from ⟨.slice none 0 0, [], 70, rfl, netrow_nil w w3, HLR2.out, H2.out.trans P.out.1⟩)
          go_wp2_with fail
          go_ret2
          exact HN.out
        | some n =>
          rw [hq] at HP
          have HP2 := (show Hid (∀ W, Lay W → Calls Tryz.prog 12 #[.string y] W fun e w' => e = .returned (.tuple #[.agg (netC n).toArray, .int .i64 0]) ∧ Bel W w') from HP)
          have HNF := hid (parse_fits hq)
          have HA := hid (show allP (ps.take (k + 1)) = some (ns ++ [n]) by rw [HTk.out]; exact allP_snoc _ _ _ _ H.out.2.2 hq)
          have HZ0 := hid (net_len n HNF.out.len)
          have HFO := hid (fold_net n HNF.out.len)
          have hnl : (netC n).length = 18 := netC_len _ HNF.out.len
          clear hq HP HM HTk
          go_wp2_with fail
          refine (HP2.out _ (HW.out.next (H0.out.1.trans H.out.1))).mono ?_
          rintro e w2 ⟨rfl, hb2⟩
          have P := hid (put_net w2 n HNF.out.len)
          have H2 := hid (And.intro (H.out.1.trans hb2) (own_bel H.out.2.1 hb2))
          clear hb2 H HP2 c0
          go_upto_region 9 with (first
            | (refine wpList_store_mid rfl 25 (.tmp 8) (.tmp 24) rfl w2.heap.size 0 (netC n).toArray rfl rfl ?_ (by rw [List.size_toArray]; exact HZ0.out) (netC_one _) ?_; exact there_net w2 n HNF.out.len))
          generalize hw3 : ((w2.alloc (.cells #[.bool false, .int .i64 0, .int .u8 0, .int .u8 0, .int .u8 0, .int .u8 0, .int .u8 0, .int .u8 0, .int .u8 0, .int .u8 0, .int .u8 0, .int .u8 0, .int .u8 0, .int .u8 0, .int .u8 0, .int .u8 0, .int .u8 0, .int .u8 0] 25)).setCells w2.heap.size 0 (netC n)) = w3 at P ⊢
          have H3 := hid (show (Bel w1 w3 ∧ w3.ownsRow w1.heap.size 25 18 (.slice x5 k p5) k (ns.flatMap netC)) ∧ w3.heap[w2.heap.size]? = some (.cells (netC n).toArray 25 (0, 0)) from ⟨⟨H2.out.1.trans P.out.1, own_bel H2.out.2 P.out.1⟩, P.out.2⟩)
          clear P H2 hw3
          generalize w2.heap.size = B at H3 ⊢
          go_wp2_with (first
            | (refine wpList_load_mid rfl 25 (.tmp 8) rfl B 0 rfl (netC n) _ ?_ Tryz.underlying25 rfl HZ0.out ?_; exact range_net H3.out.2)
            | (at_builtin; go_loud (rw [HFO.out]); go_loud (refine wpList_push (a0 := w1) (W := w3) rfl (.tmp 29) (.tmp 31) 29 rfl 25 (.agg (netC zeroN).toArray) 18 32 Tryz.underlying29 net_infos rfl (by decide) (.slice x5 k p5) k (ns.flatMap netC) rfl H3.out.1.2 H3.out.1.1 (netC n).toArray rfl (by rw [List.size_toArray]; exact netC_len _ HNF.out.len) (by have h1 := netC_one n; rw [List.all_toArray, List.all_eq_true] at h1; exact h1) (by unfold maxLen; omega) (by omega) ?_); intro x' p' w' hown hb))
          have HN := hid (show Bel w1 w' ∧ w'.ownsRow w1.heap.size 25 18 (.slice x' (k + 1) p') (k + 1) ((ns ++ [n]).flatMap netC) ∧ allP (ps.take (k + 1)) = some (ns ++ [n]) from ⟨hb, (by rw [List.flatMap_append, List.flatMap_singleton]; exact hown), HA.out⟩)
          clear H3 hown hb HA
          go_wp2_with fail
          go_roundg (gk - 1)
          case measure => have := Hk.out; omega
          case rel => exact ⟨ns ++ [n], k + 1, x', p', rfl, by go_num, by have := Hk.out; omega, HN⟩
      · obtain rfl : k = ps.length := by omega
        have hall := H.out.2.2
        rw [List.take_of_length_le (Nat.le_refl _)] at hall
        have HLR2 := hid (show listR s = (ns, 0) by simp [HLR.out, hall, listM])
        have HRW := hid (netrow_own (w := w) (W := wr) (w1 := w1) (allP_fits _ _ hall) (allP_len _ _ hall) H.out.2.1 H0.out.1.size)
        clear hall HLR
        have hpl2 : ps.length ≤ 9223372036854775807 := by omega
        have HC := (show Hid (∀ W c, ps.length ≤ c → Calls Tryz.prog 43 #[.slice x5 ps.length c] W fun e w' => e = .returned (.slice x5 ps.length ps.length) ∧ w' = W) from fun W c hc => clip_run x5 ps.length c hc W)
        have hcap : ps.length ≤ p5 := netrow_cap HRW.out
        go_wp2_with fail
        refine (HC.out _ _ hcap).mono ?_
        rintro e w2 ⟨rfl, rfl⟩
        go_wp2_with fail
        go_ret2
        exact ⟨_, ns, 0, rfl, netrow_clip HRW.out, HLR2.out, H0.out.1.trans H.out.1⟩
end Go.Proofs.YtpmmaickjolimaaGreatDoor.Ci
