/- Lists of ranges: the model; the reference's List. -/
import Derived.Test.YtpmmaickjolimaaGreatDoorEi
import Derived.Test.YtpmmaickjolimaaGreatDoorEl
namespace Go.Proofs.YtpmmaickjolimaaGreatDoor.Ci
open Go.RowKit

theorem parse_fits {s : List UInt8} {n : Nt} (h : parseQ s = some n) : n.Fits := by
  unfold parseQ at h
  obtain ⟨m, hm, h⟩ := Option.bind_eq_some_iff.1 h
  have hf := addrQ_fits hm
  have key : ∀ k : Nt, onlyRight k = some n → k = n := fun k hk => by
    unfold onlyRight at hk
    split at hk
    · exact Option.some.inj hk
    · cases hk
  split at h
  · obtain ⟨k, hk, h⟩ := Option.bind_eq_some_iff.1 h
    obtain rfl := key _ h
    have := numL_lt hk
    exact ⟨by show (_ : Int) ≤ (k : Int); omega, by show (k : Int) ≤ _; omega, hf.1.len, hf.1.by_⟩
  · obtain rfl := key _ h
    exact hf.1
def allP : List ByteArray → Option (List Nt)
  | [] => some []
  | p :: ps => match parseQ p.data.toList, allP ps with
    | some v, some vs => some (v :: vs)
    | _, _ => none
theorem allP_snoc : ∀ (l : List ByteArray) (gs : List Nt) (p : ByteArray) (g : Nt), allP l = some gs → parseQ p.data.toList = some g → allP (l ++ [p]) = some (gs ++ [g])
  | [], gs, p, g, h, hp => by
    cases h
    simp [allP, hp]
  | q :: l, gs, p, g, h, hp => by
    unfold allP at h
    cases h1 : parseQ q.data.toList with
    | none => rw [h1] at h; cases h
    | some v =>
      cases h2 : allP l with
      | none => rw [h1, h2] at h; cases h
      | some vs =>
        rw [h1, h2] at h
        cases h
        show allP (q :: (l ++ [p])) = _
        unfold allP
        rw [h1, allP_snoc l vs p g h2 hp]
        rfl
theorem allP_bad : ∀ (l : List ByteArray) (p : ByteArray), p ∈ l → parseQ p.data.toList = none → allP l = none
  | [], _, h, _ => by cases h
  | q :: l, p, h, hp => by
    unfold allP
    rcases List.mem_cons.1 h with rfl | h
    · rw [hp]
    · rw [allP_bad l p h hp]
      cases parseQ q.data.toList <;> rfl
theorem allP_fits : ∀ (l : List ByteArray) (ns : List Nt), allP l = some ns → ∀ n ∈ ns, n.Fits
  | [], ns, h, n, hn => by cases h; cases hn
  | q :: l, ns, h, n, hn => by
    unfold allP at h
    cases h1 : parseQ q.data.toList with
    | none => rw [h1] at h; cases h
    | some v =>
      cases h2 : allP l with
      | none => rw [h1, h2] at h; cases h
      | some vs =>
        rw [h1, h2] at h
        cases h
        rcases List.mem_cons.1 hn with rfl | hn
        · exact parse_fits h1
        · exact allP_fits l vs h2 n hn
theorem allP_len : ∀ (l : List ByteArray) (ns : List Nt), allP l = some ns → ns.length = l.length
  | [], ns, h => by cases h; rfl
  | q :: l, ns, h => by
    unfold allP at h
    cases h1 : parseQ q.data.toList with
    | none => rw [h1] at h; cases h
    | some v =>
      cases h2 : allP l with
      | none => rw [h1, h2] at h; cases h
      | some vs =>
        rw [h1, h2] at h
        cases h
        rw [List.length_cons, List.length_cons, allP_len l vs h2]
/-- What a list tells. -/
def listM (o : Option (List Nt)) : List Nt × Int := match o with
  | none => ([], 70)
  | some ns => (ns, 0)
def listR (s : ByteArray) : List Nt × Int := if 200 < (wordsQ s).length then ([], 71) else listM (allP (wordsQ s))
theorem words_size (s : ByteArray) : ∀ y ∈ wordsQ s, y.size ≤ s.size := by
  intro y hy
  unfold wordsQ Lib.goFieldsP at hy
  obtain ⟨x, -, rfl⟩ := List.mem_map.1 hy
  rw [ByteArray.size_extract]
  omega
theorem words_len (s : ByteArray) : (wordsQ s).length ≤ s.size + 1 := by
  have hle := (wSt_le s.data.toList s.size).1
  cases h : (wSt s.data.toList s.size).1 with
  | none => rw [wordsQ_none s h, List.length_map]; omega
  | some a => rw [wordsQ_some s a h, List.length_append, List.length_map, List.length_singleton]; omega
/-- A row of ranges of one's own, which may be rewritten. -/
def NetRow (w W : World) (v : Value) (ns : List Nt) : Prop := (∀ n ∈ ns, n.Fits) ∧ (v = .slice none 0 0 ∧ ns = [] ∨ ∃ g cap cur, v = .slice (some ⟨g, 0, none⟩) ns.length cap ∧ ns.length ≤ cap ∧ cap ≤ maxLen ∧ w.heap.size ≤ g ∧ W.heap[g]? = some (.cells cur 25 (0, 0)) ∧ cur.toList.take (ns.length * 18) = ns.flatMap netC ∧ ns.length * 18 ≤ cur.size)
theorem netrow_nil (w W : World) : NetRow w W (.slice none 0 0) [] := ⟨fun n h => (by cases h), .inl ⟨rfl, rfl⟩⟩
theorem netrow_own {w W w1 : World} {v : Value} {ns : List Nt} {k : Nat} (hf : ∀ n ∈ ns, n.Fits) (hk : ns.length = k) (h : W.ownsRow w1.heap.size 25 18 v k (ns.flatMap netC)) (hb : w.heap.size ≤ w1.heap.size) : NetRow w W v ns := by
  subst hk
  refine ⟨hf, ?_⟩
  rcases h.2 with ⟨e, h0⟩ | ⟨g, cap, cur, e, hg, hh, hn, hc, hcs, ht⟩
  · exact .inl ⟨e, List.length_eq_zero_iff.1 h0⟩
  · exact .inr ⟨g, cap, cur, e, hn, hc, Nat.le_trans hb hg, hh, ht, by rw [hcs]; exact Nat.mul_le_mul_right _ hn⟩
theorem net_infos : (Tryz.prog.info? 25).map (fun i => (i.zero, i.size, i.bytes)) = some (some (.agg (netC zeroN).toArray), 18, 32) := by kernel_rfl
theorem fold_set : ∀ (l pre z : List Value), z.length = l.length → List.foldl (fun (cs : Array Value) (x : Value × Nat) => cs.setIfInBounds x.2 x.1) (pre ++ z).toArray (l.zipIdx pre.length) = (pre ++ l).toArray
  | [], pre, z, h => by
    obtain rfl := List.length_eq_zero_iff.1 h
    rfl
  | v :: l, pre, [], h => by cases h
  | v :: l, pre, u :: z, h => by
    rw [List.zipIdx_cons, List.foldl_cons]
    show List.foldl _ ((pre ++ u :: z).toArray.setIfInBounds pre.length v) _ = _
    rw [List.setIfInBounds_toArray, List.set_append_right _ _ (Nat.le_refl _), Nat.sub_self, List.set_cons_zero]
    have := fold_set l (pre ++ [v]) z (by simpa using h)
    rw [List.length_append, List.length_singleton, List.append_assoc, List.append_assoc] at this
    exact this
theorem fold_net (n : Nt) (h : n.addr.length = 16) : List.foldl (fun (cs : Array Value) (x : Value × Nat) => cs.setIfInBounds x.2 x.1) #[.bool false, .int .i64 0, .int .u8 0, .int .u8 0, .int .u8 0, .int .u8 0, .int .u8 0, .int .u8 0, .int .u8 0, .int .u8 0, .int .u8 0, .int .u8 0, .int .u8 0, .int .u8 0, .int .u8 0, .int .u8 0, .int .u8 0, .int .u8 0] (netC n).zipIdx = (netC n).toArray :=
  fold_set (netC n) [] (#[.bool false, .int .i64 0, .int .u8 0, .int .u8 0, .int .u8 0, .int .u8 0, .int .u8 0, .int .u8 0, .int .u8 0, .int .u8 0, .int .u8 0, .int .u8 0, .int .u8 0, .int .u8 0, .int .u8 0, .int .u8 0, .int .u8 0, .int .u8 0] : Array Value).toList (by rw [netC_len n h]; rfl)
def ListPost (s : ByteArray) (w : World) (e : Ending) (w' : World) : Prop := ∃ v ns err, e = .returned (.tuple #[v, .int .i64 err]) ∧ NetRow w w' v ns ∧ listR s = (ns, err) ∧ Bel w w'
set_option maxHeartbeats 8000000 in
set_option maxRecDepth 100000 in
theorem rlist_run (s : ByteArray) (w : World) (hs : s.size < 4294967281) :
    Calls Tryz.prog 15 #[.string s] w (ListPost s w) := by
  have HF := (show Hid (Calls Tryz.prog 44 #[.string s] w fun e w' => ∃ v ps, e = .returned v ∧ ps = wordsQ s ∧ Txts w w' v ps ∧ Bel w w') from (rwords_run s w hs).mono fun e w' ⟨v, h1, h2, h3⟩ => ⟨v, _, h1, rfl, h2, h3⟩)
  have HLW := hid (fun (ps : List ByteArray) (h : ps = wordsQ s) => show ps.length ≤ 4294967297 by rw [h]; have := words_len s; omega)
  have HSZ := hid (fun y (h : y ∈ wordsQ s) => show y.size < 4294967281 by have := words_size s y h; omega)
  go_enter Tryz.func15, Tryz.ntmps15
  go_wp2_with fail
  refine HF.out.mono ?_
  rintro e w1 ⟨v, ps, rfl, hps, hT, hb1⟩
  obtain ⟨x, p, rfl⟩ := hT.len
  have H0 := hid (And.intro hb1 hT)
  have HPS := hid hps
  have hpl : ps.length ≤ 4294967297 := HLW.out ps hps
  clear hb1 hT hps HF
  by_cases h200 : 200 < ps.length
  · have d200 : decide ((200 : Int) < (ps.length : Int)) = true := decide_eq_true (by omega)
    have HN := hid (show ListPost s w (.returned (.tuple #[.slice none 0 0, .int .i64 71])) w1 from ⟨.slice none 0 0, [], 71, rfl, netrow_nil w w1, by unfold listR; rw [← HPS.out, if_pos h200], H0.out.1⟩)
    clear h200
    go_wp2_with fail
    go_ret2
    exact HN.out
  · have d200 : decide ((200 : Int) < (ps.length : Int)) = false := decide_eq_false (by omega)
    have hl200 : ps.length ≤ 200 := by omega
    have HLR := hid (show listR s = listM (allP ps) from by unfold listR; rw [← HPS.out, if_neg h200])
    have H1 := hid (show Bel w1 w1 ∧ w1.ownsRow w1.heap.size 25 18 (.slice none 0 0) 0 (([] : List Nt).flatMap netC) ∧ allP (ps.take 0) = some ([] : List Nt) from ⟨Bel.refl w1, World.ownsRow_nil _ _ _ _, rfl⟩)
    clear h200
    go_wp2_with fail
    go_loopg [5, 6] ps.length (fun gg v5 v6 wr => ∃ (ns : List Nt) (k : Nat) (x5 : Option Addr) (p5 : Nat), v5 = .slice x5 k p5 ∧ v6 = .int .i64 k ∧ k + gg = ps.length ∧ Hid (Bel w1 wr ∧ wr.ownsRow w1.heap.size 25 18 (.slice x5 k p5) k (ns.flatMap netC) ∧ allP (ps.take k) = some ns))
    case atStart => exact ⟨[], 0, none, 0, rfl, rfl, by omega, H1⟩
    case round =>
      clear H1
      obtain ⟨ns, k, x5, p5, rfl, rfl, hk, H⟩ := hrel
      have Hk := hid hk
      have hks : k ≤ ps.length := by omega
      clear hk
      by_cases hlt : k < ps.length
      · obtain ⟨g, hg, c0⟩ := (H0.out.2.next H.out.1).at_ k hlt
        subst hg
        have HP := (show Hid (∀ W, Calls Tryz.prog 13 #[.string ps[k]] W (AddrPost (parseQ ps[k].data.toList) W)) from fun W => rparse_run ps[k] W (HSZ.out _ (by rw [← HPS.out]; exact List.getElem_mem hlt)))
        have HM := hid (show ps[k] ∈ ps from List.getElem_mem hlt)
        have HTk := hid (show ps.take (k + 1) = ps.take k ++ [ps[k]] from List.take_succ_eq_append_getElem hlt)
        generalize ps[k] = y at c0 HP HM HTk
        cases hq : parseQ y.data.toList with
        | none =>
          rw [hq] at HP
          have HP2 := (show Hid (∀ W, Calls Tryz.prog 13 #[.string y] W fun e w' => e = .returned (.tuple #[.agg (netC zeroN).toArray, .int .i64 70]) ∧ Bel W w') from HP)
          have hbad : allP ps = none := allP_bad _ _ HM.out hq
          have HLR2 := hid (show listR s = ([], 70) by simp [HLR.out, hbad, listM])
          have HZ0 := hid (net_len zeroN zeroN_fits.len)
          clear hq HP hbad HLR
          go_wp2_with fail
          refine (HP2.out _).mono ?_
          rintro e w2 ⟨rfl, hb2⟩
          have P := hid (put_net w2 zeroN zeroN_fits.len)
          have H2 := hid (H0.out.1.trans (H.out.1.trans hb2))
          clear hb2 H HP2 c0
          go_upto_region 9 with (first
            | (refine wpList_store_mid rfl 25 (.tmp 7) (.tmp 26) rfl w2.heap.size 0 (netC zeroN).toArray rfl rfl ?_ (by rw [List.size_toArray]; exact HZ0.out) (netC_one _) ?_; exact there_net w2 zeroN zeroN_fits.len))
          generalize ((w2.alloc (.cells #[.bool false, .int .i64 0, .int .u8 0, .int .u8 0, .int .u8 0, .int .u8 0, .int .u8 0, .int .u8 0, .int .u8 0, .int .u8 0, .int .u8 0, .int .u8 0, .int .u8 0, .int .u8 0, .int .u8 0, .int .u8 0, .int .u8 0, .int .u8 0] 25)).setCells w2.heap.size 0 (netC zeroN)) = w3 at P ⊢
          have HN := hid (show ListPost s w (.returned (.tuple #[.slice none 0 0, .int .i64 70])) w3 from ⟨.slice none 0 0, [], 70, rfl, netrow_nil w w3, HLR2.out, H2.out.trans P.out.1⟩)
          go_wp2_with fail
          go_ret2
          exact HN.out
        | some n =>
          rw [hq] at HP
          have HP2 := (show Hid (∀ W, Calls Tryz.prog 13 #[.string y] W fun e w' => e = .returned (.tuple #[.agg (netC n).toArray, .int .i64 0]) ∧ Bel W w') from HP)
          have HNF := hid (parse_fits hq)
          have HA := hid (show allP (ps.take (k + 1)) = some (ns ++ [n]) by rw [HTk.out]; exact allP_snoc _ _ _ _ H.out.2.2 hq)
          have HZ0 := hid (net_len n HNF.out.len)
          have HFO := hid (fold_net n HNF.out.len)
          have hnl : (netC n).length = 18 := netC_len _ HNF.out.len
          clear hq HP HM HTk
          go_wp2_with fail
          refine (HP2.out _).mono ?_
          rintro e w2 ⟨rfl, hb2⟩
          have P := hid (put_net w2 n HNF.out.len)
          have H2 := hid (And.intro (H.out.1.trans hb2) (own_bel H.out.2.1 hb2))
          clear hb2 H HP2 c0
          go_upto_region 9 with (first
            | (refine wpList_store_mid rfl 25 (.tmp 7) (.tmp 26) rfl w2.heap.size 0 (netC n).toArray rfl rfl ?_ (by rw [List.size_toArray]; exact HZ0.out) (netC_one _) ?_; exact there_net w2 n HNF.out.len))
          generalize hw3 : ((w2.alloc (.cells #[.bool false, .int .i64 0, .int .u8 0, .int .u8 0, .int .u8 0, .int .u8 0, .int .u8 0, .int .u8 0, .int .u8 0, .int .u8 0, .int .u8 0, .int .u8 0, .int .u8 0, .int .u8 0, .int .u8 0, .int .u8 0, .int .u8 0, .int .u8 0] 25)).setCells w2.heap.size 0 (netC n)) = w3 at P ⊢
          have H3 := hid (show (Bel w1 w3 ∧ w3.ownsRow w1.heap.size 25 18 (.slice x5 k p5) k (ns.flatMap netC)) ∧ w3.heap[w2.heap.size]? = some (.cells (netC n).toArray 25 (0, 0)) from ⟨⟨H2.out.1.trans P.out.1, own_bel H2.out.2 P.out.1⟩, P.out.2⟩)
          clear P H2 hw3
          generalize w2.heap.size = B at H3 ⊢
          go_wp2_with (first
            | (refine wpList_load_mid rfl 25 (.tmp 7) rfl B 0 rfl (netC n) _ ?_ Tryz.underlying25 rfl HZ0.out ?_; exact range_net H3.out.2)
            | (at_builtin; go_loud (rw [HFO.out]); go_loud (refine wpList_push (a0 := w1) (W := w3) rfl (.tmp 31) (.tmp 33) 29 rfl 25 (.agg (netC zeroN).toArray) 18 32 Tryz.underlying29 net_infos rfl (by decide) (.slice x5 k p5) k (ns.flatMap netC) rfl H3.out.1.2 H3.out.1.1 (netC n).toArray rfl (by rw [List.size_toArray]; exact netC_len _ HNF.out.len) (by have h1 := netC_one n; rw [List.all_toArray, List.all_eq_true] at h1; exact h1) (by unfold maxLen; omega) (by omega) ?_); intro x' p' w' hown hb))
          have HN := hid (show Bel w1 w' ∧ w'.ownsRow w1.heap.size 25 18 (.slice x' (k + 1) p') (k + 1) ((ns ++ [n]).flatMap netC) ∧ allP (ps.take (k + 1)) = some (ns ++ [n]) from ⟨hb, (by rw [List.flatMap_append, List.flatMap_singleton]; exact hown), HA.out⟩)
          clear H3 hown hb HA
          go_wp2_with fail
          go_roundg (gk - 1)
          case measure => have := Hk.out; omega
          case rel => exact ⟨ns ++ [n], k + 1, x', p', rfl, by go_num, by have := Hk.out; omega, HN⟩
      · obtain rfl : k = ps.length := by omega
        have hall := H.out.2.2
        rw [List.take_of_length_le (Nat.le_refl _)] at hall
        have HLR2 := hid (show listR s = (ns, 0) by simp [HLR.out, hall, listM])
        have HRW := hid (netrow_own (w := w) (W := wr) (w1 := w1) (allP_fits _ _ hall) (allP_len _ _ hall) H.out.2.1 H0.out.1.size)
        clear hall HLR
        go_wp2_with fail
        go_ret2
        exact ⟨_, ns, 0, rfl, HRW.out, HLR2.out, H0.out.1.trans H.out.1⟩
end Go.Proofs.YtpmmaickjolimaaGreatDoor.Ci
