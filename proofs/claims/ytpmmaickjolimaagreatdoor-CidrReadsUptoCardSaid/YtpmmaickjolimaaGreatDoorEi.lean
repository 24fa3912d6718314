/- The reference's Parse. -/
import Derived.Test.YtpmmaickjolimaaGreatDoorEh
import Derived.Test.YtpmmaickjolimaaGreatDoorDa
namespace Go.Proofs.YtpmmaickjolimaaGreatDoor.Ci
open Go.RowKit

theorem splitL_size (c : UInt8) : ∀ l, ∀ p ∈ splitL c l, p.length ≤ l.length
  | [], p, h => by
    simp only [splitL, List.mem_singleton] at h
    subst h; simp
  | b :: l, p, h => by
    have ih := splitL_size c l
    unfold splitL at h
    split at h
    · rcases List.mem_cons.1 h with rfl | h
      · simp
      · have := ih p h; simp only [List.length_cons]; omega
    · split at h
      · rename_i q ps e
        rw [e] at ih
        rcases List.mem_cons.1 h with rfl | h
        · have := ih q (List.mem_cons_self ..); simp only [List.length_cons]; omega
        · have := ih p (List.mem_cons_of_mem _ h); simp only [List.length_cons]; omega
      · rename_i e; exact absurd e (splitL_ne c l)
def parseR (ps : List (List UInt8)) : Option Nt := match ps with
  | [a] => (addrQ a).bind onlyRight
  | [a, b] => (addrQ a).bind fun n => (numL b).bind fun k => onlyRight { n with bits := k }
  | _ => none
theorem num_not (l : List UInt8) (h : 47 ∈ l) : numL l = none := by
  unfold numL
  rw [if_neg]
  intro f
  have := List.all_eq_true.1 f.2.2.2 47 h
  cases this
theorem parseR_eq (l : List UInt8) : parseR (splitL 47 l) = parseQ l := by
  unfold parseQ
  rcases split_at 47 l with f | ⟨p, r, rfl, f⟩
  · rw [splitL_none 47 l f]
    have hi := index_one_none 47 l f
    unfold Lib.cut
    rw [hi, if_neg (by decide)]
    rfl
  · rw [splitL_app 47 p r f]
    have hi := index_one_some 47 p r f
    unfold Lib.cut
    rw [hi, if_pos (by omega)]
    have e1 : (p ++ 47 :: r).take (p.length : Int).toNat = p := by simp
    have e2 : (p ++ 47 :: r).drop ((p.length : Int).toNat + [(47 : UInt8)].length) = r := by
      rw [show (p.length : Int).toNat + [(47 : UInt8)].length = p.length + 1 from rfl, List.drop_append, List.drop_of_length_le (by omega), (by omega : p.length + 1 - p.length = 1)]
      rfl
    rw [e1, e2]
    by_cases h : 47 ∈ r
    · have hn := num_not r h
      rw [hn]
      have hl : 2 ≤ (splitL 47 r).length := by
        rw [splitL_len]
        have : 0 < r.count 47 := List.count_pos_iff.2 h
        omega
      cases hs : splitL 47 r with
      | nil => rw [hs] at hl; cases hl
      | cons a t =>
        cases t with
        | nil => rw [hs] at hl; simp at hl
        | cons b t =>
          show (none : Option Nt) = _
          cases addrQ p <;> rfl
    · rw [splitL_none 47 r h]
      rfl
theorem parseR_bad (a : List UInt8) (t : List (List UInt8)) (h : addrQ a = none) : parseR (a :: t) = none := by
  cases t with
  | nil => show (addrQ a).bind onlyRight = none; rw [h]; rfl
  | cons b t =>
    cases t with
    | nil => show (addrQ a).bind _ = none; rw [h]; rfl
    | cons c t => rfl
set_option maxHeartbeats 4000000 in
set_option maxRecDepth 100000 in
theorem rparse_run (s : ByteArray) (w : World) (hs : s.size < 4294967281) :
    Calls Tryz.prog 13 #[.string s] w (AddrPost (parseQ s.data.toList) w) := by
  have HS := (show Hid (∀ W, Calls Tryz.prog 37 #[.string s, .int .u8 47] W (SplitPost 47 s W)) from fun W => rsplit_run s 47 W hs)
  rw [← parseR_eq]
  have hsz : ∀ p : ByteArray, p.data.toList ∈ splitL 47 s.data.toList → p.size < 4294967281 := fun p hp => by
    have := splitL_size 47 s.data.toList _ hp
    rw [← Lib.size_eq, ← Lib.size_eq] at this
    omega
  have HSZ := hid hsz
  generalize hoz : parseR (splitL 47 s.data.toList) = o
  have HO := hid hoz
  clear hoz hsz
  go_enter Tryz.func13, Tryz.ntmps13
  go_upto_region 1 with (fail)
  have HE := hid (show Bel w (w.alloc (.cells #[.bool false, .int .i64 0, .int .u8 0, .int .u8 0, .int .u8 0, .int .u8 0, .int .u8 0, .int .u8 0, .int .u8 0, .int .u8 0, .int .u8 0, .int .u8 0, .int .u8 0, .int .u8 0, .int .u8 0, .int .u8 0, .int .u8 0, .int .u8 0] 25)) ∧ (w.alloc (.cells #[.bool false, .int .i64 0, .int .u8 0, .int .u8 0, .int .u8 0, .int .u8 0, .int .u8 0, .int .u8 0, .int .u8 0, .int .u8 0, .int .u8 0, .int .u8 0, .int .u8 0, .int .u8 0, .int .u8 0, .int .u8 0, .int .u8 0, .int .u8 0] 25)).heap[w.heap.size]? = some (.cells (netC zeroN).toArray 25 (0, 0)) from ⟨(Bel.refl w).alloc _, heap_alloc_new w _⟩)
  generalize (w.alloc (.cells #[.bool false, .int .i64 0, .int .u8 0, .int .u8 0, .int .u8 0, .int .u8 0, .int .u8 0, .int .u8 0, .int .u8 0, .int .u8 0, .int .u8 0, .int .u8 0, .int .u8 0, .int .u8 0, .int .u8 0, .int .u8 0, .int .u8 0, .int .u8 0] 25)) = e0 at HE ⊢
  go_wp2_with fail
  refine (HS.out _).mono ?_
  rintro e w1 ⟨v, ps, rfl, hT, hps, hb1⟩
  rw [← hps] at HO HSZ
  obtain ⟨g, p, rfl, hl1, hl2⟩ := split_row hT hps
  have H0 := hid (And.intro (HE.out.1.trans hb1) (And.intro (hb1.heap HE.out.2) hT))
  clear hb1 hT hps HS HE
  obtain ⟨p0, t0, rfl⟩ : ∃ p0 t0, ps = p0 :: t0 := by
    cases ps with
    | nil => cases hl1
    | cons p0 t0 => exact ⟨p0, t0, rfl⟩
  have c0 : w1.cell? ⟨g, 0, none⟩ = some (.string p0) := H0.out.2.2.cell 0 (by simp)
  have HA := (show Hid (∀ W, Calls Tryz.prog 11 #[.string p0] W (AddrPost (addrQ p0.data.toList) W)) from fun W => raddr_run p0 W (HSZ.out p0 (by simp)))
  cases hoa : addrQ p0.data.toList with
  | none =>
    rw [hoa] at HA
    have hn : o = none := by rw [← HO.out]; exact parseR_bad _ _ hoa
    subst hn
    have HA2 := (show Hid (∀ W, Calls Tryz.prog 11 #[.string p0] W fun e w' => e = .returned (.tuple #[.agg (netC zeroN).toArray, .int .i64 70]) ∧ Bel W w') from HA)
    clear HA hoa HO HSZ
    go_wp2_with fail
    refine (HA2.out _).mono ?_
    rintro e w2 ⟨rfl, hb2⟩
    have P := hid (put_net w2 zeroN (zeroN_fits).len)
    have HZ0 := hid (net_len zeroN (zeroN_fits).len)
    have H1 := hid (And.intro (H0.out.1.trans hb2) (And.intro (hb2.heap H0.out.2.1) (H0.out.2.2.next hb2)))
    clear hb2 H0 c0 HA2
    go_upto_region 3 with (first
      | (refine wpList_store_mid rfl 25 (.tmp 5) (.tmp 17) rfl w2.heap.size 0 (netC zeroN).toArray rfl rfl ?_ (by rw [List.size_toArray]; exact HZ0.out) (netC_one _) ?_; exact there_net w2 zeroN (zeroN_fits).len))
    generalize ((w2.alloc (.cells #[.bool false, .int .i64 0, .int .u8 0, .int .u8 0, .int .u8 0, .int .u8 0, .int .u8 0, .int .u8 0, .int .u8 0, .int .u8 0, .int .u8 0, .int .u8 0, .int .u8 0, .int .u8 0, .int .u8 0, .int .u8 0, .int .u8 0, .int .u8 0] 25)).setCells w2.heap.size 0 (netC zeroN)) = w3 at P ⊢
    have hBw : w.heap.size < w2.heap.size := (Array.getElem?_eq_some_iff.1 H1.out.2.1).1
    have H2 := hid (show Bel w w3 ∧ w3.heap[w.heap.size]? = some (.cells (netC zeroN).toArray 25 (0, 0)) ∧ w3.heap[w2.heap.size]? = some (.cells (netC zeroN).toArray 25 (0, 0)) from ⟨H1.out.1.trans P.out.1, P.out.1.heap H1.out.2.1, P.out.2⟩)
    have HT2 := hid (H1.out.2.2.next P.out.1)
    clear P H1 HZ0
    generalize w2.heap.size = B at H2 hBw ⊢
    have HZ := hid (net_len zeroN (zeroN_fits).len)
    have HT := hid (show w3.there w.heap.size 0 (netC zeroN).toArray.size from there_of (cs := netC zeroN) H2.out.2.1 (by rw [List.size_toArray, netC_len _ (zeroN_fits).len]; decide))
    go_wp2_with (first
      | (refine wpList_store_mid rfl 25 (.tmp 2) (.tmp 26) rfl w.heap.size 0 (netC zeroN).toArray rfl rfl ?_ (by rw [List.size_toArray]; exact HZ.out) (netC_one _) ?_; exact HT.out))
    have hl2 := run_loadVar_mid (P := Tryz.prog) (w3.setCells w.heap.size 0 (netC zeroN)) w.heap.size 0 25 (netC zeroN) _ (World.rangeAt_setCells_same _ _ _ _ (by simpa using HT.out)) Tryz.underlying25 rfl HZ.out
    refine bodyPost_ret (v := .tuple #[netV zeroN, .int .i64 70]) (by simp [results, Tryz.results13, asAddr, hl2, netV]) rfl ⟨by simp [errQ, netV], Bel.setCells (Nat.le_refl _) _ _ _ H2.out.1⟩
  | some n =>
    rw [hoa] at HA
    have HN := hid (addrQ_fits hoa).1
    have HA2 := (show Hid (∀ W, Calls Tryz.prog 11 #[.string p0] W fun e w' => e = .returned (.tuple #[.agg (netC n).toArray, .int .i64 0]) ∧ Bel W w') from HA)
    have HOA := hid hoa
    clear HA hoa
    go_wp2_with fail
    refine (HA2.out _).mono ?_
    rintro e w2 ⟨rfl, hb2⟩
    have P := hid (put_net w2 n (HN.out).len)
    have HZ0 := hid (net_len n (HN.out).len)
    have H1 := hid (And.intro (H0.out.1.trans hb2) (And.intro (hb2.heap H0.out.2.1) (H0.out.2.2.next hb2)))
    clear hb2 H0 c0 HA2
    go_upto_region 3 with (first
      | (refine wpList_store_mid rfl 25 (.tmp 5) (.tmp 17) rfl w2.heap.size 0 (netC n).toArray rfl rfl ?_ (by rw [List.size_toArray]; exact HZ0.out) (netC_one _) ?_; exact there_net w2 n (HN.out).len))
    generalize ((w2.alloc (.cells #[.bool false, .int .i64 0, .int .u8 0, .int .u8 0, .int .u8 0, .int .u8 0, .int .u8 0, .int .u8 0, .int .u8 0, .int .u8 0, .int .u8 0, .int .u8 0, .int .u8 0, .int .u8 0, .int .u8 0, .int .u8 0, .int .u8 0, .int .u8 0] 25)).setCells w2.heap.size 0 (netC n)) = w3 at P ⊢
    have hBw : w.heap.size < w2.heap.size := (Array.getElem?_eq_some_iff.1 H1.out.2.1).1
    have H2 := hid (show Bel w w3 ∧ w3.heap[w.heap.size]? = some (.cells (netC zeroN).toArray 25 (0, 0)) ∧ w3.heap[w2.heap.size]? = some (.cells (netC n).toArray 25 (0, 0)) from ⟨H1.out.1.trans P.out.1, P.out.1.heap H1.out.2.1, P.out.2⟩)
    have HT2 := hid (H1.out.2.2.next P.out.1)
    clear P H1 HZ0
    generalize w2.heap.size = B at H2 hBw ⊢
    cases t0 with
    | nil =>
      have HOo := hid (show onlyRight n = o by rw [← HO.out]; show _ = (addrQ p0.data.toList).bind onlyRight; rw [HOA.out]; rfl)
      clear HO HSZ HOA
      have HR := (show Hid (∀ W, Calls Tryz.prog 39 #[.agg (netC n).toArray] W fun e w' => e = .returned (.bool (rightQ n)) ∧ Bel W w') from fun W => rright_run n (HN.out) W)
      have HZn := hid (net_len n (HN.out).len)
      go_wp2_with (first
        | (refine wpList_load_mid rfl 25 (.tmp 5) rfl B 0 rfl (netC n) _ ?_ Tryz.underlying25 rfl HZn.out ?_; exact range_net H2.out.2.2))
      refine (HR.out _).mono ?_
      rintro e w4 ⟨rfl, hb4⟩
      have H4 := hid (show Bel w w4 ∧ w4.heap[w.heap.size]? = some (.cells (netC zeroN).toArray 25 (0, 0)) ∧ w4.heap[B]? = some (.cells (netC n).toArray 25 (0, 0)) from ⟨H2.out.1.trans hb4, hb4.heap H2.out.2.1, hb4.heap H2.out.2.2⟩)
      clear hb4 H2 HR HZn
      cases hr : rightQ n with
      | false =>
        have hn : o = none := by rw [← HOo.out]; unfold onlyRight; rw [if_neg (by rw [hr]; decide)]
        subst hn
        clear hr
        have HZ := hid (net_len zeroN (zeroN_fits).len)
        have HT := hid (show w4.there w.heap.size 0 (netC zeroN).toArray.size from there_of (cs := netC zeroN) H4.out.2.1 (by rw [List.size_toArray, netC_len _ (zeroN_fits).len]; decide))
        go_wp2_with (first
          | (refine wpList_store_mid rfl 25 (.tmp 2) (.tmp 46) rfl w.heap.size 0 (netC zeroN).toArray rfl rfl ?_ (by rw [List.size_toArray]; exact HZ.out) (netC_one _) ?_; exact HT.out))
        have hl2 := run_loadVar_mid (P := Tryz.prog) (w4.setCells w.heap.size 0 (netC zeroN)) w.heap.size 0 25 (netC zeroN) _ (World.rangeAt_setCells_same _ _ _ _ (by simpa using HT.out)) Tryz.underlying25 rfl HZ.out
        refine bodyPost_ret (v := .tuple #[netV zeroN, .int .i64 70]) (by simp [results, Tryz.results13, asAddr, hl2, netV]) rfl ⟨by simp [errQ, netV], Bel.setCells (Nat.le_refl _) _ _ _ H4.out.1⟩
      | true =>
        have hn : o = some n := by rw [← HOo.out]; unfold onlyRight; rw [if_pos hr]
        subst hn
        clear hr
        have HZ := hid (net_len n (HN.out).len)
        have HT := hid (show w4.there w.heap.size 0 (netC n).toArray.size from there_of (cs := netC zeroN) H4.out.2.1 (by rw [List.size_toArray, netC_len _ (HN.out).len]; decide))
        go_wp2_with (first
          | (refine wpList_load_mid rfl 25 (.tmp 5) rfl B 0 rfl (netC n) _ ?_ Tryz.underlying25 rfl HZ.out ?_; exact range_net H4.out.2.2)
          | (refine wpList_store_mid rfl 25 (.tmp 2) (.tmp 47) rfl w.heap.size 0 (netC n).toArray rfl rfl ?_ (by rw [List.size_toArray]; exact HZ.out) (netC_one _) ?_; exact HT.out))
        have hl2 := run_loadVar_mid (P := Tryz.prog) (w4.setCells w.heap.size 0 (netC n)) w.heap.size 0 25 (netC n) _ (World.rangeAt_setCells_same _ _ _ _ (by simpa using HT.out)) Tryz.underlying25 rfl HZ.out
        refine bodyPost_ret (v := .tuple #[netV n, .int .i64 0]) (by simp [results, Tryz.results13, asAddr, hl2, netV]) rfl ⟨by simp [errQ, netV], Bel.setCells (Nat.le_refl _) _ _ _ H4.out.1⟩
    | cons p1 t1 =>
      cases t1 with
      | cons p2 t2 =>
        have hn : o = none := by rw [← HO.out]; rfl
        subst hn
        have d2 : decide ((2 : Int) < ((p0 :: p1 :: p2 :: t2).length : Nat)) = true := decide_eq_true (by simp only [List.length_cons]; omega)
        generalize (p0 :: p1 :: p2 :: t2).length = L at d2 hl2 ⊢
        clear HO HSZ HOA
        have HZ := hid (net_len zeroN (zeroN_fits).len)
        have HT := hid (show w3.there w.heap.size 0 (netC zeroN).toArray.size from there_of (cs := netC zeroN) H2.out.2.1 (by rw [List.size_toArray, netC_len _ (zeroN_fits).len]; decide))
        go_wp2_with (first
          | (refine wpList_store_mid rfl 25 (.tmp 2) (.tmp 26) rfl w.heap.size 0 (netC zeroN).toArray rfl rfl ?_ (by rw [List.size_toArray]; exact HZ.out) (netC_one _) ?_; exact HT.out))
        have hl2 := run_loadVar_mid (P := Tryz.prog) (w3.setCells w.heap.size 0 (netC zeroN)) w.heap.size 0 25 (netC zeroN) _ (World.rangeAt_setCells_same _ _ _ _ (by simpa using HT.out)) Tryz.underlying25 rfl HZ.out
        refine bodyPost_ret (v := .tuple #[netV zeroN, .int .i64 70]) (by simp [results, Tryz.results13, asAddr, hl2, netV]) rfl ⟨by simp [errQ, netV], Bel.setCells (Nat.le_refl _) _ _ _ H2.out.1⟩
      | nil =>
        have c1 : w3.cell? ⟨g, 1, none⟩ = some (.string p1) := HT2.out.cell 1 (by simp)
        have HD := (show Hid (∀ W, Calls Tryz.prog 38 #[.string p1] W fun e w' => e = .returned (numV2 (numL p1.data.toList)) ∧ Bel W w') from fun W => decimal_run p1 W)
        have HOo := hid (show ((numL p1.data.toList).bind fun k => onlyRight { n with bits := k }) = o by rw [← HO.out]; show _ = (addrQ p0.data.toList).bind _; rw [HOA.out]; rfl)
        clear HO HSZ HOA HT2
        cases hk : numL p1.data.toList with
        | none =>
          rw [hk] at HD HOo
          have hn : o = none := HOo.out.symm
          subst hn
          unfold numV2 at HD
          clear hk
          go_wp2_with fail
          refine (HD.out _).mono ?_
          rintro e w4 ⟨rfl, hb4⟩
          have H4 := hid (show Bel w w4 ∧ w4.heap[w.heap.size]? = some (.cells (netC zeroN).toArray 25 (0, 0)) ∧ w4.heap[B]? = some (.cells (netC n).toArray 25 (0, 0)) from ⟨H2.out.1.trans hb4, hb4.heap H2.out.2.1, hb4.heap H2.out.2.2⟩)
          clear hb4 H2 HD c1
          have HZ := hid (net_len zeroN (zeroN_fits).len)
          have HT := hid (show w4.there w.heap.size 0 (netC zeroN).toArray.size from there_of (cs := netC zeroN) H4.out.2.1 (by rw [List.size_toArray, netC_len _ (zeroN_fits).len]; decide))
          go_wp2_with (first
            | (refine wpList_store_mid rfl 25 (.tmp 2) (.tmp 39) rfl w.heap.size 0 (netC zeroN).toArray rfl rfl ?_ (by rw [List.size_toArray]; exact HZ.out) (netC_one _) ?_; exact HT.out))
          have hl2 := run_loadVar_mid (P := Tryz.prog) (w4.setCells w.heap.size 0 (netC zeroN)) w.heap.size 0 25 (netC zeroN) _ (World.rangeAt_setCells_same _ _ _ _ (by simpa using HT.out)) Tryz.underlying25 rfl HZ.out
          refine bodyPost_ret (v := .tuple #[netV zeroN, .int .i64 70]) (by simp [results, Tryz.results13, asAddr, hl2, netV]) rfl ⟨by simp [errQ, netV], Bel.setCells (Nat.le_refl _) _ _ _ H4.out.1⟩
        | some k =>
          have hk1000 := numL_lt hk
          rw [hk] at HD HOo
          have HOo := (show Hid (onlyRight { n with bits := k } = o) from HOo)
          unfold numV2 at HD
          clear hk
          have HNk := hid (show ({ n with bits := k } : Nt).Fits from ⟨by show (-9223372036854775808 : Int) ≤ (k : Int); omega, by show (k : Int) ≤ 9223372036854775807; omega, HN.out.len, HN.out.by_⟩)
          go_upto_region 7 with (fail)
          refine (HD.out _).mono ?_
          rintro e w4 ⟨rfl, hb4⟩
          have H4 := hid (show Bel w w4 ∧ w4.heap[w.heap.size]? = some (.cells (netC zeroN).toArray 25 (0, 0)) ∧ w4.heap[B]? = some (.cells (netC n).toArray 25 (0, 0)) from ⟨H2.out.1.trans hb4, hb4.heap H2.out.2.1, hb4.heap H2.out.2.2⟩)
          clear hb4 H2 HD c1
          have hf4 : w4.frozen? ⟨B, 1, none⟩ = false := by simp [World.frozen?, H4.out.2.2]
          have hc4 : w4.cell? ⟨B, 1, none⟩ = some (.int .i64 n.bits) := by simp [World.cell?, H4.out.2.2, netC]
          go_upto_region 10 with (fail)
          have H5 := hid (show Bel w (w4.setCell ⟨B, 1, none⟩ (.int .i64 (k : Int))) ∧ (w4.setCell ⟨B, 1, none⟩ (.int .i64 (k : Int))).heap[w.heap.size]? = some (.cells (netC zeroN).toArray 25 (0, 0)) ∧ (w4.setCell ⟨B, 1, none⟩ (.int .i64 (k : Int))).heap[B]? = some (.cells (netC ({ n with bits := k } : Nt)).toArray 25 (0, 0)) from ⟨H4.out.1.setCell (by omega) _, by rw [heap_setCell_other _ _ _ _ (by show w.heap.size ≠ B; omega)]; exact H4.out.2.1, by rw [heap_setCell_same w4 _ _ _ _ _ H4.out.2.2, List.setIfInBounds_toArray]; rfl⟩)
          generalize w4.setCell ⟨B, 1, none⟩ (.int .i64 (k : Int)) = w5 at H5 ⊢
          clear H4 hf4 hc4
          generalize ({ n with bits := k } : Nt) = m at H5 HOo HNk
          have HR := (show Hid (∀ W, Calls Tryz.prog 39 #[.agg (netC m).toArray] W fun e w' => e = .returned (.bool (rightQ m)) ∧ Bel W w') from fun W => rright_run m (HNk.out) W)
          have HZn := hid (net_len m (HNk.out).len)
          go_wp2_with (first
            | (refine wpList_load_mid rfl 25 (.tmp 5) rfl B 0 rfl (netC m) _ ?_ Tryz.underlying25 rfl HZn.out ?_; exact range_net H5.out.2.2))
          refine (HR.out _).mono ?_
          rintro e w6 ⟨rfl, hb6⟩
          have H6 := hid (show Bel w w6 ∧ w6.heap[w.heap.size]? = some (.cells (netC zeroN).toArray 25 (0, 0)) ∧ w6.heap[B]? = some (.cells (netC m).toArray 25 (0, 0)) from ⟨H5.out.1.trans hb6, hb6.heap H5.out.2.1, hb6.heap H5.out.2.2⟩)
          clear hb6 H5 HR HZn
          cases hr : rightQ m with
          | false =>
            have hn : o = none := by rw [← HOo.out]; unfold onlyRight; rw [if_neg (by rw [hr]; decide)]
            subst hn
            clear hr
            have HZ := hid (net_len zeroN (zeroN_fits).len)
            have HT := hid (show w6.there w.heap.size 0 (netC zeroN).toArray.size from there_of (cs := netC zeroN) H6.out.2.1 (by rw [List.size_toArray, netC_len _ (zeroN_fits).len]; decide))
            go_wp2_with (first
              | (refine wpList_store_mid rfl 25 (.tmp 2) (.tmp 46) rfl w.heap.size 0 (netC zeroN).toArray rfl rfl ?_ (by rw [List.size_toArray]; exact HZ.out) (netC_one _) ?_; exact HT.out))
            have hl2 := run_loadVar_mid (P := Tryz.prog) (w6.setCells w.heap.size 0 (netC zeroN)) w.heap.size 0 25 (netC zeroN) _ (World.rangeAt_setCells_same _ _ _ _ (by simpa using HT.out)) Tryz.underlying25 rfl HZ.out
            refine bodyPost_ret (v := .tuple #[netV zeroN, .int .i64 70]) (by simp [results, Tryz.results13, asAddr, hl2, netV]) rfl ⟨by simp [errQ, netV], Bel.setCells (Nat.le_refl _) _ _ _ H6.out.1⟩
          | true =>
            have hn : o = some m := by rw [← HOo.out]; unfold onlyRight; rw [if_pos hr]
            subst hn
            clear hr
            have HZ := hid (net_len m (HNk.out).len)
            have HT := hid (show w6.there w.heap.size 0 (netC m).toArray.size from there_of (cs := netC zeroN) H6.out.2.1 (by rw [List.size_toArray, netC_len _ (HNk.out).len]; decide))
            go_wp2_with (first
              | (refine wpList_load_mid rfl 25 (.tmp 5) rfl B 0 rfl (netC m) _ ?_ Tryz.underlying25 rfl HZ.out ?_; exact range_net H6.out.2.2)
              | (refine wpList_store_mid rfl 25 (.tmp 2) (.tmp 47) rfl w.heap.size 0 (netC m).toArray rfl rfl ?_ (by rw [List.size_toArray]; exact HZ.out) (netC_one _) ?_; exact HT.out))
            have hl2 := run_loadVar_mid (P := Tryz.prog) (w6.setCells w.heap.size 0 (netC m)) w.heap.size 0 25 (netC m) _ (World.rangeAt_setCells_same _ _ _ _ (by simpa using HT.out)) Tryz.underlying25 rfl HZ.out
            refine bodyPost_ret (v := .tuple #[netV m, .int .i64 0]) (by simp [results, Tryz.results13, asAddr, hl2, netV]) rfl ⟨by simp [errQ, netV], Bel.setCells (Nat.le_refl _) _ _ _ H6.out.1⟩
end Go.Proofs.YtpmmaickjolimaaGreatDoor.Ci
