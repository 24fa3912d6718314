/- CidrReads. -/
import Derived.Test.YtpmmaickjolimaaGreatDoorEo
namespace Go.Proofs.YtpmmaickjolimaaGreatDoor.Ci
open Go.RowKit

theorem addrQ_fitsD (l : List UInt8) : ((addrQ l).getD zeroN).Fits := by
  cases h : addrQ l with
  | none => exact zeroN_fits
  | some n => exact (addrQ_fits h).1
theorem parseQ_fitsD (l : List UInt8) : ((parseQ l).getD zeroN).Fits := by
  cases h : parseQ l with
  | none => exact zeroN_fits
  | some n => exact parse_fits h
def nW : Nt := ⟨false, 77, List.replicate 16 0⟩
theorem nW_len : nW.addr.length = 16 := rfl
/-- The list in hand while its elements are written over. -/
def Over (U W : World) (x : Option Addr) (n : Nat) : Prop := n = 0 ∨ ∃ g cs, x = some ⟨g, 0, none⟩ ∧ U.heap.size ≤ g ∧ W.heap[g]? = some (.cells (List.toArray cs) 25 (0, 0)) ∧ n * 18 ≤ cs.length
theorem over_of {U W : World} {x : Option Addr} {c : Nat} {ns : List Nt} (h : NetRow U W (.slice x ns.length c) ns) : Over U W x ns.length := by
  rcases h.2 with ⟨-, hn⟩ | ⟨g, cap, cur, e, -, -, hg, hh, -, hl⟩
  · exact .inl (by rw [hn]; rfl)
  · cases e
    exact .inr ⟨g, cur.toList, rfl, hg, by simpa using hh, by simpa using hl⟩
theorem over_set {U W : World} {g o n : Nat} {cs vs : List Value} (hg : U.heap.size ≤ g) (h : W.heap[g]? = some (.cells cs.toArray 25 (0, 0))) (hl : n * 18 ≤ cs.length) (ho : o + vs.length ≤ cs.length) : ∃ g' cs', (some ⟨g, 0, none⟩ : Option Addr) = some ⟨g', 0, none⟩ ∧ U.heap.size ≤ g' ∧ (W.setCells g o vs).heap[g']? = some (.cells (List.toArray cs') 25 (0, 0)) ∧ n * 18 ≤ cs'.length :=
  ⟨g, _, rfl, hg, heap_setCells g 25 vs o W cs h ho, by simp; omega⟩
set_option maxHeartbeats 8000000 in
set_option maxRecDepth 100000 in
theorem reads_run (s : ByteArray) (hs : s.size < 4294967281) (w : World) (hw : Lay w) :
    Calls Tryz.prog 3 #[.string s] w fun e w' => e = .returned (.bool true) ∧ Bel w w' := by
  have HS := (show Hid (∀ W, Lay W → Calls Tryz.prog 9 #[] W fun e w' => e = .returned (.bool true) ∧ Bel W w') from fun W hW => shown_run W hW)
  have HW := hid hw
  have HA1 := (show Hid (∀ W, Lay W → Calls Tryz.prog 10 #[.string s] W fun e w' => e = .returned (.tuple #[.agg (netC ((addrQ s.data.toList).getD zeroN)).toArray, .int .i64 (errQ (addrQ s.data.toList))]) ∧ Bel W w') from fun W hW => addr_run s W hW hs)
  have HA2 := (show Hid (∀ W, Calls Tryz.prog 11 #[.string s] W fun e w' => e = .returned (.tuple #[.agg (netC ((addrQ s.data.toList).getD zeroN)).toArray, .int .i64 (errQ (addrQ s.data.toList))]) ∧ Bel W w') from fun W => raddr_run s W hs)
  have HP1 := (show Hid (∀ W, Lay W → Calls Tryz.prog 12 #[.string s] W fun e w' => e = .returned (.tuple #[.agg (netC ((parseQ s.data.toList).getD zeroN)).toArray, .int .i64 (errQ (parseQ s.data.toList))]) ∧ Bel W w') from fun W hW => parse_run s W hW hs)
  have HP2 := (show Hid (∀ W, Calls Tryz.prog 13 #[.string s] W fun e w' => e = .returned (.tuple #[.agg (netC ((parseQ s.data.toList).getD zeroN)).toArray, .int .i64 (errQ (parseQ s.data.toList))]) ∧ Bel W w') from fun W => rparse_run s W hs)
  have HL1 := (show Hid (∀ W, Lay W → Calls Tryz.prog 14 #[.string s] W (ListPost s W)) from fun W hW => list_run s W hW hs)
  have HL2 := (show Hid (∀ W, Calls Tryz.prog 15 #[.string s] W (ListPost s W)) from fun W => rlist_run s W hs)
  have hfa := addrQ_fitsD s.data.toList
  have hfc := parseQ_fitsD s.data.toList
  generalize (addrQ s.data.toList).getD zeroN = a at HA1 HA2 hfa
  generalize (parseQ s.data.toList).getD zeroN = c at HP1 HP2 hfc
  generalize errQ (addrQ s.data.toList) = ea at HA1 HA2
  generalize errQ (parseQ s.data.toList) = ec at HP1 HP2
  have HZa := hid (net_len a hfa.len)
  have HZc := hid (net_len c hfc.len)
  have HLa := hid hfa.len
  have HLc := hid hfc.len
  have qa : ∀ W : World, (Op.equalIn 10000 25 (.agg (netC a).toArray) (.agg (netC a).toArray)).run Tryz.prog W = .ok true W := fun W => eq_net a hfa.len W
  have qc : ∀ W : World, (Op.equalIn 10000 25 (.agg (netC c).toArray) (.agg (netC c).toArray)).run Tryz.prog W = .ok true W := fun W => eq_net c hfc.len W
  have H0 := hid (Bel.refl w)
  clear hw hfa hfc
  go_enter Tryz.func3, Tryz.ntmps3
  go_wp2_with fail
  refine (HS.out _ (HW.out.next H0.out)).mono ?_
  rintro e w1 ⟨rfl, hb1⟩
  have H1 := hid (show Bel w w1 from H0.out.trans hb1)
  clear hb1 H0
  go_upto_region 2 with (fail)
  go_wp2_with fail
  refine (HA1.out _ (HW.out.next H1.out)).mono ?_
  rintro e w2 ⟨rfl, hb2⟩
  have H2 := hid (show Bel w w2 from H1.out.trans hb2)
  clear hb2 H1
  have P3 := hid (put_net w2 a HLa.out)
  have H3 := hid (show Bel w ((w2.alloc (.cells #[.bool false, .int .i64 0, .int .u8 0, .int .u8 0, .int .u8 0, .int .u8 0, .int .u8 0, .int .u8 0, .int .u8 0, .int .u8 0, .int .u8 0, .int .u8 0, .int .u8 0, .int .u8 0, .int .u8 0, .int .u8 0, .int .u8 0, .int .u8 0] 25)).setCells w2.heap.size 0 (netC a)) ∧ ((w2.alloc (.cells #[.bool false, .int .i64 0, .int .u8 0, .int .u8 0, .int .u8 0, .int .u8 0, .int .u8 0, .int .u8 0, .int .u8 0, .int .u8 0, .int .u8 0, .int .u8 0, .int .u8 0, .int .u8 0, .int .u8 0, .int .u8 0, .int .u8 0, .int .u8 0] 25)).setCells w2.heap.size 0 (netC a)).heap[w2.heap.size]? = some (.cells (netC a).toArray 25 (0, 0)) from ⟨H2.out.trans P3.out.1, P3.out.2⟩)
  go_upto_region 3 with (first
    | (refine wpList_store_mid rfl 25 (.tmp 4) (.tmp 22) rfl w2.heap.size 0 (netC a).toArray rfl rfl ?_ (by rw [List.size_toArray]; exact HZa.out) (netC_one _) ?_; exact there_net w2 a HLa.out))
  generalize ((w2.alloc (.cells #[.bool false, .int .i64 0, .int .u8 0, .int .u8 0, .int .u8 0, .int .u8 0, .int .u8 0, .int .u8 0, .int .u8 0, .int .u8 0, .int .u8 0, .int .u8 0, .int .u8 0, .int .u8 0, .int .u8 0, .int .u8 0, .int .u8 0, .int .u8 0] 25)).setCells w2.heap.size 0 (netC a)) = v3 at H3 ⊢
  clear P3 H2
  go_wp2_with fail
  refine (HA2.out _).mono ?_
  rintro e w4 ⟨rfl, hb4⟩
  have H4 := hid (show Bel w w4 ∧ w4.heap[w2.heap.size]? = some (.cells (netC a).toArray 25 (0, 0)) from ⟨H3.out.1.trans hb4, hb4.heap (H3.out.2)⟩)
  clear hb4 H3
  have P5 := hid (put_net w4 a HLa.out)
  have H5 := hid (show Bel w ((w4.alloc (.cells #[.bool false, .int .i64 0, .int .u8 0, .int .u8 0, .int .u8 0, .int .u8 0, .int .u8 0, .int .u8 0, .int .u8 0, .int .u8 0, .int .u8 0, .int .u8 0, .int .u8 0, .int .u8 0, .int .u8 0, .int .u8 0, .int .u8 0, .int .u8 0] 25)).setCells w4.heap.size 0 (netC a)) ∧ ((w4.alloc (.cells #[.bool false, .int .i64 0, .int .u8 0, .int .u8 0, .int .u8 0, .int .u8 0, .int .u8 0, .int .u8 0, .int .u8 0, .int .u8 0, .int .u8 0, .int .u8 0, .int .u8 0, .int .u8 0, .int .u8 0, .int .u8 0, .int .u8 0, .int .u8 0] 25)).setCells w4.heap.size 0 (netC a)).heap[w2.heap.size]? = some (.cells (netC a).toArray 25 (0, 0)) ∧ ((w4.alloc (.cells #[.bool false, .int .i64 0, .int .u8 0, .int .u8 0, .int .u8 0, .int .u8 0, .int .u8 0, .int .u8 0, .int .u8 0, .int .u8 0, .int .u8 0, .int .u8 0, .int .u8 0, .int .u8 0, .int .u8 0, .int .u8 0, .int .u8 0, .int .u8 0] 25)).setCells w4.heap.size 0 (netC a)).heap[w4.heap.size]? = some (.cells (netC a).toArray 25 (0, 0)) from ⟨H4.out.1.trans P5.out.1, P5.out.1.heap (H4.out.2), P5.out.2⟩)
  go_upto_region 4 with (first
    | (refine wpList_store_mid rfl 25 (.tmp 6) (.tmp 27) rfl w4.heap.size 0 (netC a).toArray rfl rfl ?_ (by rw [List.size_toArray]; exact HZa.out) (netC_one _) ?_; exact there_net w4 a HLa.out))
  generalize ((w4.alloc (.cells #[.bool false, .int .i64 0, .int .u8 0, .int .u8 0, .int .u8 0, .int .u8 0, .int .u8 0, .int .u8 0, .int .u8 0, .int .u8 0, .int .u8 0, .int .u8 0, .int .u8 0, .int .u8 0, .int .u8 0, .int .u8 0, .int .u8 0, .int .u8 0] 25)).setCells w4.heap.size 0 (netC a)) = v5 at H5 ⊢
  clear P5 H4
  go_wp2_with fail
  refine (HP1.out _ (HW.out.next H5.out.1)).mono ?_
  rintro e w6 ⟨rfl, hb6⟩
  have H6 := hid (show Bel w w6 ∧ w6.heap[w2.heap.size]? = some (.cells (netC a).toArray 25 (0, 0)) ∧ w6.heap[w4.heap.size]? = some (.cells (netC a).toArray 25 (0, 0)) from ⟨H5.out.1.trans hb6, hb6.heap (H5.out.2.1), hb6.heap (H5.out.2.2)⟩)
  clear hb6 H5
  have P7 := hid (put_net w6 c HLc.out)
  have H7 := hid (show Bel w ((w6.alloc (.cells #[.bool false, .int .i64 0, .int .u8 0, .int .u8 0, .int .u8 0, .int .u8 0, .int .u8 0, .int .u8 0, .int .u8 0, .int .u8 0, .int .u8 0, .int .u8 0, .int .u8 0, .int .u8 0, .int .u8 0, .int .u8 0, .int .u8 0, .int .u8 0] 25)).setCells w6.heap.size 0 (netC c)) ∧ ((w6.alloc (.cells #[.bool false, .int .i64 0, .int .u8 0, .int .u8 0, .int .u8 0, .int .u8 0, .int .u8 0, .int .u8 0, .int .u8 0, .int .u8 0, .int .u8 0, .int .u8 0, .int .u8 0, .int .u8 0, .int .u8 0, .int .u8 0, .int .u8 0, .int .u8 0] 25)).setCells w6.heap.size 0 (netC c)).heap[w2.heap.size]? = some (.cells (netC a).toArray 25 (0, 0)) ∧ ((w6.alloc (.cells #[.bool false, .int .i64 0, .int .u8 0, .int .u8 0, .int .u8 0, .int .u8 0, .int .u8 0, .int .u8 0, .int .u8 0, .int .u8 0, .int .u8 0, .int .u8 0, .int .u8 0, .int .u8 0, .int .u8 0, .int .u8 0, .int .u8 0, .int .u8 0] 25)).setCells w6.heap.size 0 (netC c)).heap[w4.heap.size]? = some (.cells (netC a).toArray 25 (0, 0)) ∧ ((w6.alloc (.cells #[.bool false, .int .i64 0, .int .u8 0, .int .u8 0, .int .u8 0, .int .u8 0, .int .u8 0, .int .u8 0, .int .u8 0, .int .u8 0, .int .u8 0, .int .u8 0, .int .u8 0, .int .u8 0, .int .u8 0, .int .u8 0, .int .u8 0, .int .u8 0] 25)).setCells w6.heap.size 0 (netC c)).heap[w6.heap.size]? = some (.cells (netC c).toArray 25 (0, 0)) from ⟨H6.out.1.trans P7.out.1, P7.out.1.heap (H6.out.2.1), P7.out.1.heap (H6.out.2.2), P7.out.2⟩)
  go_upto_region 5 with (first
    | (refine wpList_store_mid rfl 25 (.tmp 8) (.tmp 32) rfl w6.heap.size 0 (netC c).toArray rfl rfl ?_ (by rw [List.size_toArray]; exact HZc.out) (netC_one _) ?_; exact there_net w6 c HLc.out))
  generalize ((w6.alloc (.cells #[.bool false, .int .i64 0, .int .u8 0, .int .u8 0, .int .u8 0, .int .u8 0, .int .u8 0, .int .u8 0, .int .u8 0, .int .u8 0, .int .u8 0, .int .u8 0, .int .u8 0, .int .u8 0, .int .u8 0, .int .u8 0, .int .u8 0, .int .u8 0] 25)).setCells w6.heap.size 0 (netC c)) = v7 at H7 ⊢
  clear P7 H6
  go_wp2_with fail
  refine (HP2.out _).mono ?_
  rintro e w8 ⟨rfl, hb8⟩
  have H8 := hid (show Bel w w8 ∧ w8.heap[w2.heap.size]? = some (.cells (netC a).toArray 25 (0, 0)) ∧ w8.heap[w4.heap.size]? = some (.cells (netC a).toArray 25 (0, 0)) ∧ w8.heap[w6.heap.size]? = some (.cells (netC c).toArray 25 (0, 0)) from ⟨H7.out.1.trans hb8, hb8.heap (H7.out.2.1), hb8.heap (H7.out.2.2.1), hb8.heap (H7.out.2.2.2)⟩)
  clear hb8 H7
  have P9 := hid (put_net w8 c HLc.out)
  have H9 := hid (show Bel w ((w8.alloc (.cells #[.bool false, .int .i64 0, .int .u8 0, .int .u8 0, .int .u8 0, .int .u8 0, .int .u8 0, .int .u8 0, .int .u8 0, .int .u8 0, .int .u8 0, .int .u8 0, .int .u8 0, .int .u8 0, .int .u8 0, .int .u8 0, .int .u8 0, .int .u8 0] 25)).setCells w8.heap.size 0 (netC c)) ∧ ((w8.alloc (.cells #[.bool false, .int .i64 0, .int .u8 0, .int .u8 0, .int .u8 0, .int .u8 0, .int .u8 0, .int .u8 0, .int .u8 0, .int .u8 0, .int .u8 0, .int .u8 0, .int .u8 0, .int .u8 0, .int .u8 0, .int .u8 0, .int .u8 0, .int .u8 0] 25)).setCells w8.heap.size 0 (netC c)).heap[w2.heap.size]? = some (.cells (netC a).toArray 25 (0, 0)) ∧ ((w8.alloc (.cells #[.bool false, .int .i64 0, .int .u8 0, .int .u8 0, .int .u8 0, .int .u8 0, .int .u8 0, .int .u8 0, .int .u8 0, .int .u8 0, .int .u8 0, .int .u8 0, .int .u8 0, .int .u8 0, .int .u8 0, .int .u8 0, .int .u8 0, .int .u8 0] 25)).setCells w8.heap.size 0 (netC c)).heap[w4.heap.size]? = some (.cells (netC a).toArray 25 (0, 0)) ∧ ((w8.alloc (.cells #[.bool false, .int .i64 0, .int .u8 0, .int .u8 0, .int .u8 0, .int .u8 0, .int .u8 0, .int .u8 0, .int .u8 0, .int .u8 0, .int .u8 0, .int .u8 0, .int .u8 0, .int .u8 0, .int .u8 0, .int .u8 0, .int .u8 0, .int .u8 0] 25)).setCells w8.heap.size 0 (netC c)).heap[w6.heap.size]? = some (.cells (netC c).toArray 25 (0, 0)) ∧ ((w8.alloc (.cells #[.bool false, .int .i64 0, .int .u8 0, .int .u8 0, .int .u8 0, .int .u8 0, .int .u8 0, .int .u8 0, .int .u8 0, .int .u8 0, .int .u8 0, .int .u8 0, .int .u8 0, .int .u8 0, .int .u8 0, .int .u8 0, .int .u8 0, .int .u8 0] 25)).setCells w8.heap.size 0 (netC c)).heap[w8.heap.size]? = some (.cells (netC c).toArray 25 (0, 0)) from ⟨H8.out.1.trans P9.out.1, P9.out.1.heap (H8.out.2.1), P9.out.1.heap (H8.out.2.2.1), P9.out.1.heap (H8.out.2.2.2), P9.out.2⟩)
  go_upto_region 6 with (first
    | (refine wpList_store_mid rfl 25 (.tmp 10) (.tmp 37) rfl w8.heap.size 0 (netC c).toArray rfl rfl ?_ (by rw [List.size_toArray]; exact HZc.out) (netC_one _) ?_; exact there_net w8 c HLc.out))
  generalize ((w8.alloc (.cells #[.bool false, .int .i64 0, .int .u8 0, .int .u8 0, .int .u8 0, .int .u8 0, .int .u8 0, .int .u8 0, .int .u8 0, .int .u8 0, .int .u8 0, .int .u8 0, .int .u8 0, .int .u8 0, .int .u8 0, .int .u8 0, .int .u8 0, .int .u8 0] 25)).setCells w8.heap.size 0 (netC c)) = v9 at H9 ⊢
  clear P9 H8
  go_wp2_with fail
  refine (HL1.out _ (HW.out.next H9.out.1)).mono ?_
  rintro e u1 ⟨v1, ns, err, rfl, hr1, hl1, hbu1⟩
  obtain ⟨x1, c1, rfl, hn1⟩ := hr1.nets
  have K1 := hid (And.intro hr1 (And.intro hl1 hn1))
  have HU := hid (show Bel w u1 ∧ u1.heap[w2.heap.size]? = some (.cells (netC a).toArray 25 (0, 0)) ∧ u1.heap[w4.heap.size]? = some (.cells (netC a).toArray 25 (0, 0)) ∧ u1.heap[w6.heap.size]? = some (.cells (netC c).toArray 25 (0, 0)) ∧ u1.heap[w8.heap.size]? = some (.cells (netC c).toArray 25 (0, 0)) from ⟨H9.out.1.trans hbu1, hbu1.heap (H9.out.2.1), hbu1.heap (H9.out.2.2.1), hbu1.heap (H9.out.2.2.2.1), hbu1.heap (H9.out.2.2.2.2)⟩)
  have HBU := hid hbu1
  clear hr1 hl1 hn1 hbu1
  go_wp2_with fail
  refine (HL2.out _).mono ?_
  rintro e u2 ⟨v2, ns2, err2, rfl, hr2, hl2, hbu2⟩
  have he := K1.out.2.1.symm.trans hl2
  rw [Prod.mk.injEq] at he
  obtain ⟨rfl, rfl⟩ := he
  obtain ⟨x2, c2, rfl, hn2⟩ := hr2.nets
  have K2 := hid (And.intro (K1.out.1.next hbu2) (And.intro (K1.out.2.2.next hbu2) hn2))
  have HV := hid (show Bel w u2 ∧ u2.heap[w2.heap.size]? = some (.cells (netC a).toArray 25 (0, 0)) ∧ u2.heap[w4.heap.size]? = some (.cells (netC a).toArray 25 (0, 0)) ∧ u2.heap[w6.heap.size]? = some (.cells (netC c).toArray 25 (0, 0)) ∧ u2.heap[w8.heap.size]? = some (.cells (netC c).toArray 25 (0, 0)) from ⟨HU.out.1.trans hbu2, hbu2.heap (HU.out.2.1), hbu2.heap (HU.out.2.2.1), hbu2.heap (HU.out.2.2.2.1), hbu2.heap (HU.out.2.2.2.2)⟩)
  have HBV := hid (HBU.out.trans hbu2)
  clear hr2 hl2 hn2 hbu2 HU HBU
  have hns : ns.length ≤ 9223372036854775807 := by
    rcases K1.out.1.2 with ⟨-, hn⟩ | ⟨g, cap, cur, -, h1, h2, -⟩
    · rw [hn]; decide
    · unfold maxLen at h2; omega
  have HSm := (show Hid (∀ W, Nets W x1 ns → Nets W x2 ns → Calls Tryz.prog 16 #[.slice x1 ns.length c1, .slice x2 ns.length c2] W fun e w' => e = .returned (.bool true) ∧ Bel W w') from fun W h1 h2 => same_run ns x1 x2 c1 c2 hns W h1 h2)
  go_wp2_with fail
  refine (HSm.out _ K2.out.2.1 K2.out.2.2).mono ?_
  rintro e u3 ⟨rfl, hbu3⟩
  have HOv := hid (over_of (K2.out.1.next hbu3))
  have HBW := hid (HBV.out.trans hbu3)
  have HZw := hid (net_len nW nW_len)
  clear hbu3 HSm K1 K2 HV HBV
  go_wp2_with fail
  go_loopg [17] ns.length (fun gg v17 wr => ∃ k : Nat, v17 = .int .i64 k ∧ k + gg = ns.length ∧ Hid (Bel v9 wr ∧ Over v9 wr x1 ns.length))
  case atStart => exact ⟨0, rfl, by omega, hid ⟨HBW.out, HOv.out⟩⟩
  case round =>
    clear HBW HOv
    obtain ⟨k, rfl, hk, H⟩ := hrel
    have Hk := hid hk
    have hkn : k ≤ ns.length := by omega
    clear hk
    by_cases hlt : k < ns.length
    · rcases H.out.2 with h0 | ⟨g, cs, rfl, hg, hc, hcl⟩
      · omega
      · have HT := hid (show wr.there g (k * 18) (netC nW).toArray.size from there_of hc (by rw [List.size_toArray, netC_len _ nW_len]; omega))
        have HN := hid (show Bel v9 (wr.setCells g (k * 18) (netC nW)) ∧ Over v9 (wr.setCells g (k * 18) (netC nW)) (some ⟨g, 0, none⟩) ns.length from ⟨Bel.setCells hg _ _ _ H.out.1, .inr (over_set hg hc hcl (by rw [netC_len _ nW_len]; omega))⟩)
        clear hc H
        go_wp2_with (first
          | (refine wpList_store_mid rfl 25 (.tmp 61) (.tmp 60) rfl g (k * 18) (netC nW).toArray rfl rfl ?_ (by rw [List.size_toArray]; exact HZw.out) (netC_one _) ?_; exact HT.out))
        go_roundg (gk - 1)
        case measure => have := Hk.out; omega
        case rel => exact ⟨k + 1, by go_num, by have := Hk.out; omega, HN⟩
    · obtain rfl : k = ns.length := by omega
      have HE := hid (show Bel w wr ∧ wr.heap[w2.heap.size]? = some (.cells (netC a).toArray 25 (0, 0)) ∧ wr.heap[w4.heap.size]? = some (.cells (netC a).toArray 25 (0, 0)) ∧ wr.heap[w6.heap.size]? = some (.cells (netC c).toArray 25 (0, 0)) ∧ wr.heap[w8.heap.size]? = some (.cells (netC c).toArray 25 (0, 0)) from ⟨H9.out.1.trans H.out.1, H.out.1.heap (H9.out.2.1), H.out.1.heap (H9.out.2.2.1), H.out.1.heap (H9.out.2.2.2.1), H.out.1.heap (H9.out.2.2.2.2)⟩)
      have b1 : (ea == ea) = true := beq_self_eq_true ea
      have b2 : (ec == ec) = true := beq_self_eq_true ec
      have b3 : (err == err) = true := beq_self_eq_true err
      clear H
      go_wp2_with (first
        | (refine wpList_load_wanted 25 (.tmp 4) rfl w2.heap.size 0 rfl (netC a) _ ?_ Tryz.underlying25 rfl HZa.out (by rfl) ?_; exact range_net HE.out.2.1)
        | (refine wpList_load_wanted 25 (.tmp 6) rfl w4.heap.size 0 rfl (netC a) _ ?_ Tryz.underlying25 rfl HZa.out (by rfl) ?_; exact range_net HE.out.2.2.1)
        | (refine wpList_load_wanted 25 (.tmp 8) rfl w6.heap.size 0 rfl (netC c) _ ?_ Tryz.underlying25 rfl HZc.out (by rfl) ?_; exact range_net HE.out.2.2.2.1)
        | (refine wpList_load_wanted 25 (.tmp 10) rfl w8.heap.size 0 rfl (netC c) _ ?_ Tryz.underlying25 rfl HZc.out (by rfl) ?_; exact range_net HE.out.2.2.2.2))
      go_ret
      exact ⟨by first | rfl | simp, HE.out.1⟩
end Go.Proofs.YtpmmaickjolimaaGreatDoor.Ci
