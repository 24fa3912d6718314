/- Parse. -/
import Derived.Test.YtpmmaickjolimaaGreatDoorK10
import Derived.Test.YtpmmaickjolimaaGreatDoorK08
namespace Go.Proofs.YtpmmaickjolimaaGreatDoor.Ci
open Go.RowKit

def slash : ByteArray := ⟨#[47]⟩
def onlyRight (n : Nt) : Option Nt := if rightQ n then some n else none
/-- The range that a text tells. -/
def parseQ (s : List UInt8) : Option Nt :=
  (addrQ (Lib.cut s [47]).1).bind fun n => if (Lib.cut s [47]).2.2 then (numL (Lib.cut s [47]).2.1).bind fun k => onlyRight { n with bits := k } else onlyRight n
theorem allB_lt : ∀ (ps : List (List UInt8)) (l : List Nat), allB ps = some l → l.length = ps.length ∧ ∀ x ∈ l, x < 256
  | [], l, h => by
    obtain rfl := Option.some.inj h
    exact ⟨rfl, by simp⟩
  | p :: ps, l, h => by
    unfold allB at h
    split at h
    · rename_i v vs hv hvs
      obtain rfl := Option.some.inj h
      have ih := allB_lt ps vs hvs
      refine ⟨by simp [ih.1], fun g hg => ?_⟩
      rcases List.mem_cons.1 hg with rfl | hg
      · unfold byteL at hv
        split at hv
        · split at hv
          · rename_i hc
            have := Option.some.inj hv
            omega
          · cases hv
        · cases hv
      · exact ih.2 g hg
    · cases h
theorem sixL_len {s : List UInt8} {gs : List Nat} (h : sixL s = some gs) : gs.length = 8 ∧ ∀ g ∈ gs, g < 65536 := by
  unfold sixL at h
  split at h
  · rename_i a b ha hb
    have la := groupsL_lt ha
    have lb := groupsL_lt hb
    split at h
    · split at h
      · obtain rfl := Option.some.inj h
        refine ⟨by simp; omega, fun g hg => ?_⟩
        rcases List.mem_append.1 hg with hg | hg
        · rcases List.mem_append.1 hg with hg | hg
          · exact la.2 g hg
          · obtain ⟨-, rfl⟩ := List.mem_replicate.1 hg
            decide
        · exact lb.2 g hg
      · cases h
    · split at h
      · rename_i h8
        obtain rfl := Option.some.inj h
        exact ⟨h8, la.2⟩
      · cases h
  · cases h
theorem wpList_load_wanted {P : Program} {ops : Array Oper} {rest : List Oper} {op : Oper} {a : Act} {w : World} {Q : Exit → Act → World → Prop} (ty : TypeId) (x : Operand) (ho : op.op = .load ty x)
    (b o : Nat) (hx : a.eval x = .pointer (some ⟨b, o, none⟩)) (cs : List Value) (d : TypeDesc) (hc : w.rangeAt b o cs)
    (hu : P.underlying ty = some d) (hd : d.isRow = true) (hi : (P.info? ty).map (·.size) = some cs.length) (hw : Region.wanted op (yielded ops a.tmps) = true)
    (h : wpList P ops Q rest (a.put op.dst (.agg cs.toArray)) w) : wpList P ops Q (op :: rest) a w :=
  wpList_step fun K hK => by rw [if_pos hw]; exact wp_load_mid ty x ho b o hx cs d hc hu hd hi (hK _ _ h)
theorem numL_lt {l : List UInt8} {k : Nat} (h : numL l = some k) : k < 1000 := by
  have := numQ_eq ⟨l.toArray⟩
  rw [mkB, h] at this
  have h2 := numQ_range this
  have h3 : Int.ofNat k = (k : Int) := rfl
  omega
theorem addrQ_fits {s : List UInt8} {n : Nt} (h : addrQ s = some n) : n.Fits ∧ (n.six = false → n.bits = 32) := by
  unfold addrQ at h
  cases h4 : fourN' s with
  | some m =>
    rw [h4] at h
    obtain rfl := Option.some.inj h
    unfold fourN' at h4
    obtain ⟨l, hl, rfl⟩ := Option.map_eq_some_iff.1 h4
    unfold fourT at hl
    split at hl
    · rename_i h4l
      have := allB_lt _ _ hl
      refine ⟨⟨by show (-9223372036854775808 : Int) ≤ 32; decide, by show (32 : Int) ≤ _; decide, by simp [this.1, h4l], fun x hx => ?_⟩, fun _ => rfl⟩
      rcases List.mem_append.1 hx with hx | hx
      · exact this.2 x hx
      · obtain ⟨-, rfl⟩ := List.mem_replicate.1 hx
        decide
    · cases hl
  | none =>
    rw [h4] at h
    have h : sixQ s = some n := h
    unfold sixQ at h
    obtain ⟨gs, hg, rfl⟩ := Option.map_eq_some_iff.1 h
    have := sixL_len hg
    exact ⟨⟨by show (-9223372036854775808 : Int) ≤ 128; decide, by show (128 : Int) ≤ _; decide, by show (bytesL gs).length = 16; rw [bytesL_len, this.1], bytesL_lt gs this.2⟩, fun f => by cases f⟩
set_option maxHeartbeats 2000000 in
set_option maxRecDepth 100000 in
theorem parse_run (s : ByteArray) (w : World) (hw : Lay w) (hs : s.size < 4294967281) :
    Calls Tryz.prog 12 #[.string s] w fun e w' => e = .returned (.tuple #[netV ((parseQ s.data.toList).getD zeroN), .int .i64 (errQ (parseQ s.data.toList))]) ∧ Bel w w' := by
  have HC := (show Hid (∀ W, Lay W → Calls Tryz.prog 34 #[.string s, .string slash] W fun e w' => e = .returned (.tuple #[.string ⟨(Lib.cut s.data.toList [47]).1.toArray⟩, .string ⟨(Lib.cut s.data.toList [47]).2.1.toArray⟩, .bool (Lib.cut s.data.toList [47]).2.2]) ∧ Bel W w') from fun W hW => cut_str_run s slash W hW hs)
  have hcl := cut_len s.data.toList [47]
  have hq : parseQ s.data.toList = (addrQ (Lib.cut s.data.toList [47]).1).bind fun n => if (Lib.cut s.data.toList [47]).2.2 then (numL (Lib.cut s.data.toList [47]).2.1).bind fun k => onlyRight { n with bits := k } else onlyRight n := rfl
  rw [← Lib.size_eq] at hcl
  generalize parseQ s.data.toList = o at hq ⊢
  generalize Lib.cut s.data.toList [47] = c at HC hcl hq
  obtain ⟨hd, tl, is⟩ := c
  simp only at HC hcl hq
  have HA := (show Hid (∀ W, Lay W → Calls Tryz.prog 10 #[.string ⟨hd.toArray⟩] W fun e w' => e = .returned (.tuple #[netV ((addrQ hd).getD zeroN), .int .i64 (errQ (addrQ hd))]) ∧ Bel W w') from fun W hW => addr_run ⟨hd.toArray⟩ W hW (by rw [Lib.size_eq, mkB]; omega))
  have HN := (show Hid (∀ W, Lay W → Calls Tryz.prog 35 #[.string ⟨tl.toArray⟩] W fun e w' => e = .returned (numV ((numL tl).map Int.ofNat)) ∧ Bel W w') from fun W hW => by rw [← mkB tl, ← numQ_eq]; exact number_run ⟨tl.toArray⟩ W hW (by rw [Lib.size_eq, mkB]; omega))
  have HF := hid (fun n (h : addrQ hd = some n) => addrQ_fits h)
  generalize addrQ hd = oa at HA HF hq
  generalize hnb : numL tl = ob at HN hq
  have HB := hid (show ∀ k, ob = some k → k < 1000 from fun k hk => by rw [← hnb] at hk; exact numL_lt hk)
  have HO := hid hq
  have HW := hid hw
  clear hq hw hcl hnb
  go_enter Tryz.func12, Tryz.ntmps12
  go_wp2_with fail
  have h0 := hid (And.intro ((Bel.refl w).alloc (.cells #[.bool false, .int .i64 0, .int .u8 0, .int .u8 0, .int .u8 0, .int .u8 0, .int .u8 0, .int .u8 0, .int .u8 0, .int .u8 0, .int .u8 0, .int .u8 0, .int .u8 0, .int .u8 0, .int .u8 0, .int .u8 0, .int .u8 0, .int .u8 0] 25)) (heap_alloc_new w (.cells #[.bool false, .int .i64 0, .int .u8 0, .int .u8 0, .int .u8 0, .int .u8 0, .int .u8 0, .int .u8 0, .int .u8 0, .int .u8 0, .int .u8 0, .int .u8 0, .int .u8 0, .int .u8 0, .int .u8 0, .int .u8 0, .int .u8 0, .int .u8 0] 25)))
  generalize w.alloc (.cells #[.bool false, .int .i64 0, .int .u8 0, .int .u8 0, .int .u8 0, .int .u8 0, .int .u8 0, .int .u8 0, .int .u8 0, .int .u8 0, .int .u8 0, .int .u8 0, .int .u8 0, .int .u8 0, .int .u8 0, .int .u8 0, .int .u8 0, .int .u8 0] 25) = w1 at h0 ⊢
  refine (HC.out _ (HW.out.next h0.out.1)).mono ?_
  rintro e w2 ⟨rfl, hb2⟩
  have h2 := hid (And.intro (h0.out.1.trans hb2) (hb2.heap h0.out.2))
  clear h0 hb2
  go_wp2_with fail
  refine (HA.out _ (HW.out.next h2.out.1)).mono ?_
  rintro e w3 ⟨rfl, hb3⟩
  have h3 := hid (And.intro (h2.out.1.trans hb3) (hb3.heap h2.out.2))
  clear h2 hb3 HC HA
  have hN : (oa.getD zeroN).Fits := by
    cases oa with
    | none => exact zeroN_fits
    | some n => exact (HF.out n rfl).1
  have HN0 := hid hN
  have hZ := hid (show (Tryz.prog.info? 25).map (·.size) = some (netC (oa.getD zeroN)).length by rw [netC_len _ HN0.out.len]; exact net_info)
  have hth := hid (show (w3.alloc (.cells #[.bool false, .int .i64 0, .int .u8 0, .int .u8 0, .int .u8 0, .int .u8 0, .int .u8 0, .int .u8 0, .int .u8 0, .int .u8 0, .int .u8 0, .int .u8 0, .int .u8 0, .int .u8 0, .int .u8 0, .int .u8 0, .int .u8 0, .int .u8 0] 25)).there w3.heap.size 0 (netC (oa.getD zeroN)).toArray.size from there_of (cs := #[.bool false, .int .i64 0, .int .u8 0, .int .u8 0, .int .u8 0, .int .u8 0, .int .u8 0, .int .u8 0, .int .u8 0, .int .u8 0, .int .u8 0, .int .u8 0, .int .u8 0, .int .u8 0, .int .u8 0, .int .u8 0, .int .u8 0, .int .u8 0].toList) (heap_alloc_new w3 _) (by rw [List.size_toArray, netC_len _ HN0.out.len]; decide))
  have h4 := hid (show Bel w ((w3.alloc (.cells #[.bool false, .int .i64 0, .int .u8 0, .int .u8 0, .int .u8 0, .int .u8 0, .int .u8 0, .int .u8 0, .int .u8 0, .int .u8 0, .int .u8 0, .int .u8 0, .int .u8 0, .int .u8 0, .int .u8 0, .int .u8 0, .int .u8 0, .int .u8 0] 25)).setCells w3.heap.size 0 (netC (oa.getD zeroN))) ∧ ((w3.alloc (.cells #[.bool false, .int .i64 0, .int .u8 0, .int .u8 0, .int .u8 0, .int .u8 0, .int .u8 0, .int .u8 0, .int .u8 0, .int .u8 0, .int .u8 0, .int .u8 0, .int .u8 0, .int .u8 0, .int .u8 0, .int .u8 0, .int .u8 0, .int .u8 0] 25)).setCells w3.heap.size 0 (netC (oa.getD zeroN))).heap[w.heap.size]? = some (.cells #[.bool false, .int .i64 0, .int .u8 0, .int .u8 0, .int .u8 0, .int .u8 0, .int .u8 0, .int .u8 0, .int .u8 0, .int .u8 0, .int .u8 0, .int .u8 0, .int .u8 0, .int .u8 0, .int .u8 0, .int .u8 0, .int .u8 0, .int .u8 0] 25 (0, 0)) ∧ ((w3.alloc (.cells #[.bool false, .int .i64 0, .int .u8 0, .int .u8 0, .int .u8 0, .int .u8 0, .int .u8 0, .int .u8 0, .int .u8 0, .int .u8 0, .int .u8 0, .int .u8 0, .int .u8 0, .int .u8 0, .int .u8 0, .int .u8 0, .int .u8 0, .int .u8 0] 25)).setCells w3.heap.size 0 (netC (oa.getD zeroN))).heap[w3.heap.size]? = some (.cells (netC (oa.getD zeroN)).toArray 25 (0, 0)) ∧ w.heap.size < w3.heap.size from by
    have hb := h3.out.1.alloc (.cells #[.bool false, .int .i64 0, .int .u8 0, .int .u8 0, .int .u8 0, .int .u8 0, .int .u8 0, .int .u8 0, .int .u8 0, .int .u8 0, .int .u8 0, .int .u8 0, .int .u8 0, .int .u8 0, .int .u8 0, .int .u8 0, .int .u8 0, .int .u8 0] 25)
    have hx := (Bel.refl w3).alloc (.cells #[.bool false, .int .i64 0, .int .u8 0, .int .u8 0, .int .u8 0, .int .u8 0, .int .u8 0, .int .u8 0, .int .u8 0, .int .u8 0, .int .u8 0, .int .u8 0, .int .u8 0, .int .u8 0, .int .u8 0, .int .u8 0, .int .u8 0, .int .u8 0] 25)
    have l1 := (Array.getElem?_eq_some_iff.1 h3.out.2).1
    exact ⟨Bel.setCells (by omega) _ _ _ hb, (heap_setCells_other _ _ (by omega) _ _ _).trans (hx.heap h3.out.2), heap_setCells_whole (cs := #[.bool false, .int .i64 0, .int .u8 0, .int .u8 0, .int .u8 0, .int .u8 0, .int .u8 0, .int .u8 0, .int .u8 0, .int .u8 0, .int .u8 0, .int .u8 0, .int .u8 0, .int .u8 0, .int .u8 0, .int .u8 0, .int .u8 0, .int .u8 0].toList) (heap_alloc_new w3 _) (by rw [netC_len _ HN0.out.len]; rfl), l1⟩)
  clear hN
  generalize hv : netV (oa.getD zeroN) = v0
  have hv0 : v0 = .agg (netC (oa.getD zeroN)).toArray := hv.symm
  clear hv
  subst hv0
  go_upto_region 3 with (first
    | (refine wpList_store_mid rfl 25 (.tmp 7) (.tmp 20) rfl w3.heap.size 0 (netC (oa.getD zeroN)).toArray rfl rfl ?_ (by rw [List.size_toArray]; exact hZ.out) (netC_one _) ?_; exact hth.out))
  generalize ((w3.alloc (.cells #[.bool false, .int .i64 0, .int .u8 0, .int .u8 0, .int .u8 0, .int .u8 0, .int .u8 0, .int .u8 0, .int .u8 0, .int .u8 0, .int .u8 0, .int .u8 0, .int .u8 0, .int .u8 0, .int .u8 0, .int .u8 0, .int .u8 0, .int .u8 0] 25)).setCells w3.heap.size 0 (netC (oa.getD zeroN))) = W at h4 ⊢
  clear hth h3 hZ
  cases oa with
  | none =>
    have ho : o = none := HO.out
    subst ho
    clear HN HF HB
    have hZz := hid (show (Tryz.prog.info? 25).map (·.size) = some (netC zeroN).length by rw [netC_len _ zeroN_fits.len]; exact net_info)
    have hT := hid (show W.there w.heap.size 0 (netC zeroN).toArray.size from there_of (cs := #[.bool false, .int .i64 0, .int .u8 0, .int .u8 0, .int .u8 0, .int .u8 0, .int .u8 0, .int .u8 0, .int .u8 0, .int .u8 0, .int .u8 0, .int .u8 0, .int .u8 0, .int .u8 0, .int .u8 0, .int .u8 0, .int .u8 0, .int .u8 0].toList) h4.out.2.1 (by rw [List.size_toArray]; exact Nat.le_of_eq (Nat.zero_add _)))
    go_wp2_with (first
      | (refine wpList_store_mid rfl 25 (.tmp 2) (.tmp 43) rfl w.heap.size 0 (netC zeroN).toArray rfl rfl ?_ (by rw [List.size_toArray]; exact hZz.out) (netC_one _) ?_; exact hT.out))
    have hl2 := run_loadVar_mid (P := Tryz.prog) (W.setCells w.heap.size 0 (netC zeroN)) w.heap.size 0 25 (netC zeroN) _
      (World.rangeAt_setCells_same _ _ _ _ (by simpa using hT.out)) Tryz.underlying25 rfl hZz.out
    refine bodyPost_ret (v := .tuple #[netV zeroN, .int .i64 70]) (by simp [results, Tryz.results12, asAddr, hl2, netV]) rfl ⟨rfl, ?_⟩
    exact Bel.setCells (Nat.le_refl _) _ _ _ h4.out.1
  | some n =>
    cases is with
    | false =>
      have hQ := hid (show o = onlyRight n from HO.out)
      have hfit := hid (HF.out n rfl).1
      have HR := (show Hid (∀ W, Calls Tryz.prog 36 #[.agg (netC n).toArray] W fun e w' => e = .returned (.bool (rightQ n)) ∧ Bel W w') from fun W => right_run n hfit.out W)
      have hZ := hid (show (Tryz.prog.info? 25).map (·.size) = some (netC n).length by rw [netC_len _ hfit.out.len]; exact net_info)
      go_wp2_with (first
        | (refine wpList_load_wanted 25 (.tmp 7) rfl w3.heap.size 0 rfl (netC n) _ ?_ Tryz.underlying25 rfl hZ.out (by rfl) ?_; exact range_of h4.out.2.2.1 fun j v hv => by simpa using hv))
      refine (HR.out _).mono ?_
      rintro e w5 ⟨rfl, hb5⟩
      have h5 := hid (show Bel w w5 ∧ w5.heap[w.heap.size]? = some (.cells #[.bool false, .int .i64 0, .int .u8 0, .int .u8 0, .int .u8 0, .int .u8 0, .int .u8 0, .int .u8 0, .int .u8 0, .int .u8 0, .int .u8 0, .int .u8 0, .int .u8 0, .int .u8 0, .int .u8 0, .int .u8 0, .int .u8 0, .int .u8 0] 25 (0, 0)) ∧ w5.heap[w3.heap.size]? = some (.cells (netC n).toArray 25 (0, 0)) ∧ w.heap.size < w3.heap.size from
        ⟨h4.out.1.trans hb5, hb5.heap h4.out.2.1, hb5.heap h4.out.2.2.1, h4.out.2.2.2⟩)
      clear hb5 h4 HR
      cases hr : rightQ n with
      | false =>
        have HQ := hid (show o = none from hQ.out.trans (by unfold onlyRight; rw [hr]; rfl))
        have hZz := hid (show (Tryz.prog.info? 25).map (·.size) = some (netC zeroN).length by rw [netC_len _ zeroN_fits.len]; exact net_info)
        have hT := hid (show w5.there w.heap.size 0 (netC zeroN).toArray.size from there_of (cs := #[.bool false, .int .i64 0, .int .u8 0, .int .u8 0, .int .u8 0, .int .u8 0, .int .u8 0, .int .u8 0, .int .u8 0, .int .u8 0, .int .u8 0, .int .u8 0, .int .u8 0, .int .u8 0, .int .u8 0, .int .u8 0, .int .u8 0, .int .u8 0].toList) h5.out.2.1 (by rw [List.size_toArray]; exact Nat.le_of_eq (Nat.zero_add _)))
        go_wp2_with (first
          | (refine wpList_store_mid rfl 25 (.tmp 2) (.tmp 43) rfl w.heap.size 0 (netC zeroN).toArray rfl rfl ?_ (by rw [List.size_toArray]; exact hZz.out) (netC_one _) ?_; exact hT.out))
        have hl2 := run_loadVar_mid (P := Tryz.prog) (w5.setCells w.heap.size 0 (netC zeroN)) w.heap.size 0 25 (netC zeroN) _
          (World.rangeAt_setCells_same _ _ _ _ (by simpa using hT.out)) Tryz.underlying25 rfl hZz.out
        refine bodyPost_ret (v := .tuple #[netV zeroN, .int .i64 70]) (by simp [results, Tryz.results12, asAddr, hl2, netV]) rfl ⟨by rw [HQ.out]; rfl, ?_⟩
        exact Bel.setCells (Nat.le_refl _) _ _ _ h5.out.1
      | true =>
        have HQ := hid (show o = some n from hQ.out.trans (by unfold onlyRight; rw [hr]; rfl))
        have hT := hid (show w5.there w.heap.size 0 (netC n).toArray.size from there_of (cs := #[.bool false, .int .i64 0, .int .u8 0, .int .u8 0, .int .u8 0, .int .u8 0, .int .u8 0, .int .u8 0, .int .u8 0, .int .u8 0, .int .u8 0, .int .u8 0, .int .u8 0, .int .u8 0, .int .u8 0, .int .u8 0, .int .u8 0, .int .u8 0].toList) h5.out.2.1 (by rw [List.size_toArray, netC_len _ hfit.out.len]; decide))
        clear hr
        go_wp2_with (first
          | (refine wpList_load_mid rfl 25 (.tmp 7) rfl w3.heap.size 0 rfl (netC n) _ ?_ Tryz.underlying25 rfl hZ.out ?_; exact range_of h5.out.2.2.1 fun j v hv => by simpa using hv)
          | (refine wpList_store_mid rfl 25 (.tmp 2) (.tmp 44) rfl w.heap.size 0 (netC n).toArray rfl rfl ?_ (by rw [List.size_toArray]; exact hZ.out) (netC_one _) ?_; exact hT.out))
        have hl2 := run_loadVar_mid (P := Tryz.prog) (w5.setCells w.heap.size 0 (netC n)) w.heap.size 0 25 (netC n) _
          (World.rangeAt_setCells_same _ _ _ _ (by simpa using hT.out)) Tryz.underlying25 rfl hZ.out
        refine bodyPost_ret (v := .tuple #[netV n, .int .i64 0]) (by simp [results, Tryz.results12, asAddr, hl2, netV]) rfl ⟨by rw [HQ.out]; rfl, ?_⟩
        exact Bel.setCells (Nat.le_refl _) _ _ _ h5.out.1
    | true =>
      have hfit := hid (HF.out n rfl).1
      go_wp2_with fail
      refine (HN.out _ (HW.out.next h4.out.1)).mono ?_
      rintro e w6 ⟨rfl, hb6⟩
      have h6 := hid (show Bel w w6 ∧ w6.heap[w.heap.size]? = some (.cells #[.bool false, .int .i64 0, .int .u8 0, .int .u8 0, .int .u8 0, .int .u8 0, .int .u8 0, .int .u8 0, .int .u8 0, .int .u8 0, .int .u8 0, .int .u8 0, .int .u8 0, .int .u8 0, .int .u8 0, .int .u8 0, .int .u8 0, .int .u8 0] 25 (0, 0)) ∧ w6.heap[w3.heap.size]? = some (.cells (netC n).toArray 25 (0, 0)) ∧ w.heap.size < w3.heap.size from
        ⟨h4.out.1.trans hb6, hb6.heap h4.out.2.1, hb6.heap h4.out.2.2.1, h4.out.2.2.2⟩)
      have hne : ¬ w.heap.size = w3.heap.size := by have := h6.out.2.2.2; omega
      clear h4 hb6 HN
      have hf6 : w6.frozen? ⟨w3.heap.size, 1, none⟩ = false := by simp [World.frozen?, h6.out.2.2.1]
      have hc6 : w6.cell? ⟨w3.heap.size, 1, none⟩ = some (.int .i64 n.bits) := by simp [World.cell?, h6.out.2.2.1, netC]
      have hst := hid (fun (k : Int) => show Bel w (w6.setCell ⟨w3.heap.size, 1, none⟩ (.int .i64 k)) ∧ (w6.setCell ⟨w3.heap.size, 1, none⟩ (.int .i64 k)).heap[w.heap.size]? = some (.cells #[.bool false, .int .i64 0, .int .u8 0, .int .u8 0, .int .u8 0, .int .u8 0, .int .u8 0, .int .u8 0, .int .u8 0, .int .u8 0, .int .u8 0, .int .u8 0, .int .u8 0, .int .u8 0, .int .u8 0, .int .u8 0, .int .u8 0, .int .u8 0] 25 (0, 0)) ∧ (w6.setCell ⟨w3.heap.size, 1, none⟩ (.int .i64 k)).heap[w3.heap.size]? = some (.cells (netC { n with bits := k }).toArray 25 (0, 0)) ∧ w.heap.size < w3.heap.size from
        ⟨h6.out.1.setCell (by have := h6.out.2.2.2; omega) _, (heap_setCell_other _ _ _ _ hne).trans h6.out.2.1, (heap_setCell_same _ _ _ _ _ _ h6.out.2.2.1).trans (by rw [List.setIfInBounds_toArray]; rfl), h6.out.2.2.2⟩)
      clear h6 hne
      cases ob with
      | none =>
        have HQ := hid (show o = none from HO.out)
        have h7 := hid (hst.out 0)
        have hv : numV (Option.map Int.ofNat none) = .tuple #[.int .i64 0, .bool false] := rfl
        rw [hv]
        clear hv hst HO HB HF hfit HN0
        have hZz := hid (show (Tryz.prog.info? 25).map (·.size) = some (netC zeroN).length by rw [netC_len _ zeroN_fits.len]; exact net_info)
        have hT := hid (show (w6.setCell ⟨w3.heap.size, 1, none⟩ (.int .i64 0)).there w.heap.size 0 (netC zeroN).toArray.size from there_of (cs := #[.bool false, .int .i64 0, .int .u8 0, .int .u8 0, .int .u8 0, .int .u8 0, .int .u8 0, .int .u8 0, .int .u8 0, .int .u8 0, .int .u8 0, .int .u8 0, .int .u8 0, .int .u8 0, .int .u8 0, .int .u8 0, .int .u8 0, .int .u8 0].toList) h7.out.2.1 (by rw [List.size_toArray]; exact Nat.le_of_eq (Nat.zero_add _)))
        go_wp2_with (first
          | (refine wpList_store_mid rfl 25 (.tmp 2) (.tmp 43) rfl w.heap.size 0 (netC zeroN).toArray rfl rfl ?_ (by rw [List.size_toArray]; exact hZz.out) (netC_one _) ?_; exact hT.out))
        have hl2 := run_loadVar_mid (P := Tryz.prog) ((w6.setCell ⟨w3.heap.size, 1, none⟩ (.int .i64 0)).setCells w.heap.size 0 (netC zeroN)) w.heap.size 0 25 (netC zeroN) _
          (World.rangeAt_setCells_same _ _ _ _ (by simpa using hT.out)) Tryz.underlying25 rfl hZz.out
        refine bodyPost_ret (v := .tuple #[netV zeroN, .int .i64 70]) (by simp [results, Tryz.results12, asAddr, hl2, netV]) rfl ⟨by rw [HQ.out]; rfl, ?_⟩
        exact Bel.setCells (Nat.le_refl _) _ _ _ h7.out.1
      | some k =>
        have hQ := hid (show o = onlyRight { n with bits := k } from HO.out)
        have h7 := hid (hst.out k)
        have hk := HB.out k rfl
        have hfit7 := hid (show ({ n with bits := k } : Nt).Fits from ⟨by show _ ≤ (k : Int); omega, by show (k : Int) ≤ _; omega, hfit.out.len, hfit.out.by_⟩)
        have hv : numV (Option.map Int.ofNat (some k)) = .tuple #[.int .i64 (k : Int), .bool true] := rfl
        rw [hv]
        clear hv hst HO HB HF hfit HN0
        have HR := (show Hid (∀ W, Calls Tryz.prog 36 #[.agg (netC ({ n with bits := (k : Int) } : Nt)).toArray] W fun e w' => e = .returned (.bool (rightQ ({ n with bits := (k : Int) } : Nt))) ∧ Bel W w') from fun W => right_run ({ n with bits := (k : Int) } : Nt) hfit7.out W)
        have hZ := hid (show (Tryz.prog.info? 25).map (·.size) = some (netC ({ n with bits := (k : Int) } : Nt)).length by rw [netC_len _ hfit7.out.len]; exact net_info)
        go_wp2_with (first
          | (refine wpList_load_wanted 25 (.tmp 7) rfl w3.heap.size 0 rfl (netC ({ n with bits := (k : Int) } : Nt)) _ ?_ Tryz.underlying25 rfl hZ.out (by rfl) ?_; exact range_of h7.out.2.2.1 fun j v hv => by simpa using hv))
        refine (HR.out _).mono ?_
        rintro e w5 ⟨rfl, hb5⟩
        have h5 := hid (show Bel w w5 ∧ w5.heap[w.heap.size]? = some (.cells #[.bool false, .int .i64 0, .int .u8 0, .int .u8 0, .int .u8 0, .int .u8 0, .int .u8 0, .int .u8 0, .int .u8 0, .int .u8 0, .int .u8 0, .int .u8 0, .int .u8 0, .int .u8 0, .int .u8 0, .int .u8 0, .int .u8 0, .int .u8 0] 25 (0, 0)) ∧ w5.heap[w3.heap.size]? = some (.cells (netC ({ n with bits := (k : Int) } : Nt)).toArray 25 (0, 0)) ∧ w.heap.size < w3.heap.size from
          ⟨h7.out.1.trans hb5, hb5.heap h7.out.2.1, hb5.heap h7.out.2.2.1, h7.out.2.2.2⟩)
        clear hb5 h7 HR
        cases hr : rightQ ({ n with bits := (k : Int) } : Nt) with
        | false =>
          have HQ := hid (show o = none from hQ.out.trans (by unfold onlyRight; rw [hr]; rfl))
          have hZz := hid (show (Tryz.prog.info? 25).map (·.size) = some (netC zeroN).length by rw [netC_len _ zeroN_fits.len]; exact net_info)
          have hT := hid (show w5.there w.heap.size 0 (netC zeroN).toArray.size from there_of (cs := #[.bool false, .int .i64 0, .int .u8 0, .int .u8 0, .int .u8 0, .int .u8 0, .int .u8 0, .int .u8 0, .int .u8 0, .int .u8 0, .int .u8 0, .int .u8 0, .int .u8 0, .int .u8 0, .int .u8 0, .int .u8 0, .int .u8 0, .int .u8 0].toList) h5.out.2.1 (by rw [List.size_toArray]; exact Nat.le_of_eq (Nat.zero_add _)))
          go_wp2_with (first
            | (refine wpList_store_mid rfl 25 (.tmp 2) (.tmp 43) rfl w.heap.size 0 (netC zeroN).toArray rfl rfl ?_ (by rw [List.size_toArray]; exact hZz.out) (netC_one _) ?_; exact hT.out))
          have hl2 := run_loadVar_mid (P := Tryz.prog) (w5.setCells w.heap.size 0 (netC zeroN)) w.heap.size 0 25 (netC zeroN) _
            (World.rangeAt_setCells_same _ _ _ _ (by simpa using hT.out)) Tryz.underlying25 rfl hZz.out
          refine bodyPost_ret (v := .tuple #[netV zeroN, .int .i64 70]) (by simp [results, Tryz.results12, asAddr, hl2, netV]) rfl ⟨by rw [HQ.out]; rfl, ?_⟩
          exact Bel.setCells (Nat.le_refl _) _ _ _ h5.out.1
        | true =>
          have HQ := hid (show o = some ({ n with bits := (k : Int) } : Nt) from hQ.out.trans (by unfold onlyRight; rw [hr]; rfl))
          have hT := hid (show w5.there w.heap.size 0 (netC ({ n with bits := (k : Int) } : Nt)).toArray.size from there_of (cs := #[.bool false, .int .i64 0, .int .u8 0, .int .u8 0, .int .u8 0, .int .u8 0, .int .u8 0, .int .u8 0, .int .u8 0, .int .u8 0, .int .u8 0, .int .u8 0, .int .u8 0, .int .u8 0, .int .u8 0, .int .u8 0, .int .u8 0, .int .u8 0].toList) h5.out.2.1 (by rw [List.size_toArray, netC_len _ hfit7.out.len]; decide))
          clear hr
          go_wp2_with (first
            | (refine wpList_load_mid rfl 25 (.tmp 7) rfl w3.heap.size 0 rfl (netC ({ n with bits := (k : Int) } : Nt)) _ ?_ Tryz.underlying25 rfl hZ.out ?_; exact range_of h5.out.2.2.1 fun j v hv => by simpa using hv)
            | (refine wpList_store_mid rfl 25 (.tmp 2) (.tmp 44) rfl w.heap.size 0 (netC ({ n with bits := (k : Int) } : Nt)).toArray rfl rfl ?_ (by rw [List.size_toArray]; exact hZ.out) (netC_one _) ?_; exact hT.out))
          have hl2 := run_loadVar_mid (P := Tryz.prog) (w5.setCells w.heap.size 0 (netC ({ n with bits := (k : Int) } : Nt))) w.heap.size 0 25 (netC ({ n with bits := (k : Int) } : Nt)) _
            (World.rangeAt_setCells_same _ _ _ _ (by simpa using hT.out)) Tryz.underlying25 rfl hZ.out
          refine bodyPost_ret (v := .tuple #[netV ({ n with bits := (k : Int) } : Nt), .int .i64 0]) (by simp [results, Tryz.results12, asAddr, hl2, netV]) rfl ⟨by rw [HQ.out]; rfl, ?_⟩
          exact Bel.setCells (Nat.le_refl _) _ _ _ h5.out.1
end Go.Proofs.YtpmmaickjolimaaGreatDoor.Ci

/- One element more at a row of one's own; the reference's split. -/
namespace Go.Proofs.YtpmmaickjolimaaGreatDoor.Ci
open Go.RowKit

theorem wpList_push {P : Program} {a0 W : World} {ops : Array Oper} {rest : List Oper} {o : Oper} {a : Act} {Q : Exit → Act → World → Prop} (hgd : o.guard = none) (s x : Operand) (t : TypeId)
    (ho : o.op = .call { callee := .builtin .append, args := #[s, x], argTypes := #[t, t] })
    (e : TypeId) (z : Value) (size bytes : Nat) (ht : P.underlying t = some (.slice e)) (hi : (P.info? e).map (fun i => (i.zero, i.size, i.bytes)) = some (some z, size, bytes)) (hzs : z.cells.size = size) (hsz : 0 < size)
    (v : Value) (n : Nat) (xs : List Value) (hs : a.eval s = v) (hown : W.ownsRow a0.heap.size e size v n xs) (hb : Bel a0 W)
    (c : Array Value) (hx : a.eval x = .slice (some ⟨W.heap.size, 0, none⟩) 1 1) (hc : c.size = size) (h1 : ∀ u ∈ c.toList, u.oneCell' = true) (hm : n + 1 ≤ maxLen) (hbytes : (n + 1) * bytes ≤ 140737488355328)
    (h : ∀ x' p w', w'.ownsRow a0.heap.size e size (.slice x' (n + 1) p) (n + 1) (xs ++ c.toList) → Bel a0 w' → wpList P ops Q rest (a.put o.dst (.slice x' (n + 1 : Nat) p)) w') : wpList P ops Q (o :: rest) a (W.alloc (.cells c e)) := by
  obtain ⟨i, hi, j2, j3, j4⟩ := info_parts hi
  refine wpList_append_own _ hgd s x t ho a0.heap.size e i z size bytes ht hi j2 j3 j4 hzs hsz v n xs hs (hown.alloc _) ⟨W.heap.size, 0, none⟩ 1 1 c.toList hx (by rw [Array.length_toList, hc, Nat.one_mul]) ?_ h1 hm hbytes (by have := hb.size; rw [World.size_alloc]; omega) ?_
  · intro j u hu
    rw [addr_add, Nat.zero_add]
    have e := heap_alloc_new W (.cells c e)
    simp only [World.cell?, e]
    simpa using hu
  · intro v' w' h2 hg _
    obtain ⟨x', p, rfl, -, -⟩ := row_shape h2
    exact h x' p w' h2 ((hb.alloc _).grown hg (hown.alloc _))
theorem string_infos : (Tryz.prog.info? 9).map (fun i => (i.zero, i.size, i.bytes)) = some (some (.string ⟨#[]⟩), 1, 16) := by kernel_rfl
/-- A row of texts of one's own. -/
def Txts (a0 W : World) (v : Value) (ps : List ByteArray) : Prop := W.ownsRow a0.heap.size 9 1 v ps.length (ps.map Value.string)
theorem Txts.next {a0 W W' : World} {v : Value} {ps : List ByteArray} (h : Txts a0 W v ps) (hb : Bel W W') : Txts a0 W' v ps := own_bel h hb
theorem Txts.len {a0 W : World} {v : Value} {ps : List ByteArray} (h : Txts a0 W v ps) : ∃ x p, v = .slice x ps.length p := by
  obtain ⟨x, p, e, -, -⟩ := row_shape h
  exact ⟨x, p, e⟩
theorem Txts.at_ {a0 W : World} {x : Option Addr} {m p : Nat} {ps : List ByteArray} (h : Txts a0 W (.slice x m p) ps) (k : Nat) (hk : k < ps.length) : ∃ g, x = some ⟨g, 0, none⟩ ∧ W.cell? ⟨g, k, none⟩ = some (.string ps[k]) := by
  rcases h.2 with ⟨-, h0⟩ | ⟨g, cap, cur, e, -⟩
  · rw [h0] at hk; cases hk
  · cases e
    refine ⟨g, rfl, ?_⟩
    rw [World.ownsRow.cellAt h k (by omega)]
    simp [hk]
def SplitPost (c : UInt8) (s : ByteArray) (w : World) (e : Ending) (w' : World) : Prop := ∃ v ps, e = .returned v ∧ Txts w w' v ps ∧ ps.map (·.data.toList) = splitL c s.data.toList ∧ Bel w w'
/-- What is in hand. -/
structure SpI (c : UInt8) (l : List UInt8) (k f : Nat) (ps : List ByteArray) : Prop where
  le : f ≤ k
  num : ps.length ≤ k
  eq : ps.map (·.data.toList) ++ splitL c (l.drop f) = splitL c l
  not : c ∉ (l.drop f).take (k - f)
theorem SpI.more {c : UInt8} {l : List UInt8} {k f : Nat} {ps : List ByteArray} (h : SpI c l k f ps) (hk : k < l.length) (hn : l[k] ≠ c) : SpI c l (k + 1) f ps := by
  have := h.le
  refine ⟨by omega, by have := h.num; omega, h.eq, ?_⟩
  rw [show k + 1 - f = (k - f) + 1 by omega, List.take_succ_eq_append_getElem (by rw [List.length_drop]; omega)]
  intro f'
  rcases List.mem_append.1 f' with g | g
  · exact h.not g
  · rw [List.mem_singleton, List.getElem_drop] at g
    have e : l[f + (k - f)]'(by omega) = l[k] := by congr 1; omega
    rw [e] at g
    exact hn g.symm
theorem SpI.cut {c : UInt8} {l : List UInt8} {k f : Nat} {ps : List ByteArray} (h : SpI c l k f ps) (hk : k < l.length) (hn : l[k] = c) (p : ByteArray) (hp : p.data.toList = (l.drop f).take (k - f)) : SpI c l (k + 1) (k + 1) (ps ++ [p]) := by
  have hle := h.le
  have hnum := h.num
  refine ⟨Nat.le_refl _, by simp; omega, ?_, by simp⟩
  rw [← h.eq, List.map_append, List.append_assoc]
  congr 1
  have e : l.drop f = (l.drop f).take (k - f) ++ c :: l.drop (k + 1) := by
    rw [← hn]
    have h1 : l[k] :: l.drop (k + 1) = l.drop k := (List.drop_eq_getElem_cons hk).symm
    rw [h1]
    have h2 : l.drop k = (l.drop f).drop (k - f) := by rw [List.drop_drop]; congr 1; omega
    rw [h2, List.take_append_drop]
  rw [e, splitL_app c _ _ h.not, List.map_singleton, hp, List.singleton_append]
theorem SpI.done {c : UInt8} {l : List UInt8} {f : Nat} {ps : List ByteArray} (h : SpI c l l.length f ps) (p : ByteArray) (hp : p.data.toList = l.drop f) : (ps ++ [p]).map (·.data.toList) = splitL c l := by
  rw [← h.eq, List.map_append, List.map_singleton, hp]
  have := h.not
  rw [List.take_of_length_le (by rw [List.length_drop]; exact Nat.le_refl _)] at this
  rw [splitL_none c _ this]
set_option maxHeartbeats 2000000 in
set_option maxRecDepth 100000 in
theorem rsplit_run (s : ByteArray) (c : UInt8) (w : World) (hs : s.size < 4294967281) :
    Calls Tryz.prog 37 #[.string s, .int .u8 c.toNat] w (SplitPost c s w) := by
  have hl : s.data.toList.length = s.size := by rw [Lib.size_eq]
  have HL := hid hl
  have H0 := hid (show Bel w w ∧ Txts w w (.slice none 0 0) [] ∧ SpI c s.data.toList 0 0 [] from ⟨Bel.refl w, World.ownsRow_nil _ _ _ _, Nat.le_refl _, Nat.le_refl _, rfl, by simp⟩)
  clear hl
  go_enter Tryz.func37, Tryz.ntmps37
  go_wp2_with fail
  go_loopg [5, 6, 7] s.size (fun gg v5 v6 v7 wr => ∃ (ps : List ByteArray) (x5 : Option Addr) (p5 f k : Nat), v5 = .slice x5 ps.length p5 ∧ v6 = .int .i64 f ∧ v7 = .int .i64 k ∧ k + gg = s.size ∧ f ≤ k ∧ ps.length ≤ k ∧ Hid (Bel w wr ∧ Txts w wr (.slice x5 ps.length p5) ps ∧ SpI c s.data.toList k f ps))
  case atStart => exact ⟨[], none, 0, 0, 0, rfl, rfl, rfl, by omega, Nat.le_refl _, Nat.le_refl _, H0⟩
  case round =>
    clear H0
    obtain ⟨ps, x5, p5, f, k, rfl, rfl, rfl, hk, hf, hnum, H⟩ := hrel
    have Hk := hid hk
    have hks : k ≤ s.size := by omega
    clear hk
    by_cases hlt : k < s.size
    · have HC := hid (show s.data.toList[k]'(by rw [HL.out]; exact hlt) = s[k] from rfl)
      by_cases hc : s[k] = c
      · have bc : (((s[k]'hlt).toNat : Int) == (c.toNat : Int)) = true := by rw [hc]; simp
        have HX := hid (H.out.2.2.cut (by rw [HL.out]; exact hlt) (HC.out.trans hc) (s.extract f k) (Lib.extract_data s f k))
        clear hc
        go_wp2_with (at_builtin; refine wpList_push (a0 := w) (W := wr) rfl (.tmp 19) (.tmp 24) 46 rfl 9 (.string ⟨#[]⟩) 1 16 Tryz.underlying46 string_infos rfl (by decide) (.slice x5 ps.length p5) ps.length (ps.map Value.string) rfl H.out.2.1 H.out.1 #[.string (s.extract f k)] rfl rfl (by intro u hu; simp at hu; subst hu; rfl) (by unfold maxLen; omega) (by omega) ?_; intro x' p' w' hown hb)
        have HN := hid (show Bel w w' ∧ Txts w w' (.slice x' (ps ++ [s.extract f k]).length p') (ps ++ [s.extract f k]) ∧ SpI c s.data.toList (k + 1) (k + 1) (ps ++ [s.extract f k]) from ⟨hb, (by unfold Txts; rw [List.map_append, List.length_append]; exact hown), HX.out⟩)
        clear H hown hb HX
        go_wp2_with fail
        go_roundg (gk - 1)
        case measure => have := Hk.out; omega
        case rel => exact ⟨ps ++ [s.extract f k], x', p', k + 1, k + 1, by rw [List.length_append]; rfl, by go_num, by go_num, by have := Hk.out; omega, Nat.le_refl _, by rw [List.length_append]; show ps.length + 1 ≤ _; omega, HN⟩
      · have bc : (((s[k]'hlt).toNat : Int) == (c.toNat : Int)) = false := by
          rw [beq_eq_false_iff_ne]
          intro g
          exact hc (UInt8.toNat_inj.1 (by omega))
        have HN := hid (show Bel w wr ∧ Txts w wr (.slice x5 ps.length p5) ps ∧ SpI c s.data.toList (k + 1) f ps from ⟨H.out.1, H.out.2.1, H.out.2.2.more (by rw [HL.out]; exact hlt) (fun g => hc (HC.out.symm.trans g))⟩)
        clear hc H
        go_wp2_with fail
        go_roundg (gk - 1)
        case measure => have := Hk.out; omega
        case rel => exact ⟨ps, x5, p5, f, k + 1, rfl, rfl, by go_num, by have := Hk.out; omega, by omega, by omega, HN⟩
    · obtain rfl : k = s.size := by omega
      have HX := hid ((show SpI c s.data.toList s.data.toList.length f ps by rw [HL.out]; exact H.out.2.2).done (s.extract f s.size) (Lib.extract_to_end s f))
      go_wp2_with (at_builtin; refine wpList_push (a0 := w) (W := wr) rfl (.tmp 28) (.tmp 32) 46 rfl 9 (.string ⟨#[]⟩) 1 16 Tryz.underlying46 string_infos rfl (by decide) (.slice x5 ps.length p5) ps.length (ps.map Value.string) rfl H.out.2.1 H.out.1 #[.string (s.extract f s.size)] rfl rfl (by intro u hu; simp at hu; subst hu; rfl) (by unfold maxLen; omega) (by omega) ?_; intro x' p' w' hown hb)
      go_wp2_with fail
      go_ret
      refine ⟨_, ps ++ [s.extract f s.size], rfl, ?_, HX.out, hb⟩
      unfold Txts
      rw [List.map_append, List.length_append]
      exact hown
end Go.Proofs.YtpmmaickjolimaaGreatDoor.Ci
