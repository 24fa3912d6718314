/- Parse. -/
import Derived.Test.YtpmmaickjolimaaGreatDoorCa
namespace Go.Proofs.YtpmmaickjolimaaGreatDoor.Ci
open Go.RowKit

def slash : ByteArray := ⟨#[47]⟩
def onlyRight (n : Nt) : Option Nt := if rightQ n then some n else none
/-- The range that a text tells. -/
def parseQ (s : List UInt8) : Option Nt :=
  (addrQ (Lib.cut s [47]).1).bind fun n => if (Lib.cut s [47]).2.2 then (numL (Lib.cut s [47]).2.1).bind fun k => onlyRight { n with bits := k } else onlyRight n
theorem allB_lt : ∀ (ps : List (List UInt8)) (l : List Nat), allB ps = some l → l.length = ps.length ∧ ∀ x ∈ l, x < 256
  | [], l, h => by
    obtain rfl := Option.some.inj h
    exact ⟨rfl, by simp⟩
  | p :: ps, l, h => by
    unfold allB at h
    split at h
    · rename_i v vs hv hvs
      obtain rfl := Option.some.inj h
      have ih := allB_lt ps vs hvs
      refine ⟨by simp [ih.1], fun g hg => ?_⟩
      rcases List.mem_cons.1 hg with rfl | hg
      · unfold byteL at hv
        split at hv
        · split at hv
          · rename_i hc
            have := Option.some.inj hv
            omega
          · cases hv
        · cases hv
      · exact ih.2 g hg
    · cases h
theorem sixL_len {s : List UInt8} {gs : List Nat} (h : sixL s = some gs) : gs.length = 8 ∧ ∀ g ∈ gs, g < 65536 := by
  unfold sixL at h
  split at h
  · rename_i a b ha hb
    have la := groupsL_lt ha
    have lb := groupsL_lt hb
    split at h
    · split at h
      · obtain rfl := Option.some.inj h
        refine ⟨by simp; omega, fun g hg => ?_⟩
        rcases List.mem_append.1 hg with hg | hg
        · rcases List.mem_append.1 hg with hg | hg
          · exact la.2 g hg
          · obtain ⟨-, rfl⟩ := List.mem_replicate.1 hg
            decide
        · exact lb.2 g hg
      · cases h
    · split at h
      · rename_i h8
        obtain rfl := Option.some.inj h
        exact ⟨h8, la.2⟩
      · cases h
  · cases h
theorem wpList_load_wanted {P : Program} {ops : Array Oper} {rest : List Oper} {op : Oper} {a : Act} {w : World} {Q : Exit → Act → World → Prop} (ty : TypeId) (x : Operand) (ho : op.op = .load ty x)
    (b o : Nat) (hx : a.eval x = .pointer (some ⟨b, o, none⟩)) (cs : List Value) (d : TypeDesc) (hc : w.rangeAt b o cs)
    (hu : P.underlying ty = some d) (hd : d.isRow = true) (hi : (P.info? ty).map (·.size) = some cs.length) (hw : Region.wanted op (yielded ops a.tmps) = true)
    (h : wpList P ops Q rest (a.put op.dst (.agg cs.toArray)) w) : wpList P ops Q (op :: rest) a w :=
  wpList_step fun K hK => by rw [if_pos hw]; exact wp_load_mid ty x ho b o hx cs d hc hu hd hi (hK _ _ h)
theorem numL_lt {l : List UInt8} {k : Nat} (h : numL l = some k) : k < 1000 := by
  have := numQ_eq ⟨l.toArray⟩
  rw [mkB, h] at this
  have h2 := numQ_range this
  have h3 : Int.ofNat k = (k : Int) := rfl
  omega
theorem addrQ_fits {s : List UInt8} {n : Nt} (h : addrQ s = some n) : n.Fits ∧ (n.six = false → n.bits = 32) := by
  unfold addrQ at h
  cases h4 : fourN' s with
  | some m =>
    rw [h4] at h
    obtain rfl := Option.some.inj h
    unfold fourN' at h4
    obtain ⟨l, hl, rfl⟩ := Option.map_eq_some_iff.1 h4
    unfold fourT at hl
    split at hl
    · rename_i h4l
      have := allB_lt _ _ hl
      refine ⟨⟨by show (-9223372036854775808 : Int) ≤ 32; decide, by show (32 : Int) ≤ _; decide, by simp [this.1, h4l], fun x hx => ?_⟩, fun _ => rfl⟩
      rcases List.mem_append.1 hx with hx | hx
      · exact this.2 x hx
      · obtain ⟨-, rfl⟩ := List.mem_replicate.1 hx
        decide
    · cases hl
  | none =>
    rw [h4] at h
    have h : sixQ s = some n := h
    unfold sixQ at h
    obtain ⟨gs, hg, rfl⟩ := Option.map_eq_some_iff.1 h
    have := sixL_len hg
    exact ⟨⟨by show (-9223372036854775808 : Int) ≤ 128; decide, by show (128 : Int) ≤ _; decide, by show (bytesL gs).length = 16; rw [bytesL_len, this.1], bytesL_lt gs this.2⟩, fun f => by cases f⟩
set_option maxHeartbeats 2000000 in
set_option maxRecDepth 100000 in
theorem parse_run (s : ByteArray) (w : World) (hw : Lay w) (hs : s.size < 4294967281) :
    Calls Tryz.prog 12 #[.string s] w fun e w' => e = .returned (.tuple #[netV ((parseQ s.data.toList).getD zeroN), .int .i64 (errQ (parseQ s.data.toList))]) ∧ Bel w w' := by
  have HC := (show Hid (∀ W, Lay W → Calls Tryz.prog 34 #[.string s, .string slash] W fun e w' => e = .returned (.tuple #[.string ⟨(Lib.cut s.data.toList [47]).1.toArray⟩, .string ⟨(Lib.cut s.data.toList [47]).2.1.toArray⟩, .bool (Lib.cut s.data.toList [47]).2.2]) ∧ Bel W w') from fun W hW => cut_str_run s slash W hW hs)
  have hcl := cut_len s.data.toList [47]
  have hq : parseQ s.data.toList = (addrQ (Lib.cut s.data.toList [47]).1).bind fun n => if (Lib.cut s.data.toList [47]).2.2 then (numL (Lib.cut s.data.toList [47]).2.1).bind fun k => onlyRight { n with bits := k } else onlyRight n := rfl
  rw [← Lib.size_eq] at hcl
  generalize parseQ s.data.toList = o at hq ⊢
  generalize Lib.cut s.data.toList [47] = c at HC hcl hq
  obtain ⟨hd, tl, is⟩ := c
  simp only at HC hcl hq
  have HA := (show Hid (∀ W, Lay W → Calls Tryz.prog 10 #[.string ⟨hd.toArray⟩] W fun e w' => e = .returned (.tuple #[netV ((addrQ hd).getD zeroN), .int .i64 (errQ (addrQ hd))]) ∧ Bel W w') from fun W hW => addr_run ⟨hd.toArray⟩ W hW (by rw [Lib.size_eq, mkB]; omega))
  have HN := (show Hid (∀ W, Lay W → Calls Tryz.prog 35 #[.string ⟨tl.toArray⟩] W fun e w' => e = .returned (numV ((numL tl).map Int.ofNat)) ∧ Bel W w') from fun W hW => by rw [← mkB tl, ← numQ_eq]; exact number_run ⟨tl.toArray⟩ W hW (by rw [Lib.size_eq, mkB]; omega))
  have HF := hid (fun n (h : addrQ hd = some n) => addrQ_fits h)
  generalize addrQ hd = oa at HA HF hq
  generalize hnb : numL tl = ob at HN hq
  have HB := hid (show ∀ k, ob = some k → k < 1000 from fun k hk => by rw [← hnb] at hk; exact numL_lt hk)
  have HO := hid hq
  have HW := hid hw
  clear hq hw hcl hnb
  go_enter Tryz.func12, Tryz.ntmps12
  go_wp2_with fail
  have h0 := hid (And.intro ((Bel.refl w).alloc (.cells #[.bool false, .int .i64 0, .int .u8 0, .int .u8 0, .int .u8 0, .int .u8 0, .int .u8 0, .int .u8 0, .int .u8 0, .int .u8 0, .int .u8 0, .int .u8 0, .int .u8 0, .int .u8 0, .int .u8 0, .int .u8 0, .int .u8 0, .int .u8 0] 25)) (heap_alloc_new w (.cells #[.bool false, .int .i64 0, .int .u8 0, .int .u8 0, .int .u8 0, .int .u8 0, .int .u8 0, .int .u8 0, .int .u8 0, .int .u8 0, .int .u8 0, .int .u8 0, .int .u8 0, .int .u8 0, .int .u8 0, .int .u8 0, .int .u8 0, .int .u8 0] 25)))
  generalize w.alloc (.cells #[.bool false, .int .i64 0, .int .u8 0, .int .u8 0, .int .u8 0, .int .u8 0, .int .u8 0, .int .u8 0, .int .u8 0, .int .u8 0, .int .u8 0, .int .u8 0, .int .u8 0, .int .u8 0, .int .u8 0, .int .u8 0, .int .u8 0, .int .u8 0] 25) = w1 at h0 ⊢
  refine (HC.out _ (HW.out.next h0.out.1)).mono ?_
  rintro e w2 ⟨rfl, hb2⟩
  have h2 := hid (And.intro (h0.out.1.trans hb2) (hb2.heap h0.out.2))
  clear h0 hb2
  go_wp2_with fail
  refine (HA.out _ (HW.out.next h2.out.1)).mono ?_
  rintro e w3 ⟨rfl, hb3⟩
  have h3 := hid (And.intro (h2.out.1.trans hb3) (hb3.heap h2.out.2))
  clear h2 hb3 HC HA
  have hN : (oa.getD zeroN).Fits := by
    cases oa with
    | none => exact zeroN_fits
    | some n => exact (HF.out n rfl).1
  have HN0 := hid hN
  have hZ := hid (show (Tryz.prog.info? 25).map (·.size) = some (netC (oa.getD zeroN)).length by rw [netC_len _ HN0.out.len]; exact net_info)
  have hth := hid (show (w3.alloc (.cells #[.bool false, .int .i64 0, .int .u8 0, .int .u8 0, .int .u8 0, .int .u8 0, .int .u8 0, .int .u8 0, .int .u8 0, .int .u8 0, .int .u8 0, .int .u8 0, .int .u8 0, .int .u8 0, .int .u8 0, .int .u8 0, .int .u8 0, .int .u8 0] 25)).there w3.heap.size 0 (netC (oa.getD zeroN)).toArray.size from there_of (cs := #[.bool false, .int .i64 0, .int .u8 0, .int .u8 0, .int .u8 0, .int .u8 0, .int .u8 0, .int .u8 0, .int .u8 0, .int .u8 0, .int .u8 0, .int .u8 0, .int .u8 0, .int .u8 0, .int .u8 0, .int .u8 0, .int .u8 0, .int .u8 0].toList) (heap_alloc_new w3 _) (by rw [List.size_toArray, netC_len _ HN0.out.len]; decide))
  have h4 := hid (show Bel w ((w3.alloc (.cells #[.bool false, .int .i64 0, .int .u8 0, .int .u8 0, .int .u8 0, .int .u8 0, .int .u8 0, .int .u8 0, .int .u8 0, .int .u8 0, .int .u8 0, .int .u8 0, .int .u8 0, .int .u8 0, .int .u8 0, .int .u8 0, .int .u8 0, .int .u8 0] 25)).setCells w3.heap.size 0 (netC (oa.getD zeroN))) ∧ ((w3.alloc (.cells #[.bool false, .int .i64 0, .int .u8 0, .int .u8 0, .int .u8 0, .int .u8 0, .int .u8 0, .int .u8 0, .int .u8 0, .int .u8 0, .int .u8 0, .int .u8 0, .int .u8 0, .int .u8 0, .int .u8 0, .int .u8 0, .int .u8 0, .int .u8 0] 25)).setCells w3.heap.size 0 (netC (oa.getD zeroN))).heap[w.heap.size]? = some (.cells #[.bool false, .int .i64 0, .int .u8 0, .int .u8 0, .int .u8 0, .int .u8 0, .int .u8 0, .int .u8 0, .int .u8 0, .int .u8 0, .int .u8 0, .int .u8 0, .int .u8 0, .int .u8 0, .int .u8 0, .int .u8 0, .int .u8 0, .int .u8 0] 25 (0, 0)) ∧ ((w3.alloc (.cells #[.bool false, .int .i64 0, .int .u8 0, .int .u8 0, .int .u8 0, .int .u8 0, .int .u8 0, .int .u8 0, .int .u8 0, .int .u8 0, .int .u8 0, .int .u8 0, .int .u8 0, .int .u8 0, .int .u8 0, .int .u8 0, .int .u8 0, .int .u8 0] 25)).setCells w3.heap.size 0 (netC (oa.getD zeroN))).heap[w3.heap.size]? = some (.cells (netC (oa.getD zeroN)).toArray 25 (0, 0)) ∧ w.heap.size < w3.heap.size from by
    have hb := h3.out.1.alloc (.cells #[.bool false, .int .i64 0, .int .u8 0, .int .u8 0, .int .u8 0, .int .u8 0, .int .u8 0, .int .u8 0, .int .u8 0, .int .u8 0, .int .u8 0, .int .u8 0, .int .u8 0, .int .u8 0, .int .u8 0, .int .u8 0, .int .u8 0, .int .u8 0] 25)
    have hx := (Bel.refl w3).alloc (.cells #[.bool false, .int .i64 0, .int .u8 0, .int .u8 0, .int .u8 0, .int .u8 0, .int .u8 0, .int .u8 0, .int .u8 0, .int .u8 0, .int .u8 0, .int .u8 0, .int .u8 0, .int .u8 0, .int .u8 0, .int .u8 0, .int .u8 0, .int .u8 0] 25)
    have l1 := (Array.getElem?_eq_some_iff.1 h3.out.2).1
    exact ⟨Bel.setCells (by omega) _ _ _ hb, (heap_setCells_other _ _ (by omega) _ _ _).trans (hx.heap h3.out.2), heap_setCells_whole (cs := #[.bool false, .int .i64 0, .int .u8 0, .int .u8 0, .int .u8 0, .int .u8 0, .int .u8 0, .int .u8 0, .int .u8 0, .int .u8 0, .int .u8 0, .int .u8 0, .int .u8 0, .int .u8 0, .int .u8 0, .int .u8 0, .int .u8 0, .int .u8 0].toList) (heap_alloc_new w3 _) (by rw [netC_len _ HN0.out.len]; rfl), l1⟩)
  clear hN
  generalize hv : netV (oa.getD zeroN) = v0
  have hv0 : v0 = .agg (netC (oa.getD zeroN)).toArray := hv.symm
  clear hv
  subst hv0
  go_upto_region 3 with (first
    | (refine wpList_store_mid rfl 25 (.tmp 7) (.tmp 20) rfl w3.heap.size 0 (netC (oa.getD zeroN)).toArray rfl rfl ?_ (by rw [List.size_toArray]; exact hZ.out) (netC_one _) ?_; exact hth.out))
  generalize ((w3.alloc (.cells #[.bool false, .int .i64 0, .int .u8 0, .int .u8 0, .int .u8 0, .int .u8 0, .int .u8 0, .int .u8 0, .int .u8 0, .int .u8 0, .int .u8 0, .int .u8 0, .int .u8 0, .int .u8 0, .int .u8 0, .int .u8 0, .int .u8 0, .int .u8 0] 25)).setCells w3.heap.size 0 (netC (oa.getD zeroN))) = W at h4 ⊢
  clear hth h3 hZ
  cases oa with
  | none =>
    have ho : o = none := HO.out
    subst ho
    clear HN HF HB
    have hZz := hid (show (Tryz.prog.info? 25).map (·.size) = some (netC zeroN).length by rw [netC_len _ zeroN_fits.len]; exact net_info)
    have hT := hid (show W.there w.heap.size 0 (netC zeroN).toArray.size from there_of (cs := #[.bool false, .int .i64 0, .int .u8 0, .int .u8 0, .int .u8 0, .int .u8 0, .int .u8 0, .int .u8 0, .int .u8 0, .int .u8 0, .int .u8 0, .int .u8 0, .int .u8 0, .int .u8 0, .int .u8 0, .int .u8 0, .int .u8 0, .int .u8 0].toList) h4.out.2.1 (by rw [List.size_toArray]; exact Nat.le_of_eq (Nat.zero_add _)))
    go_wp2_with (first
      | (refine wpList_store_mid rfl 25 (.tmp 2) (.tmp 43) rfl w.heap.size 0 (netC zeroN).toArray rfl rfl ?_ (by rw [List.size_toArray]; exact hZz.out) (netC_one _) ?_; exact hT.out))
    have hl2 := run_loadVar_mid (P := Tryz.prog) (W.setCells w.heap.size 0 (netC zeroN)) w.heap.size 0 25 (netC zeroN) _
      (World.rangeAt_setCells_same _ _ _ _ (by simpa using hT.out)) Tryz.underlying25 rfl hZz.out
    refine bodyPost_ret (v := .tuple #[netV zeroN, .int .i64 70]) (by simp [results, Tryz.results12, asAddr, hl2, netV]) rfl ⟨rfl, ?_⟩
    exact Bel.setCells (Nat.le_refl _) _ _ _ h4.out.1
  | some n =>
    cases is with
    | false =>
      have hQ := hid (show o = onlyRight n from HO.out)
      have hfit := hid (HF.out n rfl).1
      have HR := (show Hid (∀ W, Calls Tryz.prog 36 #[.agg (netC n).toArray] W fun e w' => e = .returned (.bool (rightQ n)) ∧ Bel W w') from fun W => right_run n hfit.out W)
      have hZ := hid (show (Tryz.prog.info? 25).map (·.size) = some (netC n).length by rw [netC_len _ hfit.out.len]; exact net_info)
      go_wp2_with (first
        | (refine wpList_load_wanted 25 (.tmp 7) rfl w3.heap.size 0 rfl (netC n) _ ?_ Tryz.underlying25 rfl hZ.out (by rfl) ?_; exact range_of h4.out.2.2.1 fun j v hv => by simpa using hv))
      refine (HR.out _).mono ?_
      rintro e w5 ⟨rfl, hb5⟩
      have h5 := hid (show Bel w w5 ∧ w5.heap[w.heap.size]? = some (.cells #[.bool false, .int .i64 0, .int .u8 0, .int .u8 0, .int .u8 0, .int .u8 0, .int .u8 0, .int .u8 0, .int .u8 0, .int .u8 0, .int .u8 0, .int .u8 0, .int .u8 0, .int .u8 0, .int .u8 0, .int .u8 0, .int .u8 0, .int .u8 0] 25 (0, 0)) ∧ w5.heap[w3.heap.size]? = some (.cells (netC n).toArray 25 (0, 0)) ∧ w.heap.size < w3.heap.size from
        ⟨h4.out.1.trans hb5, hb5.heap h4.out.2.1, hb5.heap h4.out.2.2.1, h4.out.2.2.2⟩)
      clear hb5 h4 HR
      cases hr : rightQ n with
      | false =>
        have HQ := hid (show o = none from hQ.out.trans (by unfold onlyRight; rw [hr]; rfl))
        have hZz := hid (show (Tryz.prog.info? 25).map (·.size) = some (netC zeroN).length by rw [netC_len _ zeroN_fits.len]; exact net_info)
        have hT := hid (show w5.there w.heap.size 0 (netC zeroN).toArray.size from there_of (cs := #[.bool false, .int .i64 0, .int .u8 0, .int .u8 0, .int .u8 0, .int .u8 0, .int .u8 0, .int .u8 0, .int .u8 0, .int .u8 0, .int .u8 0, .int .u8 0, .int .u8 0, .int .u8 0, .int .u8 0, .int .u8 0, .int .u8 0, .int .u8 0].toList) h5.out.2.1 (by rw [List.size_toArray]; exact Nat.le_of_eq (Nat.zero_add _)))
        go_wp2_with (first
          | (refine wpList_store_mid rfl 25 (.tmp 2) (.tmp 43) rfl w.heap.size 0 (netC zeroN).toArray rfl rfl ?_ (by rw [List.size_toArray]; exact hZz.out) (netC_one _) ?_; exact hT.out))
        have hl2 := run_loadVar_mid (P := Tryz.prog) (w5.setCells w.heap.size 0 (netC zeroN)) w.heap.size 0 25 (netC zeroN) _
          (World.rangeAt_setCells_same _ _ _ _ (by simpa using hT.out)) Tryz.underlying25 rfl hZz.out
        refine bodyPost_ret (v := .tuple #[netV zeroN, .int .i64 70]) (by simp [results, Tryz.results12, asAddr, hl2, netV]) rfl ⟨by rw [HQ.out]; rfl, ?_⟩
        exact Bel.setCells (Nat.le_refl _) _ _ _ h5.out.1
      | true =>
        have HQ := hid (show o = some n from hQ.out.trans (by unfold onlyRight; rw [hr]; rfl))
        have hT := hid (show w5.there w.heap.size 0 (netC n).toArray.size from there_of (cs := #[.bool false, .int .i64 0, .int .u8 0, .int .u8 0, .int .u8 0, .int .u8 0, .int .u8 0, .int .u8 0, .int .u8 0, .int .u8 0, .int .u8 0, .int .u8 0, .int .u8 0, .int .u8 0, .int .u8 0, .int .u8 0, .int .u8 0, .int .u8 0].toList) h5.out.2.1 (by rw [List.size_toArray, netC_len _ hfit.out.len]; decide))
        clear hr
        go_wp2_with (first
          | (refine wpList_load_mid rfl 25 (.tmp 7) rfl w3.heap.size 0 rfl (netC n) _ ?_ Tryz.underlying25 rfl hZ.out ?_; exact range_of h5.out.2.2.1 fun j v hv => by simpa using hv)
          | (refine wpList_store_mid rfl 25 (.tmp 2) (.tmp 44) rfl w.heap.size 0 (netC n).toArray rfl rfl ?_ (by rw [List.size_toArray]; exact hZ.out) (netC_one _) ?_; exact hT.out))
        have hl2 := run_loadVar_mid (P := Tryz.prog) (w5.setCells w.heap.size 0 (netC n)) w.heap.size 0 25 (netC n) _
          (World.rangeAt_setCells_same _ _ _ _ (by simpa using hT.out)) Tryz.underlying25 rfl hZ.out
        refine bodyPost_ret (v := .tuple #[netV n, .int .i64 0]) (by simp [results, Tryz.results12, asAddr, hl2, netV]) rfl ⟨by rw [HQ.out]; rfl, ?_⟩
        exact Bel.setCells (Nat.le_refl _) _ _ _ h5.out.1
    | true =>
      have hfit := hid (HF.out n rfl).1
      go_wp2_with fail
      refine (HN.out _ (HW.out.next h4.out.1)).mono ?_
      rintro e w6 ⟨rfl, hb6⟩
      have h6 := hid (show Bel w w6 ∧ w6.heap[w.heap.size]? = some (.cells #[.bool false, .int .i64 0, .int .u8 0, .int .u8 0, .int .u8 0, .int .u8 0, .int .u8 0, .int .u8 0, .int .u8 0, .int .u8 0, .int .u8 0, .int .u8 0, .int .u8 0, .int .u8 0, .int .u8 0, .int .u8 0, .int .u8 0, .int .u8 0] 25 (0, 0)) ∧ w6.heap[w3.heap.size]? = some (.cells (netC n).toArray 25 (0, 0)) ∧ w.heap.size < w3.heap.size from
        ⟨h4.out.1.trans hb6, hb6.heap h4.out.2.1, hb6.heap h4.out.2.2.1, h4.out.2.2.2⟩)
      have hne : ¬ w.heap.size = w3.heap.size := by have := h6.out.2.2.2; omega
      clear h4 hb6 HN
      have hf6 : w6.frozen? ⟨w3.heap.size, 1, none⟩ = false := by simp [World.frozen?, h6.out.2.2.1]
      have hc6 : w6.cell? ⟨w3.heap.size, 1, none⟩ = some (.int .i64 n.bits) := by simp [World.cell?, h6.out.2.2.1, netC]
      have hst := hid (fun (k : Int) => show Bel w (w6.setCell ⟨w3.heap.size, 1, none⟩ (.int .i64 k)) ∧ (w6.setCell ⟨w3.heap.size, 1, none⟩ (.int .i64 k)).heap[w.heap.size]? = some (.cells #[.bool false, .int .i64 0, .int .u8 0, .int .u8 0, .int .u8 0, .int .u8 0, .int .u8 0, .int .u8 0, .int .u8 0, .int .u8 0, .int .u8 0, .int .u8 0, .int .u8 0, .int .u8 0, .int .u8 0, .int .u8 0, .int .u8 0, .int .u8 0] 25 (0, 0)) ∧ (w6.setCell ⟨w3.heap.size, 1, none⟩ (.int .i64 k)).heap[w3.heap.size]? = some (.cells (netC { n with bits := k }).toArray 25 (0, 0)) ∧ w.heap.size < w3.heap.size from
        ⟨h6.out.1.setCell (by have := h6.out.2.2.2; omega) _, (heap_setCell_other _ _ _ _ hne).trans h6.out.2.1, (heap_setCell_same _ _ _ _ _ _ h6.out.2.2.1).trans (by rw [List.setIfInBounds_toArray]; rfl), h6.out.2.2.2⟩)
      clear h6 hne
      cases ob with
      | none =>
        have HQ := hid (show o = none from HO.out)
        have h7 := hid (hst.out 0)
        have hv : numV (Option.map Int.ofNat none) = .tuple #[.int .i64 0, .bool false] := rfl
        rw [hv]
        clear hv hst HO HB HF hfit HN0
        have hZz := hid (show (Tryz.prog.info? 25).map (·.size) = some (netC zeroN).length by rw [netC_len _ zeroN_fits.len]; exact net_info)
        have hT := hid (show (w6.setCell ⟨w3.heap.size, 1, none⟩ (.int .i64 0)).there w.heap.size 0 (netC zeroN).toArray.size from there_of (cs := #[.bool false, .int .i64 0, .int .u8 0, .int .u8 0, .int .u8 0, .int .u8 0, .int .u8 0, .int .u8 0, .int .u8 0, .int .u8 0, .int .u8 0, .int .u8 0, .int .u8 0, .int .u8 0, .int .u8 0, .int .u8 0, .int .u8 0, .int .u8 0].toList) h7.out.2.1 (by rw [List.size_toArray]; exact Nat.le_of_eq (Nat.zero_add _)))
        go_wp2_with (first
          | (refine wpList_store_mid rfl 25 (.tmp 2) (.tmp 43) rfl w.heap.size 0 (netC zeroN).toArray rfl rfl ?_ (by rw [List.size_toArray]; exact hZz.out) (netC_one _) ?_; exact hT.out))
        have hl2 := run_loadVar_mid (P := Tryz.prog) ((w6.setCell ⟨w3.heap.size, 1, none⟩ (.int .i64 0)).setCells w.heap.size 0 (netC zeroN)) w.heap.size 0 25 (netC zeroN) _
          (World.rangeAt_setCells_same _ _ _ _ (by simpa using hT.out)) Tryz.underlying25 rfl hZz.out
        refine bodyPost_ret (v := .tuple #[netV zeroN, .int .i64 70]) (by simp [results, Tryz.results12, asAddr, hl2, netV]) rfl ⟨by rw [HQ.out]; rfl, ?_⟩
        exact Bel.setCells (Nat.le_refl _) _ _ _ h7.out.1
      | some k =>
        have hQ := hid (show o = onlyRight { n with bits := k } from HO.out)
        have h7 := hid (hst.out k)
        have hk := HB.out k rfl
        have hfit7 := hid (show ({ n with bits := k } : Nt).Fits from ⟨by show _ ≤ (k : Int); omega, by show (k : Int) ≤ _; omega, hfit.out.len, hfit.out.by_⟩)
        have hv : numV (Option.map Int.ofNat (some k)) = .tuple #[.int .i64 (k : Int), .bool true] := rfl
        rw [hv]
        clear hv hst HO HB HF hfit HN0
        have HR := (show Hid (∀ W, Calls Tryz.prog 36 #[.agg (netC ({ n with bits := (k : Int) } : Nt)).toArray] W fun e w' => e = .returned (.bool (rightQ ({ n with bits := (k : Int) } : Nt))) ∧ Bel W w') from fun W => right_run ({ n with bits := (k : Int) } : Nt) hfit7.out W)
        have hZ := hid (show (Tryz.prog.info? 25).map (·.size) = some (netC ({ n with bits := (k : Int) } : Nt)).length by rw [netC_len _ hfit7.out.len]; exact net_info)
        go_wp2_with (first
          | (refine wpList_load_wanted 25 (.tmp 7) rfl w3.heap.size 0 rfl (netC ({ n with bits := (k : Int) } : Nt)) _ ?_ Tryz.underlying25 rfl hZ.out (by rfl) ?_; exact range_of h7.out.2.2.1 fun j v hv => by simpa using hv))
        refine (HR.out _).mono ?_
        rintro e w5 ⟨rfl, hb5⟩
        have h5 := hid (show Bel w w5 ∧ w5.heap[w.heap.size]? = some (.cells #[.bool false, .int .i64 0, .int .u8 0, .int .u8 0, .int .u8 0, .int .u8 0, .int .u8 0, .int .u8 0, .int .u8 0, .int .u8 0, .int .u8 0, .int .u8 0, .int .u8 0, .int .u8 0, .int .u8 0, .int .u8 0, .int .u8 0, .int .u8 0] 25 (0, 0)) ∧ w5.heap[w3.heap.size]? = some (.cells (netC ({ n with bits := (k : Int) } : Nt)).toArray 25 (0, 0)) ∧ w.heap.size < w3.heap.size from
          ⟨h7.out.1.trans hb5, hb5.heap h7.out.2.1, hb5.heap h7.out.2.2.1, h7.out.2.2.2⟩)
        clear hb5 h7 HR
        cases hr : rightQ ({ n with bits := (k : Int) } : Nt) with
        | false =>
          have HQ := hid (show o = none from hQ.out.trans (by unfold onlyRight; rw [hr]; rfl))
          have hZz := hid (show (Tryz.prog.info? 25).map (·.size) = some (netC zeroN).length by rw [netC_len _ zeroN_fits.len]; exact net_info)
          have hT := hid (show w5.there w.heap.size 0 (netC zeroN).toArray.size from there_of (cs := #[.bool false, .int .i64 0, .int .u8 0, .int .u8 0, .int .u8 0, .int .u8 0, .int .u8 0, .int .u8 0, .int .u8 0, .int .u8 0, .int .u8 0, .int .u8 0, .int .u8 0, .int .u8 0, .int .u8 0, .int .u8 0, .int .u8 0, .int .u8 0].toList) h5.out.2.1 (by rw [List.size_toArray]; exact Nat.le_of_eq (Nat.zero_add _)))
          go_wp2_with (first
            | (refine wpList_store_mid rfl 25 (.tmp 2) (.tmp 43) rfl w.heap.size 0 (netC zeroN).toArray rfl rfl ?_ (by rw [List.size_toArray]; exact hZz.out) (netC_one _) ?_; exact hT.out))
          have hl2 := run_loadVar_mid (P := Tryz.prog) (w5.setCells w.heap.size 0 (netC zeroN)) w.heap.size 0 25 (netC zeroN) _
            (World.rangeAt_setCells_same _ _ _ _ (by simpa using hT.out)) Tryz.underlying25 rfl hZz.out
          refine bodyPost_ret (v := .tuple #[netV zeroN, .int .i64 70]) (by simp [results, Tryz.results12, asAddr, hl2, netV]) rfl ⟨by rw [HQ.out]; rfl, ?_⟩
          exact Bel.setCells (Nat.le_refl _) _ _ _ h5.out.1
        | true =>
          have HQ := hid (show o = some ({ n with bits := (k : Int) } : Nt) from hQ.out.trans (by unfold onlyRight; rw [hr]; rfl))
          have hT := hid (show w5.there w.heap.size 0 (netC ({ n with bits := (k : Int) } : Nt)).toArray.size from there_of (cs := #[.bool false, .int .i64 0, .int .u8 0, .int .u8 0, .int .u8 0, .int .u8 0, .int .u8 0, .int .u8 0, .int .u8 0, .int .u8 0, .int .u8 0, .int .u8 0, .int .u8 0, .int .u8 0, .int .u8 0, .int .u8 0, .int .u8 0, .int .u8 0].toList) h5.out.2.1 (by rw [List.size_toArray, netC_len _ hfit7.out.len]; decide))
          clear hr
          go_wp2_with (first
            | (refine wpList_load_mid rfl 25 (.tmp 7) rfl w3.heap.size 0 rfl (netC ({ n with bits := (k : Int) } : Nt)) _ ?_ Tryz.underlying25 rfl hZ.out ?_; exact range_of h5.out.2.2.1 fun j v hv => by simpa using hv)
            | (refine wpList_store_mid rfl 25 (.tmp 2) (.tmp 44) rfl w.heap.size 0 (netC ({ n with bits := (k : Int) } : Nt)).toArray rfl rfl ?_ (by rw [List.size_toArray]; exact hZ.out) (netC_one _) ?_; exact hT.out))
          have hl2 := run_loadVar_mid (P := Tryz.prog) (w5.setCells w.heap.size 0 (netC ({ n with bits := (k : Int) } : Nt))) w.heap.size 0 25 (netC ({ n with bits := (k : Int) } : Nt)) _
            (World.rangeAt_setCells_same _ _ _ _ (by simpa using hT.out)) Tryz.underlying25 rfl hZ.out
          refine bodyPost_ret (v := .tuple #[netV ({ n with bits := (k : Int) } : Nt), .int .i64 0]) (by simp [results, Tryz.results12, asAddr, hl2, netV]) rfl ⟨by rw [HQ.out]; rfl, ?_⟩
          exact Bel.setCells (Nat.le_refl _) _ _ _ h5.out.1
end Go.Proofs.YtpmmaickjolimaaGreatDoor.Ci
