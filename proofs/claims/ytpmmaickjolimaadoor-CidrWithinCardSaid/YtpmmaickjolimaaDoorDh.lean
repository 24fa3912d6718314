/- Ranges in a row: Has, the reference's Has and Same. -/
import Derived.Test.YtpmmaickjolimaaDoorDg
namespace Go.Proofs.YtpmmaickjolimaaDoor.Ci
open Go.RowKit

/-- A slice of ranges. -/
structure Nets (W : World) (x : Option Addr) (Ls : List Nt) : Prop where
  fits : ∀ n ∈ Ls, n.Fits
  at_ : Ls = [] ∨ ∃ b o, x = some ⟨b, o, none⟩ ∧ b < W.heap.size ∧ ∀ k (hk : k < Ls.length), W.rangeAt b (o + k * 18) (netC Ls[k])
theorem Nets.next {W W' : World} {x : Option Addr} {Ls : List Nt} (h : Nets W x Ls) (hb : Bel W W') : Nets W' x Ls := by
  refine ⟨h.fits, ?_⟩
  rcases h.at_ with f | ⟨b, o, e, hs, f⟩
  · exact .inl f
  · exact .inr ⟨b, o, e, Nat.lt_of_lt_of_le hs hb.size, fun k hk j v hv => (hb.cell hs).trans (f k hk j v hv)⟩
theorem Nets.place {W : World} {x : Option Addr} {Ls : List Nt} (h : Nets W x Ls) {k : Nat} (hk : k < Ls.length) : ∃ b o, x = some ⟨b, o, none⟩ ∧ W.rangeAt b (o + k * 18) (netC Ls[k]) := by
  rcases h.at_ with f | ⟨b, o, e, -, f⟩
  · rw [f] at hk; cases hk
  · exact ⟨b, o, e, f k hk⟩
def hasFn (bx : Nat) : Value := .func (.func 30) #[] #[.pointer (some ⟨bx, 0, none⟩)]
set_option maxRecDepth 100000 in
theorem hasfn_run (a m : Nt) (ha : a.Fits) (hm : m.Fits) (bx : Nat) (w : World) (hb : w.heap[bx]? = some (.cells (netC a).toArray 24 (0, 0))) :
    Calls Tryd.prog 30 #[.agg (netC m).toArray, .pointer (some ⟨bx, 0, none⟩)] w fun e w' => e = .returned (.bool (withinQ a m)) ∧ Bel w w' := by
  have HX := (show Hid (∀ W, Calls Tryd.prog 13 #[.agg (netC a).toArray, .agg (netC m).toArray] W fun e w' => e = .returned (.bool (withinQ a m)) ∧ Bel W w') from fun W => within_run a m ha hm W)
  have HZa := hid (net_len a ha.len)
  have HZm := hid (net_len m hm.len)
  have h0 := hid (And.intro ((Bel.refl w).alloc (.cells (netC m).toArray 24)) (And.intro (((Bel.refl w).alloc (.cells (netC m).toArray 24)).heap hb) (heap_alloc_new w (.cells (netC m).toArray 24))))
  clear ha hm hb
  go_enter Tryd.func30, Tryd.ntmps30
  go_upto_region 1 with (fail)
  generalize w.alloc (.cells (netC m).toArray 24) = v0 at h0 ⊢
  go_wp2_with (first
    | (refine wpList_load_mid rfl 24 (.tmp 1) rfl bx 0 rfl (netC a) _ ?_ Tryd.underlying24 rfl HZa.out ?_; exact range_net h0.out.2.1)
    | (refine wpList_load_mid rfl 24 (.tmp 2) rfl w.heap.size 0 rfl (netC m) _ ?_ Tryd.underlying24 rfl HZm.out ?_; exact range_net h0.out.2.2))
  refine (HX.out _).mono ?_
  rintro e w1 ⟨rfl, hb1⟩
  go_wp2_with fail
  go_ret
  exact ⟨rfl, h0.out.1.trans hb1⟩

def hasQ (Ls : List Nt) (a : Nt) : Bool := Ls.any fun m => withinQ a m
def IdxPost (Ls : List Nt) (a : Nt) (w : World) (e : Ending) (w' : World) : Prop := (∃ r : Int, e = .returned (.int .i64 r) ∧ decide (0 ≤ r) = hasQ Ls a) ∧ Bel w w'
theorem any_take (Ls : List Nt) (a : Nt) (k : Nat) (hk : k < Ls.length) : ((Ls.take (k + 1)).any fun m => withinQ a m) = (((Ls.take k).any fun m => withinQ a m) || withinQ a Ls[k]) := by
  rw [List.take_succ_eq_append_getElem hk, List.any_append]
  simp
set_option maxHeartbeats 1000000 in
set_option maxRecDepth 100000 in
theorem indexfn_run (Ls : List Nt) (a : Nt) (ha : a.Fits) (x : Option Addr) (c bx : Nat) (hn : Ls.length ≤ 9223372036854775807) (w : World) (hL : Nets w x Ls) (hb : w.heap[bx]? = some (.cells (netC a).toArray 24 (0, 0))) :
    Calls Tryd.prog 40 #[.slice x Ls.length c, hasFn bx] w (IdxPost Ls a w) := by
  have H0 := hid (And.intro (Bel.refl w) (And.intro hL hb))
  have HA := hid ha
  unfold hasFn
  clear hL hb ha
  go_enter Tryd.func40, Tryd.ntmps40
  go_wp2_with fail
  go_loopg [8] Ls.length (fun gg v8 wr => ∃ k : Nat, v8 = .int .i64 k ∧ k + gg = Ls.length ∧ Hid (((Ls.take k).any fun m => withinQ a m) = false) ∧ Hid (Bel w wr ∧ Nets wr x Ls ∧ wr.heap[bx]? = some (.cells (netC a).toArray 24 (0, 0))))
  case atStart => exact ⟨0, rfl, by omega, hid (by simp), H0⟩
  case round =>
    clear H0
    obtain ⟨k, rfl, hk, HS, H⟩ := hrel
    have Hk := hid hk
    have hkn : k ≤ Ls.length := by omega
    clear hk
    by_cases hlt : k < Ls.length
    · obtain ⟨b, o, rfl, hr⟩ := H.out.2.1.place hlt
      have hf := H.out.2.1.fits _ (List.getElem_mem hlt)
      have hnx := any_take Ls a k hlt
      rw [HS.out, Bool.false_or] at hnx
      generalize Ls[k] = m at hr hf hnx
      have HR := hid hr
      have HZm := hid (net_len m hf.len)
      have HF := (show Hid (∀ W, W.heap[bx]? = some (.cells (netC a).toArray 24 (0, 0)) → Calls Tryd.prog 30 #[.agg (netC m).toArray, .pointer (some ⟨bx, 0, none⟩)] W fun e w' => e = .returned (.bool (withinQ a m)) ∧ Bel W w') from fun W h => hasfn_run a m HA.out hf bx W h)
      have HNX := hid hnx
      clear hr hf hnx
      generalize hwi : withinQ a m = r at HF HNX
      have HWI := hid hwi
      clear hwi
      go_wp2_with (first
        | (refine wpList_load_mid rfl 24 (.tmp 14) rfl b (o + k * 18) rfl (netC m) _ ?_ Tryd.underlying24 rfl HZm.out ?_; exact HR.out))
      refine (HF.out _ H.out.2.2).mono ?_
      rintro e w1 ⟨rfl, hb1⟩
      have H1 := hid (And.intro (H.out.1.trans hb1) (And.intro (H.out.2.1.next hb1) (hb1.heap H.out.2.2)))
      clear H hb1 HF HR
      cases r with
      | true =>
        have HQ := hid (show hasQ Ls a = true from by
          unfold hasQ
          have := HNX.out
          rw [List.any_eq_true] at this ⊢
          obtain ⟨y, hy, h⟩ := this
          exact ⟨y, List.mem_of_mem_take hy, h⟩)
        go_wp2_with fail
        go_ret
        exact ⟨⟨_, rfl, by rw [HQ.out]; exact decide_eq_true (by omega)⟩, H1.out.1⟩
      | false =>
        go_wp2_with fail
        go_roundg (gk - 1)
        case measure => have := Hk.out; omega
        case rel => exact ⟨k + 1, by go_num, by have := Hk.out; omega, HNX, H1⟩
    · obtain rfl : k = Ls.length := by omega
      have HQ := hid (show hasQ Ls a = false from by
        unfold hasQ
        have := HS.out
        rw [List.take_of_length_le (Nat.le_refl _)] at this
        exact this)
      go_wp2_with fail
      go_ret
      exact ⟨⟨_, rfl, by rw [HQ.out]; rfl⟩, H.out.1⟩

set_option maxRecDepth 100000 in
theorem contains_run (Ls : List Nt) (a : Nt) (ha : a.Fits) (x : Option Addr) (c bx : Nat) (hn : Ls.length ≤ 9223372036854775807) (w : World) (hL : Nets w x Ls) (hb : w.heap[bx]? = some (.cells (netC a).toArray 24 (0, 0))) :
    Calls Tryd.prog 29 #[.slice x Ls.length c, hasFn bx] w fun e w' => e = .returned (.bool (hasQ Ls a)) ∧ Bel w w' := by
  have HI := hid (indexfn_run Ls a ha x c bx hn w hL hb)
  clear hL hb
  go_enter Tryd.func29, Tryd.ntmps29
  go_wp2_with fail
  refine HI.out.mono ?_
  rintro e w1 ⟨⟨r, rfl, hr⟩, hb1⟩
  have HR := hid hr
  clear hr
  go_wp2_with fail
  go_ret
  exact ⟨by rw [← HR.out]; rfl, hb1⟩
set_option maxRecDepth 100000 in
theorem has_run (Ls : List Nt) (a : Nt) (ha : a.Fits) (x : Option Addr) (c : Nat) (hn : Ls.length ≤ 9223372036854775807) (w : World) (hL : Nets w x Ls) :
    Calls Tryd.prog 14 #[.slice x Ls.length c, .agg (netC a).toArray] w fun e w' => e = .returned (.bool (hasQ Ls a)) ∧ Bel w w' := by
  have hx := (Bel.refl w).alloc (.cells (netC a).toArray 24)
  have HC := hid (contains_run Ls a ha x c w.heap.size hn _ (hL.next hx) (heap_alloc_new w (.cells (netC a).toArray 24)))
  have HX := hid hx
  unfold hasFn at HC
  clear hL hx
  go_enter Tryd.func14, Tryd.ntmps14
  go_wp2_with fail
  refine HC.out.mono ?_
  rintro e w1 ⟨rfl, hb1⟩
  go_wp2_with fail
  go_ret
  exact ⟨rfl, HX.out.trans hb1⟩
set_option maxHeartbeats 1000000 in
set_option maxRecDepth 100000 in
theorem rhas_run (Ls : List Nt) (a : Nt) (ha : a.Fits) (x : Option Addr) (c : Nat) (hn : Ls.length ≤ 9223372036854775807) (w : World) (hL : Nets w x Ls) :
    Calls Tryd.prog 17 #[.slice x Ls.length c, .agg (netC a).toArray] w fun e w' => e = .returned (.bool (hasQ Ls a)) ∧ Bel w w' := by
  have hx := (Bel.refl w).alloc (.cells (netC a).toArray 24)
  have H0 := hid (And.intro hx (And.intro (hL.next hx) (heap_alloc_new w (.cells (netC a).toArray 24))))
  have HA := hid ha
  have HZa := hid (net_len a ha.len)
  clear hL ha hx
  go_enter Tryd.func17, Tryd.ntmps17
  go_wp2_with fail
  generalize w.alloc (.cells (netC a).toArray 24) = v0 at H0 ⊢
  go_loopg [5] Ls.length (fun gg v5 wr => ∃ k : Nat, v5 = .int .i64 k ∧ k + gg = Ls.length ∧ Hid (((Ls.take k).any fun m => withinQ a m) = false) ∧ Hid (Bel w wr ∧ Nets wr x Ls ∧ wr.heap[w.heap.size]? = some (.cells (netC a).toArray 24 (0, 0))))
  case atStart => exact ⟨0, rfl, by omega, hid (by simp), H0⟩
  case round =>
    clear H0
    obtain ⟨k, rfl, hk, HS, H⟩ := hrel
    have Hk := hid hk
    have hkn : k ≤ Ls.length := by omega
    clear hk
    by_cases hlt : k < Ls.length
    · obtain ⟨b, o, rfl, hr⟩ := H.out.2.1.place hlt
      have hf := H.out.2.1.fits _ (List.getElem_mem hlt)
      have hnx := any_take Ls a k hlt
      rw [HS.out, Bool.false_or] at hnx
      have HPL := hid (fun p : Aft wr => (H.out.2.1.next p.bel))
      have HRX := hid (fun p : Aft wr => show p.wd.rangeAt b (o + k * 18) (netC Ls[k]) from by
        obtain ⟨b2, o2, e, f⟩ := (H.out.2.1.next p.bel).place hlt
        cases e
        exact f)
      have HRA := hid (fun p : Aft wr => p.whole H.out.2.2)
      generalize Ls[k] = m at HRX hr hf hnx
      have HZm := hid (net_len m hf.len)
      have HF := (show Hid (∀ W, Calls Tryd.prog 16 #[.agg (netC a).toArray, .agg (netC m).toArray] W fun e w' => e = .returned (.bool (withinQ a m)) ∧ Bel W w') from fun W => rwithin_run a m HA.out hf W)
      have HNX := hid hnx
      clear hr hf hnx
      generalize hwi : withinQ a m = r at HF HNX
      have b8 : (0 : Int) ≤ (k : Int) := by omega
      have b9 : (k : Int) < (Ls.length : Int) := by omega
      clear hwi
      go_wp2_with fail
      refine wp_region_aft (by kernel_rfl) (by kernel_rfl) ?_
      repeat (first
        | go_big_quiet_skip
        | (refine quiet_load_aft 24 _ rfl w.heap.size 0 rfl (netC a) _ HRA.out Tryd.underlying24 rfl HZa.out (by rfl) ?_; intro a' ha'; simp only [Act.put, Array.setIfInBounds, List.size_toArray, go_sem] at ha'; subst ha')
        | (refine quiet_load_aft 24 _ rfl b (o + k * 18) rfl (netC m) _ HRX.out Tryd.underlying24 rfl HZm.out (by rfl) ?_; intro a' ha'; simp only [Act.put, Array.setIfInBounds, List.size_toArray, go_sem] at ha'; subst ha')
        | go_big_quiet_step ((go_at_call 16; exact Calls.aft (HF.out _)))
        | quiet_step ((go_at_call 16; exact Calls.aft (HF.out _))))
      refine wpQuiet_nil ?_
      rintro _ ⟨p, rfl⟩
      have H1 := hid (And.intro (H.out.1.trans p.bel) (And.intro (H.out.2.1.next p.bel) (p.bel.heap H.out.2.2)))
      clear H HF HPL HRX HRA
      cases r with
      | true =>
        have HQ := hid (show hasQ Ls a = true from by
          unfold hasQ
          have := HNX.out
          rw [List.any_eq_true] at this ⊢
          obtain ⟨y, hy, h⟩ := this
          exact ⟨y, List.mem_of_mem_take hy, h⟩)
        go_wp2_with fail
        go_ret
        exact ⟨by rw [HQ.out]; rfl, H1.out.1⟩
      | false =>
        go_wp2_with fail
        go_roundg (gk - 1)
        case measure => have := Hk.out; omega
        case rel => exact ⟨k + 1, by go_num, by have := Hk.out; omega, HNX, H1⟩
    · obtain rfl : k = Ls.length := by omega
      have HQ := hid (show hasQ Ls a = false from by
        unfold hasQ
        have := HS.out
        rw [List.take_of_length_le (Nat.le_refl _)] at this
        exact this)
      go_wp2_with fail
      go_ret
      exact ⟨by rw [HQ.out]; rfl, H.out.1⟩
set_option maxHeartbeats 1000000 in
set_option maxRecDepth 100000 in
theorem same_run (Ls : List Nt) (x y : Option Addr) (c d : Nat) (hn : Ls.length ≤ 9223372036854775807) (w : World) (hL : Nets w x Ls) (hM : Nets w y Ls) :
    Calls Tryd.prog 15 #[.slice x Ls.length c, .slice y Ls.length d] w fun e w' => e = .returned (.bool true) ∧ Bel w w' := by
  have H0 := hid (And.intro (Bel.refl w) (And.intro hL hM))
  clear hL hM
  go_enter Tryd.func15, Tryd.ntmps15
  go_wp2_with fail
  go_loopg [5] Ls.length (fun gg v5 wr => ∃ k : Nat, v5 = .int .i64 k ∧ k + gg = Ls.length ∧ Hid (Bel w wr ∧ Nets wr x Ls ∧ Nets wr y Ls))
  case atStart => exact ⟨0, rfl, by omega, H0⟩
  case round =>
    clear H0
    obtain ⟨k, rfl, hk, H⟩ := hrel
    have Hk := hid hk
    have hkn : k ≤ Ls.length := by omega
    clear hk
    by_cases hlt : k < Ls.length
    · obtain ⟨b, o, rfl, -⟩ := H.out.2.1.place hlt
      obtain ⟨b2, o2, rfl, -⟩ := H.out.2.2.place hlt
      have hf := H.out.2.1.fits _ (List.getElem_mem hlt)
      have HRX := hid (fun p : Aft wr => show p.wd.rangeAt b (o + k * 18) (netC Ls[k]) from by
        obtain ⟨b3, o3, e, f⟩ := (H.out.2.1.next p.bel).place hlt
        cases e
        exact f)
      have HRY := hid (fun p : Aft wr => show p.wd.rangeAt b2 (o2 + k * 18) (netC Ls[k]) from by
        obtain ⟨b3, o3, e, f⟩ := (H.out.2.2.next p.bel).place hlt
        cases e
        exact f)
      generalize Ls[k] = m at HRX HRY hf
      have HZm := hid (net_len m hf.len)
      have qm : ∀ W : World, (Op.equalIn 10000 24 (.agg (netC m).toArray) (.agg (netC m).toArray)).run Tryd.prog W = .ok true W := fun W => eq_net m hf.len W
      have b8 : (0 : Int) ≤ (k : Int) := by omega
      have b9 : (k : Int) < (Ls.length : Int) := by omega
      clear hf
      go_wp2_with fail
      refine wp_region_aft (by kernel_rfl) (by kernel_rfl) ?_
      repeat (first
        | go_big_quiet_skip
        | (refine quiet_load_aft 24 _ rfl b (o + k * 18) rfl (netC m) _ HRX.out Tryd.underlying24 rfl HZm.out (by rfl) ?_; intro a' ha'; simp only [Act.put, Array.setIfInBounds, List.size_toArray, go_sem] at ha'; subst ha')
        | (refine quiet_load_aft 24 _ rfl b2 (o2 + k * 18) rfl (netC m) _ HRY.out Tryd.underlying24 rfl HZm.out (by rfl) ?_; intro a' ha'; simp only [Act.put, Array.setIfInBounds, List.size_toArray, go_sem] at ha'; subst ha')
        | go_big_quiet_step (fail)
        | quiet_step (fail))
      refine wpQuiet_nil ?_
      rintro _ ⟨p, rfl⟩
      have H1 := hid (And.intro (H.out.1.trans p.bel) (And.intro (H.out.2.1.next p.bel) (H.out.2.2.next p.bel)))
      clear H HRX HRY
      go_wp2_with fail
      go_roundg (gk - 1)
      case measure => have := Hk.out; omega
      case rel => exact ⟨k + 1, by go_num, by have := Hk.out; omega, H1⟩
    · obtain rfl : k = Ls.length := by omega
      go_wp2_with fail
      go_ret
      exact ⟨rfl, H.out.1⟩
end Go.Proofs.YtpmmaickjolimaaDoor.Ci
