/- Same, of two rows of ranges (seat ZD; the same lines as in Dh). -/
import Derived.Test.YtpmmaickjolimaaGreatDoorEn
import Derived.Test.YtpmmaickjolimaaGreatDoorCv
namespace Go.Proofs.YtpmmaickjolimaaGreatDoor.Ci
open Go.RowKit

/-- A slice of ranges. -/
structure Nets (W : World) (x : Option Addr) (Ls : List Nt) : Prop where
  fits : ∀ n ∈ Ls, n.Fits
  at_ : Ls = [] ∨ ∃ b o, x = some ⟨b, o, none⟩ ∧ b < W.heap.size ∧ ∀ k (hk : k < Ls.length), W.rangeAt b (o + k * 18) (netC Ls[k])
theorem Nets.next {W W' : World} {x : Option Addr} {Ls : List Nt} (h : Nets W x Ls) (hb : Bel W W') : Nets W' x Ls := by
  refine ⟨h.fits, ?_⟩
  rcases h.at_ with f | ⟨b, o, e, hs, f⟩
  · exact .inl f
  · exact .inr ⟨b, o, e, Nat.lt_of_lt_of_le hs hb.size, fun k hk j v hv => (hb.cell hs).trans (f k hk j v hv)⟩
theorem Nets.place {W : World} {x : Option Addr} {Ls : List Nt} (h : Nets W x Ls) {k : Nat} (hk : k < Ls.length) : ∃ b o, x = some ⟨b, o, none⟩ ∧ W.rangeAt b (o + k * 18) (netC Ls[k]) := by
  rcases h.at_ with f | ⟨b, o, e, -, f⟩
  · rw [f] at hk; cases hk
  · exact ⟨b, o, e, f k hk⟩
set_option maxHeartbeats 1000000 in
set_option maxRecDepth 100000 in
theorem same_run (Ls : List Nt) (x y : Option Addr) (c d : Nat) (hn : Ls.length ≤ 9223372036854775807) (w : World) (hL : Nets w x Ls) (hM : Nets w y Ls) :
    Calls Tryz.prog 16 #[.slice x Ls.length c, .slice y Ls.length d] w fun e w' => e = .returned (.bool true) ∧ Bel w w' := by
  have H0 := hid (And.intro (Bel.refl w) (And.intro hL hM))
  clear hL hM
  go_enter Tryz.func16, Tryz.ntmps16
  go_wp2_with fail
  go_loopg [5] Ls.length (fun gg v5 wr => ∃ k : Nat, v5 = .int .i64 k ∧ k + gg = Ls.length ∧ Hid (Bel w wr ∧ Nets wr x Ls ∧ Nets wr y Ls))
  case atStart => exact ⟨0, rfl, by omega, H0⟩
  case round =>
    clear H0
    obtain ⟨k, rfl, hk, H⟩ := hrel
    have Hk := hid hk
    have hkn : k ≤ Ls.length := by omega
    clear hk
    by_cases hlt : k < Ls.length
    · obtain ⟨b, o, rfl, -⟩ := H.out.2.1.place hlt
      obtain ⟨b2, o2, rfl, -⟩ := H.out.2.2.place hlt
      have hf := H.out.2.1.fits _ (List.getElem_mem hlt)
      have HRX := hid (fun p : Aft wr => show p.wd.rangeAt b (o + k * 18) (netC Ls[k]) from by
        obtain ⟨b3, o3, e, f⟩ := (H.out.2.1.next p.bel).place hlt
        cases e
        exact f)
      have HRY := hid (fun p : Aft wr => show p.wd.rangeAt b2 (o2 + k * 18) (netC Ls[k]) from by
        obtain ⟨b3, o3, e, f⟩ := (H.out.2.2.next p.bel).place hlt
        cases e
        exact f)
      generalize Ls[k] = m at HRX HRY hf
      have HZm := hid (net_len m hf.len)
      have qm : ∀ W : World, (Op.equalIn 10000 25 (.agg (netC m).toArray) (.agg (netC m).toArray)).run Tryz.prog W = .ok true W := fun W => eq_net m hf.len W
      have b8 : (0 : Int) ≤ (k : Int) := by omega
      have b9 : (k : Int) < (Ls.length : Int) := by omega
      clear hf
      go_wp2_with fail
      refine wp_region_aft (by kernel_rfl) (by kernel_rfl) ?_
      repeat (first
        | go_big_quiet_skip
        | (refine quiet_load_aft 25 _ rfl b (o + k * 18) rfl (netC m) _ HRX.out Tryz.underlying25 rfl HZm.out (by rfl) ?_; intro a' ha'; simp only [Act.put, Array.setIfInBounds, List.size_toArray, go_sem] at ha'; subst ha')
        | (refine quiet_load_aft 25 _ rfl b2 (o2 + k * 18) rfl (netC m) _ HRY.out Tryz.underlying25 rfl HZm.out (by rfl) ?_; intro a' ha'; simp only [Act.put, Array.setIfInBounds, List.size_toArray, go_sem] at ha'; subst ha')
        | go_big_quiet_step (fail)
        | quiet_step (fail))
      refine wpQuiet_nil ?_
      rintro _ ⟨p, rfl⟩
      have H1 := hid (And.intro (H.out.1.trans p.bel) (And.intro (H.out.2.1.next p.bel) (H.out.2.2.next p.bel)))
      clear H HRX HRY
      go_wp2_with fail
      go_roundg (gk - 1)
      case measure => have := Hk.out; omega
      case rel => exact ⟨k + 1, by go_num, by have := Hk.out; omega, H1⟩
    · obtain rfl : k = Ls.length := by omega
      go_wp2_with fail
      go_ret
      exact ⟨rfl, H.out.1⟩
theorem flat_at : ∀ (Ls : List Nt), (∀ n ∈ Ls, n.Fits) → ∀ k (hk : k < Ls.length) j v, (netC Ls[k])[j]? = some v → (Ls.flatMap netC)[k * 18 + j]? = some v
  | [], _, k, hk, _, _, _ => by cases hk
  | n :: Ls, h, 0, _, j, v, hv => by
    have hn : (netC n)[j]? = some v := hv
    have hj : j < (netC n).length := (List.getElem?_eq_some_iff.1 hn).1
    rw [List.flatMap_cons, Nat.zero_mul, Nat.zero_add, List.getElem?_append_left hj, hn]
  | n :: Ls, h, k + 1, hk, j, v, hv => by
    have hl := netC_len n (h n (by simp)).len
    rw [List.flatMap_cons, List.getElem?_append_right (by omega), hl, show (k + 1) * 18 + j - 18 = k * 18 + j by omega]
    exact flat_at Ls (fun m hm => h m (by simp [hm])) k (by simpa using hk) j v (by simpa using hv)
theorem NetRow.nets {w W : World} {v : Value} {ns : List Nt} (h : NetRow w W v ns) : ∃ x c, v = .slice x ns.length c ∧ Nets W x ns := by
  rcases h.2 with ⟨rfl, rfl⟩ | ⟨g, cap, cur, rfl, -, -, -, hg, ht, -⟩
  · exact ⟨none, 0, rfl, h.1, .inl rfl⟩
  · refine ⟨_, cap, rfl, h.1, .inr ⟨g, 0, rfl, (Array.getElem?_eq_some_iff.1 hg).1, fun k hk j u hu => ?_⟩⟩
    have := flat_at ns h.1 k hk j u hu
    rw [← ht, List.getElem?_take] at this
    split at this
    · rw [cell_of_row W g _ cur 25 (0, 0) hg, Nat.zero_add, ← Array.getElem?_toList]
      exact this
    · cases this
theorem NetRow.next {w W W' : World} {v : Value} {ns : List Nt} (h : NetRow w W v ns) (hb : Bel W W') : NetRow w W' v ns := by
  refine ⟨h.1, ?_⟩
  rcases h.2 with f | ⟨g, cap, cur, e, h1, h2, h3, hg, rest⟩
  · exact .inl f
  · exact .inr ⟨g, cap, cur, e, h1, h2, h3, hb.heap hg, rest⟩
end Go.Proofs.YtpmmaickjolimaaGreatDoor.Ci
