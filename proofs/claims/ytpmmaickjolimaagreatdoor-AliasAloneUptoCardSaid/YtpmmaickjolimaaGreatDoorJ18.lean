/- Walks of table: Join, with slices.Clone and slices.DeleteFunc of pointers to tables. -/
import Derived.Test.YtpmmaickjolimaaGreatDoorJ13
import Derived.Lib.SliceRun
namespace Go.Proofs.YtpmmaickjolimaaGreatDoor.Tb
open Go.RowKit
open Ci (Bel hid own_bel row_shape own_base addr_add)

theorem list_of {α : Type} {P : Nat → α → Prop} : ∀ n : Nat, (∀ k, k < n → ∃ a, P k a) → ∃ l : List α, l.length = n ∧ ∀ k (hk : k < l.length), P k l[k]
  | 0, _ => ⟨[], rfl, fun k hk => absurd hk (Nat.not_lt_zero _)⟩
  | n + 1, h => by
    obtain ⟨l, hl, hp⟩ := list_of n fun k hk => h k (by omega)
    obtain ⟨a, ha⟩ := h n (Nat.lt_succ_self n)
    refine ⟨l ++ [a], by simp [hl], fun k hk => ?_⟩
    by_cases e : k < l.length
    · rw [List.getElem_append_left e]; exact hp k e
    · have : k = n := by simp at hk; omega
      subst this
      rw [List.getElem_append_right (by omega)]
      simpa using ha
def ptrs (ps : List (Option Addr)) : List Value := ps.map Value.pointer
theorem ptr_infos : (Tryz.prog.info? 100).map (fun i => (i.zero, i.size, i.bytes)) = some (some (.pointer none), 1, 8) := by kernel_rfl
theorem tabs_of_row {W : World} {base n c : Nat} {x : Option Addr} {ps : List (Option Addr)} {ts : List (List En)} (h : W.ownsRow base 100 1 (.slice x n c) ps.length (ptrs ps)) (hl : ps.length = ts.length) (ht : ∀ k (hk : k < ps.length) (hk2 : k < ts.length), TabAt W ps[k] ts[k]) : Tabs W x ts := by
  refine ⟨?_⟩
  rcases h.2 with ⟨-, h0⟩ | ⟨g, cap, cur, e, -, hh, -⟩
  · exact .inl (List.eq_nil_of_length_eq_zero (by omega))
  · obtain ⟨rfl, rfl, rfl⟩ := Value.slice.inj e
    refine .inr ⟨g, 0, rfl, (Array.getElem?_eq_some_iff.1 hh).1, fun k hk => ⟨ps[k]'(by omega), ?_, ht k (by omega) hk⟩⟩
    rw [Nat.zero_add, World.ownsRow.cellAt h k (by omega)]
    unfold ptrs
    rw [List.getElem?_map, List.getElem?_eq_getElem (by omega)]; rfl
set_option maxHeartbeats 2000000 in
set_option maxRecDepth 100000 in
theorem pclone_run (x : Option Addr) (ts : List (List En)) (c : Nat) (w : World) (hT : Tabs w x ts) (hn : ts.length ≤ 8) (hx : ts = [] → x = none ∧ c = 0) :
    Calls Tryz.prog 106 #[.slice x ts.length c] w fun e w' => ∃ x' c', e = .returned (.slice x' ts.length c') ∧ Bel w w' ∧ Tabs w' x' ts := by
  cases ts with
  | nil =>
    obtain ⟨rfl, rfl⟩ := hx rfl
    have hT2 := hid hT
    clear hT hx
    show Calls _ _ #[.slice none 0 0] _ _
    have heq : ∀ w, (binOp .eql 99 (.slice none 0 0) (.slice none 0 0)).run Tryz.prog w = .ok (.bool true) w := fun w => Go.Lib.run_eql_slice_nil w 99 100 none 0 0 0 0 Tryz.underlying99
    go_enter Tryz.func106, Tryz.ntmps106
    go_wp2_with fail
    go_ret
    exact ⟨none, 0, rfl, Bel.refl w, hT2.out⟩
  | cons t ts =>
    rcases hT.at_ with f | ⟨b, o, rfl, hb, hp⟩
    · cases f
    obtain ⟨ps, hpl, hps⟩ := list_of (P := fun k p => ∀ hk : k < (t :: ts).length, w.cell? ⟨b, o + k, none⟩ = some (.pointer p) ∧ TabAt w p (t :: ts)[k]) (t :: ts).length fun k hk => by
      obtain ⟨p, h1, h2⟩ := hp k hk
      exact ⟨p, fun _ => ⟨h1, h2⟩⟩
    obtain ⟨i0, hi0, hz0, hz1, hz2⟩ := info_parts ptr_infos
    have HS := hid (show ∀ j u, (ptrs ps)[j]? = some u → w.cell? ((⟨b, o, none⟩ : Addr).add j) = some u from fun j u hj => by
      unfold ptrs at hj
      rw [List.getElem?_map] at hj
      obtain ⟨p, hp1, rfl⟩ := Option.map_eq_some_iff.1 hj
      obtain ⟨hl, rfl⟩ := List.getElem?_eq_some_iff.1 hp1
      rw [addr_add]
      exact (hps j hl (by omega)).1)
    have HT := hid (show ∀ k (hk : k < ps.length) (hk2 : k < (t :: ts).length), TabAt w ps[k] (t :: ts)[k] from fun k hk hk2 => (hps k hk hk2).2)
    have HPl := hid hpl
    have hn1 : (t :: ts).length = ts.length + 1 := rfl
    have HN := hid hn1
    have hlen : (ptrs ps).length = ps.length := by unfold ptrs; rw [List.length_map]
    have HO : Hid ((w.alloc (.cells #[] 100)).ownsRow w.heap.size 100 1 (.slice (some ⟨w.heap.size, 0, none⟩) 0 0) 0 []) := hid (World.ownsRow_made w #[] 0 (Nat.le_refl _) (by decide) rfl)
    have hone : ∀ u ∈ ptrs ps, u.oneCell' = true := fun u hu => by
      unfold ptrs at hu
      obtain ⟨p, -, rfl⟩ := List.mem_map.1 hu
      rfl
    have HOne := hid hone
    clear hT hx hp hps hone
    rw [← hpl] at hn ⊢
    generalize hm : ps.length = m at hn hlen ⊢
    have HM := hid hm
    clear hm hpl hn1
    have heq : ∀ w, (binOp .eql 99 (.slice (some ⟨b, o, none⟩) m c) (.slice none 0 0)).run Tryz.prog w = .ok (.bool false) w := fun w => Go.Lib.run_eql_slice_nil w 99 100 _ m c 0 0 Tryz.underlying99
    go_enter Tryz.func106, Tryz.ntmps106
    go_wp2_with (first | (at_builtin; refine wpList_append_own _ rfl _ _ 99 rfl w.heap.size 100 i0 _ 1 8 Tryz.underlying99 hi0 hz0 hz1 hz2 rfl (by decide) (.slice (some ⟨w.heap.size, 0, none⟩) 0 0) 0 [] rfl HO.out ⟨b, o, none⟩ m c (ptrs ps) rfl (by omega) ?c1 HOne.out ?c3 ?c4 ?c5 ?_))
    case c1 =>
      intro j u hj
      have h1 := HS.out j u hj
      rw [addr_add] at h1 ⊢
      exact (bel_cell ((Bel.refl w).alloc _) hb).trans h1
    case c3 => unfold maxLen; omega
    case c4 => omega
    case c5 => simp
    intro v' w2 hown hg _
    have HG := hid (And.intro hown hg)
    obtain ⟨x3, p3, rfl, q3, q4⟩ := row_shape hown
    clear hown hg
    go_wp2_with fail
    go_ret
    have hBw : Bel w w2 := Ci.Bel.grown ((Bel.refl w).alloc _) HG.out.2 HO.out
    refine ⟨x3, p3, rfl, hBw, tabs_of_row (ps := ps) (base := w.heap.size) (n := m) (c := p3) ?_ (by rw [HM.out, ← HPl.out, HM.out]) fun k hk hk2 => (HT.out k hk hk2).next hBw⟩
    rw [HM.out]
    exact HG.out.1
set_option maxRecDepth 100000 in
theorem nil_run (b : Nat) (w : World) : Calls Tryz.prog 107 #[.pointer (some ⟨b, 0, none⟩)] w fun e w' => e = .returned (.bool false) ∧ Bel w w' := by
  go_enter Tryz.func107, Tryz.ntmps107
  go_wp2_with fail
  go_ret
  exact ⟨rfl, Bel.refl w⟩
set_option maxHeartbeats 2000000 in
set_option maxRecDepth 100000 in
theorem nidx_run (x : Option Addr) (ts : List (List En)) (c : Nat) (w : World) (hT : Tabs w x ts) (hn : ts.length ≤ 8) :
    Calls Tryz.prog 158 #[.slice x ts.length c, .func (.func 107) #[] #[]] w fun e w' => e = .returned (.int .i64 (-1)) ∧ Bel w w' := by
  have HT := hid hT
  have eg : ∀ args w, (callFunc 107 args).run Tryz.prog w = .ok (.enter 107 args) w := enters_of Tryz.func107 (by kernel_rfl) rfl
  clear hT
  go_enter Tryz.func158, Tryz.ntmps158
  go_wp2_with fail
  go_loopg [8] ts.length (fun gg v8 wr => ∃ k : Nat, v8 = .int .i64 k ∧ k + gg = ts.length ∧ Hid (Bel w wr))
  case atStart => exact ⟨0, rfl, by omega, hid (Bel.refl w)⟩
  case round =>
    obtain ⟨k, rfl, hk, HB⟩ := hrel
    have Hk := hid hk
    have hkn : k ≤ ts.length := by omega
    clear hk
    by_cases hlt : k < ts.length
    · obtain ⟨b, o, p, rfl, c0, ht⟩ := (HT.out.next HB.out).place hlt
      obtain ⟨b2, -, -, rfl, -⟩ := ht.at_
      have HN := hid (nil_run b2 wr)
      go_wp2_with (first | (go_at_fn 107; refine HN.out.mono ?_; rintro e w2 ⟨rfl, hb2⟩))
      go_roundg (gk - 1)
      case measure => have := Hk.out; omega
      case rel => exact ⟨k + 1, by go_num, by have := Hk.out; omega, hid (HB.out.trans hb2)⟩
    · obtain rfl : k = ts.length := by omega
      go_wp2_with fail
      go_ret
      exact ⟨rfl, HB.out⟩
set_option maxRecDepth 100000 in
theorem pdel_run (x : Option Addr) (ts : List (List En)) (c : Nat) (w : World) (hT : Tabs w x ts) (hn : ts.length ≤ 8) :
    Calls Tryz.prog 105 #[.slice x ts.length c, .func (.func 107) #[] #[]] w fun e w' => e = .returned (.slice x ts.length c) ∧ Bel w w' := by
  have HI := hid (nidx_run x ts c w hT hn)
  clear hT hn
  generalize ts.length = n at HI ⊢
  go_enter Tryz.func105, Tryz.ntmps105
  go_wp2_with (first | (go_at_call 158; refine HI.out.mono ?_; rintro e w1 ⟨rfl, hb1⟩))
  go_ret
  exact ⟨rfl, hb1⟩
set_option maxHeartbeats 2000000 in
set_option maxRecDepth 100000 in
theorem tjoin_run (x : Option Addr) (ts : List (List En)) (c : Nat) (w : World) (hT : Tabs w x ts) (hn : ts.length ≤ 8) (hx : ts = [] → x = none ∧ c = 0) :
    Calls Tryz.prog 59 #[.slice x ts.length c] w fun e w' => ∃ a, e = .returned (.pointer a) ∧ Bel w w' ∧ ChAt w' a ts := by
  have HC := hid (pclone_run x ts c w hT hn hx)
  have HD := (show Hid (∀ W x c, Tabs W x ts → Calls Tryz.prog 105 #[.slice x ts.length c, .func (.func 107) #[] #[]] W fun e w' => e = .returned (.slice x ts.length c) ∧ Bel W w') from fun W x c hW => pdel_run x ts c W hW hn)
  clear hT hx
  go_enter Tryz.func59, Tryz.ntmps59
  go_wp2_with (first | (go_at_call 106; refine HC.out.mono ?_; rintro e w1 ⟨x1, c1, rfl, hb1, ht1⟩; have HB1 := hid hb1; have HT1 := hid ht1; clear hb1 ht1) | (go_at_call 105; refine (HD.out w1 x1 c1 HT1.out).mono ?_; rintro e w2 ⟨rfl, hb2⟩; have HB2 := hid hb2; clear hb2))
  go_ret
  exact ⟨_, rfl, (HB1.out.trans HB2.out).alloc _, ⟨_, x1, c1, rfl, heap_alloc_new w2 _, HT1.out.next (HB2.out.trans ((Bel.refl w2).alloc _))⟩, hn⟩
end Go.Proofs.YtpmmaickjolimaaGreatDoor.Tb
