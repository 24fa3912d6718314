/- The reference's form of an address of IPv6. -/
import Derived.Test.YtpmmaickjolimaaDoorDb
namespace Go.Proofs.YtpmmaickjolimaaDoor.Ci
open Go.RowKit

def intV (n : Nat) : Value := .int .i64 (n : Int)
def gC (gs : List Nat) (k : Nat) : List Value := (gs.take k).map intV ++ List.replicate (8 - k) (.int .i64 0)
theorem gC_set (gs : List Nat) (k : Nat) (hk : k < 8) (hl : k < gs.length) : (gC gs k).set k (intV gs[k]) = gC gs (k + 1) := by
  unfold gC
  have h1 : ((gs.take k).map intV).length = k := by simp; omega
  rw [List.set_append_right _ _ (by omega), h1, Nat.sub_self, (by omega : 8 - k = (8 - (k + 1)) + 1), List.replicate_succ, List.set_cons_zero, List.take_succ_eq_append_getElem hl, List.map_append, List.append_assoc]
  rfl
/-- The memory of the reference's form in hand. -/
structure RefW (w wr : World) (l gs : List Nat) (k : Nat) : Prop where
  bel : Bel w wr
  hc : wr.heap[w.heap.size]? = some (.cells (l.map u8V).toArray 22 (0, 0))
  hg : wr.heap[w.heap.size + 1]? = some (.cells (gC gs k).toArray 3 (0, 0))
theorem RefW.next {w wr w' : World} {l gs : List Nat} {k : Nat} (h : RefW w wr l gs k) (hx : Bel wr w') : RefW w w' l gs k := ⟨h.bel.trans hx, hx.heap h.hc, hx.heap h.hg⟩
theorem RefW.drew {w wr : World} {l gs : List Nat} {k : Nat} (h : RefW w wr l gs k) : RefW w wr.drew l gs k := ⟨h.bel.drew, h.hc, h.hg⟩
theorem RefW.set {w wr : World} {l gs : List Nat} {k : Nat} (h : RefW w wr l gs k) (hk : k < 8) (hl : k < gs.length) : RefW w (wr.setCell ⟨w.heap.size + 1, k, none⟩ (.int .i64 (gs[k] : Int))) l gs (k + 1) := by
  refine ⟨h.bel.setCell (by omega) _, ?_, ?_⟩
  · rw [heap_setCell_other _ _ _ _ (by simp)]
    exact h.hc
  · rw [heap_setCell_same wr _ _ _ _ _ h.hg, List.setIfInBounds_toArray]
    have := gC_set gs k hk hl
    unfold intV at this
    rw [this]
theorem RefW.byte {w wr : World} {l gs : List Nat} {k : Nat} (h : RefW w wr l gs k) {i x : Nat} (hx : l[i]? = some x) : wr.cell? ⟨w.heap.size, i, none⟩ = some (.int .u8 (x : Int)) := by simp [World.cell?, h.hc, u8V, hx]
theorem RefW.place {w W : World} {l gs : List Nat} {k : Nat} (h : RefW w W l gs k) (hk : k < 8) (hl : k ≤ gs.length) : W.cell? ⟨w.heap.size + 1, k, none⟩ = some (.int .i64 0) ∧ W.frozen? ⟨w.heap.size + 1, k, none⟩ = false := by
  refine ⟨?_, by simp [World.frozen?, h.hg]⟩
  have : (gC gs k)[k]? = some (.int .i64 0) := by
    unfold gC
    rw [List.getElem?_append_right (by simp; omega), List.length_map, List.length_take, Nat.min_eq_left hl, Nat.sub_self]
    exact List.getElem?_replicate_of_lt (by omega)
  simp [World.cell?, h.hg, this]
theorem RefW.val {w W : World} {l gs : List Nat} (h : RefW w W l gs 8) (hl : gs.length = 8) {j : Nat} (hj : j < 8) : W.cell? ⟨w.heap.size + 1, j, none⟩ = some (.int .i64 ((gs[j]'(by omega) : Nat) : Int)) := by
  have : (gC gs 8)[j]? = some (.int .i64 ((gs[j]'(by omega) : Nat) : Int)) := by
    unfold gC
    rw [List.take_of_length_le (by omega), List.getElem?_append_left (by simp; omega)]
    simp [(by omega : j < gs.length), intV]
  simp [World.cell?, h.hg, this]
/-- Where the longest row stands; -1: there is none. -/
def frm (gs : List Nat) (i : Nat) : Int := if (longest gs i).2 = 1 then -1 else (longest gs i).1
/-- The groups that stand behind the last '::', or from the front, ahead of a place. -/
def curF (gs : List Nat) (f m i : Nat) : List Nat := if m = 1 ∨ i ≤ f then gs.take i else (gs.drop (f + m)).take (i - (f + m))
/-- What is written ahead of a place. -/
def preF (gs : List Nat) (f m i : Nat) : List UInt8 :=
  if m = 1 ∨ i ≤ f then Lib.join ((gs.take i).map hexL) [58]
  else Lib.join ((gs.take f).map hexL) [58] ++ [58, 58] ++ Lib.join (((gs.drop (f + m)).take (i - (f + m))).map hexL) [58]
theorem join_snoc (l : List Nat) (g : Nat) : Lib.join ((l ++ [g]).map hexL) [58] = Lib.join (l.map hexL) [58] ++ (if l = [] then [] else [58]) ++ hexL g := by
  cases l with
  | nil => simp [Lib.join_one, Lib.join_nil]
  | cons a l =>
    rw [List.cons_append, List.map_cons, List.map_cons, Lib.join_cons, Lib.join_cons, List.map_append]
    simp [Lib.joinTail]
theorem join_last (l : List Nat) (h : l ≠ []) : ∃ p b, Lib.join (l.map hexL) [58] = p ++ [b] ∧ b ≠ 58 := by
  have e := List.dropLast_concat_getLast h
  have key : ∀ g, ∃ p b, hexL g = p ++ [b] ∧ b ≠ 58 := fun g => by
    have e2 := List.dropLast_concat_getLast (hexL_ne g)
    exact ⟨_, _, e2.symm, (hexL_ok g _ (List.getLast_mem (hexL_ne g))).2.1⟩
  obtain ⟨p, b, hp, hb⟩ := key (l.getLast h)
  refine ⟨Lib.join (l.dropLast.map hexL) [58] ++ (if l.dropLast = [] then [] else [58]) ++ p, b, ?_, hb⟩
  rw [← e, join_snoc, hp]
  simp
theorem pre_next (gs : List Nat) (f m i : Nat) (hi : i < gs.length) (hm : m = 1 ∨ i < f ∨ f + m ≤ i) (hm1 : 1 ≤ m) : preF gs f m (i + 1) = preF gs f m i ++ (if curF gs f m i = [] then [] else [58]) ++ hexL gs[i] := by
  unfold preF curF
  by_cases h1 : m = 1 ∨ i < f
  · have c1 : m = 1 ∨ i + 1 ≤ f := by omega
    have c2 : m = 1 ∨ i ≤ f := by omega
    simp only [if_pos c1, if_pos c2]
    rw [List.take_succ_eq_append_getElem hi, join_snoc]
  · have h2 : f + m ≤ i := by omega
    have c1 : ¬ (m = 1 ∨ i + 1 ≤ f) := by omega
    have c2 : ¬ (m = 1 ∨ i ≤ f) := by omega
    simp only [if_neg c1, if_neg c2]
    rw [(by omega : i + 1 - (f + m) = i - (f + m) + 1), List.take_succ_eq_append_getElem (by rw [List.length_drop]; omega), join_snoc]
    rw [List.getElem_drop]
    simp only [(by omega : f + m + (i - (f + m)) = i), List.append_assoc]
theorem pre_row (gs : List Nat) (f m : Nat) (hm : m ≠ 1) (hm1 : 1 ≤ m) : preF gs f m (f + m) = preF gs f m f ++ [58, 58] := by
  unfold preF
  rw [if_neg (by omega), if_pos (.inr (Nat.le_refl _)), Nat.sub_self, List.take_zero]
  simp [Lib.join_nil]
theorem pre_zero (gs : List Nat) (f m : Nat) : preF gs f m 0 = [] ∧ curF gs f m 0 = [] := by
  unfold preF curF
  rw [if_pos (.inr (Nat.zero_le _)), if_pos (.inr (Nat.zero_le _))]
  exact ⟨rfl, rfl⟩
theorem pre_last (gs : List Nat) (f m i : Nat) (hi : i ≤ gs.length) (h0 : 0 < i) : ∃ p b, preF gs f m i = p ++ [b] ∧ (curF gs f m i = [] ↔ b = 58) := by
  unfold preF curF
  by_cases h1 : m = 1 ∨ i ≤ f
  · rw [if_pos h1, if_pos h1]
    have hne : gs.take i ≠ [] := by
      intro e
      have := congrArg List.length e
      rw [List.length_take] at this
      simp only [List.length_nil] at this
      omega
    obtain ⟨p, b, e, hb⟩ := join_last _ hne
    exact ⟨p, b, e, fun f => absurd f hne, fun f => absurd f hb⟩
  · rw [if_neg h1, if_neg h1]
    by_cases hc : (gs.drop (f + m)).take (i - (f + m)) = []
    · rw [hc]
      exact ⟨Lib.join ((gs.take f).map hexL) [58] ++ [58], 58, by simp [Lib.join_nil], fun _ => rfl, fun _ => rfl⟩
    · obtain ⟨p, b, e, hb⟩ := join_last _ hc
      exact ⟨Lib.join ((gs.take f).map hexL) [58] ++ [58, 58] ++ p, b, by rw [e]; simp, fun f => absurd f hc, fun f => absurd f hb⟩
theorem pre_all (gs : List Nat) (h8 : gs.length = 8) (h : (longest gs 8).2 = 1 ∨ (longest gs 8).1 + (longest gs 8).2 ≤ 8) : preF gs (longest gs 8).1 (longest gs 8).2 8 = formL gs := by
  have hp := longest_pos gs 8
  unfold preF formL
  by_cases h1 : (longest gs 8).2 = 1
  · rw [if_pos (.inl h1), if_pos h1, List.take_of_length_le (by omega)]
  · rw [if_neg h1]
    rw [if_neg (by omega), List.take_of_length_le (l := gs.drop ((longest gs 8).1 + (longest gs 8).2)) (by rw [List.length_drop]; omega)]
theorem pre_size (gs : List Nat) (hg : ∀ g ∈ gs, g < 65536) (f m i : Nat) (h8 : gs.length = 8) : (bT (preF gs f m i)).size ≤ 100 := by
  rw [Lib.size_eq]
  show (preF gs f m i).length ≤ 100
  have h1 := join_small (gs.take i) fun x hx => hg x (List.mem_of_mem_take hx)
  have h2 := join_small (gs.take f) fun x hx => hg x (List.mem_of_mem_take hx)
  have h3 := join_small ((gs.drop (f + m)).take (i - (f + m))) fun x hx => hg x (List.mem_of_mem_drop (List.mem_of_mem_take hx))
  simp only [List.length_take, List.length_drop] at h1 h2 h3
  unfold preF
  split
  · omega
  · simp only [List.length_append, List.length_cons, List.length_nil]
    omega
theorem last_byte (p : List UInt8) (b : UInt8) (q : (bT (p ++ [b])).size - 1 < (bT (p ++ [b])).size) : (bT (p ++ [b]))[(bT (p ++ [b])).size - 1]'q = b := by
  show (p ++ [b]).toArray[(p ++ [b]).toArray.size - 1]'q = b
  simp

set_option maxHeartbeats 4000000 in
set_option maxRecDepth 100000 in
theorem form6_run (l : List Nat) (hl : l.length = 16) (hx : ∀ x ∈ l, x < 256) (w : World) :
    Calls Tryd.prog 19 #[addrV l] w fun e w' => e = .returned (.string (bT (formL (groupsOf l)))) ∧ Bel w w' := by
  have hgl := groupsOf_len 8 l hl
  have hglt := groupsOf_lt 8 l hl hx
  have hgat : ∀ i, i < 8 → ∃ x y, l[2 * i]? = some x ∧ l[2 * i + 1]? = some y ∧ (groupsOf l)[i]? = some (256 * x + y) := fun i hi => ⟨_, _, List.getElem?_eq_getElem (by omega), List.getElem?_eq_getElem (by omega), groupsOf_at 8 l hl i hi⟩
  generalize groupsOf l = gs at hgl hglt hgat ⊢
  have HA := hid (And.intro hl (And.intro hx (And.intro hgl (And.intro hglt hgat))))
  unfold addrV
  clear hgat hx hl hgl hglt
  have hmk : ∀ W : World, (Instr.makeSlice 53 (.int .i64 8) (.int .i64 8)).run Tryd.prog W = .ok (.slice (some ⟨W.heap.size, 0, none⟩) 8 8) (W.alloc (.cells #[.int .i64 0, .int .i64 0, .int .i64 0, .int .i64 0, .int .i64 0, .int .i64 0, .int .i64 0, .int .i64 0] 3)) := fun W => by kernel_rfl
  go_enter Tryd.func19, Tryd.ntmps19
  go_wp2_with fail
  go_loopg [4] 8 (fun gg v4 wr => ∃ k : Nat, v4 = .int .i64 k ∧ k + gg = 8 ∧ Hid (RefW w wr l gs k))
  case atStart =>
    refine ⟨0, rfl, by omega, hid ⟨((Bel.refl w).alloc _).alloc _, ?_, ?_⟩⟩
    · exact (Below.heap_alloc _ _ _ (by simp)).trans (heap_alloc_new w _)
    · exact alloc_second w _ _
  case round =>
    obtain ⟨k, rfl, hk, HF⟩ := hrel
    have Hk := hid hk
    have hkn : k ≤ 8 := by omega
    clear hk
    by_cases hlt : k < 8
    · obtain ⟨hl, hx, hgl, hglt, hgat⟩ := HA.out
      obtain ⟨x, y, hlx, hly, hgv⟩ := hgat k hlt
      have hx0 := hx x (List.mem_of_getElem? hlx)
      have hx1 := hx y (List.mem_of_getElem? hly)
      have c0 := HF.out.byte hlx
      have c1 := HF.out.byte hly
      obtain ⟨c2, f2⟩ := HF.out.place hlt (by omega)
      obtain ⟨hlk, hgv⟩ := List.getElem?_eq_some_iff.1 hgv
      have hS := HF.out.drew.set hlt hlk
      rw [hgv] at hS
      have HS := hid hS
      clear hgat hgv hx hl hgl hglt hlx hly hS
      go_wp2_with fail
      go_region
      go_wp2_with fail
      go_roundg (gk - 1)
      case measure => have := Hk.out; omega
      case rel => exact ⟨k + 1, by go_num, by have := Hk.out; omega, HS⟩
    · obtain rfl : k = 8 := by omega
      rw [show ((8 : Nat) : Int) = 8 from rfl]
      go_wp2_with fail
      go_loopg [5, 6, 7] 8 (fun gg v5 v6 v7 wq => ∃ i : Nat, v5 = .int .i64 (frm gs i) ∧ v6 = .int .i64 (longest gs i).2 ∧ v7 = .int .i64 i ∧ i + gg = 8 ∧ Hid (RefW w wq l gs 8))
      case atStart => exact ⟨0, rfl, rfl, rfl, by omega, HF⟩
      case round =>
        clear HF Hk hkn hlt
        obtain ⟨i, rfl, rfl, rfl, hi, HF⟩ := hrel
        have Hi := hid hi
        have hin : i ≤ 8 := by omega
        clear hi
        by_cases hlt : i < 8
        · obtain ⟨wo, hwo⟩ : ∃ wo, wo = wr := ⟨_, rfl⟩
          rw [← hwo] at HF ⊢
          clear hwo
          obtain ⟨gq, hgq⟩ : ∃ gq, gq = gk := ⟨gk, rfl⟩
          have HQ := hid hgq
          clear hgq
          have d8 : decide ((i : Int) < 8) = true := decide_eq_true (by omega)
          have hl1 := longest_pos gs i
          go_wp2_with fail
          go_loopg [8] (zerosAt gs i) (fun gg v8 wq => ∃ n : Nat, v8 = .int .i64 n ∧ n + gg = zerosAt gs i ∧ wq = wo)
          case atStart => exact ⟨0, rfl, by omega, rfl⟩
          case round =>
            obtain ⟨n, rfl, hn, rfl⟩ := hrel
            have hz8 := zeros_le gs i
            have hl8 := HA.out.2.2.1
            have hn8 : i + n ≤ 8 := by omega
            have hnz : n ≤ zerosAt gs i := by omega
            have Hn := hid hn
            have hL1 : longest gs (i + 1) = if (longest gs i).2 < zerosAt gs i then (i, zerosAt gs i) else longest gs i := rfl
            by_cases hz : n < zerosAt gs i
            · have hin2 : i + n < 8 := by omega
              have c0 := HF.out.val hl8 hin2
              have d0 : (((gs[i + n]'(by omega) : Nat) : Int) == 0) = true := by
                rw [(zeros_step gs i n hnz (by omega)).2 hz]
                rfl
              generalize gs[i + n]'(by omega) = v at c0 d0
              clear hn hL1 hl8 hz8 hnz
              go_wp2_with fail
              go_roundg (gk - 1)
              case measure => have := Hn.out; omega
              case rel => exact ⟨n + 1, by go_num, by have := Hn.out; omega, rfl⟩
            · have hzn : zerosAt gs i = n := by omega
              rw [hzn] at hL1
              have HL := hid hL1
              clear hn Hn hz hnz hL1
              by_cases hin2 : i + n < 8
              · have c0 := HF.out.val hl8 hin2
                have d0 : (((gs[i + n]'(by omega) : Nat) : Int) == 0) = false := by
                  rw [beq_eq_false_iff_ne]
                  intro f
                  have := (zeros_step gs i n (by omega) (by omega)).1 (by omega)
                  omega
                generalize gs[i + n]'(by omega) = v at c0 d0
                clear hl8 hz8 hzn
                by_cases hm : (longest gs i).2 < n
                · have h1 : longest gs (i + 1) = (i, n) := by rw [HL.out, if_pos hm]
                  have HM := hid (show frm gs (i + 1) = (i : Int) ∧ (longest gs (i + 1)).2 = n from ⟨by unfold frm; rw [h1]; exact if_neg (by omega), by rw [h1]⟩)
                  clear h1
                  go_wp2_with fail
                  go_roundg (gq - 1)
                  case measure => have := Hi.out; have := HQ.out; omega
                  case rel => exact ⟨i + 1, by rw [HM.out.1], by rw [HM.out.2], by go_num, by have := Hi.out; have := HQ.out; omega, HF⟩
                · have h1 : longest gs (i + 1) = longest gs i := by rw [HL.out, if_neg hm]
                  have HM := hid (show frm gs (i + 1) = frm gs i ∧ (longest gs (i + 1)).2 = (longest gs i).2 from ⟨by unfold frm; rw [h1], by rw [h1]⟩)
                  clear h1
                  go_wp2_with fail
                  go_roundg (gq - 1)
                  case measure => have := Hi.out; have := HQ.out; omega
                  case rel => exact ⟨i + 1, by rw [HM.out.1], by rw [HM.out.2], by go_num, by have := Hi.out; have := HQ.out; omega, HF⟩
              · clear hl8 hz8 hzn
                by_cases hm : (longest gs i).2 < n
                · have h1 : longest gs (i + 1) = (i, n) := by rw [HL.out, if_pos hm]
                  have HM := hid (show frm gs (i + 1) = (i : Int) ∧ (longest gs (i + 1)).2 = n from ⟨by unfold frm; rw [h1]; exact if_neg (by omega), by rw [h1]⟩)
                  clear h1
                  go_wp2_with fail
                  go_roundg (gq - 1)
                  case measure => have := Hi.out; have := HQ.out; omega
                  case rel => exact ⟨i + 1, by rw [HM.out.1], by rw [HM.out.2], by go_num, by have := Hi.out; have := HQ.out; omega, HF⟩
                · have h1 : longest gs (i + 1) = longest gs i := by rw [HL.out, if_neg hm]
                  have HM := hid (show frm gs (i + 1) = frm gs i ∧ (longest gs (i + 1)).2 = (longest gs i).2 from ⟨by unfold frm; rw [h1], by rw [h1]⟩)
                  clear h1
                  go_wp2_with fail
                  go_roundg (gq - 1)
                  case measure => have := Hi.out; have := HQ.out; omega
                  case rel => exact ⟨i + 1, by rw [HM.out.1], by rw [HM.out.2], by go_num, by have := Hi.out; have := HQ.out; omega, HF⟩
        · obtain rfl : i = 8 := by omega
          go_wp2_with fail
          obtain ⟨-, -, hl8, hglt, -⟩ := HA.out
          have hrow := longest_row gs 8
          have hpos := longest_pos gs 8
          have hfm : (longest gs 8).2 = 1 ∨ (longest gs 8).1 + (longest gs 8).2 ≤ 8 := by
            rcases hrow with f | ⟨f, f2⟩
            · exact .inl f
            · have := zeros_le gs (longest gs 8).1
              omega
          have hq := pre_all gs hl8 hfm
          have hfr : frm gs 8 = if (longest gs 8).2 = 1 then -1 else ((longest gs 8).1 : Int) := rfl
          generalize frm gs 8 = fr at hfr ⊢
          clear hrow
          generalize (longest gs 8).1 = f at hfm hq hfr ⊢
          generalize (longest gs 8).2 = m at hfm hq hfr hpos ⊢
          have HQ := hid hq
          have HFR := hid hfr
          have HL8 := hid (And.intro hl8 hglt)
          clear hq hfr hl8 hglt hin hlt Hi
          go_loopg [9, 10] 8 (fun gg v9 v10 wq => ∃ i : Nat, v9 = .string (bT (preF gs f m i)) ∧ v10 = .int .i64 i ∧ i + gg = 8 ∧ (m = 1 ∨ i ≤ f ∨ f + m ≤ i) ∧ Hid (RefW w wq l gs 8))
          case atStart => exact ⟨0, by rw [(pre_zero gs f m).1]; rfl, rfl, by omega, by omega, HF⟩
          case round =>
            clear HF
            obtain ⟨i, rfl, rfl, hi, him, HF⟩ := hrel
            have Hi := hid hi
            have hin : i ≤ 8 := by omega
            clear hi
            by_cases hlt : i < 8
            · by_cases hrow : m ≠ 1 ∧ i = f
              · obtain ⟨hm1, rfl⟩ := hrow
                have dr : ((i : Int) == fr) = true := by
                  rw [HFR.out, if_neg hm1]
                  exact beq_iff_eq.2 rfl
                have hfm2 : i + m ≤ 8 := by omega
                have HE := hid (pre_row gs i m hm1 hpos)
                have hsz := pre_size gs HL8.out.2 i m i HL8.out.1
                generalize hS : bT (preF gs i m i) = S at hsz ⊢
                have ad1 : ∀ W : World, (Op.stringOp .add S ⟨#[58, 58]⟩).run Tryd.prog W = .ok (.string (S ++ ⟨#[58, 58]⟩)) W := fun W => run_string_add_sum W _ _ (by show _ + 2 ≤ _; omega)
                have HSE := hid (show S ++ ⟨#[58, 58]⟩ = bT (preF gs i m (i + m)) by rw [HE.out, ← hS]; exact bT_app _ _)
                clear hS hsz hm1 him hfm HE
                go_wp2_with fail
                go_roundg (gk - m)
                case measure => have := Hi.out; omega
                case rel => exact ⟨i + m, by rw [HSE.out], by go_num, by have := Hi.out; omega, .inr (.inr (Nat.le_refl _)), HF⟩
              · have him2 : m = 1 ∨ i < f ∨ f + m ≤ i := by omega
                have dr : ((i : Int) == fr) = false := by
                  rw [HFR.out, beq_eq_false_iff_ne]
                  split
                  · omega
                  · omega
                have hi8 : i < gs.length := by have := HL8.out.1; omega
                have hnx := pre_next gs f m i hi8 him2 hpos
                have hv := HL8.out.2 _ (List.getElem_mem hi8)
                have c0 := HF.out.val HL8.out.1 hlt
                generalize gs[i] = v at hnx hv c0
                have HX := (show Hid (∀ W, Calls Tryd.prog 33 #[.int .i64 (v : Int)] W fun e w' => e = .returned (.string (bT (hexL v))) ∧ Bel W w') from fun W => rhex_run v hv W)
                have hsz := pre_size gs HL8.out.2 f m i HL8.out.1
                have hsv : (bT (hexL v)).size ≤ 4 := by rw [Lib.size_eq]; exact (hexL_len 3 v hv).2
                have hnim : m = 1 ∨ i + 1 ≤ f ∨ f + m ≤ i + 1 := by omega
                rcases Nat.eq_zero_or_pos i with hz | hz
                · have hc : curF gs f m i = [] := by rw [hz]; exact (pre_zero gs f m).2
                  have hS : bT (preF gs f m i) = ⟨#[]⟩ := by rw [hz, (pre_zero gs f m).1]; rfl
                  clear hz
                  rw [hS] at hsz ⊢
                  have ad2 : ∀ W : World, (Op.stringOp .add ⟨#[]⟩ (bT (hexL v))).run Tryd.prog W = .ok (.string (⟨#[]⟩ ++ bT (hexL v))) W := fun W => run_string_add_sum W _ _ (by show 0 + _ ≤ _; omega)
                  have HSE := hid (show (⟨#[]⟩ : ByteArray) ++ bT (hexL v) = bT (preF gs f m (i + 1)) by
                    rw [hnx, if_pos hc, ← hS, bT_app, List.append_nil])
                  have HNI := hid hnim
                  clear hnx hc hS hsz hsv hnim him him2 hrow hfm hv hi8
                  go_wp2_with fail
                  refine (HX.out _).mono ?_
                  rintro e w3 ⟨rfl, hb3⟩
                  have HF3 := hid (HF.out.next hb3)
                  clear HF hb3 HX c0
                  go_wp2_with fail
                  go_roundg (gk - 1)
                  case measure => have := Hi.out; omega
                  case rel => exact ⟨i + 1, by rw [HSE.out], by go_num, by have := Hi.out; omega, HNI.out, HF3⟩
                · obtain ⟨p, b, hpb, hcb⟩ := pre_last gs f m i (by omega) hz
                  have hse : (bT (preF gs f m i)).toList.isEmpty = false := by
                    rw [hpb, Lib.toList_data]
                    show (p ++ [b]).isEmpty = false
                    simp
                  have hs1 : 1 ≤ (bT (preF gs f m i)).size := by
                    rw [hpb, Lib.size_eq]
                    show 1 ≤ (p ++ [b]).length
                    simp
                  have hlb : ∀ q, (bT (preF gs f m i))[(bT (preF gs f m i)).size - 1]'q = b := by rw [hpb]; exact last_byte p b
                  by_cases hc : curF gs f m i = []
                  · have hb : b = 58 := hcb.1 hc
                    have dl : ∀ q, ((((bT (preF gs f m i))[(bT (preF gs f m i)).size - 1]'q).toNat : Int) != 58) = false := fun q => by rw [hlb q, hb]; rfl
                    clear hlb hpb hcb hb
                    generalize hS : bT (preF gs f m i) = S at hse hs1 dl hsz ⊢
                    have i0 : (0 : Int) ≤ (S.size : Int) - 1 := by omega
                    have i1 : (S.size : Int) - 1 < (S.size : Int) := by omega
                    have ad2 : ∀ W : World, (Op.stringOp .add (S) (bT (hexL v))).run Tryd.prog W = .ok (.string (S ++ bT (hexL v))) W := fun W => run_string_add_sum W _ _ (by omega)
                    have HSE := hid (show S ++ bT (hexL v) = bT (preF gs f m (i + 1)) by
                      rw [hnx, if_pos hc, ← hS]
                      rw [bT_app, List.append_nil])
                    have HNI := hid hnim
                    clear hnx hc hS hsv hnim him him2 hrow hfm hv hi8
                    go_wp2_with fail
                    refine (HX.out _).mono ?_
                    rintro e w3 ⟨rfl, hb3⟩
                    have HF3 := hid (HF.out.next hb3)
                    clear HF hb3 HX c0
                    go_wp2_with fail
                    go_roundg (gk - 1)
                    case measure => have := Hi.out; omega
                    case rel => exact ⟨i + 1, by rw [HSE.out], by go_num, by have := Hi.out; omega, HNI.out, HF3⟩
                  · have hb : b ≠ 58 := fun f => hc (hcb.2 f)
                    have dl : ∀ q, ((((bT (preF gs f m i))[(bT (preF gs f m i)).size - 1]'q).toNat : Int) != 58) = true := fun q => by
                      rw [hlb q, bne_iff_ne]
                      intro f
                      exact hb (UInt8.toNat_inj.1 (by have : (58 : UInt8).toNat = 58 := rfl; omega))
                    clear hlb hpb hcb hb
                    generalize hS : bT (preF gs f m i) = S at hse hs1 dl hsz ⊢
                    have i0 : (0 : Int) ≤ (S.size : Int) - 1 := by omega
                    have i1 : (S.size : Int) - 1 < (S.size : Int) := by omega
                    have ad1 : ∀ W : World, (Op.stringOp .add S ⟨#[58]⟩).run Tryd.prog W = .ok (.string (S ++ ⟨#[58]⟩)) W := fun W => run_string_add_sum W _ _ (by show _ + 1 ≤ _; omega)
                    have ad2 : ∀ W : World, (Op.stringOp .add (S ++ ⟨#[58]⟩) (bT (hexL v))).run Tryd.prog W = .ok (.string (S ++ ⟨#[58]⟩ ++ bT (hexL v))) W := fun W => run_string_add_sum W _ _ (by rw [ByteArray.size_append]; show _ + 1 + _ ≤ _; omega)
                    have HSE := hid (show S ++ ⟨#[58]⟩ ++ bT (hexL v) = bT (preF gs f m (i + 1)) by
                      rw [hnx, if_neg hc, ← hS]
                      show bT _ ++ bT [58] ++ bT _ = _
                      rw [bT_app, bT_app])
                    have HNI := hid hnim
                    clear hnx hc hS hsv hnim him him2 hrow hfm hv hi8
                    go_wp2_with fail
                    refine (HX.out _).mono ?_
                    rintro e w3 ⟨rfl, hb3⟩
                    have HF3 := hid (HF.out.next hb3)
                    clear HF hb3 HX c0
                    go_wp2_with fail
                    go_roundg (gk - 1)
                    case measure => have := Hi.out; omega
                    case rel => exact ⟨i + 1, by rw [HSE.out], by go_num, by have := Hi.out; omega, HNI.out, HF3⟩
            · obtain rfl : i = 8 := by omega
              rw [HQ.out]
              go_wp2_with fail
              go_ret
              exact ⟨rfl, HF.out.bel⟩
end Go.Proofs.YtpmmaickjolimaaDoor.Ci
