/- The reference's groups, with : between them. -/
import Derived.Test.YtpmmaickjolimaaGreatDoorEc
namespace Go.Proofs.YtpmmaickjolimaaGreatDoor.Ci
open Go.RowKit

theorem allL_snoc : ∀ (l : List (List UInt8)) (gs : List Nat) (p : List UInt8) (g : Nat), allL l = some gs → grpL p = some g → allL (l ++ [p]) = some (gs ++ [g])
  | [], gs, p, g, h, hp => by
    cases h
    simp [allL, hp]
  | q :: l, gs, p, g, h, hp => by
    unfold allL at h
    cases h1 : grpL q with
    | none => rw [h1] at h; cases h
    | some v =>
      cases h2 : allL l with
      | none => rw [h1, h2] at h; cases h
      | some vs =>
        rw [h1, h2] at h
        cases h
        show allL (q :: (l ++ [p])) = _
        unfold allL
        rw [h1, allL_snoc l vs p g h2 hp]
        rfl
theorem allL_bad : ∀ (l : List (List UInt8)) (p : List UInt8), p ∈ l → grpL p = none → allL l = none
  | [], _, h, _ => by cases h
  | q :: l, p, h, hp => by
    unfold allL
    rcases List.mem_cons.1 h with rfl | h
    · rw [hp]
    · rw [allL_bad l p h hp]
      cases grpL q <;> rfl
theorem int_infos : (Tryz.prog.info? 3).map (fun i => (i.zero, i.size, i.bytes)) = some (some (.int .i64 0), 1, 8) := by kernel_rfl
def intV (g : Nat) : Value := .int .i64 (g : Int)
theorem Txts.cell {a0 W : World} {g m p : Nat} {ps : List ByteArray} (h : Txts a0 W (.slice (some ⟨g, 0, none⟩) m p) ps) (k : Nat) (hk : k < ps.length) : W.cell? ⟨g, k, none⟩ = some (.string ps[k]) := by
  obtain ⟨g', e, h⟩ := h.at_ k hk
  cases e
  exact h
/-- What the reference's groups hands back. -/
def RGPost (o : Option (List Nat)) (w : World) (e : Ending) (w' : World) : Prop := match o with
  | some gs => ∃ v, e = .returned (.tuple #[v, .bool true]) ∧ w'.ownsRow w.heap.size 3 1 v gs.length (gs.map intV) ∧ Bel w w'
  | none => e = .returned (.tuple #[.slice none 0 0, .bool false]) ∧ Bel w w'
theorem split_row {c : UInt8} {s : ByteArray} {w w' : World} {v : Value} {ps : List ByteArray} (h : Txts w w' v ps) (he : ps.map (·.data.toList) = splitL c s.data.toList) :
    ∃ g p, v = .slice (some ⟨g, 0, none⟩) ps.length p ∧ 1 ≤ ps.length ∧ ps.length ≤ s.size + 1 := by
  have h1 : 1 ≤ ps.length := by
    have := splitL_ne c s.data.toList
    rw [← he] at this
    cases ps with
    | nil => exact absurd rfl this
    | cons p ps => simp
  obtain ⟨x, p, rfl⟩ := h.len
  obtain ⟨g, rfl, -⟩ := h.at_ 0 h1
  refine ⟨g, p, rfl, h1, ?_⟩
  have := splitL_len c s.data.toList
  rw [← he, List.length_map] at this
  have h2 : s.data.toList.count c ≤ s.data.toList.length := List.count_le_length
  rw [← Lib.size_eq] at h2
  omega
set_option maxHeartbeats 4000000 in
set_option maxRecDepth 100000 in
theorem rgroups_run (s : ByteArray) (w : World) (hs : s.size < 4294967281) :
    Calls Tryz.prog 77 #[.string s] w (RGPost (groupsL s.data.toList) w) := by
  by_cases h0 : s.data.toList = []
  · have hq : groupsL s.data.toList = some [] := by rw [h0]; rfl
    have he : s.toList.isEmpty = true := by rw [Lib.toList_data, h0]; rfl
    rw [hq]
    clear hq h0
    go_enter Tryz.func77, Tryz.ntmps77
    go_wp2_with fail
    go_ret2
    exact ⟨_, rfl, World.ownsRow_nil _ _ _ _, Bel.refl w⟩
  have he : s.toList.isEmpty = false := by
    rw [Lib.toList_data]
    simpa using h0
  have HS := (show Hid (Calls Tryz.prog 37 #[.string s, .int .u8 58] w (SplitPost 58 s w)) from rsplit_run s 58 w hs)
  have hq : groupsL s.data.toList = allL (splitL 58 s.data.toList) := by
    unfold groupsL
    rw [if_neg h0]
  rw [hq]
  generalize hoz : allL (splitL 58 s.data.toList) = o
  have HO0 := hid hoz
  clear hq h0 hoz
  go_enter Tryz.func77, Tryz.ntmps77
  go_wp2_with fail
  refine HS.out.mono ?_
  rintro e w1 ⟨v, ps, rfl, hT, hps, hb1⟩
  obtain ⟨g, p, rfl, hl1, hl2⟩ := split_row hT hps
  have HO := hid (show allL (ps.map (·.data.toList)) = o by rw [hps]; exact HO0.out)
  have H0 := hid (And.intro hb1 hT)
  have H1 := hid (show Bel w1 w1 ∧ w1.ownsRow w1.heap.size 3 1 (.slice none 0 0) 0 [] from ⟨Bel.refl w1, World.ownsRow_nil _ _ _ _⟩)
  clear hb1 hT hps HS
  go_wp2_with fail
  go_loopg [5, 6] ps.length (fun gg v5 v6 wr => ∃ (gs : List Nat) (k : Nat) (x5 : Option Addr) (p5 : Nat), v5 = .slice x5 k p5 ∧ v6 = .int .i64 k ∧ k + gg = ps.length ∧ Hid (Bel w1 wr ∧ wr.ownsRow w1.heap.size 3 1 (.slice x5 k p5) k (gs.map intV) ∧ allL ((ps.take k).map (·.data.toList)) = some gs))
  case atStart => exact ⟨[], 0, none, 0, rfl, rfl, by omega, hid ⟨H1.out.1, H1.out.2, rfl⟩⟩
  case round =>
    clear H1
    obtain ⟨gs, k, x5, p5, rfl, rfl, hk, H⟩ := hrel
    have Hk := hid hk
    have hks : k ≤ ps.length := by omega
    clear hk
    by_cases hlt : k < ps.length
    · have c0 := (H0.out.2.next H.out.1).cell k hlt
      have HG := (show Hid (∀ W, Calls Tryz.prog 122 #[.string ps[k]] W fun e w' => e = .returned (numV2 (grpL ps[k].data.toList)) ∧ Bel W w') from fun W => group_run ps[k] W)
      have HM := hid (show ps[k].data.toList ∈ ps.map (·.data.toList) from List.mem_map_of_mem (List.getElem_mem hlt))
      have HTk := hid (show (ps.take (k + 1)).map (·.data.toList) = (ps.take k).map (·.data.toList) ++ [ps[k].data.toList] by rw [List.take_succ_eq_append_getElem hlt, List.map_append]; rfl)
      generalize ps[k] = x at c0 HG HM HTk
      cases hg : grpL x.data.toList with
      | none =>
        rw [hg] at HG
        have hn : o = none := by rw [← HO.out]; exact allL_bad _ _ HM.out hg
        subst hn
        clear hg
        unfold numV2 at HG
        go_wp2_with fail
        refine (HG.out _).mono ?_
        rintro e w2 ⟨rfl, hb2⟩
        go_wp2_with fail
        go_ret2
        exact ⟨rfl, H0.out.1.trans (H.out.1.trans hb2)⟩
      | some n =>
        rw [hg] at HG
        have HA := hid (show allL ((ps.take (k + 1)).map (·.data.toList)) = some (gs ++ [n]) by rw [HTk.out]; exact allL_snoc _ _ _ _ H.out.2.2 hg)
        clear hg HM HTk
        unfold numV2 at HG
        go_wp2_with fail
        refine (HG.out _).mono ?_
        rintro e w2 ⟨rfl, hb2⟩
        have H2 := hid (show Bel w1 w2 ∧ w2.ownsRow w1.heap.size 3 1 (.slice x5 k p5) k (gs.map intV) from ⟨H.out.1.trans hb2, own_bel H.out.2.1 hb2⟩)
        clear H hb2 c0 HG
        go_wp2_with (at_builtin; refine wpList_push (a0 := w1) (W := w2) rfl (.tmp 29) (.tmp 31) 128 rfl 3 (.int .i64 0) 1 8 Tryz.underlying128 int_infos rfl (by decide) (.slice x5 k p5) k (gs.map intV) rfl H2.out.2 H2.out.1 #[.int .i64 n] rfl rfl (by intro u hu; simp at hu; subst hu; rfl) (by unfold maxLen; omega) (by omega) ?_; intro x' p' w' hown hb)
        have HN := hid (show Bel w1 w' ∧ w'.ownsRow w1.heap.size 3 1 (.slice x' (k + 1) p') (k + 1) ((gs ++ [n]).map intV) ∧ allL ((ps.take (k + 1)).map (·.data.toList)) = some (gs ++ [n]) from ⟨hb, (by rw [List.map_append]; exact hown), HA.out⟩)
        clear H2 hown hb HA
        go_wp2_with fail
        go_roundg (gk - 1)
        case measure => have := Hk.out; omega
        case rel => exact ⟨gs ++ [n], k + 1, x', p', rfl, by go_num, by have := Hk.out; omega, HN⟩
    · obtain rfl : k = ps.length := by omega
      have ho : o = some gs := by
        have := H.out.2.2
        rw [List.take_of_length_le (Nat.le_refl _), HO.out] at this
        exact this
      have hgl : gs.length = ps.length := by
        have := (allL_lt _ _ (HO.out.trans ho)).1
        rw [List.length_map] at this
        exact this
      subst ho
      go_wp2_with fail
      go_ret2
      refine ⟨_, rfl, ?_, H0.out.1.trans H.out.1⟩
      rw [hgl]
      exact own_base H.out.2.1 H0.out.1.size
end Go.Proofs.YtpmmaickjolimaaGreatDoor.Ci
