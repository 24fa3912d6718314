/- Groups of an address of IPv6. -/
import Derived.Test.YtpmmaickjolimaaGreatDoorCu
import Derived.Test.YtpmmaickjolimaaGreatDoorCl
import Derived.Laws.AppendOwn
namespace Go.Proofs.YtpmmaickjolimaaGreatDoor.Ci
open Go.RowKit

theorem row_shape {w : World} {base e size n : Nat} {v : Value} {xs : List Value} (h : w.ownsRow base e size v n xs) : ∃ x cap, v = .slice x n cap ∧ n ≤ cap ∧ cap ≤ 9223372036854775807 := by
  rcases h.2 with ⟨rfl, rfl⟩ | ⟨g, cap, cur, rfl, -, -, h1, h2, -⟩
  · exact ⟨none, 0, rfl, Nat.le_refl _, by omega⟩
  · unfold maxLen at h2
    exact ⟨_, _, rfl, h1, h2⟩
theorem own_bel {w w' : World} {base e size n : Nat} {v : Value} {xs : List Value} (h : w.ownsRow base e size v n xs) (hb : Bel w w') : w'.ownsRow base e size v n xs := by
  refine ⟨h.1, ?_⟩
  rcases h.2 with f | ⟨g, cap, cur, rfl, hg, hh, rest⟩
  · exact .inl f
  · exact .inr ⟨g, cap, cur, rfl, hg, hb.heap hh, rest⟩
/-- What is appended to a row of one's own leaves all that was there. -/
theorem Bel.grown {a w w' : World} {v : Value} {e size n : Nat} {xs : List Value} (h : Bel a w) (hg : w.grownBy w' v.ownBlock) (ho : w.ownsRow a.heap.size e size v n xs) : Bel a w' := by
  refine Below.grown h hg h.size fun k hk => ?_
  rcases ho.2 with ⟨rfl, rfl⟩ | ⟨g, cap, cur, rfl, hb, -⟩
  · cases hk
  · cases hk; exact hb
theorem uint8_info : (Tryz.prog.info? 5).map (fun i => (i.zero, i.size, i.bytes)) = some (some (.int .u8 0), 1, 1) := by kernel_rfl
theorem bytes_take (ps : List ByteArray) (k : Nat) (hk : k < ps.length) : (bytesL ((ps.take (k + 1)).map grpOr)).map u8V = (bytesL ((ps.take k).map grpOr)).map u8V ++ [.int .u8 ((grpOr ps[k] / 256 : Nat) : Int), .int .u8 ((grpOr ps[k] % 256 : Nat) : Int)] := by
  rw [List.take_succ_eq_append_getElem hk, List.map_append, bytesL_app, List.map_append]
  rfl
theorem new2 {W : World} {g : Nat} (u v : Value) (ty : TypeId) (hg : g = W.heap.size) (j : Nat) (u' : Value) (hj : [u, v][j]? = some u') : (W.alloc (.cells #[u, v] ty)).cell? ((⟨g, 0, none⟩ : Addr).add j) = some u' := by
  subst hg
  rw [addr_add, Nat.zero_add]
  have e := heap_alloc_new W (.cells #[u, v] ty)
  simp only [World.cell?, e]
  simpa using hj

/-- The memory of the groups in hand. -/
structure GrpW (w wr : World) (l : List ByteArray) (g : Nat) (v : Value) (k : Nat) : Prop where
  bel : Bel w wr
  hl : wr.heap[g]? = some (.cells (l.map Value.string).toArray 9 (0, 0))
  own : wr.ownsRow (w.heap.size + 1) 5 1 v (2 * k) ((bytesL ((l.take k).map grpOr)).map u8V)
  ok : ∀ x ∈ l.take k, grpOk x = true
theorem GrpW.next {w wr w' : World} {l : List ByteArray} {g : Nat} {v : Value} {k : Nat} (h : GrpW w wr l g v k) (hx : Bel wr w') : GrpW w w' l g v k :=
  ⟨h.bel.trans hx, hx.heap h.hl, own_bel h.own hx, h.ok⟩
theorem GrpW.cell {w wr : World} {l : List ByteArray} {g : Nat} {v : Value} {k : Nat} (h : GrpW w wr l g v k) (j : Nat) (hj : j < l.length) : wr.cell? ⟨g, j, none⟩ = some (.string l[j]) := by
  simp [World.cell?, h.hl, hj]
theorem own_base {w : World} {base base' e size n : Nat} {v : Value} {xs : List Value} (h : w.ownsRow base e size v n xs) (hb : base' ≤ base) : w.ownsRow base' e size v n xs := by
  refine ⟨h.1, ?_⟩
  rcases h.2 with f | ⟨g, cap, cur, e, hg, rest⟩
  · exact .inl f
  · exact .inr ⟨g, cap, cur, e, Nat.le_trans hb hg, rest⟩
theorem grown_row {w w' : World} {v : Value} {base e size n k : Nat} {xs : List Value} {o : Obj} (hg : w.grownBy w' v.ownBlock) (ho : w.ownsRow base e size v n xs) (hk : k < base) (h : w.heap[k]? = some o) : w'.heap[k]? = some o := by
  refine (hg.block k (Array.getElem?_eq_some_iff.1 h).1 ?_).trans h
  rcases ho.2 with ⟨rfl, rfl⟩ | ⟨g, cap, cur, rfl, hb, -⟩
  · simp [Value.ownBlock]
  · simp only [Value.ownBlock, ne_eq, Option.some.injEq]
    omega
/-- One group more. -/
theorem GrpW.step {w wr w2 : World} {l : List ByteArray} {g : Nat} {v v' : Value} {k : Nat} {o : Obj} (hz : g = w.heap.size) (h : GrpW w wr l g v k) (hk : k < l.length) (hok : grpOk l[k] = true)
    (hg : (wr.alloc o).grownBy w2 v.ownBlock) (hown : w2.ownsRow (w.heap.size + 1) 5 1 v' (2 * k + 2) ((bytesL ((l.take k).map grpOr)).map u8V ++ [.int .u8 ((grpOr l[k] / 256 : Nat) : Int), .int .u8 ((grpOr l[k] % 256 : Nat) : Int)])) :
    GrpW w w2 l g v' (k + 1) := by
  have ha : Bel w (wr.alloc o) := h.bel.alloc o
  have hl2 := (Bel.refl wr).alloc o |>.heap h.hl
  refine ⟨ha.grown hg (own_base (h.own.alloc o) (by omega)), grown_row hg (h.own.alloc o) (by omega) hl2, ?_, ?_⟩
  · rw [bytes_take l k hk]
    exact hown
  · intro x hx
    rw [List.take_succ_eq_append_getElem hk] at hx
    rcases List.mem_append.1 hx with hx | hx
    · exact h.ok x hx
    · rw [List.mem_singleton.1 hx]; exact hok
/-- What groups hands back. -/
def GroupsPost (o : Option (List Nat)) (w : World) (e : Ending) (w' : World) : Prop := match o with
  | some gs => ∃ v, e = .returned (.tuple #[v, .bool true]) ∧ w'.ownsRow w.heap.size 5 1 v (2 * gs.length) ((bytesL gs).map u8V) ∧ Bel w w'
  | none => e = .returned (.tuple #[.slice none 0 0, .bool false]) ∧ Bel w w'
def colon : ByteArray := ⟨#[58]⟩
theorem hexs_lt (x : ByteArray) (h : x.data.toList.all hexB = true) : ∀ b ∈ x.data.toList, hexB b = true := List.all_eq_true.1 h

set_option maxHeartbeats 2000000 in
set_option maxRecDepth 100000 in
theorem groups_run (s : ByteArray) (w : World) (hw : Lay w) (hs : s.size < 4294967281) :
    Calls Tryz.prog 76 #[.string s] w (GroupsPost (groupsL s.data.toList) w) := by
  by_cases h0 : s.data.toList = []
  · have hq : groupsL s.data.toList = some [] := by rw [h0]; rfl
    have he : s.toList.isEmpty = true := by rw [Lib.toList_data, h0]; rfl
    rw [hq]
    clear hq h0
    go_enter Tryz.func76, Tryz.ntmps76
    go_wp2_with fail
    go_ret2
    exact ⟨_, rfl, World.ownsRow_nil _ _ _ _, Bel.refl w⟩
  have he : s.toList.isEmpty = false := by
    rw [Lib.toList_data]
    simpa using h0
  have HS := (show Hid (∀ W, Lay W → Calls Tryz.prog 75 #[.string s, .string colon] W fun e w' => e = .returned (.slice (some ⟨W.heap.size, 0, none⟩) (pieces s colon).length (pieces s colon).length) ∧
      w'.heap[W.heap.size]? = some (.cells ((pieces s colon).map Value.string).toArray 9 (0, 0)) ∧ Bel W w') from fun W hW => split_run s colon W hW hs (by decide))
  have HP := hid (pieces_size s colon hs)
  have hlen : (pieces s colon).length ≤ 4294967282 := by
    have : (pieces s colon).length = Lib.countB s colon + 1 := Lib.splitB_all colon (by decide) 0 _ s rfl
    have := Lib.countB_le colon (by decide) _ s (Nat.le_refl _)
    omega
  have hq : groupsL s.data.toList = if (pieces s colon).all grpOk = true then some ((pieces s colon).map grpOr) else none := by
    unfold groupsL
    rw [if_neg h0, ← pieces_data s 58, allL_eq]
    rfl
  rw [hq]
  generalize pieces s colon = l at HS HP hlen ⊢
  generalize hoz : (if l.all grpOk = true then some (l.map grpOr) else none) = o
  have HO := hid hoz
  have HW := hid hw
  clear hq hw hoz h0
  obtain ⟨i, hi, j2, j3, j4⟩ := info_parts uint8_info
  have HI := hid (And.intro hi (And.intro j2 (And.intro j3 j4)))
  clear hi j2 j3 j4
  go_enter Tryz.func76, Tryz.ntmps76
  go_wp2_with fail
  refine (HS.out _ HW.out).mono ?_
  rintro e w1 ⟨rfl, hg1, hb1⟩
  have H0 := hid (show GrpW w w1 l w.heap.size (.slice none 0 0) 0 from ⟨hb1, hg1, World.ownsRow_nil _ _ _ _, fun x hx => (by simp at hx)⟩)
  obtain ⟨g, hgz⟩ : ∃ g, g = w.heap.size := ⟨_, rfl⟩
  rw [← hgz] at H0 ⊢
  have HG := hid hgz
  clear hgz hg1 hb1
  go_wp2_with fail
  go_loopg [4, 14] l.length (fun gg v4 v14 wr => ∃ (k : Nat) (x4 : Option Addr) (p4 : Nat), v4 = .slice x4 (2 * k : Nat) p4 ∧ v14 = .int .i64 k ∧ k + gg = l.length ∧ Hid (GrpW w wr l g (.slice x4 (2 * k) p4) k))
  case atStart => exact ⟨0, none, 0, rfl, rfl, by omega, H0⟩
  case round =>
    obtain ⟨k, x4, p4, rfl, rfl, hk, HF⟩ := hrel
    have Hk := hid hk
    have hkn : k ≤ l.length := by omega
    clear hk H0
    by_cases hlt : k < l.length
    · have c0 := HF.out.cell k hlt
      have hmem : l[k] ∈ l := List.getElem_mem hlt
      have hbad : grpOk l[k] = false → o = none := fun f => by
        rw [← HO.out]
        refine if_neg fun h => ?_
        have := List.all_eq_true.1 h _ hmem
        rw [f] at this; cases this
      have hst := fun (W w2 : World) (v' : Value) (o : Obj) (h : GrpW w W l g (.slice x4 (2 * k) p4) k) (ho : grpOk l[k] = true) => GrpW.step (w2 := w2) (v' := v') (o := o) HG.out h hlt ho
      have hsz := HP.out _ hmem
      generalize hx : l[k] = x at c0 hbad hst hsz
      have HX := hid hx
      have HBAD := hid hbad
      have HST := hid hst
      clear hx hbad hst hmem
      have hxs : x.size ≤ 9223372036854775807 := by omega
      by_cases h1 : x.data.toList = []
      · have d1 : x.toList.isEmpty = true := by rw [Lib.toList_data, h1]; rfl
        have hn : o = none := HBAD.out (by unfold grpOk grpL; rw [h1]; rfl)
        clear h1
        subst hn
        go_wp2_with fail
        go_ret2
        exact ⟨rfl, HF.out.bel⟩
      · have d1 : x.toList.isEmpty = false := by rw [Lib.toList_data]; simpa using h1
        by_cases h2 : 4 < x.size
        · have d2 : decide (4 < x.size) = true := decide_eq_true h2
          have hn : o = none := HBAD.out (by unfold grpOk grpL; rw [if_neg (by rw [← Lib.size_eq]; omega)]; rfl)
          clear h1
          subst hn
          go_wp2_with fail
          go_ret2
          exact ⟨rfl, HF.out.bel⟩
        · have d2 : decide (4 < x.size) = false := decide_eq_false h2
          have HT := (show Hid (∀ W, Calls Tryz.prog 79 #[.string x, .string hexs] W fun e w' => e = .returned (.string ⟨(Lib.trimS x.data.toList hexs.data.toList).toArray⟩) ∧ Bel W w') from fun W => trim_run x hexs W hxs (by decide) (by decide))
          by_cases h3 : Lib.trimS x.data.toList hexs.data.toList = []
          · have hall := (trim_hexs _).1 h3
            have hgo : grpOk x = true := by
              unfold grpOk grpL
              rw [if_pos ⟨Nat.pos_of_ne_zero (fun f => h1 (List.length_eq_zero_iff.1 f)), by rw [← Lib.size_eq]; omega, hall⟩]
              rfl
            obtain ⟨g1, g4, -, gv⟩ := grpL_some hgo
            have hlt6 : grpOr x < 65536 := by
              rw [gv]
              have := hexF_lt _ x.data.toList rfl (List.all_eq_true.1 hall)
              have h2 : 16 ^ x.data.toList.length ≤ 16 ^ 4 := Nat.pow_le_pow_right (by decide) (by rw [← Lib.size_eq]; exact g4)
              unfold hexF at this
              omega
            have HU := (show Hid (∀ W, Calls Tryz.prog 121 #[.string x, .int .i64 16, .int .i64 16] W fun e w' => e = .returned (.tuple #[.int .u64 (grpOr x : Nat), .nilIface]) ∧ Bel W w') from fun W => by rw [gv]; exact parse16_run x g1 g4 (List.all_eq_true.1 hall) W)
            have HGO := hid hgo
            rw [h3] at HT
            clear h1 h3 hall hgo gv
            generalize grpOr x = n at HU hlt6 HST
            have hwn : IntKind.u8.wrap (n : Int) = (n : Int) % 256 := IntKind.wrap_u8' n
            go_wp2_with fail
            refine (HT.out _).mono ?_
            rintro e w2 ⟨rfl, hb2⟩
            go_wp2_with fail
            refine (HU.out _).mono ?_
            rintro e w3 ⟨rfl, hb3⟩
            have HF3 := hid ((HF.out.next hb2).next hb3)
            clear HF hb2 hb3 HT HU c0 hxs d1 d2
            go_wp2_with (first
              | (at_builtin; refine wpList_append_own _ rfl (.tmp 35) (.tmp 41) 88 rfl (w.heap.size + 1) 5 i (.int .u8 0) 1 1 Tryz.underlying88 HI.out.1 HI.out.2.1 HI.out.2.2.1 HI.out.2.2.2 rfl (by decide) (.slice x4 (2 * k) p4) (2 * k) ((bytesL ((l.take k).map grpOr)).map u8V) rfl (HF3.out.own.alloc _) ⟨w3.heap.size, 0, none⟩ 2 2 [.int .u8 ((n : Int) / 256), .int .u8 ((n : Int) % 256)] rfl rfl ?c1 ?c2 ?c3 ?c4 ?c5 ?_))
            case c1 => exact new2 _ _ _ rfl
            case c2 => intro u hu; simp at hu; rcases hu with rfl | rfl <;> rfl
            case c3 => unfold maxLen; omega
            case c4 => omega
            case c5 => have := HF3.out.bel.size; rw [World.size_alloc]; have := (Array.getElem?_eq_some_iff.1 HF3.out.hl).1; have := HG.out; omega
            intro v' w4 hown hg _
            obtain ⟨x5, p5, rfl, -, -⟩ := row_shape hown
            have HN := hid (HST.out _ _ _ _ HF3.out HGO.out hg (by simpa using hown))
            clear hown hg HF3
            go_wp2_with fail
            go_roundg (gk - 1)
            case measure => have := Hk.out; omega
            case rel => exact ⟨k + 1, x5, p5, by rw [(by omega : 2 * k + 2 = 2 * (k + 1))], by go_num, by have := Hk.out; omega, by rw [(by omega : 2 * (k + 1) = 2 * k + 2)]; exact HN⟩
          · have hn : o = none := HBAD.out (by unfold grpOk grpL; rw [if_neg (fun f => h3 ((trim_hexs _).2 f.2.2))]; rfl)
            have d4 : (⟨(Lib.trimS x.data.toList hexs.data.toList).toArray⟩ : ByteArray).toList.isEmpty = false := by
              rw [Lib.toList_data]
              simpa using h3
            generalize (⟨(Lib.trimS x.data.toList hexs.data.toList).toArray⟩ : ByteArray) = tr at HT d4
            clear h1 h3
            subst hn
            go_wp2_with fail
            refine (HT.out _).mono ?_
            rintro e w2 ⟨rfl, hb2⟩
            go_wp2_with fail
            go_ret2
            exact ⟨rfl, HF.out.bel.trans hb2⟩
    · obtain rfl : k = l.length := by omega
      have hgood : l.all grpOk = true := List.all_eq_true.2 fun x hx => HF.out.ok x (by rw [List.take_of_length_le (Nat.le_refl _)]; exact hx)
      have ho : o = some (l.map grpOr) := by rw [← HO.out, if_pos hgood]
      clear hgood
      subst ho
      go_wp2_with fail
      go_ret2
      refine ⟨_, rfl, ?_, HF.out.bel⟩
      have := own_base (base' := w.heap.size) HF.out.own (by omega)
      rw [List.take_of_length_le (Nat.le_refl _)] at this
      rw [List.length_map]
      exact this
end Go.Proofs.YtpmmaickjolimaaGreatDoor.Ci
