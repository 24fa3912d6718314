/- One element more at a row of one's own; the reference's split. -/
import Derived.Test.YtpmmaickjolimaaGreatDoorCd
import Derived.Test.YtpmmaickjolimaaGreatDoorCg
namespace Go.Proofs.YtpmmaickjolimaaGreatDoor.Ci
open Go.RowKit

theorem wpList_push {P : Program} {a0 W : World} {ops : Array Oper} {rest : List Oper} {o : Oper} {a : Act} {Q : Exit → Act → World → Prop} (hgd : o.guard = none) (s x : Operand) (t : TypeId)
    (ho : o.op = .call { callee := .builtin .append, args := #[s, x], argTypes := #[t, t] })
    (e : TypeId) (z : Value) (size bytes : Nat) (ht : P.underlying t = some (.slice e)) (hi : (P.info? e).map (fun i => (i.zero, i.size, i.bytes)) = some (some z, size, bytes)) (hzs : z.cells.size = size) (hsz : 0 < size)
    (v : Value) (n : Nat) (xs : List Value) (hs : a.eval s = v) (hown : W.ownsRow a0.heap.size e size v n xs) (hb : Bel a0 W)
    (c : Array Value) (hx : a.eval x = .slice (some ⟨W.heap.size, 0, none⟩) 1 1) (hc : c.size = size) (h1 : ∀ u ∈ c.toList, u.oneCell' = true) (hm : n + 1 ≤ maxLen) (hbytes : (n + 1) * bytes ≤ 140737488355328)
    (h : ∀ x' p w', w'.ownsRow a0.heap.size e size (.slice x' (n + 1) p) (n + 1) (xs ++ c.toList) → Bel a0 w' → wpList P ops Q rest (a.put o.dst (.slice x' (n + 1 : Nat) p)) w') : wpList P ops Q (o :: rest) a (W.alloc (.cells c e)) := by
  obtain ⟨i, hi, j2, j3, j4⟩ := info_parts hi
  refine wpList_append_own _ hgd s x t ho a0.heap.size e i z size bytes ht hi j2 j3 j4 hzs hsz v n xs hs (hown.alloc _) ⟨W.heap.size, 0, none⟩ 1 1 c.toList hx (by rw [Array.length_toList, hc, Nat.one_mul]) ?_ h1 hm hbytes (by have := hb.size; rw [World.size_alloc]; omega) ?_
  · intro j u hu
    rw [addr_add, Nat.zero_add]
    have e := heap_alloc_new W (.cells c e)
    simp only [World.cell?, e]
    simpa using hu
  · intro v' w' h2 hg _
    obtain ⟨x', p, rfl, -, -⟩ := row_shape h2
    exact h x' p w' h2 ((hb.alloc _).grown hg (hown.alloc _))
theorem string_infos : (Tryz.prog.info? 9).map (fun i => (i.zero, i.size, i.bytes)) = some (some (.string ⟨#[]⟩), 1, 16) := by kernel_rfl
/-- A row of texts of one's own. -/
def Txts (a0 W : World) (v : Value) (ps : List ByteArray) : Prop := W.ownsRow a0.heap.size 9 1 v ps.length (ps.map Value.string)
theorem Txts.next {a0 W W' : World} {v : Value} {ps : List ByteArray} (h : Txts a0 W v ps) (hb : Bel W W') : Txts a0 W' v ps := own_bel h hb
theorem Txts.len {a0 W : World} {v : Value} {ps : List ByteArray} (h : Txts a0 W v ps) : ∃ x p, v = .slice x ps.length p := by
  obtain ⟨x, p, e, -, -⟩ := row_shape h
  exact ⟨x, p, e⟩
theorem Txts.at_ {a0 W : World} {x : Option Addr} {m p : Nat} {ps : List ByteArray} (h : Txts a0 W (.slice x m p) ps) (k : Nat) (hk : k < ps.length) : ∃ g, x = some ⟨g, 0, none⟩ ∧ W.cell? ⟨g, k, none⟩ = some (.string ps[k]) := by
  rcases h.2 with ⟨-, h0⟩ | ⟨g, cap, cur, e, -⟩
  · rw [h0] at hk; cases hk
  · cases e
    refine ⟨g, rfl, ?_⟩
    rw [World.ownsRow.cellAt h k (by omega)]
    simp [hk]
def SplitPost (c : UInt8) (s : ByteArray) (w : World) (e : Ending) (w' : World) : Prop := ∃ v ps, e = .returned v ∧ Txts w w' v ps ∧ ps.map (·.data.toList) = splitL c s.data.toList ∧ Bel w w'
/-- What is in hand. -/
structure SpI (c : UInt8) (l : List UInt8) (k f : Nat) (ps : List ByteArray) : Prop where
  le : f ≤ k
  num : ps.length ≤ k
  eq : ps.map (·.data.toList) ++ splitL c (l.drop f) = splitL c l
  not : c ∉ (l.drop f).take (k - f)
theorem SpI.more {c : UInt8} {l : List UInt8} {k f : Nat} {ps : List ByteArray} (h : SpI c l k f ps) (hk : k < l.length) (hn : l[k] ≠ c) : SpI c l (k + 1) f ps := by
  have := h.le
  refine ⟨by omega, by have := h.num; omega, h.eq, ?_⟩
  rw [show k + 1 - f = (k - f) + 1 by omega, List.take_succ_eq_append_getElem (by rw [List.length_drop]; omega)]
  intro f'
  rcases List.mem_append.1 f' with g | g
  · exact h.not g
  · rw [List.mem_singleton, List.getElem_drop] at g
    have e : l[f + (k - f)]'(by omega) = l[k] := by congr 1; omega
    rw [e] at g
    exact hn g.symm
theorem SpI.cut {c : UInt8} {l : List UInt8} {k f : Nat} {ps : List ByteArray} (h : SpI c l k f ps) (hk : k < l.length) (hn : l[k] = c) (p : ByteArray) (hp : p.data.toList = (l.drop f).take (k - f)) : SpI c l (k + 1) (k + 1) (ps ++ [p]) := by
  have hle := h.le
  have hnum := h.num
  refine ⟨Nat.le_refl _, by simp; omega, ?_, by simp⟩
  rw [← h.eq, List.map_append, List.append_assoc]
  congr 1
  have e : l.drop f = (l.drop f).take (k - f) ++ c :: l.drop (k + 1) := by
    rw [← hn]
    have h1 : l[k] :: l.drop (k + 1) = l.drop k := (List.drop_eq_getElem_cons hk).symm
    rw [h1]
    have h2 : l.drop k = (l.drop f).drop (k - f) := by rw [List.drop_drop]; congr 1; omega
    rw [h2, List.take_append_drop]
  rw [e, splitL_app c _ _ h.not, List.map_singleton, hp, List.singleton_append]
theorem SpI.done {c : UInt8} {l : List UInt8} {f : Nat} {ps : List ByteArray} (h : SpI c l l.length f ps) (p : ByteArray) (hp : p.data.toList = l.drop f) : (ps ++ [p]).map (·.data.toList) = splitL c l := by
  rw [← h.eq, List.map_append, List.map_singleton, hp]
  have := h.not
  rw [List.take_of_length_le (by rw [List.length_drop]; exact Nat.le_refl _)] at this
  rw [splitL_none c _ this]
set_option maxHeartbeats 2000000 in
set_option maxRecDepth 100000 in
theorem rsplit_run (s : ByteArray) (c : UInt8) (w : World) (hs : s.size < 4294967281) :
    Calls Tryz.prog 37 #[.string s, .int .u8 c.toNat] w (SplitPost c s w) := by
  have hl : s.data.toList.length = s.size := by rw [Lib.size_eq]
  have HL := hid hl
  have H0 := hid (show Bel w w ∧ Txts w w (.slice none 0 0) [] ∧ SpI c s.data.toList 0 0 [] from ⟨Bel.refl w, World.ownsRow_nil _ _ _ _, Nat.le_refl _, Nat.le_refl _, rfl, by simp⟩)
  clear hl
  go_enter Tryz.func37, Tryz.ntmps37
  go_wp2_with fail
  go_loopg [5, 6, 7] s.size (fun gg v5 v6 v7 wr => ∃ (ps : List ByteArray) (x5 : Option Addr) (p5 f k : Nat), v5 = .slice x5 ps.length p5 ∧ v6 = .int .i64 f ∧ v7 = .int .i64 k ∧ k + gg = s.size ∧ f ≤ k ∧ ps.length ≤ k ∧ Hid (Bel w wr ∧ Txts w wr (.slice x5 ps.length p5) ps ∧ SpI c s.data.toList k f ps))
  case atStart => exact ⟨[], none, 0, 0, 0, rfl, rfl, rfl, by omega, Nat.le_refl _, Nat.le_refl _, H0⟩
  case round =>
    clear H0
    obtain ⟨ps, x5, p5, f, k, rfl, rfl, rfl, hk, hf, hnum, H⟩ := hrel
    have Hk := hid hk
    have hks : k ≤ s.size := by omega
    clear hk
    by_cases hlt : k < s.size
    · have HC := hid (show s.data.toList[k]'(by rw [HL.out]; exact hlt) = s[k] from rfl)
      by_cases hc : s[k] = c
      · have bc : (((s[k]'hlt).toNat : Int) == (c.toNat : Int)) = true := by rw [hc]; simp
        have HX := hid (H.out.2.2.cut (by rw [HL.out]; exact hlt) (HC.out.trans hc) (s.extract f k) (Lib.extract_data s f k))
        clear hc
        go_wp2_with (at_builtin; refine wpList_push (a0 := w) (W := wr) rfl (.tmp 19) (.tmp 24) 46 rfl 9 (.string ⟨#[]⟩) 1 16 Tryz.underlying46 string_infos rfl (by decide) (.slice x5 ps.length p5) ps.length (ps.map Value.string) rfl H.out.2.1 H.out.1 #[.string (s.extract f k)] rfl rfl (by intro u hu; simp at hu; subst hu; rfl) (by unfold maxLen; omega) (by omega) ?_; intro x' p' w' hown hb)
        have HN := hid (show Bel w w' ∧ Txts w w' (.slice x' (ps ++ [s.extract f k]).length p') (ps ++ [s.extract f k]) ∧ SpI c s.data.toList (k + 1) (k + 1) (ps ++ [s.extract f k]) from ⟨hb, (by unfold Txts; rw [List.map_append, List.length_append]; exact hown), HX.out⟩)
        clear H hown hb HX
        go_wp2_with fail
        go_roundg (gk - 1)
        case measure => have := Hk.out; omega
        case rel => exact ⟨ps ++ [s.extract f k], x', p', k + 1, k + 1, by rw [List.length_append]; rfl, by go_num, by go_num, by have := Hk.out; omega, Nat.le_refl _, by rw [List.length_append]; show ps.length + 1 ≤ _; omega, HN⟩
      · have bc : (((s[k]'hlt).toNat : Int) == (c.toNat : Int)) = false := by
          rw [beq_eq_false_iff_ne]
          intro g
          exact hc (UInt8.toNat_inj.1 (by omega))
        have HN := hid (show Bel w wr ∧ Txts w wr (.slice x5 ps.length p5) ps ∧ SpI c s.data.toList (k + 1) f ps from ⟨H.out.1, H.out.2.1, H.out.2.2.more (by rw [HL.out]; exact hlt) (fun g => hc (HC.out.symm.trans g))⟩)
        clear hc H
        go_wp2_with fail
        go_roundg (gk - 1)
        case measure => have := Hk.out; omega
        case rel => exact ⟨ps, x5, p5, f, k + 1, rfl, rfl, by go_num, by have := Hk.out; omega, by omega, by omega, HN⟩
    · obtain rfl : k = s.size := by omega
      have HX := hid ((show SpI c s.data.toList s.data.toList.length f ps by rw [HL.out]; exact H.out.2.2).done (s.extract f s.size) (Lib.extract_to_end s f))
      go_wp2_with (at_builtin; refine wpList_push (a0 := w) (W := wr) rfl (.tmp 28) (.tmp 32) 46 rfl 9 (.string ⟨#[]⟩) 1 16 Tryz.underlying46 string_infos rfl (by decide) (.slice x5 ps.length p5) ps.length (ps.map Value.string) rfl H.out.2.1 H.out.1 #[.string (s.extract f s.size)] rfl rfl (by intro u hu; simp at hu; subst hu; rfl) (by unfold maxLen; omega) (by omega) ?_; intro x' p' w' hown hb)
      go_wp2_with fail
      go_ret
      refine ⟨_, ps ++ [s.extract f s.size], rfl, ?_, HX.out, hb⟩
      unfold Txts
      rw [List.map_append, List.length_append]
      exact hown
end Go.Proofs.YtpmmaickjolimaaGreatDoor.Ci
