/- Walk: slices.Insert of one entry. -/
import Derived.Test.YtpmmaickjolimaaGreatDoorJ12
import Derived.Test.YtpmmaickjolimaaGreatDoorJ04
import Derived.Lib.AppendZerosOnto
import Derived.Lib.Overlaps
import Derived.Deep.RegionLaw
import Derived.Test.YtpmmaickjolimaaGreatDoorJ14
import Derived.Test.YtpmmaickjolimaaGreatDoorJ13
namespace Go.Proofs.YtpmmaickjolimaaGreatDoor.Tb
open Go.RowKit
open Ci (Bel hid own_bel row_shape own_base addr_add)

section
variable {P : Program}
/-- A copy of rows of structs. -/
theorem run_copy_structs (w : World) (dT sT ty elem : TypeId) (S g o dLen dCap : Nat) (a : Addr) (sLen sCap : Nat) (cur : Array Value) (t : TypeId) (cs : List Value)
    (hu : P.underlying dT = some (.slice elem)) (hs : (P.info? elem).map (·.size) = some S)
    (hg : w.heap[g]? = some (.cells cur t (0, 0))) (hn : cs.length = Nat.min sLen dLen * S)
    (hsrc : ∀ j v, cs[j]? = some v → w.cell? (a.add j) = some v) (hfit : o + cs.length ≤ cur.size) (h1 : ∀ v ∈ cs, v.oneCell' = true) :
    (Builtin.copy_ #[dT, sT] ty #[.slice (some ⟨g, o, none⟩) dLen dCap, .slice (some a) sLen sCap]).run P w =
      .ok (goInt (Nat.min sLen dLen)) (w.setRow g (cur.toList.take o ++ cs ++ cur.toList.drop (o + cs.length)).toArray) := by
  have hl := run_loadCells_list (P := P) w a cs hsrc
  have hst := run_storeCells_at P g o t cs 0 cur w hg (by simpa using hfit) h1
  cases hq : P.info? elem with
  | none => simp [hq] at hs
  | some i =>
    have hi : i.size = S := by simpa [hq] using hs
    simp [Builtin.copy_, run_underlying hu, Builtin.lenOf, Builtin.firstCells, sizeOf, typeInfo, hq, hi, ← hn, hl, hst]
/-- A copy whose run is known. -/
theorem wp_copy_known (w : World) {o : Oper} {a : Act} {K : Act → World → Prop} {Q : Exit → Act → World → Prop} (d s : Operand) (t t' : TypeId)
    (ho : o.op = .call { callee := .builtin .copy, args := #[d, s], argTypes := #[t, t'] }) (v u : Value) (hd : a.eval d = v) (hs : a.eval s = u) {v' : Value} {w' : World}
    (hr : (Builtin.copy_ #[t, t'] o.type #[v, u]).run P w = .ok v' w') (h : K (a.put o.dst v') w') : o.wp P a w K Q := by
  unfold Oper.wp execOp
  simp only [ho, resolve, invoke, builtin, Sem.run_bind, Sem.run_pure, Result.andThen_ok, List.map_toArray, List.map_cons, List.map_nil, hd, hs, hr]
  exact h
theorem step_copy_known {ops : Array Oper} {o : Oper} {a : Act} {w : World} {K : Act → World → Prop} {Q : Exit → Act → World → Prop} {E : Prop}
    (hg : o.guard = none) (d s : Operand) (t t' : TypeId) (ho : o.op = .call { callee := .builtin .copy, args := #[d, s], argTypes := #[t, t'] })
    (v u : Value) (hd : a.eval d = v) (hs : a.eval s = u) {v' : Value} {w' : World} (hr : (Builtin.copy_ #[t, t'] o.type #[v, u]).run P w = .ok v' w') (hK : K (a.put o.dst v') w') :
    if Region.wanted o (yielded ops a.tmps) = true then Oper.wp P o a w K Q else E := by
  have hw : Region.wanted o (yielded ops a.tmps) = true := by simp [Region.wanted, hg]
  rw [if_pos hw]
  exact wp_copy_known w d s t t' ho v u hd hs hr hK
end
def enC (e : En) : List Value := [.string ⟨e.key.toArray⟩, .string ⟨e.val.toArray⟩]
def enCs (es : List En) : List Value := es.flatMap enC
theorem enCs_len : ∀ es : List En, (enCs es).length = es.length * 2
  | [] => rfl
  | e :: es => by
    show (enC e ++ enCs es).length = _
    rw [List.length_append, enCs_len es, List.length_cons]
    show 2 + _ = _
    omega
theorem enCs_app (a b : List En) : enCs (a ++ b) = enCs a ++ enCs b := by unfold enCs; rw [List.flatMap_append]
theorem enCs_one : ∀ (es : List En), ∀ v ∈ enCs es, v.oneCell' = true := fun es v hv => by
  unfold enCs at hv
  obtain ⟨e, -, he⟩ := List.mem_flatMap.1 hv
  simp only [enC, List.mem_cons, List.not_mem_nil, or_false] at he
  rcases he with rfl | rfl <;> rfl
theorem enCs_take (es : List En) (i : Nat) : (enCs es).take (i * 2) = enCs (es.take i) := by
  by_cases hi : i ≤ es.length
  · have e : enCs es = enCs (es.take i) ++ enCs (es.drop i) := by rw [← enCs_app, List.take_append_drop]
    have hl : (enCs (es.take i)).length = i * 2 := by rw [enCs_len, List.length_take, Nat.min_eq_left hi]
    rw [e, ← hl, List.take_left]
  · rw [List.take_of_length_le (by rw [enCs_len]; omega), List.take_of_length_le (by omega)]
theorem enCs_drop (es : List En) (i : Nat) : (enCs es).drop (i * 2) = enCs (es.drop i) := by
  by_cases hi : i ≤ es.length
  · have e : enCs es = enCs (es.take i) ++ enCs (es.drop i) := by rw [← enCs_app, List.take_append_drop]
    have hl : (enCs (es.take i)).length = i * 2 := by rw [enCs_len, List.length_take, Nat.min_eq_left hi]
    rw [e, ← hl, List.drop_left]
  · rw [List.drop_eq_nil_of_le (by rw [enCs_len]; omega), List.drop_eq_nil_of_le (by omega)]; rfl
theorem en_infos : (Tryz.prog.info? 160).map (fun i => (i.zero, i.size, i.bytes)) = some (some (.agg #[.string ⟨#[]⟩, .string ⟨#[]⟩]), 2, 32) := by kernel_rfl
theorem en_size : (Tryz.prog.info? 160).map (·.size) = some 2 := by kernel_rfl
/-- What Insert hands back. -/
def InsPost (base : Nat) (v : Value) (L : List En) (w : World) (e : Ending) (w' : World) : Prop := ∃ v', e = .returned v' ∧ w'.ownsRow base 160 2 v' L.length (enCs L) ∧ w.grownBy w' v.ownBlock
/-- A world in which one block is another one, or new. -/
theorem grown_at {w w' : World} {g : Nat} (ho : w'.os = w.os) (ht : w'.tape = w.tape) (hp : w'.output = w.output) (hs : w.heap.size ≤ w'.heap.size) (hb : ∀ k, k < w.heap.size → k ≠ g → w'.heap[k]? = w.heap[k]?) : w.grownBy w' (some g) :=
  ⟨ho, ht, hp, hs, fun k hk hn => hb k hk fun e => hn (by rw [e])⟩
theorem ins_list (es : List En) (e : En) (i : Nat) : enCs (es.take i ++ e :: es.drop i) = (enCs es).take (i * 2) ++ enC e ++ (enCs es).drop (i * 2) := by
  rw [enCs_app, show enCs (e :: es.drop i) = enC e ++ enCs (es.drop i) from rfl, enCs_take, enCs_drop, List.append_assoc]
theorem ins_length (es : List En) (e : En) (i : Nat) (hi : i ≤ es.length) : (es.take i ++ e :: es.drop i).length = es.length + 1 := by
  rw [List.length_append, List.length_cons, List.length_take, List.length_drop]; omega
abbrev insF : FuncId := 104
set_option maxHeartbeats 2000000 in
set_option maxRecDepth 100000 in
/-- At the end. -/
theorem ins_end (base : Nat) (v : Value) (es : List En) (e : En) (vb : Nat) (w : World) (hown : w.ownsRow base 160 2 v es.length (enCs es)) (hvb : w.heap[vb]? = some (.cells (enC e).toArray 160 (0, 0)))
    (hb : base ≤ w.heap.size) (hn : es.length ≤ 2000) : Calls Tryz.prog insF #[v, .int .i64 es.length, .slice (some ⟨vb, 0, none⟩) 1 1] w (InsPost base v (es ++ [e]) w) := by
  obtain ⟨i0, hi0, hz0, hz1, hz2⟩ := info_parts en_infos
  obtain ⟨x, cap, rfl, hnc, hc63⟩ := row_shape hown
  have HX := hid (show (es ++ [e]).length = es.length + 1 ∧ enCs (es ++ [e]) = enCs es ++ enC e from ⟨by simp, enCs_app es [e]⟩)
  have HS := hid (show ∀ j u, (enC e)[j]? = some u → w.cell? ((⟨vb, 0, none⟩ : Addr).add j) = some u from fun j u hj => by
    rw [addr_add, Nat.zero_add, Lib.cell_of_heap hvb]
    simpa using hj)
  have HO := hid hown
  clear hvb hown
  have b0 : ((es.length : Int) == (es.length : Int)) = true := by simp
  generalize es.length = n at HO HX hnc hn b0 ⊢
  by_cases hcn : cap = n
  · subst hcn
    go_enter Tryz.func104, Tryz.ntmps104
    go_wp2_with (first | (at_builtin; refine wpList_append_own _ rfl _ _ 151 rfl base 160 i0 _ 2 32 Tryz.underlying151 hi0 hz0 hz1 hz2 rfl (by decide) _ _ _ rfl HO.out ⟨vb, 0, none⟩ 1 1 (enC e) rfl rfl HS.out (by simp [enC, Value.oneCell']) (by unfold maxLen; omega) (by omega) hb ?_; intro v' w2 hown2 hg2 _))
    go_ret
    exact ⟨_, rfl, by rw [HX.out.1, HX.out.2]; exact hown2, hg2⟩
  · go_enter Tryz.func104, Tryz.ntmps104
    go_wp2_with (first | (at_builtin; refine wpList_append_own _ rfl _ _ 151 rfl base 160 i0 _ 2 32 Tryz.underlying151 hi0 hz0 hz1 hz2 rfl (by decide) _ _ _ rfl HO.out ⟨vb, 0, none⟩ 1 1 (enC e) rfl rfl HS.out (by simp [enC, Value.oneCell']) (by unfold maxLen; omega) (by omega) hb ?_; intro v' w2 hown2 hg2 _))
    go_ret
    exact ⟨_, rfl, by rw [HX.out.1, HX.out.2]; exact hown2, hg2⟩
set_option maxHeartbeats 4000000 in
set_option maxRecDepth 100000 in
/-- Ahead of others, where there is room. -/
theorem ins_room (base g cap : Nat) (cur : Array Value) (es : List En) (e : En) (i vb : Nat) (w : World) (hg : w.heap[g]? = some (.cells cur 160 (0, 0))) (hcs : cur.size = cap * 2) (hcur : cur.toList.take (es.length * 2) = enCs es)
    (hvb : w.heap[vb]? = some (.cells (enC e).toArray 160 (0, 0))) (hne : vb ≠ g) (hi : i < es.length) (hroom : es.length + 1 ≤ cap) (hbg : base ≤ g) (hcm : cap ≤ maxLen) :
    Calls Tryz.prog insF #[.slice (some ⟨g, 0, none⟩) es.length cap, .int .i64 i, .slice (some ⟨vb, 0, none⟩) 1 1] w (InsPost base (.slice (some ⟨g, 0, none⟩) es.length cap) (es.take i ++ e :: es.drop i) w) := by
  obtain ⟨n, hn⟩ : ∃ n, n = es.length := ⟨_, rfl⟩
  have hL : (enCs es).length = n * 2 := by rw [enCs_len, hn]
  obtain ⟨row1, hr1⟩ : ∃ row1 : List Value, row1 = cur.toList.take ((i + 1) * 2) ++ (enCs es).drop (i * 2) ++ cur.toList.drop ((n + 1) * 2) := ⟨_, rfl⟩
  obtain ⟨row2, hr2⟩ : ∃ row2 : List Value, row2 = row1.take (i * 2) ++ enC e ++ row1.drop ((i + 1) * 2) := ⟨_, rfl⟩
  rw [← hn] at hcur hi hroom ⊢
  have hcl : cur.toList.length = cap * 2 := by rw [Array.length_toList, hcs]
  have hr1l : row1.length = cap * 2 := by
    rw [hr1, List.length_append, List.length_append, List.length_take, List.length_drop, List.length_drop, hL, hcl]; omega
  have hR2 : row2.length = cap * 2 ∧ row2.take ((n + 1) * 2) = enCs (es.take i ++ e :: es.drop i) := by
    have ht : row1.take (i * 2) = (enCs es).take (i * 2) := by
      rw [hr1, List.append_assoc, List.take_append_of_le_length (by rw [List.length_take]; omega), List.take_take, Nat.min_eq_left (by omega), ← hcur, List.take_take, Nat.min_eq_left (by omega)]
    have hd : row1.drop ((i + 1) * 2) = (enCs es).drop (i * 2) ++ cur.toList.drop ((n + 1) * 2) := by
      have hl : (cur.toList.take ((i + 1) * 2)).length = (i + 1) * 2 := by rw [List.length_take]; omega
      rw [hr1, List.append_assoc]
      exact List.drop_left' hl
    rw [hr2, ht, hd, ins_list]
    have hl2 : ((enCs es).take (i * 2) ++ enC e ++ (enCs es).drop (i * 2)).length = (n + 1) * 2 := by
      rw [List.length_append, List.length_append, List.length_take, List.length_drop, hL]; show _ + 2 + _ = _; omega
    constructor
    · rw [← List.append_assoc, List.length_append, hl2, List.length_drop]; omega
    · rw [← List.append_assoc, ← hl2, List.take_left]
  have hcp1 : ∀ (W : World) (ty : TypeId) (dc sc : Nat), W.heap[g]? = some (.cells cur 160 (0, 0)) → (Builtin.copy_ #[151, 151] ty #[.slice (some ⟨g, (i + 1) * 2, none⟩) (n - i) dc, .slice (some ⟨g, i * 2, none⟩) (n + 1 - i) sc]).run Tryz.prog W = .ok (goInt (n - i : Nat)) (W.setRow g row1.toArray) := fun W ty dc sc hW => by
    have hm : Nat.min (n + 1 - i) (n - i) = n - i := by simp only [Nat.min_def]; split <;> omega
    have hdl : ((enCs es).drop (i * 2)).length = (n - i) * 2 := by rw [List.length_drop, hL]; omega
    have := run_copy_structs (P := Tryz.prog) W 151 151 ty 160 2 g ((i + 1) * 2) (n - i) dc ⟨g, i * 2, none⟩ (n + 1 - i) sc cur _ ((enCs es).drop (i * 2)) Tryz.underlying151 en_size hW (by rw [hm, hdl]) (fun j v hj => by
      rw [addr_add, Lib.cell_of_heap hW]
      rw [List.getElem?_drop, ← hcur, List.getElem?_take] at hj
      split at hj
      · rw [← hj]; simp
      · cases hj) (by rw [hdl, hcs]; omega) (fun v hv => enCs_one es v (List.mem_of_mem_drop hv))
    rw [hm] at this
    rw [this, hr1, hdl]
    congr 5
    omega
  have hcp2 : ∀ (W : World) (ty : TypeId) (dc : Nat), W.heap[g]? = some (.cells row1.toArray 160 (0, 0)) → W.heap[vb]? = some (.cells (enC e).toArray 160 (0, 0)) → (Builtin.copy_ #[151, 151] ty #[.slice (some ⟨g, i * 2, none⟩) (n + 1 - i) dc, .slice (some ⟨vb, 0, none⟩) 1 1]).run Tryz.prog W = .ok (goInt (1 : Nat)) (W.setRow g row2.toArray) := fun W ty dc hW hV => by
    have hm : Nat.min 1 (n + 1 - i) = 1 := by simp only [Nat.min_def]; split <;> omega
    have := run_copy_structs (P := Tryz.prog) W 151 151 ty 160 2 g (i * 2) (n + 1 - i) dc ⟨vb, 0, none⟩ 1 1 row1.toArray _ (enC e) Tryz.underlying151 en_size hW (by rw [hm]; rfl) (fun j v hj => by
      rw [addr_add, Nat.zero_add, Lib.cell_of_heap hV]; simpa using hj) (by rw [List.size_toArray, hr1l]; show _ + 2 ≤ _; omega) (fun v hv => by
        simp only [enC, List.mem_cons, List.not_mem_nil, or_false] at hv
        rcases hv with rfl | rfl <;> rfl)
    rw [hm] at this
    rw [this, hr2]
    congr 5
    show i * 2 + 2 = _
    omega
  have hov : ∀ (off lb cb : Nat), (callFunc 156 #[.slice (some ⟨vb, 0, none⟩) 1 1, .slice (some ⟨g, off, none⟩) lb cb]).run Tryz.prog w = .ok (.value (.bool false)) w := fun off lb cb => by
    rw [run_callFunc_extern Tryz.func156 (by kernel_rfl) (by kernel_rfl) (by kernel_rfl) (e := Extern.SlicesOverlaps.overlaps #[151, 151] #[4]) (by kernel_rfl),
      Lib.run_overlaps_apart w 151 4 160 Tryz.underlying151 2 Tryz.sizeOf160 ⟨vb, 0, none⟩ ⟨g, off, none⟩ 1 1 lb cb hne 160 160 2 (cap * 2) (by simp [World.shape?, hvb, enC]) (by simp [World.shape?, hg, hcs]) (by omega) (by simp [World.frozen?, hvb]) (by simp [World.frozen?, hvb])]
    rfl
  have HG := hid hg
  have HV := hid hvb
  have HC1 := (show Hid _ from hid hcp1)
  have HC2 := (show Hid _ from hid hcp2)
  have HR := hid hR2
  have HLn := hid (show (es.take i ++ e :: es.drop i).length = n + 1 by rw [ins_length es e i (by omega), hn])
  have HB := hid (And.intro hbg hcm)
  have HW1 := hid (show ∀ W : World, W.heap = w.heap → (W.setRow g row1.toArray).heap[g]? = some (.cells row1.toArray 160 (0, 0)) ∧ (W.setRow g row1.toArray).heap[vb]? = some (.cells (enC e).toArray 160 (0, 0)) from fun W hW => ⟨setRow_heap W g cur _ _ _ (by rw [hW]; exact hg), by rw [setRow_other _ _ _ _ hne, hW]; exact hvb⟩)
  have b1 : ((i : Int) == (n : Int)) = false := by rw [beq_eq_false_iff_ne]; omega
  have b1n : ¬ (i : Int) = (n : Int) := by omega
  have b2 : decide ((cap : Int) < (n : Int) + 1) = false := decide_eq_false (by omega)
  have n1 : ¬ cap = i := by omega
  have n2 : ¬ cap = i + 1 := by omega
  have hcap : cap ≤ 9223372036854775807 := by unfold maxLen at hcm; omega
  have hw1 : IntKind.i64.wrap ((i : Int) + 1) = (i : Int) + 1 := by rw [IntKind.wrap_i64]; omega
  have h0 : (0 : Int) ≤ (i : Int) + 1 := by omega
  have htn : ((i : Int) + 1).toNat = i + 1 := by omega
  have hle : i ≤ n := by omega
  have hle2 : (i : Int) + 1 ≤ (n : Int) + 1 := by omega
  have hle3 : (i : Int) ≤ (n : Int) + 1 := by omega
  clear hg hvb hcp1 hcp2 hR2 hr1 hr2 hr1l hL hcur hcs hcl hn hne hbg hcm
  go_enter Tryz.func104, Tryz.ntmps104
  go_wp2_with (simp only [hov])
  go_region_law (refine step_copy_known rfl _ _ 151 151 rfl (.slice (some ⟨g, (i + 1) * 2, none⟩) (n - i) (cap - (i + 1))) (.slice (some ⟨g, i * 2, none⟩) (n + 1 - i) (cap - i)) (by simp [Act.eval, Act.put]) (by simp [Act.eval, Act.put]) (HC1.out _ _ _ _ HG.out) ?_)
  have hcpE : ∀ ty : TypeId, (Builtin.copy_ #[151, 151] ty #[.slice (some ⟨g, i * 2, none⟩) (n + 1 - i) (cap - i), .slice (some ⟨vb, 0, none⟩) 1 1]).run Tryz.prog (w.drew.setRow g row1.toArray) = .ok (goInt (1 : Nat)) ((w.drew.setRow g row1.toArray).setRow g row2.toArray) := fun ty => HC2.out _ ty _ (HW1.out _ rfl).1 (HW1.out _ rfl).2
  go_wp2_with (simp only [hcpE])
  go_ret
  refine ⟨_, rfl, ?_⟩
  have e2 : ((w.drew.setRow g row1.toArray).setRow g row2.toArray).heap[g]? = some (.cells row2.toArray 160 (0, 0)) := setRow_heap _ g _ _ _ _ (HW1.out _ rfl).1
  refine ⟨⟨by rw [enCs_len], .inr ⟨g, cap, row2.toArray, ?_, HB.out.1, e2, ?_, HB.out.2, ?_, ?_⟩⟩, ?_⟩
  · rw [HLn.out]; rfl
  · rw [HLn.out]; exact hroom
  · rw [List.size_toArray, HR.out.1]
  · rw [HLn.out]; exact HR.out.2
  · exact grown_at rfl rfl rfl (by simp) fun k hk hne => by rw [setRow_other _ _ _ _ hne, setRow_other _ _ _ _ hne]; rfl
set_option maxHeartbeats 4000000 in
set_option maxRecDepth 100000 in
/-- Ahead of others, where there is no room: a new row. -/
theorem ins_grow (base g : Nat) (cur : Array Value) (es : List En) (e : En) (i vb : Nat) (w : World) (hg : w.heap[g]? = some (.cells cur 160 (0, 0))) (hcur : cur.toList = enCs es)
    (hvb : w.heap[vb]? = some (.cells (enC e).toArray 160 (0, 0))) (hi : i < es.length) (hn2 : es.length ≤ 2000) (hb : base ≤ w.heap.size) (row : Option Nat) :
    Calls Tryz.prog insF #[.slice (some ⟨g, 0, none⟩) es.length es.length, .int .i64 i, .slice (some ⟨vb, 0, none⟩) 1 1] w fun e' w' => ∃ v', e' = .returned v' ∧ w'.ownsRow base 160 2 v' (es.take i ++ e :: es.drop i).length (enCs (es.take i ++ e :: es.drop i)) ∧ w.grownBy w' row := by
  obtain ⟨i0, hi0, hz0, hz1, hz2⟩ := info_parts en_infos
  obtain ⟨n, hn⟩ : ∃ n, n = es.length := ⟨_, rfl⟩
  have hL : (enCs es).length = n * 2 := by rw [enCs_len, hn]
  rw [← hn] at hi hn2 ⊢
  have hgw : g < w.heap.size := (Array.getElem?_eq_some_iff.1 hg).1
  have hvw : vb < w.heap.size := (Array.getElem?_eq_some_iff.1 hvb).1
  obtain ⟨G, hG⟩ : ∃ G, G = grownCap w (n + 1) n 160 := ⟨_, rfl⟩
  have hGn : n + 1 ≤ G := by rw [hG]; exact grownCap_ge w _ _ _
  have hGm : G ≤ maxLen := by rw [hG]; exact grownCap_le_maxLen w _ _ _ (by unfold maxLen; omega)
  obtain ⟨row0, hr0⟩ : ∃ row0 : Array Value, row0 = ((enCs es).take (i * 2)).toArray ++ Builtin.zeroCells (Value.agg #[.string ⟨#[]⟩, .string ⟨#[]⟩]).cells (n + 1 - i) ++ Builtin.zeroCells (Value.agg #[.string ⟨#[]⟩, .string ⟨#[]⟩]).cells (G - (n + 1)) := ⟨_, rfl⟩
  have hr0l : row0.toList.length = G * 2 ∧ row0.toList.take (i * 2) = (enCs es).take (i * 2) := by
    have hl : ((enCs es).take (i * 2)).length = i * 2 := by rw [List.length_take]; omega
    constructor
    · rw [Array.length_toList, hr0, Array.size_append, Array.size_append, size_zeroCells, size_zeroCells, List.size_toArray, hl]
      show i * 2 + (n + 1 - i) * 2 + (G - (n + 1)) * 2 = _
      omega
    · rw [hr0, Array.toList_append, Array.toList_append, List.append_assoc]
      exact List.take_left' hl
  obtain ⟨row1, hr1⟩ : ∃ row1 : List Value, row1 = row0.toList.take (i * 2) ++ enC e ++ row0.toList.drop (i * 2 + (enC e).length) := ⟨_, rfl⟩
  have hr1l : row1.length = G * 2 ∧ row1.take ((i + 1) * 2) = (enCs es).take (i * 2) ++ enC e := by
    have hl : ((enCs es).take (i * 2) ++ enC e).length = (i + 1) * 2 := by rw [List.length_append, List.length_take]; show _ + 2 = _; omega
    rw [hr1, hr0l.2]
    constructor
    · rw [List.length_append, hl, List.length_drop, hr0l.1]; show _ + (_ - (_ + 2)) = _; omega
    · exact List.take_left' hl
  obtain ⟨row2, hr2⟩ : ∃ row2 : List Value, row2 = row1.take ((i + 1) * 2) ++ (enCs es).drop (i * 2) ++ row1.drop ((i + 1) * 2 + ((enCs es).drop (i * 2)).length) := ⟨_, rfl⟩
  have hR2 : row2.length = G * 2 ∧ row2.take ((n + 1) * 2) = enCs (es.take i ++ e :: es.drop i) := by
    rw [ins_list, hr2, hr1l.2]
    have hl2 : ((enCs es).take (i * 2) ++ enC e ++ (enCs es).drop (i * 2)).length = (n + 1) * 2 := by
      rw [List.length_append, List.length_append, List.length_take, List.length_drop, hL]; show _ + 2 + _ = _; omega
    constructor
    · rw [List.length_append, hl2, List.length_drop, List.length_drop, hL, hr1l.1]; omega
    · exact List.take_left' hl2
  have hrz : ∀ ty, (Builtin.append_ #[151, 3] ty #[.slice (some ⟨g, 0, none⟩) i n, .int .i64 ((n : Int) + 1 - (i : Int))]).run Tryz.prog w = .ok (.slice (some ⟨w.heap.size, 0, none⟩) (n + 1) G) (w.drew.alloc (.cells row0 160)) := fun ty => by
    have hold : (Builtin.firstCells i0.size i (.slice (some ⟨g, 0, none⟩) i n)).run Tryz.prog w.drew = .ok ((enCs es).take (i * 2)).toArray w.drew := by
      rw [hz1]
      exact run_firstCells_some w.drew 2 i ⟨g, 0, none⟩ i n ((enCs es).take (i * 2)) (by rw [List.length_take]; omega) (fun j v hj => by
        rw [addr_add, Nat.zero_add, Lib.cell_of_heap (show w.drew.heap[g]? = _ from hg)]
        rw [List.getElem?_take] at hj
        split at hj
        · rw [← hj, ← hcur]; simp
        · cases hj)
    have h := Lib.run_append_grow_zeros w 151 3 ty 160 i0 _ .i64 .i64 Tryz.underlying151 Tryz.underlying3 hi0 hz0 (some ⟨g, 0, none⟩) i n ((enCs es).take (i * 2)) hold (n + 1 - i) (by omega) (by rw [hz1]; omega) (by omega) (by omega) (by rw [hz2]; omega) (by rw [hz2, show i + (n + 1 - i) = n + 1 by omega]; exact growslice_fits (by omega) (by omega))
    rw [show i + (n + 1 - i) = n + 1 by omega, ← hG, ← hr0] at h
    rw [show (n : Int) + 1 - (i : Int) = ((n + 1 - i : Nat) : Int) by omega]
    exact h
  have hcpA : ∀ (W : World) (ty : TypeId) (dc : Nat), W.heap[w.heap.size]? = some (.cells row0 160 (0, 0)) → W.heap[vb]? = some (.cells (enC e).toArray 160 (0, 0)) → (Builtin.copy_ #[151, 151] ty #[.slice (some ⟨w.heap.size, i * 2, none⟩) (n + 1 - i) dc, .slice (some ⟨vb, 0, none⟩) 1 1]).run Tryz.prog W = .ok (goInt (1 : Nat)) (W.setRow w.heap.size row1.toArray) := fun W ty dc hW hV => by
    have hm : Nat.min 1 (n + 1 - i) = 1 := by simp only [Nat.min_def]; split <;> omega
    have := run_copy_structs (P := Tryz.prog) W 151 151 ty 160 2 w.heap.size (i * 2) (n + 1 - i) dc ⟨vb, 0, none⟩ 1 1 row0 _ (enC e) Tryz.underlying151 en_size hW (by rw [hm]; rfl) (fun j v hj => by
      rw [addr_add, Nat.zero_add, Lib.cell_of_heap hV]; simpa using hj) (by have := hr0l.1; rw [Array.length_toList] at this; rw [this]; show _ + 2 ≤ _; omega) (fun v hv => by
        simp only [enC, List.mem_cons, List.not_mem_nil, or_false] at hv
        rcases hv with rfl | rfl <;> rfl)
    rw [hm] at this
    rw [this, hr1]
  have hcpB : ∀ (W : World) (ty : TypeId) (dc sc : Nat), W.heap[w.heap.size]? = some (.cells row1.toArray 160 (0, 0)) → W.heap[g]? = some (.cells cur 160 (0, 0)) → (Builtin.copy_ #[151, 151] ty #[.slice (some ⟨w.heap.size, (i + 1) * 2, none⟩) (n - i) dc, .slice (some ⟨g, i * 2, none⟩) (n - i) sc]).run Tryz.prog W = .ok (goInt (n - i : Nat)) (W.setRow w.heap.size row2.toArray) := fun W ty dc sc hW hV => by
    have hm : Nat.min (n - i) (n - i) = n - i := Nat.min_self _
    have hdl : ((enCs es).drop (i * 2)).length = (n - i) * 2 := by rw [List.length_drop, hL]; omega
    have := run_copy_structs (P := Tryz.prog) W 151 151 ty 160 2 w.heap.size ((i + 1) * 2) (n - i) dc ⟨g, i * 2, none⟩ (n - i) sc row1.toArray _ ((enCs es).drop (i * 2)) Tryz.underlying151 en_size hW (by rw [hm, hdl]) (fun j v hj => by
      rw [addr_add, Lib.cell_of_heap hV]
      rw [List.getElem?_drop, ← hcur] at hj
      rw [← hj]; simp) (by rw [hdl, List.size_toArray, hr1l.1]; omega) (fun v hv => enCs_one es v (List.mem_of_mem_drop hv))
    rw [hm] at this
    rw [this, hr2]
  have HA := hid (And.intro hg hvb)
  have HCA := (show Hid _ from hid hcpA)
  have HCB := (show Hid _ from hid hcpB)
  have HR := hid hR2
  have HLn := hid (show (es.take i ++ e :: es.drop i).length = n + 1 by rw [ins_length es e i (by omega), hn])
  have HW0 := hid (show ∀ W : World, (∃ u : World, u.heap = w.heap ∧ W.heap = (u.alloc (.cells row0 160)).heap) → W.heap[w.heap.size]? = some (.cells row0 160 (0, 0)) ∧ W.heap[vb]? = some (.cells (enC e).toArray 160 (0, 0)) ∧ W.heap[g]? = some (.cells cur 160 (0, 0)) from fun W ⟨u, hu, hW⟩ => by
    rw [hW]
    have h1 := heap_alloc_new u (.cells row0 160)
    rw [hu] at h1
    refine ⟨h1, ?_, ?_⟩
    · rw [heap_alloc_old u _ (by rw [hu]; exact hvw), hu]; exact hvb
    · rw [heap_alloc_old u _ (by rw [hu]; exact hgw), hu]; exact hg)
  have HBz := hid (And.intro hb hGm)
  have hneN : ¬ g = w.heap.size := by omega
  have hneV : ¬ vb = w.heap.size := by omega
  have HNE := hid (And.intro hneN hneV)
  have b1 : ((i : Int) == (n : Int)) = false := by rw [beq_eq_false_iff_ne]; omega
  have b1n : ¬ (i : Int) = (n : Int) := by omega
  have b2 : decide ((n : Int) < (n : Int) + 1) = true := decide_eq_true (by omega)
  have n1 : ¬ n = i := by omega
  have n3 : ¬ G = i := by omega
  have n4 : ¬ G = i + 1 := by omega
  have hw1 : IntKind.i64.wrap ((i : Int) + 1) = (i : Int) + 1 := by rw [IntKind.wrap_i64]; omega
  have h0 : (0 : Int) ≤ (i : Int) + 1 := by omega
  have htn : ((i : Int) + 1).toNat = i + 1 := by omega
  have hle : i ≤ n := by omega
  have hle2 : (i : Int) + 1 ≤ (n : Int) + 1 := by omega
  have hle3 : (i : Int) ≤ (n : Int) + 1 := by omega
  have hle4 : (i : Int) ≤ (n : Int) := by omega
  have hG63 : G ≤ 9223372036854775807 := by unfold maxLen at hGm; omega
  clear hg hvb hcpA hcpB hR2 hr0 hr1 hr2 hr0l hr1l hL hcur hn hb hG hi0 hz0 hz1 hz2 hneN hneV hGm
  go_enter Tryz.func104, Tryz.ntmps104
  have h00 := HW0.out (w.alloc (.cells row0 160)).drew ⟨w, rfl, rfl⟩
  have hcpE : ∀ ty : TypeId, (Builtin.copy_ #[151, 151] ty #[.slice (some ⟨w.heap.size, i * 2, none⟩) (n + 1 - i) (G - i), .slice (some ⟨vb, 0, none⟩) 1 1]).run Tryz.prog (w.alloc (.cells row0 160)).drew = .ok (goInt (1 : Nat)) ((w.alloc (.cells row0 160)).drew.setRow w.heap.size row1.toArray) := fun ty => HCA.out _ ty _ h00.1 h00.2.1
  have HE1 := hid (show ((w.alloc (.cells row0 160)).drew.setRow w.heap.size row1.toArray).heap[w.heap.size]? = some (.cells row1.toArray 160 (0, 0)) ∧ ((w.alloc (.cells row0 160)).drew.setRow w.heap.size row1.toArray).heap[g]? = some (.cells cur 160 (0, 0)) from ⟨setRow_heap _ _ _ _ _ _ h00.1, by rw [setRow_other _ _ _ _ HNE.out.1]; exact h00.2.2⟩)
  clear h00
  go_wp2_with (first | (at_builtin; refine Lib.wpList_append_run _ rfl _ _ _ _ rfl _ _ rfl rfl _ _ (hrz _) ?_) | (simp only [hcpE]))
  go_region_law (refine step_copy_known rfl _ _ 151 151 rfl (.slice (some ⟨w.heap.size, (i + 1) * 2, none⟩) (n - i) (G - (i + 1))) (.slice (some ⟨g, i * 2, none⟩) (n - i) (n - i)) (by simp [Act.eval, Act.put]) (by simp [Act.eval, Act.put]) (HCB.out _ _ _ _ HE1.out.1 HE1.out.2) ?_)
  go_wp2_with fail
  go_ret
  refine ⟨_, rfl, ?_⟩
  have e2 : (((w.alloc (.cells row0 160)).drew.setRow w.heap.size row1.toArray).drew.setRow w.heap.size row2.toArray).heap[w.heap.size]? = some (.cells row2.toArray 160 (0, 0)) := setRow_heap _ _ _ _ _ _ HE1.out.1
  refine ⟨⟨by rw [enCs_len], .inr ⟨w.heap.size, G, row2.toArray, ?_, HBz.out.1, e2, ?_, HBz.out.2, ?_, ?_⟩⟩, ?_⟩
  · rw [HLn.out]; rfl
  · rw [HLn.out]; exact hGn
  · rw [List.size_toArray, HR.out.1]
  · rw [HLn.out]; exact HR.out.2
  · refine ⟨rfl, rfl, rfl, by simp, fun k hk _ => ?_⟩
    have hk2 : k ≠ w.heap.size := by omega
    rw [setRow_other _ _ _ _ hk2]
    show ((w.alloc (.cells row0 160)).drew.setRow w.heap.size row1.toArray).heap[k]? = _
    rw [setRow_other _ _ _ _ hk2]
    exact heap_alloc_old w _ hk
/-- slices.Insert of one entry, wherever. -/
theorem insert_run (base : Nat) (v : Value) (es : List En) (e : En) (i vb : Nat) (w : World) (hown : w.ownsRow base 160 2 v es.length (enCs es)) (hvb : w.heap[vb]? = some (.cells (enC e).toArray 160 (0, 0)))
    (hne : v.ownBlock ≠ some vb) (hi : i ≤ es.length) (hb : base ≤ w.heap.size) (hn : es.length ≤ 2000) : Calls Tryz.prog insF #[v, .int .i64 i, .slice (some ⟨vb, 0, none⟩) 1 1] w (InsPost base v (es.take i ++ e :: es.drop i) w) := by
  by_cases hie : i = es.length
  · subst hie
    have := ins_end base v es e vb w hown hvb hb hn
    rw [List.take_of_length_le (Nat.le_refl _), List.drop_eq_nil_of_le (Nat.le_refl _)]
    exact this
  · have hi2 : i < es.length := by omega
    rcases hown.2 with ⟨-, h0⟩ | ⟨g, cap, cur, rfl, hbg, hg, hnc, hcm, hcs, hcur⟩
    · omega
    · by_cases hr : es.length + 1 ≤ cap
      · exact ins_room base g cap cur es e i vb w hg hcs hcur hvb (fun e => hne (by rw [e]; rfl)) hi2 hr hbg hcm
      · obtain rfl : cap = es.length := by omega
        exact ins_grow base g cur es e i vb w hg (by rw [← hcur, List.take_of_length_le (by rw [Array.length_toList, hcs]; exact Nat.le_refl _)]) hvb hi2 hn hb _
end Go.Proofs.YtpmmaickjolimaaGreatDoor.Tb

/- A table in the making, in memory. -/
namespace Go.Proofs.YtpmmaickjolimaaGreatDoor.Tb
open Go.RowKit
open Ci (Bel hid own_bel row_shape own_base addr_add splitL)

theorem enCs_at (es : List En) (k : Nat) (hk : k < es.length) (j : Nat) (v : Value) (hv : (enC es[k])[j]? = some v) : (enCs es)[k * 2 + j]? = some v := by
  have hj : j < 2 := (List.getElem?_eq_some_iff.1 hv).1
  have e : enCs es = enCs (es.take k) ++ (enC es[k] ++ enCs (es.drop (k + 1))) := by
    have : es = es.take k ++ es[k] :: es.drop (k + 1) := by simp
    conv => lhs; rw [this]
    rw [enCs_app]; rfl
  have hl : (enCs (es.take k)).length = k * 2 := by rw [enCs_len, List.length_take, Nat.min_eq_left (by omega)]
  rw [e, List.getElem?_append_right (by omega), hl, show k * 2 + j - k * 2 = j by omega, List.getElem?_append_left (by show j < 2; exact hj)]
  exact hv
theorem ens_of_row {W : World} {base n c : Nat} {x : Option Addr} {es : List En} (h : W.ownsRow base 160 2 (.slice x n c) es.length (enCs es)) : Ens W x es := by
  rcases h.2 with ⟨-, h0⟩ | ⟨g, cap, cur, e, -, hh, -⟩
  · exact ⟨.inl (List.eq_nil_of_length_eq_zero h0), .inl (List.eq_nil_of_length_eq_zero h0)⟩
  · obtain ⟨rfl, rfl, rfl⟩ := Value.slice.inj e
    refine ⟨?_, .inr ⟨g, 0, cur, rfl, hh⟩⟩
    refine .inr ⟨g, 0, rfl, (Array.getElem?_eq_some_iff.1 hh).1, fun k hk => ?_⟩
    have key : ∀ j v, (enC es[k])[j]? = some v → W.cell? ⟨g, 0 + k * 2 + j, none⟩ = some v := fun j v hv => by
      have h2 := enCs_at es k hk j v hv
      have hl : k * 2 + j < (enCs es).length := (List.getElem?_eq_some_iff.1 h2).1
      rw [enCs_len] at hl
      rw [Nat.zero_add, World.ownsRow.cellAt h (k * 2 + j) hl]
      exact h2
    exact ⟨key 0 _ rfl, key 1 _ rfl⟩
structure PaI (s : List UInt8) (wc wr : World) (bt : Nat) (bad : Int) (L : List Ln) (k : Nat) (v : Value) (es : List En) : Prop where
  os : wr.os = wc.os
  tape : wr.tape = wc.tape
  output : wr.output = wc.output
  size : wc.heap.size ≤ wr.heap.size
  keep : ∀ j, j < wc.heap.size → j ≠ bt → wr.heap[j]? = wc.heap[j]?
  tab : wr.heap[bt]? = some (.cells #[v] 153 (0, 0))
  row : wr.ownsRow wc.heap.size 160 2 v es.length (enCs es)
  srt : Srt es
  num : es.length ≤ 2000
  eq : tparse s = parseF bad (L.drop k) es
theorem PaI.next {s : List UInt8} {wc wr W : World} {bt : Nat} {bad : Int} {L : List Ln} {k : Nat} {v : Value} {es : List En} (h : PaI s wc wr bt bad L k v es) (hb : Bel wr W) : PaI s wc W bt bad L k v es :=
  ⟨hb.os.trans h.os, hb.tape.trans h.tape, hb.output.trans h.output, Nat.le_trans h.size hb.size, fun j hj hne => (hb.block j (Nat.lt_of_lt_of_le hj h.size)).trans (h.keep j hj hne), hb.heap h.tab, own_bel h.row hb, h.srt, h.num, h.eq⟩
/-- An entry is put in its place. -/
theorem PaI.put {s : List UInt8} {wc wr W W2 : World} {bt : Nat} {bad : Int} {L : List Ln} {k : Nat} {v v' : Value} {es : List En} {key val : List UInt8} (h : PaI s wc wr bt bad L k v es) (hb : Bel wr W)
    (hg : W.grownBy W2 v.ownBlock) (hrow : W2.ownsRow wc.heap.size 160 2 v' (putE es ⟨key, val⟩).length (enCs (putE es ⟨key, val⟩))) (hk : foundB es key = false) (hlen : es.length ≠ 2000)
    (heq : parseF bad (L.drop k) es = parseF bad (L.drop (k + 1)) (putE es ⟨key, val⟩)) : PaI s wc (W2.setCell ⟨bt, 0, none⟩ v') bt bad L (k + 1) v' (putE es ⟨key, val⟩) := by
  have hW := h.next hb
  have hv : v.ownBlock ≠ some bt := own_ne hW.row hW.tab (by decide)
  have ht2 : W2.heap[bt]? = some (.cells #[v] 153 (0, 0)) := (hg.block bt (Array.getElem?_eq_some_iff.1 hW.tab).1 (fun e => hv e.symm)).trans hW.tab
  have hv' : v'.ownBlock ≠ some bt := own_ne hrow ht2 (by decide)
  have hhas : hasK es key = false := by rw [← found_has es key h.srt]; exact hk
  have hp : putE es ⟨key, val⟩ = ins es ⟨key, val⟩ := put_ins es ⟨key, val⟩ h.srt
  refine ⟨hg.os.trans hW.os, hg.tape.trans hW.tape, hg.output.trans hW.output, ?_, ?_, ?_, ?_, ?_, ?_, h.eq.trans heq⟩
  · rw [World.size_setCell]; exact Nat.le_trans hW.size hg.size
  · intro j hj hne
    rw [heap_setCell_other _ _ _ _ hne, hg.block j (Nat.lt_of_lt_of_le hj hW.size) (fun e => by have := own_lt hW.row e.symm; omega)]
    exact hW.keep j hj hne
  · rw [heap_setCell_same _ _ _ _ _ _ ht2]; rfl
  · exact own_keep hrow fun g hg' => heap_setCell_other _ _ _ _ fun e => hv' (by rw [hg', e])
  · rw [hp]; exact ins_srt es ⟨key, val⟩ h.srt hhas
  · rw [hp, ins_len]; have := h.num; omega
/-- A line's pieces, joined. -/
theorem join_run {w0 W : World} {pv : Value} {pcs : List (List UInt8)} (h : W.ownsRow w0.heap.size 9 1 pv pcs.length (strs pcs)) (hz : (Lib.join pcs [32]).length ≤ 140737488355328) (hp : pcs.length ≤ 1000000) :
    Calls Tryz.prog 54 #[pv, .string ⟨#[32]⟩] W fun e w' => e = .returned (.string ⟨(Lib.join pcs [32]).toArray⟩) ∧ Bel W w' := by
  rcases h.2 with ⟨rfl, h0⟩ | ⟨g, cap, cur, rfl, hg, hh, h1, h2, h3, h4⟩
  · obtain rfl : pcs = [] := List.eq_nil_of_length_eq_zero h0
    exact (Any.strings_Join_none Tryz.lays156 Tryz.Builder_Extra_156 none 0 ⟨#[32]⟩ W).mono fun e w' h => ⟨h.1, by rw [h.2]; exact Bel.refl W⟩
  · have := Tryz.strings_Join g 0 cap (pcs.map fun x => ⟨x.toArray⟩) ⟨#[32]⟩ W (fun j y hj => by
      rw [Nat.zero_add, World.ownsRow.cellAt h j (by have := (List.getElem?_eq_some_iff.1 hj).1; rw [List.length_map] at this; omega)]
      rw [List.getElem?_map] at hj
      obtain ⟨z, hz, rfl⟩ := Option.map_eq_some_iff.1 hj
      unfold strs
      rw [List.getElem?_map, hz]; rfl) (Array.getElem?_eq_some_iff.1 hh).1 (by rw [List.length_map]; omega) (by rw [List.length_map]; exact h1) (by
      rw [List.map_map]
      show (Lib.join (pcs.map fun x => x) [32]).length ≤ _
      rw [List.map_id']
      exact hz)
    rw [List.length_map, List.map_map] at this
    have e3 : (pcs.map ((fun b : ByteArray => b.data.toList) ∘ fun x => (⟨x.toArray⟩ : ByteArray))) = pcs := by
      show pcs.map (fun x => x) = pcs
      rw [List.map_id']
    rw [e3] at this
    exact this
theorem split_piece (c : UInt8) : ∀ l : List UInt8, ∀ p ∈ splitL c l, p.length ≤ l.length
  | [], p, hp => by
    have : p = [] := by simpa [splitL] using hp
    rw [this]; exact Nat.le_refl _
  | b :: l, p, hp => by
    have ih := split_piece c l
    unfold splitL at hp
    split at hp
    · rcases List.mem_cons.1 hp with rfl | hp
      · exact Nat.zero_le _
      · exact Nat.le_succ_of_le (ih p hp)
    · split at hp
      · rename_i q qs hq
        rcases List.mem_cons.1 hp with rfl | hp
        · have := ih q (by rw [hq]; exact List.mem_cons_self ..)
          simp only [List.length_cons]; omega
        · exact Nat.le_succ_of_le (ih p (by rw [hq]; exact List.mem_cons_of_mem _ hp))
      · rename_i hq
        rw [List.mem_singleton.1 hp]
        simp
theorem trm_le (s : List UInt8) : (trm s).length ≤ s.length := by
  unfold trm Lib.trimS Lib.trimLeftS Lib.trimRightS
  refine Nat.le_trans (List.dropWhile_sublist _).length_le ?_
  rw [List.length_reverse]
  refine Nat.le_trans (List.dropWhile_sublist _).length_le ?_
  rw [List.length_reverse]; exact Nat.le_refl _
theorem addPc_small {N : Nat} {pcs : List (List UInt8)} {s : List UInt8} (h : ∀ p ∈ pcs, p.length ≤ N) (hs : s.length ≤ N) : ∀ p ∈ addPc pcs s, p.length ≤ N := by
  unfold addPc
  split
  · exact h
  · intro p hp
    rcases List.mem_append.1 hp with hp | hp
    · exact h p hp
    · rw [List.mem_singleton.1 hp]; exact Nat.le_trans (trm_le s) hs
theorem out_small {N at_ : Nat} {out : List Ln} {s : List UInt8} (h : ∀ l ∈ out, ∀ p ∈ l.pcs, p.length ≤ N) (hs : s.length ≤ N) : ∀ l ∈ lnOut at_ out s, ∀ p ∈ l.pcs, p.length ≤ N := by
  unfold lnOut
  split
  · exact h
  · split
    · intro l hl
      rcases List.mem_append.1 hl with hl | hl
      · exact h l hl
      · rw [List.mem_singleton.1 hl]
        exact addPc_small (fun p hp => by cases hp) (by rw [List.length_drop]; omega)
    · split
      · exact h
      · rename_i x hx
        intro l hl
        rcases List.mem_append.1 hl with hl | hl
        · exact h l (List.dropLast_subset _ hl)
        · rw [List.mem_singleton.1 hl]
          exact addPc_small (h x (List.mem_of_getLast? hx)) hs
theorem fold_small {N : Nat} : ∀ (E : List (List UInt8)) (c : Cs), (∀ e ∈ E, e.length ≤ N) → (∀ l ∈ c.out, ∀ p ∈ l.pcs, p.length ≤ N) → ∀ m, (∀ l ∈ c.out, l.pcs.length ≤ m) → ∀ l ∈ (E.foldl lnStep c).out, l.pcs.length ≤ m + E.length ∧ ∀ p ∈ l.pcs, p.length ≤ N
  | [], c, _, h, m, hm, l, hl => ⟨hm l hl, h l hl⟩
  | e :: E, c, he, h, m, hm, l, hl => by
    have := fold_small E (lnStep c e) (fun x hx => he x (List.mem_cons_of_mem _ hx)) (out_small h (he e (List.mem_cons_self ..))) (m + 1) (out_few hm e) l hl
    refine ⟨?_, this.2⟩
    have h2 := this.1
    rw [List.length_cons]; omega
theorem join_small (N : Nat) : ∀ l : List (List UInt8), (∀ p ∈ l, p.length ≤ N) → (Lib.join l [32]).length ≤ (N + 1) * l.length
  | [], _ => by simp [Lib.join]
  | [a], h => by
    rw [Lib.join_one]
    have := h a (List.mem_cons_self ..)
    simp; omega
  | a :: b :: l, h => by
    have ih := join_small N (b :: l) fun s hs => h s (List.mem_cons_of_mem _ hs)
    have := h a (List.mem_cons_self ..)
    rw [Lib.join_cons] at ih ⊢
    simp only [Lib.joinTail, List.map_cons, List.flatten_cons, List.length_append, List.length_cons, List.length_nil, Nat.mul_add, Nat.mul_one] at ih ⊢
    omega
/-- A value of a text's is not too long to be made. -/
theorem value_small {s : List UInt8} (hs : s.length ≤ 262144) : ∀ l ∈ (cutT s).out, (Lib.join l.pcs [32]).length ≤ 140737488355328 ∧ l.pcs.length ≤ 1000000 := by
  intro l hl
  obtain ⟨h1, h2⟩ := fold_small (N := 262144) (splitL 10 s) ⟨0, [], badAt s⟩ (fun e he => Nat.le_trans (split_piece 10 s e he) hs) (fun l hl => by cases hl) 0 (fun l hl => by cases hl) l hl
  have h3 := join_small 262144 l.pcs h2
  have h4 : (splitL 10 s).length ≤ 262145 := by
    rw [Ci.splitL_len]
    have := List.count_le_length (a := (10 : UInt8)) (l := s)
    omega
  have h5 : l.pcs.length ≤ 262145 := by omega
  have := Nat.mul_le_mul_left (262144 + 1) h5
  constructor <;> omega
end Go.Proofs.YtpmmaickjolimaaGreatDoor.Tb

/- Walk: mailbox of path, at a quoted local part. -/
namespace Go.Proofs.YtpmmaickjolimaaGreatDoor.Ma
open Go.RowKit
open Ci (Bel Lay)

set_option maxHeartbeats 8000000 in
set_option maxRecDepth 100000 in
theorem mail_q (s : ByteArray) (w : World) (hw : Lay w) (hs : s.size ≤ 4000000) (hq : (s.data.toList.head? == some 34) = true) : Calls Tryz.prog 161 #[.string s] w fun e w' => e = .returned (.tuple #[.agg (ptC (mailP s.data.toList).1).toArray, .int .i64 (mailP s.data.toList).2.1, .int .i64 (mailP s.data.toList).2.2]) ∧ Bel w w' := by
  have HW := hid hw
  have H0 := hid (mbI_new w)
  have HP := (show Hid (∀ W, Calls Tryz.prog 193 #[.string s, .string ⟨#[34]⟩] W fun e w' => e = .returned (.bool true) ∧ Bel W w') from fun W => by rw [← hq]; exact hasPre_run s 34 W (by omega))
  have HQ := (show Hid (∀ W, Calls Tryz.prog 194 #[.string s] W fun e w' => e = .returned (.tuple #[.string ⟨(quotedP s.data.toList).1.toArray⟩, .int .i64 (quotedP s.data.toList).2]) ∧ Bel W w') from fun W => quoted_run s W (by omega))
  have HM : Hid (mailP s.data.toList = tailP s.data.toList (quotedP s.data.toList).1 (quotedP s.data.toList).2) := hid (by unfold mailP lpP; rw [hq, if_pos rfl])
  have hl := quotedP_len s.data.toList
  rw [← Lib.size_eq] at hl
  obtain ⟨lb, hlb⟩ : ∃ lb : ByteArray, lb = ⟨(quotedP s.data.toList).1.toArray⟩ := ⟨_, rfl⟩
  have hlz : lb.size ≤ s.size := by rw [hlb, Lib.size_eq]; exact hl.1
  rw [← hlb] at HQ
  have HLB := hid (show (quotedP s.data.toList).1 = lb.data.toList by rw [hlb])
  rw [HLB.out] at HM
  have hn := hl.2
  generalize (quotedP s.data.toList).2 = n at HQ HM hn
  clear hlb hl HLB hq
  by_cases h0 : n = 0
  · subst h0
    have HX := hid (show mailP s.data.toList = (zeroP, 0, 90) from HM.out)
    go_enter Tryz.func161, Tryz.ntmps161
    go_wp2_with (first | (go_at_call 193; refine (HP.out _).mono ?_; rintro e w1 ⟨rfl, hb_w1⟩; have HB1 := hid (H0.out.next hb_w1)) | (go_at_call 194; refine (HQ.out _).mono ?_; rintro e w2 ⟨rfl, hb_w2⟩; have HB2 := hid (HB1.out.next hb_w2)) | (refine wpList_store_blk rfl 39 (.tmp 2) (.tmp 31) rfl w.heap.size ([.bool false, .string ⟨#[]⟩, .string ⟨#[]⟩, .bool false]) rfl rfl pt_size (by simp [Value.oneCell']) (ptC zeroP) _ HB2.out.2 rfl ?_; intro w9 hc9 ho9 hs9 hb9; have HB9 := hid (hb9 w HB2.out.1 (Nat.le_refl _)); have HC9 := hid hc9; clear ho9 hs9 hb9 hc9))
    have hl2 := load_pt (cs := [.bool false, .string ⟨#[]⟩, .string ⟨#[]⟩, .bool false]) HC9.out rfl
    refine bodyPost_ret (v := .tuple #[.agg ([.bool false, .string ⟨#[]⟩, .string ⟨#[]⟩, .bool false]).toArray, .int .i64 0, .int .i64 90]) (by simp [results, Tryz.results161, asAddr, hl2]) rfl ⟨?_, HB9.out⟩
    rw [HX.out]; rfl
  · have b0 : ((n : Int) == 0) = false := by rw [beq_eq_false_iff_ne]; omega
    have HAt := (show Hid (∀ W, Calls Tryz.prog 193 #[.string (s.extract n s.size), .string ⟨#[64]⟩] W fun e w' => e = .returned (.bool ((s.data.toList.drop n).head? == some 64)) ∧ Bel W w') from fun W => by rw [← ext_back]; exact hasPre_run _ 64 W (by rw [ByteArray.size_extract]; omega))
    cases hat : ((s.data.toList.drop n).head? == some 64) with
    | false =>
      rw [hat] at HAt
      have HLo := (show Hid (∀ W, Calls Tryz.prog 94 #[.string (s.extract 0 n)] W fun e w' => e = .returned (.string ⟨(lowL (s.data.toList.take n)).toArray⟩) ∧ Bel W w') from fun W => by rw [← ext_front]; exact lower_run _ W (by rw [ByteArray.size_extract]; omega))
      have HE := hid (show (lowL (s.data.toList.take n) == pmL) = ((⟨(lowL (s.data.toList.take n)).toArray⟩ : ByteArray).toList == [112, 111, 115, 116, 109, 97, 115, 116, 101, 114]) by rw [ByteArray.toList_eq]; rfl)
      have HT := hid (show mailP s.data.toList = if (lowL (s.data.toList.take n) == pmL) then (⟨false, pmL, [], false⟩, n, 0) else (zeroP, 0, 90) by rw [HM.out]; unfold tailP; rw [if_neg h0, hat, if_neg Bool.false_ne_true])
      rw [HE.out] at HT
      clear HE
      generalize (⟨(lowL (s.data.toList.take n)).toArray⟩ : ByteArray) = lo at HLo HT
      cases hpm : (lo.toList == [112, 111, 115, 116, 109, 97, 115, 116, 101, 114]) with
      | false =>
        have HX := hid (show mailP s.data.toList = (zeroP, 0, 90) by rw [HT.out, hpm, if_neg Bool.false_ne_true])
        go_enter Tryz.func161, Tryz.ntmps161
        go_wp2_with (first | (go_at_call 193; refine (HP.out _).mono ?_; rintro e w1 ⟨rfl, hb_w1⟩; have HB1 := hid (H0.out.next hb_w1)) | (go_at_call 194; refine (HQ.out _).mono ?_; rintro e w2 ⟨rfl, hb_w2⟩; have HB2 := hid (HB1.out.next hb_w2)) | (go_at_call 193; refine (HAt.out _).mono ?_; rintro e w5 ⟨rfl, hb_w5⟩; have HB5 := hid (HB2.out.next hb_w5)) | (go_at_call 94; refine (HLo.out _).mono ?_; rintro e w6 ⟨rfl, hb_w6⟩; have HB6 := hid (HB5.out.next hb_w6)) | (refine wpList_store_blk rfl 39 (.tmp 2) (.tmp 43) rfl w.heap.size ([.bool false, .string ⟨#[]⟩, .string ⟨#[]⟩, .bool false]) rfl rfl pt_size (by simp [Value.oneCell']) (ptC zeroP) _ HB6.out.2 rfl ?_; intro w9 hc9 ho9 hs9 hb9; have HB9 := hid (hb9 w HB6.out.1 (Nat.le_refl _)); have HC9 := hid hc9; clear ho9 hs9 hb9 hc9))
        have hl2 := load_pt (cs := [.bool false, .string ⟨#[]⟩, .string ⟨#[]⟩, .bool false]) HC9.out rfl
        refine bodyPost_ret (v := .tuple #[.agg ([.bool false, .string ⟨#[]⟩, .string ⟨#[]⟩, .bool false]).toArray, .int .i64 0, .int .i64 90]) (by simp [results, Tryz.results161, asAddr, hl2]) rfl ⟨?_, HB9.out⟩
        rw [HX.out]; rfl
      | true =>
        have HX := hid (show mailP s.data.toList = (⟨false, pmL, [], false⟩, n, 0) by rw [HT.out, hpm, if_pos rfl])
        go_enter Tryz.func161, Tryz.ntmps161
        go_wp2_with (first | (go_at_call 193; refine (HP.out _).mono ?_; rintro e w1 ⟨rfl, hb_w1⟩; have HB1 := hid (H0.out.next hb_w1)) | (go_at_call 194; refine (HQ.out _).mono ?_; rintro e w2 ⟨rfl, hb_w2⟩; have HB2 := hid (HB1.out.next hb_w2)) | (go_at_call 193; refine (HAt.out _).mono ?_; rintro e w5 ⟨rfl, hb_w5⟩; have HB5 := hid (HB2.out.next hb_w5)) | (go_at_call 94; refine (HLo.out _).mono ?_; rintro e w6 ⟨rfl, hb_w6⟩; have HB6 := hid (HB5.out.next hb_w6)) | (refine wpList_store_blk rfl 39 (.tmp 2) (.tmp 44) rfl w.heap.size ([.bool false, .string ⟨#[112, 111, 115, 116, 109, 97, 115, 116, 101, 114]⟩, .string ⟨#[]⟩, .bool false]) rfl rfl pt_size (by simp [Value.oneCell']) (ptC zeroP) _ HB6.out.2 rfl ?_; intro w9 hc9 ho9 hs9 hb9; have HB9 := hid (hb9 w HB6.out.1 (Nat.le_refl _)); have HC9 := hid hc9; clear ho9 hs9 hb9 hc9))
        have hl2 := load_pt (cs := [.bool false, .string ⟨#[112, 111, 115, 116, 109, 97, 115, 116, 101, 114]⟩, .string ⟨#[]⟩, .bool false]) HC9.out rfl
        refine bodyPost_ret (v := .tuple #[.agg ([.bool false, .string ⟨#[112, 111, 115, 116, 109, 97, 115, 116, 101, 114]⟩, .string ⟨#[]⟩, .bool false]).toArray, .int .i64 n, .int .i64 0]) (by simp [results, Tryz.results161, asAddr, hl2]) rfl ⟨?_, HB9.out⟩
        rw [HX.out]; rfl
    | true =>
      rw [hat] at HAt
      have hn1 : n + 1 ≤ s.size := by
        refine Nat.lt_of_not_le fun hge => ?_
        rw [List.drop_eq_nil_of_le (by rw [← Lib.size_eq]; omega)] at hat
        cases hat
      have HDm := (show Hid (∀ W, Calls Tryz.prog 195 #[.string (s.extract (n + 1) s.size)] W fun e w' => e = .returned (.string ⟨(domTextP (s.data.toList.drop (n + 1))).toArray⟩) ∧ Bel W w') from fun W => by rw [← ext_back]; exact domText_run _ W (by rw [ByteArray.size_extract]; omega))
      have hdl := domText_len (s.data.toList.drop (n + 1))
      rw [List.length_drop, ← Lib.size_eq] at hdl
      have HT : Hid (mailP s.data.toList = _) := hid (show mailP s.data.toList = ((⟨false, lb.data.toList, (domainQ (domTextP (s.data.toList.drop (n + 1)))).1, (domainQ (domTextP (s.data.toList.drop (n + 1)))).2.1⟩ : Pt), n + 1 + (domTextP (s.data.toList.drop (n + 1))).length, if (domainQ (domTextP (s.data.toList.drop (n + 1)))).2.2 = 0 then rightP ⟨false, lb.data.toList, (domainQ (domTextP (s.data.toList.drop (n + 1)))).1, (domainQ (domTextP (s.data.toList.drop (n + 1)))).2.1⟩ else (domainQ (domTextP (s.data.toList.drop (n + 1)))).2.2) by rw [HM.out]; unfold tailP; rw [if_neg h0, hat, if_pos rfl])
      generalize domTextP (s.data.toList.drop (n + 1)) = d at HDm hdl HT
      have hdz : (⟨d.toArray⟩ : ByteArray).size = d.length := by rw [Lib.size_eq]
      have HPd := (show Hid (∀ W, Lay W → Calls Tryz.prog 48 #[.string ⟨d.toArray⟩] W fun e w' => e = .returned (.tuple #[.string ⟨(domainQ d).1.toArray⟩, .bool (domainQ d).2.1, .int .i64 (domainQ d).2.2]) ∧ Bel W w') from fun W hW => pdomain_run ⟨d.toArray⟩ W hW (by omega))
      have hds := dom_size d
      generalize domainQ d = D at HPd HT hds
      obtain ⟨dm, li, de⟩ := D
      simp only at HPd HT hds
      have hz : (⟨dm.toArray⟩ : ByteArray).size ≤ 4194304 := by rw [Lib.size_eq]; show dm.length ≤ _; omega
      have hw1 : wrap64 (wrap64 ((n : Int) + 1) + ((⟨d.toArray⟩ : ByteArray).size : Int)) = ((n + 1 + d.length : Nat) : Int) := by rw [hdz]; unfold wrap64; omega
      have HR := (show Hid (∀ W, Lay W → Calls Tryz.prog 49 #[.agg #[.bool false, .string lb, .string ⟨dm.toArray⟩, .bool li]] W fun e w' => e = .returned (.int .i64 (rightP (pOf false lb ⟨dm.toArray⟩ li))) ∧ Bel W w') from fun W hW => right_run false lb ⟨dm.toArray⟩ li W hW (by omega) hz)
      have HT2 := hid (show mailP s.data.toList = (pOf false lb ⟨dm.toArray⟩ li, n + 1 + d.length, if de = 0 then rightP (pOf false lb ⟨dm.toArray⟩ li) else de) by rw [HT.out]; rfl)
      clear HT hat
      generalize rightP (pOf false lb ⟨dm.toArray⟩ li) = r at HR HT2
      obtain rfl | rfl | rfl := hds.2
      · have HX := hid (show mailP s.data.toList = (pOf false lb ⟨dm.toArray⟩ li, n + 1 + d.length, r) from HT2.out)
        go_enter Tryz.func161, Tryz.ntmps161
        go_wp2_with (first | (go_at_call 193; refine (HP.out _).mono ?_; rintro e w1 ⟨rfl, hb_w1⟩; have HB1 := hid (H0.out.next hb_w1)) | (go_at_call 194; refine (HQ.out _).mono ?_; rintro e w2 ⟨rfl, hb_w2⟩; have HB2 := hid (HB1.out.next hb_w2)) | (go_at_call 193; refine (HAt.out _).mono ?_; rintro e w5 ⟨rfl, hb_w5⟩; have HB5 := hid (HB2.out.next hb_w5)) | (go_at_call 195; refine (HDm.out _).mono ?_; rintro e w6 ⟨rfl, hb_w6⟩; have HB6 := hid (HB5.out.next hb_w6)) | (go_at_call 48; refine (HPd.out _ (HW.out.next HB6.out.1)).mono ?_; rintro e w7 ⟨rfl, hb_w7⟩; have HB7 := hid (HB6.out.next hb_w7)) | (refine wpList_store_blk rfl 39 (.tmp 11) (.tmp 60) rfl w7.heap.size ([.bool false, .string lb, .string ⟨dm.toArray⟩, .bool li]) rfl rfl pt_size (by simp [Value.oneCell']) (ptC zeroP) _ (heap_alloc_new w7 _) rfl ?_; intro w8 hc8 ho8 hs8 hb8; have HB8 := hid (HB7.out.next (hb8 w7 ((Bel.refl w7).alloc _) (Nat.le_refl _))); have HC8 := hid hc8; clear ho8 hs8 hb8 hc8) | (refine wpList_load_mid rfl 39 (.tmp 11) rfl w7.heap.size 0 rfl [.bool false, .string lb, .string ⟨dm.toArray⟩, .bool li] _ (range_pt HC8.out) Tryz.underlying39 rfl pt_size ?_) | (go_at_call 49; refine (HR.out _ (HW.out.next HB8.out.1)).mono ?_; rintro e wa ⟨rfl, hb_a⟩; have HBa := hid (HB8.out.next hb_a); have HCa := hid (hb_a.heap HC8.out)) | (refine wpList_load_mid rfl 39 (.tmp 11) rfl w7.heap.size 0 rfl [.bool false, .string lb, .string ⟨dm.toArray⟩, .bool li] _ (range_pt HCa.out) Tryz.underlying39 rfl pt_size ?_) | (refine wpList_store_blk rfl 39 (.tmp 2) (.tmp 65) rfl w.heap.size ([.bool false, .string lb, .string ⟨dm.toArray⟩, .bool li]) rfl rfl pt_size (by simp [Value.oneCell']) (ptC zeroP) _ HBa.out.2 rfl ?_; intro w9 hc9 ho9 hs9 hb9; have HB9 := hid (hb9 w HBa.out.1 (Nat.le_refl _)); have HC9 := hid hc9; clear ho9 hs9 hb9 hc9))
        have hl2 := load_pt (cs := [.bool false, .string lb, .string ⟨dm.toArray⟩, .bool li]) HC9.out rfl
        refine bodyPost_ret (v := .tuple #[.agg ([.bool false, .string lb, .string ⟨dm.toArray⟩, .bool li]).toArray, .int .i64 ((n + 1 + d.length : Nat) : Int), .int .i64 r]) (by simp [results, Tryz.results161, asAddr, hl2]) rfl ⟨?_, HB9.out⟩
        rw [HX.out]; rfl
      
      · have HX := hid (show mailP s.data.toList = (pOf false lb ⟨dm.toArray⟩ li, n + 1 + d.length, 90) from HT2.out)
        go_enter Tryz.func161, Tryz.ntmps161
        go_wp2_with (first | (go_at_call 193; refine (HP.out _).mono ?_; rintro e w1 ⟨rfl, hb_w1⟩; have HB1 := hid (H0.out.next hb_w1)) | (go_at_call 194; refine (HQ.out _).mono ?_; rintro e w2 ⟨rfl, hb_w2⟩; have HB2 := hid (HB1.out.next hb_w2)) | (go_at_call 193; refine (HAt.out _).mono ?_; rintro e w5 ⟨rfl, hb_w5⟩; have HB5 := hid (HB2.out.next hb_w5)) | (go_at_call 195; refine (HDm.out _).mono ?_; rintro e w6 ⟨rfl, hb_w6⟩; have HB6 := hid (HB5.out.next hb_w6)) | (go_at_call 48; refine (HPd.out _ (HW.out.next HB6.out.1)).mono ?_; rintro e w7 ⟨rfl, hb_w7⟩; have HB7 := hid (HB6.out.next hb_w7)) | (refine wpList_store_blk rfl 39 (.tmp 11) (.tmp 60) rfl w7.heap.size ([.bool false, .string lb, .string ⟨dm.toArray⟩, .bool li]) rfl rfl pt_size (by simp [Value.oneCell']) (ptC zeroP) _ (heap_alloc_new w7 _) rfl ?_; intro w8 hc8 ho8 hs8 hb8; have HB8 := hid (HB7.out.next (hb8 w7 ((Bel.refl w7).alloc _) (Nat.le_refl _))); have HC8 := hid hc8; clear ho8 hs8 hb8 hc8) | (refine wpList_load_mid rfl 39 (.tmp 11) rfl w7.heap.size 0 rfl [.bool false, .string lb, .string ⟨dm.toArray⟩, .bool li] _ (range_pt HC8.out) Tryz.underlying39 rfl pt_size ?_) | (refine wpList_store_blk rfl 39 (.tmp 2) (.tmp 65) rfl w.heap.size ([.bool false, .string lb, .string ⟨dm.toArray⟩, .bool li]) rfl rfl pt_size (by simp [Value.oneCell']) (ptC zeroP) _ HB8.out.2 rfl ?_; intro w9 hc9 ho9 hs9 hb9; have HB9 := hid (hb9 w HB8.out.1 (Nat.le_refl _)); have HC9 := hid hc9; clear ho9 hs9 hb9 hc9))
        have hl2 := load_pt (cs := [.bool false, .string lb, .string ⟨dm.toArray⟩, .bool li]) HC9.out rfl
        refine bodyPost_ret (v := .tuple #[.agg ([.bool false, .string lb, .string ⟨dm.toArray⟩, .bool li]).toArray, .int .i64 ((n + 1 + d.length : Nat) : Int), .int .i64 90]) (by simp [results, Tryz.results161, asAddr, hl2]) rfl ⟨?_, HB9.out⟩
        rw [HX.out]; rfl
      
      · have HX := hid (show mailP s.data.toList = (pOf false lb ⟨dm.toArray⟩ li, n + 1 + d.length, 91) from HT2.out)
        go_enter Tryz.func161, Tryz.ntmps161
        go_wp2_with (first | (go_at_call 193; refine (HP.out _).mono ?_; rintro e w1 ⟨rfl, hb_w1⟩; have HB1 := hid (H0.out.next hb_w1)) | (go_at_call 194; refine (HQ.out _).mono ?_; rintro e w2 ⟨rfl, hb_w2⟩; have HB2 := hid (HB1.out.next hb_w2)) | (go_at_call 193; refine (HAt.out _).mono ?_; rintro e w5 ⟨rfl, hb_w5⟩; have HB5 := hid (HB2.out.next hb_w5)) | (go_at_call 195; refine (HDm.out _).mono ?_; rintro e w6 ⟨rfl, hb_w6⟩; have HB6 := hid (HB5.out.next hb_w6)) | (go_at_call 48; refine (HPd.out _ (HW.out.next HB6.out.1)).mono ?_; rintro e w7 ⟨rfl, hb_w7⟩; have HB7 := hid (HB6.out.next hb_w7)) | (refine wpList_store_blk rfl 39 (.tmp 11) (.tmp 60) rfl w7.heap.size ([.bool false, .string lb, .string ⟨dm.toArray⟩, .bool li]) rfl rfl pt_size (by simp [Value.oneCell']) (ptC zeroP) _ (heap_alloc_new w7 _) rfl ?_; intro w8 hc8 ho8 hs8 hb8; have HB8 := hid (HB7.out.next (hb8 w7 ((Bel.refl w7).alloc _) (Nat.le_refl _))); have HC8 := hid hc8; clear ho8 hs8 hb8 hc8) | (refine wpList_load_mid rfl 39 (.tmp 11) rfl w7.heap.size 0 rfl [.bool false, .string lb, .string ⟨dm.toArray⟩, .bool li] _ (range_pt HC8.out) Tryz.underlying39 rfl pt_size ?_) | (refine wpList_store_blk rfl 39 (.tmp 2) (.tmp 65) rfl w.heap.size ([.bool false, .string lb, .string ⟨dm.toArray⟩, .bool li]) rfl rfl pt_size (by simp [Value.oneCell']) (ptC zeroP) _ HB8.out.2 rfl ?_; intro w9 hc9 ho9 hs9 hb9; have HB9 := hid (hb9 w HB8.out.1 (Nat.le_refl _)); have HC9 := hid hc9; clear ho9 hs9 hb9 hc9))
        have hl2 := load_pt (cs := [.bool false, .string lb, .string ⟨dm.toArray⟩, .bool li]) HC9.out rfl
        refine bodyPost_ret (v := .tuple #[.agg ([.bool false, .string lb, .string ⟨dm.toArray⟩, .bool li]).toArray, .int .i64 ((n + 1 + d.length : Nat) : Int), .int .i64 91]) (by simp [results, Tryz.results161, asAddr, hl2]) rfl ⟨?_, HB9.out⟩
        rw [HX.out]; rfl
end Go.Proofs.YtpmmaickjolimaaGreatDoor.Ma
