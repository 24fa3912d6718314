/- names, Clone, which, Active, Deferred, full. -/
import Derived.Test.YtnakafmlenngnaaQf
namespace Go.Proofs.Ytnakafmlenngnaa.Qm
open Go.RowKit Go.Proofs.Ytnakafmlenngnaa.Wi

theorem hid {P : Prop} (h : P) : Hid P := h

theorem info3 : ∃ i, Try.prog.info? 3 = some i ∧ i.zero = some (.int .i64 0) ∧ i.size = 1 ∧ i.bytes = 8 :=
  info_parts (show (Try.prog.info? 3).map (fun i => (i.zero, i.size, i.bytes)) = some (some (.int .i64 0), 1, 8) by kernel_rfl)
theorem info9 : ∃ i, Try.prog.info? 9 = some i ∧ i.zero = some (.string ByteArray.empty) ∧ i.size = 1 ∧ i.bytes = 16 :=
  info_parts (show (Try.prog.info? 9).map (fun i => (i.zero, i.size, i.bytes)) = some (some (.string ByteArray.empty), 1, 16) by kernel_rfl)
theorem info89 : ∃ i, Try.prog.info? 89 = some i ∧ i.zero = some (.pointer none) ∧ i.size = 1 ∧ i.bytes = 8 :=
  info_parts (show (Try.prog.info? 89).map (fun i => (i.zero, i.size, i.bytes)) = some (some (.pointer none), 1, 8) by kernel_rfl)
theorem info99 : ∃ i, Try.prog.info? 99 = some i ∧ i.zero = some (.pointer none) ∧ i.size = 1 ∧ i.bytes = 8 :=
  info_parts (show (Try.prog.info? 99).map (fun i => (i.zero, i.size, i.bytes)) = some (some (.pointer none), 1, 8) by kernel_rfl)
theorem info95 : ∃ i, Try.prog.info? 95 = some i ∧ i.zero = some (.agg #[.string ByteArray.empty, .int .i64 0]) ∧ i.size = 2 ∧ i.bytes = 24 :=
  info_parts (show (Try.prog.info? 95).map (fun i => (i.zero, i.size, i.bytes)) = some (some (.agg #[.string ByteArray.empty, .int .i64 0]), 2, 24) by kernel_rfl)
theorem info49 : ∃ i, Try.prog.info? 49 = some i ∧ i.zero = some (.agg #[.string ByteArray.empty, .string ByteArray.empty, .slice none 0 0]) ∧ i.size = 3 ∧ i.bytes = 56 :=
  info_parts (show (Try.prog.info? 49).map (fun i => (i.zero, i.size, i.bytes)) = some (some (.agg #[.string ByteArray.empty, .string ByteArray.empty, .slice none 0 0]), 3, 56) by kernel_rfl)

theorem Ext.grown {F : Nat → Prop} {w w1 w2 : World} {row : Option Nat} (h : Ext F w w1) (hg : w1.grownBy w2 row) (ho : ∀ g, row = some g → w.heap.size ≤ g ∨ F g) : Ext F w w2 :=
  ⟨hg.os.trans h.os, hg.tape.trans h.tape, hg.output.trans h.output, Nat.le_trans h.size hg.size, fun k hk hF => (hg.block k (Nat.lt_of_lt_of_le hk h.size) fun e => by
    rcases ho k e.symm with f | f
    · omega
    · exact hF f).trans (h.block k hk hF)⟩
theorem row_base {w : World} {base e size n : Nat} {v : Value} {xs : List Value} (h : w.ownsRow base e size v n xs) (g : Nat) (hg : v.ownBlock = some g) : base ≤ g := by
  rcases h.2 with ⟨rfl, -⟩ | ⟨g', cap, cur, rfl, hb, -⟩
  · cases hg
  · cases hg; exact hb
theorem row_lower {w : World} {base e size n : Nat} {v : Value} {xs : List Value} (h : w.ownsRow base e size v n xs) (b : Nat) (hb : b ≤ base) : w.ownsRow b e size v n xs := by
  obtain ⟨h1, h2⟩ := h
  refine ⟨h1, ?_⟩
  rcases h2 with h2 | ⟨g, cap, cur, rfl, hg, r⟩
  · exact .inl h2
  · exact .inr ⟨g, cap, cur, rfl, Nat.le_trans hb hg, r⟩

def idV (z : LM) : Value := .string z.m.id

/-- A row that was made is given back. -/
def RowPost (e size n : Nat) (xs : List Value) (w : World) (en : Ending) (w' : World) : Prop :=
  ∃ v', en = .returned v' ∧ w'.ownsRow w.heap.size e size v' n xs ∧ Ext (fun _ => False) w w'

set_option maxHeartbeats 2000000 in
set_option maxRecDepth 100000 in
theorem names_run (v : Value) (n : Nat) (zs : List LM) (w : World) (hrow : w.ownsRow 0 89 1 v n (zs.map mPtr)) (hz : ∀ z ∈ zs, MailAt w z) (hn : n ≤ 100000) :
    Calls Try.prog 70 #[v] w (RowPost 9 1 n (zs.map idV) w) := by
  obtain ⟨y, cap, hv, hy1, hy2⟩ := row_shape hrow
  have hlen : zs.length = n := by have := hrow.1; simpa using this
  have HA := (show Hid (∀ k W, k < n → Ext (fun _ => False) w W → ∃ g b id, y = some ⟨g, 0, none⟩ ∧ W.cell? ⟨g, k, none⟩ = some (.pointer (some ⟨b, 0, none⟩)) ∧ W.cell? ⟨b, 0, none⟩ = some (.string id) ∧ (zs.map idV)[k]? = some (.string id)) from fun k W hk hW => by
    obtain ⟨g, cap', e, -, -, hg, h1, -⟩ := row_at hrow k (by simp; omega)
    rw [hv] at e
    injection e with e1 _ _
    have hm := hz zs[k] (List.getElem_mem _)
    refine ⟨g, zs[k].b, zs[k].m.id, e1, ?_, (hW.cell hm.blt (fun f => f) 0).trans hm.cells.1, by simp [idV, hlen, hk]⟩
    rw [hW.cell hg (fun f => f), h1]
    simp [mPtr])
  obtain ⟨i, j1, j2, j3, j4⟩ := info9
  rw [hv]
  have hxl : (zs.map idV).length = n := by simpa using hlen
  generalize zs.map idV = xs at HA hxl ⊢
  clear hrow hz hv hlen
  go_enter Try.func70, Try.ntmps70
  go_wp2_with fail
  go_loopg [8, 3] n (fun gg ix vo wr => ∃ k : Nat, ix = .int .i64 k ∧ k + gg = n ∧ wr.ownsRow w.heap.size 9 1 vo k (xs.take k) ∧ Ext (fun _ => False) w wr)
  case atStart => exact ⟨0, rfl, by omega, World.ownsRow_nil _ _ _ _, Ext.refl _ _⟩
  case round =>
    obtain ⟨k, rfl, hk, hown, hx⟩ := hrel
    have Hk := (show Hid (k + gk = n) from hk)
    have hkn : k ≤ n := by omega
    have HO := (show Hid (wr.ownsRow w.heap.size 9 1 _ k (xs.take k)) from hown)
    have HX := (show Hid (Ext (fun _ => False) w wr) from hx)
    obtain ⟨x2, p2, rfl, q1, q2⟩ := row_shape hown
    clear hk hown hx
    by_cases hlt : k < n
    · obtain ⟨g, b, id, rfl, a1, a2, a3⟩ := HA.out k wr hlt HX.out
      have Ha3 := (show Hid (xs[k]? = some (.string id)) from a3)
      clear HA a3
      go_wp2_with (first
        | (at_builtin; go_loud (refine wpList_append_own _ rfl (.tmp 12) (.tmp 17) 46 rfl w.heap.size 9 i (.string ByteArray.empty) 1 16 Try.underlying46 j1 j2 j3 j4 rfl (by decide) (.slice x2 k p2) k (xs.take k) rfl (HO.out.alloc _) ⟨wr.heap.size, 0, none⟩ 1 1 [.string id] rfl rfl ?c1 ?c2 ?c3 ?c4 ?c5 ?_)))
      case c1 => exact new1 _ _ rfl
      case c2 => intro u hu; simp at hu; subst hu; rfl
      case c3 => unfold maxLen; omega
      case c4 => omega
      case c5 => have := HX.out.size; simp; omega
      intro v' w2 hown hg _
      have HG : Hid (w2.ownsRow w.heap.size 9 1 v' (k + 1) (xs.take (k + 1)) ∧ Ext (fun _ => False) w w2) := by
        show _ ∧ _
        refine ⟨?_, (HX.out.alloc _).grown hg fun g hg => .inl (row_base HO.out g hg)⟩
        rw [List.take_add_one, Ha3.out]
        exact hown
      obtain ⟨x3, p3, rfl, q3, q4⟩ := row_shape hown
      clear hown hg Ha3 HO HX
      go_wp2_with fail
      go_roundg (gk - 1)
      case measure => have := Hk.out; omega
      case rel => exact ⟨k + 1, by go_num, by have := Hk.out; omega, HG.out⟩
    · obtain rfl : k = n := by omega
      clear HA
      go_wp2_with fail
      go_ret
      refine ⟨_, rfl, ?_, HX.out⟩
      have := HO.out
      rw [List.take_of_length_le (by omega)] at this
      exact this

set_option maxHeartbeats 2000000 in
set_option maxRecDepth 100000 in
theorem clone82_run (v : Value) (n : Nat) (xs : List Value) (base : Nat) (w : World) (hrow : w.ownsRow base 89 1 v n xs) (h1 : ∀ u ∈ xs, u.oneCell' = true) (hn : n ≤ 100000) :
    Calls Try.prog 82 #[v] w (RowPost 89 1 n xs w) := by
  have hlen : xs.length = n := by have := hrow.1; simpa using this
  obtain ⟨i, j1, j2, j3, j4⟩ := info89
  have HS := (show Hid (w.ownsRow base 89 1 v n xs) from hrow)
  rcases hrow.2 with ⟨rfl, rfl⟩ | ⟨g, cap, cur, rfl, -, hh, hcap, hmax, hsz, hcur⟩
  · clear hrow
    have heq : ∀ w, (binOp .eql 84 (.slice none 0 0) (.slice none 0 0)).run Try.prog w = .ok (.bool true) w := fun w => Go.Lib.run_eql_slice_nil w 84 89 none 0 0 0 0 Try.underlying84
    go_enter Try.func82, Try.ntmps82
    go_wp2_with fail
    go_ret
    obtain rfl : xs = [] := List.eq_nil_of_length_eq_zero hlen
    exact ⟨_, rfl, World.ownsRow_nil _ _ _ _, Ext.refl _ _⟩
  · have hgl : g < w.heap.size := heap_lt hh
    have HN := (show Hid (∀ j u, xs[j]? = some u → (w.alloc (.cells #[] 89)).cell? ((⟨g, 0, none⟩ : Addr).add j) = some u) from fun j u hu => by
      have hj : j < xs.length := (List.getElem?_eq_some_iff.1 hu).1
      have ea : (⟨g, 0, none⟩ : Addr).add j = ⟨g, j, none⟩ := by
        unfold Addr.add
        by_cases h0 : j = 0
        · subst h0; rfl
        · simp [h0]
      have : (cur.toList.take (n * 1))[j]? = some u := by rw [hcur]; exact hu
      rw [List.getElem?_take_of_lt (by omega)] at this
      have eh : (w.alloc (.cells #[] 89)).heap[g]? = some (.cells cur 89 (0, 0)) := (Below.heap_alloc w _ _ hgl).trans hh
      rw [ea]
      unfold World.cell?
      simp only [eh]
      simpa using this)
    have HE := (show Hid ((w.alloc (.cells #[] 89)).ownsRow w.heap.size 89 1 (.slice (some ⟨w.heap.size, 0, none⟩) 0 0) 0 []) from ⟨rfl, .inr ⟨w.heap.size, 0, #[], rfl, Nat.le_refl _, (MapKept.heap_alloc w _).1, Nat.le_refl _, Nat.zero_le _, rfl, rfl⟩⟩)
    have H1 := (show Hid (∀ u ∈ xs, u.oneCell' = true) from h1)
    have heq : ∀ w, (binOp .eql 84 (.slice (some ⟨g, 0, none⟩) n cap) (.slice none 0 0)).run Try.prog w = .ok (.bool false) w := fun w => Go.Lib.run_eql_slice_nil w 84 89 _ n cap 0 0 Try.underlying84
    clear hrow h1 hh hcur hsz
    go_enter Try.func82, Try.ntmps82
    go_wp2_with (first
      | (at_builtin; refine wpList_append_own _ rfl (.tmp 5) (.tmp 6) 84 rfl w.heap.size 89 i (.pointer none) 1 8 Try.underlying84 j1 j2 j3 j4 rfl (by decide) (.slice (some ⟨w.heap.size, 0, none⟩) 0 0) 0 [] rfl HE.out ⟨g, 0, none⟩ n cap xs rfl (by omega) ?c1 ?c2 ?c3 ?c4 ?c5 ?_))
    case c1 => exact HN.out
    case c2 => exact H1.out
    case c3 => unfold maxLen; omega
    case c4 => omega
    case c5 => simp
    intro v' w2 hown hg _
    have HG := (show Hid (w2.ownsRow w.heap.size 89 1 v' n xs ∧ Ext (fun _ => False) w w2) from ⟨by simpa using hown, ((Ext.refl _ w).alloc _).grown hg fun g hg => .inl (row_base HE.out g hg)⟩)
    obtain ⟨x3, p3, rfl, q3, q4⟩ := row_shape hown
    clear hown hg HE HN
    go_wp2_with fail
    go_ret
    exact ⟨_, rfl, HG.out⟩

set_option maxHeartbeats 2000000 in
set_option maxRecDepth 100000 in
theorem clone56_run (v : Value) (n : Nat) (xs : List Value) (base : Nat) (w : World) (hrow : w.ownsRow base 3 1 v n xs) (h1 : ∀ u ∈ xs, u.oneCell' = true) (hn : n ≤ 100000) :
    Calls Try.prog 56 #[v] w (RowPost 3 1 n xs w) := by
  have hlen : xs.length = n := by have := hrow.1; simpa using this
  obtain ⟨i, j1, j2, j3, j4⟩ := info3
  have HS := (show Hid (w.ownsRow base 3 1 v n xs) from hrow)
  rcases hrow.2 with ⟨rfl, rfl⟩ | ⟨g, cap, cur, rfl, -, hh, hcap, hmax, hsz, hcur⟩
  · clear hrow
    have heq : ∀ w, (binOp .eql 30 (.slice none 0 0) (.slice none 0 0)).run Try.prog w = .ok (.bool true) w := fun w => Go.Lib.run_eql_slice_nil w 30 3 none 0 0 0 0 Try.underlying30
    go_enter Try.func56, Try.ntmps56
    go_wp2_with fail
    go_ret
    obtain rfl : xs = [] := List.eq_nil_of_length_eq_zero hlen
    exact ⟨_, rfl, World.ownsRow_nil _ _ _ _, Ext.refl _ _⟩
  · have hgl : g < w.heap.size := heap_lt hh
    have HN := (show Hid (∀ j u, xs[j]? = some u → (w.alloc (.cells #[] 3)).cell? ((⟨g, 0, none⟩ : Addr).add j) = some u) from fun j u hu => by
      have hj : j < xs.length := (List.getElem?_eq_some_iff.1 hu).1
      have ea : (⟨g, 0, none⟩ : Addr).add j = ⟨g, j, none⟩ := by
        unfold Addr.add
        by_cases h0 : j = 0
        · subst h0; rfl
        · simp [h0]
      have : (cur.toList.take (n * 1))[j]? = some u := by rw [hcur]; exact hu
      rw [List.getElem?_take_of_lt (by omega)] at this
      have eh : (w.alloc (.cells #[] 3)).heap[g]? = some (.cells cur 3 (0, 0)) := (Below.heap_alloc w _ _ hgl).trans hh
      rw [ea]
      unfold World.cell?
      simp only [eh]
      simpa using this)
    have HE := (show Hid ((w.alloc (.cells #[] 3)).ownsRow w.heap.size 3 1 (.slice (some ⟨w.heap.size, 0, none⟩) 0 0) 0 []) from ⟨rfl, .inr ⟨w.heap.size, 0, #[], rfl, Nat.le_refl _, (MapKept.heap_alloc w _).1, Nat.le_refl _, Nat.zero_le _, rfl, rfl⟩⟩)
    have H1 := (show Hid (∀ u ∈ xs, u.oneCell' = true) from h1)
    have heq : ∀ w, (binOp .eql 30 (.slice (some ⟨g, 0, none⟩) n cap) (.slice none 0 0)).run Try.prog w = .ok (.bool false) w := fun w => Go.Lib.run_eql_slice_nil w 30 3 _ n cap 0 0 Try.underlying30
    clear hrow h1 hh hcur hsz
    go_enter Try.func56, Try.ntmps56
    go_wp2_with (first
      | (at_builtin; refine wpList_append_own _ rfl (.tmp 5) (.tmp 6) 30 rfl w.heap.size 3 i (.int .i64 0) 1 8 Try.underlying30 j1 j2 j3 j4 rfl (by decide) (.slice (some ⟨w.heap.size, 0, none⟩) 0 0) 0 [] rfl HE.out ⟨g, 0, none⟩ n cap xs rfl (by omega) ?c1 ?c2 ?c3 ?c4 ?c5 ?_))
    case c1 => exact HN.out
    case c2 => exact H1.out
    case c3 => unfold maxLen; omega
    case c4 => omega
    case c5 => simp
    intro v' w2 hown hg _
    have HG := (show Hid (w2.ownsRow w.heap.size 3 1 v' n xs ∧ Ext (fun _ => False) w w2) from ⟨by simpa using hown, ((Ext.refl _ w).alloc _).grown hg fun g hg => .inl (row_base HE.out g hg)⟩)
    obtain ⟨x3, p3, rfl, q3, q4⟩ := row_shape hown
    clear hown hg HE HN
    go_wp2_with fail
    go_ret
    exact ⟨_, rfl, HG.out⟩


theorem which1_run (z : LM) (ib : Nat) (b : Bool) (w : World) (hz : MailAt w z) (hi : w.cell? ⟨ib, 0, none⟩ = some (.bool b)) :
    Calls Try.prog 83 #[.pointer (some ⟨z.b, 0, none⟩), .pointer (some ⟨ib, 0, none⟩)] w fun e w' => e = .returned (.bool (z.m.waits != b)) ∧ Ext (fun _ => False) w w' ∧ w'.heap = w.heap := by
  obtain ⟨-, -, -, c3, -⟩ := hz.cells
  clear hz
  generalize z.m.waits = a at c3 ⊢
  generalize z.b = zb at c3 ⊢
  go_enter Try.func83, Try.ntmps83
  go_wp2_with fail
  go_quiet (fail)
  go_wp2_with fail
  go_ret
  exact ⟨rfl, (Ext.refl _ _).drewN _, rfl⟩

/-- Those in hand (b = false), or those that wait. -/
def thoseOf (b : Bool) (zs : List LM) : List LM := zs.filter fun z => !(z.m.waits != b)

theorem thoseOf_length (b : Bool) (zs : List LM) : (thoseOf b zs).length ≤ zs.length := List.length_filter_le _ _

set_option maxHeartbeats 2000000 in
theorem which_run (mb : Nat) (L : Lq) (F : Nat → Prop) (b : Bool) (w : World) (h : Mg w mb L F) (hn : L.ms.length ≤ 100000) :
    Calls Try.prog 66 #[.pointer (some ⟨mb, 0, none⟩), .bool b] w (RowPost 9 1 (thoseOf b L.ms).length ((thoseOf b L.ms).map idV) w) := by
  obtain ⟨y, cap, hv, hy1, hy2⟩ := row_shape h.mrow
  obtain ⟨-, -, -, -, -, -, c6, -⟩ := h.tops
  rw [hv] at c6
  have hml := h.mblt
  have hxa : Ext (fun _ => False) w (w.alloc (.cells #[.bool b] 4)) := (Ext.refl _ _).alloc _
  have HC := (show Hid (Calls Try.prog 82 #[.slice y L.ms.length cap] (w.alloc (.cells #[.bool b] 4)) (RowPost 89 1 L.ms.length (L.ms.map mPtr) (w.alloc (.cells #[.bool b] 4)))) from by
    have := clone82_run L.mv L.ms.length (L.ms.map mPtr) 0 _ (h.quiet hxa).mrow (by intro u hu; obtain ⟨z, -, rfl⟩ := List.mem_map.1 hu; rfl) hn
    rw [hv] at this
    exact this)
  have HD := (show Hid (∀ (v : Value) (W : World), W.ownsRow (w.alloc (.cells #[.bool b] 4)).heap.size 89 1 v L.ms.length (L.ms.map mPtr) → Ext (fun _ => False) (w.alloc (.cells #[.bool b] 4)) W →
      Calls Try.prog 64 #[v, .func (.func 83) #[] #[.pointer (some ⟨w.heap.size, 0, none⟩)]] W fun e w' => ∃ v', e = .returned v' ∧ w'.ownsRow 0 89 1 v' (thoseOf b L.ms).length ((thoseOf b L.ms).map mPtr) ∧ Ext (fun _ => False) w w') from by
    intro v W hrow hW
    have hp : ∀ k (hk : k < L.ms.length), (fun k => (((L.ms[k]?).map (·.m.waits)).getD true != b)) (0 + k) = (fun z : LM => z.m.waits != b) L.ms[k] := fun k hk => by simp [hk]
    have hkeep : keepAt (fun k => (((L.ms[k]?).map (·.m.waits)).getD true != b)) 0 (L.ms.map mPtr) = (thoseOf b L.ms).map mPtr := by
      rw [keepAt_map, keepAt_filter (fun z : LM => z.m.waits != b) _ _ _ hp]; rfl
    have := del64 83 #[.pointer (some ⟨w.heap.size, 0, none⟩)] (enters_of Try.func83 (by kernel_rfl) rfl) v L.ms.length (L.ms.map mPtr) (fun k => (((L.ms[k]?).map (·.m.waits)).getD true != b))
      (fun _ W' => Ext (fun _ => False) w W' ∧ W'.heap[w.heap.size]? = some (.cells #[.bool b] 4 (0, 0))) W (row_lower hrow 0 (Nat.zero_le _)) (fun k hk => ⟨some ⟨(L.ms[k]'(by simpa using hk)).b, 0, none⟩, by simp [mPtr]⟩)
      ⟨hxa.trans hW, (hW.block w.heap.size (by simp) fun f => f).trans (MapKept.heap_alloc w _).1⟩ (fun c hc k W1 W2 h1 _ ho => ?_) (fun k W1 hk h1 => ?_)
    · rw [hkeep, List.length_map] at this
      refine this.mono ?_
      rintro e w' ⟨v', rfl, h1, -, h2, -⟩
      exact ⟨v', rfl, h1, h2⟩
    · have hcb := row_base hrow c hc
      simp at hcb
      refine ⟨⟨ho.os.trans h1.1.os, ho.tape.trans h1.1.tape, ho.output.trans h1.1.output, by rw [ho.size]; exact h1.1.size, fun k hk hf => (ho.block k (by omega)).trans (h1.1.block k hk hf)⟩, (ho.block _ (by omega)).trans h1.2⟩
    · have hk' : k < L.ms.length := by simpa using hk
      have e : (L.ms.map mPtr)[k] = .pointer (some ⟨L.ms[k].b, 0, none⟩) := by simp [mPtr]
      rw [e]
      refine (which1_run L.ms[k] w.heap.size b W1 ((h.quiet h1.1).mails _ (List.getElem_mem hk')) (by simp [World.cell?, h1.2])).mono ?_
      rintro e' w' ⟨rfl, hx, hh⟩
      exact ⟨by simp [hk'], ⟨h1.1.trans hx, by rw [hh]; exact h1.2⟩, fun b' _ => by rw [hh]⟩)
  have HN := (show Hid (∀ (v : Value) (W : World), W.ownsRow 0 89 1 v (thoseOf b L.ms).length ((thoseOf b L.ms).map mPtr) → Ext (fun _ => False) w W → Calls Try.prog 70 #[v] W (RowPost 9 1 (thoseOf b L.ms).length ((thoseOf b L.ms).map idV) W)) from fun v W hrow hW =>
    names_run v _ _ W hrow (fun z hz => (h.quiet hW).mails z (List.mem_filter.1 hz).1) (Nat.le_trans (thoseOf_length b L.ms) hn))
  clear h hv
  go_enter Try.func66, Try.ntmps66
  go_wp2_with fail
  refine HC.out.mono ?_
  rintro e w1 ⟨v1, rfl, hr1, hx1⟩
  have HD1 := hid (HD.out v1 w1 hr1 hx1)
  obtain ⟨x1, p1, rfl, -⟩ := row_shape hr1
  clear hr1 hx1 HC HD
  go_wp2_with fail
  refine HD1.out.mono ?_
  rintro e w2 ⟨v2, rfl, hr2, hx2⟩
  have HN2 := hid (HN.out v2 w2 hr2 hx2)
  have HX2 := hid (hx2)
  obtain ⟨x2, p2, rfl, -⟩ := row_shape hr2
  clear hr2 hx2 HN HD1
  go_wp2_with fail
  refine HN2.out.mono ?_
  rintro e w3 ⟨v3, rfl, hr3, hx3⟩
  have HR := (show Hid (w3.ownsRow w.heap.size 9 1 v3 (thoseOf b L.ms).length ((thoseOf b L.ms).map idV) ∧ Ext (fun _ => False) w w3) from ⟨row_lower hr3 _ HX2.out.size, HX2.out.trans hx3⟩)
  obtain ⟨x3, p3, rfl, -⟩ := row_shape hr3
  clear hr3 hx3 HN2 HX2
  go_wp2_with fail
  go_ret
  exact ⟨_, rfl, HR.out⟩

theorem active_run (mb : Nat) (L : Lq) (F : Nat → Prop) (w : World) (h : Mg w mb L F) (hn : L.ms.length ≤ 100000) :
    Calls Try.prog 38 #[.pointer (some ⟨mb, 0, none⟩)] w (RowPost 9 1 (thoseOf false L.ms).length ((thoseOf false L.ms).map idV) w) := by
  have HC := hid (which_run mb L F false w h hn)
  clear h
  go_enter Try.func38, Try.ntmps38
  go_wp2_with fail
  refine HC.out.mono ?_
  rintro e w3 ⟨v3, rfl, hr3, hx3⟩
  have HR := (show Hid (w3.ownsRow w.heap.size 9 1 v3 (thoseOf false L.ms).length ((thoseOf false L.ms).map idV) ∧ Ext (fun _ => False) w w3) from ⟨hr3, hx3⟩)
  obtain ⟨x3, p3, rfl, -⟩ := row_shape hr3
  clear hr3 hx3 HC
  go_wp2_with fail
  go_ret
  exact ⟨_, rfl, HR.out⟩
theorem deferred_run (mb : Nat) (L : Lq) (F : Nat → Prop) (w : World) (h : Mg w mb L F) (hn : L.ms.length ≤ 100000) :
    Calls Try.prog 41 #[.pointer (some ⟨mb, 0, none⟩)] w (RowPost 9 1 (thoseOf true L.ms).length ((thoseOf true L.ms).map idV) w) := by
  have HC := hid (which_run mb L F true w h hn)
  clear h
  go_enter Try.func41, Try.ntmps41
  go_wp2_with fail
  refine HC.out.mono ?_
  rintro e w3 ⟨v3, rfl, hr3, hx3⟩
  have HR := (show Hid (w3.ownsRow w.heap.size 9 1 v3 (thoseOf true L.ms).length ((thoseOf true L.ms).map idV) ∧ Ext (fun _ => False) w w3) from ⟨hr3, hx3⟩)
  obtain ⟨x3, p3, rfl, -⟩ := row_shape hr3
  clear hr3 hx3 HC
  go_wp2_with fail
  go_ret
  exact ⟨_, rfl, HR.out⟩

theorem q_inHand (L : Lq) : inHand L.q.ms = (thoseOf false L.ms).length := by
  unfold inHand Lq.q thoseOf
  simp only [List.filter_map, List.length_map]
  congr 1
  refine List.filter_congr fun z _ => ?_
  simp only [Function.comp]
  cases z.m.waits <;> rfl

theorem hold0 {w W W' : World} {mb o : Nat} {v : Value} (h : W.cell? ⟨mb, o, none⟩ = some v ∧ Ext (fun _ => False) w W) (hm : mb < w.heap.size) (hx : Ext (fun _ => False) W W') : W'.cell? ⟨mb, o, none⟩ = some v ∧ Ext (fun _ => False) w W' :=
  ⟨(hx.cell (Nat.lt_of_lt_of_le hm h.2.size) (fun f => f) o).trans h.1, h.2.trans hx⟩

set_option maxHeartbeats 2000000 in
theorem full_run (mb : Nat) (L : Lq) (F : Nat → Prop) (w : World) (h : Mg w mb L F) (hn : L.ms.length ≤ 100000) :
    Calls Try.prog 49 #[.pointer (some ⟨mb, 0, none⟩)] w (QuietPost (.bool (full L.q)) w) := by
  have HC := (show Hid (∀ W, Ext (fun _ => False) w W → Calls Try.prog 38 #[.pointer (some ⟨mb, 0, none⟩)] W (RowPost 9 1 (thoseOf false L.ms).length ((thoseOf false L.ms).map idV) W)) from fun W hW => active_run mb L F W (h.quiet hW) hn)
  obtain ⟨c0, -⟩ := h.tops
  have hml := h.mblt
  have hle := thoseOf_length false L.ms
  have e : full L.q = decide (L.lm.active ≤ (thoseOf false L.ms).length) := by
    unfold full
    rw [q_inHand]
    rfl
  rw [e]
  generalize (thoseOf false L.ms).length = n at HC hle ⊢
  clear h e
  go_enter Try.func49, Try.ntmps49
  go_wp2_with fail
  have hS0 : w.drew.cell? ⟨mb, 0, none⟩ = some (.int .i64 L.lm.active) ∧ Ext (fun _ => False) w w.drew := ⟨c0, ⟨rfl, rfl, rfl, Nat.le_refl _, fun _ _ _ => rfl⟩⟩
  go_region_held3 (fun w' => w'.cell? ⟨mb, 0, none⟩ = some (.int .i64 L.lm.active) ∧ Ext (fun _ => False) w w') (assumption)
    ((go_at_call 38; refine (HC.out _ ?_).mono ?_; (apply And.right; assumption); rintro e w1 ⟨v1, rfl, hr1, hx1⟩; have hs' := hold0 (by assumption) hml hx1; obtain ⟨x1, p1, rfl, -⟩ := row_shape hr1; clear hr1 hx1))
  go_wp2_with fail
  go_ret
  exact ⟨rfl, hs'.2⟩
end Go.Proofs.Ytnakafmlenngnaa.Qm
