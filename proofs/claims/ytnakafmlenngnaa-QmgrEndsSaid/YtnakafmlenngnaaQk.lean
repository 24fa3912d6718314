/- dest, queue. -/
import Derived.Test.YtnakafmlenngnaaQx
namespace Go.Proofs.Ytnakafmlenngnaa.Qm
open Go.RowKit Go.Proofs.Ytnakafmlenngnaa.Wi

section
variable {w w' : World} {mb : Nat} {L : Lq} {F F' : Nat → Prop}
theorem Mg.addDest (h : Mg w mb L F) (z : LD) (v' : Value) (hF : ∀ k, F k → F' k) (hlt : ∀ k, F' k → k < w'.heap.size)
    (hx : ∀ k, F k → k ≠ mb → k ≠ L.mp → L.dv.ownBlock ≠ some k → w'.heap[k]? = w.heap[k]?)
    (htop : w'.heap[mb]? = some (.cells (topC { L with ds := L.ds ++ [z], dv := v' }) 87 (0, 0)))
    (hmap : SMap w' L.mp ((L.ds ++ [z]).map fun z => (z.d.name, dPtr z))) (hrow : w'.ownsRow 0 99 1 v' (L.ds ++ [z]).length ((L.ds ++ [z]).map dPtr))
    (hz : DestAt w' L.lm z) (hn : ¬ F z.b ∧ ¬ F z.wb) (hF' : F' z.b ∧ F' z.wb ∧ ∀ g, v'.ownBlock = some g → F' g) : Mg w' mb { L with ds := L.ds ++ [z], dv := v' } F' := by
  have cell : ∀ {k : Nat} {c : Array Value} {t : TypeId}, F k → w.heap[k]? = some (.cells c t (0, 0)) → t ≠ 87 → t ≠ 99 → w'.heap[k]? = w.heap[k]? := by
    intro k c t hk hc h1 h2
    refine hx k hk (neT hc h.top h1) (neM hc h.map) fun e => ?_
    obtain ⟨cur, hr⟩ := row_type h.drow k e
    exact neT hc hr h2 rfl
  have rows : ∀ {base e size n : Nat} {v : Value} {xs : List Value}, w.ownsRow base e size v n xs → (∀ g, v.ownBlock = some g → F g) → e ≠ 87 → e ≠ 99 → w'.ownsRow base e size v n xs := by
    intro base e size n v xs hr hf h1 h2
    refine row_keep hr fun g hg => ?_
    obtain ⟨cur, hc⟩ := row_type hr g hg
    exact cell (hf g hg) hc h1 h2
  refine ⟨⟨htop, ?_, ?_, hrow, hmap, rows h.jrow h.fr.2.2 (by decide) (by decide), fun z hz => rows (h.jobs z hz) (h.fj z hz) (by decide) (by decide), h.lim, ?_, h.msep, ?_, ⟨hF _ h.fb.1, hF _ h.fb.2⟩, ?_, ?_, ?_, ⟨fun g hg => hF g (h.fr.1 g hg), hF'.2.2, fun g hg => hF g (h.fr.2.2 g hg)⟩, hlt⟩, rows h.mrow h.fr.1 (by decide) (by decide)⟩
  · intro z hz
    have hd := h.mails z hz
    refine hd.same (cell (h.fm z hz).1 hd.cell (by decide) (by decide)) fun g hg => ?_
    obtain ⟨cur, hr⟩ := row_type hd.row _ hg
    exact cell ((h.fm z hz).2 g hg) hr (by decide) (by decide)
  · intro y hy
    rcases List.mem_append.1 hy with hy | hy
    · have hd := h.dests y hy
      exact hd.same (cell (h.fd y hy).1 hd.cell (by decide) (by decide)) (cell (h.fd y hy).2 hd.win (by decide) (by decide))
    · simp only [List.mem_cons, List.not_mem_nil, or_false] at hy
      subst hy; exact hz
  · have := h.turn
    simp; omega
  · refine List.pairwise_append.2 ⟨h.dsep, List.pairwise_singleton _ _, fun a ha b hb => ?_⟩
    simp only [List.mem_cons, List.not_mem_nil, or_false] at hb
    subst hb
    exact ⟨fun e => hn.1 (by rw [← e]; exact (h.fd a ha).1), fun e => hn.2 (by rw [← e]; exact (h.fd a ha).2)⟩
  · exact fun z hz => ⟨hF _ (h.fm z hz).1, fun g hg => hF g ((h.fm z hz).2 g hg)⟩
  · intro y hy
    rcases List.mem_append.1 hy with hy | hy
    · exact ⟨hF _ (h.fd y hy).1, hF _ (h.fd y hy).2⟩
    · simp only [List.mem_cons, List.not_mem_nil, or_false] at hy
      subst hy; exact ⟨hF'.1, hF'.2.1⟩
  · exact fun z hz g hg => hF g (h.fj z hz g hg)
end

theorem q_dIdx (L : Lq) (n : ByteArray) : dIdx L.q.ds n = L.ds.findIdx fun z => decide (z.d.name = n) := by
  unfold dIdx Lq.q
  rw [List.findIdx_map]
  rfl

theorem look_dIdx (l : List LD) (n : ByteArray) : lookS (l.map fun z => (z.d.name, dPtr z)) n = (l[l.findIdx fun z => decide (z.d.name = n)]?).map dPtr := by
  unfold lookS
  induction l with
  | nil => rfl
  | cons z l ih =>
    simp only [List.map_cons, List.find?_cons, List.findIdx_cons]
    by_cases h : z.d.name = n
    · simp [h]
    · simp only [h, decide_false, cond_false, List.getElem?_cons_succ]
      exact ih

/-- The manager with a destination of a name, at i. -/
def madeL (L : Lq) (bd wb : Nat) (n : ByteArray) (v : Value) : Lq := { L with ds := L.ds ++ [⟨bd, wb, ⟨n, L.lm.ini, 0, 0, 0⟩⟩], dv := v }

def DestPost (mb : Nat) (L : Lq) (F : Nat → Prop) (n : ByteArray) (w : World) (e : Ending) (w' : World) : Prop :=
  ∃ L' F' z, L'.ds[dIdx L.q.ds n]? = some z ∧ e = .returned (dPtr z) ∧ Mg w' mb L' F' ∧ Grow F w w' F' ∧ Ext F w w' ∧ (∀ k, F k → F' k) ∧ L'.q = { L.q with ds := mkD L.lm L.q.ds n } ∧ L'.ms = L.ms

theorem made_q (L : Lq) (bd wb : Nat) (n : ByteArray) (v : Value) (hi : ¬ dIdx L.q.ds n < L.ds.length) : (madeL L bd wb n v).q = { L.q with ds := mkD L.lm L.q.ds n } := by
  have : mkD L.lm L.q.ds n = L.q.ds ++ [⟨n, L.lm.ini, 0, 0, 0⟩] := by
    unfold mkD
    rw [if_neg (by simpa [Lq.q] using hi)]
  rw [this]
  unfold madeL Lq.q
  simp

/-- The world with the new destination's two blocks. -/
def madeW (w : World) (lm : Lm) (n : ByteArray) : World := ((w.alloc (.cells (winCells lm.ini lm.lim lm.ini 0 0) 79)).alloc (.cells #[.string n, .pointer (some ⟨w.heap.size, 0, none⟩), .int .i64 0] 101)).drew

theorem madeW_ext (w : World) (lm : Lm) (n : ByteArray) : Ext (fun _ => False) w (madeW w lm n) := (((Ext.refl _ w).alloc _).alloc _).drew
theorem madeW_size (w : World) (lm : Lm) (n : ByteArray) : (madeW w lm n).heap.size = w.heap.size + 2 := by
  show ((w.alloc (.cells (winCells lm.ini lm.lim lm.ini 0 0) 79)).alloc (.cells #[.string n, .pointer (some ⟨w.heap.size, 0, none⟩), .int .i64 0] 101)).heap.size = _
  simp
theorem madeW_win (w : World) (lm : Lm) (n : ByteArray) : Win (madeW w lm n) w.heap.size lm.ini lm.lim lm.ini 0 0 :=
  (Below.heap_alloc _ _ _ (by simp)).trans (MapKept.heap_alloc w (.cells (winCells lm.ini lm.lim lm.ini 0 0) 79)).1
theorem madeW_box (w : World) (lm : Lm) (n : ByteArray) : (madeW w lm n).heap[w.heap.size + 1]? = some (.cells #[.string n, .pointer (some ⟨w.heap.size, 0, none⟩), .int .i64 0] 101 (0, 0)) := by
  have e : (w.alloc (.cells (winCells lm.ini lm.lim lm.ini 0 0) 79)).heap.size = w.heap.size + 1 := by simp
  rw [← e]
  exact (MapKept.heap_alloc (w.alloc (.cells (winCells lm.ini lm.lim lm.ini 0 0) 79)) (.cells #[.string n, .pointer (some ⟨w.heap.size, 0, none⟩), .int .i64 0] 101)).1

/-- What is known behind the map's insertion. -/
theorem made_facts {w w3 : World} {mb : Nat} {L : Lq} {F : Nat → Prop} {n : ByteArray} (h : Mg w mb L F) (hx3 : Ext (· = L.mp) (madeW w L.lm n) w3) :
    w3.cell? ⟨mb, 7, none⟩ = some L.dv ∧ w3.frozen? ⟨mb, 7, none⟩ = false ∧ mb < w3.heap.size ∧ w3.ownsRow 0 99 1 L.dv L.ds.length (L.ds.map dPtr) ∧ w.heap.size + 2 ≤ w3.heap.size := by
  have h2 := h.quiet (madeW_ext w L.lm n)
  have e : w3.heap[mb]? = some (.cells (topC L) 87 (0, 0)) := (hx3.block mb h2.mblt (neM h2.top h2.map)).trans h2.top
  refine ⟨by simp [World.cell?, e, topC], by simp [World.frozen?, e], heap_lt e, row_keep h2.drow fun g hg => ?_, by have := hx3.size; rw [madeW_size] at this; exact this⟩
  obtain ⟨cur, hr⟩ := row_type h2.drow g hg
  exact hx3.block g (heap_lt hr) (neM hr h2.map)

theorem made_mg {w w3 w4 : World} {mb : Nat} {L : Lq} {F : Nat → Prop} {n : ByteArray} {v : Value} {o : Obj} (h : Mg w mb L F) (hi : ¬ dIdx L.q.ds n < L.ds.length) (hx3 : Ext (· = L.mp) (madeW w L.lm n) w3)
    (hS : SMap w3 L.mp ((L.ds.map fun z => (z.d.name, dPtr z)) ++ [(n, .pointer (some ⟨w.heap.size + 1, 0, none⟩))]))
    (hown : w4.ownsRow 0 99 1 v (L.ds.length + 1) (L.ds.map dPtr ++ [.pointer (some ⟨w.heap.size + 1, 0, none⟩)])) (hg : (w3.alloc o).grownBy w4 L.dv.ownBlock) (hb : v.ownBlock = L.dv.ownBlock ∨ v.ownBlock = some (w3.heap.size + 1)) :
    DestPost mb L F n w (.returned (.pointer (some ⟨w.heap.size + 1, 0, none⟩))) (w4.setCell ⟨mb, 7, none⟩ v) ∧ w4.cell? ⟨mb, 7, none⟩ = some L.dv ∧ w4.frozen? ⟨mb, 7, none⟩ = false := by
  have h2 := h.quiet (madeW_ext w L.lm n)
  have hs3 := hx3.size
  rw [madeW_size] at hs3
  have hs4 := hg.size
  simp at hs4
  -- from w3 to w4
  have keep4 : ∀ k, k < w3.heap.size → L.dv.ownBlock ≠ some k → w4.heap[k]? = w3.heap[k]? := fun k hk hne => (hg.block k (by simp; omega) fun e => hne e.symm).trans (Below.heap_alloc _ _ _ hk)
  have keep3 : ∀ k, k < w.heap.size + 2 → k ≠ L.mp → w3.heap[k]? = (madeW w L.lm n).heap[k]? := fun k hk hne => hx3.block k (by rw [madeW_size]; exact hk) hne
  have keepw : ∀ k, k < w.heap.size → (madeW w L.lm n).heap[k]? = w.heap[k]? := fun k hk => (madeW_ext w L.lm n).block k hk fun f => f
  have hdv : ∀ k, w.heap.size ≤ k → L.dv.ownBlock ≠ some k := fun k hk e => by have := h.lt k (h.fr.2.1 k e); omega
  have hmpl := h.lt _ h.fb.2
  have hmbl := h.mblt
  have hnmp : mb ≠ L.mp := neM h.top h.map
  have htop4 : w4.heap[mb]? = some (.cells (topC L) 87 (0, 0)) := by
    rw [keep4 mb (by omega) fun e => ?_, keep3 mb (by omega) hnmp, keepw mb hmbl]
    · exact h.top
    · obtain ⟨cur, hr⟩ := row_type h.drow mb e
      exact neT h.top hr (by decide) rfl
  refine ⟨?_, by simp [World.cell?, htop4, topC], by simp [World.frozen?, htop4]⟩
  have hset : ∀ k, k ≠ mb → (w4.setCell ⟨mb, 7, none⟩ v).heap[k]? = w4.heap[k]? := fun k hk => Below.heap_setCell _ _ _ _ hk
  have hsz : (w4.setCell ⟨mb, 7, none⟩ v).heap.size = w4.heap.size := by simp [World.setCell]
  have hw0 : w.heap.size ≠ L.mp := by omega
  have hxF : Ext F w (w4.setCell ⟨mb, 7, none⟩ v) := by
    have := (((madeW_ext w L.lm n).mono (G := F) fun _ f => f.elim).trans (hx3.mono fun k hk => by rw [hk]; exact h.fb.2)).alloc o
    exact (this.grown hg fun g hg => .inr (h.fr.2.1 g hg)).setCell mb 7 v h.fb.1
  refine ⟨madeL L (w.heap.size + 1) w.heap.size n v, fun k => F k ∨ (w.heap.size ≤ k ∧ k < (w4.setCell ⟨mb, 7, none⟩ v).heap.size), ⟨w.heap.size + 1, w.heap.size, ⟨n, L.lm.ini, 0, 0, 0⟩⟩, ?_, rfl, ?_, fun k hk => hk, hxF, fun k hk => .inl hk, made_q L _ _ n v hi, rfl⟩
  · have e1 : dIdx L.q.ds n = L.ds.length := by
      have : dIdx L.q.ds n ≤ L.q.ds.length := List.findIdx_le_length
      simp only [Lq.q, List.length_map] at this
      simp only [Lq.q] at hi ⊢
      omega
    rw [e1]
    simp [madeL]
  · refine h.addDest _ v (fun k hk => .inl hk) (fun k hk => ?_) (fun k hk h1 h2 h3 => ?_) ?_ ?_ ?_ ?_ ⟨fun f => by have := h.lt _ f; change w.heap.size + 1 < w.heap.size at this; omega, fun f => by have := h.lt _ f; change w.heap.size < w.heap.size at this; omega⟩ ⟨.inr ⟨by simp, by rw [hsz]; simp; omega⟩, .inr ⟨by simp, by rw [hsz]; simp; omega⟩, fun g hg' => ?_⟩
    · rcases hk with hk | hk
      · have := h.lt k hk; rw [hsz]; omega
      · exact hk.2
    · have hk' := h.lt k hk
      rw [hset k h1, keep4 k (by omega) h3, keep3 k (by omega) h2, keepw k hk']
    · simp [World.setCell, Array.getElem?_modify, htop4, topC]
    · rw [List.map_append]
      refine hS.same ?_
      rw [hset _ hnmp.symm, keep4 _ (by omega) fun e => ?_]
      obtain ⟨cur, hr⟩ := row_type h.drow _ e
      exact neM hr h.map rfl
    · rw [List.map_append, List.length_append]
      refine row_keep hown fun g hg' => hset g ?_
      obtain ⟨cur, hr⟩ := row_type hown g hg'
      exact neT hr htop4 (by decide)
    · obtain ⟨-, -, q3, q4, q5, -⟩ := h.lim
      have k1 : (w4.setCell ⟨mb, 7, none⟩ v).heap[w.heap.size + 1]? = (madeW w L.lm n).heap[w.heap.size + 1]? := by
        rw [hset _ (by omega), keep4 _ (by omega) (hdv _ (by omega)), keep3 _ (by omega) (by omega)]
      have k2 : (w4.setCell ⟨mb, 7, none⟩ v).heap[w.heap.size]? = (madeW w L.lm n).heap[w.heap.size]? := by
        rw [hset _ (by omega), keep4 _ (by omega) (hdv _ (by omega)), keep3 _ (by omega) (by omega)]
      refine ⟨k1.trans (madeW_box w L.lm n), Win.same (madeW_win w L.lm n) k2, ?_, by simp⟩
      unfold Stands
      simp
      omega
    · rcases hb with hb | hb
      · exact .inl (h.fr.2.1 g (by rw [← hb]; exact hg'))
      · rw [hb] at hg'
        injection hg' with hg'
        have hl := row_lt hown g (by rw [hb, hg'])
        rw [hsz]
        exact .inr ⟨by omega, hl⟩

set_option maxHeartbeats 4000000 in
set_option maxRecDepth 100000 in
theorem dest_run (mb : Nat) (L : Lq) (F : Nat → Prop) (n : ByteArray) (w : World) (h : Mg w mb L F) (hlen : L.ds.length ≤ 100000) :
    Calls Try.prog 61 #[.pointer (some ⟨mb, 0, none⟩), .string n] w (DestPost mb L F n w) := by
  obtain ⟨-, t1, t2, -, -, -, -, t7, t8, -, -⟩ := h.tops
  have hfz := h.toCore.free 7
  have hml := h.mblt
  have hlk := run_lookup_s (P := Try.prog) w L.mp _ n (.pointer none) Try.underlying83 Try.underlying9 (fun w => by kernel_rfl) h.map
  rw [look_dIdx, ← q_dIdx] at hlk
  by_cases hi : dIdx L.q.ds n < L.ds.length
  · rw [List.getElem?_eq_getElem hi] at hlk
    simp only [Option.map_some, Option.getD_some, dPtr] at hlk
    have HP := (show Hid (DestPost mb L F n w (.returned (dPtr L.ds[dIdx L.q.ds n])) w) from ⟨L, F, _, List.getElem?_eq_getElem hi, rfl, h, Grow.refl _ _ _, Ext.refl _ _, fun _ f => f, by
      have : mkD L.lm L.q.ds n = L.q.ds := by unfold mkD; rw [if_pos (by simpa [Lq.q] using hi)]
      rw [this], rfl⟩)
    unfold dPtr at HP
    generalize L.ds[dIdx L.q.ds n].b = b at hlk HP
    clear h t7 hfz hlen hi
    go_enter Try.func61, Try.ntmps61
    go_wp2_with fail
    go_ret
    exact HP.out
  · rw [List.getElem?_eq_none (by omega)] at hlk
    simp only [Option.map_none, Option.getD_none] at hlk
    obtain ⟨q1, q2, q3, q4, q5, -⟩ := h.lim
    have HN := (show Hid (∀ W, Calls Try.prog 13 #[.int .i64 (L.lm.ini : Nat), .int .i64 (L.lm.lim : Nat)] W fun e w' => e = .returned (.tuple #[.pointer (some ⟨W.heap.size, 0, none⟩), .int .i64 0]) ∧ W.alloc (.cells (winCells L.lm.ini L.lm.lim L.lm.ini 0 0) 79) = w') from fun W => new_ok L.lm.ini L.lm.lim W (by omega) (by omega) (by omega))
    obtain ⟨w3, hr, hS3, hx3⟩ := run_insert_s (P := Try.prog) (madeW w L.lm n) L.mp _ n (.pointer (some ⟨w.heap.size + 1, 0, none⟩)) Try.underlying83 Try.underlying9 (h.quiet (madeW_ext w L.lm n)).map (by rw [look_dIdx, ← q_dIdx, List.getElem?_eq_none (by omega)]; rfl)
    obtain ⟨s7, sf, sl, so, ss⟩ := made_facts h hx3
    have HO := (show Hid (w3.ownsRow 0 99 1 L.dv L.ds.length (L.ds.map dPtr)) from so)
    have HM := (show Hid (∀ v w4, w4.ownsRow 0 99 1 v (L.ds.length + 1) (L.ds.map dPtr ++ [.pointer (some ⟨w.heap.size + 1, 0, none⟩)]) → (w3.alloc (.cells #[.pointer (some ⟨w.heap.size + 1, 0, none⟩)] 99)).grownBy w4 L.dv.ownBlock → (v.ownBlock = L.dv.ownBlock ∨ v.ownBlock = some (w3.heap.size + 1)) → DestPost mb L F n w (.returned (.pointer (some ⟨w.heap.size + 1, 0, none⟩))) (w4.setCell ⟨mb, 7, none⟩ v) ∧ w4.cell? ⟨mb, 7, none⟩ = some L.dv ∧ w4.frozen? ⟨mb, 7, none⟩ = false) from
      fun v w4 h1 h2 h3 => made_mg h hi hx3 hS3 h1 h2 h3)
    obtain ⟨x, cp, hdv, r1, r2⟩ := row_shape so
    rw [hdv] at HO HM s7 t7
    unfold madeW at hr
    obtain ⟨i, j1, j2, j3, j4⟩ := info99
    clear h hi hS3 hx3 so hdv
    go_enter Try.func61, Try.ntmps61
    go_wp2_with fail
    go_region_held3 (fun w' => w'.cell? ⟨mb, 1, none⟩ = some (.int .i64 (L.lm.ini : Nat)) ∧ w'.cell? ⟨mb, 2, none⟩ = some (.int .i64 (L.lm.lim : Nat))) (go_simp)
      ((go_at_call 13; refine (HN.out _).mono ?_; rintro e w1 ⟨rfl, rfl⟩))
    go_wp2_with (first
      | (at_builtin; refine wpList_append_own_at _ rfl (.tmp 44) (.tmp 46) 85 rfl 0 99 i (.pointer none) 1 8 Try.underlying85 j1 j2 j3 j4 rfl (by decide) (.slice x L.ds.length cp) L.ds.length (L.ds.map dPtr) rfl (HO.out.alloc _) ⟨w3.heap.size, 0, none⟩ 1 1 [.pointer (some ⟨w.heap.size + 1, 0, none⟩)] rfl rfl ?c1 ?c2 ?c3 ?c4 ?c5 ?_))
    case c1 => exact new1 _ _ rfl
    case c2 => intro u hu; simp at hu; subst hu; rfl
    case c3 => unfold maxLen; omega
    case c4 => omega
    case c5 => exact Nat.zero_le _
    intro v' w4 hown hg _ hb
    obtain ⟨hp, s7', sf'⟩ := HM.out v' w4 hown hg hb
    obtain ⟨x2, p2, rfl, y1, y2⟩ := row_shape hown
    have HP := hid hp
    clear hown hg hb hp HM HO
    go_wp2_with fail
    go_ret
    exact HP.out

theorem Mg.dest {w w' : World} {mb : Nat} {L : Lq} {F : Nat → Prop} (h : Mg w mb L F) (i : Nat) (hi : i < L.ds.length) (z' : LD) (hb : z'.b = L.ds[i].b) (hv : z'.wb = L.ds[i].wb) (hn : z'.d.name = L.ds[i].d.name) (hs : w.heap.size ≤ w'.heap.size)
    (hx : ∀ k, F k → k ≠ z'.b → k ≠ z'.wb → w'.heap[k]? = w.heap[k]?) (hm : DestAt w' L.lm z') : Mg w' mb { L with ds := L.ds.set i z' } F := by
  refine ⟨h.toCore.dest i hi z' hb hv hn hs hx hm, row_keep h.mrow fun g hg => hx g (h.fr.1 g hg) ?_ ?_⟩
  · obtain ⟨cur, hr⟩ := row_type h.mrow g hg
    rw [hb]
    exact neT hr (h.dests _ (List.getElem_mem hi)).cell (by decide)
  · obtain ⟨cur, hr⟩ := row_type h.mrow g hg
    rw [hv]
    exact neT hr (h.dests _ (List.getElem_mem hi)).win (by decide)

theorem DestAt.cells {w : World} {lm : Lm} {z : LD} (h : DestAt w lm z) : w.cell? ⟨z.b, 0, none⟩ = some (.string z.d.name) ∧ w.cell? ⟨z.b, 1, none⟩ = some (.pointer (some ⟨z.wb, 0, none⟩)) ∧ w.cell? ⟨z.b, 2, none⟩ = some (.int .i64 z.d.rev) := by
  have := h.cell
  simp [World.cell?, this]
theorem DestAt.free {w : World} {lm : Lm} {z : LD} (h : DestAt w lm z) (o : Nat) : w.frozen? ⟨z.b, o, none⟩ = false := by
  have := h.cell
  simp [World.frozen?, this]

def QueuePost (mb : Nat) (L : Lq) (F : Nat → Prop) (n : ByteArray) (now : Int) (xb xo : Nat) (w : World) (e : Ending) (w' : World) : Prop :=
  e = .returned (.tuple #[]) ∧ ∃ L' F' W1, Mg W1 mb L' F' ∧ w' = W1.setCell ⟨xb, xo, none⟩ (.int .i64 ((queueD L.lm L.q.ds n now).2 : Nat)) ∧ Ext F w W1 ∧ Grow F w W1 F' ∧ (∀ k, F k → F' k) ∧ L'.q = { L.q with ds := (queueD L.lm L.q.ds n now).1 } ∧ L'.ms = L.ms

set_option maxHeartbeats 4000000 in
set_option maxRecDepth 100000 in
theorem queue_run (mb : Nat) (L : Lq) (F : Nat → Prop) (n : ByteArray) (now : Int) (xb xo : Nat) (w : World) (h : Mg w mb L F) (hlen : L.ds.length ≤ 100000) (hc : w.cell? ⟨xb, xo, none⟩ = some (.string n)) 
    (hs : ∀ W L' F', Mg W mb L' F' → L'.ms = L.ms → Ext F w W → (∃ v, W.cell? ⟨xb, xo + 1, none⟩ = some v) ∧ W.frozen? ⟨xb, xo + 1, none⟩ = false) :
    Calls Try.prog 50 #[.pointer (some ⟨mb, 0, none⟩), .pointer (some ⟨xb, xo, none⟩), .int .i64 now] w (QueuePost mb L F n now xb (xo + 1) w) := by
  have HD := hid (dest_run mb L F n w h hlen)
  have HS := hid hs
  clear hs hlen h
  go_enter Try.func50, Try.ntmps50
  go_wp2_with fail
  refine HD.out.mono ?_
  rintro e w1 ⟨L1, F1, z, hz, rfl, hM, hG, hX, hFF, hq, hms⟩
  obtain ⟨hi, hzi⟩ := List.getElem?_eq_some_iff.1 hz
  have hzm := hM.dests z (by rw [← hzi]; exact List.getElem_mem hi)
  obtain ⟨c0, c1, c2⟩ := hzm.cells
  obtain ⟨⟨v0, s1⟩, s2⟩ := HS.out w1 L1 F1 hM hms hX
  obtain ⟨st1, st2, st3, st4⟩ := hzm.st
  have HW := (show Hid (Calls Try.prog 17 #[.pointer (some ⟨z.wb, 0, none⟩)] w1 fun e w' => e = .returned (.bool (decide (z.d.s = 0))) ∧ w1 = w') from dead_run _ _ _ _ _ _ w1 (by omega) hzm.win)
  have hlm : L1.lm = L.lm := congrArg Qs.lm hq
  have hds : L1.q.ds = mkD L.lm L.q.ds n := congrArg Qs.ds hq
  have hmz : (mkD L.lm L.q.ds n)[dIdx L.q.ds n]? = some z.d := by
    rw [← hds]
    simp [Lq.q] at hz ⊢
    exact ⟨z, hz, rfl⟩
  -- shut
  have HA : Hid (shut z.d now = true → QueuePost mb L F n now xb (xo + 1) w (.returned (.tuple #[])) (w1.setCell ⟨xb, xo + 1, none⟩ (.int .i64 3))) := by
    show _ → _
    intro hsh
    have e : queueD L.lm L.q.ds n now = (mkD L.lm L.q.ds n, 3) := by unfold queueD; rw [hmz]; simp [hsh]
    refine ⟨rfl, L1, F1, w1, hM, by rw [e]; rfl, hX, hG, hFF, by rw [e]; exact hq, hms⟩
  have HB : Hid (shut z.d now = false → ∀ w2, Win w2 z.wb L.lm.ini L.lm.lim (revS L.lm.ini z.d.s) (revC z.d.s z.d.c) z.d.f → Only z.wb w1 w2 → QueuePost mb L F n now xb (xo + 1) w (.returned (.tuple #[])) (w2.setCell ⟨xb, xo + 1, none⟩ (.int .i64 1)) ∧ (∃ v, w2.cell? ⟨xb, xo + 1, none⟩ = some v) ∧ w2.frozen? ⟨xb, xo + 1, none⟩ = false) := by
    show _ → _
    intro hsh w2 hw2 ho
    have e : queueD L.lm L.q.ds n now = ((mkD L.lm L.q.ds n).set (dIdx L.q.ds n) (revD L.lm z.d), 1) := by unfold queueD; rw [hmz]; simp [hsh]
    have hFz : F1 z.wb := (hM.fd z (by rw [← hzi]; exact List.getElem_mem hi)).2
    have hM2 : Mg w2 mb { L1 with ds := L1.ds.set (dIdx L.q.ds n) { z with d := revD L.lm z.d } } F1 := by
      refine hM.dest _ hi _ (by rw [hzi]) (by rw [hzi]) (by rw [hzi]; rfl) (by rw [ho.size]; exact Nat.le_refl _) (fun k _ _ h2 => ho.block k h2) ⟨?_, ?_, ?_, hzm.rev⟩
      · exact (ho.block _ (neT hzm.cell hzm.win (by decide))).trans hzm.cell
      · rw [hlm]; exact hw2
      · rw [hlm]
        obtain ⟨-, -, q3, q4, -⟩ := hM.lim
        rw [hlm] at q3 q4
        have := hzm.st
        rw [hlm] at this
        exact Stands.rev q3 q4 this
    have hX2 : Ext F w w2 := hX.grow hG ⟨ho.os, ho.tape, ho.output, by rw [ho.size]; exact Nat.le_refl _, fun k _ hk => ho.block k fun e => hk (by rw [e]; exact hFz)⟩
    refine ⟨⟨rfl, _, F1, w2, hM2, by rw [e]; rfl, hX2, fun k hk => ?_, hFF, ?_, hms⟩, HS.out w2 _ F1 hM2 hms hX2⟩
    · rcases hG k hk with h1 | h1
      · exact .inl h1
      · exact .inr ⟨h1.1, by rw [ho.size]; exact h1.2⟩
    · rw [e]
      have : ({ L1 with ds := L1.ds.set (dIdx L.q.ds n) { z with d := revD L.lm z.d } } : Lq).q = { L1.q with ds := L1.q.ds.set (dIdx L.q.ds n) (revD L.lm z.d) } := by
        simp [Lq.q, List.map_set]
      rw [this, hds, hq]
  have HV := (show Hid (Calls Try.prog 18 #[.pointer (some ⟨z.wb, 0, none⟩)] w1 fun e w' => e = .returned (.bool (revB z.d.s)) ∧ Win w' z.wb L.lm.ini L.lm.lim (revS L.lm.ini z.d.s) (revC z.d.s z.d.c) z.d.f ∧ Only z.wb w1 w') from by
    rw [← hlm]
    exact revive_any _ _ _ _ _ _ w1 hzm.st hzm.win)
  clear hM hG hX hFF hq hms hz hzi hzm hlm hds hmz hi HD HS
  unfold shut at HA HB
  unfold dPtr
  cases hs0 : decide (z.d.s = 0) with
  | false =>
    rw [hs0] at HA HB HW
    go_wp2_with fail
    refine HW.out.mono ?_
    rintro e w2 ⟨rfl, rfl⟩
    go_wp2_with fail
    refine HV.out.mono ?_
    rintro e w2 ⟨rfl, hw2, ho⟩
    obtain ⟨hP, ⟨v3, s3⟩, s4⟩ := HB.out (by simp) w2 hw2 ho
    have HP := hid hP
    clear hP hw2 ho HA HB HV HW
    go_wp2_with fail
    refine bodyPost_end (v := .tuple #[]) (by simp [results, Try.results50, go_sem]) rfl ?_
    exact HP.out
  | true =>
    rw [hs0] at HA HB HW
    by_cases hnr : now < z.d.rev
    · have hd : decide (now < z.d.rev) = true := by simpa using hnr
      go_wp2_with fail
      refine HW.out.mono ?_
      rintro e w2 ⟨rfl, rfl⟩
      have HP := hid (HA.out (by simp [hnr]))
      clear HA HB HV HW
      go_wp2_with fail
      refine bodyPost_ret (v := .tuple #[]) (by simp [results, Try.results50, go_sem]) rfl ?_
      exact HP.out
    · have hd : decide (now < z.d.rev) = false := by simpa using hnr
      go_wp2_with fail
      refine HW.out.mono ?_
      rintro e w2 ⟨rfl, rfl⟩
      go_wp2_with fail
      refine HV.out.mono ?_
      rintro e w2 ⟨rfl, hw2, ho⟩
      obtain ⟨hP, ⟨v3, s3⟩, s4⟩ := HB.out (by simp [hnr]) w2 hw2 ho
      have HP := hid hP
      clear hP hw2 ho HA HB HV HW
      go_wp2_with fail
      refine bodyPost_end (v := .tuple #[]) (by simp [results, Try.results50, go_sem]) rfl ?_
      exact HP.out
end Go.Proofs.Ytnakafmlenngnaa.Qm
