/- The document's machine: Accept. -/
import Derived.Test.YthkimmabaojaaaaRdo
import Derived.OwnWalk
namespace Go.Proofs.Ythkimmabaojaaaa.Rf
open Go.RowKit Go.Proofs.Ythkimmabaojaaaa.Cu Go.Proofs.Ythkimmabaojaaaa.Cm Go.Proofs.Ythkimmabaojaaaa.Cl

/-- A new care's block and its two rows, while they grow. -/
structure AccJ (w wr : World) (cb : Nat) (d : Dd) (vS vT : Value) (n m : Nat) : Prop where
  care : wr.heap[cb]? = some (.cells #[.string d.id, vS, vT, .bool false, .bool false] 63 (0, 0))
  rs : wr.ownsRow w.heap.size 3 1 vS n (List.replicate n (.int .i64 1))
  rt : wr.ownsRow w.heap.size 3 1 vT m (List.replicate m (.int .i64 0))
  ns : n = 0 → vS = .slice none 0 0
  nt : m = 0 → vT = .slice none 0 0
  ext : Ext (fun _ => False) w wr
  deed : wr.heap[w.heap.size]? = some (ddO d)
  hcb : w.heap.size ≤ cb

theorem row_first {w : World} {base e n : Nat} {v x : Value} (h : w.ownsRow base e 1 v n (List.replicate n x)) (hn : 1 ≤ n) (g : Nat) (hg : v.ownBlock = some g) : ∃ cur, w.heap[g]? = some (.cells cur e (0, 0)) ∧ cur.toList[0]? = some x := by
  rcases h.2 with ⟨rfl, -⟩ | ⟨g', cap, cur, rfl, -, hh, -, -, -, ht⟩
  · cases hg
  · cases hg
    refine ⟨cur, hh, ?_⟩
    have : (cur.toList.take (n * 1))[0]? = some x := by rw [ht, List.getElem?_replicate, if_pos (by omega)]
    rwa [List.getElem?_take_of_lt (by omega)] at this

section
variable {w wr w2 : World} {cb n m : Nat} {d : Dd} {vS vT v' : Value}
theorem AccJ.apart (h : AccJ w wr cb d vS vT n m) (g : Nat) (h1 : vS.ownBlock = some g) (h2 : vT.ownBlock = some g) : False := by
  rcases Nat.eq_zero_or_pos n with e | hn
  · rw [h.ns e] at h1; cases h1
  rcases Nat.eq_zero_or_pos m with e | hm
  · rw [h.nt e] at h2; cases h2
  obtain ⟨c1, a1, a2⟩ := row_first h.rs hn g h1
  obtain ⟨c2, b1, b2⟩ := row_first h.rt hm g h2
  rw [a1] at b1
  cases b1
  rw [a2] at b2
  cases b2

/-- A block of another type is not the row's. -/
theorem row_off {wr w2 : World} {base k : Nat} {v : Value} {xs : List Value} (hv : wr.ownsRow base 3 1 v k xs) {x : Obj} (hg : (wr.alloc x).grownBy w2 v.ownBlock) {b : Nat} {cur : Array Value} {ty : TypeId} (hb : wr.heap[b]? = some (.cells cur ty (0, 0))) (ht : ty ≠ 3) : w2.heap[b]? = wr.heap[b]? := by
  have hlt : b < wr.heap.size := (Array.getElem?_eq_some_iff.1 hb).1
  rw [hg.block b (by simp; omega) (by
    intro f
    obtain ⟨c, hc⟩ := rowtype hv b f.symm
    rw [hb] at hc
    cases hc
    exact ht rfl)]
  exact Below.heap_alloc _ _ _ hlt

theorem row_base {w : World} {base e size n : Nat} {v : Value} {xs : List Value} (h : w.ownsRow base e size v n xs) (g : Nat) (hg : v.ownBlock = some g) : base ≤ g := by
  rcases h.2 with ⟨rfl, -⟩ | ⟨g', cap, cur, rfl, hb, -⟩
  · cases hg
  · cases hg; exact hb

theorem grown_ext {w wr w2 : World} {base e size k : Nat} {v : Value} {xs : List Value} (hx : Ext (fun _ => False) w wr) (hb : w.heap.size ≤ base) (hv : wr.ownsRow base e size v k xs) {x : Obj} (hg : (wr.alloc x).grownBy w2 v.ownBlock) : Ext (fun _ => False) w w2 := by
  have hs := hx.size
  have hgs := hg.size
  refine ⟨hg.os.trans hx.os, hg.tape.trans hx.tape, hg.output.trans hx.output, by simp at hgs; omega, fun i hi hf => ?_⟩
  rw [hg.block i (by simp; omega) (by
    intro f
    have := row_base hv i f.symm
    omega), Below.heap_alloc _ _ _ (by omega)]
  exact hx.block i hi hf

theorem row_cb {w : World} {base n : Nat} {v : Value} {xs : List Value} (h : w.ownsRow base 3 1 v n xs) {cb o : Nat} {cur : Array Value} (hc : w.heap[cb]? = some (.cells cur 63 (0, 0))) (u : Value) : (w.setCell ⟨cb, o, none⟩ u).ownsRow base 3 1 v n xs := by
  refine ownsRow_keep h fun g hg => Below.heap_setCell _ _ _ _ ?_
  intro f
  obtain ⟨c, hc'⟩ := rowtype h g hg
  rw [show g = cb from f, hc] at hc'
  cases hc'

theorem AccJ.stepS (h : AccJ w wr cb d vS vT n m) {x : Obj} (hown : w2.ownsRow w.heap.size 3 1 v' (n + 1) (List.replicate n (.int .i64 1) ++ [.int .i64 1])) (hg : (wr.alloc x).grownBy w2 vS.ownBlock) :
    w2.cell? ⟨cb, 1, none⟩ = some vS ∧ w2.cell? ⟨cb, 2, none⟩ = some vT ∧ w2.frozen? ⟨cb, 1, none⟩ = false ∧ w2.frozen? ⟨cb, 2, none⟩ = false ∧ cb < w2.heap.size ∧ AccJ w (w2.setCell ⟨cb, 1, none⟩ v') cb d v' vT (n + 1) m := by
  have hc := (row_off h.rs hg h.care (by decide)).trans h.care
  have hdd := (row_off h.rs hg h.deed (by decide)).trans h.deed
  have hx := grown_ext h.ext (Nat.le_refl _) h.rs hg
  have hne : w.heap.size ≠ cb := by
    intro f
    have := h.deed
    rw [f, h.care] at this
    cases this
  refine ⟨by simp [World.cell?, hc], by simp [World.cell?, hc], by simp [World.frozen?, hc], by simp [World.frozen?, hc], (Array.getElem?_eq_some_iff.1 hc).1, ?_⟩
  refine ⟨by simp [World.setCell, Array.getElem?_modify, hc], ?_, ?_, fun f => by omega, h.nt, hx.setCell_new _ _ _ h.hcb, (Below.heap_setCell _ _ _ _ hne).trans hdd, h.hcb⟩
  · rw [List.replicate_succ']
    exact row_cb hown hc v'
  · refine row_cb (ownsRow_keep h.rt fun g hg' => ?_) hc v'
    rw [hg.block g (by have := ownsRow_lt h.rt g hg'; simp; omega) (fun f => h.apart g f.symm hg')]
    exact Below.heap_alloc _ _ _ (ownsRow_lt h.rt g hg')

theorem AccJ.stepT (h : AccJ w wr cb d vS vT n m) {x : Obj} (hown : w2.ownsRow w.heap.size 3 1 v' (m + 1) (List.replicate m (.int .i64 0) ++ [.int .i64 0])) (hg : (wr.alloc x).grownBy w2 vT.ownBlock) :
    w2.cell? ⟨cb, 1, none⟩ = some vS ∧ w2.cell? ⟨cb, 2, none⟩ = some vT ∧ w2.frozen? ⟨cb, 1, none⟩ = false ∧ w2.frozen? ⟨cb, 2, none⟩ = false ∧ cb < w2.heap.size ∧ AccJ w (w2.setCell ⟨cb, 2, none⟩ v') cb d vS v' n (m + 1) := by
  have hc := (row_off h.rt hg h.care (by decide)).trans h.care
  have hdd := (row_off h.rt hg h.deed (by decide)).trans h.deed
  have hx := grown_ext h.ext (Nat.le_refl _) h.rt hg
  have hne : w.heap.size ≠ cb := by
    intro f
    have := h.deed
    rw [f, h.care] at this
    cases this
  refine ⟨by simp [World.cell?, hc], by simp [World.cell?, hc], by simp [World.frozen?, hc], by simp [World.frozen?, hc], (Array.getElem?_eq_some_iff.1 hc).1, ?_⟩
  refine ⟨by simp [World.setCell, Array.getElem?_modify, hc], ?_, ?_, h.ns, fun f => by omega, hx.setCell_new _ _ _ h.hcb, (Below.heap_setCell _ _ _ _ hne).trans hdd, h.hcb⟩
  · refine row_cb (ownsRow_keep h.rs fun g hg' => ?_) hc v'
    rw [hg.block g (by have := ownsRow_lt h.rs g hg'; simp; omega) (fun f => h.apart g hg' f.symm)]
    exact Below.heap_alloc _ _ _ (ownsRow_lt h.rs g hg')
  · rw [List.replicate_succ']
    exact row_cb hown hc v'

theorem AccJ.cells (h : AccJ w wr cb d vS vT n m) : wr.cell? ⟨cb, 1, none⟩ = some vS ∧ wr.cell? ⟨cb, 2, none⟩ = some vT ∧ wr.cell? ⟨w.heap.size, 3, none⟩ = some (.int .i64 d.count) ∧ cb < wr.heap.size ∧ w.heap.size < wr.heap.size ∧ w.heap.size ≠ cb := by
  have hc := h.care
  have hd := h.deed
  have hne : w.heap.size ≠ cb := by
    intro f
    rw [f, hc] at hd
    cases hd
  exact ⟨by simp [World.cell?, hc], by simp [World.cell?, hc], by simp [World.cell?, hd, ddO], (Array.getElem?_eq_some_iff.1 hc).1, (Array.getElem?_eq_some_iff.1 hd).1, hne⟩

theorem row_int {w : World} {base n : Nat} {v : Value} {k : Nat} (h : w.ownsRow base 3 1 v n (List.replicate n (.int .i64 (k : Nat)))) (hn : 1 ≤ n) : ∃ g cap, v = .slice (some ⟨g, 0, none⟩) n cap ∧ base ≤ g ∧ cap ≤ 9223372036854775807 ∧ IntRow w g cap (List.replicate n k) := by
  rcases h.2 with ⟨-, h0⟩ | ⟨g, cap, cur, rfl, hb, hh, hc, hm, hs, ht⟩
  · omega
  · refine ⟨g, cap, rfl, hb, by unfold maxLen at hm; omega, cur, hh, by omega, by simpa using hc, fun j hj => ?_⟩
    have hj' : j < n := by simpa using hj
    have : (cur.toList.take (n * 1))[j]? = some (.int .i64 (k : Nat)) := by rw [ht, List.getElem?_replicate, if_pos hj']
    rw [List.getElem?_take_of_lt (by omega)] at this
    simpa [List.getD_eq_getElem?_getD, hj'] using this

theorem AccJ.done {rb B T : Nat} {es : List REnt} {v : Value} (h : AccJ w wr cb d vS vT n n) (hM : RMach w rb B es T) (hn : 1 ≤ n) (hn2 : n ≤ 200) (hT : T + 1 ≤ 100000) (hes : es.length + 1 ≤ 100000) (hf : findR es d.id = none)
    (h1 : w.heap[rb]? = some (.cells #[v] 54 (0, 0))) (h2 : w.ownsRow B 60 1 v es.length (es.map rptr)) {x : Obj} (hown : w2.ownsRow B 60 1 v' (es.length + 1) (es.map rptr ++ [.pointer (some ⟨cb, 0, none⟩)])) (hg : (wr.alloc x).grownBy w2 v.ownBlock) :
    w2.cell? ⟨rb, 0, none⟩ = some v ∧ w2.frozen? ⟨rb, 0, none⟩ = false ∧ ∃ e, e.c = ⟨List.replicate n (1, 0), false, false⟩ ∧ e.id = d.id ∧ RMach (w2.setCell ⟨rb, 0, none⟩ v') rb B (es ++ [e]) (T + 1) ∧ Below B w (w2.setCell ⟨rb, 0, none⟩ v') := by
  have hrl : rb < w.heap.size := (Array.getElem?_eq_some_iff.1 h1).1
  have hB := hM.own
  have hxs := h.ext.size
  have hv : wr.ownsRow B 60 1 v es.length (es.map rptr) := ownsRow_keep h2 fun g hg' => h.ext.block g (ownsRow_lt h2 g hg') fun f => f
  -- what is not the row of the cares stands as it stood
  have keep : ∀ (b : Nat) (cur : Array Value) (ty : TypeId), wr.heap[b]? = some (.cells cur ty (0, 0)) → ty ≠ 60 → w2.heap[b]? = wr.heap[b]? := by
    intro b cur ty hb hty
    have hlt : b < wr.heap.size := (Array.getElem?_eq_some_iff.1 hb).1
    rw [hg.block b (by simp; omega) (by
      intro f
      obtain ⟨c, hc⟩ := rowtype hv b f.symm
      rw [hb] at hc
      cases hc
      exact hty rfl)]
    exact Below.heap_alloc _ _ _ hlt
  have keep' : ∀ (b : Nat) (cur : Array Value) (ty : TypeId), wr.heap[b]? = some (.cells cur ty (0, 0)) → ty ≠ 60 → ty ≠ 54 → (w2.setCell ⟨rb, 0, none⟩ v').heap[b]? = wr.heap[b]? := by
    intro b cur ty hb hty h54
    rw [Below.heap_setCell _ _ _ _ (by
      intro f
      rw [show b = rb from f, h.ext.block rb hrl (fun f => f), h1] at hb
      cases hb
      exact h54 rfl)]
    exact keep b cur ty hb hty
  have hr1 : wr.heap[rb]? = some (.cells #[v] 54 (0, 0)) := (h.ext.block rb hrl (fun f => f)).trans h1
  have hr2 := (keep rb _ _ hr1 (by decide)).trans hr1
  obtain ⟨sb, cs, rfl, hsb, hcs, hS⟩ := row_int (k := 1) h.rs hn
  obtain ⟨tb, ct, rfl, htb, hct, hT0⟩ := row_int (k := 0) h.rt hn
  have hst : sb ≠ tb := fun f => h.apart sb rfl (by rw [f]; rfl)
  have irow : ∀ {g cap : Nat} {xs : List Nat}, IntRow wr g cap xs → IntRow (w2.setCell ⟨rb, 0, none⟩ v') g cap xs := by
    intro g cap xs hi
    obtain ⟨cur, hc, -⟩ := id hi
    exact hi.keep (keep' g _ _ hc (by decide) (by decide))
  refine ⟨by simp [World.cell?, hr2], by simp [World.frozen?, hr2], ⟨d.id, cb, sb, cs, tb, ct, ⟨List.replicate n (1, 0), false, false⟩⟩, rfl, rfl, ⟨⟨v', ?_, ?_⟩, ?_, ?_, hM.own, by simp; omega⟩, ?_⟩
  · simp [World.setCell, Array.getElem?_modify, hr2]
  · rw [List.length_append, List.map_append]
    refine ownsRow_keep hown fun g hg' => Below.heap_setCell _ _ _ _ ?_
    intro f
    obtain ⟨c, hc⟩ := rowtype hown g hg'
    rw [show g = rb from f, hr2] at hc
    cases hc
  · intro e he
    rcases List.mem_append.1 he with he | he
    · have hC := (hM.cares e he).grow h.ext
      exact ⟨(keep' _ _ _ hC.care (by decide) (by decide)).trans hC.care, irow hC.states, irow hC.times, hC.ne, hC.pos, hC.top, hC.capS, hC.capT, fun x hx => Nat.le_succ_of_le (hC.le x hx), hT, hC.own⟩
    · simp only [List.mem_singleton] at he
      subst he
      refine ⟨?_, ?_, ?_, hst, by simpa using hn, by simpa using hn2, hcs, hct, ?_, hT, ⟨?_, ?_, ?_⟩⟩
      · refine (keep' _ _ _ h.care (by decide) (by decide)).trans ?_
        simpa using h.care
      · simpa using irow hS
      · simpa using irow hT0
      · intro x hx
        rw [List.eq_of_mem_replicate hx]
        exact Nat.zero_le _
      · have := h.hcb; simp only; omega
      · simp only; omega
      · simp only; omega
  · rw [List.pairwise_append]
    refine ⟨hM.sep, List.pairwise_singleton _ _, fun a ha b hb => ?_⟩
    simp only [List.mem_singleton] at hb
    subst hb
    have hC := hM.cares a ha
    have l1 : a.cb < w.heap.size := (Array.getElem?_eq_some_iff.1 hC.care).1
    have l2 := hC.states.lt
    have l3 := hC.times.lt
    have := h.hcb
    refine ⟨?_, by simp only; omega, by simp only; omega, by simp only; omega, by simp only; omega, by simp only; omega⟩
    intro f
    unfold findR at hf
    rw [List.find?_eq_none] at hf
    have := hf a ha
    simp at this
    exact this f
  · have hgs := hg.size
    refine ⟨hg.os.trans h.ext.os, hg.tape.trans h.ext.tape, hg.output.trans h.ext.output, by simp [World.setCell] at hgs ⊢; omega, fun k hk => ?_⟩
    rw [Below.heap_setCell _ _ _ _ (by show k ≠ rb; omega), hg.block k (by simp; omega) (by
      intro f
      have := row_base hv k f.symm
      omega), Below.heap_alloc _ _ _ (by omega)]
    exact h.ext.block k (by omega) fun f => f
end
theorem row_shape {w : World} {base e size n : Nat} {v : Value} {xs : List Value} (h : w.ownsRow base e size v n xs) : ∃ x cap, v = .slice x n cap := by
  rcases h.2 with ⟨rfl, rfl⟩ | ⟨g, cap, cur, rfl, -⟩
  · exact ⟨none, 0, rfl⟩
  · exact ⟨_, _, rfl⟩

theorem new1 {W : World} {g : Nat} (u : Value) (ty : TypeId) (hg : g = W.heap.size) (j : Nat) (u' : Value) (hj : [u][j]? = some u') : (W.alloc (.cells #[u] ty)).cell? ((⟨g, 0, none⟩ : Addr).add j) = some u' := by
  subst hg
  match j, hj with
  | 0, hj =>
    simp at hj
    subst hj
    have e : (W.alloc (.cells #[u] ty)).heap[W.heap.size]? = some (.cells #[u] ty (0, 0)) := (MapKept.heap_alloc W _).1
    unfold World.cell?
    rw [show ((⟨W.heap.size, 0, none⟩ : Addr).add 0).block = W.heap.size from rfl, e]
    rfl

theorem info3 : ∃ i, Try.prog.info? 3 = some i ∧ i.zero = some (.int .i64 0) ∧ i.size = 1 ∧ i.bytes = 8 :=
  info_parts (show (Try.prog.info? 3).map (fun i => (i.zero, i.size, i.bytes)) = some (some (.int .i64 0), 1, 8) by kernel_rfl)
theorem info60 : ∃ i, Try.prog.info? 60 = some i ∧ i.zero = some (.pointer none) ∧ i.size = 1 ∧ i.bytes = 8 :=
  info_parts (show (Try.prog.info? 60).map (fun i => (i.zero, i.size, i.bytes)) = some (some (.pointer none), 1, 8) by kernel_rfl)

/-- Behind Do, of an Accept that is done. -/
def AddR (rb B T : Nat) (es : List REnt) (d : Dd) (w : World) (en : Ending) (w' : World) : Prop :=
  en = .returned (.int .i64 0) ∧ ∃ e, e.c = ⟨List.replicate d.count.toNat (1, 0), false, false⟩ ∧ e.id = d.id ∧ RMach w' rb B (es ++ [e]) T ∧ Below B w w'

set_option maxRecDepth 100000 in
set_option maxHeartbeats 4000000 in
theorem rdo_1 (rb B T : Nat) (es : List REnt) (d : Dd) (w : World) (h : RMach w rb B es T) (hT : T + 1 ≤ 100000) (hes : es.length + 1 ≤ 100000) (hi1 : 1 ≤ d.id.size) (hi2 : d.id.size ≤ 32) (hf : findR es d.id = none) (hk : d.kind = 1) (hc1 : 1 ≤ d.count) (hc2 : d.count ≤ 200) :
    Calls Try.prog 21 #[.pointer (some ⟨rb, 0, none⟩), ddV d] w (AddR rb B (T + 1) es d w) := by
  have hS : mayS (absR es) d = true := by
    rw [mayS, if_pos hk, findM_absR, hf]
    simp [hc1, hc2]
  have HM := (show Hid (Calls Try.prog 26 #[.pointer (some ⟨rb, 0, none⟩), ddV d] (w.alloc (ddO d)) fun e w' => e = .returned (.bool true) ∧ Ext (fun _ => False) (w.alloc (ddO d)) w') from by
    have := rmay_run rb B T es d _ (h.grow ((Ext.refl _ w).alloc (ddO d))) (by omega) (by omega)
    rw [hS] at this; exact this)
  obtain ⟨n, hn⟩ : ∃ n : Nat, d.count = n := ⟨d.count.toNat, by omega⟩
  have hnt : d.count.toNat = n := by omega
  obtain ⟨v, h1, h2⟩ := h.mach
  have hrl : rb < w.heap.size := (Array.getElem?_eq_some_iff.1 h1).1
  have HD := (show Hid (∀ {wr w2 : World} {cb : Nat} {vS vT v' : Value}, AccJ w wr cb d vS vT n n → ∀ {x : Obj}, w2.ownsRow B 60 1 v' (es.length + 1) (es.map rptr ++ [.pointer (some ⟨cb, 0, none⟩)]) → (wr.alloc x).grownBy w2 v.ownBlock →
      w2.cell? ⟨rb, 0, none⟩ = some v ∧ w2.frozen? ⟨rb, 0, none⟩ = false ∧ ∃ e, e.c = ⟨List.replicate d.count.toNat (1, 0), false, false⟩ ∧ e.id = d.id ∧ RMach (w2.setCell ⟨rb, 0, none⟩ v') rb B (es ++ [e]) (T + 1) ∧ Below B w (w2.setCell ⟨rb, 0, none⟩ v')) from fun hJ _ hown hg => by
    rw [hnt]
    exact AccJ.done hJ h (by omega) (by omega) hT hes hf h1 h2 hown hg)
  have HR := (show Hid (∀ wr, Ext (fun _ => False) w wr → wr.ownsRow B 60 1 v es.length (es.map rptr) ∧ wr.cell? ⟨rb, 0, none⟩ = some v ∧ B ≤ wr.heap.size) from fun wr hx =>
    ⟨ownsRow_keep h2 fun g hg' => hx.block g (ownsRow_lt h2 g hg') fun f => f, by
      have : wr.heap[rb]? = some (.cells #[v] 54 (0, 0)) := (hx.block rb hrl fun f => f).trans h1
      simp [World.cell?, this], by have := h.own; have := hx.size; omega⟩)
  have HN := (show Hid (d.count = n) from hn)
  have hn200 : n ≤ 200 := by omega
  have hkc : ddO d = .cells #[.int .i64 1, .string d.id, .int .i64 d.who, .int .i64 n] 30 := by unfold ddO; rw [hk, hn]
  have HK := (show Hid (ddO d = .cells #[.int .i64 1, .string d.id, .int .i64 d.who, .int .i64 n] 30) from hkc)
  rw [hkc] at HM
  unfold ddV at HM ⊢
  rw [hk, hn] at HM ⊢
  obtain ⟨i3, j1, j2, j3, j4⟩ := info3
  obtain ⟨i6, k1, k2, k3, k4⟩ := info60
  clear hS hf hk h hn hnt hc1 hc2 h1 h2 hkc
  go_enter Try.func21, Try.ntmps21
  go_wp2_with fail
  refine HM.out.mono ?_
  rintro en w1 ⟨rfl, hx1⟩
  have hxw := ((Ext.refl (fun _ => False) w).alloc _).trans hx1
  obtain ⟨b0, b1, b2, b3⟩ := boxK hx1
  have hs1 : w.heap.size < w1.heap.size := by have := hx1.size; simp at this; omega
  have J0 : Hid (AccJ w (w1.alloc (.cells #[.string d.id, .slice none 0 0, .slice none 0 0, .bool false, .bool false] 63)) w1.heap.size d (.slice none 0 0) (.slice none 0 0) 0 0) := by
    show AccJ _ _ _ _ _ _ _ _
    have e1 : (w1.alloc (.cells #[.string d.id, .slice none 0 0, .slice none 0 0, .bool false, .bool false] 63)).heap[w.heap.size]? = some (ddO d) := by
      rw [Below.heap_alloc _ _ _ hs1, HK.out]
      exact (hx1.block w.heap.size (by simp) (fun f => f)).trans (MapKept.heap_alloc w _).1
    exact ⟨(MapKept.heap_alloc w1 _).1, World.ownsRow_nil _ _ _ _, World.ownsRow_nil _ _ _ _, fun _ => rfl, fun _ => rfl, hxw.alloc _, e1, by omega⟩
  clear hx1 hxw HM
  go_wp2_with fail
  go_loopg [7] n (fun g i wr => ∃ (k : Nat) (vS vT : Value), i = .int .i64 k ∧ k + g = n ∧ AccJ w wr w1.heap.size d vS vT k k)
  case atStart => exact ⟨0, _, _, rfl, by omega, J0.out⟩
  case round =>
    obtain ⟨k, vS, vT, rfl, hk, hJ⟩ := hrel
    have Hk := (show Hid (k + gk = n) from hk)
    obtain ⟨c1, c2, c3, c4, c5, c6⟩ := hJ.cells
    rw [HN.out] at c3
    have HJ := (show Hid (AccJ w wr w1.heap.size d vS vT k k) from hJ)
    have hkn : k ≤ n := by omega
    clear hk hJ J0
    by_cases hlt : k < n
    · clear b0 b1 b2 b3
      go_wp2_with (first
        | (at_builtin; refine wpList_append_own _ rfl (.tmp 52) (.tmp 53) 61 rfl w.heap.size 3 i3 (.int .i64 0) 1 8 Try.underlying61 j1 j2 j3 j4 rfl (by decide) vS k (List.replicate k (.int .i64 1)) rfl (HJ.out.rs.alloc _) ⟨wr.heap.size, 0, none⟩ 1 1 [.int .i64 1] rfl rfl ?c1 ?c2 ?c3 ?c4 ?c5 ?_))
      case c1 => exact new1 _ _ rfl
      case c2 => intro u hu; simp at hu; subst hu; rfl
      case c3 => unfold maxLen; omega
      case c4 => omega
      case c5 => have := HJ.out.ext.size; simp; omega
      intro v' w2 hown hg _
      obtain ⟨x2, p2, rfl⟩ := row_shape hown
      obtain ⟨d1, d2, z1, z2, hl2, hJ2⟩ := HJ.out.stepS hown hg
      have HJ2 := (show Hid (AccJ w (w2.setCell ⟨w1.heap.size, 1, none⟩ (.slice x2 (k + 1) p2)) w1.heap.size d (.slice x2 (k + 1) p2) vT (k + 1) k) from hJ2)
      clear hown hg hJ2 HJ
      go_wp2_with (first
        | (at_builtin; refine wpList_append_own _ rfl (.tmp 61) (.tmp 62) 61 rfl w.heap.size 3 i3 (.int .i64 0) 1 8 Try.underlying61 j1 j2 j3 j4 rfl (by decide) vT k (List.replicate k (.int .i64 0)) rfl (HJ2.out.rt.alloc _) ⟨w2.heap.size, 0, none⟩ 1 1 [.int .i64 0] rfl rfl ?c1 ?c2 ?c3 ?c4 ?c5 ?_))
      case c1 => exact new1 _ _ (by simp [World.setCell])
      case c2 => intro u hu; simp at hu; subst hu; rfl
      case c3 => unfold maxLen; omega
      case c4 => omega
      case c5 => have := HJ2.out.ext.size; simp at this; simp; omega
      intro v3 w3 hown hg _
      obtain ⟨x3, p3, rfl⟩ := row_shape hown
      obtain ⟨e1, e2, y1, y2, hl3, hJ3⟩ := HJ2.out.stepT hown hg
      have HJ3 := (show Hid (AccJ w (w3.setCell ⟨w1.heap.size, 2, none⟩ (.slice x3 (k + 1) p3)) w1.heap.size d (.slice x2 (k + 1) p2) (.slice x3 (k + 1) p3) (k + 1) (k + 1)) from hJ3)
      clear hown hg hJ3 HJ2 d1 d2 z1 z2 hl2 c1 c2 c3 c4 c5
      go_wp2_with fail
      go_roundg (gk - 1)
      case measure => have := Hk.out; omega
      case rel => exact ⟨k + 1, _, _, by go_num, by have := Hk.out; omega, HJ3.out⟩
    · obtain rfl : k = n := by omega
      clear b0 b1 b2 b3
      obtain ⟨r1, r2, r3⟩ := HR.out wr HJ.out.ext
      have Hr1 := (show Hid (wr.ownsRow B 60 1 v es.length (es.map rptr)) from r1)
      clear r1
      go_wp2_with (first
        | (at_builtin; refine wpList_append_own _ rfl (.tmp 70) (.tmp 72) 52 rfl B 60 i6 (.pointer none) 1 8 Try.underlying52 k1 k2 k3 k4 rfl (by decide) v es.length (es.map rptr) rfl (Hr1.out.alloc _) ⟨wr.heap.size, 0, none⟩ 1 1 [.pointer (some ⟨w1.heap.size, 0, none⟩)] rfl rfl ?c1 ?c2 ?c3 ?c4 ?c5 ?_))
      case c1 => exact new1 _ _ rfl
      case c2 => intro u hu; simp at hu; subst hu; rfl
      case c3 => unfold maxLen; omega
      case c4 => omega
      case c5 => simp; omega
      intro v' w2 hown hg _
      obtain ⟨x2, p2, rfl⟩ := row_shape hown
      obtain ⟨d1, d2, hpost⟩ := HD.out HJ.out hown hg
      have HP := (show Hid (∃ e, e.c = ⟨List.replicate d.count.toNat (1, 0), false, false⟩ ∧ e.id = d.id ∧ RMach (w2.setCell ⟨rb, 0, none⟩ (.slice x2 (es.length + 1) p2)) rb B (es ++ [e]) (T + 1) ∧ Below B w (w2.setCell ⟨rb, 0, none⟩ (.slice x2 (es.length + 1) p2))) from hpost)
      clear hpost hown hg HD HJ Hr1 HR
      go_wp2_with fail
      go_ret
      exact ⟨rfl, HP.out⟩
end Go.Proofs.Ythkimmabaojaaaa.Rf
