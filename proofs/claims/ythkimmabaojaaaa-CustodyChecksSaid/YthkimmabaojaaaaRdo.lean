/- The document's machine: Do, of deeds that are no Accept. -/
import Derived.Test.YthkimmabaojaaaaRmay
namespace Go.Proofs.Ythkimmabaojaaaa.Rf
open Go.RowKit Go.Proofs.Ythkimmabaojaaaa.Cu Go.Proofs.Ythkimmabaojaaaa.Cm Go.Proofs.Ythkimmabaojaaaa.Cl

def wi (e : REnt) (c : Care) : REnt := { e with c := c }
def updR (es : List REnt) (id : ByteArray) (c : Care) : List REnt := es.map fun x => if x.id = id then wi x c else x

theorem absR_upd (es : List REnt) (id : ByteArray) (c : Care) : absR (updR es id c) = setM (absR es) id c := by
  unfold absR updR setM
  simp only [List.map_map]
  apply List.map_congr_left
  intro x _
  simp only [Function.comp]
  split <;> rfl

theorem rowtype {w : World} {base e size n : Nat} {v : Value} {xs : List Value} (h : w.ownsRow base e size v n xs) (g : Nat) (hg : v.ownBlock = some g) : ∃ cur, w.heap[g]? = some (.cells cur e (0, 0)) := by
  rcases h.2 with ⟨rfl, -⟩ | ⟨g', cap, cur, rfl, -, hh, r⟩
  · cases hg
  · cases hg; exact ⟨cur, hh⟩

theorem RMach.upd {w w' : World} {rb B T T' : Nat} {es : List REnt} {e : REnt} {c : Care} (h : RMach w rb B es T) (he : e ∈ es) (hT : T ≤ T') (hT' : T' ≤ 100000) (hc : RCare w' B (wi e c) T')
    (hx : Ext (fun k => k = e.cb ∨ k = e.sb ∨ k = e.tb) w w') : RMach w' rb B (updR es e.id c) T' := by
  have hC := h.cares e he
  obtain ⟨cs, hs1, -⟩ := hC.states
  obtain ⟨ct, ht1, -⟩ := hC.times
  obtain ⟨v, h1, h2⟩ := h.mach
  have lt : ∀ {b : Nat} {o : Obj}, w.heap[b]? = some o → b < w.heap.size := fun h => (Array.getElem?_eq_some_iff.1 h).1
  -- a block of another type is none of these
  have off : ∀ (b : Nat) (cur : Array Value) (ty : TypeId), w.heap[b]? = some (.cells cur ty (0, 0)) → ty ≠ 63 → ty ≠ 3 → w'.heap[b]? = w.heap[b]? := by
    intro b cur ty hb n1 n2
    refine hx.block b (lt hb) ?_
    rintro (f | f | f) <;> subst f
    · rw [hC.care] at hb; cases hb; exact n1 rfl
    · rw [hs1] at hb; cases hb; exact n2 rfl
    · rw [ht1] at hb; cases hb; exact n2 rfl
  have hsym : ∀ a b : REnt, (a.id ≠ b.id ∧ a.cb ≠ b.cb ∧ a.sb ≠ b.sb ∧ a.sb ≠ b.tb ∧ a.tb ≠ b.sb ∧ a.tb ≠ b.tb) → (b.id ≠ a.id ∧ b.cb ≠ a.cb ∧ b.sb ≠ a.sb ∧ b.sb ≠ a.tb ∧ b.tb ≠ a.sb ∧ b.tb ≠ a.tb) :=
    fun a b ⟨p1, p2, p3, p4, p5, p6⟩ => ⟨p1.symm, p2.symm, p3.symm, p5.symm, p4.symm, p6.symm⟩
  refine ⟨⟨v, (off rb _ _ h1 (by decide) (by decide)).trans h1, ?_⟩, ?_, ?_, h.own, by simpa [updR] using h.few⟩
  · have e1 : (updR es e.id c).map rptr = es.map rptr := by
      simp only [updR, List.map_map]
      apply List.map_congr_left
      intro x _
      simp only [Function.comp, rptr]
      split <;> rfl
    rw [e1, show (updR es e.id c).length = es.length by simp [updR]]
    refine ownsRow_keep h2 fun g hg => ?_
    obtain ⟨cur, hcur⟩ := rowtype h2 g hg
    exact off g _ _ hcur (by decide) (by decide)
  · intro x hxm
    simp only [updR, List.mem_map] at hxm
    obtain ⟨y, hy, rfl⟩ := hxm
    by_cases hid : y.id = e.id
    · have hye : y = e := Classical.byContradiction fun hne => (Pairwise.two es hsym h.sep y e hy he hne).1 hid
      subst hye
      rw [if_pos rfl]
      exact hc
    · rw [if_neg hid]
      have hne : y ≠ e := fun f => hid (by rw [f])
      have hs := Pairwise.two es hsym h.sep y e hy he hne
      have hY := h.cares y hy
      obtain ⟨ys, ys1, -⟩ := hY.states
      obtain ⟨yt, yt1, -⟩ := hY.times
      have kc : w'.heap[y.cb]? = w.heap[y.cb]? := by
        refine hx.block _ (lt hY.care) ?_
        rintro (f | f | f)
        · exact hs.2.1 f
        · have := hY.care; rw [f, hs1] at this; cases this
        · have := hY.care; rw [f, ht1] at this; cases this
      have ks : w'.heap[y.sb]? = w.heap[y.sb]? := by
        refine hx.block _ (lt ys1) ?_
        rintro (f | f | f)
        · rw [f, hC.care] at ys1; cases ys1
        · exact hs.2.2.1 f
        · exact hs.2.2.2.1 f
      have kt : w'.heap[y.tb]? = w.heap[y.tb]? := by
        refine hx.block _ (lt yt1) ?_
        rintro (f | f | f)
        · rw [f, hC.care] at yt1; cases yt1
        · exact hs.2.2.2.2.1 f
        · exact hs.2.2.2.2.2 f
      exact ⟨kc.trans hY.care, hY.states.keep ks, hY.times.keep kt, hY.ne, hY.pos, hY.top, hY.capS, hY.capT, fun x hx => Nat.le_trans (hY.le x hx) hT, hT', hY.own⟩
  · rw [updR, List.pairwise_map]
    refine h.sep.imp fun {a b} hab => ?_
    split <;> split <;> exact hab

section
variable {w : World} {B T : Nat} {e : REnt}
theorem RCare.neS (h : RCare w B e T) : e.cb ≠ e.sb ∧ e.cb ≠ e.tb := by
  obtain ⟨cs, hs1, -⟩ := h.states
  obtain ⟨ct, ht1, -⟩ := h.times
  constructor
  · intro f; have := h.care; rw [f, hs1] at this; cases this
  · intro f; have := h.care; rw [f, ht1] at this; cases this

theorem RCare.setState (h : RCare w B e T) (k s : Nat) (hk : k < e.c.l.length) : RCare (w.setCell ⟨e.sb, k, none⟩ (.int .i64 s)) B (wi e (setSt e.c k s)) T := by
  have hl : (setSt e.c k s).l.length = e.c.l.length := by simp [setSt]
  have hn := h.neS
  refine ⟨?_, ?_, ?_, h.ne, by simp only [wi, hl]; exact h.pos, by simp only [wi, hl]; exact h.top, h.capS, h.capT, ?_, h.small, h.own⟩
  · simp only [wi, hl]
    rw [Below.heap_setCell _ _ _ _ hn.1]; exact h.care
  · have := h.states.set k s
    have e1 : (setSt e.c k s).l.map (·.1) = (e.c.l.map (·.1)).set k s := by simp [setSt, List.map_set]
    simp only [wi, e1]; exact this
  · have e1 : (setSt e.c k s).l.map (·.2) = e.c.l.map (·.2) := by
      simp only [setSt, List.map_set]
      rw [getD_lt _ _ _ hk]
      apply List.ext_getElem?
      intro i
      by_cases f : k = i
      · subst f
        simp [hk]
      · simp [f]
    simp only [wi, e1]
    exact h.times.keep (Below.heap_setCell _ _ _ _ h.ne.symm)
  · intro x hx
    simp only [wi, setSt] at hx
    rcases List.mem_or_eq_of_mem_set hx with hx | rfl
    · exact h.le x hx
    · rw [getD_lt _ _ _ hk]
      have := h.le _ (List.getElem_mem hk)
      exact this

theorem RCare.setTime (h : RCare w B e T) (k : Nat) (hk : k < e.c.l.length) (hT : T + 1 ≤ 100000) :
    RCare (w.setCell ⟨e.tb, k, none⟩ (.int .i64 ((e.c.l.getD k (0, 0)).2 + 1 : Nat))) B (wi e { e.c with l := e.c.l.set k ((e.c.l.getD k (0, 0)).1, (e.c.l.getD k (0, 0)).2 + 1) }) (T + 1) := by
  have hn := h.neS
  refine ⟨?_, ?_, ?_, h.ne, by simpa [wi] using h.pos, by simpa [wi] using h.top, h.capS, h.capT, ?_, hT, h.own⟩
  · rw [Below.heap_setCell _ _ _ _ hn.2]; simpa [wi] using h.care
  · have e1 : (e.c.l.set k ((e.c.l.getD k (0, 0)).1, (e.c.l.getD k (0, 0)).2 + 1)).map (·.1) = e.c.l.map (·.1) := by
      rw [getD_lt _ _ _ hk]
      simp only [List.map_set]
      apply List.ext_getElem?
      intro i
      by_cases f : k = i
      · subst f
        simp [hk]
      · simp [f]
    simp only [wi, e1]
    exact h.states.keep (Below.heap_setCell _ _ _ _ h.ne)
  · have e1 : (e.c.l.set k ((e.c.l.getD k (0, 0)).1, (e.c.l.getD k (0, 0)).2 + 1)).map (·.2) = (e.c.l.map (·.2)).set k ((e.c.l.getD k (0, 0)).2 + 1) := by simp [List.map_set]
    simp only [wi, e1]
    exact h.times.set k _
  · intro x hx
    simp only [wi] at hx
    rcases List.mem_or_eq_of_mem_set hx with hx | rfl
    · have := h.le x hx; omega
    · rw [getD_lt _ _ _ hk]
      have := h.le _ (List.getElem_mem hk)
      simp only; omega

theorem RCare.setHeld (h : RCare w B e T) (x : Bool) : RCare (w.setCell ⟨e.cb, 3, none⟩ (.bool x)) B (wi e { e.c with held := x }) T := by
  have hn := h.neS
  refine ⟨?_, h.states.keep (Below.heap_setCell _ _ _ _ hn.1.symm), h.times.keep (Below.heap_setCell _ _ _ _ hn.2.symm), h.ne, h.pos, h.top, h.capS, h.capT, h.le, h.small, h.own⟩
  simp [World.setCell, Array.getElem?_modify, h.care, wi]
theorem RCare.setRemoved (h : RCare w B e T) : RCare (w.setCell ⟨e.cb, 4, none⟩ (.bool true)) B (wi e { e.c with removed := true }) T := by
  have hn := h.neS
  refine ⟨?_, h.states.keep (Below.heap_setCell _ _ _ _ hn.1.symm), h.times.keep (Below.heap_setCell _ _ _ _ hn.2.symm), h.ne, h.pos, h.top, h.capS, h.capT, h.le, h.small, h.own⟩
  simp [World.setCell, Array.getElem?_modify, h.care, wi]
theorem RCare.mono {T' : Nat} (h : RCare w B e T) (hT : T ≤ T') (hs : T' ≤ 100000) : RCare w B e T' :=
  ⟨h.care, h.states, h.times, h.ne, h.pos, h.top, h.capS, h.capT, fun x hx => Nat.le_trans (h.le x hx) hT, hs, h.own⟩
end
/-- Behind Do, of a deed that is done to e. -/
def DidR (e : REnt) (B T : Nat) (c : Care) (w : World) (en : Ending) (w' : World) : Prop := en = .returned (.int .i64 0) ∧ RCare w' B (wi e c) T ∧ Ext (fun k => k = e.cb ∨ k = e.sb ∨ k = e.tb) w w'

theorem boxK {w w1 : World} {k a n : Int} {s : ByteArray} (hx : Ext (fun _ => False) (w.alloc (.cells #[.int .i64 k, .string s, .int .i64 a, .int .i64 n] 30)) w1) :
    w1.cell? ⟨w.heap.size, 0, none⟩ = some (.int .i64 k) ∧ w1.cell? ⟨w.heap.size, 1, none⟩ = some (.string s) ∧ w1.cell? ⟨w.heap.size, 2, none⟩ = some (.int .i64 a) ∧ w1.cell? ⟨w.heap.size, 3, none⟩ = some (.int .i64 n) := by
  have e : w1.heap[w.heap.size]? = some (.cells #[.int .i64 k, .string s, .int .i64 a, .int .i64 n] 30 (0, 0)) := (hx.block w.heap.size (by simp) (fun f => f)).trans (MapKept.heap_alloc w _).1
  simp [World.cell?, e]

set_option maxRecDepth 100000 in
theorem rdo_3 (rb B T : Nat) (es : List REnt) (e : REnt) (d : Dd) (w : World) (h : RMach w rb B es T) (hT : T + 1 ≤ 100000) (hi1 : 1 ≤ d.id.size) (hi2 : d.id.size ≤ 32) (hf : findR es d.id = some e) (hm : may e.c d = true) (hk : d.kind = 3) :
    Calls Try.prog 21 #[.pointer (some ⟨rb, 0, none⟩), ddV d] w (DidR e B (T + 1) (act e.c d) w) := by
  have hS : mayS (absR es) d = true := by rw [mayS, if_neg (by omega), findM_absR, hf]; exact hm
  have HM := (show Hid (Calls Try.prog 26 #[.pointer (some ⟨rb, 0, none⟩), ddV d] (w.alloc (ddO d)) fun e w' => e = .returned (.bool true) ∧ Ext (fun _ => False) (w.alloc (ddO d)) w') from by
    have := rmay_run rb B T es d _ (h.grow ((Ext.refl _ w).alloc (ddO d))) (by omega) (by omega)
    rw [hS] at this; exact this)
  have HF := (show Hid (∀ W, Ext (fun _ => False) w W → Calls Try.prog 27 #[.pointer (some ⟨rb, 0, none⟩), .string d.id] W fun en w' => en = .returned (.pointer (some ⟨e.cb, 0, none⟩)) ∧ W = w') from fun W hW => by
    have := find_run rb B T es d.id W (h.grow hW)
    rw [hf] at this; exact this)
  have HC := (show Hid (RCare w B e T) from h.cares e (findR_mem hf).1)
  have Ha : Hid (act e.c d = setSt e.c d.who.toNat 2) := (show act e.c d = setSt e.c d.who.toNat 2 by simp [act, hk])
  have hmk : mayK e.c d = true := by
    have := hm
    unfold may at this
    simp only [Bool.and_eq_true] at this
    exact this.1
  have hpe : pend e.c d.who = true := by
    simp [mayK, hk] at hmk
    exact hmk.1
  obtain ⟨p1, p2, -⟩ := pend_yes hpe
  have p3 : d.who < e.c.l.length := by omega
  have htop := (h.cares e (findR_mem hf).1).top
  have hcs := (h.cares e (findR_mem hf).1).capS
  clear hmk hpe
  unfold ddO at HM
  unfold ddV at HM ⊢
  rw [hk] at HM ⊢
  clear hS hf hm hk h
  go_enter Try.func21, Try.ntmps21
  go_wp2_with fail
  refine HM.out.mono ?_
  rintro en w1 ⟨rfl, hx1⟩
  have hxw := ((Ext.refl (fun _ => False) w).alloc _).trans hx1
  have hC1 := HC.out.grow hxw
  obtain ⟨b0, b1, b2, b3⟩ := boxK hx1
  obtain ⟨-, c1, c2, c3, c4⟩ := hC1.cells
  have z0 := hC1.free
  have HC1 := (show Hid (RCare w1 B e T) from hC1)
  clear hC1
  have hs := HC1.out.states.cell d.who.toNat (by simpa using p2)
  have zs := HC1.out.states.free d.who.toNat
  have Hr := (show Hid (RCare (w1.setCell ⟨e.sb, d.who.toNat, none⟩ (.int .i64 2)) B (wi e (setSt e.c d.who.toNat 2)) T) from HC1.out.setState d.who.toNat 2 p2)
  generalize e.c.l.length = n at c1 c2 p3 htop
  clear p2
  go_wp2_with (go_at_call 27; refine (HF.out _ hxw).mono ?_; rintro en w' ⟨rfl, rfl⟩)
  go_region
  go_wp2
  go_ret
  refine ⟨rfl, ?_, ?_⟩
  · rw [Ha.out]
    refine RCare.mono (RCare.grow Hr.out ?_) (Nat.le_succ _) hT
    exact ⟨rfl, rfl, rfl, Nat.le_refl _, fun _ _ _ => rfl⟩
  · exact ((hxw.mono fun _ f => f.elim).setCell e.sb _ _ (.inr (.inl rfl))).trans ⟨rfl, rfl, rfl, Nat.le_refl _, fun _ _ _ => rfl⟩

set_option maxRecDepth 100000 in
theorem rdo_4 (rb B T : Nat) (es : List REnt) (e : REnt) (d : Dd) (w : World) (h : RMach w rb B es T) (hT : T + 1 ≤ 100000) (hi1 : 1 ≤ d.id.size) (hi2 : d.id.size ≤ 32) (hf : findR es d.id = some e) (hm : may e.c d = true) (hk : d.kind = 4) :
    Calls Try.prog 21 #[.pointer (some ⟨rb, 0, none⟩), ddV d] w (DidR e B (T + 1) (act e.c d) w) := by
  have hS : mayS (absR es) d = true := by rw [mayS, if_neg (by omega), findM_absR, hf]; exact hm
  have HM := (show Hid (Calls Try.prog 26 #[.pointer (some ⟨rb, 0, none⟩), ddV d] (w.alloc (ddO d)) fun e w' => e = .returned (.bool true) ∧ Ext (fun _ => False) (w.alloc (ddO d)) w') from by
    have := rmay_run rb B T es d _ (h.grow ((Ext.refl _ w).alloc (ddO d))) (by omega) (by omega)
    rw [hS] at this; exact this)
  have HF := (show Hid (∀ W, Ext (fun _ => False) w W → Calls Try.prog 27 #[.pointer (some ⟨rb, 0, none⟩), .string d.id] W fun en w' => en = .returned (.pointer (some ⟨e.cb, 0, none⟩)) ∧ W = w') from fun W hW => by
    have := find_run rb B T es d.id W (h.grow hW)
    rw [hf] at this; exact this)
  have HC := (show Hid (RCare w B e T) from h.cares e (findR_mem hf).1)
  have Ha : Hid (act e.c d = setSt e.c d.who.toNat 3) := (show act e.c d = setSt e.c d.who.toNat 3 by simp [act, hk])
  have hmk : mayK e.c d = true := by
    have := hm
    unfold may at this
    simp only [Bool.and_eq_true] at this
    exact this.1
  have hpe : pend e.c d.who = true := by
    simp [mayK, hk] at hmk
    exact hmk
  obtain ⟨p1, p2, -⟩ := pend_yes hpe
  have p3 : d.who < e.c.l.length := by omega
  have htop := (h.cares e (findR_mem hf).1).top
  have hcs := (h.cares e (findR_mem hf).1).capS
  clear hmk hpe
  unfold ddO at HM
  unfold ddV at HM ⊢
  rw [hk] at HM ⊢
  clear hS hf hm hk h
  go_enter Try.func21, Try.ntmps21
  go_wp2_with fail
  refine HM.out.mono ?_
  rintro en w1 ⟨rfl, hx1⟩
  have hxw := ((Ext.refl (fun _ => False) w).alloc _).trans hx1
  have hC1 := HC.out.grow hxw
  obtain ⟨b0, b1, b2, b3⟩ := boxK hx1
  obtain ⟨-, c1, c2, c3, c4⟩ := hC1.cells
  have z0 := hC1.free
  have HC1 := (show Hid (RCare w1 B e T) from hC1)
  clear hC1
  have hs := HC1.out.states.cell d.who.toNat (by simpa using p2)
  have zs := HC1.out.states.free d.who.toNat
  have Hr := (show Hid (RCare (w1.setCell ⟨e.sb, d.who.toNat, none⟩ (.int .i64 3)) B (wi e (setSt e.c d.who.toNat 3)) T) from HC1.out.setState d.who.toNat 3 p2)
  generalize e.c.l.length = n at c1 c2 p3 htop
  clear p2
  go_wp2_with (go_at_call 27; refine (HF.out _ hxw).mono ?_; rintro en w' ⟨rfl, rfl⟩)
  go_region
  go_wp2
  go_ret
  refine ⟨rfl, ?_, ?_⟩
  · rw [Ha.out]
    refine RCare.mono (RCare.grow Hr.out ?_) (Nat.le_succ _) hT
    exact ⟨rfl, rfl, rfl, Nat.le_refl _, fun _ _ _ => rfl⟩
  · exact ((hxw.mono fun _ f => f.elim).setCell e.sb _ _ (.inr (.inl rfl))).trans ⟨rfl, rfl, rfl, Nat.le_refl _, fun _ _ _ => rfl⟩

set_option maxRecDepth 100000 in
theorem rdo_5 (rb B T : Nat) (es : List REnt) (e : REnt) (d : Dd) (w : World) (h : RMach w rb B es T) (hT : T + 1 ≤ 100000) (hi1 : 1 ≤ d.id.size) (hi2 : d.id.size ≤ 32) (hf : findR es d.id = some e) (hm : may e.c d = true) (hk : d.kind = 5) :
    Calls Try.prog 21 #[.pointer (some ⟨rb, 0, none⟩), ddV d] w (DidR e B (T + 1) (act e.c d) w) := by
  have hS : mayS (absR es) d = true := by rw [mayS, if_neg (by omega), findM_absR, hf]; exact hm
  have HM := (show Hid (Calls Try.prog 26 #[.pointer (some ⟨rb, 0, none⟩), ddV d] (w.alloc (ddO d)) fun e w' => e = .returned (.bool true) ∧ Ext (fun _ => False) (w.alloc (ddO d)) w') from by
    have := rmay_run rb B T es d _ (h.grow ((Ext.refl _ w).alloc (ddO d))) (by omega) (by omega)
    rw [hS] at this; exact this)
  have HF := (show Hid (∀ W, Ext (fun _ => False) w W → Calls Try.prog 27 #[.pointer (some ⟨rb, 0, none⟩), .string d.id] W fun en w' => en = .returned (.pointer (some ⟨e.cb, 0, none⟩)) ∧ W = w') from fun W hW => by
    have := find_run rb B T es d.id W (h.grow hW)
    rw [hf] at this; exact this)
  have HC := (show Hid (RCare w B e T) from h.cares e (findR_mem hf).1)
  have Ha : Hid (act e.c d = setSt e.c d.who.toNat 4) := (show act e.c d = setSt e.c d.who.toNat 4 by simp [act, hk])
  have hmk : mayK e.c d = true := by
    have := hm
    unfold may at this
    simp only [Bool.and_eq_true] at this
    exact this.1
  have hpe : pend e.c d.who = true := by
    simp [mayK, hk] at hmk
    exact hmk
  obtain ⟨p1, p2, -⟩ := pend_yes hpe
  have p3 : d.who < e.c.l.length := by omega
  have htop := (h.cares e (findR_mem hf).1).top
  have hcs := (h.cares e (findR_mem hf).1).capS
  clear hmk hpe
  unfold ddO at HM
  unfold ddV at HM ⊢
  rw [hk] at HM ⊢
  clear hS hf hm hk h
  go_enter Try.func21, Try.ntmps21
  go_wp2_with fail
  refine HM.out.mono ?_
  rintro en w1 ⟨rfl, hx1⟩
  have hxw := ((Ext.refl (fun _ => False) w).alloc _).trans hx1
  have hC1 := HC.out.grow hxw
  obtain ⟨b0, b1, b2, b3⟩ := boxK hx1
  obtain ⟨-, c1, c2, c3, c4⟩ := hC1.cells
  have z0 := hC1.free
  have HC1 := (show Hid (RCare w1 B e T) from hC1)
  clear hC1
  have hs := HC1.out.states.cell d.who.toNat (by simpa using p2)
  have zs := HC1.out.states.free d.who.toNat
  have Hr := (show Hid (RCare (w1.setCell ⟨e.sb, d.who.toNat, none⟩ (.int .i64 4)) B (wi e (setSt e.c d.who.toNat 4)) T) from HC1.out.setState d.who.toNat 4 p2)
  generalize e.c.l.length = n at c1 c2 p3 htop
  clear p2
  go_wp2_with (go_at_call 27; refine (HF.out _ hxw).mono ?_; rintro en w' ⟨rfl, rfl⟩)
  go_region
  go_wp2
  go_ret
  refine ⟨rfl, ?_, ?_⟩
  · rw [Ha.out]
    refine RCare.mono (RCare.grow Hr.out ?_) (Nat.le_succ _) hT
    exact ⟨rfl, rfl, rfl, Nat.le_refl _, fun _ _ _ => rfl⟩
  · exact ((hxw.mono fun _ f => f.elim).setCell e.sb _ _ (.inr (.inl rfl))).trans ⟨rfl, rfl, rfl, Nat.le_refl _, fun _ _ _ => rfl⟩

set_option maxRecDepth 100000 in
theorem rdo_2 (rb B T : Nat) (es : List REnt) (e : REnt) (d : Dd) (w : World) (h : RMach w rb B es T) (hT : T + 1 ≤ 100000) (hi1 : 1 ≤ d.id.size) (hi2 : d.id.size ≤ 32) (hf : findR es d.id = some e) (hm : may e.c d = true) (hk : d.kind = 2) :
    Calls Try.prog 21 #[.pointer (some ⟨rb, 0, none⟩), ddV d] w (DidR e B (T + 1) (act e.c d) w) := by
  have hS : mayS (absR es) d = true := by rw [mayS, if_neg (by omega), findM_absR, hf]; exact hm
  have HM := (show Hid (Calls Try.prog 26 #[.pointer (some ⟨rb, 0, none⟩), ddV d] (w.alloc (ddO d)) fun e w' => e = .returned (.bool true) ∧ Ext (fun _ => False) (w.alloc (ddO d)) w') from by
    have := rmay_run rb B T es d _ (h.grow ((Ext.refl _ w).alloc (ddO d))) (by omega) (by omega)
    rw [hS] at this; exact this)
  have HF := (show Hid (∀ W, Ext (fun _ => False) w W → Calls Try.prog 27 #[.pointer (some ⟨rb, 0, none⟩), .string d.id] W fun en w' => en = .returned (.pointer (some ⟨e.cb, 0, none⟩)) ∧ W = w') from fun W hW => by
    have := find_run rb B T es d.id W (h.grow hW)
    rw [hf] at this; exact this)
  have HC := (show Hid (RCare w B e T) from h.cares e (findR_mem hf).1)
  have Ha : Hid (act e.c d = { e.c with l := e.c.l.set d.who.toNat ((e.c.l.getD d.who.toNat (0, 0)).1, (e.c.l.getD d.who.toNat (0, 0)).2 + 1) }) := (show act e.c d = { e.c with l := e.c.l.set d.who.toNat ((e.c.l.getD d.who.toNat (0, 0)).1, (e.c.l.getD d.who.toNat (0, 0)).2 + 1) } by simp [act, hk])
  have hmk : mayK e.c d = true := by
    have := hm
    unfold may at this
    simp only [Bool.and_eq_true] at this
    exact this.1
  have hpe : pend e.c d.who = true := by
    simp [mayK, hk] at hmk
    exact hmk.2
  obtain ⟨p1, p2, -⟩ := pend_yes hpe
  have p3 : d.who < e.c.l.length := by omega
  have htop := (h.cares e (findR_mem hf).1).top
  have hct := (h.cares e (findR_mem hf).1).capT
  clear hmk hpe
  unfold ddO at HM
  unfold ddV at HM ⊢
  rw [hk] at HM ⊢
  clear hS hf hm hk h
  go_enter Try.func21, Try.ntmps21
  go_wp2_with fail
  refine HM.out.mono ?_
  rintro en w1 ⟨rfl, hx1⟩
  have hxw := ((Ext.refl (fun _ => False) w).alloc _).trans hx1
  have hC1 := HC.out.grow hxw
  obtain ⟨b0, b1, b2, b3⟩ := boxK hx1
  obtain ⟨-, c1, c2, c3, c4⟩ := hC1.cells
  have z0 := hC1.free
  have HC1 := (show Hid (RCare w1 B e T) from hC1)
  clear hC1
  have hs := HC1.out.times.cell d.who.toNat (by simpa using p2)
  have hse : (e.c.l.map (·.2)).getD d.who.toNat 0 = (e.c.l.getD d.who.toNat (0, 0)).2 := by simp [List.getD_eq_getElem?_getD, p2]
  rw [hse] at hs
  have zs := HC1.out.times.free d.who.toNat
  have hle := HC1.out.le _ (List.getElem_mem p2)
  rw [← getD_lt e.c.l (0, 0) _ p2] at hle
  have Hr : Hid (RCare (w1.setCell ⟨e.tb, d.who.toNat, none⟩ (.int .i64 ((e.c.l.getD d.who.toNat (0, 0)).2 + 1 : Nat))) B (wi e { e.c with l := e.c.l.set d.who.toNat ((e.c.l.getD d.who.toNat (0, 0)).1, (e.c.l.getD d.who.toNat (0, 0)).2 + 1) }) (T + 1)) := HC1.out.setTime d.who.toNat p2 hT
  generalize { e.c with l := e.c.l.set d.who.toNat ((e.c.l.getD d.who.toNat (0, 0)).1, (e.c.l.getD d.who.toNat (0, 0)).2 + 1) } = c' at Ha Hr
  generalize (e.c.l.getD d.who.toNat (0, 0)).2 = t at hs hle Hr
  generalize e.c.l.length = n at c1 c2 p3 htop
  clear p2 hse
  go_wp2_with (go_at_call 27; refine (HF.out _ hxw).mono ?_; rintro en w' ⟨rfl, rfl⟩)
  go_region
  go_wp2
  go_ret
  refine ⟨rfl, ?_, ?_⟩
  · rw [Ha.out]
    refine RCare.grow Hr.out ?_
    exact ⟨rfl, rfl, rfl, Nat.le_refl _, fun _ _ _ => rfl⟩
  · exact ((hxw.mono fun _ f => f.elim).setCell e.tb _ _ (.inr (.inr rfl))).trans ⟨rfl, rfl, rfl, Nat.le_refl _, fun _ _ _ => rfl⟩

set_option maxRecDepth 100000 in
theorem rdo_6 (rb B T : Nat) (es : List REnt) (e : REnt) (d : Dd) (w : World) (h : RMach w rb B es T) (hT : T + 1 ≤ 100000) (hi1 : 1 ≤ d.id.size) (hi2 : d.id.size ≤ 32) (hf : findR es d.id = some e) (hm : may e.c d = true) (hk : d.kind = 6) :
    Calls Try.prog 21 #[.pointer (some ⟨rb, 0, none⟩), ddV d] w (DidR e B (T + 1) (act e.c d) w) := by
  have hS : mayS (absR es) d = true := by rw [mayS, if_neg (by omega), findM_absR, hf]; exact hm
  have HM := (show Hid (Calls Try.prog 26 #[.pointer (some ⟨rb, 0, none⟩), ddV d] (w.alloc (ddO d)) fun e w' => e = .returned (.bool true) ∧ Ext (fun _ => False) (w.alloc (ddO d)) w') from by
    have := rmay_run rb B T es d _ (h.grow ((Ext.refl _ w).alloc (ddO d))) (by omega) (by omega)
    rw [hS] at this; exact this)
  have HF := (show Hid (∀ W, Ext (fun _ => False) w W → Calls Try.prog 27 #[.pointer (some ⟨rb, 0, none⟩), .string d.id] W fun en w' => en = .returned (.pointer (some ⟨e.cb, 0, none⟩)) ∧ W = w') from fun W hW => by
    have := find_run rb B T es d.id W (h.grow hW)
    rw [hf] at this; exact this)
  have HC := (show Hid (RCare w B e T) from h.cares e (findR_mem hf).1)
  have Ha : Hid (act e.c d = { e.c with held := !e.c.held }) := (show act e.c d = { e.c with held := !e.c.held } by simp [act, hk])
  have hmk : e.c.held = false := by
    have := hm
    unfold may at this
    simp only [Bool.and_eq_true] at this
    simpa [mayK, hk] using this.1
  unfold ddO at HM
  unfold ddV at HM ⊢
  rw [hk] at HM ⊢
  clear hS hf hm hk h
  go_enter Try.func21, Try.ntmps21
  go_wp2_with fail
  refine HM.out.mono ?_
  rintro en w1 ⟨rfl, hx1⟩
  have hxw := ((Ext.refl (fun _ => False) w).alloc _).trans hx1
  have hC1 := HC.out.grow hxw
  obtain ⟨b0, b1, b2, b3⟩ := boxK hx1
  obtain ⟨-, c1, c2, c3, c4⟩ := hC1.cells
  have z0 := hC1.free
  have HC1 := (show Hid (RCare w1 B e T) from hC1)
  clear hC1
  have Hr := (show Hid (RCare (w1.setCell ⟨e.cb, 3, none⟩ (.bool true)) B (wi e { e.c with held := true }) T) from HC1.out.setHeld true)
  have Hk : Hid (e.c.held = false) := hmk
  rw [hmk] at c3
  clear hmk
  go_wp2_with (go_at_call 27; refine (HF.out _ hxw).mono ?_; rintro en w' ⟨rfl, rfl⟩)
  go_ret
  refine ⟨rfl, ?_, (hxw.mono fun _ f => f.elim).setCell e.cb _ _ (.inl rfl)⟩
  rw [Ha.out, Hk.out]
  exact Hr.out.mono (Nat.le_succ _) hT

set_option maxRecDepth 100000 in
theorem rdo_7 (rb B T : Nat) (es : List REnt) (e : REnt) (d : Dd) (w : World) (h : RMach w rb B es T) (hT : T + 1 ≤ 100000) (hi1 : 1 ≤ d.id.size) (hi2 : d.id.size ≤ 32) (hf : findR es d.id = some e) (hm : may e.c d = true) (hk : d.kind = 7) :
    Calls Try.prog 21 #[.pointer (some ⟨rb, 0, none⟩), ddV d] w (DidR e B (T + 1) (act e.c d) w) := by
  have hS : mayS (absR es) d = true := by rw [mayS, if_neg (by omega), findM_absR, hf]; exact hm
  have HM := (show Hid (Calls Try.prog 26 #[.pointer (some ⟨rb, 0, none⟩), ddV d] (w.alloc (ddO d)) fun e w' => e = .returned (.bool true) ∧ Ext (fun _ => False) (w.alloc (ddO d)) w') from by
    have := rmay_run rb B T es d _ (h.grow ((Ext.refl _ w).alloc (ddO d))) (by omega) (by omega)
    rw [hS] at this; exact this)
  have HF := (show Hid (∀ W, Ext (fun _ => False) w W → Calls Try.prog 27 #[.pointer (some ⟨rb, 0, none⟩), .string d.id] W fun en w' => en = .returned (.pointer (some ⟨e.cb, 0, none⟩)) ∧ W = w') from fun W hW => by
    have := find_run rb B T es d.id W (h.grow hW)
    rw [hf] at this; exact this)
  have HC := (show Hid (RCare w B e T) from h.cares e (findR_mem hf).1)
  have Ha : Hid (act e.c d = { e.c with held := !e.c.held }) := (show act e.c d = { e.c with held := !e.c.held } by simp [act, hk])
  have hmk : e.c.held = true := by
    have := hm
    unfold may at this
    simp only [Bool.and_eq_true] at this
    simpa [mayK, hk] using this.1
  unfold ddO at HM
  unfold ddV at HM ⊢
  rw [hk] at HM ⊢
  clear hS hf hm hk h
  go_enter Try.func21, Try.ntmps21
  go_wp2_with fail
  refine HM.out.mono ?_
  rintro en w1 ⟨rfl, hx1⟩
  have hxw := ((Ext.refl (fun _ => False) w).alloc _).trans hx1
  have hC1 := HC.out.grow hxw
  obtain ⟨b0, b1, b2, b3⟩ := boxK hx1
  obtain ⟨-, c1, c2, c3, c4⟩ := hC1.cells
  have z0 := hC1.free
  have HC1 := (show Hid (RCare w1 B e T) from hC1)
  clear hC1
  have Hr := (show Hid (RCare (w1.setCell ⟨e.cb, 3, none⟩ (.bool false)) B (wi e { e.c with held := false }) T) from HC1.out.setHeld false)
  have Hk : Hid (e.c.held = true) := hmk
  rw [hmk] at c3
  clear hmk
  go_wp2_with (go_at_call 27; refine (HF.out _ hxw).mono ?_; rintro en w' ⟨rfl, rfl⟩)
  go_ret
  refine ⟨rfl, ?_, (hxw.mono fun _ f => f.elim).setCell e.cb _ _ (.inl rfl)⟩
  rw [Ha.out, Hk.out]
  exact Hr.out.mono (Nat.le_succ _) hT

set_option maxRecDepth 100000 in
theorem rdo_9 (rb B T : Nat) (es : List REnt) (e : REnt) (d : Dd) (w : World) (h : RMach w rb B es T) (hT : T + 1 ≤ 100000) (hi1 : 1 ≤ d.id.size) (hi2 : d.id.size ≤ 32) (hf : findR es d.id = some e) (hm : may e.c d = true) (hk : d.kind = 9) :
    Calls Try.prog 21 #[.pointer (some ⟨rb, 0, none⟩), ddV d] w (DidR e B (T + 1) (act e.c d) w) := by
  have hS : mayS (absR es) d = true := by rw [mayS, if_neg (by omega), findM_absR, hf]; exact hm
  have HM := (show Hid (Calls Try.prog 26 #[.pointer (some ⟨rb, 0, none⟩), ddV d] (w.alloc (ddO d)) fun e w' => e = .returned (.bool true) ∧ Ext (fun _ => False) (w.alloc (ddO d)) w') from by
    have := rmay_run rb B T es d _ (h.grow ((Ext.refl _ w).alloc (ddO d))) (by omega) (by omega)
    rw [hS] at this; exact this)
  have HF := (show Hid (∀ W, Ext (fun _ => False) w W → Calls Try.prog 27 #[.pointer (some ⟨rb, 0, none⟩), .string d.id] W fun en w' => en = .returned (.pointer (some ⟨e.cb, 0, none⟩)) ∧ W = w') from fun W hW => by
    have := find_run rb B T es d.id W (h.grow hW)
    rw [hf] at this; exact this)
  have HC := (show Hid (RCare w B e T) from h.cares e (findR_mem hf).1)
  have Ha : Hid (act e.c d = { e.c with removed := true }) := (show act e.c d = { e.c with removed := true } by simp [act, hk])
  unfold ddO at HM
  unfold ddV at HM ⊢
  rw [hk] at HM ⊢
  clear hS hf hm hk h
  go_enter Try.func21, Try.ntmps21
  go_wp2_with fail
  refine HM.out.mono ?_
  rintro en w1 ⟨rfl, hx1⟩
  have hxw := ((Ext.refl (fun _ => False) w).alloc _).trans hx1
  have hC1 := HC.out.grow hxw
  obtain ⟨b0, b1, b2, b3⟩ := boxK hx1
  obtain ⟨-, c1, c2, c3, c4⟩ := hC1.cells
  have z0 := hC1.free
  have HC1 := (show Hid (RCare w1 B e T) from hC1)
  clear hC1
  have Hr := (show Hid (RCare (w1.setCell ⟨e.cb, 4, none⟩ (.bool true)) B (wi e { e.c with removed := true }) T) from HC1.out.setRemoved)
  go_wp2_with (go_at_call 27; refine (HF.out _ hxw).mono ?_; rintro en w' ⟨rfl, rfl⟩)
  go_ret
  refine ⟨rfl, ?_, (hxw.mono fun _ f => f.elim).setCell e.cb _ _ (.inl rfl)⟩
  rw [Ha.out]
  exact Hr.out.mono (Nat.le_succ _) hT

set_option maxRecDepth 100000 in
theorem rdo_8 (rb B T : Nat) (es : List REnt) (e : REnt) (d : Dd) (w : World) (h : RMach w rb B es T) (hT : T + 1 ≤ 100000) (hi1 : 1 ≤ d.id.size) (hi2 : d.id.size ≤ 32) (hf : findR es d.id = some e) (hm : may e.c d = true) (hk : d.kind = 8) :
    Calls Try.prog 21 #[.pointer (some ⟨rb, 0, none⟩), ddV d] w (DidR e B (T + 1) (act e.c d) w) := by
  have hS : mayS (absR es) d = true := by rw [mayS, if_neg (by omega), findM_absR, hf]; exact hm
  have HM := (show Hid (Calls Try.prog 26 #[.pointer (some ⟨rb, 0, none⟩), ddV d] (w.alloc (ddO d)) fun e w' => e = .returned (.bool true) ∧ Ext (fun _ => False) (w.alloc (ddO d)) w') from by
    have := rmay_run rb B T es d _ (h.grow ((Ext.refl _ w).alloc (ddO d))) (by omega) (by omega)
    rw [hS] at this; exact this)
  have HF := (show Hid (∀ W, Ext (fun _ => False) w W → Calls Try.prog 27 #[.pointer (some ⟨rb, 0, none⟩), .string d.id] W fun en w' => en = .returned (.pointer (some ⟨e.cb, 0, none⟩)) ∧ W = w') from fun W hW => by
    have := find_run rb B T es d.id W (h.grow hW)
    rw [hf] at this; exact this)
  have HC := (show Hid (RCare w B e T) from h.cares e (findR_mem hf).1)
  have Ha : Hid (act e.c d = { e.c with l := e.c.l.map gone }) := (show act e.c d = { e.c with l := e.c.l.map gone } by simp [act, hk])
  have htop := (h.cares e (findR_mem hf).1).top
  have hcs := (h.cares e (findR_mem hf).1).capS
  have Hall := (show Hid (goneTo e.c.l.length e.c.l = e.c.l.map gone) from goneTo_all _ _ (Nat.le_refl _))
  unfold ddO at HM
  unfold ddV at HM ⊢
  rw [hk] at HM ⊢
  clear hS hf hm hk h
  go_enter Try.func21, Try.ntmps21
  go_wp2_with fail
  refine HM.out.mono ?_
  rintro en w1 ⟨rfl, hx1⟩
  have hxw := ((Ext.refl (fun _ => False) w).alloc _).trans hx1
  have hC1 := HC.out.grow hxw
  obtain ⟨b0, b1, b2, b3⟩ := boxK hx1
  obtain ⟨-, c1, c2, c3, c4⟩ := hC1.cells
  have z0 := hC1.free
  have HC1 := (show Hid (RCare w1 B e T) from hC1)
  clear hC1
  clear z0
  generalize hn : e.c.l.length = n at c1 c2 htop Hall
  have Hn := (show Hid (e.c.l.length = n) from hn)
  clear hn c1 c2 c3 c4
  go_wp2_with (go_at_call 27; refine (HF.out _ hxw).mono ?_; rintro en w' ⟨rfl, rfl⟩)
  go_loopg [9] n (fun g i wr => ∃ k : Nat, i = .int .i64 k ∧ k + g = n ∧ RCare wr B (wi e { e.c with l := goneTo k e.c.l }) T ∧ Ext (fun k => k = e.cb ∨ k = e.sb ∨ k = e.tb) w wr)
  case atStart => exact ⟨0, rfl, by omega, HC1.out, hxw.mono fun _ f => f.elim⟩
  case round =>
    obtain ⟨k, rfl, hk, hr, hx⟩ := hrel
    have Hk := (show Hid (k + gk = n) from hk)
    have hkn : k ≤ n := by omega
    have HR := (show Hid (RCare wr B (wi e { e.c with l := goneTo k e.c.l }) T) from hr)
    obtain ⟨-, q1, -, -, -⟩ := hr.cells
    have hlen : (wi e { e.c with l := goneTo k e.c.l }).c.l.length = n := by simp only [wi, goneTo_length]; exact Hn.out
    rw [hlen] at q1
    simp only [wi] at q1
    clear hk hlen
    by_cases hlt : k < n
    · have hle : k < (goneTo k e.c.l).length := by rw [goneTo_length, Hn.out]; exact hlt
      have hs := hr.states.cell k (by simpa [wi] using hle)
      have hse : ((wi e { e.c with l := goneTo k e.c.l }).c.l.map (·.1)).getD k 0 = (e.c.l.getD k (0, 0)).1 := by
        rw [← goneTo_at k e.c.l]
        simp [wi, List.getD_eq_getElem?_getD, hle]
      rw [hse] at hs
      simp only [wi] at hs
      have zs := hr.states.free k
      simp only [wi] at zs
      by_cases h1 : (e.c.l.getD k (0, 0)).1 = 1
      · have Hr : Hid (RCare (wr.setCell ⟨e.sb, k, none⟩ (.int .i64 5)) B (wi e { e.c with l := goneTo (k + 1) e.c.l }) T) := by
          have := hr.setState k 5 hle
          have e1 : wi (wi e { e.c with l := goneTo k e.c.l }) (setSt (wi e { e.c with l := goneTo k e.c.l }).c k 5) = wi e { e.c with l := goneTo (k + 1) e.c.l } := by
            simp only [wi, setSt, goneTo_at]
            rw [goneTo_set k e.c.l h1]
          rw [e1] at this
          exact this
        rw [h1] at hs
        clear h1 hse hle hr
        go_wp2_with fail
        go_roundg (gk - 1)
        case measure => have := Hk.out; omega
        case rel => exact ⟨k + 1, by go_num, by have := Hk.out; omega, Hr.out, hx.setCell e.sb _ _ (.inr (.inl rfl))⟩
      · have Hr : Hid (RCare wr B (wi e { e.c with l := goneTo (k + 1) e.c.l }) T) := by
          rw [← goneTo_keep k e.c.l h1]; exact hr
        have hsb : (((e.c.l.getD k (0, 0)).1 : Int) == 1) = false := by rw [beq_eq_false_iff_ne]; omega
        generalize (e.c.l.getD k (0, 0)).1 = s at hs hsb
        clear h1 hse hle hr
        go_wp2_with fail
        go_roundg (gk - 1)
        case measure => have := Hk.out; omega
        case rel => exact ⟨k + 1, by go_num, by have := Hk.out; omega, Hr.out, hx⟩
    · have hkn2 : k = n := by omega
      have Hkn := (show Hid (k = n) from hkn2)
      clear hkn2 hr
      go_wp2_with fail
      go_ret
      refine ⟨rfl, ?_, hx⟩
      rw [Ha.out, ← Hall.out, ← Hkn.out]
      exact HR.out.mono (Nat.le_succ _) hT

theorem rdo_any (rb B T : Nat) (es : List REnt) (e : REnt) (d : Dd) (w : World) (h : RMach w rb B es T) (hT : T + 1 ≤ 100000) (hi1 : 1 ≤ d.id.size) (hi2 : d.id.size ≤ 32) (hf : findR es d.id = some e) (hm : may e.c d = true) (hk1 : 2 ≤ d.kind) (hk2 : d.kind ≤ 9) :
    Calls Try.prog 21 #[.pointer (some ⟨rb, 0, none⟩), ddV d] w (DidR e B (T + 1) (act e.c d) w) := by
  rcases (by omega : d.kind = 2 ∨ d.kind = 3 ∨ d.kind = 4 ∨ d.kind = 5 ∨ d.kind = 6 ∨ d.kind = 7 ∨ d.kind = 8 ∨ d.kind = 9) with k | k | k | k | k | k | k | k
  · exact rdo_2 rb B T es e d w h hT hi1 hi2 hf hm k
  · exact rdo_3 rb B T es e d w h hT hi1 hi2 hf hm k
  · exact rdo_4 rb B T es e d w h hT hi1 hi2 hf hm k
  · exact rdo_5 rb B T es e d w h hT hi1 hi2 hf hm k
  · exact rdo_6 rb B T es e d w h hT hi1 hi2 hf hm k
  · exact rdo_7 rb B T es e d w h hT hi1 hi2 hf hm k
  · exact rdo_8 rb B T es e d w h hT hi1 hi2 hf hm k
  · exact rdo_9 rb B T es e d w h hT hi1 hi2 hf hm k
end Go.Proofs.Ythkimmabaojaaaa.Rf
