/- The document's machine in memory; Find. -/
import Derived.Test.YthkimmabaojaaaaDeeds
namespace Go.Proofs.Ythkimmabaojaaaa.Rf
open Go.RowKit Go.Proofs.Ythkimmabaojaaaa.Cu Go.Proofs.Ythkimmabaojaaaa.Cm Go.Proofs.Ythkimmabaojaaaa.Cl

/-- Row g of w begins with these whole numbers. -/
def IntRow (w : World) (g cap : Nat) (xs : List Nat) : Prop := ∃ cur, w.heap[g]? = some (.cells cur 3 (0, 0)) ∧ cur.size = cap ∧ xs.length ≤ cap ∧ ∀ k, k < xs.length → cur[k]? = some (.int .i64 (xs.getD k 0 : Nat))

structure REnt where
  id : ByteArray
  cb : Nat
  sb : Nat
  cs : Nat
  tb : Nat
  ct : Nat
  c : Care

/-- A care of the document's machine. -/
structure RCare (w : World) (B : Nat) (e : REnt) (T : Nat) : Prop where
  care : w.heap[e.cb]? = some (.cells #[.string e.id, .slice (some ⟨e.sb, 0, none⟩) e.c.l.length e.cs, .slice (some ⟨e.tb, 0, none⟩) e.c.l.length e.ct, .bool e.c.held, .bool e.c.removed] 63 (0, 0))
  states : IntRow w e.sb e.cs (e.c.l.map (·.1))
  times : IntRow w e.tb e.ct (e.c.l.map (·.2))
  ne : e.sb ≠ e.tb
  pos : 1 ≤ e.c.l.length
  top : e.c.l.length ≤ 200
  capS : e.cs ≤ 9223372036854775807
  capT : e.ct ≤ 9223372036854775807
  le : ∀ x ∈ e.c.l, x.2 ≤ T
  small : T ≤ 100000
  own : B ≤ e.cb ∧ B ≤ e.sb ∧ B ≤ e.tb

def rptr (e : REnt) : Value := .pointer (some ⟨e.cb, 0, none⟩)

/-- The document's machine: its block, the row of its cares. -/
structure RMach (w : World) (rb B : Nat) (es : List REnt) (T : Nat) : Prop where
  mach : ∃ v, w.heap[rb]? = some (.cells #[v] 54 (0, 0)) ∧ w.ownsRow B 60 1 v es.length (es.map rptr)
  cares : ∀ e ∈ es, RCare w B e T
  sep : es.Pairwise fun a b => a.id ≠ b.id ∧ a.cb ≠ b.cb ∧ a.sb ≠ b.sb ∧ a.sb ≠ b.tb ∧ a.tb ≠ b.sb ∧ a.tb ≠ b.tb
  own : B ≤ rb
  few : es.length ≤ 100000

def findR (es : List REnt) (id : ByteArray) : Option REnt := es.find? fun e => decide (e.id = id)
def absR (es : List REnt) : St := es.map fun e => (e.id, e.c)

theorem findM_absR (es : List REnt) (id : ByteArray) : findM (absR es) id = (findR es id).map (·.c) := by
  unfold findM findR absR
  induction es with
  | nil => rfl
  | cons e es ih =>
    simp only [List.map_cons, List.find?_cons]
    by_cases h : e.id = id
    · simp [h]
    · simp only [h, decide_false]; exact ih
theorem findR_mem {es : List REnt} {id : ByteArray} {e : REnt} (h : findR es id = some e) : e ∈ es ∧ e.id = id := by
  unfold findR at h
  exact ⟨List.mem_of_find?_eq_some h, by simpa using List.find?_some h⟩

section
variable {w w' : World} {B rb T : Nat}
theorem IntRow.keep {g cap : Nat} {xs : List Nat} (h : IntRow w g cap xs) (hg : w'.heap[g]? = w.heap[g]?) : IntRow w' g cap xs := by
  obtain ⟨cur, h1, h2⟩ := h
  exact ⟨cur, hg.trans h1, h2⟩
theorem IntRow.lt {g cap : Nat} {xs : List Nat} (h : IntRow w g cap xs) : g < w.heap.size := by
  obtain ⟨cur, h1, h2⟩ := h
  exact (Array.getElem?_eq_some_iff.1 h1).1
theorem IntRow.cell {g cap : Nat} {xs : List Nat} (h : IntRow w g cap xs) (k : Nat) (hk : k < xs.length) : w.cell? ⟨g, k, none⟩ = some (.int .i64 (xs.getD k 0 : Nat)) := by
  obtain ⟨cur, h1, -, -, h2⟩ := h
  simp [World.cell?, h1, h2 k hk]
theorem IntRow.free {g cap : Nat} {xs : List Nat} (h : IntRow w g cap xs) (o : Nat) : w.frozen? ⟨g, o, none⟩ = false := by
  obtain ⟨cur, h1, -⟩ := h
  simp [World.frozen?, h1]
theorem IntRow.set {g cap : Nat} {xs : List Nat} (h : IntRow w g cap xs) (k x : Nat) : IntRow (w.setCell ⟨g, k, none⟩ (.int .i64 x)) g cap (xs.set k x) := by
  obtain ⟨cur, h1, h2, h3, h4⟩ := h
  refine ⟨cur.setIfInBounds k (.int .i64 x), ?_, by simpa using h2, by simpa using h3, ?_⟩
  · simp [World.setCell, Array.getElem?_modify, h1]
  · intro i hi
    have hi' : i < xs.length := by simpa using hi
    by_cases e : k = i
    · subst e
      have hk : k < cur.size := by omega
      simp [hk, List.getD_eq_getElem?_getD, hi']
    · simp only [Array.getElem?_setIfInBounds]
      rw [if_neg e, h4 i hi']
      simp [List.getD_eq_getElem?_getD, e]

theorem RCare.grow {e : REnt} (h : RCare w B e T) (hx : Ext (fun _ => False) w w') : RCare w' B e T := by
  have h1 := (Array.getElem?_eq_some_iff.1 h.care).1
  exact ⟨(hx.block _ h1 fun f => f).trans h.care, h.states.keep (hx.block _ h.states.lt fun f => f), h.times.keep (hx.block _ h.times.lt fun f => f), h.ne, h.pos, h.top, h.capS, h.capT, h.le, h.small, h.own⟩

theorem ownsRow_keep {base e size n : Nat} {v : Value} {xs : List Value} (h : w.ownsRow base e size v n xs) (hk : ∀ g, v.ownBlock = some g → w'.heap[g]? = w.heap[g]?) : w'.ownsRow base e size v n xs := by
  obtain ⟨h1, h2⟩ := h
  refine ⟨h1, ?_⟩
  rcases h2 with h2 | ⟨g, cap, cur, rfl, hg, hh, r⟩
  · exact .inl h2
  · exact .inr ⟨g, cap, cur, rfl, hg, (hk g rfl).trans hh, r⟩
theorem ownsRow_lt {base e size n : Nat} {v : Value} {xs : List Value} (h : w.ownsRow base e size v n xs) (g : Nat) (hg : v.ownBlock = some g) : g < w.heap.size := by
  rcases h.2 with ⟨rfl, -⟩ | ⟨g', cap, cur, rfl, -, hh, r⟩
  · cases hg
  · cases hg; exact (Array.getElem?_eq_some_iff.1 hh).1

theorem RMach.grow {es : List REnt} (h : RMach w rb B es T) (hx : Ext (fun _ => False) w w') : RMach w' rb B es T := by
  obtain ⟨v, h1, h2⟩ := h.mach
  exact ⟨⟨v, (hx.block _ (Array.getElem?_eq_some_iff.1 h1).1 fun f => f).trans h1, ownsRow_keep h2 fun g hg => hx.block g (ownsRow_lt h2 g hg) fun f => f⟩, fun e he => (h.cares e he).grow hx, h.sep, h.own, h.few⟩

theorem RCare.cells {e : REnt} (h : RCare w B e T) : w.cell? ⟨e.cb, 0, none⟩ = some (.string e.id) ∧ w.cell? ⟨e.cb, 1, none⟩ = some (.slice (some ⟨e.sb, 0, none⟩) e.c.l.length e.cs) ∧
    w.cell? ⟨e.cb, 2, none⟩ = some (.slice (some ⟨e.tb, 0, none⟩) e.c.l.length e.ct) ∧ w.cell? ⟨e.cb, 3, none⟩ = some (.bool e.c.held) ∧ w.cell? ⟨e.cb, 4, none⟩ = some (.bool e.c.removed) := by
  have := h.care
  simp [World.cell?, this]
theorem RCare.free {e : REnt} (h : RCare w B e T) (o : Nat) : w.frozen? ⟨e.cb, o, none⟩ = false := by
  have := h.care
  simp [World.frozen?, this]

/-- The row of the cares: its value's form, and what lies in it. -/
theorem RMach.row {es : List REnt} (h : RMach w rb B es T) : ∃ x cap, w.cell? ⟨rb, 0, none⟩ = some (.slice x es.length cap) ∧ es.length ≤ cap ∧ cap ≤ 9223372036854775807 ∧
    ∀ k e, es[k]? = some e → ∃ g, x = some ⟨g, 0, none⟩ ∧ w.cell? ⟨g, k, none⟩ = some (.pointer (some ⟨e.cb, 0, none⟩)) := by
  obtain ⟨v, h1, h2⟩ := h.mach
  have hc : w.cell? ⟨rb, 0, none⟩ = some v := by simp [World.cell?, h1]
  obtain ⟨hl, ⟨rfl, h0⟩ | ⟨g, cap, cur, rfl, -, hg, hn, hm, hs, ht⟩⟩ := h2
  · refine ⟨none, 0, by rw [hc, h0], by omega, by omega, fun k e hk => ?_⟩
    have : es = [] := List.eq_nil_of_length_eq_zero h0
    subst this
    simp at hk
  · unfold maxLen at hm
    refine ⟨some ⟨g, 0, none⟩, cap, hc, hn, by omega, fun k e hk => ⟨g, rfl, ?_⟩⟩
    have hkl : k < es.length := (List.getElem?_eq_some_iff.1 hk).1
    have : (es.map rptr)[k]? = some (rptr e) := by simp [hk]
    rw [← ht, List.getElem?_take_of_lt (by omega)] at this
    simp only [World.cell?, hg]
    simpa [rptr] using this
end

theorem find_run (rb B T : Nat) (es : List REnt) (id : ByteArray) (w : World) (h : RMach w rb B es T) :
    Calls Try.prog 27 #[.pointer (some ⟨rb, 0, none⟩), .string id] w fun e w' => e = .returned (.pointer ((findR es id).map fun e => ⟨e.cb, 0, none⟩)) ∧ w = w' := by
  obtain ⟨x, cap, hc, hcap, hcap2, hrow⟩ := h.row
  have hcare := (show Hid (∀ e ∈ es, RCare w B e T) from h.cares)
  have hfew := h.few
  clear h
  generalize hn : es.length = n at hc hcap hfew
  have Hn := (show Hid (es.length = n) from hn)
  have HR := (show Hid (∀ k e, es[k]? = some e → ∃ g, x = some ⟨g, 0, none⟩ ∧ w.cell? ⟨g, k, none⟩ = some (.pointer (some ⟨e.cb, 0, none⟩))) from hrow)
  clear hn hrow
  go_enter Try.func27, Try.ntmps27
  go_wp2_with fail
  go_loopg [5] n (fun g i wr => ∃ k : Nat, i = .int .i64 k ∧ k + g = n ∧ (∀ j e, j < k → es[j]? = some e → e.id ≠ id) ∧ wr = w)
  case atStart => exact ⟨0, rfl, by omega, fun j e hj => by omega, rfl⟩
  case round =>
    obtain ⟨k, rfl, hk, hno, rfl⟩ := hrel
    have Hk := (show Hid (k + gk = n) from hk)
    have Hno := (show Hid (∀ j e, j < k → es[j]? = some e → e.id ≠ id) from hno)
    have hkn : k ≤ n := by omega
    clear hk hno
    by_cases hlt : k < n
    · obtain ⟨e, he⟩ : ∃ e, es[k]? = some e := ⟨_, List.getElem?_eq_getElem (by rw [Hn.out]; exact hlt)⟩
      obtain ⟨g, rfl, hp⟩ := HR.out k e he
      obtain ⟨c0, -, -, -, -⟩ := (hcare.out e (List.mem_of_getElem? he)).cells
      have He := (show Hid (es[k]? = some e) from he)
      clear he
      by_cases hid : e.id = id
      · have hib : (e.id.toList == id.toList) = true := by simp [hid]
        have Hid' := (show Hid (e.id = id) from hid)
        clear hid
        go_wp2_with fail
        go_ret
        refine ⟨?_, rfl⟩
        have hf : findR es id = some e := by
          unfold findR
          rw [List.find?_eq_some_iff_getElem]
          have hkl : k < es.length := by rw [Hn.out]; exact hlt
          have hek : es[k] = e := by have := He.out; rw [List.getElem?_eq_getElem hkl] at this; exact Option.some.inj this
          refine ⟨by simp [Hid'.out], k, hkl, hek, fun j hj => ?_⟩
          have := Hno.out j es[j] hj (List.getElem?_eq_getElem (by omega))
          simpa using this
        rw [hf]; rfl
      · have hib : (e.id.toList == id.toList) = false := by
          rw [beq_eq_false_iff_ne]
          intro f
          apply hid
          rw [ByteArray.toList_eq, ByteArray.toList_eq] at f
          exact ByteArray.ext (Array.toList_inj.1 f)
        have Hid' := (show Hid (e.id ≠ id) from hid)
        clear hid
        go_wp2_with fail
        go_roundg (gk - 1)
        case measure => have := Hk.out; omega
        case rel => exact ⟨k + 1, by go_num, by have := Hk.out; omega, fun j e' hj he' => by
                      by_cases f : j = k
                      · subst f
                        rw [He.out] at he'
                        cases he'
                        exact Hid'.out
                      · exact Hno.out j e' (by omega) he', rfl⟩
    · have hf : findR es id = none := by
        unfold findR
        rw [List.find?_eq_none]
        intro e he
        obtain ⟨j, hj, rfl⟩ := List.getElem_of_mem he
        have := Hno.out j es[j] (by have := Hn.out; omega) (List.getElem?_eq_getElem hj)
        simpa using this
      have Hf := (show Hid (findR es id = none) from hf)
      clear hf
      go_wp2_with fail
      go_ret
      exact ⟨by rw [Hf.out]; rfl, rfl⟩
end Go.Proofs.Ythkimmabaojaaaa.Rf
