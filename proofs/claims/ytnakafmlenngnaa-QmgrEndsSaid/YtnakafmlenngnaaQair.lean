/- Done's first callees: slices.Equal, air. -/
import Derived.Test.YtnakafmlenngnaaQaw
namespace Go.Proofs.Ytnakafmlenngnaa.Qm
open Go.RowKit Go.Proofs.Ytnakafmlenngnaa.Wi

/-- A slice of ints is a list. -/
def IntsL (w : World) (x : Option Addr) (l : List Nat) : Prop := IntsAt w x l.length (fun k => (l.getD k 0 : Nat))

theorem row_ints {w : World} {base : Nat} {v : Value} {l : List Nat} (h : w.ownsRow base 3 1 v l.length (intsC l)) : ∃ x c, v = .slice x l.length c ∧ IntsL w x l ∧ l.length ≤ c ∧ c ≤ 9223372036854775807 := by
  obtain ⟨x, c, rfl, h1, h2⟩ := row_shape h
  refine ⟨x, c, rfl, ⟨by omega, fun k hk => ?_⟩, h1, h2⟩
  obtain ⟨g, cap, e, -, -, h3, h4, -⟩ := row_at h k (by simp [intsC, hk])
  injection e with e1 _ _
  refine ⟨g, 0, e1, h3, ?_⟩
  rw [Nat.zero_add, h4]
  simp [intsC, List.getD_eq_getElem?_getD, hk]

theorem list_eq_iff (l m : List Nat) : l = m ↔ l.length = m.length ∧ ∀ k, k < l.length → (l.getD k 0 : Nat) = m.getD k 0 := by
  constructor
  · rintro rfl; exact ⟨rfl, fun _ _ => rfl⟩
  · rintro ⟨h1, h2⟩
    refine List.ext_getElem h1 fun k hk hk' => ?_
    have := h2 k hk
    simpa [List.getD_eq_getElem?_getD, hk, hk'] using this

set_option maxHeartbeats 2000000 in
theorem equal_run (x y : Option Addr) (c d : Nat) (l m : List Nat) (w : World) (h1 : IntsL w x l) (h2 : IntsL w y m) :
    Calls Try.prog 79 #[.slice x l.length c, .slice y m.length d] w (QuietPost (.bool (decide (l = m))) w) := by
  by_cases hlen : l.length = m.length
  · have H1 := hid h1
    have H2 := hid h2
    have hn := h1.1
    have HL := hid (list_eq_iff l m)
    have hle : ((l.length : Int) == (m.length : Int)) = true := by simp [hlen]
    have Hlen := hid hlen
    clear h1 h2 hlen
    go_enter Try.func79, Try.ntmps79
    go_wp2_with fail
    go_loopg [13] l.length (fun gg ix wr => ∃ k : Nat, ix = .int .i64 k ∧ k + gg = l.length ∧ Hid (∀ j, j < k → (l.getD j 0 : Nat) = m.getD j 0) ∧ Hid (Ext (fun _ => False) w wr))
    case atStart => exact ⟨0, rfl, by omega, fun j hj => absurd hj (Nat.not_lt_zero _), Ext.refl _ _⟩
    case round =>
      obtain ⟨k, rfl, hk, hall, hx⟩ := hrel
      have Hk := hid hk
      have hkn : k ≤ l.length := by omega
      clear hk
      by_cases hlt : k < l.length
      · obtain ⟨b1, o1, rfl, -, c1⟩ := (H1.out.quiet hx.out).2 k hlt
        obtain ⟨b2, o2, rfl, -, c2⟩ := (H2.out.quiet hx.out).2 k (by rw [← Hlen.out]; exact hlt)
        have hlt2 : (k : Int) < m.length := by have := Hlen.out; omega
        dsimp only at c1 c2
        obtain ⟨a1, ha1⟩ : ∃ a, a = l.getD k 0 := ⟨_, rfl⟩
        obtain ⟨a2, ha2⟩ : ∃ a, a = m.getD k 0 := ⟨_, rfl⟩
        rw [← ha1] at c1
        rw [← ha2] at c2
        have Ha := hid (And.intro ha1 ha2)
        clear ha1 ha2
        by_cases he : a1 = a2
        · have hd : ((a1 : Int) == (a2 : Int)) = true := by simp [he]
          have He := hid he
          clear he
          go_wp2_with fail
          go_quiet (fail)
          have HX := hid (hx.out.trans ((Ext.refl (fun _ => False) wr).drewN nq))
          go_wp2_with fail
          go_roundg (gk - 1)
          case measure => have := Hk.out; omega
          case rel => exact ⟨k + 1, by go_num, by have := Hk.out; omega, fun j hj => by
                        by_cases e : j = k
                        · subst e; rw [← Ha.out.1, ← Ha.out.2]; exact He.out
                        · exact hall.out j (by omega), HX.out⟩
        · have hd : ((a1 : Int) == (a2 : Int)) = false := by simp; omega
          have hf : decide (l = m) = false := by
            rw [decide_eq_false_iff_not, HL.out]
            intro f
            exact he (by rw [Ha.out.1, Ha.out.2]; exact f.2 k hlt)
          have Hf := hid hf
          clear he hf
          go_wp2_with fail
          go_quiet (fail)
          have HX := hid (hx.out.trans ((Ext.refl (fun _ => False) wr).drewN nq))
          go_wp2_with fail
          go_ret
          exact ⟨by rw [Hf.out]; rfl, HX.out⟩
      · obtain rfl : k = l.length := by omega
        have hf : decide (l = m) = true := by
          rw [decide_eq_true_iff, HL.out]
          exact ⟨Hlen.out, hall.out⟩
        have Hf := hid hf
        clear hf
        go_wp2_with fail
        go_ret
        exact ⟨by rw [Hf.out]; rfl, hx.out⟩
  · have hle : ((l.length : Int) == (m.length : Int)) = false := by simp; omega
    have hf : decide (l = m) = false := by
      rw [decide_eq_false_iff_not]
      rintro rfl
      exact hlen rfl
    rw [hf]
    clear h1 h2 hlen hf
    go_enter Try.func79, Try.ntmps79
    go_wp2_with fail
    go_ret
    exact ⟨rfl, Ext.refl _ _⟩

def jobV (j : Jb) (v : Value) : Value := .agg #[.string j.id, .string j.dest, v]

/-- Is a job the one that is looked for? -/
def isJob (j x : Jb) : Bool := decide (x.id = j.id) && decide (x.dest = j.dest) && decide (x.rs = j.rs)

set_option maxHeartbeats 2000000 in
theorem air1_run (bx : Nat) (j x : Jb) (y z : Option Addr) (c d : Nat) (w : World) (hb : w.heap[bx]? = some (.cells #[.string j.id, .string j.dest, .slice y j.rs.length c] 49 (0, 0))) (h1 : IntsL w y j.rs) (h2 : IntsL w z x.rs) :
    Calls Try.prog 78 #[.agg #[.string x.id, .string x.dest, .slice z x.rs.length d], .pointer (some ⟨bx, 0, none⟩)] w (QuietPost (.bool (isJob j x)) w) := by
  have b0 : w.cell? ⟨bx, 0, none⟩ = some (.string j.id) := by simp [World.cell?, hb]
  have b1 : w.cell? ⟨bx, 1, none⟩ = some (.string j.dest) := by simp [World.cell?, hb]
  have b2 : w.cell? ⟨bx, 2, none⟩ = some (.slice y j.rs.length c) := by simp [World.cell?, hb]
  have hbl := heap_lt hb
  have HE := (show Hid (∀ W, Ext (fun _ => False) w W → Calls Try.prog 79 #[.slice z x.rs.length d, .slice y j.rs.length c] W (QuietPost (.bool (decide (x.rs = j.rs))) W)) from fun W hW => equal_run z y d c x.rs j.rs W (h2.quiet hW) (h1.quiet hW))
  unfold isJob
  have e1 : decide (x.id = j.id) = (x.id.toList == j.id.toList) := (tl_beq _ _).symm
  have e2 : decide (x.dest = j.dest) = (x.dest.toList == j.dest.toList) := (tl_beq _ _).symm
  rw [e1, e2]
  generalize decide (x.rs = j.rs) = ans at HE ⊢
  obtain ⟨xi, xd, xr⟩ := x
  obtain ⟨ji, jd, jr⟩ := j
  dsimp only at b0 b1 b2 HE ⊢
  clear h1 h2 hb e1 e2
  cases ht1 : (xi.toList == ji.toList) with
  | false =>
    go_enter Try.func78, Try.ntmps78
    go_wp2_with fail
    go_ret
    exact ⟨rfl, (Ext.refl _ _).alloc _⟩
  | true =>
    cases ht2 : (xd.toList == jd.toList) with
    | false =>
      go_enter Try.func78, Try.ntmps78
      go_wp2_with fail
      go_ret
      exact ⟨rfl, (Ext.refl _ _).alloc _⟩
    | true =>
      go_enter Try.func78, Try.ntmps78
      go_wp2_with fail
      refine (HE.out _ ((Ext.refl _ _).alloc _)).mono ?_
      rintro e w1 ⟨rfl, hx1⟩
      go_wp2_with fail
      go_ret
      exact ⟨rfl, ((Ext.refl _ _).alloc _).trans hx1⟩

theorem jobs_length (l : List LJ) : (l.flatMap jbC).length = l.length * 3 := by
  induction l with
  | nil => rfl
  | cons r l ih =>
    rw [List.flatMap_cons, List.length_append, ih, List.length_cons]
    simp [jbC]; omega
theorem jobs_at (l : List LJ) (k : Nat) (hk : k < l.length) : (l.flatMap jbC)[k * 3]? = some (.string l[k].j.id) ∧ (l.flatMap jbC)[k * 3 + 1]? = some (.string l[k].j.dest) ∧ (l.flatMap jbC)[k * 3 + 2]? = some l[k].v := by
  induction l generalizing k with
  | nil => simp at hk
  | cons r l ih =>
    cases k with
    | zero => exact ⟨rfl, rfl, rfl⟩
    | succ k =>
      have := ih k (by simpa using hk)
      rw [List.flatMap_cons]
      simp only [List.getElem_cons_succ]
      have e : ∀ q, (jbC r ++ l.flatMap jbC)[(k + 1) * 3 + q]? = (l.flatMap jbC)[k * 3 + q]? := fun q => by
        rw [List.getElem?_append_right (by simp [jbC]; omega)]
        congr 1
        simp [jbC]; omega
      exact ⟨(e 0).trans this.1, (e 1).trans this.2.1, (e 2).trans this.2.2⟩

theorem Core.job_at {w : World} {mb : Nat} {L : Lq} {F : Nat → Prop} (h : Core w mb L F) (k : Nat) (hk : k < L.jobs.length) : ∃ g cap, L.jv = .slice (some ⟨g, 0, none⟩) L.jobs.length cap ∧ w.cell? ⟨g, k * 3, none⟩ = some (.string L.jobs[k].j.id) ∧ w.cell? ⟨g, k * 3 + 1, none⟩ = some (.string L.jobs[k].j.dest) ∧ w.cell? ⟨g, k * 3 + 2, none⟩ = some L.jobs[k].v := by
  have hl := jobs_length L.jobs
  obtain ⟨a1, a2, a3⟩ := jobs_at L.jobs k hk
  obtain ⟨g, cap, e, -, -, -, h1, -⟩ := row_at h.jrow (k * 3) (by omega)
  obtain ⟨g2, cap2, e2, -, -, -, h2, -⟩ := row_at h.jrow (k * 3 + 1) (by omega)
  obtain ⟨g3, cap3, e3, -, -, -, h3, -⟩ := row_at h.jrow (k * 3 + 2) (by omega)
  rw [e] at e2 e3
  injection e2 with e2 _ _
  injection e2 with e2
  injection e2 with e2
  injection e3 with e3 _ _
  injection e3 with e3
  injection e3 with e3
  subst e2
  subst e3
  refine ⟨g, cap, e, ?_, ?_, ?_⟩
  · rw [h1, ← a1, List.getElem?_eq_getElem (by omega)]
  · rw [h2, ← a2, List.getElem?_eq_getElem (by omega)]
  · rw [h3, ← a3, List.getElem?_eq_getElem (by omega)]

theorem q_jIdx (L : Lq) (j : Jb) : jIdx L.q.jobs j = L.jobs.findIdx fun z => isJob j z.j := by
  unfold jIdx Lq.q
  rw [List.findIdx_map]
  rfl

def AirPost (L : Lq) (j : Jb) (w : World) (e : Ending) (w' : World) : Prop :=
  (∃ r : Int, e = .returned (.int .i64 r) ∧ ((jIdx L.q.jobs j < L.jobs.length ∧ r = (jIdx L.q.jobs j : Nat)) ∨ (r = -1 ∧ ¬ jIdx L.q.jobs j < L.jobs.length))) ∧ Ext (fun _ => False) w w'

theorem IntsL.quiet {w w' : World} {x : Option Addr} {l : List Nat} (h : IntsL w x l) (hx : Ext (fun _ => False) w w') : IntsL w' x l := IntsAt.quiet h hx

set_option maxHeartbeats 2000000 in
theorem air_run (mb : Nat) (L : Lq) (F : Nat → Prop) (j : Jb) (y : Option Addr) (c : Nat) (w : World) (h : Mg w mb L F) (hy : IntsL w y j.rs) :
    Calls Try.prog 59 #[.pointer (some ⟨mb, 0, none⟩), .agg #[.string j.id, .string j.dest, .slice y j.rs.length c]] w (AirPost L j w) := by
  obtain ⟨x, cap, hv, hy1, hy2⟩ := row_shape h.jrow
  obtain ⟨-, -, -, -, -, -, -, -, -, -, c10⟩ := h.tops
  rw [hv] at c10
  have hml := h.mblt
  unfold AirPost
  have hxa : Ext (fun _ => False) w (w.alloc (.cells #[.string j.id, .string j.dest, .slice y j.rs.length c] 49)) := (Ext.refl _ _).alloc _
  have HC : Hid (Calls Try.prog 77 #[.slice x L.jobs.length cap, .func (.func 78) #[] #[.pointer (some ⟨w.heap.size, 0, none⟩)]] (w.alloc (.cells #[.string j.id, .string j.dest, .slice y j.rs.length c] 49)) fun e w' => (∃ r : Int, e = .returned (.int .i64 r) ∧ ((jIdx L.q.jobs j < L.jobs.length ∧ r = (jIdx L.q.jobs j : Nat)) ∨ (r = -1 ∧ ¬ jIdx L.q.jobs j < L.jobs.length))) ∧ Ext (fun _ => False) (w.alloc (.cells #[.string j.id, .string j.dest, .slice y j.rs.length c] 49)) w') := by
    show Calls _ _ _ _ _
    rw [q_jIdx]
    have hle : L.jobs.length ≤ 9223372036854775807 := by omega
    refine (ix77 78 #[.pointer (some ⟨w.heap.size, 0, none⟩)] (enters_of Try.func78 (by kernel_rfl) rfl) x L.jobs.length cap (fun k => .string (((L.jobs[k]?).map (·.j.id)).getD ByteArray.empty)) (fun k => .string (((L.jobs[k]?).map (·.j.dest)).getD ByteArray.empty)) (fun k => ((L.jobs[k]?).map (·.v)).getD default) (fun k => ((L.jobs[k]?).map fun z => isJob j z.j).getD false) (fun _ W => Ext (fun _ => False) (w.alloc (.cells #[.string j.id, .string j.dest, .slice y j.rs.length c] 49)) W) _ hle (Ext.refl _ _) (fun k W hk hW => ?_) (fun k W hk hW => ?_)).mono ?_
    · obtain ⟨g, cap', e, h1, h2, h3⟩ := (h.quiet (hxa.trans hW)).job_at k hk
      rw [hv] at e
      injection e with e1 _ _
      refine ⟨g, 0, e1, ?_, ?_, ?_⟩
      · rw [Nat.zero_add, h1]; simp [hk]
      · rw [Nat.zero_add, h2]; simp [hk]
      · rw [Nat.zero_add, h3]; simp [hk]
    · have hzj := (h.quiet (hxa.trans hW)).jobs _ (List.getElem_mem hk)
      obtain ⟨z, d, hvz, hz, -, -⟩ := row_ints hzj
      have hb : W.heap[w.heap.size]? = some (.cells #[.string j.id, .string j.dest, .slice y j.rs.length c] 49 (0, 0)) := (hW.block _ (by simp) fun f => f).trans (MapKept.heap_alloc w _).1
      simp only [hk, List.getElem?_eq_getElem, Option.map_some, Option.getD_some]
      rw [hvz]
      refine (air1_run w.heap.size j L.jobs[k].j y z c d W hb (hy.quiet (hxa.trans hW)) hz).mono ?_
      rintro e W' ⟨rfl, hx⟩
      exact ⟨rfl, hW.trans hx⟩
    · intro e w' hix
      obtain ⟨r, rfl, hr, m, hx⟩ := ix_find L.jobs (fun z => isJob j z.j) _ (fun k hk => by simp [hk]) hix
      exact ⟨⟨r, rfl, hr⟩, hx⟩
  clear h hy
  go_enter Try.func59, Try.ntmps59
  go_wp2_with fail
  refine HC.out.mono ?_
  rintro e w1 ⟨⟨r, rfl, hr⟩, hx⟩
  have HX := hid (hxa.trans hx)
  have HR := hid hr
  clear hr hx HC
  go_wp2_with fail
  go_ret
  exact ⟨⟨r, rfl, HR.out⟩, HX.out⟩
end Go.Proofs.Ytnakafmlenngnaa.Qm
