/- QmgrWaits: the walk. -/
import Derived.Test.YtnakafmlenngnaaQwm
import Derived.Test.YtnakafmlenngnaaQwh
import Derived.Test.YtnakafmlenngnaaQdw
import Derived.Test.YtnakafmlenngnaaQfw
namespace Go.Proofs.Ytnakafmlenngnaa.Qm
open Go.RowKit Go.Proofs.Ytnakafmlenngnaa.Wi

/-- A manager, and a job that it told: the job's row is apart. -/
def HasJ (w wr : World) (mb : Nat) (q : Qs) (y : Option Addr) (l : List Nat) : Prop :=
  ∃ L F, Mg wr mb L F ∧ L.q = q ∧ (∀ k, F k → w.heap.size ≤ k) ∧ Ext (fun _ => False) w wr ∧ IntsL wr y l ∧ ∀ b o, y = some ⟨b, o, none⟩ → ¬ F b

theorem Has.job {w wr : World} {mb : Nat} {q q' : Qs} {j : Jb} (h : Has w wr mb q) (h1 : q.ms.length ≤ 50000) (h2 : q.ds.length ≤ 50000) (h3 : q.jobs.length ≤ 50000) (hn : Qm.next q = some (j, q')) :
    Calls Try.prog 29 #[.pointer (some ⟨mb, 0, none⟩)] wr fun e w' => ∃ y c, e = .returned (.tuple #[.agg #[.string j.id, .string j.dest, .slice y j.rs.length c], .bool true]) ∧ HasJ w w' mb q' y j.rs := by
  obtain ⟨L, F, hM, rfl, k3, k4⟩ := h
  simp only [Lq.q, List.length_map] at h1 h2 h3
  refine (next_run mb L F wr hM h1 h2 h3).mono ?_
  rintro e w' (⟨g1, -⟩ | ⟨j', q2, v, g1, rfl, L', F', g2, g3, g4, g5, g6, g7⟩)
  · rw [hn] at g1; cases g1
  · rw [hn] at g1
    injection g1 with g1
    injection g1 with e1 e2
    subst e1
    subst e2
    obtain ⟨y, c, rfl, hy, -, -⟩ := row_ints g6
    refine ⟨y, c, rfl, L', F', g2, g5, own_grow k3 k4.size g3, own_ext k3 k4 g4, hy, fun b o e => ?_⟩
    subst e
    rcases g6.2 with ⟨e, -⟩ | ⟨g, cap, cur, e, -⟩
    · cases e
    · injection e with e _ _
      injection e with e
      injection e with e
      subst e
      exact g7 b rfl

theorem HasJ.done {w wr W : World} {mb : Nat} {q : Qs} {y : Option Addr} {j : Jb} (h : HasJ w wr mb q y j.rs) (hx : Ext (fun _ => False) wr W) {b : Nat} {res : List Int} (hr : ResL W (some ⟨b, 0, none⟩) res) (hb : wr.heap.size ≤ b) (c rc : Nat) (g : Bool) (now : Int) (h1 : q.ms.length ≤ 50000) (h2 : q.ds.length ≤ 50000) (hfit : JobFits q j) :
    Calls Try.prog 30 #[.pointer (some ⟨mb, 0, none⟩), .agg #[.string j.id, .string j.dest, .slice y j.rs.length c], .slice (some ⟨b, 0, none⟩) res.length rc, .bool g, .int .i64 now] W fun e w' => e = .returned (.int .i64 (Qm.done q j res g now).1) ∧ Has w w' mb (Qm.done q j res g now).2 := by
  obtain ⟨L, F, hM, rfl, h3, h4, h5, h6⟩ := h
  simp only [Lq.q, List.length_map] at h1 h2
  refine (done_run mb L F j y c _ rc res g now W (hM.quiet hx) h1 h2 (h5.quiet hx) h6 hr (fun b' o e f => ?_) hfit).mono ?_
  · injection e with e
    injection e with e
    have := hM.lt b' f
    omega
  · rintro e w' ⟨rfl, L', F', k1, k2, k3, k4⟩
    have h7 := h4.trans hx
    exact ⟨rfl, L', F', k1, k4, own_grow h3 h7.size k2, own_ext h3 h7 k3⟩

theorem res_one (W : World) (a : Int) (g : Nat) (hg : W.cell? ⟨g, 0, none⟩ = some (.int .i64 a)) : ResL W (some ⟨g, 0, none⟩) [a] := by
  have hlt : g < W.heap.size := by
    rcases Nat.lt_or_ge g W.heap.size with f | f
    · exact f
    · simp [World.cell?, Array.getElem?_eq_none f] at hg
  refine ⟨by simp, fun k hk => ⟨g, 0, rfl, hlt, ?_⟩⟩
  obtain rfl : k = 0 := by simpa using hk
  exact hg

theorem Has.when {w wr : World} {mb : Nat} {q : Qs} (h : Has w wr mb q) (id : ByteArray) : Calls Try.prog 31 #[.pointer (some ⟨mb, 0, none⟩), .string id] wr (QuietPost (.int .i64 (whenQ q id)) wr) := by
  obtain ⟨L, F, hM, rfl, -⟩ := h
  exact when_run mb L F id wr hM

theorem boxes_W {w W : World} {a i m mi ma li came now : Int} (hx : Ext (fun _ => False) ((w.alloc (.cells #[.int .i64 a, .int .i64 i, .int .i64 m, .int .i64 mi, .int .i64 ma, .int .i64 li] 43)).alloc (.cells #[.int .i64 came, .int .i64 now] 53)) W) :
    W.heap[w.heap.size]? = some (.cells #[.int .i64 a, .int .i64 i, .int .i64 m, .int .i64 mi, .int .i64 ma, .int .i64 li] 43 (0, 0)) ∧ W.heap[w.heap.size + 1]? = some (.cells #[.int .i64 came, .int .i64 now] 53 (0, 0)) := by
  refine ⟨(hx.block _ (by simp; omega) fun f => f).trans ((Below.heap_alloc _ _ _ (by simp)).trans (MapKept.heap_alloc w _).1), (hx.block _ (by simp) fun f => f).trans ?_⟩
  have e : (w.alloc (.cells #[.int .i64 a, .int .i64 i, .int .i64 m, .int .i64 mi, .int .i64 ma, .int .i64 li] 43)).heap.size = w.heap.size + 1 := by simp
  rw [← e]
  exact (MapKept.heap_alloc _ _).1

theorem cell_new2 (W : World) (o : Obj) (v : Value) (T : Nat) : ((W.alloc o).alloc (.cells #[v] T)).cell? ⟨W.heap.size + 1, 0, none⟩ = some v := by
  have e : (W.alloc o).heap.size = W.heap.size + 1 := by simp
  have := (MapKept.heap_alloc (W.alloc o) (.cells #[v] T)).1
  rw [e] at this
  simp only [World.cell?, this]
  rfl

set_option maxHeartbeats 8000000 in
set_option maxRecDepth 100000 in
theorem waits_run (a i m mi ma li came now : Int) (g : Bool) (w : World) : Calls Try.prog 7 #[limV a i m mi ma li, .agg #[.int .i64 came, .int .i64 now], .bool g] w fun e w' => e = .returned (.bool true) ∧ Ext (fun _ => False) w w' := by
  have hxa : Ext (fun _ => False) w ((w.alloc (.cells #[.int .i64 a, .int .i64 i, .int .i64 m, .int .i64 mi, .int .i64 ma, .int .i64 li] 43)).alloc (.cells #[.int .i64 came, .int .i64 now] 53)) := ((Ext.refl _ _).alloc _).alloc _
  have HAw := (show Hid (∀ W, Calls Try.prog 26 #[] W fun e w' => e = .returned (.bool true) ∧ Ext (fun _ => False) W w') from awake_run)
  cases hok : okLim a i m mi ma li with
  | false =>
    have HN := (show Hid (∀ W, Calls Try.prog 27 #[limV a i m mi ma li] W (QuietPost (.tuple #[.pointer none, .int .i64 1]) W)) from fun W => new_bad_run a i m mi ma li hok W)
    unfold limV at HN ⊢
    clear hok
    go_enter Try.func7, Try.ntmps7
    go_wp2_with fail
    refine (HAw.out _).mono ?_
    rintro e w1 ⟨rfl, hx1⟩
    obtain ⟨b1, b2⟩ := boxes_W hx1
    have p0 : w1.cell? ⟨w.heap.size, 0, none⟩ = some (.int .i64 a) := by simp [World.cell?, b1]
    have p1 : w1.cell? ⟨w.heap.size, 1, none⟩ = some (.int .i64 i) := by simp [World.cell?, b1]
    have p2 : w1.cell? ⟨w.heap.size, 2, none⟩ = some (.int .i64 m) := by simp [World.cell?, b1]
    have p3 : w1.cell? ⟨w.heap.size, 3, none⟩ = some (.int .i64 mi) := by simp [World.cell?, b1]
    have p4 : w1.cell? ⟨w.heap.size, 4, none⟩ = some (.int .i64 ma) := by simp [World.cell?, b1]
    have p5 : w1.cell? ⟨w.heap.size, 5, none⟩ = some (.int .i64 li) := by simp [World.cell?, b1]
    have r0 : w1.cell? ⟨w.heap.size + 1, 0, none⟩ = some (.int .i64 came) := by simp [World.cell?, b2]
    have r1 : w1.cell? ⟨w.heap.size + 1, 1, none⟩ = some (.int .i64 now) := by simp [World.cell?, b2]
    have HX := hid (hxa.trans hx1)
    clear hx1 b1 b2 hxa HAw
    go_wp2_with fail
    refine (HN.out _).mono ?_
    rintro e w2 ⟨rfl, hx2⟩
    have HX2 := hid (HX.out.trans hx2)
    clear hx2 HN HX
    go_wp2_with fail
    go_ret
    exact ⟨rfl, HX2.out⟩
  | true =>
    obtain ⟨lm, hlm, hlv, rfl, rfl, rfl, rfl, rfl, rfl⟩ := okLim_ok hok
    have HN := (show Hid (∀ W, Calls Try.prog 27 #[limV lm.active lm.ini lm.lim lm.minb lm.maxb lm.life] W (NewPost lm W)) from fun W => by rw [← hlv]; exact new_ok_run lm hlm W)
    unfold limV at HN ⊢
    have HLM := hid hlm
    obtain ⟨l1, l2, l3, l4, l5, l6, l7, l8, l9, l10⟩ := hlm
    clear hok hlv
    go_enter Try.func7, Try.ntmps7
    go_wp2_with fail
    refine (HAw.out _).mono ?_
    rintro e w1 ⟨rfl, hx1⟩
    have HBx := (show Hid (∀ W, Ext (fun _ => False) w1 W → W.heap[w.heap.size]? = some (.cells #[.int .i64 lm.active, .int .i64 (lm.ini : Nat), .int .i64 (lm.lim : Nat), .int .i64 lm.minb, .int .i64 lm.maxb, .int .i64 lm.life] 43 (0, 0)) ∧ W.heap[w.heap.size + 1]? = some (.cells #[.int .i64 came, .int .i64 now] 53 (0, 0))) from fun W hW => boxes_W (hx1.trans hW))
    obtain ⟨b1, b2⟩ := HBx.out w1 (Ext.refl _ _)
    have p0 : w1.cell? ⟨w.heap.size, 0, none⟩ = some (.int .i64 lm.active) := by simp [World.cell?, b1]
    have p1 : w1.cell? ⟨w.heap.size, 1, none⟩ = some (.int .i64 (lm.ini : Nat)) := by simp [World.cell?, b1]
    have p2 : w1.cell? ⟨w.heap.size, 2, none⟩ = some (.int .i64 (lm.lim : Nat)) := by simp [World.cell?, b1]
    have p3 : w1.cell? ⟨w.heap.size, 3, none⟩ = some (.int .i64 lm.minb) := by simp [World.cell?, b1]
    have p4 : w1.cell? ⟨w.heap.size, 4, none⟩ = some (.int .i64 lm.maxb) := by simp [World.cell?, b1]
    have p5 : w1.cell? ⟨w.heap.size, 5, none⟩ = some (.int .i64 lm.life) := by simp [World.cell?, b1]
    have r0 : w1.cell? ⟨w.heap.size + 1, 0, none⟩ = some (.int .i64 came) := by simp [World.cell?, b2]
    have r1 : w1.cell? ⟨w.heap.size + 1, 1, none⟩ = some (.int .i64 now) := by simp [World.cell?, b2]
    have HX := hid (hxa.trans hx1)
    clear hx1 b1 b2 hxa HAw
    go_wp2_with fail
    refine (HN.out _).mono ?_
    rintro e w2 ⟨mb, L, F, rfl, hM, hq, hx2, hF⟩
    have H0 := (show Hid (Has w1 w2 mb (begin0 lm)) from ⟨L, F, hM, hq, hF, hx2⟩)
    clear hM hq hF hx2 HN p0 p1 p2 p3 p4 p5 r0 r1
    go_wp2_with fail
    have HA := (show Hid (Calls Try.prog 28 #[.pointer (some ⟨mb, 0, none⟩), .string tA, .int .i64 came, .slice (some ⟨w2.heap.size, 0, none⟩) 1 1, .int .i64 now] (w2.alloc (.cells #[.string tX] 9)) fun e w' => e = .returned (.int .i64 (add (begin0 lm) tA came [tX] now).1) ∧ Has w1 w' mb (add (begin0 lm) tA came [tX] now).2) from
      H0.out.add ((Ext.refl _ _).alloc (.cells #[.string tX] 9)) (strs1 w2 tX 9) (Nat.le_refl _) tA came now 1 (by simp [begin0]) (by simp [begin0]))
    cases ht : (isT came && isT now) with
    | false =>
      have ha1 : (add (begin0 lm) tA came [tX] now).1 = 1 := by unfold add; rw [addOk_W, ht]; rfl
      rw [ha1] at HA
      clear ha1 ht
      refine HA.out.mono ?_
      rintro e w3 ⟨rfl, h3⟩
      have H3 := hid h3
      clear h3 HA H0
      go_wp2_with fail
      go_ret
      obtain ⟨_, _, -, -, -, hx⟩ := H3.out
      exact ⟨rfl, HX.out.trans hx⟩
    | true =>
      rw [Bool.and_eq_true] at ht
      rw [add_W lm HLM.out came now ht.1 ht.2] at HA
      have hcame := isT_iff ht.1
      have hnow := isT_iff ht.2
      have Htn := hid ht.2
      clear ht
      refine HA.out.mono ?_
      rintro e w3 ⟨rfl, h3⟩
      have HJ := (show Hid (Calls Try.prog 29 #[.pointer (some ⟨mb, 0, none⟩)] w3 fun e w' => ∃ y c, e = .returned (.tuple #[.agg #[.string tA, .string tX, .slice y 1 c], .bool true]) ∧ HasJ w1 w' mb (q2W lm came) y [0]) from
        h3.job (j := jW) (by simp [q1W]) (by simp [q1W]) (by simp [q1W]) (next_W lm HLM.out came))
      clear h3 HA H0
      go_wp2_with fail
      refine HJ.out.mono ?_
      rintro e w4 ⟨y, c, rfl, h4⟩
      have HD := (show Hid (∀ W b, Ext (fun _ => False) w4 W → w4.heap.size ≤ b → W.cell? ⟨b, 0, none⟩ = some (.int .i64 1) → Calls Try.prog 30 #[.pointer (some ⟨mb, 0, none⟩), .agg #[.string tA, .string tX, .slice y 1 c], .slice (some ⟨b, 0, none⟩) 1 1, .bool g, .int .i64 now] W fun e w' => e = .returned (.int .i64 0) ∧ Has w1 w' mb (done (q2W lm came) jW [1] g now).2) from fun W b hW hb hc => by
        have := HasJ.done (j := jW) h4 hW (res_one W 1 b hc) hb c 1 g now (by simp [q2W]) (by simp [q2W]) (fits_W lm came)
        rw [(done_W lm came now g Htn.out).1] at this
        exact this)
      have hml := (done_W lm came now g Htn.out).2
      have hwq := when_W hml
      have Hwq := hid hwq
      clear h4 HJ hml hwq
      unfold tA tX at HD ⊢
      go_wp2_with fail
      refine (HD.out _ _ (((Ext.refl _ _).alloc _).alloc _) (by simp) (cell_new2 _ _ _ _)).mono ?_
      rintro e w5 ⟨rfl, h5⟩
      have HW := hid (h5.when tA)
      have H5 := hid h5
      rw [Hwq.out] at HW
      clear h5 HD
      unfold tA at HW
      go_wp2_with fail
      refine HW.out.mono ?_
      rintro e w6 ⟨rfl, h6⟩
      obtain ⟨_, _, -, -, -, hx⟩ := H5.out
      obtain ⟨b1, b2⟩ := HBx.out w6 (hx.trans h6)
      have p3 : w6.cell? ⟨w.heap.size, 3, none⟩ = some (.int .i64 lm.minb) := by simp [World.cell?, b1]
      have p4 : w6.cell? ⟨w.heap.size, 4, none⟩ = some (.int .i64 lm.maxb) := by simp [World.cell?, b1]
      have HX6 := hid (HX.out.trans (hx.trans h6))
      clear hx h6 b1 b2 HW H5 HBx HX Hwq
      have d1 : dueW lm came now ≤ 1000000000 := by unfold dueW; omega
      have d2 : now + lm.minb ≤ dueW lm came now ∨ dueW lm came now = 1000000000 := by unfold dueW back; omega
      have d3 : dueW lm came now ≤ now + lm.maxb := by unfold dueW back; omega
      obtain ⟨n1, n2⟩ := hnow
      clear Htn HLM hcame
      generalize dueW lm came now = due at d1 d2 d3 ⊢
      go_wp2_with fail
      all_goals first
        | (exfalso; omega)
        | (go_ret; exact ⟨by rw [← decide_eq_true d3]; rfl, HX6.out⟩)
        | (obtain rfl : due = 1000000000 := by omega
           go_ret
           refine ⟨?_, HX6.out⟩
           show Ending.returned (Value.bool (_ || (1000000000 : Int) == 1000000000)) = _
           simp)

theorem waits_both (a i m mi ma li came now : Int) (g : Bool) (w : World) : Calls Try.prog 7 #[limV a i m mi ma li, .agg #[.int .i64 came, .int .i64 now], .bool g] w fun e w' => e = .returned (.bool true) ∧ Below w.heap.size w w' :=
  (waits_run a i m mi ma li came now g w).mono fun _ _ ⟨he, hx⟩ => ⟨he, hx.below (Nat.le_refl _) fun _ f => f.elim⟩
end Go.Proofs.Ytnakafmlenngnaa.Qm
