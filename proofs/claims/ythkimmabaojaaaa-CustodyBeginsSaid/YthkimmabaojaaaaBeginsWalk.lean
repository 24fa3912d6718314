/- CustodyBegins: the walk of the law. -/
import Derived.Test.YthkimmabaojaaaaChk2
import Derived.Deep.RegionHeld3
import Derived.Deep.DeepCutAuto
namespace Go.Proofs.Ythkimmabaojaaaa.Cb
open Go.RowKit Go.Proofs.Ythkimmabaojaaaa.Cu Go.Proofs.Ythkimmabaojaaaa.Cm Go.Proofs.Ythkimmabaojaaaa.Cl Go.Proofs.Ythkimmabaojaaaa.Ck Go.Proofs.Ythkimmabaojaaaa.Cc

def ddC (d : Dd) : List Value := [.int .i64 d.kind, .string d.id, .int .i64 d.who, .int .i64 d.count]
/-- The cells of the first n deeds. -/
def ddL (D : Nat → Dd) : Nat → List Value
  | 0 => []
  | n + 1 => ddL D n ++ ddC (D n)

theorem ddL_length (D : Nat → Dd) (n : Nat) : (ddL D n).length = n * 4 := by
  induction n with
  | zero => rfl
  | succ n ih => simp [ddL, ddC, ih]; omega

theorem ddL_at (D : Nat → Dd) (n k r : Nat) (hk : k < n) (hr : r < 4) : (ddL D n)[k * 4 + r]? = (ddC (D k))[r]? := by
  induction n with
  | zero => omega
  | succ n ih =>
    rw [ddL]
    by_cases h : k < n
    · rw [List.getElem?_append_left (by rw [ddL_length]; omega)]
      exact ih h
    · obtain rfl : k = n := by omega
      rw [List.getElem?_append_right (by rw [ddL_length]; omega), ddL_length]
      congr 1; omega

theorem ddL_one (D : Nat → Dd) (n : Nat) : ∀ u ∈ ddL D n, u.oneCell' = true := by
  induction n with
  | zero => intro u hu; cases hu
  | succ n ih =>
    intro u hu
    rcases List.mem_append.1 hu with h | h
    · exact ih u h
    · simp only [ddC, List.mem_cons, List.not_mem_nil, or_false] at h
      rcases h with rfl | rfl | rfl | rfl <;> rfl

theorem ddL_congr (D D' : Nat → Dd) (n : Nat) (h : ∀ i, i < n → D' i = D i) : ddL D' n = ddL D n := by
  induction n with
  | zero => rfl
  | succ n ih => rw [ddL, ddL, ih (fun i hi => h i (by omega)), h n (by omega)]

theorem add4 (b o q : Nat) : (⟨b, o, none⟩ : Addr).add q = ⟨b, o + q, none⟩ := by
  unfold Addr.add
  by_cases h : q = 0
  · subst h; rfl
  · simp [h]

theorem ddL_cells {w : World} {b o len : Nat} {D : Nat → Dd} (h : Deeds w (some ⟨b, o, none⟩) len D) (n : Nat) (hn : n ≤ len) (q : Nat) (u : Value) (hu : (ddL D n)[q]? = some u) : w.cell? ((⟨b, o, none⟩ : Addr).add q) = some u := by
  have hq : q < n * 4 := by
    have := (List.getElem?_eq_some_iff.1 hu).1
    rwa [ddL_length] at this
  have e : q = q / 4 * 4 + q % 4 := by omega
  have hk : q / 4 < n := by omega
  rw [add4]
  obtain ⟨b', o', e', -, c0, c1, c2, c3⟩ := h.2 (q / 4) (by omega)
  cases e'
  rw [e, ddL_at D n _ _ hk (Nat.mod_lt _ (by omega))] at hu
  rw [e, ← Nat.add_assoc]
  rcases (by omega : q % 4 = 0 ∨ q % 4 = 1 ∨ q % 4 = 2 ∨ q % 4 = 3) with r | r | r | r <;> rw [r] at hu ⊢ <;> simp [ddC] at hu <;> subst hu
  · exact c0
  · exact c1
  · exact c2
  · exact c3

theorem deeds_owned {w : World} {g n : Nat} {cur : Array Value} {D : Nat → Dd} (hg : w.heap[g]? = some (.cells cur 30 (0, 0))) (ht : cur.toList.take (n * 4) = ddL D n) (hn : n ≤ 9223372036854775807) : Deeds w (some ⟨g, 0, none⟩) n D := by
  have hlt : g < w.heap.size := (Array.getElem?_eq_some_iff.1 hg).1
  refine ⟨hn, fun k hk => ⟨g, 0, rfl, hlt, ?_⟩⟩
  have key : ∀ r, r < 4 → w.cell? ⟨g, 0 + k * 4 + r, none⟩ = (ddC (D k))[r]? := by
    intro r hr
    rw [← ddL_at D n k r hk hr, ← ht, List.getElem?_take_of_lt (by omega)]
    simp [World.cell?, hg]
  exact ⟨key 0 (by omega), key 1 (by omega), key 2 (by omega), key 3 (by omega)⟩

theorem info30 : ∃ i, Try.prog.info? 30 = some i ∧ i.zero = some (.agg #[.int .i64 0, .string ByteArray.empty, .int .i64 0, .int .i64 0]) ∧ i.size = 4 ∧ i.bytes = 40 :=
  info_parts (show (Try.prog.info? 30).map (fun i => (i.zero, i.size, i.bytes)) = some (some (.agg #[.int .i64 0, .string ByteArray.empty, .int .i64 0, .int .i64 0]), 4, 40) by kernel_rfl)

theorem box_cells (w3 : World) (d : Dd) : (w3.alloc (.cells #[.int .i64 d.kind, .string d.id, .int .i64 d.who, .int .i64 d.count] 30)).cell? ⟨w3.heap.size, 0, none⟩ = some (.int .i64 d.kind) ∧ (w3.alloc (.cells #[.int .i64 d.kind, .string d.id, .int .i64 d.who, .int .i64 d.count] 30)).cell? ⟨w3.heap.size, 1, none⟩ = some (.string d.id) ∧
    (w3.alloc (.cells #[.int .i64 d.kind, .string d.id, .int .i64 d.who, .int .i64 d.count] 30)).cell? ⟨w3.heap.size, 2, none⟩ = some (.int .i64 d.who) ∧ (w3.alloc (.cells #[.int .i64 d.kind, .string d.id, .int .i64 d.who, .int .i64 d.count] 30)).cell? ⟨w3.heap.size, 3, none⟩ = some (.int .i64 d.count) := by
  have e := (MapKept.heap_alloc w3 (.cells #[.int .i64 d.kind, .string d.id, .int .i64 d.who, .int .i64 d.count] 30)).1
  refine ⟨?_, ?_, ?_, ?_⟩ <;> (unfold World.cell?; rw [e]; rfl)

/-- An append of deeds to a row of the call's own. -/
theorem append_dd (w : World) (base : Nat) (v : Value) (n : Nat) (xs : List Value) (hown : w.ownsRow base 30 4 v n xs) (ad : Addr) (m c : Nat) (news : List Value) (hl : news.length = m * 4)
    (hnews : ∀ j u, news[j]? = some u → w.cell? (ad.add j) = some u) (h1 : ∀ u ∈ news, u.oneCell' = true) (hnm : n + m ≤ 2000) (hb : base ≤ w.heap.size) :
    ∃ v' w', (Builtin.append_ #[22, 22] 22 #[v, .slice (some ad) m c]).run Try.prog w = .ok v' w' ∧ w'.ownsRow base 30 4 v' (n + m) (xs ++ news) ∧ w.grownBy w' v.ownBlock := by
  obtain ⟨i, hi, hz, hs, hby⟩ := info30
  obtain ⟨v', w', h⟩ := run_append_own (P := Try.prog) w base 22 22 30 i _ 4 40 Try.underlying22 hi hz hs hby rfl (by omega) v n xs hown ad m c news hl hnews h1 (by unfold maxLen; omega) (by omega) hb
  exact ⟨v', w', h.1, h.2.1, h.2.2.1⟩

/-- Behind the two appends. -/
def Twice (D : Nat → Dd) (d : Dd) (j B bx : Nat) (W1 wa wb : World) (v2 : Value) : Prop :=
  (∃ g cp, v2 = .slice (some ⟨g, 0, none⟩) (j + 2) cp ∧ Deeds wb (some ⟨g, 0, none⟩) (j + 2) (fun k => if k = j + 1 then d else D k)) ∧ Below B W1 wa ∧ Below B W1 wb ∧ bx < wa.heap.size

theorem ddC_eq (d : Dd) : ddC d = [.int .i64 d.kind, .string d.id, .int .i64 d.who, .int .i64 d.count] := rfl

theorem ddC_one (d : Dd) : ∀ u ∈ ddC d, u.oneCell' = true := by
  intro u hu
  simp only [ddC, List.mem_cons, List.not_mem_nil, or_false] at hu
  rcases hu with rfl | rfl | rfl | rfl <;> rfl

theorem ddC_src {w : World} {g : Nat} {d : Dd} (hg : w.heap[g]? = some (.cells (ddC d).toArray 30 (0, 0))) (q : Nat) (u : Value) (hu : (ddC d)[q]? = some u) : w.cell? ((⟨g, 0, none⟩ : Addr).add q) = some u := by
  rw [add4]
  unfold World.cell?
  simp only [hg]
  simpa using hu

theorem owned_deeds {w : World} {base j : Nat} {v : Value} {D : Nat → Dd} {d : Dd} (h : w.ownsRow base 30 4 v (0 + (j + 1) + 1) (([] ++ ddL D (j + 1)) ++ ddC d)) (hj : j ≤ 1000) :
    ∃ g cp, v = .slice (some ⟨g, 0, none⟩) (j + 2) cp ∧ Deeds w (some ⟨g, 0, none⟩) (j + 2) (fun k => if k = j + 1 then d else D k) := by
  obtain ⟨-, ⟨-, h0⟩ | ⟨g, cp, cur, rfl, -, hg, -, -, -, ht⟩⟩ := h
  · omega
  · rw [show 0 + (j + 1) + 1 = j + 2 by omega] at ht ⊢
    refine ⟨g, cp, rfl, deeds_owned hg ?_ (by omega)⟩
    rw [ht]
    show ddL D (j + 1) ++ ddC d = ddL _ (j + 1) ++ ddC (if j + 1 = j + 1 then d else D (j + 1))
    rw [if_pos rfl, ddL_congr D (fun k => if k = j + 1 then d else D k) (j + 1) (fun i hi => by rw [if_neg (by omega)])]

theorem own_row {w : World} {base n : Nat} {v : Value} {xs : List Value} (h : w.ownsRow base 30 4 v n xs) (k : Nat) (hk : k < base) : some k ≠ v.ownBlock := by
  intro f
  rcases h.2 with ⟨rfl, -⟩ | ⟨g, cp, cur, rfl, hg, -⟩
  · cases f
  · simp only [Value.ownBlock, Option.some.injEq] at f; omega

theorem grown_below {w w' : World} {row : Option Nat} (h : w.grownBy w' row) (B : Nat) (hB : B ≤ w.heap.size) (hr : ∀ k, k < B → some k ≠ row) : Below B w w' :=
  ⟨h.os, h.tape, h.output, h.size, fun k hk => h.block k (by omega) (hr k hk)⟩

/-- The one deed's slice is made behind the first append. -/
theorem apps_late (W1 : World) (g0 xb xo cap len j bx : Nat) (D : Nat → Dd) (d : Dd) (hg0 : W1.heap[g0]? = some (.cells #[] 30 (0, 0))) (hb : bx < g0) (hD : Deeds W1 (some ⟨xb, xo, none⟩) len D) (hj : j < len) (hl : len ≤ 1000) :
    ∃ v1 wa, (Builtin.append_ #[22, 22] 22 #[.slice (some ⟨g0, 0, none⟩) 0 0, .slice (some ⟨xb, xo, none⟩) (j + 1) cap]).run Try.prog W1 = .ok v1 wa ∧
      ∃ v2 wb, (Builtin.append_ #[22, 22] 22 #[v1, .slice (some ⟨wa.heap.size, 0, none⟩) 1 1]).run Try.prog (wa.alloc (.cells (ddC d).toArray 30)) = .ok v2 wb ∧ Twice D d j g0 bx W1 wa wb v2 := by
  have hg0l : g0 < W1.heap.size := (Array.getElem?_eq_some_iff.1 hg0).1
  have hE : W1.ownsRow g0 30 4 (.slice (some ⟨g0, 0, none⟩) 0 0) 0 [] := ⟨rfl, .inr ⟨g0, 0, #[], rfl, Nat.le_refl _, hg0, Nat.le_refl _, Nat.zero_le _, rfl, rfl⟩⟩
  obtain ⟨v1, wa, hr1, ho1, hgr1⟩ := append_dd W1 g0 _ 0 [] hE ⟨xb, xo, none⟩ (j + 1) cap (ddL D (j + 1)) (ddL_length _ _) (fun q u hu => ddL_cells hD (j + 1) (by omega) q u hu) (ddL_one _ _) (by omega) (by omega)
  have hb1 : Below g0 W1 wa := grown_below hgr1 g0 (by omega) fun k hk => own_row hE k hk
  refine ⟨v1, wa, hr1, ?_⟩
  have e := (MapKept.heap_alloc wa (.cells (ddC d).toArray 30)).1
  have hEa := ho1.alloc (.cells (ddC d).toArray 30)
  obtain ⟨v2, wb, hr2, ho2, hgr2⟩ := append_dd _ g0 v1 (0 + (j + 1)) ([] ++ ddL D (j + 1)) hEa ⟨wa.heap.size, 0, none⟩ 1 1 (ddC d) rfl (fun q u hu => ddC_src e q u hu) (ddC_one d) (by omega) (by have := hb1.size; simp; omega)
  have hs := hb1.size
  have hb2 : Below g0 (wa.alloc (.cells (ddC d).toArray 30)) wb := grown_below hgr2 g0 (by simp; omega) fun k hk => own_row hEa k hk
  exact ⟨v2, wb, hr2, owned_deeds ho2 (by omega), hb1, (hb1.alloc (by omega) _).trans hb2, by omega⟩

/-- .. ahead of it. -/
theorem apps_early (W1 : World) (g0 gd xb xo cap len j bx B : Nat) (D : Nat → Dd) (d : Dd) (hg0 : W1.heap[g0]? = some (.cells #[] 30 (0, 0))) (hgd : W1.heap[gd]? = some (.cells (ddC d).toArray 30 (0, 0))) (hne : gd ≠ g0) (hB : B ≤ g0) (hb : bx < B) (hD : Deeds W1 (some ⟨xb, xo, none⟩) len D) (hj : j < len) (hl : len ≤ 1000) :
    ∃ v1 wa, (Builtin.append_ #[22, 22] 22 #[.slice (some ⟨g0, 0, none⟩) 0 0, .slice (some ⟨xb, xo, none⟩) (j + 1) cap]).run Try.prog W1 = .ok v1 wa ∧
      ∃ v2 wb, (Builtin.append_ #[22, 22] 22 #[v1, .slice (some ⟨gd, 0, none⟩) 1 1]).run Try.prog wa = .ok v2 wb ∧ Twice D d j B bx W1 wa wb v2 := by
  have hg0l : g0 < W1.heap.size := (Array.getElem?_eq_some_iff.1 hg0).1
  have hgdl : gd < W1.heap.size := (Array.getElem?_eq_some_iff.1 hgd).1
  have hE : W1.ownsRow B 30 4 (.slice (some ⟨g0, 0, none⟩) 0 0) 0 [] := ⟨rfl, .inr ⟨g0, 0, #[], rfl, hB, hg0, Nat.le_refl _, Nat.zero_le _, rfl, rfl⟩⟩
  obtain ⟨v1, wa, hr1, ho1, hgr1⟩ := append_dd W1 B _ 0 [] hE ⟨xb, xo, none⟩ (j + 1) cap (ddL D (j + 1)) (ddL_length _ _) (fun q u hu => ddL_cells hD (j + 1) (by omega) q u hu) (ddL_one _ _) (by omega) (by omega)
  have hb1 : Below B W1 wa := grown_below hgr1 B (by omega) fun k hk => own_row hE k hk
  refine ⟨v1, wa, hr1, ?_⟩
  have e : wa.heap[gd]? = some (.cells (ddC d).toArray 30 (0, 0)) := (hgr1.block gd hgdl (by simp only [Value.ownBlock, ne_eq, Option.some.injEq]; exact hne)).trans hgd
  obtain ⟨v2, wb, hr2, ho2, hgr2⟩ := append_dd _ B v1 (0 + (j + 1)) ([] ++ ddL D (j + 1)) ho1 ⟨gd, 0, none⟩ 1 1 (ddC d) rfl (fun q u hu => ddC_src e q u hu) (ddC_one d) (by omega) (by have := hb1.size; omega)
  have hs := hb1.size
  have hb2 : Below B wa wb := grown_below hgr2 B (by omega) fun k hk => own_row ho1 k hk
  exact ⟨v2, wb, hr2, owned_deeds ho2 (by omega), hb1, hb1.trans hb2, by omega⟩

theorem step_append_run {P : Program} {ops : Array Oper} {o : Oper} {a : Act} {w : World} {K : Act → World → Prop} {Q : Exit → Act → World → Prop} {E : Prop} (hgd : o.guard = none) (s x : Operand) (ts : Array TypeId)
    (ho : o.op = .call { callee := .builtin .append, args := #[s, x], argTypes := ts }) (v u r : Value) (w' : World) (hs : a.eval s = v) (hx : a.eval x = u) (hrun : (Builtin.append_ ts o.type #[v, u]).run P w = .ok r w')
    (h : K (a.put o.dst r) w') : if Region.wanted o (yielded ops a.tmps) = true then Oper.wp P o a w K Q else E := by
  have hw : Region.wanted o (yielded ops a.tmps) = true := by simp [Region.wanted, hgd]
  rw [if_pos hw]
  unfold Oper.wp
  simp [execOp, ho, resolve, invoke, builtin, hs, hx, hrun, Result.andThen]
  exact h

set_option maxHeartbeats 4000000 in
set_option maxRecDepth 100000 in
theorem walk (x : Option Addr) (len0 cap : Nat) (D : Nat → Dd) (a : Int) (w : World) (hD0 : Deeds w x len0 D) (hcap0 : len0 ≤ cap) (hcap2 : cap ≤ 9223372036854775807) :
    Calls Try.prog 6 #[.slice x len0 cap, .int .i64 a] w fun e w' => e = .returned (.bool true) ∧ Below w.heap.size w w' := by
  obtain ⟨len, hl, hcap, hle, hbig, hsm⟩ : ∃ len, len ≤ 1000 ∧ len ≤ cap ∧ len ≤ len0 ∧ (1000 < len0 → len = 1000) ∧ (¬ 1000 < len0 → len = len0) := by
    by_cases h : 1000 < len0
    · exact ⟨1000, by omega, by omega, by omega, fun _ => rfl, fun f => (f h).elim⟩
    · exact ⟨len0, by omega, hcap0, by omega, fun f => (h f).elim, fun _ => rfl⟩
  have hD : Deeds w x len D := ⟨by omega, fun k hk => hD0.2 k (by omega)⟩
  have HC := (show Hid (∀ (W : World) (m c : Nat), Below w.heap.size w W → m ≤ len → Calls Try.prog 13 #[.slice x m c] W (CheckPost D m W.heap.size W)) from fun W m c hW hm =>
    check_run x m c D W (by
      by_cases h0 : 0 < len
      · exact ⟨by omega, fun k hk => (Deeds.below hD hW (Deeds.at_old hD h0)).2 k (by omega)⟩
      · exact ⟨by omega, fun k hk => by omega⟩) (by omega))
  have HBig := (show Hid (1000 < len0 → len = 1000) from hbig)
  have HSm := (show Hid (¬ 1000 < len0 → len = len0) from hsm)
  have HD0 := (show Hid (Deeds w x len0 D) from hD0)
  clear hbig hsm hD0
  go_enter Try.func6, Try.ntmps6
  go_wp2_with fail
  refine (awake_run w).mono ?_
  rintro e w1 ⟨rfl, hb1⟩
  go_upto_if 14 with (fail)
  go_cut [0] (fun v wx => v = .slice x len cap ∧ wx = w1)
  case first =>
    by_cases h : 1000 < len0
    · have h1 : (1000 : Int) ≤ cap := by omega
      have h2 : (1000 : Int) < len0 := by omega
      go_wp2_with fail
      go_meet
      exact ⟨by rw [HBig.out h], rfl⟩
    · have h2 : ¬ (1000 : Int) < len0 := by omega
      go_wp2_with fail
      go_meet
      exact ⟨by rw [HSm.out h], rfl⟩
  case rest =>
    obtain ⟨rfl, rfl⟩ := hcut
    clear HBig HSm HD0 hle
    go_wp2_with fail
    refine (HC.out _ _ _ hb1 (Nat.le_refl _)).mono ?_
    rintro e w2 ⟨n, hn, rfl, hb2⟩
    have hbw2 := hb1.trans (hb2.mono hb1.size)
    have Hn := (show Hid (IsFirst D len n) from hn)
    have hn1 : n ≤ len := hn.1
    clear hn hb2 hb1
    by_cases h0 : a < 0
    · go_wp2_with fail
      go_ret
      exact ⟨rfl, hbw2⟩
    obtain ⟨c, rfl⟩ := Int.eq_ofNat_of_zero_le (show 0 ≤ a by omega)
    by_cases hc : n < c
    · go_wp2_with fail
      go_ret
      exact ⟨rfl, hbw2⟩
    have hcn : c ≤ n := by omega
    go_wp2_with fail
    refine (HC.out _ c cap hbw2 (by omega)).mono ?_
    rintro e w3 ⟨m, hm, rfl, hb3⟩
    have hbw3 := hbw2.trans (hb3.mono hbw2.size)
    have hmc : m = c := hm.uniq ⟨Nat.le_refl _, fun j hj => Hn.out.2.1 j (by omega), fun h => by omega⟩
    rw [hmc]
    clear hm hmc hb3
    by_cases hc0 : c = 0
    · subst hc0
      go_wp2_with fail
      go_ret
      exact ⟨rfl, hbw3⟩
    obtain ⟨j, rfl⟩ : ∃ j, c = j + 1 := ⟨c - 1, by omega⟩
    obtain ⟨xb, xo, rfl, hxb, c0, c1, c2, c3⟩ := hD.2 j (by omega)
    have HD := (show Hid (Deeds w (some ⟨xb, xo, none⟩) len D) from hD)
    have hcc : ∀ o, w3.cell? ⟨xb, o, none⟩ = w.cell? ⟨xb, o, none⟩ := fun o => Below.cell hbw3 (p := ⟨xb, o, none⟩) hxb
    have f0 := (hcc _).trans c0
    have f1 := (hcc _).trans c1
    have f2 := (hcc _).trans c2
    have f3 := (hcc _).trans c3
    have He := (show Hid (stepE (runTo D j) (D j) = 0) from Hn.out.2.1 j (by omega))
    have Hd := (show Hid (Below w.heap.size w w3) from hbw3)
    clear hcc c0 c1 c2 c3 hD hc0 hc h0
    have hjl : j < len := by omega
    have Hrun := (show Hid (∀ D' : Nat → Dd, (∀ i, i < j + 1 → D' i = D i) → D' (j + 1) = D j → (D j).kind ≠ 2 → (D j).kind ≠ 8 → ∀ m, IsFirst D' (j + 2) m → m = j + 1) from by
      intro D' h1 h2 h3 h4 m hm
      have hrun : ∀ i, i ≤ j + 1 → runTo D' i = runTo D i := by
        intro i hi
        induction i with
        | zero => rfl
        | succ i ih => simp only [runTo]; rw [ih (by omega), h1 i (by omega)]
      refine hm.uniq ⟨by omega, fun i hi => ?_, fun _ => ?_⟩
      · rw [hrun i (by omega), h1 i hi]
        exact Hn.out.2.1 i (by omega)
      · rw [hrun (j + 1) (Nat.le_refl _), h2]
        simp only [runTo]
        exact twice _ _ h3 h4 He.out)
    generalize hd : D j = d at f0 f1 f2 f3 Hrun
    have Hdj := (show Hid (D j = d) from hd)
    clear hd He
    by_cases k2 : d.kind = 2
    · rw [k2] at f0
      clear k2
      go_wp2_with fail
      go_ret
      exact ⟨rfl, hbw3.alloc hbw3.size _⟩
    by_cases k8 : d.kind = 8
    · rw [k8] at f0
      clear k2 k8
      go_wp2_with fail
      go_ret
      exact ⟨rfl, hbw3.alloc hbw3.size _⟩
    have b2 : (d.kind == 2) = false := by simpa using k2
    have b8 : (d.kind == 8) = false := by simpa using k8
    have K2 := (show Hid (d.kind ≠ 2) from k2)
    have K8 := (show Hid (d.kind ≠ 8) from k8)
    clear k2 k8
    go_wp2_with fail
    clear f0 f1 f2 f3
    have hz1 : (0 : Int) ≤ (j : Int) + 1 := by omega
    have hz2 : (j : Int) + 1 ≤ (cap : Int) := by omega
    have hbx := box_cells w3 d
    have hm0 : (w3.alloc (.cells #[.int .i64 d.kind, .string d.id, .int .i64 d.who, .int .i64 d.count] 30)).heap.size = w3.heap.size + 1 := by simp
    generalize hW0 : w3.alloc (.cells #[.int .i64 d.kind, .string d.id, .int .i64 d.who, .int .i64 d.count] 30) = W0 at hbx hm0 ⊢
    have hbW0 : Below w.heap.size w W0 := by rw [← hW0]; exact Hd.out.alloc Hd.out.size _
    clear hW0
    obtain ⟨q0, q1, q2, q3⟩ := hbx
    have Hst := (show Hid (∀ (W1 wa wb : World) (v2 : Value) (B : Nat), Twice D d j B w3.heap.size W1 wa wb v2 → W0.heap.size ≤ B → Ext (fun _ => False) W0 W1 → w3.heap.size < W0.heap.size →
        (wa.cell? ⟨w3.heap.size, 0, none⟩ = some (.int .i64 d.kind) ∧ wa.cell? ⟨w3.heap.size, 1, none⟩ = some (.string d.id) ∧ wa.cell? ⟨w3.heap.size, 2, none⟩ = some (.int .i64 d.who) ∧ wa.cell? ⟨w3.heap.size, 3, none⟩ = some (.int .i64 d.count)) ∧
        (wb.cell? ⟨w3.heap.size, 0, none⟩ = some (.int .i64 d.kind) ∧ wb.cell? ⟨w3.heap.size, 1, none⟩ = some (.string d.id) ∧ wb.cell? ⟨w3.heap.size, 2, none⟩ = some (.int .i64 d.who) ∧ wb.cell? ⟨w3.heap.size, 3, none⟩ = some (.int .i64 d.count)) ∧ Below w.heap.size w wb) from by
      intro W1 wa wb v2 B hT hB hx hl
      obtain ⟨-, ha, hb, -⟩ := hT
      have c1 : ∀ o, W1.cell? ⟨w3.heap.size, o, none⟩ = W0.cell? ⟨w3.heap.size, o, none⟩ := fun o => World.cell?_of_block (w := W0) (hx.block _ hl fun f => f)
      have ca : ∀ o, wa.cell? ⟨w3.heap.size, o, none⟩ = W0.cell? ⟨w3.heap.size, o, none⟩ := fun o => (Below.cell ha (p := ⟨w3.heap.size, o, none⟩) (by show w3.heap.size < B; omega)).trans (c1 o)
      have cb : ∀ o, wb.cell? ⟨w3.heap.size, o, none⟩ = W0.cell? ⟨w3.heap.size, o, none⟩ := fun o => (Below.cell hb (p := ⟨w3.heap.size, o, none⟩) (by show w3.heap.size < B; omega)).trans (c1 o)
      refine ⟨⟨(ca 0).trans q0, (ca 1).trans q1, (ca 2).trans q2, (ca 3).trans q3⟩, ⟨(cb 0).trans q0, (cb 1).trans q1, (cb 2).trans q2, (cb 3).trans q3⟩, ?_⟩
      exact (hbW0.trans (hx.below hbW0.size fun _ f => f.elim)).trans (hb.mono (by have := hbW0.size; omega)))
    have HDW := (show Hid (∀ W1, Ext (fun _ => False) W0 W1 → Deeds W1 (some ⟨xb, xo, none⟩) len D) from fun W1 hx =>
      Deeds.below HD.out (hbW0.trans (hx.below hbW0.size fun _ f => f.elim)) (fun b o e => by cases e; exact hxb))
    have hl0 : w3.heap.size < W0.heap.size := by omega
    have x1 : Ext (fun _ => False) W0 (W0.alloc (.cells #[] 30)).drew := ((Ext.refl _ W0).alloc _).drewN 1
    have x2 : Ext (fun _ => False) W0 ((W0.alloc (.cells #[] 30)).alloc (.cells #[.int .i64 d.kind, .string d.id, .int .i64 d.who, .int .i64 d.count] 30)).drew := (((Ext.refl _ W0).alloc _).alloc _).drewN 1
    have x3 : Ext (fun _ => False) W0 ((W0.alloc (.cells #[.int .i64 d.kind, .string d.id, .int .i64 d.who, .int .i64 d.count] 30)).alloc (.cells #[] 30)).drew := (((Ext.refl _ W0).alloc _).alloc _).drewN 1
    have hm1 : (W0.alloc (.cells #[] 30)).heap.size = W0.heap.size + 1 := by simp
    have hm2 : (W0.alloc (.cells #[.int .i64 d.kind, .string d.id, .int .i64 d.who, .int .i64 d.count] 30)).heap.size = W0.heap.size + 1 := by simp
    have e1 := (MapKept.heap_alloc W0 (.cells #[] 30)).1
    have e2 := (MapKept.heap_alloc (W0.alloc (.cells #[] 30)) (.cells #[.int .i64 d.kind, .string d.id, .int .i64 d.who, .int .i64 d.count] 30)).1
    rw [hm1] at e2
    have e3 := (MapKept.heap_alloc (W0.alloc (.cells #[.int .i64 d.kind, .string d.id, .int .i64 d.who, .int .i64 d.count] 30)) (.cells #[] 30)).1
    rw [hm2] at e3
    have e4 := (MapKept.heap_alloc W0 (.cells #[.int .i64 d.kind, .string d.id, .int .i64 d.who, .int .i64 d.count] 30)).1
    obtain ⟨v1, wa, r1, v2, wb, r2, t2⟩ := apps_late _ W0.heap.size xb xo cap len j w3.heap.size D d (show (W0.alloc (.cells #[] 30)).drew.heap[W0.heap.size]? = _ from e1) hl0 (HDW.out _ x1) hjl hl
    obtain ⟨v3, wc, r3, v4, wd, r4, t4⟩ := apps_early _ W0.heap.size (W0.heap.size + 1) xb xo cap len j w3.heap.size W0.heap.size D d (show ((W0.alloc (.cells #[] 30)).alloc (.cells #[.int .i64 d.kind, .string d.id, .int .i64 d.who, .int .i64 d.count] 30)).drew.heap[W0.heap.size]? = _ from (Below.heap_alloc _ _ _ (by omega)).trans e1) (show ((W0.alloc (.cells #[] 30)).alloc (.cells #[.int .i64 d.kind, .string d.id, .int .i64 d.who, .int .i64 d.count] 30)).drew.heap[W0.heap.size + 1]? = _ from e2) (by omega) (Nat.le_refl _) hl0 (HDW.out _ x2) hjl hl
    obtain ⟨v5, we, r5, v6, wf, r6, t6⟩ := apps_early _ (W0.heap.size + 1) W0.heap.size xb xo cap len j w3.heap.size W0.heap.size D d (show ((W0.alloc (.cells #[.int .i64 d.kind, .string d.id, .int .i64 d.who, .int .i64 d.count] 30)).alloc (.cells #[] 30)).drew.heap[W0.heap.size + 1]? = _ from e3) (show ((W0.alloc (.cells #[.int .i64 d.kind, .string d.id, .int .i64 d.who, .int .i64 d.count] 30)).alloc (.cells #[] 30)).drew.heap[W0.heap.size]? = _ from (Below.heap_alloc _ _ _ (by omega)).trans e4) (by omega) (Nat.le_succ _) hl0 (HDW.out _ x3) hjl hl
    obtain ⟨⟨a0, a1, a2, a3⟩, ⟨b0, b1, bb2, b3⟩, hB2⟩ := Hst.out _ _ _ _ _ t2 (Nat.le_refl _) x1 hl0
    obtain ⟨⟨a01, a11, a21, a31⟩, ⟨b01, b11, b21, b31⟩, hB4⟩ := Hst.out _ _ _ _ _ t4 (Nat.le_refl _) x2 hl0
    obtain ⟨⟨a02, a12, a22, a32⟩, ⟨b02, b12, b22, b32⟩, hB6⟩ := Hst.out _ _ _ _ _ t6 (Nat.le_refl _) x3 hl0
    have hla : w3.heap.size < wa.heap.size := t2.2.2.2
    have T2 := (show Hid _ from t2.1)
    have T4 := (show Hid _ from t4.1)
    have T6 := (show Hid _ from t6.1)
    unfold ddC at r2
    clear e1 e2 e3 e4 x1 x2 x3 t2 t4 t6 hm1 hm2 hm0
    go_region_held3 (fun w' => w'.cell? ⟨w3.heap.size, 0, none⟩ = some (.int .i64 d.kind) ∧ w'.cell? ⟨w3.heap.size, 1, none⟩ = some (.string d.id) ∧ w'.cell? ⟨w3.heap.size, 2, none⟩ = some (.int .i64 d.who) ∧ w'.cell? ⟨w3.heap.size, 3, none⟩ = some (.int .i64 d.count)) (go_simp)
      (first | ((with_reducible refine step_append_run ?_ (.tmp 65) (.tmp 68) #[22, 22] ?_ _ _ _ _ ?_ ?_ r1 ?_); any_goals rfl) | ((with_reducible refine step_append_run ?_ (.tmp 65) (.tmp 68) #[22, 22] ?_ _ _ _ _ ?_ ?_ r3 ?_); any_goals rfl) | ((with_reducible refine step_append_run ?_ (.tmp 65) (.tmp 68) #[22, 22] ?_ _ _ _ _ ?_ ?_ r5 ?_); any_goals rfl) | ((with_reducible refine step_append_run ?_ (.tmp 69) (.tmp 71) #[22, 22] ?_ _ _ _ _ ?_ ?_ r2 ?_); any_goals rfl) | ((with_reducible refine step_append_run ?_ (.tmp 69) (.tmp 71) #[22, 22] ?_ _ _ _ _ ?_ ?_ r4 ?_); any_goals rfl) | ((with_reducible refine step_append_run ?_ (.tmp 69) (.tmp 71) #[22, 22] ?_ _ _ _ _ ?_ ?_ r6 ?_); any_goals rfl))
    · obtain ⟨g, cp, hv, hDe⟩ := T2.out
      subst hv
      have HK := (show Hid (Calls Try.prog 13 #[.slice (some ⟨g, 0, none⟩) (j + 2) cp] wb (CheckPost (fun k => if k = j + 1 then d else D k) (j + 2) wb.heap.size wb)) from check_run _ _ _ _ _ hDe (by omega))
      clear hDe
      go_wp2_with fail
      refine HK.out.mono ?_
      rintro e wz ⟨m', hm', rfl, hbz⟩
      have hmz : m' = j + 1 := Hrun.out _ (fun i hi => by rw [if_neg (by omega)]) (by rw [if_pos rfl]) K2.out K8.out m' hm'
      rw [hmz]
      clear hm' hmz HK
      have hfin := hB2.trans (hbz.mono hB2.size)
      go_wp2_with fail
      go_ret
      exact ⟨by simp, hfin⟩
    · obtain ⟨g, cp, hv, hDe⟩ := T4.out
      subst hv
      have HK := (show Hid (Calls Try.prog 13 #[.slice (some ⟨g, 0, none⟩) (j + 2) cp] wd (CheckPost (fun k => if k = j + 1 then d else D k) (j + 2) wd.heap.size wd)) from check_run _ _ _ _ _ hDe (by omega))
      clear hDe
      go_wp2_with fail
      refine HK.out.mono ?_
      rintro e wz ⟨m', hm', rfl, hbz⟩
      have hmz : m' = j + 1 := Hrun.out _ (fun i hi => by rw [if_neg (by omega)]) (by rw [if_pos rfl]) K2.out K8.out m' hm'
      rw [hmz]
      clear hm' hmz HK
      have hfin := hB4.trans (hbz.mono hB4.size)
      go_wp2_with fail
      go_ret
      exact ⟨by simp, hfin⟩
    · obtain ⟨g, cp, hv, hDe⟩ := T6.out
      subst hv
      have HK := (show Hid (Calls Try.prog 13 #[.slice (some ⟨g, 0, none⟩) (j + 2) cp] wf (CheckPost (fun k => if k = j + 1 then d else D k) (j + 2) wf.heap.size wf)) from check_run _ _ _ _ _ hDe (by omega))
      clear hDe
      go_wp2_with fail
      refine HK.out.mono ?_
      rintro e wz ⟨m', hm', rfl, hbz⟩
      have hmz : m' = j + 1 := Hrun.out _ (fun i hi => by rw [if_neg (by omega)]) (by rw [if_pos rfl]) K2.out K8.out m' hm'
      rw [hmz]
      clear hm' hmz HK
      have hfin := hB6.trans (hbz.mono hB6.size)
      go_wp2_with fail
      go_ret
      exact ⟨by simp, hfin⟩

end Go.Proofs.Ythkimmabaojaaaa.Cb
