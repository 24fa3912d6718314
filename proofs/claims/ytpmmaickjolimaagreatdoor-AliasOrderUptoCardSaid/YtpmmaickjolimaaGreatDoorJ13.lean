/- Walks of table: Len, At, Exact, Address; a chain asked. -/
import Derived.Test.YtpmmaickjolimaaGreatDoorJ12
import Derived.RangeFuncNested
import Derived.RangeFuncBound
import Derived.RangeFuncCalls
import Derived.RangeFuncLeaves
import Derived.OwnWalkIn
import Derived.TacticsInMore
import Derived.LoopNIn
import Derived.LoopIn
namespace Go.Proofs.YtpmmaickjolimaaGreatDoor.Tb
open Go.RowKit
open Ci (Bel hid)

def optV : Option (List UInt8) → Array Value
  | some v => #[.string ⟨v.toArray⟩, .bool true]
  | none => #[.string ⟨#[]⟩, .bool false]
set_option maxRecDepth 100000 in
theorem len_run (a : Option Addr) (es : List En) (w : World) (hT : TabAt w a es) : Calls Tryz.prog 56 #[.pointer a] w fun e w' => e = .returned (.int .i64 es.length) ∧ Bel w w' := by
  obtain ⟨b, x, c, rfl, hb, -⟩ := hT.at_
  have c0 : w.cell? ⟨b, 0, none⟩ = some (.slice x es.length c) := by rw [Lib.cell_of_heap hb]; rfl
  clear hb hT
  generalize es.length = n at c0 ⊢
  go_enter Tryz.func56, Tryz.ntmps56
  go_wp2_with fail
  go_ret
  exact ⟨rfl, Bel.refl w⟩
set_option maxHeartbeats 2000000 in
set_option maxRecDepth 100000 in
theorem at_run (a : Option Addr) (es : List En) (k : Nat) (w : World) (hT : TabAt w a es) (hk : k < es.length) :
    Calls Tryz.prog 57 #[.pointer a, .int .i64 k] w fun e w' => e = .returned (.tuple #[.string ⟨es[k].key.toArray⟩, .string ⟨es[k].val.toArray⟩, .bool true]) ∧ Bel w w' := by
  obtain ⟨b, x, c, rfl, hb, hE⟩ := hT.at_
  obtain ⟨b2, o, rfl, h1, h2⟩ := hE.place hk
  have hn := hT.num
  have c0 : ∀ p : Ci.Aft w, p.wd.cell? ⟨b, 0, none⟩ = some (.slice (some ⟨b2, o, none⟩) es.length c) := fun p => by rw [Lib.cell_of_heap (p.bel.heap hb)]; rfl
  have d0 : w.cell? ⟨b, 0, none⟩ = some (.slice (some ⟨b2, o, none⟩) es.length c) := by rw [Lib.cell_of_heap hb]; rfl
  have c1 : ∀ p : Ci.Aft w, p.wd.cell? ⟨b2, o + k * 2, none⟩ = some (.string ⟨es[k].key.toArray⟩) := fun p => (((hE.next p.bel).place hk).elim fun b3 h => h.elim fun o3 h => by obtain ⟨e, f, -⟩ := h; cases e; exact f)
  have c2 : ∀ p : Ci.Aft w, p.wd.cell? ⟨b2, o + k * 2 + 1, none⟩ = some (.string ⟨es[k].val.toArray⟩) := fun p => (((hE.next p.bel).place hk).elim fun b3 h => h.elim fun o3 h => by obtain ⟨e, -, f⟩ := h; cases e; exact f)
  clear hb hE h1 h2
  generalize es[k] = y at c1 c2 ⊢
  generalize es.length = n at c0 d0 hk hn
  have b1 : decide ((k : Int) < 0) = false := decide_eq_false (by omega)
  have b2 : decide ((n : Int) ≤ (k : Int)) = false := decide_eq_false (by omega)
  go_enter Tryz.func57, Tryz.ntmps57
  go_wp2_with fail
  refine Ci.wp_region_aft (by kernel_rfl) (by kernel_rfl) ?_
  repeat (first
    | go_big_quiet_skip
    | go_big_quiet_step (fail)
    | quiet_step (fail))
  refine wpQuiet_nil ?_
  rintro _ ⟨p, rfl⟩
  go_wp2_with fail
  exact bodyPost_ret (v := .tuple #[.string ⟨y.key.toArray⟩, .string ⟨y.val.toArray⟩, .bool true]) (by simp [results, Tryz.results57, go_sem]) rfl ⟨rfl, p.bel⟩
set_option maxHeartbeats 2000000 in
set_option maxRecDepth 100000 in
theorem exact_run (a : Option Addr) (es : List En) (key : ByteArray) (w : World) (hw : Lat w) (hT : TabAt w a es) (hk : key.size < 35184372088832) :
    Calls Tryz.prog 159 #[.pointer a, .string key] w fun e w' => e = .returned (.tuple (optV (exactQ es key.data.toList))) ∧ Bel w w' := by
  obtain ⟨b, x, c, rfl, hb, hE⟩ := hT.at_
  have HT := hid hT
  have HB := hid hb
  have HE := hid hE
  have HL := hid (tlower_run key w hw hk)
  have hn := hT.num
  have HP := (show Hid (∀ W, Bel w W → Calls Tryz.prog 103 #[.pointer (some ⟨b, 0, none⟩), .string ⟨(lowR key.data.toList).toArray⟩] W fun e w' => e = .returned (.tuple #[.int .i64 (rank es (lowR key.data.toList) : Nat), .bool (foundB es (lowR key.data.toList))]) ∧ Bel W w') from
    fun W hW => place_run b x es c ⟨(lowR key.data.toList).toArray⟩ W (hW.heap HB.out) (HE.out.next hW) HT.out.srt (by omega))
  have HX : Hid (exactQ es key.data.toList = if foundB es (lowR key.data.toList) then (es[rank es (lowR key.data.toList)]?).map (·.val) else none) := hid rfl
  have hfr : foundB es (lowR key.data.toList) = true → rank es (lowR key.data.toList) < es.length := fun h => by
    unfold foundB at h
    cases hr : es[rank es (lowR key.data.toList)]? with
    | none => rw [hr] at h; cases h
    | some e => exact (List.getElem?_eq_some_iff.1 hr).1
  clear hT hb hE hw
  generalize lowR key.data.toList = k at HL HP HX hfr
  cases hf : foundB es k with
  | false =>
    rw [hf] at HP HX
    have HY := hid (show exactQ es key.data.toList = none from HX.out)
    clear hf hfr HX
    go_enter Tryz.func159, Tryz.ntmps159
    go_wp2_with (first | (go_at_call 151; refine HL.out.mono ?_; rintro e w1 ⟨rfl, hb1⟩; have HB1 := hid hb1; clear hb1) | (go_at_call 103; refine (HP.out _ HB1.out).mono ?_; rintro e w2 ⟨rfl, hb2⟩; have HB2 := hid (HB1.out.trans hb2); clear hb2))
    go_ret2
    exact ⟨by rw [HY.out]; rfl, HB2.out⟩
  | true =>
    have hr := hfr hf
    rw [hf] at HP HX
    have HY := hid (show exactQ es key.data.toList = some (es[rank es k]'hr).val by rw [HX.out, if_pos rfl, List.getElem?_eq_getElem hr]; rfl)
    obtain ⟨b2, o, rfl, -, -⟩ := HE.out.place hr
    have HC := (show Hid (∀ W, Bel w W → W.cell? ⟨b, 0, none⟩ = some (.slice (some ⟨b2, o, none⟩) es.length c) ∧ W.cell? ⟨b2, o + rank es k * 2 + 1, none⟩ = some (.string ⟨es[rank es k].val.toArray⟩)) from fun W hW => ⟨by rw [Lib.cell_of_heap (hW.heap HB.out)]; rfl, by
      obtain ⟨b3, o3, e, -, f⟩ := (HE.out.next hW).place hr
      cases e; exact f⟩)
    clear hf hfr HX HE HT HB
    generalize es[rank es k].val = v at HC HY
    generalize rank es k = r at HP HC hr
    generalize es.length = n at HC hr hn
    go_enter Tryz.func159, Tryz.ntmps159
    go_wp2_with (first | (go_at_call 151; refine HL.out.mono ?_; rintro e w1 ⟨rfl, hb1⟩; have HB1 := hid hb1; clear hb1) | (go_at_call 103; refine (HP.out _ HB1.out).mono ?_; rintro e w2 ⟨rfl, hb2⟩; have HB2 := hid (HB1.out.trans hb2); clear hb2; have c0 := (HC.out w2 HB2.out).1; have c1 := (HC.out w2 HB2.out).2))
    go_ret2
    exact ⟨by rw [HY.out]; rfl, HB2.out⟩
set_option maxHeartbeats 2000000 in
set_option maxRecDepth 100000 in
theorem taddr_run (a : Option Addr) (es : List En) (l d : ByteArray) (w : World) (hw : Lat w) (hT : TabAt w a es) (hl : l.size ≤ 4194304) (hd : d.size ≤ 4194304) :
    Calls Tryz.prog 111 #[.pointer a, .string l, .string d] w fun e w' => e = .returned (.tuple (optV (addrQ es l.data.toList d.data.toList))) ∧ Bel w w' := by
  have HT := hid hT
  have HW := hid hw
  have h1 : ((l ++ ⟨#[64]⟩) ++ d).data.toList = l.data.toList ++ [64] ++ d.data.toList := by rw [Ci.app_data, Ci.app_data]
  have h2 : ((⟨#[64]⟩ : ByteArray) ++ d).data.toList = [64] ++ d.data.toList := by rw [Ci.app_data]
  have HE1 := (show Hid (Calls Tryz.prog 159 #[.pointer a, .string ((l ++ ⟨#[64]⟩) ++ d)] w fun e w' => e = .returned (.tuple (optV (exactQ es (l.data.toList ++ [64] ++ d.data.toList)))) ∧ Bel w w') from by
    have := exact_run a es ((l ++ ⟨#[64]⟩) ++ d) w HW.out HT.out (by rw [ByteArray.size_append, ByteArray.size_append]; show l.size + 1 + d.size < _; omega)
    rwa [h1] at this)
  have HE2 := (show Hid (∀ W, Bel w W → Calls Tryz.prog 159 #[.pointer a, .string (⟨#[64]⟩ ++ d)] W fun e w' => e = .returned (.tuple (optV (exactQ es ([64] ++ d.data.toList)))) ∧ Bel W w') from fun W hW => by
    have := exact_run a es (⟨#[64]⟩ ++ d) W (HW.out.next hW) (HT.out.next hW) (by rw [ByteArray.size_append]; show 1 + d.size < _; omega)
    rwa [h2] at this)
  have HX : Hid (addrQ es l.data.toList d.data.toList = match exactQ es (l.data.toList ++ [64] ++ d.data.toList) with | some v => some v | none => exactQ es ([64] ++ d.data.toList)) := hid rfl
  have a1 : ∀ W : World, (Op.stringOp .add l ⟨#[64]⟩).run Tryz.prog W = .ok (.string (l ++ ⟨#[64]⟩)) W := fun W => run_string_add_sum W _ _ (by show l.size + 1 ≤ _; omega)
  have a2 : ∀ W : World, (Op.stringOp .add (l ++ ⟨#[64]⟩) d).run Tryz.prog W = .ok (.string ((l ++ ⟨#[64]⟩) ++ d)) W := fun W => run_string_add_sum W _ _ (by rw [ByteArray.size_append]; show l.size + 1 + d.size ≤ _; omega)
  have a3 : ∀ W : World, (Op.stringOp .add ⟨#[64]⟩ d).run Tryz.prog W = .ok (.string (⟨#[64]⟩ ++ d)) W := fun W => run_string_add_sum W _ _ (by show 1 + d.size ≤ _; omega)
  generalize exactQ es (l.data.toList ++ [64] ++ d.data.toList) = r1 at HE1 HX
  generalize exactQ es ([64] ++ d.data.toList) = r2 at HE2 HX
  clear hT hw h1 h2 HT HW
  cases r1 with
  | some v =>
    have HY := hid (show addrQ es l.data.toList d.data.toList = some v from HX.out)
    have HE1 := (show Hid (Calls Tryz.prog 159 #[.pointer a, .string ((l ++ ⟨#[64]⟩) ++ d)] w fun e w' => e = .returned (.tuple #[.string ⟨v.toArray⟩, .bool true]) ∧ Bel w w') from HE1.out)
    clear HX HE2
    go_enter Tryz.func111, Tryz.ntmps111
    go_wp2_with (first | (go_at_call 159; refine HE1.out.mono ?_; rintro e w1 ⟨rfl, hb1⟩; have HB1 := hid hb1; clear hb1))
    go_ret2
    exact ⟨by rw [HY.out]; rfl, HB1.out⟩
  | none =>
    have HY := hid (show addrQ es l.data.toList d.data.toList = r2 from HX.out)
    have HE1 := (show Hid (Calls Tryz.prog 159 #[.pointer a, .string ((l ++ ⟨#[64]⟩) ++ d)] w fun e w' => e = .returned (.tuple #[.string ⟨#[]⟩, .bool false]) ∧ Bel w w') from HE1.out)
    obtain ⟨vs, vb, hv⟩ : ∃ vs vb, optV r2 = #[.string vs, .bool vb] := by cases r2 with
      | none => exact ⟨_, _, rfl⟩
      | some v => exact ⟨_, _, rfl⟩
    rw [hv] at HE2
    have HV := hid hv
    clear HX hv
    go_enter Tryz.func111, Tryz.ntmps111
    go_wp2_with (first | (go_at_call 159; with_reducible refine HE1.out.mono ?_; rintro e w1 ⟨rfl, hb1⟩; have HB1 := hid hb1; clear hb1) | (go_at_call 159; with_reducible refine (HE2.out _ HB1.out).mono ?_; rintro e w2 ⟨rfl, hb2⟩; have HB2 := hid (HB1.out.trans hb2); clear hb2))
    go_ret2
    exact ⟨by rw [HY.out, HV.out]; rfl, HB2.out⟩
/-- A slice of tables. -/
structure Tabs (W : World) (x : Option Addr) (ts : List (List En)) : Prop where
  at_ : ts = [] ∨ ∃ b o, x = some ⟨b, o, none⟩ ∧ b < W.heap.size ∧ ∀ k (hk : k < ts.length), ∃ p, W.cell? ⟨b, o + k, none⟩ = some (.pointer p) ∧ TabAt W p ts[k]
theorem Tabs.next {W W' : World} {x : Option Addr} {ts : List (List En)} (h : Tabs W x ts) (hb : Bel W W') : Tabs W' x ts := by
  refine ⟨?_⟩
  rcases h.at_ with f | ⟨b, o, e, hs, f⟩
  · exact .inl f
  · refine .inr ⟨b, o, e, Nat.lt_of_lt_of_le hs hb.size, fun k hk => ?_⟩
    obtain ⟨p, h1, h2⟩ := f k hk
    exact ⟨p, (bel_cell hb hs).trans h1, h2.next hb⟩
theorem Tabs.place {W : World} {x : Option Addr} {ts : List (List En)} (h : Tabs W x ts) {k : Nat} (hk : k < ts.length) : ∃ b o p, x = some ⟨b, o, none⟩ ∧ W.cell? ⟨b, o + k, none⟩ = some (.pointer p) ∧ TabAt W p ts[k] := by
  rcases h.at_ with f | ⟨b, o, e, -, f⟩
  · rw [f] at hk; cases hk
  · obtain ⟨p, h1, h2⟩ := f k hk
    exact ⟨b, o, p, e, h1, h2⟩
/-- A chain in memory. -/
structure ChAt (W : World) (a : Option Addr) (ts : List (List En)) : Prop where
  at_ : ∃ b x c, a = some ⟨b, 0, none⟩ ∧ W.heap[b]? = some (.cells #[.slice x ts.length c] 165 (0, 0)) ∧ Tabs W x ts
  num : ts.length ≤ 8
theorem ChAt.next {W W' : World} {a : Option Addr} {ts : List (List En)} (h : ChAt W a ts) (hb : Bel W W') : ChAt W' a ts := by
  obtain ⟨b, x, c, e, h1, h2⟩ := h.at_
  exact ⟨⟨b, x, c, e, hb.heap h1, h2.next hb⟩, h.num⟩
set_option maxRecDepth 100000 in
theorem chC_run (a : Option Addr) (es : List En) (l d : ByteArray) (b1 b2 : Nat) (w : World) (hw : Lat w) (hT : TabAt w a es) (hl : l.size ≤ 4194304) (hd : d.size ≤ 4194304) (c1 : w.cell? ⟨b1, 0, none⟩ = some (.string l)) (c2 : w.cell? ⟨b2, 0, none⟩ = some (.string d)) :
    Calls Tryz.prog 110 #[.pointer a, .pointer (some ⟨b1, 0, none⟩), .pointer (some ⟨b2, 0, none⟩)] w fun e w' => e = .returned (.tuple (optV (addrQ es l.data.toList d.data.toList))) ∧ Bel w w' := by
  have HA := hid (taddr_run a es l d w hw hT hl hd)
  clear hT hw
  obtain ⟨vs, vb, hv⟩ : ∃ vs vb, optV (addrQ es l.data.toList d.data.toList) = #[.string vs, .bool vb] := by cases addrQ es l.data.toList d.data.toList with
    | none => exact ⟨_, _, rfl⟩
    | some v => exact ⟨_, _, rfl⟩
  rw [hv] at HA ⊢
  clear hv
  go_enter Tryz.func110, Tryz.ntmps110
  go_wp2_with (first | (go_at_call 111; refine HA.out.mono ?_; rintro e w1 ⟨rfl, hb1⟩))
  go_ret2
  exact ⟨rfl, hb1⟩
theorem ask_drop (ts : List (List En)) (l d : List UInt8) (k : Nat) (hk : k < ts.length) : askQ (ts.drop k) l d = match addrQ ts[k] l d with | some v => some v | none => askQ (ts.drop (k + 1)) l d := by
  unfold askQ
  rw [List.drop_eq_getElem_cons hk, List.findSome?_cons]
  cases addrQ ts[k] l d <;> rfl
set_option maxHeartbeats 2000000 in
set_option maxRecDepth 100000 in
theorem ask_run (a : Option Addr) (ts : List (List En)) (l d : ByteArray) (b1 b2 : Nat) (w : World) (hw : Lat w) (hC : ChAt w a ts) (hl : l.size ≤ 4194304) (hd : d.size ≤ 4194304) (c1 : w.cell? ⟨b1, 0, none⟩ = some (.string l)) (c2 : w.cell? ⟨b2, 0, none⟩ = some (.string d)) :
    Calls Tryz.prog 109 #[.pointer a, .func (.func 110) #[] #[.pointer (some ⟨b1, 0, none⟩), .pointer (some ⟨b2, 0, none⟩)]] w fun e w' => e = .returned (.tuple (optV (askQ ts l.data.toList d.data.toList))) ∧ Bel w w' := by
  obtain ⟨b, x, c, rfl, hb, hTs⟩ := hC.at_
  have hnum := hC.num
  have HTs := hid hTs
  have HW := hid hw
  have HCl := (show Hid (∀ W p es, Bel w W → TabAt W p es → Calls Tryz.prog 110 #[.pointer p, .pointer (some ⟨b1, 0, none⟩), .pointer (some ⟨b2, 0, none⟩)] W fun e w' => e = .returned (.tuple (optV (addrQ es l.data.toList d.data.toList))) ∧ Bel W w') from
    fun W p es hW hT => chC_run p es l d b1 b2 W (hw.next hW) hT hl hd ((bel_cell hW (World.block_lt_of_cell? w _ c1)).trans c1) ((bel_cell hW (World.block_lt_of_cell? w _ c2)).trans c2))
  have eg : ∀ args w, (callFunc 110 args).run Tryz.prog w = .ok (.enter 110 args) w := enters_of Tryz.func110 (by kernel_rfl) rfl
  have c0 : w.cell? ⟨b, 0, none⟩ = some (.slice x ts.length c) := by rw [Lib.cell_of_heap hb]; rfl
  have H0 := hid (show askQ ts l.data.toList d.data.toList = askQ (ts.drop 0) l.data.toList d.data.toList by rw [List.drop_zero])
  clear hC hb hTs hw c1 c2 hl hd
  go_enter Tryz.func109, Tryz.ntmps109
  go_wp2_with fail
  go_loopg [15] ts.length (fun gg v15 wr => ∃ k : Nat, v15 = .int .i64 k ∧ k + gg = ts.length ∧ Hid (askQ ts l.data.toList d.data.toList = askQ (ts.drop k) l.data.toList d.data.toList) ∧ Hid (Bel w wr))
  case atStart => exact ⟨0, rfl, by omega, H0.out, hid (Bel.refl w)⟩
  case round =>
    clear H0 c0
    obtain ⟨k, rfl, hk, HQ, HB⟩ := hrel
    have Hk := hid hk
    have hkn : k ≤ ts.length := by omega
    clear hk
    by_cases hlt : k < ts.length
    · obtain ⟨b3, o3, p, rfl, h3, hT⟩ := (HTs.out.next HB.out).place hlt
      have HA := hid (HCl.out wr p ts[k] HB.out hT)
      have HD := hid (ask_drop ts l.data.toList d.data.toList k hlt)
      generalize addrQ ts[k] l.data.toList d.data.toList = r at HA HD
      clear hT
      cases r with
      | some v =>
        have HA := (show Hid (Calls Tryz.prog 110 #[.pointer p, .pointer (some ⟨b1, 0, none⟩), .pointer (some ⟨b2, 0, none⟩)] wr fun e w' => e = .returned (.tuple #[.string ⟨v.toArray⟩, .bool true]) ∧ Bel wr w') from HA.out)
        have HY := hid (show askQ ts l.data.toList d.data.toList = some v from HQ.out.trans HD.out)
        clear HQ HD
        go_wp2_with (first | (go_at_fn 110; refine HA.out.mono ?_; rintro e w2 ⟨rfl, hb2⟩))
        go_ret2
        exact ⟨by rw [HY.out]; rfl, HB.out.trans hb2⟩
      | none =>
        have HA := (show Hid (Calls Tryz.prog 110 #[.pointer p, .pointer (some ⟨b1, 0, none⟩), .pointer (some ⟨b2, 0, none⟩)] wr fun e w' => e = .returned (.tuple #[.string ⟨#[]⟩, .bool false]) ∧ Bel wr w') from HA.out)
        have HY := hid (show askQ ts l.data.toList d.data.toList = askQ (ts.drop (k + 1)) l.data.toList d.data.toList from HQ.out.trans HD.out)
        clear HQ HD
        go_wp2_with (first | (go_at_fn 110; refine HA.out.mono ?_; rintro e w2 ⟨rfl, hb2⟩))
        go_roundg (gk - 1)
        case measure => have := Hk.out; omega
        case rel => exact ⟨k + 1, by go_num, by have := Hk.out; omega, HY.out, hid (HB.out.trans hb2)⟩
    · obtain rfl : k = ts.length := by omega
      have HY := hid (show askQ ts l.data.toList d.data.toList = none by rw [HQ.out, List.drop_length]; rfl)
      go_wp2_with fail
      go_ret2
      exact ⟨by rw [HY.out]; rfl, HB.out⟩
set_option maxHeartbeats 2000000 in
set_option maxRecDepth 100000 in
theorem chAddr_run (a : Option Addr) (ts : List (List En)) (l d : ByteArray) (w : World) (hw : Lat w) (hC : ChAt w a ts) (hl : l.size ≤ 4194304) (hd : d.size ≤ 4194304) :
    Calls Tryz.prog 64 #[.pointer a, .string l, .string d] w fun e w' => e = .returned (.tuple (optV (askQ ts l.data.toList d.data.toList))) ∧ Bel w w' := by
  obtain ⟨W, hW⟩ : ∃ W, W = (w.alloc (.cells #[.string l] 9)).alloc (.cells #[.string d] 9) := ⟨_, rfl⟩
  have HX := hid (show Bel w W by rw [hW]; exact ((Bel.refl w).alloc _).alloc _)
  have hb1 : W.heap[w.heap.size]? = some (.cells #[.string l] 9 (0, 0)) := by
    rw [hW]
    exact (Below.heap_alloc _ _ _ (by simp)).trans (heap_alloc_new w _)
  have hb2 : W.heap[w.heap.size + 1]? = some (.cells #[.string d] 9 (0, 0)) := by
    rw [hW]; exact Ci.alloc_second w _ _
  have HA := hid (ask_run a ts l d w.heap.size (w.heap.size + 1) W (hw.next HX.out) (hC.next HX.out) hl hd (by rw [Lib.cell_of_heap hb1]; rfl) (by rw [Lib.cell_of_heap hb2]; rfl))
  have hmf : ∀ (fn : Fn) (first cap : Array Value) (w : World), (Instr.makeFunc fn first cap).run Tryz.prog w = .ok (.func fn first cap) w := fun _ _ _ _ => rfl
  clear hw hC hb1 hb2
  obtain ⟨vs, vb, hv⟩ : ∃ vs vb, optV (askQ ts l.data.toList d.data.toList) = #[.string vs, .bool vb] := by cases askQ ts l.data.toList d.data.toList with
    | none => exact ⟨_, _, rfl⟩
    | some v => exact ⟨_, _, rfl⟩
  rw [hv] at HA ⊢
  clear hv
  go_enter Tryz.func64, Tryz.ntmps64
  go_wp2_with (first | (rw [← hW]; clear hW; go_at_call 109; refine HA.out.mono ?_; rintro e w1 ⟨rfl, hb1⟩) | (go_at_call 109; refine HA.out.mono ?_; rintro e w1 ⟨rfl, hb1⟩))
  go_ret2
  exact ⟨rfl, HX.out.trans hb1⟩
end Go.Proofs.YtpmmaickjolimaaGreatDoor.Tb

/- A range over a function that keeps its state in a variable of its own; strings.SplitSeq. -/
namespace Go.Proofs.YtpmmaickjolimaaGreatDoor.Tb
open Go.RowKit
open Ci (Bel hid own_bel row_shape own_base addr_add splitL)

section
variable {P : Program}
/-- What a round leaves of an iterator's variables: the blocks from lo on up to hi. -/
def KeepB (lo hi : Nat) (W W' : World) : Prop := ∀ k, lo ≤ k → k < hi → W'.heap[k]? = W.heap[k]?
/-- The same, of the first package-level variables too. -/
def KeepI (lo hi : Nat) (W W' : World) : Prop := KeepB lo hi W W' ∧ KeepB 0 8 W W'
/-- An iterator that hands out what xs says, one behind the other; its own variables lie from lo on up to hi. -/
def IterL (P : Program) (gf : Nat) (lb : Array Value) (xs : List (Array Value)) (lo hi : Nat) (w : World) : Prop :=
  ∀ (l : Nat) (J : Nat → World → Prop) (Jx : World → Prop) (W : World), KeepI lo hi w W →
    (∀ k W W' b, lo ≤ b → b < hi → J k W → W.grownBy W' (some b) → J k W') →
    (∀ W W' b, lo ≤ b → b < hi → Jx W → W.grownBy W' (some b) → Jx W') →
    (∀ k (hk : k < xs.length) W1, J k W1 → YieldAt Fence.wide 0 P l xs[k] W1 fun e W' => (e = .returned (.bool true) ∧ J (k + 1) W' ∧ KeepI lo hi W1 W') ∨ (e = .returned (.bool false) ∧ Jx W')) →
    J 0 W → CallsIn Fence.wide 0 P gf (#[.func (.yield l) #[] #[]] ++ lb) W fun e W' => (∃ v, e = .returned v) ∧ (J xs.length W' ∨ Jx W')
/-- How a round's body may be left. -/
def roundL (lo hi D : Nat) (J : World → Prop) (Jx : World → Prop) (W : World) : Exit → Act → World → Prop
  | .normal, _, W' => KeepI lo hi W W' ∧ KeepB D (D + 2) W W' ∧ J W'
  | .ret, _, W' => KeepB D (D + 2) W W' ∧ Jx W'
  | _, _, _ => False
theorem wpIn_range_list {g : Operand} {ps : Array Tmp} {assign body : Code} {Q : Exit → Act → World → Prop} {a : Act} {w : World} {gf : Nat} {lb : Array Value} (hg : a.eval g = .func (.func gf) #[] lb)
    (eg : ∀ args w, (callFunc gf args).run P w = .ok (.enter gf args) w) {xs : List (Array Value)} {lo hi : Nat} (hhi : hi ≤ w.heap.size) (h8 : 8 ≤ w.heap.size) (hit : IterL P gf lb xs lo hi w) (hps : ∀ x ∈ xs, x.size = ps.size)
    (J : Nat → World → Prop) (Jx : World → Prop) (hJ : ∀ k W W' row, J k W → W.grownBy W' row → (∀ r, row = some r → lo ≤ r ∧ r < hi ∨ w.heap.size ≤ r ∧ r < w.heap.size + 2) → J k W')
    (hJx : ∀ W W' row, Jx W → W.grownBy W' row → (∀ r, row = some r → lo ≤ r ∧ r < hi ∨ w.heap.size ≤ r ∧ r < w.heap.size + 2) → Jx W') (h0 : J 0 w) (a₁ : Nat → Act)
    (hassign : ∀ (l k : Nat) (hk : k < xs.length) (W : World) (K : Act → World → Prop), K (a₁ k) W → assign.wpIn (Fence.wide.inRound l) 0 P (Exit.then K (fun _ _ _ => False)) { tmps := (ps.zip xs[k]).foldl (fun t (p, v) => t.setIfInBounds p v) a.tmps, defers := [] } W)
    (hbody : ∀ (l k : Nat) (_ : k < xs.length) (W : World), J k W → w.heap.size + 2 ≤ W.heap.size → body.wpIn (Fence.wide.inRound l) 0 P (roundL lo hi w.heap.size (J (k + 1)) Jx W) (a₁ k) W)
    (hdone : ∀ (W : World), J xs.length W → W.heap[w.heap.size]? = some (.deferred (some [])) → Q .normal { a with defers := { target := .collected w.heap.size, args := #[] } :: a.defers } W)
    (hstop : ∀ (W : World), Jx W → W.heap[w.heap.size]? = some (.deferred (some [])) → Code.ret.wpIn Fence.wide 0 P Q { a with defers := { target := .collected w.heap.size, args := #[] } :: a.defers } W) :
    (Code.rangeFunc g ps assign body).wpIn Fence.wide 0 P Q a w := by
  refine wpIn_rangeFunc fun fn hfn => ?_
  obtain ⟨rc, hrc⟩ : ∃ rc : LoopState → Option Code → Loop, rc = fun st pe => { state := st, pending := pe, fn, tmps := a.tmps, params := ps, assign, body, defers := w.heap.size } := ⟨_, rfl⟩
  obtain ⟨W1, hW1⟩ : ∃ W1, W1 = (w.alloc (.deferred (some []))).alloc (.loop (rc .ready none)) := ⟨_, rfl⟩
  have hs1 : W1.heap.size = w.heap.size + 2 := by rw [hW1, World.size_alloc, World.size_alloc]
  have hL1 : W1.heap[w.heap.size + 1]? = some (.loop (rc .ready none)) := by rw [hW1]; exact Ci.alloc_second w _ _
  have hK1 : W1.heap[w.heap.size]? = some (.deferred (some [])) := by rw [hW1, heap_alloc_old _ _ (by rw [World.size_alloc]; omega)]; exact heap_alloc_new w _
  have hold : ∀ k, k < w.heap.size → W1.heap[k]? = w.heap[k]? := fun k hk => by rw [hW1, heap_alloc_old _ _ (by rw [World.size_alloc]; omega), heap_alloc_old _ _ hk]
  have hJ1 : J 0 W1 := hJ 0 w W1 none h0 (by rw [hW1]; exact ⟨rfl, rfl, rfl, by rw [World.size_alloc, World.size_alloc]; omega, fun k hk _ => by rw [heap_alloc_old _ _ (by rw [World.size_alloc]; omega), heap_alloc_old _ _ hk]⟩) (fun r e => by cases e)
  -- the law's own two blocks are turned, or one of the iterator's
  have own : ∀ {W W' : World} {b : Nat}, W.grownBy W' (some b) → (lo ≤ b ∧ b < hi) → ∀ j, w.heap.size ≤ j → j < W.heap.size → W'.heap[j]? = W.heap[j]? := fun hg hb j hj hj2 => hg.block j hj2 fun e => by cases e; omega
  have lt_of : ∀ {W : World} {j : Nat} {o : Obj}, W.heap[j]? = some o → j < W.heap.size := fun h => (Array.getElem?_eq_some_iff.1 h).1
  have turn : ∀ {W : World} {o : Obj} (o' : Obj), W.heap[w.heap.size + 1]? = some o → W.grownBy (W.putObj (w.heap.size + 1) o') (some (w.heap.size + 1)) ∧ (W.putObj (w.heap.size + 1) o').heap[w.heap.size + 1]? = some o' ∧ ∀ j, j ≠ w.heap.size + 1 → (W.putObj (w.heap.size + 1) o').heap[j]? = W.heap[j]? := fun o' h =>
    ⟨grownBy_putObj' _ _ _, World.putObj_heap_same (lt_of h), fun j hj => World.putObj_heap_other hj⟩
  have inL : ∀ r, some (w.heap.size + 1) = some r → lo ≤ r ∧ r < hi ∨ w.heap.size ≤ r ∧ r < w.heap.size + 2 := fun r e => by cases e; exact .inr ⟨by omega, by omega⟩
  refine ⟨w.heap.size + 1, [{ target := .collected w.heap.size, args := #[] }], W1, { target := .fn (.func gf) lb, args := #[.func (.yield (w.heap.size + 1)) #[] #[]] }, W1, gf, #[.func (.yield (w.heap.size + 1)) #[] #[]] ++ lb, W1, ?_, ?_, ?_, ?_, ?_, ?_⟩
  · rw [hW1, hrc]; exact run_enterLoop_outer _ _ _ _ _
  · simp only [resolve, hg]
    simp [go_sem]
  · intro _ _; trivial
  · simp [invoke, go_sem, eg]
  · intro h; cases h
  refine (hit (w.heap.size + 1) (fun k W => J k W ∧ W.heap[w.heap.size + 1]? = some (.loop (rc .ready none)) ∧ W.heap[w.heap.size]? = some (.deferred (some [])))
    (fun W => Jx W ∧ W.heap[w.heap.size + 1]? = some (.loop (rc .done (some .ret))) ∧ W.heap[w.heap.size]? = some (.deferred (some []))) W1 ⟨fun k _ h2 => hold k (by omega), fun k _ h2 => hold k (by omega)⟩
    (fun k W W' b h1 h2 h3 h4 => ⟨hJ k W W' _ h3.1 h4 fun r e => by cases e; exact .inl ⟨h1, h2⟩, (own h4 ⟨h1, h2⟩ _ (by omega) (lt_of h3.2.1)).trans h3.2.1, (own h4 ⟨h1, h2⟩ _ (by omega) (lt_of h3.2.2)).trans h3.2.2⟩)
    (fun W W' b h1 h2 h3 h4 => ⟨hJx W W' _ h3.1 h4 fun r e => by cases e; exact .inl ⟨h1, h2⟩, (own h4 ⟨h1, h2⟩ _ (by omega) (lt_of h3.2.1)).trans h3.2.1, (own h4 ⟨h1, h2⟩ _ (by omega) (lt_of h3.2.2)).trans h3.2.2⟩)
    ?_ ⟨hJ1, hL1, hK1⟩).mono ?_
  · intro k hk W hW
    obtain ⟨hj, hl, hd⟩ := hW
    have hy := run_yield (P := P) (args := xs[k]) hl (by rw [hrc]; exact hps _ (List.getElem_mem hk))
    rw [hrc] at hy
    refine ⟨fn, _, assign, body, hy, roundIn_of_wpIn hfn (hassign _ k hk W _ ⟨_, run_beginRound hl (by rw [hrc]), ?_⟩)⟩
    obtain ⟨t1, t2, t3⟩ := turn (.loop { rc .ready none with state := .busy }) hl
    have hsz := t1.size
    have hlw := lt_of hl
    refine wpIn_mono (hbody _ k hk _ (hJ k _ _ _ hj t1 inL) (Nat.le_trans (show w.heap.size + 2 ≤ W.heap.size by omega) t1.size)) ?_
    rintro e a3 W3 hp
    cases e with
    | normal =>
      obtain ⟨p1, p2, p3⟩ := hp
      have hl3 : W3.heap[w.heap.size + 1]? = some (.loop { rc .ready none with state := .busy }) := (p2 _ (by omega) (by omega)).trans t2
      have hd3 : W3.heap[w.heap.size]? = some (.deferred (some [])) := (p2 _ (by omega) (by omega)).trans ((t3 _ (by omega)).trans hd)
      obtain ⟨u1, u2, u3⟩ := turn (.loop (rc .ready none)) hl3
      have her := run_endRound (P := P) none hl3
      refine ⟨_, _, her, .inl ⟨rfl, ⟨hJ _ _ _ _ p3 (by rw [hrc] at u1 ⊢; exact u1) inL, by rw [hrc] at u2 ⊢; exact u2, ?_⟩, fun j h1 h2 => ?_, fun j h1 h2 => ?_⟩⟩
      · have := u3 w.heap.size (by omega)
        rw [hrc] at this ⊢
        exact this.trans hd3
      · have := u3 j (by omega)
        rw [hrc] at this ⊢
        exact this.trans ((p1.1 j h1 h2).trans (t3 j (by omega)))
      · have := u3 j (by omega)
        rw [hrc] at this ⊢
        exact this.trans ((p1.2 j h1 h2).trans (t3 j (by omega)))
    | ret =>
      obtain ⟨p2, p3⟩ := hp
      have hl3 : W3.heap[w.heap.size + 1]? = some (.loop { rc .ready none with state := .busy }) := (p2 _ (by omega) (by omega)).trans t2
      have hd3 : W3.heap[w.heap.size]? = some (.deferred (some [])) := (p2 _ (by omega) (by omega)).trans ((t3 _ (by omega)).trans hd)
      obtain ⟨u1, u2, u3⟩ := turn (.loop (rc .done (some .ret))) hl3
      have her := run_endRound (P := P) (some .ret) hl3
      refine ⟨_, _, her, .inr ⟨rfl, hJx _ _ _ p3 (by rw [hrc] at u1 ⊢; exact u1) inL, by rw [hrc] at u2 ⊢; exact u2, ?_⟩⟩
      have := u3 w.heap.size (by omega)
      rw [hrc] at this ⊢
      exact this.trans hd3
    | exit id => exact hp.elim
    | goto t => exact hp.elim
    | panic ch => exact hp.elim
    | outgrown => exact hp.elim
  · rintro e W2 ⟨⟨v, rfl⟩, (⟨h1, h2, h3⟩ | ⟨h1, h2, h3⟩)⟩
    · obtain ⟨t1, -, t3⟩ := turn (.loop { rc .ready none with state := .exhausted }) h2
      exact ⟨none, _, by have := run_endLoop (P := P) h2 (by rw [hrc]; simp); rw [hrc] at this ⊢; exact this, hdone _ (hJ _ _ _ _ h1 t1 inL) ((t3 _ (by omega)).trans h3)⟩
    · obtain ⟨t1, -, t3⟩ := turn (.loop { rc .done (some .ret) with state := .exhausted }) h2
      exact ⟨some .ret, _, by have := run_endLoop (P := P) h2 (by rw [hrc]; simp); rw [hrc] at this ⊢; exact this, hstop _ (hJx _ _ _ h1 t1 inL) ((t3 _ (by omega)).trans h3)⟩
end
/-! strings.SplitSeq -/
attribute [local go_sem] Oper.semAt_some
theorem split_rest (c : UInt8) (l : List UInt8) : (∃ i : Nat, Lib.index l [c] = i ∧ i + 1 ≤ l.length ∧ splitL c l = l.take i :: splitL c (l.drop (i + 1))) ∨ (Lib.index l [c] = -1 ∧ splitL c l = [l]) := by
  by_cases h : c ∈ l
  · obtain ⟨p, t, rfl, hp⟩ := List.eq_append_cons_of_mem h
    refine .inl ⟨p.length, Ci.index_one_some c p t hp, by simp, ?_⟩
    rw [Ci.splitL_app c p t hp, List.take_left' rfl, show p ++ c :: t = (p ++ [c]) ++ t by simp, List.drop_left' (by simp)]
  · exact .inr ⟨Ci.index_one_none c l h, Ci.splitL_none c l h⟩
def pcV (ps : List (List UInt8)) : List (Array Value) := ps.map fun p => #[Value.string ⟨p.toArray⟩]
/-- The iterator's variables: what is split, the sign, how much of it is kept. -/
structure SsW (b : Nat) (c : UInt8) (W : World) (r : ByteArray) : Prop where
  s : W.heap[b]? = some (.cells #[.string r] 9 (0, 0))
  sep : W.heap[b + 1]? = some (.cells #[.string ⟨#[c]⟩] 9 (0, 0))
  n : W.heap[b + 2]? = some (.cells #[.int .i64 0] 3 (0, 0))
  most : ∃ m, W.cell? ⟨0, 0, none⟩ = some (.int .i64 m)
theorem SsW.keep {b : Nat} {c : UInt8} {W W' : World} {r : ByteArray} (h : SsW b c W r) (hk : KeepI b (b + 3) W W') : SsW b c W' r := by
  refine ⟨(hk.1 _ (by omega) (by omega)).trans h.s, (hk.1 _ (by omega) (by omega)).trans h.sep, (hk.1 _ (by omega) (by omega)).trans h.n, ?_⟩
  obtain ⟨m, hm⟩ := h.most
  exact ⟨m, (World.cell?_of_block (a := ⟨0, 0, none⟩) (hk.2 _ (Nat.zero_le _) (by decide))).trans hm⟩
theorem SsW.set {b : Nat} {c : UInt8} {W : World} {r : ByteArray} (h : SsW b c W r) (hb : 8 ≤ b) (r' : ByteArray) : SsW b c (W.setCell ⟨b, 0, none⟩ (.string r')) r' := by
  refine ⟨heap_setCell_same _ _ _ _ _ _ h.s, (heap_setCell_other _ _ _ _ (show b + 1 ≠ b by omega)).trans h.sep, (heap_setCell_other _ _ _ _ (show b + 2 ≠ b by omega)).trans h.n, ?_⟩
  obtain ⟨m, hm⟩ := h.most
  have hne : 0 ≠ b := by
    have : 0 < 8 := by decide
    omega
  exact ⟨m, (World.cell?_of_block (a := ⟨0, 0, none⟩) (heap_setCell_other _ _ _ _ hne)).trans hm⟩
theorem grown_set {W : World} {b k : Nat} {cur : Array Value} {T : TypeId} {fz : Nat × Nat} (_ : W.heap[b]? = some (.cells cur T fz)) (v : Value) : W.grownBy (W.setCell ⟨b, k, none⟩ v) (some b) :=
  ⟨rfl, rfl, rfl, by rw [World.size_setCell]; exact Nat.le_refl _, fun j _ hne => heap_setCell_other _ _ _ _ fun e => hne (by rw [e])⟩
/-- How much is left to split. -/
def leftS (b : Nat) (W : World) : Nat := match W.cell? ⟨b, 0, none⟩ with
  | some (.string r) => r.size
  | _ => 0
theorem SsW.left {b : Nat} {c : UInt8} {W : World} {r : ByteArray} (h : SsW b c W r) : leftS b W = r.size := by
  unfold leftS
  rw [Lib.cell_of_heap h.s]; rfl
/-- What is in hand where a piece begins. -/
structure SsI (b : Nat) (c : UInt8) (l : List UInt8) (J : Nat → World → Prop) (wr : World) (k : Nat) (r : ByteArray) : Prop where
  mem : SsW b c wr r
  has : J k wr
  eq : (splitL c l).drop k = splitL c r.data.toList
theorem pc_len (ps : List (List UInt8)) : (pcV ps).length = ps.length := by unfold pcV; rw [List.length_map]
theorem pc_at {ps : List (List UInt8)} {k : Nat} {p : List UInt8} {q : List (List UInt8)} (h : ps.drop k = p :: q) : ∃ hk : k < (pcV ps).length, (pcV ps)[k] = #[Value.string ⟨p.toArray⟩] ∧ ps.drop (k + 1) = q := by
  have hk : k < ps.length := by
    refine Nat.lt_of_not_le fun hge => ?_
    rw [List.drop_eq_nil_of_le hge] at h; cases h
  rw [List.drop_eq_getElem_cons hk] at h
  obtain ⟨h1, h2⟩ := List.cons.inj h
  refine ⟨by rw [pc_len]; exact hk, ?_, h2⟩
  unfold pcV
  rw [List.getElem_map, h1]
set_option maxHeartbeats 4000000 in
set_option maxRecDepth 100000 in
theorem split_iter (s : ByteArray) (c : UInt8) (b : Nat) (w : World) (hs : s.size < 4294967281) (h : SsW b c w s) (hb8 : 8 ≤ b) :
    IterL Tryz.prog 192 #[.pointer (some ⟨b + 1, 0, none⟩), .pointer (some ⟨b, 0, none⟩), .pointer (some ⟨b + 2, 0, none⟩)] (pcV (splitL c s.data.toList)) b (b + 3) w := by
  intro l J Jx W hk hJ hJx hY h0
  refine callsIn_of_wp Tryz.func192 rfl trivial ?_ rfl
  simp only [Tryz.ntmps192, List.size_toArray, List.length_cons, List.length_nil, Nat.reduceAdd, Nat.reduceSub, Array.replicate_succ, Array.replicate_zero, List.push_toArray, List.append_toArray, List.nil_append, List.cons_append]
  have HI0 := hid (show SsI b c s.data.toList J W 0 s from ⟨h.keep hk, h0, by rw [List.drop_zero]⟩)
  have c2 : W.cell? ⟨b + 1, 0, none⟩ = some (.string ⟨#[c]⟩) := by rw [Lib.cell_of_heap HI0.out.mem.sep]; rfl
  have HY := hid hY
  have HJ := hid hJ
  have HJx := hid hJx
  clear hk h hY hJ hJx h0
  gi_wp2
  gi_loopw [] (fun wr => ∃ (k : Nat) (r : ByteArray), r.size ≤ s.size ∧ Hid (SsI b c s.data.toList J wr k r)) (fun wr => leftS b wr)
  case atStart => exact ⟨0, s, Nat.le_refl _, HI0⟩
  case round =>
    clear HI0 c2
    obtain ⟨k, r, hrs, HI⟩ := hrel
    have c1 : wr.cell? ⟨b, 0, none⟩ = some (.string r) := by rw [Lib.cell_of_heap HI.out.mem.s]; rfl
    have c2 : wr.cell? ⟨b + 1, 0, none⟩ = some (.string ⟨#[c]⟩) := by rw [Lib.cell_of_heap HI.out.mem.sep]; rfl
    have c3 : wr.cell? ⟨b + 2, 0, none⟩ = some (.int .i64 0) := by rw [Lib.cell_of_heap HI.out.mem.n]; rfl
    obtain ⟨m, hm⟩ := HI.out.mem.most
    have HX := (show Hid (Calls Tryz.prog 170 #[.string r, .string ⟨#[c]⟩] wr fun e w' => e = .returned (.int .i64 (Lib.index r.data.toList [c])) ∧ w' = wr) from Tryz.strings_Index r ⟨#[c]⟩ m wr (by omega) hm)
    clear hm
    rcases split_rest c r.data.toList with ⟨i, hi, hil, hsp⟩ | ⟨hi, hsp⟩
    · rw [hi] at HX
      have hlr := Lib.size_eq r
      obtain ⟨hkl, hkx, hkd⟩ := pc_at (HI.out.eq.trans hsp)
      have hfr := Ma.front_str r i
      obtain ⟨fn, tmps, assign, body, hy, hR⟩ := HY.out k hkl wr HI.out.has
      rw [hkx, ← hfr] at hy
      have hrest : (r.extract (i + 1) r.size).data.toList = r.data.toList.drop (i + 1) := by rw [Lib.extract_to_end]
      have HN := hid (show SsI b c s.data.toList J wr k r → True from fun _ => trivial)
      have hle : (r.extract (i + 1) r.size).size = r.size - (i + 1) := by rw [ByteArray.size_extract]; omega
      have HH := hid (And.intro hrest (And.intro hkd hle))
      have f1 := HI.out.mem.s
      clear hrest hkd hle HN hi hsp hkx hfr
      have hil2 : i + 1 ≤ r.size := by omega
      have HLr := hid hlr
      clear hlr hil
      gi_wp2_with (first | (refine ⟨trivial, rfl, ?_⟩; refine (callsIn_wide.2 HX.out).mono ?_; rintro e w2 ⟨rfl, rfl⟩))
      refine ⟨rfl, hR.mono ?_⟩
      rintro e W3 (⟨rfl, hJ3, hk3⟩ | ⟨rfl, hJx3⟩)
      · have hm3 := HI.out.mem.keep hk3
        have d1 : W3.cell? ⟨b, 0, none⟩ = some (.string r) := by rw [Lib.cell_of_heap hm3.s]; rfl
        have d2 : W3.cell? ⟨b + 1, 0, none⟩ = some (.string ⟨#[c]⟩) := by rw [Lib.cell_of_heap hm3.sep]; rfl
        have d3 : W3.cell? ⟨b + 2, 0, none⟩ = some (.int .i64 0) := by rw [Lib.cell_of_heap hm3.n]; rfl
        have d4 : W3.frozen? ⟨b, 0, none⟩ = false := Lib.frozen_of_heap hm3.s 0
        have HM3 := hid hm3
        have HJ3 := hid hJ3
        clear hJ3 hm3 hk3
        gi_wp2
        have hl2 := HM3.out.left
        have hl1 := HI.out.mem.left
        have hm := HM3.out.set hb8 (r.extract (i + 1) r.size)
        exact ⟨⟨k + 1, r.extract (i + 1) r.size, by rw [HH.out.2.2]; omega, hid ⟨hm, HJ.out (k + 1) _ _ b (Nat.le_refl _) (by omega) HJ3.out (grown_set HM3.out.s _), HH.out.2.1.trans (by rw [HH.out.1])⟩⟩, by rw [hm.left, hl1, HH.out.2.2]; omega⟩
      · gi_wp2
        refine bodyPost_ret (results_none rfl _ _ _) rfl ?_
        exact ⟨⟨_, rfl⟩, .inr hJx3⟩
    · rw [hi] at HX
      obtain ⟨hkl, hkx, hkd⟩ := pc_at (HI.out.eq.trans hsp)
      obtain ⟨fn, tmps, assign, body, hy, hR⟩ := HY.out k hkl wr HI.out.has
      rw [hkx] at hy
      have hkN : k + 1 = (pcV (splitL c s.data.toList)).length := by
        have := congrArg List.length hkd
        rw [List.length_drop, List.length_nil] at this
        rw [pc_len] at hkl ⊢
        omega
      clear hi hsp hkx hkd hkl
      gi_wp2_with (first | (refine ⟨trivial, rfl, ?_⟩; refine (callsIn_wide.2 HX.out).mono ?_; rintro e w2 ⟨rfl, rfl⟩))
      refine ⟨rfl, hR.mono ?_⟩
      rintro e W3 (⟨rfl, hJ3, -⟩ | ⟨rfl, hJx3⟩)
      · gi_wp2
        go_end0
        exact ⟨⟨_, rfl⟩, .inl (by rw [← hkN]; exact hJ3)⟩
      · gi_wp2
        go_end0
        exact ⟨⟨_, rfl⟩, .inr hJx3⟩
set_option maxRecDepth 100000 in
theorem splitSeq_run (s : ByteArray) (c : UInt8) (w : World) (hw : Lat w) : Calls Tryz.prog 160 #[.string s, .string ⟨#[c]⟩, .int .i64 0] w fun e w' => e = .returned (.func (.func 192) #[] #[.pointer (some ⟨w.heap.size + 1, 0, none⟩), .pointer (some ⟨w.heap.size, 0, none⟩), .pointer (some ⟨w.heap.size + 2, 0, none⟩)]) ∧ Bel w w' ∧ w'.heap.size = w.heap.size + 3 ∧ SsW w.heap.size c w' s := by
  have hmf : ∀ (fn : Fn) (first cap : Array Value) (w : World), (Instr.makeFunc fn first cap).run Tryz.prog w = .ok (.func fn first cap) w := fun _ _ _ _ => rfl
  have hB : Bel w (((w.alloc (.cells #[.string s] 9)).alloc (.cells #[.string ⟨#[c]⟩] 9)).alloc (.cells #[.int .i64 0] 3)) := (((Bel.refl w).alloc _).alloc _).alloc _
  obtain ⟨m, hm⟩ := (hw.next hB).lay.most
  have HX := hid (show Bel w (((w.alloc (.cells #[.string s] 9)).alloc (.cells #[.string ⟨#[c]⟩] 9)).alloc (.cells #[.int .i64 0] 3)) ∧ (((w.alloc (.cells #[.string s] 9)).alloc (.cells #[.string ⟨#[c]⟩] 9)).alloc (.cells #[.int .i64 0] 3)).heap.size = w.heap.size + 3 ∧ SsW w.heap.size c (((w.alloc (.cells #[.string s] 9)).alloc (.cells #[.string ⟨#[c]⟩] 9)).alloc (.cells #[.int .i64 0] 3)) s from by
    refine ⟨hB, by rw [World.size_alloc, World.size_alloc, World.size_alloc], ⟨?_, ?_, ?_, m, hm⟩⟩
    · rw [heap_alloc_old _ _ (by rw [World.size_alloc, World.size_alloc]; omega), heap_alloc_old _ _ (by rw [World.size_alloc]; omega)]
      exact heap_alloc_new w _
    · rw [heap_alloc_old _ _ (by rw [World.size_alloc, World.size_alloc]; omega)]
      exact Ci.alloc_second w _ _
    · have := heap_alloc_new ((w.alloc (.cells #[.string s] 9)).alloc (.cells #[.string ⟨#[c]⟩] 9)) (.cells #[.int .i64 0] 3)
      rw [World.size_alloc, World.size_alloc] at this
      exact this)
  clear hB hm hw
  go_enter Tryz.func160, Tryz.ntmps160
  go_wp2_with fail
  go_ret
  exact ⟨rfl, HX.out⟩
set_option maxRecDepth 100000 in
theorem splitSeqP_run (s : ByteArray) (c : UInt8) (w : World) (hw : Lat w) : Calls Tryz.prog 112 #[.string s, .string ⟨#[c]⟩] w fun e w' => e = .returned (.func (.func 192) #[] #[.pointer (some ⟨w.heap.size + 1, 0, none⟩), .pointer (some ⟨w.heap.size, 0, none⟩), .pointer (some ⟨w.heap.size + 2, 0, none⟩)]) ∧ Bel w w' ∧ w'.heap.size = w.heap.size + 3 ∧ SsW w.heap.size c w' s := by
  have HS := hid (splitSeq_run s c w hw)
  clear hw
  go_enter Tryz.func112, Tryz.ntmps112
  go_wp2_with (first | (go_at_call 160; refine HS.out.mono ?_; rintro e w1 ⟨rfl, h1⟩))
  go_ret
  exact ⟨rfl, h1⟩
end Go.Proofs.YtpmmaickjolimaaGreatDoor.Tb

/- Walk: (*line).add of table; an append that tells where the row lies behind. -/
namespace Go.Proofs.YtpmmaickjolimaaGreatDoor.Tb
open Go.RowKit
open Ci (Bel hid own_bel row_shape own_base addr_add trim_run)

section
variable {P : Program}
/-- One struct is appended to a row of one's own: the row lies where it lay, or in a new block. -/
theorem wpList_push_at {W : World} {ops : Array Oper} {rest : List Oper} {o : Oper} {a : Act} {Q : Exit → Act → World → Prop} (hgd : o.guard = none) (s x : Operand) (t : TypeId)
    (ho : o.op = .call { callee := .builtin .append, args := #[s, x], argTypes := #[t, t] })
    (e : TypeId) (z : Value) (size bytes : Nat) (ht : P.underlying t = some (.slice e)) (hi : (P.info? e).map (fun i => (i.zero, i.size, i.bytes)) = some (some z, size, bytes)) (hzs : z.cells.size = size) (hsz : 0 < size)
    (base : Nat) (v : Value) (n : Nat) (xs : List Value) (hs : a.eval s = v) (hown : W.ownsRow base e size v n xs) (hb : base ≤ W.heap.size)
    (c : Array Value) (hx : a.eval x = .slice (some ⟨W.heap.size, 0, none⟩) 1 1) (hc : c.size = size) (h1 : ∀ u ∈ c.toList, u.oneCell' = true) (hm : n + 1 ≤ maxLen) (hbytes : (n + 1) * bytes ≤ 140737488355328)
    (h : ∀ v' w', w'.ownsRow base e size v' (n + 1) (xs ++ c.toList) → (W.alloc (.cells c e)).grownBy w' v.ownBlock → (v'.ownBlock = v.ownBlock ∨ ∃ g, v'.ownBlock = some g ∧ W.heap.size ≤ g) → wpList P ops Q rest (a.put o.dst v') w') :
    wpList P ops Q (o :: rest) a (W.alloc (.cells c e)) := by
  obtain ⟨i, hi, j2, j3, j4⟩ := info_parts hi
  have hnew : ∀ j u, c.toList[j]? = some u → (W.alloc (.cells c e)).cell? ((⟨W.heap.size, 0, none⟩ : Addr).add j) = some u := fun j u hu => by
    rw [addr_add, Nat.zero_add]
    have e := heap_alloc_new W (.cells c e)
    simp only [World.cell?, e]
    simpa using hu
  have hl : c.toList.length = 1 * size := by rw [Array.length_toList, hc, Nat.one_mul]
  have hbase : base ≤ (W.alloc (.cells c e)).heap.size := by rw [World.size_alloc]; omega
  have hrun := run_append_own (P := P) (W.alloc (.cells c e)) base t o.type e i z size bytes ht hi j2 j3 j4 hzs hsz v n xs (hown.alloc _) ⟨W.heap.size, 0, none⟩ 1 1 c.toList hl hnew h1 hm hbytes hbase
  obtain ⟨v', w', hr, h2, h3, -⟩ := hrun
  have hfr : v'.ownBlock = v.ownBlock ∨ ∃ g, v'.ownBlock = some g ∧ W.heap.size ≤ g := by
    have hm2 : n + 1 ≤ 9223372036854775807 := by unfold maxLen at hm; omega
    rcases (hown.alloc (.cells c e)).2 with ⟨rfl, rfl⟩ | ⟨g, cap, cur, rfl, -, hg, hnc, -, hcs, -⟩
    · have hr2 := run_append_nil (P := P) (W.alloc (.cells c e)) t o.type e i z ht hi j2 ⟨W.heap.size, 0, none⟩ 1 1 c.toList (by rw [j3]; exact hl) hnew (by decide) (by omega) (by rw [j4]; omega)
      rw [hr] at hr2
      injection hr2 with e1 e2
      rw [e1]
      exact .inr ⟨(W.alloc (.cells c e)).heap.size, rfl, by rw [World.size_alloc]; exact Nat.le_succ _⟩
    · by_cases hroom : n + 1 ≤ cap
      · have hr2 := run_append_room (P := P) (W.alloc (.cells c e)) t o.type e i ht hi g n cap cur hg ⟨W.heap.size, 0, none⟩ 1 1 c.toList (by rw [j3]; exact hl) hnew h1 hroom (by
          rw [j3, hl, hcs, ← Nat.add_mul]; exact Nat.mul_le_mul_right _ hroom)
        rw [hr] at hr2
        injection hr2 with e1 e2
        rw [e1]
        exact .inl rfl
      · have holds : ∀ j u, xs[j]? = some u → (W.alloc (.cells c e)).cell? ((⟨g, 0, none⟩ : Addr).add j) = some u := (hown.alloc _).cells (g := g) rfl
        have hr2 := run_append_grow (P := P) (W.alloc (.cells c e)) t o.type e i z ht hi j2 ⟨g, 0, none⟩ n cap xs (by rw [j3]; exact hown.1) holds ⟨W.heap.size, 0, none⟩ 1 1 c.toList (by rw [j3]; exact hl) hnew (by omega) (by omega) (by rw [j4]; exact growslice_fits (by omega) hbytes)
        rw [hr] at hr2
        injection hr2 with e1 e2
        rw [e1]
        exact .inr ⟨(W.alloc (.cells c e)).heap.size, rfl, by rw [World.size_alloc]; exact Nat.le_succ _⟩
  refine wpList_plain hgd fun _ hK => ?_
  unfold Oper.wp execOp
  simp only [ho, resolve, invoke, builtin, Sem.run_bind, Sem.run_pure, Result.andThen_ok, List.map_toArray, List.map_cons, List.map_nil, hs, hx, hr]
  exact hK _ _ (h v' w' h2 h3 hfr)
/-- A row of other elements lies in another block. -/
theorem own_ne {w : World} {base e size n b : Nat} {v : Value} {xs : List Value} {cur : Array Value} {T : TypeId} {fz : Nat × Nat} (h : w.ownsRow base e size v n xs) (hb : w.heap[b]? = some (.cells cur T fz)) (hT : T ≠ e) : v.ownBlock ≠ some b := by
  intro hv
  rcases h.2 with ⟨rfl, -⟩ | ⟨g, cap, cu, rfl, -, hg, -⟩
  · cases hv
  · cases hv
    rw [hb] at hg
    cases hg
    exact hT rfl
end
def strs (l : List (List UInt8)) : List Value := l.map fun x => Value.string ⟨x.toArray⟩
theorem str_infos : (Tryz.prog.info? 9).map (fun i => (i.zero, i.size, i.bytes)) = some (some (.string ⟨#[]⟩), 1, 16) := by kernel_rfl
/-- What stands where a piece was put to a line. -/
structure AddP (base b o : Nat) (pv : Value) (cur : Array Value) (L : List (List UInt8)) (w w' : World) (pv' : Value) : Prop where
  blk : w'.heap[b]? = some (.cells (cur.setIfInBounds (o + 2) pv') 157 (0, 0))
  row : w'.ownsRow base 9 1 pv' L.length (strs L)
  keep : ∀ k, k < w.heap.size → k ≠ b → some k ≠ pv.ownBlock → w'.heap[k]? = w.heap[k]?
  os : w'.os = w.os
  tape : w'.tape = w.tape
  output : w'.output = w.output
  size : w.heap.size ≤ w'.heap.size
  fresh : pv'.ownBlock = pv.ownBlock ∨ ∃ g, pv'.ownBlock = some g ∧ w.heap.size ≤ g
set_option maxHeartbeats 2000000 in
set_option maxRecDepth 100000 in
theorem add_run (base b o : Nat) (s : ByteArray) (pv : Value) (pcs : List (List UInt8)) (cur : Array Value) (w : World) (hb : w.heap[b]? = some (.cells cur 157 (0, 0))) (ho : cur[o + 2]? = some pv)
    (hown : w.ownsRow base 9 1 pv pcs.length (strs pcs)) (hbase : base ≤ w.heap.size) (hs : s.size ≤ 9223372036854775807) (hn : pcs.length ≤ 1000000) :
    Calls Tryz.prog 152 #[.pointer (some ⟨b, o, none⟩), .string s] w fun e w' => e = .returned (.tuple #[]) ∧ ∃ pv', AddP base b o pv cur (addPc pcs s.data.toList) w w' pv' := by
  have HT := hid (trim_run s ⟨#[32, 9]⟩ w hs (by decide) (by decide))
  have HX : Hid (addPc pcs s.data.toList = if Lib.trimS s.data.toList [32, 9] = [] then pcs else pcs ++ [Lib.trimS s.data.toList [32, 9]]) := hid rfl
  obtain ⟨t, ht⟩ : ∃ t : ByteArray, t = ⟨(Lib.trimS s.data.toList [32, 9]).toArray⟩ := ⟨_, rfl⟩
  have ht2 : t.data.toList = Lib.trimS s.data.toList [32, 9] := by rw [ht]
  have HT2 := (show Hid (Calls Tryz.prog 79 #[.string s, .string ⟨#[32, 9]⟩] w fun e w' => e = .returned (.string t) ∧ Bel w w') from by rw [ht]; exact HT.out)
  rw [← ht2] at HX
  clear HT ht ht2
  have hbw : b < w.heap.size := (Array.getElem?_eq_some_iff.1 hb).1
  have hol : o + 2 < cur.size := (Array.getElem?_eq_some_iff.1 ho).1
  obtain ⟨ax, np, cp, rfl⟩ : ∃ ax np cp, pv = .slice ax np cp := by
    obtain ⟨x, c, e, -⟩ := row_shape hown
    exact ⟨_, _, _, e⟩
  have HA := hid (And.intro hb (And.intro ho (And.intro hown hbase)))
  clear hb ho hown hbase
  by_cases h0 : t.data.toList = []
  · have b1 : (t.toList == []) = true := by rw [ByteArray.toList_eq, h0]; rfl
    have b2 : (t.toList != []) = false := by rw [ByteArray.toList_eq, h0]; rfl
    have b3 : t.toList.isEmpty = true := by rw [ByteArray.toList_eq, h0]; rfl
    have HY := hid (show addPc pcs s.data.toList = pcs by rw [HX.out, if_pos h0])
    clear h0 HX
    go_enter Tryz.func152, Tryz.ntmps152
    go_wp2_with (first | (go_at_call 79; refine HT2.out.mono ?_; rintro e w1 ⟨rfl, hb1⟩; have HB1 := hid hb1; clear hb1))
    go_end0
    obtain ⟨hb, ho, hown, hbase⟩ := HA.out
    have hB := HB1.out
    refine ⟨rfl, .slice ax np cp, ⟨?_, ?_, fun k hk _ _ => hB.block k hk, hB.os, hB.tape, hB.output, hB.size, .inl rfl⟩⟩
    · rw [hB.heap hb]
      congr 2
      refine Array.ext (by simp) fun i h1 h2 => ?_
      rw [Array.getElem_setIfInBounds]
      split
      · rename_i e
        subst e
        exact ((Array.getElem?_eq_some_iff.1 ho).2)
      · rfl
    · rw [HY.out]; exact own_bel hown hB
  · have b1 : (t.toList == []) = false := by
      rw [ByteArray.toList_eq]
      cases h : t.data.toList with
      | nil => exact absurd h h0
      | cons => rfl
    have b2 : (t.toList != []) = true := by
      rw [ByteArray.toList_eq]
      cases h : t.data.toList with
      | nil => exact absurd h h0
      | cons => rfl
    have b3 : t.toList.isEmpty = false := by
      rw [ByteArray.toList_eq]
      cases h : t.data.toList with
      | nil => exact absurd h h0
      | cons => rfl
    have HY := hid (show addPc pcs s.data.toList = pcs ++ [t.data.toList] by rw [HX.out, if_neg h0])
    clear h0 HX
    go_enter Tryz.func152, Tryz.ntmps152
    go_wp2_with (first | (go_at_call 79; refine HT2.out.mono ?_; rintro e w1 ⟨rfl, hb1⟩; have HB1 := hid hb1; clear hb1; have c0 : w1.cell? ⟨b, o + 2, none⟩ = some (.slice ax np cp) := (by rw [Lib.cell_of_heap (HB1.out.heap HA.out.1)]; exact HA.out.2.1)) | (at_builtin; refine wpList_push_at (W := w1) rfl _ _ 46 rfl 9 (.string ⟨#[]⟩) 1 16 Tryz.underlying46 str_infos rfl (by decide) base (.slice ax np cp) pcs.length _ rfl (own_bel HA.out.2.2.1 HB1.out) (Nat.le_trans HA.out.2.2.2 HB1.out.size) _ rfl rfl (by intro u hu; simp at hu; rcases hu with rfl; rfl) (by unfold maxLen; omega) (by omega) ?_; intro v' w9 hown9 hg9 hf9; have H9 := hid (And.intro hown9 (And.intro hg9 hf9)); obtain ⟨x9, n9, p9, hv9⟩ : ∃ x n p, v' = .slice x n p := (by obtain ⟨x, c, e, -⟩ := row_shape hown9; exact ⟨_, _, _, e⟩); clear hown9 hg9 hf9; subst hv9; have e9 : w9.heap[b]? = some (.cells cur 157 (0, 0)) := (by rw [H9.out.2.1.block b (by rw [World.size_alloc]; have := HB1.out.size; omega) (fun e => own_ne HA.out.2.2.1 HA.out.1 (by decide) e.symm), heap_alloc_old w1 _ (Nat.lt_of_lt_of_le hbw HB1.out.size)]; exact HB1.out.heap HA.out.1); have c9 : w9.cell? ⟨b, o + 2, none⟩ = some (.slice ax np cp) := (by rw [Lib.cell_of_heap e9]; exact HA.out.2.1); have f9 : w9.frozen? ⟨b, o + 2, none⟩ = false := Lib.frozen_of_heap e9 (o + 2)))
    go_end0
    obtain ⟨hb, ho, hown, hbase⟩ := HA.out
    obtain ⟨hown9, hg9, hf9⟩ := H9.out
    have hB := HB1.out
    refine ⟨rfl, .slice x9 n9 p9, ⟨heap_setCell_same _ _ _ _ _ _ e9, ?_, ?_, ?_, ?_, ?_, ?_, ?_⟩⟩
    · rw [HY.out]
      have e : strs (pcs ++ [t.data.toList]) = strs pcs ++ [.string t] := by unfold strs; rw [List.map_append]; rfl
      rw [e, List.length_append]
      have hne := own_ne hown9 e9 (by decide)
      rcases hown9.2 with f | ⟨g, cap, cu, ev, hg, hh, rest⟩
      · exact ⟨hown9.1, .inl f⟩
      · refine ⟨hown9.1, .inr ⟨g, cap, cu, ev, hg, ?_, rest⟩⟩
        rw [heap_setCell_other _ _ _ _ (fun e => hne (by rw [ev]; simp [Value.ownBlock, e]))]
        exact hh
    · intro k hk h1 h2
      rw [heap_setCell_other _ _ _ _ h1, hg9.block k (by rw [World.size_alloc]; have := hB.size; omega) h2, heap_alloc_old w1 _ (Nat.lt_of_lt_of_le hk hB.size)]
      exact hB.block k hk
    · exact hg9.os.trans hB.os
    · exact hg9.tape.trans hB.tape
    · exact hg9.output.trans hB.output
    · rw [World.size_setCell]
      have := hg9.size
      rw [World.size_alloc] at this
      have := hB.size
      omega
    · rcases hf9 with f | ⟨g, e, f⟩
      · exact .inl f
      · exact .inr ⟨g, e, Nat.le_trans hB.size f⟩
end Go.Proofs.YtpmmaickjolimaaGreatDoor.Tb
