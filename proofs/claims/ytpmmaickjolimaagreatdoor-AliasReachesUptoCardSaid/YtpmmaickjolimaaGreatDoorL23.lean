/- AliasReaches: the law's walk. -/
import Derived.Test.YtpmmaickjolimaaGreatDoorL22
import Derived.Test.YtpmmaickjolimaaGreatDoorL11
import Derived.Test.YtpmmaickjolimaaGreatDoorRows
import Derived.ProofKit
import Derived.OpenShut
import Derived.ChangeArms
import Derived.DataShut
import Derived.Deep.Slices
import Derived.Deep.Fields
import Derived.ChangeSame
import Derived.Carry
import Derived.Test.YtpmmaickjolimaaGreatDoorL03
import Derived.Deep.DeepHandedRow
import Derived.Deep.DeepWitnessRowRef
import Derived.Lib.LaidIn
import Derived.Lib.LaidTab
import Derived.Lib.LaidU8
import Derived.Stop.LaidErr
import Derived.HandedShaped
import Derived.WalkSmall
import Derived.Test.YtpmmaickjolimaaGreatDoorL20
namespace Go.Proofs.YtpmmaickjolimaaGreatDoor.Tb
open Go.RowKit
open Ci (Bel hid own_bel row_shape own_base addr_add splitL Aft wp_region_aft quiet_load_aft)
open Ma (Pt Pts ptC ptCs mbQ pt_infos pt_size ptCs_snoc ptCs_at rightP good_small)
open Ex (Xs findX goX expX nxt endB Fin_ Lw exp_fin addX)

theorem small_of {ts : List (List En)} {p q : Pt} {s : Xs Pt} (hf : Fin_ (dQ ts) p s) (hp : p.loc.length ≤ 4194304 ∧ p.dom.length ≤ 4194304) (hq : q ∈ s.met) : q.loc.length ≤ 4194304 ∧ q.dom.length ≤ 4194304 := by
  have h1 := hf.reach (· ∈ p :: univ ts) (fun q r _ hr => List.mem_cons_of_mem _ (nxt_univ hr)) (List.mem_cons_self ..) q hq
  rcases List.mem_cons.1 h1 with rfl | h1
  · exact hp
  · obtain ⟨es, -, h2⟩ := List.mem_flatMap.1 h1
    obtain ⟨e, -, h3⟩ := List.mem_flatMap.1 h2
    exact good_small (valP_good _ q h3)
/-- Those who have been come to, in hand. -/
structure RcI (ts : List (List En)) (p : Pt) (s : Xs Pt) (w2 wr : World) (v : Value) (all : List Pt) (i n : Nat) : Prop where
  bel : Bel w2 wr
  row : wr.ownsRow w2.heap.size 39 4 v all.length (ptCs all)
  lw : Lw (dQ ts) p s all i n
/-- The same, while those are gone through whom one stands for. -/
structure RdI (ts : List (List En)) (p : Pt) (s : Xs Pt) (w2 : World) (q : Pt) (x : Option Addr) (l : List Pt) (ok : Bool) (i n k : Nat) (wr : World) (v : Value) (all : List Pt) (e : Bool) : Prop where
  rc : RcI ts p s w2 wr v all i n
  at_ : all[i]? = some q
  lst : l = [] ∨ ∃ b o, x = some ⟨b, o, none⟩ ∧ b < wr.heap.size ∧ v.ownBlock ≠ some b ∧ ∀ k (hk : k < l.length), wr.rangeAt b (o + k * 4) (ptC l[k])
  inc : ∀ r ∈ l.take k, r ∈ all
  en : e = (!ok || decide (q ∈ l.take k))
theorem RdI.bel {ts : List (List En)} {p : Pt} {s : Xs Pt} {w2 : World} {q : Pt} {x : Option Addr} {l : List Pt} {ok : Bool} {i n k : Nat} {wr wx : World} {v : Value} {all : List Pt} {e : Bool} (h : RdI ts p s w2 q x l ok i n k wr v all e) (hb : Bel wr wx) : RdI ts p s w2 q x l ok i n k wx v all e :=
  ⟨⟨h.rc.bel.trans hb, own_bel h.rc.row hb, h.rc.lw⟩, h.at_, h.lst.imp id fun ⟨b, o, a1, a2, a3, a4⟩ => ⟨b, o, a1, Nat.lt_of_lt_of_le a2 hb.size, a3, fun k hk j u hu => (bel_cell hb a2).trans (a4 k hk j u hu)⟩, h.inc, h.en⟩
theorem take_succ_mem {l : List Pt} {k : Nat} (hk : k < l.length) {r : Pt} : r ∈ l.take (k + 1) ↔ r ∈ l.take k ∨ r = l[k] := by
  rw [List.take_succ_eq_append_getElem hk, List.mem_append, List.mem_singleton]
theorem en_step {ok e : Bool} {q : Pt} {l : List Pt} {k : Nat} (hk : k < l.length) (h : e = (!ok || decide (q ∈ l.take k))) : (e || decide (l[k] = q)) = (!ok || decide (q ∈ l.take (k + 1))) := by
  rw [h, Bool.or_assoc]
  congr 1
  by_cases h1 : q ∈ l.take k
  · rw [decide_eq_true h1, decide_eq_true ((take_succ_mem hk).2 (.inl h1))]; rfl
  · by_cases h2 : l[k] = q
    · rw [decide_eq_true h2, decide_eq_true ((take_succ_mem hk).2 (.inr h2.symm))]; simp
    · rw [decide_eq_false h1, decide_eq_false h2, decide_eq_false fun h3 => ((take_succ_mem hk).1 h3).elim h1 fun e => h2 e.symm]; rfl
/-- One that is there already. -/
theorem RdI.skip {ts : List (List En)} {p : Pt} {s : Xs Pt} {w2 : World} {q : Pt} {x : Option Addr} {l : List Pt} {ok : Bool} {i n k : Nat} {wr : World} {v : Value} {all : List Pt} {e : Bool} (h : RdI ts p s w2 q x l ok i n k wr v all e) (hk : k < l.length) (hm : l[k] ∈ all) : RdI ts p s w2 q x l ok i n (k + 1) wr v all (e || decide (l[k] = q)) :=
  ⟨h.rc, h.at_, h.lst, fun r hr => ((take_succ_mem hk).1 hr).elim (h.inc r) fun e => e ▸ hm, en_step hk h.en⟩
/-- One is laid behind. -/
theorem RdI.push {ts : List (List En)} {p : Pt} {s : Xs Pt} {w2 : World} {q : Pt} {x : Option Addr} {l : List Pt} {ok : Bool} {i n k : Nat} {wr w9 : World} {v v' : Value} {all : List Pt} {e : Bool} {o : Obj} (h : RdI ts p s w2 q x l ok i n k wr v all e) (hk : k < l.length) (hm : l[k] ∉ all) (hmet : l[k] ∈ s.met)
    (hg : (wr.alloc o).grownBy w9 v.ownBlock) (hf : v'.ownBlock = v.ownBlock ∨ ∃ g, v'.ownBlock = some g ∧ wr.heap.size ≤ g) (ho : w9.ownsRow w2.heap.size 39 4 v' (all.length + 1) (ptCs all ++ ptC l[k])) : RdI ts p s w2 q x l ok i n (k + 1) w9 v' (all ++ [l[k]]) (e || decide (l[k] = q)) := by
  have hadd : addX all l[k] = all ++ [l[k]] := if_neg hm
  have hlw := h.rc.lw.add hmet
  rw [hadd] at hlw
  have hgz := hg.size
  rw [World.size_alloc] at hgz
  refine ⟨⟨Ci.Bel.grown (h.rc.bel.alloc _) hg (h.rc.row.alloc _), by rw [ptCs_snoc, List.length_append]; exact ho, hlw⟩, ?_, ?_, fun r hr => ?_, en_step hk h.en⟩
  · obtain ⟨hi, he⟩ := List.getElem?_eq_some_iff.1 h.at_
    rw [List.getElem?_append_left hi]; exact h.at_
  · rcases h.lst with f | ⟨b, o2, a1, a2, a3, a4⟩
    · exact .inl f
    · refine .inr ⟨b, o2, a1, by omega, ?_, fun k hk j u hu => ?_⟩
      · rcases hf with e1 | ⟨g, e1, hge⟩
        · rw [e1]; exact a3
        · rw [e1]; intro e2; have := Option.some.inj e2; omega
      · refine (World.cell?_of_block (a := ⟨b, o2 + k * 4 + j, none⟩) ?_).trans (a4 k hk j u hu)
        rw [hg.block b (by rw [World.size_alloc]; omega) (fun e => a3 e.symm), heap_alloc_old _ _ a2]
  · rcases (take_succ_mem hk).1 hr with h1 | rfl
    · exact List.mem_append_left _ (h.inc r h1)
    · simp
end Go.Proofs.YtpmmaickjolimaaGreatDoor.Tb

/- AliasReaches: the law's walk, the whole. -/
namespace Go.Proofs.YtpmmaickjolimaaGreatDoor.Tb
open Go.RowKit
open Ci (Bel hid own_bel row_shape own_base addr_add splitL Aft wp_region_aft quiet_load_aft)
open Ma (Pt Pts ptC ptCs mbQ pt_infos pt_size ptCs_snoc ptCs_at rightP good_small)
open Ex (Xs findX goX expX nxt endB Fin_ Lw exp_fin addX)

theorem nx_in {ts : List (List En)} {q r : Pt} (h : r ∈ nxt (dQ ts) q) : r ∈ (directQ ts q).1 := by
  unfold nxt dQ at h
  split at h
  · exact h
  · cases h
theorem in_nx {ts : List (List En)} (hD : ∀ q, (directQ ts q).2 = false → (directQ ts q).1 = []) {q r : Pt} (h : r ∈ (directQ ts q).1) : r ∈ nxt (dQ ts) q := by
  unfold nxt dQ
  cases hk : (directQ ts q).2 with
  | true => exact h
  | false => rw [hD q hk] at h; cases h
theorem end_eq (ts : List (List En)) (q : Pt) : endB (dQ ts) q = (!(directQ ts q).2 || decide (q ∈ (directQ ts q).1)) := by
  unfold endB dQ
  cases (directQ ts q).2 <;> rfl
/-- How many mailboxes the tables' values have. -/
theorem al_univ {W : World} {a : Option Addr} {ts : List (List En)} (hv : ∀ es ∈ ts, valsR es = true) (hA : AlAt W a ts) : (univ ts).length ≤ 1600000 := by
  obtain ⟨b, ch, -, -, hC⟩ := hA.at_
  obtain ⟨b2, x, c, -, -, hT⟩ := hC.at_
  refine univ_len hv hC.num fun es he => ?_
  obtain ⟨k, hk, rfl⟩ := List.getElem_of_mem he
  obtain ⟨_, _, p, -, -, h⟩ := hT.place hk
  exact h.num
theorem dir_len {ts : List (List En)} (hv : ∀ es ∈ ts, valsR es = true) (q : Pt) : (directQ ts q).1.length ≤ 100 := by
  unfold directQ
  split
  · exact Nat.zero_le _
  · cases ha : askQ ts q.loc q.dom with
    | none => exact Nat.zero_le _
    | some v =>
      obtain ⟨es, h1, e, h2, rfl⟩ := ask_in ha
      have := hv es h1
      unfold valsR at this
      rw [List.all_eq_true] at this
      exact valP_len (this e h2)
/-- How New ends, in two cases. -/
theorem new_cases (x : Option Addr) (bs : List ByteArray) (c : Nat) (w : World) (hw : Lat w) (hS : Sts w x bs) :
    (∀ W, Bel w W → Calls Tryz.prog 22 #[.slice x bs.length c] W fun e w' => ∃ code : Int, code ≠ 0 ∧ e = .returned (.tuple #[.pointer none, .int .i64 code]) ∧ Bel W w') ∨
    ∃ ts, (∀ q, (directQ ts q).2 = false → (directQ ts q).1 = []) ∧ (∀ es ∈ ts, valsR es = true) ∧ ∀ W, Bel w W → Calls Tryz.prog 22 #[.slice x bs.length c] W fun e w' => ∃ a, e = .returned (.tuple #[.pointer a, .int .i64 0]) ∧ Bel W w' ∧ AlAt w' a ts := by
  have h := fun W (hb : Bel w W) => new_run x bs c W (hw.next hb) (hS.next hb)
  by_cases h8 : 8 < (bs.map (·.data.toList)).length
  · refine .inl fun W hb => (h W hb).mono fun e w' hp => ?_
    unfold NewPost at hp
    rw [if_pos h8] at hp
    exact ⟨1, by decide, hp⟩
  · cases hn : newF (bs.map (·.data.toList)) [] with
    | none =>
      refine .inl fun W hb => (h W hb).mono fun e w' hp => ?_
      unfold NewPost at hp
      rw [if_neg h8, hn] at hp
      exact ⟨163, by decide, hp⟩
    | some ts =>
      refine .inr ⟨ts, fun q hq => new_direct hn q hq, new_right _ [] ts hn fun es he => (by cases he), fun W hb => (h W hb).mono fun e w' hp => ?_⟩
      unfold NewPost at hp
      rw [if_neg h8, hn] at hp
      exact hp
set_option maxHeartbeats 8000000 in
set_option maxRecDepth 100000 in
theorem reaches_run (x : Option Addr) (bs : List ByteArray) (c : Nat) (p : Pt) (w : World) (hw : Lat w) (hS : Sts w x bs) (hp : p.loc.length ≤ 4194304 ∧ p.dom.length ≤ 4194304) :
    Calls Tryz.prog 6 #[.slice x bs.length c, .agg (ptC p).toArray] w fun e w' => e = .returned (.bool true) ∧ Bel w w' := by
  have HW := hid hw
  have HAw := (show Hid (∀ W, Bel w W → Calls Tryz.prog 21 #[] W fun e w' => e = .returned (.bool true) ∧ Bel W w') from fun W hb => awake_run W (hw.next hb))
  have HP := hid hp
  have HNC := new_cases x bs c w hw hS
  clear hw hS hp
  generalize bs.length = n0 at HNC ⊢
  rcases HNC with HN | ⟨ts, HD, HV, HN⟩
  · have HN := hid HN
    obtain ⟨nl, lc, dm, lt⟩ := p
    have HB0 := hid ((Bel.refl w).alloc (.cells #[.bool nl, .string ⟨lc.toArray⟩, .string ⟨dm.toArray⟩, .bool lt] 39))
    show Calls _ _ #[.slice x n0 c, .agg #[.bool nl, .string ⟨lc.toArray⟩, .string ⟨dm.toArray⟩, .bool lt]] _ _
    go_enter Tryz.func6, Tryz.ntmps6
    go_wp2_with (first | (go_at_call 21; refine (HAw.out _ HB0.out).mono ?_; rintro e w1 ⟨rfl, hb1⟩; have HB1 := hid (HB0.out.trans hb1); clear hb1) | (go_at_call 22; refine (HN.out w1 HB1.out).mono ?_; rintro e w3 ⟨code, hcode, rfl, hb3⟩; have b1 : (code == 0) = false := (by simpa using hcode)))
    go_ret
    exact ⟨rfl, HB1.out.trans hb3⟩
  · have HN := hid HN
    have HD := hid HD
    have HV := hid HV
    obtain ⟨nl, lc, dm, lt⟩ := p
    have hcs := expand_cases ts (⟨nl, lc, dm, lt⟩ : Pt)
    have HE0 := fun (a : Option Addr) (W : World) (hb : Bel w W) (hA : AlAt W a ts) => Expand_run a ts (⟨nl, lc, dm, lt⟩ : Pt) W (HW.out.next hb) hA HD.out HP.out.1 HP.out.2
    generalize expandQ ts (⟨nl, lc, dm, lt⟩ : Pt) = D at HE0 hcs
    have HB0 := hid ((Bel.refl w).alloc (.cells #[.bool nl, .string ⟨lc.toArray⟩, .string ⟨dm.toArray⟩, .bool lt] 39))
    have HC0 := hid (heap_alloc_new w (.cells #[.bool nl, .string ⟨lc.toArray⟩, .string ⟨dm.toArray⟩, .bool lt] 39))
    have HE := (show Hid (∀ a W, Bel w W → AlAt W a ts → Calls Tryz.prog 23 #[.pointer a, .agg #[.bool nl, .string ⟨lc.toArray⟩, .string ⟨dm.toArray⟩, .bool lt]] W fun e w' => ∃ x c, e = .returned (.tuple #[.slice x D.1.length c, .int .i64 D.2]) ∧ Bel W w' ∧ Pts w' x D.1) from HE0)
    clear HE0
    show Calls _ _ #[.slice x n0 c, .agg #[.bool nl, .string ⟨lc.toArray⟩, .string ⟨dm.toArray⟩, .bool lt]] _ _
    rcases hcs with ⟨hc1, hc2⟩ | ⟨s, hfin, hex, hne⟩
    · rw [hc2] at HE
      generalize D.2 = code at HE hc1
      have b2 : (code == 0) = false := by simpa using hc1
      go_enter Tryz.func6, Tryz.ntmps6
      go_wp2_with (first | (go_at_call 21; refine (HAw.out _ HB0.out).mono ?_; rintro e w1 ⟨rfl, hb1⟩; have HB1 := hid (HB0.out.trans hb1); have HB01 := hid hb1; clear hb1) | (go_at_call 22; refine (HN.out w1 HB1.out).mono ?_; rintro e w3 ⟨a, rfl, hb3, hA3⟩; have q3 := hb3.heap (HB01.out.heap HC0.out); have d0 : w3.cell? ⟨w.heap.size, 0, none⟩ = some (.bool nl) := (by rw [Lib.cell_of_heap q3]; rfl); have d1 : w3.cell? ⟨w.heap.size, 1, none⟩ = some (.string ⟨lc.toArray⟩) := (by rw [Lib.cell_of_heap q3]; rfl); have d2 : w3.cell? ⟨w.heap.size, 2, none⟩ = some (.string ⟨dm.toArray⟩) := (by rw [Lib.cell_of_heap q3]; rfl); have d3 : w3.cell? ⟨w.heap.size, 3, none⟩ = some (.bool lt) := (by rw [Lib.cell_of_heap q3]; rfl); obtain ⟨ab, ach, rfl, -, -⟩ := hA3.at_; have HB3 := hid (HB1.out.trans hb3); have HA3 := hid hA3; have HQ3 := hid q3; clear hb3 hA3 q3) | (go_at_call 23; refine (HE.out _ w3 HB3.out HA3.out).mono ?_; rintro e w4 ⟨x4, c4, rfl, hb4, hp4⟩))
      go_ret
      exact ⟨rfl, HB3.out.trans hb4⟩
    · rw [hex] at HE
      have HE := (show Hid (∀ a W, Bel w W → AlAt W a ts → Calls Tryz.prog 23 #[.pointer a, .agg #[.bool nl, .string ⟨lc.toArray⟩, .string ⟨dm.toArray⟩, .bool lt]] W fun e w' => ∃ x c, e = .returned (.tuple #[.slice x s.out.length c, .int .i64 0]) ∧ Bel W w' ∧ Pts w' x s.out) from HE.out)
      have HFin := hid hfin
      have HNe := hid hne
      have hol : s.out.length ≤ 9223372036854775807 := by have := hfin.len; omega
      clear hex hfin hne
      generalize hsl : s.out.length = sl at HE hol
      have HSL := hid hsl
      clear hsl
      go_enter Tryz.func6, Tryz.ntmps6
      go_wp2_with (first | (go_at_call 21; refine (HAw.out _ HB0.out).mono ?_; rintro e w1 ⟨rfl, hb1⟩; have HB1 := hid (HB0.out.trans hb1); have HB01 := hid hb1; clear hb1) | (go_at_call 22; refine (HN.out w1 HB1.out).mono ?_; rintro e w3 ⟨a, rfl, hb3, hA3⟩; have q3 := hb3.heap (HB01.out.heap HC0.out); have d0 : w3.cell? ⟨w.heap.size, 0, none⟩ = some (.bool nl) := (by rw [Lib.cell_of_heap q3]; rfl); have d1 : w3.cell? ⟨w.heap.size, 1, none⟩ = some (.string ⟨lc.toArray⟩) := (by rw [Lib.cell_of_heap q3]; rfl); have d2 : w3.cell? ⟨w.heap.size, 2, none⟩ = some (.string ⟨dm.toArray⟩) := (by rw [Lib.cell_of_heap q3]; rfl); have d3 : w3.cell? ⟨w.heap.size, 3, none⟩ = some (.bool lt) := (by rw [Lib.cell_of_heap q3]; rfl); obtain ⟨ab, ach, rfl, -, -⟩ := hA3.at_; have HB3 := hid (HB1.out.trans hb3); have HA3 := hid hA3; have HQ3 := hid q3; clear hb3 hA3 q3) | (go_at_call 23; refine (HE.out _ w3 HB3.out HA3.out).mono ?_; rintro e w4 ⟨x4, c4, rfl, hb4, hp4⟩; have q4 := hb4.heap HQ3.out; have y0 : w4.cell? ⟨w.heap.size, 0, none⟩ = some (.bool nl) := (by rw [Lib.cell_of_heap q4]; rfl); have y1 : w4.cell? ⟨w.heap.size, 1, none⟩ = some (.string ⟨lc.toArray⟩) := (by rw [Lib.cell_of_heap q4]; rfl); have y2 : w4.cell? ⟨w.heap.size, 2, none⟩ = some (.string ⟨dm.toArray⟩) := (by rw [Lib.cell_of_heap q4]; rfl); have y3 : w4.cell? ⟨w.heap.size, 3, none⟩ = some (.bool lt) := (by rw [Lib.cell_of_heap q4]; rfl); have HB4 := hid (HB3.out.trans hb4); have HB34 := hid hb4; have HA4 := hid (HA3.out.next hb4); have HP4 := hid hp4; clear hb4 hp4 q4) | (at_builtin; refine wpList_push_at (W := w4) rfl (.tmp 49) (.tmp 51) 37 rfl 39 (.agg #[.bool false, .string ⟨#[]⟩, .string ⟨#[]⟩, .bool false]) 4 48 Tryz.underlying37 pt_infos rfl (by decide) w4.heap.size (.slice none 0 0) 0 [] rfl (World.ownsRow_nil _ _ _ _) (Nat.le_refl _) _ rfl rfl (by intro u hu; simp at hu; rcases hu with rfl | rfl | rfl | rfl <;> rfl) (by decide) (by decide) ?_; intro v9 w9 hown9 hg9 hf9; obtain ⟨x9, c9, rfl, -, -⟩ := row_shape hown9; have HO9 := hid hown9; have HG9 := hid hg9; clear hown9 hg9 hf9))
      have hrc : RcI ts ⟨nl, lc, dm, lt⟩ s w4 w9 (.slice x9 1 c9) [⟨nl, lc, dm, lt⟩] 0 0 := by
        refine ⟨Ci.Bel.grown ((Bel.refl w4).alloc _) HG9.out (World.ownsRow_nil _ _ 39 4), ?_, Lw.start HFin.out⟩
        have h := HO9.out
        exact h
      have HRC := hid hrc
      clear hrc
      go_loopg [10, 11, 12] (s.met.length + 1) (fun gg v10 v11 v12 wr => ∃ (i n : Nat) (all : List Pt) (xv : Option Addr) (cv na : Nat), v10 = .slice xv na cv ∧ v11 = .int .i64 n ∧ v12 = .int .i64 i ∧ i + gg = s.met.length + 1 ∧ Hid (all.length = na ∧ RcI ts ⟨nl, lc, dm, lt⟩ s w4 wr (.slice xv na cv) all i n))
      case atStart => exact ⟨0, 0, [⟨nl, lc, dm, lt⟩], x9, c9, 1, rfl, rfl, rfl, by omega, hid ⟨rfl, HRC.out⟩⟩
      case round =>
        obtain ⟨i, n, all, xv, cv, na, rfl, rfl, rfl, hi, HI⟩ := hrel
        obtain ⟨Wr, hWr⟩ : ∃ Wr, Wr = wr := ⟨_, rfl⟩
        subst hWr
        obtain ⟨gout, hg0⟩ : ∃ gout, gout = gk := ⟨_, rfl⟩
        subst hg0
        have hle : i ≤ na := HI.out.1 ▸ HI.out.2.lw.le
        have Hi := hid hi
        clear hi
        by_cases hlt : i < na
        · have hli : i < all.length := by rw [HI.out.1]; exact hlt
          have hrow : Pts Wr xv all := pts_of_row (c := cv) (base := w4.heap.size) (by rw [HI.out.1]; have := HI.out.2.row; rw [HI.out.1] at this; exact this)
          obtain ⟨b, o, rfl, hr⟩ := hrow.place hli
          have hqm := small_of HFin.out HP.out (HI.out.2.lw.sub all[i] (List.getElem_mem hli))
          have hqmet := HI.out.2.lw.sub all[i] (List.getElem_mem hli)
          have hat : all[i]? = some all[i] := List.getElem?_eq_getElem hli
          have htold := HI.out.2.lw.told HFin.out hli
          have hstep := fun hc => HI.out.2.lw.step hli hc
          generalize all[i] = q at hr hqm hat htold hstep hqmet
          have HDir := (show Hid (Calls Tryz.prog 24 #[.pointer (some ⟨ab, 0, none⟩), .agg (ptC q).toArray] Wr fun e w' => ∃ x c, e = .returned (.tuple #[.slice x (directQ ts q).1.length c, .bool (directQ ts q).2]) ∧ Bel Wr w' ∧ Pts w' x (directQ ts q).1 ∧ ∀ ad, x = some ad → Wr.heap.size ≤ ad.block) from direct_run (some ⟨ab, 0, none⟩) ts q Wr (HW.out.next (HB4.out.trans HI.out.2.bel)) (HA4.out.next HI.out.2.bel) hqm.1 hqm.2)
          have hnx : ∀ r ∈ nxt (dQ ts) q, r ∈ (directQ ts q).1 := fun r hr => nx_in hr
          have hmet : ∀ r ∈ (directQ ts q).1, r ∈ s.met := fun r hr => HFin.out.clo q hqmet r (in_nx HD.out hr)
          have hend := end_eq ts q
          have hdl := dir_len HV.out q
          generalize directQ ts q = D5 at HDir hmet hend hnx hdl
          obtain ⟨l5, ok⟩ := D5
          have hdl : l5.length ≤ 100 := hdl
          obtain ⟨nq, lq, mq, tq⟩ := q
          have g0 : Wr.cell? ⟨b, o + i * 4, none⟩ = some (.bool nq) := hr 0 _ rfl
          have g1 : Wr.cell? ⟨b, o + i * 4 + 1, none⟩ = some (.string ⟨lq.toArray⟩) := hr 1 _ rfl
          have g2 : Wr.cell? ⟨b, o + i * 4 + 2, none⟩ = some (.string ⟨mq.toArray⟩) := hr 2 _ rfl
          have g3 : Wr.cell? ⟨b, o + i * 4 + 3, none⟩ = some (.bool tq) := hr 3 _ rfl
          have HDir := (show Hid (Calls Tryz.prog 24 #[.pointer (some ⟨ab, 0, none⟩), .agg #[.bool nq, .string ⟨lq.toArray⟩, .string ⟨mq.toArray⟩, .bool tq]] Wr fun e w' => ∃ x c, e = .returned (.tuple #[.slice x l5.length c, .bool ok]) ∧ Bel Wr w' ∧ Pts w' x l5 ∧ ∀ ad, x = some ad → Wr.heap.size ≤ ad.block) from HDir.out)
          have b1 : decide ((i : Int) < 0) = false := decide_eq_false (by omega)
          have b2 : decide ((na : Int) ≤ (i : Int)) = false := decide_eq_false (by omega)
          have HNx := hid hnx
          have HMore := hid (And.intro hat (And.intro htold (And.intro hmet hend)))
          have HStep := hid hstep
          clear hr hqm hqmet hat htold hstep hmet hend hrow hnx
          go_wp2_with (first | (go_at_call 24; refine HDir.out.mono ?_; rintro e w5 ⟨x5, c5, rfl, hb5, hp5, hf5⟩; have HB5 := hid hb5; have HP5 := hid hp5; have HF5 := hid hf5; clear hb5 hp5 hf5))
          have hrd : RdI ts (⟨nl, lc, dm, lt⟩ : Pt) s w4 (⟨nq, lq, mq, tq⟩ : Pt) x5 l5 ok i n 0 w5 (.slice (some ⟨b, o, none⟩) na cv) all (!ok) := by
            refine ⟨⟨HI.out.2.bel.trans HB5.out, own_bel HI.out.2.row HB5.out, HI.out.2.lw⟩, HMore.out.1, ?_, fun r hr => (by cases hr), by simp⟩
            rcases HP5.out.at_ with f | ⟨b5, o5, e, hs, f⟩
            · exact .inl f
            · refine .inr ⟨b5, o5, e, hs, fun e2 => ?_, f⟩
              have hge := HF5.out _ e
              rcases HI.out.2.row.2 with ⟨e3, -⟩ | ⟨g, cap, cur, e3, -, hgg, -⟩
              · cases (Value.slice.inj e3).1
              · cases (Value.slice.inj e3).1
                have e4 : b = b5 := Option.some.inj e2
                have h5 := (Array.getElem?_eq_some_iff.1 hgg).1
                have h6 : Wr.heap.size ≤ b5 := hge
                omega
          have HRd := hid hrd
          clear hrd
          go_loopg [10, 15, 16] l5.length (fun gg v10 v15 v16 wr => ∃ (k : Nat) (all' : List Pt) (xv' : Option Addr) (cv' na' : Nat) (eb : Bool), v10 = .slice xv' na' cv' ∧ v15 = .bool eb ∧ v16 = .int .i64 k ∧ k + gg = l5.length ∧ Hid (all'.length = na' ∧ RdI ts (⟨nl, lc, dm, lt⟩ : Pt) s w4 (⟨nq, lq, mq, tq⟩ : Pt) x5 l5 ok i n k wr (.slice xv' na' cv') all' eb))
          case atStart => exact ⟨0, all, _, cv, na, !ok, rfl, rfl, rfl, by omega, hid ⟨HI.out.1, HRd.out⟩⟩
          case round =>
            obtain ⟨k, all', xv', cv', na', eb, rfl, rfl, rfl, hk, HJ⟩ := hrel
            have hkle : k ≤ l5.length := by omega
            have Hk := hid hk
            clear hk
            by_cases hlk : k < l5.length
            · obtain ⟨b5, o5, rfl, hs5, hv5, hel⟩ : ∃ b o, x5 = some ⟨b, o, none⟩ ∧ b < wr.heap.size ∧ Value.ownBlock (.slice xv' na' cv') ≠ some b ∧ ∀ k (hk : k < l5.length), wr.rangeAt b (o + k * 4) (ptC l5[k]) := by
                rcases HJ.out.2.lst with f | f
                · rw [f] at hlk; cases hlk
                · exact f
              have hr5 := hel k hlk
              have hmr := HMore.out.2.2.1 l5[k] (List.getElem_mem hlk)
              have hskip := fun hm => HJ.out.2.skip hlk hm
              obtain ⟨hi', hq'⟩ := List.getElem?_eq_some_iff.1 HJ.out.2.at_
              have hrow7 : Pts wr xv' all' := pts_of_row (c := cv') (base := w4.heap.size) (by have h := HJ.out.2.rc.row; rw [← HJ.out.1] at h; exact h)
              have HIn := hid (fun W (hb : Bel wr W) => in_run xv' all' cv' l5[k] W (hrow7.next hb) (by
                obtain ⟨_, cap, -, h1, h2⟩ := row_shape HJ.out.2.rc.row
                omega))
              have hpush := fun (W : World) (hb : Bel wr W) hm {w9 : World} {v' : Value} {o : Obj} => (HJ.out.2.bel hb).push (w9 := w9) (v' := v') (o := o) hlk hm hmr
              generalize l5[k] = rr at hr5 hmr hskip HIn hpush
              obtain ⟨dq, hdq⟩ : ∃ dq, dq = decide (rr = (⟨nq, lq, mq, tq⟩ : Pt)) := ⟨_, rfl⟩
              rw [← hdq] at hskip
              have HSk := hid hskip
              have HPu := (show Hid (∀ (W : World), Bel wr W → rr ∉ all' → ∀ {w9 : World} {v' : Value} {o : Obj}, (W.alloc o).grownBy w9 (Value.slice xv' na' cv').ownBlock → (v'.ownBlock = (Value.slice xv' na' cv').ownBlock ∨ ∃ g, v'.ownBlock = some g ∧ W.heap.size ≤ g) → w9.ownsRow w4.heap.size 39 4 v' (all'.length + 1) (ptCs all' ++ ptC rr) → RdI ts (⟨nl, lc, dm, lt⟩ : Pt) s w4 (⟨nq, lq, mq, tq⟩ : Pt) (some ⟨b5, o5, none⟩) l5 ok i n (k + 1) w9 v' (all' ++ [rr]) (eb || dq)) from by rw [hdq]; exact hpush)
              have HL5 := hid hlk
              obtain ⟨nr, lr, mr, tr⟩ := rr
              rw [HJ.out.1] at HIn
              have u0 : wr.cell? ⟨b5, o5 + k * 4, none⟩ = some (.bool nr) := hr5 0 _ rfl
              have u1 : wr.cell? ⟨b5, o5 + k * 4 + 1, none⟩ = some (.string ⟨lr.toArray⟩) := hr5 1 _ rfl
              have u2 : wr.cell? ⟨b5, o5 + k * 4 + 2, none⟩ = some (.string ⟨mr.toArray⟩) := hr5 2 _ rfl
              have u3 : wr.cell? ⟨b5, o5 + k * 4 + 3, none⟩ = some (.bool tr) := hr5 3 _ rfl
              clear hskip hpush hel
              have K1 := hid (fun p : Aft wr => show p.wd.rangeAt b5 (o5 + k * 4) (ptC ⟨nr, lr, mr, tr⟩) from fun j u hu => (bel_cell p.bel hs5).trans (hr5 j u hu))
              have K2 := hid (fun p : Aft wr => show ∃ b7 o7, xv' = some ⟨b7, o7, none⟩ ∧ p.wd.rangeAt b7 (o7 + i * 4) (ptC ⟨nq, lq, mq, tq⟩) from by
                obtain ⟨b7, o7, e, hr7⟩ := (hrow7.next p.bel).place hi'
                rw [hq'] at hr7
                exact ⟨b7, o7, e, hr7⟩)
              obtain ⟨b7, o7, rfl, -⟩ := hrow7.place hi'
              have K3 := hid (fun p : Aft wr => show p.wd.rangeAt b7 (o7 + i * 4) (ptC ⟨nq, lq, mq, tq⟩) from by
                obtain ⟨b8, o8, e, h⟩ := K2.out p
                cases e; exact h)
              have hna7 : i < na' := HJ.out.1 ▸ hi'
              have c1 : decide ((k : Int) < 0) = false := decide_eq_false (by omega)
              have c2 : decide ((l5.length : Int) ≤ (k : Int)) = false := decide_eq_false (by omega)
              have c3 : decide ((na' : Int) ≤ (i : Int)) = false := decide_eq_false (by omega)
              have HE := fun W => eq_ptc (⟨nr, lr, mr, tr⟩ : Pt) ⟨nq, lq, mq, tq⟩ W
              rw [← hdq] at HE
              clear hdq
              have HIn := (show Hid (∀ W, Bel wr W → Calls Tryz.prog 25 #[.slice (some ⟨b7, o7, none⟩) na' cv', .agg #[.bool nr, .string ⟨lr.toArray⟩, .string ⟨mr.toArray⟩, .bool tr]] W fun e w' => e = .returned (.bool (decide ((⟨nr, lr, mr, tr⟩ : Pt) ∈ all'))) ∧ Bel W w') from fun W hb => HIn.out W hb)
              have hun : all'.length ≤ 1600001 := met_len HFin.out HJ.out.2.rc.lw (al_univ HV.out HA4.out)
              have HUn := hid hun
              have HS5 := hid hs5
              clear hr5 hrow7 hi' hq' hun hs5 hmr
              by_cases hm : (⟨nr, lr, mr, tr⟩ : Pt) ∈ all'
              · rw [decide_eq_true hm] at HIn
                have HM := hid hm
                clear hm
                cases eb with
                | true =>
                  go_wp2_with fail
                  refine wp_region_aft (by kernel_rfl) (by kernel_rfl) ?_
                  repeat (first
                    | go_big_quiet_skip
                    | go_big_quiet_step (fail)
                    | quiet_step (fail))
                  refine wpQuiet_nil ?_
                  rintro _ ⟨p, rfl⟩
                  have z0 : p.wd.cell? ⟨b5, o5 + k * 4, none⟩ = some (.bool nr) := K1.out p 0 _ rfl
                  have z1 : p.wd.cell? ⟨b5, o5 + k * 4 + 1, none⟩ = some (.string ⟨lr.toArray⟩) := K1.out p 1 _ rfl
                  have z2 : p.wd.cell? ⟨b5, o5 + k * 4 + 2, none⟩ = some (.string ⟨mr.toArray⟩) := K1.out p 2 _ rfl
                  have z3 : p.wd.cell? ⟨b5, o5 + k * 4 + 3, none⟩ = some (.bool tr) := K1.out p 3 _ rfl
                  go_wp2_with (first | (go_at_call 25; refine (HIn.out _ p.bel).mono ?_; rintro e w7 ⟨rfl, hb7⟩))
                  go_roundg (gk - 1)
                  case measure => have := Hk.out; omega
                  case rel => exact ⟨k + 1, all', some ⟨b7, o7, none⟩, cv', na', _, rfl, rfl, by go_num, by have := Hk.out; omega, hid ⟨HJ.out.1, (HSk.out HM.out).bel (p.bel.trans hb7)⟩⟩
                | false =>
                  go_wp2_with fail
                  refine wp_region_aft (by kernel_rfl) (by kernel_rfl) ?_
                  repeat (first
                    | go_big_quiet_skip
                    | (refine quiet_load_aft 39 _ rfl b5 (o5 + k * 4) rfl (ptC ⟨nr, lr, mr, tr⟩) _ K1.out Tryz.underlying39 rfl pt_size (by rfl) ?_; intro a' ha'; simp only [Act.put, List.setIfInBounds_toArray, List.set_cons_succ, List.set_cons_zero] at ha'; subst ha')
                    | (refine quiet_load_aft 39 _ rfl b7 (o7 + i * 4) rfl (ptC ⟨nq, lq, mq, tq⟩) _ K3.out Tryz.underlying39 rfl pt_size (by rfl) ?_; intro a' ha'; simp only [Act.put, List.setIfInBounds_toArray, List.set_cons_succ, List.set_cons_zero] at ha'; subst ha')
                    | go_big_quiet_step (fail)
                    | quiet_step (fail))
                  refine wpQuiet_nil ?_
                  rintro _ ⟨p, rfl⟩
                  have z0 : p.wd.cell? ⟨b5, o5 + k * 4, none⟩ = some (.bool nr) := K1.out p 0 _ rfl
                  have z1 : p.wd.cell? ⟨b5, o5 + k * 4 + 1, none⟩ = some (.string ⟨lr.toArray⟩) := K1.out p 1 _ rfl
                  have z2 : p.wd.cell? ⟨b5, o5 + k * 4 + 2, none⟩ = some (.string ⟨mr.toArray⟩) := K1.out p 2 _ rfl
                  have z3 : p.wd.cell? ⟨b5, o5 + k * 4 + 3, none⟩ = some (.bool tr) := K1.out p 3 _ rfl
                  go_wp2_with (first | (go_at_call 25; refine (HIn.out _ p.bel).mono ?_; rintro e w7 ⟨rfl, hb7⟩))
                  go_roundg (gk - 1)
                  case measure => have := Hk.out; omega
                  case rel => exact ⟨k + 1, all', some ⟨b7, o7, none⟩, cv', na', _, rfl, rfl, by go_num, by have := Hk.out; omega, hid ⟨HJ.out.1, (HSk.out HM.out).bel (p.bel.trans hb7)⟩⟩
              · rw [decide_eq_false hm] at HIn
                have HM := hid hm
                clear hm
                cases eb with
                | true =>
                  go_wp2_with fail
                  refine wp_region_aft (by kernel_rfl) (by kernel_rfl) ?_
                  repeat (first
                    | go_big_quiet_skip
                    | go_big_quiet_step (fail)
                    | quiet_step (fail))
                  refine wpQuiet_nil ?_
                  rintro _ ⟨p, rfl⟩
                  have z0 : p.wd.cell? ⟨b5, o5 + k * 4, none⟩ = some (.bool nr) := K1.out p 0 _ rfl
                  have z1 : p.wd.cell? ⟨b5, o5 + k * 4 + 1, none⟩ = some (.string ⟨lr.toArray⟩) := K1.out p 1 _ rfl
                  have z2 : p.wd.cell? ⟨b5, o5 + k * 4 + 2, none⟩ = some (.string ⟨mr.toArray⟩) := K1.out p 2 _ rfl
                  have z3 : p.wd.cell? ⟨b5, o5 + k * 4 + 3, none⟩ = some (.bool tr) := K1.out p 3 _ rfl
                  go_wp2_with (first | (go_at_call 25; refine (HIn.out _ p.bel).mono ?_; rintro e w7 ⟨rfl, hb7⟩; have HB7 := hid (p.bel.trans hb7); have y0 : w7.cell? ⟨b5, o5 + k * 4, none⟩ = some (.bool nr) := (bel_cell hb7 (Nat.lt_of_lt_of_le HS5.out p.bel.size)).trans z0; have y1 : w7.cell? ⟨b5, o5 + k * 4 + 1, none⟩ = some (.string ⟨lr.toArray⟩) := (bel_cell hb7 (Nat.lt_of_lt_of_le HS5.out p.bel.size)).trans z1; have y2 : w7.cell? ⟨b5, o5 + k * 4 + 2, none⟩ = some (.string ⟨mr.toArray⟩) := (bel_cell hb7 (Nat.lt_of_lt_of_le HS5.out p.bel.size)).trans z2; have y3 : w7.cell? ⟨b5, o5 + k * 4 + 3, none⟩ = some (.bool tr) := (bel_cell hb7 (Nat.lt_of_lt_of_le HS5.out p.bel.size)).trans z3; clear hb7) | (at_builtin; refine wpList_push_at (W := w7) rfl (.tmp 96) (.tmp 101) 37 rfl 39 (.agg #[.bool false, .string ⟨#[]⟩, .string ⟨#[]⟩, .bool false]) 4 48 Tryz.underlying37 pt_infos rfl (by decide) w4.heap.size (.slice (some ⟨b7, o7, none⟩) na' cv') all'.length (ptCs all') rfl (HJ.out.2.bel HB7.out).rc.row (HJ.out.2.bel HB7.out).rc.bel.size _ rfl rfl (by intro u hu; simp at hu; rcases hu with rfl | rfl | rfl | rfl <;> rfl) (by have := HUn.out; unfold maxLen; omega) (by have := HUn.out; omega) ?_; intro v9 w9 hown9 hg9 hf9; obtain ⟨x9, c9, rfl, -, -⟩ := row_shape hown9; have HO9 := hid hown9; have HG9 := hid hg9; have HF9 := hid hf9; clear hown9 hg9 hf9))
                  go_roundg (gk - 1)
                  case measure => have := Hk.out; omega
                  case rel => exact ⟨k + 1, all' ++ [⟨nr, lr, mr, tr⟩], x9, c9, all'.length + 1, _, rfl, rfl, by go_num, by have := Hk.out; omega, hid ⟨by rw [List.length_append]; rfl, HPu.out w7 HB7.out HM.out HG9.out HF9.out HO9.out⟩⟩
                | false =>
                  go_wp2_with fail
                  refine wp_region_aft (by kernel_rfl) (by kernel_rfl) ?_
                  repeat (first
                    | go_big_quiet_skip
                    | (refine quiet_load_aft 39 _ rfl b5 (o5 + k * 4) rfl (ptC ⟨nr, lr, mr, tr⟩) _ K1.out Tryz.underlying39 rfl pt_size (by rfl) ?_; intro a' ha'; simp only [Act.put, List.setIfInBounds_toArray, List.set_cons_succ, List.set_cons_zero] at ha'; subst ha')
                    | (refine quiet_load_aft 39 _ rfl b7 (o7 + i * 4) rfl (ptC ⟨nq, lq, mq, tq⟩) _ K3.out Tryz.underlying39 rfl pt_size (by rfl) ?_; intro a' ha'; simp only [Act.put, List.setIfInBounds_toArray, List.set_cons_succ, List.set_cons_zero] at ha'; subst ha')
                    | go_big_quiet_step (fail)
                    | quiet_step (fail))
                  refine wpQuiet_nil ?_
                  rintro _ ⟨p, rfl⟩
                  have z0 : p.wd.cell? ⟨b5, o5 + k * 4, none⟩ = some (.bool nr) := K1.out p 0 _ rfl
                  have z1 : p.wd.cell? ⟨b5, o5 + k * 4 + 1, none⟩ = some (.string ⟨lr.toArray⟩) := K1.out p 1 _ rfl
                  have z2 : p.wd.cell? ⟨b5, o5 + k * 4 + 2, none⟩ = some (.string ⟨mr.toArray⟩) := K1.out p 2 _ rfl
                  have z3 : p.wd.cell? ⟨b5, o5 + k * 4 + 3, none⟩ = some (.bool tr) := K1.out p 3 _ rfl
                  go_wp2_with (first | (go_at_call 25; refine (HIn.out _ p.bel).mono ?_; rintro e w7 ⟨rfl, hb7⟩; have HB7 := hid (p.bel.trans hb7); have y0 : w7.cell? ⟨b5, o5 + k * 4, none⟩ = some (.bool nr) := (bel_cell hb7 (Nat.lt_of_lt_of_le HS5.out p.bel.size)).trans z0; have y1 : w7.cell? ⟨b5, o5 + k * 4 + 1, none⟩ = some (.string ⟨lr.toArray⟩) := (bel_cell hb7 (Nat.lt_of_lt_of_le HS5.out p.bel.size)).trans z1; have y2 : w7.cell? ⟨b5, o5 + k * 4 + 2, none⟩ = some (.string ⟨mr.toArray⟩) := (bel_cell hb7 (Nat.lt_of_lt_of_le HS5.out p.bel.size)).trans z2; have y3 : w7.cell? ⟨b5, o5 + k * 4 + 3, none⟩ = some (.bool tr) := (bel_cell hb7 (Nat.lt_of_lt_of_le HS5.out p.bel.size)).trans z3; clear hb7) | (at_builtin; refine wpList_push_at (W := w7) rfl (.tmp 96) (.tmp 101) 37 rfl 39 (.agg #[.bool false, .string ⟨#[]⟩, .string ⟨#[]⟩, .bool false]) 4 48 Tryz.underlying37 pt_infos rfl (by decide) w4.heap.size (.slice (some ⟨b7, o7, none⟩) na' cv') all'.length (ptCs all') rfl (HJ.out.2.bel HB7.out).rc.row (HJ.out.2.bel HB7.out).rc.bel.size _ rfl rfl (by intro u hu; simp at hu; rcases hu with rfl | rfl | rfl | rfl <;> rfl) (by have := HUn.out; unfold maxLen; omega) (by have := HUn.out; omega) ?_; intro v9 w9 hown9 hg9 hf9; obtain ⟨x9, c9, rfl, -, -⟩ := row_shape hown9; have HO9 := hid hown9; have HG9 := hid hg9; have HF9 := hid hf9; clear hown9 hg9 hf9))
                  go_roundg (gk - 1)
                  case measure => have := Hk.out; omega
                  case rel => exact ⟨k + 1, all' ++ [⟨nr, lr, mr, tr⟩], x9, c9, all'.length + 1, _, rfl, rfl, by go_num, by have := Hk.out; omega, hid ⟨by rw [List.length_append]; rfl, HPu.out w7 HB7.out HM.out HG9.out HF9.out HO9.out⟩⟩
            · obtain rfl : k = l5.length := by omega
              obtain ⟨hi', hq'⟩ := List.getElem?_eq_some_iff.1 HJ.out.2.at_
              have hen := HJ.out.2.en
              rw [List.take_length, ← HMore.out.2.2.2] at hen
              have hst := HJ.out.2.rc.lw.step hi' (fun r hr => by
                rw [hq'] at hr
                have := HJ.out.2.inc r
                rw [List.take_length] at this
                exact this (HNx.out r hr))
              have htd := HJ.out.2.rc.lw.told HFin.out hi'
              rw [hq'] at hst htd
              rw [← hen] at hst htd
              have hrow7 : Pts wr xv' all' := pts_of_row (c := cv') (base := w4.heap.size) (by have h := HJ.out.2.rc.row; rw [← HJ.out.1] at h; exact h)
              obtain ⟨b7, o7, rfl, hr7⟩ := hrow7.place hi'
              rw [hq'] at hr7
              have f0 : wr.cell? ⟨b7, o7 + i * 4, none⟩ = some (.bool nq) := hr7 0 _ rfl
              have f1 : wr.cell? ⟨b7, o7 + i * 4 + 1, none⟩ = some (.string ⟨lq.toArray⟩) := hr7 1 _ rfl
              have f2 : wr.cell? ⟨b7, o7 + i * 4 + 2, none⟩ = some (.string ⟨mq.toArray⟩) := hr7 2 _ rfl
              have f3 : wr.cell? ⟨b7, o7 + i * 4 + 3, none⟩ = some (.bool tq) := hr7 3 _ rfl
              have hin := in_run x4 s.out c4 (⟨nq, lq, mq, tq⟩ : Pt) wr (HP4.out.next HJ.out.2.rc.bel) (by rw [HSL.out]; exact hol)
              rw [htd, HSL.out] at hin
              have HIn := (show Hid (Calls Tryz.prog 25 #[.slice x4 sl c4, .agg #[.bool nq, .string ⟨lq.toArray⟩, .string ⟨mq.toArray⟩, .bool tq]] wr fun e w' => e = .returned (.bool eb) ∧ Bel wr w') from hin)
              have hna7 : i < na' := HJ.out.1 ▸ hi'
              have hme : na' ≤ s.met.length := HJ.out.1 ▸ HJ.out.2.rc.lw.meas
              have h63 : na' ≤ 9223372036854775807 := by
                obtain ⟨_, cap, -, h1, h2⟩ := row_shape HJ.out.2.rc.row
                rw [HJ.out.1] at h1
                omega
              have hni : n ≤ i := by
                rw [HJ.out.2.rc.lw.num]
                refine Nat.le_trans List.countP_le_length ?_
                rw [List.length_take]; omega
              have b3 : decide ((na' : Int) ≤ (i : Int)) = false := decide_eq_false (by omega)
              have HSt := hid hst
              clear hr7 hin htd hst hen hrow7 hi' hq'
              cases eb with
              | true =>
                go_wp2_with (first | (go_at_call 25; refine HIn.out.mono ?_; rintro e w7 ⟨rfl, hb7⟩))
                go_roundg (gout - 1)
                case measure => have := Hi.out; omega
                case rel => exact ⟨i + 1, n + 1, all', some ⟨b7, o7, none⟩, cv', na', rfl, by go_num, by go_num, by have := Hi.out; omega, hid ⟨HJ.out.1, HJ.out.2.rc.bel.trans hb7, own_bel HJ.out.2.rc.row hb7, HSt.out⟩⟩
              | false =>
                go_wp2_with (first | (go_at_call 25; refine HIn.out.mono ?_; rintro e w7 ⟨rfl, hb7⟩))
                go_roundg (gout - 1)
                case measure => have := Hi.out; omega
                case rel => exact ⟨i + 1, n, all', some ⟨b7, o7, none⟩, cv', na', rfl, by go_num, by go_num, by have := Hi.out; omega, hid ⟨HJ.out.1, HJ.out.2.rc.bel.trans hb7, own_bel HJ.out.2.rc.row hb7, HSt.out⟩⟩
        · obtain rfl : i = na := by omega
          have hlw := HI.out.2.lw
          rw [← HI.out.1] at hlw
          have hdone := hlw.done HFin.out
          rw [HSL.out] at hdone
          subst hdone
          have hpos : 1 ≤ n := by
            rw [← HSL.out]
            exact List.length_pos_iff.2 HNe.out
          have h200 : n ≤ 200 := HSL.out ▸ HFin.out.len
          have b1 : decide ((1 : Int) ≤ (n : Int)) = true := decide_eq_true (by omega)
          have b2 : decide ((n : Int) ≤ 200) = true := decide_eq_true (by omega)
          clear hlw
          go_wp2_with fail
          go_ret
          exact ⟨rfl, HB4.out.trans HI.out.2.bel⟩
end Go.Proofs.YtpmmaickjolimaaGreatDoor.Tb

/- A slice of paths that came in. -/
namespace Go.Proofs.YtpmmaickjolimaaGreatDoor.Ma
open Go.ChangeShapes Go.WideShapes Go.Deep

theorem cellsPt : Tryz.prog.cellsOf 39 = 4 := by kernel_rfl
theorem cellsB : Tryz.prog.cellsOf 4 = 1 := by kernel_rfl
theorem cellsS : Tryz.prog.cellsOf 9 = 1 := by kernel_rfl
theorem bulk_mem {H : Type} : ∀ (l : List (DataW H)) (d : DataW H), d ∈ l → Rows.uptoBulk d ≤ Rows.uptoBulkAll l
  | [], d, h => by cases h
  | e :: l, d, h => by
    rw [Rows.uptoBulkAll]
    rcases List.mem_cons.1 h with rfl | h
    · omega
    · have := bulk_mem l d h; omega
set_option maxRecDepth 100000 in
/-- A path's cells, out of its reading. -/
theorem pt_trod {H : Type} {enc : TypeId × Value → H} {W : World} {spare : Nat → Bool} {held : Bool} {b0 fuel : Nat} {cs : List Value} {x : DataW H × List MemPlace}
    (h : DataW.trod enc Tryz.prog W b0 spare held fuel 39 cs = some x) : ∃ p : Pt, cs = ptC p ∧ p.loc.length ≤ Rows.uptoBulk x.1 ∧ p.dom.length ≤ Rows.uptoBulk x.1 := by
  obtain ⟨ys, n', hn', hy, hlen, hyl, hf⟩ := DataW.trod_struct Tryz.underlying39 h
  rw [cellsPt] at hlen
  have h0 : DataW.trod enc Tryz.prog W b0 spare held n' 4 ((cs.drop 0).take (Tryz.prog.cellsOf 4)) = ys[0]? := hf 0 _ rfl
  have h1 : DataW.trod enc Tryz.prog W b0 spare held n' 9 ((cs.drop 1).take (Tryz.prog.cellsOf 9)) = ys[1]? := hf 1 _ rfl
  have h2 : DataW.trod enc Tryz.prog W b0 spare held n' 9 ((cs.drop 2).take (Tryz.prog.cellsOf 9)) = ys[2]? := hf 2 _ rfl
  have h3 : DataW.trod enc Tryz.prog W b0 spare held n' 4 ((cs.drop 3).take (Tryz.prog.cellsOf 4)) = ys[3]? := hf 3 _ rfl
  rw [cellsB] at h0 h3
  rw [cellsS] at h1 h2
  have hyl4 : ys.length = 4 := hyl
  match ys, hyl4 with
  | [y0, y1, y2, y3], _ =>
    match cs, hlen with
    | [a0, a1, a2, a3], _ =>
      obtain ⟨b, e0, -⟩ := DataW.trod_bool Tryz.underlying4 (x := y0) h0
      obtain ⟨s1, e1, d1, -⟩ := DataW.trod_string Tryz.underlying9 (x := y1) h1
      obtain ⟨s2, e2, d2, -⟩ := DataW.trod_string Tryz.underlying9 (x := y2) h2
      obtain ⟨b3, e3, -⟩ := DataW.trod_bool Tryz.underlying4 (x := y3) h3
      have f0 : a0 = .bool b := by simpa using e0
      have f1 : a1 = .string s1 := by simpa using e1
      have f2 : a2 = .string s2 := by simpa using e2
      have f3 : a3 = .bool b3 := by simpa using e3
      rw [f0, f1, f2, f3]
      have hb : Rows.uptoBulk x.1 = Rows.uptoBulk y0.1 + (Rows.uptoBulk y1.1 + (Rows.uptoBulk y2.1 + (Rows.uptoBulk y3.1 + 0))) + 1 := by
        rw [hy]; rfl
      have k1 : Rows.uptoBulk y1.1 = s1.data.toList.length + 1 := by rw [d1]; rfl
      have k2 : Rows.uptoBulk y2.1 = s2.data.toList.length + 1 := by rw [d2]; rfl
      exact ⟨⟨b, s1.data.toList, s2.data.toList, b3⟩, rfl, by show s1.data.toList.length ≤ _; omega, by show s2.data.toList.length ≤ _; omega⟩
end Go.Proofs.YtpmmaickjolimaaGreatDoor.Ma

/- What the listed package-level variables hold; a world for the rows' witness. -/
namespace Go.Proofs.YtpmmaickjolimaaGreatDoor.Ci
open Go.RowKit Go.ChangeShapes Go.WideShapes Go.ChangeAt Go.Lib

theorem own : ownKnob Tryz.prog.godebug = none := by kernel_rfl
def laidL : List (String × DataW Unit) := [("math/bits.deBruijn32tab", Rows.laid_math_bits_deBruijn32tab), ("math/bits.deBruijn64tab", Rows.laid_math_bits_deBruijn64tab), ("internal/strconv.uint64pow10", Rows.laid_internal_strconv_uint64pow10), ("unicode/utf8.acceptRanges", Rows.laid_unicode_utf8_acceptRanges), ("strconv.ErrRange", Rows.laid_strconv_ErrRange), ("strconv.ErrSyntax", Rows.laid_strconv_ErrSyntax), ("unicode/utf8.first", Rows.laid_unicode_utf8_first)]
def db64 : List Int := [0, 1, 56, 2, 57, 49, 28, 3, 61, 58, 42, 50, 38, 29, 17, 4, 62, 47, 59, 36, 45, 43, 51, 22, 53, 39, 33, 30, 24, 18, 12, 5, 63, 55, 48, 27, 60, 41, 37, 16, 46, 35, 44, 21, 52, 32, 23, 11, 54, 26, 40, 15, 34, 20, 31, 10, 25, 14, 19, 9, 13, 8, 7, 6]
theorem star : "*" ++ "errors.errorString" = "*errors.errorString" := by decide
theorem rowE (u : TypeId) (h : Tryz.prog.typeName? 3 u = some "*errors.errorString") : u = 249 :=
  typeName_ptr_named (nm := "errors.errorString") (by rw [star]; kernel_rfl) (by kernel_rfl) (by decide) u (by rw [star]; exact h)
theorem gPow : Tryz.prog.globalNamed "internal/strconv.uint64pow10" = some 3 := by kernel_rfl
theorem gDb : Tryz.prog.globalNamed "math/bits.deBruijn64tab" = some 7 := by kernel_rfl
theorem gErr : Tryz.prog.globalNamed "strconv.ErrSyntax" = some 1 := by kernel_rfl
/-- What the row's list gives. -/
theorem lay_of {W : World} (hL : laidMet Tryz.prog laidL W) (hS : W.ShapedOpen Tryz.prog) : Lay W := by
  have hdb : Lib.TabIs Tryz.prog W "math/bits.deBruijn64tab" .u8 db64 :=
    Lib.tabIs_of_head (e := 5) gDb (by kernel_rfl) Tryz.underlying255 Tryz.underlying5 (by kernel_rfl) (by kernel_rfl) (show laidMet Tryz.prog (("math/bits.deBruijn64tab", Lib.tabData .u8 db64) :: _) W from hL.tail)
  have hpw : Lib.TabIs Tryz.prog W "internal/strconv.uint64pow10" .u64 Lib.pow10Tab :=
    Lib.tabIs_of_head (e := 176) gPow (by kernel_rfl) Tryz.underlying242 Tryz.underlying176 (by kernel_rfl) (by kernel_rfl) (show laidMet Tryz.prog (("internal/strconv.uint64pow10", Lib.tabData .u64 Lib.pow10Tab) :: _) W from hL.tail.tail)
  obtain ⟨a0, t0, hv0, -, -, -⟩ := laid_sentinel (g := 1) hL.tail.tail.tail.tail.tail (by kernel_rfl) (by kernel_rfl) Tryz.underlying93 rowE Tryz.underlying249 Tryz.underlying251 rfl rfl Tryz.underlying9 (by kernel_rfl) (by kernel_rfl)
  have c15 : W.cell? ⟨7, 15, none⟩ = some (.int .u8 4) := hdb.cell gDb 15 (by decide)
  have hsz : 8 ≤ W.heap.size := by
    rcases Nat.lt_or_ge 7 W.heap.size with f | f
    · exact f
    · simp [World.cell?, Array.getElem?_eq_none f] at c15
  refine ⟨hsz, ?_, ⟨_, _, World.var?_cell gErr hv0 0⟩, fun w' hb => ?_, c15⟩
  · exact Go.Proofs.cell_of_shapedOpen_int (g := 0) (zero := #[.int .i64 0]) (t := 3) hS (of_decide_eq_true (by kernel_rfl)) (by kernel_rfl) rfl (by kernel_rfl) (by kernel_rfl) Tryz.underlying3
  · exact var?_below hb gPow (by omega) hpw

/-- The settled world, the two errors' structs, the variables as their initialisers lay them. -/
noncomputable def laidWorld (os : Os) : World :=
  let N := (World.settled Tryz.prog os).heap.size
  let w0 := World.holding Tryz.prog os ⟨#[.cells #[.string ⟨#[105, 110, 118, 97, 108, 105, 100, 32, 115, 121, 110, 116, 97, 120]⟩] 251, .cells #[.string ⟨#[118, 97, 108, 117, 101, 32, 111, 117, 116, 32, 111, 102, 32, 114, 97, 110, 103, 101]⟩] 251], #[], []⟩
  let put (h : Array Obj) (g : Nat) (cs : Array Value) : Array Obj := h.modify g fun
    | .cells _ t frozen => .cells cs t frozen
    | o => o
  let h0 := put (put w0.heap 1 #[.iface 249 (.pointer (some ⟨N, 0, none⟩))]) 2 #[.iface 249 (.pointer (some ⟨N + 1, 0, none⟩))]
  let h1 := put h0 4 (Lib.firstTab.map fun z => Value.int .u8 z).toArray
  let h2 := put h1 5 ((List.range 16).flatMap fun i => [Value.int .u8 (Lib.accLo i), Value.int .u8 (Lib.accHi i)]).toArray
  let h3 := put h2 3 (Lib.pow10Tab.map fun z => Value.int .u64 z).toArray
  let h4 := put h3 7 (db64.map fun z => Value.int .u8 z).toArray
  let h5 := put h4 6 (([0, 1, 28, 2, 29, 14, 24, 3, 30, 22, 20, 15, 25, 17, 4, 8, 31, 27, 13, 23, 21, 19, 16, 7, 26, 12, 18, 6, 11, 5, 10, 9] : List Int).map fun z => Value.int .u8 z).toArray
  { w0 with heap := h5 }
noncomputable abbrev N0 : Nat := (World.settled Tryz.prog default).heap.size
set_option maxRecDepth 1000000 in
theorem laid_in (os : Os) (args : Array Value) : LaidIn Tryz.prog ((laidWorld os).forCall (fun _ _ => 0) ⟨#[], args, []⟩).memory laidL [6, 7, 3, 5, 2, 1, 4, N0, N0 + 1] :=
  LaidIn.of_run _ 8 (by kernel_rfl) (by kernel_rfl) (by kernel_rfl) (by kernel_rfl)
theorem laid_met (os : Os) (args : Array Value) : laidMet Tryz.prog laidL ((laidWorld os).forCall (fun _ _ => 0) ⟨#[], args, []⟩).memory := (laid_in os args).met
end Go.Proofs.YtpmmaickjolimaaGreatDoor.Ci

/- What the listed package-level variables hold; texts and a path that came in. -/
namespace Go.Proofs.YtpmmaickjolimaaGreatDoor.Tb
open Go.ChangeShapes Go.WideShapes Go.Deep Go.RowKit Go.Lib
open Ma (Pt Pts ptC ptCs)
open Ci (Bel Lay laidL lay_of)

theorem laid_first : ("unicode/utf8.first", Lib.firstData) ∈ laidL := by
  have e : Rows.laid_unicode_utf8_first = Lib.firstData := by kernel_rfl
  rw [← e]
  unfold laidL
  simp
theorem laid_accept : ("unicode/utf8.acceptRanges", Lib.acceptData) ∈ laidL := by
  have e : Rows.laid_unicode_utf8_acceptRanges = Lib.acceptData := by kernel_rfl
  rw [← e]
  unfold laidL
  simp
theorem nF : Tryz.prog.globalNamed "unicode/utf8.first" = some 4 := by kernel_rfl
theorem nA : Tryz.prog.globalNamed "unicode/utf8.acceptRanges" = some 5 := by kernel_rfl
set_option maxRecDepth 100000 in
theorem tabs_of {W : World} (hL : laidMet Tryz.prog laidL W) : Lib.Utf8Tabs 4 5 W := by
  have h3 := Lib.laidMet.reads hL laid_first
  have h4 := Lib.laidMet.reads hL laid_accept
  refine ⟨fun c hc => ?_, fun i hi => ?_⟩
  · obtain ⟨g, t, cs, fuel, p, hg, hty, hvar, hd⟩ := h3
    obtain rfl := Option.some.inj (nF.symm.trans hg)
    obtain rfl : 245 = t := Option.some.inj ((show (Tryz.prog.globals[4]?).map (·.type) = some 245 by kernel_rfl).symm.trans hty)
    have hcs := cells_of_tab Tryz.underlying245 Tryz.underlying5 (by kernel_rfl) (by kernel_rfl) hd
    have := World.var?_cell hg hvar c
    rw [this, ← Array.getElem?_toList, hcs]
    simp [firstTab, hc]
  · obtain ⟨g, t, cs, fuel, p, hg, hty, hvar, hd⟩ := h4
    obtain rfl := Option.some.inj (nA.symm.trans hg)
    obtain rfl : 248 = t := Option.some.inj ((show (Tryz.prog.globals[5]?).map (·.type) = some 248 by kernel_rfl).symm.trans hty)
    obtain ⟨fuel', d, q, hdi, he⟩ := array_elem Tryz.underlying248 hd i hi
    simp only [List.getElem?_map, List.getElem?_range hi, Option.map_some, Option.some.injEq] at hdi
    subst hdi
    rw [show Tryz.prog.cellsOf 247 = 2 by kernel_rfl] at he
    have hcs := ints_of_struct Tryz.underlying247 (fun j f hj => by
      match j, hj with
      | 0, hj => simp at hj; subst hj; exact ⟨Tryz.underlying5, rfl, by kernel_rfl⟩
      | 1, hj => simp at hj; subst hj; exact ⟨Tryz.underlying5, rfl, by kernel_rfl⟩
      | j + 2, hj => simp at hj) (by kernel_rfl) he
    have e0 := congrArg (·[0]?) hcs
    have e1 := congrArg (·[1]?) hcs
    simp only [List.getElem?_take, List.getElem?_drop] at e0 e1
    constructor
    · rw [World.var?_cell hg hvar (2 * i), ← Array.getElem?_toList]
      simpa [Nat.mul_comm] using e0
    · rw [World.var?_cell hg hvar (2 * i + 1), ← Array.getElem?_toList]
      simpa [Nat.mul_comm] using e1
theorem lat_of {W : World} (hL : laidMet Tryz.prog laidL W) (hS : W.ShapedOpen Tryz.prog) : Lat W := by
  exact ⟨lay_of hL hS, (lay_of hL hS).size, fun w' hb => Utf8Tabs_below (tabs_of hL) hb⟩
theorem bulk_le {H : Type} : ∀ l : List (DataW H), l.length ≤ Rows.uptoBulkAll l := by
  intro l
  induction l with
  | nil => exact Nat.zero_le _
  | cons e l ih =>
    have : 1 ≤ Rows.uptoBulk e := by
      cases e with
      | lit q => cases q <;> simp [Rows.uptoBulk]
      | _ => simp [Rows.uptoBulk]
    rw [Rows.uptoBulkAll, List.length_cons]; omega
/-- Texts that came in. -/
theorem sts_of {H : Type} {enc : TypeId × Value → H} {W : World} {x : Option Addr} {len cap : Nat} {d : DataW H} {ps : List MemPlace}
    (h : DataW.Trod enc Tryz.prog W 0 (fun _ => true) true 46 (.slice x len cap) d ps) :
    ∃ bs : List ByteArray, len = bs.length ∧ Sts W x bs ∧ (∀ b ∈ bs, b.size ≤ Rows.uptoBulk d) ∧ bs.length ≤ Rows.uptoBulk d := by
  obtain ⟨fuel, hf⟩ := h
  rcases open_strings Tryz.underlying46 Tryz.underlying9 Ma.cellsS hf with ⟨hcs, -⟩ | ⟨a, l, c, ss, hcs, -, hl, hm, hz, hx, hc, hsz⟩
  · simp [Value.cells] at hcs
    obtain ⟨rfl, rfl, rfl⟩ := hcs
    exact ⟨[], rfl, ⟨.inl rfl⟩, by simp, by simp⟩
  · simp [Value.cells] at hcs
    obtain ⟨rfl, rfl, rfl⟩ := hcs
    simp only [if_true] at hz
    simp only [Prod.mk.injEq] at hx
    have hlen : (ss.take len).length = len := by rw [List.length_take, hz]; omega
    have hbd : ∀ b ∈ ss.take len, b.size ≤ Rows.uptoBulk d := by
      intro b hb
      rw [hx.1]
      have := Ma.bulk_mem (H := H) (Go.ChangeShapes.strs (ss.take len)) (.lit (.string b.data.toList)) (List.mem_map.2 ⟨b, hb, rfl⟩)
      have e : Rows.uptoBulk (DataW.lit (.string b.data.toList) : DataW H) = b.data.toList.length + 1 := rfl
      rw [e, ← Lib.size_eq] at this
      rw [Rows.uptoBulk]; omega
    have hln : len ≤ Rows.uptoBulk d := by
      rw [hx.1, Rows.uptoBulk]
      have := bulk_le (H := H) (Go.ChangeShapes.strs (ss.take len))
      have e : (Go.ChangeShapes.strs (ss.take len) : List (DataW H)).length = len := by unfold Go.ChangeShapes.strs; rw [List.length_map, hlen]
      rw [e] at this
      omega
    refine ⟨ss.take len, hlen.symm, ⟨?_⟩, hbd, by rw [hlen]; exact hln⟩
    by_cases h0 : len = 0
    · left; rw [h0]; rfl
    · right
      have h00 := hc 0 (by omega)
      obtain ⟨b, o, sp⟩ := a
      have hsp : sp = none := by simpa [Addr.add] using World.cell?_spot h00
      subst hsp
      refine ⟨b, o, rfl, ?_, ?_⟩
      · refine Nat.lt_of_not_le fun hge => ?_
        simp [Addr.add, World.cell?, Array.getElem?_eq_none hge] at h00
      · intro k hk
        have hk' : k < len := by rw [hlen] at hk; exact hk
        have h := hc k (by omega)
        rw [Ci.addr_add] at h
        rw [h, List.getElem_take, List.getD_eq_getElem?_getD, List.getElem?_eq_getElem (by omega)]
        rfl
set_option maxRecDepth 100000 in
/-- A path that came in by value. -/
theorem pt_of {H : Type} {enc : TypeId × Value → H} {W : World} {r : Reach} {b0 : Nat} {v : Value} {d : DataW H} {ps : List MemPlace} (hv : Value.okWide Tryz.prog W r b0 39 v)
    (h : DataW.Trod enc Tryz.prog W 0 (fun _ => true) true 39 v d ps) : ∃ p : Pt, v = .agg (ptC p).toArray ∧ p.loc.length ≤ Rows.uptoBulk d ∧ p.dom.length ≤ Rows.uptoBulk d := by
  obtain ⟨cs, rfl, hsz⟩ := okWide_struct Tryz.underlying39 hv
  obtain ⟨fuel, hf⟩ := h
  obtain ⟨p, e, h1, h2⟩ := Ma.pt_trod hf
  refine ⟨p, ?_, h1, h2⟩
  rw [← e]
  simp [Value.cells]
end Go.Proofs.YtpmmaickjolimaaGreatDoor.Tb
