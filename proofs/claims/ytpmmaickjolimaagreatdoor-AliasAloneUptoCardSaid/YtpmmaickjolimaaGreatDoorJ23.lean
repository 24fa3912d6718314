/- Tables in plain terms: entries, each on a line of its own; in which order they stand turns nothing. -/
import Derived.Test.YtpmmaickjolimaaGreatDoorJ12
import Derived.Test.YtpmmaickjolimaaGreatDoorJ22
import Derived.Test.YtpmmaickjolimaaGreatDoorJ11
import Derived.Test.YtpmmaickjolimaaGreatDoorRows
import Derived.ProofKit
import Derived.OpenShut
import Derived.ChangeArms
import Derived.DataShut
import Derived.Deep.Slices
import Derived.Deep.Fields
import Derived.ChangeSame
import Derived.Carry
import Derived.Test.YtpmmaickjolimaaGreatDoorJ03
import Derived.Deep.DeepHandedRow
import Derived.Deep.DeepWitnessRowRef
import Derived.Lib.LaidIn
import Derived.Lib.LaidTab
import Derived.Lib.LaidU8
import Derived.Stop.LaidErr
import Derived.HandedShaped
import Derived.WalkSmall
import Derived.Test.YtpmmaickjolimaaGreatDoorJ20
namespace Go.Proofs.YtpmmaickjolimaaGreatDoor.Tb
open Go.RowKit
open Ci (splitL splitL_app)

def joinLn (E : List (List UInt8)) : List UInt8 := E.flatMap (· ++ [10])
theorem split_lines : ∀ E : List (List UInt8), (∀ e ∈ E, (10 : UInt8) ∉ e) → splitL 10 (joinLn E) = E ++ [[]]
  | [], _ => rfl
  | e :: E, h => by
    show splitL 10 ((e ++ [10]) ++ joinLn E) = _
    rw [List.append_assoc, List.singleton_append, splitL_app 10 e _ (h e (List.mem_cons_self ..)), split_lines E fun x hx => h x (List.mem_cons_of_mem _ hx)]
    rfl
/-- No line that continues another one. -/
def hdOk (e : List UInt8) : Prop := ∀ b, e.head? = some b → isBl b = false
theorem inner_ok {e : List UInt8} (h : hdOk e) : innerL e = e := by
  unfold innerL Lib.trimLeftS
  cases e with
  | nil => rfl
  | cons b t =>
    rw [List.dropWhile_cons_of_neg]
    have := h b rfl
    unfold isBl at this
    rw [this]; simp
def skipB (e : List UInt8) : Bool := decide (trm e = [] ∨ e.head? = some 35)
def enE (e : List UInt8) : En := ⟨lowR (e.take (keyN e)), Lib.join (addPc [] (e.drop (keyN e))) [32]⟩
theorem out_plain {e : List UInt8} (h : hdOk e) (at_ : Nat) (out : List Ln) : lnOut at_ out e = if skipB e then out else out ++ [⟨at_, lowR (e.take (keyN e)), addPc [] (e.drop (keyN e))⟩] := by
  unfold lnOut skipB
  rw [inner_ok h]
  by_cases hs : trm e = [] ∨ e.head? = some 35
  · rw [if_pos hs, decide_eq_true hs]; rfl
  · rw [if_neg hs, decide_eq_false hs, if_pos rfl]; rfl
theorem bad_plain {e : List UInt8} (h : hdOk e) (at_ : Nat) (out : List Ln) (bad : Int) : lnBad at_ out bad e = bad := by
  unfold lnBad
  rw [inner_ok h]
  split
  · rfl
  · rw [if_pos rfl]
theorem fold_plain : ∀ (E : List (List UInt8)) (c : Cs), (∀ e ∈ E, hdOk e) → (E.foldl lnStep c).out.map enOf = c.out.map enOf ++ (E.filter fun e => !skipB e).map enE ∧ (E.foldl lnStep c).bad = c.bad
  | [], c, _ => by simp
  | e :: E, c, h => by
    have h0 := h e (List.mem_cons_self ..)
    obtain ⟨i1, i2⟩ := fold_plain E (lnStep c e) fun x hx => h x (List.mem_cons_of_mem _ hx)
    rw [List.foldl_cons, i1, i2]
    refine ⟨?_, bad_plain h0 _ _ _⟩
    show (lnOut c.at_ c.out e).map enOf ++ _ = _
    rw [out_plain h0]
    cases hs : skipB e with
    | true => simp [hs]
    | false => simp [hs, enOf, enE]
theorem bad_none {s : List UInt8} (h : ∀ b ∈ s, badB b = false) : badAt s < 0 := by
  unfold badAt
  rw [List.findIdx?_eq_none_iff.2 (by simpa using h)]
  show (-1 : Int) < 0
  omega
theorem bad_some {s : List UInt8} (h : ¬ ∀ b ∈ s, badB b = false) : 0 ≤ badAt s := by
  unfold badAt
  split
  · exact Int.natCast_nonneg _
  · rename_i hn
    exact absurd (by simpa using List.findIdx?_eq_none_iff.1 hn) h
theorem tparse_lines (E : List (List UInt8)) (h1 : ∀ e ∈ E, (10 : UInt8) ∉ e) (h2 : ∀ e ∈ E, hdOk e) :
    tparse (joinLn E) = if 262144 < (joinLn E).length then none else if 0 ≤ badAt (joinLn E) then none else pG ((E.filter fun e => !skipB e).map enE) [] := by
  unfold tparse
  by_cases hl : 262144 < (joinLn E).length
  · rw [if_pos hl, if_pos hl]
  · rw [if_neg hl, if_neg hl]
    have hfold := fold_plain (E ++ [[]]) ⟨0, [], badAt (joinLn E)⟩ fun e he => by
      rcases List.mem_append.1 he with he | he
      · exact h2 e he
      · rw [List.mem_singleton.1 he]; intro b hb; cases hb
    have hc : cutT (joinLn E) = (E ++ [[]]).foldl lnStep ⟨0, [], badAt (joinLn E)⟩ := by unfold cutT; rw [split_lines E h1]
    have hb : (cutT (joinLn E)).bad = badAt (joinLn E) := by rw [hc]; exact hfold.2
    have ho : (cutT (joinLn E)).out.map enOf = (E.filter fun e => !skipB e).map enE := by
      rw [hc, hfold.1, List.filter_append]
      show [] ++ ((E.filter _) ++ []).map enE = _
      rw [List.append_nil, List.nil_append]
    by_cases h0 : 0 ≤ badAt (joinLn E)
    · rw [if_pos h0, parse_bad (by rw [hb]; exact h0)]
    · rw [if_neg h0, parse_pG (bad := (cutT (joinLn E)).bad) (by rw [hb]; omega) (cutT (joinLn E)).out [] (show Srt [] from trivial), ho]
/-- In which order a table's entries stand turns nothing. -/
theorem order_same {E E' : List (List UInt8)} (hp : E.Perm E') (h1 : ∀ e ∈ E, (10 : UInt8) ∉ e) (h2 : ∀ e ∈ E, hdOk e) : tparse (joinLn E) = tparse (joinLn E') := by
  have hj : (joinLn E).Perm (joinLn E') := hp.flatMap_right _
  rw [tparse_lines E h1 h2, tparse_lines E' (fun e he => h1 e (hp.mem_iff.2 he)) (fun e he => h2 e (hp.mem_iff.2 he)), hj.length_eq, pG_perm ((hp.filter _).map _)]
  have hb : (0 ≤ badAt (joinLn E)) ↔ (0 ≤ badAt (joinLn E')) := by
    by_cases hx : ∀ b ∈ joinLn E, badB b = false
    · have hy : ∀ b ∈ joinLn E', badB b = false := fun b hb => hx b (hj.mem_iff.2 hb)
      have a := bad_none hx
      have b := bad_none hy
      constructor <;> intro <;> omega
    · have hy : ¬ ∀ b ∈ joinLn E', badB b = false := fun hy => hx fun b hb => hy b (hj.mem_iff.1 hb)
      exact ⟨fun _ => bad_some hy, fun _ => bad_some hx⟩
  by_cases h0 : 0 ≤ badAt (joinLn E)
  · rw [if_pos h0, if_pos (hb.1 h0)]
  · rw [if_neg h0, if_neg fun h => h0 (hb.2 h)]
/-- Entries turned by so many places. -/
def turnE (E : List (List UInt8)) (k : Nat) : List (List UInt8) := (List.range E.length).map fun i => E.getD ((i + k % E.length) % E.length) []
theorem turn_perm (E : List (List UInt8)) (k : Nat) : E.Perm (turnE E k) := by
  unfold turnE
  by_cases h0 : E = []
  · subst h0; exact .nil
  · have hpos : 0 < E.length := List.length_pos_iff.2 h0
    have hm := Nat.mod_lt k hpos
    generalize k % E.length = m at hm
    have e : (List.range E.length).map (fun i => E.getD ((i + m) % E.length) []) = E.drop m ++ E.take m := by
      refine List.ext_getElem? fun i => ?_
      rw [List.getElem?_map]
      by_cases hi : i < E.length
      · rw [List.getElem?_range hi]
        show some (E.getD ((i + m) % E.length) []) = _
        by_cases h1 : i < E.length - m
        · rw [List.getElem?_append_left (by rw [List.length_drop]; exact h1), List.getElem?_drop, Nat.mod_eq_of_lt (by omega), List.getD_eq_getElem?_getD, Nat.add_comm m i, List.getElem?_eq_getElem (by omega : i + m < E.length)]
          rfl
        · have h3 : (i + m) % E.length = i + m - E.length := by rw [Nat.mod_eq_sub_mod (by omega), Nat.mod_eq_of_lt (by omega)]
          rw [List.getElem?_append_right (by rw [List.length_drop]; omega), List.length_drop, List.getElem?_take, if_pos (by omega), h3, List.getD_eq_getElem?_getD, show i - (E.length - m) = i + m - E.length by omega, List.getElem?_eq_getElem (by omega : i + m - E.length < E.length)]
          rfl
      · rw [List.getElem?_eq_none (by rw [List.length_range]; omega), List.getElem?_eq_none (by rw [List.length_append, List.length_drop, List.length_take]; omega)]
        rfl
    rw [e]
    have := List.perm_append_comm (l₁ := E.take m) (l₂ := E.drop m)
    rw [List.take_append_drop] at this
    exact this
end Go.Proofs.YtpmmaickjolimaaGreatDoor.Tb

/- AliasOrder: the law's walk. -/
namespace Go.Proofs.YtpmmaickjolimaaGreatDoor.Tb
open Go.RowKit
open Ci (Bel hid own_bel row_shape own_base addr_add splitL Aft wp_region_aft quiet_load_aft app_data ext_bytes)
open Ma (Pt Pts ptC ptCs mbQ pt_infos pt_size ptCs_snoc ptCs_at rightP good_small byte_eq byte_ne)

theorem join_snoc (E : List (List UInt8)) (e : List UInt8) : joinLn (E ++ [e]) = joinLn E ++ e ++ [10] := by
  unfold joinLn
  rw [List.flatMap_append]
  simp
theorem join_take {E : List (List UInt8)} {i : Nat} (hi : i < E.length) : joinLn (E.take (i + 1)) = joinLn (E.take i) ++ E[i] ++ [10] := by
  rw [List.take_succ_eq_append_getElem hi, join_snoc]
theorem turn_len (E : List (List UInt8)) (k : Nat) : (turnE E k).length = E.length := by unfold turnE; simp
theorem turn_at (E : List (List UInt8)) (k i : Nat) (hi : i < E.length) : (turnE E k)[i]'(by rw [turn_len]; exact hi) = E[(i + k % E.length) % E.length]'(Nat.mod_lt _ (by omega)) := by
  unfold turnE
  rw [List.getElem_map, List.getElem_range, List.getD_eq_getElem?_getD, List.getElem?_eq_getElem (Nat.mod_lt _ (by omega))]
  rfl
def Ents (bs : List ByteArray) : List (List UInt8) := bs.map fun b => b.data.toList
theorem ents_at (bs : List ByteArray) (i : Nat) (hi : i < bs.length) : (Ents bs)[i]'(by unfold Ents; rw [List.length_map]; exact hi) = bs[i].data.toList := by unfold Ents; rw [List.getElem_map]
theorem ents_len (bs : List ByteArray) : (Ents bs).length = bs.length := by unfold Ents; rw [List.length_map]
/-- The two texts in hand. -/
structure OrI (bs : List ByteArray) (m i : Nat) (one two : ByteArray) : Prop where
  one_ : one.data.toList = joinLn ((Ents bs).take i)
  two_ : two.data.toList = joinLn ((turnE (Ents bs) m).take i)
  s1 : one.size ≤ i * 4194305
  s2 : two.size ≤ i * 4194305
  good : ∀ e ∈ (Ents bs).take i, (10 : UInt8) ∉ e ∧ hdOk e
theorem bsz (x : ByteArray) : x.size = x.data.toList.length := Lib.size_eq x
theorem OrI.step {bs : List ByteArray} {m i : Nat} {one two : ByteArray} (h : OrI bs m i one two) (hi : i < bs.length) (hb : ∀ b ∈ bs, b.size ≤ 4194304) (hj : (i + m % bs.length) % bs.length < bs.length) (h1 : (10 : UInt8) ∉ bs[i].data.toList) (h2 : hdOk bs[i].data.toList) :
    OrI bs m (i + 1) ((one ++ bs[i]) ++ ⟨#[10]⟩) ((two ++ bs[(i + m % bs.length) % bs.length]) ++ ⟨#[10]⟩) := by
  have hi' : i < (Ents bs).length := by rw [ents_len]; exact hi
  refine ⟨?_, ?_, ?_, ?_, ?_⟩
  · rw [app_data, app_data, h.one_, join_take hi', ents_at bs i hi]
  · have ht : i < (turnE (Ents bs) m).length := by rw [turn_len]; exact hi'
    rw [app_data, app_data, h.two_, join_take ht, turn_at _ _ _ hi']
    congr 2
    rw [← ents_at bs _ hj]
    congr 1
    rw [ents_len]
  · rw [ByteArray.size_append, ByteArray.size_append]
    have := hb _ (List.getElem_mem hi)
    have := h.s1
    show _ + _ + 1 ≤ _
    omega
  · rw [ByteArray.size_append, ByteArray.size_append]
    have := hb _ (List.getElem_mem hj)
    have := h.s2
    show _ + _ + 1 ≤ _
    omega
  · intro e he
    rw [List.take_succ_eq_append_getElem hi'] at he
    rcases List.mem_append.1 he with he | he
    · exact h.good e he
    · rw [List.mem_singleton.1 he, ents_at bs i hi]; exact ⟨h1, h2⟩
theorem parse_same {bs : List ByteArray} {m : Nat} {one two : ByteArray} (h : OrI bs m bs.length one two) : newF [one.data.toList] [] = newF [two.data.toList] [] := by
  have e1 : (Ents bs).take bs.length = Ents bs := List.take_of_length_le (by rw [ents_len]; exact Nat.le_refl _)
  have e2 : (turnE (Ents bs) m).take bs.length = turnE (Ents bs) m := List.take_of_length_le (by rw [turn_len, ents_len]; exact Nat.le_refl _)
  have hg := h.good
  rw [e1] at hg
  have h3 := order_same (turn_perm (Ents bs) m) (fun e he => (hg e he).1) (fun e he => (hg e he).2)
  unfold newF
  rw [h.one_, h.two_, e1, e2, h3]
/-- New of one text. -/
theorem one_text (b : Nat) (s : ByteArray) (W : World) (h : W.heap[b]? = some (.cells #[.string s] 9 (0, 0))) : Sts W (some ⟨b, 0, none⟩) [s] := ⟨.inr ⟨b, 0, rfl, (Array.getElem?_eq_some_iff.1 h).1, fun k hk => by
    obtain rfl : k = 0 := by simp at hk; omega
    rw [Lib.cell_of_heap h]; rfl⟩⟩
theorem hd_ok {x : ByteArray} (h : ∀ h0 : 0 < x.size, ¬ (x[0] = 32 ∨ x[0] = 9)) : hdOk x.data.toList := by
  intro b hb
  cases hx : x.data.toList with
  | nil => rw [hx] at hb; cases hb
  | cons c l =>
    rw [hx] at hb
    obtain rfl : c = b := Option.some.inj hb
    have h0 : 0 < x.size := by rw [bsz, hx]; simp
    have e : x[0] = c := by
      show x.data[0] = c
      have e2 : x.data.toList[0]'(by rw [hx]; simp) = c := by simp [hx]
      rw [← e2]; simp
    have := h h0
    rw [e] at this
    unfold isBl bl2
    simp only [List.contains_cons, List.contains_nil, Bool.or_false]
    rw [beq_eq_false_iff_ne.2 fun f => this (.inl f), beq_eq_false_iff_ne.2 fun f => this (.inr f)]; rfl
theorem not_more {l : List UInt8} {k : Nat} {c : UInt8} (hk : k < l.length) (h : c ∉ l.take k) (hn : l[k] ≠ c) : c ∉ l.take (k + 1) := by
  rw [List.take_succ_eq_append_getElem hk]
  intro f
  rcases List.mem_append.1 f with f | f
  · exact h f
  · exact hn (List.mem_singleton.1 f).symm
set_option maxHeartbeats 4000000 in
set_option maxRecDepth 100000 in
theorem order_run (x : Option Addr) (bs : List ByteArray) (c : Nat) (tn : Int) (p : Pt) (w : World) (hw : Lat w) (hS : Sts w x bs) (hbs : ∀ b ∈ bs, b.size ≤ 4194304) (ht1 : tn ≤ 9223372036854775807) (hp : p.loc.length ≤ 4194304 ∧ p.dom.length ≤ 4194304) :
    Calls Tryz.prog 8 #[.slice x bs.length c, .int .i64 tn, .agg (ptC p).toArray] w fun e w' => e = .returned (.bool true) ∧ Bel w w' := by
  have HW := hid hw
  have HAw := (show Hid (∀ W, Bel w W → Calls Tryz.prog 21 #[] W fun e w' => e = .returned (.bool true) ∧ Bel W w') from fun W hb => awake_run W (hw.next hb))
  have HP := hid hp
  have HS := hid hS
  have HBs := hid hbs
  clear hw hS hp hbs
  obtain ⟨nl, lc, dm, lt⟩ := p
  have HB0 := hid ((Bel.refl w).alloc (.cells #[.bool nl, .string ⟨lc.toArray⟩, .string ⟨dm.toArray⟩, .bool lt] 39))
  have HC0 := hid (heap_alloc_new w (.cells #[.bool nl, .string ⟨lc.toArray⟩, .string ⟨dm.toArray⟩, .bool lt] 39))
  show Calls _ _ #[.slice x bs.length c, .int .i64 tn, .agg #[.bool nl, .string ⟨lc.toArray⟩, .string ⟨dm.toArray⟩, .bool lt]] _ _
  by_cases h20 : 20 < bs.length
  · have b1 : decide ((20 : Int) < (bs.length : Int)) = true := decide_eq_true (by omega)
    go_enter Tryz.func8, Tryz.ntmps8
    go_wp2_with (first | (go_at_call 21; refine (HAw.out _ HB0.out).mono ?_; rintro e w1 ⟨rfl, hb1⟩; have HB1 := hid (HB0.out.trans hb1); have HB01 := hid hb1; clear hb1))
    go_ret
    exact ⟨rfl, HB1.out⟩
  · have b1 : decide ((20 : Int) < (bs.length : Int)) = false := decide_eq_false (by omega)
    by_cases htn : tn < 0
    · have b2 : decide (tn < 0) = true := decide_eq_true htn
      go_enter Tryz.func8, Tryz.ntmps8
      go_wp2_with (first | (go_at_call 21; refine (HAw.out _ HB0.out).mono ?_; rintro e w1 ⟨rfl, hb1⟩; have HB1 := hid (HB0.out.trans hb1); have HB01 := hid hb1; clear hb1))
      go_ret
      exact ⟨rfl, HB1.out⟩
    · have b2 : decide (tn < 0) = false := decide_eq_false htn
      obtain ⟨m, rfl⟩ : ∃ m : Nat, tn = (m : Int) := ⟨tn.toNat, by omega⟩
      go_enter Tryz.func8, Tryz.ntmps8
      go_wp2_with (first | (go_at_call 21; refine (HAw.out _ HB0.out).mono ?_; rintro e w1 ⟨rfl, hb1⟩; have HB1 := hid (HB0.out.trans hb1); have HB01 := hid hb1; clear hb1))
      go_loopg [8, 9, 10] bs.length (fun gg v8 v9 v10 wr => ∃ (one two : ByteArray) (i : Nat), v8 = .string one ∧ v9 = .string two ∧ v10 = .int .i64 i ∧ i + gg = bs.length ∧ Hid (wr = w1 ∧ OrI bs m i one two))
      case atStart => exact ⟨⟨#[]⟩, ⟨#[]⟩, 0, rfl, rfl, rfl, by omega, hid ⟨rfl, rfl, rfl, by show 0 ≤ _; omega, by show 0 ≤ _; omega, fun e he => by cases he⟩⟩
      case round =>
        obtain ⟨one, two, i, rfl, rfl, rfl, hi, H⟩ := hrel
        have Hi := hid hi
        have hin : i ≤ bs.length := by omega
        clear hi
        have ew := H.out.1.symm
        subst ew
        obtain ⟨gout, hg0⟩ : ∃ gout, gout = gk := ⟨_, rfl⟩
        subst hg0
        by_cases hlt : i < bs.length
        · obtain ⟨b, o, rfl, hcell⟩ := (HS.out.next HB1.out).place hlt
          have hj : (i + m % bs.length) % bs.length < bs.length := Nat.mod_lt _ (by omega)
          obtain ⟨b', o', e', hcell2⟩ := (HS.out.next HB1.out).place hj
          cases e'
          have HStep := hid (fun h1 h2 => H.out.2.step hlt HBs.out hj h1 h2)
          have hz1 : bs[i].size ≤ 4194304 := HBs.out _ (List.getElem_mem hlt)
          have hz2 : bs[(i + m % bs.length) % bs.length].size ≤ 4194304 := HBs.out _ (List.getElem_mem hj)
          have ho1 : one.size ≤ 83886100 := by have := H.out.2.s1; omega
          have ho2 : two.size ≤ 83886100 := by have := H.out.2.s2; omega
          have r0 : (bs.length : Int) ≠ 0 := by omega
          have hmod : (wrap64 ((i : Int) + (m : Int) % (bs.length : Int))).tmod (bs.length : Int) = (((i + m % bs.length) % bs.length : Nat) : Int) := by
            have hq : m % bs.length < bs.length := Nat.mod_lt _ (by omega)
            have e : (m : Int) % (bs.length : Int) = ((m % bs.length : Nat) : Int) := by omega
            rw [e]
            generalize m % bs.length = q at hq
            have e2 : wrap64 ((i : Int) + (q : Int)) = ((i + q : Nat) : Int) := by unfold wrap64; omega
            rw [e2]
            exact (Int.ofNat_tmod (i + q) bs.length).symm
          generalize bs[i] = ei at hcell HStep hz1
          generalize bs[(i + m % bs.length) % bs.length] = ej at hcell2 HStep hz2
          generalize (i + m % bs.length) % bs.length = J at hcell2 hmod hj
          have hJ : (0 : Int) ≤ (J : Int) ∧ (J : Int) < (bs.length : Int) := ⟨by omega, by omega⟩
          have d1 : decide ((i : Int) < 0) = false := decide_eq_false (by omega)
          have d2 : decide ((bs.length : Int) ≤ (i : Int)) = false := decide_eq_false (by omega)
          have HLe := hid (bsz ei)
          go_wp2_with fail
          go_loopg [11] ei.size (fun gg v11 wr => ∃ k : Nat, v11 = .int .i64 k ∧ k + gg = ei.size ∧ Hid (wr = w1 ∧ (10 : UInt8) ∉ ei.data.toList.take k))
          case atStart => exact ⟨0, rfl, by omega, hid ⟨rfl, by simp⟩⟩
          case round =>
            obtain ⟨k, rfl, hk, HK⟩ := hrel
            have Hk := hid hk
            have hkn : k ≤ ei.size := by omega
            clear hk
            have ew := HK.out.1.symm
            subst ew
            by_cases hlk : k < ei.size
            · have hlk' : k < ei.data.toList.length := by rw [← HLe.out]; exact hlk
              have HC := hid (show ei.data.toList[k]'hlk' = ei[k] from rfl)
              by_cases hc : ei[k] = 10
              · have bc : (((ei[k]'hlk).toNat : Int) == 10) = true := byte_eq (n := 10) (by decide) hc
                clear hc
                go_wp2_with fail
                go_ret
                exact ⟨rfl, HB1.out⟩
              · have bc : (((ei[k]'hlk).toNat : Int) == 10) = false := byte_ne (n := 10) (by decide) hc
                have HN := hid (not_more hlk' HK.out.2 fun e => hc (HC.out.symm.trans e))
                clear hc
                go_wp2_with fail
                go_roundg (gk - 1)
                case measure => have := Hk.out; omega
                case rel => exact ⟨k + 1, by go_num, by have := Hk.out; omega, hid ⟨rfl, HN.out⟩⟩
            · obtain rfl : k = ei.size := by omega
              have HN10 := hid (show (10 : UInt8) ∉ ei.data.toList by have := HK.out.2; rwa [List.take_of_length_le (by rw [← HLe.out]; exact Nat.le_refl _)] at this)
              have a1 : ∀ W : World, (Op.stringOp .add one ei).run Tryz.prog W = .ok (.string (one ++ ei)) W := fun W => run_string_add_sum W _ _ (by omega)
              have a2 : ∀ W : World, (Op.stringOp .add (one ++ ei) ⟨#[10]⟩).run Tryz.prog W = .ok (.string ((one ++ ei) ++ ⟨#[10]⟩)) W := fun W => run_string_add_sum W _ _ (by rw [ByteArray.size_append]; show _ + 1 ≤ _; omega)
              have a3 : ∀ W : World, (Op.stringOp .add two ej).run Tryz.prog W = .ok (.string (two ++ ej)) W := fun W => run_string_add_sum W _ _ (by omega)
              have a4 : ∀ W : World, (Op.stringOp .add (two ++ ej) ⟨#[10]⟩).run Tryz.prog W = .ok (.string ((two ++ ej) ++ ⟨#[10]⟩)) W := fun W => run_string_add_sum W _ _ (by rw [ByteArray.size_append]; show _ + 1 ≤ _; omega)
              by_cases h0 : 0 < ei.size
              · have d3 : decide ((0 : Int) < (ei.size : Int)) = true := decide_eq_true (by omega)
                by_cases hs : ei[0] = 32
                · have c1 : (((ei[0]'h0).toNat : Int) == 32) = true := byte_eq (n := 32) (by decide) hs
                  clear hs
                  go_wp2_with fail
                  go_ret
                  exact ⟨rfl, HB1.out⟩
                · have c1 : (((ei[0]'h0).toNat : Int) == 32) = false := byte_ne (n := 32) (by decide) hs
                  by_cases ht : ei[0] = 9
                  · have c2 : (((ei[0]'h0).toNat : Int) == 9) = true := byte_eq (n := 9) (by decide) ht
                    clear hs ht
                    go_wp2_with fail
                    go_ret
                    exact ⟨rfl, HB1.out⟩
                  · have c2 : (((ei[0]'h0).toNat : Int) == 9) = false := byte_ne (n := 9) (by decide) ht
                    have HHd := hid (show ∀ h0 : 0 < ei.size, ¬ (ei[0] = 32 ∨ ei[0] = 9) from fun _ h => h.elim hs ht)
                    clear hs ht
                    have HN := hid (HStep.out HN10.out (hd_ok HHd.out))
                    go_wp2_with fail
                    go_roundg (gout - 1)
                    case measure => have := Hi.out; omega
                    case rel => exact ⟨_, _, i + 1, rfl, rfl, by go_num, by have := Hi.out; omega, hid ⟨rfl, HN.out⟩⟩
              · have d3 : decide ((0 : Int) < (ei.size : Int)) = false := decide_eq_false (by omega)
                have HHd := hid (show ∀ h0 : 0 < ei.size, ¬ (ei[0] = 32 ∨ ei[0] = 9) from fun h => absurd h h0)
                have HN := hid (HStep.out HN10.out (hd_ok HHd.out))
                go_wp2_with fail
                go_roundg (gout - 1)
                case measure => have := Hi.out; omega
                case rel => exact ⟨_, _, i + 1, rfl, rfl, by go_num, by have := Hi.out; omega, hid ⟨rfl, HN.out⟩⟩
        · obtain rfl : i = bs.length := by omega
          have HPS := parse_same H.out.2
          have HN := fun (s : ByteArray) (W : World) (hb : Bel w W) => new_run (some ⟨W.heap.size, 0, none⟩) [s] 1 (W.alloc (.cells #[.string s] 9)) (HW.out.next (hb.alloc _)) (one_text _ s _ (heap_alloc_new W _))
          cases hR : newF [one.data.toList] [] with
          | none =>
            have hR2 : newF [two.data.toList] [] = none := by rw [← HPS]; exact hR
            have HN1 := (show Hid (∀ W, Bel w W → Calls Tryz.prog 22 #[.slice (some ⟨W.heap.size, 0, none⟩) 1 1] (W.alloc (.cells #[.string one] 9)) fun e w' => e = .returned (.tuple #[.pointer none, .int .i64 163]) ∧ Bel (W.alloc (.cells #[.string one] 9)) w') from fun W hb => (HN one W hb).mono fun e w' h => by
              have h' : NewPost [one.data.toList] (W.alloc (.cells #[.string one] 9)) e w' := h
              unfold NewPost at h'
              rw [if_neg (show ¬ 8 < [one.data.toList].length by simp), hR] at h'
              exact h')
            have HN2 := (show Hid (∀ W, Bel w W → Calls Tryz.prog 22 #[.slice (some ⟨W.heap.size, 0, none⟩) 1 1] (W.alloc (.cells #[.string two] 9)) fun e w' => e = .returned (.tuple #[.pointer none, .int .i64 163]) ∧ Bel (W.alloc (.cells #[.string two] 9)) w') from fun W hb => (HN two W hb).mono fun e w' h => by
              have h' : NewPost [two.data.toList] (W.alloc (.cells #[.string two] 9)) e w' := h
              unfold NewPost at h'
              rw [if_neg (show ¬ 8 < [two.data.toList].length by simp), hR2] at h'
              exact h')
            clear HN HPS hR hR2
            go_wp2_with (first | (go_at_call 22; (with_reducible refine (HN1.out w1 HB1.out).mono ?_); rintro e w2 ⟨rfl, hb2⟩; have HB2 := hid (HB1.out.trans (((Bel.refl w1).alloc _).trans hb2)); have HB02 := hid (((Bel.refl w1).alloc _).trans hb2); clear hb2) | (go_at_call 22; (with_reducible refine (HN2.out w2 HB2.out).mono ?_); rintro e w3 ⟨rfl, hb3⟩; have HB3 := hid (HB2.out.trans (((Bel.refl w2).alloc _).trans hb3)); have HB23 := hid (((Bel.refl w2).alloc _).trans hb3); clear hb3))
            go_ret
            exact ⟨rfl, HB3.out⟩
          | some ts =>
            have hR2 : newF [two.data.toList] [] = some ts := by rw [← HPS]; exact hR
            have HN1 := (show Hid (∀ W, Bel w W → Calls Tryz.prog 22 #[.slice (some ⟨W.heap.size, 0, none⟩) 1 1] (W.alloc (.cells #[.string one] 9)) fun e w' => ∃ a, e = .returned (.tuple #[.pointer a, .int .i64 0]) ∧ Bel (W.alloc (.cells #[.string one] 9)) w' ∧ AlAt w' a ts) from fun W hb => (HN one W hb).mono fun e w' h => by
              have h' : NewPost [one.data.toList] (W.alloc (.cells #[.string one] 9)) e w' := h
              unfold NewPost at h'
              rw [if_neg (show ¬ 8 < [one.data.toList].length by simp), hR] at h'
              exact h')
            have HN2 := (show Hid (∀ W, Bel w W → Calls Tryz.prog 22 #[.slice (some ⟨W.heap.size, 0, none⟩) 1 1] (W.alloc (.cells #[.string two] 9)) fun e w' => ∃ a, e = .returned (.tuple #[.pointer a, .int .i64 0]) ∧ Bel (W.alloc (.cells #[.string two] 9)) w' ∧ AlAt w' a ts) from fun W hb => (HN two W hb).mono fun e w' h => by
              have h' : NewPost [two.data.toList] (W.alloc (.cells #[.string two] 9)) e w' := h
              unfold NewPost at h'
              rw [if_neg (show ¬ 8 < [two.data.toList].length by simp), hR2] at h'
              exact h')
            have HE0 := fun (a : Option Addr) (W : World) (hb : Bel w W) (hA : AlAt W a ts) => Expand_run a ts (⟨nl, lc, dm, lt⟩ : Pt) W (HW.out.next hb) hA (fun q => new_direct hR q) HP.out.1 HP.out.2
            have hDl : (expandQ ts (⟨nl, lc, dm, lt⟩ : Pt)).1.length ≤ 9223372036854775807 := by
              rcases expand_cases ts (⟨nl, lc, dm, lt⟩ : Pt) with ⟨-, h⟩ | ⟨s, hf, h, -⟩
              · rw [h]; exact Nat.zero_le _
              · rw [h]; have := hf.len; show s.out.length ≤ _; omega
            have HDl := hid hDl
            clear HN HPS hR hR2 hDl
            generalize expandQ ts (⟨nl, lc, dm, lt⟩ : Pt) = D at HE0 HDl
            have HE := (show Hid (∀ a W, Bel w W → AlAt W a ts → Calls Tryz.prog 23 #[.pointer a, .agg #[.bool nl, .string ⟨lc.toArray⟩, .string ⟨dm.toArray⟩, .bool lt]] W fun e w' => ∃ x c, e = .returned (.tuple #[.slice x D.1.length c, .int .i64 D.2]) ∧ Bel W w' ∧ Pts w' x D.1) from HE0)
            clear HE0
            go_wp2_with (first | (go_at_call 22; (with_reducible refine (HN1.out w1 HB1.out).mono ?_); rintro e w2 ⟨a, rfl, hb2, hA1⟩; have HB2 := hid (HB1.out.trans (((Bel.refl w1).alloc _).trans hb2)); have HB02 := hid (((Bel.refl w1).alloc _).trans hb2); obtain ⟨ab, ach, rfl, -, -⟩ := hA1.at_; have HA1 := hid hA1; clear hA1; clear hb2) | (go_at_call 22; (with_reducible refine (HN2.out w2 HB2.out).mono ?_); rintro e w3 ⟨b, rfl, hb3, hA2⟩; have HB3 := hid (HB2.out.trans (((Bel.refl w2).alloc _).trans hb3)); have HB23 := hid (((Bel.refl w2).alloc _).trans hb3); obtain ⟨bb, bch, rfl, -, -⟩ := hA2.at_; have HA2 := hid hA2; have HA1' := hid (HA1.out.next HB23.out); clear hA2; have q3 := HB23.out.heap (HB02.out.heap (HB01.out.heap HC0.out)); have HQ3 := hid q3; have d0 : w3.cell? ⟨w.heap.size, 0, none⟩ = some (.bool nl) := (by rw [Lib.cell_of_heap q3]; rfl); have d1 : w3.cell? ⟨w.heap.size, 1, none⟩ = some (.string ⟨lc.toArray⟩) := (by rw [Lib.cell_of_heap q3]; rfl); have d2 : w3.cell? ⟨w.heap.size, 2, none⟩ = some (.string ⟨dm.toArray⟩) := (by rw [Lib.cell_of_heap q3]; rfl); have d3 : w3.cell? ⟨w.heap.size, 3, none⟩ = some (.bool lt) := (by rw [Lib.cell_of_heap q3]; rfl); clear q3; clear hb3) | (go_at_call 23; (with_reducible refine (HE.out _ w3 HB3.out HA1'.out).mono ?_); rintro e w4 ⟨x4, c4, rfl, hb4, hp4⟩; have q4 := hb4.heap HQ3.out; have y0 : w4.cell? ⟨w.heap.size, 0, none⟩ = some (.bool nl) := (by rw [Lib.cell_of_heap q4]; rfl); have y1 : w4.cell? ⟨w.heap.size, 1, none⟩ = some (.string ⟨lc.toArray⟩) := (by rw [Lib.cell_of_heap q4]; rfl); have y2 : w4.cell? ⟨w.heap.size, 2, none⟩ = some (.string ⟨dm.toArray⟩) := (by rw [Lib.cell_of_heap q4]; rfl); have y3 : w4.cell? ⟨w.heap.size, 3, none⟩ = some (.bool lt) := (by rw [Lib.cell_of_heap q4]; rfl); have HB4 := hid (HB3.out.trans hb4); have HA2' := hid (HA2.out.next hb4); have HP4 := hid hp4; clear hb4 q4 hp4) | (go_at_call 23; (with_reducible refine (HE.out _ w4 HB4.out HA2'.out).mono ?_); rintro e w5 ⟨x5, c5, rfl, hb5, hp5⟩; have HB5 := hid (HB4.out.trans hb5); have HP5 := hid hp5; have HP45 := hid (HP4.out.next hb5); clear hb5 hp5) | (go_at_call 27; refine (psame_run x4 x5 D.1 c4 c5 w5 HP45.out HP5.out HDl.out).mono ?_; rintro e w6 ⟨rfl, hb6⟩; have HB6 := hid (HB5.out.trans hb6); clear hb6))
            go_ret
            exact ⟨rfl, HB6.out⟩
end Go.Proofs.YtpmmaickjolimaaGreatDoor.Tb

/- A slice of paths that came in. -/
namespace Go.Proofs.YtpmmaickjolimaaGreatDoor.Ma
open Go.ChangeShapes Go.WideShapes Go.Deep

theorem cellsPt : Tryz.prog.cellsOf 39 = 4 := by kernel_rfl
theorem cellsB : Tryz.prog.cellsOf 4 = 1 := by kernel_rfl
theorem cellsS : Tryz.prog.cellsOf 9 = 1 := by kernel_rfl
theorem bulk_mem {H : Type} : ∀ (l : List (DataW H)) (d : DataW H), d ∈ l → Rows.uptoBulk d ≤ Rows.uptoBulkAll l
  | [], d, h => by cases h
  | e :: l, d, h => by
    rw [Rows.uptoBulkAll]
    rcases List.mem_cons.1 h with rfl | h
    · omega
    · have := bulk_mem l d h; omega
set_option maxRecDepth 100000 in
/-- A path's cells, out of its reading. -/
theorem pt_trod {H : Type} {enc : TypeId × Value → H} {W : World} {spare : Nat → Bool} {held : Bool} {b0 fuel : Nat} {cs : List Value} {x : DataW H × List MemPlace}
    (h : DataW.trod enc Tryz.prog W b0 spare held fuel 39 cs = some x) : ∃ p : Pt, cs = ptC p ∧ p.loc.length ≤ Rows.uptoBulk x.1 ∧ p.dom.length ≤ Rows.uptoBulk x.1 := by
  obtain ⟨ys, n', hn', hy, hlen, hyl, hf⟩ := DataW.trod_struct Tryz.underlying39 h
  rw [cellsPt] at hlen
  have h0 : DataW.trod enc Tryz.prog W b0 spare held n' 4 ((cs.drop 0).take (Tryz.prog.cellsOf 4)) = ys[0]? := hf 0 _ rfl
  have h1 : DataW.trod enc Tryz.prog W b0 spare held n' 9 ((cs.drop 1).take (Tryz.prog.cellsOf 9)) = ys[1]? := hf 1 _ rfl
  have h2 : DataW.trod enc Tryz.prog W b0 spare held n' 9 ((cs.drop 2).take (Tryz.prog.cellsOf 9)) = ys[2]? := hf 2 _ rfl
  have h3 : DataW.trod enc Tryz.prog W b0 spare held n' 4 ((cs.drop 3).take (Tryz.prog.cellsOf 4)) = ys[3]? := hf 3 _ rfl
  rw [cellsB] at h0 h3
  rw [cellsS] at h1 h2
  have hyl4 : ys.length = 4 := hyl
  match ys, hyl4 with
  | [y0, y1, y2, y3], _ =>
    match cs, hlen with
    | [a0, a1, a2, a3], _ =>
      obtain ⟨b, e0, -⟩ := DataW.trod_bool Tryz.underlying4 (x := y0) h0
      obtain ⟨s1, e1, d1, -⟩ := DataW.trod_string Tryz.underlying9 (x := y1) h1
      obtain ⟨s2, e2, d2, -⟩ := DataW.trod_string Tryz.underlying9 (x := y2) h2
      obtain ⟨b3, e3, -⟩ := DataW.trod_bool Tryz.underlying4 (x := y3) h3
      have f0 : a0 = .bool b := by simpa using e0
      have f1 : a1 = .string s1 := by simpa using e1
      have f2 : a2 = .string s2 := by simpa using e2
      have f3 : a3 = .bool b3 := by simpa using e3
      rw [f0, f1, f2, f3]
      have hb : Rows.uptoBulk x.1 = Rows.uptoBulk y0.1 + (Rows.uptoBulk y1.1 + (Rows.uptoBulk y2.1 + (Rows.uptoBulk y3.1 + 0))) + 1 := by
        rw [hy]; rfl
      have k1 : Rows.uptoBulk y1.1 = s1.data.toList.length + 1 := by rw [d1]; rfl
      have k2 : Rows.uptoBulk y2.1 = s2.data.toList.length + 1 := by rw [d2]; rfl
      exact ⟨⟨b, s1.data.toList, s2.data.toList, b3⟩, rfl, by show s1.data.toList.length ≤ _; omega, by show s2.data.toList.length ≤ _; omega⟩
end Go.Proofs.YtpmmaickjolimaaGreatDoor.Ma

/- What the listed package-level variables hold; a world for the rows' witness. -/
namespace Go.Proofs.YtpmmaickjolimaaGreatDoor.Ci
open Go.RowKit Go.ChangeShapes Go.WideShapes Go.ChangeAt Go.Lib

theorem own : ownKnob Tryz.prog.godebug = none := by kernel_rfl
def laidL : List (String × DataW Unit) := [("math/bits.deBruijn32tab", Rows.laid_math_bits_deBruijn32tab), ("math/bits.deBruijn64tab", Rows.laid_math_bits_deBruijn64tab), ("internal/strconv.uint64pow10", Rows.laid_internal_strconv_uint64pow10), ("unicode/utf8.acceptRanges", Rows.laid_unicode_utf8_acceptRanges), ("strconv.ErrRange", Rows.laid_strconv_ErrRange), ("strconv.ErrSyntax", Rows.laid_strconv_ErrSyntax), ("unicode/utf8.first", Rows.laid_unicode_utf8_first)]
def db64 : List Int := [0, 1, 56, 2, 57, 49, 28, 3, 61, 58, 42, 50, 38, 29, 17, 4, 62, 47, 59, 36, 45, 43, 51, 22, 53, 39, 33, 30, 24, 18, 12, 5, 63, 55, 48, 27, 60, 41, 37, 16, 46, 35, 44, 21, 52, 32, 23, 11, 54, 26, 40, 15, 34, 20, 31, 10, 25, 14, 19, 9, 13, 8, 7, 6]
theorem star : "*" ++ "errors.errorString" = "*errors.errorString" := by decide
theorem rowE (u : TypeId) (h : Tryz.prog.typeName? 3 u = some "*errors.errorString") : u = 249 :=
  typeName_ptr_named (nm := "errors.errorString") (by rw [star]; kernel_rfl) (by kernel_rfl) (by decide) u (by rw [star]; exact h)
theorem gPow : Tryz.prog.globalNamed "internal/strconv.uint64pow10" = some 3 := by kernel_rfl
theorem gDb : Tryz.prog.globalNamed "math/bits.deBruijn64tab" = some 7 := by kernel_rfl
theorem gErr : Tryz.prog.globalNamed "strconv.ErrSyntax" = some 1 := by kernel_rfl
/-- What the row's list gives. -/
theorem lay_of {W : World} (hL : laidMet Tryz.prog laidL W) (hS : W.ShapedOpen Tryz.prog) : Lay W := by
  have hdb : Lib.TabIs Tryz.prog W "math/bits.deBruijn64tab" .u8 db64 :=
    Lib.tabIs_of_head (e := 5) gDb (by kernel_rfl) Tryz.underlying255 Tryz.underlying5 (by kernel_rfl) (by kernel_rfl) (show laidMet Tryz.prog (("math/bits.deBruijn64tab", Lib.tabData .u8 db64) :: _) W from hL.tail)
  have hpw : Lib.TabIs Tryz.prog W "internal/strconv.uint64pow10" .u64 Lib.pow10Tab :=
    Lib.tabIs_of_head (e := 176) gPow (by kernel_rfl) Tryz.underlying242 Tryz.underlying176 (by kernel_rfl) (by kernel_rfl) (show laidMet Tryz.prog (("internal/strconv.uint64pow10", Lib.tabData .u64 Lib.pow10Tab) :: _) W from hL.tail.tail)
  obtain ⟨a0, t0, hv0, -, -, -⟩ := laid_sentinel (g := 1) hL.tail.tail.tail.tail.tail (by kernel_rfl) (by kernel_rfl) Tryz.underlying93 rowE Tryz.underlying249 Tryz.underlying251 rfl rfl Tryz.underlying9 (by kernel_rfl) (by kernel_rfl)
  have c15 : W.cell? ⟨7, 15, none⟩ = some (.int .u8 4) := hdb.cell gDb 15 (by decide)
  have hsz : 8 ≤ W.heap.size := by
    rcases Nat.lt_or_ge 7 W.heap.size with f | f
    · exact f
    · simp [World.cell?, Array.getElem?_eq_none f] at c15
  refine ⟨hsz, ?_, ⟨_, _, World.var?_cell gErr hv0 0⟩, fun w' hb => ?_, c15⟩
  · exact Go.Proofs.cell_of_shapedOpen_int (g := 0) (zero := #[.int .i64 0]) (t := 3) hS (of_decide_eq_true (by kernel_rfl)) (by kernel_rfl) rfl (by kernel_rfl) (by kernel_rfl) Tryz.underlying3
  · exact var?_below hb gPow (by omega) hpw

/-- The settled world, the two errors' structs, the variables as their initialisers lay them. -/
noncomputable def laidWorld (os : Os) : World :=
  let N := (World.settled Tryz.prog os).heap.size
  let w0 := World.holding Tryz.prog os ⟨#[.cells #[.string ⟨#[105, 110, 118, 97, 108, 105, 100, 32, 115, 121, 110, 116, 97, 120]⟩] 251, .cells #[.string ⟨#[118, 97, 108, 117, 101, 32, 111, 117, 116, 32, 111, 102, 32, 114, 97, 110, 103, 101]⟩] 251], #[], []⟩
  let put (h : Array Obj) (g : Nat) (cs : Array Value) : Array Obj := h.modify g fun
    | .cells _ t frozen => .cells cs t frozen
    | o => o
  let h0 := put (put w0.heap 1 #[.iface 249 (.pointer (some ⟨N, 0, none⟩))]) 2 #[.iface 249 (.pointer (some ⟨N + 1, 0, none⟩))]
  let h1 := put h0 4 (Lib.firstTab.map fun z => Value.int .u8 z).toArray
  let h2 := put h1 5 ((List.range 16).flatMap fun i => [Value.int .u8 (Lib.accLo i), Value.int .u8 (Lib.accHi i)]).toArray
  let h3 := put h2 3 (Lib.pow10Tab.map fun z => Value.int .u64 z).toArray
  let h4 := put h3 7 (db64.map fun z => Value.int .u8 z).toArray
  let h5 := put h4 6 (([0, 1, 28, 2, 29, 14, 24, 3, 30, 22, 20, 15, 25, 17, 4, 8, 31, 27, 13, 23, 21, 19, 16, 7, 26, 12, 18, 6, 11, 5, 10, 9] : List Int).map fun z => Value.int .u8 z).toArray
  { w0 with heap := h5 }
noncomputable abbrev N0 : Nat := (World.settled Tryz.prog default).heap.size
set_option maxRecDepth 1000000 in
theorem laid_in (os : Os) (args : Array Value) : LaidIn Tryz.prog ((laidWorld os).forCall (fun _ _ => 0) ⟨#[], args, []⟩).memory laidL [6, 7, 3, 5, 2, 1, 4, N0, N0 + 1] :=
  LaidIn.of_run _ 8 (by kernel_rfl) (by kernel_rfl) (by kernel_rfl) (by kernel_rfl)
theorem laid_met (os : Os) (args : Array Value) : laidMet Tryz.prog laidL ((laidWorld os).forCall (fun _ _ => 0) ⟨#[], args, []⟩).memory := (laid_in os args).met
end Go.Proofs.YtpmmaickjolimaaGreatDoor.Ci

/- What the listed package-level variables hold; texts and a path that came in. -/
namespace Go.Proofs.YtpmmaickjolimaaGreatDoor.Tb
open Go.ChangeShapes Go.WideShapes Go.Deep Go.RowKit Go.Lib
open Ma (Pt Pts ptC ptCs)
open Ci (Bel Lay laidL lay_of)

theorem laid_first : ("unicode/utf8.first", Lib.firstData) ∈ laidL := by
  have e : Rows.laid_unicode_utf8_first = Lib.firstData := by kernel_rfl
  rw [← e]
  unfold laidL
  simp
theorem laid_accept : ("unicode/utf8.acceptRanges", Lib.acceptData) ∈ laidL := by
  have e : Rows.laid_unicode_utf8_acceptRanges = Lib.acceptData := by kernel_rfl
  rw [← e]
  unfold laidL
  simp
theorem nF : Tryz.prog.globalNamed "unicode/utf8.first" = some 4 := by kernel_rfl
theorem nA : Tryz.prog.globalNamed "unicode/utf8.acceptRanges" = some 5 := by kernel_rfl
set_option maxRecDepth 100000 in
theorem tabs_of {W : World} (hL : laidMet Tryz.prog laidL W) : Lib.Utf8Tabs 4 5 W := by
  have h3 := Lib.laidMet.reads hL laid_first
  have h4 := Lib.laidMet.reads hL laid_accept
  refine ⟨fun c hc => ?_, fun i hi => ?_⟩
  · obtain ⟨g, t, cs, fuel, p, hg, hty, hvar, hd⟩ := h3
    obtain rfl := Option.some.inj (nF.symm.trans hg)
    obtain rfl : 245 = t := Option.some.inj ((show (Tryz.prog.globals[4]?).map (·.type) = some 245 by kernel_rfl).symm.trans hty)
    have hcs := cells_of_tab Tryz.underlying245 Tryz.underlying5 (by kernel_rfl) (by kernel_rfl) hd
    have := World.var?_cell hg hvar c
    rw [this, ← Array.getElem?_toList, hcs]
    simp [firstTab, hc]
  · obtain ⟨g, t, cs, fuel, p, hg, hty, hvar, hd⟩ := h4
    obtain rfl := Option.some.inj (nA.symm.trans hg)
    obtain rfl : 248 = t := Option.some.inj ((show (Tryz.prog.globals[5]?).map (·.type) = some 248 by kernel_rfl).symm.trans hty)
    obtain ⟨fuel', d, q, hdi, he⟩ := array_elem Tryz.underlying248 hd i hi
    simp only [List.getElem?_map, List.getElem?_range hi, Option.map_some, Option.some.injEq] at hdi
    subst hdi
    rw [show Tryz.prog.cellsOf 247 = 2 by kernel_rfl] at he
    have hcs := ints_of_struct Tryz.underlying247 (fun j f hj => by
      match j, hj with
      | 0, hj => simp at hj; subst hj; exact ⟨Tryz.underlying5, rfl, by kernel_rfl⟩
      | 1, hj => simp at hj; subst hj; exact ⟨Tryz.underlying5, rfl, by kernel_rfl⟩
      | j + 2, hj => simp at hj) (by kernel_rfl) he
    have e0 := congrArg (·[0]?) hcs
    have e1 := congrArg (·[1]?) hcs
    simp only [List.getElem?_take, List.getElem?_drop] at e0 e1
    constructor
    · rw [World.var?_cell hg hvar (2 * i), ← Array.getElem?_toList]
      simpa [Nat.mul_comm] using e0
    · rw [World.var?_cell hg hvar (2 * i + 1), ← Array.getElem?_toList]
      simpa [Nat.mul_comm] using e1
theorem lat_of {W : World} (hL : laidMet Tryz.prog laidL W) (hS : W.ShapedOpen Tryz.prog) : Lat W := by
  exact ⟨lay_of hL hS, (lay_of hL hS).size, fun w' hb => Utf8Tabs_below (tabs_of hL) hb⟩
theorem bulk_le {H : Type} : ∀ l : List (DataW H), l.length ≤ Rows.uptoBulkAll l := by
  intro l
  induction l with
  | nil => exact Nat.zero_le _
  | cons e l ih =>
    have : 1 ≤ Rows.uptoBulk e := by
      cases e with
      | lit q => cases q <;> simp [Rows.uptoBulk]
      | _ => simp [Rows.uptoBulk]
    rw [Rows.uptoBulkAll, List.length_cons]; omega
/-- Texts that came in. -/
theorem sts_of {H : Type} {enc : TypeId × Value → H} {W : World} {x : Option Addr} {len cap : Nat} {d : DataW H} {ps : List MemPlace}
    (h : DataW.Trod enc Tryz.prog W 0 (fun _ => true) true 46 (.slice x len cap) d ps) :
    ∃ bs : List ByteArray, len = bs.length ∧ Sts W x bs ∧ (∀ b ∈ bs, b.size ≤ Rows.uptoBulk d) ∧ bs.length ≤ Rows.uptoBulk d := by
  obtain ⟨fuel, hf⟩ := h
  rcases open_strings Tryz.underlying46 Tryz.underlying9 Ma.cellsS hf with ⟨hcs, -⟩ | ⟨a, l, c, ss, hcs, -, hl, hm, hz, hx, hc, hsz⟩
  · simp [Value.cells] at hcs
    obtain ⟨rfl, rfl, rfl⟩ := hcs
    exact ⟨[], rfl, ⟨.inl rfl⟩, by simp, by simp⟩
  · simp [Value.cells] at hcs
    obtain ⟨rfl, rfl, rfl⟩ := hcs
    simp only [if_true] at hz
    simp only [Prod.mk.injEq] at hx
    have hlen : (ss.take len).length = len := by rw [List.length_take, hz]; omega
    have hbd : ∀ b ∈ ss.take len, b.size ≤ Rows.uptoBulk d := by
      intro b hb
      rw [hx.1]
      have := Ma.bulk_mem (H := H) (Go.ChangeShapes.strs (ss.take len)) (.lit (.string b.data.toList)) (List.mem_map.2 ⟨b, hb, rfl⟩)
      have e : Rows.uptoBulk (DataW.lit (.string b.data.toList) : DataW H) = b.data.toList.length + 1 := rfl
      rw [e, ← Lib.size_eq] at this
      rw [Rows.uptoBulk]; omega
    have hln : len ≤ Rows.uptoBulk d := by
      rw [hx.1, Rows.uptoBulk]
      have := bulk_le (H := H) (Go.ChangeShapes.strs (ss.take len))
      have e : (Go.ChangeShapes.strs (ss.take len) : List (DataW H)).length = len := by unfold Go.ChangeShapes.strs; rw [List.length_map, hlen]
      rw [e] at this
      omega
    refine ⟨ss.take len, hlen.symm, ⟨?_⟩, hbd, by rw [hlen]; exact hln⟩
    by_cases h0 : len = 0
    · left; rw [h0]; rfl
    · right
      have h00 := hc 0 (by omega)
      obtain ⟨b, o, sp⟩ := a
      have hsp : sp = none := by simpa [Addr.add] using World.cell?_spot h00
      subst hsp
      refine ⟨b, o, rfl, ?_, ?_⟩
      · refine Nat.lt_of_not_le fun hge => ?_
        simp [Addr.add, World.cell?, Array.getElem?_eq_none hge] at h00
      · intro k hk
        have hk' : k < len := by rw [hlen] at hk; exact hk
        have h := hc k (by omega)
        rw [Ci.addr_add] at h
        rw [h, List.getElem_take, List.getD_eq_getElem?_getD, List.getElem?_eq_getElem (by omega)]
        rfl
set_option maxRecDepth 100000 in
/-- A path that came in by value. -/
theorem pt_of {H : Type} {enc : TypeId × Value → H} {W : World} {r : Reach} {b0 : Nat} {v : Value} {d : DataW H} {ps : List MemPlace} (hv : Value.okWide Tryz.prog W r b0 39 v)
    (h : DataW.Trod enc Tryz.prog W 0 (fun _ => true) true 39 v d ps) : ∃ p : Pt, v = .agg (ptC p).toArray ∧ p.loc.length ≤ Rows.uptoBulk d ∧ p.dom.length ≤ Rows.uptoBulk d := by
  obtain ⟨cs, rfl, hsz⟩ := okWide_struct Tryz.underlying39 hv
  obtain ⟨fuel, hf⟩ := h
  obtain ⟨p, e, h1, h2⟩ := Ma.pt_trod hf
  refine ⟨p, ?_, h1, h2⟩
  rw [← e]
  simp [Value.cells]
end Go.Proofs.YtpmmaickjolimaaGreatDoor.Tb
