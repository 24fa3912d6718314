/- Walks of the reference: Right. -/
import Derived.Test.YtpmmaickjolimaaGreatDoorJ28
import Derived.Test.YtpmmaickjolimaaGreatDoorJ22
namespace Go.Proofs.YtpmmaickjolimaaGreatDoor.Ma
open Go.RowKit
open Ci (Bel Lay ext_bytes app_data Nt netC netV zeroN zeroN_fits addrQ errQ netC_one net_len range_net)

theorem any_step {α : Type} (p : α → Bool) (l : List α) (k : Nat) (hk : k < l.length) (h : (l.take k).any p = false) : (l.take (k + 1)).any p = p l[k] := by
  rw [List.take_succ_eq_append_getElem hk, List.any_append, h]
  simp
theorem any_true {α : Type} (p : α → Bool) (l : List α) (k : Nat) (hk : k < l.length) (h : p l[k] = true) : l.any p = true := by
  rw [List.any_eq_true]
  exact ⟨l[k], List.getElem_mem hk, h⟩
theorem odd_two (b : UInt8) : oddB b = (decide ((b.toNat : Int) < 32) || decide ((126 : Int) < (b.toNat : Int))) := by
  unfold oddB
  congr 1 <;> (congr 1; exact propext ⟨fun h => by omega, fun h => by omega⟩)
/-- What Right says of a path that is not null. -/
theorem right_plain (l d : ByteArray) (t m : Bool) (hm : mayQ (pOf false l d t) = m) : rightP (pOf false l d t) = if !m then 90 else if 64 < (⟨(formP l.data.toList).toArray⟩ : ByteArray).size ∨ (!t) ∧ 255 < d.size ∨ 254 < (⟨(shownP (pOf false l d t)).toArray⟩ : ByteArray).size then 91 else 0 := by
  unfold rightP
  rw [hm, Lib.size_eq d, Lib.size_eq ⟨(formP l.data.toList).toArray⟩, Lib.size_eq ⟨(shownP (pOf false l d t)).toArray⟩]
  cases m with
  | false => rfl
  | true =>
    have e : (pOf false l d t).null = false := rfl
    rw [e]
    simp only [Bool.not_true, Bool.false_eq_true, if_false]
    refine ite_congr (propext ⟨fun h => ?_, fun h => ?_⟩) (fun _ => rfl) (fun _ => rfl)
    · exact h.imp id (Or.imp id fun h => by have : 256 < (shownP (pOf false l d t)).length + 2 := h; show 254 < (shownP (pOf false l d t)).length; omega)
    · exact h.imp id (Or.imp id fun h => by have : 254 < (shownP (pOf false l d t)).length := h; show 256 < (shownP (pOf false l d t)).length + 2; omega)
theorem may_false {l : List UInt8} {d : List UInt8} {t : Bool} (h : l.isEmpty = true ∨ l.any oddB = true) : mayQ ⟨false, l, d, t⟩ = false := by
  unfold mayQ
  rw [if_neg Bool.false_ne_true]
  simp only
  rw [if_pos]
  rcases h with h | h <;> simp [h]
theorem tests_plain {f d s : Nat} {r : Int} (t : Bool) {c1 c2 c3 : Bool} (g1 : decide ((64 : Int) < (f : Int)) = c1) (g2 : decide ((255 : Int) < (d : Int)) = c2) (g3 : decide ((254 : Int) < (s : Int)) = c3)
    (h : r = if !true then 90 else if 64 < f ∨ (!t) ∧ 255 < d ∨ 254 < s then 91 else 0) : r = if (c1 || ((!t && c2) || c3)) then 91 else 0 := by
  rw [h, if_neg (by decide), ← g1, ← g2, ← g3]
  have e : (64 < f ∨ (!t) = true ∧ 255 < d ∨ 254 < s) ↔ ((decide ((64 : Int) < (f : Int)) || ((!t && decide ((255 : Int) < (d : Int))) || decide ((254 : Int) < (s : Int)))) = true) := by
    simp only [Bool.or_eq_true, Bool.and_eq_true, decide_eq_true_eq]
    constructor
    · rintro (h | ⟨h1, h2⟩ | h)
      · exact .inl (by omega)
      · exact .inr (.inl ⟨h1, by omega⟩)
      · exact .inr (.inr (by omega))
    · rintro (h | ⟨h1, h2⟩ | h)
      · exact .inl (by omega)
      · exact .inr (.inl ⟨h1, by omega⟩)
      · exact .inr (.inr (by omega))
  by_cases hc : (64 < f ∨ (!t) = true ∧ 255 < d ∨ 254 < s)
  · rw [if_pos hc, if_pos (e.1 hc)]
  · rw [if_neg hc, if_neg fun k => hc (e.2 k)]
set_option maxHeartbeats 4000000 in
set_option maxRecDepth 100000 in
theorem rright_run (n : Bool) (l d : ByteArray) (t : Bool) (w : World) (hl : l.size ≤ 4194304) (hd : d.size ≤ 4194304) :
    Calls Tryz.prog 26 #[.agg #[.bool n, .string l, .string d, .bool t]] w fun e w' => e = .returned (.int .i64 (rightP (pOf n l d t))) ∧ Bel w w' := by
  have H0 := hid (And.intro ((Bel.refl w).alloc (.cells #[.bool n, .string l, .string d, .bool t] 39)) (heap_alloc_new w (.cells #[.bool n, .string l, .string d, .bool t] 39)))
  cases n with
  | true =>
    have he := fun W => eq_pt true l d t true ⟨#[]⟩ ⟨#[]⟩ false W
    have hq : decide (true = true ∧ l = ⟨#[]⟩ ∧ d = ⟨#[]⟩ ∧ t = false) = mayQ (pOf true l d t) := by
      rw [show mayQ (pOf true l d t) = (decide (l = ⟨#[]⟩) && (decide (d = ⟨#[]⟩) && !t)) from may_null l d t]
      cases t <;> simp
    rw [hq] at he
    have HR := hid (show rightP (pOf true l d t) = if !mayQ (pOf true l d t) then 90 else 0 from rfl)
    clear hq
    cases hm : mayQ (pOf true l d t) with
    | true =>
      rw [hm] at he HR
      clear hm
      go_enter Tryz.func26, Tryz.ntmps26
      go_wp2_with (first | (refine wpList_load_mid rfl 39 (.tmp 1) rfl w.heap.size 0 rfl [.bool true, .string l, .string d, .bool t] _ (range_pt H0.out.2) Tryz.underlying39 rfl pt_size ?_))
      go_ret
      exact ⟨by rw [HR.out]; rfl, H0.out.1⟩
    | false =>
      rw [hm] at he HR
      clear hm
      go_enter Tryz.func26, Tryz.ntmps26
      go_wp2_with (first | (refine wpList_load_mid rfl 39 (.tmp 1) rfl w.heap.size 0 rfl [.bool true, .string l, .string d, .bool t] _ (range_pt H0.out.2) Tryz.underlying39 rfl pt_size ?_))
      go_ret
      exact ⟨by rw [HR.out]; rfl, H0.out.1⟩
  | false =>
    have hll : l.data.toList.length = l.size := by rw [Lib.size_eq]
    have HL := hid hll
    clear hll
    have HMF := hid (fun h => may_false (l := l.data.toList) (d := d.data.toList) (t := t) h)
    have HRP := hid (fun m hm => right_plain l d t m hm)
    have HF := (show Hid (∀ W, Calls Tryz.prog 69 #[.string l] W fun e w' => e = .returned (.string ⟨(formP l.data.toList).toArray⟩) ∧ Bel W w') from fun W => rlocal_run l W hl)
    have HSh := (show Hid (∀ W, Calls Tryz.prog 70 #[.agg #[.bool false, .string l, .string d, .bool t]] W fun e w' => e = .returned (.string ⟨(shownP (pOf false l d t)).toArray⟩) ∧ Bel W w') from fun W => rform_run false l d t W hl hd)
    have HLo := (show Hid (∀ W, Calls Tryz.prog 66 #[.string d] W fun e w' => e = .returned (.string ⟨(lowL d.data.toList).toArray⟩) ∧ Bel W w') from fun W => rlower_run d W (by omega))
    generalize (⟨(formP l.data.toList).toArray⟩ : ByteArray) = fl at HF HRP
    generalize (⟨(shownP (pOf false l d t)).toArray⟩ : ByteArray) = sh at HSh HRP
    generalize hr : rightP (pOf false l d t) = r at HRP
    clear hr
    have HP0 := hid H0.out.2
    have HB0 := hid H0.out.1
    have q1 : (w.alloc (.cells #[.bool false, .string l, .string d, .bool t] 39)).cell? ⟨w.heap.size, 1, none⟩ = some (.string l) := by rw [Lib.cell_of_heap HP0.out]; rfl
    have p2 : (w.alloc (.cells #[.bool false, .string l, .string d, .bool t] 39)).cell? ⟨w.heap.size, 2, none⟩ = some (.string d) := by rw [Lib.cell_of_heap HP0.out]; rfl
    go_enter Tryz.func26, Tryz.ntmps26
    go_wp2_with fail
    generalize w.alloc (.cells #[.bool false, .string l, .string d, .bool t] 39) = w0 at HP0 HB0 q1 p2 ⊢
    clear H0
    go_loopg [3] l.size (fun gg v3 wr => ∃ k : Nat, v3 = .int .i64 k ∧ k + gg = l.size ∧ Hid (wr = w0 ∧ (l.data.toList.take k).any oddB = false))
    case atStart => exact ⟨0, rfl, by omega, hid ⟨rfl, rfl⟩⟩
    case round =>
      obtain ⟨k, rfl, hk, H⟩ := hrel
      have HK := hid hk
      have hkn : k ≤ l.size := by omega
      clear hk
      obtain rfl : wr = w0 := H.out.1
      by_cases hlt : k < l.size
      · have hlt' : k < l.data.toList.length := by rw [HL.out]; exact hlt
        have HC := hid (show l.data.toList[k]'hlt' = l[k] from rfl)
        have HO := hid (odd_two l[k])
        have HN := hid (any_step oddB l.data.toList k hlt' H.out.2)
        have HA := hid (fun h => any_true oddB l.data.toList k hlt' h)
        cases h1 : decide (((l[k]'hlt).toNat : Int) < 32) with
        | true =>
          have HX := hid (show r = 90 by
            rw [HRP.out false (HMF.out (.inr (HA.out (by rw [HC.out, HO.out, h1]; rfl))))]; rfl)
          go_wp2_with fail
          go_ret
          exact ⟨by rw [HX.out]; rfl, HB0.out⟩
        | false =>
          cases h2 : decide ((126 : Int) < ((l[k]'hlt).toNat : Int)) with
          | true =>
            have HX := hid (show r = 90 by
              rw [HRP.out false (HMF.out (.inr (HA.out (by rw [HC.out, HO.out, h1, h2]; rfl))))]; rfl)
            go_wp2_with fail
            go_ret
            exact ⟨by rw [HX.out]; rfl, HB0.out⟩
          | false =>
            have HY := hid (show (l.data.toList.take (k + 1)).any oddB = false by rw [HN.out, HC.out, HO.out, h1, h2]; rfl)
            go_wp2_with fail
            go_roundg (gk - 1)
            case measure => have := HK.out; omega
            case rel => exact ⟨k + 1, by go_num, by have := HK.out; omega, hid ⟨rfl, HY.out⟩⟩
      · obtain rfl : k = l.size := by omega
        have HAny := hid (show l.data.toList.any oddB = false by have := H.out.2; rwa [List.take_of_length_le (by rw [HL.out]; exact Nat.le_refl _)] at this)
        clear H HK hkn hlt
        cases hemp : decide ((0 : Int) < (l.size : Int)) with
        | false =>
          have hempN : decide (0 < l.size) = false := decide_eq_false (by have := of_decide_eq_false hemp; omega)
          have h0 : l.data.toList.isEmpty = true := by
            rw [List.isEmpty_iff_length_eq_zero, HL.out]
            have := of_decide_eq_false hemp
            omega
          have HX := hid (show r = 90 by rw [HRP.out false (HMF.out (.inl h0))]; rfl)
          clear h0
          cases t with
          | true =>
            have HA := (show Hid (∀ W, Calls Tryz.prog 11 #[.string d] W fun e w' => e = .returned (.tuple #[.agg (netC ((addrQ d.data.toList).getD zeroN)).toArray, .int .i64 (errQ (addrQ d.data.toList))]) ∧ Bel W w') from fun W => Ci.raddr_run d W (by omega))
            have HN := hid (addr_fits d.data.toList)
            generalize (addrQ d.data.toList).getD zeroN = a at HA HN 
            have HV := (show Hid (∀ W, Calls Tryz.prog 67 #[.agg (netC a).toArray] W fun e w' => e = .returned (.tuple #[.string ⟨((Ci.showQ a).getD []).toArray⟩, .int .i64 (Ci.errS a)]) ∧ Bel W w') from fun W => Ci.rshow_run a HN.out W)
            have HZ := hid (net_len a HN.out.len)
            have HLn := hid (show (netC a).length = (netC zeroN).length by rw [Ci.netC_len a HN.out.len, Ci.netC_len zeroN zeroN_fits.len])
            generalize (⟨((Ci.showQ a).getD []).toArray⟩ : ByteArray) = v at HV 
            generalize Ci.errS a = es at HV
            generalize errQ (addrQ d.data.toList) = ea at HA 
            cases he : (ea == 0) <;> cases hv : (v.toList == d.toList) <;>
            · go_wp2_with (first | (go_at_call 66; refine (HLo.out _).mono ?_; rintro e w1 ⟨rfl, hb1⟩; have hp1 := hb1.heap HP0.out; have HB1 := hid (HB0.out.trans hb1); have q0 : w1.cell? ⟨w.heap.size, 0, none⟩ = some (.bool false) := (by rw [Lib.cell_of_heap hp1]; rfl); have q1' : w1.cell? ⟨w.heap.size, 1, none⟩ = some (.string l) := (by rw [Lib.cell_of_heap hp1]; rfl); have q2 : w1.cell? ⟨w.heap.size, 2, none⟩ = some (.string d) := (by rw [Lib.cell_of_heap hp1]; rfl); have q3 : w1.cell? ⟨w.heap.size, 3, none⟩ = some (.bool true) := (by rw [Lib.cell_of_heap hp1]; rfl); clear hb1) | (go_at_call 11; refine (HA.out _).mono ?_; rintro e w2 ⟨rfl, hb2⟩; have hp2 := hb2.heap hp1; have HB2 := hid (HB1.out.trans hb2); clear hb2) | (with_reducible refine wpList_store_blk (by with_unfolding_all rfl) 25 (.tmp 6) (.tmp 62) (by with_unfolding_all rfl) w2.heap.size (netC a) (by with_unfolding_all rfl) (by with_unfolding_all rfl) HZ.out (netC_one a) (netC zeroN) _ (heap_alloc_new w2 _) HLn.out ?_; intro w3 hc3 ho3 hs3 hb3; have hp3 := (hb3 w2 ((Bel.refl w2).alloc _) (Nat.le_refl _)).heap hp2; have HB3 := hid (HB2.out.trans (hb3 w2 ((Bel.refl w2).alloc _) (Nat.le_refl _))); clear ho3 hs3 hb3) | (with_reducible refine wpList_load_mid (by with_unfolding_all rfl) 25 (.tmp 6) (by with_unfolding_all rfl) w2.heap.size 0 (by with_unfolding_all rfl) (netC a) _ (range_net hc3) Tryz.underlying25 (by with_unfolding_all rfl) HZ.out ?_) | (go_at_call 67; refine (HV.out _).mono ?_; rintro e w4 ⟨rfl, hb4⟩; have hp4 := hb4.heap hp3; have HB4 := hid (HB3.out.trans hb4); have q0 : w4.cell? ⟨w.heap.size, 0, none⟩ = some (.bool false) := (by rw [Lib.cell_of_heap hp4]; rfl); have q1' : w4.cell? ⟨w.heap.size, 1, none⟩ = some (.string l) := (by rw [Lib.cell_of_heap hp4]; rfl); have q2 : w4.cell? ⟨w.heap.size, 2, none⟩ = some (.string d) := (by rw [Lib.cell_of_heap hp4]; rfl); have q3 : w4.cell? ⟨w.heap.size, 3, none⟩ = some (.bool true) := (by rw [Lib.cell_of_heap hp4]; rfl); clear hb4))
              go_ret
              exact ⟨by rw [HX.out]; rfl, HB4.out⟩
          | false =>
            cases hde : (d.toList == []) with
            | true =>
              have hpm : (l.toList == [112, 111, 115, 116, 109, 97, 115, 116, 101, 114]) = false := by
                rw [beq_eq_false_iff_ne]; intro e
                have := congrArg List.length e
                rw [ByteArray.toList_eq, HL.out] at this
                have h0 := of_decide_eq_false hemp
                simp at this; omega
              go_wp2_with (first | (go_at_call 66; refine (HLo.out _).mono ?_; rintro e w1 ⟨rfl, hb1⟩; have hp1 := hb1.heap HP0.out; have HB1 := hid (HB0.out.trans hb1); have q0 : w1.cell? ⟨w.heap.size, 0, none⟩ = some (.bool false) := (by rw [Lib.cell_of_heap hp1]; rfl); have q1' : w1.cell? ⟨w.heap.size, 1, none⟩ = some (.string l) := (by rw [Lib.cell_of_heap hp1]; rfl); have q2 : w1.cell? ⟨w.heap.size, 2, none⟩ = some (.string d) := (by rw [Lib.cell_of_heap hp1]; rfl); have q3 : w1.cell? ⟨w.heap.size, 3, none⟩ = some (.bool false) := (by rw [Lib.cell_of_heap hp1]; rfl); clear hb1))
              go_ret
              exact ⟨by rw [HX.out]; rfl, HB1.out⟩
            | false =>
              have HNm := (show Hid (∀ W, Calls Tryz.prog 68 #[.string d] W fun e w' => e = .returned (.bool (namedQ d.data.toList)) ∧ w' = W) from fun W => rname_run d W (by omega))
              go_wp2_with (first | (go_at_call 66; refine (HLo.out _).mono ?_; rintro e w1 ⟨rfl, hb1⟩; have hp1 := hb1.heap HP0.out; have HB1 := hid (HB0.out.trans hb1); have q0 : w1.cell? ⟨w.heap.size, 0, none⟩ = some (.bool false) := (by rw [Lib.cell_of_heap hp1]; rfl); have q1' : w1.cell? ⟨w.heap.size, 1, none⟩ = some (.string l) := (by rw [Lib.cell_of_heap hp1]; rfl); have q2 : w1.cell? ⟨w.heap.size, 2, none⟩ = some (.string d) := (by rw [Lib.cell_of_heap hp1]; rfl); have q3 : w1.cell? ⟨w.heap.size, 3, none⟩ = some (.bool false) := (by rw [Lib.cell_of_heap hp1]; rfl); clear hb1) | (go_at_call 68; refine (HNm.out _).mono ?_; rintro e w2 ⟨rfl, h2⟩; have h2 := h2.symm; subst h2))
              go_ret
              exact ⟨by rw [HX.out]; rfl, HB1.out⟩
        | true =>
          have hempN : decide (0 < l.size) = true := decide_eq_true (by have := of_decide_eq_true hemp; omega)
          have hlo : (l.data.toList.isEmpty || l.data.toList.any oddB) = false := by
            rw [HAny.out, Bool.or_false, ← Bool.not_eq_true, List.isEmpty_iff_length_eq_zero, HL.out]
            have := of_decide_eq_true hemp
            omega
          have HLO := hid hlo
          clear hlo
          cases t with
          | true =>
            have HX0 := hid (may_lit l d HLO.out)
            have HA := (show Hid (∀ W, Calls Tryz.prog 11 #[.string d] W fun e w' => e = .returned (.tuple #[.agg (netC ((addrQ d.data.toList).getD zeroN)).toArray, .int .i64 (errQ (addrQ d.data.toList))]) ∧ Bel W w') from fun W => Ci.raddr_run d W (by omega))
            have HN := hid (addr_fits d.data.toList)
            generalize (addrQ d.data.toList).getD zeroN = a at HA HN HX0
            have HV := (show Hid (∀ W, Calls Tryz.prog 67 #[.agg (netC a).toArray] W fun e w' => e = .returned (.tuple #[.string ⟨((Ci.showQ a).getD []).toArray⟩, .int .i64 (Ci.errS a)]) ∧ Bel W w') from fun W => Ci.rshow_run a HN.out W)
            have HZ := hid (net_len a HN.out.len)
            have HLn := hid (show (netC a).length = (netC zeroN).length by rw [Ci.netC_len a HN.out.len, Ci.netC_len zeroN zeroN_fits.len])
            generalize (⟨((Ci.showQ a).getD []).toArray⟩ : ByteArray) = v at HV HX0
            generalize Ci.errS a = es at HV
            generalize errQ (addrQ d.data.toList) = ea at HA HX0
            cases he : (ea == 0) with
            | false =>
              have HX := hid (show r = 90 by rw [HRP.out false (HX0.out.trans (by rw [he]; rfl))]; rfl)
              go_wp2_with (first | (go_at_call 66; refine (HLo.out _).mono ?_; rintro e w1 ⟨rfl, hb1⟩; have hp1 := hb1.heap HP0.out; have HB1 := hid (HB0.out.trans hb1); have q0 : w1.cell? ⟨w.heap.size, 0, none⟩ = some (.bool false) := (by rw [Lib.cell_of_heap hp1]; rfl); have q1' : w1.cell? ⟨w.heap.size, 1, none⟩ = some (.string l) := (by rw [Lib.cell_of_heap hp1]; rfl); have q2 : w1.cell? ⟨w.heap.size, 2, none⟩ = some (.string d) := (by rw [Lib.cell_of_heap hp1]; rfl); have q3 : w1.cell? ⟨w.heap.size, 3, none⟩ = some (.bool true) := (by rw [Lib.cell_of_heap hp1]; rfl); clear hb1) | (go_at_call 11; refine (HA.out _).mono ?_; rintro e w2 ⟨rfl, hb2⟩; have hp2 := hb2.heap hp1; have HB2 := hid (HB1.out.trans hb2); clear hb2) | (with_reducible refine wpList_store_blk (by with_unfolding_all rfl) 25 (.tmp 6) (.tmp 62) (by with_unfolding_all rfl) w2.heap.size (netC a) (by with_unfolding_all rfl) (by with_unfolding_all rfl) HZ.out (netC_one a) (netC zeroN) _ (heap_alloc_new w2 _) HLn.out ?_; intro w3 hc3 ho3 hs3 hb3; have hp3 := (hb3 w2 ((Bel.refl w2).alloc _) (Nat.le_refl _)).heap hp2; have HB3 := hid (HB2.out.trans (hb3 w2 ((Bel.refl w2).alloc _) (Nat.le_refl _))); clear ho3 hs3 hb3) | (with_reducible refine wpList_load_mid (by with_unfolding_all rfl) 25 (.tmp 6) (by with_unfolding_all rfl) w2.heap.size 0 (by with_unfolding_all rfl) (netC a) _ (range_net hc3) Tryz.underlying25 (by with_unfolding_all rfl) HZ.out ?_) | (go_at_call 67; refine (HV.out _).mono ?_; rintro e w4 ⟨rfl, hb4⟩; have hp4 := hb4.heap hp3; have HB4 := hid (HB3.out.trans hb4); have q0 : w4.cell? ⟨w.heap.size, 0, none⟩ = some (.bool false) := (by rw [Lib.cell_of_heap hp4]; rfl); have q1' : w4.cell? ⟨w.heap.size, 1, none⟩ = some (.string l) := (by rw [Lib.cell_of_heap hp4]; rfl); have q2 : w4.cell? ⟨w.heap.size, 2, none⟩ = some (.string d) := (by rw [Lib.cell_of_heap hp4]; rfl); have q3 : w4.cell? ⟨w.heap.size, 3, none⟩ = some (.bool true) := (by rw [Lib.cell_of_heap hp4]; rfl); clear hb4))
              go_ret
              exact ⟨by rw [HX.out]; rfl, HB4.out⟩
            | true =>
              cases hv : (v.toList == d.toList) with
              | false =>
                have HX := hid (show r = 90 by rw [HRP.out false (HX0.out.trans (by rw [he, hv]; rfl))]; rfl)
                go_wp2_with (first | (go_at_call 66; refine (HLo.out _).mono ?_; rintro e w1 ⟨rfl, hb1⟩; have hp1 := hb1.heap HP0.out; have HB1 := hid (HB0.out.trans hb1); have q0 : w1.cell? ⟨w.heap.size, 0, none⟩ = some (.bool false) := (by rw [Lib.cell_of_heap hp1]; rfl); have q1' : w1.cell? ⟨w.heap.size, 1, none⟩ = some (.string l) := (by rw [Lib.cell_of_heap hp1]; rfl); have q2 : w1.cell? ⟨w.heap.size, 2, none⟩ = some (.string d) := (by rw [Lib.cell_of_heap hp1]; rfl); have q3 : w1.cell? ⟨w.heap.size, 3, none⟩ = some (.bool true) := (by rw [Lib.cell_of_heap hp1]; rfl); clear hb1) | (go_at_call 11; refine (HA.out _).mono ?_; rintro e w2 ⟨rfl, hb2⟩; have hp2 := hb2.heap hp1; have HB2 := hid (HB1.out.trans hb2); clear hb2) | (with_reducible refine wpList_store_blk (by with_unfolding_all rfl) 25 (.tmp 6) (.tmp 62) (by with_unfolding_all rfl) w2.heap.size (netC a) (by with_unfolding_all rfl) (by with_unfolding_all rfl) HZ.out (netC_one a) (netC zeroN) _ (heap_alloc_new w2 _) HLn.out ?_; intro w3 hc3 ho3 hs3 hb3; have hp3 := (hb3 w2 ((Bel.refl w2).alloc _) (Nat.le_refl _)).heap hp2; have HB3 := hid (HB2.out.trans (hb3 w2 ((Bel.refl w2).alloc _) (Nat.le_refl _))); clear ho3 hs3 hb3) | (with_reducible refine wpList_load_mid (by with_unfolding_all rfl) 25 (.tmp 6) (by with_unfolding_all rfl) w2.heap.size 0 (by with_unfolding_all rfl) (netC a) _ (range_net hc3) Tryz.underlying25 (by with_unfolding_all rfl) HZ.out ?_) | (go_at_call 67; refine (HV.out _).mono ?_; rintro e w4 ⟨rfl, hb4⟩; have hp4 := hb4.heap hp3; have HB4 := hid (HB3.out.trans hb4); have q0 : w4.cell? ⟨w.heap.size, 0, none⟩ = some (.bool false) := (by rw [Lib.cell_of_heap hp4]; rfl); have q1' : w4.cell? ⟨w.heap.size, 1, none⟩ = some (.string l) := (by rw [Lib.cell_of_heap hp4]; rfl); have q2 : w4.cell? ⟨w.heap.size, 2, none⟩ = some (.string d) := (by rw [Lib.cell_of_heap hp4]; rfl); have q3 : w4.cell? ⟨w.heap.size, 3, none⟩ = some (.bool true) := (by rw [Lib.cell_of_heap hp4]; rfl); clear hb4))
                go_ret
                exact ⟨by rw [HX.out]; rfl, HB4.out⟩
              | true =>
                have HM := hid (show mayQ (pOf false l d true) = true from HX0.out.trans (by rw [he, hv]; rfl))
                have HT := hid (HRP.out true HM.out)
                cases g1 : decide ((64 : Int) < (fl.size : Int)) <;> cases g2 : decide ((255 : Int) < (d.size : Int)) <;> cases g3 : decide ((254 : Int) < (sh.size : Int)) <;>
                · have HX := hid (tests_plain true g1 g2 g3 HT.out)
                  go_wp2_with (first | (go_at_call 66; refine (HLo.out _).mono ?_; rintro e w1 ⟨rfl, hb1⟩; have hp1 := hb1.heap HP0.out; have HB1 := hid (HB0.out.trans hb1); have q0 : w1.cell? ⟨w.heap.size, 0, none⟩ = some (.bool false) := (by rw [Lib.cell_of_heap hp1]; rfl); have q1' : w1.cell? ⟨w.heap.size, 1, none⟩ = some (.string l) := (by rw [Lib.cell_of_heap hp1]; rfl); have q2 : w1.cell? ⟨w.heap.size, 2, none⟩ = some (.string d) := (by rw [Lib.cell_of_heap hp1]; rfl); have q3 : w1.cell? ⟨w.heap.size, 3, none⟩ = some (.bool true) := (by rw [Lib.cell_of_heap hp1]; rfl); clear hb1) | (go_at_call 11; refine (HA.out _).mono ?_; rintro e w2 ⟨rfl, hb2⟩; have hp2 := hb2.heap hp1; have HB2 := hid (HB1.out.trans hb2); clear hb2) | (with_reducible refine wpList_store_blk (by with_unfolding_all rfl) 25 (.tmp 6) (.tmp 62) (by with_unfolding_all rfl) w2.heap.size (netC a) (by with_unfolding_all rfl) (by with_unfolding_all rfl) HZ.out (netC_one a) (netC zeroN) _ (heap_alloc_new w2 _) HLn.out ?_; intro w3 hc3 ho3 hs3 hb3; have hp3 := (hb3 w2 ((Bel.refl w2).alloc _) (Nat.le_refl _)).heap hp2; have HB3 := hid (HB2.out.trans (hb3 w2 ((Bel.refl w2).alloc _) (Nat.le_refl _))); clear ho3 hs3 hb3) | (with_reducible refine wpList_load_mid (by with_unfolding_all rfl) 25 (.tmp 6) (by with_unfolding_all rfl) w2.heap.size 0 (by with_unfolding_all rfl) (netC a) _ (range_net hc3) Tryz.underlying25 (by with_unfolding_all rfl) HZ.out ?_) | (go_at_call 67; refine (HV.out _).mono ?_; rintro e w4 ⟨rfl, hb4⟩; have hp4 := hb4.heap hp3; have HB4 := hid (HB3.out.trans hb4); have q0 : w4.cell? ⟨w.heap.size, 0, none⟩ = some (.bool false) := (by rw [Lib.cell_of_heap hp4]; rfl); have q1' : w4.cell? ⟨w.heap.size, 1, none⟩ = some (.string l) := (by rw [Lib.cell_of_heap hp4]; rfl); have q2 : w4.cell? ⟨w.heap.size, 2, none⟩ = some (.string d) := (by rw [Lib.cell_of_heap hp4]; rfl); have q3 : w4.cell? ⟨w.heap.size, 3, none⟩ = some (.bool true) := (by rw [Lib.cell_of_heap hp4]; rfl); clear hb4) | (go_at_call 69; refine (HF.out _).mono ?_; rintro e w5 ⟨rfl, hb5⟩; have hp5 := hb5.heap hp4; have HB5 := hid (HB4.out.trans hb5); have r0 : w5.cell? ⟨w.heap.size, 0, none⟩ = some (.bool false) := (by rw [Lib.cell_of_heap hp5]; rfl); have r1 : w5.cell? ⟨w.heap.size, 1, none⟩ = some (.string l) := (by rw [Lib.cell_of_heap hp5]; rfl); have r2 : w5.cell? ⟨w.heap.size, 2, none⟩ = some (.string d) := (by rw [Lib.cell_of_heap hp5]; rfl); have r3 : w5.cell? ⟨w.heap.size, 3, none⟩ = some (.bool true) := (by rw [Lib.cell_of_heap hp5]; rfl); clear hb5) | (go_at_call 70; refine (HSh.out _).mono ?_; rintro e w6 ⟨rfl, hb6⟩; have HB6 := hid (HB5.out.trans hb6); clear hb6))
                  go_ret
                  first | exact ⟨by rw [HX.out]; rfl, HB6.out⟩ | exact ⟨by rw [HX.out]; rfl, HB5.out⟩
          | false =>
            have HM0 := hid (show mayQ ⟨false, l.data.toList, d.data.toList, false⟩ = if d.data.toList.isEmpty then l.data.toList == pmL else namedQ d.data.toList && lowL d.data.toList == d.data.toList by
              unfold mayQ
              rw [if_neg Bool.false_ne_true]
              simp only
              rw [HLO.out, if_neg Bool.false_ne_true, if_neg Bool.false_ne_true])
            cases hde : (d.toList == []) with
            | true =>
              have h0 : d.data.toList.isEmpty = true := by rw [← ByteArray.toList_eq]; have := beq_iff_eq.1 hde; rw [this]; rfl
              cases hpm : (l.toList == [112, 111, 115, 116, 109, 97, 115, 116, 101, 114]) with
              | false =>
                have HX := hid (show r = 90 by rw [HRP.out false (HM0.out.trans (by rw [h0, if_pos rfl, ← ByteArray.toList_eq]; exact hpm))]; rfl)
                clear h0
                go_wp2_with (first | (go_at_call 66; refine (HLo.out _).mono ?_; rintro e w1 ⟨rfl, hb1⟩; have hp1 := hb1.heap HP0.out; have HB1 := hid (HB0.out.trans hb1); have q0 : w1.cell? ⟨w.heap.size, 0, none⟩ = some (.bool false) := (by rw [Lib.cell_of_heap hp1]; rfl); have q1' : w1.cell? ⟨w.heap.size, 1, none⟩ = some (.string l) := (by rw [Lib.cell_of_heap hp1]; rfl); have q2 : w1.cell? ⟨w.heap.size, 2, none⟩ = some (.string d) := (by rw [Lib.cell_of_heap hp1]; rfl); have q3 : w1.cell? ⟨w.heap.size, 3, none⟩ = some (.bool false) := (by rw [Lib.cell_of_heap hp1]; rfl); clear hb1))
                go_ret
                exact ⟨by rw [HX.out]; rfl, HB1.out⟩
              | true =>
                have HM := hid (show mayQ (pOf false l d false) = true from HM0.out.trans (by rw [h0, if_pos rfl, ← ByteArray.toList_eq]; exact hpm))
                clear h0
                have HT := hid (HRP.out true HM.out)
                cases g1 : decide ((64 : Int) < (fl.size : Int)) <;> cases g2 : decide ((255 : Int) < (d.size : Int)) <;> cases g3 : decide ((254 : Int) < (sh.size : Int)) <;>
                · have HX := hid (tests_plain false g1 g2 g3 HT.out)
                  go_wp2_with (first | (go_at_call 66; refine (HLo.out _).mono ?_; rintro e w1 ⟨rfl, hb1⟩; have hp1 := hb1.heap HP0.out; have HB1 := hid (HB0.out.trans hb1); have q0 : w1.cell? ⟨w.heap.size, 0, none⟩ = some (.bool false) := (by rw [Lib.cell_of_heap hp1]; rfl); have q1' : w1.cell? ⟨w.heap.size, 1, none⟩ = some (.string l) := (by rw [Lib.cell_of_heap hp1]; rfl); have q2 : w1.cell? ⟨w.heap.size, 2, none⟩ = some (.string d) := (by rw [Lib.cell_of_heap hp1]; rfl); have q3 : w1.cell? ⟨w.heap.size, 3, none⟩ = some (.bool false) := (by rw [Lib.cell_of_heap hp1]; rfl); clear hb1) | (go_at_call 69; refine (HF.out _).mono ?_; rintro e w5 ⟨rfl, hb5⟩; have hp5 := hb5.heap hp1; have HB5 := hid (HB1.out.trans hb5); have r0 : w5.cell? ⟨w.heap.size, 0, none⟩ = some (.bool false) := (by rw [Lib.cell_of_heap hp5]; rfl); have r1 : w5.cell? ⟨w.heap.size, 1, none⟩ = some (.string l) := (by rw [Lib.cell_of_heap hp5]; rfl); have r2 : w5.cell? ⟨w.heap.size, 2, none⟩ = some (.string d) := (by rw [Lib.cell_of_heap hp5]; rfl); have r3 : w5.cell? ⟨w.heap.size, 3, none⟩ = some (.bool false) := (by rw [Lib.cell_of_heap hp5]; rfl); clear hb5) | (go_at_call 70; refine (HSh.out _).mono ?_; rintro e w6 ⟨rfl, hb6⟩; have HB6 := hid (HB5.out.trans hb6); clear hb6))
                  go_ret
                  first | exact ⟨by rw [HX.out]; rfl, HB6.out⟩ | exact ⟨by rw [HX.out]; rfl, HB5.out⟩
            | false =>
              have h0 : d.data.toList.isEmpty = false := by
                rw [← ByteArray.toList_eq]; have := beq_eq_false_iff_ne.1 hde
                cases hx : d.toList with
                | nil => exact absurd hx this
                | cons => rfl
              have HNm := (show Hid (∀ W, Calls Tryz.prog 68 #[.string d] W fun e w' => e = .returned (.bool (namedQ d.data.toList)) ∧ w' = W) from fun W => rname_run d W (by omega))
              have HM1 := hid (show mayQ (pOf false l d false) = (namedQ d.data.toList && ((⟨(lowL d.data.toList).toArray⟩ : ByteArray).toList == d.toList)) from HM0.out.trans (by rw [h0, if_neg Bool.false_ne_true, ByteArray.toList_eq, ByteArray.toList_eq]))
              generalize (⟨(lowL d.data.toList).toArray⟩ : ByteArray) = lo at HLo HM1
              clear h0
              cases hn : namedQ d.data.toList with
              | false =>
                have HX := hid (show r = 90 by rw [HRP.out false (HM1.out.trans (by rw [hn]; rfl))]; rfl)
                rw [hn] at HNm
                go_wp2_with (first | (go_at_call 66; refine (HLo.out _).mono ?_; rintro e w1 ⟨rfl, hb1⟩; have hp1 := hb1.heap HP0.out; have HB1 := hid (HB0.out.trans hb1); have q0 : w1.cell? ⟨w.heap.size, 0, none⟩ = some (.bool false) := (by rw [Lib.cell_of_heap hp1]; rfl); have q1' : w1.cell? ⟨w.heap.size, 1, none⟩ = some (.string l) := (by rw [Lib.cell_of_heap hp1]; rfl); have q2 : w1.cell? ⟨w.heap.size, 2, none⟩ = some (.string d) := (by rw [Lib.cell_of_heap hp1]; rfl); have q3 : w1.cell? ⟨w.heap.size, 3, none⟩ = some (.bool false) := (by rw [Lib.cell_of_heap hp1]; rfl); clear hb1) | (go_at_call 68; refine (HNm.out _).mono ?_; rintro e w2 ⟨rfl, h2⟩; have h2 := h2.symm; subst h2))
                go_ret
                exact ⟨by rw [HX.out]; rfl, HB1.out⟩
              | true =>
                rw [hn] at HNm
                cases hlw : (lo.toList == d.toList) with
                | false =>
                  have HX := hid (show r = 90 by rw [HRP.out false (HM1.out.trans (by rw [hn, hlw]; rfl))]; rfl)
                  go_wp2_with (first | (go_at_call 66; refine (HLo.out _).mono ?_; rintro e w1 ⟨rfl, hb1⟩; have hp1 := hb1.heap HP0.out; have HB1 := hid (HB0.out.trans hb1); have q0 : w1.cell? ⟨w.heap.size, 0, none⟩ = some (.bool false) := (by rw [Lib.cell_of_heap hp1]; rfl); have q1' : w1.cell? ⟨w.heap.size, 1, none⟩ = some (.string l) := (by rw [Lib.cell_of_heap hp1]; rfl); have q2 : w1.cell? ⟨w.heap.size, 2, none⟩ = some (.string d) := (by rw [Lib.cell_of_heap hp1]; rfl); have q3 : w1.cell? ⟨w.heap.size, 3, none⟩ = some (.bool false) := (by rw [Lib.cell_of_heap hp1]; rfl); clear hb1) | (go_at_call 68; refine (HNm.out _).mono ?_; rintro e w2 ⟨rfl, h2⟩; have h2 := h2.symm; subst h2))
                  go_ret
                  exact ⟨by rw [HX.out]; rfl, HB1.out⟩
                | true =>
                  have HM := hid (show mayQ (pOf false l d false) = true from HM1.out.trans (by rw [hn, hlw]; rfl))
                  have HT := hid (HRP.out true HM.out)
                  cases g1 : decide ((64 : Int) < (fl.size : Int)) <;> cases g2 : decide ((255 : Int) < (d.size : Int)) <;> cases g3 : decide ((254 : Int) < (sh.size : Int)) <;>
                  · have HX := hid (tests_plain false g1 g2 g3 HT.out)
                    go_wp2_with (first | (go_at_call 66; refine (HLo.out _).mono ?_; rintro e w1 ⟨rfl, hb1⟩; have hp1 := hb1.heap HP0.out; have HB1 := hid (HB0.out.trans hb1); have q0 : w1.cell? ⟨w.heap.size, 0, none⟩ = some (.bool false) := (by rw [Lib.cell_of_heap hp1]; rfl); have q1' : w1.cell? ⟨w.heap.size, 1, none⟩ = some (.string l) := (by rw [Lib.cell_of_heap hp1]; rfl); have q2 : w1.cell? ⟨w.heap.size, 2, none⟩ = some (.string d) := (by rw [Lib.cell_of_heap hp1]; rfl); have q3 : w1.cell? ⟨w.heap.size, 3, none⟩ = some (.bool false) := (by rw [Lib.cell_of_heap hp1]; rfl); clear hb1) | (go_at_call 68; refine (HNm.out _).mono ?_; rintro e w2 ⟨rfl, h2⟩; have h2 := h2.symm; subst h2) | (go_at_call 69; refine (HF.out _).mono ?_; rintro e w5 ⟨rfl, hb5⟩; have hp5 := hb5.heap hp1; have HB5 := hid (HB1.out.trans hb5); have r0 : w5.cell? ⟨w.heap.size, 0, none⟩ = some (.bool false) := (by rw [Lib.cell_of_heap hp5]; rfl); have r1 : w5.cell? ⟨w.heap.size, 1, none⟩ = some (.string l) := (by rw [Lib.cell_of_heap hp5]; rfl); have r2 : w5.cell? ⟨w.heap.size, 2, none⟩ = some (.string d) := (by rw [Lib.cell_of_heap hp5]; rfl); have r3 : w5.cell? ⟨w.heap.size, 3, none⟩ = some (.bool false) := (by rw [Lib.cell_of_heap hp5]; rfl); clear hb5) | (go_at_call 70; refine (HSh.out _).mono ?_; rintro e w6 ⟨rfl, hb6⟩; have HB6 := hid (HB5.out.trans hb6); clear hb6))
                    go_ret
                    first | exact ⟨by rw [HX.out]; rfl, HB6.out⟩ | exact ⟨by rw [HX.out]; rfl, HB5.out⟩
end Go.Proofs.YtpmmaickjolimaaGreatDoor.Ma

/- AliasAlone: the law's walk. -/
namespace Go.Proofs.YtpmmaickjolimaaGreatDoor.Tb
open Go.RowKit
open Ci (Bel hid own_bel row_shape own_base addr_add splitL Aft wp_region_aft quiet_load_aft)
open Ma (Pt Pts ptC ptCs mbQ pt_infos pt_size ptCs_snoc ptCs_at rightP good_small)
open Ex (Xs findX goX expX nxt endB Fin_ Lw exp_fin addX exp_alone)

set_option maxHeartbeats 8000000 in
set_option maxRecDepth 100000 in
theorem alone_run (x : Option Addr) (bs : List ByteArray) (c : Nat) (p : Pt) (w : World) (hw : Lat w) (hS : Sts w x bs) (hp : p.loc.length ≤ 4194304 ∧ p.dom.length ≤ 4194304) :
    Calls Tryz.prog 7 #[.slice x bs.length c, .agg (ptC p).toArray] w fun e w' => e = .returned (.bool true) ∧ Bel w w' := by
  have HW := hid hw
  have HAw := (show Hid (∀ W, Bel w W → Calls Tryz.prog 21 #[] W fun e w' => e = .returned (.bool true) ∧ Bel W w') from fun W hb => awake_run W (hw.next hb))
  have HP := hid hp
  have HNC := new_cases x bs c w hw hS
  clear hw hS hp
  generalize bs.length = n0 at HNC ⊢
  rcases HNC with HN | ⟨ts, HD, HV, HN⟩
  · have HN := hid HN
    obtain ⟨nl, lc, dm, lt⟩ := p
    have HB0 := hid ((Bel.refl w).alloc (.cells #[.bool nl, .string ⟨lc.toArray⟩, .string ⟨dm.toArray⟩, .bool lt] 39))
    show Calls _ _ #[.slice x n0 c, .agg #[.bool nl, .string ⟨lc.toArray⟩, .string ⟨dm.toArray⟩, .bool lt]] _ _
    go_enter Tryz.func7, Tryz.ntmps7
    go_wp2_with (first | (go_at_call 21; refine (HAw.out _ HB0.out).mono ?_; rintro e w1 ⟨rfl, hb1⟩; have HB1 := hid (HB0.out.trans hb1); clear hb1) | (go_at_call 22; refine (HN.out w1 HB1.out).mono ?_; rintro e w3 ⟨code, hcode, rfl, hb3⟩; have b1 : (code == 0) = false := (by simpa using hcode)))
    go_ret
    exact ⟨rfl, HB1.out.trans hb3⟩
  · have HN := hid HN
    have HD := hid HD
    obtain ⟨nl, lc, dm, lt⟩ := p
    have HE0 := fun (a : Option Addr) (W : World) (hb : Bel w W) (hA : AlAt W a ts) => Expand_run a ts (⟨nl, lc, dm, lt⟩ : Pt) W (HW.out.next hb) hA HD.out HP.out.1 HP.out.2
    have HD0 := fun (a : Option Addr) (W : World) (hb : Bel w W) (hA : AlAt W a ts) => direct_run a ts (⟨nl, lc, dm, lt⟩ : Pt) W (HW.out.next hb) hA HP.out.1 HP.out.2
    have HRt := (show Hid (∀ W, Calls Tryz.prog 26 #[.agg #[.bool nl, .string ⟨lc.toArray⟩, .string ⟨dm.toArray⟩, .bool lt]] W fun e w' => e = .returned (.int .i64 (rightP (⟨nl, lc, dm, lt⟩ : Pt))) ∧ Bel W w') from fun W => Ma.rright_run nl ⟨lc.toArray⟩ ⟨dm.toArray⟩ lt W (by rw [Lib.size_eq]; exact HP.out.1) (by rw [Lib.size_eq]; exact HP.out.2))
    have HBad := hid (show (rightP (⟨nl, lc, dm, lt⟩ : Pt) ≠ 0 ∨ nl = true) → expandQ ts (⟨nl, lc, dm, lt⟩ : Pt) = ([], 1) from fun h => if_pos h)
    have HAl := hid (show (rightP (⟨nl, lc, dm, lt⟩ : Pt) = 0 ∧ nl = false) → (directQ ts (⟨nl, lc, dm, lt⟩ : Pt)).2 = false → expandQ ts (⟨nl, lc, dm, lt⟩ : Pt) = ([⟨nl, lc, dm, lt⟩], 0) from fun h hd => by
      unfold expandQ
      rw [if_neg (by rintro (f | f); exact f h.1; have f : nl = true := f; rw [h.2] at f; cases f), exp_alone (k := 50) (by unfold dQ; rw [hd]; rfl)]
      rfl)
    generalize expandQ ts (⟨nl, lc, dm, lt⟩ : Pt) = D at HE0 HBad HAl
    generalize directQ ts (⟨nl, lc, dm, lt⟩ : Pt) = I at HD0 HAl
    generalize rightP (⟨nl, lc, dm, lt⟩ : Pt) = r at HRt HBad HAl
    obtain ⟨Il, ok⟩ := I
    have HDi := (show Hid (∀ a W, Bel w W → AlAt W a ts → Calls Tryz.prog 24 #[.pointer a, .agg #[.bool nl, .string ⟨lc.toArray⟩, .string ⟨dm.toArray⟩, .bool lt]] W fun e w' => ∃ x c, e = .returned (.tuple #[.slice x Il.length c, .bool ok]) ∧ Bel W w' ∧ Pts w' x Il ∧ ∀ ad, x = some ad → W.heap.size ≤ ad.block) from HD0)
    have HB0 := hid ((Bel.refl w).alloc (.cells #[.bool nl, .string ⟨lc.toArray⟩, .string ⟨dm.toArray⟩, .bool lt] 39))
    have HC0 := hid (heap_alloc_new w (.cells #[.bool nl, .string ⟨lc.toArray⟩, .string ⟨dm.toArray⟩, .bool lt] 39))
    have HE := (show Hid (∀ a W, Bel w W → AlAt W a ts → Calls Tryz.prog 23 #[.pointer a, .agg #[.bool nl, .string ⟨lc.toArray⟩, .string ⟨dm.toArray⟩, .bool lt]] W fun e w' => ∃ x c, e = .returned (.tuple #[.slice x D.1.length c, .int .i64 D.2]) ∧ Bel W w' ∧ Pts w' x D.1) from HE0)
    clear HE0 HD0
    show Calls _ _ #[.slice x n0 c, .agg #[.bool nl, .string ⟨lc.toArray⟩, .string ⟨dm.toArray⟩, .bool lt]] _ _
    by_cases hr : r = 0
    · subst hr
      cases nl with
      | true =>
        have e := HBad.out (.inr rfl)
        rw [e] at HE
        have HE := (show Hid (∀ a W, Bel w W → AlAt W a ts → Calls Tryz.prog 23 #[.pointer a, .agg #[.bool true, .string ⟨lc.toArray⟩, .string ⟨dm.toArray⟩, .bool lt]] W fun e w' => ∃ x c, e = .returned (.tuple #[.slice x (0 : Nat) c, .int .i64 1]) ∧ Bel W w' ∧ Pts w' x []) from HE.out)
        clear e HBad HAl
        go_enter Tryz.func7, Tryz.ntmps7
        go_wp2_with (first | (go_at_call 21; refine (HAw.out _ HB0.out).mono ?_; rintro e w1 ⟨rfl, hb1⟩; have HB1 := hid (HB0.out.trans hb1); have HB01 := hid hb1; clear hb1) | (go_at_call 22; refine (HN.out w1 HB1.out).mono ?_; rintro e w3 ⟨a, rfl, hb3, hA3⟩; have q3 := hb3.heap (HB01.out.heap HC0.out); have d0 : w3.cell? ⟨w.heap.size, 0, none⟩ = some (.bool true) := (by rw [Lib.cell_of_heap q3]; rfl); have d1 : w3.cell? ⟨w.heap.size, 1, none⟩ = some (.string ⟨lc.toArray⟩) := (by rw [Lib.cell_of_heap q3]; rfl); have d2 : w3.cell? ⟨w.heap.size, 2, none⟩ = some (.string ⟨dm.toArray⟩) := (by rw [Lib.cell_of_heap q3]; rfl); have d3 : w3.cell? ⟨w.heap.size, 3, none⟩ = some (.bool lt) := (by rw [Lib.cell_of_heap q3]; rfl); obtain ⟨ab, ach, rfl, -, -⟩ := hA3.at_; have HB3 := hid (HB1.out.trans hb3); have HA3 := hid hA3; have HQ3 := hid q3; clear hb3 hA3 q3) | (go_at_call 26; refine (HRt.out _).mono ?_; rintro e w4 ⟨rfl, hb4⟩; have q4 := hb4.heap HQ3.out; have y0 : w4.cell? ⟨w.heap.size, 0, none⟩ = some (.bool true) := (by rw [Lib.cell_of_heap q4]; rfl); have y1 : w4.cell? ⟨w.heap.size, 1, none⟩ = some (.string ⟨lc.toArray⟩) := (by rw [Lib.cell_of_heap q4]; rfl); have y2 : w4.cell? ⟨w.heap.size, 2, none⟩ = some (.string ⟨dm.toArray⟩) := (by rw [Lib.cell_of_heap q4]; rfl); have y3 : w4.cell? ⟨w.heap.size, 3, none⟩ = some (.bool lt) := (by rw [Lib.cell_of_heap q4]; rfl); have HB4 := hid (HB3.out.trans hb4); have HA4 := hid (HA3.out.next hb4); have HQ4 := hid q4; clear hb4 q4) | (go_at_call 23; refine (HE.out _ w4 HB4.out HA4.out).mono ?_; rintro e w5 ⟨x5, c5, rfl, hb5, hp5⟩; have q5 := hb5.heap HQ4.out; have z0 : w5.cell? ⟨w.heap.size, 0, none⟩ = some (.bool true) := (by rw [Lib.cell_of_heap q5]; rfl); have z1 : w5.cell? ⟨w.heap.size, 1, none⟩ = some (.string ⟨lc.toArray⟩) := (by rw [Lib.cell_of_heap q5]; rfl); have z2 : w5.cell? ⟨w.heap.size, 2, none⟩ = some (.string ⟨dm.toArray⟩) := (by rw [Lib.cell_of_heap q5]; rfl); have z3 : w5.cell? ⟨w.heap.size, 3, none⟩ = some (.bool lt) := (by rw [Lib.cell_of_heap q5]; rfl); have HB5 := hid (HB4.out.trans hb5); have HA5 := hid (HA4.out.next hb5); have HQ5 := hid q5; have HP5 := hid hp5; clear hb5 q5 hp5))
        go_ret
        exact ⟨rfl, HB5.out⟩
      | false =>
        cases ok with
        | true =>
          clear HBad HAl
          go_enter Tryz.func7, Tryz.ntmps7
          go_wp2_with (first | (go_at_call 21; refine (HAw.out _ HB0.out).mono ?_; rintro e w1 ⟨rfl, hb1⟩; have HB1 := hid (HB0.out.trans hb1); have HB01 := hid hb1; clear hb1) | (go_at_call 22; refine (HN.out w1 HB1.out).mono ?_; rintro e w3 ⟨a, rfl, hb3, hA3⟩; have q3 := hb3.heap (HB01.out.heap HC0.out); have d0 : w3.cell? ⟨w.heap.size, 0, none⟩ = some (.bool false) := (by rw [Lib.cell_of_heap q3]; rfl); have d1 : w3.cell? ⟨w.heap.size, 1, none⟩ = some (.string ⟨lc.toArray⟩) := (by rw [Lib.cell_of_heap q3]; rfl); have d2 : w3.cell? ⟨w.heap.size, 2, none⟩ = some (.string ⟨dm.toArray⟩) := (by rw [Lib.cell_of_heap q3]; rfl); have d3 : w3.cell? ⟨w.heap.size, 3, none⟩ = some (.bool lt) := (by rw [Lib.cell_of_heap q3]; rfl); obtain ⟨ab, ach, rfl, -, -⟩ := hA3.at_; have HB3 := hid (HB1.out.trans hb3); have HA3 := hid hA3; have HQ3 := hid q3; clear hb3 hA3 q3) | (go_at_call 26; refine (HRt.out _).mono ?_; rintro e w4 ⟨rfl, hb4⟩; have q4 := hb4.heap HQ3.out; have y0 : w4.cell? ⟨w.heap.size, 0, none⟩ = some (.bool false) := (by rw [Lib.cell_of_heap q4]; rfl); have y1 : w4.cell? ⟨w.heap.size, 1, none⟩ = some (.string ⟨lc.toArray⟩) := (by rw [Lib.cell_of_heap q4]; rfl); have y2 : w4.cell? ⟨w.heap.size, 2, none⟩ = some (.string ⟨dm.toArray⟩) := (by rw [Lib.cell_of_heap q4]; rfl); have y3 : w4.cell? ⟨w.heap.size, 3, none⟩ = some (.bool lt) := (by rw [Lib.cell_of_heap q4]; rfl); have HB4 := hid (HB3.out.trans hb4); have HA4 := hid (HA3.out.next hb4); have HQ4 := hid q4; clear hb4 q4) | (go_at_call 23; refine (HE.out _ w4 HB4.out HA4.out).mono ?_; rintro e w5 ⟨x5, c5, rfl, hb5, hp5⟩; have q5 := hb5.heap HQ4.out; have z0 : w5.cell? ⟨w.heap.size, 0, none⟩ = some (.bool false) := (by rw [Lib.cell_of_heap q5]; rfl); have z1 : w5.cell? ⟨w.heap.size, 1, none⟩ = some (.string ⟨lc.toArray⟩) := (by rw [Lib.cell_of_heap q5]; rfl); have z2 : w5.cell? ⟨w.heap.size, 2, none⟩ = some (.string ⟨dm.toArray⟩) := (by rw [Lib.cell_of_heap q5]; rfl); have z3 : w5.cell? ⟨w.heap.size, 3, none⟩ = some (.bool lt) := (by rw [Lib.cell_of_heap q5]; rfl); have HB5 := hid (HB4.out.trans hb5); have HA5 := hid (HA4.out.next hb5); have HQ5 := hid q5; have HP5 := hid hp5; clear hb5 q5 hp5) | (go_at_call 24; refine (HDi.out _ w5 HB5.out HA5.out).mono ?_; rintro e w6 ⟨x6, c6, rfl, hb6, -, -⟩; have HB6 := hid (HB5.out.trans hb6); have HB56 := hid hb6; clear hb6))
          go_ret
          exact ⟨rfl, HB6.out⟩
        | false =>
          have e := HAl.out ⟨rfl, rfl⟩ rfl
          rw [e] at HE
          have HE := (show Hid (∀ a W, Bel w W → AlAt W a ts → Calls Tryz.prog 23 #[.pointer a, .agg #[.bool false, .string ⟨lc.toArray⟩, .string ⟨dm.toArray⟩, .bool lt]] W fun e w' => ∃ x c, e = .returned (.tuple #[.slice x (1 : Nat) c, .int .i64 0]) ∧ Bel W w' ∧ Pts w' x [⟨false, lc, dm, lt⟩]) from HE.out)
          clear e HBad HAl
          have HEq := fun W => eq_ptc (⟨false, lc, dm, lt⟩ : Pt) ⟨false, lc, dm, lt⟩ W
          rw [decide_eq_true rfl] at HEq
          go_enter Tryz.func7, Tryz.ntmps7
          go_upto_region 14 with (first | (go_at_call 21; refine (HAw.out _ HB0.out).mono ?_; rintro e w1 ⟨rfl, hb1⟩; have HB1 := hid (HB0.out.trans hb1); have HB01 := hid hb1; clear hb1) | (go_at_call 22; refine (HN.out w1 HB1.out).mono ?_; rintro e w3 ⟨a, rfl, hb3, hA3⟩; have q3 := hb3.heap (HB01.out.heap HC0.out); have d0 : w3.cell? ⟨w.heap.size, 0, none⟩ = some (.bool false) := (by rw [Lib.cell_of_heap q3]; rfl); have d1 : w3.cell? ⟨w.heap.size, 1, none⟩ = some (.string ⟨lc.toArray⟩) := (by rw [Lib.cell_of_heap q3]; rfl); have d2 : w3.cell? ⟨w.heap.size, 2, none⟩ = some (.string ⟨dm.toArray⟩) := (by rw [Lib.cell_of_heap q3]; rfl); have d3 : w3.cell? ⟨w.heap.size, 3, none⟩ = some (.bool lt) := (by rw [Lib.cell_of_heap q3]; rfl); obtain ⟨ab, ach, rfl, -, -⟩ := hA3.at_; have HB3 := hid (HB1.out.trans hb3); have HA3 := hid hA3; have HQ3 := hid q3; clear hb3 hA3 q3) | (go_at_call 26; refine (HRt.out _).mono ?_; rintro e w4 ⟨rfl, hb4⟩; have q4 := hb4.heap HQ3.out; have y0 : w4.cell? ⟨w.heap.size, 0, none⟩ = some (.bool false) := (by rw [Lib.cell_of_heap q4]; rfl); have y1 : w4.cell? ⟨w.heap.size, 1, none⟩ = some (.string ⟨lc.toArray⟩) := (by rw [Lib.cell_of_heap q4]; rfl); have y2 : w4.cell? ⟨w.heap.size, 2, none⟩ = some (.string ⟨dm.toArray⟩) := (by rw [Lib.cell_of_heap q4]; rfl); have y3 : w4.cell? ⟨w.heap.size, 3, none⟩ = some (.bool lt) := (by rw [Lib.cell_of_heap q4]; rfl); have HB4 := hid (HB3.out.trans hb4); have HA4 := hid (HA3.out.next hb4); have HQ4 := hid q4; clear hb4 q4) | (go_at_call 23; refine (HE.out _ w4 HB4.out HA4.out).mono ?_; rintro e w5 ⟨x5, c5, rfl, hb5, hp5⟩; have q5 := hb5.heap HQ4.out; have z0 : w5.cell? ⟨w.heap.size, 0, none⟩ = some (.bool false) := (by rw [Lib.cell_of_heap q5]; rfl); have z1 : w5.cell? ⟨w.heap.size, 1, none⟩ = some (.string ⟨lc.toArray⟩) := (by rw [Lib.cell_of_heap q5]; rfl); have z2 : w5.cell? ⟨w.heap.size, 2, none⟩ = some (.string ⟨dm.toArray⟩) := (by rw [Lib.cell_of_heap q5]; rfl); have z3 : w5.cell? ⟨w.heap.size, 3, none⟩ = some (.bool lt) := (by rw [Lib.cell_of_heap q5]; rfl); have HB5 := hid (HB4.out.trans hb5); have HA5 := hid (HA4.out.next hb5); have HQ5 := hid q5; have HP5 := hid hp5; clear hb5 q5 hp5) | (go_at_call 24; refine (HDi.out _ w5 HB5.out HA5.out).mono ?_; rintro e w6 ⟨x6, c6, rfl, hb6, -, -⟩; have HB6 := hid (HB5.out.trans hb6); have HB56 := hid hb6; clear hb6))
          obtain ⟨b7, o7, rfl, hr7⟩ := (HP5.out.next HB56.out).place (k := 0) Nat.one_pos
          have K1 := hid (fun q : Aft w6 => show q.wd.rangeAt b7 (o7 + 0 * 4) (ptC ⟨false, lc, dm, lt⟩) from by
            obtain ⟨b2, o2, e, hr2⟩ := (HP5.out.next (HB56.out.trans q.bel)).place (k := 0) Nat.one_pos
            cases e; exact hr2)
          rw [Nat.zero_mul, Nat.add_zero] at K1
          have K2 := hid (fun q : Aft w6 => show q.wd.rangeAt w.heap.size 0 (ptC ⟨false, lc, dm, lt⟩) from Ci.range_of ((HB56.out.trans q.bel).heap HQ5.out) fun j v hv => by rw [Nat.zero_add]; exact hv)
          clear hr7
          refine wp_region_aft (by kernel_rfl) (by kernel_rfl) ?_
          repeat (first
            | go_big_quiet_skip
            | (refine quiet_load_aft 39 _ rfl b7 o7 rfl (ptC ⟨false, lc, dm, lt⟩) _ K1.out Tryz.underlying39 rfl pt_size (by rfl) ?_; intro a' ha'; simp only [Act.put, List.setIfInBounds_toArray, List.set_cons_succ, List.set_cons_zero] at ha'; subst ha')
            | (refine quiet_load_aft 39 _ rfl w.heap.size 0 rfl (ptC ⟨false, lc, dm, lt⟩) _ K2.out Tryz.underlying39 rfl pt_size (by rfl) ?_; intro a' ha'; simp only [Act.put, List.setIfInBounds_toArray, List.set_cons_succ, List.set_cons_zero] at ha'; subst ha')
            | go_big_quiet_step (fail)
            | quiet_step (fail))
          refine wpQuiet_nil ?_
          rintro _ ⟨q, rfl⟩
          go_wp2_with fail
          go_ret
          exact ⟨rfl, HB6.out.trans q.bel⟩
    · have b2 : (r == 0) = false := by simpa using hr
      have e := HBad.out (.inl hr)
      rw [e] at HE
      have HE := (show Hid (∀ a W, Bel w W → AlAt W a ts → Calls Tryz.prog 23 #[.pointer a, .agg #[.bool nl, .string ⟨lc.toArray⟩, .string ⟨dm.toArray⟩, .bool lt]] W fun e w' => ∃ x c, e = .returned (.tuple #[.slice x (0 : Nat) c, .int .i64 1]) ∧ Bel W w' ∧ Pts w' x []) from HE.out)
      clear e HBad HAl
      go_enter Tryz.func7, Tryz.ntmps7
      go_wp2_with (first | (go_at_call 21; refine (HAw.out _ HB0.out).mono ?_; rintro e w1 ⟨rfl, hb1⟩; have HB1 := hid (HB0.out.trans hb1); have HB01 := hid hb1; clear hb1) | (go_at_call 22; refine (HN.out w1 HB1.out).mono ?_; rintro e w3 ⟨a, rfl, hb3, hA3⟩; have q3 := hb3.heap (HB01.out.heap HC0.out); have d0 : w3.cell? ⟨w.heap.size, 0, none⟩ = some (.bool nl) := (by rw [Lib.cell_of_heap q3]; rfl); have d1 : w3.cell? ⟨w.heap.size, 1, none⟩ = some (.string ⟨lc.toArray⟩) := (by rw [Lib.cell_of_heap q3]; rfl); have d2 : w3.cell? ⟨w.heap.size, 2, none⟩ = some (.string ⟨dm.toArray⟩) := (by rw [Lib.cell_of_heap q3]; rfl); have d3 : w3.cell? ⟨w.heap.size, 3, none⟩ = some (.bool lt) := (by rw [Lib.cell_of_heap q3]; rfl); obtain ⟨ab, ach, rfl, -, -⟩ := hA3.at_; have HB3 := hid (HB1.out.trans hb3); have HA3 := hid hA3; have HQ3 := hid q3; clear hb3 hA3 q3) | (go_at_call 26; refine (HRt.out _).mono ?_; rintro e w4 ⟨rfl, hb4⟩; have q4 := hb4.heap HQ3.out; have y0 : w4.cell? ⟨w.heap.size, 0, none⟩ = some (.bool nl) := (by rw [Lib.cell_of_heap q4]; rfl); have y1 : w4.cell? ⟨w.heap.size, 1, none⟩ = some (.string ⟨lc.toArray⟩) := (by rw [Lib.cell_of_heap q4]; rfl); have y2 : w4.cell? ⟨w.heap.size, 2, none⟩ = some (.string ⟨dm.toArray⟩) := (by rw [Lib.cell_of_heap q4]; rfl); have y3 : w4.cell? ⟨w.heap.size, 3, none⟩ = some (.bool lt) := (by rw [Lib.cell_of_heap q4]; rfl); have HB4 := hid (HB3.out.trans hb4); have HA4 := hid (HA3.out.next hb4); have HQ4 := hid q4; clear hb4 q4) | (go_at_call 23; refine (HE.out _ w4 HB4.out HA4.out).mono ?_; rintro e w5 ⟨x5, c5, rfl, hb5, hp5⟩; have q5 := hb5.heap HQ4.out; have z0 : w5.cell? ⟨w.heap.size, 0, none⟩ = some (.bool nl) := (by rw [Lib.cell_of_heap q5]; rfl); have z1 : w5.cell? ⟨w.heap.size, 1, none⟩ = some (.string ⟨lc.toArray⟩) := (by rw [Lib.cell_of_heap q5]; rfl); have z2 : w5.cell? ⟨w.heap.size, 2, none⟩ = some (.string ⟨dm.toArray⟩) := (by rw [Lib.cell_of_heap q5]; rfl); have z3 : w5.cell? ⟨w.heap.size, 3, none⟩ = some (.bool lt) := (by rw [Lib.cell_of_heap q5]; rfl); have HB5 := hid (HB4.out.trans hb5); have HA5 := hid (HA4.out.next hb5); have HQ5 := hid q5; have HP5 := hid hp5; clear hb5 q5 hp5))
      go_ret
      exact ⟨rfl, HB5.out⟩
end Go.Proofs.YtpmmaickjolimaaGreatDoor.Tb
