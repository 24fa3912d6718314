/- Replace. -/
import Derived.Test.YtpmmaickjolimaaGreatDoorK25
namespace Go.Proofs.YtpmmaickjolimaaGreatDoor.Ma
open Go.RowKit
open Ci (Bel Lay own_bel row_shape addr_add own_base)

theorem builder_next {T e : TypeId} {B b : Nat} {bs : List Value} {W W' : World} (h : Lib.IsBuilder T e B b bs W) (hb : Bel W W') : Lib.IsBuilder T e B b bs W' := by
  have key : ∀ p, Lib.BuilderAt T e B b p bs W → Lib.BuilderAt T e B b p bs W' := fun p ⟨h1, v, h2, h3, h4⟩ => ⟨h1, v, hb.heap h2, own_bel h3 hb, h4⟩
  exact h.elim (fun x => .inl (key _ x)) (fun x => .inr (key _ x))
theorem builder_new (w : World) : Lib.IsBuilder 90 5 w.heap.size w.heap.size (Lib.byteCells []) (w.alloc (.cells #[.pointer none, .slice none 0 0] 90)) :=
  .inl ⟨Nat.le_refl _, .slice none 0 0, heap_alloc_new w _, ⟨rfl, .inl ⟨rfl, rfl⟩⟩, by simp [Value.ownBlock]⟩
theorem mlCs_at (L : List Ml) (k : Nat) (hk : k < L.length) (j : Nat) (v : Value) (hv : (mlC L[k])[j]? = some v) : (mlCs L)[k * 7 + j]? = some v := by
  induction L generalizing k with
  | nil => simp at hk
  | cons t L ih =>
    show (mlC t ++ mlCs L)[k * 7 + j]? = some v
    have hl : (mlC t).length = 7 := rfl
    cases k with
    | zero =>
      have hj : j < 7 := (List.getElem?_eq_some_iff.1 hv).1
      rw [List.getElem?_append_left (by omega), Nat.zero_mul, Nat.zero_add]
      exact hv
    | succ k =>
      rw [List.getElem?_append_right (by omega), hl, show (k + 1) * 7 + j - 7 = k * 7 + j by omega]
      exact ih k (by simp at hk; omega) hv
/-- A mail of a row. -/
theorem mls_at {a W : World} {base g cp : Nat} {L : List Ml} (h : a.ownsRow base 41 7 (.slice (some ⟨g, 0, none⟩) L.length cp) L.length (mlCs L)) (hb : Bel a W) (k : Nat) (hk : k < L.length) (j : Nat) (v : Value) (hv : (mlC L[k])[j]? = some v) : W.cell? ⟨g, k * 7 + j, none⟩ = some v := by
  have hj := mlCs_at L k hk j v hv
  have hl := (List.getElem?_eq_some_iff.1 hj).1
  rw [h.1] at hl
  exact ((World.ownsRow.cellAt (own_bel h hb) (k * 7 + j) hl).trans hj)
theorem bytes_app (a : List UInt8) (s : ByteArray) : Lib.byteCells a ++ Lib.strCells s = Lib.byteCells (a ++ s.data.toList) := by
  unfold Lib.byteCells Lib.strCells
  rw [List.map_append]
theorem ordM_drop {n : Nat} {l : List Ml} {a : Nat} (h : OrdM n a l) (hl : l ≠ []) : a ≤ (l.head hl).from_ ∧ (l.head hl).from_ < (l.head hl).til ∧ (l.head hl).til ≤ n ∧ OrdM n (l.head hl).til l.tail := by
  cases l with
  | nil => exact absurd rfl hl
  | cons x l =>
    refine ⟨h.1, h.2.1, ?_, h.2.2⟩
    have key : ∀ (l : List Ml) (a : Nat), OrdM n a l → a ≤ n := by
      intro l
      induction l with
      | nil => intro a h; exact h
      | cons y l ih => intro a h; have := ih _ h.2.2; have := h.1; have := h.2.1; omega
    exact key _ _ h.2.2
structure ReI (s : List UInt8) (ms : List Ml) (l : List Pt) (w1 wr : World) (k a : Nat) (acc : List UInt8) : Prop where
  bel : Bel w1 wr
  bd : Lib.IsBuilder 90 5 w1.heap.size w1.heap.size (Lib.byteCells acc) wr
  ord : OrdM s.length a (ms.drop k)
  eq : replaceQ s l = replF s a acc (ms.drop k) (l.drop k)
  num : acc.length ≤ k * 70000
  at_ : a ≤ s.length
theorem ordM_le {n : Nat} : ∀ {l : List Ml} {a : Nat}, OrdM n a l → a ≤ n
  | [], _, h => h
  | _ :: _, _, h => by have := ordM_le h.2.2; have := h.1; have := h.2.1; omega
theorem ext_len (s : ByteArray) (a b : Nat) : (s.extract a b).data.toList.length ≤ s.size := by
  rw [← Lib.size_eq, ByteArray.size_extract]; omega
set_option maxHeartbeats 8000000 in
set_option maxRecDepth 100000 in
theorem mreplace_run (s : ByteArray) (x : Option Addr) (l : List Pt) (c : Nat) (w : World) (hw : Lay w) (hL : Pts w x l) (hS : Small l) :
    Calls Tryz.prog 19 #[.string s, .slice x l.length c] w fun e w' => e = .returned (.tuple #[.string ⟨(replaceQ s.data.toList l).1.toArray⟩, .int .i64 (replaceQ s.data.toList l).2]) ∧ Bel w w' := by
  have HW := hid hw
  have HL := hid hL
  have HS := hid hS
  have hsz := Lib.size_eq s
  have HSZ := hid hsz
  have HP := hid (mparse_run s w hw)
  have HPO := hid (fun ms (h : parseQ s.data.toList = (ms, 0)) => And.intro (parse_ord h) (parse_ok h))
  have HQ := hid (show replaceQ s.data.toList l = if (parseQ s.data.toList).2 ≠ 0 then ([], (parseQ s.data.toList).2) else if (parseQ s.data.toList).1.length ≠ l.length then ([], 1) else replF s.data.toList 0 [] (parseQ s.data.toList).1 l from rfl)
  unfold ParsePost at HP
  obtain ⟨pq, hpq⟩ : ∃ pq, pq = parseQ s.data.toList := ⟨_, rfl⟩
  rw [← hpq] at HP HQ HPO
  obtain ⟨ms, pe⟩ := pq
  simp only at HP HQ
  clear hw hL hS hpq
  by_cases h0 : pe = 0
  · subst h0
    have HPO2 := hid (HPO.out ms rfl)
    by_cases hlen : ms.length = l.length
    · have HQ2 := hid (show replaceQ s.data.toList l = replF s.data.toList 0 [] ms l by
        rw [HQ.out, if_neg (by simp), if_neg (by simpa using hlen)])
      have h65 : s.size ≤ 65536 := by rw [hsz]; exact HPO2.out.2.1
      have h200 : ms.length ≤ 200 := HPO2.out.2.2.choose_spec.2.2
      have HORD := hid HPO2.out.1
      clear HPO HPO2 HQ hsz
      go_enter Tryz.func19, Tryz.ntmps19
      go_upto_region 4 with (first | (go_at_call 18; refine HP.out.mono ?_; rintro e w1 ⟨v, rfl, hb1, hrow⟩; have HB1 := hid hb1; have HROW := hid hrow; clear hb1 hrow))
      obtain ⟨x3, c3, rfl, hcl, -⟩ := row_shape HROW.out
      clear hcl HP
      have hbq : ((ms.length : Int) == (l.length : Int)) = true := by rw [hlen]; exact beq_self_eq_true _
      have hleq : (ms.length : Int) = (l.length : Int) := by omega
      have HLEN := hid hlen
      clear hlen
      go_wp2_with fail
      go_loopg [9, 31] l.length (fun gg v9 v31 wr => ∃ (k a : Nat) (acc : List UInt8), v9 = .int .i64 a ∧ v31 = .int .i64 k ∧ k + gg = l.length ∧ Hid (ReI s.data.toList ms l w1 wr k a acc))
      case atStart => exact ⟨0, 0, [], rfl, rfl, by omega, hid ⟨(Bel.refl w1).alloc _, builder_new w1, HORD.out, HQ2.out, Nat.zero_le _, Nat.zero_le _⟩⟩
      case round =>
        obtain ⟨k, a, acc, rfl, rfl, hk, H⟩ := hrel
        have Hk := hid hk
        have hkn : k ≤ l.length := by omega
        clear hk
        have HB1W := hid H.out.bel
        have HBW := hid (show Bel w wr from HB1.out.trans H.out.bel)
        have HBD := hid H.out.bd
        have hacc := H.out.num
        have ha := H.out.at_
        have hk200 : k ≤ 200 := by have := HLEN.out; omega
        have hasz : a ≤ s.size := by have := HSZ.out; omega
        by_cases hlt : k < l.length
        · obtain ⟨b, o, rfl, -⟩ := HL.out.place hlt
          have hrg : wr.rangeAt b (o + k * 4) (ptC l[k]) := by
            obtain ⟨b3, o3, e, f⟩ := (HL.out.next HBW.out).place hlt
            cases e
            exact f
          have hkm : k < ms.length := by have := HLEN.out; omega
          obtain ⟨g, rfl⟩ : ∃ g, x3 = some ⟨g, 0, none⟩ := by
            rcases HROW.out.2 with ⟨e, h0⟩ | ⟨g, cap, cur, e, -⟩
            · omega
            · cases e; exact ⟨g, rfl⟩
          have HFR := hid (fun W (hb : Bel w1 W) => mls_at HROW.out hb k hkm 4 _ rfl)
          have HTL := hid (fun W (hb : Bel w1 W) => mls_at HROW.out hb k hkm 5 _ rfl)
          have hord := H.out.ord
          have HE := H.out.eq
          rw [List.drop_eq_getElem_cons hkm] at hord HE
          rw [List.drop_eq_getElem_cons hlt, replF] at HE
          have HEE := hid HE
          have hle1 := hord.1
          have hle2 := hord.2.1
          have HOR2 := hid hord.2.2
          have hle3 := ordM_le hord.2.2
          have HSm := hid (HS.out _ (List.getElem_mem hlt))
          clear hord HE
          generalize l[k] = p at hrg HSm HEE
          generalize ms[k] = m at HFR HTL HEE hle1 hle2 HOR2 hle3
          have hm1 : m.from_ ≤ s.size := by have := HSZ.out; omega
          have hm2 : m.til ≤ s.size := by have := HSZ.out; omega
          have HM := (show Hid (∀ W, Lay W → Calls Tryz.prog 50 #[.agg (ptC p).toArray] W fun e w' => e = .returned (.tuple #[.string ⟨(showQ p).1.toArray⟩, .int .i64 (showQ p).2]) ∧ Bel W w') from fun W hW => mshown_pt p W hW HSm.out.1 HSm.out.2)
          have hsl := show_len p
          generalize showQ p = q at HM HEE hsl
          obtain ⟨ss, se⟩ := q
          simp only at HM HEE hsl
          clear H
          have i1 : ∀ (T : TypeId), T = T := fun _ => rfl
          by_cases h0 : se = 0
          · subst h0
            have HX := hid (ext_list s a m.from_)
            have HXL := hid (ext_len s a m.from_)
            have HE2 := hid (show replaceQ s.data.toList l = replF s.data.toList m.til (acc ++ (s.extract a m.from_).data.toList ++ ss) (ms.drop (k + 1)) (l.drop (k + 1)) by
              rw [HX.out]; exact HEE.out.trans (if_pos rfl))
            have HW1 := (show Hid (∀ W, Lib.IsBuilder 90 5 w1.heap.size w1.heap.size (Lib.byteCells acc) W → Bel w1 W → Calls Tryz.prog 51 #[.pointer (some ⟨w1.heap.size, 0, none⟩), .string (s.extract a m.from_)] W fun e w' => e = .returned (.tuple #[.int .i64 (s.extract a m.from_).size, .nilIface]) ∧ Lib.IsBuilder 90 5 w1.heap.size w1.heap.size (Lib.byteCells (acc ++ (s.extract a m.from_).data.toList)) w' ∧ Below w1.heap.size W w') from fun W hB hb => by
              have := writeString_run w1.heap.size w1.heap.size _ (s.extract a m.from_) W hB (by rw [show (Lib.byteCells acc).length = acc.length by simp [Lib.byteCells], Lib.size_eq]; have := HXL.out; omega) hb.size
              rw [bytes_app] at this
              exact this)
            have HW2 := (show Hid (∀ W, Lib.IsBuilder 90 5 w1.heap.size w1.heap.size (Lib.byteCells (acc ++ (s.extract a m.from_).data.toList)) W → Bel w1 W → Calls Tryz.prog 51 #[.pointer (some ⟨w1.heap.size, 0, none⟩), .string ⟨ss.toArray⟩] W fun e w' => e = .returned (.tuple #[.int .i64 (⟨ss.toArray⟩ : ByteArray).size, .nilIface]) ∧ Lib.IsBuilder 90 5 w1.heap.size w1.heap.size (Lib.byteCells (acc ++ (s.extract a m.from_).data.toList ++ ss)) w' ∧ Below w1.heap.size W w') from fun W hB hb => by
              have := writeString_run w1.heap.size w1.heap.size _ ⟨ss.toArray⟩ W hB (by rw [show (Lib.byteCells (acc ++ (s.extract a m.from_).data.toList)).length = acc.length + (s.extract a m.from_).data.toList.length by simp [Lib.byteCells], Lib.size_eq]; have := HXL.out; show _ + ss.length ≤ _; omega) hb.size
              rw [bytes_app] at this
              exact this)
            have HNA := hid (show (acc ++ (s.extract a m.from_).data.toList ++ ss).length ≤ (k + 1) * 70000 by
              rw [List.length_append, List.length_append]; have := HXL.out; omega)
            have HLT := hid (show m.til ≤ s.data.toList.length from hle3)
            clear HX HXL HEE hle3 hle2
            go_upto_region 14 with (first | (refine wpList_load_mid rfl 39 (.tmp 34) rfl b (o + k * 4) rfl (ptC p) _ hrg Tryz.underlying39 rfl pt_size ?_) | (refine wpList_store_blk rfl 39 (.tmp 11) (.tmp 35) rfl wr.heap.size (ptC p) rfl rfl pt_size (ptC_one p) [.bool false, .string ⟨#[]⟩, .string ⟨#[]⟩, .bool false] _ (heap_alloc_new wr _) rfl ?_; intro w5 hc5 ho5 hs5 hb5; have HB5 := hid (hb5 wr ((Bel.refl wr).alloc _) (Nat.le_refl _)); clear ho5 hs5 hb5) | (refine wpList_load_mid rfl 39 (.tmp 11) rfl wr.heap.size 0 rfl (ptC p) _ (ptC_range hc5) Tryz.underlying39 rfl pt_size ?_) | (go_at_call 50; refine (HM.out _ (HW.out.next (HBW.out.trans HB5.out))).mono ?_; rintro e w6 ⟨rfl, hb6⟩; have HB6 := hid (HB5.out.trans hb6); have HBD6 := hid (builder_next HBD.out HB6.out); have HB16 := hid (HB1W.out.trans HB6.out); have f6 := HFR.out w6 HB16.out; clear hb6 hc5))
            go_wp2_with fail
            have z1 := HW1.out w6 HBD6.out HB16.out
            refine z1.mono ?_
            clear z1 HW1
            rintro e w7 ⟨rfl, hbd7, hb7⟩
            have HBD7 := hid hbd7
            have HB17 := hid (show Bel w1 w7 from Below.trans HB16.out hb7)
            clear hbd7 hb7 f6
            go_wp2_with fail
            have z2 := HW2.out w7 HBD7.out HB17.out
            refine z2.mono ?_
            clear z2 HW2
            rintro e w8 ⟨rfl, hbd8, hb8⟩
            have HBD8 := hid hbd8
            have HB18 := hid (show Bel w1 w8 from Below.trans HB17.out hb8)
            have f8 := HTL.out w8 HB18.out
            clear hbd8 hb8
            go_wp2_with fail
            go_roundg (gk - 1)
            case measure => have := Hk.out; omega
            case rel => exact ⟨k + 1, m.til, acc ++ (s.extract a m.from_).data.toList ++ ss, rfl, by go_num, by have := Hk.out; omega, hid ⟨HB18.out, HBD8.out, HOR2.out, HE2.out, HNA.out, HLT.out⟩⟩
          · have HE2 := hid (show replaceQ s.data.toList l = ([], se) from HEE.out.trans (if_neg h0))
            have b2 : (se == 0) = false := by simpa using h0
            clear HEE h0
            go_wp2_with (first | (refine wpList_load_mid rfl 39 (.tmp 34) rfl b (o + k * 4) rfl (ptC p) _ hrg Tryz.underlying39 rfl pt_size ?_) | (refine wpList_store_blk rfl 39 (.tmp 11) (.tmp 35) rfl wr.heap.size (ptC p) rfl rfl pt_size (ptC_one p) [.bool false, .string ⟨#[]⟩, .string ⟨#[]⟩, .bool false] _ (heap_alloc_new wr _) rfl ?_; intro w5 hc5 ho5 hs5 hb5; have HB5 := hid (hb5 wr ((Bel.refl wr).alloc _) (Nat.le_refl _)); clear ho5 hs5 hb5) | (refine wpList_load_mid rfl 39 (.tmp 11) rfl wr.heap.size 0 rfl (ptC p) _ (ptC_range hc5) Tryz.underlying39 rfl pt_size ?_) | (go_at_call 50; refine (HM.out _ (HW.out.next (HBW.out.trans HB5.out))).mono ?_; rintro e w6 ⟨rfl, hb6⟩; have HB6 := hid (HB5.out.trans hb6); have HBD6 := hid (builder_next HBD.out HB6.out); have HB16 := hid (HB1W.out.trans HB6.out); have f6 := HFR.out w6 HB16.out; clear hb6 hc5))
            go_ret2
            exact ⟨by rw [HE2.out]; rfl, HBW.out.trans HB6.out⟩
        · obtain rfl : k = l.length := by omega
          have HX := hid (ext_back s a)
          have hxl : (s.extract a s.size).data.toList.length ≤ s.size := ext_len s a s.size
          have HE := hid (show replaceQ s.data.toList l = if 65536 < (acc ++ (s.extract a s.size).data.toList).length then ([], 101) else (acc ++ (s.extract a s.size).data.toList, 0) by
            rw [H.out.eq, List.drop_length, HX.out, replF]
            intro _ _ _ _ _ e
            cases e)
          have HW1 := (show Hid (Calls Tryz.prog 51 #[.pointer (some ⟨w1.heap.size, 0, none⟩), .string (s.extract a s.size)] wr fun e w' => e = .returned (.tuple #[.int .i64 (s.extract a s.size).size, .nilIface]) ∧ Lib.IsBuilder 90 5 w1.heap.size w1.heap.size (Lib.byteCells (acc ++ (s.extract a s.size).data.toList)) w' ∧ Below w1.heap.size wr w') by
            have := writeString_run w1.heap.size w1.heap.size _ (s.extract a s.size) wr HBD.out (by rw [show (Lib.byteCells acc).length = acc.length by simp [Lib.byteCells], Lib.size_eq]; omega) HB1W.out.size
            rw [bytes_app] at this
            exact this)
          have hTl : (acc ++ (s.extract a s.size).data.toList).length ≤ 20000000 := by rw [List.length_append]; omega
          generalize acc ++ (s.extract a s.size).data.toList = T at HE HW1 hTl
          have HLn := (show Hid (∀ W, Lib.IsBuilder 90 5 w1.heap.size w1.heap.size (Lib.byteCells T) W → Calls Tryz.prog 52 #[.pointer (some ⟨w1.heap.size, 0, none⟩)] W fun e w' => e = .returned (.int .i64 T.length) ∧ w' = W) from fun W hB => by
            have := Tryz.Builder_Len w1.heap.size w1.heap.size _ W hB
            rw [show (Lib.byteCells T).length = T.length by simp [Lib.byteCells]] at this
            exact this)
          have HSt := (show Hid (∀ W, Lib.IsBuilder 90 5 w1.heap.size w1.heap.size (Lib.byteCells T) W → Bel w1 W → Calls Tryz.prog 53 #[.pointer (some ⟨w1.heap.size, 0, none⟩)] W fun e w' => e = .returned (.string ⟨T.toArray⟩) ∧ Below w1.heap.size W w') from fun W hB hb => Tryz.Builder_String_any w1.heap.size w1.heap.size T W hB hb.size)
          clear H HX hxl
          by_cases h6 : 65536 < T.length
          · have b6 : decide ((65536 : Int) < (T.length : Int)) = true := decide_eq_true (by omega)
            have HE2 := hid (show replaceQ s.data.toList l = ([], 101) by rw [HE.out, if_pos h6])
            clear HE h6
            go_wp2_with (first | (go_at_call 51; refine HW1.out.mono ?_; rintro e w7 ⟨rfl, hbd7, hb7⟩; have HBD7 := hid hbd7; have HB17 := hid (show Bel w1 w7 from Below.trans HB1W.out hb7); clear hbd7 hb7) | (go_at_call 52; refine (HLn.out _ HBD7.out).mono ?_; rintro e w8 ⟨rfl, rfl⟩))
            go_ret2
            exact ⟨by rw [HE2.out]; rfl, HB1.out.trans HB17.out⟩
          · have b6 : decide ((65536 : Int) < (T.length : Int)) = false := decide_eq_false (by omega)
            have HE2 := hid (show replaceQ s.data.toList l = (T, 0) by rw [HE.out, if_neg h6])
            clear HE h6
            go_wp2_with (first | (go_at_call 51; refine HW1.out.mono ?_; rintro e w7 ⟨rfl, hbd7, hb7⟩; have HBD7 := hid hbd7; have HB17 := hid (show Bel w1 w7 from Below.trans HB1W.out hb7); clear hbd7 hb7) | (go_at_call 52; refine (HLn.out _ HBD7.out).mono ?_; rintro e w8 ⟨rfl, rfl⟩) | (go_at_call 53; refine (HSt.out _ HBD7.out HB17.out).mono ?_; rintro e w9 ⟨rfl, hb9⟩; have HB19 := hid (show Bel w1 w9 from Below.trans HB17.out hb9); clear hb9))
            go_ret2
            exact ⟨by rw [HE2.out]; rfl, HB1.out.trans HB19.out⟩
    · have HQ2 := hid (show replaceQ s.data.toList l = ([], 1) by
        rw [HQ.out, if_neg (by simp), if_pos hlen])
      have h200 : ms.length ≤ 200 := HPO2.out.2.2.choose_spec.2.2
      clear HPO HPO2 HQ hsz
      go_enter Tryz.func19, Tryz.ntmps19
      go_upto_region 4 with (first | (go_at_call 18; refine HP.out.mono ?_; rintro e w1 ⟨v, rfl, hb1, hrow⟩; have HB1 := hid hb1; have HROW := hid hrow; clear hb1 hrow))
      obtain ⟨x3, c3, rfl, hcl, -⟩ := row_shape HROW.out
      clear hcl HP
      have hbq : ((ms.length : Int) == (l.length : Int)) = false := by rw [beq_eq_false_iff_ne]; omega
      clear hlen
      go_wp2_with fail
      go_ret2
      exact ⟨by rw [HQ2.out]; rfl, HB1.out⟩
  · have HQ2 := hid (show replaceQ s.data.toList l = ([], pe) by rw [HQ.out, if_pos h0])
    have b2 : (pe == 0) = false := by simpa using h0
    clear HPO HQ hsz h0
    go_enter Tryz.func19, Tryz.ntmps19
    go_wp2_with (first | (go_at_call 18; refine HP.out.mono ?_; rintro e w1 ⟨v, rfl, hb1, hrow⟩; have HB1 := hid hb1; clear hb1 hrow))
    go_ret2
    exact ⟨by rw [HQ2.out]; rfl, HB1.out⟩
end Go.Proofs.YtpmmaickjolimaaGreatDoor.Ma

/- The law's shown: the document's examples. -/
namespace Go.Proofs.YtpmmaickjolimaaGreatDoor.Ma
open Go.RowKit
open Ci (Bel Lay own_bel row_shape addr_add own_base Aft wp_region_aft quiet_load_aft)

def t1 : List UInt8 := [74, 111, 101, 32, 40, 120, 41, 32, 81, 32, 60, 97, 32, 46, 32, 98, 32, 40, 99, 41, 32, 64, 32, 68, 46, 111, 114, 103, 62, 44, 32, 60, 99, 64, 100, 62]
def t2 : List UInt8 := [116, 101, 97, 109, 58, 32, 97, 64, 98, 44, 32, 34, 99, 32, 100, 34, 64, 101, 59, 44, 32, 102, 64, 103]
def t5 : List UInt8 := [74, 32, 60, 97, 64, 98, 62, 32, 40, 120, 41]
def m1 : Ml := ⟨⟨false, [97, 46, 98], [100, 46, 111, 114, 103], false⟩, 11, 28, [74, 111, 101, 32, 40, 120, 41, 32, 81]⟩
def m2 : Ml := ⟨⟨false, [99], [100], false⟩, 32, 35, []⟩
def m3 : Ml := ⟨⟨false, [97], [98], false⟩, 6, 9, []⟩
def m4 : Ml := ⟨⟨false, [99, 32, 100], [101], false⟩, 11, 18, []⟩
def m5 : Ml := ⟨⟨false, [102], [103], false⟩, 21, 24, []⟩
def p5 : Pt := ⟨false, [99], [100], false⟩
theorem q1 : parseQ t1 = ([m1, m2], 0) := by kernel_rfl
theorem q2 : parseQ t2 = ([m3, m4, m5], 0) := by kernel_rfl
theorem q3 : parseQ [44, 44] = ([], 0) := by kernel_rfl
theorem q4 : parseQ [97, 64, 98, 32, 99, 64, 100] = ([], 100) := by kernel_rfl
theorem q5 : replaceQ t5 [p5] = ([74, 32, 60, 99, 64, 100, 62, 32, 40, 120, 41], 0) := by kernel_rfl
theorem parse_as (s : ByteArray) (ms : List Ml) (pe : Int) (hq : parseQ s.data.toList = (ms, pe)) (w : World) (hw : Lay w) :
    Calls Tryz.prog 18 #[.string s] w fun e w' => ∃ x c, e = .returned (.tuple #[.slice x ms.length c, .int .i64 pe]) ∧ Bel w w' ∧ w'.ownsRow w.heap.size 41 7 (.slice x ms.length c) ms.length (mlCs ms) ∧ ms.length ≤ c := by
  refine (mparse_run s w hw).mono ?_
  rintro e w' ⟨v, rfl, hb, hr⟩
  rw [hq] at hr ⊢
  obtain ⟨x, c, rfl, hc, -⟩ := row_shape hr
  exact ⟨x, c, rfl, hb, hr, hc⟩
theorem row_place {a : World} {base cp : Nat} {x : Option Addr} {L : List Ml} (h : a.ownsRow base 41 7 (.slice x L.length cp) L.length (mlCs L)) (hl : 0 < L.length) : ∃ g, x = some ⟨g, 0, none⟩ ∧ g < a.heap.size := by
  rcases h.2 with ⟨e, h0⟩ | ⟨g, cap, cur, e, hg, hh, -⟩
  · omega
  · cases e; exact ⟨g, rfl, (Array.getElem?_eq_some_iff.1 hh).1⟩
theorem ml_size : (Tryz.prog.info? 41).map (·.size) = some 7 := by kernel_rfl
theorem mls_range {a W : World} {base g cp : Nat} {L : List Ml} (h : a.ownsRow base 41 7 (.slice (some ⟨g, 0, none⟩) L.length cp) L.length (mlCs L)) (hb : Bel a W) (k : Nat) (hk : k < L.length) : W.rangeAt g (k * 7) (mlC L[k]) :=
  fun j v hv => mls_at h hb k hk j v hv
set_option maxHeartbeats 4000000 in
set_option maxRecDepth 100000 in
theorem eq_ml (n : Bool) (l d : ByteArray) (t : Bool) (f g : Int) (m : ByteArray) (w : World) :
    (Op.equalIn 10000 41 (.agg #[.bool n, .string l, .string d, .bool t, .int .i64 f, .int .i64 g, .string m]) (.agg #[.bool n, .string l, .string d, .bool t, .int .i64 f, .int .i64 g, .string m])).run Tryz.prog w = .ok true w := by
  have u39 := Tryz.underlying39
  have a39 := Tryz.isAgg39
  have z39 := Tryz.sizeOf39
  have u3 := Tryz.underlying3
  have a3 := Tryz.isAgg3
  have z3 := Tryz.sizeOf3
  have u4 := Tryz.underlying4
  have a4 := Tryz.isAgg4
  have z4 := Tryz.sizeOf4
  have u9 := Tryz.underlying9
  have a9 := Tryz.isAgg9
  have z9 := Tryz.sizeOf9
  rw [show (10000 : Nat) = 9999 + 1 from rfl, Op.equalIn]
  simp only [Sem.run_bind, run_underlying Tryz.underlying41, Result.andThen_ok]
  go_simp
set_option maxHeartbeats 8000000 in
set_option maxRecDepth 100000 in
theorem lshown_run (w : World) (hw : Lay w) : Calls Tryz.prog 17 #[] w fun e w' => e = .returned (.bool true) ∧ Bel w w' := by
  have HW := hid hw
  have H1 := (show Hid (∀ W, Lay W → Calls Tryz.prog 18 #[.string ⟨t1.toArray⟩] W fun e w' => ∃ x c, e = .returned (.tuple #[.slice x 2 c, .int .i64 0]) ∧ Bel W w' ∧ w'.ownsRow W.heap.size 41 7 (.slice x 2 c) 2 (mlCs [m1, m2]) ∧ 2 ≤ c) from fun W hW => parse_as ⟨t1.toArray⟩ [m1, m2] 0 q1 W hW)
  have H2 := (show Hid (∀ W, Lay W → Calls Tryz.prog 18 #[.string ⟨t2.toArray⟩] W fun e w' => ∃ x c, e = .returned (.tuple #[.slice x 3 c, .int .i64 0]) ∧ Bel W w' ∧ w'.ownsRow W.heap.size 41 7 (.slice x 3 c) 3 (mlCs [m3, m4, m5]) ∧ 3 ≤ c) from fun W hW => parse_as ⟨t2.toArray⟩ [m3, m4, m5] 0 q2 W hW)
  have H3 := (show Hid (∀ W, Lay W → Calls Tryz.prog 18 #[.string ⟨#[44, 44]⟩] W fun e w' => ∃ x c, e = .returned (.tuple #[.slice x 0 c, .int .i64 0]) ∧ Bel W w' ∧ w'.ownsRow W.heap.size 41 7 (.slice x 0 c) 0 (mlCs []) ∧ 0 ≤ c) from fun W hW => parse_as ⟨#[44, 44]⟩ [] 0 q3 W hW)
  have H4 := (show Hid (∀ W, Lay W → Calls Tryz.prog 18 #[.string ⟨#[97, 64, 98, 32, 99, 64, 100]⟩] W fun e w' => ∃ x c, e = .returned (.tuple #[.slice x 0 c, .int .i64 100]) ∧ Bel W w' ∧ w'.ownsRow W.heap.size 41 7 (.slice x 0 c) 0 (mlCs []) ∧ 0 ≤ c) from fun W hW => parse_as ⟨#[97, 64, 98, 32, 99, 64, 100]⟩ [] 100 q4 W hW)
  have H5 := (show Hid (∀ W, Lay W → ∀ b, W.heap[b]? = some (.cells #[.bool false, .string ⟨#[99]⟩, .string ⟨#[100]⟩, .bool false] 39 (0, 0)) → Calls Tryz.prog 19 #[.string ⟨t5.toArray⟩, .slice (some ⟨b, 0, none⟩) 1 1] W fun e w' => e = .returned (.tuple #[.string ⟨#[74, 32, 60, 99, 64, 100, 62, 32, 40, 120, 41]⟩, .int .i64 0]) ∧ Bel W w') from fun W hW b hb => by
    have := mreplace_run ⟨t5.toArray⟩ (some ⟨b, 0, none⟩) [p5] 1 W hW ⟨.inr ⟨b, 0, rfl, (Array.getElem?_eq_some_iff.1 hb).1, fun k hk => by
      obtain rfl : k = 0 := by simp at hk; exact hk
      exact Ci.range_of hb fun j v hv => by rw [Nat.zero_mul, Nat.zero_add]; exact hv⟩⟩ (fun p hp => by rw [List.mem_singleton.1 hp]; exact ⟨by decide, by decide⟩)
    rw [show replaceQ (⟨t5.toArray⟩ : ByteArray).data.toList [p5] = _ from q5] at this
    exact this)
  clear hw
  go_enter Tryz.func17, Tryz.ntmps17
  go_wp2_with fail
  refine (H1.out w HW.out).mono ?_
  rintro e w1 ⟨x1, c1, rfl, hb1, hr1, -⟩
  obtain ⟨g1, rfl, hg1⟩ := row_place (L := [m1, m2]) hr1 (by decide)
  have HB1 := hid hb1
  have HR1 := (show Hid (w1.ownsRow w.heap.size 41 7 (.slice (some ⟨g1, 0, none⟩) [m1, m2].length c1) [m1, m2].length (mlCs [m1, m2])) from hr1)
  clear hb1 hr1 H1
  go_wp2_with fail
  refine (H2.out _ (HW.out.next HB1.out)).mono ?_
  rintro e w2 ⟨x2, c2, rfl, hb2, hr2, -⟩
  obtain ⟨g2, rfl, hg2⟩ := row_place (L := [m3, m4, m5]) hr2 (by decide)
  have HB2 := hid (HB1.out.trans hb2)
  have HB12 := hid hb2
  have HR2 := (show Hid (w2.ownsRow w1.heap.size 41 7 (.slice (some ⟨g2, 0, none⟩) [m3, m4, m5].length c2) [m3, m4, m5].length (mlCs [m3, m4, m5])) from hr2)
  clear hb2 hr2 H2
  go_wp2_with fail
  refine (H3.out _ (HW.out.next HB2.out)).mono ?_
  rintro e w3 ⟨x3, c3, rfl, hb3, -, -⟩
  have HB3 := hid (HB2.out.trans hb3)
  have HB23 := hid hb3
  clear hb3 H3
  go_wp2_with fail
  refine (H4.out _ (HW.out.next HB3.out)).mono ?_
  rintro e w4 ⟨x4, c4, rfl, hb4, -, -⟩
  have HB4 := hid (HB3.out.trans hb4)
  have HB24 := hid (HB23.out.trans hb4)
  clear hb4 H4 HB23 HB3
  go_wp2_with fail
  refine (H5.out _ (HW.out.next (HB4.out.trans ((Bel.refl w4).alloc _))) w4.heap.size (heap_alloc_new w4 _)).mono ?_
  rintro e w5 ⟨rfl, hb5⟩
  have HB45 := hid (((Bel.refl w4).alloc _).trans hb5)
  have HB5 := hid (HB4.out.trans HB45.out)
  have HB15 := hid (HB12.out.trans (HB24.out.trans HB45.out))
  have HB25 := hid (HB24.out.trans HB45.out)
  clear hb5 H5 HB45 HB24 HB12
  go_upto_region 9 with (fail)
  have h8 := heap_alloc_new w5 (.cells #[.bool false, .string ⟨#[97, 46, 98]⟩, .string ⟨#[100, 46, 111, 114, 103]⟩, .bool false, .int .i64 11, .int .i64 28, .string ⟨#[74, 111, 101, 32, 40, 120, 41, 32, 81]⟩] 41)
  have hb8 := (Bel.refl w5).alloc (.cells #[.bool false, .string ⟨#[97, 46, 98]⟩, .string ⟨#[100, 46, 111, 114, 103]⟩, .bool false, .int .i64 11, .int .i64 28, .string ⟨#[74, 111, 101, 32, 40, 120, 41, 32, 81]⟩] 41)
  generalize w5.alloc (.cells #[.bool false, .string ⟨#[97, 46, 98]⟩, .string ⟨#[100, 46, 111, 114, 103]⟩, .bool false, .int .i64 11, .int .i64 28, .string ⟨#[74, 111, 101, 32, 40, 120, 41, 32, 81]⟩] 41) = w8 at h8 hb8 ⊢
  have K1 := hid (fun p : Aft w8 => mls_range HR1.out (HB15.out.trans (hb8.trans p.bel)) 0 (by decide))
  have K2 := hid (fun p : Aft w8 => show p.wd.rangeAt w5.heap.size 0 (mlC m1) from Ci.range_of (p.bel.heap h8) fun j v hv => by rw [Nat.zero_add]; exact hv)
  have k3 : ∀ p : Aft w8, p.wd.cell? ⟨g2, 8, none⟩ = some (.string ⟨#[99, 32, 100]⟩) := fun p => mls_at HR2.out (HB25.out.trans (hb8.trans p.bel)) 1 (by decide) 1 _ rfl
  have K1 := (show Hid (∀ p : Aft w8, p.wd.rangeAt g1 0 (mlC m1)) from K1.out)
  have HE := fun W => eq_ml false ⟨#[97, 46, 98]⟩ ⟨#[100, 46, 111, 114, 103]⟩ false 11 28 ⟨#[74, 111, 101, 32, 40, 120, 41, 32, 81]⟩ W
  have HB8 := hid (HB5.out.trans hb8)
  clear hb8 h8 HR1 HR2 HB15 HB25
  refine wp_region_aft (by kernel_rfl) (by kernel_rfl) ?_
  repeat (first
    | go_big_quiet_skip
    | (refine quiet_load_aft 41 _ rfl g1 0 rfl (mlC m1) _ K1.out Tryz.underlying41 rfl ml_size (by rfl) ?_; intro a' ha'; simp only [mlC, m1, Act.put, Array.setIfInBounds, List.size_toArray, go_sem] at ha'; subst ha')
    | (refine quiet_load_aft 41 _ rfl w5.heap.size 0 rfl (mlC m1) _ K2.out Tryz.underlying41 rfl ml_size (by rfl) ?_; intro a' ha'; simp only [mlC, m1, Act.put, Array.setIfInBounds, go_sem] at ha'; subst ha')
    | go_big_quiet_step (fail)
    | quiet_step (fail))
  refine wpQuiet_nil ?_
  rintro _ ⟨p, rfl⟩
  go_wp2_with fail
  go_ret
  exact ⟨rfl, HB8.out.trans p.bel⟩
end Go.Proofs.YtpmmaickjolimaaGreatDoor.Ma
