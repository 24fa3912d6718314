/- Walks: Domain of path, shown of mailaddr. -/
import Derived.Test.YtpmmaickjolimaaGreatDoorK23
namespace Go.Proofs.YtpmmaickjolimaaGreatDoor.Ma
open Go.RowKit
open Ci (Bel Lay ext_bytes Nt netC netV zeroN zeroN_fits addrQ errQ netC_one net_len range_net formQ rightQ)

theorem ext_list (s : ByteArray) (a b : Nat) : (s.extract a b).data.toList = (s.data.toList.take b).drop a := by
  rw [ByteArray.data_extract, Array.toList_extract, List.extract_eq_take_drop, List.drop_take]
theorem ext_front (s : ByteArray) (b : Nat) : (s.extract 0 b).data.toList = s.data.toList.take b := by
  rw [ext_list, List.drop_zero]
theorem ext_back (s : ByteArray) (a : Nat) : (s.extract a s.size).data.toList = s.data.toList.drop a := by
  rw [ext_list, Lib.size_eq, List.take_length]
theorem head_at {s : ByteArray} (h : 0 < s.size) : s.data.toList.head? = some s[0] := by
  rw [List.head?_eq_getElem?, List.getElem?_eq_getElem (by rw [← Lib.size_eq]; exact h)]
  rfl
theorem last_at {s : ByteArray} {m : Nat} (h : m < s.size) (h1 : m + 1 = s.size) : s.data.toList.getLast? = some s[m] := by
  have := Lib.size_eq s
  rw [List.getLast?_eq_getElem?, show s.data.toList.length - 1 = m by omega, List.getElem?_eq_getElem (by omega)]
  rfl
/-- A domain, its parts by names. -/
def litQ (J : List UInt8) (six : Bool) : List UInt8 × Bool × Int := match addrQ J with
  | some n => if n.six = six then (formQ n, true, 0) else ([], false, 90)
  | none => ([], false, 90)
def namQ (s : List UInt8) : List UInt8 × Bool × Int := if !namedQ s then ([], false, 90) else if 255 < s.length then ([], false, 91) else (lowL s, false, 0)
theorem dom_lit {s : List UInt8} (h : isLit s = true) : domainQ s = litQ (stripQ (innerQ s)) (sixQ' (innerQ s)) := by
  unfold domainQ litQ; rw [if_pos h]; rfl
theorem dom_nam {s : List UInt8} (h : isLit s = false) : domainQ s = namQ s := by
  unfold domainQ namQ; rw [if_neg (by rw [h]; exact Bool.false_ne_true)]
set_option maxHeartbeats 16000000 in
set_option maxRecDepth 100000 in
theorem pdomain_run (s : ByteArray) (w : World) (hw : Lay w) (hs : s.size ≤ 4194304) :
    Calls Tryz.prog 48 #[.string s] w fun e w' => e = .returned (.tuple #[.string ⟨(domainQ s.data.toList).1.toArray⟩, .bool (domainQ s.data.toList).2.1, .int .i64 (domainQ s.data.toList).2.2]) ∧ Bel w w' := by
  have HW := hid hw
  have hsz := Lib.size_eq s
  have HSS := hid (And.intro hs hsz)
  by_cases h1 : 1 < s.size
  · have b1 : decide ((1 : Int) < (s.size : Int)) = true := decide_eq_true (by omega)
    have h0 : 0 < s.size := by omega
    obtain ⟨m, hm⟩ : ∃ m, m + 1 = s.size := ⟨s.size - 1, by omega⟩
    have hml : m < s.size := by omega
    have hm1 : 1 ≤ m := by omega
    have hla : wrap64 ((s.size : Int) - 1) = (m : Int) := by rw [show (s.size : Int) - 1 = (m : Int) by omega]; unfold wrap64; omega
    have HLT := hid (show isLit s.data.toList = (s[0] == 91 && s[m] == 93) by
      unfold isLit
      rw [head_at h0, last_at hml hm, decide_eq_true (by omega), Bool.true_and]
      rfl)
    by_cases h2 : s[0] = 91
    · have c2 : (((s[0]'h0).toNat : Int) == 91) = true := byte_eq (n := 91) (by decide) h2
      by_cases h3 : s[m] = 93
      · have c3 : (((s[m]'hml).toNat : Int) == 93) = true := byte_eq (n := 93) (by decide) h3
        have hlit : isLit s.data.toList = true := by rw [HLT.out, h2, h3]; rfl
        have HIn := hid (show innerQ s.data.toList = (s.extract 1 m).data.toList by
          unfold innerQ
          rw [ext_list, show s.data.toList.length - 1 = m by omega])
        have hIs : (s.extract 1 m).size = m - 1 := by rw [ByteArray.size_extract]; omega
        have HX := hid (dom_lit hlit)
        rw [HIn.out] at HX
        have hIl : (s.extract 1 m).data.toList.length = m - 1 := by rw [← Lib.size_eq]; exact hIs
        generalize hI : s.extract 1 m = I at HX hIs hIl
        clear HIn
        have hIb : I.size ≤ 4194304 := by omega
        clear hIs hIl
        clear HLT h2 h3 hm
        by_cases h4 : 4 < I.size
        · have b4 : decide ((4 : Int) < (I.size : Int)) = true := decide_eq_true (by omega)
          have HLo := (show Hid (∀ W, Calls Tryz.prog 94 #[.string (I.extract 0 5)] W fun e w' => e = .returned (.string ⟨(lowL (I.data.toList.take 5)).toArray⟩) ∧ Bel W w') from fun W => by
            have := lower_run (I.extract 0 5) W (by rw [ByteArray.size_extract]; omega)
            rw [ext_front] at this
            exact this)
          have H6 := hid (show sixQ' I.data.toList = ((⟨(lowL (I.data.toList.take 5)).toArray⟩ : ByteArray).toList == [105, 112, 118, 54, 58]) by
            unfold sixQ'
            rw [decide_eq_true (by rw [← Lib.size_eq]; exact h4), Bool.true_and, ByteArray.toList_eq]
            rfl)
          generalize (⟨(lowL (I.data.toList.take 5)).toArray⟩ : ByteArray) = lo at HLo H6
          cases h6' : (lo.toList == [105, 112, 118, 54, 58]) with
          | true =>
            have HX2 := hid (show domainQ s.data.toList = litQ (I.extract 5 I.size).data.toList true by
              rw [HX.out, H6.out, h6', ext_back]
              unfold stripQ
              rw [H6.out, h6', if_pos rfl])
            clear HX
            have HX := hid HX2.out
            unfold litQ at HX
            clear HX2
            have HA := (show Hid (∀ W, Lay W → Calls Tryz.prog 10 #[.string (I.extract 5 I.size)] W fun e w' => e = .returned (.tuple #[.agg (netC ((addrQ ((I.extract 5 I.size)).data.toList).getD zeroN)).toArray, .int .i64 (errQ (addrQ ((I.extract 5 I.size)).data.toList))]) ∧ Bel W w') from fun W hW => Ci.addr_run _ W hW (by first | omega | (rw [ByteArray.size_extract]; omega)))
            have HN := hid (addr_fits ((I.extract 5 I.size)).data.toList)
            have HG := hid (fun n (h : addrQ ((I.extract 5 I.size)).data.toList = some n) => addr_right h)
            generalize domainQ s.data.toList = r at HX ⊢
            generalize addrQ ((I.extract 5 I.size)).data.toList = oa at HA HN HX HG
            have HZ := hid (net_len _ HN.out.len)
            have HL := hid (show (netC (oa.getD zeroN)).length = (netC zeroN).length by rw [Ci.netC_len _ HN.out.len, Ci.netC_len zeroN zeroN_fits.len])
            cases oa with
            | none =>
              have HY := hid (show r = ([], false, 90) from HX.out)
              rw [HY.out]
              have HA := (show Hid (∀ W, Lay W → Calls Tryz.prog 10 #[.string (I.extract 5 I.size)] W fun e w' => e = .returned (.tuple #[.agg (netC zeroN).toArray, .int .i64 70]) ∧ Bel W w') from HA.out)
              have HZ := hid (net_len zeroN zeroN_fits.len)
              obtain ⟨a, ha⟩ : ∃ a, a = zeroN := ⟨_, rfl⟩
              rw [← ha] at HA HZ
              have HL := hid (show (netC a).length = (netC zeroN).length by rw [ha])
              clear ha hlit hw hs hsz 
              go_enter Tryz.func48, Tryz.ntmps48
              go_wp2_with (first | (go_at_call 94; refine (HLo.out _).mono ?_; rintro e w1 ⟨rfl, hb1⟩; have HB1 := hid hb1) | (go_at_call 10; refine (HA.out _ (HW.out.next HB1.out)).mono ?_; rintro e w2 ⟨rfl, hb2⟩) | (refine wpList_store_blk rfl 25 (.tmp 7) (.tmp 47) rfl w2.heap.size (netC a) rfl rfl HZ.out (netC_one a) (netC zeroN) _ (heap_alloc_new w2 _) HL.out ?_; intro w3 hc3 ho3 hs3 hb3; have HB3 := hid (hb3 w2 ((Bel.refl w2).alloc _) (Nat.le_refl _)); have c3 : w3.cell? ⟨w2.heap.size, 0, none⟩ = some (.bool a.six) := (by simp [World.cell?, hc3, netC]); clear ho3 hs3 hb3))
              go_ret3
              exact ⟨rfl, HB1.out.trans (hb2.trans HB3.out)⟩
            | some a =>
              have HA := (show Hid (∀ W, Lay W → Calls Tryz.prog 10 #[.string (I.extract 5 I.size)] W fun e w' => e = .returned (.tuple #[.agg (netC a).toArray, .int .i64 0]) ∧ Bel W w') from HA.out)
              have HZ := (show Hid ((Tryz.prog.info? 25).map (·.size) = some (netC a).length) from HZ.out)
              have HL := (show Hid ((netC a).length = (netC zeroN).length) from HL.out)
              by_cases h6 : a.six = true
              · have HY := hid (show r = (formQ a, true, 0) from HX.out.trans (if_pos h6))
                rw [HY.out]
                have HV := (show Hid (∀ W, Lay W → Calls Tryz.prog 28 #[.agg (netC a).toArray] W fun e w' => e = .returned (.tuple #[.string ⟨(formQ a).toArray⟩, .int .i64 (Ci.errS a)]) ∧ Bel W w') from fun W hW => by
                  have := Ci.show_run a HN.out W hW
                  have e : Ci.showQ a = some (formQ a) := by unfold Ci.showQ; rw [if_pos (HG.out a rfl)]
                  rw [e] at this
                  exact this)
                generalize Ci.errS a = es at HV
                clear hlit hw hs hsz 
                go_enter Tryz.func48, Tryz.ntmps48
                go_wp2_with (first | (go_at_call 94; refine (HLo.out _).mono ?_; rintro e w1 ⟨rfl, hb1⟩; have HB1 := hid hb1) | (go_at_call 10; refine (HA.out _ (HW.out.next HB1.out)).mono ?_; rintro e w2 ⟨rfl, hb2⟩) | (refine wpList_store_blk rfl 25 (.tmp 7) (.tmp 47) rfl w2.heap.size (netC a) rfl rfl HZ.out (netC_one a) (netC zeroN) _ (heap_alloc_new w2 _) HL.out ?_; intro w3 hc3 ho3 hs3 hb3; have HB3 := hid (hb3 w2 ((Bel.refl w2).alloc _) (Nat.le_refl _)); have c3 : w3.cell? ⟨w2.heap.size, 0, none⟩ = some (.bool a.six) := (by simp [World.cell?, hc3, netC]); clear ho3 hs3 hb3) | (refine wpList_load_mid rfl 25 (.tmp 7) rfl w2.heap.size 0 rfl (netC a) _ (range_net hc3) Tryz.underlying25 rfl HZ.out ?_) | (go_at_call 28; refine (HV.out _ (HW.out.next (HB1.out.trans (hb2.trans HB3.out)))).mono ?_; rintro e w4 ⟨rfl, hb4⟩))
                go_ret3
                exact ⟨rfl, HB1.out.trans (hb2.trans (HB3.out.trans hb4))⟩
              · have HY := hid (show r = ([], false, 90) from HX.out.trans (if_neg h6))
                rw [HY.out]
                have h6 : a.six = false := by simpa using h6
                clear hlit hw hs hsz 
                go_enter Tryz.func48, Tryz.ntmps48
                go_wp2_with (first | (go_at_call 94; refine (HLo.out _).mono ?_; rintro e w1 ⟨rfl, hb1⟩; have HB1 := hid hb1) | (go_at_call 10; refine (HA.out _ (HW.out.next HB1.out)).mono ?_; rintro e w2 ⟨rfl, hb2⟩) | (refine wpList_store_blk rfl 25 (.tmp 7) (.tmp 47) rfl w2.heap.size (netC a) rfl rfl HZ.out (netC_one a) (netC zeroN) _ (heap_alloc_new w2 _) HL.out ?_; intro w3 hc3 ho3 hs3 hb3; have HB3 := hid (hb3 w2 ((Bel.refl w2).alloc _) (Nat.le_refl _)); have c3 : w3.cell? ⟨w2.heap.size, 0, none⟩ = some (.bool a.six) := (by simp [World.cell?, hc3, netC]); clear ho3 hs3 hb3))
                go_ret3
                exact ⟨rfl, HB1.out.trans (hb2.trans HB3.out)⟩
          | false =>
            have HX2 := hid (show domainQ s.data.toList = litQ I.data.toList false by
              rw [HX.out, H6.out, h6']
              unfold stripQ
              rw [H6.out, h6', if_neg Bool.false_ne_true])
            clear HX
            have HX := hid HX2.out
            unfold litQ at HX
            clear HX2
            have HA := (show Hid (∀ W, Lay W → Calls Tryz.prog 10 #[.string I] W fun e w' => e = .returned (.tuple #[.agg (netC ((addrQ (I).data.toList).getD zeroN)).toArray, .int .i64 (errQ (addrQ (I).data.toList))]) ∧ Bel W w') from fun W hW => Ci.addr_run _ W hW (by first | omega | (rw [ByteArray.size_extract]; omega)))
            have HN := hid (addr_fits (I).data.toList)
            have HG := hid (fun n (h : addrQ (I).data.toList = some n) => addr_right h)
            generalize domainQ s.data.toList = r at HX ⊢
            generalize addrQ (I).data.toList = oa at HA HN HX HG
            have HZ := hid (net_len _ HN.out.len)
            have HL := hid (show (netC (oa.getD zeroN)).length = (netC zeroN).length by rw [Ci.netC_len _ HN.out.len, Ci.netC_len zeroN zeroN_fits.len])
            cases oa with
            | none =>
              have HY := hid (show r = ([], false, 90) from HX.out)
              rw [HY.out]
              have HA := (show Hid (∀ W, Lay W → Calls Tryz.prog 10 #[.string I] W fun e w' => e = .returned (.tuple #[.agg (netC zeroN).toArray, .int .i64 70]) ∧ Bel W w') from HA.out)
              have HZ := hid (net_len zeroN zeroN_fits.len)
              obtain ⟨a, ha⟩ : ∃ a, a = zeroN := ⟨_, rfl⟩
              rw [← ha] at HA HZ
              have HL := hid (show (netC a).length = (netC zeroN).length by rw [ha])
              clear ha hlit hw hs hsz 
              go_enter Tryz.func48, Tryz.ntmps48
              go_wp2_with (first | (go_at_call 94; refine (HLo.out _).mono ?_; rintro e w1 ⟨rfl, hb1⟩; have HB1 := hid hb1) | (go_at_call 10; refine (HA.out _ (HW.out.next HB1.out)).mono ?_; rintro e w2 ⟨rfl, hb2⟩) | (refine wpList_store_blk rfl 25 (.tmp 7) (.tmp 47) rfl w2.heap.size (netC a) rfl rfl HZ.out (netC_one a) (netC zeroN) _ (heap_alloc_new w2 _) HL.out ?_; intro w3 hc3 ho3 hs3 hb3; have HB3 := hid (hb3 w2 ((Bel.refl w2).alloc _) (Nat.le_refl _)); have c3 : w3.cell? ⟨w2.heap.size, 0, none⟩ = some (.bool a.six) := (by simp [World.cell?, hc3, netC]); clear ho3 hs3 hb3))
              go_ret3
              exact ⟨rfl, HB1.out.trans (hb2.trans HB3.out)⟩
            | some a =>
              have HA := (show Hid (∀ W, Lay W → Calls Tryz.prog 10 #[.string I] W fun e w' => e = .returned (.tuple #[.agg (netC a).toArray, .int .i64 0]) ∧ Bel W w') from HA.out)
              have HZ := (show Hid ((Tryz.prog.info? 25).map (·.size) = some (netC a).length) from HZ.out)
              have HL := (show Hid ((netC a).length = (netC zeroN).length) from HL.out)
              by_cases h6 : a.six = false
              · have HY := hid (show r = (formQ a, true, 0) from HX.out.trans (if_pos h6))
                rw [HY.out]
                have HV := (show Hid (∀ W, Lay W → Calls Tryz.prog 28 #[.agg (netC a).toArray] W fun e w' => e = .returned (.tuple #[.string ⟨(formQ a).toArray⟩, .int .i64 (Ci.errS a)]) ∧ Bel W w') from fun W hW => by
                  have := Ci.show_run a HN.out W hW
                  have e : Ci.showQ a = some (formQ a) := by unfold Ci.showQ; rw [if_pos (HG.out a rfl)]
                  rw [e] at this
                  exact this)
                generalize Ci.errS a = es at HV
                clear hlit hw hs hsz 
                go_enter Tryz.func48, Tryz.ntmps48
                go_wp2_with (first | (go_at_call 94; refine (HLo.out _).mono ?_; rintro e w1 ⟨rfl, hb1⟩; have HB1 := hid hb1) | (go_at_call 10; refine (HA.out _ (HW.out.next HB1.out)).mono ?_; rintro e w2 ⟨rfl, hb2⟩) | (refine wpList_store_blk rfl 25 (.tmp 7) (.tmp 47) rfl w2.heap.size (netC a) rfl rfl HZ.out (netC_one a) (netC zeroN) _ (heap_alloc_new w2 _) HL.out ?_; intro w3 hc3 ho3 hs3 hb3; have HB3 := hid (hb3 w2 ((Bel.refl w2).alloc _) (Nat.le_refl _)); have c3 : w3.cell? ⟨w2.heap.size, 0, none⟩ = some (.bool a.six) := (by simp [World.cell?, hc3, netC]); clear ho3 hs3 hb3) | (refine wpList_load_mid rfl 25 (.tmp 7) rfl w2.heap.size 0 rfl (netC a) _ (range_net hc3) Tryz.underlying25 rfl HZ.out ?_) | (go_at_call 28; refine (HV.out _ (HW.out.next (HB1.out.trans (hb2.trans HB3.out)))).mono ?_; rintro e w4 ⟨rfl, hb4⟩))
                go_ret3
                exact ⟨rfl, HB1.out.trans (hb2.trans (HB3.out.trans hb4))⟩
              · have HY := hid (show r = ([], false, 90) from HX.out.trans (if_neg h6))
                rw [HY.out]
                have h6 : a.six = true := by simpa using h6
                clear hlit hw hs hsz 
                go_enter Tryz.func48, Tryz.ntmps48
                go_wp2_with (first | (go_at_call 94; refine (HLo.out _).mono ?_; rintro e w1 ⟨rfl, hb1⟩; have HB1 := hid hb1) | (go_at_call 10; refine (HA.out _ (HW.out.next HB1.out)).mono ?_; rintro e w2 ⟨rfl, hb2⟩) | (refine wpList_store_blk rfl 25 (.tmp 7) (.tmp 47) rfl w2.heap.size (netC a) rfl rfl HZ.out (netC_one a) (netC zeroN) _ (heap_alloc_new w2 _) HL.out ?_; intro w3 hc3 ho3 hs3 hb3; have HB3 := hid (hb3 w2 ((Bel.refl w2).alloc _) (Nat.le_refl _)); have c3 : w3.cell? ⟨w2.heap.size, 0, none⟩ = some (.bool a.six) := (by simp [World.cell?, hc3, netC]); clear ho3 hs3 hb3))
                go_ret3
                exact ⟨rfl, HB1.out.trans (hb2.trans HB3.out)⟩
        · have b4 : decide ((4 : Int) < (I.size : Int)) = false := decide_eq_false (by omega)
          have hf : sixQ' I.data.toList = false := by
            unfold sixQ'
            rw [decide_eq_false (by rw [← Lib.size_eq]; exact h4), Bool.false_and]
          have HX2 := hid (show domainQ s.data.toList = litQ I.data.toList false by
            rw [HX.out, hf]
            unfold stripQ
            rw [hf, if_neg Bool.false_ne_true])
          clear HX
          have HX := hid HX2.out
          unfold litQ at HX
          clear HX2 hf
          have HA := (show Hid (∀ W, Lay W → Calls Tryz.prog 10 #[.string I] W fun e w' => e = .returned (.tuple #[.agg (netC ((addrQ (I).data.toList).getD zeroN)).toArray, .int .i64 (errQ (addrQ (I).data.toList))]) ∧ Bel W w') from fun W hW => Ci.addr_run _ W hW (by first | omega | (rw [ByteArray.size_extract]; omega)))
          have HN := hid (addr_fits (I).data.toList)
          have HG := hid (fun n (h : addrQ (I).data.toList = some n) => addr_right h)
          generalize domainQ s.data.toList = r at HX ⊢
          generalize addrQ (I).data.toList = oa at HA HN HX HG
          have HZ := hid (net_len _ HN.out.len)
          have HL := hid (show (netC (oa.getD zeroN)).length = (netC zeroN).length by rw [Ci.netC_len _ HN.out.len, Ci.netC_len zeroN zeroN_fits.len])
          cases oa with
          | none =>
            have HY := hid (show r = ([], false, 90) from HX.out)
            rw [HY.out]
            have HA := (show Hid (∀ W, Lay W → Calls Tryz.prog 10 #[.string I] W fun e w' => e = .returned (.tuple #[.agg (netC zeroN).toArray, .int .i64 70]) ∧ Bel W w') from HA.out)
            have HZ := hid (net_len zeroN zeroN_fits.len)
            obtain ⟨a, ha⟩ : ∃ a, a = zeroN := ⟨_, rfl⟩
            rw [← ha] at HA HZ
            have HL := hid (show (netC a).length = (netC zeroN).length by rw [ha])
            clear ha hlit hw hs hsz 
            go_enter Tryz.func48, Tryz.ntmps48
            go_wp2_with (first | (go_at_call 10; refine (HA.out _ (HW.out.next (Bel.refl w))).mono ?_; rintro e w2 ⟨rfl, hb2⟩) | (refine wpList_store_blk rfl 25 (.tmp 7) (.tmp 47) rfl w2.heap.size (netC a) rfl rfl HZ.out (netC_one a) (netC zeroN) _ (heap_alloc_new w2 _) HL.out ?_; intro w3 hc3 ho3 hs3 hb3; have HB3 := hid (hb3 w2 ((Bel.refl w2).alloc _) (Nat.le_refl _)); have c3 : w3.cell? ⟨w2.heap.size, 0, none⟩ = some (.bool a.six) := (by simp [World.cell?, hc3, netC]); clear ho3 hs3 hb3))
            go_ret3
            exact ⟨rfl, (Bel.refl w).trans (hb2.trans HB3.out)⟩
          | some a =>
            have HA := (show Hid (∀ W, Lay W → Calls Tryz.prog 10 #[.string I] W fun e w' => e = .returned (.tuple #[.agg (netC a).toArray, .int .i64 0]) ∧ Bel W w') from HA.out)
            have HZ := (show Hid ((Tryz.prog.info? 25).map (·.size) = some (netC a).length) from HZ.out)
            have HL := (show Hid ((netC a).length = (netC zeroN).length) from HL.out)
            by_cases h6 : a.six = false
            · have HY := hid (show r = (formQ a, true, 0) from HX.out.trans (if_pos h6))
              rw [HY.out]
              have HV := (show Hid (∀ W, Lay W → Calls Tryz.prog 28 #[.agg (netC a).toArray] W fun e w' => e = .returned (.tuple #[.string ⟨(formQ a).toArray⟩, .int .i64 (Ci.errS a)]) ∧ Bel W w') from fun W hW => by
                have := Ci.show_run a HN.out W hW
                have e : Ci.showQ a = some (formQ a) := by unfold Ci.showQ; rw [if_pos (HG.out a rfl)]
                rw [e] at this
                exact this)
              generalize Ci.errS a = es at HV
              clear hlit hw hs hsz 
              go_enter Tryz.func48, Tryz.ntmps48
              go_wp2_with (first | (go_at_call 10; refine (HA.out _ (HW.out.next (Bel.refl w))).mono ?_; rintro e w2 ⟨rfl, hb2⟩) | (refine wpList_store_blk rfl 25 (.tmp 7) (.tmp 47) rfl w2.heap.size (netC a) rfl rfl HZ.out (netC_one a) (netC zeroN) _ (heap_alloc_new w2 _) HL.out ?_; intro w3 hc3 ho3 hs3 hb3; have HB3 := hid (hb3 w2 ((Bel.refl w2).alloc _) (Nat.le_refl _)); have c3 : w3.cell? ⟨w2.heap.size, 0, none⟩ = some (.bool a.six) := (by simp [World.cell?, hc3, netC]); clear ho3 hs3 hb3) | (refine wpList_load_mid rfl 25 (.tmp 7) rfl w2.heap.size 0 rfl (netC a) _ (range_net hc3) Tryz.underlying25 rfl HZ.out ?_) | (go_at_call 28; refine (HV.out _ (HW.out.next ((Bel.refl w).trans (hb2.trans HB3.out)))).mono ?_; rintro e w4 ⟨rfl, hb4⟩))
              go_ret3
              exact ⟨rfl, (Bel.refl w).trans (hb2.trans (HB3.out.trans hb4))⟩
            · have HY := hid (show r = ([], false, 90) from HX.out.trans (if_neg h6))
              rw [HY.out]
              have h6 : a.six = true := by simpa using h6
              clear hlit hw hs hsz 
              go_enter Tryz.func48, Tryz.ntmps48
              go_wp2_with (first | (go_at_call 10; refine (HA.out _ (HW.out.next (Bel.refl w))).mono ?_; rintro e w2 ⟨rfl, hb2⟩) | (refine wpList_store_blk rfl 25 (.tmp 7) (.tmp 47) rfl w2.heap.size (netC a) rfl rfl HZ.out (netC_one a) (netC zeroN) _ (heap_alloc_new w2 _) HL.out ?_; intro w3 hc3 ho3 hs3 hb3; have HB3 := hid (hb3 w2 ((Bel.refl w2).alloc _) (Nat.le_refl _)); have c3 : w3.cell? ⟨w2.heap.size, 0, none⟩ = some (.bool a.six) := (by simp [World.cell?, hc3, netC]); clear ho3 hs3 hb3))
              go_ret3
              exact ⟨rfl, (Bel.refl w).trans (hb2.trans HB3.out)⟩
      · have c3 : (((s[m]'hml).toNat : Int) == 93) = false := byte_ne (n := 93) (by decide) h3
        have hlit : isLit s.data.toList = false := by
          rw [HLT.out]
          have : (s[m] == 93) = false := by simpa using h3
          rw [this, Bool.and_false]
        clear HLT h2 h3 hm
        have HX := hid (dom_nam hlit)
        have HNm := (show Hid (∀ W, Lay W → Calls Tryz.prog 95 #[.string s] W fun e w' => e = .returned (.bool (namedQ s.data.toList)) ∧ Bel W w') from fun W hW => named_run s W hW (by omega))
        have HLo := (show Hid (∀ W, Calls Tryz.prog 94 #[.string s] W fun e w' => e = .returned (.string ⟨(lowL s.data.toList).toArray⟩) ∧ Bel W w') from fun W => lower_run s W (by omega))
        generalize domainQ s.data.toList = r at HX ⊢
        cases hn : namedQ s.data.toList with
        | false =>
          have HY := hid (show r = ([], false, 90) by rw [HX.out]; unfold namQ; rw [hn]; rfl)
          rw [HY.out]
          rw [hn] at HNm
          clear hn hlit hw hs hsz 
          go_enter Tryz.func48, Tryz.ntmps48
          go_wp2_with (first | (go_at_call 95; refine (HNm.out _ HW.out).mono ?_; rintro e w1 ⟨rfl, hb1⟩))
          go_ret3
          exact ⟨rfl, hb1⟩
        | true =>
          by_cases h255 : 255 < s.size
          · have b9 : decide ((255 : Int) < (s.size : Int)) = true := decide_eq_true (by omega)
            have HY := hid (show r = ([], false, 91) by rw [HX.out]; unfold namQ; rw [hn, if_neg (by decide), if_pos (by omega)])
            rw [HY.out]
            rw [hn] at HNm
            clear hn hlit hw hs hsz h255 
            go_enter Tryz.func48, Tryz.ntmps48
            go_wp2_with (first | (go_at_call 95; refine (HNm.out _ HW.out).mono ?_; rintro e w1 ⟨rfl, hb1⟩))
            go_ret3
            exact ⟨rfl, hb1⟩
          · have b9 : decide ((255 : Int) < (s.size : Int)) = false := decide_eq_false (by omega)
            have HY := hid (show r = (lowL s.data.toList, false, 0) by rw [HX.out]; unfold namQ; rw [hn, if_neg (by decide), if_neg (by omega)])
            rw [HY.out]
            rw [hn] at HNm
            clear hn hlit hw hs hsz h255 
            go_enter Tryz.func48, Tryz.ntmps48
            go_wp2_with (first | (go_at_call 95; refine (HNm.out _ HW.out).mono ?_; rintro e w1 ⟨rfl, hb1⟩) | (go_at_call 94; refine (HLo.out _).mono ?_; rintro e w2 ⟨rfl, hb2⟩))
            go_ret3
            exact ⟨rfl, hb1.trans hb2⟩
    · have c2 : (((s[0]'h0).toNat : Int) == 91) = false := byte_ne (n := 91) (by decide) h2
      have hlit : isLit s.data.toList = false := by
        rw [HLT.out]
        have : (s[0] == 91) = false := by simpa using h2
        rw [this, Bool.false_and]
      clear HLT h2 hm
      have HX := hid (dom_nam hlit)
      have HNm := (show Hid (∀ W, Lay W → Calls Tryz.prog 95 #[.string s] W fun e w' => e = .returned (.bool (namedQ s.data.toList)) ∧ Bel W w') from fun W hW => named_run s W hW (by omega))
      have HLo := (show Hid (∀ W, Calls Tryz.prog 94 #[.string s] W fun e w' => e = .returned (.string ⟨(lowL s.data.toList).toArray⟩) ∧ Bel W w') from fun W => lower_run s W (by omega))
      generalize domainQ s.data.toList = r at HX ⊢
      cases hn : namedQ s.data.toList with
      | false =>
        have HY := hid (show r = ([], false, 90) by rw [HX.out]; unfold namQ; rw [hn]; rfl)
        rw [HY.out]
        rw [hn] at HNm
        clear hn hlit hw hs hsz 
        go_enter Tryz.func48, Tryz.ntmps48
        go_wp2_with (first | (go_at_call 95; refine (HNm.out _ HW.out).mono ?_; rintro e w1 ⟨rfl, hb1⟩))
        go_ret3
        exact ⟨rfl, hb1⟩
      | true =>
        by_cases h255 : 255 < s.size
        · have b9 : decide ((255 : Int) < (s.size : Int)) = true := decide_eq_true (by omega)
          have HY := hid (show r = ([], false, 91) by rw [HX.out]; unfold namQ; rw [hn, if_neg (by decide), if_pos (by omega)])
          rw [HY.out]
          rw [hn] at HNm
          clear hn hlit hw hs hsz h255 
          go_enter Tryz.func48, Tryz.ntmps48
          go_wp2_with (first | (go_at_call 95; refine (HNm.out _ HW.out).mono ?_; rintro e w1 ⟨rfl, hb1⟩))
          go_ret3
          exact ⟨rfl, hb1⟩
        · have b9 : decide ((255 : Int) < (s.size : Int)) = false := decide_eq_false (by omega)
          have HY := hid (show r = (lowL s.data.toList, false, 0) by rw [HX.out]; unfold namQ; rw [hn, if_neg (by decide), if_neg (by omega)])
          rw [HY.out]
          rw [hn] at HNm
          clear hn hlit hw hs hsz h255 
          go_enter Tryz.func48, Tryz.ntmps48
          go_wp2_with (first | (go_at_call 95; refine (HNm.out _ HW.out).mono ?_; rintro e w1 ⟨rfl, hb1⟩) | (go_at_call 94; refine (HLo.out _).mono ?_; rintro e w2 ⟨rfl, hb2⟩))
          go_ret3
          exact ⟨rfl, hb1.trans hb2⟩
  · have b1 : decide ((1 : Int) < (s.size : Int)) = false := decide_eq_false (by omega)
    have hlit : isLit s.data.toList = false := by
      unfold isLit
      rw [decide_eq_false (by omega), Bool.false_and, Bool.false_and]
    have HX := hid (dom_nam hlit)
    have HNm := (show Hid (∀ W, Lay W → Calls Tryz.prog 95 #[.string s] W fun e w' => e = .returned (.bool (namedQ s.data.toList)) ∧ Bel W w') from fun W hW => named_run s W hW (by omega))
    have HLo := (show Hid (∀ W, Calls Tryz.prog 94 #[.string s] W fun e w' => e = .returned (.string ⟨(lowL s.data.toList).toArray⟩) ∧ Bel W w') from fun W => lower_run s W (by omega))
    generalize domainQ s.data.toList = r at HX ⊢
    cases hn : namedQ s.data.toList with
    | false =>
      have HY := hid (show r = ([], false, 90) by rw [HX.out]; unfold namQ; rw [hn]; rfl)
      rw [HY.out]
      rw [hn] at HNm
      clear hn hlit hw hs hsz 
      go_enter Tryz.func48, Tryz.ntmps48
      go_wp2_with (first | (go_at_call 95; refine (HNm.out _ HW.out).mono ?_; rintro e w1 ⟨rfl, hb1⟩))
      go_ret3
      exact ⟨rfl, hb1⟩
    | true =>
      by_cases h255 : 255 < s.size
      · have b9 : decide ((255 : Int) < (s.size : Int)) = true := decide_eq_true (by omega)
        have HY := hid (show r = ([], false, 91) by rw [HX.out]; unfold namQ; rw [hn, if_neg (by decide), if_pos (by omega)])
        rw [HY.out]
        rw [hn] at HNm
        clear hn hlit hw hs hsz h255 
        go_enter Tryz.func48, Tryz.ntmps48
        go_wp2_with (first | (go_at_call 95; refine (HNm.out _ HW.out).mono ?_; rintro e w1 ⟨rfl, hb1⟩))
        go_ret3
        exact ⟨rfl, hb1⟩
      · have b9 : decide ((255 : Int) < (s.size : Int)) = false := decide_eq_false (by omega)
        have HY := hid (show r = (lowL s.data.toList, false, 0) by rw [HX.out]; unfold namQ; rw [hn, if_neg (by decide), if_neg (by omega)])
        rw [HY.out]
        rw [hn] at HNm
        clear hn hlit hw hs hsz h255 
        go_enter Tryz.func48, Tryz.ntmps48
        go_wp2_with (first | (go_at_call 95; refine (HNm.out _ HW.out).mono ?_; rintro e w1 ⟨rfl, hb1⟩) | (go_at_call 94; refine (HLo.out _).mono ?_; rintro e w2 ⟨rfl, hb2⟩))
        go_ret3
        exact ⟨rfl, hb1.trans hb2⟩
end Go.Proofs.YtpmmaickjolimaaGreatDoor.Ma
