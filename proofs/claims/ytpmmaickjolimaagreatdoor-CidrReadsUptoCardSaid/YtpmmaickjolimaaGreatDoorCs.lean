/- Show. -/
import Derived.Test.YtpmmaickjolimaaGreatDoorCo
import Derived.Outline
namespace Go.Proofs.YtpmmaickjolimaaGreatDoor.Ci
open Go.RowKit

def decT (n : Nat) : ByteArray := ⟨(Lib.decDigits n).toArray⟩
def dotT (l : List Nat) : ByteArray := ⟨(Lib.join (l.map Lib.decDigits) [46]).toArray⟩
def longT (l : List Nat) : ByteArray := ⟨(formL (groupsOf l)).toArray⟩
/-- The form of an address. -/
def addrT (n : Nt) : List UInt8 := if n.six then formL (groupsOf n.addr) else Lib.join ((n.addr.take 4).map Lib.decDigits) [46]
/-- The form of a range. -/
def formQ (n : Nt) : List UInt8 := if n.bits < (sizeQ n.six : Nat) then addrT n ++ 47 :: Lib.decDigits n.bits.toNat else addrT n
def showQ (n : Nt) : Option (List UInt8) := if rightQ n then some (formQ n) else none
theorem itoa_run (n : Nat) (hn : n < 1000) (w : World) (hw : Lay w) : Calls Tryz.prog 72 #[.int .i64 (n : Int)] w fun e w' => e = .returned (.string (decT n)) ∧ Bel w w' := by
  refine (Tryz.strconv_Itoa (n : Int) (by omega) (by omega) w (hw.pow w (Bel.refl w))).mono ?_
  rintro e w' ⟨rfl, k, os, rfl⟩
  refine ⟨?_, ?_⟩
  · have : Lib.itoa (n : Int) = Lib.decDigits n := by unfold Lib.itoa; rw [if_neg (by omega)]; rfl
    rw [this]; rfl
  · refine ⟨rfl, rfl, rfl, ?_, fun j hj => ?_⟩
    · show w.heap.size ≤ (w.heap ++ os).size
      simp
    · show (w.heap ++ os)[j]? = w.heap[j]?
      rw [Array.getElem?_append_left hj]
theorem decT_size (n : Nat) (hn : n < 1000) : (decT n).size ≤ 3 := by
  rw [Lib.size_eq]
  exact (decDigits_len 2 n (by omega)).2
theorem dotT_nil : dotT [] = ⟨#[]⟩ := rfl
theorem dotT_one (x : Nat) : dotT [x] = decT x := by
  unfold dotT decT
  rw [List.map_cons, List.map_nil, Lib.join_one]
theorem ext_bytes {a b : ByteArray} (h : a.data.toList = b.data.toList) : a = b := by
  rw [← Lib.mk_data a, ← Lib.mk_data b, h]
theorem app_data (a b : ByteArray) : (a ++ b).data.toList = a.data.toList ++ b.data.toList := by
  rw [ByteArray.data_append, Array.toList_append]
theorem dotT_snoc (l : List Nat) (hl : l ≠ []) (x : Nat) : dotT l ++ dot ++ decT x = dotT (l ++ [x]) := by
  refine ext_bytes ?_
  rw [app_data, app_data]
  show Lib.join (l.map Lib.decDigits) [46] ++ [46] ++ Lib.decDigits x = Lib.join ((l ++ [x]).map Lib.decDigits) [46]
  cases l with
  | nil => exact absurd rfl hl
  | cons a l =>
    rw [List.cons_append, List.map_cons, List.map_cons, Lib.join_cons, Lib.join_cons, List.map_append]
    simp [Lib.joinTail]
theorem dotT_size (l : List Nat) (h : ∀ x ∈ l, x < 256) : (dotT l).size ≤ 4 * l.length := by
  rw [Lib.size_eq]
  show (Lib.join (l.map Lib.decDigits) [46]).length ≤ _
  cases l with
  | nil => exact Nat.le_refl _
  | cons a l =>
    rw [List.map_cons, Lib.join_length]
    have ih : ∀ (m : List Nat), (∀ x ∈ m, x < 256) → Lib.lens (m.map Lib.decDigits) ≤ 3 * m.length := by
      intro m
      induction m with
      | nil => intro _; simp [Lib.lens]
      | cons b m ih =>
        intro hm
        have := ih fun x hx => hm x (List.mem_cons_of_mem _ hx)
        have hb := (decDigits_len 2 b (by have := hm b (List.mem_cons_self ..); omega)).2
        simp only [Lib.lens, List.map_cons, List.sum_cons, List.length_cons] at this ⊢
        omega
    have := ih (a :: l) h
    simp only [List.map_cons, List.length_cons, List.length_map, List.length_nil] at this ⊢
    omega
theorem longT_size (l : List Nat) (hl : l.length = 16) (hx : ∀ x ∈ l, x < 256) : (longT l).size ≤ 100 := by
  rw [Lib.size_eq]
  show (formL (groupsOf l)).length ≤ 100
  have h8 := groupsOf_len 8 l hl
  have hg := groupsOf_lt 8 l hl hx
  unfold formL
  split
  · have := join_small _ hg; omega
  · have h1 := join_small ((groupsOf l).take (longest (groupsOf l) 8).1) fun x hx => hg x (List.mem_of_mem_take hx)
    have h2 := join_small ((groupsOf l).drop ((longest (groupsOf l) 8).1 + (longest (groupsOf l) 8).2)) fun x hx => hg x (List.mem_of_mem_drop hx)
    simp only [List.length_append, List.length_take, List.length_drop, List.length_cons, List.length_nil] at h1 h2 ⊢
    omega

def errS (n : Nt) : Int := if rightQ n then 0 else 70
set_option maxHeartbeats 2000000 in
set_option maxRecDepth 100000 in
theorem show_run (n : Nt) (hn : n.Fits) (w : World) (hw : Lay w) :
    Calls Tryz.prog 28 #[netV n] w fun e w' => e = .returned (.tuple #[.string ⟨((showQ n).getD []).toArray⟩, .int .i64 (errS n)]) ∧ Bel w w' := by
  have h0 := hid (And.intro ((Bel.refl w).alloc (.cells (netC n).toArray 25)) (heap_alloc_new w (.cells (netC n).toArray 25)))
  have HR := (show Hid (∀ W, Calls Tryz.prog 36 #[.agg (netC n).toArray] W fun e w' => e = .returned (.bool (rightQ n)) ∧ Bel W w') from fun W => right_run n hn W)
  have hZ := hid (show (Tryz.prog.info? 25).map (·.size) = some (netC n).length by rw [netC_len _ hn.len]; exact net_info)
  have hZa := hid (show (Tryz.prog.info? 23).map (·.size) = some (n.addr.map u8V).length by rw [List.length_map, hn.len]; kernel_rfl)
  have HN := hid hn
  have HW := hid hw
  unfold netV
  clear hn hw
  go_enter Tryz.func28, Tryz.ntmps28
  go_wp2_with (first
    | (refine wpList_load_mid rfl 25 (.tmp 1) rfl w.heap.size 0 rfl (netC n) _ ?_ Tryz.underlying25 rfl hZ.out ?_; exact range_of h0.out.2 fun j v hv => by simpa using hv))
  generalize w.alloc (.cells (netC n).toArray 25) = w1 at h0 ⊢
  refine (HR.out _).mono ?_
  rintro e w2 ⟨rfl, hb2⟩
  have h2 := hid (And.intro (h0.out.1.trans hb2) (hb2.heap h0.out.2))
  clear h0 hb2 HR
  cases hr : rightQ n with
  | false =>
    have HQ := hid (show showQ n = none ∧ errS n = 70 from ⟨by unfold showQ; rw [hr]; rfl, by unfold errS; rw [hr]; rfl⟩)
    clear hr
    go_wp2_with fail
    go_ret2
    exact ⟨by rw [HQ.out.1, HQ.out.2]; rfl, h2.out.1⟩
  | true =>
    have HQE := hid (show showQ n = some (formQ n) ∧ errS n = 0 from ⟨by unfold showQ; rw [hr]; rfl, by unfold errS; rw [hr]; rfl⟩)
    have HQ := hid (show Ending.returned (.tuple #[.string ⟨((showQ n).getD []).toArray⟩, .int .i64 (errS n)]) = Ending.returned (.tuple #[.string ⟨(formQ n).toArray⟩, .int .i64 0]) by rw [HQE.out.1, HQE.out.2]; rfl)
    have hb := rightQ_bits hr
    have cz : w2.cell? ⟨w.heap.size, 0, none⟩ = some (.bool n.six) := by simp [World.cell?, h2.out.2, netC]
    clear hr HQE
    cases h6 : n.six with
    | true =>
      have HL := (show Hid (∀ W, Lay W → Calls Tryz.prog 71 #[.agg (n.addr.map u8V).toArray] W fun e w' => e = .returned (.string (longT n.addr)) ∧ Bel W w') from fun W hW => long_run n.addr HN.out.len HN.out.by_ W hW)
      have szT := longT_size n.addr HN.out.len HN.out.by_
      go_wp2_with (first
        | (refine wpList_load_mid rfl 23 (.tmp 12) rfl w.heap.size 2 rfl (n.addr.map u8V) _ ?_ Tryz.underlying23 rfl hZa.out ?_; exact range_of h2.out.2 fun j v hv => by simpa [netC, Nat.add_comm] using hv))
      refine (HL.out _ (HW.out.next h2.out.1)).mono ?_
      rintro e w3 ⟨rfl, hb3⟩
      have h3 := hid (And.intro (h2.out.1.trans hb3) (hb3.heap h2.out.2))
      clear h2 hb3 HL cz
      go_upto_region 13 with (fail)
      have c0 : ∀ p : Aft w3, p.wd.cell? ⟨w.heap.size, 0, none⟩ = some (.bool true) := fun p => by rw [← h6]; exact p.cell h3.out.2 (netC_six n)
      have c1 : ∀ p : Aft w3, p.wd.cell? ⟨w.heap.size, 1, none⟩ = some (.int .i64 n.bits) := fun p => p.cell h3.out.2 (netC_bits n)
      have HT := hid (show (longT n.addr).data.toList = addrT n by unfold addrT; rw [h6]; rfl)
      have HSZ := (show Hid (∀ W, Calls Tryz.prog 73 #[.bool true] W fun e w' => e = .returned (.int .i64 (sizeQ true : Nat)) ∧ Bel W w') from fun W => size_run true W)
      have H6 := hid h6
      clear h6
      by_cases hlt : n.bits < (sizeQ true : Nat)
      · have d1 : decide (n.bits < (sizeQ true : Nat)) = true := decide_eq_true hlt
        have HI := (show Hid (∀ W, Lay W → Calls Tryz.prog 72 #[.int .i64 n.bits] W fun e w' => e = .returned (.string (decT n.bits.toNat)) ∧ Bel W w') from fun W hW => by
          have := itoa_run n.bits.toNat (by omega) W hW
          rw [show ((n.bits.toNat : Nat) : Int) = n.bits by omega] at this
          exact this)
        have sd := decT_size n.bits.toNat (by omega)
        have ad1 : ∀ W : World, (Op.stringOp .add ⟨#[47]⟩ (decT n.bits.toNat)).run Tryz.prog W = .ok (.string (⟨#[47]⟩ ++ decT n.bits.toNat)) W := fun W => run_string_add_sum W _ _ (by show 1 + _ ≤ _; omega)
        have ad2 : ∀ W : World, (Op.stringOp .add (longT n.addr) (⟨#[47]⟩ ++ decT n.bits.toNat)).run Tryz.prog W = .ok (.string ((longT n.addr) ++ (⟨#[47]⟩ ++ decT n.bits.toNat))) W := fun W => run_string_add_sum W _ _ (by rw [ByteArray.size_append]; show _ + (1 + _) ≤ _; omega)
        have HF := hid (show formQ n = addrT n ++ 47 :: Lib.decDigits n.bits.toNat by unfold formQ; rw [H6.out, if_pos hlt])
        clear hlt sd szT hb
        refine wp_region_aft (by kernel_rfl) (by kernel_rfl) ?_
        repeat (go_big_quiet_step (first
            | (go_at_call 73; exact Calls.aft (HSZ.out _))))
        refine wpQuiet_nil ?_
        rintro _ ⟨p, rfl⟩
        go_wp2_with fail
        refine (HI.out _ (HW.out.next (h3.out.1.trans p.bel))).mono ?_
        rintro e w9 ⟨rfl, hb9⟩
        go_wp2_with fail
        go_ret2
        refine ⟨?_, h3.out.1.trans (p.bel.trans hb9)⟩
        rw [HQ.out, HF.out, ← HT.out]
        rfl
      · have d1 : decide (n.bits < (sizeQ true : Nat)) = false := decide_eq_false hlt
        have HF := hid (show formQ n = addrT n by unfold formQ; rw [H6.out, if_neg hlt])
        clear hlt szT hb
        refine wp_region_aft (by kernel_rfl) (by kernel_rfl) ?_
        repeat (go_big_quiet_step (first
            | (go_at_call 73; exact Calls.aft (HSZ.out _))))
        refine wpQuiet_nil ?_
        rintro _ ⟨p, rfl⟩
        go_wp2_with fail
        go_ret2
        refine ⟨?_, h3.out.1.trans p.bel⟩
        rw [HQ.out, HF.out, ← HT.out]
        rfl
    | false =>
      have sl1 : ∀ W : World, (Instr.sliceAt 23 (.pointer (some ⟨w.heap.size, 2, none⟩)) none (some (.int .i64 4)) none).run Tryz.prog W = .ok (.slice (some ⟨w.heap.size, 2, none⟩) 4 16) W := fun W => by
        rw [run_sliceAt_array_h W 23 _ (by kernel_rfl) .i64 _ (by omega) (by rw [arr16_len]; omega), arr16_len, arr16_elem, Tryz.sizeOf5]
        simp only [Result.andThen_ok, slicedAt]
        rfl
      go_wp2_with fail
      clear sl1 cz
      go_loopg [4, 18] 4 (fun gg v4 v18 wr => ∃ k : Nat, v4 = .string (dotT (n.addr.take k)) ∧ v18 = .int .i64 k ∧ k + gg = 4 ∧ Hid (Bel w wr ∧ wr.heap[w.heap.size]? = some (.cells (netC n).toArray 25 (0, 0))))
      case atStart => exact ⟨0, rfl, rfl, by omega, h2⟩
      case round =>
        clear h2
        obtain ⟨k, rfl, rfl, hk, h2⟩ := hrel
        have Hk := hid hk
        have hkn : k ≤ 4 := by omega
        clear hk
        have hln := HN.out.len
        by_cases hlt : k < 4
        · have hk16 : k < n.addr.length := by omega
          have c0 : wr.cell? ⟨w.heap.size, 2 + k, none⟩ = some (.int .u8 (n.addr[k] : Int)) := by
            simp [World.cell?, h2.out.2, netC, Nat.add_comm 2 k, hk16, u8V]
          have hx := HN.out.by_ _ (List.getElem_mem hk16)
          have htk : n.addr.take (k + 1) = n.addr.take k ++ [n.addr[k]] := List.take_succ_eq_append_getElem hk16
          have sz := dotT_size (n.addr.take k) (fun x hx => HN.out.by_ x (List.mem_of_mem_take hx))
          rw [List.length_take, Nat.min_eq_left (by omega : k ≤ n.addr.length)] at sz
          generalize n.addr[k] = x at c0 hx htk
          have HI := (show Hid (∀ W, Lay W → Calls Tryz.prog 72 #[.int .i64 (x : Int)] W fun e w' => e = .returned (.string (decT x)) ∧ Bel W w') from fun W hW => itoa_run x (by omega) W hW)
          have sd := decT_size x (by omega)
          rcases Nat.eq_zero_or_pos k with rfl | hpos
          · have hn1 : dotT (n.addr.take (0 + 1)) = decT x := by rw [htk, List.take_zero]; exact dotT_one x
            have hn0 : dotT (n.addr.take 0) = ⟨#[]⟩ := by rw [List.take_zero]; rfl
            have ad1 : ∀ W : World, (Op.stringOp .add ⟨#[]⟩ (decT x)).run Tryz.prog W = .ok (.string (⟨#[]⟩ ++ decT x)) W := fun W => run_string_add_sum W _ _ (by show 0 + _ ≤ _; omega)
            have he : (⟨#[]⟩ : ByteArray) ++ decT x = decT x := ext_bytes (by rw [app_data]; rfl)
            have HE := hid (he.trans hn1.symm)
            rw [hn0]
            clear hn1 hn0 htk sd sz he hk16 hln
            go_wp2_with fail
            refine (HI.out _ (HW.out.next h2.out.1)).mono ?_
            rintro e w3 ⟨rfl, hb3⟩
            have h3 := hid (And.intro (h2.out.1.trans hb3) (hb3.heap h2.out.2))
            clear h2 hb3 HI
            go_wp2_with fail
            go_roundg (gk - 1)
            case measure => have := Hk.out; omega
            case rel => exact ⟨0 + 1, by rw [HE.out], by go_num, by have := Hk.out; omega, h3⟩
          · have hne : n.addr.take k ≠ [] := by
              intro e
              have := congrArg List.length e
              rw [List.length_take] at this
              simp only [List.length_nil] at this
              omega
            have hn1 : dotT (n.addr.take k) ++ dot ++ decT x = dotT (n.addr.take (k + 1)) := by rw [htk]; exact dotT_snoc _ hne x
            have ad0 : ∀ W : World, (Op.stringOp .add (dotT (n.addr.take k)) ⟨#[46]⟩).run Tryz.prog W = .ok (.string (dotT (n.addr.take k) ++ ⟨#[46]⟩)) W := fun W => run_string_add_sum W _ _ (by show _ + 1 ≤ _; omega)
            have ad1 : ∀ W : World, (Op.stringOp .add (dotT (n.addr.take k) ++ ⟨#[46]⟩) (decT x)).run Tryz.prog W = .ok (.string (dotT (n.addr.take k) ++ ⟨#[46]⟩ ++ decT x)) W := fun W => run_string_add_sum W _ _ (by rw [ByteArray.size_append]; show _ + 1 + _ ≤ _; omega)
            have HE := hid hn1
            clear hn1 htk sd sz hk16 hln hne
            go_wp2_with fail
            refine (HI.out _ (HW.out.next h2.out.1)).mono ?_
            rintro e w3 ⟨rfl, hb3⟩
            have h3 := hid (And.intro (h2.out.1.trans hb3) (hb3.heap h2.out.2))
            clear h2 hb3 HI
            go_wp2_with fail
            go_roundg (gk - 1)
            case measure => have := Hk.out; omega
            case rel => exact ⟨k + 1, by rw [← HE.out]; rfl, by go_num, by have := Hk.out; omega, h3⟩
        · obtain rfl : k = 4 := by omega
          have szT := dotT_size (n.addr.take 4) (fun x hx => HN.out.by_ x (List.mem_of_mem_take hx))
          rw [List.length_take, Nat.min_eq_left (by omega : 4 ≤ n.addr.length)] at szT
          clear hln
          go_upto_region 13 with (fail)
          have c0 : ∀ p : Aft wr, p.wd.cell? ⟨w.heap.size, 0, none⟩ = some (.bool false) := fun p => by rw [← h6]; exact p.cell h2.out.2 (netC_six n)
          have c1 : ∀ p : Aft wr, p.wd.cell? ⟨w.heap.size, 1, none⟩ = some (.int .i64 n.bits) := fun p => p.cell h2.out.2 (netC_bits n)
          have HT := hid (show (dotT (n.addr.take 4)).data.toList = addrT n by unfold addrT; rw [h6]; rfl)
          have HSZ := (show Hid (∀ W, Calls Tryz.prog 73 #[.bool false] W fun e w' => e = .returned (.int .i64 (sizeQ false : Nat)) ∧ Bel W w') from fun W => size_run false W)
          have H6 := hid h6
          clear h6
          by_cases hlt : n.bits < (sizeQ false : Nat)
          · have d1 : decide (n.bits < (sizeQ false : Nat)) = true := decide_eq_true hlt
            have HI := (show Hid (∀ W, Lay W → Calls Tryz.prog 72 #[.int .i64 n.bits] W fun e w' => e = .returned (.string (decT n.bits.toNat)) ∧ Bel W w') from fun W hW => by
              have := itoa_run n.bits.toNat (by omega) W hW
              rw [show ((n.bits.toNat : Nat) : Int) = n.bits by omega] at this
              exact this)
            have sd := decT_size n.bits.toNat (by omega)
            have ad1 : ∀ W : World, (Op.stringOp .add ⟨#[47]⟩ (decT n.bits.toNat)).run Tryz.prog W = .ok (.string (⟨#[47]⟩ ++ decT n.bits.toNat)) W := fun W => run_string_add_sum W _ _ (by show 1 + _ ≤ _; omega)
            have ad2 : ∀ W : World, (Op.stringOp .add (dotT (n.addr.take 4)) (⟨#[47]⟩ ++ decT n.bits.toNat)).run Tryz.prog W = .ok (.string ((dotT (n.addr.take 4)) ++ (⟨#[47]⟩ ++ decT n.bits.toNat))) W := fun W => run_string_add_sum W _ _ (by rw [ByteArray.size_append]; show _ + (1 + _) ≤ _; omega)
            have HF := hid (show formQ n = addrT n ++ 47 :: Lib.decDigits n.bits.toNat by unfold formQ; rw [H6.out, if_pos hlt])
            clear hlt sd szT hb
            refine wp_region_aft (by kernel_rfl) (by kernel_rfl) ?_
            repeat (go_big_quiet_step (first
                | (go_at_call 73; exact Calls.aft (HSZ.out _))))
            refine wpQuiet_nil ?_
            rintro _ ⟨p, rfl⟩
            go_wp2_with fail
            refine (HI.out _ (HW.out.next (h2.out.1.trans p.bel))).mono ?_
            rintro e w9 ⟨rfl, hb9⟩
            go_wp2_with fail
            go_ret2
            refine ⟨?_, h2.out.1.trans (p.bel.trans hb9)⟩
            rw [HQ.out, HF.out, ← HT.out]
            rfl
          · have d1 : decide (n.bits < (sizeQ false : Nat)) = false := decide_eq_false hlt
            have HF := hid (show formQ n = addrT n by unfold formQ; rw [H6.out, if_neg hlt])
            clear hlt szT hb
            refine wp_region_aft (by kernel_rfl) (by kernel_rfl) ?_
            repeat (go_big_quiet_step (first
                | (go_at_call 73; exact Calls.aft (HSZ.out _))))
            refine wpQuiet_nil ?_
            rintro _ ⟨p, rfl⟩
            go_wp2_with fail
            go_ret2
            refine ⟨?_, h2.out.1.trans p.bel⟩
            rw [HQ.out, HF.out, ← HT.out]
            rfl
end Go.Proofs.YtpmmaickjolimaaGreatDoor.Ci
