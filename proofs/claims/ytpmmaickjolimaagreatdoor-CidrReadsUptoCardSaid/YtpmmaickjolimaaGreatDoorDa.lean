/- The reference's Right. -/
import Derived.Test.YtpmmaickjolimaaGreatDoorCb
import Derived.Test.YtpmmaickjolimaaGreatDoorCd
import Derived.Test.YtpmmaickjolimaaGreatDoorCv
namespace Go.Proofs.YtpmmaickjolimaaGreatDoor.Ci
open Go.RowKit

theorem rsize_run (b : Bool) (w : World) : Calls Tryz.prog 81 #[.bool b] w fun e w' => e = .returned (.int .i64 (sizeQ b : Nat)) ∧ Bel w w' := by
  cases b with
  | false =>
    go_enter Tryz.func81, Tryz.ntmps81
    go_wp2_with fail
    go_ret
    exact ⟨rfl, Bel.refl _⟩
  | true =>
    go_enter Tryz.func81, Tryz.ntmps81
    go_wp2_with fail
    go_ret
    exact ⟨rfl, Bel.refl _⟩
theorem bit1 (x k : Nat) (hx : x < 256) : bits .and .u8 ((x : Int) / 2 ^ k) 1 = ((x >>> k % 2 : Nat) : Int) := by
  have h := u8_and_nat (x / 2 ^ k) 1 (Nat.lt_of_le_of_lt (Nat.div_le_self _ _) hx) (by decide)
  rw [Nat.and_one_is_mod, ← Nat.shiftRight_eq_div_pow] at h
  rw [← h, Nat.shiftRight_eq_div_pow]
  simp
set_option maxHeartbeats 1000000 in
theorem bit_run (l : List Nat) (hl : l.length = 16) (hx : ∀ x ∈ l, x < 256) (i : Nat) (hi : i < 128) (w : World) :
    Calls Tryz.prog 82 #[addrV l, .int .i64 (i : Int)] w fun e w' => e = .returned (.int .u8 (bitQ l i : Nat)) ∧ Bel w w' := by
  have hj : i / 8 < l.length := by omega
  have c0 : (w.alloc (.cells (l.map u8V).toArray 23)).cell? ⟨w.heap.size, i / 8, none⟩ = some (.int .u8 (l[i / 8] : Int)) := by
    simp only [World.cell?, heap_alloc_new w _]
    simp [hj, u8V]
  have hq : bitQ l i = (l[i / 8] >>> (7 - i % 8)) % 2 := by unfold bitQ; simp [hj]
  have hxl := hx _ (List.getElem_mem hj)
  generalize l[i / 8] = x at c0 hq hxl
  have HQ := hid hq
  unfold addrV
  clear hx hq hj hl
  go_enter Tryz.func82, Tryz.ntmps82
  go_wp2_with fail
  go_ret
  refine ⟨?_, (Bel.refl w).alloc _⟩
  rw [HQ.out, ← bit1 x (7 - i % 8) hxl]
  rfl
/-- The reference's bits from a place on, walked. -/
theorem zero_more (l : List Nat) (f i : Nat) (hf : f ≤ i) : ((List.range' f (i + 1 - f)).all fun j => bitQ l j == 0) = (((List.range' f (i - f)).all fun j => bitQ l j == 0) && (bitQ l i == 0)) := by
  rw [(by omega : i + 1 - f = (i - f) + 1), List.range'_concat, List.all_append, (by omega : f + 1 * (i - f) = i)]
  simp
set_option maxHeartbeats 2000000 in
set_option maxRecDepth 100000 in
theorem rright_run (n : Nt) (hn : n.Fits) (w : World) : Calls Tryz.prog 39 #[netV n] w fun e w' => e = .returned (.bool (rightQ n)) ∧ Bel w w' := by
  have h0 := hid (And.intro ((Bel.refl w).alloc (.cells (netC n).toArray 25)) (heap_alloc_new w (.cells (netC n).toArray 25)))
  have HS := (show Hid (∀ W, Calls Tryz.prog 81 #[.bool n.six] W fun e w' => e = .returned (.int .i64 (sizeQ n.six : Nat)) ∧ Bel W w') from fun W => rsize_run n.six W)
  have HB := (show Hid (∀ i : Nat, i < 128 → ∀ W, Calls Tryz.prog 82 #[.agg (n.addr.map u8V).toArray, .int .i64 (i : Int)] W fun e w' => e = .returned (.int .u8 (bitQ n.addr i : Nat)) ∧ Bel W w') from fun i hi W => bit_run n.addr hn.len hn.by_ i hi W)
  have hZa := hid (show (Tryz.prog.info? 23).map (·.size) = some (n.addr.map u8V).length by rw [List.length_map, hn.len]; kernel_rfl)
  have c0 : (w.alloc (.cells (netC n).toArray 25)).cell? ⟨w.heap.size, 0, none⟩ = some (.bool n.six) := by simp only [World.cell?, heap_alloc_new w _]; simp [netC]
  have hb1 := hn.b1
  have hb2 := hn.b2
  rw [← rightR_eq n hn]
  unfold netV
  clear hn
  go_enter Tryz.func39, Tryz.ntmps39
  go_wp2_with fail
  generalize w.alloc (.cells (netC n).toArray 25) = w1 at h0 c0 ⊢
  refine (HS.out _).mono ?_
  rintro e w2 ⟨rfl, hb⟩
  have h2 := hid (And.intro (h0.out.1.trans hb) (hb.heap h0.out.2))
  clear h0 hb HS c0
  have c1 : w2.cell? ⟨w.heap.size, 1, none⟩ = some (.int .i64 n.bits) := by simp [World.cell?, h2.out.2, netC]
  have hr : rightR n = (decide (0 ≤ n.bits) && decide (n.bits ≤ sizeQ n.six) && (List.range' n.bits.toNat (128 - n.bits.toNat)).all fun i => bitQ n.addr i == 0) := rfl
  have hs : (sizeQ n.six : Int) ≤ 128 := by unfold sizeQ; split <;> decide
  by_cases h1 : n.bits < 0
  · have HR := hid (show rightR n = false by rw [hr, decide_eq_false (by omega : ¬ 0 ≤ n.bits)]; rfl)
    clear hr
    go_wp2_with fail
    go_ret
    exact ⟨by rw [HR.out]; rfl, h2.out.1⟩
  · by_cases hbig : (sizeQ n.six : Int) < n.bits
    · have d1 : decide ((sizeQ n.six : Int) < n.bits) = true := decide_eq_true hbig
      have HR := hid (show rightR n = false by rw [hr, decide_eq_false (by omega : ¬ n.bits ≤ sizeQ n.six)]; simp)
      clear hr
      go_wp2_with fail
      go_ret
      exact ⟨by rw [HR.out]; rfl, h2.out.1⟩
    · have d1 : decide ((sizeQ n.six : Int) < n.bits) = false := decide_eq_false hbig
      have HR := hid (show rightR n = (List.range' n.bits.toNat (128 - n.bits.toNat)).all fun i => bitQ n.addr i == 0 by rw [hr, decide_eq_true (by omega : 0 ≤ n.bits), decide_eq_true (by omega : n.bits ≤ sizeQ n.six)]; simp)
      clear hr
      have hb128 : n.bits ≤ 128 := by omega
      obtain ⟨f, hf⟩ : ∃ f : Nat, n.bits = f := ⟨n.bits.toNat, by omega⟩
      rw [hf] at c1 d1 hb128 hbig
      have HF := hid (show n.bits.toNat = f by omega)
      have d0 : decide ((f : Int) < 0) = false := decide_eq_false (by omega)
      have d2 : decide (sizeQ n.six < f) = false := decide_eq_false (by omega)
      clear h1 hs hb1 hb2
      clear hf
      go_wp2_with fail
      clear c1
      go_loopg [4] (128 - f) (fun gg v4 wr => ∃ i : Nat, v4 = .int .i64 i ∧ i + gg = 128 ∧ f ≤ i ∧ Hid (((List.range' f (i - f)).all fun j => bitQ n.addr j == 0) = true) ∧ Hid (Bel w wr ∧ wr.heap[w.heap.size]? = some (.cells (netC n).toArray 25 (0, 0))))
      case atStart => exact ⟨f, rfl, by omega, Nat.le_refl _, hid (by rw [Nat.sub_self]; rfl), h2⟩
      case round =>
        clear h2
        obtain ⟨i, rfl, hi, hfi, HA, h2⟩ := hrel
        have Hi := hid hi
        have hin : i ≤ 128 := by omega
        clear hi
        by_cases hlt : i < 128
        · have hz := zero_more n.addr f i hfi
          rw [HA.out, Bool.true_and] at hz
          have HBi := hid (HB.out i hlt)
          generalize hbit : bitQ n.addr i = x at HBi hz
          have HZ := hid (And.intro hz hbit)
          clear hz hbit
          go_wp2_with (first
            | (refine wpList_load_mid rfl 23 (.tmp 23) rfl w.heap.size 2 rfl (n.addr.map u8V) _ ?_ Tryz.underlying23 rfl hZa.out ?_; exact range_of h2.out.2 fun j v hv => by simpa [netC, Nat.add_comm] using hv))
          refine (HBi.out _).mono ?_
          rintro e w3 ⟨rfl, hb3⟩
          have h3 := hid (And.intro (h2.out.1.trans hb3) (hb3.heap h2.out.2))
          clear h2 hb3 HBi
          by_cases hx : x = 0
          · have dx : ((x : Int) != 0) = false := by rw [hx]; rfl
            have HN := hid (show ((List.range' f (i + 1 - f)).all fun j => bitQ n.addr j == 0) = true by rw [HZ.out.1, hx]; rfl)
            clear hx
            go_wp2_with fail
            go_roundg (gk - 1)
            case measure => have := Hi.out; omega
            case rel => exact ⟨i + 1, by go_num, by have := Hi.out; omega, by omega, HN, h3⟩
          · have dx : ((x : Int) != 0) = true := by rw [bne_iff_ne]; omega
            have HN := hid (show rightR n = false by
              rw [HR.out, HF.out, Bool.eq_false_iff]
              intro hall
              have := List.all_eq_true.1 hall i (List.mem_range'_1.2 ⟨hfi, by omega⟩)
              rw [HZ.out.2] at this
              exact hx (beq_iff_eq.1 this))
            clear hx
            go_wp2_with fail
            go_ret
            exact ⟨by rw [HN.out]; rfl, h3.out.1⟩
        · obtain rfl : i = 128 := by omega
          have HN := hid (show rightR n = true by rw [HR.out, HF.out]; exact HA.out)
          go_wp2_with fail
          go_ret
          exact ⟨by rw [HN.out]; rfl, h2.out.1⟩
end Go.Proofs.YtpmmaickjolimaaGreatDoor.Ci
