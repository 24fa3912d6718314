/- A group's number, read to the base of 16. -/
import Derived.Test.YtpmmaickjolimaaGreatDoorCh
import Derived.Test.YtpmmaickjolimaaGreatDoorCn
import Derived.Lib.ConvBytes
import Derived.Lib.Walk
import Derived.Laws.Strings3
import Derived.Laws.Closers25
import Derived.Laws.Closers25b
import Derived.BigCall
import Derived.BigGuard
namespace Go.Proofs.YtpmmaickjolimaaGreatDoor.Ci
open Go.RowKit

set_option maxRecDepth 100000 in
theorem or32 (c : Nat) (h : c < 256) : bits .or .u8 (c : Int) 32 = ((c ||| 32 : Nat) : Int) := by
  have := u8_or_nat c 32 h (by decide)
  exact this
theorem lower_run (c : Nat) (h : c < 256) (w : World) : Calls Tryz.prog 202 #[.int .u8 c] w fun e w' => e = .returned (.int .u8 ((c ||| 32 : Nat) : Int)) ∧ w' = w := by
  have ho := or32 c h
  go_enter Tryz.func202, Tryz.ntmps202
  go_wp2_with fail
  go_ret
  exact ⟨rfl, rfl⟩
set_option maxRecDepth 100000 in
theorem hex_ways {c : UInt8} (h : hexB c = true) : (48 ≤ c.toNat ∧ c.toNat ≤ 57 ∧ hexV c = c.toNat - 48) ∨ (57 < c.toNat ∧ 97 ≤ (c.toNat ||| 32) ∧ (c.toNat ||| 32) ≤ 102 ∧ hexV c = (c.toNat ||| 32) - 87 ∧ ((c.toNat : Int) == 95) = false) := by
  have key : ∀ n : Fin 256, hexB (UInt8.ofNat n.val) = true → (48 ≤ n.val ∧ n.val ≤ 57 ∧ hexV (UInt8.ofNat n.val) = n.val - 48) ∨ (57 < n.val ∧ 97 ≤ (n.val ||| 32) ∧ (n.val ||| 32) ≤ 102 ∧ hexV (UInt8.ofNat n.val) = (n.val ||| 32) - 87 ∧ ((n.val : Int) == 95) = false) := by decide +kernel
  have := key ⟨c.toNat, c.toNat_lt⟩ (by rw [show UInt8.ofNat c.toNat = c by simp]; exact h)
  simp only [show UInt8.ofNat c.toNat = c by simp] at this
  exact this
def hexF (l : List UInt8) : Nat := l.foldl (fun a b => a * 16 + hexV b) 0
theorem hexF_snoc (l : List UInt8) (b : UInt8) : hexF (l ++ [b]) = hexF l * 16 + hexV b := by simp [hexF]
theorem hexF_lt : ∀ (k : Nat) (l : List UInt8), l.length = k → (∀ b ∈ l, hexB b = true) → hexF l < 16 ^ k
  | 0, l, h, _ => by rw [List.length_eq_zero_iff.1 h]; decide
  | k + 1, l, h, hb => by
    have hne : l ≠ [] := by intro e; rw [e] at h; cases h
    have e := List.dropLast_concat_getLast hne
    rw [← e, hexF_snoc]
    have h1 := hexF_lt k l.dropLast (by rw [List.length_dropLast]; omega) (fun b hb' => hb b ((List.dropLast_sublist l).subset hb'))
    have h2 : hexV (l.getLast hne) < 16 := by
      rcases hex_ways (hb _ (List.getLast_mem hne)) with f | f <;> omega
    rw [Nat.pow_succ]; omega

set_option maxHeartbeats 4000000 in
set_option maxRecDepth 100000 in
theorem parseI_run (t : ByteArray) (h1 : 1 ≤ t.size) (h4 : t.size ≤ 4) (hx : ∀ b ∈ t.data.toList, hexB b = true) (w : World) :
    Calls Tryz.prog 171 #[.string t, .int .i64 16, .int .i64 16] w fun e w' => e = .returned (.tuple #[.int .u64 (hexF t.data.toList : Nat), .nilIface]) ∧ Bel w w' := by
  have hemp : t.toList.isEmpty = false := by
    rw [← decide_eq_emptyBytes]
    exact decide_eq_false (fun h => by rw [h] at h1; cases h1)
  have hcv := Lib.run_convert_string_bytes (P := Tryz.prog) w 9 88 5 t (u := .string) Tryz.underlying9 Tryz.underlying88 Tryz.underlying5
  have HB := (show Hid (∀ j, j < t.size → (Lib.bytesWorld w 5 t).cell? ⟨w.heap.size, j, none⟩ = some (.int .u8 (t.data.toList.getD j 0).toNat)) from fun j hj => Lib.bytesWorld_cell w 5 t j hj)
  have HE := hid (bel_bytes w t)
  obtain ⟨W1, hW1⟩ : ∃ W1, W1 = Lib.bytesWorld w 5 t := ⟨_, rfl⟩
  rw [← hW1] at hcv HB HE
  clear hW1
  have hLn : t.data.toList.length = t.size := by rw [Lib.size_eq]
  generalize t.data.toList = bs at HB hx hLn
  have HX := hid (And.intro hx hLn)
  clear hx hLn
  have hmv : IntKind.u64.wrap (65536 - 1) = 65535 := by rw [IntKind.wrap_u64]; decide
  go_enter Tryz.func171, Tryz.ntmps171
  go_wp2_with fail
  go_loop [12, 13, 101] (fun vu vn vi => ∃ (k : Nat) (a : Int), vu = .bool false ∧ vn = .int .u64 a ∧ vi = .int .i64 k ∧ k ≤ t.size ∧ Hid (a = (hexF (bs.take k) : Nat)))
    (fun _ _ vi => t.size - (intOf vi).toNat)
  case atStart => exact ⟨0, 0, rfl, rfl, rfl, by omega, hid rfl⟩
  case round =>
    obtain ⟨k, a, rfl, rfl, rfl, hk, HA⟩ := hrel
    have hlt := hexF_lt (bs.take k).length (bs.take k) rfl (fun b hb => HX.out.1 b (List.mem_of_mem_take hb))
    rw [List.length_take, HX.out.2, Nat.min_eq_left hk] at hlt
    have a0 : 0 ≤ a := by have := HA.out; omega
    by_cases hkn : k < t.size
    · have a1 : a ≤ 4095 := by
        have := HA.out
        have h2 : 16 ^ k ≤ 16 ^ 3 := Nat.pow_le_pow_right (by decide) (by omega)
        omega
      have hc := HB.out k hkn
      have hget : bs.getD k 0 = bs[k]'(by have := HX.out.2; omega) := by simp [List.getD, List.getElem?_eq_getElem (show k < bs.length by have := HX.out.2; omega)]
      have hmem : bs[k]'(by have := HX.out.2; omega) ∈ bs := List.getElem_mem _
      have htk : bs.take (k + 1) = bs.take k ++ [bs[k]'(by have := HX.out.2; omega)] := List.take_succ_eq_append_getElem _
      rw [hget] at hc
      have hw := hex_ways (HX.out.1 _ hmem)
      clear hget hmem
      generalize bs[k]'(by have := HX.out.2; omega) = c at hc htk hw
      have hc256 : c.toNat < 256 := c.toNat_lt
      have HN := hid (show hexF (bs.take (k + 1)) = hexF (bs.take k) * 16 + hexV c by rw [htk, hexF_snoc])
      clear htk hlt
      rcases hw with ⟨c1, c2, c3⟩ | ⟨c1, c2, c3, c4, c5⟩
      · have HV := hid c3
        clear c3
        go_wp2_with fail
        go_round
        case rel => exact ⟨k + 1, a * 16 + ((c.toNat : Int) - 48), rfl, rfl, by go_num, by omega, hid (by rw [HN.out, HV.out]; have := HA.out; omega)⟩
        case measure => simp [intOf]; omega
      · have HV := hid c4
        clear c4
        have HL := (show Hid (∀ W, Calls Tryz.prog 202 #[.int .u8 c.toNat] W fun e w' => e = .returned (.int .u8 ((c.toNat ||| 32 : Nat) : Int)) ∧ w' = W) from fun W => lower_run c.toNat hc256 W)
        generalize c.toNat ||| 32 = m at HL HV c2 c3
        go_wp2_with (go_at_call 202; refine (HL.out _).mono ?_; rintro e w' ⟨rfl, rfl⟩)
        go_round
        case rel => exact ⟨k + 1, a * 16 + ((m : Int) - 97 + 10), rfl, rfl, by go_num, by omega, hid (by rw [HN.out, HV.out]; have := HA.out; omega)⟩
        case measure => simp [intOf]; omega
    · obtain rfl : k = t.size := by omega
      have hall : bs.take t.size = bs := List.take_of_length_le (by have := HX.out.2; omega)
      rw [hall] at HA
      clear hall hlt
      go_wp2_with fail
      go_ret2
      exact ⟨by rw [HA.out]; rfl, HE.out⟩

set_option maxRecDepth 100000 in
theorem parse16_run (t : ByteArray) (h1 : 1 ≤ t.size) (h4 : t.size ≤ 4) (hx : ∀ b ∈ t.data.toList, hexB b = true) (w : World) :
    Calls Tryz.prog 121 #[.string t, .int .i64 16, .int .i64 16] w fun e w' => e = .returned (.tuple #[.int .u64 (hexF t.data.toList : Nat), .nilIface]) ∧ Bel w w' := by
  have HF := (show Hid (∀ W, Calls Tryz.prog 171 #[.string t, .int .i64 16, .int .i64 16] W fun e w' => e = .returned (.tuple #[.int .u64 (hexF t.data.toList : Nat), .nilIface]) ∧ Bel W w') from fun W => parseI_run t h1 h4 hx W)
  clear hx
  go_enter Tryz.func121, Tryz.ntmps121
  go_wp2_with fail
  refine (HF.out _).mono ?_
  rintro e w1 ⟨rfl, hb1⟩
  go_wp2_with fail
  go_ret2
  exact ⟨rfl, hb1⟩
end Go.Proofs.YtpmmaickjolimaaGreatDoor.Ci
