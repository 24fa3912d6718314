/- The reference's numbers as texts. -/
import Derived.Test.YtpmmaickjolimaaDoorCs
namespace Go.Proofs.YtpmmaickjolimaaDoor.Ci
open Go.RowKit

def bT (l : List UInt8) : ByteArray := ⟨l.toArray⟩
theorem bT_app (a b : List UInt8) : bT a ++ bT b = bT (a ++ b) := ext_bytes (by rw [app_data]; rfl)
theorem conv1 (b : UInt8) (W : World) : (convert 42 9 (.slice (some ⟨W.heap.size, 0, none⟩) 1 1)).run Tryd.prog (W.alloc (.cells #[.int .u8 (b.toNat : Int)] 5)) = .ok (.string (bT [b])) (W.alloc (.cells #[.int .u8 (b.toNat : Int)] 5)) := by
  refine run_convert_bytes_back (W.alloc (.cells #[.int .u8 (b.toNat : Int)] 5)) 42 9 5 ⟨W.heap.size, 0, none⟩ 1 [b] Tryd.underlying42 Tryd.underlying5 Tryd.underlying9 fun j hj => ?_
  obtain rfl : j = 0 := by simpa using hj
  rw [addr_add]
  simp only [World.cell?, heap_alloc_new W _]
  rfl
def decD (n : Nat) : UInt8 := UInt8.ofNat (48 + n)
theorem decD_val (n : Nat) (h : n < 10) : ((decD n).toNat : Int) = 48 + (n : Int) := by
  unfold decD
  rw [UInt8.toNat_ofNat']
  omega
theorem decD_mod (n : Nat) : ((decD (n % 10)).toNat : Int) = 48 + (n : Int) % 10 := by
  rw [decD_val _ (Nat.mod_lt _ (by decide))]; omega
def digitsL (n : Nat) : List UInt8 := Lib.decDigits n
theorem digitsL_small {n : Nat} (h : n < 10) : digitsL n = [decD n] := by unfold digitsL; rw [Lib.decDigits, dif_pos h]; rfl
theorem digitsL_big {n : Nat} (h : ¬ n < 10) : digitsL n = digitsL (n / 10) ++ [decD (n % 10)] := by unfold digitsL; rw [Lib.decDigits, dif_neg h]; rfl
set_option maxHeartbeats 2000000 in
set_option maxRecDepth 100000 in
theorem digits_run (n : Nat) (hn : n < 1000) (w : World) : Calls Tryd.prog 20 #[.int .i64 (n : Int)] w fun e w' => e = .returned (.string (bT (digitsL n))) ∧ Bel w w' := by
  go_enter Tryd.func20, Tryd.ntmps20
  go_wp2_with fail
  go_loopg [0, 3] n (fun gg v0 v3 wr => ∃ (x : Nat) (ds : List UInt8), v0 = .int .i64 x ∧ v3 = .string (bT ds) ∧ x = gg ∧ ds.length ≤ 8 ∧ Hid (digitsL n = digitsL x ++ ds ∧ x * 10 ^ ds.length ≤ n ∧ Bel w wr))
  case atStart => exact ⟨n, [], rfl, rfl, rfl, by decide, hid ⟨by simp, by simp, Bel.refl w⟩⟩
  case round =>
    obtain ⟨x, ds, rfl, rfl, hg, hds, H⟩ := hrel
    have HG := hid hg
    clear hg
    have hx : x < 1000 := by
      have := H.out.2.1
      have h2 : x * 1 ≤ x * 10 ^ ds.length := Nat.mul_le_mul_left _ (Nat.pow_pos (by decide))
      omega
    have hd4 : 10 ≤ x → ds.length ≤ 3 := fun h => by
      have := H.out.2.1
      rcases Nat.lt_or_ge 3 ds.length with f | f
      · have h2 : 10 ^ 4 ≤ 10 ^ ds.length := Nat.pow_le_pow_right (by decide) f
        have h3 : x * 10 ^ 4 ≤ x * 10 ^ ds.length := Nat.mul_le_mul_left _ h2
        omega
      · exact f
    have sz : (bT ds).size ≤ 8 := by rw [Lib.size_eq]; exact hds
    by_cases h16 : 10 ≤ x
    · have hd := decD_mod x
      have hcv := conv1 (decD (x % 10))
      rw [hd] at hcv
      have ad : ∀ W : World, (Op.stringOp .add (bT [decD (x % 10)]) (bT ds)).run Tryd.prog W = .ok (.string (bT [decD (x % 10)] ++ bT ds)) W := fun W => run_string_add_sum W _ _ (by show 1 + _ ≤ _; omega)
      have he : bT [decD (x % 10)] ++ bT ds = bT (decD (x % 10) :: ds) := bT_app _ _
      have HE := hid he
      have HD := hid (hd4 h16)
      clear he sz hd4
      go_wp2_with fail
      go_roundg (x / 10)
      case measure => have := HG.out; omega
      case rel =>
        refine ⟨x / 10, decD (x % 10) :: ds, by go_num, by rw [HE.out], rfl, by have := HD.out; rw [List.length_cons]; omega, hid ⟨?_, ?_, H.out.2.2.alloc _⟩⟩
        · rw [H.out.1, digitsL_big (by omega)]; simp
        · have := H.out.2.1
          rw [List.length_cons, Nat.pow_succ, Nat.mul_comm (10 ^ ds.length), ← Nat.mul_assoc]
          exact Nat.le_trans (Nat.mul_le_mul_right _ (Nat.div_mul_le_self x 10)) this
    · have hd := decD_val x (by omega)
      have hcv := conv1 (decD x)
      rw [hd] at hcv
      have ad : ∀ W : World, (Op.stringOp .add (bT [decD x]) (bT ds)).run Tryd.prog W = .ok (.string (bT [decD x] ++ bT ds)) W := fun W => run_string_add_sum W _ _ (by show 1 + _ ≤ _; omega)
      have HE := hid (show bT [decD x] ++ bT ds = bT (digitsL n) by rw [H.out.1, digitsL_small (by omega)]; exact bT_app _ _)
      clear sz hd4
      go_wp2_with fail
      go_ret
      exact ⟨by rw [← HE.out]; rfl, H.out.2.2.alloc _⟩
theorem hexI2 (k : Nat) (h : k < 16) (p : k < (⟨#[48, 49, 50, 51, 52, 53, 54, 55, 56, 57, 97, 98, 99, 100, 101, 102]⟩ : ByteArray).size) : (⟨#[48, 49, 50, 51, 52, 53, 54, 55, 56, 57, 97, 98, 99, 100, 101, 102]⟩ : ByteArray)[k]'p = hexD k := by
  have key : ∀ k : Fin 16, (#[48, 49, 50, 51, 52, 53, 54, 55, 56, 57, 97, 98, 99, 100, 101, 102] : Array UInt8)[k.val]? = some (hexD k.val) := by decide
  exact (Array.getElem?_eq_some_iff.1 (key ⟨k, h⟩)).2
set_option maxHeartbeats 2000000 in
set_option maxRecDepth 100000 in
theorem rhex_run (n : Nat) (hn : n < 65536) (w : World) : Calls Tryd.prog 33 #[.int .i64 (n : Int)] w fun e w' => e = .returned (.string (bT (hexL n))) ∧ Bel w w' := by
  go_enter Tryd.func33, Tryd.ntmps33
  go_wp2_with fail
  go_loopg [0, 3] n (fun gg v0 v3 wr => ∃ (x : Nat) (ds : List UInt8), v0 = .int .i64 x ∧ v3 = .string (bT ds) ∧ x = gg ∧ ds.length ≤ 8 ∧ Hid (hexL n = hexL x ++ ds ∧ x * 16 ^ ds.length ≤ n ∧ Bel w wr))
  case atStart => exact ⟨n, [], rfl, rfl, rfl, by decide, hid ⟨by simp, by simp, Bel.refl w⟩⟩
  case round =>
    obtain ⟨x, ds, rfl, rfl, hg, hds, H⟩ := hrel
    have HG := hid hg
    clear hg
    have hx : x < 65536 := by
      have := H.out.2.1
      have h2 : x * 1 ≤ x * 16 ^ ds.length := Nat.mul_le_mul_left _ (Nat.pow_pos (by decide))
      omega
    have hd4 : 16 ≤ x → ds.length ≤ 3 := fun h => by
      have := H.out.2.1
      rcases Nat.lt_or_ge 3 ds.length with f | f
      · have h2 : 16 ^ 4 ≤ 16 ^ ds.length := Nat.pow_le_pow_right (by decide) f
        have h3 : x * 16 ^ 4 ≤ x * 16 ^ ds.length := Nat.mul_le_mul_left _ h2
        omega
      · exact f
    have sz : (bT ds).size ≤ 8 := by rw [Lib.size_eq]; exact hds
    by_cases h16 : 16 ≤ x
    · have hm0 : (0 : Int) ≤ (x : Int) % 16 := by omega
      have hm1 : (x : Int) % 16 < 16 := by omega
      have hcv : ∀ (W : World) p, (convert 42 9 (.slice (some ⟨W.heap.size, 0, none⟩) 1 1)).run Tryd.prog (W.alloc (.cells #[.int .u8 (((⟨#[48, 49, 50, 51, 52, 53, 54, 55, 56, 57, 97, 98, 99, 100, 101, 102]⟩ : ByteArray)[x % 16]'p).toNat : Int)] 5)) = .ok (.string (bT [hexD (x % 16)])) (W.alloc (.cells #[.int .u8 (((⟨#[48, 49, 50, 51, 52, 53, 54, 55, 56, 57, 97, 98, 99, 100, 101, 102]⟩ : ByteArray)[x % 16]'p).toNat : Int)] 5)) := fun W p => by rw [hexI2 _ (Nat.mod_lt _ (by decide))]; exact conv1 _ W
      have ad : ∀ W : World, (Op.stringOp .add (bT [hexD (x % 16)]) (bT ds)).run Tryd.prog W = .ok (.string (bT [hexD (x % 16)] ++ bT ds)) W := fun W => run_string_add_sum W _ _ (by show 1 + _ ≤ _; omega)
      have he : bT [hexD (x % 16)] ++ bT ds = bT (hexD (x % 16) :: ds) := bT_app _ _
      have HE := hid he
      have HD := hid (hd4 h16)
      clear he sz hd4
      go_wp2_with fail
      go_roundg (x / 16)
      case measure => have := HG.out; omega
      case rel =>
        refine ⟨x / 16, hexD (x % 16) :: ds, by go_num, by rw [HE.out], rfl, by have := HD.out; rw [List.length_cons]; omega, hid ⟨?_, ?_, H.out.2.2.alloc _⟩⟩
        · rw [H.out.1, hexL_big (by omega)]; simp
        · have := H.out.2.1
          rw [List.length_cons, Nat.pow_succ, Nat.mul_comm (16 ^ ds.length), ← Nat.mul_assoc]
          exact Nat.le_trans (Nat.mul_le_mul_right _ (Nat.div_mul_le_self x 16)) this
    · have hm1 : (x : Int) < 16 := by omega
      have hcv : ∀ (W : World) p, (convert 42 9 (.slice (some ⟨W.heap.size, 0, none⟩) 1 1)).run Tryd.prog (W.alloc (.cells #[.int .u8 (((⟨#[48, 49, 50, 51, 52, 53, 54, 55, 56, 57, 97, 98, 99, 100, 101, 102]⟩ : ByteArray)[x]'p).toNat : Int)] 5)) = .ok (.string (bT [hexD x])) (W.alloc (.cells #[.int .u8 (((⟨#[48, 49, 50, 51, 52, 53, 54, 55, 56, 57, 97, 98, 99, 100, 101, 102]⟩ : ByteArray)[x]'p).toNat : Int)] 5)) := fun W p => by rw [hexI2 _ (by omega)]; exact conv1 _ W
      have ad : ∀ W : World, (Op.stringOp .add (bT [hexD x]) (bT ds)).run Tryd.prog W = .ok (.string (bT [hexD x] ++ bT ds)) W := fun W => run_string_add_sum W _ _ (by show 1 + _ ≤ _; omega)
      have HE := hid (show bT [hexD x] ++ bT ds = bT (hexL n) by rw [H.out.1, hexL_small (by omega)]; exact bT_app _ _)
      clear sz hd4
      go_wp2_with fail
      go_ret
      exact ⟨by rw [← HE.out]; rfl, H.out.2.2.alloc _⟩
end Go.Proofs.YtpmmaickjolimaaDoor.Ci
