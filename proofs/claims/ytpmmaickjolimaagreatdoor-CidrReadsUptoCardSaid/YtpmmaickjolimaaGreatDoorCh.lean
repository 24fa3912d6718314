/- A number's text to the base of 16. -/
import Derived.Test.YtpmmaickjolimaaGreatDoorCc
import Derived.Test.YtpmmaickjolimaaGreatDoorCq
import Derived.Laws.IdiomStrings
namespace Go.Proofs.YtpmmaickjolimaaGreatDoor.Ci
open Go.RowKit

theorem addr_add (b o j : Nat) : Addr.add ⟨b, o, none⟩ j = ⟨b, o + j, none⟩ := by
  unfold Addr.add
  split
  · rename_i h; rw [h]; rfl
  · rfl
theorem pow2_run (w : World) : Calls Tryz.prog 219 #[.int .i64 16] w fun e w' => e = .returned (.bool true) ∧ w' = w := by
  go_enter Tryz.func219, Tryz.ntmps219
  go_wp2_with fail
  go_ret
  exact ⟨rfl, rfl⟩
theorem tz_run (w : World) (hb : w.cell? ⟨7, 15, none⟩ = some (.int .u8 4)) : Calls Tryz.prog 220 #[.int .u64 16] w fun e w' => e = .returned (.int .i64 4) ∧ w' = w := by
  go_enter Tryz.func220, Tryz.ntmps220
  have h1 : bits .and .u64 16 (IntKind.u64.wrap (-16)) = 16 := by kernel_rfl
  have h2 : IntKind.u64.wrap (16 * 285870213051353865) / 288230376151711744 = 15 := by kernel_rfl
  go_wp2
  go_ret
  exact ⟨rfl, rfl⟩

/-- The digits' block. -/
def digC (ds : List UInt8) : List Value := List.replicate (65 - ds.length) (.int .u8 0) ++ ds.map fun b => .int .u8 (b.toNat : Int)
theorem digC_len (ds : List UInt8) (h : ds.length ≤ 65) : (digC ds).length = 65 := by simp [digC]; omega
theorem digC_set (ds : List UInt8) (b : UInt8) (h : ds.length < 65) : (digC ds).set (64 - ds.length) (.int .u8 (b.toNat : Int)) = digC (b :: ds) := by
  unfold digC
  rw [List.set_append_left _ _ (by simp; omega), List.length_cons, (by omega : 65 - ds.length = (64 - ds.length) + 1), List.replicate_succ', List.set_append_right _ _ (by simp), (by omega : 65 - (ds.length + 1) = 64 - ds.length)]
  simp
theorem digC_at (ds : List UInt8) (j : Nat) (hj : j < ds.length) : (digC ds)[65 - ds.length + j]? = some (.int .u8 (ds[j].toNat : Int)) := by
  unfold digC
  rw [List.getElem?_append_right (by simp)]
  simp [hj]
structure HexW (w wr : World) (ds : List UInt8) : Prop where
  bel : Bel w wr
  hb : wr.heap[w.heap.size]? = some (.cells (digC ds).toArray 243 (0, 0))
theorem HexW.set {w wr : World} {ds : List UInt8} (h : HexW w wr ds) (b : UInt8) (hd : ds.length < 65) : HexW w (wr.setCell ⟨w.heap.size, 64 - ds.length, none⟩ (.int .u8 (b.toNat : Int))) (b :: ds) := by
  refine ⟨h.bel.setCell (Nat.le_refl _) _, ?_⟩
  rw [heap_setCell_same wr _ _ _ _ _ h.hb, List.setIfInBounds_toArray, digC_set ds b hd]
theorem HexW.next {w wr : World} {ds : List UInt8} (h : HexW w wr ds) (hd : ds.length < 65) : wr.cell? ⟨w.heap.size, 65 - ds.length - 1, none⟩ = some (.int .u8 0) := by
  have : (digC ds)[65 - ds.length - 1]? = some (.int .u8 0) := by
    unfold digC
    rw [List.getElem?_append_left (by simp; omega)]
    exact List.getElem?_replicate_of_lt (by omega)
  simp [World.cell?, h.hb, this]
theorem and15 (x : Nat) (h : x < 65536) : bits .and .u64 (x : Int) 15 = ((x % 16 : Nat) : Int) := by
  have := u64_and_nat x 15 (by omega) (by decide)
  rw [show ((15 : Nat) : Int) = 15 from rfl] at this
  rw [this, show x &&& 15 = x % 16 from Nat.and_two_pow_sub_one_eq_mod x 4]
theorem hexI (k : Nat) (h : k < 16) (p : k < (⟨#[48, 49, 50, 51, 52, 53, 54, 55, 56, 57, 97, 98, 99, 100, 101, 102, 103, 104, 105, 106, 107, 108, 109, 110, 111, 112, 113, 114, 115, 116, 117, 118, 119, 120, 121, 122]⟩ : ByteArray).size) : (⟨#[48, 49, 50, 51, 52, 53, 54, 55, 56, 57, 97, 98, 99, 100, 101, 102, 103, 104, 105, 106, 107, 108, 109, 110, 111, 112, 113, 114, 115, 116, 117, 118, 119, 120, 121, 122]⟩ : ByteArray)[k]'p = hexD k := by
  have key : ∀ k : Fin 16, (#[48, 49, 50, 51, 52, 53, 54, 55, 56, 57, 97, 98, 99, 100, 101, 102, 103, 104, 105, 106, 107, 108, 109, 110, 111, 112, 113, 114, 115, 116, 117, 118, 119, 120, 121, 122] : Array UInt8)[k.val]? = some (hexD k.val) := by decide
  exact (Array.getElem?_eq_some_iff.1 (key ⟨k, h⟩)).2

set_option maxHeartbeats 1000000 in
set_option maxRecDepth 100000 in
theorem formatBits_run (n : Nat) (hn : n < 65536) (w : World) (hb : w.cell? ⟨7, 15, none⟩ = some (.int .u8 4)) (h8 : 8 ≤ w.heap.size) :
    Calls Tryz.prog 199 #[.slice none 0 0, .int .u64 n, .int .i64 16, .bool false, .bool false] w fun e w' => e = .returned (.tuple #[.slice none 0 0, .string ⟨(hexL n).toArray⟩]) ∧ Bel w w' := by
  have HB := hid hb
  clear hb
  go_enter Tryz.func199, Tryz.ntmps199
  go_wp2_with fail
  refine (pow2_run _).mono ?_
  rintro e w1 ⟨rfl, rfl⟩
  go_wp2_with fail
  refine (tz_run _ ?_).mono ?_
  · exact (Below.cell (p := ⟨7, 15, none⟩) ((Bel.refl w).alloc _) (by show 7 < w.heap.size; omega)).trans HB.out
  rintro e w1 ⟨rfl, rfl⟩
  have h15 : IntKind.u64.wrap (16 - 1) = 15 := by kernel_rfl
  go_wp2_with fail
  go_loopg [1, 13] n (fun gg v1 v13 wr => ∃ (x : Nat) (ds : List UInt8), v1 = .int .u64 x ∧ v13 = .int .i64 (65 - (ds.length : Int)) ∧ x = gg ∧ ds.length ≤ 3 ∧ Hid (HexW w wr ds ∧ hexL n = hexL x ++ ds ∧ x < 16 ^ (4 - ds.length)))
  case atStart =>
    refine ⟨n, [], rfl, rfl, rfl, by decide, hid ⟨⟨(Bel.refl w).alloc _, ?_⟩, by simp, hn⟩⟩
    exact heap_alloc_new w _
  case round =>
    obtain ⟨x, ds, rfl, rfl, hg, hds, H⟩ := hrel
    have hx : x < 65536 := by
      have := H.out.2.2
      have h2 : 16 ^ (4 - ds.length) ≤ 16 ^ 4 := Nat.pow_le_pow_right (by decide) (by omega)
      omega
    have HG := hid hg
    clear hg
    have f0 : wr.frozen? ⟨w.heap.size, 65 - ds.length - 1, none⟩ = false := by simp [World.frozen?, H.out.1.hb]
    have c0 : wr.cell? ⟨w.heap.size, 65 - ds.length - 1, none⟩ = some (.int .u8 0) := H.out.1.next (by omega)
    by_cases h16 : 16 ≤ x
    · have hm : x % 16 < 16 := Nat.mod_lt _ (by decide)
      have ha := and15 x hx
      have hm0 : (0 : Int) ≤ (x : Int) % 16 := by omega
      have hm1 : (x : Int) % 16 < 36 := by omega
      go_wp2_with fail
      go_roundg (x / 16)
      case measure => have := HG.out; omega
      case rel =>
        refine ⟨x / 16, hexD (x % 16) :: ds, by go_num, by rw [List.length_cons]; go_num, rfl, ?_, ?_⟩
        · rcases (by omega : ds.length ≤ 2 ∨ ds.length = 3) with f | f
          · simpa using f
          · have := H.out.2.2
            rw [f] at this
            omega
        · rw [hexI _ hm]
          have hs := H.out.1.set (hexD (x % 16)) (by omega)
          rw [(by omega : 64 - ds.length = 65 - ds.length - 1)] at hs
          refine hid ⟨hs, by rw [H.out.2.1, hexL_big (by omega)]; simp, ?_⟩
          have := H.out.2.2
          rcases (by omega : ds.length = 0 ∨ ds.length = 1 ∨ ds.length = 2 ∨ ds.length = 3) with f | f | f | f <;> rw [f] at this <;> rw [List.length_cons, f] <;> omega
    · have hm : x < 16 := by omega
      have hs := H.out.1.set (hexD x) (by omega)
      have hn2 : hexL n = hexD x :: ds := by rw [H.out.2.1, hexL_small hm]; rfl
      rw [(by omega : 64 - ds.length = 65 - ds.length - 1)] at hs
      have hcv : ∀ p, (convert 88 9 (.slice (some ⟨w.heap.size, 65 - ds.length - 1, none⟩) (hexL n).length (hexL n).length)).run Tryz.prog (wr.setCell ⟨w.heap.size, 65 - ds.length - 1, none⟩ (.int .u8 (((⟨#[48, 49, 50, 51, 52, 53, 54, 55, 56, 57, 97, 98, 99, 100, 101, 102, 103, 104, 105, 106, 107, 108, 109, 110, 111, 112, 113, 114, 115, 116, 117, 118, 119, 120, 121, 122]⟩ : ByteArray)[x]'p).toNat : Int))) = .ok (.string ⟨(hexL n).toArray⟩) (wr.setCell ⟨w.heap.size, 65 - ds.length - 1, none⟩ (.int .u8 (((⟨#[48, 49, 50, 51, 52, 53, 54, 55, 56, 57, 97, 98, 99, 100, 101, 102, 103, 104, 105, 106, 107, 108, 109, 110, 111, 112, 113, 114, 115, 116, 117, 118, 119, 120, 121, 122]⟩ : ByteArray)[x]'p).toNat : Int))) := by
        intro p
        rw [hexI _ hm]
        rw [hn2]
        refine run_convert_bytes_back _ 88 9 5 _ _ _ Tryz.underlying88 Tryz.underlying5 Tryz.underlying9 fun j hj => ?_
        have hat := digC_at (hexD x :: ds) j hj
        rw [show 65 - (hexD x :: ds).length = 65 - ds.length - 1 by rw [List.length_cons]; omega] at hat
        rw [addr_add]
        simp only [World.cell?, hs.hb]
        simpa using hat
      have hsl : ∀ W : World, (Instr.sliceAt 243 (.pointer (some ⟨w.heap.size, 0, none⟩)) (some (.int .i64 (65 - (ds.length : Int) - 1))) none none).run Tryz.prog W = .ok (.slice (some ⟨w.heap.size, 65 - ds.length - 1, none⟩) (hexL n).length (hexL n).length) W := by
        intro W
        rw [run_sliceAt_array_l W 243 _ (by kernel_rfl) .i64 _ (by omega) (by rw [show Tryz.prog.arrayLen 243 = 65 by kernel_rfl]; omega), show Tryz.prog.arrayLen 243 = 65 by kernel_rfl]
        rw [show Tryz.prog.elem 243 = 5 by kernel_rfl, Tryz.sizeOf5]
        simp only [Result.andThen_ok, slicedAt]
        rw [hn2, List.length_cons, if_neg (by omega), addr_add, (by omega : (65 - (ds.length : Int) - 1).toNat = 65 - ds.length - 1), (by omega : 65 - (65 - ds.length - 1) = ds.length + 1)]
        simp
      have HE := hid hs.bel
      clear hs hn2 HB
      go_wp2_with fail
      go_ret2
      refine ⟨rfl, ?_⟩
      rw [hexI _ hm]
      exact HE.out

set_option maxRecDepth 100000 in
theorem formatI_run (n : Nat) (hn : n < 65536) (w : World) (hb : w.cell? ⟨7, 15, none⟩ = some (.int .u8 4)) (h8 : 8 ≤ w.heap.size) :
    Calls Tryz.prog 166 #[.int .u64 n, .int .i64 16] w fun e w' => e = .returned (.string ⟨(hexL n).toArray⟩) ∧ Bel w w' := by
  have HF := (show Hid (Calls Tryz.prog 199 #[.slice none 0 0, .int .u64 n, .int .i64 16, .bool false, .bool false] w fun e w' => e = .returned (.tuple #[.slice none 0 0, .string ⟨(hexL n).toArray⟩]) ∧ Bel w w') from formatBits_run n hn w hb h8)
  clear hb
  go_enter Tryz.func166, Tryz.ntmps166
  go_wp2_with fail
  refine HF.out.mono ?_
  rintro e w1 ⟨rfl, hb1⟩
  go_wp2_with fail
  go_ret
  exact ⟨rfl, hb1⟩
set_option maxRecDepth 100000 in
theorem formatUint_run (n : Nat) (hn : n < 65536) (w : World) (hb : w.cell? ⟨7, 15, none⟩ = some (.int .u8 4)) (h8 : 8 ≤ w.heap.size) :
    Calls Tryz.prog 118 #[.int .u64 n, .int .i64 16] w fun e w' => e = .returned (.string ⟨(hexL n).toArray⟩) ∧ Bel w w' := by
  have HF := (show Hid (Calls Tryz.prog 166 #[.int .u64 n, .int .i64 16] w fun e w' => e = .returned (.string ⟨(hexL n).toArray⟩) ∧ Bel w w') from formatI_run n hn w hb h8)
  clear hb
  go_enter Tryz.func118, Tryz.ntmps118
  go_wp2_with fail
  refine HF.out.mono ?_
  rintro e w1 ⟨rfl, hb1⟩
  go_wp2_with fail
  go_ret
  exact ⟨rfl, hb1⟩
end Go.Proofs.YtpmmaickjolimaaGreatDoor.Ci
