/- Walks of path: while, only, turned, lower. -/
import Derived.Test.YtpmmaickjolimaaGreatDoorK12
import Derived.Test.YtpmmaickjolimaaGreatDoorK18
import Derived.Lib.ConvBytes
import Derived.Test.YtpmmaickjolimaaGreatDoorK07
import Derived.Test.YtpmmaickjolimaaGreatDoorK06
namespace Go.Proofs.YtpmmaickjolimaaGreatDoor.Ma
open Go.RowKit
open Ci (Bel Lay)

theorem ib_run (s : ByteArray) (c : UInt8) (W : World) : Calls Tryz.prog 84 #[.string s, .int .u8 (c.toNat : Int)] W fun e w' => e = .returned (.int .i64 (Lib.indexByte s.data.toList c)) ∧ w' = W := by
  have := Tryz.strings_IndexByte s c.toNat W; rw [u8_back] at this; exact this
/-- How many bytes ahead are of a set. -/
def whN (B : List UInt8) (l : List UInt8) : Nat := (l.takeWhile (B.contains ·)).length
theorem whN_le (B l : List UInt8) : whN B l ≤ l.length := by
  unfold whN
  exact (List.takeWhile_prefix _).length_le
theorem whN_step {B l : List UInt8} {k : Nat} (hk : k < l.length) (h : whN B l = k + whN B (l.drop k)) (hc : B.contains l[k] = true) : whN B l = (k + 1) + whN B (l.drop (k + 1)) := by
  rw [h, drop_at hk]
  unfold whN
  rw [List.takeWhile_cons, if_pos hc, List.length_cons]
  omega
theorem whN_stop {B l : List UInt8} {k : Nat} (hk : k < l.length) (h : whN B l = k + whN B (l.drop k)) (hc : B.contains l[k] = false) : whN B l = k := by
  rw [h, drop_at hk]
  unfold whN
  rw [List.takeWhile_cons, hc]
  simp
theorem whN_end {B l : List UInt8} {k : Nat} (hk : l.length ≤ k) (h : whN B l = k + whN B (l.drop k)) : whN B l = k := by
  rw [h, List.drop_eq_nil_of_le hk]
  rfl
theorem whN_all (B : List UInt8) : ∀ l : List UInt8, (whN B l = l.length) ↔ l.all (B.contains ·) = true
  | [] => by simp [whN]
  | b :: l => by
    have ih := whN_all B l
    unfold whN at ih ⊢
    rw [List.takeWhile_cons, List.all_cons]
    cases hb : B.contains b with
    | true => simpa using ih
    | false => simp
set_option maxHeartbeats 1000000 in
set_option maxRecDepth 100000 in
theorem while_run (s bs : ByteArray) (w : World) (hs : s.size < 9223372036854775807) :
    Calls Tryz.prog 183 #[.string s, .string bs] w fun e w' => e = .returned (.int .i64 (whN bs.data.toList s.data.toList : Nat)) ∧ w' = w := by
  have hl : s.data.toList.length = s.size := by rw [Lib.size_eq]
  have HL := hid hl
  have HI := (show Hid (∀ (c : UInt8) (W : World), Calls Tryz.prog 84 #[.string bs, .int .u8 (c.toNat : Int)] W fun e w' => e = .returned (.int .i64 (Lib.indexByte bs.data.toList c)) ∧ w' = W) from fun c W => ib_run bs c W)
  clear hl
  go_enter Tryz.func183, Tryz.ntmps183
  go_wp2_with fail
  go_loopg [5] (s.size + 1) (fun gg v5 wr => ∃ (k : Nat), v5 = .int .i64 k ∧ k + gg = s.size + 1 ∧ k ≤ s.size ∧ Hid (wr = w ∧ whN bs.data.toList s.data.toList = k + whN bs.data.toList (s.data.toList.drop k)))
  case atStart => exact ⟨0, rfl, by omega, by omega, hid ⟨rfl, by simp⟩⟩
  case round =>
    obtain ⟨k, rfl, hk, hk2, H⟩ := hrel
    by_cases hlt : k < s.size
    · have hlt' : k < s.data.toList.length := by rw [HL.out]; exact hlt
      have HC := hid (show s.data.toList[k]'hlt' = s[k] from rfl)
      cases hc : bs.data.toList.contains s[k] with
      | true =>
        have b1 : decide (0 ≤ Lib.indexByte bs.data.toList s[k]) = true := by rw [index_has]; exact hc
        have HN := hid (whN_step hlt' H.out.2 (by rw [HC.out]; exact hc))
        have HW := hid H.out.1
        clear hc
        go_wp2_with (first | (go_at_call 84; refine (HI.out _ _).mono ?_; rintro e w1 ⟨rfl, rfl⟩))
        go_roundg (gk - 1)
        case measure => omega
        case rel => exact ⟨k + 1, by go_num, by omega, by omega, hid ⟨HW.out, HN.out⟩⟩
      | false =>
        have b1 : decide (0 ≤ Lib.indexByte bs.data.toList s[k]) = false := by rw [index_has]; exact hc
        have HN := hid (whN_stop hlt' H.out.2 (by rw [HC.out]; exact hc))
        have HW := hid H.out.1
        clear hc
        go_wp2_with (first | (go_at_call 84; refine (HI.out _ _).mono ?_; rintro e w1 ⟨rfl, rfl⟩))
        go_ret
        exact ⟨by rw [HN.out]; rfl, HW.out⟩
    · have HN := hid (whN_end (by rw [HL.out]; omega) H.out.2)
      have HW := hid H.out.1
      go_wp2_with fail
      go_ret
      exact ⟨by rw [HN.out]; rfl, HW.out⟩
set_option maxHeartbeats 1000000 in
set_option maxRecDepth 100000 in
theorem only_run (s bs : ByteArray) (w : World) (hs : s.size < 9223372036854775807) :
    Calls Tryz.prog 141 #[.string s, .string bs] w fun e w' => e = .returned (.bool (s.data.toList.all (bs.data.toList.contains ·))) ∧ w' = w := by
  have HI := (show Hid (∀ (W : World), Calls Tryz.prog 183 #[.string s, .string bs] W fun e w' => e = .returned (.int .i64 (whN bs.data.toList s.data.toList : Nat)) ∧ w' = W) from fun W => while_run s bs W hs)
  have HX := hid (show (((whN bs.data.toList s.data.toList : Nat) : Int) == (s.size : Int)) = s.data.toList.all (bs.data.toList.contains ·) by
    have h1 := whN_all bs.data.toList s.data.toList
    have h2 := Lib.size_eq s
    rw [Bool.eq_iff_iff, ← h1, beq_iff_eq]
    omega)
  generalize whN bs.data.toList s.data.toList = n at HI HX
  go_enter Tryz.func141, Tryz.ntmps141
  go_wp2_with (first | (go_at_call 183; refine (HI.out _).mono ?_; rintro e w1 ⟨rfl, rfl⟩))
  go_ret
  exact ⟨by rw [← HX.out]; rfl, rfl⟩
/-! turned -/
def turnB (f t : List UInt8) (c : UInt8) : UInt8 := if 0 ≤ Lib.indexByte f c then t.getD (Lib.indexByte f c).toNat 0 else c
/-- The bytes in hand: the first k are turned. -/
def turnK (f t : List UInt8) (l : List UInt8) (k : Nat) : List UInt8 := (l.take k).map (turnB f t) ++ l.drop k
structure TuI (w wr : World) (l : List UInt8) (cap : Nat) : Prop where
  bel : Bel w wr
  hc : ∃ (rest : List Value), wr.heap[w.heap.size]? = some (.cells ((l.map fun b => Value.int .u8 (b.toNat : Int)) ++ rest).toArray 5 (l.length + rest.length, l.length + rest.length + 1))
theorem TuI.cell {w wr : World} {l : List UInt8} {cap : Nat} (h : TuI w wr l cap) {k : Nat} (hk : k < l.length) : wr.cell? ⟨w.heap.size, k, none⟩ = some (.int .u8 (l[k].toNat : Int)) := by
  obtain ⟨rest, hc⟩ := h.hc
  simp [World.cell?, hc]
  rw [List.getElem?_append_left (by rw [List.length_map]; exact hk)]
  simp [hk]
theorem TuI.free {w wr : World} {l : List UInt8} {cap : Nat} (h : TuI w wr l cap) {k : Nat} (hk : k < l.length) : wr.frozen? ⟨w.heap.size, k, none⟩ = false := by
  obtain ⟨rest, hc⟩ := h.hc
  simp [World.frozen?, hc]
  omega
theorem TuI.set {w wr : World} {l : List UInt8} {cap : Nat} (h : TuI w wr l cap) (k : Nat) (hk : k < l.length) (x : UInt8) : TuI w (wr.setCell ⟨w.heap.size, k, none⟩ (.int .u8 (x.toNat : Int))) (l.set k x) cap := by
  obtain ⟨rest, hc⟩ := h.hc
  refine ⟨h.bel.setCell (Nat.le_refl _) _, rest, ?_⟩
  have e : (wr.setCell ⟨w.heap.size, k, none⟩ (.int .u8 (x.toNat : Int))).heap[w.heap.size]? = some (.cells ((((l.map fun b => Value.int .u8 (b.toNat : Int)) ++ rest).toArray).setIfInBounds k (.int .u8 (x.toNat : Int))) 5 (l.length + rest.length, l.length + rest.length + 1)) := by
    simp [World.setCell, Array.getElem?_modify, hc]
  rw [e]
  simp [List.map_set, hk]
theorem turnK_zero (f t l : List UInt8) : turnK f t l 0 = l := by simp [turnK]
theorem turnK_len (f t l : List UInt8) (k : Nat) : (turnK f t l k).length = l.length := by simp [turnK]; omega
theorem turnK_at (f t l : List UInt8) (k : Nat) (hk : k < l.length) : (turnK f t l k)[k]'(by rw [turnK_len]; exact hk) = l[k] := by
  unfold turnK
  rw [List.getElem_append_right (by simp; omega)]
  simp [Nat.min_eq_left (Nat.le_of_lt hk)]
theorem turnK_next (f t l : List UInt8) (k : Nat) (hk : k < l.length) : turnK f t l (k + 1) = (turnK f t l k).set k (turnB f t l[k]) := by
  unfold turnK
  refine List.ext_getElem (by simp; omega) fun i h1 h2 => ?_
  rw [List.getElem_set]
  by_cases e : k = i
  · subst e
    rw [if_pos rfl, List.getElem_append_left (by simp; omega)]
    simp
  · rw [if_neg e]
    rw [List.getElem_append, List.getElem_append]
    simp only [List.length_map, List.length_take]
    split <;> split <;> first | omega | (simp; done) | (simp; congr 1; omega)
theorem turnK_all (f t l : List UInt8) : turnK f t l l.length = l.map (turnB f t) := by simp [turnK]
theorem index_lt (c : UInt8) : ∀ l : List UInt8, 0 ≤ Lib.indexByte l c → (Lib.indexByte l c).toNat < l.length
  | [], h => by simp [Lib.indexByte] at h
  | b :: l, h => by
    have ih := index_lt c l
    have hg := Lib.indexByte_ge l c
    have e : Lib.indexByte (b :: l) c = if b == c then 0 else if Lib.indexByte l c == -1 then -1 else Lib.indexByte l c + 1 := rfl
    rw [e] at h ⊢
    by_cases h1 : b = c
    · rw [if_pos (by simpa using h1)]; simp
    · rw [if_neg (by simpa using h1)] at h ⊢
      by_cases h2 : Lib.indexByte l c = -1
      · rw [if_pos (by simpa using h2)] at h; simp at h
      · rw [if_neg (by simpa using h2)] at h ⊢
        have := ih (by omega)
        rw [List.length_cons]; omega
set_option maxHeartbeats 2000000 in
set_option maxRecDepth 100000 in
theorem turned_run (s f t : ByteArray) (ht : f.size = t.size) (w : World) (hs : s.size < 9223372036854775807) :
    Calls Tryz.prog 140 #[.string s, .string f, .string t] w fun e w' => e = .returned (.string ⟨(s.data.toList.map (turnB f.data.toList t.data.toList)).toArray⟩) ∧ Bel w w' := by
  have hcv := Lib.run_convert_string_bytes (P := Tryz.prog) w 9 88 5 s (u := .string) Tryz.underlying9 Tryz.underlying88 Tryz.underlying5
  have hLn : s.data.toList.length = s.size := by rw [Lib.size_eq]
  have H0 := hid (show TuI w (Lib.bytesWorld w 5 s) (turnK f.data.toList t.data.toList s.data.toList 0) 0 from by
    refine ⟨Ci.bel_bytes w s, List.replicate (grownCap w s.size 0 5 - s.size) (.int .u8 0), ?_⟩
    rw [Lib.bytesWorld_at_new, turnK_zero]
    have e : Lib.bytesCells w 5 s = ((s.data.toList.map fun (b : UInt8) => Value.int .u8 (b.toNat : Int)) ++ List.replicate (grownCap w s.size 0 5 - s.size) (Value.int .u8 0)).toArray := by
      unfold Lib.bytesCells
      simp
    rw [e]
    simp)
  have HI := (show Hid (∀ (c : UInt8) (W : World), Calls Tryz.prog 84 #[.string f, .int .u8 (c.toNat : Int)] W fun e w' => e = .returned (.int .i64 (Lib.indexByte f.data.toList c)) ∧ w' = W) from fun c W => ib_run f c W)
  generalize grownCap w s.size 0 5 = cap at hcv H0
  obtain ⟨W1, hW1⟩ : ∃ W1, W1 = Lib.bytesWorld w 5 s := ⟨_, rfl⟩
  rw [← hW1] at hcv H0
  have HLn := hid hLn
  have HT := hid ht
  clear hW1 hLn ht
  go_enter Tryz.func140, Tryz.ntmps140
  go_wp2_with fail
  go_loopg [8, 9, 10, 15] s.size (fun gg v8 v9 v10 v15 wr => ∃ k : Nat, v15 = .int .i64 k ∧ k + gg = s.size ∧ Hid (TuI w wr (turnK f.data.toList t.data.toList s.data.toList k) 0))
  case atStart => exact ⟨0, rfl, by omega, H0⟩
  case round =>
    clear H0
    obtain ⟨k, rfl, hk, H⟩ := hrel
    have hkn : k ≤ s.size := by omega
    by_cases hlt : k < s.size
    · have hlt' : k < s.data.toList.length := by rw [HLn.out]; exact hlt
      have hkl : k < (turnK f.data.toList t.data.toList s.data.toList k).length := by rw [turnK_len]; exact hlt'
      have c0 := H.out.cell hkl
      rw [turnK_at _ _ _ _ hlt'] at c0
      have f0 := H.out.free hkl
      have HN := hid (turnK_next f.data.toList t.data.toList s.data.toList k hlt')
      have HS := (show Hid (∀ x, TuI w (wr.setCell ⟨w.heap.size, k, none⟩ (.int .u8 ((x : UInt8).toNat : Int))) ((turnK f.data.toList t.data.toList s.data.toList k).set k x) 0) from fun x => H.out.set k hkl x)
      have HA := hid (show (turnK f.data.toList t.data.toList s.data.toList k).set k s.data.toList[k] = turnK f.data.toList t.data.toList s.data.toList k from by
        have e := turnK_at f.data.toList t.data.toList s.data.toList k hlt'
        rw [← e]
        exact List.set_getElem_self hkl)
      clear hkl
      generalize s.data.toList[k] = x at c0 HN HA
      have HJ := hid (show ∀ (_ : 0 ≤ Lib.indexByte f.data.toList x), (Lib.indexByte f.data.toList x).toNat < t.size from fun h => by
        have := index_lt x f.data.toList h
        have h2 := Lib.size_eq f
        have := HT.out
        omega)
      have HB := hid (show turnB f.data.toList t.data.toList x = if 0 ≤ Lib.indexByte f.data.toList x then t.data.toList.getD (Lib.indexByte f.data.toList x).toNat 0 else x from rfl)
      by_cases hx : 0 ≤ Lib.indexByte f.data.toList x
      · have hj := HJ.out hx
        obtain ⟨i, hi⟩ : ∃ i : Nat, Lib.indexByte f.data.toList x = (i : Int) := ⟨_, (Int.toNat_of_nonneg hx).symm⟩
        have HIx := (show Hid (∀ (W : World), Calls Tryz.prog 84 #[.string f, .int .u8 (x.toNat : Int)] W fun e w' => e = .returned (.int .i64 (i : Int)) ∧ w' = W) from fun W => by rw [← hi]; exact HI.out x W)
        have hi' : i < t.size := by rw [hi] at hj; exact hj
        have HE := hid (show turnB f.data.toList t.data.toList x = t[i] from by
          rw [HB.out, if_pos hx, hi]
          have h2 := Lib.size_eq t
          rw [Int.toNat_natCast, List.getD_eq_getElem?_getD, List.getElem?_eq_getElem (by omega)]
          rfl)
        clear hx hj hi HJ HB
        go_wp2_with (first | (go_at_call 84; refine (HIx.out _).mono ?_; rintro e w1 ⟨rfl, rfl⟩))
        go_roundg (gk - 1)
        case measure => omega
        case rel => exact ⟨k + 1, by go_num, by omega, hid (by rw [HN.out, HE.out]; exact HS.out _)⟩
      · have b1 : decide (0 ≤ Lib.indexByte f.data.toList x) = false := decide_eq_false hx
        have HIx := (show Hid (∀ (W : World), Calls Tryz.prog 84 #[.string f, .int .u8 (x.toNat : Int)] W fun e w' => e = .returned (.int .i64 (Lib.indexByte f.data.toList x)) ∧ w' = W) from fun W => HI.out x W)
        have HE := hid (show (turnK f.data.toList t.data.toList s.data.toList k).set k (turnB f.data.toList t.data.toList x) = turnK f.data.toList t.data.toList s.data.toList k from by rw [HB.out, if_neg hx]; exact HA.out)
        clear hx HJ HB
        go_wp2_with (first | (go_at_call 84; refine (HIx.out _).mono ?_; rintro e w1 ⟨rfl, rfl⟩))
        go_roundg (gk - 1)
        case measure => omega
        case rel => exact ⟨k + 1, by go_num, by omega, hid (by rw [HN.out, HE.out]; exact H.out)⟩
    · obtain rfl : k = s.size := by omega
      have HF := hid (show turnK f.data.toList t.data.toList s.data.toList s.size = s.data.toList.map (turnB f.data.toList t.data.toList) by rw [← HLn.out]; exact turnK_all _ _ _)
      have hcb : (convert 88 9 (.slice (some ⟨w.heap.size, 0, none⟩) s.size cap)).run Tryz.prog wr = .ok (.string ⟨(s.data.toList.map (turnB f.data.toList t.data.toList)).toArray⟩) wr := by
        have hl : (s.data.toList.map (turnB f.data.toList t.data.toList)).length = s.size := by rw [List.length_map, HLn.out]
        rw [← hl]
        refine run_convert_bytes_back wr 88 9 5 ⟨w.heap.size, 0, none⟩ cap _ Tryz.underlying88 Tryz.underlying5 Tryz.underlying9 fun j hj => ?_
        have H2 := H.out
        rw [HF.out] at H2
        rw [Ci.addr_add, Nat.zero_add]
        exact H2.cell hj
      go_wp2_with fail
      go_ret
      exact ⟨rfl, H.out.bel⟩
end Go.Proofs.YtpmmaickjolimaaGreatDoor.Ma

/- Walks of path: lower, named, dotted, form. -/
namespace Go.Proofs.YtpmmaickjolimaaGreatDoor.Ma
open Go.RowKit
open Ci (Bel Lay pieces pieces_data splitL dot)

def upsL : List UInt8 := [65, 66, 67, 68, 69, 70, 71, 72, 73, 74, 75, 76, 77, 78, 79, 80, 81, 82, 83, 84, 85, 86, 87, 88, 89, 90]
def losL : List UInt8 := [97, 98, 99, 100, 101, 102, 103, 104, 105, 106, 107, 108, 109, 110, 111, 112, 113, 114, 115, 116, 117, 118, 119, 120, 121, 122]
set_option maxRecDepth 100000 in
theorem turn_low : ∀ b : UInt8, turnB upsL losL b = lowB b := u8_forall (by decide)
theorem low_map (l : List UInt8) : l.map (turnB upsL losL) = lowL l := by
  unfold lowL
  exact List.map_congr_left fun b _ => turn_low b
set_option maxRecDepth 100000 in
theorem lower_run (s : ByteArray) (w : World) (hs : s.size < 9223372036854775807) : Calls Tryz.prog 94 #[.string s] w fun e w' => e = .returned (.string ⟨(lowL s.data.toList).toArray⟩) ∧ Bel w w' := by
  have HI := (show Hid (∀ W, Calls Tryz.prog 140 #[.string s, .string ⟨upsL.toArray⟩, .string ⟨losL.toArray⟩] W fun e w' => e = .returned (.string ⟨(lowL s.data.toList).toArray⟩) ∧ Bel W w') from fun W => by
    rw [← low_map]
    exact turned_run s ⟨upsL.toArray⟩ ⟨losL.toArray⟩ rfl W hs)
  go_enter Tryz.func94, Tryz.ntmps94
  go_wp2_with (first | (go_at_call 140; refine (HI.out _).mono ?_; rintro e w1 ⟨rfl, hb1⟩))
  go_ret
  exact ⟨rfl, hb1⟩
def lgL : List UInt8 := losL ++ upsL ++ [48, 49, 50, 51, 52, 53, 54, 55, 56, 57]
def ldhL : List UInt8 := [97, 98, 99, 100, 101, 102, 103, 104, 105, 106, 107, 108, 109, 110, 111, 112, 113, 114, 115, 116, 117, 118, 119, 120, 121, 122, 65, 66, 67, 68, 69, 70, 71, 72, 73, 74, 75, 76, 77, 78, 79, 80, 81, 82, 83, 84, 85, 86, 87, 88, 89, 90, 48, 49, 50, 51, 52, 53, 54, 55, 56, 57, 45]
set_option maxRecDepth 100000 in
theorem ldh_has : ∀ b : UInt8, ldhL.contains b = ldhB b := u8_forall (by decide)
set_option maxRecDepth 100000 in
theorem pat_has : ∀ b : UInt8, atomsL.contains b = patB b := u8_forall (by decide)
theorem all_ldh (l : List UInt8) : l.all (ldhL.contains ·) = l.all ldhB := by
  congr 1; funext b; exact ldh_has b
theorem all_pat (l : List UInt8) : l.all (atomsL.contains ·) = l.all patB := by
  congr 1; funext b; exact pat_has b
/-- The pieces in hand are right up to so many. -/
theorem all_take {α : Type} (p : α → Bool) (l : List α) (k : Nat) (hk : k < l.length) (h : (l.take k).all p = true) : (l.take (k + 1)).all p = p l[k] := by
  rw [List.take_succ_eq_append_getElem hk, List.all_append, h]
  simp
theorem all_false {α : Type} (p : α → Bool) (l : List α) (k : Nat) (hk : k < l.length) (h : p l[k] = false) : l.all p = false := by
  rw [List.all_eq_false]
  exact ⟨l[k], List.getElem_mem hk, by rw [h]; simp⟩
def lblB (x : ByteArray) : Bool := lblQ x.data.toList
theorem named_pieces (s : ByteArray) : namedQ s.data.toList = (pieces s dot).all lblB := by
  unfold namedQ
  rw [← pieces_data s 46, List.all_map]
  rfl
def patP (x : ByteArray) : Bool := !x.data.toList.isEmpty && x.data.toList.all patB
theorem dotted_pieces (s : ByteArray) : dottedQ s.data.toList = (pieces s dot).all patP := by
  unfold dottedQ
  rw [← pieces_data s 46, List.all_map]
  rfl
theorem pieces_num (s : ByteArray) (hs : s.size < 4294967281) : (pieces s dot).length ≤ 4294967281 := by
  have h1 := congrArg List.length (pieces_data s 46)
  rw [List.length_map, Ci.splitL_len] at h1
  have h2 := List.count_le_length (a := (46 : UInt8)) (l := s.data.toList)
  rw [← Lib.size_eq] at h2
  show (pieces s ⟨#[46]⟩).length ≤ _
  omega
/-- The pieces of a text in memory. -/
structure Pcs (w wr : World) (P : List ByteArray) : Prop where
  bel : Bel w wr
  hc : wr.heap[w.heap.size]? = some (.cells (P.map Value.string).toArray 9 (0, 0))
theorem Pcs.cell {w wr : World} {P : List ByteArray} (h : Pcs w wr P) {k : Nat} (hk : k < P.length) : wr.cell? ⟨w.heap.size, k, none⟩ = some (.string P[k]) := by
  simp [World.cell?, h.hc, hk]
theorem Pcs.next {w wr W : World} {P : List ByteArray} (h : Pcs w wr P) (hb : Bel wr W) : Pcs w W P := ⟨h.bel.trans hb, hb.heap h.hc⟩
theorem emp_iff (x : ByteArray) : x.toList.isEmpty = x.data.toList.isEmpty := by
  rw [ByteArray.toList_eq]
theorem lbl_emp {x : ByteArray} (h : x.toList.isEmpty = true) : lblB x = false := by
  rw [emp_iff] at h
  unfold lblB lblQ
  rw [h]; rfl
theorem lbl_parts {x : ByteArray} (h : x.toList.isEmpty = false) (h0 : 0 < x.size) (m : Nat) (hm : m < x.size) (hm2 : m + 1 = x.size) : lblB x = (decide (x.size ≤ 63) && x.data.toList.all ldhB && (x[0] != 45) && (x[m] != 45)) := by
  have hs := Lib.size_eq x
  rw [emp_iff] at h
  have e1 : x.data.toList.head? = some x[0] := by
    rw [List.head?_eq_getElem?, List.getElem?_eq_getElem (by omega)]
    rfl
  have e2 : x.data.toList.getLast? = some x[m] := by
    rw [List.getLast?_eq_getElem?, show x.data.toList.length - 1 = m by omega, List.getElem?_eq_getElem (by omega)]
    rfl
  unfold lblB lblQ
  rw [h, e1, e2, ← hs]
  rfl
set_option maxHeartbeats 4000000 in
set_option maxRecDepth 100000 in
theorem named_run (s : ByteArray) (w : World) (hw : Lay w) (hs : s.size < 4294967281) :
    Calls Tryz.prog 95 #[.string s] w fun e w' => e = .returned (.bool (namedQ s.data.toList)) ∧ Bel w w' := by
  have HS := (show Hid (Calls Tryz.prog 75 #[.string s, .string ⟨#[46]⟩] w fun e w' => e = .returned (.slice (some ⟨w.heap.size, 0, none⟩) (pieces s dot).length (pieces s dot).length) ∧ Pcs w w' (pieces s dot)) from (Ci.split_run s dot w hw hs (by decide)).mono fun e w' ⟨h1, h2, h3⟩ => ⟨h1, h3, h2⟩)
  have hn := pieces_num s hs
  have HR := hid (named_pieces s)
  have HO := (show Hid (∀ x, x.size ≤ 63 → ∀ W, Calls Tryz.prog 141 #[.string x, .string ⟨ldhL.toArray⟩] W fun e w' => e = .returned (.bool (x.data.toList.all ldhB)) ∧ w' = W) from fun x hx W => by
    rw [← all_ldh]
    exact only_run x ⟨ldhL.toArray⟩ W (by omega))
  generalize pieces s dot = P at HS hn HR
  generalize namedQ s.data.toList = r at HR
  clear hw
  go_enter Tryz.func95, Tryz.ntmps95
  go_wp2_with (first | (go_at_call 75; refine HS.out.mono ?_; rintro e w1 ⟨rfl, hp⟩; have H0 := hid hp; clear hp))
  go_loopg [4, 8] P.length (fun gg v4 v8 wr => ∃ k : Nat, v8 = .int .i64 k ∧ k + gg = P.length ∧ Hid (Pcs w wr P ∧ (P.take k).all lblB = true))
  case atStart => exact ⟨0, rfl, by omega, hid ⟨H0.out, by simp⟩⟩
  case round =>
    clear H0 HS
    obtain ⟨k, rfl, hk, H⟩ := hrel
    have hkn : k ≤ P.length := by omega
    by_cases hlt : k < P.length
    · have c0 := H.out.1.cell hlt
      have HA := hid (fun (h : lblB P[k] = false) => all_false lblB P k hlt h)
      have HN := hid (all_take lblB P k hlt H.out.2)
      have HB := hid H.out.1.bel
      generalize P[k] = x at c0 HA HN
      have HK := hid hk
      cases hemp : x.toList.isEmpty with
      | true =>
        have HX := hid (show r = false from HR.out.trans (HA.out (lbl_emp hemp)))
        clear hk
        go_wp2_with fail
        go_ret
        exact ⟨by rw [HX.out]; rfl, HB.out⟩
      | false =>
        have h0 : 0 < x.size := by
          rw [emp_iff] at hemp
          rw [Lib.size_eq]
          rcases hx : x.data.toList with _ | ⟨b, l⟩
          · rw [hx] at hemp; simp at hemp
          · simp
        obtain ⟨m, hm⟩ : ∃ m, m + 1 = x.size := ⟨x.size - 1, by omega⟩
        have hlb : m < x.size := by omega
        have HP := hid (lbl_parts hemp h0 m hlb hm)
        by_cases h63 : 63 < x.size
        · have b1 : decide ((63 : Int) < (x.size : Int)) = true := decide_eq_true (by omega)
          have HX := hid (show r = false from HR.out.trans (HA.out (by rw [HP.out, decide_eq_false (by omega : ¬ x.size ≤ 63)]; rfl)))
          clear hk h63
          go_wp2_with fail
          go_ret
          exact ⟨by rw [HX.out]; rfl, HB.out⟩
        · have b1 : decide ((63 : Int) < (x.size : Int)) = false := decide_eq_false (by omega)
          have HO1 := (show Hid (∀ W, Calls Tryz.prog 141 #[.string x, .string ⟨ldhL.toArray⟩] W fun e w' => e = .returned (.bool (x.data.toList.all ldhB)) ∧ w' = W) from fun W => HO.out x (by omega) W)
          have HD := hid (show decide (x.size ≤ 63) = true from decide_eq_true (by omega))
          cases ha : x.data.toList.all ldhB with
          | false =>
            have HX := hid (show r = false from HR.out.trans (HA.out (by rw [HP.out, ha, HD.out]; rfl)))
            rw [ha] at HO1
            clear hk h63 ha
            go_wp2_with (first | (go_at_call 141; refine (HO1.out _).mono ?_; rintro e w1 ⟨rfl, rfl⟩))
            go_ret
            exact ⟨by rw [HX.out]; rfl, HB.out⟩
          | true =>
            have hla : wrap64 ((x.size : Int) - 1) = (m : Int) := by rw [show (x.size : Int) - 1 = (m : Int) by omega]; unfold wrap64; omega
            clear hm
            by_cases h1 : x[0] = 45
            · have c1 : (((x[0]'h0).toNat : Int) == 45) = true := byte_eq (n := 45) (by decide) h1
              have HX := hid (show r = false from HR.out.trans (HA.out (by rw [HP.out, ha, HD.out, h1]; rfl)))
              rw [ha] at HO1
              clear hk h63 ha h1
              go_wp2_with (first | (go_at_call 141; refine (HO1.out _).mono ?_; rintro e w1 ⟨rfl, rfl⟩))
              go_ret
              exact ⟨by rw [HX.out]; rfl, HB.out⟩
            · have c1 : (((x[0]'h0).toNat : Int) == 45) = false := byte_ne (n := 45) (by decide) h1
              have HE1 := hid (show (x[0] != 45) = true by simpa using h1)
              by_cases h2 : x[m] = 45
              · have c2 : (((x[m]'hlb).toNat : Int) == 45) = true := byte_eq (n := 45) (by decide) h2
                have HX := hid (show r = false from HR.out.trans (HA.out (by rw [HP.out, ha, HD.out, h2, HE1.out]; rfl)))
                rw [ha] at HO1
                clear hk h63 ha h1 h2
                go_wp2_with (first | (go_at_call 141; refine (HO1.out _).mono ?_; rintro e w1 ⟨rfl, rfl⟩))
                go_ret
                exact ⟨by rw [HX.out]; rfl, HB.out⟩
              · have c2 : (((x[m]'hlb).toNat : Int) == 45) = false := byte_ne (n := 45) (by decide) h2
                have HE2 := hid (show (x[m] != 45) = true by simpa using h2)
                have HT := hid (show (P.take (k + 1)).all lblB = true by rw [HN.out, HP.out, ha, HD.out, HE1.out, HE2.out]; rfl)
                have HPc := hid H.out.1
                rw [ha] at HO1
                clear hk h63 ha h1 h2 H HN HA HP HE1 HE2 HD
                go_wp2_with (first | (go_at_call 141; refine (HO1.out _).mono ?_; rintro e w1 ⟨rfl, rfl⟩))
                go_roundg (gk - 1)
                case measure => have := HK.out; omega
                case rel => exact ⟨k + 1, by go_num, by have := HK.out; omega, hid ⟨HPc.out, HT.out⟩⟩
    · obtain rfl : k = P.length := by omega
      have HX := hid (show r = true from HR.out.trans (by have := H.out.2; rwa [List.take_length] at this))
      have HB := hid H.out.1.bel
      go_wp2_with fail
      go_ret
      exact ⟨by rw [HX.out]; rfl, HB.out⟩
set_option maxHeartbeats 4000000 in
set_option maxRecDepth 100000 in
theorem dotted_run (s : ByteArray) (w : World) (hw : Lay w) (hs : s.size < 4294967281) :
    Calls Tryz.prog 144 #[.string s] w fun e w' => e = .returned (.bool (dottedQ s.data.toList)) ∧ Bel w w' := by
  have HS := (show Hid (Calls Tryz.prog 75 #[.string s, .string ⟨#[46]⟩] w fun e w' => e = .returned (.slice (some ⟨w.heap.size, 0, none⟩) (pieces s dot).length (pieces s dot).length) ∧ Pcs w w' (pieces s dot)) from (Ci.split_run s dot w hw hs (by decide)).mono fun e w' ⟨h1, h2, h3⟩ => ⟨h1, h3, h2⟩)
  have hn := pieces_num s hs
  have HR := hid (dotted_pieces s)
  have HO := (show Hid (∀ x ∈ pieces s dot, ∀ W, Calls Tryz.prog 141 #[.string x, .string ⟨atomsL.toArray⟩] W fun e w' => e = .returned (.bool (x.data.toList.all patB)) ∧ w' = W) from fun x hx W => by
    rw [← all_pat]
    exact only_run x ⟨atomsL.toArray⟩ W (by have := Ci.pieces_size s dot hs x hx; omega))
  generalize pieces s dot = P at HS hn HR HO
  generalize dottedQ s.data.toList = r at HR
  clear hw
  go_enter Tryz.func144, Tryz.ntmps144
  go_wp2_with (first | (go_at_call 75; refine HS.out.mono ?_; rintro e w1 ⟨rfl, hp⟩; have H0 := hid hp; clear hp))
  go_loopg [4, 8] P.length (fun gg v4 v8 wr => ∃ k : Nat, v8 = .int .i64 k ∧ k + gg = P.length ∧ Hid (Pcs w wr P ∧ (P.take k).all patP = true))
  case atStart => exact ⟨0, rfl, by omega, hid ⟨H0.out, by simp⟩⟩
  case round =>
    clear H0 HS
    obtain ⟨k, rfl, hk, H⟩ := hrel
    have hkn : k ≤ P.length := by omega
    by_cases hlt : k < P.length
    · have c0 := H.out.1.cell hlt
      have HA := hid (fun (h : patP P[k] = false) => all_false patP P k hlt h)
      have HN := hid (all_take patP P k hlt H.out.2)
      have HB := hid H.out.1.bel
      have hmem := List.getElem_mem hlt
      generalize P[k] = x at c0 HA HN hmem
      have HK := hid hk
      have HP := hid (show patP x = (!x.toList.isEmpty && x.data.toList.all patB) by rw [emp_iff]; rfl)
      have HO1 := (show Hid (∀ W, Calls Tryz.prog 141 #[.string x, .string ⟨atomsL.toArray⟩] W fun e w' => e = .returned (.bool (x.data.toList.all patB)) ∧ w' = W) from fun W => HO.out x hmem W)
      clear hmem
      cases hemp : x.toList.isEmpty with
      | true =>
        have HX := hid (show r = false from HR.out.trans (HA.out (by rw [HP.out, hemp]; rfl)))
        clear hk
        go_wp2_with fail
        go_ret
        exact ⟨by rw [HX.out]; rfl, HB.out⟩
      | false =>
        cases ha : x.data.toList.all patB with
        | false =>
          have HX := hid (show r = false from HR.out.trans (HA.out (by rw [HP.out, hemp, ha]; rfl)))
          rw [ha] at HO1
          clear hk ha
          go_wp2_with (first | (go_at_call 141; refine (HO1.out _).mono ?_; rintro e w1 ⟨rfl, rfl⟩))
          go_ret
          exact ⟨by rw [HX.out]; rfl, HB.out⟩
        | true =>
          have HT := hid (show (P.take (k + 1)).all patP = true by rw [HN.out, HP.out, hemp, ha]; rfl)
          have HPc := hid H.out.1
          rw [ha] at HO1
          clear hk ha H HN HA HP
          go_wp2_with (first | (go_at_call 141; refine (HO1.out _).mono ?_; rintro e w1 ⟨rfl, rfl⟩))
          go_roundg (gk - 1)
          case measure => have := HK.out; omega
          case rel => exact ⟨k + 1, by go_num, by have := HK.out; omega, hid ⟨HPc.out, HT.out⟩⟩
    · obtain rfl : k = P.length := by omega
      have HX := hid (show r = true from HR.out.trans (by have := H.out.2; rwa [List.take_length] at this))
      have HB := hid H.out.1.bel
      go_wp2_with fail
      go_ret
      exact ⟨by rw [HX.out]; rfl, HB.out⟩
end Go.Proofs.YtpmmaickjolimaaGreatDoor.Ma
