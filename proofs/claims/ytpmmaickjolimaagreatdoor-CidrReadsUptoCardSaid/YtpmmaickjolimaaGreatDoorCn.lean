/- A number of one to three digits. -/
import Derived.Test.YtpmmaickjolimaaGreatDoorCr
import Derived.Test.YtpmmaickjolimaaGreatDoorShelf
import Derived.Shelf.Strings.SlTrimAscii
namespace Go.Proofs.YtpmmaickjolimaaGreatDoor.Ci
open Go.RowKit

/-- What the package-level variables hold that the calls read. -/
structure Lay (w : World) : Prop where
  size : 8 ≤ w.heap.size
  most : ∃ m, w.cell? ⟨0, 0, none⟩ = some (.int .i64 m)
  err : ∃ te pe, w.cell? ⟨1, 0, none⟩ = some (.iface te pe)
  pow : ∀ w', Bel w w' → Lib.TabIs Tryz.prog w' "internal/strconv.uint64pow10" .u64 Lib.pow10Tab
  bru : w.cell? ⟨7, 15, none⟩ = some (.int .u8 4)
theorem Bel.cell {a w : World} (h : Bel a w) {b o : Nat} (hb : b < a.heap.size) : w.cell? ⟨b, o, none⟩ = a.cell? ⟨b, o, none⟩ := Below.cell h hb
theorem Lay.next {a w : World} (h : Lay a) (hx : Bel a w) : Lay w := by
  have hs := h.size
  refine ⟨Nat.le_trans hs hx.size, ?_, ?_, fun w' hw => h.pow w' (hx.trans hw), ?_⟩
  · obtain ⟨m, hm⟩ := h.most
    exact ⟨m, (hx.cell (by omega)).trans hm⟩
  · obtain ⟨te, pe, hm⟩ := h.err
    exact ⟨te, pe, (hx.cell (by omega)).trans hm⟩
  · exact (hx.cell (by omega)).trans h.bru

theorem bel_bytes (w : World) (t : ByteArray) : Bel w (Lib.bytesWorld w 5 t)  :=
  Lib.bytesWorld_below _ _ _

def digs : ByteArray := ⟨#[48, 49, 50, 51, 52, 53, 54, 55, 56, 57]⟩
def hexs : ByteArray := ⟨#[48, 49, 50, 51, 52, 53, 54, 55, 56, 57, 97, 98, 99, 100, 101, 102, 65, 66, 67, 68, 69, 70]⟩
theorem trim_run (s c : ByteArray) (w : World) (hs : s.size ≤ 9223372036854775807) (hc : c.size < 4294967281) (ha : c.data.toList.all (fun b => decide (b.toNat < 128)) = true) :
    Calls Tryz.prog 79 #[.string s, .string c] w fun e w' => e = .returned (.string ⟨(Lib.trimS s.data.toList c.data.toList).toArray⟩) ∧ Bel w w' :=
  Any.strings_Trim_laid Tryz.lays160 (by kernel_rfl) s c w hs hc (ascii_of_all ha)
theorem cut_str_run (s sep : ByteArray) (w : World) (hw : Lay w) (hs : s.size < 4294967281) :
    Calls Tryz.prog 34 #[.string s, .string sep] w fun e w' => e = .returned (.tuple #[.string ⟨(Lib.cut s.data.toList sep.data.toList).1.toArray⟩, .string ⟨(Lib.cut s.data.toList sep.data.toList).2.1.toArray⟩, .bool (Lib.cut s.data.toList sep.data.toList).2.2]) ∧ Bel w w' := by
  obtain ⟨m, hm⟩ := hw.most
  refine (Tryz.strings_Cut s sep m w hs hm).mono ?_
  rintro e w' ⟨rfl, n, rfl⟩
  exact ⟨rfl, (Bel.refl w).drewN n⟩

/-- The digits' number; none: it is none. -/
def numQ (s : ByteArray) : Option Int :=
  if 3 < s.size ∨ (1 < s.size ∧ s.data.toList[0]? = some 48) ∨ Lib.trimS s.data.toList digs.data.toList ≠ [] then none else Lib.atoi s.data.toList
def numV (o : Option Int) : Value := match o with
  | some n => .tuple #[.int .i64 n, .bool true]
  | none => .tuple #[.int .i64 0, .bool false]
theorem atoi_any (s : ByteArray) (hl : s.size ≤ 18) (w : World) (hw : Lay w) :
    Calls Tryz.prog 80 #[.string s] w fun e w' => (∃ n, Lib.atoi s.data.toList = some n ∧ e = .returned (.tuple #[.int .i64 n, .nilIface]) ∧ Bel w w') ∨ (Lib.atoi s.data.toList = none ∧ ∃ t v, e = .returned (.tuple #[.int .i64 0, .iface t v]) ∧ Bel w w') := by
  cases h : Lib.atoi s.data.toList with
  | some n =>
    refine (Tryz.strconv_Atoi s n hl h w).mono ?_
    rintro e w' ⟨rfl, t, rfl⟩
    exact .inl ⟨n, rfl, rfl, bel_bytes w t⟩
  | none =>
    obtain ⟨te, pe, hm⟩ := hw.err
    refine (Tryz.strconv_Atoi_err s hl h _ w hm (.inr ⟨te, pe, rfl⟩)).mono ?_
    rintro e w' ⟨N, rfl, h1, h2, h3⟩
    exact .inr ⟨rfl, _, _, rfl, h3⟩

theorem at_get (s : ByteArray) (k : Nat) (h : k < s.size) : s.data.toList[k]? = some s[k] := by
  rw [List.getElem?_eq_getElem (by rw [← Lib.size_eq]; exact h)]
  rfl

set_option maxHeartbeats 1000000 in
theorem number_run (s : ByteArray) (w : World) (hw : Lay w) (hs : s.size ≤ 9223372036854775807) :
    Calls Tryz.prog 35 #[.string s] w fun e w' => e = .returned (numV (numQ s)) ∧ Bel w w' := by
  have HT := (show Hid (∀ W, Calls Tryz.prog 79 #[.string s, .string digs] W fun e w' => e = .returned (.string ⟨(Lib.trimS s.data.toList digs.data.toList).toArray⟩) ∧ Bel W w') from fun W => trim_run s digs W hs (by decide) (by decide))
  have HW := hid hw
  by_cases h1 : 3 < s.size
  · have d1 : decide (3 < s.size) = true := decide_eq_true h1
    have hq : numQ s = none := by
      unfold numQ
      rw [if_pos (.inl h1)]
    clear hw
    go_enter Tryz.func35, Tryz.ntmps35
    go_wp2_with fail
    go_ret2
    exact ⟨by first | rfl | (rw [hq]; rfl), Bel.refl w⟩
  · have d1 : decide (3 < s.size) = false := decide_eq_false h1
    by_cases h2 : 1 < s.size
    · have d2 : decide (1 < s.size) = true := decide_eq_true h2
      by_cases h3 : s[0] = 48
      · go_enter Tryz.func35, Tryz.ntmps35
        go_wp2_with fail
        go_ret2
        have hq : numQ s = none := by
          unfold numQ
          rw [if_pos (.inr (.inl ⟨h2, by rw [at_get s 0 (by omega), h3]⟩))]
        exact ⟨by first | rfl | (rw [hq]; rfl), Bel.refl w⟩
      · have h3b : (((s[0]'(by omega)).toNat : Int) == 48) = false := by
          rw [beq_eq_false_iff_ne]
          intro f
          exact h3 (UInt8.toNat_inj.1 (by have : (48 : UInt8).toNat = 48 := rfl; omega))
        have HA := (show Hid (∀ W, Lay W → Calls Tryz.prog 80 #[.string s] W fun e w' => (∃ n, Lib.atoi s.data.toList = some n ∧ e = .returned (.tuple #[.int .i64 n, .nilIface]) ∧ Bel W w') ∨ (Lib.atoi s.data.toList = none ∧ ∃ t v, e = .returned (.tuple #[.int .i64 0, .iface t v]) ∧ Bel W w')) from fun W hW => atoi_any s (by omega) W hW)
        by_cases h4 : Lib.trimS s.data.toList digs.data.toList = []
        · have hq : numQ s = Lib.atoi s.data.toList := by
            unfold numQ
            rw [if_neg (by rintro (f | ⟨f, f2⟩ | f); exact h1 f; exact h3 (by rw [at_get s 0 (by omega)] at f2; exact Option.some.inj f2); exact f h4)]
          rw [h4] at HT
          clear hw
          go_enter Tryz.func35, Tryz.ntmps35
          go_wp2_with fail
          refine (HT.out _).mono ?_
          rintro e w1 ⟨rfl, hb1⟩
          go_wp2_with fail
          refine (HA.out _ (HW.out.next hb1)).mono ?_
          rintro e w2 (⟨n, hn, rfl, hb2⟩ | ⟨hn, t, v, rfl, hb2⟩)
          · go_wp2_with fail
            go_quiet (fail)
            go_wp2_with fail
            go_ret2
            exact ⟨by rw [hq, hn]; rfl, (hb1.trans hb2).drewN _⟩
          · go_wp2_with fail
            go_quiet (fail)
            go_wp2_with fail
            go_ret2
            exact ⟨by rw [hq, hn]; rfl, (hb1.trans hb2).drewN _⟩
        · have hq : numQ s = none := by
            unfold numQ
            rw [if_pos (.inr (.inr h4))]
          have d4 : (⟨(Lib.trimS s.data.toList digs.data.toList).toArray⟩ : ByteArray).toList.isEmpty = false := by
            rw [Lib.toList_data]
            simpa using h4
          generalize (⟨(Lib.trimS s.data.toList digs.data.toList).toArray⟩ : ByteArray) = tr at HT d4
          clear hw
          go_enter Tryz.func35, Tryz.ntmps35
          go_wp2_with fail
          refine (HT.out _).mono ?_
          rintro e w1 ⟨rfl, hb1⟩
          go_wp2_with fail
          go_ret2
          exact ⟨by rw [hq]; rfl, hb1⟩
    · have d2 : decide (1 < s.size) = false := decide_eq_false h2
      have HA := (show Hid (∀ W, Lay W → Calls Tryz.prog 80 #[.string s] W fun e w' => (∃ n, Lib.atoi s.data.toList = some n ∧ e = .returned (.tuple #[.int .i64 n, .nilIface]) ∧ Bel W w') ∨ (Lib.atoi s.data.toList = none ∧ ∃ t v, e = .returned (.tuple #[.int .i64 0, .iface t v]) ∧ Bel W w')) from fun W hW => atoi_any s (by omega) W hW)
      by_cases h4 : Lib.trimS s.data.toList digs.data.toList = []
      · have hq : numQ s = Lib.atoi s.data.toList := by
          unfold numQ
          rw [if_neg (by rintro (f | ⟨f, f2⟩ | f); exact h1 f; exact h2 f; exact f h4)]
        rw [h4] at HT
        clear hw
        go_enter Tryz.func35, Tryz.ntmps35
        go_wp2_with fail
        refine (HT.out _).mono ?_
        rintro e w1 ⟨rfl, hb1⟩
        go_wp2_with fail
        refine (HA.out _ (HW.out.next hb1)).mono ?_
        rintro e w2 (⟨n, hn, rfl, hb2⟩ | ⟨hn, t, v, rfl, hb2⟩)
        · go_wp2_with fail
          go_quiet (fail)
          go_wp2_with fail
          go_ret2
          exact ⟨by rw [hq, hn]; rfl, (hb1.trans hb2).drewN _⟩
        · go_wp2_with fail
          go_quiet (fail)
          go_wp2_with fail
          go_ret2
          exact ⟨by rw [hq, hn]; rfl, (hb1.trans hb2).drewN _⟩
      · have hq : numQ s = none := by
          unfold numQ
          rw [if_pos (.inr (.inr h4))]
        have d4 : (⟨(Lib.trimS s.data.toList digs.data.toList).toArray⟩ : ByteArray).toList.isEmpty = false := by
          rw [Lib.toList_data]
          simpa using h4
        generalize (⟨(Lib.trimS s.data.toList digs.data.toList).toArray⟩ : ByteArray) = tr at HT d4
        clear hw
        go_enter Tryz.func35, Tryz.ntmps35
        go_wp2_with fail
        refine (HT.out _).mono ?_
        rintro e w1 ⟨rfl, hb1⟩
        go_wp2_with fail
        go_ret2
        exact ⟨by rw [hq]; rfl, hb1⟩
end Go.Proofs.YtpmmaickjolimaaGreatDoor.Ci
