/- Walks: HasPrefix of one byte; domain of path. -/
import Derived.Test.YtpmmaickjolimaaGreatDoorJ11
import Derived.Lib.SlTrimSet
import Derived.Lib.Bytealg
import Derived.Lib.MapU
import Derived.Test.YtpmmaickjolimaaGreatDoorJ01
import Derived.Shelf.Abstract
import Derived.Test.YtpmmaickjolimaaGreatDoorJ02
import Derived.Test.YtpmmaickjolimaaGreatDoorJ10
import Derived.Shelf.Strings.MapGrows
namespace Go.Proofs.YtpmmaickjolimaaGreatDoor.Ma
open Go.RowKit
open Ci (Bel Lay)

theorem front_one (s : ByteArray) (c : UInt8) (h : 1 ≤ s.size) : ((s.extract 0 1).toList == [c]) = (s.data.toList.head? == some c) := by
  rw [ByteArray.toList_eq, ext_front]
  have hs := Lib.size_eq s
  cases hl : s.data.toList with
  | nil => rw [hl] at hs; simp only [List.length_nil] at hs; omega
  | cons b l =>
    simp only [List.take_succ_cons, List.take_zero, List.head?_cons]
    by_cases h : b = c
    · subst h; simp
    · have h1 : (b == c) = false := by simpa using h
      rw [Bool.eq_iff_iff]
      simp [h]
set_option maxHeartbeats 2000000 in
set_option maxRecDepth 100000 in
theorem hasPre_in (s : ByteArray) (c : UInt8) (w : World) (hs : s.size < 9223372036854775807) : Calls Tryz.prog 215 #[.string s, .string ⟨#[c]⟩] w fun e w' => e = .returned (.bool (s.data.toList.head? == some c)) ∧ Bel w w' := by
  by_cases h1 : 1 ≤ s.size
  · have HF := hid (front_one s c h1)
    have b1 : decide ((1 : Int) ≤ (s.size : Int)) = true := decide_eq_true (by omega)
    go_enter Tryz.func215, Tryz.ntmps215
    go_wp2_with fail
    go_ret
    exact ⟨by rw [← HF.out]; rfl, Bel.refl w⟩
  · have b1 : decide ((1 : Int) ≤ (s.size : Int)) = false := decide_eq_false (by omega)
    have HX := hid (show (s.data.toList.head? == some c) = false by
      have hs := Lib.size_eq s
      have : s.data.toList = [] := List.eq_nil_of_length_eq_zero (by omega)
      rw [this]; rfl)
    go_enter Tryz.func215, Tryz.ntmps215
    go_wp2_with fail
    go_ret
    exact ⟨by rw [HX.out]; rfl, Bel.refl w⟩
set_option maxRecDepth 100000 in
theorem hasPre_run (s : ByteArray) (c : UInt8) (w : World) (hs : s.size < 9223372036854775807) : Calls Tryz.prog 193 #[.string s, .string ⟨#[c]⟩] w fun e w' => e = .returned (.bool (s.data.toList.head? == some c)) ∧ Bel w w' := by
  have HI := hid (hasPre_in s c w hs)
  generalize (s.data.toList.head? == some c) = b at HI ⊢
  go_enter Tryz.func193, Tryz.ntmps193
  go_wp2_with (first | (go_at_call 215; refine HI.out.mono ?_; rintro e w1 ⟨rfl, hb1⟩))
  go_ret
  exact ⟨rfl, hb1⟩
def dmL : List UInt8 := [97, 98, 99, 100, 101, 102, 103, 104, 105, 106, 107, 108, 109, 110, 111, 112, 113, 114, 115, 116, 117, 118, 119, 120, 121, 122, 65, 66, 67, 68, 69, 70, 71, 72, 73, 74, 75, 76, 77, 78, 79, 80, 81, 82, 83, 84, 85, 86, 87, 88, 89, 90, 48, 49, 50, 51, 52, 53, 54, 55, 56, 57, 45, 46]
set_option maxRecDepth 100000 in
theorem dm_has : ∀ b : UInt8, dmL.contains b = (ldhB b || b == 46) := u8_forall (by decide)
theorem whN_dm (l : List UInt8) : whN dmL l = (l.takeWhile fun b => ldhB b || b == 46).length := by
  unfold whN
  congr 2
  funext b
  exact dm_has b
theorem front_str (s : ByteArray) (n : Nat) : s.extract 0 n = ⟨(s.data.toList.take n).toArray⟩ := Ci.ext_bytes (by rw [ext_front])
set_option maxHeartbeats 2000000 in
set_option maxRecDepth 100000 in
theorem domText_run (s : ByteArray) (w : World) (hs : s.size ≤ 4194304) : Calls Tryz.prog 195 #[.string s] w fun e w' => e = .returned (.string ⟨(domTextP s.data.toList).toArray⟩) ∧ Bel w w' := by
  have HH := (show Hid (∀ W, Calls Tryz.prog 193 #[.string s, .string ⟨#[91]⟩] W fun e w' => e = .returned (.bool (s.data.toList.head? == some 91)) ∧ Bel W w') from fun W => hasPre_run s 91 W (by omega))
  have hsz := Lib.size_eq s
  cases hb : (s.data.toList.head? == some 91) with
  | true =>
    rw [hb] at HH
    have HI := (show Hid (∀ W, Calls Tryz.prog 84 #[.string s, .int .u8 93] W fun e w' => e = .returned (.int .i64 (Lib.indexByte s.data.toList 93)) ∧ w' = W) from fun W => ib_run s 93 W)
    have HD := hid (show domTextP s.data.toList = s.data.toList.take (if 0 ≤ Lib.indexByte s.data.toList 93 then (Lib.indexByte s.data.toList 93).toNat + 1 else 0) by unfold domTextP; rw [hb, if_pos rfl])
    by_cases h0 : 0 ≤ Lib.indexByte s.data.toList 93
    · have hl := index_lt 93 s.data.toList h0
      rw [if_pos h0] at HD
      obtain ⟨i, hi⟩ : ∃ i : Nat, Lib.indexByte s.data.toList 93 = (i : Int) := ⟨_, (Int.toNat_of_nonneg h0).symm⟩
      rw [hi] at HI HD hl
      rw [Int.toNat_natCast] at HD hl
      have hi2 : i + 1 ≤ s.size := by omega
      have HF := hid (front_str s (i + 1))
      clear hb h0 hi hl hsz
      go_enter Tryz.func195, Tryz.ntmps195
      go_wp2_with (first | (go_at_call 193; refine (HH.out _).mono ?_; rintro e w1 ⟨rfl, hb1⟩) | (go_at_call 84; refine (HI.out _).mono ?_; rintro e w2 ⟨rfl, rfl⟩))
      go_ret
      exact ⟨by rw [HD.out, ← HF.out]; rfl, hb1⟩
    · have hm : Lib.indexByte s.data.toList 93 = -1 := by have := Lib.indexByte_ge s.data.toList 93; omega
      rw [if_neg h0] at HD
      rw [hm] at HI
      clear hb h0 hm hsz
      go_enter Tryz.func195, Tryz.ntmps195
      go_wp2_with (first | (go_at_call 193; refine (HH.out _).mono ?_; rintro e w1 ⟨rfl, hb1⟩) | (go_at_call 84; refine (HI.out _).mono ?_; rintro e w2 ⟨rfl, rfl⟩))
      go_ret
      exact ⟨by rw [HD.out, List.take_zero]; rfl, hb1⟩
  | false =>
    rw [hb] at HH
    have HWh := (show Hid (∀ W, Calls Tryz.prog 183 #[.string s, .string ⟨dmL.toArray⟩] W fun e w' => e = .returned (.int .i64 (whN dmL s.data.toList : Nat)) ∧ w' = W) from fun W => while_run s ⟨dmL.toArray⟩ W (by omega))
    have HD := hid (show domTextP s.data.toList = s.data.toList.take (whN dmL s.data.toList) by unfold domTextP; rw [hb, if_neg Bool.false_ne_true, whN_dm])
    have hle := whN_le dmL s.data.toList
    generalize whN dmL s.data.toList = n at HWh HD hle
    have hn : n ≤ s.size := by omega
    have HF := hid (front_str s n)
    clear hb hle hsz
    go_enter Tryz.func195, Tryz.ntmps195
    go_wp2_with (first | (go_at_call 193; refine (HH.out _).mono ?_; rintro e w1 ⟨rfl, hb1⟩) | (go_at_call 183; refine (HWh.out _).mono ?_; rintro e w2 ⟨rfl, rfl⟩))
    go_ret
    exact ⟨by rw [HD.out, ← HF.out]; rfl, hb1⟩
end Go.Proofs.YtpmmaickjolimaaGreatDoor.Ma

/- Walks: mailbox of path. -/
namespace Go.Proofs.YtpmmaickjolimaaGreatDoor.Ma
open Go.RowKit
open Ci (Bel Lay)

def atdL : List UInt8 := [97, 98, 99, 100, 101, 102, 103, 104, 105, 106, 107, 108, 109, 110, 111, 112, 113, 114, 115, 116, 117, 118, 119, 120, 121, 122, 65, 66, 67, 68, 69, 70, 71, 72, 73, 74, 75, 76, 77, 78, 79, 80, 81, 82, 83, 84, 85, 86, 87, 88, 89, 90, 48, 49, 50, 51, 52, 53, 54, 55, 56, 57, 33, 35, 36, 37, 38, 39, 42, 43, 45, 47, 61, 63, 94, 95, 96, 123, 124, 125, 126, 46]
def zeroP : Pt := ⟨false, [], [], false⟩
/-- A local part at the head of a text: what it is, how many bytes. -/
def lpP (s : List UInt8) : List UInt8 × Nat :=
  if s.head? == some 34 then quotedP s else if dottedQ (s.take (whN atdL s)) then (s.take (whN atdL s), whN atdL s) else ([], 0)
def tailP (s loc : List UInt8) (n : Nat) : Pt × Nat × Int :=
  if n = 0 then (zeroP, 0, 90)
  else if (s.drop n).head? == some 64 then
    ((⟨false, loc, (domainQ (domTextP (s.drop (n + 1)))).1, (domainQ (domTextP (s.drop (n + 1)))).2.1⟩ : Pt), n + 1 + (domTextP (s.drop (n + 1))).length,
      if (domainQ (domTextP (s.drop (n + 1)))).2.2 = 0 then rightP ⟨false, loc, (domainQ (domTextP (s.drop (n + 1)))).1, (domainQ (domTextP (s.drop (n + 1)))).2.1⟩ else (domainQ (domTextP (s.drop (n + 1)))).2.2)
  else if lowL (s.take n) == pmL then (⟨false, pmL, [], false⟩, n, 0) else (zeroP, 0, 90)
def mailP (s : List UInt8) : Pt × Nat × Int := tailP s (lpP s).1 (lpP s).2
theorem locL_len : ∀ (l b : List UInt8) (n : Nat), locL l = some (b, n) → b.length + 1 ≤ n ∧ n ≤ l.length
  | [], _, _, h => by cases h
  | c :: t, b, n, h => by
    unfold locL at h
    split at h
    · obtain ⟨rfl, rfl⟩ := Prod.mk.inj (Option.some.inj h)
      simp
    · split at h
      · match t, h with
        | [], h => cases h
        | d :: t', h =>
          simp only at h
          split at h
          · cases h
          · obtain ⟨⟨b', n'⟩, h1, h2⟩ := Option.map_eq_some_iff.1 h
            obtain ⟨rfl, rfl⟩ := Prod.mk.inj h2
            have := locL_len t' b' n' h1
            simp only [List.length_cons]
            omega
      · split at h
        · cases h
        · obtain ⟨⟨b', n'⟩, h1, h2⟩ := Option.map_eq_some_iff.1 h
          obtain ⟨rfl, rfl⟩ := Prod.mk.inj h2
          have := locL_len t b' n' h1
          simp only [List.length_cons]
          omega
theorem quotedP_len (s : List UInt8) : (quotedP s).1.length ≤ s.length ∧ (quotedP s).2 ≤ s.length := by
  unfold quotedP
  cases h : locL (s.drop 1) with
  | none => simp
  | some x =>
    obtain ⟨b, n⟩ := x
    have := locL_len _ _ _ h
    rw [List.length_drop] at this
    simp only
    split
    · simp
    · simp only; omega
theorem domText_len (s : List UInt8) : (domTextP s).length ≤ s.length := by
  unfold domTextP
  split
  · exact List.length_take_le' _ _
  · exact List.length_take_le' _ _
def MbI (w W : World) : Prop := Bel w W ∧ W.heap[w.heap.size]? = some (.cells (ptC zeroP).toArray 39 (0, 0))
theorem MbI.next {w W W' : World} (h : MbI w W) (hb : Bel W W') : MbI w W' := ⟨h.1.trans hb, hb.heap h.2⟩
theorem mbI_new (w : World) : MbI w (w.alloc (.cells (ptC zeroP).toArray 39)) := ⟨(Bel.refl w).alloc _, heap_alloc_new w _⟩
theorem load_pt {w : World} {b : Nat} {cs : List Value} {T : TypeId} (hc : w.heap[b]? = some (.cells cs.toArray T (0, 0))) (hl : cs.length = 4) : (loadVar 39 ⟨b, 0, none⟩).run Tryz.prog w = .ok (.agg cs.toArray) w :=
  run_loadVar_mid w b 0 39 cs _ (Ci.range_of hc fun j v hv => by rw [Nat.zero_add]; simpa using hv) Tryz.underlying39 rfl (by rw [hl]; exact pt_size)
end Go.Proofs.YtpmmaickjolimaaGreatDoor.Ma

/- Tables and aliases in plain terms. -/
namespace Go.Proofs.YtpmmaickjolimaaGreatDoor.Tb
open Go.RowKit
open Ci (splitL)
open Ma (Pt)

def bl2 : List UInt8 := [32, 9]
def isBl (b : UInt8) : Bool := bl2.contains b
def trm (s : List UInt8) : List UInt8 := Lib.trimS s bl2
/-- A rune with a to z in the place of A to Z. -/
def lowI (r : Int) : Int := if 65 ≤ r ∧ r ≤ 90 then r + 32 else r
def lowR (s : List UInt8) : List UInt8 := Lib.mapD lowI s
/-- A line of an entry: where it begins, its key, its pieces. -/
structure Ln where
  at_ : Nat
  key : List UInt8
  pcs : List (List UInt8)
def addPc (pcs : List (List UInt8)) (s : List UInt8) : List (List UInt8) := if trm s = [] then pcs else pcs ++ [trm s]
def keyN (s : List UInt8) : Nat := (s.takeWhile fun b => !isBl b).length
structure Cs where
  at_ : Nat
  out : List Ln
  bad : Int
def innerL (s : List UInt8) : List UInt8 := Lib.trimLeftS s bl2
def lnOut (at_ : Nat) (out : List Ln) (s : List UInt8) : List Ln :=
  if trm (innerL s) = [] ∨ (innerL s).head? = some 35 then out
  else if (innerL s).length = s.length then out ++ [⟨at_, lowR (s.take (keyN s)), addPc [] (s.drop (keyN s))⟩]
  else match out.getLast? with
    | none => out
    | some l => out.dropLast ++ [⟨l.at_, l.key, addPc l.pcs s⟩]
def lnBad (at_ : Nat) (out : List Ln) (bad : Int) (s : List UInt8) : Int :=
  if trm (innerL s) = [] ∨ (innerL s).head? = some 35 then bad
  else if (innerL s).length = s.length then bad
  else if out = [] ∧ (bad < 0 ∨ (at_ : Int) < bad) then at_ else bad
def lnStep (c : Cs) (s : List UInt8) : Cs := ⟨c.at_ + s.length + 1, lnOut c.at_ c.out s, lnBad c.at_ c.out c.bad s⟩
/-- A byte that may not stand. -/
def badB (b : UInt8) : Bool := b != 9 && b != 10 && (decide (b.toNat < 32) || decide (126 < b.toNat))
def badAt (s : List UInt8) : Int := match s.findIdx? badB with
  | some k => k
  | none => -1
def cutT (s : List UInt8) : Cs := (splitL 10 s).foldl lnStep ⟨0, [], badAt s⟩
/-- An entry. -/
structure En where
  key : List UInt8
  val : List UInt8
def ltK (a b : List UInt8) : Bool := decide (Lib.compareBytes a b < 0)
def rank (es : List En) (k : List UInt8) : Nat := es.countP fun e => ltK e.key k
def foundB (es : List En) (k : List UInt8) : Bool := match es[rank es k]? with
  | some e => decide (Lib.compareBytes e.key k = 0)
  | none => false
def putE (es : List En) (e : En) : List En := es.take (rank es e.key) ++ e :: es.drop (rank es e.key)
def parseF (bad : Int) : List Ln → List En → Option (List En)
  | [], es => if bad < 0 then some es else none
  | x :: r, es =>
    if 0 ≤ bad ∧ bad ≤ x.at_ then none
    else if 320 < x.key.length ∨ Lib.join x.pcs [32] = [] ∨ 1000 < (Lib.join x.pcs [32]).length then none
    else if foundB es x.key then none
    else if es.length = 2000 then none
    else parseF bad r (putE es ⟨x.key, Lib.join x.pcs [32]⟩)
def tparse (s : List UInt8) : Option (List En) := if 262144 < s.length then none else parseF (cutT s).bad (cutT s).out []
def exactQ (es : List En) (k : List UInt8) : Option (List UInt8) := if foundB es (lowR k) then (es[rank es (lowR k)]?).map (·.val) else none
def addrQ (es : List En) (l d : List UInt8) : Option (List UInt8) := match exactQ es (l ++ [64] ++ d) with
  | some v => some v
  | none => exactQ es ([64] ++ d)
def askQ (ts : List (List En)) (l d : List UInt8) : Option (List UInt8) := ts.findSome? fun es => addrQ es l d
end Go.Proofs.YtpmmaickjolimaaGreatDoor.Tb

/- Tables in plain terms: the order of keys; in which order entries stand turns nothing. -/
namespace Go.Proofs.YtpmmaickjolimaaGreatDoor.Tb
open Go.RowKit
open Ci (splitL splitL_app)

theorem cmp_nil_l (b : UInt8) (l : List UInt8) : Lib.compareBytes [] (b :: l) = -1 := by simp [Lib.compareBytes]
theorem cmp_nil_r (b : UInt8) (l : List UInt8) : Lib.compareBytes (b :: l) [] = 1 := by simp [Lib.compareBytes]
theorem cmp_nil : Lib.compareBytes [] [] = 0 := by simp [Lib.compareBytes]
theorem cmp_cons (a b : UInt8) (l m : List UInt8) : Lib.compareBytes (a :: l) (b :: m) = if a < b then -1 else if b < a then 1 else Lib.compareBytes l m := by
  rw [Lib.compareBytes]
theorem u8_tri (a b : UInt8) : a < b ∨ a = b ∨ b < a := by
  rcases Nat.lt_trichotomy a.toNat b.toNat with h | h | h
  · exact .inl (UInt8.lt_iff_toNat_lt.2 h)
  · exact .inr (.inl (UInt8.toNat_inj.1 h))
  · exact .inr (.inr (UInt8.lt_iff_toNat_lt.2 h))
theorem u8_asym {a b : UInt8} (h : a < b) : ¬ b < a := by
  rw [UInt8.lt_iff_toNat_lt] at *; omega
theorem u8_irr (a : UInt8) : ¬ a < a := by rw [UInt8.lt_iff_toNat_lt]; omega
theorem u8_trans {a b c : UInt8} (h : a < b) (k : b < c) : a < c := by rw [UInt8.lt_iff_toNat_lt] at *; omega
theorem cmp_vals : ∀ a b : List UInt8, Lib.compareBytes a b = -1 ∨ (Lib.compareBytes a b = 0 ∧ a = b) ∨ Lib.compareBytes a b = 1
  | [], [] => .inr (.inl ⟨cmp_nil, rfl⟩)
  | [], b :: l => .inl (cmp_nil_l b l)
  | a :: l, [] => .inr (.inr (cmp_nil_r a l))
  | a :: l, b :: m => by
    rw [cmp_cons]
    rcases u8_tri a b with h | h | h
    · exact .inl (if_pos h)
    · subst h
      rw [if_neg (u8_irr a), if_neg (u8_irr a)]
      exact (cmp_vals l m).imp id (Or.imp (fun h => ⟨h.1, by rw [h.2]⟩) id)
    · rw [if_neg (u8_asym h), if_pos h]; exact .inr (.inr rfl)
theorem cmp_self : ∀ a : List UInt8, Lib.compareBytes a a = 0
  | [] => cmp_nil
  | a :: l => by rw [cmp_cons, if_neg (u8_irr a), if_neg (u8_irr a)]; exact cmp_self l
theorem cmp_zero (a b : List UInt8) : Lib.compareBytes a b = 0 ↔ a = b := by
  constructor
  · intro h
    rcases cmp_vals a b with h1 | h1 | h1
    · omega
    · exact h1.2
    · omega
  · rintro rfl; exact cmp_self a
theorem cmp_swap : ∀ a b : List UInt8, Lib.compareBytes a b = - Lib.compareBytes b a
  | [], [] => by rw [cmp_nil]; rfl
  | [], b :: l => by rw [cmp_nil_l, cmp_nil_r]
  | a :: l, [] => by rw [cmp_nil_l, cmp_nil_r]; rfl
  | a :: l, b :: m => by
    rw [cmp_cons, cmp_cons]
    rcases u8_tri a b with h | h | h
    · rw [if_pos h, if_neg (u8_asym h), if_pos h]
    · subst h
      rw [if_neg (u8_irr a), if_neg (u8_irr a), if_neg (u8_irr a), if_neg (u8_irr a)]
      exact cmp_swap l m
    · rw [if_neg (u8_asym h), if_pos h, if_pos h]; rfl
theorem cmp_trans : ∀ a b c : List UInt8, Lib.compareBytes a b < 0 → Lib.compareBytes b c < 0 → Lib.compareBytes a c < 0
  | [], b, [], h, k => by
    cases b with
    | nil => rw [cmp_nil] at h; omega
    | cons b l => rw [cmp_nil_r] at k; omega
  | [], _, c :: n, _, _ => by rw [cmp_nil_l]; omega
  | a :: l, [], _, h, _ => by rw [cmp_nil_r] at h; omega
  | a :: l, b :: m, [], _, k => by rw [cmp_nil_r] at k; omega
  | a :: l, b :: m, c :: n, h, k => by
    rw [cmp_cons] at h k ⊢
    rcases u8_tri a b with h1 | h1 | h1
    · rcases u8_tri b c with h2 | h2 | h2
      · rw [if_pos (u8_trans h1 h2)]; omega
      · subst h2; rw [if_pos h1]; omega
      · rw [if_neg (u8_asym h2), if_pos h2] at k; omega
    · subst h1
      rw [if_neg (u8_irr a), if_neg (u8_irr a)] at h
      rcases u8_tri a c with h2 | h2 | h2
      · rw [if_pos h2]; omega
      · subst h2
        rw [if_neg (u8_irr a), if_neg (u8_irr a)] at k ⊢
        exact cmp_trans l m n h k
      · rw [if_neg (u8_asym h2), if_pos h2] at k; omega
    · rw [if_neg (u8_asym h1), if_pos h1] at h; omega
theorem lt_tri (a b : List UInt8) : ltK a b = true ∨ a = b ∨ ltK b a = true := by
  unfold ltK
  rcases cmp_vals a b with h | h | h
  · exact .inl (by rw [h]; rfl)
  · exact .inr (.inl h.2)
  · refine .inr (.inr ?_)
    have := cmp_swap b a
    rw [h] at this
    rw [this]; rfl
theorem lt_irr (a : List UInt8) : ltK a a = false := by unfold ltK; rw [cmp_self]; rfl
theorem lt_trans {a b c : List UInt8} (h : ltK a b = true) (k : ltK b c = true) : ltK a c = true := by
  unfold ltK at *
  exact decide_eq_true (cmp_trans a b c (of_decide_eq_true h) (of_decide_eq_true k))
theorem lt_asym {a b : List UInt8} (h : ltK a b = true) : ltK b a = false := by
  cases k : ltK b a with
  | false => rfl
  | true => have := lt_trans h k; rw [lt_irr] at this; cases this
/-- By rising keys. -/
def Srt : List En → Prop
  | [] => True
  | e :: es => (∀ x ∈ es, ltK e.key x.key = true) ∧ Srt es
def ins (es : List En) (e : En) : List En := match es with
  | [] => [e]
  | x :: r => if ltK x.key e.key then x :: ins r e else e :: x :: r
def hasK (es : List En) (k : List UInt8) : Bool := es.any fun e => e.key == k
theorem rank_none {es : List En} {k : List UInt8} (h : ∀ x ∈ es, ltK x.key k = false) : rank es k = 0 := by
  unfold rank
  rw [List.countP_eq_zero]
  intro x hx
  rw [h x hx]; simp
theorem rank_le (es : List En) (k : List UInt8) : rank es k ≤ es.length := List.countP_le_length
theorem put_ins : ∀ (es : List En) (e : En), Srt es → putE es e = ins es e
  | [], e, _ => rfl
  | x :: r, e, h => by
    unfold ins
    by_cases hx : ltK x.key e.key = true
    · rw [if_pos hx, ← put_ins r e h.2]
      have : rank (x :: r) e.key = rank r e.key + 1 := by unfold rank; rw [List.countP_cons, if_pos hx]
      unfold putE
      rw [this]; rfl
    · rw [if_neg hx]
      have hf : ∀ y ∈ r, ltK y.key e.key = false := fun y hy => by
        cases hy2 : ltK y.key e.key with
        | false => rfl
        | true => exact absurd (lt_trans (h.1 y hy) hy2) hx
      have : rank (x :: r) e.key = 0 := rank_none fun y hy => by
        rcases List.mem_cons.1 hy with rfl | hy
        · simpa using hx
        · exact hf y hy
      unfold putE
      rw [this]; rfl
theorem found_has : ∀ (es : List En) (k : List UInt8), Srt es → foundB es k = hasK es k
  | [], k, _ => rfl
  | x :: r, k, h => by
    by_cases hx : ltK x.key k = true
    · have h1 : rank (x :: r) k = rank r k + 1 := by unfold rank; rw [List.countP_cons, if_pos hx]
      have h2 : foundB (x :: r) k = foundB r k := by unfold foundB; rw [h1]; rfl
      have h3 : (x.key == k) = false := by
        rw [beq_eq_false_iff_ne]; rintro e; rw [e, lt_irr] at hx; cases hx
      rw [h2, found_has r k h.2]
      unfold hasK
      rw [List.any_cons, h3, Bool.false_or]
    · have hx : ltK x.key k = false := by simpa using hx
      have hf : ∀ y ∈ r, ltK y.key k = false ∧ (y.key == k) = false := fun y hy => by
        have := h.1 y hy
        rcases lt_tri x.key k with h4 | h4 | h4
        · rw [h4] at hx; cases hx
        · rw [h4] at this
          exact ⟨lt_asym this, by rw [beq_eq_false_iff_ne]; rintro e; rw [e, lt_irr] at this; cases this⟩
        · have h5 := lt_trans h4 this
          exact ⟨lt_asym h5, by rw [beq_eq_false_iff_ne]; rintro e; rw [e, lt_irr] at h5; cases h5⟩
      have h1 : rank (x :: r) k = 0 := rank_none fun y hy => by
        rcases List.mem_cons.1 hy with rfl | hy
        · exact hx
        · exact (hf y hy).1
      have h2 : foundB (x :: r) k = (x.key == k) := by
        unfold foundB
        rw [h1]
        show decide (Lib.compareBytes x.key k = 0) = _
        rw [Bool.eq_iff_iff]
        simp [cmp_zero]
      have h3 : hasK r k = false := by
        unfold hasK
        rw [List.any_eq_false]
        intro y hy
        rw [(hf y hy).2]; simp
      rw [h2]
      unfold hasK at h3 ⊢
      rw [List.any_cons, h3, Bool.or_false]
theorem ins_mem : ∀ (es : List En) (e x : En), x ∈ ins es e ↔ x = e ∨ x ∈ es
  | [], e, x => by simp [ins]
  | y :: r, e, x => by
    unfold ins
    split
    · rw [List.mem_cons, ins_mem r e x, List.mem_cons]
      constructor
      · rintro (h | h | h)
        · exact .inr (.inl h)
        · exact .inl h
        · exact .inr (.inr h)
      · rintro (h | h | h)
        · exact .inr (.inl h)
        · exact .inl h
        · exact .inr (.inr h)
    · rw [List.mem_cons]
theorem ins_len : ∀ (es : List En) (e : En), (ins es e).length = es.length + 1
  | [], _ => rfl
  | y :: r, e => by
    unfold ins
    split
    · rw [List.length_cons, ins_len r e, List.length_cons]
    · rfl
theorem ins_srt : ∀ (es : List En) (e : En), Srt es → hasK es e.key = false → Srt (ins es e)
  | [], e, _, _ => ⟨fun x hx => (by cases hx), trivial⟩
  | y :: r, e, h, hk => by
    unfold hasK at hk
    rw [List.any_cons, Bool.or_eq_false_iff, beq_eq_false_iff_ne] at hk
    unfold ins
    split
    · rename_i hy
      exact ⟨fun x hx => by
        rcases (ins_mem r e x).1 hx with rfl | hx
        · exact hy
        · exact h.1 x hx, ins_srt r e h.2 hk.2⟩
    · rename_i hy
      have h2 : ltK e.key y.key = true := by
        rcases lt_tri y.key e.key with h3 | h3 | h3
        · exact absurd h3 hy
        · exact absurd h3 hk.1
        · exact h3
      exact ⟨fun x hx => by
        rcases List.mem_cons.1 hx with rfl | hx
        · exact h2
        · exact lt_trans h2 (h.1 x hx), h⟩
theorem ins_has (es : List En) (e : En) (k : List UInt8) : hasK (ins es e) k = (e.key == k || hasK es k) := by
  unfold hasK
  rw [Bool.eq_iff_iff]
  simp only [List.any_eq_true, Bool.or_eq_true]
  constructor
  · rintro ⟨x, hx, hk⟩
    rcases (ins_mem es e x).1 hx with rfl | hx
    · exact .inl hk
    · exact .inr ⟨x, hx, hk⟩
  · rintro (h | ⟨x, hx, hk⟩)
    · exact ⟨e, (ins_mem es e e).2 (.inl rfl), h⟩
    · exact ⟨x, (ins_mem es e x).2 (.inr hx), hk⟩
theorem ins_comm (a b : En) (hab : a.key ≠ b.key) : ∀ es : List En, ins (ins es a) b = ins (ins es b) a := by
  have key : ∀ (a b : En), ltK a.key b.key = true → ∀ es : List En, ins (ins es a) b = ins (ins es b) a := by
    intro a b h es
    have hba := lt_asym h
    induction es with
    | nil => simp [ins, h, hba]
    | cons x r ih =>
      by_cases h1 : ltK x.key a.key = true
      · have h2 := lt_trans h1 h
        simp [ins, h1, h2, ih]
      · by_cases h2 : ltK x.key b.key = true
        · simp [ins, h1, h2, h]
        · simp [ins, h1, h2, h, hba]
  intro es
  rcases lt_tri a.key b.key with h | h | h
  · exact key a b h es
  · exact absurd h hab
  · exact (key b a h es).symm
def okE (e : En) : Bool := !(decide (320 < e.key.length) || e.val.isEmpty || decide (1000 < e.val.length))
def pG : List En → List En → Option (List En)
  | [], es => some es
  | e :: r, es => if okE e && !hasK es e.key && es.length != 2000 then pG r (ins es e) else none
def enOf (x : Ln) : En := ⟨x.key, Lib.join x.pcs [32]⟩
theorem parse_bad {bad : Int} (hb : 0 ≤ bad) : ∀ (L : List Ln) (es : List En), parseF bad L es = none
  | [], es => by unfold parseF; rw [if_neg (by omega)]
  | x :: r, es => by
    unfold parseF
    split
    · rfl
    · split
      · rfl
      · split
        · rfl
        · split
          · rfl
          · exact parse_bad hb r _
theorem parse_pG {bad : Int} (hb : bad < 0) : ∀ (L : List Ln) (es : List En), Srt es → parseF bad L es = pG (L.map enOf) es
  | [], es, _ => by unfold parseF; rw [if_pos hb]; rfl
  | x :: r, es, hs => by
    unfold parseF
    rw [if_neg (by omega), List.map_cons, pG, found_has _ _ hs]
    have e1 : okE (enOf x) = !decide (320 < x.key.length ∨ Lib.join x.pcs [32] = [] ∨ 1000 < (Lib.join x.pcs [32]).length) := by
      unfold okE enOf
      congr 1
      rw [Bool.eq_iff_iff]
      simp [or_assoc]
    rw [e1]
    by_cases h1 : 320 < x.key.length ∨ Lib.join x.pcs [32] = [] ∨ 1000 < (Lib.join x.pcs [32]).length
    · rw [if_pos h1, decide_eq_true h1]; rfl
    · rw [if_neg h1, decide_eq_false h1]
      cases h2 : hasK es x.key with
      | true => rw [if_pos rfl, show (enOf x).key = x.key from rfl, h2]; rfl
      | false =>
        rw [if_neg Bool.false_ne_true, show (enOf x).key = x.key from rfl, h2]
        by_cases h3 : es.length = 2000
        · rw [if_pos h3, h3]; rfl
        · have h4 : (es.length != 2000) = true := by simpa using h3
          rw [if_neg h3, h4]
          have h5 : hasK es (enOf x).key = false := h2
          rw [show (⟨x.key, Lib.join x.pcs [32]⟩ : En) = enOf x from rfl, put_ins _ _ hs]
          exact parse_pG hb r _ (ins_srt _ _ hs h5)
theorem pG_perm {l m : List En} (h : l.Perm m) : ∀ es, pG l es = pG m es := by
  induction h with
  | nil => exact fun _ => rfl
  | cons x _ ih => exact fun es => by rw [pG, pG, ih]
  | swap x y l =>
    intro es
    simp only [pG]
    rw [ins_has, ins_has, ins_len, ins_len]
    by_cases hk : x.key = y.key
    · have h1 : (x.key == y.key) = true := by simpa using hk
      have h2 : (y.key == x.key) = true := by simpa using hk.symm
      rw [h1, h2]
      cases okE x <;> cases okE y <;> simp
    · have h1 : (x.key == y.key) = false := by simpa using hk
      have h2 : (y.key == x.key) = false := by simpa using fun e : y.key = x.key => hk e.symm
      rw [h1, h2, ins_comm x y hk]
      cases okE x <;> cases okE y <;> cases hasK es x.key <;> cases hasK es y.key <;> cases (es.length != 2000) <;> simp
  | trans _ _ ih1 ih2 => exact fun es => (ih1 es).trans (ih2 es)
end Go.Proofs.YtpmmaickjolimaaGreatDoor.Tb

/- Walks of table: where a key stands. -/
namespace Go.Proofs.YtpmmaickjolimaaGreatDoor.Tb
open Go.RowKit
open Ci (Bel hid)

/-- A slice of entries. -/
structure Ens (W : World) (x : Option Addr) (es : List En) : Prop where
  at_ : es = [] ∨ ∃ b o, x = some ⟨b, o, none⟩ ∧ b < W.heap.size ∧ ∀ k (hk : k < es.length), W.cell? ⟨b, o + k * 2, none⟩ = some (.string ⟨es[k].key.toArray⟩) ∧ W.cell? ⟨b, o + k * 2 + 1, none⟩ = some (.string ⟨es[k].val.toArray⟩)
  ty : es = [] ∨ ∃ b o cur, x = some ⟨b, o, none⟩ ∧ W.heap[b]? = some (.cells cur 160 (0, 0))
theorem bel_cell {a w : World} (h : Bel a w) {b o : Nat} (hb : b < a.heap.size) : w.cell? ⟨b, o, none⟩ = a.cell? ⟨b, o, none⟩ := Below.cell h hb
theorem Ens.next {W W' : World} {x : Option Addr} {es : List En} (h : Ens W x es) (hb : Bel W W') : Ens W' x es := by
  refine ⟨?_, h.ty.imp id fun ⟨b, o, cur, e, f⟩ => ⟨b, o, cur, e, hb.heap f⟩⟩
  rcases h.at_ with f | ⟨b, o, e, hs, f⟩
  · exact .inl f
  · exact .inr ⟨b, o, e, Nat.lt_of_lt_of_le hs hb.size, fun k hk => ⟨(bel_cell hb hs).trans (f k hk).1, (bel_cell hb hs).trans (f k hk).2⟩⟩
theorem Ens.place {W : World} {x : Option Addr} {es : List En} (h : Ens W x es) {k : Nat} (hk : k < es.length) : ∃ b o, x = some ⟨b, o, none⟩ ∧ W.cell? ⟨b, o + k * 2, none⟩ = some (.string ⟨es[k].key.toArray⟩) ∧ W.cell? ⟨b, o + k * 2 + 1, none⟩ = some (.string ⟨es[k].val.toArray⟩) := by
  rcases h.at_ with f | ⟨b, o, e, -, f⟩
  · rw [f] at hk; cases hk
  · exact ⟨b, o, e, f k hk⟩
set_option maxRecDepth 100000 in
theorem cmp_run (a v k : ByteArray) (w : World) : Calls Tryz.prog 154 #[.agg #[.string a, .string v], .string k] w fun e w' => e = .returned (.int .i64 (Lib.compareBytes a.data.toList k.data.toList)) ∧ Bel w w' := by
  have HC := (show Hid (∀ W, Calls Tryz.prog 155 #[.string a, .string k] W fun e w' => e = .returned (.int .i64 (Lib.compareBytes a.data.toList k.data.toList)) ∧ w' = W) from fun W => Tryz.strings_Compare a k W)
  have HB := hid ((Bel.refl w).alloc (.cells #[.string a, .string v] 160))
  generalize Lib.compareBytes a.data.toList k.data.toList = r at HC ⊢
  go_enter Tryz.func154, Tryz.ntmps154
  go_wp2_with (first | (go_at_call 155; refine (HC.out _).mono ?_; rintro e w1 ⟨rfl, rfl⟩))
  go_ret
  exact ⟨rfl, HB.out⟩
theorem srt_lt : ∀ {es : List En}, Srt es → ∀ (i j : Nat) (hi : i < es.length) (hj : j < es.length), i < j → ltK es[i].key es[j].key = true
  | [], _, _, _, hi, _, _ => by cases hi
  | e :: es, h, 0, j + 1, _, hj, _ => h.1 _ (List.getElem_mem _)
  | e :: es, h, i + 1, j + 1, hi, hj, hij => srt_lt h.2 i j (by simpa using hi) (by simpa using hj) (by omega)
theorem rank_eq {es : List En} {k : List UInt8} {lo : Nat} (hl : lo ≤ es.length) (h1 : ∀ t (ht : t < es.length), t < lo → ltK es[t].key k = true) (h2 : ∀ t (ht : t < es.length), lo ≤ t → ltK es[t].key k = false) : rank es k = lo := by
  have e : es = es.take lo ++ es.drop lo := (List.take_append_drop lo es).symm
  have a : (es.take lo).countP (fun e => ltK e.key k) = lo := by
    rw [List.countP_eq_length.2 fun x hx => ?_, List.length_take]
    · omega
    · obtain ⟨t, ht, rfl⟩ := List.getElem_of_mem hx
      rw [List.length_take] at ht
      rw [List.getElem_take]
      exact h1 t (by omega) (by omega)
  have b : (es.drop lo).countP (fun e => ltK e.key k) = 0 := by
    rw [List.countP_eq_zero]
    intro x hx
    obtain ⟨t, ht, rfl⟩ := List.getElem_of_mem hx
    rw [List.length_drop] at ht
    rw [List.getElem_drop]
    rw [h2 (lo + t) (by omega) (by omega)]; simp
  unfold rank
  rw [e, List.countP_append, a, b]
  rfl
/-- The search in hand. -/
structure BsI (es : List En) (k : List UInt8) (lo hi : Nat) : Prop where
  le : lo ≤ hi
  hle : hi ≤ es.length
  low : ∀ t (ht : t < es.length), t < lo → ltK es[t].key k = true
  high : ∀ t (ht : t < es.length), hi ≤ t → ltK es[t].key k = false
theorem BsI.up {es : List En} {k : List UInt8} {lo hi m : Nat} (h : BsI es k lo hi) (hs : Srt es) (hm : m < hi) (hm2 : lo ≤ m) (hlt : ltK (es[m]'(Nat.lt_of_lt_of_le hm h.hle)).key k = true) : BsI es k (m + 1) hi :=
  ⟨hm, h.hle, fun t ht htm => by
    by_cases e : t = m
    · subst e; exact hlt
    · exact lt_trans (srt_lt hs t m ht _ (by omega)) hlt, h.high⟩
theorem BsI.down {es : List En} {k : List UInt8} {lo hi m : Nat} (h : BsI es k lo hi) (hs : Srt es) (hm : m < hi) (hm2 : lo ≤ m) (hlt : ltK (es[m]'(Nat.lt_of_lt_of_le hm h.hle)).key k = false) : BsI es k lo m :=
  ⟨hm2, Nat.le_trans (Nat.le_of_lt hm) h.hle, h.low, fun t ht htm => by
    by_cases e : t = m
    · subst e; exact hlt
    · cases hc : ltK es[t].key k with
      | false => rfl
      | true => rw [lt_trans (srt_lt hs m t _ ht (by omega)) hc] at hlt; cases hlt⟩
theorem found_at {es : List En} {k : List UInt8} {i : Nat} (hr : rank es k = i) (hi : i < es.length) : foundB es k = decide (Lib.compareBytes es[i].key k = 0) := by
  unfold foundB
  rw [hr, List.getElem?_eq_getElem hi]
theorem found_no {es : List En} {k : List UInt8} (hr : rank es k = es.length) : foundB es k = false := by
  unfold foundB
  rw [hr, List.getElem?_eq_none (Nat.le_refl _)]
set_option maxHeartbeats 2000000 in
set_option maxRecDepth 100000 in
theorem bs_run (x : Option Addr) (es : List En) (c : Nat) (key : ByteArray) (w : World) (hE : Ens w x es) (hs : Srt es) (hn : es.length < 4611686018427387904) :
    Calls Tryz.prog 153 #[.slice x es.length c, .string key, .func (.func 154) #[] #[]] w fun e w' =>
      e = .returned (.tuple #[.int .i64 (rank es key.data.toList : Nat), .bool (foundB es key.data.toList)]) ∧ Bel w w' := by
  have HE := hid hE
  have HS := hid hs
  have eg : ∀ args w, (callFunc 154 args).run Tryz.prog w = .ok (.enter 154 args) w := enters_of Tryz.func154 (by kernel_rfl) rfl
  have H0 := hid (show BsI es key.data.toList 0 es.length from ⟨Nat.zero_le _, Nat.le_refl _, fun t _ h => absurd h (Nat.not_lt_zero _), fun t ht h => by omega⟩)
  clear hE hs
  go_enter Tryz.func153, Tryz.ntmps153
  go_wp2_with fail
  go_loopg [9, 10] es.length (fun gg v9 v10 wr => ∃ lo hi : Nat, v9 = .int .i64 lo ∧ v10 = .int .i64 hi ∧ hi ≤ lo + gg ∧ Hid (BsI es key.data.toList lo hi) ∧ Hid (Bel w wr))
  case atStart => exact ⟨0, es.length, rfl, rfl, by omega, H0.out, hid (Bel.refl w)⟩
  case round =>
    clear H0
    obtain ⟨lo, hi, rfl, rfl, hg, HI, HB⟩ := hrel
    have Hg := hid hg
    have hle := HI.out.le
    have hhle := HI.out.hle
    clear hg
    by_cases hlt : lo < hi
    · have hm : (lo + hi) / 2 < es.length := by omega
      obtain ⟨b, o, rfl, c0, c1⟩ := (HE.out.next HB.out).place hm
      have HM := (show Hid (∀ W, Calls Tryz.prog 154 #[.agg #[.string ⟨es[(lo + hi) / 2].key.toArray⟩, .string ⟨es[(lo + hi) / 2].val.toArray⟩], .string key] W fun e w' => e = .returned (.int .i64 (Lib.compareBytes es[(lo + hi) / 2].key key.data.toList)) ∧ Bel W w') from fun W => cmp_run ⟨es[(lo + hi) / 2].key.toArray⟩ ⟨es[(lo + hi) / 2].val.toArray⟩ key W)
      cases hk : ltK es[(lo + hi) / 2].key key.data.toList with
      | true =>
        have HU := hid (HI.out.up HS.out (by omega : (lo + hi) / 2 < hi) (by omega) hk)
        have b0 : decide (Lib.compareBytes es[(lo + hi) / 2].key key.data.toList < 0) = true := hk
        generalize es[(lo + hi) / 2] = y at c0 c1 HM b0
        generalize Lib.compareBytes y.key key.data.toList = r at HM b0
        clear hk HI
        go_wp2_with (first | (go_at_fn 154; refine (HM.out _).mono ?_; rintro e w2 ⟨rfl, hb2⟩))
        go_roundg (gk - 1)
        case measure => have := Hg.out; omega
        case rel => exact ⟨(lo + hi) / 2 + 1, hi, by rw [show ((lo : Int) + (hi : Int)) / 2 + 1 = (((lo + hi) / 2 + 1 : Nat) : Int) by omega], rfl, by have := Hg.out; omega, HU, hid (HB.out.trans hb2)⟩
      | false =>
        have HU := hid (HI.out.down HS.out (by omega : (lo + hi) / 2 < hi) (by omega) hk)
        have b0 : decide (Lib.compareBytes es[(lo + hi) / 2].key key.data.toList < 0) = false := hk
        generalize es[(lo + hi) / 2] = y at c0 c1 HM b0
        generalize Lib.compareBytes y.key key.data.toList = r at HM b0
        clear hk HI
        go_wp2_with (first | (go_at_fn 154; refine (HM.out _).mono ?_; rintro e w2 ⟨rfl, hb2⟩))
        go_roundg (gk - 1)
        case measure => have := Hg.out; omega
        case rel => exact ⟨lo, (lo + hi) / 2, rfl, by rw [show ((lo : Int) + (hi : Int)) / 2 = (((lo + hi) / 2 : Nat) : Int) by omega], by have := Hg.out; omega, HU, hid (HB.out.trans hb2)⟩
    · obtain rfl : hi = lo := by omega
      have HR := hid (rank_eq hhle HI.out.low HI.out.high)
      by_cases hlast : hi < es.length
      · obtain ⟨b, o, rfl, c0, c1⟩ := (HE.out.next HB.out).place hlast
        have HM := (show Hid (∀ W, Calls Tryz.prog 154 #[.agg #[.string ⟨es[hi].key.toArray⟩, .string ⟨es[hi].val.toArray⟩], .string key] W fun e w' => e = .returned (.int .i64 (Lib.compareBytes es[hi].key key.data.toList)) ∧ Bel W w') from fun W => cmp_run ⟨es[hi].key.toArray⟩ ⟨es[hi].val.toArray⟩ key W)
        have HF := hid (found_at HR.out hlast)
        generalize es[hi] = y at c0 c1 HM HF
        generalize Lib.compareBytes y.key key.data.toList = r at HM HF
        go_wp2_with (first | (go_at_fn 154; refine (HM.out _).mono ?_; rintro e w2 ⟨rfl, hb2⟩))
        go_ret2
        exact ⟨by rw [HR.out, HF.out]; rfl, HB.out.trans hb2⟩
      · obtain rfl : hi = es.length := by omega
        have HF := hid (found_no HR.out)
        go_wp2_with fail
        go_ret2
        exact ⟨by rw [HR.out, HF.out]; rfl, HB.out⟩
/-- A table in memory. -/
structure TabAt (W : World) (a : Option Addr) (es : List En) : Prop where
  at_ : ∃ b x c, a = some ⟨b, 0, none⟩ ∧ W.heap[b]? = some (.cells #[.slice x es.length c] 153 (0, 0)) ∧ Ens W x es
  srt : Srt es
  num : es.length ≤ 2000
theorem TabAt.next {W W' : World} {a : Option Addr} {es : List En} (h : TabAt W a es) (hb : Bel W W') : TabAt W' a es := by
  obtain ⟨b, x, c, e, h1, h2⟩ := h.at_
  exact ⟨⟨b, x, c, e, hb.heap h1, h2.next hb⟩, h.srt, h.num⟩
set_option maxRecDepth 100000 in
theorem place_run (b : Nat) (x : Option Addr) (es : List En) (c : Nat) (key : ByteArray) (w : World) (hb : w.heap[b]? = some (.cells #[.slice x es.length c] 153 (0, 0))) (hE : Ens w x es) (hs : Srt es) (hn : es.length < 4611686018427387904) :
    Calls Tryz.prog 103 #[.pointer (some ⟨b, 0, none⟩), .string key] w fun e w' => e = .returned (.tuple #[.int .i64 (rank es key.data.toList : Nat), .bool (foundB es key.data.toList)]) ∧ Bel w w' := by
  have HM := hid (bs_run x es c key w hE hs hn)
  have c0 : w.cell? ⟨b, 0, none⟩ = some (.slice x es.length c) := by rw [Lib.cell_of_heap hb]; rfl
  clear hE hs hb
  generalize rank es key.data.toList = r at HM ⊢
  generalize foundB es key.data.toList = f at HM ⊢
  generalize es.length = n at HM c0
  go_enter Tryz.func103, Tryz.ntmps103
  go_wp2_with (first | (go_at_call 153; refine HM.out.mono ?_; rintro e w1 ⟨rfl, hb1⟩))
  go_ret2
  exact ⟨rfl, hb1⟩
end Go.Proofs.YtpmmaickjolimaaGreatDoor.Tb

/- Walks of table: lower, the bytes that may not stand, (*line).add. -/
namespace Go.Proofs.YtpmmaickjolimaaGreatDoor.Tb
open Go.RowKit
open Ci (Bel Lay hid own_bel row_shape addr_add own_base trim_run)

/-- What the package-level variables hold that the calls read, the decoder's tables too. -/
structure Lat (w : World) : Prop where
  lay : Lay w
  size : 8 ≤ w.heap.size
  tabs : ∀ w', Bel w w' → Lib.Utf8Tabs 4 5 w'
theorem Lat.next {a w : World} (h : Lat a) (hx : Bel a w) : Lat w := ⟨h.lay.next hx, Nat.le_trans h.size hx.size, fun w' hw => h.tabs w' (hx.trans hw)⟩
set_option maxRecDepth 100000 in
theorem low1_run (x : Nat) (hx : x ≤ 1114111) (w : World) : Calls Tryz.prog 189 #[.int .i32 (x : Int)] w fun e w' => e = .returned (.int .i32 (lowI x)) ∧ Bel w w' := by
  by_cases h1 : 65 ≤ x
  · have b1 : decide ((65 : Int) ≤ (x : Int)) = true := decide_eq_true (by omega)
    by_cases h2 : x ≤ 90
    · have b2 : decide ((x : Int) ≤ 90) = true := decide_eq_true (by omega)
      have HX := hid (show lowI x = (x : Int) + 32 by unfold lowI; rw [if_pos (by omega)])
      go_enter Tryz.func189, Tryz.ntmps189
      go_wp2_with fail
      go_ret
      exact ⟨by rw [HX.out]; rfl, Bel.refl w⟩
    · have b2 : decide ((x : Int) ≤ 90) = false := decide_eq_false (by omega)
      have HX := hid (show lowI x = (x : Int) by unfold lowI; rw [if_neg (by omega)])
      go_enter Tryz.func189, Tryz.ntmps189
      go_wp2_with fail
      go_ret
      exact ⟨by rw [HX.out]; rfl, Bel.refl w⟩
  · have b1 : decide ((65 : Int) ≤ (x : Int)) = false := decide_eq_false (by omega)
    have HX := hid (show lowI x = (x : Int) by unfold lowI; rw [if_neg (by omega)])
    go_enter Tryz.func189, Tryz.ntmps189
    go_wp2_with fail
    go_ret
    exact ⟨by rw [HX.out]; rfl, Bel.refl w⟩
theorem map_run (s : ByteArray) (w : World) (hw : Lat w) (hs : s.size < 35184372088832) :
    Calls Tryz.prog 188 #[.func (.func 189) #[] #[], .string s] w fun e w' => e = .returned (.string ⟨(lowR s.data.toList).toArray⟩) ∧ Bel w w' :=
  Any.strings_Map_grows Tryz.lays230 Tryz.Builder_Extra_230 189 #[] (enters_of Tryz.func189 (by kernel_rfl) rfl) lowI s w hs (fun W x hx _ => by
    change Calls Tryz.prog 189 #[.int .i32 (x : Int)] W _
    exact low1_run x hx W) (fun x hx => by unfold lowI; split <;> omega) (hw.tabs w (Bel.refl w))
set_option maxRecDepth 100000 in
theorem tlower_run (s : ByteArray) (w : World) (hw : Lat w) (hs : s.size < 35184372088832) :
    Calls Tryz.prog 151 #[.string s] w fun e w' => e = .returned (.string ⟨(lowR s.data.toList).toArray⟩) ∧ Bel w w' := by
  have HM := hid (map_run s w hw hs)
  clear hw
  generalize lowR s.data.toList = r at HM ⊢
  go_enter Tryz.func151, Tryz.ntmps151
  go_wp2_with (first | (go_at_call 188; refine HM.out.mono ?_; rintro e w1 ⟨rfl, hb1⟩))
  go_ret
  exact ⟨rfl, hb1⟩
/-! Bytes that may not stand -/
def badR (x : Nat) : Bool := x != 9 && x != 10 && (decide (x < 32) || decide (126 < x))
def badI (s : List UInt8) (pos : Nat) : Int := match s.findIdx? badB with
  | some k => pos + k
  | none => -1
set_option maxRecDepth 100000 in
theorem badR_byte (b : UInt8) : badR b.toNat = badB b := by
  revert b
  exact Ma.u8_forall (by decide)
theorem badI_cons (b : UInt8) (l : List UInt8) (pos : Nat) : badI (b :: l) pos = if badB b then (pos : Int) else badI l (pos + 1) := by
  unfold badI
  rw [List.findIdx?_cons]
  cases hb : badB b with
  | true => simp
  | false =>
    simp only [Bool.false_eq_true, if_false]
    cases h : l.findIdx? badB with
    | none => rfl
    | some k => simp; omega
theorem idx_bad (s : ByteArray) : ∀ (f pos : Nat), pos ≤ s.size → s.size - pos ≤ f → Lib.idxFuncFrom badR true s f pos = badI (s.data.toList.drop pos) pos
  | 0, pos, h1, h2 => by
    have := Lib.size_eq s
    rw [List.drop_eq_nil_of_le (by omega)]
    rfl
  | f + 1, pos, h1, h2 => by
    have hsz := Lib.size_eq s
    by_cases hp : pos < s.size
    · unfold Lib.idxFuncFrom
      rw [if_pos hp, List.drop_eq_getElem_cons (by omega : pos < s.data.toList.length), badI_cons]
      have hg : s.get! pos = s.data.toList[pos]'(by omega) := by
        rw [Ci.get_at, List.getD_eq_getElem?_getD, List.getElem?_eq_getElem (by omega)]
        rfl
      rw [← hg]
      have hd := Lib.decode_at s pos
      by_cases hb : (s.get! pos).toNat < 128
      · have e : Utf8.decode s pos = ((s.get! pos).toNat, 1) := by
          rw [hd]; unfold Lib.decodeN; rw [if_pos hb]
        have ih := idx_bad s f (pos + 1) (by omega) (by omega)
        rw [e]
        simp only
        rw [badR_byte]
        cases badB (s.get! pos) with
        | true => rfl
        | false => exact ih
      · have hB := Ci.dec_big (s.size - pos) (s.get! pos).toNat (s.get! (pos + 1)).toNat (s.get! (pos + 2)).toNat (s.get! (pos + 3)).toNat hb (by omega)
        rw [← hd] at hB
        have eo : badR (Utf8.decode s pos).1 = true := by
          unfold badR
          rw [decide_eq_true (by omega : 126 < (Utf8.decode s pos).1), Bool.or_true, Bool.and_true, bne_iff_ne.2 (by omega), bne_iff_ne.2 (by omega)]; rfl
        have eb : badB (s.get! pos) = true := by
          rw [← badR_byte]; unfold badR
          rw [decide_eq_true (by omega : 126 < (s.get! pos).toNat), Bool.or_true, Bool.and_true, bne_iff_ne.2 (by omega), bne_iff_ne.2 (by omega)]; rfl
        rw [eo, if_pos rfl, eb, if_pos rfl]
    · rw [List.drop_eq_nil_of_le (by omega), Lib.idxFuncFrom_end _ _ _ _ _ hp]
      rfl
set_option maxRecDepth 100000 in
theorem bad1_run (x : Nat) (hx : x ≤ 1114111) (w : World) : Calls Tryz.prog 148 #[.int .i32 (x : Int)] w fun e w' => e = .returned (.bool (badR x)) ∧ Bel w w' := by
  by_cases h9 : x = 9
  · subst h9
    go_enter Tryz.func148, Tryz.ntmps148
    go_wp2_with fail
    go_ret
    exact ⟨rfl, Bel.refl w⟩
  · by_cases h10 : x = 10
    · subst h10
      go_enter Tryz.func148, Tryz.ntmps148
      go_wp2_with fail
      go_ret
      exact ⟨rfl, Bel.refl w⟩
    · have e9 : ((x : Int) == 9) = false := by rw [beq_eq_false_iff_ne]; omega
      have e10 : ((x : Int) == 10) = false := by rw [beq_eq_false_iff_ne]; omega
      have n9 : ((x : Int) != 9) = true := by rw [bne_iff_ne]; omega
      have n10 : ((x : Int) != 10) = true := by rw [bne_iff_ne]; omega
      have m9 : ¬ (x : Int) = 9 := by omega
      have m10 : ¬ (x : Int) = 10 := by omega
      have hx9 : (x != 9) = true := by rw [bne_iff_ne]; exact h9
      have hx10 : (x != 10) = true := by rw [bne_iff_ne]; exact h10
      by_cases h : x < 32
      · have b1 : decide ((x : Int) < 32) = true := decide_eq_true (by omega)
        have HX := hid (show badR x = true by unfold badR; rw [hx9, hx10, decide_eq_true h]; rfl)
        clear h h9 h10 hx9 hx10
        go_enter Tryz.func148, Tryz.ntmps148
        go_wp2_with fail
        go_ret
        exact ⟨by rw [HX.out]; rfl, Bel.refl w⟩
      · have b1 : decide ((x : Int) < 32) = false := decide_eq_false (by omega)
        have HX := hid (show badR x = decide ((126 : Int) < (x : Int)) by
          unfold badR
          rw [hx9, hx10, decide_eq_false h, Bool.false_or, Bool.true_and, Bool.true_and, decide_eq_decide]; omega)
        clear h h9 h10 hx9 hx10
        go_enter Tryz.func148, Tryz.ntmps148
        go_wp2_with fail
        go_ret
        exact ⟨by rw [HX.out]; rfl, Bel.refl w⟩
theorem badIdx_run (s : ByteArray) (w : World) : Calls Tryz.prog 143 #[.string s, .func (.func 148) #[] #[]] w fun e w' => e = .returned (.int .i64 (badAt s.data.toList)) ∧ Bel w w' := by
  have e : Lib.idxFunc badR true s = badAt s.data.toList := by
    have := idx_bad s s.size 0 (Nat.zero_le _) (by omega)
    rw [List.drop_zero] at this
    refine Eq.trans this ?_
    unfold badI badAt
    cases s.data.toList.findIdx? badB with
    | none => rfl
    | some k => simp
  rw [← e]
  exact Tryz.strings_IndexFunc_grows 148 #[] (enters_of Tryz.func148 (by kernel_rfl) rfl) badR s w fun W x hx _ => by
    change Calls Tryz.prog 148 #[.int .i32 (x : Int)] W _
    exact bad1_run x hx W
end Go.Proofs.YtpmmaickjolimaaGreatDoor.Tb
