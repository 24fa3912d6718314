/- commas, over elements. -/
import Derived.Test.YtpmmaickjolimaaGreatDoorK17
import Derived.Test.YtpmmaickjolimaaGreatDoorK03
import Derived.Test.YtpmmaickjolimaaGreatDoorK13
namespace Go.Proofs.YtpmmaickjolimaaGreatDoor.Ma
open Go.RowKit
open Ci (Bel own_bel row_shape addr_add own_base)

theorem Sf.commas {X : Cx} (hX : X.Ok) (e : UInt8) (he : e ≠ 101) (f : St → St) (hf : ∀ st, Sf X st → Sf X (f st)) : ∀ (n : Nat) (st : St), Sf X st → Sf X (commasQ e f n st)
  | 0, _, h => h
  | n + 1, st, h => by
    rw [commasQ]
    generalize ha : (if (!isQ 44 st && !isQ e st && !st.bad) = true then f st else st) = a
    have h1 : Sf X a := by
      subst ha
      split
      · exact hf st h
      · exact h
    split
    · exact Sf.commas hX e he f hf n _ (h1.take hX (by decide))
    · exact h1.want hX he
theorem Sf.element {X : Cx} {st : St} (hX : X.Ok) (h : Sf X st) (body : List UInt8) : Sf X (elementQ body st) := by
  unfold elementQ
  by_cases hq : phraseN st = 0 ∨ (st.l.getD (phraseN st) z).kind ≠ 58
  · rw [if_pos hq]
    exact h.mailbox hX body
  · rw [if_neg hq]
    simp only [not_or, Classical.not_not] at hq
    exact Sf.commas hX 59 (by decide) _ (fun b hb => hb.mailbox hX body) _ _ (h.behind hX (by rw [hq.2]; decide))
theorem element_cnt (body : List UInt8) (st : St) (h : (elementQ body st).bad = false) : cnt (elementQ body st) ≤ cnt st ∧ (elementQ body st).l.length ≤ st.l.length := by
  unfold elementQ at h ⊢
  by_cases hq : phraseN st = 0 ∨ (st.l.getD (phraseN st) z).kind ≠ 58
  · rw [if_pos hq] at h ⊢
    exact mailbox_cnt body st h
  · rw [if_neg hq] at h ⊢
    dsimp only at h ⊢
    have h1 := commas_cnt 59 (mailboxQ body) (fun b => mailbox_cnt body b) _ _ h
    have h2 : (st.l.drop (phraseN st + 1)).length ≤ st.l.length := by rw [List.length_drop]; omega
    unfold cnt at h1 ⊢
    dsimp only at h1
    omega
set_option maxHeartbeats 8000000 in
set_option maxRecDepth 100000 in
theorem commas_el (X : Cx) (hX : X.Ok) (hP : X.Pos) (st : St) (sl : Value) (w : World) (h : Ps X st sl w) (hs : Sf X st) (hbad : st.bad = false) (hc : cnt st ≤ 65537) :
    Calls Tryz.prog 46 #[.pointer (some ⟨X.W.heap.size, 0, none⟩), .int .u8 101, .func (.func 47) #[.pointer (some ⟨X.W.heap.size, 0, none⟩)] #[]] w fun e w' => e = .returned (.tuple #[]) ∧ ∃ sl', Ps X (commasQ 101 (elementQ X.body.data.toList) (st.l.length + 1) st) sl' w' := by
  have HIS := (show Hid (∀ (k : UInt8) b, Sf X b → ∀ sl' W, Ps X b sl' W → Calls Tryz.prog 89 #[.pointer (some ⟨X.W.heap.size, 0, none⟩), .int .u8 k.toNat] W fun e w' => e = .returned (.bool (isQ k b)) ∧ w' = W) from fun k b hb sl' W hW => is_run X hX b sl' W k hW hb.pos)
  have HTO := (show Hid (∀ b, Sf X b → ∀ sl' W, Ps X b sl' W → Calls Tryz.prog 90 #[.pointer (some ⟨X.W.heap.size, 0, none⟩), .int .u8 44] W fun e w' => e = .returned (.bool (isQ 44 b)) ∧ Pw X (takeS 44 b) sl' W w') from fun b hb sl' W hW => took_run X hX b sl' W 44 hW hb.pos)
  have HWA := (show Hid (∀ b, Sf X b → ∀ sl' W, Ps X b sl' W → Calls Tryz.prog 91 #[.pointer (some ⟨X.W.heap.size, 0, none⟩), .int .u8 101] W fun e w' => e = .returned (tkV (takeT 101 b)) ∧ Pw X (wantS 101 b) sl' W w') from fun b hb sl' W hW => want_run X hX b sl' W 101 hW hb.pos)
  have HMB := (show Hid (∀ b, Sf X b → b.bad = false → cnt b ≤ 65537 → ∀ sl' W, Ps X b sl' W → Calls Tryz.prog 47 #[.pointer (some ⟨X.W.heap.size, 0, none⟩)] W fun e w' => e = .returned (.tuple #[]) ∧ ∃ sl2, Ps X (elementQ X.body.data.toList b) sl2 w') from fun b hb hb2 hl sl' W hW => element_run X hX hP b sl' W hW hb hb2 hl)
  have HXX := hid hX
  have HH := hid h
  clear hP h hX
  go_enter Tryz.func46, Tryz.ntmps46
  go_wp2_with fail
  go_loopg [6] (st.l.length + 1) (fun gg _ wr => ∃ (b : St) (sl' : Value), Hid (commasQ 101 (elementQ X.body.data.toList) gg b = commasQ 101 (elementQ X.body.data.toList) (st.l.length + 1) st ∧ Ps X b sl' wr ∧ Sf X b ∧ b.l.length < gg ∧ b.bad = false ∧ cnt b ≤ 65537))
  case atStart => exact ⟨st, sl, hid ⟨rfl, HH.out, hs, Nat.lt_succ_self _, hbad, hc⟩⟩
  case round =>
    obtain ⟨b, sl', H⟩ := hrel
    obtain ⟨hr, hps, hsb, hbl, hbb, hbc⟩ := H.out
    obtain ⟨m, hm⟩ : ∃ m, gk = m + 1 := ⟨gk - 1, by omega⟩
    have hrr : commasQ 101 (elementQ X.body.data.toList) gk b = if isQ 44 (if (!isQ 44 b && !isQ 101 b && !b.bad) = true then elementQ X.body.data.toList b else b) = true then commasQ 101 (elementQ X.body.data.toList) m (takeS 44 (if (!isQ 44 b && !isQ 101 b && !b.bad) = true then elementQ X.body.data.toList b else b)) else wantS 101 (if (!isQ 44 b && !isQ 101 b && !b.bad) = true then elementQ X.body.data.toList b else b) := by rw [hm]; rfl
    rw [hr, hbb] at hrr
    have HI1 := (show Hid (∀ W, Ps X b sl' W → Calls Tryz.prog 89 #[.pointer (some ⟨X.W.heap.size, 0, none⟩), .int .u8 44] W fun e w' => e = .returned (.bool (isQ 44 b)) ∧ w' = W) from fun W hW => HIS.out 44 b hsb sl' W hW)
    have HI2 := (show Hid (∀ W, Ps X b sl' W → Calls Tryz.prog 89 #[.pointer (some ⟨X.W.heap.size, 0, none⟩), .int .u8 101] W fun e w' => e = .returned (.bool (isQ 101 b)) ∧ w' = W) from fun W hW => HIS.out 101 b hsb sl' W hW)
    have HPS := hid hps
    have p2 : wr.cell? ⟨X.W.heap.size, 2, none⟩ = some (.bool false) := by
      obtain ⟨k', cp', ad', h1, h2, h3, h4, h5, h6⟩ := hps.at_
      have := (Ps.c1 h6).2.2.1
      rw [hbb] at this
      exact this
    by_cases q1 : isQ 44 b = true
    · have HT := (show Hid (∀ W, Ps X b sl' W → Calls Tryz.prog 90 #[.pointer (some ⟨X.W.heap.size, 0, none⟩), .int .u8 44] W fun e w' => e = .returned (.bool true) ∧ Pw X (takeS 44 b) sl' W w') from fun W hW => q1 ▸ HTO.out b hsb sl' W hW)
      rw [q1] at HI1
      simp only [q1, Bool.not_true, Bool.false_and, Bool.false_eq_true, if_false, if_true] at hrr
      have hlt := take_lt q1 hsb.pos
      have HN := hid (And.intro hrr (And.intro (hsb.take HXX.out (k := 44) (by decide)) (And.intro (show (takeS 44 b).l.length < m by omega) (And.intro ((take_bad 44 b).trans hbb) (show cnt (takeS 44 b) ≤ 65537 by unfold cnt at hbc ⊢; rw [take_all]; omega)))))
      have HM1 := hid hm
      clear q1 hr hps hsb hbl hbb hbc H hrr hlt hm
      go_wp2_with (first | (go_at_call 89; (with_reducible refine (HI1.out _ HPS.out).mono ?_); rintro e w3 ⟨rfl, rfl⟩) | (go_at_call 90; refine (HT.out _ HPS.out).mono ?_; rintro e w6 ⟨rfl, hp6⟩))
      go_roundg m
      case measure => have := HM1.out; omega
      case rel => exact ⟨_, sl', hid ⟨HN.out.1.symm, hp6.ps, HN.out.2⟩⟩
    · have q1f := good_of q1
      rw [q1f] at HI1
      by_cases q2 : isQ 101 b = true
      · have HT := (show Hid (∀ W, Ps X b sl' W → Calls Tryz.prog 90 #[.pointer (some ⟨X.W.heap.size, 0, none⟩), .int .u8 44] W fun e w' => e = .returned (.bool false) ∧ Pw X (takeS 44 b) sl' W w') from fun W hW => q1f ▸ HTO.out b hsb sl' W hW)
        have hts : takeS 44 b = b := by unfold takeS; rw [if_neg q1]
        rw [hts] at HT
        rw [q2] at HI2
        simp only [q1f, q2, Bool.not_true, Bool.and_false, Bool.false_and, Bool.false_eq_true, if_false] at hrr
        have HW := HWA.out b hsb
        have HR := hid hrr
        clear q1 q1f q2 hr hps hsb hbl hbb hbc H hrr hm hts
        go_wp2_with (first | (go_at_call 89; first | ((with_reducible refine (HI1.out _ HPS.out).mono ?_); rintro e w3 ⟨rfl, rfl⟩) | ((with_reducible refine (HI2.out _ HPS.out).mono ?_); rintro e w3 ⟨rfl, rfl⟩)) | (go_at_call 90; refine (HT.out _ HPS.out).mono ?_; rintro e w6 ⟨rfl, hp6⟩) | (go_at_call 91; refine (HW _ _ hp6.ps).mono ?_; rintro e w7 ⟨rfl, hp7⟩))
        show bodyPost Tryz.prog Tryz.f46 _ Exit.normal _ _
        refine bodyPost_end (results_none rfl _ _ _) rfl ?_
        rw [HR.out]
        exact ⟨rfl, sl', hp7.ps⟩
      · have q2f := good_of q2
        rw [q2f] at HI2
        simp only [q1f, q2f, Bool.not_false, Bool.and_true, if_true] at hrr
        have hsa := hsb.element HXX.out X.body.data.toList
        have HM := (show Hid (∀ W, Ps X b sl' W → Calls Tryz.prog 47 #[.pointer (some ⟨X.W.heap.size, 0, none⟩)] W fun e w' => e = .returned (.tuple #[]) ∧ ∃ sl2, Ps X (elementQ X.body.data.toList b) sl2 w') from HMB.out b hsb hbb hbc sl')
        have hcn := element_cnt X.body.data.toList b
        generalize elementQ X.body.data.toList b = a at HM hsa hrr hcn
        by_cases q3 : isQ 44 a = true
        · have HT := (show Hid (∀ sl2 W, Ps X a sl2 W → Calls Tryz.prog 90 #[.pointer (some ⟨X.W.heap.size, 0, none⟩), .int .u8 44] W fun e w' => e = .returned (.bool true) ∧ Pw X (takeS 44 a) sl2 W w') from fun sl2 W hW => q3 ▸ HTO.out a hsa sl2 W hW)
          rw [if_pos q3] at hrr
          have hab := isQ_bad q3
          have hcn2 := hcn hab
          have hlt := take_lt q3 hsa.pos
          have HN := hid (And.intro hrr (And.intro (hsa.take HXX.out (k := 44) (by decide)) (And.intro (show (takeS 44 a).l.length < m by omega) (And.intro ((take_bad 44 a).trans hab) (show cnt (takeS 44 a) ≤ 65537 by unfold cnt at hbc hcn2 ⊢; rw [take_all]; omega)))))
          have HM1 := hid hm
          clear q1 q1f q2 q2f q3 hr hps hsb hbl hbb hbc H hrr hlt hm hab hcn hcn2 hsa
          go_wp2_with (first | (go_at_call 89; first | ((with_reducible refine (HI1.out _ HPS.out).mono ?_); rintro e w3 ⟨rfl, rfl⟩) | ((with_reducible refine (HI2.out _ HPS.out).mono ?_); rintro e w3 ⟨rfl, rfl⟩)) | (go_at_call 47; refine (HM.out _ HPS.out).mono ?_; rintro e w5 ⟨rfl, sl2, hp5⟩) | (go_at_call 90; refine (HT.out _ _ hp5).mono ?_; rintro e w6 ⟨rfl, hp6⟩))
          go_roundg m
          case measure => have := HM1.out; omega
          case rel => exact ⟨_, sl2, hid ⟨HN.out.1.symm, hp6.ps, HN.out.2⟩⟩
        · have HT := (show Hid (∀ sl2 W, Ps X a sl2 W → Calls Tryz.prog 90 #[.pointer (some ⟨X.W.heap.size, 0, none⟩), .int .u8 44] W fun e w' => e = .returned (.bool false) ∧ Pw X (takeS 44 a) sl2 W w') from fun sl2 W hW => good_of q3 ▸ HTO.out a hsa sl2 W hW)
          have hts : takeS 44 a = a := by unfold takeS; rw [if_neg q3]
          rw [hts] at HT
          rw [if_neg q3] at hrr
          have HW := HWA.out a hsa
          have HR := hid hrr
          clear q1 q1f q2 q2f q3 hr hps hsb hbl hbb hbc H hrr hm hcn hsa hts
          go_wp2_with (first | (go_at_call 89; first | ((with_reducible refine (HI1.out _ HPS.out).mono ?_); rintro e w3 ⟨rfl, rfl⟩) | ((with_reducible refine (HI2.out _ HPS.out).mono ?_); rintro e w3 ⟨rfl, rfl⟩)) | (go_at_call 47; refine (HM.out _ HPS.out).mono ?_; rintro e w5 ⟨rfl, sl2, hp5⟩) | (go_at_call 90; refine (HT.out _ _ hp5).mono ?_; rintro e w6 ⟨rfl, hp6⟩) | (go_at_call 91; refine (HW _ _ hp6.ps).mono ?_; rintro e w7 ⟨rfl, hp7⟩))
          show bodyPost Tryz.prog Tryz.f46 _ Exit.normal _ _
          refine bodyPost_end (results_none rfl _ _ _) rfl ?_
          rw [HR.out]
          exact ⟨rfl, sl2, hp7.ps⟩
end Go.Proofs.YtpmmaickjolimaaGreatDoor.Ma

/- What cut leaves is what the parser stands on. -/
namespace Go.Proofs.YtpmmaickjolimaaGreatDoor.Ma

theorem posn_in : ∀ (l : List It) (o : Nat), ∀ t ∈ posn o l, o ≤ t.from_ ∧ t.from_ ≤ t.til ∧ t.til ≤ o + (flat l).length
  | [], _, t, h => by simp [posn] at h
  | i :: l, o, t, h => by
    have hb : i.b.length = i.gap.length + i.raw.length := by unfold It.b; rw [List.length_append]
    rw [posn] at h
    rw [flat_cons, List.length_append]
    rcases List.mem_cons.1 h with rfl | h
    · refine ⟨?_, ?_, ?_⟩
      · show o ≤ o + i.gap.length; omega
      · show o + i.gap.length ≤ o + i.b.length; omega
      · show o + i.b.length ≤ _; omega
    · have := posn_in l (o + i.b.length) t h
      omega
theorem posn_ord : ∀ (l : List It) (o i j : Nat) (hi : i < (posn o l).length) (hj : j < (posn o l).length), i ≤ j → (posn o l)[i].from_ ≤ (posn o l)[j].til
  | [], _, _, _, hi, _, _ => by simp [posn] at hi
  | x :: l, o, i, j, hi, hj, hij => by
    cases i with
    | zero =>
      have h1 := posn_in (x :: l) o ((posn o (x :: l))[j]) (List.getElem_mem hj)
      have hb : x.b.length = x.gap.length + x.raw.length := by unfold It.b; rw [List.length_append]
      cases j with
      | zero => exact (posn_in (x :: l) o _ (List.getElem_mem hi)).2.1
      | succ j =>
        have hj' : j < (posn (o + x.b.length) l).length := by simpa [posn] using hj
        have h2 := posn_in l (o + x.b.length) ((posn (o + x.b.length) l)[j]) (List.getElem_mem hj')
        show o + x.gap.length ≤ ((posn (o + x.b.length) l)[j]).til
        omega
    | succ i =>
      cases j with
      | zero => omega
      | succ j =>
        have hi' : i < (posn (o + x.b.length) l).length := by simpa [posn] using hi
        have hj' : j < (posn (o + x.b.length) l).length := by simpa [posn] using hj
        exact posn_ord l (o + x.b.length) i j hi' hj' (by omega)
theorem posn_kind : ∀ (l : List It) (o : Nat), ∀ t ∈ posn o l, ∃ i ∈ l, t.kind = i.kind ∧ t.text = i.text
  | [], _, t, h => by simp [posn] at h
  | i :: l, o, t, h => by
    rw [posn] at h
    rcases List.mem_cons.1 h with rfl | h
    · exact ⟨i, List.mem_cons_self .., rfl, rfl⟩
    · obtain ⟨j, hj, e⟩ := posn_kind l _ t h
      exact ⟨j, List.mem_cons_of_mem _ hj, e⟩
end Go.Proofs.YtpmmaickjolimaaGreatDoor.Ma

/- Mailboxes of SMTP, in plain terms; which texts stand for them in a field. -/
namespace Go.Proofs.YtpmmaickjolimaaGreatDoor.Ma
open Ci (splitL addrQ formQ Nt rightQ)

structure Pt where
  null : Bool
  loc : List UInt8
  dom : List UInt8
  lit : Bool
deriving DecidableEq
def lowB (b : UInt8) : UInt8 := if 65 ≤ b.toNat ∧ b.toNat ≤ 90 then b + 32 else b
def lowL (l : List UInt8) : List UInt8 := l.map lowB
/-- A letter or a digit. -/
def lgB (b : UInt8) : Bool := (decide (97 ≤ b.toNat) && decide (b.toNat ≤ 122)) || (decide (65 ≤ b.toNat) && decide (b.toNat ≤ 90)) || (decide (48 ≤ b.toNat) && decide (b.toNat ≤ 57))
def ldhB (b : UInt8) : Bool := lgB b || b == 45
def patB (b : UInt8) : Bool := lgB b || ([33, 35, 36, 37, 38, 39, 42, 43, 45, 47, 61, 63, 94, 95, 96, 123, 124, 125, 126] : List UInt8).contains b
def lblQ (l : List UInt8) : Bool := !l.isEmpty && decide (l.length ≤ 63) && l.all ldhB && l.head? != some 45 && l.getLast? != some 45
def namedQ (s : List UInt8) : Bool := (splitL 46 s).all lblQ
def ipv6 : List UInt8 := [105, 112, 118, 54, 58]
def IPv6 : List UInt8 := [73, 80, 118, 54, 58]
def isLit (s : List UInt8) : Bool := decide (1 < s.length) && s.head? == some 91 && s.getLast? == some 93
def innerQ (s : List UInt8) : List UInt8 := (s.take (s.length - 1)).drop 1
def sixQ' (i : List UInt8) : Bool := decide (4 < i.length) && lowL (i.take 5) == ipv6
def stripQ (i : List UInt8) : List UInt8 := if sixQ' i then i.drop 5 else i
/-- A domain: its form, whether it is a literal, the error. -/
def domainQ (s : List UInt8) : List UInt8 × Bool × Int :=
  if isLit s then match addrQ (stripQ (innerQ s)) with
    | some n => if n.six = sixQ' (innerQ s) then (formQ n, true, 0) else ([], false, 90)
    | none => ([], false, 90)
  else if !namedQ s then ([], false, 90) else if 255 < s.length then ([], false, 91) else (lowL s, false, 0)
def dottedQ (s : List UInt8) : Bool := (splitL 46 s).all fun a => !a.isEmpty && a.all patB
def esc (b : UInt8) : List UInt8 := if b = 34 ∨ b = 92 then [92, b] else [b]
def formP (s : List UInt8) : List UInt8 := if dottedQ s then s else 34 :: (s.flatMap esc ++ [34])
def sixP (p : Pt) : Bool := match addrQ p.dom with
  | some n => n.six
  | none => false
/-- The domain as it stands in a form. -/
def domP (p : Pt) : List UInt8 := if p.lit then [91] ++ (if sixP p then IPv6 else []) ++ p.dom ++ [93] else p.dom
def shownP (p : Pt) : List UInt8 := if p.null then [] else if !p.lit && p.dom.isEmpty then formP p.loc else formP p.loc ++ [64] ++ domP p
def oddB (b : UInt8) : Bool := decide (b.toNat < 32) || decide (126 < b.toNat)
def pmL : List UInt8 := [112, 111, 115, 116, 109, 97, 115, 116, 101, 114]
def mayQ (p : Pt) : Bool :=
  if p.null then p == ⟨true, [], [], false⟩
  else if p.loc.isEmpty || p.loc.any oddB then false
  else if p.lit then match addrQ p.dom with
    | some n => formQ n == p.dom
    | none => false
  else if p.dom.isEmpty then p.loc == pmL else namedQ p.dom && lowL p.dom == p.dom
def rightP (p : Pt) : Int :=
  if !mayQ p then 90 else if p.null then 0
  else if 64 < (formP p.loc).length ∨ (!p.lit) ∧ 255 < p.dom.length ∨ 256 < (shownP p).length + 2 then 91 else 0
structure Ml where
  path : Pt
  from_ : Nat
  til : Nat
  name : List UInt8
def addrOf (loc dom : List UInt8) : Pt × Int :=
  let y : Pt := ⟨false, loc, (domainQ dom).1, (domainQ dom).2.1⟩
  (y, if (domainQ dom).2.2 = 0 then rightP y else (domainQ dom).2.2)
def mailsQ : List Sp → List Ml × Int
  | [] => ([], 0)
  | x :: r => if (addrOf x.loc x.dom).2 = 0 then
      (if (mailsQ r).2 = 0 then (⟨(addrOf x.loc x.dom).1, x.from_, x.til, x.name⟩ :: (mailsQ r).1, 0) else ([], (mailsQ r).2))
    else ([], if (addrOf x.loc x.dom).2 = 91 then 101 else 100)
def parseQ (body : List UInt8) : List Ml × Int :=
  if 65536 < body.length then ([], 101) else match readQ body with
  | none => ([], 100)
  | some L => if (mailsQ L).2 = 0 ∧ 200 < (mailsQ L).1.length then ([], 102) else mailsQ L
/-- A path as it may stand in a field. -/
def showQ (p : Pt) : List UInt8 × Int :=
  if p.null || p.dom.isEmpty then ([], 1) else if rightP p = 0 then (shownP p, 0) else ([], rightP p)
def replF (body : List UInt8) : Nat → List UInt8 → List Ml → List Pt → List UInt8 × Int
  | at_, b, x :: xs, p :: ps => if (showQ p).2 = 0 then replF body x.til (b ++ (body.take x.from_).drop at_ ++ (showQ p).1) xs ps else ([], (showQ p).2)
  | at_, b, _, _ => if 65536 < (b ++ body.drop at_).length then ([], 101) else (b ++ body.drop at_, 0)
def replaceQ (body : List UInt8) (l : List Pt) : List UInt8 × Int :=
  if (parseQ body).2 ≠ 0 then ([], (parseQ body).2) else if (parseQ body).1.length ≠ l.length then ([], 1) else replF body 0 [] (parseQ body).1 l
end Go.Proofs.YtpmmaickjolimaaGreatDoor.Ma

/- Paths that may stand in a field: put into a text, they are read as they are. -/
namespace Go.Proofs.YtpmmaickjolimaaGreatDoor.Ma
open Ci (splitL addrQ formQ Nt rightQ addrT hexL hexB digB)

/-! ### Pieces between dots -/
theorem split_join (c : UInt8) : ∀ (s p : List UInt8) (ps : List (List UInt8)), splitL c s = p :: ps → s = p ++ ps.flatMap (c :: ·)
  | [], p, ps, h => by
    rw [splitL] at h
    obtain ⟨rfl, rfl⟩ := List.cons.inj h
    rfl
  | b :: l, p, ps, h => by
    rw [splitL] at h
    by_cases hb : b = c
    · rw [if_pos hb] at h
      obtain ⟨rfl, rfl⟩ := List.cons.inj h
      rcases hs : splitL c l with _ | ⟨q, qs⟩
      · exact absurd hs (Ci.splitL_ne c l)
      · rw [List.flatMap_cons, hb, List.nil_append, List.cons_append, ← split_join c l q qs hs]
    · rw [if_neg hb] at h
      rcases hs : splitL c l with _ | ⟨q, qs⟩
      · exact absurd hs (Ci.splitL_ne c l)
      · rw [hs] at h
        obtain ⟨rfl, rfl⟩ := List.cons.inj h
        rw [List.cons_append, ← split_join c l q qs hs]
def tailI : List (List UInt8) → List It
  | [] => []
  | p :: ps => ⟨[], [46], 46, []⟩ :: ⟨[], p, 97, p⟩ :: tailI ps
def dotI (g : List UInt8) : List (List UInt8) → List It
  | [] => []
  | p :: ps => ⟨g, p, 97, p⟩ :: tailI ps
theorem tailI_flat : ∀ ps, flat (tailI ps) = ps.flatMap (46 :: ·)
  | [] => rfl
  | p :: ps => by
    show [46] ++ (p ++ flat (tailI ps)) = _
    rw [tailI_flat ps, List.flatMap_cons]
    rfl
theorem tailI_tl {w : UInt8 → Bool} (hw : w 97 = true) : ∀ ps, Tl w (tailI ps) (ps.flatMap (46 :: ·))
  | [] => .nil
  | p :: ps => by
    have := Tl.cons (w := w) ⟨[], [46], 46, []⟩ ⟨[], p, 97, p⟩ _ _ rfl hw (tailI_tl hw ps)
    rw [List.flatMap_cons]
    exact this
theorem dotI_flat (g s : List UInt8) : flat (dotI g (splitL 46 s)) = g ++ s := by
  rcases hs : splitL 46 s with _ | ⟨p, ps⟩
  · exact absurd hs (Ci.splitL_ne 46 s)
  · have := split_join 46 s p ps hs
    show (g ++ p) ++ flat (tailI ps) = _
    rw [tailI_flat, List.append_assoc, ← this]
theorem dotI_dots {w : UInt8 → Bool} (hw : w 97 = true) (g s : List UInt8) : Dots w (dotI g (splitL 46 s)) s := by
  rcases hs : splitL 46 s with _ | ⟨p, ps⟩
  · exact absurd hs (Ci.splitL_ne 46 s)
  · have h1 := split_join 46 s p ps hs
    have h2 := Dots.mk (w := w) ⟨g, p, 97, p⟩ _ _ hw (tailI_tl hw ps)
    rw [show (⟨g, p, 97, p⟩ : It).text = p from rfl, ← h1] at h2
    exact h2
theorem atom_tok (g p : List UInt8) (hg : Gap g) (hp : p ≠ []) (ha : ∀ b ∈ p, atB b = true) : Tok ⟨g, p, 97, p⟩ := by
  cases p with
  | nil => exact absurd rfl hp
  | cons b p => exact ⟨hg, .at_ g b p ha⟩
theorem sign_tok (c : UInt8) (hc : sgB c = true) : Tok ⟨[], [c], c, []⟩ := ⟨.nil, .sg [] c hc⟩
theorem tailI_tok : ∀ ps : List (List UInt8), (∀ p ∈ ps, p ≠ [] ∧ ∀ b ∈ p, atB b = true) → ∀ i ∈ tailI ps, Tok i
  | [], _, i, hi => by cases hi
  | p :: ps, h, i, hi => by
    rcases List.mem_cons.1 hi with rfl | hi
    · exact sign_tok 46 (by decide)
    · rcases List.mem_cons.1 hi with rfl | hi
      · have := h p (List.mem_cons_self ..)
        exact atom_tok [] p .nil this.1 this.2
      · exact tailI_tok ps (fun q hq => h q (List.mem_cons_of_mem _ hq)) i hi
theorem dotI_tok (g : List UInt8) (hg : Gap g) (ps : List (List UInt8)) (h : ∀ p ∈ ps, p ≠ [] ∧ ∀ b ∈ p, atB b = true) : ∀ i ∈ dotI g ps, Tok i := by
  cases ps with
  | nil => intro i hi; cases hi
  | cons p ps =>
    intro i hi
    rcases List.mem_cons.1 hi with rfl | hi
    · have := h p (List.mem_cons_self ..)
      exact atom_tok g p hg this.1 this.2
    · exact tailI_tok ps (fun q hq => h q (List.mem_cons_of_mem _ hq)) i hi
theorem atom_tail_chn : ∀ (ps : List (List UInt8)) (g p : List UInt8), Chn Nb (⟨g, p, 97, p⟩ :: tailI ps)
  | [], _, _ => trivial
  | q :: ps, _, _ => ⟨fun _ _ => by show (46 : UInt8) ≠ 97; decide, fun e => absurd (show (46 : UInt8) = 97 from e) (by decide), atom_tail_chn ps [] q⟩
theorem dotI_chn (g : List UInt8) (ps : List (List UInt8)) : Chn Nb (dotI g ps) := by
  cases ps with
  | nil => trivial
  | cons p ps => exact atom_tail_chn ps g p
theorem u8_forall {p : UInt8 → Prop} (h : ∀ n : Fin 256, p (UInt8.ofNat n.val)) : ∀ b, p b := fun b => by
  have := h ⟨b.toNat, b.toNat_lt⟩
  simpa using this
set_option maxRecDepth 100000 in
theorem pat_at : ∀ b : UInt8, patB b = true → atB b = true := u8_forall (by decide)
set_option maxRecDepth 100000 in
theorem ldh_at : ∀ b : UInt8, ldhB b = true → atB b = true ∧ b ≠ 91 := u8_forall (by decide)
theorem dotted_ok {s : List UInt8} (h : dottedQ s = true) : ∀ p ∈ splitL 46 s, p ≠ [] ∧ ∀ b ∈ p, atB b = true := by
  intro p hp
  have := List.all_eq_true.1 h p hp
  simp only [Bool.and_eq_true] at this
  refine ⟨fun e => by rw [e] at this; simp at this, fun b hb => pat_at b (List.all_eq_true.1 this.2 b hb)⟩
theorem named_ok {s : List UInt8} (h : namedQ s = true) : ∀ p ∈ splitL 46 s, p ≠ [] ∧ ∀ b ∈ p, atB b = true := by
  intro p hp
  have := List.all_eq_true.1 h p hp
  unfold lblQ at this
  simp only [Bool.and_eq_true] at this
  refine ⟨fun e => by rw [e] at this; simp at this, fun b hb => (ldh_at b (List.all_eq_true.1 this.1.1.2 b hb)).1⟩
theorem named_ne {s : List UInt8} (h : namedQ s = true) : s ≠ [] := by
  rintro rfl
  have := (named_ok h [] (by simp [splitL])).1
  exact this rfl
theorem named_head {s : List UInt8} (h : namedQ s = true) : s.head? ≠ some 91 := by
  rcases hs : splitL 46 s with _ | ⟨p, ps⟩
  · exact absurd hs (Ci.splitL_ne 46 s)
  · have h1 := split_join 46 s p ps hs
    have h2 := List.all_eq_true.1 h p (by rw [hs]; exact List.mem_cons_self ..)
    unfold lblQ at h2
    simp only [Bool.and_eq_true] at h2
    cases p with
    | nil => simp at h2
    | cons b p =>
      rw [h1]
      simp only [List.cons_append, List.head?_cons]
      intro e
      exact (ldh_at b (List.all_eq_true.1 h2.1.1.2 b (List.mem_cons_self ..))).2 (Option.some.inj e)

/-! ### Quoted texts, literals -/
set_option maxRecDepth 100000 in
theorem odd_facts : ∀ b : UInt8, oddB b = false → b ≠ 13 ∧ b ≠ 10 ∧ tab b = b ∧ ¬ (b.toNat < 32 ∧ b ≠ 9 ∨ b = 127) := u8_forall (by decide)
theorem quo_esc : ∀ (l : List UInt8), (∀ b ∈ l, oddB b = false) → quoL (l.flatMap esc ++ [34]) = some (l, (l.flatMap esc).length + 1)
  | [], _ => by simp [quoL]
  | b :: l, h => by
    have ih := quo_esc l fun x hx => h x (List.mem_cons_of_mem _ hx)
    obtain ⟨h1, h2, h3, h4⟩ := odd_facts b (h b (List.mem_cons_self ..))
    rw [List.flatMap_cons]
    by_cases he : b = 34 ∨ b = 92
    · have e1 : esc b = [92, b] := if_pos he
      rw [e1]
      show quoL (92 :: b :: (l.flatMap esc ++ [34])) = _
      rw [quoL.eq_def]
      simp only
      rw [if_neg (by decide), if_neg (by decide), if_pos trivial, if_neg (fun e => e.elim h1 h2), ih, Option.map_some, h3]
      simp only [List.length_append, List.length_cons, List.length_nil, Option.some.injEq, Prod.mk.injEq, true_and]
      omega
    · have e1 : esc b = [b] := if_neg he
      rw [e1]
      show quoL (b :: (l.flatMap esc ++ [34])) = _
      rw [quoL.eq_def]
      simp only
      rw [if_neg (fun e => he (.inl e)), if_neg (fun e => e.elim h1 h2), if_neg (fun e => he (.inr e)), if_neg h4, ih, Option.map_some, h3]
      simp only [List.length_append, List.length_cons, List.length_nil, Option.some.injEq, Prod.mk.injEq, true_and]
      omega
/-- A byte that may stand in a literal. -/
def inB (b : UInt8) : Bool := decide (32 < b.toNat) && decide (b.toNat ≤ 126) && b != 91 && b != 92 && b != 93
theorem brk_in : ∀ (l : List UInt8), (∀ b ∈ l, inB b = true) → brkL (l ++ [93]) = some (l.length + 1)
  | [], _ => by simp [brkL]
  | b :: l, h => by
    have hb := h b (List.mem_cons_self ..)
    unfold inB at hb
    simp only [Bool.and_eq_true, decide_eq_true_eq, bne_iff_ne, ne_eq] at hb
    rw [List.cons_append, brkL, if_neg hb.2, if_neg (fun hc => hc.elim (fun h => by omega) fun hc => hc.elim (fun h => by omega) fun hc => hc.elim hb.1.1.2 hb.1.2), brk_in l (fun x hx => h x (List.mem_cons_of_mem _ hx))]
    simp
set_option maxRecDepth 100000 in
theorem hex_in : ∀ b : UInt8, hexB b = true → inB b = true := u8_forall (by decide)
set_option maxRecDepth 100000 in
theorem dig_in : ∀ b : UInt8, digB b = true → inB b = true ∧ lowB b ≠ 105 := u8_forall (by decide)
theorem join_in (sep : UInt8) (hs : inB sep = true) (ps : List (List UInt8)) (hp : ∀ p ∈ ps, ∀ b ∈ p, inB b = true) : ∀ b ∈ Lib.join ps [sep], inB b = true := by
  intro b h
  cases ps with
  | nil => cases h
  | cons p ps =>
    rw [Lib.join_cons] at h
    rcases List.mem_append.1 h with h | h
    · exact hp p (List.mem_cons_self ..) b h
    · unfold Lib.joinTail at h
      obtain ⟨q, hq, hb⟩ := List.mem_flatten.1 h
      obtain ⟨r, hr, rfl⟩ := List.mem_map.1 hq
      rcases List.mem_append.1 hb with hb | hb
      · rw [List.mem_singleton.1 hb]; exact hs
      · exact hp r (List.mem_cons_of_mem _ hr) b hb
theorem form_in (n : Nt) : ∀ b ∈ formQ n, inB b = true := by
  have hd : ∀ k, ∀ b ∈ Lib.decDigits k, inB b = true := fun k b hb => (dig_in b (Ci.decDigits_ok k b hb)).1
  have hx : ∀ l : List Nat, ∀ b ∈ Lib.join (l.map hexL) [58], inB b = true := fun l => join_in 58 (by decide) _ (fun p hp b hb => by
    obtain ⟨g, -, rfl⟩ := List.mem_map.1 hp
    exact hex_in b (Ci.hexL_ok g b hb).1)
  have ha : ∀ b ∈ addrT n, inB b = true := by
    intro b hb
    unfold addrT at hb
    split at hb
    · unfold Ci.formL at hb
      split at hb
      · exact hx _ b hb
      · rcases List.mem_append.1 hb with hb | hb
        · rcases List.mem_append.1 hb with hb | hb
          · exact hx _ b hb
          · rcases List.mem_cons.1 hb with rfl | hb
            · decide
            · rw [List.mem_singleton.1 hb]; decide
        · exact hx _ b hb
    · refine join_in 46 (by decide) _ (fun p hp b hb => ?_) b hb
      obtain ⟨g, -, rfl⟩ := List.mem_map.1 hp
      exact hd g b hb
  intro b hb
  unfold formQ at hb
  split at hb
  · rcases List.mem_append.1 hb with hb | hb
    · exact ha b hb
    · rcases List.mem_cons.1 hb with rfl | hb
      · decide
      · exact hd _ b hb
  · exact ha b hb
/-- A range of IPv4: its form begins with a digit. -/
theorem form_four (n : Nt) (hn : n.Fits) (h6 : n.six = false) : ∃ b t, formQ n = b :: t ∧ digB b = true := by
  have ha : ∃ b t, addrT n = b :: t ∧ digB b = true := by
    unfold addrT
    rw [h6, if_neg (by decide)]
    rcases hl : n.addr.take 4 with _ | ⟨x, xs⟩
    · have := congrArg List.length hl
      rw [List.length_take, hn.len] at this
      simp at this
    · rw [List.map_cons, Lib.join_cons]
      have h1 : 1 ≤ (Lib.decDigits x).length := by
        have hx : x < 256 := hn.by_ x (List.mem_of_mem_take (by rw [hl]; exact List.mem_cons_self ..))
        exact (Ci.decDigits_len 2 x (by omega)).1
      rcases hd : Lib.decDigits x with _ | ⟨b, t⟩
      · rw [hd] at h1; simp at h1
      · exact ⟨b, _, rfl, Ci.decDigits_ok x b (by rw [hd]; exact List.mem_cons_self ..)⟩
  obtain ⟨b, t, e, hb⟩ := ha
  unfold formQ
  split
  · rw [e]; exact ⟨b, _, rfl, hb⟩
  · exact ⟨b, t, e, hb⟩

/-! ### A path in its place -/
structure Good (p : Pt) : Prop where
  nn : p.null = false
  dn : p.dom ≠ []
  rt : rightP p = 0
theorem Good.may {p : Pt} (h : Good p) : mayQ p = true := by
  have := h.rt
  unfold rightP at this
  cases hm : mayQ p with
  | true => rfl
  | false => rw [hm] at this; simp at this
theorem Good.len {p : Pt} (h : Good p) : ¬ (64 < (formP p.loc).length ∨ (!p.lit) = true ∧ 255 < p.dom.length ∨ 256 < (shownP p).length + 2) := by
  have h1 := h.rt
  unfold rightP at h1
  rw [h.may, h.nn] at h1
  intro hc
  rw [if_neg (by decide), if_neg (by decide), if_pos hc] at h1
  simp at h1
theorem Good.loc {p : Pt} (h : Good p) : p.loc ≠ [] ∧ ∀ b ∈ p.loc, oddB b = false := by
  have := h.may
  unfold mayQ at this
  rw [h.nn, if_neg (by decide)] at this
  by_cases hc : (p.loc.isEmpty || p.loc.any oddB) = true
  · rw [if_pos hc] at this; simp at this
  · simp only [Bool.or_eq_true, not_or] at hc
    refine ⟨fun e => hc.1 (by rw [e]; rfl), fun b hb => ?_⟩
    cases ho : oddB b with
    | false => rfl
    | true => exact absurd (List.any_eq_true.2 ⟨b, hb, ho⟩) hc.2
theorem Good.lit {p : Pt} (h : Good p) (hl : p.lit = true) : ∃ n, addrQ p.dom = some n ∧ formQ n = p.dom := by
  have := h.may
  unfold mayQ at this
  rw [h.nn, if_neg (by decide), hl] at this
  by_cases hc : (p.loc.isEmpty || p.loc.any oddB) = true
  · rw [if_pos hc] at this; simp at this
  · rw [if_neg hc, if_pos rfl] at this
    cases ha : addrQ p.dom with
    | none => rw [ha] at this; simp at this
    | some n => rw [ha] at this; exact ⟨n, rfl, by simpa using this⟩
theorem Good.nam {p : Pt} (h : Good p) (hl : p.lit = false) : namedQ p.dom = true ∧ lowL p.dom = p.dom := by
  have := h.may
  unfold mayQ at this
  rw [h.nn, if_neg (by decide), hl] at this
  have he : p.dom.isEmpty = false := by
    cases hd : p.dom with
    | nil => exact absurd hd h.dn
    | cons => rfl
  by_cases hc : (p.loc.isEmpty || p.loc.any oddB) = true
  · rw [if_pos hc] at this; simp at this
  · rw [if_neg hc, if_neg (by decide), he, if_neg (by decide)] at this
    simpa using this
theorem showQ_good {p : Pt} (h : Good p) : showQ p = (shownP p, 0) := by
  unfold showQ
  have he : p.dom.isEmpty = false := by
    cases hd : p.dom with
    | nil => exact absurd hd h.dn
    | cons => rfl
  rw [h.nn, he, if_neg (by decide), if_pos h.rt]
theorem good_of_show {p : Pt} (h : (showQ p).2 = 0) : Good p := by
  unfold showQ at h
  by_cases hc : (p.null || p.dom.isEmpty) = true
  · rw [if_pos hc] at h; simp at h
  · rw [if_neg hc] at h
    simp only [Bool.or_eq_true, not_or] at hc
    by_cases hr : rightP p = 0
    · exact ⟨by simpa using hc.1, fun e => hc.2 (by rw [e]; rfl), hr⟩
    · rw [if_neg hr] at h; exact absurd h hr
def locI (g loc : List UInt8) : List It := if dottedQ loc then dotI g (splitL 46 loc) else [⟨g, 34 :: (loc.flatMap esc ++ [34]), 113, loc⟩]
def domI (p : Pt) : List It := if p.lit then [⟨[], domP p, 108, domP p⟩] else dotI [] (splitL 46 p.dom)
def putP (g : List UInt8) (p : Pt) : Spc := ⟨locI g p.loc ++ ⟨[], [64], 64, []⟩ :: domI p, p.loc, domP p⟩
theorem locI_flat (g loc : List UInt8) : flat (locI g loc) = g ++ formP loc := by
  unfold locI formP
  split
  · exact dotI_flat g loc
  · simp [flat, It.b]
theorem domI_flat (p : Pt) : flat (domI p) = domP p := by
  unfold domI
  cases hl : p.lit with
  | true =>
    rw [if_pos rfl]
    simp [flat, It.b]
  | false =>
    rw [if_neg (by decide), dotI_flat]
    unfold domP
    rw [hl, if_neg (by decide)]
    rfl
theorem putP_flat (g : List UInt8) {p : Pt} (h : Good p) : flat (putP g p).sec = g ++ shownP p := by
  have he : p.dom.isEmpty = false := by
    cases hd : p.dom with
    | nil => exact absurd hd h.dn
    | cons => rfl
  unfold putP shownP
  rw [h.nn, if_neg (by decide), he, Bool.and_false, if_neg (by decide), flat_app, locI_flat, flat_cons, domI_flat]
  simp [It.b]
theorem litP (p : Pt) (hl : p.lit = true) : domP p = 91 :: (((if sixP p then IPv6 else []) ++ p.dom) ++ [93]) := by
  unfold domP
  rw [hl, if_pos rfl]
  simp
theorem lit_in {p : Pt} (h : Good p) (hl : p.lit = true) : ∀ b ∈ (if sixP p then IPv6 else []) ++ p.dom, inB b = true := by
  obtain ⟨n, hn, hf⟩ := h.lit hl
  intro b hb
  rcases List.mem_append.1 hb with hb | hb
  · split at hb
    · have key : ∀ b ∈ IPv6, inB b = true := by decide
      exact key b hb
    · cases hb
  · rw [← hf] at hb
    exact form_in n b hb
theorem putP_put {g : List UInt8} {p : Pt} (hg : Gap g) (h : Good p) : Put (putP g p) := by
  have hL : Dots wrd (locI g p.loc) p.loc ∧ (∀ i ∈ locI g p.loc, Tok i) ∧ Chn Nb (locI g p.loc) := by
    unfold locI
    cases hd : dottedQ p.loc with
    | true =>
      rw [if_pos rfl]
      exact ⟨dotI_dots (by decide) g p.loc, dotI_tok g hg _ (dotted_ok hd), dotI_chn g _⟩
    | false =>
      rw [if_neg (by decide)]
      refine ⟨?_, ?_, trivial⟩
      · have := Dots.mk (w := wrd) ⟨g, 34 :: (p.loc.flatMap esc ++ [34]), 113, p.loc⟩ [] [] (show wrd 113 = true by decide) .nil
        rwa [List.append_nil] at this
      · intro i hi
        rw [List.mem_singleton.1 hi]
        have := quo_esc p.loc h.loc.2
        exact ⟨hg, .qu g _ _ (by rw [this, List.length_append]; rfl)⟩
  have hD : IsDom (domI p) (domP p) ∧ (∀ i ∈ domI p, Tok i) ∧ Chn Nb (domI p) := by
    unfold domI
    cases hl : p.lit with
    | true =>
      rw [if_pos rfl]
      refine ⟨.lit _ rfl, ?_, trivial⟩
      intro i hi
      rw [List.mem_singleton.1 hi, litP p hl]
      have := brk_in _ (lit_in h hl)
      exact ⟨.nil, .li [] _ (by rw [this, List.length_append, List.length_append, List.length_append]; rfl)⟩
    | false =>
      have e : domP p = p.dom := by unfold domP; rw [hl, if_neg (by decide)]
      rw [if_neg (by decide), e]
      exact ⟨.dots _ _ (dotI_dots rfl [] p.dom), dotI_tok [] .nil _ (named_ok (h.nam hl).1), dotI_chn [] _⟩
  refine ⟨.mk _ _ _ _ _ hL.1 rfl hD.1, ?_, ?_⟩
  · intro i hi
    rcases List.mem_append.1 hi with hi | hi
    · exact hL.2.1 i hi
    · rcases List.mem_cons.1 hi with rfl | hi
      · exact sign_tok 64 (by decide)
      · exact hD.2.1 i hi
  · refine Chn.app hL.2.2 (Chn.cons hD.2.2 fun b t _ => nb_left (by show (64 : UInt8) ≠ 97; decide)) ?_
    intro x _ y t e
    obtain ⟨rfl, -⟩ := List.cons.inj e
    exact nb_right (by show (64 : UInt8) ≠ 97; decide)
/-- What is read there is that path. -/
theorem dom_good {p : Pt} (h : Good p) : domainQ (domP p) = (p.dom, p.lit, 0) := by
  cases hl : p.lit with
  | true =>
    obtain ⟨n, hn, hf⟩ := h.lit hl
    have h6 : sixP p = n.six := by unfold sixP; rw [hn]
    have hi : innerQ (domP p) = (if n.six then IPv6 else []) ++ p.dom := by
      rw [litP p hl, h6]
      unfold innerQ
      rw [List.length_cons, Nat.add_sub_cancel, List.length_append, List.length_singleton, List.take_succ_cons, List.drop_succ_cons, List.drop_zero, List.take_left]
    have ht : isLit (domP p) = true := by
      rw [litP p hl]
      unfold isLit
      rw [List.length_cons, List.length_append, List.length_singleton, List.head?_cons, List.getLast?_cons]
      simp
    have hs : sixQ' (innerQ (domP p)) = n.six ∧ stripQ (innerQ (domP p)) = p.dom := by
      rw [hi]
      cases h6 : n.six with
      | true =>
        have h1 : sixQ' (IPv6 ++ p.dom) = true := by
          unfold sixQ'
          rw [show (IPv6 ++ p.dom).take 5 = IPv6 from List.take_left (l₁ := IPv6)]
          have : decide (4 < (IPv6 ++ p.dom).length) = true := by
            rw [List.length_append]
            exact decide_eq_true (by show 4 < 5 + p.dom.length; omega)
          rw [this]
          decide
        rw [if_pos rfl]
        refine ⟨h1, ?_⟩
        unfold stripQ
        rw [if_pos h1]
        exact List.drop_left (l₁ := IPv6)
      | false =>
        rw [if_neg (by decide), List.nil_append]
        obtain ⟨b, t, e, hb⟩ := form_four n (Ci.addrQ_fits hn).1 h6
        have h1 : sixQ' p.dom = false := by
          rw [← hf, e]
          unfold sixQ'
          rw [List.take_succ_cons]
          show (_ && (lowB b :: _ == 105 :: _)) = false
          have : (lowB b == 105) = false := by simpa using (dig_in b hb).2
          rw [List.cons_beq_cons, this, Bool.false_and, Bool.and_false]
        refine ⟨h1, ?_⟩
        unfold stripQ
        rw [h1, if_neg (by decide)]
    unfold domainQ
    rw [if_pos ht, hs.2, hn]
    simp only
    rw [hs.1, if_pos rfl, hf]
  | false =>
    have e : domP p = p.dom := by unfold domP; rw [hl, if_neg (by decide)]
    have hN := h.nam hl
    have h1 : isLit p.dom = false := by
      unfold isLit
      have : (p.dom.head? == some 91) = false := by simpa using named_head hN.1
      rw [this, Bool.and_false, Bool.false_and]
    have h2 : ¬ 255 < p.dom.length := fun hc => h.len (.inr (.inl ⟨by rw [hl]; rfl, hc⟩))
    rw [e]
    unfold domainQ
    rw [h1, if_neg (by decide), hN.1, if_neg (by decide), if_neg h2, hN.2]
theorem addr_good {p : Pt} (h : Good p) : addrOf p.loc (domP p) = (p, 0) := by
  have e : (⟨false, p.loc, p.dom, p.lit⟩ : Pt) = p := by
    have := h.nn
    cases p
    simp_all
  unfold addrOf
  rw [dom_good h]
  simp only
  rw [e, if_pos trivial, h.rt]
theorem good_addr {loc dom : List UInt8} (h : (addrOf loc dom).2 = 0) : Good (addrOf loc dom).1 := by
  unfold addrOf at h ⊢
  simp only at h ⊢
  by_cases hd : (domainQ dom).2.2 = 0
  · rw [if_pos hd] at h
    refine ⟨rfl, ?_, h⟩
    show (domainQ dom).1 ≠ []
    unfold domainQ at hd ⊢
    by_cases h1 : isLit dom = true
    · rw [if_pos h1] at hd ⊢
      cases ha : addrQ (stripQ (innerQ dom)) with
      | none => rw [ha] at hd; simp at hd
      | some n =>
        rw [ha] at hd
        simp only at hd ⊢
        by_cases h6 : n.six = sixQ' (innerQ dom)
        · rw [if_pos h6]
          intro hf
          have hdq : domainQ dom = (formQ n, true, 0) := by unfold domainQ; rw [if_pos h1, ha]; simp only; rw [if_pos h6]
          rw [hdq, show formQ n = [] from hf] at h
          have hm : mayQ ⟨false, loc, [], true⟩ = false := by
            have hnone : addrQ [] = none := by decide
            unfold mayQ
            rw [if_neg Bool.false_ne_true]
            by_cases hc : (loc.isEmpty || loc.any oddB) = true
            · rw [if_pos hc]
            · rw [if_neg hc, if_pos rfl]
              simp only
              rw [hnone]
          unfold rightP at h
          rw [hm] at h
          simp at h
        · rw [if_neg h6] at hd; simp at hd
    · rw [if_neg h1] at hd ⊢
      by_cases hn : namedQ dom = true
      · rw [hn, if_neg (by decide)] at hd ⊢
        by_cases hl : 255 < dom.length
        · rw [if_pos hl] at hd; simp at hd
        · rw [if_neg hl]
          intro e
          exact named_ne hn (List.map_eq_nil_iff.1 e)
      · have : namedQ dom = false := by simpa using hn
        rw [this, if_pos (by decide)] at hd
        simp at hd
  · rw [if_neg hd] at h
    exact absurd h hd
end Go.Proofs.YtpmmaickjolimaaGreatDoor.Ma
