/- Ahead of mailbox: what is left behind a phrase, a domain, a mailbox. -/
import Derived.Test.YtpmmaickjolimaaGreatDoorK16
namespace Go.Proofs.YtpmmaickjolimaaGreatDoor.Ma
open Go.RowKit

theorem phN_lt : ∀ (l : List Tk) (k : Nat), (∃ t ∈ l, t.kind = 101) → phN k l < l.length
  | [], _, h => by obtain ⟨t, h, _⟩ := h; simp at h
  | t :: l, k, h => by
    rw [phN, List.length_cons]
    by_cases c : (wrd t.kind || (t.kind == 46 && k != 0)) = true
    · rw [if_pos c]
      have hl : ∃ u ∈ l, u.kind = 101 := by
        obtain ⟨u, hu, hk⟩ := h
        rcases List.mem_cons.1 hu with rfl | hu
        · rw [hk] at c; simp [wrd] at c
        · exact ⟨u, hu, hk⟩
      have := phN_lt l (k + 1) hl
      omega
    · rw [if_neg c]; omega
theorem Sf.end_ {X : Cx} {st : St} (hX : X.Ok) (h : Sf X st) : ∃ t ∈ st.l, t.kind = 101 := by
  obtain ⟨q, e, hq⟩ := h
  obtain ⟨T', en, eT, h1, _⟩ := hX.en
  refine ⟨en, ?_, h1⟩
  have hl : q ≤ T'.length := by rw [eT, List.length_append, List.length_singleton] at hq; omega
  rw [e, eT, List.drop_append_of_le_length hl]
  simp
theorem Sf.ph {X : Cx} {st : St} (hX : X.Ok) (h : Sf X st) : phraseN st < st.l.length := by
  unfold phraseN
  split
  · exact h.pos
  · exact phN_lt _ _ (h.end_ hX)
theorem Sf.domLoop {X : Cx} (hX : X.Ok) : ∀ (n : Nat) (s : List UInt8) (t : Tk) (st : St), Sf X st → Sf X (domLoop n s t st).2.2
  | 0, _, _, _, h => h
  | n + 1, s, t, st, h => by
    rw [Ma.domLoop]
    split
    · exact Sf.domLoop hX n _ _ _ ((h.take hX (by decide)).want hX (by decide))
    · exact h
theorem Sf.dom {X : Cx} {st : St} (hX : X.Ok) (h : Sf X st) : Sf X (domQ st).2.2 := by
  unfold domQ
  split
  · exact h.take hX (by decide)
  · exact Sf.domLoop hX _ _ _ _ (h.want hX (by decide))
theorem Sf.locLoop {X : Cx} (hX : X.Ok) : ∀ (n : Nat) (s : List UInt8) (st : St), Sf X st → Sf X (locLoop n s st).2
  | 0, _, _, h => h
  | n + 1, s, st, h => by
    rw [Ma.locLoop]
    split
    · exact Sf.locLoop hX n _ _ ((h.take hX (by decide)).word hX)
    · exact h
theorem Sf.spec {X : Cx} {st : St} (hX : X.Ok) (h : Sf X st) (name : List UInt8) : Sf X (specQ name st) := by
  have h1 : Sf X (locQ st).2 := Sf.locLoop hX _ _ _ (h.word hX)
  exact ((h1.want hX (k := 64) (by decide)).dom hX).same rfl
theorem Sf.route {X : Cx} (hX : X.Ok) : ∀ (n : Nat) (st : St), Sf X st → Sf X (routeQ n st)
  | 0, _, h => h
  | n + 1, st, h => by
    have h1 : Sf X (domQ (wantS 64 st)).2.2 := (h.want hX (by decide)).dom hX
    show Sf X (if isQ 44 (domQ (wantS 64 st)).2.2 = true then routeQ n (takeS 44 (domQ (wantS 64 st)).2.2) else (domQ (wantS 64 st)).2.2)
    split
    · exact Sf.route hX n _ (h1.take hX (by decide))
    · exact h1
/-- Behind a phrase and the sign after it. -/
theorem Sf.behind {X : Cx} {st : St} (hX : X.Ok) (h : Sf X st) (hk : (st.l.getD (phraseN st) z).kind ≠ 101) : Sf X ⟨st.bad, st.l.drop (phraseN st + 1), st.all⟩ := by
  refine h.drop hX (phraseN st) (h.ph hX) ?_ st.bad st.all
  rw [List.getD_eq_getElem?_getD, List.getElem?_eq_getElem (h.ph hX)] at hk
  exact hk
theorem Sf.mailbox {X : Cx} {st : St} (hX : X.Ok) (h : Sf X st) (body : List UInt8) : Sf X (mailboxQ body st) := by
  unfold mailboxQ
  by_cases hq : (st.l.getD (phraseN st) z).kind ≠ 60
  · rw [if_pos hq]
    exact h.spec hX []
  · rw [if_neg hq]
    have hk : (st.l.getD (phraseN st) z).kind = 60 := Classical.not_not.1 hq
    have h1 := h.behind hX (by rw [hk]; decide)
    refine Sf.want hX (Sf.spec hX ?_ _) (by decide)
    split
    · exact (Sf.route hX _ _ h1).want hX (by decide)
    · exact h1
end Go.Proofs.YtpmmaickjolimaaGreatDoor.Ma

/- mailbox. -/
namespace Go.Proofs.YtpmmaickjolimaaGreatDoor.Ma
open Go.RowKit
open Ci (Bel own_bel row_shape addr_add own_base)

set_option maxHeartbeats 8000000 in
set_option maxRecDepth 100000 in
theorem mailbox_bare (X : Cx) (hX : X.Ok) (hP : X.Pos) (st : St) (sl : Value) (w : World) (h : Ps X st sl w) (hs : Sf X st) (hall : st.all.length ≤ 65537) (hq : (st.l.getD (phraseN st) z).kind ≠ 60) :
    Calls Tryz.prog 93 #[.pointer (some ⟨X.W.heap.size, 0, none⟩)] w fun e w' => e = .returned (.tuple #[]) ∧ ∃ sl', Ps X (mailboxQ X.body.data.toList st) sl' w' := by
  have hp := hs.pos
  have hn := hs.ph hX
  obtain ⟨q, cp, ad, hl, hq1, hcp1, hcp2, had, hpb⟩ := h.at_
  obtain rfl := had hp
  have HH := hid h
  have HM := hid (show mailboxQ X.body.data.toList st = specQ [] st by unfold mailboxQ; rw [if_pos hq])
  have HPH := (show Hid (Calls Tryz.prog 92 #[.pointer (some ⟨X.W.heap.size, 0, none⟩)] w fun e w' => e = .returned (.tuple #[.int .i64 (phraseN st : Nat), .string ⟨(phraseT X.body.data.toList st).toArray⟩]) ∧ Bel w w' ∧ w'.cell? ⟨X.W.heap.size, 1, none⟩ = some (.slice (some ⟨X.lb, q * 4, none⟩) st.l.length cp) ∧ w'.cell? ⟨X.lb, q * 4 + phraseN st * 4, none⟩ = some (.int .u8 (st.l.getD (phraseN st) z).kind.toNat)) from by
    refine (phrase_run X hX hP st sl w h hs).mono ?_
    rintro e w' ⟨rfl, hb⟩
    refine ⟨rfl, hb, (Ps.c1 (hb.heap hpb)).2.1, ?_⟩
    have := (h.next hb).tok hX hl (phraseN st) hn 0 _ rfl
    rw [Nat.add_mul, Nat.add_zero] at this
    rw [List.getD_eq_getElem?_getD, List.getElem?_eq_getElem hn]
    exact this)
  have HSP := (show Hid (∀ W, Ps X st sl W → Calls Tryz.prog 138 #[.pointer (some ⟨X.W.heap.size, 0, none⟩), .string ⟨#[]⟩] W fun e w' => e = .returned (.tuple #[]) ∧ ∃ sl', Ps X (specQ [] st) sl' w') from fun W hW => spec_run X hX st sl W [] hW hs hall)
  have hb1 : decide ((phraseN st : Int) < (st.l.length : Int)) = true := decide_eq_true (by omega)
  have hle := hs.le hX
  generalize st.l.getD (phraseN st) z = t at hq HPH
  generalize phraseT X.body.data.toList st = nm at HPH
  generalize phraseN st = n at HPH hb1 hn
  have b6 : ((t.kind.toNat : Int) == 60) = false := byte_ne (n := 60) (by decide) hq
  have b6n : ¬ ((t.kind.toNat : Int) = 60) := by simpa using b6
  clear h hX hP hs hq hpb hl had
  go_enter Tryz.func93, Tryz.ntmps93
  go_wp2_with (first | (go_at_call 92; refine HPH.out.mono ?_; rintro e w1 ⟨rfl, hw1, p1, k1⟩) | (go_at_call 138; refine (HSP.out _ (HH.out.next hw1)).mono ?_; rintro e w2 ⟨rfl, sl', hp2⟩))
  refine bodyPost_ret (results_none rfl _ _ _) rfl ?_
  rw [HM.out]
  exact ⟨rfl, sl', hp2⟩
theorem routeQ_all : ∀ (n : Nat) (st : St), (routeQ n st).all = st.all
  | 0, _ => rfl
  | n + 1, st => by
    have h1 : (domQ (wantS 64 st)).2.2.all = st.all := by rw [dom_all]; rfl
    show (if isQ 44 (domQ (wantS 64 st)).2.2 = true then routeQ n (takeS 44 (domQ (wantS 64 st)).2.2) else (domQ (wantS 64 st)).2.2).all = st.all
    split
    · rw [routeQ_all n, take_all]; exact h1
    · exact h1
theorem domLoop_le : ∀ (n : Nat) (s : List UInt8) (t : Tk) (st : St), (domLoop n s t st).2.2.l.length ≤ st.l.length
  | 0, _, _, _ => Nat.le_refl _
  | n + 1, s, t, st => by
    rw [Ma.domLoop]
    split
    · refine Nat.le_trans (domLoop_le n _ _ _) ?_
      unfold wantS takeS
      (repeat' split) <;> simp <;> omega
    · exact Nat.le_refl _
theorem want_le (k : UInt8) (st : St) : (wantS k st).l.length ≤ st.l.length := by
  unfold wantS takeS
  split <;> simp
theorem dom_le (st : St) : (domQ st).2.2.l.length ≤ st.l.length := by
  unfold domQ
  split
  · unfold takeS; split <;> simp
  · exact Nat.le_trans (domLoop_le _ _ _ _) (want_le _ _)
theorem take_lt {k : UInt8} {st : St} (h : isQ k st = true) (hp : 0 < st.l.length) : (takeS k st).l.length < st.l.length := by
  unfold takeS
  rw [if_pos h]
  simp; omega
set_option maxHeartbeats 8000000 in
set_option maxRecDepth 100000 in
theorem mailbox_angle (X : Cx) (hX : X.Ok) (hP : X.Pos) (st : St) (sl : Value) (w : World) (h : Ps X st sl w) (hs : Sf X st) (hall : st.all.length ≤ 65537) (hq : (st.l.getD (phraseN st) z).kind = 60) :
    Calls Tryz.prog 93 #[.pointer (some ⟨X.W.heap.size, 0, none⟩)] w fun e w' => e = .returned (.tuple #[]) ∧ ∃ sl', Ps X (mailboxQ X.body.data.toList st) sl' w' := by
  have hp := hs.pos
  have hn := hs.ph hX
  have hsa := hs.behind hX (by rw [hq]; decide)
  obtain ⟨q, cp, ad, hl, hq1, hcp1, hcp2, had, hpb⟩ := h.at_
  obtain rfl := had hp
  have HH := hid h
  have HXX := hid hX
  have HM := hid (show mailboxQ X.body.data.toList st = wantS 62 (specQ (phraseT X.body.data.toList st) (if isQ 64 ⟨st.bad, st.l.drop (phraseN st + 1), st.all⟩ = true then wantS 58 (routeQ ((st.l.drop (phraseN st + 1)).length + 1) ⟨st.bad, st.l.drop (phraseN st + 1), st.all⟩) else ⟨st.bad, st.l.drop (phraseN st + 1), st.all⟩)) by unfold mailboxQ; rw [if_neg (by rw [hq]; simp)])
  have HPH := (show Hid (Calls Tryz.prog 92 #[.pointer (some ⟨X.W.heap.size, 0, none⟩)] w fun e w' => e = .returned (.tuple #[.int .i64 (phraseN st : Nat), .string ⟨(phraseT X.body.data.toList st).toArray⟩]) ∧ Bel w w' ∧ w'.heap[X.W.heap.size]? = some (.cells #[.string X.body, .slice (some ⟨X.lb, q * 4, none⟩) st.l.length cp, .bool st.bad, sl] 81 (0, 0)) ∧ w'.cell? ⟨X.lb, q * 4 + phraseN st * 4, none⟩ = some (.int .u8 60)) from by
    refine (phrase_run X hX hP st sl w h hs).mono ?_
    rintro e w' ⟨rfl, hb⟩
    refine ⟨rfl, hb, hb.heap hpb, ?_⟩
    have := (h.next hb).tok hX hl (phraseN st) hn 0 _ rfl
    rw [Nat.add_mul, Nat.add_zero] at this
    rw [List.getD_eq_getElem?_getD, List.getElem?_eq_getElem hn] at hq
    rw [this]
    have hq2 : st.l[phraseN st].kind = 60 := hq
    rw [hq2]; rfl)
  have hb1 : decide ((phraseN st : Int) < (st.l.length : Int)) = true := decide_eq_true (by omega)
  have hle := hs.le hX
  have hn2 : phraseN st + 1 < st.l.length := by
    have := hsa.pos
    simp only [List.length_drop] at this
    omega
  generalize phraseT X.body.data.toList st = nm at HPH HM
  have hnk : X.T.drop q = st.l := hl.symm
  obtain ⟨n, hnn⟩ : ∃ n, n = phraseN st := ⟨_, rfl⟩
  rw [← hnn] at HPH hb1 hn hn2 HM hsa
  have hcn : ¬ (cp = n + 1) := by omega
  have HA := (show Hid (∀ W W', Bel w W → (∀ k, k ≠ X.W.heap.size → W'.heap[k]? = W.heap[k]?) → (∀ U : World, Bel U W → U.heap.size ≤ X.W.heap.size → Bel U W') → W'.heap[X.W.heap.size]? = some (.cells #[.string X.body, .slice (some ⟨X.lb, q * 4 + (n + 1) * 4, none⟩) (st.l.length - (n + 1) : Nat) (cp - (n + 1) : Nat), .bool st.bad, sl] 81 (0, 0)) → Ps X ⟨st.bad, st.l.drop (n + 1), st.all⟩ sl W') from fun W W' hb ho hbb hw => (h.next hb).upd ho hbb rfl ⟨q + (n + 1), cp - (n + 1), _, by rw [hl, List.drop_drop], by have := congrArg List.length hl; rw [List.length_drop] at this; omega, by rw [List.length_drop]; omega, by omega, fun _ => by rw [Nat.add_mul], by rw [List.length_drop]; exact hw⟩)
  obtain ⟨a, haa⟩ : ∃ a : St, a = ⟨st.bad, st.l.drop (n + 1), st.all⟩ := ⟨_, rfl⟩
  have hall' : a.all.length ≤ 65537 := by rw [haa]; exact hall
  rw [← haa] at hsa HA HM
  rw [show st.l.drop (n + 1) = a.l by rw [haa]] at HM
  have HI := (show Hid (∀ W, Ps X a sl W → Calls Tryz.prog 89 #[.pointer (some ⟨X.W.heap.size, 0, none⟩), .int .u8 64] W fun e w' => e = .returned (.bool (isQ 64 a)) ∧ w' = W) from fun W hW => is_run X hX a sl W 64 hW hsa.pos)
  have HSP := (show Hid (∀ b, Sf X b → b.all.length ≤ 65537 → ∀ W, Ps X b sl W → Calls Tryz.prog 138 #[.pointer (some ⟨X.W.heap.size, 0, none⟩), .string ⟨nm.toArray⟩] W fun e w' => e = .returned (.tuple #[]) ∧ ∃ sl', Ps X (specQ nm b) sl' w') from fun b hb hbl W hW => spec_run X hX b sl W nm hW hb hbl)
  have HWA := (show Hid (∀ b, Sf X b → ∀ (k : UInt8) sl' W, Ps X b sl' W → Calls Tryz.prog 91 #[.pointer (some ⟨X.W.heap.size, 0, none⟩), .int .u8 k.toNat] W fun e w' => e = .returned (tkV (takeT k b)) ∧ Pw X (wantS k b) sl' W w') from fun b hb k sl' W hW => want_run X hX b sl' W k hW hb.pos)
  have HDO := (show Hid (∀ b, Sf X b → ∀ W, Ps X b sl W → Calls Tryz.prog 139 #[.pointer (some ⟨X.W.heap.size, 0, none⟩)] W fun e w' => e = .returned (.tuple #[.string ⟨(domQ b).1.toArray⟩, .int .i64 ((domQ b).2.1.til : Nat)]) ∧ Pw X (domQ b).2.2 sl W w') from fun b hb W hW => domain_run X hX b sl W hW hb)
  have HTO := (show Hid (∀ b, Sf X b → ∀ W, Ps X b sl W → Calls Tryz.prog 90 #[.pointer (some ⟨X.W.heap.size, 0, none⟩), .int .u8 44] W fun e w' => e = .returned (.bool (isQ 44 b)) ∧ Pw X (takeS 44 b) sl W w') from fun b hb W hW => took_run X hX b sl W 44 hW hb.pos)
  clear h hX hP hs hq hpb hl had hnk hnn hall haa
  by_cases h64 : isQ 64 a = true
  · rw [h64] at HI
    rw [if_pos h64] at HM
    clear h64
    go_enter Tryz.func93, Tryz.ntmps93
    go_wp2_with (first | (go_at_call 92; refine HPH.out.mono ?_; rintro e w1 ⟨rfl, hw1, hq1', k1⟩; have p1 := (Ps.c1 hq1').2.1) | ((with_reducible refine wpList_store_one (by with_unfolding_all rfl) 75 (.tmp 29) (.tmp 27) (by with_unfolding_all rfl) X.W.heap.size 1 _ (by with_unfolding_all rfl) (by with_unfolding_all rfl) (by with_unfolding_all rfl) slice_size [_, _, _, _] _ hq1' (by with_unfolding_all simp) ?_); intro w2 hq2 ho2 hb2 he2; have ha2 := hid (HA.out w1 w2 hw1 ho2 hb2 hq2); clear he2 hq2 ho2 hb2 hq1' p1) | (go_at_call 89; refine (HI.out _ ha2.out).mono ?_; rintro e w3 ⟨rfl, rfl⟩))
    go_loopg [33] (a.l.length + 1) (fun gg _ wr => ∃ b : St, Hid (routeQ gg b = routeQ (a.l.length + 1) a ∧ Ps X b sl wr ∧ Sf X b ∧ b.l.length < gg))
    case atStart => exact ⟨a, hid ⟨rfl, ha2.out, hsa, Nat.lt_succ_self _⟩⟩
    case round =>
      obtain ⟨b, H⟩ := hrel
      obtain ⟨hr, hps, hsb, hbl⟩ := H.out
      obtain ⟨m, hm⟩ : ∃ m, gk = m + 1 := ⟨gk - 1, by omega⟩
      have HW := (show Hid (∀ W, Ps X b sl W → Calls Tryz.prog 91 #[.pointer (some ⟨X.W.heap.size, 0, none⟩), .int .u8 64] W fun e w' => e = .returned (tkV (takeT 64 b)) ∧ Pw X (wantS 64 b) sl W w') from fun W hW => HWA.out b hsb 64 sl W hW)
      have hs1 := hsb.want HXX.out (k := 64) (by decide)
      have HD := HDO.out _ hs1
      have hs2 := hs1.dom HXX.out
      have HT := HTO.out _ hs2
      have hdl := Nat.le_trans (dom_le (wantS 64 b)) (want_le 64 b)
      have hrr : routeQ gk b = if isQ 44 (domQ (wantS 64 b)).2.2 = true then routeQ m (takeS 44 (domQ (wantS 64 b)).2.2) else (domQ (wantS 64 b)).2.2 := by rw [hm]; rfl
      rw [hr] at hrr
      have HPS := hid hps
      have HDd := (show Hid (∀ W, Ps X (wantS 64 b) sl W → Calls Tryz.prog 139 #[.pointer (some ⟨X.W.heap.size, 0, none⟩)] W fun e w' => e = .returned (.tuple #[.string ⟨(domQ (wantS 64 b)).1.toArray⟩, .int .i64 ((domQ (wantS 64 b)).2.1.til : Nat)]) ∧ Pw X (domQ (wantS 64 b)).2.2 sl W w') from HD)
      clear HD
      generalize domQ (wantS 64 b) = D at HDd HT hs2 hdl hrr
      obtain ⟨D1, D2, d⟩ := D
      dsimp only at HDd HT hs2 hdl hrr
      by_cases h44 : isQ 44 d = true
      · have HTt := (show Hid (∀ W, Ps X d sl W → Calls Tryz.prog 90 #[.pointer (some ⟨X.W.heap.size, 0, none⟩), .int .u8 44] W fun e w' => e = .returned (.bool true) ∧ Pw X (takeS 44 d) sl W w') from h44 ▸ HT)
        rw [if_pos h44] at hrr
        have hlt := take_lt h44 hs2.pos
        have HN := hid (And.intro hrr (And.intro (hs2.take HXX.out (k := 44) (by decide)) (show (takeS 44 d).l.length < m by omega)))
        have HM1 := hid hm
        clear h44 HT hr hps hsb hbl H hs1 hs2 hdl hrr hlt hm
        go_wp2_with (first | (go_at_call 91; refine (HW.out _ HPS.out).mono ?_; rintro e w4 ⟨rfl, hp4⟩) | (go_at_call 139; refine (HDd.out _ hp4.ps).mono ?_; rintro e w5 ⟨rfl, hp5⟩) | (go_at_call 90; refine (HTt.out _ hp5.ps).mono ?_; rintro e w6 ⟨rfl, hp6⟩))
        go_roundg m
        case measure => have := HM1.out; omega
        case rel => exact ⟨_, hid ⟨HN.out.1.symm, hp6.ps, HN.out.2.1, HN.out.2.2⟩⟩
      · have HTt := (show Hid (∀ W, Ps X d sl W → Calls Tryz.prog 90 #[.pointer (some ⟨X.W.heap.size, 0, none⟩), .int .u8 44] W fun e w' => e = .returned (.bool false) ∧ Pw X (takeS 44 d) sl W w') from good_of h44 ▸ HT)
        rw [if_neg h44] at hrr
        have hts : takeS 44 d = d := by unfold takeS; rw [if_neg h44]
        rw [hts] at HTt
        have hda : d.all = a.all := by rw [← hrr]; exact routeQ_all _ _
        have hs3 := hs2.want HXX.out (k := 58) (by decide)
        have HW5 := (show Hid (∀ W, Ps X d sl W → Calls Tryz.prog 91 #[.pointer (some ⟨X.W.heap.size, 0, none⟩), .int .u8 58] W fun e w' => e = .returned (tkV (takeT 58 d)) ∧ Pw X (wantS 58 d) sl W w') from fun W hW => HWA.out d hs2 58 sl W hW)
        have HS := (show Hid (∀ W, Ps X (wantS 58 d) sl W → Calls Tryz.prog 138 #[.pointer (some ⟨X.W.heap.size, 0, none⟩), .string ⟨nm.toArray⟩] W fun e w' => e = .returned (.tuple #[]) ∧ ∃ sl', Ps X (specQ nm (wantS 58 d)) sl' w') from HSP.out _ hs3 (by show d.all.length ≤ _; rw [hda]; exact hall'))
        have HW6 := (show Hid (∀ sl' W, Ps X (specQ nm (wantS 58 d)) sl' W → Calls Tryz.prog 91 #[.pointer (some ⟨X.W.heap.size, 0, none⟩), .int .u8 62] W fun e w' => e = .returned (tkV (takeT 62 (specQ nm (wantS 58 d)))) ∧ Pw X (wantS 62 (specQ nm (wantS 58 d))) sl' W w') from fun sl' W hW => HWA.out _ (hs3.spec HXX.out nm) 62 sl' W hW)
        have HE := hid (show mailboxQ X.body.data.toList st = wantS 62 (specQ nm (wantS 58 d)) by rw [HM.out, hrr])
        clear h44 HT hr hps hsb hbl H hs1 hs2 hdl hrr hm hts hda hs3
        go_wp2_with (first | (go_at_call 91; first | ((with_reducible refine (HW.out _ HPS.out).mono ?_); rintro e w4 ⟨rfl, hp4⟩) | ((with_reducible refine (HW5.out _ hp6.ps).mono ?_); rintro e w7 ⟨rfl, hp7⟩) | ((with_reducible refine (HW6.out _ _ hp8).mono ?_); rintro e w9 ⟨rfl, hp9⟩)) | (go_at_call 139; refine (HDd.out _ hp4.ps).mono ?_; rintro e w5 ⟨rfl, hp5⟩) | (go_at_call 90; refine (HTt.out _ hp5.ps).mono ?_; rintro e w6 ⟨rfl, hp6⟩) | (go_at_call 138; refine (HS.out _ hp7.ps).mono ?_; rintro e w8 ⟨rfl, sl', hp8⟩))
        show bodyPost Tryz.prog Tryz.f93 _ Exit.normal _ _
        refine bodyPost_end (results_none rfl _ _ _) rfl ?_
        rw [HE.out]
        exact ⟨rfl, sl', hp9.ps⟩
  · have HIf := good_of h64
    rw [HIf] at HI
    rw [if_neg h64] at HM
    have HS := (show Hid (∀ W, Ps X a sl W → Calls Tryz.prog 138 #[.pointer (some ⟨X.W.heap.size, 0, none⟩), .string ⟨nm.toArray⟩] W fun e w' => e = .returned (.tuple #[]) ∧ ∃ sl', Ps X (specQ nm a) sl' w') from HSP.out _ hsa hall')
    have HW6 := (show Hid (∀ sl' W, Ps X (specQ nm a) sl' W → Calls Tryz.prog 91 #[.pointer (some ⟨X.W.heap.size, 0, none⟩), .int .u8 62] W fun e w' => e = .returned (tkV (takeT 62 (specQ nm a))) ∧ Pw X (wantS 62 (specQ nm a)) sl' W w') from fun sl' W hW => HWA.out _ (hsa.spec HXX.out nm) 62 sl' W hW)
    clear h64 HIf hsa hall'
    go_enter Tryz.func93, Tryz.ntmps93
    go_wp2_with (first | (go_at_call 92; refine HPH.out.mono ?_; rintro e w1 ⟨rfl, hw1, hq1', k1⟩; have p1 := (Ps.c1 hq1').2.1) | ((with_reducible refine wpList_store_one (by with_unfolding_all rfl) 75 (.tmp 29) (.tmp 27) (by with_unfolding_all rfl) X.W.heap.size 1 _ (by with_unfolding_all rfl) (by with_unfolding_all rfl) (by with_unfolding_all rfl) slice_size [_, _, _, _] _ hq1' (by with_unfolding_all simp) ?_); intro w2 hq2 ho2 hb2 he2; have ha2 := hid (HA.out w1 w2 hw1 ho2 hb2 hq2); clear he2 hq2 ho2 hb2 hq1' p1) | (go_at_call 89; refine (HI.out _ ha2.out).mono ?_; rintro e w3 ⟨rfl, rfl⟩) | (go_at_call 138; refine (HS.out _ ha2.out).mono ?_; rintro e w8 ⟨rfl, sl', hp8⟩) | (go_at_call 91; refine (HW6.out _ _ hp8).mono ?_; rintro e w9 ⟨rfl, hp9⟩))
    show bodyPost Tryz.prog Tryz.f93 _ Exit.normal _ _
    refine bodyPost_end (results_none rfl _ _ _) rfl ?_
    rw [HM.out]
    exact ⟨rfl, sl', hp9.ps⟩
theorem mailbox_run (X : Cx) (hX : X.Ok) (hP : X.Pos) (st : St) (sl : Value) (w : World) (h : Ps X st sl w) (hs : Sf X st) (hall : st.all.length ≤ 65537) :
    Calls Tryz.prog 93 #[.pointer (some ⟨X.W.heap.size, 0, none⟩)] w fun e w' => e = .returned (.tuple #[]) ∧ ∃ sl', Ps X (mailboxQ X.body.data.toList st) sl' w' := by
  by_cases hq : (st.l.getD (phraseN st) z).kind = 60
  · exact mailbox_angle X hX hP st sl w h hs hall hq
  · exact mailbox_bare X hX hP st sl w h hs hall hq
end Go.Proofs.YtpmmaickjolimaaGreatDoor.Ma

/- Counts: mailboxes that were read and tokens that are left. -/
namespace Go.Proofs.YtpmmaickjolimaaGreatDoor.Ma

def cnt (st : St) : Nat := st.all.length + st.l.length
theorem locLoop_le : ∀ (n : Nat) (s : List UInt8) (st : St), (locLoop n s st).2.l.length ≤ st.l.length
  | 0, _, _ => Nat.le_refl _
  | n + 1, s, st => by
    rw [Ma.locLoop]
    split
    · refine Nat.le_trans (locLoop_le n _ _) (Nat.le_trans (word_le _) ?_)
      unfold takeS
      split <;> simp
    · exact Nat.le_refl _
theorem isQ_ne {k : UInt8} {st : St} (hk : k ≠ 0) (h : isQ k st = true) : 0 < st.l.length := by
  cases st with
  | mk bad l all => cases l with
    | nil => simp [isQ, hd, z, Ne.symm hk] at h
    | cons t l => simp
theorem word_lt {st : St} (h : (wordS st).bad = false) : (wordS st).l.length < st.l.length := by
  unfold wordS at h ⊢
  by_cases hq : isQ 113 st = true
  · rw [if_pos hq]
    exact take_lt hq (isQ_ne (by decide) hq)
  · rw [if_neg hq] at h ⊢
    have h2 := want_bad h
    exact take_lt h2 (isQ_ne (by decide) h2)
theorem spec_cnt (name : List UInt8) (st : St) (h : (specQ name st).bad = false) : cnt (specQ name st) ≤ cnt st ∧ (specQ name st).l.length ≤ st.l.length := by
  have hw : (wordS st).bad = false := good_of fun hb => by
    have h1 : (locQ st).2 = wordS st := by unfold locQ; rw [locLoop_bad _ _ _ hb]
    have h2 : (specQ name st).bad = true := dom_bad _ (by rw [h1]; simp [wantS, hb])
    rw [h2] at h; exact absurd h (by simp)
  have h1 := word_lt hw
  have h2 : (locQ st).2.l.length ≤ (wordS st).l.length := locLoop_le _ _ _
  have h3 := want_le 64 (locQ st).2
  have h4 := dom_le (wantS 64 (locQ st).2)
  have h5 : (domQ (wantS 64 (locQ st).2)).2.2.all = st.all := by
    rw [dom_all]
    show (locQ st).2.all = st.all
    unfold locQ
    rw [locLoop_all, word_all]
  unfold cnt
  show ((domQ (wantS 64 (locQ st).2)).2.2.all ++ [_]).length + (domQ (wantS 64 (locQ st).2)).2.2.l.length ≤ _ ∧ (domQ (wantS 64 (locQ st).2)).2.2.l.length ≤ _
  rw [h5, List.length_append, List.length_singleton]
  omega
theorem route_le : ∀ (n : Nat) (st : St), (routeQ n st).l.length ≤ st.l.length
  | 0, _ => Nat.le_refl _
  | n + 1, st => by
    have h1 : (domQ (wantS 64 st)).2.2.l.length ≤ st.l.length := Nat.le_trans (dom_le _) (want_le _ _)
    show (if isQ 44 (domQ (wantS 64 st)).2.2 = true then routeQ n (takeS 44 (domQ (wantS 64 st)).2.2) else (domQ (wantS 64 st)).2.2).l.length ≤ _
    split
    · refine Nat.le_trans (route_le n _) (Nat.le_trans ?_ h1)
      unfold takeS
      split <;> simp
    · exact h1
theorem want_good {k : UInt8} {st : St} (h : (wantS k st).bad = false) : st.bad = false := by
  unfold wantS at h
  simp at h
  exact h.1
theorem mailbox_cnt (body : List UInt8) (st : St) (h : (mailboxQ body st).bad = false) : cnt (mailboxQ body st) ≤ cnt st ∧ (mailboxQ body st).l.length ≤ st.l.length := by
  unfold mailboxQ at h ⊢
  by_cases hq : (st.l.getD (phraseN st) z).kind ≠ 60
  · rw [if_pos hq] at h ⊢
    exact spec_cnt [] st h
  · rw [if_neg hq] at h ⊢
    dsimp only at h ⊢
    have hs := want_good h
    have key : ∀ b : St, b.all = st.all → b.l.length ≤ st.l.length → (specQ (phraseT body st) b).bad = false → cnt (wantS 62 (specQ (phraseT body st) b)) ≤ cnt st ∧ (wantS 62 (specQ (phraseT body st) b)).l.length ≤ st.l.length := by
      intro b h1 h2 h3
      have h4 := spec_cnt (phraseT body st) b h3
      have h5 := want_le 62 (specQ (phraseT body st) b)
      unfold cnt at h4 ⊢
      rw [show (wantS 62 (specQ (phraseT body st) b)).all = (specQ (phraseT body st) b).all from rfl]
      rw [h1] at h4
      omega
    refine key _ ?_ ?_ hs
    · split
      · show (routeQ _ _).all = st.all
        rw [routeQ_all]
      · rfl
    · have hd : (st.l.drop (phraseN st + 1)).length ≤ st.l.length := by rw [List.length_drop]; omega
      split
      · exact Nat.le_trans (want_le _ _) (Nat.le_trans (route_le _ _) hd)
      · exact hd
/-- What commas keeps, of what its own function keeps. -/
theorem commas_cnt (e : UInt8) (f : St → St) (hf : ∀ st, (f st).bad = false → cnt (f st) ≤ cnt st ∧ (f st).l.length ≤ st.l.length) : ∀ (n : Nat) (st : St), (commasQ e f n st).bad = false → cnt (commasQ e f n st) ≤ cnt st ∧ (commasQ e f n st).l.length ≤ st.l.length
  | 0, _, _ => ⟨Nat.le_refl _, Nat.le_refl _⟩
  | n + 1, st, h => by
    rw [commasQ] at h ⊢
    generalize ha : (if (!isQ 44 st && !isQ e st && !st.bad) = true then f st else st) = a at h ⊢
    have h1 : a.bad = false → cnt a ≤ cnt st ∧ a.l.length ≤ st.l.length := by
      intro hb
      by_cases hc : (!isQ 44 st && !isQ e st && !st.bad) = true
      · rw [if_pos hc] at ha
        subst ha
        exact hf st hb
      · rw [if_neg hc] at ha
        subst ha
        exact ⟨Nat.le_refl _, Nat.le_refl _⟩
    by_cases hq : isQ 44 a = true
    · rw [if_pos hq] at h ⊢
      have h2 := commas_cnt e f hf n (takeS 44 a) h
      have h3 := h1 (isQ_bad hq)
      have h4 := take_lt hq (isQ_ne (by decide) hq)
      have h5 := take_all 44 a
      unfold cnt at *
      rw [h5] at h2
      omega
    · rw [if_neg hq] at h ⊢
      have h3 := h1 (want_good h)
      have h4 := want_le e a
      unfold cnt at *
      rw [show (wantS e a).all = a.all from rfl]
      omega
end Go.Proofs.YtpmmaickjolimaaGreatDoor.Ma

/- commas, over mailboxes. -/
namespace Go.Proofs.YtpmmaickjolimaaGreatDoor.Ma
open Go.RowKit
open Ci (Bel own_bel row_shape addr_add own_base)

set_option maxHeartbeats 8000000 in
set_option maxRecDepth 100000 in
theorem commas_mb (X : Cx) (hX : X.Ok) (hP : X.Pos) (st : St) (sl : Value) (w : World) (h : Ps X st sl w) (hs : Sf X st) (hbad : st.bad = false) (hc : cnt st ≤ 65537) :
    Calls Tryz.prog 46 #[.pointer (some ⟨X.W.heap.size, 0, none⟩), .int .u8 59, .func (.func 93) #[.pointer (some ⟨X.W.heap.size, 0, none⟩)] #[]] w fun e w' => e = .returned (.tuple #[]) ∧ ∃ sl', Ps X (commasQ 59 (mailboxQ X.body.data.toList) (st.l.length + 1) st) sl' w' := by
  have HIS := (show Hid (∀ (k : UInt8) b, Sf X b → ∀ sl' W, Ps X b sl' W → Calls Tryz.prog 89 #[.pointer (some ⟨X.W.heap.size, 0, none⟩), .int .u8 k.toNat] W fun e w' => e = .returned (.bool (isQ k b)) ∧ w' = W) from fun k b hb sl' W hW => is_run X hX b sl' W k hW hb.pos)
  have HTO := (show Hid (∀ b, Sf X b → ∀ sl' W, Ps X b sl' W → Calls Tryz.prog 90 #[.pointer (some ⟨X.W.heap.size, 0, none⟩), .int .u8 44] W fun e w' => e = .returned (.bool (isQ 44 b)) ∧ Pw X (takeS 44 b) sl' W w') from fun b hb sl' W hW => took_run X hX b sl' W 44 hW hb.pos)
  have HWA := (show Hid (∀ b, Sf X b → ∀ sl' W, Ps X b sl' W → Calls Tryz.prog 91 #[.pointer (some ⟨X.W.heap.size, 0, none⟩), .int .u8 59] W fun e w' => e = .returned (tkV (takeT 59 b)) ∧ Pw X (wantS 59 b) sl' W w') from fun b hb sl' W hW => want_run X hX b sl' W 59 hW hb.pos)
  have HMB := (show Hid (∀ b, Sf X b → b.all.length ≤ 65537 → ∀ sl' W, Ps X b sl' W → Calls Tryz.prog 93 #[.pointer (some ⟨X.W.heap.size, 0, none⟩)] W fun e w' => e = .returned (.tuple #[]) ∧ ∃ sl2, Ps X (mailboxQ X.body.data.toList b) sl2 w') from fun b hb hl sl' W hW => mailbox_run X hX hP b sl' W hW hb hl)
  have HXX := hid hX
  have HH := hid h
  clear hP h hX
  go_enter Tryz.func46, Tryz.ntmps46
  go_wp2_with fail
  go_loopg [6] (st.l.length + 1) (fun gg _ wr => ∃ (b : St) (sl' : Value), Hid (commasQ 59 (mailboxQ X.body.data.toList) gg b = commasQ 59 (mailboxQ X.body.data.toList) (st.l.length + 1) st ∧ Ps X b sl' wr ∧ Sf X b ∧ b.l.length < gg ∧ b.bad = false ∧ cnt b ≤ 65537))
  case atStart => exact ⟨st, sl, hid ⟨rfl, HH.out, hs, Nat.lt_succ_self _, hbad, hc⟩⟩
  case round =>
    obtain ⟨b, sl', H⟩ := hrel
    obtain ⟨hr, hps, hsb, hbl, hbb, hbc⟩ := H.out
    obtain ⟨m, hm⟩ : ∃ m, gk = m + 1 := ⟨gk - 1, by omega⟩
    have hrr : commasQ 59 (mailboxQ X.body.data.toList) gk b = if isQ 44 (if (!isQ 44 b && !isQ 59 b && !b.bad) = true then mailboxQ X.body.data.toList b else b) = true then commasQ 59 (mailboxQ X.body.data.toList) m (takeS 44 (if (!isQ 44 b && !isQ 59 b && !b.bad) = true then mailboxQ X.body.data.toList b else b)) else wantS 59 (if (!isQ 44 b && !isQ 59 b && !b.bad) = true then mailboxQ X.body.data.toList b else b) := by rw [hm]; rfl
    rw [hr, hbb] at hrr
    have HI1 := (show Hid (∀ W, Ps X b sl' W → Calls Tryz.prog 89 #[.pointer (some ⟨X.W.heap.size, 0, none⟩), .int .u8 44] W fun e w' => e = .returned (.bool (isQ 44 b)) ∧ w' = W) from fun W hW => HIS.out 44 b hsb sl' W hW)
    have HI2 := (show Hid (∀ W, Ps X b sl' W → Calls Tryz.prog 89 #[.pointer (some ⟨X.W.heap.size, 0, none⟩), .int .u8 59] W fun e w' => e = .returned (.bool (isQ 59 b)) ∧ w' = W) from fun W hW => HIS.out 59 b hsb sl' W hW)
    have HPS := hid hps
    have p2 : wr.cell? ⟨X.W.heap.size, 2, none⟩ = some (.bool false) := by
      obtain ⟨k', cp', ad', h1, h2, h3, h4, h5, h6⟩ := hps.at_
      have := (Ps.c1 h6).2.2.1
      rw [hbb] at this
      exact this
    by_cases q1 : isQ 44 b = true
    · have HT := (show Hid (∀ W, Ps X b sl' W → Calls Tryz.prog 90 #[.pointer (some ⟨X.W.heap.size, 0, none⟩), .int .u8 44] W fun e w' => e = .returned (.bool true) ∧ Pw X (takeS 44 b) sl' W w') from fun W hW => q1 ▸ HTO.out b hsb sl' W hW)
      rw [q1] at HI1
      simp only [q1, Bool.not_true, Bool.false_and, Bool.false_eq_true, if_false, if_true] at hrr
      have hlt := take_lt q1 hsb.pos
      have HN := hid (And.intro hrr (And.intro (hsb.take HXX.out (k := 44) (by decide)) (And.intro (show (takeS 44 b).l.length < m by omega) (And.intro ((take_bad 44 b).trans hbb) (show cnt (takeS 44 b) ≤ 65537 by unfold cnt at hbc ⊢; rw [take_all]; omega)))))
      have HM1 := hid hm
      clear q1 hr hps hsb hbl hbb hbc H hrr hlt hm
      go_wp2_with (first | (go_at_call 89; (with_reducible refine (HI1.out _ HPS.out).mono ?_); rintro e w3 ⟨rfl, rfl⟩) | (go_at_call 90; refine (HT.out _ HPS.out).mono ?_; rintro e w6 ⟨rfl, hp6⟩))
      go_roundg m
      case measure => have := HM1.out; omega
      case rel => exact ⟨_, sl', hid ⟨HN.out.1.symm, hp6.ps, HN.out.2⟩⟩
    · have q1f := good_of q1
      rw [q1f] at HI1
      by_cases q2 : isQ 59 b = true
      · have HT := (show Hid (∀ W, Ps X b sl' W → Calls Tryz.prog 90 #[.pointer (some ⟨X.W.heap.size, 0, none⟩), .int .u8 44] W fun e w' => e = .returned (.bool false) ∧ Pw X (takeS 44 b) sl' W w') from fun W hW => q1f ▸ HTO.out b hsb sl' W hW)
        have hts : takeS 44 b = b := by unfold takeS; rw [if_neg q1]
        rw [hts] at HT
        rw [q2] at HI2
        simp only [q1f, q2, Bool.not_true, Bool.and_false, Bool.false_and, Bool.false_eq_true, if_false] at hrr
        have HW := HWA.out b hsb
        have HR := hid hrr
        clear q1 q1f q2 hr hps hsb hbl hbb hbc H hrr hm hts
        go_wp2_with (first | (go_at_call 89; first | ((with_reducible refine (HI1.out _ HPS.out).mono ?_); rintro e w3 ⟨rfl, rfl⟩) | ((with_reducible refine (HI2.out _ HPS.out).mono ?_); rintro e w3 ⟨rfl, rfl⟩)) | (go_at_call 90; refine (HT.out _ HPS.out).mono ?_; rintro e w6 ⟨rfl, hp6⟩) | (go_at_call 91; refine (HW _ _ hp6.ps).mono ?_; rintro e w7 ⟨rfl, hp7⟩))
        show bodyPost Tryz.prog Tryz.f46 _ Exit.normal _ _
        refine bodyPost_end (results_none rfl _ _ _) rfl ?_
        rw [HR.out]
        exact ⟨rfl, sl', hp7.ps⟩
      · have q2f := good_of q2
        rw [q2f] at HI2
        simp only [q1f, q2f, Bool.not_false, Bool.and_true, if_true] at hrr
        have hsa := hsb.mailbox HXX.out X.body.data.toList
        have HM := (show Hid (∀ W, Ps X b sl' W → Calls Tryz.prog 93 #[.pointer (some ⟨X.W.heap.size, 0, none⟩)] W fun e w' => e = .returned (.tuple #[]) ∧ ∃ sl2, Ps X (mailboxQ X.body.data.toList b) sl2 w') from HMB.out b hsb (by unfold cnt at hbc; omega) sl')
        have hcn := mailbox_cnt X.body.data.toList b
        generalize mailboxQ X.body.data.toList b = a at HM hsa hrr hcn
        by_cases q3 : isQ 44 a = true
        · have HT := (show Hid (∀ sl2 W, Ps X a sl2 W → Calls Tryz.prog 90 #[.pointer (some ⟨X.W.heap.size, 0, none⟩), .int .u8 44] W fun e w' => e = .returned (.bool true) ∧ Pw X (takeS 44 a) sl2 W w') from fun sl2 W hW => q3 ▸ HTO.out a hsa sl2 W hW)
          rw [if_pos q3] at hrr
          have hab := isQ_bad q3
          have hcn2 := hcn hab
          have hlt := take_lt q3 hsa.pos
          have HN := hid (And.intro hrr (And.intro (hsa.take HXX.out (k := 44) (by decide)) (And.intro (show (takeS 44 a).l.length < m by omega) (And.intro ((take_bad 44 a).trans hab) (show cnt (takeS 44 a) ≤ 65537 by unfold cnt at hbc hcn2 ⊢; rw [take_all]; omega)))))
          have HM1 := hid hm
          clear q1 q1f q2 q2f q3 hr hps hsb hbl hbb hbc H hrr hlt hm hab hcn hcn2 hsa
          go_wp2_with (first | (go_at_call 89; first | ((with_reducible refine (HI1.out _ HPS.out).mono ?_); rintro e w3 ⟨rfl, rfl⟩) | ((with_reducible refine (HI2.out _ HPS.out).mono ?_); rintro e w3 ⟨rfl, rfl⟩)) | (go_at_call 93; refine (HM.out _ HPS.out).mono ?_; rintro e w5 ⟨rfl, sl2, hp5⟩) | (go_at_call 90; refine (HT.out _ _ hp5).mono ?_; rintro e w6 ⟨rfl, hp6⟩))
          go_roundg m
          case measure => have := HM1.out; omega
          case rel => exact ⟨_, sl2, hid ⟨HN.out.1.symm, hp6.ps, HN.out.2⟩⟩
        · have HT := (show Hid (∀ sl2 W, Ps X a sl2 W → Calls Tryz.prog 90 #[.pointer (some ⟨X.W.heap.size, 0, none⟩), .int .u8 44] W fun e w' => e = .returned (.bool false) ∧ Pw X (takeS 44 a) sl2 W w') from fun sl2 W hW => good_of q3 ▸ HTO.out a hsa sl2 W hW)
          have hts : takeS 44 a = a := by unfold takeS; rw [if_neg q3]
          rw [hts] at HT
          rw [if_neg q3] at hrr
          have HW := HWA.out a hsa
          have HR := hid hrr
          clear q1 q1f q2 q2f q3 hr hps hsb hbl hbb hbc H hrr hm hcn hsa hts
          go_wp2_with (first | (go_at_call 89; first | ((with_reducible refine (HI1.out _ HPS.out).mono ?_); rintro e w3 ⟨rfl, rfl⟩) | ((with_reducible refine (HI2.out _ HPS.out).mono ?_); rintro e w3 ⟨rfl, rfl⟩)) | (go_at_call 93; refine (HM.out _ HPS.out).mono ?_; rintro e w5 ⟨rfl, sl2, hp5⟩) | (go_at_call 90; refine (HT.out _ _ hp5).mono ?_; rintro e w6 ⟨rfl, hp6⟩) | (go_at_call 91; refine (HW _ _ hp6.ps).mono ?_; rintro e w7 ⟨rfl, hp7⟩))
          show bodyPost Tryz.prog Tryz.f46 _ Exit.normal _ _
          refine bodyPost_end (results_none rfl _ _ _) rfl ?_
          rw [HR.out]
          exact ⟨rfl, sl2, hp7.ps⟩
end Go.Proofs.YtpmmaickjolimaaGreatDoor.Ma

/- element. -/
namespace Go.Proofs.YtpmmaickjolimaaGreatDoor.Ma
open Go.RowKit
open Ci (Bel own_bel row_shape addr_add own_base)

set_option maxHeartbeats 8000000 in
set_option maxRecDepth 100000 in
theorem element_run (X : Cx) (hX : X.Ok) (hP : X.Pos) (st : St) (sl : Value) (w : World) (h : Ps X st sl w) (hs : Sf X st) (hbad : st.bad = false) (hc : cnt st ≤ 65537) :
    Calls Tryz.prog 47 #[.pointer (some ⟨X.W.heap.size, 0, none⟩)] w fun e w' => e = .returned (.tuple #[]) ∧ ∃ sl', Ps X (elementQ X.body.data.toList st) sl' w' := by
  have hp := hs.pos
  have hn := hs.ph hX
  obtain ⟨q, cp, ad, hl, hq1, hcp1, hcp2, had, hpb⟩ := h.at_
  obtain rfl := had hp
  have HH := hid h
  have hmf : ∀ (fn : Fn) (first cap : Array Value) (w : World), (Instr.makeFunc fn first cap).run Tryz.prog w = .ok (.func fn first cap) w := fun _ _ _ _ => rfl
  have HPH := (show Hid (Calls Tryz.prog 92 #[.pointer (some ⟨X.W.heap.size, 0, none⟩)] w fun e w' => e = .returned (.tuple #[.int .i64 (phraseN st : Nat), .string ⟨(phraseT X.body.data.toList st).toArray⟩]) ∧ Bel w w' ∧ w'.heap[X.W.heap.size]? = some (.cells #[.string X.body, .slice (some ⟨X.lb, q * 4, none⟩) st.l.length cp, .bool st.bad, sl] 81 (0, 0)) ∧ w'.cell? ⟨X.lb, q * 4 + phraseN st * 4, none⟩ = some (.int .u8 (st.l.getD (phraseN st) z).kind.toNat)) from by
    refine (phrase_run X hX hP st sl w h hs).mono ?_
    rintro e w' ⟨rfl, hb⟩
    refine ⟨rfl, hb, hb.heap hpb, ?_⟩
    have := (h.next hb).tok hX hl (phraseN st) hn 0 _ rfl
    rw [Nat.add_mul, Nat.add_zero] at this
    rw [List.getD_eq_getElem?_getD, List.getElem?_eq_getElem hn]
    exact this)
  have hb1 : decide ((phraseN st : Int) < (st.l.length : Int)) = true := decide_eq_true (by omega)
  have hle := hs.le hX
  by_cases hq : phraseN st = 0 ∨ (st.l.getD (phraseN st) z).kind ≠ 58
  · have HM := hid (show elementQ X.body.data.toList st = mailboxQ X.body.data.toList st by unfold elementQ; rw [if_pos hq])
    have HMB := (show Hid (∀ W, Ps X st sl W → Calls Tryz.prog 93 #[.pointer (some ⟨X.W.heap.size, 0, none⟩)] W fun e w' => e = .returned (.tuple #[]) ∧ ∃ sl2, Ps X (mailboxQ X.body.data.toList st) sl2 w') from fun W hW => mailbox_run X hX hP st sl W hW hs (by unfold cnt at hc; omega))
    generalize st.l.getD (phraseN st) z = t at hq HPH
    generalize phraseT X.body.data.toList st = nm at HPH
    generalize phraseN st = n at HPH hb1 hn hq
    clear h hX hP hs hpb hl had hbad hc
    by_cases h0 : n = 0
    · subst h0
      clear hq
      go_enter Tryz.func47, Tryz.ntmps47
      go_wp2_with (first | (go_at_call 92; refine HPH.out.mono ?_; rintro e w1 ⟨rfl, hw1, hq1', k1⟩; have p1 := (Ps.c1 hq1').2.1) | (go_at_call 93; refine (HMB.out _ (HH.out.next hw1)).mono ?_; rintro e w2 ⟨rfl, sl', hp2⟩))
      refine bodyPost_ret (results_none rfl _ _ _) rfl ?_
      rw [HM.out]
      exact ⟨rfl, sl', hp2⟩
    · have hk : t.kind ≠ 58 := hq.resolve_left h0
      have b0 : ((n : Int) == 0) = false := by rw [beq_eq_false_iff_ne]; omega
      have b6 : ((t.kind.toNat : Int) == 58) = false := byte_ne (n := 58) (by decide) hk
      have b6n : ¬ ((t.kind.toNat : Int) = 58) := by simpa using b6
      clear hq hk
      go_enter Tryz.func47, Tryz.ntmps47
      go_wp2_with (first | (go_at_call 92; refine HPH.out.mono ?_; rintro e w1 ⟨rfl, hw1, hq1', k1⟩; have p1 := (Ps.c1 hq1').2.1) | (go_at_call 93; refine (HMB.out _ (HH.out.next hw1)).mono ?_; rintro e w2 ⟨rfl, sl', hp2⟩))
      refine bodyPost_ret (results_none rfl _ _ _) rfl ?_
      rw [HM.out]
      exact ⟨rfl, sl', hp2⟩
  · simp only [not_or, Classical.not_not] at hq
    obtain ⟨h0, hk⟩ := hq
    have HM := hid (show elementQ X.body.data.toList st = commasQ 59 (mailboxQ X.body.data.toList) ((st.l.drop (phraseN st + 1)).length + 1) ⟨st.bad, st.l.drop (phraseN st + 1), st.all⟩ by unfold elementQ; rw [if_neg (by rintro (e | e); exact h0 e; exact e hk)])
    have hsa := hs.behind hX (by rw [hk]; decide)
    have hn2 : phraseN st + 1 < st.l.length := by
      have := hsa.pos
      simp only [List.length_drop] at this
      omega
    generalize hT : st.l.getD (phraseN st) z = t at hk HPH
    generalize phraseT X.body.data.toList st = nm at HPH
    obtain ⟨n, hnn⟩ : ∃ n, n = phraseN st := ⟨_, rfl⟩
    rw [← hnn] at HPH hb1 hn hn2 HM hsa h0
    have hcn : ¬ (cp = n + 1) := by omega
    have HA := (show Hid (∀ W W', Bel w W → (∀ k, k ≠ X.W.heap.size → W'.heap[k]? = W.heap[k]?) → (∀ U : World, Bel U W → U.heap.size ≤ X.W.heap.size → Bel U W') → W'.heap[X.W.heap.size]? = some (.cells #[.string X.body, .slice (some ⟨X.lb, q * 4 + (n + 1) * 4, none⟩) (st.l.length - (n + 1) : Nat) (cp - (n + 1) : Nat), .bool st.bad, sl] 81 (0, 0)) → Ps X ⟨st.bad, st.l.drop (n + 1), st.all⟩ sl W') from fun W W' hb ho hbb hw => (h.next hb).upd ho hbb rfl ⟨q + (n + 1), cp - (n + 1), _, by rw [hl, List.drop_drop], by have := congrArg List.length hl; rw [List.length_drop] at this; omega, by rw [List.length_drop]; omega, by omega, fun _ => by rw [Nat.add_mul], by rw [List.length_drop]; exact hw⟩)
    have HC := (show Hid (∀ W, Ps X ⟨st.bad, st.l.drop (n + 1), st.all⟩ sl W → Calls Tryz.prog 46 #[.pointer (some ⟨X.W.heap.size, 0, none⟩), .int .u8 59, .func (.func 93) #[.pointer (some ⟨X.W.heap.size, 0, none⟩)] #[]] W fun e w' => e = .returned (.tuple #[]) ∧ ∃ sl', Ps X (commasQ 59 (mailboxQ X.body.data.toList) ((st.l.drop (n + 1)).length + 1) ⟨st.bad, st.l.drop (n + 1), st.all⟩) sl' w') from fun W hW => commas_mb X hX hP _ sl W hW hsa hbad (by unfold cnt at hc ⊢; rw [List.length_drop]; dsimp only; omega))
    have b0 : ((n : Int) == 0) = false := by rw [beq_eq_false_iff_ne]; omega
    have b6 : ((t.kind.toNat : Int) == 58) = true := byte_eq (n := 58) (by decide) hk
    clear h hX hP hs hpb hl had hnn hbad hc hT hk h0
    go_enter Tryz.func47, Tryz.ntmps47
    go_wp2_with (first | (go_at_call 92; refine HPH.out.mono ?_; rintro e w1 ⟨rfl, hw1, hq1', k1⟩; have p1 := (Ps.c1 hq1').2.1) | ((with_reducible refine wpList_store_one (by with_unfolding_all rfl) 75 (.tmp 33) (.tmp 31) (by with_unfolding_all rfl) X.W.heap.size 1 _ (by with_unfolding_all rfl) (by with_unfolding_all rfl) (by with_unfolding_all rfl) slice_size [_, _, _, _] _ hq1' (by with_unfolding_all simp) ?_); intro w2 hq2 ho2 hb2 he2; have ha2 := hid (HA.out w1 w2 hw1 ho2 hb2 hq2); clear he2 hq2 ho2 hb2 hq1' p1) | (go_at_call 46; refine (HC.out _ ha2.out).mono ?_; rintro e w3 ⟨rfl, sl', hp3⟩))
    show bodyPost Tryz.prog Tryz.f47 _ Exit.normal _ _
    refine bodyPost_end (results_none rfl _ _ _) rfl ?_
    rw [HM.out]
    exact ⟨rfl, sl', hp3⟩
end Go.Proofs.YtpmmaickjolimaaGreatDoor.Ma
