/- What is cut is items; mailboxes put in the place of others leave the grammar and the cutting as they are. -/
import Derived.Test.YtpmmaickjolimaaGreatDoorK02
import Derived.Test.YtpmmaickjolimaaGreatDoorProg
import Derived.WalkKit
import Derived.WalkSpells
import Derived.WalkLawsBesides
import Derived.OwnWalk
import Derived.Deep.QuietTactic
import Derived.BigQuiet
import Derived.Below
import Derived.Deep.LoopGhost
import Derived.Deep.DeepCutAuto
import Derived.Deep.CutBlock
import Derived.Deep.RegionHeld3
import Derived.Deep.MidRow
import Derived.Deep.WholeRow
import Derived.Lib.Hide
import Derived.Laws.BitsAllLaws
namespace Go.Proofs.YtpmmaickjolimaaGreatDoor.Ma

theorem Chn.tail {α : Type} {R : α → α → Prop} {a : α} {l : List α} (h : Chn R (a :: l)) : Chn R l := by
  cases l with
  | nil => trivial
  | cons b l => exact h.2
theorem Chn.cons {α : Type} {R : α → α → Prop} {a : α} {l : List α} (h : Chn R l) (h1 : ∀ b t, l = b :: t → R a b) : Chn R (a :: l) := by
  cases l with
  | nil => trivial
  | cons b l => exact ⟨h1 b l rfl, h⟩
theorem Chn.app {α : Type} {R : α → α → Prop} : ∀ {a b : List α}, Chn R a → Chn R b → (∀ x ∈ a.getLast?, ∀ y t, b = y :: t → R x y) → Chn R (a ++ b)
  | [], _, _, h, _ => h
  | [x], _, _, h, hx => Chn.cons h fun y t e => hx x (by simp) y t e
  | _ :: y :: a, _, h1, h2, hx => ⟨h1.1, Chn.app (a := y :: a) h1.2 h2 fun z hz => hx z (by rw [List.getLast?_cons_cons]; exact hz)⟩
theorem Chn.left {α : Type} {R : α → α → Prop} : ∀ {a b : List α}, Chn R (a ++ b) → Chn R a
  | [], _, _ => trivial
  | [_], _, _ => trivial
  | _ :: y :: a, b, h => ⟨h.1, Chn.left (a := y :: a) (b := b) h.2⟩
theorem Chn.right {α : Type} {R : α → α → Prop} : ∀ {a b : List α}, Chn R (a ++ b) → Chn R b
  | [], _, h => h
  | _ :: a, _, h => Chn.right (a := a) (Chn.tail h)
/-- What one step finds: bytes that are no token, or a token. -/
theorem one_sound (s : List UInt8) (n : Nat) (x : Option (UInt8 × List UInt8)) (h : one s = some (n, x)) :
    ∃ c t, s = c ++ t ∧ c.length = n ∧ 0 < n ∧ match x with
      | none => ∀ g, Gap g → Gap (c ++ g)
      | some (k, u) => Raw ⟨[], c, k, u⟩ ∧ (k = 97 → Nxt t) := by
  cases s with
  | nil => simp [one] at h
  | cons b s =>
    rw [one] at h
    by_cases h1 : blB b = true
    · rw [if_pos h1] at h
      obtain ⟨rfl, rfl⟩ := Prod.mk.inj (Option.some.inj h)
      exact ⟨[b], s, rfl, rfl, by decide, fun g hg => .bl b g h1 hg⟩
    rw [if_neg h1] at h
    by_cases h2 : b = 40
    · rw [if_pos h2] at h
      obtain ⟨m, h3, h4⟩ := Option.map_eq_some_iff.1 h
      obtain ⟨rfl, rfl⟩ := Prod.mk.inj h4
      obtain ⟨c, t, e, rfl, h5, h6⟩ := cmt_loc _ _ _ _ (Nat.le_refl _) h3
      refine ⟨c, t, e, rfl, h5, fun g hg => ?_⟩
      cases c with
      | nil => simp at h5
      | cons b' c =>
        rw [List.cons_append] at e
        obtain ⟨rfl, rfl⟩ := List.cons.inj e
        subst h2
        exact .cm c g (by have := h6 []; rw [List.append_nil] at this; exact this) hg
    rw [if_neg h2] at h
    by_cases h3 : b = 34
    · rw [if_pos h3] at h
      obtain ⟨⟨u, m⟩, h4, h5⟩ := Option.map_eq_some_iff.1 h
      obtain ⟨rfl, rfl⟩ := Prod.mk.inj h5
      obtain ⟨c, t, rfl, rfl, h5, h6⟩ := quo_loc _ _ _ _ (Nat.le_refl _) h4
      subst h3
      exact ⟨34 :: c, t, rfl, rfl, by omega, .qu [] c u (by have := h6 []; rw [List.append_nil] at this; exact this), fun h => absurd h (by decide)⟩
    rw [if_neg h3] at h
    by_cases h4 : b = 91
    · rw [if_pos h4] at h
      obtain ⟨m, h5, h6⟩ := Option.map_eq_some_iff.1 h
      obtain ⟨rfl, rfl⟩ := Prod.mk.inj h6
      obtain ⟨c, t, rfl, rfl, h7, h8⟩ := brk_loc _ _ h5
      subst h4
      refine ⟨91 :: c, t, rfl, rfl, by omega, ?_, fun h => absurd h (by decide)⟩
      rw [List.take_succ_cons, List.take_left]
      exact .li [] c (by have := h8 []; rw [List.append_nil] at this; exact this)
    rw [if_neg h4] at h
    by_cases h5 : sgB b = true
    · rw [if_pos h5] at h
      obtain ⟨rfl, e⟩ := Prod.mk.inj (Option.some.inj h)
      subst e
      exact ⟨[b], s, rfl, rfl, by decide, .sg [] b h5, fun h => absurd h (sg_ne h5).2.2.2.2.2.1⟩
    rw [if_neg h5] at h
    by_cases h6 : atB b = true
    · rw [if_pos h6] at h
      obtain ⟨rfl, e⟩ := Prod.mk.inj (Option.some.inj h)
      subst e
      obtain ⟨c, t, rfl, h7, h8, h9⟩ := atN_split s
      refine ⟨b :: c, t, rfl, by rw [List.length_cons, h7], by omega, ?_, fun _ => h9⟩
      rw [← h7, List.take_succ_cons, List.take_left]
      exact .at_ [] b c fun x hx => by
        rcases List.mem_cons.1 hx with rfl | hx
        · exact h6
        · exact h8 x hx
    · rw [if_neg h6] at h; simp at h
theorem raw_head {i : It} (h : Raw i) (hk : i.kind = 97) : ∃ b c, i.raw = b :: c ∧ atB b = true := by
  cases h with
  | sg g c hc => exact absurd hk (sg_ne hc).2.2.2.2.2.1
  | qu g c x hc => exact absurd (show (113 : UInt8) = 97 from hk) (by decide)
  | li g c hc => exact absurd (show (108 : UInt8) = 97 from hk) (by decide)
  | at_ g b c hc => exact ⟨b, c, rfl, hc b (List.mem_cons_self ..)⟩
theorem raw_gap (g : List UInt8) {i : It} (h : Raw i) : Raw ⟨g, i.raw, i.kind, i.text⟩ := by
  cases h with
  | sg _ c hc => exact .sg _ c hc
  | qu _ c x hc => exact .qu _ c x hc
  | li _ c hc => exact .li _ c hc
  | at_ _ b c hc => exact .at_ _ b c hc
theorem posn_gap (o : Nat) (p : List UInt8) (i : It) (r : List It) : posn (o + p.length) (i :: r) = posn o (⟨p ++ i.gap, i.raw, i.kind, i.text⟩ :: r) := by
  simp only [posn, It.b, List.length_append, Nat.add_assoc]
theorem lex_sound : ∀ (f o : Nat) (s : List UInt8) (T : List Tk), cutL f o s = some T →
    ∃ l e, s = flat (l ++ [e]) ∧ T = posn o (l ++ [e]) ∧ (∀ i ∈ l, Tok i) ∧ IsEnd e ∧ Chn Nb (l ++ [e])
  | 0, _, _, _, h => by simp [cutL] at h
  | f + 1, o, [], T, h => by
    rw [cutL] at h
    obtain rfl := Option.some.inj h
    exact ⟨[], ⟨[], [], 101, []⟩, rfl, rfl, by simp, ⟨.nil, rfl, rfl, rfl⟩, trivial⟩
  | f + 1, o, c :: t, T, h => by
    rw [cutL] at h
    rcases h1 : one (c :: t) with _ | ⟨n, x⟩
    · rw [h1] at h; simp at h
    · rw [h1] at h
      obtain ⟨p, u, e, hp, hn, hx⟩ := one_sound _ _ _ h1
      have hd : (c :: t).drop n = u := by rw [e, ← hp, List.drop_left]
      rcases x with _ | ⟨k, x⟩
      · simp only at h hx
        rw [hd] at h
        obtain ⟨l, e2, rfl, rfl, hl, he2, hc⟩ := lex_sound f _ _ T h
        cases l with
        | nil =>
          refine ⟨[], ⟨p ++ e2.gap, e2.raw, e2.kind, e2.text⟩, ?_, ?_, by simp, ⟨hx _ he2.1, he2.2⟩, trivial⟩
          · rw [e]; simp [flat, It.b]
          · rw [← hp]; exact posn_gap o p e2 []
        | cons i l =>
          have hi := hl i (List.mem_cons_self ..)
          refine ⟨⟨p ++ i.gap, i.raw, i.kind, i.text⟩ :: l, e2, ?_, ?_, ?_, he2, ?_⟩
          · rw [e, List.cons_append, flat_cons, List.cons_append, flat_cons]; simp [It.b]
          · rw [← hp]; exact posn_gap o p i (l ++ [e2])
          · intro j hj
            rcases List.mem_cons.1 hj with rfl | hj
            · exact ⟨hx _ hi.g, raw_gap _ hi.r⟩
            · exact hl j (List.mem_cons_of_mem _ hj)
          · exact Chn.cons (Chn.tail hc) fun b t' e4 => by
              have h5 : Chn Nb (i :: (l ++ [e2])) := hc
              rw [show l ++ [e2] = b :: t' from e4] at h5
              exact h5.1
      · simp only at h hx
        rw [hd] at h
        obtain ⟨T', h2, rfl⟩ := Option.map_eq_some_iff.1 h
        obtain ⟨l, e2, rfl, rfl, hl, he2, hc⟩ := lex_sound f _ _ T' h2
        refine ⟨⟨[], p, k, x⟩ :: l, e2, by rw [e, List.cons_append, flat_cons]; simp [It.b], ?_, ?_, he2, ?_⟩
        · rw [List.cons_append, posn]; simp [It.b, hp]
        · intro j hj
          rcases List.mem_cons.1 hj with rfl | hj
          · exact ⟨.nil, hx.1⟩
          · exact hl j hj
        · refine Chn.cons hc fun b t' e4 hk hg hb => ?_
          have hk' : k = 97 := hk
          have hn := hx.2 hk'
          rw [show l ++ [e2] = b :: t' from e4, flat_cons] at hn
          have e4 : l ++ [e2] = b :: t' := e4
          cases l with
          | nil =>
            obtain ⟨rfl, -⟩ := List.cons.inj e4
            rw [he2.2.2.1] at hb; exact absurd hb (by decide)
          | cons i l =>
            rw [List.cons_append] at e4
            obtain ⟨rfl, -⟩ := List.cons.inj e4
            obtain ⟨y, c', e5, h6⟩ := raw_head (hl i (List.mem_cons_self ..)).r hb
            have := hn y (c' ++ flat t') (by unfold It.b; rw [hg, e5]; rfl)
            rw [this] at h6; exact absurd h6 (by simp)

/-! Segments -/
def Sb : Sg → Sg → Prop
  | .keep _, .keep _ => True
  | .keep i, .sp _ _ => i.kind ≠ 97
  | .sp _ _, .keep j => j.kind ≠ 97
  | .sp _ _, .sp _ _ => False
theorem sb_left {k : It} (h : k.kind ≠ 97) (y : Sg) : Sb (.keep k) y := by cases y <;> first | trivial | exact h
theorem sb_right {k : It} (h : k.kind ≠ 97) (x : Sg) : Sb x (.keep k) := by cases x <;> first | trivial | exact h
theorem chn_kp : ∀ l : List It, Chn Sb (kp l)
  | [] => trivial
  | [_] => trivial
  | _ :: j :: l => ⟨trivial, chn_kp (j :: l)⟩
/-- A sign between two. -/
theorem chn_sign {a b : List Sg} {k : It} (hk : k.kind ≠ 97) (ha : Chn Sb a) (hb : Chn Sb b) : Chn Sb (a ++ .keep k :: b) :=
  Chn.app ha (Chn.cons hb fun y _ _ => sb_left hk y) fun x _ y t e => by
    obtain ⟨rfl, -⟩ := List.cons.inj e
    exact sb_right hk x
theorem route_last {r : List It} (h : IsRoute r) : r = [] ∨ ∃ r' k, r = r' ++ [k] ∧ k.kind = 58 := by
  induction h with
  | none => exact .inl rfl
  | last a d t k _ _ hk => exact .inr ⟨a :: d, k, by simp, hk⟩
  | more a d t k r _ _ _ hne _ ih =>
    rcases ih with h | ⟨r', k', rfl, hk'⟩
    · exact absurd h hne
    · exact .inr ⟨a :: d ++ k :: r', k', by simp, hk'⟩
theorem kp_app (a b : List It) : kp (a ++ b) = kp a ++ kp b := by unfold kp; rw [List.map_append]
theorem mb_chn {m : List Sg} (h : IsMb m) : Chn Sb m := by
  cases h with
  | bare s hs => trivial
  | angle c lt r s gt hc hlt hr hs hgt =>
    have hg : gt.kind ≠ 97 := by rw [hgt]; decide
    have hl : lt.kind ≠ 97 := by rw [hlt]; decide
    have e1 : Chn Sb [Sg.sp s (nameOf c), .keep gt] := ⟨hg, trivial⟩
    rcases route_last hr with rfl | ⟨r', k, rfl, hk⟩
    · rw [kp_app]
      show Chn Sb (kp c ++ [.keep lt] ++ _)
      rw [List.append_assoc]
      exact chn_sign hl (chn_kp c) e1
    · have e2 : kp (c ++ lt :: (r' ++ [k])) ++ [Sg.sp s (nameOf c), .keep gt] = kp (c ++ lt :: r') ++ .keep k :: [Sg.sp s (nameOf c), .keep gt] := by
        have : c ++ lt :: (r' ++ [k]) = (c ++ lt :: r') ++ [k] := by simp
        rw [this, kp_app (c ++ lt :: r') [k], List.append_assoc]; rfl
      rw [e2]
      exact chn_sign (by rw [hk]; decide) (chn_kp _) e1
theorem list_chn {e : UInt8} {P : List Sg → Prop} (he : e ≠ 97) (hP : ∀ m, P m → Chn Sb m) {l : List Sg} (h : IsList e P l) : Chn Sb l := by
  induction h with
  | end_ k hk => trivial
  | last m k hm hk => exact chn_sign (by rw [hk]; exact he) (hP m hm) trivial
  | comma k l hk _ ih => exact chn_sign (a := []) (by rw [hk]; decide) trivial ih
  | more m k l hm hk _ ih => exact chn_sign (by rw [hk]; decide) (hP m hm) ih
theorem el_chn {m : List Sg} (h : IsEl m) : Chn Sb m := by
  cases h with
  | mb m hm => exact mb_chn hm
  | grp c k l hc hne hk hl =>
    rw [kp_app]
    show Chn Sb (kp c ++ [.keep k] ++ l)
    rw [List.append_assoc]
    exact chn_sign (by rw [hk]; decide) (chn_kp c) (list_chn (by decide) (fun m hm => mb_chn hm) hl)
theorem body_chn {m : List Sg} (h : IsBody m) : Chn Sb m := list_chn (by decide) (fun m hm => el_chn hm) h

/-- A mailbox that may stand in a place. -/
structure Put (s : Spc) : Prop where
  sp : IsSpec s
  tok : ∀ i ∈ s.sec, Tok i
  chn : Chn Nb s.sec
/-- Other mailboxes, all else as it is. -/
inductive Rp : List Sg → List Sg → Prop
  | nil : Rp [] []
  | keep (i : It) (a b : List Sg) : Rp a b → Rp (.keep i :: a) (.keep i :: b)
  | sp (s s' : Spc) (n : List UInt8) (a b : List Sg) : Put s' → Rp a b → Rp (.sp s n :: a) (.sp s' n :: b)
theorem Rp.app {a : List Sg} : ∀ {b m : List Sg}, Rp (a ++ b) m → ∃ a' b', m = a' ++ b' ∧ Rp a a' ∧ Rp b b' := by
  induction a with
  | nil => intro b m h; exact ⟨[], m, rfl, .nil, h⟩
  | cons x a ih =>
    intro b m h
    cases h with
    | keep i _ m h =>
      obtain ⟨a', b', rfl, h1, h2⟩ := ih h
      exact ⟨.keep i :: a', b', rfl, .keep i _ _ h1, h2⟩
    | sp s s' n _ m hs h =>
      obtain ⟨a', b', rfl, h1, h2⟩ := ih h
      exact ⟨.sp s' n :: a', b', rfl, .sp s s' n _ _ hs h1, h2⟩
theorem rp_kp (l : List It) : ∀ {m : List Sg}, Rp (kp l) m → m = kp l := by
  induction l with
  | nil => intro m h; cases h; rfl
  | cons i l ih =>
    intro m h
    cases h with
    | keep _ _ m h => rw [ih h]; rfl
theorem mb_rp {m m' : List Sg} (h : IsMb m) (hr : Rp m m') : IsMb m' := by
  cases h with
  | bare s hs =>
    cases hr with
    | sp _ s' _ _ m hs' h => cases h; exact .bare s' hs'.sp
  | angle c lt r s gt hc hlt hrt hs hgt =>
    obtain ⟨a, b, rfl, h1, h2⟩ := hr.app
    obtain rfl := rp_kp _ h1
    cases h2 with
    | sp _ s' _ _ m hs' h =>
      cases h with
      | keep _ _ m h => cases h; exact .angle c lt r s' gt hc hlt hrt hs'.sp hgt
theorem list_rp {e : UInt8} {P : List Sg → Prop} (hP : ∀ m m', P m → Rp m m' → P m') {l : List Sg} (h : IsList e P l) : ∀ {l' : List Sg}, Rp l l' → IsList e P l' := by
  induction h with
  | end_ k hk =>
    intro l' hr
    cases hr with
    | keep _ _ m h => cases h; exact .end_ k hk
  | last m k hm hk =>
    intro l' hr
    obtain ⟨a, b, rfl, h1, h2⟩ := hr.app
    cases h2 with
    | keep _ _ m h => cases h; exact .last _ k (hP _ _ hm h1) hk
  | comma k l hk _ ih =>
    intro l' hr
    cases hr with
    | keep _ _ m h => exact .comma k _ hk (ih h)
  | more m k l hm hk _ ih =>
    intro l' hr
    obtain ⟨a, b, rfl, h1, h2⟩ := hr.app
    cases h2 with
    | keep _ _ m h => exact .more _ k _ (hP _ _ hm h1) hk (ih h)
theorem el_rp {m m' : List Sg} (h : IsEl m) (hr : Rp m m') : IsEl m' := by
  cases h with
  | mb m hm => exact .mb _ (mb_rp hm hr)
  | grp c k l hc hne hk hl =>
    obtain ⟨a, b, rfl, h1, h2⟩ := hr.app
    obtain rfl := rp_kp _ h1
    exact .grp c k b hc hne hk (list_rp (fun _ _ => mb_rp) hl h2)
theorem body_rp {m m' : List Sg} (h : IsBody m) (hr : Rp m m') : IsBody m' := list_rp (fun _ _ => el_rp) h hr
theorem nb_left {i j : It} (h : i.kind ≠ 97) : Nb i j := fun e => absurd e h
theorem nb_right {i j : It} (h : j.kind ≠ 97) : Nb i j := fun _ _ => h
/-- Tokens stand as they may when mailboxes were put. -/
theorem its_chn {m m' : List Sg} (hr : Rp m m') (h1 : Chn Nb (its m)) (h2 : Chn Sb m) : Chn Nb (its m') := by
  induction hr with
  | nil => trivial
  | keep i a b hr ih =>
    have h1' : Chn Nb (i :: its a) := h1
    show Chn Nb (i :: its b)
    refine Chn.cons (ih h1'.tail h2.tail) fun y t e => ?_
    cases hr with
    | nil => simp [its] at e
    | keep j a b _ =>
      have e' : j :: its b = y :: t := e
      obtain ⟨rfl, -⟩ := List.cons.inj e'
      exact h1'.1
    | sp s s' n a b _ _ => exact nb_left h2.1
  | sp s s' n a b hs hr ih =>
    have h1' : Chn Nb (s.sec ++ its a) := h1
    show Chn Nb (s'.sec ++ its b)
    refine Chn.app hs.chn (ih h1'.right h2.tail) fun x _ y t e => ?_
    cases hr with
    | nil => simp [its] at e
    | keep j a b _ =>
      have e' : j :: its b = y :: t := e
      obtain ⟨rfl, -⟩ := List.cons.inj e'
      exact nb_right h2.1
    | sp s s' n a b _ _ => exact absurd h2.1 (fun h => h)
end Go.Proofs.YtpmmaickjolimaaGreatDoor.Ma

/- Mailboxes put into a text: what is read then. -/
namespace Go.Proofs.YtpmmaickjolimaaGreatDoor.Ma

theorem list_last {e : UInt8} {P : List Sg → Prop} {m : List Sg} (h : IsList e P m) : ∃ m' k, m = m' ++ [.keep k] ∧ k.kind = e := by
  induction h with
  | end_ k hk => exact ⟨[], k, rfl, hk⟩
  | last m k _ hk => exact ⟨m, k, rfl, hk⟩
  | comma k l _ _ ih => obtain ⟨m', k', rfl, h⟩ := ih; exact ⟨.keep k :: m', k', rfl, h⟩
  | more m k l _ _ _ ih => obtain ⟨m', k', rfl, h⟩ := ih; exact ⟨m ++ .keep k :: m', k', by simp, h⟩
theorem raw_kind {i : It} (h : Raw i) : i.kind ≠ 101 := by
  cases h with
  | sg g c hc => exact (sg_ne hc).2.2.2.2.2.2
  | qu g c x hc => show (113 : UInt8) ≠ 101; decide
  | li g c hc => show (108 : UInt8) ≠ 101; decide
  | at_ g b c hc => show (97 : UInt8) ≠ 101; decide
theorem raw_ne {i : It} (h : Raw i) : i.raw ≠ [] := by cases h <;> simp
/-- A text ps it was read. -/
structure Rd (body : List UInt8) (m : List Sg) : Prop where
  gr : IsBody m
  tx : body = flat (its m)
  tk : ∃ m' e, m = m' ++ [.keep e] ∧ IsEnd e ∧ ∀ i ∈ its m', Tok i
  ch : Chn Nb (its m)
theorem its_last (m : List Sg) (e : It) : its (m ++ [.keep e]) = its m ++ [e] := by rw [its_app]; rfl
theorem read_sound (body : List UInt8) (L : List Sp) (h : readQ body = some L) : ∃ m, Rd body m ∧ L = spsOf 0 m := by
  unfold readQ at h
  rcases hc : cutQ body with _ | T
  · rw [hc] at h; simp at h
  · rw [hc] at h
    simp only at h
    obtain ⟨l, e, h1, rfl, h3, h4, h5⟩ := lex_sound _ _ _ _ hc
    by_cases hb : (commasQ 101 (elementQ body) ((posn 0 (l ++ [e])).length + 1) ⟨false, posn 0 (l ++ [e]), []⟩).bad = true
    · rw [if_pos hb] at h; simp at h
    · rw [if_neg hb] at h
      obtain ⟨m, r, e1, hm, e2⟩ := body_sound body _ 0 (l ++ [e]) [] (by rw [posn_len]; omega) ⟨[], rfl, h1⟩ (good_of hb)
      rw [e2] at h
      have hL : L = spsOf 0 m := (Option.some.inj h).symm
      obtain ⟨m', k, rfl, hk⟩ := list_last hm
      have hr : r = [] := by
        rcases List.eq_nil_or_concat r with rfl | ⟨r', x, rfl⟩
        · rfl
        · rw [List.concat_eq_append, ← List.append_assoc] at e1
          obtain ⟨e3, -⟩ := List.append_inj' e1 rfl
          have : k ∈ l := by rw [e3, its_last]; simp
          exact absurd hk (raw_kind (h3 k this).r)
      subst hr
      rw [List.append_nil, its_last] at e1
      obtain ⟨rfl, e4⟩ := List.append_inj' e1 rfl
      obtain rfl := (List.cons.inj e4).1
      exact ⟨_, ⟨hm, by rw [h1, its_last], ⟨m', e, rfl, h4, h3⟩, by rw [its_last]; exact h5⟩, hL⟩
theorem read_full (body : List UInt8) (m : List Sg) (h : Rd body m) : readQ body = some (spsOf 0 m) := by
  obtain ⟨hg, rfl, ⟨m', e, rfl, he, ht⟩, hc⟩ := h
  have h1 : cutQ (flat (its (m' ++ [.keep e]))) = some (posn 0 (its (m' ++ [.keep e]))) := by
    rw [its_last] at hc ⊢
    exact lex_full e he (its m') 0 ht hc _ (Nat.lt_succ_self _)
  unfold readQ
  rw [h1]
  simp only
  have h2 := body_full (flat (its (m' ++ [.keep e]))) hg ((posn 0 (its (m' ++ [.keep e]))).length + 1) 0 [] [] (by rw [posn_len]; omega) ⟨[], rfl, by rw [List.append_nil]; rfl⟩
  rw [List.append_nil] at h2
  rw [h2]
  rfl
theorem rp_tok {m m' : List Sg} (hr : Rp m m') (h : ∀ i ∈ its m, Tok i) : ∀ i ∈ its m', Tok i := by
  induction hr with
  | nil => exact h
  | keep i a b hr ih =>
    intro j hj
    have hj' : j ∈ i :: its b := hj
    rcases List.mem_cons.1 hj' with rfl | hj'
    · exact h j (List.mem_cons_self ..)
    · exact ih (fun x hx => h x (List.mem_cons_of_mem _ hx)) j hj'
  | sp s s' n a b hs hr ih =>
    intro j hj
    have hj' : j ∈ s'.sec ++ its b := hj
    rcases List.mem_append.1 hj' with hj' | hj'
    · exact hs.tok j hj'
    · exact ih (fun x hx => h x (List.mem_append_right s.sec hx)) j hj'
theorem rp_read {body : List UInt8} {m m' : List Sg} (h : Rd body m) (hr : Rp m m') : Rd (flat (its m')) m' := by
  obtain ⟨hg, rfl, ⟨m0, e, rfl, he, ht⟩, hc⟩ := h
  have hg' := body_rp hg hr
  have hc' := its_chn hr hc (body_chn hg)
  obtain ⟨a, b, rfl, h1, h2⟩ := hr.app
  cases h2 with
  | keep _ _ b h3 =>
    cases h3
    exact ⟨hg', rfl, ⟨a, e, rfl, he, rp_tok h1 ht⟩, hc'⟩

/-! Putting -/
section
variable {α : Type} (F : List UInt8 → α → Spc) (T : α → List UInt8)
def gapOf (s : Spc) : List UInt8 := (s.sec.headD ⟨[], [], 0, []⟩).gap
def rpl : List Sg → List α → List Sg
  | [], _ => []
  | .keep i :: m, ps => .keep i :: rpl m ps
  | .sp s n :: m, a :: ps => .sp (F (gapOf s) a) n :: rpl m ps
  | .sp s n :: m, [] => .sp s n :: rpl m []
def replL (body : List UInt8) : Nat → List Sp → List α → List UInt8
  | at_, x :: xs, a :: ps => (body.take x.from_).drop at_ ++ T a ++ replL body x.til xs ps
  | at_, _, _ => body.drop at_
def Sg.ok : Sg → Prop
  | .keep _ => True
  | .sp s _ => IsSpec s
theorem mb_ok {m : List Sg} (h : IsMb m) : ∀ x ∈ m, Sg.ok x := by
  have hk : ∀ (l : List It), ∀ x ∈ kp l, Sg.ok x := by
    intro l x hx
    obtain ⟨i, _, rfl⟩ := List.mem_map.1 hx
    trivial
  cases h with
  | bare s hs => intro x hx; rcases List.mem_singleton.1 hx with rfl; exact hs
  | angle c lt r s gt _ _ _ hs _ =>
    intro x hx
    rcases List.mem_append.1 hx with hx | hx
    · exact hk _ x hx
    · rcases List.mem_cons.1 hx with rfl | hx
      · exact hs
      · rcases List.mem_singleton.1 hx with rfl; trivial
theorem list_ok {e : UInt8} {P : List Sg → Prop} (hP : ∀ m, P m → ∀ x ∈ m, Sg.ok x) {m : List Sg} (h : IsList e P m) : ∀ x ∈ m, Sg.ok x := by
  induction h with
  | end_ k _ => intro x hx; rcases List.mem_singleton.1 hx with rfl; trivial
  | last m k hm _ =>
    intro x hx
    rcases List.mem_append.1 hx with hx | hx
    · exact hP m hm x hx
    · rcases List.mem_singleton.1 hx with rfl; trivial
  | comma k l _ _ ih =>
    intro x hx
    rcases List.mem_cons.1 hx with rfl | hx
    · trivial
    · exact ih x hx
  | more m k l hm _ _ ih =>
    intro x hx
    rcases List.mem_append.1 hx with hx | hx
    · exact hP m hm x hx
    · rcases List.mem_cons.1 hx with rfl | hx
      · trivial
      · exact ih x hx
theorem el_ok {m : List Sg} (h : IsEl m) : ∀ x ∈ m, Sg.ok x := by
  cases h with
  | mb m hm => exact mb_ok hm
  | grp c k l _ _ _ hl =>
    intro x hx
    rcases List.mem_append.1 hx with hx | hx
    · obtain ⟨i, _, rfl⟩ := List.mem_map.1 hx; trivial
    · exact list_ok (fun m hm => mb_ok hm) hl x hx
theorem body_ok {m : List Sg} (h : IsBody m) : ∀ x ∈ m, Sg.ok x := list_ok (fun _ hm => el_ok hm) h
theorem rpl_text (hT : ∀ g a, flat (F g a).sec = g ++ T a) : ∀ (m : List Sg) (ps : List α) (pre mid body : List UInt8) (at_ o : Nat), (∀ x ∈ m, Sg.ok x) → pre.length = at_ → o = at_ + mid.length → body = pre ++ mid ++ flat (its m) →
    (spsOf o m).length = ps.length → replL T body at_ (spsOf o m) ps = mid ++ flat (its (rpl F m ps))
  | [], ps, pre, mid, body, at_, o, _, h1, h2, h3, h4 => by
    have e : body = pre ++ mid := by rw [h3]; simp [its, flat]
    rw [spsOf, replL.eq_def]
    simp only
    rw [e, ← h1, List.drop_left]
    simp [rpl, its, flat]
  | .keep i :: m, ps, pre, mid, body, at_, o, hm, h1, h2, h3, h4 => by
    rw [spsOf, rpl, rpl_text hT m ps pre (mid ++ i.b) body at_ _ (fun x hx => hm x (List.mem_cons_of_mem _ hx)) h1 (by rw [h2, List.length_append]; omega) (by rw [h3]; show pre ++ mid ++ (i.b ++ flat (its m)) = _; simp) h4]
    show mid ++ i.b ++ flat (its (rpl F m ps)) = mid ++ (i.b ++ flat (its (rpl F m ps)))
    rw [List.append_assoc]
  | .sp s n :: m, [], pre, mid, body, at_, o, _, h1, h2, h3, h4 => by simp [spsOf] at h4
  | .sp s n :: m, a :: ps, pre, mid, body, at_, o, hm, h1, h2, h3, h4 => by
    have e0 : flat (its (.sp s n :: m)) = flat s.sec ++ flat (its m) := by
      show flat (s.sec ++ its m) = _
      rw [flat_app]
    obtain ⟨i, t, hs, _⟩ := spec_head (show IsSpec s from hm _ (List.mem_cons_self ..))
    have hg : gapOf s = i.gap := by unfold gapOf; rw [hs]; rfl
    have hf : flat s.sec = i.gap ++ (i.raw ++ flat t) := by rw [hs, flat_cons]; unfold It.b; rw [List.append_assoc]
    rw [spsOf, replL, rpl]
    simp only
    have e1 : (s.sec.headD ⟨[], [], 0, []⟩).gap.length = i.gap.length := by rw [hs]; rfl
    rw [e1]
    rw [rpl_text hT m ps (pre ++ mid ++ flat s.sec) [] body _ _ (fun x hx => hm x (List.mem_cons_of_mem _ hx)) (by rw [List.length_append, List.length_append, h1, h2]) (by simp) (by rw [h3, e0]; simp) (by simpa [spsOf] using h4)]
    have e2 : (body.take (o + i.gap.length)).drop at_ = mid ++ i.gap := by
      have e3 : body = pre ++ ((mid ++ i.gap) ++ (i.raw ++ flat t ++ flat (its m))) := by rw [h3, e0, hf]; simp
      have e4 : o + i.gap.length = pre.length + (mid ++ i.gap).length := by rw [List.length_append]; omega
      rw [e3, e4, List.take_length_add_append, List.take_left, ← h1, List.drop_left]
    rw [e2]
    show _ = mid ++ flat ((F (gapOf s) a).sec ++ its (rpl F m ps))
    rw [flat_app, hT, hg]
    simp
theorem rpl_rp {A : α → Prop} (hF : ∀ g a, Gap g → A a → Put (F g a)) : ∀ (m : List Sg) (ps : List α) (o : Nat), (∀ x ∈ m, Sg.ok x) → (∀ i ∈ its m, Gap i.gap) → (∀ a ∈ ps, A a) → (spsOf o m).length = ps.length → Rp m (rpl F m ps)
  | [], _, _, _, _, _, _ => .nil
  | .keep i :: m, ps, o, h1, h2, h3, h4 => .keep i _ _ (rpl_rp hF m ps _ (fun x hx => h1 x (List.mem_cons_of_mem _ hx)) (fun j hj => h2 j (List.mem_cons_of_mem _ hj)) h3 h4)
  | .sp s n :: m, [], o, _, _, _, h4 => by simp [spsOf] at h4
  | .sp s n :: m, a :: ps, o, h1, h2, h3, h4 => by
    refine .sp s _ n _ _ (hF _ a ?_ (h3 a (List.mem_cons_self ..))) (rpl_rp hF m ps (o + (flat s.sec).length) (fun x hx => h1 x (List.mem_cons_of_mem _ hx)) (fun j hj => h2 j (List.mem_append_right s.sec hj)) (fun b hb => h3 b (List.mem_cons_of_mem _ hb)) (by simpa [spsOf] using h4))
    obtain ⟨i, t, hs, _⟩ := spec_head (show IsSpec s from h1 _ (List.mem_cons_self ..))
    have : gapOf s = i.gap := by unfold gapOf; rw [hs]; rfl
    rw [this]
    refine h2 i ?_
    show i ∈ s.sec ++ its m
    rw [hs]; simp
/-- What is read then. -/
theorem rpl_sps {lo dm : α → List UInt8} (hL : ∀ g a, (F g a).loc = lo a ∧ (F g a).dom = dm a) : ∀ (m : List Sg) (ps : List α) (o o' : Nat), (spsOf o m).length = ps.length →
    (spsOf o' (rpl F m ps)).map (fun x => (x.loc, x.dom, x.name)) = List.zipWith (fun x a => (lo a, dm a, x.name)) (spsOf o m) ps
  | [], ps, o, o', h => by simp [rpl, spsOf]
  | .keep i :: m, ps, o, o', h => by rw [rpl, spsOf, spsOf]; exact rpl_sps hL m ps _ _ h
  | .sp s n :: m, [], o, o', h => by simp [spsOf] at h
  | .sp s n :: m, a :: ps, o, o', h => by
    rw [rpl, spsOf, spsOf, List.map_cons, List.zipWith_cons_cons, rpl_sps hL m ps (o + (flat s.sec).length) _ (by simpa [spsOf] using h)]
    simp only [(hL (gapOf s) a).1, (hL (gapOf s) a).2]
end
/-- A mailbox stands in its place, behind those ahead. -/
def Ord (n : Nat) : Nat → List Sp → Prop
  | a, [] => a ≤ n
  | a, x :: l => a ≤ x.from_ ∧ x.from_ < x.til ∧ Ord n x.til l
theorem ord_le {n : Nat} : ∀ {l : List Sp} {a : Nat}, Ord n a l → a ≤ n
  | [], _, h => h
  | _ :: _, _, h => by have := ord_le h.2.2; have := h.1; have := h.2.1; omega
theorem Ord.mono {n : Nat} : ∀ {l : List Sp} {a b : Nat}, Ord n a l → b ≤ a → Ord n b l
  | [], _, _, h, hb => Nat.le_trans hb h
  | _ :: _, _, _, h, hb => ⟨Nat.le_trans hb h.1, h.2⟩
theorem sps_ord : ∀ (m : List Sg) (o n : Nat), (∀ x ∈ m, Sg.ok x) → (∀ x ∈ m, ∀ s n, x = .sp s n → ∀ i ∈ s.sec, i.raw ≠ []) → o + (flat (its m)).length ≤ n → Ord n o (spsOf o m)
  | [], o, n, _, _, h => Nat.le_trans (Nat.le_add_right _ _) h
  | .keep i :: m, o, n, h1, h2, h => by
    have h' : o + (i.b ++ flat (its m)).length ≤ n := h
    rw [List.length_append] at h'
    exact (sps_ord m _ n (fun x hx => h1 x (List.mem_cons_of_mem _ hx)) (fun x hx => h2 x (List.mem_cons_of_mem _ hx)) (by omega)).mono (Nat.le_add_right _ _)
  | .sp s nm :: m, o, n, h1, h2, h => by
    have e0 : flat (its (.sp s nm :: m)) = flat s.sec ++ flat (its m) := by
      show flat (s.sec ++ its m) = _
      rw [flat_app]
    rw [e0, List.length_append] at h
    obtain ⟨i, t, hs, _⟩ := spec_head (show IsSpec s from h1 _ (List.mem_cons_self ..))
    have hr := h2 _ (List.mem_cons_self ..) s nm rfl i (by rw [hs]; simp)
    have hr' : i.raw.length ≠ 0 := fun e => hr (List.eq_nil_of_length_eq_zero e)
    have e1 : (s.sec.headD ⟨[], [], 0, []⟩).gap.length = i.gap.length := by rw [hs]; rfl
    have e2 : (flat s.sec).length = i.gap.length + i.raw.length + (flat t).length := by rw [hs, flat_cons]; unfold It.b; rw [List.length_append, List.length_append]
    rw [spsOf, e1]
    exact ⟨by show o ≤ o + _; omega, by show o + _ < o + _; omega, sps_ord m (o + (flat s.sec).length) n (fun x hx => h1 x (List.mem_cons_of_mem _ hx)) (fun x hx => h2 x (List.mem_cons_of_mem _ hx)) (by omega)⟩
end Go.Proofs.YtpmmaickjolimaaGreatDoor.Ma

/- Cidr in plain terms. -/
namespace Go.Proofs.YtpmmaickjolimaaGreatDoor.Ci

structure Nt where
  six : Bool
  bits : Int
  addr : List Nat
def sizeQ (six : Bool) : Nat := if six then 128 else 32
/-- One byte of an address of which so many bits are kept. -/
def cutB (x : Nat) (keep : Int) : Nat := if keep ≤ 0 then 0 else if keep < 8 then x &&& ((255 * 2 ^ (8 - keep).toNat) % 256) else x
def cutL (l : List Nat) (bits : Int) : List Nat := l.mapIdx fun i x => cutB x (bits - 8 * i)
def rightQ (n : Nt) : Bool := decide (0 ≤ n.bits) && decide (n.bits ≤ sizeQ n.six) && decide (cutL n.addr n.bits = n.addr)
def withinQ (n m : Nt) : Bool := rightQ n && rightQ m && (n.six == m.six) && decide (m.bits ≤ n.bits) && decide (cutL n.addr m.bits = m.addr)

theorem cutB_cut (x : Nat) (p q : Int) (h : q ≤ p) : cutB (cutB x p) q = cutB x q := by
  unfold cutB
  by_cases h1 : q ≤ 0
  · simp [h1]
  · rw [if_neg h1, if_neg (by omega : ¬ p ≤ 0), if_neg h1]
    by_cases h2 : p < 8
    · rw [if_pos h2, if_pos (by omega : q < 8), if_pos (by omega : q < 8), Nat.and_assoc]
      congr 1
      have key : ∀ a b : Fin 8, a.val ≤ b.val → (255 * 2 ^ a.val % 256) &&& (255 * 2 ^ b.val % 256) = 255 * 2 ^ b.val % 256 := by decide
      exact key ⟨(8 - p).toNat, by omega⟩ ⟨(8 - q).toNat, by omega⟩ (by simp; omega)
    · rw [if_neg h2]
theorem cutL_cut (l : List Nat) (p q : Int) (h : q ≤ p) : cutL (cutL l p) q = cutL l q := by
  unfold cutL
  rw [List.mapIdx_mapIdx]
  congr 1
  funext i x
  exact cutB_cut x _ _ (by omega)
theorem within_self (n : Nt) : withinQ n n = rightQ n := by
  unfold withinQ
  cases h : rightQ n with
  | false => rfl
  | true =>
    unfold rightQ at h
    simp only [Bool.and_eq_true, decide_eq_true_eq] at h
    simp [h.2]
theorem within_iff (n m : Nt) : withinQ n m = true ↔ rightQ n = true ∧ rightQ m = true ∧ n.six = m.six ∧ m.bits ≤ n.bits ∧ cutL n.addr m.bits = m.addr := by
  unfold withinQ
  simp [and_assoc]
theorem within_anti {n m : Nt} (h1 : withinQ n m = true) (h2 : withinQ m n = true) : n = m := by
  obtain ⟨a1, a2, a3, a4, a5⟩ := (within_iff n m).1 h1
  obtain ⟨b1, b2, b3, b4, b5⟩ := (within_iff m n).1 h2
  have e : n.bits = m.bits := by omega
  have hr : cutL n.addr n.bits = n.addr := by
    unfold rightQ at a1
    simp only [Bool.and_eq_true, decide_eq_true_eq] at a1
    exact a1.2
  rw [e, a5] at hr
  cases n; cases m; simp_all
theorem within_trans {a b c : Nt} (h1 : withinQ a b = true) (h2 : withinQ b c = true) : withinQ a c = true := by
  obtain ⟨a1, a2, a3, a4, a5⟩ := (within_iff a b).1 h1
  obtain ⟨b1, b2, b3, b4, b5⟩ := (within_iff b c).1 h2
  refine (within_iff a c).2 ⟨a1, b2, a3.trans b3, by omega, ?_⟩
  rw [← b5, ← a5, cutL_cut _ _ _ b4]

/-! ### A range as the machine has it -/
def u8V (n : Nat) : Value := .int .u8 n
/-- Its cells. -/
def netC (n : Nt) : List Value := .bool n.six :: .int .i64 n.bits :: n.addr.map u8V
def netV (n : Nt) : Value := .agg (netC n).toArray
def addrV (l : List Nat) : Value := .agg (l.map u8V).toArray
/-- A range that may be handed over. -/
structure Nt.Fits (n : Nt) : Prop where
  b1 : -9223372036854775808 ≤ n.bits
  b2 : n.bits ≤ 9223372036854775807
  len : n.addr.length = 16
  by_ : ∀ x ∈ n.addr, x < 256
end Go.Proofs.YtpmmaickjolimaaGreatDoor.Ci

/- The bits of an address that are kept. -/
namespace Go.Proofs.YtpmmaickjolimaaGreatDoor.Ci
open Go.RowKit

theorem Hid.mk {p : Prop} (h : p) : Hid p := h
/-- What is known, kept from the walk's eyes. -/
theorem hid {p : Prop} (h : p) : Hid p := h
/-- All that was there is as it was. -/
def Bel (w w' : World) : Prop := Below w.heap.size w w'
theorem Bel.refl (w : World) : Bel w w := Below.refl _ _
theorem Bel.trans {a b c : World} (h : Bel a b) (k : Bel b c) : Bel a c := Below.trans h (Below.mono k h.size)
theorem Bel.alloc {a w : World} (h : Bel a w) (o : Obj) : Bel a (w.alloc o) := Below.alloc h h.size o
theorem Bel.drew {a w : World} (h : Bel a w) : Bel a w.drew := Below.drew h
theorem Bel.drewN {a w : World} (h : Bel a w) (n : Nat) : Bel a (w.drewN n) := ⟨h.os, h.tape, h.output, h.size, h.block⟩
theorem Bel.setCell {a w : World} (h : Bel a w) {b o : Nat} (hb : a.heap.size ≤ b) (v : Value) : Bel a (w.setCell ⟨b, o, none⟩ v) := Below.setCell h hb v
theorem Bel.setCells {a : World} {b : Nat} (hb : a.heap.size ≤ b) : ∀ (vs : List Value) (o : Nat) (w : World), Bel a w → Bel a (w.setCells b o vs)
  | [], _, _, h => h
  | v :: vs, o, w, h => Bel.setCells hb vs (o + 1) (w.setCell ⟨b, o, none⟩ v) (h.setCell hb v)
theorem Bel.heap {a w : World} (h : Bel a w) {k : Nat} {o : Obj} (hk : a.heap[k]? = some o) : w.heap[k]? = some o :=
  (h.block k (Array.getElem?_eq_some_iff.1 hk).1).trans hk

theorem cutB_lt (x : Nat) (keep : Int) (h : x < 256) : cutB x keep < 256 := by
  unfold cutB
  split
  · omega
  · split
    · exact Nat.lt_of_le_of_lt Nat.and_le_left h
    · exact h
/-- The first k bytes cut. -/
def cutK (l : List Nat) (bits : Int) (k : Nat) : List Nat := l.mapIdx fun i x => if i < k then cutB x (bits - 8 * i) else x
theorem cutK_zero (l : List Nat) (bits : Int) : cutK l bits 0 = l := by
  unfold cutK
  refine List.ext_getElem (by simp) fun i h1 h2 => by simp
theorem cutK_len (l : List Nat) (bits : Int) (k : Nat) : (cutK l bits k).length = l.length := by simp [cutK]
theorem cutK_all (l : List Nat) (bits : Int) (k : Nat) (h : l.length ≤ k) : cutK l bits k = cutL l bits := by
  unfold cutK cutL
  refine List.ext_getElem (by simp) fun i h1 h2 => ?_
  simp only [List.length_mapIdx] at h1
  simp [(by omega : i < k)]
theorem cutK_at (l : List Nat) (bits : Int) (k : Nat) (hk : k < l.length) : (cutK l bits k)[k]? = some l[k] := by
  simp [cutK, hk]
theorem cutK_next (l : List Nat) (bits : Int) (k : Nat) (hk : k < l.length) : cutK l bits (k + 1) = (cutK l bits k).set k (cutB l[k] (bits - 8 * k)) := by
  unfold cutK
  refine List.ext_getElem (by simp) fun i h1 h2 => ?_
  rw [List.getElem_set]
  by_cases e : k = i
  · subst e
    simp
  · rw [if_neg e]
    simp [(by omega : i < k + 1 ↔ i < k)]

/-- The memory of a cut in hand. -/
structure CutW (w wr : World) (l : List Nat) : Prop where
  bel : Bel w wr
  hc : wr.heap[w.heap.size]? = some (.cells (l.map u8V).toArray 23 (0, 0))
  hr : wr.heap[w.heap.size + 1]? = some (.cells (Array.replicate 16 (u8V 0)) 23 (0, 0))
theorem CutW.cell {w wr : World} {l : List Nat} (h : CutW w wr l) {k : Nat} {x : Nat} (hk : l[k]? = some x) : wr.cell? ⟨w.heap.size, k, none⟩ = some (.int .u8 (x : Int)) := by
  simp [World.cell?, h.hc, hk, u8V]
theorem CutW.set {w wr : World} {l : List Nat} (h : CutW w wr l) (k x : Nat) : CutW w (wr.setCell ⟨w.heap.size, k, none⟩ (.int .u8 (x : Int))) (l.set k x) := by
  refine ⟨h.bel.setCell (Nat.le_refl _) _, ?_, ?_⟩
  · rw [heap_setCell_same wr _ _ _ _ _ h.hc]
    simp [u8V, List.map_set]
  · rw [heap_setCell_other _ _ _ _ (by simp)]
    exact h.hr

theorem CutW.drew {w wr : World} {l : List Nat} (h : CutW w wr l) : CutW w wr.drew l := ⟨h.bel.drew, h.hc, h.hr⟩

set_option maxHeartbeats 1000000 in
set_option maxRecDepth 100000 in
theorem cut_run (l : List Nat) (nb : Int) (w : World) (hl : l.length = 16) (hx : ∀ x ∈ l, x < 256) (h0 : 0 ≤ nb) (h1 : nb ≤ 128) :
    Calls Tryz.prog 74 #[addrV l, .int .i64 nb] w fun e w' => e = .returned (addrV (cutL l nb)) ∧ Bel w w' := by
  have HX := hid hx
  unfold addrV
  clear hx
  go_enter Tryz.func74, Tryz.ntmps74
  go_wp2_with fail
  go_loopg [5, 6, 7] 16 (fun gg v5 v6 v7 wr => ∃ k : Nat, v7 = .int .i64 k ∧ k + gg = 16 ∧ Hid (CutW w wr (cutK l nb k)))
  case atStart =>
    refine ⟨0, rfl, by omega, hid ⟨((Bel.refl w).alloc _).alloc _, ?_, ?_⟩⟩
    · rw [cutK_zero]
      exact (Below.heap_alloc _ _ _ (by simp)).trans (heap_alloc_new w _)
    · have := heap_alloc_new (w.alloc (.cells (l.map u8V).toArray 23)) (.cells (Array.replicate 16 (u8V 0)) 23)
      rw [World.size_alloc] at this
      exact this
  case round =>
    obtain ⟨k, rfl, hk, H⟩ := hrel
    have Hk := hid hk
    have hkn : k ≤ 16 := by omega
    clear hk
    by_cases hlt : k < 16
    · have hkl : k < l.length := by omega
      have c0 := H.out.cell (cutK_at l nb k hkl)
      have hn := cutK_next l nb k hkl
      have hxl := HX.out _ (List.getElem_mem hkl)
      have f0 : wr.frozen? ⟨w.heap.size, k, none⟩ = false := by simp [World.frozen?, H.out.hc]
      generalize hx0 : l[k] = x at c0 hn hxl
      by_cases h8 : nb - 8 * k ≤ 0
      · have d1 : decide (nb - 8 * k ≤ 0) = true := decide_eq_true h8
        have he : cutB x (nb - 8 * k) = 0 := if_pos h8
        rw [he] at hn
        have HN := hid (H.out.set k 0)
        rw [← hn] at HN
        clear hn he
        go_wp2_with fail
        go_roundg (gk - 1)
        case measure => have := Hk.out; omega
        case rel => exact ⟨k + 1, by go_num, by have := Hk.out; omega, HN⟩
      · have d1 : decide (nb - 8 * k ≤ 0) = false := decide_eq_false h8
        by_cases h9 : nb - 8 * k < 8
        · have d2 : decide (nb - 8 * k < 8) = true := decide_eq_true h9
          have he : cutB x (nb - 8 * k) = x &&& ((255 * 2 ^ (8 - (nb - 8 * k)).toNat) % 256) := by
            unfold cutB
            rw [if_neg h8, if_pos h9]
          rw [he] at hn
          have HN := hid (H.out.set k (x &&& ((255 * 2 ^ (8 - (nb - 8 * k)).toNat) % 256))).drew
          rw [← hn] at HN
          have hb : bits .and .u8 (x : Int) (255 * 2 ^ (8 - (nb - 8 * (k : Int))).toNat % 256) = ((x &&& ((255 * 2 ^ (8 - (nb - 8 * k)).toNat) % 256) : Nat) : Int) := by
            rw [← u8_and_nat _ _ hxl (Nat.mod_lt _ (by decide))]
            simp
          clear hn he
          go_wp2_with fail
          go_region
          go_wp2_with fail
          go_roundg (gk - 1)
          case measure => have := Hk.out; omega
          case rel => exact ⟨k + 1, by go_num, by have := Hk.out; omega, HN⟩
        · have d2 : decide (nb - 8 * k < 8) = false := decide_eq_false h9
          have he : cutB x (nb - 8 * k) = x := by
            unfold cutB
            rw [if_neg h8, if_neg h9]
          rw [he] at hn
          have hs : (cutK l nb k).set k x = cutK l nb k := by
            refine List.ext_getElem (by simp) fun i h1 h2 => ?_
            rw [List.getElem_set]
            split
            · rename_i e
              subst e
              have := cutK_at l nb k hkl
              rw [List.getElem?_eq_getElem (by rw [cutK_len]; exact hkl), hx0] at this
              exact (Option.some.inj this).symm
            · rfl
          have HN := H
          rw [hs] at hn
          rw [← hn] at HN
          clear hn he hs
          go_wp2_with fail
          go_roundg (gk - 1)
          case measure => have := Hk.out; omega
          case rel => exact ⟨k + 1, by go_num, by have := Hk.out; omega, HN⟩
    · obtain rfl : k = 16 := by omega
      have hK : cutK l nb 16 = cutL l nb := cutK_all l nb 16 (by omega)
      rw [hK] at H
      clear hK
      have hll : (cutL l nb).length = 16 := by simp [cutL, hl]
      have hR := hid (show wr.rangeAt w.heap.size 0 ((cutL l nb).map u8V) from fun j v hv => by simp [World.cell?, H.out.hc, hv])
      have hT := hid (show wr.there (w.heap.size + 1) 0 ((cutL l nb).map u8V).toArray.size from fun j hj => by
        have hj' : j < 16 := by simpa [hll] using hj
        constructor
        · simp [World.cell?, H.out.hr, hj']
        · simp [World.frozen?, H.out.hr])
      have hZ := hid (show (Tryz.prog.info? 23).map (·.size) = some ((cutL l nb).map u8V).length by rw [List.length_map, hll]; kernel_rfl)
      go_wp2_with (first
        | refine wpList_load_mid rfl 23 (.tmp 2) rfl w.heap.size 0 rfl ((cutL l nb).map u8V) (.array 16 5) hR.out Tryz.underlying23 rfl hZ.out ?_
        | refine wpList_store_mid rfl 23 (.tmp 4) (.tmp 31) rfl (w.heap.size + 1) 0 ((cutL l nb).map u8V).toArray rfl rfl hT.out (by rw [List.size_toArray]; exact hZ.out) (by simp [u8V, Value.oneCell']) ?_)
      have hl2 := run_loadVar_mid (P := Tryz.prog) (wr.setCells (w.heap.size + 1) 0 ((cutL l nb).map u8V)) (w.heap.size + 1) 0 23 ((cutL l nb).map u8V) (.array 16 5)
        (World.rangeAt_setCells_same _ _ _ _ (by simpa using hT.out)) Tryz.underlying23 rfl hZ.out
      refine bodyPost_ret (v := .agg ((cutL l nb).map u8V).toArray) (by simp [results, Tryz.results74, Act.put, asAddr, hl2]) rfl ⟨rfl, ?_⟩
      exact Bel.setCells (by omega) _ _ _ H.out.bel
end Go.Proofs.YtpmmaickjolimaaGreatDoor.Ci
