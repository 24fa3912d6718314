/- Addresses in fields, in plain terms: tokens, and the parser as it stands. -/
import Derived.Test.YtmlmkmhkmifnkaaGreatDoorProg
import Derived.WalkKit
import Derived.WalkSpells
import Derived.WalkLawsBesides
import Derived.OwnWalk
import Derived.Deep.QuietTactic
import Derived.BigQuiet
import Derived.Below
import Derived.Deep.LoopGhost
import Derived.Deep.DeepCutAuto
import Derived.Deep.CutBlock
import Derived.Deep.RegionHeld3
import Derived.Deep.MidRow
import Derived.Deep.WholeRow
import Derived.Lib.Hide
import Derived.Laws.BitsAllLaws
namespace Go.Proofs.YtmlmkmhkmifnkaaGreatDoor.Ma

/-! ### Tokens -/
/-- A byte of an atom. -/
def atB (b : UInt8) : Bool := decide (128 ≤ b.toNat) || (decide (97 ≤ b.toNat) && decide (b.toNat ≤ 122)) || (decide (65 ≤ b.toNat) && decide (b.toNat ≤ 90)) || (decide (48 ≤ b.toNat) && decide (b.toNat ≤ 57))
  || ([33, 35, 36, 37, 38, 39, 42, 43, 45, 47, 61, 63, 94, 95, 96, 123, 124, 125, 126] : List UInt8).contains b
def blB (b : UInt8) : Bool := ([32, 9, 13, 10] : List UInt8).contains b
def sgB (b : UInt8) : Bool := ([60, 62, 64, 44, 59, 58, 46] : List UInt8).contains b
/-- How many bytes a comment has, of which so many are open. -/
def cmtL : List UInt8 → Nat → Option Nat
  | [], _ => none
  | c :: t, d =>
    if c = 40 then (cmtL t (d + 1)).map (· + 1)
    else if c = 92 then match t with
      | [] => none
      | _ :: t' => (cmtL t' d).map (· + 2)
    else if c = 41 then if d = 1 then some 1 else (cmtL t (d - 1)).map (· + 1)
    else (cmtL t d).map (· + 1)
def tab (b : UInt8) : UInt8 := if b = 9 then 32 else b
/-- A quoted text behind its sign: what it is, how many bytes. -/
def quoL : List UInt8 → Option (List UInt8 × Nat)
  | [] => none
  | c :: t =>
    if c = 34 then some ([], 1)
    else if c = 13 ∨ c = 10 then (quoL t).map fun x => (x.1, x.2 + 1)
    else if c = 92 then match t with
      | [] => none
      | d :: t' => if d = 13 ∨ d = 10 then none else (quoL t').map fun x => (tab d :: x.1, x.2 + 2)
    else if c.toNat < 32 ∧ c ≠ 9 ∨ c = 127 then none
    else (quoL t).map fun x => (tab c :: x.1, x.2 + 1)
/-- A literal behind its sign. -/
def brkL : List UInt8 → Option Nat
  | [] => none
  | c :: t => if c = 93 then some 1 else if c.toNat ≤ 32 ∨ 126 < c.toNat ∨ c = 91 ∨ c = 92 then none else (brkL t).map (· + 1)
def atN : List UInt8 → Nat
  | [] => 0
  | c :: t => if atB c then atN t + 1 else 0
/-- What stands at the front of a text: how many bytes, and which token, if it is one. -/
def one : List UInt8 → Option (Nat × Option (UInt8 × List UInt8))
  | [] => none
  | c :: t =>
    if blB c then some (1, none)
    else if c = 40 then (cmtL (c :: t) 0).map fun n => (n, none)
    else if c = 34 then (quoL t).map fun x => (x.2 + 1, some (113, x.1))
    else if c = 91 then (brkL t).map fun n => (n + 1, some (108, (c :: t).take (n + 1)))
    else if sgB c then some (1, some (c, []))
    else if atB c then some (atN t + 1, some (97, (c :: t).take (atN t + 1))) else none
structure Tk where
  kind : UInt8
  text : List UInt8
  from_ : Nat
  til : Nat
def z : Tk := ⟨0, [], 0, 0⟩
/-- A body's tokens. -/
def cutL : Nat → Nat → List UInt8 → Option (List Tk)
  | 0, _, _ => none
  | f + 1, at_, s => match s with
    | [] => some [⟨101, [], at_, at_⟩]
    | c :: t => match one (c :: t) with
      | none => none
      | some (n, none) => cutL f (at_ + n) ((c :: t).drop n)
      | some (n, some (k, x)) => (cutL f (at_ + n) ((c :: t).drop n)).map fun l => ⟨k, x, at_, at_ + n⟩ :: l
def cutQ (s : List UInt8) : Option (List Tk) := cutL (s.length + 1) 0 s

/-! ### The parser as it stands -/
structure Sp where
  loc : List UInt8
  dom : List UInt8
  from_ : Nat
  til : Nat
  name : List UInt8
structure St where
  bad : Bool
  l : List Tk
  all : List Sp
def hd (st : St) : Tk := st.l.headD z
def isQ (k : UInt8) (st : St) : Bool := !st.bad && (hd st).kind == k
def takeS (k : UInt8) (st : St) : St := if isQ k st then ⟨st.bad, st.l.tail, st.all⟩ else st
def takeT (k : UInt8) (st : St) : Tk := if isQ k st then hd st else z
def wantS (k : UInt8) (st : St) : St := ⟨st.bad || !isQ k st, (takeS k st).l, st.all⟩
/-- Dots with atoms behind them. -/
def domLoop : Nat → List UInt8 → Tk → St → List UInt8 × Tk × St
  | 0, s, t, st => (s, t, st)
  | n + 1, s, t, st => if isQ 46 st then domLoop n (s ++ [46] ++ (takeT 97 (takeS 46 st)).text) (takeT 97 (takeS 46 st)) (wantS 97 (takeS 46 st)) else (s, t, st)
def domQ (st : St) : List UInt8 × Tk × St :=
  if isQ 108 st then ((takeT 108 st).text, takeT 108 st, takeS 108 st)
  else domLoop st.l.length (takeT 97 st).text (takeT 97 st) (wantS 97 st)
def wordT (st : St) : List UInt8 := if isQ 113 st then (takeT 113 st).text else (takeT 97 st).text
def wordS (st : St) : St := if isQ 113 st then takeS 113 st else wantS 97 st
def locLoop : Nat → List UInt8 → St → List UInt8 × St
  | 0, s, st => (s, st)
  | n + 1, s, st => if isQ 46 st then locLoop n (s ++ ([46] ++ wordT (takeS 46 st))) (wordS (takeS 46 st)) else (s, st)
def locQ (st : St) : List UInt8 × St := locLoop st.l.length (wordT st) (wordS st)
def specQ (name : List UInt8) (st : St) : St :=
  let a := locQ st
  let d := domQ (wantS 64 a.2)
  ⟨d.2.2.bad, d.2.2.l, d.2.2.all ++ [⟨a.1, d.1, (hd st).from_, d.2.1.til, name⟩]⟩
def wrd (k : UInt8) : Bool := k == 97 || k == 113
/-- How many tokens stand there as a phrase: so many stood ahead. -/
def phN : Nat → List Tk → Nat
  | _, [] => 0
  | k, t :: l => if wrd t.kind || (t.kind == 46 && k != 0) then phN (k + 1) l + 1 else 0
/-- Where the last word ends. -/
def phE : Nat → Nat → List Tk → Nat
  | _, e, [] => e
  | k, e, t :: l => if wrd t.kind || (t.kind == 46 && k != 0) then phE (k + 1) (if wrd t.kind then t.til else e) l else e
def phraseN (st : St) : Nat := if st.bad then 0 else phN 0 st.l
def phraseT (body : List UInt8) (st : St) : List UInt8 :=
  if phraseN st = 0 then [] else (body.take (phE 0 0 st.l)).drop (hd st).from_
def routeQ : Nat → St → St
  | 0, st => st
  | n + 1, st => let d := (domQ (wantS 64 st)).2.2; if isQ 44 d then routeQ n (takeS 44 d) else d
def mailboxQ (body : List UInt8) (st : St) : St :=
  if (st.l.getD (phraseN st) z).kind ≠ 60 then specQ [] st
  else
    let a : St := ⟨st.bad, st.l.drop (phraseN st + 1), st.all⟩
    let b := if isQ 64 a then wantS 58 (routeQ (a.l.length + 1) a) else a
    wantS 62 (specQ (phraseT body st) b)
def commasQ (e : UInt8) (f : St → St) : Nat → St → St
  | 0, st => st
  | n + 1, st =>
    let a := if !isQ 44 st && !isQ e st && !st.bad then f st else st
    if isQ 44 a then commasQ e f n (takeS 44 a) else wantS e a
def elementQ (body : List UInt8) (st : St) : St :=
  if phraseN st = 0 ∨ (st.l.getD (phraseN st) z).kind ≠ 58 then mailboxQ body st
  else
    let a : St := ⟨st.bad, st.l.drop (phraseN st + 1), st.all⟩
    commasQ 59 (mailboxQ body) (a.l.length + 1) a
def readQ (body : List UInt8) : Option (List Sp) := match cutQ body with
  | none => none
  | some l =>
    let st := commasQ 101 (elementQ body) (l.length + 1) ⟨false, l, []⟩
    if st.bad then none else some st.all
end Go.Proofs.YtmlmkmhkmifnkaaGreatDoor.Ma

/- The grammar of addresses in fields: what is read follows it, what follows it is read. -/
namespace Go.Proofs.YtmlmkmhkmifnkaaGreatDoor.Ma

/-- A token with the bytes ahead of it that are none. -/
structure It where
  gap : List UInt8
  raw : List UInt8
  kind : UInt8
  text : List UInt8
def It.b (i : It) : List UInt8 := i.gap ++ i.raw
def flat (l : List It) : List UInt8 := l.flatMap It.b
theorem flat_app (a b : List It) : flat (a ++ b) = flat a ++ flat b := by unfold flat; rw [List.flatMap_append]
/-- Dots with words behind them. -/
inductive Tl (w : UInt8 → Bool) : List It → List UInt8 → Prop
  | nil : Tl w [] []
  | cons (d i : It) (c : List It) (t : List UInt8) : d.kind = 46 → w i.kind = true → Tl w c t → Tl w (d :: i :: c) ([46] ++ i.text ++ t)
/-- Words with dots between. -/
inductive Dots (w : UInt8 → Bool) : List It → List UInt8 → Prop
  | mk (i : It) (c : List It) (t : List UInt8) : w i.kind = true → Tl w c t → Dots w (i :: c) (i.text ++ t)
inductive IsDom : List It → List UInt8 → Prop
  | lit (i : It) : i.kind = 108 → IsDom [i] i.text
  | dots (c : List It) (t : List UInt8) : Dots (· == 97) c t → IsDom c t
structure Spc where
  sec : List It
  loc : List UInt8
  dom : List UInt8
inductive IsSpec : Spc → Prop
  | mk (l : List It) (a : It) (d : List It) (loc dom : List UInt8) : Dots wrd l loc → a.kind = 64 → IsDom d dom → IsSpec ⟨l ++ a :: d, loc, dom⟩
inductive Sg
  | keep (i : It)
  | sp (s : Spc) (name : List UInt8)
/-! ### What is read follows the grammar -/
/-! Domains -/
/-! Local parts -/
/-! Specs -/
theorem good_of {b : Bool} (h : ¬ b = true) : b = false := by simpa using h
end Go.Proofs.YtmlmkmhkmifnkaaGreatDoor.Ma

/- The grammar, second half: phrases, mailboxes, lists. -/
namespace Go.Proofs.YtmlmkmhkmifnkaaGreatDoor.Ma

/-! Phrases -/
/-- So much of a body stands ahead of these items. -/
def Fits (body : List UInt8) (o : Nat) (l : List It) : Prop := ∃ pre : List UInt8, pre.length = o ∧ body = pre ++ flat l
theorem Fits.app {body : List UInt8} {o : Nat} {a b : List It} (h : Fits body o (a ++ b)) : Fits body (o + (flat a).length) b := by
  obtain ⟨pre, rfl, rfl⟩ := h
  exact ⟨pre ++ flat a, by rw [List.length_append], by rw [flat_app, List.append_assoc]⟩
theorem Fits.cons {body : List UInt8} {o : Nat} {i : It} {b : List It} (h : Fits body o (i :: b)) : Fits body (o + i.b.length) b := by
  have := Fits.app (a := [i]) h
  simpa [flat] using this
/-! Routes -/
end Go.Proofs.YtmlmkmhkmifnkaaGreatDoor.Ma

/- Tokens: which bytes are cut into which. -/
namespace Go.Proofs.YtmlmkmhkmifnkaaGreatDoor.Ma

theorem cmt_loc : ∀ (k : Nat) (s : List UInt8) (d n : Nat), s.length ≤ k → cmtL s d = some n → ∃ c t, s = c ++ t ∧ c.length = n ∧ 0 < n ∧ ∀ t', cmtL (c ++ t') d = some n := by
  intro k
  induction k with
  | zero => intro s d n hs h; cases s with
    | nil => simp [cmtL] at h
    | cons => simp at hs
  | succ k ih =>
    intro s d n hs h
    cases s with
    | nil => simp [cmtL] at h
    | cons b t =>
      have step : ∀ (d' : Nat), (cmtL t d').map (· + 1) = some n → (∀ t', cmtL (b :: t') d = (cmtL t' d').map (· + 1)) → ∃ c t', b :: t = c ++ t' ∧ c.length = n ∧ 0 < n ∧ ∀ t', cmtL (c ++ t') d = some n := by
        intro d' h he
        obtain ⟨m, h1, rfl⟩ := Option.map_eq_some_iff.1 h
        obtain ⟨c, u, rfl, rfl, hm, hc⟩ := ih t d' m (by simp at hs; omega) h1
        refine ⟨b :: c, u, rfl, rfl, by omega, fun t' => ?_⟩
        rw [List.cons_append, he, hc]; rfl
      rw [cmtL.eq_def] at h
      simp only at h
      by_cases h1 : b = 40
      · rw [if_pos h1] at h
        exact step _ h fun t' => by rw [cmtL.eq_def]; simp only; rw [if_pos h1]
      · rw [if_neg h1] at h
        by_cases h2 : b = 92
        · rw [if_pos h2] at h
          cases t with
          | nil => simp at h
          | cons b2 t =>
            obtain ⟨m, h3, rfl⟩ := Option.map_eq_some_iff.1 h
            obtain ⟨c, u, rfl, rfl, hm, hc⟩ := ih t d m (by simp at hs; omega) h3
            refine ⟨b :: b2 :: c, u, rfl, rfl, by omega, fun t' => ?_⟩
            rw [List.cons_append, List.cons_append, cmtL.eq_def]
            simp only
            rw [if_neg h1, if_pos h2, hc]; rfl
        · rw [if_neg h2] at h
          by_cases h3 : b = 41
          · rw [if_pos h3] at h
            by_cases h4 : d = 1
            · rw [if_pos h4] at h
              obtain rfl := Option.some.inj h
              refine ⟨[b], t, rfl, rfl, by omega, fun t' => ?_⟩
              rw [List.cons_append, cmtL.eq_def]
              simp only
              rw [if_neg h1, if_neg h2, if_pos h3, if_pos h4]
            · rw [if_neg h4] at h
              exact step _ h fun t' => by rw [cmtL.eq_def]; simp only; rw [if_neg h1, if_neg h2, if_pos h3, if_neg h4]
          · rw [if_neg h3] at h
            exact step _ h fun t' => by rw [cmtL.eq_def]; simp only; rw [if_neg h1, if_neg h2, if_neg h3]
theorem quo_loc : ∀ (k : Nat) (s : List UInt8) (x : List UInt8) (n : Nat), s.length ≤ k → quoL s = some (x, n) → ∃ c t, s = c ++ t ∧ c.length = n ∧ 0 < n ∧ ∀ t', quoL (c ++ t') = some (x, n) := by
  intro k
  induction k with
  | zero => intro s x n hs h; cases s with
    | nil => simp [quoL] at h
    | cons => simp at hs
  | succ k ih =>
    intro s x n hs h
    cases s with
    | nil => simp [quoL] at h
    | cons b t =>
      have step : ∀ (f : List UInt8 → List UInt8), (quoL t).map (fun y => (f y.1, y.2 + 1)) = some (x, n) → (∀ t', quoL (b :: t') = (quoL t').map fun y => (f y.1, y.2 + 1)) → ∃ c t', b :: t = c ++ t' ∧ c.length = n ∧ 0 < n ∧ ∀ t', quoL (c ++ t') = some (x, n) := by
        intro f h he
        obtain ⟨⟨x', m⟩, h1, h2⟩ := Option.map_eq_some_iff.1 h
        obtain ⟨rfl, rfl⟩ := Prod.mk.inj h2
        obtain ⟨c, u, rfl, rfl, hm, hc⟩ := ih t x' m (by simp at hs; omega) h1
        refine ⟨b :: c, u, rfl, rfl, by omega, fun t' => ?_⟩
        rw [List.cons_append, he, hc]; rfl
      rw [quoL.eq_def] at h
      simp only at h
      by_cases h1 : b = 34
      · rw [if_pos h1] at h
        obtain ⟨rfl, rfl⟩ := Prod.mk.inj (Option.some.inj h)
        refine ⟨[b], t, rfl, rfl, by omega, fun t' => ?_⟩
        rw [List.cons_append, quoL.eq_def]
        simp only
        rw [if_pos h1]
      · rw [if_neg h1] at h
        by_cases h2 : b = 13 ∨ b = 10
        · rw [if_pos h2] at h
          exact step id h fun t' => by rw [quoL.eq_def]; simp only; rw [if_neg h1, if_pos h2]; rfl
        · rw [if_neg h2] at h
          by_cases h3 : b = 92
          · rw [if_pos h3] at h
            cases t with
            | nil => simp at h
            | cons b2 t =>
              simp only at h
              by_cases h4 : b2 = 13 ∨ b2 = 10
              · rw [if_pos h4] at h; simp at h
              · rw [if_neg h4] at h
                obtain ⟨⟨x', m⟩, h5, h6⟩ := Option.map_eq_some_iff.1 h
                obtain ⟨rfl, rfl⟩ := Prod.mk.inj h6
                obtain ⟨c, u, rfl, rfl, hm, hc⟩ := ih t x' m (by simp at hs; omega) h5
                refine ⟨b :: b2 :: c, u, rfl, rfl, by omega, fun t' => ?_⟩
                rw [List.cons_append, List.cons_append, quoL.eq_def]
                simp only
                rw [if_neg h1, if_neg h2, if_pos h3, if_neg h4, hc]; rfl
          · rw [if_neg h3] at h
            by_cases h4 : b.toNat < 32 ∧ b ≠ 9 ∨ b = 127
            · rw [if_pos h4] at h; simp at h
            · rw [if_neg h4] at h
              exact step (fun y => tab b :: y) h fun t' => by rw [quoL.eq_def]; simp only; rw [if_neg h1, if_neg h2, if_neg h3, if_neg h4]
theorem brk_loc : ∀ (s : List UInt8) (n : Nat), brkL s = some n → ∃ c t, s = c ++ t ∧ c.length = n ∧ 0 < n ∧ ∀ t', brkL (c ++ t') = some n
  | [], n, h => by simp [brkL] at h
  | b :: t, n, h => by
    rw [brkL] at h
    by_cases h1 : b = 93
    · rw [if_pos h1] at h
      obtain rfl := Option.some.inj h
      exact ⟨[b], t, rfl, rfl, by omega, fun t' => by rw [List.cons_append, brkL, if_pos h1]⟩
    · rw [if_neg h1] at h
      by_cases h2 : b.toNat ≤ 32 ∨ 126 < b.toNat ∨ b = 91 ∨ b = 92
      · rw [if_pos h2] at h; simp at h
      · rw [if_neg h2] at h
        obtain ⟨m, h3, rfl⟩ := Option.map_eq_some_iff.1 h
        obtain ⟨c, u, rfl, rfl, hm, hc⟩ := brk_loc t m h3
        exact ⟨b :: c, u, rfl, rfl, by omega, fun t' => by rw [List.cons_append, brkL, if_neg h1, if_neg h2, hc]; rfl⟩
/-- No byte of an atom stands at the front. -/
def Nxt (s : List UInt8) : Prop := ∀ b t, s = b :: t → atB b = false
theorem atN_split : ∀ (s : List UInt8), ∃ c t, s = c ++ t ∧ c.length = atN s ∧ (∀ b ∈ c, atB b = true) ∧ Nxt t
  | [] => ⟨[], [], rfl, rfl, by simp, fun _ _ h => by simp at h⟩
  | b :: s => by
    obtain ⟨c, t, rfl, h1, h2, h3⟩ := atN_split s
    by_cases h : atB b = true
    · refine ⟨b :: c, t, rfl, by rw [atN, if_pos h, List.length_cons, h1], fun x hx => ?_, h3⟩
      rcases List.mem_cons.1 hx with rfl | hx
      · exact h
      · exact h2 x hx
    · refine ⟨[], b :: (c ++ t), rfl, by rw [atN, if_neg h]; rfl, by simp, fun x u e => ?_⟩
      obtain ⟨rfl, -⟩ := List.cons.inj e
      simpa using h
theorem atN_app : ∀ (c t : List UInt8), (∀ b ∈ c, atB b = true) → Nxt t → atN (c ++ t) = c.length
  | [], t, _, h => by
    cases t with
    | nil => rfl
    | cons b t => rw [List.nil_append, atN, if_neg (by rw [h b t rfl]; simp)]; rfl
  | b :: c, t, hc, h => by
    rw [List.cons_append, atN, if_pos (hc b (List.mem_cons_self ..)), atN_app c t (fun x hx => hc x (List.mem_cons_of_mem _ hx)) h, List.length_cons]

/-- Bytes that are no token. -/
inductive Gap : List UInt8 → Prop
  | nil : Gap []
  | bl (b : UInt8) (g : List UInt8) : blB b = true → Gap g → Gap (b :: g)
  | cm (c g : List UInt8) : cmtL (40 :: c) 0 = some (c.length + 1) → Gap g → Gap (40 :: c ++ g)
/-- The bytes of a token. -/
inductive Raw : It → Prop
  | sg (g : List UInt8) (c : UInt8) : sgB c = true → Raw ⟨g, [c], c, []⟩
  | qu (g c x : List UInt8) : quoL c = some (x, c.length) → Raw ⟨g, 34 :: c, 113, x⟩
  | li (g c : List UInt8) : brkL c = some c.length → Raw ⟨g, 91 :: c, 108, 91 :: c⟩
  | at_ (g : List UInt8) (b : UInt8) (c : List UInt8) : (∀ x ∈ b :: c, atB x = true) → Raw ⟨g, b :: c, 97, b :: c⟩
structure Tok (i : It) : Prop where
  g : Gap i.gap
  r : Raw i
/-- Two tokens may stand so. -/
def Nb (i j : It) : Prop := i.kind = 97 → j.gap = [] → j.kind ≠ 97
def Chn {α : Type} (R : α → α → Prop) : List α → Prop
  | [] => True
  | [_] => True
  | a :: b :: l => R a b ∧ Chn R (b :: l)
def Lx (o : Nat) (s : List UInt8) (T : List Tk) : Prop := ∀ f, s.length < f → cutL f o s = some T
theorem Lx.nil (o : Nat) : Lx o [] [⟨101, [], o, o⟩] := by
  intro f hf
  obtain ⟨f, rfl⟩ : ∃ m, f = m + 1 := ⟨f - 1, by have : 0 < f := hf; omega⟩
  rfl
theorem Lx.skip {o n : Nat} {s : List UInt8} {T : List Tk} (h1 : one s = some (n, none)) (h0 : 0 < n) (h : Lx (o + n) (s.drop n) T) : Lx o s T := by
  intro f hf
  cases s with
  | nil => simp [one] at h1
  | cons c t =>
    obtain ⟨f, rfl⟩ : ∃ m, f = m + 1 := ⟨f - 1, by omega⟩
    rw [cutL]
    simp only [h1]
    exact h f (by rw [List.length_drop]; simp at hf ⊢; omega)
theorem Lx.tok {o n : Nat} {s : List UInt8} {k : UInt8} {x : List UInt8} {T : List Tk} (h1 : one s = some (n, some (k, x))) (h0 : 0 < n) (h : Lx (o + n) (s.drop n) T) : Lx o s (⟨k, x, o, o + n⟩ :: T) := by
  intro f hf
  cases s with
  | nil => simp [one] at h1
  | cons c t =>
    obtain ⟨f, rfl⟩ : ∃ m, f = m + 1 := ⟨f - 1, by omega⟩
    rw [cutL]
    simp only [h1]
    rw [h f (by rw [List.length_drop]; simp at hf ⊢; omega)]
    rfl
theorem bl_ne {b : UInt8} (h : blB b = true) : atB b = false := by
  unfold blB at h
  simp at h
  rcases h with h | h | h | h <;> subst h <;> decide
theorem sg_ne {b : UInt8} (h : sgB b = true) : atB b = false ∧ blB b = false ∧ b ≠ 40 ∧ b ≠ 34 ∧ b ≠ 91 ∧ b ≠ 97 ∧ b ≠ 101 := by
  unfold sgB at h
  simp at h
  rcases h with h | h | h | h | h | h | h <;> subst h <;> decide
theorem at_ne {b : UInt8} (h : atB b = true) : blB b = false ∧ b ≠ 40 ∧ b ≠ 34 ∧ b ≠ 91 ∧ sgB b = false := by
  refine ⟨good_of fun e => ?_, ?_, ?_, ?_, good_of fun e => ?_⟩
  · rw [bl_ne e] at h; exact absurd h (by simp)
  · rintro rfl; exact absurd h (by decide)
  · rintro rfl; exact absurd h (by decide)
  · rintro rfl; exact absurd h (by decide)
  · rw [(sg_ne e).1] at h; exact absurd h (by simp)
theorem cmt_all {c : List UInt8} {d : Nat} (h : cmtL c d = some c.length) (t : List UInt8) : cmtL (c ++ t) d = some c.length := by
  obtain ⟨c', u, e, h1, _, h2⟩ := cmt_loc _ c d _ (Nat.le_refl _) h
  have : u = [] := by
    have := congrArg List.length e
    rw [List.length_append] at this
    exact List.eq_nil_of_length_eq_zero (by omega)
  subst this
  rw [List.append_nil] at e
  subst e
  exact h2 t
theorem quo_all {c x : List UInt8} (h : quoL c = some (x, c.length)) (t : List UInt8) : quoL (c ++ t) = some (x, c.length) := by
  obtain ⟨c', u, e, h1, _, h2⟩ := quo_loc _ c x _ (Nat.le_refl _) h
  have : u = [] := by
    have := congrArg List.length e
    rw [List.length_append] at this
    exact List.eq_nil_of_length_eq_zero (by omega)
  subst this
  rw [List.append_nil] at e
  subst e
  exact h2 t
theorem brk_all {c : List UInt8} (h : brkL c = some c.length) (t : List UInt8) : brkL (c ++ t) = some c.length := by
  obtain ⟨c', u, e, h1, _, h2⟩ := brk_loc c _ h
  have : u = [] := by
    have := congrArg List.length e
    rw [List.length_append] at this
    exact List.eq_nil_of_length_eq_zero (by omega)
  subst this
  rw [List.append_nil] at e
  subst e
  exact h2 t
theorem Lx.gap {g : List UInt8} (hg : Gap g) : ∀ {o : Nat} {s : List UInt8} {T : List Tk}, Lx (o + g.length) s T → Lx o (g ++ s) T := by
  induction hg with
  | nil => intro o s T h; exact h
  | bl b g hb _ ih =>
    intro o s T h
    refine Lx.skip (n := 1) (by rw [List.cons_append, one, if_pos hb]) (by decide) ?_
    exact ih (by rw [List.length_cons] at h; rw [show o + 1 + g.length = o + (g.length + 1) by omega]; exact h)
  | cm c g hc _ ih =>
    intro o s T h
    have e : 40 :: c ++ g ++ s = 40 :: (c ++ (g ++ s)) := by simp
    rw [e]
    refine Lx.skip (n := c.length + 1) ?_ (by omega) ?_
    · have := cmt_all (c := 40 :: c) hc (g ++ s)
      rw [one, if_neg (by decide), if_pos rfl, show (40 :: (c ++ (g ++ s)) : List UInt8) = 40 :: c ++ (g ++ s) by simp, this]
      rfl
    · rw [show (40 :: (c ++ (g ++ s)) : List UInt8).drop (c.length + 1) = g ++ s by rw [List.drop_succ_cons, List.drop_left]]
      refine ih ?_
      rw [List.length_append, List.length_cons] at h
      rw [show o + (c.length + 1) + g.length = o + (c.length + 1 + g.length) by omega]
      exact h
theorem Lx.raw {i : It} (hi : Raw i) {o : Nat} {s : List UInt8} {T : List Tk} (hn : i.kind = 97 → Nxt s) (h : Lx (o + i.raw.length) s T) : Lx o (i.raw ++ s) (⟨i.kind, i.text, o, o + i.raw.length⟩ :: T) := by
  cases hi with
  | sg g c hc =>
    obtain ⟨h1, h2, h3, h4, h5, _⟩ := sg_ne hc
    exact Lx.tok (n := 1) (by show one (c :: s) = _; rw [one, if_neg (by simp [h2]), if_neg h3, if_neg h4, if_neg h5, if_pos hc]) (by decide) h
  | qu g c x hc =>
    refine Lx.tok (n := c.length + 1) ?_ (by omega) ?_
    · show one (34 :: (c ++ s)) = _
      rw [one, if_neg (by decide), if_neg (by decide), if_pos rfl, quo_all hc]; rfl
    · show Lx _ ((34 :: (c ++ s)).drop (c.length + 1)) _
      rw [List.drop_succ_cons, List.drop_left]; exact h
  | li g c hc =>
    refine Lx.tok (n := c.length + 1) ?_ (by omega) ?_
    · show one (91 :: (c ++ s)) = _
      rw [one, if_neg (by decide), if_neg (by decide), if_neg (by decide), if_pos rfl, brk_all hc]
      show some (_, some (_, (91 :: (c ++ s)).take (c.length + 1))) = _
      rw [List.take_succ_cons, List.take_left]
    · show Lx _ ((91 :: (c ++ s)).drop (c.length + 1)) _
      rw [List.drop_succ_cons, List.drop_left]; exact h
  | at_ g b c hc =>
    obtain ⟨h1, h2, h3, h4, h5⟩ := at_ne (hc b (List.mem_cons_self ..))
    have e := atN_app c s (fun x hx => hc x (List.mem_cons_of_mem _ hx)) (hn rfl)
    refine Lx.tok (n := c.length + 1) ?_ (by omega) ?_
    · show one (b :: (c ++ s)) = _
      rw [one, if_neg (by simp [h1]), if_neg h2, if_neg h3, if_neg h4, if_neg (by simp [h5]), if_pos (hc b (List.mem_cons_self ..)), e, List.take_succ_cons, List.take_left]
    · show Lx _ ((b :: (c ++ s)).drop (c.length + 1)) _
      rw [List.drop_succ_cons, List.drop_left]; exact h
end Go.Proofs.YtmlmkmhkmifnkaaGreatDoor.Ma

/- What is cut is items; mailboxes put in the place of others leave the grammar and the cutting as they are. -/
namespace Go.Proofs.YtmlmkmhkmifnkaaGreatDoor.Ma

theorem Chn.tail {α : Type} {R : α → α → Prop} {a : α} {l : List α} (h : Chn R (a :: l)) : Chn R l := by
  cases l with
  | nil => trivial
  | cons b l => exact h.2
theorem Chn.cons {α : Type} {R : α → α → Prop} {a : α} {l : List α} (h : Chn R l) (h1 : ∀ b t, l = b :: t → R a b) : Chn R (a :: l) := by
  cases l with
  | nil => trivial
  | cons b l => exact ⟨h1 b l rfl, h⟩
theorem Chn.app {α : Type} {R : α → α → Prop} : ∀ {a b : List α}, Chn R a → Chn R b → (∀ x ∈ a.getLast?, ∀ y t, b = y :: t → R x y) → Chn R (a ++ b)
  | [], _, _, h, _ => h
  | [x], _, _, h, hx => Chn.cons h fun y t e => hx x (by simp) y t e
  | _ :: y :: a, _, h1, h2, hx => ⟨h1.1, Chn.app (a := y :: a) h1.2 h2 fun z hz => hx z (by rw [List.getLast?_cons_cons]; exact hz)⟩
/-- What one step finds: bytes that are no token, or a token. -/
theorem one_sound (s : List UInt8) (n : Nat) (x : Option (UInt8 × List UInt8)) (h : one s = some (n, x)) :
    ∃ c t, s = c ++ t ∧ c.length = n ∧ 0 < n ∧ match x with
      | none => ∀ g, Gap g → Gap (c ++ g)
      | some (k, u) => Raw ⟨[], c, k, u⟩ ∧ (k = 97 → Nxt t) := by
  cases s with
  | nil => simp [one] at h
  | cons b s =>
    rw [one] at h
    by_cases h1 : blB b = true
    · rw [if_pos h1] at h
      obtain ⟨rfl, rfl⟩ := Prod.mk.inj (Option.some.inj h)
      exact ⟨[b], s, rfl, rfl, by decide, fun g hg => .bl b g h1 hg⟩
    rw [if_neg h1] at h
    by_cases h2 : b = 40
    · rw [if_pos h2] at h
      obtain ⟨m, h3, h4⟩ := Option.map_eq_some_iff.1 h
      obtain ⟨rfl, rfl⟩ := Prod.mk.inj h4
      obtain ⟨c, t, e, rfl, h5, h6⟩ := cmt_loc _ _ _ _ (Nat.le_refl _) h3
      refine ⟨c, t, e, rfl, h5, fun g hg => ?_⟩
      cases c with
      | nil => simp at h5
      | cons b' c =>
        rw [List.cons_append] at e
        obtain ⟨rfl, rfl⟩ := List.cons.inj e
        subst h2
        exact .cm c g (by have := h6 []; rw [List.append_nil] at this; exact this) hg
    rw [if_neg h2] at h
    by_cases h3 : b = 34
    · rw [if_pos h3] at h
      obtain ⟨⟨u, m⟩, h4, h5⟩ := Option.map_eq_some_iff.1 h
      obtain ⟨rfl, rfl⟩ := Prod.mk.inj h5
      obtain ⟨c, t, rfl, rfl, h5, h6⟩ := quo_loc _ _ _ _ (Nat.le_refl _) h4
      subst h3
      exact ⟨34 :: c, t, rfl, rfl, by omega, .qu [] c u (by have := h6 []; rw [List.append_nil] at this; exact this), fun h => absurd h (by decide)⟩
    rw [if_neg h3] at h
    by_cases h4 : b = 91
    · rw [if_pos h4] at h
      obtain ⟨m, h5, h6⟩ := Option.map_eq_some_iff.1 h
      obtain ⟨rfl, rfl⟩ := Prod.mk.inj h6
      obtain ⟨c, t, rfl, rfl, h7, h8⟩ := brk_loc _ _ h5
      subst h4
      refine ⟨91 :: c, t, rfl, rfl, by omega, ?_, fun h => absurd h (by decide)⟩
      rw [List.take_succ_cons, List.take_left]
      exact .li [] c (by have := h8 []; rw [List.append_nil] at this; exact this)
    rw [if_neg h4] at h
    by_cases h5 : sgB b = true
    · rw [if_pos h5] at h
      obtain ⟨rfl, e⟩ := Prod.mk.inj (Option.some.inj h)
      subst e
      exact ⟨[b], s, rfl, rfl, by decide, .sg [] b h5, fun h => absurd h (sg_ne h5).2.2.2.2.2.1⟩
    rw [if_neg h5] at h
    by_cases h6 : atB b = true
    · rw [if_pos h6] at h
      obtain ⟨rfl, e⟩ := Prod.mk.inj (Option.some.inj h)
      subst e
      obtain ⟨c, t, rfl, h7, h8, h9⟩ := atN_split s
      refine ⟨b :: c, t, rfl, by rw [List.length_cons, h7], by omega, ?_, fun _ => h9⟩
      rw [← h7, List.take_succ_cons, List.take_left]
      exact .at_ [] b c fun x hx => by
        rcases List.mem_cons.1 hx with rfl | hx
        · exact h6
        · exact h8 x hx
    · rw [if_neg h6] at h; simp at h
/-! Segments -/
/-- A mailbox that may stand in a place. -/
structure Put (s : Spc) : Prop where
  sp : IsSpec s
  tok : ∀ i ∈ s.sec, Tok i
  chn : Chn Nb s.sec
/-- Other mailboxes, all else as it is. -/
inductive Rp : List Sg → List Sg → Prop
  | nil : Rp [] []
  | keep (i : It) (a b : List Sg) : Rp a b → Rp (.keep i :: a) (.keep i :: b)
  | sp (s s' : Spc) (n : List UInt8) (a b : List Sg) : Put s' → Rp a b → Rp (.sp s n :: a) (.sp s' n :: b)
theorem Rp.app {a : List Sg} : ∀ {b m : List Sg}, Rp (a ++ b) m → ∃ a' b', m = a' ++ b' ∧ Rp a a' ∧ Rp b b' := by
  induction a with
  | nil => intro b m h; exact ⟨[], m, rfl, .nil, h⟩
  | cons x a ih =>
    intro b m h
    cases h with
    | keep i _ m h =>
      obtain ⟨a', b', rfl, h1, h2⟩ := ih h
      exact ⟨.keep i :: a', b', rfl, .keep i _ _ h1, h2⟩
    | sp s s' n _ m hs h =>
      obtain ⟨a', b', rfl, h1, h2⟩ := ih h
      exact ⟨.sp s' n :: a', b', rfl, .sp s s' n _ _ hs h1, h2⟩
end Go.Proofs.YtmlmkmhkmifnkaaGreatDoor.Ma

/- Mailboxes put into a text: what is read then. -/
namespace Go.Proofs.YtmlmkmhkmifnkaaGreatDoor.Ma

/-! Putting -/
section
variable {α : Type} (F : List UInt8 → α → Spc) (T : α → List UInt8)
def Sg.ok : Sg → Prop
  | .keep _ => True
  | .sp s _ => IsSpec s
end
/-- A mailbox stands in its place, behind those ahead. -/
def Ord (n : Nat) : Nat → List Sp → Prop
  | a, [] => a ≤ n
  | a, x :: l => a ≤ x.from_ ∧ x.from_ < x.til ∧ Ord n x.til l
theorem Ord.mono {n : Nat} : ∀ {l : List Sp} {a b : Nat}, Ord n a l → b ≤ a → Ord n b l
  | [], _, _, h, hb => Nat.le_trans hb h
  | _ :: _, _, _, h, hb => ⟨Nat.le_trans hb h.1, h.2⟩
end Go.Proofs.YtmlmkmhkmifnkaaGreatDoor.Ma

/- Cidr in plain terms. -/
namespace Go.Proofs.YtmlmkmhkmifnkaaGreatDoor.Ci

structure Nt where
  six : Bool
  bits : Int
  addr : List Nat
def sizeQ (six : Bool) : Nat := if six then 128 else 32
/-- One byte of an address of which so many bits are kept. -/
def cutB (x : Nat) (keep : Int) : Nat := if keep ≤ 0 then 0 else if keep < 8 then x &&& ((255 * 2 ^ (8 - keep).toNat) % 256) else x
def cutL (l : List Nat) (bits : Int) : List Nat := l.mapIdx fun i x => cutB x (bits - 8 * i)
def rightQ (n : Nt) : Bool := decide (0 ≤ n.bits) && decide (n.bits ≤ sizeQ n.six) && decide (cutL n.addr n.bits = n.addr)
/-! ### A range as the machine has it -/
def u8V (n : Nat) : Value := .int .u8 n
/-- Its cells. -/
def netC (n : Nt) : List Value := .bool n.six :: .int .i64 n.bits :: n.addr.map u8V
def netV (n : Nt) : Value := .agg (netC n).toArray
def addrV (l : List Nat) : Value := .agg (l.map u8V).toArray
/-- A range that may be handed over. -/
structure Nt.Fits (n : Nt) : Prop where
  b1 : -9223372036854775808 ≤ n.bits
  b2 : n.bits ≤ 9223372036854775807
  len : n.addr.length = 16
  by_ : ∀ x ∈ n.addr, x < 256
end Go.Proofs.YtmlmkmhkmifnkaaGreatDoor.Ci

/- The bits of an address that are kept. -/
namespace Go.Proofs.YtmlmkmhkmifnkaaGreatDoor.Ci
open Go.RowKit

theorem Hid.mk {p : Prop} (h : p) : Hid p := h
/-- What is known, kept from the walk's eyes. -/
theorem hid {p : Prop} (h : p) : Hid p := h
/-- All that was there is as it was. -/
def Bel (w w' : World) : Prop := Below w.heap.size w w'
theorem Bel.refl (w : World) : Bel w w := Below.refl _ _
theorem Bel.trans {a b c : World} (h : Bel a b) (k : Bel b c) : Bel a c := Below.trans h (Below.mono k h.size)
theorem Bel.alloc {a w : World} (h : Bel a w) (o : Obj) : Bel a (w.alloc o) := Below.alloc h h.size o
theorem Bel.drew {a w : World} (h : Bel a w) : Bel a w.drew := Below.drew h
theorem Bel.drewN {a w : World} (h : Bel a w) (n : Nat) : Bel a (w.drewN n) := ⟨h.os, h.tape, h.output, h.size, h.block⟩
theorem Bel.setCell {a w : World} (h : Bel a w) {b o : Nat} (hb : a.heap.size ≤ b) (v : Value) : Bel a (w.setCell ⟨b, o, none⟩ v) := Below.setCell h hb v
theorem Bel.setCells {a : World} {b : Nat} (hb : a.heap.size ≤ b) : ∀ (vs : List Value) (o : Nat) (w : World), Bel a w → Bel a (w.setCells b o vs)
  | [], _, _, h => h
  | v :: vs, o, w, h => Bel.setCells hb vs (o + 1) (w.setCell ⟨b, o, none⟩ v) (h.setCell hb v)
theorem Bel.heap {a w : World} (h : Bel a w) {k : Nat} {o : Obj} (hk : a.heap[k]? = some o) : w.heap[k]? = some o :=
  (h.block k (Array.getElem?_eq_some_iff.1 hk).1).trans hk

/-- The first k bytes cut. -/
def cutK (l : List Nat) (bits : Int) (k : Nat) : List Nat := l.mapIdx fun i x => if i < k then cutB x (bits - 8 * i) else x
theorem cutK_zero (l : List Nat) (bits : Int) : cutK l bits 0 = l := by
  unfold cutK
  refine List.ext_getElem (by simp) fun i h1 h2 => by simp
theorem cutK_len (l : List Nat) (bits : Int) (k : Nat) : (cutK l bits k).length = l.length := by simp [cutK]
theorem cutK_all (l : List Nat) (bits : Int) (k : Nat) (h : l.length ≤ k) : cutK l bits k = cutL l bits := by
  unfold cutK cutL
  refine List.ext_getElem (by simp) fun i h1 h2 => ?_
  simp only [List.length_mapIdx] at h1
  simp [(by omega : i < k)]
theorem cutK_at (l : List Nat) (bits : Int) (k : Nat) (hk : k < l.length) : (cutK l bits k)[k]? = some l[k] := by
  simp [cutK, hk]
theorem cutK_next (l : List Nat) (bits : Int) (k : Nat) (hk : k < l.length) : cutK l bits (k + 1) = (cutK l bits k).set k (cutB l[k] (bits - 8 * k)) := by
  unfold cutK
  refine List.ext_getElem (by simp) fun i h1 h2 => ?_
  rw [List.getElem_set]
  by_cases e : k = i
  · subst e
    simp
  · rw [if_neg e]
    simp [(by omega : i < k + 1 ↔ i < k)]

/-- The memory of a cut in hand. -/
structure CutW (w wr : World) (l : List Nat) : Prop where
  bel : Bel w wr
  hc : wr.heap[w.heap.size]? = some (.cells (l.map u8V).toArray 84 (0, 0))
  hr : wr.heap[w.heap.size + 1]? = some (.cells (Array.replicate 16 (u8V 0)) 84 (0, 0))
theorem CutW.cell {w wr : World} {l : List Nat} (h : CutW w wr l) {k : Nat} {x : Nat} (hk : l[k]? = some x) : wr.cell? ⟨w.heap.size, k, none⟩ = some (.int .u8 (x : Int)) := by
  simp [World.cell?, h.hc, hk, u8V]
theorem CutW.set {w wr : World} {l : List Nat} (h : CutW w wr l) (k x : Nat) : CutW w (wr.setCell ⟨w.heap.size, k, none⟩ (.int .u8 (x : Int))) (l.set k x) := by
  refine ⟨h.bel.setCell (Nat.le_refl _) _, ?_, ?_⟩
  · rw [heap_setCell_same wr _ _ _ _ _ h.hc]
    simp [u8V, List.map_set]
  · rw [heap_setCell_other _ _ _ _ (by simp)]
    exact h.hr

theorem CutW.drew {w wr : World} {l : List Nat} (h : CutW w wr l) : CutW w wr.drew l := ⟨h.bel.drew, h.hc, h.hr⟩

set_option maxHeartbeats 1000000 in
set_option maxRecDepth 100000 in
theorem cut_run (l : List Nat) (nb : Int) (w : World) (hl : l.length = 16) (hx : ∀ x ∈ l, x < 256) (h0 : 0 ≤ nb) (h1 : nb ≤ 128) :
    Calls Tryz.prog 197 #[addrV l, .int .i64 nb] w fun e w' => e = .returned (addrV (cutL l nb)) ∧ Bel w w' := by
  have HX := hid hx
  unfold addrV
  clear hx
  go_enter Tryz.func197, Tryz.ntmps197
  go_wp2_with fail
  go_loopg [5, 6, 7] 16 (fun gg v5 v6 v7 wr => ∃ k : Nat, v7 = .int .i64 k ∧ k + gg = 16 ∧ Hid (CutW w wr (cutK l nb k)))
  case atStart =>
    refine ⟨0, rfl, by omega, hid ⟨((Bel.refl w).alloc _).alloc _, ?_, ?_⟩⟩
    · rw [cutK_zero]
      exact (Below.heap_alloc _ _ _ (by simp)).trans (heap_alloc_new w _)
    · have := heap_alloc_new (w.alloc (.cells (l.map u8V).toArray 84)) (.cells (Array.replicate 16 (u8V 0)) 84)
      rw [World.size_alloc] at this
      exact this
  case round =>
    obtain ⟨k, rfl, hk, H⟩ := hrel
    have Hk := hid hk
    have hkn : k ≤ 16 := by omega
    clear hk
    by_cases hlt : k < 16
    · have hkl : k < l.length := by omega
      have c0 := H.out.cell (cutK_at l nb k hkl)
      have hn := cutK_next l nb k hkl
      have hxl := HX.out _ (List.getElem_mem hkl)
      have f0 : wr.frozen? ⟨w.heap.size, k, none⟩ = false := by simp [World.frozen?, H.out.hc]
      generalize hx0 : l[k] = x at c0 hn hxl
      by_cases h8 : nb - 8 * k ≤ 0
      · have d1 : decide (nb - 8 * k ≤ 0) = true := decide_eq_true h8
        have he : cutB x (nb - 8 * k) = 0 := if_pos h8
        rw [he] at hn
        have HN := hid (H.out.set k 0)
        rw [← hn] at HN
        clear hn he
        go_wp2_with fail
        go_roundg (gk - 1)
        case measure => have := Hk.out; omega
        case rel => exact ⟨k + 1, by go_num, by have := Hk.out; omega, HN⟩
      · have d1 : decide (nb - 8 * k ≤ 0) = false := decide_eq_false h8
        by_cases h9 : nb - 8 * k < 8
        · have d2 : decide (nb - 8 * k < 8) = true := decide_eq_true h9
          have he : cutB x (nb - 8 * k) = x &&& ((255 * 2 ^ (8 - (nb - 8 * k)).toNat) % 256) := by
            unfold cutB
            rw [if_neg h8, if_pos h9]
          rw [he] at hn
          have HN := hid (H.out.set k (x &&& ((255 * 2 ^ (8 - (nb - 8 * k)).toNat) % 256))).drew
          rw [← hn] at HN
          have hb : bits .and .u8 (x : Int) (255 * 2 ^ (8 - (nb - 8 * (k : Int))).toNat % 256) = ((x &&& ((255 * 2 ^ (8 - (nb - 8 * k)).toNat) % 256) : Nat) : Int) := by
            rw [← u8_and_nat _ _ hxl (Nat.mod_lt _ (by decide))]
            simp
          clear hn he
          go_wp2_with fail
          go_region
          go_wp2_with fail
          go_roundg (gk - 1)
          case measure => have := Hk.out; omega
          case rel => exact ⟨k + 1, by go_num, by have := Hk.out; omega, HN⟩
        · have d2 : decide (nb - 8 * k < 8) = false := decide_eq_false h9
          have he : cutB x (nb - 8 * k) = x := by
            unfold cutB
            rw [if_neg h8, if_neg h9]
          rw [he] at hn
          have hs : (cutK l nb k).set k x = cutK l nb k := by
            refine List.ext_getElem (by simp) fun i h1 h2 => ?_
            rw [List.getElem_set]
            split
            · rename_i e
              subst e
              have := cutK_at l nb k hkl
              rw [List.getElem?_eq_getElem (by rw [cutK_len]; exact hkl), hx0] at this
              exact (Option.some.inj this).symm
            · rfl
          have HN := H
          rw [hs] at hn
          rw [← hn] at HN
          clear hn he hs
          go_wp2_with fail
          go_roundg (gk - 1)
          case measure => have := Hk.out; omega
          case rel => exact ⟨k + 1, by go_num, by have := Hk.out; omega, HN⟩
    · obtain rfl : k = 16 := by omega
      have hK : cutK l nb 16 = cutL l nb := cutK_all l nb 16 (by omega)
      rw [hK] at H
      clear hK
      have hll : (cutL l nb).length = 16 := by simp [cutL, hl]
      have hR := hid (show wr.rangeAt w.heap.size 0 ((cutL l nb).map u8V) from fun j v hv => by simp [World.cell?, H.out.hc, hv])
      have hT := hid (show wr.there (w.heap.size + 1) 0 ((cutL l nb).map u8V).toArray.size from fun j hj => by
        have hj' : j < 16 := by simpa [hll] using hj
        constructor
        · simp [World.cell?, H.out.hr, hj']
        · simp [World.frozen?, H.out.hr])
      have hZ := hid (show (Tryz.prog.info? 84).map (·.size) = some ((cutL l nb).map u8V).length by rw [List.length_map, hll]; kernel_rfl)
      go_wp2_with (first
        | refine wpList_load_mid rfl 84 (.tmp 2) rfl w.heap.size 0 rfl ((cutL l nb).map u8V) (.array 16 5) hR.out Tryz.underlying84 rfl hZ.out ?_
        | refine wpList_store_mid rfl 84 (.tmp 4) (.tmp 31) rfl (w.heap.size + 1) 0 ((cutL l nb).map u8V).toArray rfl rfl hT.out (by rw [List.size_toArray]; exact hZ.out) (by simp [u8V, Value.oneCell']) ?_)
      have hl2 := run_loadVar_mid (P := Tryz.prog) (wr.setCells (w.heap.size + 1) 0 ((cutL l nb).map u8V)) (w.heap.size + 1) 0 84 ((cutL l nb).map u8V) (.array 16 5)
        (World.rangeAt_setCells_same _ _ _ _ (by simpa using hT.out)) Tryz.underlying84 rfl hZ.out
      refine bodyPost_ret (v := .agg ((cutL l nb).map u8V).toArray) (by simp [results, Tryz.results197, Act.put, asAddr, hl2]) rfl ⟨rfl, ?_⟩
      exact Bel.setCells (by omega) _ _ _ H.out.bel
end Go.Proofs.YtmlmkmhkmifnkaaGreatDoor.Ci

/- Equality of addresses, of ranges; a region whose calls may make memory, walked in the text's order. -/
namespace Go.Proofs.YtmlmkmhkmifnkaaGreatDoor.Ci
open Go.RowKit

set_option maxHeartbeats 4000000 in
set_option maxRecDepth 100000 in
theorem eq_arr16 (x0 x1 x2 x3 x4 x5 x6 x7 x8 x9 x10 x11 x12 x13 x14 x15 y0 y1 y2 y3 y4 y5 y6 y7 y8 y9 y10 y11 y12 y13 y14 y15 : Nat) (w : World) : (Op.equalIn 10000 84 (.agg #[.int .u8 (x0 : Nat), .int .u8 (x1 : Nat), .int .u8 (x2 : Nat), .int .u8 (x3 : Nat), .int .u8 (x4 : Nat), .int .u8 (x5 : Nat), .int .u8 (x6 : Nat), .int .u8 (x7 : Nat), .int .u8 (x8 : Nat), .int .u8 (x9 : Nat), .int .u8 (x10 : Nat), .int .u8 (x11 : Nat), .int .u8 (x12 : Nat), .int .u8 (x13 : Nat), .int .u8 (x14 : Nat), .int .u8 (x15 : Nat)]) (.agg #[.int .u8 (y0 : Nat), .int .u8 (y1 : Nat), .int .u8 (y2 : Nat), .int .u8 (y3 : Nat), .int .u8 (y4 : Nat), .int .u8 (y5 : Nat), .int .u8 (y6 : Nat), .int .u8 (y7 : Nat), .int .u8 (y8 : Nat), .int .u8 (y9 : Nat), .int .u8 (y10 : Nat), .int .u8 (y11 : Nat), .int .u8 (y12 : Nat), .int .u8 (y13 : Nat), .int .u8 (y14 : Nat), .int .u8 (y15 : Nat)])).run Tryz.prog w = .ok (decide ([x0, x1, x2, x3, x4, x5, x6, x7, x8, x9, x10, x11, x12, x13, x14, x15] = [y0, y1, y2, y3, y4, y5, y6, y7, y8, y9, y10, y11, y12, y13, y14, y15])) w := by
  have u5 := Tryz.underlying5
  have a5 := Tryz.isAgg5
  have z5 := Tryz.sizeOf5
  rw [show (10000 : Nat) = 9999 + 1 from rfl, Op.equalIn]
  simp only [Sem.run_bind, run_underlying Tryz.underlying84, Result.andThen_ok]
  simp only [Std.Legacy.Range.forIn_eq_forIn_range', Std.Legacy.Range.size, Nat.sub_zero, Nat.add_sub_cancel, Nat.div_one, List.range'_succ, List.range'_zero, List.forIn_cons, List.forIn_nil]
  go_simp
  by_cases h0 : x0 = y0
  case neg => simp [h0]; intros; omega
  subst h0
  by_cases h1 : x1 = y1
  case neg => simp [h1]; intros; omega
  subst h1
  by_cases h2 : x2 = y2
  case neg => simp [h2]; intros; omega
  subst h2
  by_cases h3 : x3 = y3
  case neg => simp [h3]; intros; omega
  subst h3
  by_cases h4 : x4 = y4
  case neg => simp [h4]; intros; omega
  subst h4
  by_cases h5 : x5 = y5
  case neg => simp [h5]; intros; omega
  subst h5
  by_cases h6 : x6 = y6
  case neg => simp [h6]; intros; omega
  subst h6
  by_cases h7 : x7 = y7
  case neg => simp [h7]; intros; omega
  subst h7
  by_cases h8 : x8 = y8
  case neg => simp [h8]; intros; omega
  subst h8
  by_cases h9 : x9 = y9
  case neg => simp [h9]; intros; omega
  subst h9
  by_cases h10 : x10 = y10
  case neg => simp [h10]; intros; omega
  subst h10
  by_cases h11 : x11 = y11
  case neg => simp [h11]; intros; omega
  subst h11
  by_cases h12 : x12 = y12
  case neg => simp [h12]; intros; omega
  subst h12
  by_cases h13 : x13 = y13
  case neg => simp [h13]; intros; omega
  subst h13
  by_cases h14 : x14 = y14
  case neg => simp [h14]; intros; omega
  subst h14
  by_cases h15 : x15 = y15
  case neg => simp [h15]; intros; omega
  subst h15
  simp

theorem eq_arr (l m : List Nat) (hl : l.length = 16) (hm : m.length = 16) (w : World) : (Op.equalIn 10000 84 (.agg (l.map u8V).toArray) (.agg (m.map u8V).toArray)).run Tryz.prog w = .ok (decide (l = m)) w := by
  match l, hl, m, hm with
  | [x0, x1, x2, x3, x4, x5, x6, x7, x8, x9, x10, x11, x12, x13, x14, x15], _, [y0, y1, y2, y3, y4, y5, y6, y7, y8, y9, y10, y11, y12, y13, y14, y15], _ => exact eq_arr16 x0 x1 x2 x3 x4 x5 x6 x7 x8 x9 x10 x11 x12 x13 x14 x15 y0 y1 y2 y3 y4 y5 y6 y7 y8 y9 y10 y11 y12 y13 y14 y15 w

/-- Cells written over, from a place on. -/
theorem heap_setCells (b : Nat) (t : TypeId) : ∀ (vs : List Value) (o : Nat) (w : World) (cs : List Value), w.heap[b]? = some (.cells cs.toArray t (0, 0)) → o + vs.length ≤ cs.length →
    (w.setCells b o vs).heap[b]? = some (.cells (cs.take o ++ vs ++ cs.drop (o + vs.length)).toArray t (0, 0))
  | [], o, w, cs, h, _ => by
    rw [World.setCells, h]
    simp
  | v :: vs, o, w, cs, h, hl => by
    rw [List.length_cons] at hl
    have h2 : (w.setCell ⟨b, o, none⟩ v).heap[b]? = some (.cells (cs.set o v).toArray t (0, 0)) := by
      rw [heap_setCell_same w _ _ _ _ _ h, List.setIfInBounds_toArray]
    rw [World.setCells, heap_setCells b t vs (o + 1) _ (cs.set o v) h2 (by rw [List.length_set]; omega)]
    have e1 : (cs.set o v).take (o + 1) = cs.take o ++ [v] := by
      rw [List.take_set, List.take_succ_eq_append_getElem (by omega), List.set_append_right _ _ (by rw [List.length_take]; omega)]
      simp [List.length_take, Nat.min_eq_left (by omega : o ≤ cs.length)]
    have e2 : (cs.set o v).drop (o + 1 + vs.length) = cs.drop (o + (v :: vs).length) := by
      rw [List.drop_set_of_lt (by omega), List.length_cons]
      congr 1; omega
    rw [e1, e2]
    simp
theorem heap_setCells_whole {b : Nat} {t : TypeId} {vs cs : List Value} {w : World} (h : w.heap[b]? = some (.cells cs.toArray t (0, 0))) (hl : vs.length = cs.length) :
    (w.setCells b 0 vs).heap[b]? = some (.cells vs.toArray t (0, 0)) := by
  rw [heap_setCells b t vs 0 w cs h (by omega), hl]
  simp
theorem heap_setCells_other (b k : Nat) (hk : k ≠ b) : ∀ (vs : List Value) (o : Nat) (w : World), (w.setCells b o vs).heap[k]? = w.heap[k]?
  | [], _, _ => rfl
  | v :: vs, o, w => by rw [World.setCells, heap_setCells_other b k hk vs, heap_setCell_other _ _ _ _ hk]
theorem there_of {w : World} {b o n : Nat} {t : TypeId} {cs : List Value} (h : w.heap[b]? = some (.cells cs.toArray t (0, 0))) (hl : o + n ≤ cs.length) : w.there b o n := fun j hj => by
  constructor
  · simp [World.cell?, h, (by omega : o + j < cs.length)]
  · simp [World.frozen?, h]
theorem range_of {w : World} {b o : Nat} {t : TypeId} {cs vs : List Value} (h : w.heap[b]? = some (.cells cs.toArray t (0, 0))) (hl : ∀ j v, vs[j]? = some v → cs[o + j]? = some v) : w.rangeAt b o vs := fun j v hv => by
  simp [World.cell?, h, hl j v hv]

theorem alloc_second (w : World) (o p : Obj) : ((w.alloc o).alloc p).heap[w.heap.size + 1]? = some p := by
  have := heap_alloc_new (w.alloc o) p
  rw [World.size_alloc] at this
  exact this
theorem size_setCells (b : Nat) : ∀ (vs : List Value) (o : Nat) (w : World), (w.setCells b o vs).heap.size = w.heap.size
  | [], _, _ => rfl
  | v :: vs, o, w => by rw [World.setCells, size_setCells b vs, World.size_setCell]

/-- A world behind w, in which all that was there is as it was. -/
structure Aft (w : World) where
  wd : World
  bel : Bel w wd
instance (w : World) : Inhabited (Aft w) := ⟨⟨w, Bel.refl w⟩⟩
theorem wp_region_aft {P : Program} {id : Nat} {Q : Exit → Act → World → Prop} {a : Act} {w : World} {l : List Oper} (hm : P.follows .mixedOrders = true) (hB : Region.lexB .any l.toArray = true)
    (h : wpQuiet P l.toArray (fun w' => ∃ p : Aft w, w' = p.wd) (fun a' => ∀ w', (∃ p : Aft w, w' = p.wd) → Q .normal a' w') l a) : (Code.region id l.toArray true).wp P Q a w :=
  wp_region_quiet (C := fun w' => ∃ p : Aft w, w' = p.wd) hm hB ⟨⟨w.drew, (Bel.refl w).drew⟩, rfl⟩ (by simpa using h)
theorem Calls.aft {P : Program} {f : FuncId} {args : Array Value} {w : World} {p : Aft w} {v : Value} (h : Calls P f args p.wd fun e w' => e = .returned v ∧ Bel p.wd w') :
    Calls P f args p.wd fun e w'' => e = .returned v ∧ ∃ q : Aft w, w'' = q.wd :=
  h.mono fun _ w' ⟨he, hb⟩ => ⟨he, ⟨w', p.bel.trans hb⟩, rfl⟩
theorem quiet_load_aft {P : Program} {ops : Array Oper} {w : World} {Q : Act → Prop} {op : Oper} {rest : List Oper} {a : Act} (ty : TypeId) (x : Operand) (ho : op.op = .load ty x)
    (b o : Nat) (hx : a.eval x = .pointer (some ⟨b, o, none⟩)) (cs : List Value) (d : TypeDesc) (hS : ∀ p : Aft w, p.wd.rangeAt b o cs)
    (hu : P.underlying ty = some d) (hd : d.isRow = true) (hi : (P.info? ty).map (·.size) = some cs.length) (hw : Region.wanted op (yielded ops a.tmps) = true)
    (h : ∀ a', a' = a.put op.dst (.agg cs.toArray) → wpQuiet P ops (fun w' => ∃ p : Aft w, w' = p.wd) Q rest a') : wpQuiet P ops (fun w' => ∃ p : Aft w, w' = p.wd) Q (op :: rest) a := by
  show if Region.wanted op (yielded ops a.tmps) then _ else _
  rw [if_pos hw]
  refine ⟨_, ?_, h _ rfl⟩
  rintro w' ⟨p, rfl⟩
  unfold Oper.quietAt execOp
  simp only [ho, hx, Instr.loadAt, Instr.sureAddr, Sem.run_bind, Sem.run_pure, Result.andThen_ok, run_loadVar_mid p.wd b o ty cs d (hS p) hu hd hi]
  exact ⟨rfl, rfl⟩
end Go.Proofs.YtmlmkmhkmifnkaaGreatDoor.Ci

/- Right, Within. -/
namespace Go.Proofs.YtmlmkmhkmifnkaaGreatDoor.Ci
open Go.RowKit

theorem size_run (b : Bool) (w : World) : Calls Tryz.prog 126 #[.bool b] w fun e w' => e = .returned (.int .i64 (sizeQ b : Nat)) ∧ Bel w w' := by
  cases b with
  | false =>
    go_enter Tryz.func126, Tryz.ntmps126
    go_wp2_with fail
    go_ret
    exact ⟨rfl, Bel.refl _⟩
  | true =>
    go_enter Tryz.func126, Tryz.ntmps126
    go_wp2_with fail
    go_ret
    exact ⟨rfl, Bel.refl _⟩

/-- A range that lies in a new block, in every world from there on. -/
theorem Aft.cell {w : World} (p : Aft w) {b k : Nat} {v : Value} {cs : Array Value} {t : TypeId} (h : w.heap[b]? = some (.cells cs t (0, 0))) (hv : cs[k]? = some v) : p.wd.cell? ⟨b, k, none⟩ = some v := by
  simp [World.cell?, p.bel.heap h, hv]
theorem netC_six (n : Nt) : (netC n).toArray[0]? = some (.bool n.six) := by simp [netC]
theorem netC_bits (n : Nt) : (netC n).toArray[1]? = some (.int .i64 n.bits) := by simp [netC]
theorem Aft.range {w : World} (p : Aft w) {b : Nat} {n : Nt} {t : TypeId} (h : w.heap[b]? = some (.cells (netC n).toArray t (0, 0))) : p.wd.rangeAt b 2 (n.addr.map u8V) := fun j v hv => by
  refine p.cell h ?_
  simpa [netC, Nat.add_comm] using hv

theorem Aft.whole {w : World} (p : Aft w) {b : Nat} {n : Nt} {t : TypeId} (h : w.heap[b]? = some (.cells (netC n).toArray t (0, 0))) : p.wd.rangeAt b 0 (netC n) := fun j v hv => by
  refine p.cell h ?_
  simpa using hv

set_option maxHeartbeats 1000000 in
set_option maxRecDepth 100000 in
theorem right_run (n : Nt) (hn : n.Fits) (w : World) : Calls Tryz.prog 123 #[netV n] w fun e w' => e = .returned (.bool (rightQ n)) ∧ Bel w w' := by
  have HX := hid ((Bel.refl w).alloc (.cells (netC n).toArray 86))
  have hb := heap_alloc_new w (.cells (netC n).toArray 86)
  have c0 : ∀ p : Aft (w.alloc (.cells (netC n).toArray 86)), p.wd.cell? ⟨w.heap.size, 0, none⟩ = some (.bool n.six) := fun p => p.cell hb (netC_six n)
  have c1 : ∀ p : Aft (w.alloc (.cells (netC n).toArray 86)), p.wd.cell? ⟨w.heap.size, 1, none⟩ = some (.int .i64 n.bits) := fun p => p.cell hb (netC_bits n)
  have HR := hid (fun p : Aft (w.alloc (.cells (netC n).toArray 86)) => p.range hb)
  have hl := hn.len
  have hq : rightQ n = (decide (0 ≤ n.bits) && decide (n.bits ≤ (sizeQ n.six : Nat)) && decide (cutL n.addr n.bits = n.addr)) := rfl
  have hz := hid (show (Tryz.prog.info? 84).map (·.size) = some (n.addr.map u8V).length by rw [List.length_map, hl]; kernel_rfl)
  have hby := hid hn.by_
  have h128 : sizeQ n.six ≤ 128 := by unfold sizeQ; split <;> omega
  have hcl := eq_arr (cutL n.addr n.bits) n.addr (by simp [cutL, hl]) hl
  rw [hq]
  clear hb hn hq
  by_cases h0 : 0 ≤ n.bits
  · have d0 : decide (0 ≤ n.bits) = true := decide_eq_true h0
    by_cases h1 : n.bits ≤ (sizeQ n.six : Nat)
    · have d1 : decide (n.bits ≤ (sizeQ n.six : Nat)) = true := decide_eq_true h1
      have HC := (show Hid (∀ W, Calls Tryz.prog 197 #[.agg (n.addr.map u8V).toArray, .int .i64 n.bits] W fun e w' => e = .returned (.agg ((cutL n.addr n.bits).map u8V).toArray) ∧ Bel W w') from
        fun W => cut_run n.addr n.bits W hl hby.out h0 (by omega))
      rw [d0, d1]
      unfold netV
      go_enter Tryz.func123, Tryz.ntmps123
      go_wp2_with fail
      refine wp_region_aft (by kernel_rfl) (by kernel_rfl) ?_
      repeat (first
        | go_big_quiet_skip
        | (refine quiet_load_aft 84 _ rfl w.heap.size 2 rfl (n.addr.map u8V) (.array 16 5) HR.out Tryz.underlying84 rfl hz.out (by rfl) ?_; intro a' ha'; simp only [Act.put, Array.setIfInBounds, List.size_toArray, go_sem] at ha'; subst ha')
        | go_big_quiet_step (first
          | (go_at_call 126; exact Calls.aft (size_run n.six _))
          | (go_at_call 197; exact Calls.aft (HC.out _)))
        | quiet_step (first
          | (go_at_call 126; exact Calls.aft (size_run n.six _))
          | (go_at_call 197; exact Calls.aft (HC.out _))))
      refine wpQuiet_nil ?_
      rintro _ ⟨p, rfl⟩
      go_wp2_with fail
      go_ret
      exact ⟨rfl, HX.out.trans p.bel⟩
    · have d1 : decide (n.bits ≤ (sizeQ n.six : Nat)) = false := decide_eq_false h1
      rw [d0, d1]
      unfold netV
      go_enter Tryz.func123, Tryz.ntmps123
      go_wp2_with fail
      refine wp_region_aft (by kernel_rfl) (by kernel_rfl) ?_
      repeat (go_big_quiet_step (first
          | (go_at_call 126; exact Calls.aft (size_run n.six _))))
      refine wpQuiet_nil ?_
      rintro _ ⟨p, rfl⟩
      go_wp2_with fail
      go_ret
      exact ⟨rfl, HX.out.trans p.bel⟩
  · have d0 : decide (0 ≤ n.bits) = false := decide_eq_false h0
    rw [d0]
    unfold netV
    go_enter Tryz.func123, Tryz.ntmps123
    go_wp2_with fail
    refine wp_region_aft (by kernel_rfl) (by kernel_rfl) ?_
    repeat (go_big_quiet_step (fail))
    refine wpQuiet_nil ?_
    rintro _ ⟨p, rfl⟩
    go_wp2_with fail
    go_ret
    exact ⟨rfl, HX.out.trans p.bel⟩

theorem rightQ_bits {n : Nt} (h : rightQ n = true) : 0 ≤ n.bits ∧ n.bits ≤ 128 := by
  unfold rightQ sizeQ at h
  simp only [Bool.and_eq_true, decide_eq_true_eq] at h
  refine ⟨h.1.1, ?_⟩
  have := h.1.2
  split at this <;> omega

end Go.Proofs.YtmlmkmhkmifnkaaGreatDoor.Ci
