/- The custody machine as plain Lean: cares, deeds, what a deed does. -/
namespace Go.Proofs.Ythkimmabaojaaaa.Cu

/-- A message: of each recipient its state and how often it got the message. -/
structure Care where
  l : List (Nat × Nat)
  held : Bool
  removed : Bool

/-- A deed. -/
structure Dd where
  kind : Int
  id : ByteArray
  who : Int
  count : Int

def pend (c : Care) (a : Int) : Bool := decide (0 ≤ a) && (decide (a < c.l.length) && ((c.l.getD a.toNat (0, 0)).1 == 1))
def over (c : Care) : Bool := c.l.all fun x => x.1 != 1
def mayK (c : Care) (d : Dd) : Bool :=
  if d.kind = 2 then !c.held && pend c d.who
  else if d.kind = 4 then pend c d.who
  else if d.kind = 5 then pend c d.who
  else if d.kind = 3 then pend c d.who && decide (0 < (c.l.getD d.who.toNat (0, 0)).2)
  else if d.kind = 6 then !c.held
  else if d.kind = 7 then c.held
  else if d.kind = 9 then over c
  else true
def may (c : Care) (d : Dd) : Bool := mayK c d && !c.removed
def setSt (c : Care) (a : Nat) (s : Nat) : Care := { c with l := c.l.set a (s, (c.l.getD a (0, 0)).2) }
def gone (x : Nat × Nat) : Nat × Nat := if x.1 = 1 then (5, x.2) else x
def act (c : Care) (d : Dd) : Care :=
  if d.kind = 2 then { c with l := c.l.set d.who.toNat ((c.l.getD d.who.toNat (0, 0)).1, (c.l.getD d.who.toNat (0, 0)).2 + 1) }
  else if d.kind = 3 then setSt c d.who.toNat 2
  else if d.kind = 4 then setSt c d.who.toNat 3
  else if d.kind = 5 then setSt c d.who.toNat 4
  else if d.kind = 6 then { c with held := !c.held }
  else if d.kind = 7 then { c with held := !c.held }
  else if d.kind = 8 then { c with l := c.l.map gone }
  else if d.kind = 9 then { c with removed := true }
  else c

/-- The cells of the recipients, by number: state, times, state, times, .. -/
def flat : List (Nat × Nat) → List Nat
  | [] => []
  | x :: l => x.1 :: x.2 :: flat l

theorem flat_length (l : List (Nat × Nat)) : (flat l).length = 2 * l.length := by
  induction l with
  | nil => rfl
  | cons x l ih => simp [flat, ih]; omega

theorem flat_even (l : List (Nat × Nat)) (k : Nat) (h : k < l.length) : (flat l)[2 * k]? = some (l.getD k (0, 0)).1 := by
  induction l generalizing k with
  | nil => simp at h
  | cons x l ih =>
    cases k with
    | zero => simp [flat]
    | succ k =>
      have e : 2 * (k + 1) = 2 * k + 1 + 1 := by omega
      have := ih k (by simpa using h)
      simp [flat, e, this]

theorem flat_odd (l : List (Nat × Nat)) (k : Nat) (h : k < l.length) : (flat l)[2 * k + 1]? = some (l.getD k (0, 0)).2 := by
  induction l generalizing k with
  | nil => simp at h
  | cons x l ih =>
    cases k with
    | zero => simp [flat]
    | succ k =>
      have e : 2 * (k + 1) + 1 = (2 * k + 1) + 1 + 1 := by omega
      have := ih k (by simpa using h)
      simp [flat, e, this]

theorem flat_setEven (l : List (Nat × Nat)) (k s : Nat) : (flat l).set (2 * k) s = flat (l.set k (s, (l.getD k (0, 0)).2)) := by
  induction l generalizing k with
  | nil => simp [flat]
  | cons x l ih =>
    cases k with
    | zero => simp [flat]
    | succ k =>
      have e : 2 * (k + 1) = 2 * k + 1 + 1 := by omega
      simp [flat, e, ih k]

theorem flat_setOdd (l : List (Nat × Nat)) (k t : Nat) : (flat l).set (2 * k + 1) t = flat (l.set k ((l.getD k (0, 0)).1, t)) := by
  induction l generalizing k with
  | nil => simp [flat]
  | cons x l ih =>
    cases k with
    | zero => simp [flat]
    | succ k =>
      have e : 2 * (k + 1) + 1 = (2 * k + 1) + 1 + 1 := by omega
      simp [flat, e, ih k]

theorem pend_yes {c : Care} {a : Int} (h : pend c a = true) : 0 ≤ a ∧ a.toNat < c.l.length ∧ (c.l.getD a.toNat (0, 0)).1 = 1 := by
  unfold pend at h
  simp only [Bool.and_eq_true, decide_eq_true_eq, beq_iff_eq] at h
  exact ⟨h.1, by omega, h.2.2⟩

end Go.Proofs.Ythkimmabaojaaaa.Cu
