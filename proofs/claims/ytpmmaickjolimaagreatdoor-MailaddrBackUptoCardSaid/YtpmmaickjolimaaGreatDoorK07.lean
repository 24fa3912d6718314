/- Texts of addresses, in plain lists of bytes. -/
import Derived.Lib.SplitLaws
import Derived.Lib.Atoi
import Derived.Lib.SlTrimSet
import Derived.Lib.ItoaNum
import Derived.Lib.Join
import Derived.Test.YtpmmaickjolimaaGreatDoorK06
import Derived.Test.YtpmmaickjolimaaGreatDoorK03
import Derived.Outline
namespace Go.Proofs.YtpmmaickjolimaaGreatDoor.Ci

/-- The pieces between separators of one byte. -/
def splitL (c : UInt8) : List UInt8 → List (List UInt8)
  | [] => [[]]
  | b :: l => if b = c then [] :: splitL c l else match splitL c l with
    | p :: ps => (b :: p) :: ps
    | [] => [[b]]
theorem splitL_ne (c : UInt8) : ∀ l, splitL c l ≠ []
  | [] => by simp [splitL]
  | b :: l => by
    unfold splitL
    split
    · simp
    · split <;> simp
/-- A text without the separator ahead of one: the first piece. -/
theorem splitL_app (c : UInt8) : ∀ (p l : List UInt8), c ∉ p → splitL c (p ++ c :: l) = p :: splitL c l
  | [], l, _ => by simp [splitL]
  | b :: p, l, h => by
    have hb : b ≠ c := fun e => h (by simp [e])
    have ih := splitL_app c p l (fun e => h (List.mem_cons_of_mem _ e))
    show splitL c (b :: (p ++ c :: l)) = _
    rw [splitL, if_neg hb, ih]
theorem splitL_none (c : UInt8) : ∀ (p : List UInt8), c ∉ p → splitL c p = [p]
  | [], _ => rfl
  | b :: p, h => by
    have hb : b ≠ c := fun e => h (by simp [e])
    have ih := splitL_none c p (fun e => h (List.mem_cons_of_mem _ e))
    unfold splitL
    rw [if_neg hb, ih]
theorem splitL_len (c : UInt8) : ∀ l, (splitL c l).length = l.count c + 1
  | [] => rfl
  | b :: l => by
    have ih := splitL_len c l
    unfold splitL
    by_cases h : b = c
    · rw [if_pos h, h]; simp [ih]
    · rw [if_neg h]
      have h2 : (b :: l).count c = l.count c := List.count_cons_of_ne h
      rw [h2]
      split
      · rename_i e; rw [e] at ih; exact ih
      · rename_i e; exact absurd e (splitL_ne c l)
theorem splitL_mem (c : UInt8) : ∀ l, ∀ p ∈ splitL c l, c ∉ p
  | [], p, h => by
    simp only [splitL, List.mem_singleton] at h
    subst h; simp
  | b :: l, p, h => by
    have ih := splitL_mem c l
    unfold splitL at h
    split at h
    · rcases List.mem_cons.1 h with rfl | h
      · simp
      · exact ih p h
    · rename_i hb
      split at h
      · rename_i q ps e
        rw [e] at ih
        rcases List.mem_cons.1 h with rfl | h
        · have := ih q (List.mem_cons_self ..)
          simp only [List.mem_cons, not_or]
          exact ⟨fun f => hb f.symm, this⟩
        · exact ih p (List.mem_cons_of_mem _ h)
      · rename_i e; exact absurd e (splitL_ne c l)
theorem splitL_join (c : UInt8) : ∀ (ps : List (List UInt8)), ps ≠ [] → (∀ p ∈ ps, c ∉ p) → splitL c (Lib.join ps [c]) = ps
  | [], h, _ => absurd rfl h
  | [p], _, h => by rw [Lib.join_one]; exact splitL_none c p (h p (List.mem_cons_self ..))
  | p :: q :: ps, _, h => by
    have ih := splitL_join c (q :: ps) (by simp) (fun x hx => h x (List.mem_cons_of_mem _ hx))
    have e : Lib.join (p :: q :: ps) [c] = p ++ c :: Lib.join (q :: ps) [c] := by
      rw [Lib.join_cons, Lib.join_cons]
      simp [Lib.joinTail]
    rw [e, splitL_app c p _ (h p (List.mem_cons_self ..)), ih]
theorem index_one_none (c : UInt8) : ∀ (l : List UInt8), c ∉ l → Lib.index l [c] = -1
  | [], _ => rfl
  | b :: l, h => by
    have hb : c ≠ b := fun e => h (by simp [e])
    have ih := index_one_none c l (fun e => h (List.mem_cons_of_mem _ e))
    unfold Lib.index
    rw [ih]
    simp [List.isPrefixOf, hb]
theorem index_one_some (c : UInt8) : ∀ (p l : List UInt8), c ∉ p → Lib.index (p ++ c :: l) [c] = p.length
  | [], l, _ => by
    show Lib.index (c :: l) [c] = _
    unfold Lib.index
    simp [List.isPrefixOf]
  | b :: p, l, h => by
    have hb : c ≠ b := fun e => h (by simp [e])
    have ih := index_one_some c p l (fun e => h (List.mem_cons_of_mem _ e))
    show Lib.index (b :: (p ++ c :: l)) [c] = _
    unfold Lib.index
    rw [ih]
    have e : ((p.length : Int) == -1) = false := by rw [beq_eq_false_iff_ne]; omega
    simp [List.isPrefixOf, hb, e]
theorem split_at (c : UInt8) : ∀ (l : List UInt8), c ∉ l ∨ ∃ p r, l = p ++ c :: r ∧ c ∉ p
  | [] => .inl (by simp)
  | b :: l => by
    by_cases h : b = c
    · exact .inr ⟨[], l, by simp [h], by simp⟩
    · rcases split_at c l with f | ⟨p, r, rfl, f⟩
      · exact .inl (by simp only [List.mem_cons, not_or]; exact ⟨fun g => h g.symm, f⟩)
      · exact .inr ⟨b :: p, r, rfl, by simp only [List.mem_cons, not_or]; exact ⟨fun g => h g.symm, f⟩⟩
theorem splitK_one (c : UInt8) : ∀ (k : Nat) (l : List UInt8), l.count c = k → Lib.splitK [c] 0 k l = splitL c l
  | 0, l, h => by
    rw [splitL_none c l (List.count_eq_zero.1 h)]; rfl
  | k + 1, l, h => by
    rcases split_at c l with f | ⟨p, r, rfl, f⟩
    · rw [List.count_eq_zero.2 f] at h; cases h
    · have hi := index_one_some c p r f
      have hk : r.count c = k := by
        rw [List.count_append, List.count_cons_self, List.count_eq_zero.2 f] at h; omega
      have e : ((p.length : Int) == -1) = false := by rw [beq_eq_false_iff_ne]; omega
      unfold Lib.splitK
      rw [hi, e, splitL_app c p r f, ← splitK_one c k r hk]
      simp

/-! ### Numbers -/
def digB (b : UInt8) : Bool := decide (48 ≤ b.toNat) && decide (b.toNat ≤ 57)
/-- A number of 1 to 3 digits. -/
def numL (l : List UInt8) : Option Nat :=
  if 1 ≤ l.length ∧ l.length ≤ 3 ∧ (1 < l.length → l[0]? ≠ some 48) ∧ l.all digB = true then some (l.foldl (fun a b => a * 10 + (b.toNat - 48)) 0) else none
def hexB (b : UInt8) : Bool := digB b || (decide (97 ≤ b.toNat) && decide (b.toNat ≤ 102)) || (decide (65 ≤ b.toNat) && decide (b.toNat ≤ 70))
def hexV (b : UInt8) : Nat := if b.toNat ≤ 57 then b.toNat - 48 else if b.toNat ≤ 70 then b.toNat - 55 else b.toNat - 87
/-- A group of 1 to 4 signs. -/
def grpL (l : List UInt8) : Option Nat :=
  if 1 ≤ l.length ∧ l.length ≤ 4 ∧ l.all hexB = true then some (l.foldl (fun a b => a * 16 + hexV b) 0) else none
/-- All that the pieces tell. -/
def allL : List (List UInt8) → Option (List Nat)
  | [] => some []
  | p :: ps => match grpL p, allL ps with
    | some v, some vs => some (v :: vs)
    | _, _ => none
def groupsL (l : List UInt8) : Option (List Nat) := if l = [] then some [] else allL (splitL 58 l)
/-- The eight groups of an address of IPv6. -/
def sixL (l : List UInt8) : Option (List Nat) :=
  match groupsL (Lib.cut l [58, 58]).1, groupsL (Lib.cut l [58, 58]).2.1 with
  | some a, some b => if (Lib.cut l [58, 58]).2.2 then (if a.length + b.length ≤ 7 then some (a ++ List.replicate (8 - a.length - b.length) 0 ++ b) else none) else (if a.length = 8 then some a else none)
  | _, _ => none
/-- Groups as bytes. -/
def bytesL : List Nat → List Nat
  | [] => []
  | g :: gs => g / 256 :: g % 256 :: bytesL gs
theorem bytesL_len : ∀ l, (bytesL l).length = 2 * l.length
  | [] => rfl
  | g :: gs => by simp [bytesL, bytesL_len gs]; omega
theorem bytesL_app : ∀ a b, bytesL (a ++ b) = bytesL a ++ bytesL b
  | [], _ => rfl
  | g :: gs, b => by simp [bytesL, bytesL_app gs b]
theorem bytesL_zero : ∀ k, bytesL (List.replicate k 0) = List.replicate (2 * k) 0
  | 0 => rfl
  | k + 1 => by rw [List.replicate_succ, bytesL, bytesL_zero k, (by omega : 2 * (k + 1) = 2 * k + 1 + 1), List.replicate_succ, List.replicate_succ]
/-- Four numbers of at most 255. -/
def byteL (p : List UInt8) : Option Nat := match numL p with
  | some n => if n ≤ 255 then some n else none
  | none => none
def allB : List (List UInt8) → Option (List Nat)
  | [] => some []
  | p :: ps => match byteL p, allB ps with
    | some v, some vs => some (v :: vs)
    | _, _ => none
def fourT (l : List UInt8) : Option (List Nat) := if (splitL 46 l).length = 4 then allB (splitL 46 l) else none
end Go.Proofs.YtpmmaickjolimaaGreatDoor.Ci

/- An address's form, in plain lists of bytes; reading it back. -/
namespace Go.Proofs.YtpmmaickjolimaaGreatDoor.Ci

def hexD (n : Nat) : UInt8 := if n < 10 then UInt8.ofNat (48 + n) else UInt8.ofNat (87 + n)
/-- A number's form to the base of 16. -/
def hexL (n : Nat) : List UInt8 :=
  if _h : n < 16 then [hexD n] else hexL (n / 16) ++ [hexD (n % 16)]
termination_by n
decreasing_by omega
theorem hexL_small {n : Nat} (h : n < 16) : hexL n = [hexD n] := by rw [hexL, dif_pos h]
theorem hexL_big {n : Nat} (h : ¬ n < 16) : hexL n = hexL (n / 16) ++ [hexD (n % 16)] := by rw [hexL, dif_neg h]
set_option maxRecDepth 10000 in
theorem hexD_ok (n : Nat) (h : n < 16) : hexB (hexD n) = true ∧ hexV (hexD n) = n ∧ hexD n ≠ 58 ∧ hexD n ≠ 46 ∧ hexD n ≠ 47 := by
  have key : ∀ n : Fin 16, hexB (hexD n.val) = true ∧ hexV (hexD n.val) = n.val ∧ hexD n.val ≠ 58 ∧ hexD n.val ≠ 46 ∧ hexD n.val ≠ 47 := by decide
  exact key ⟨n, h⟩
theorem hexL_len : ∀ (k n : Nat), n < 16 ^ (k + 1) → 1 ≤ (hexL n).length ∧ (hexL n).length ≤ k + 1
  | 0, n, h => by rw [hexL_small (by simpa using h)]; simp
  | k + 1, n, h => by
    by_cases h2 : n < 16
    · rw [hexL_small h2]; simp
    · rw [hexL_big h2, List.length_append]
      have := hexL_len k (n / 16) (by rw [Nat.pow_succ] at h; omega)
      simp; omega
theorem hexL_ok : ∀ (n : Nat), ∀ b ∈ hexL n, hexB b = true ∧ b ≠ 58 ∧ b ≠ 46 ∧ b ≠ 47 := by
  intro n
  induction n using Nat.strongRecOn with
  | _ n ih =>
    intro b hb
    by_cases h2 : n < 16
    · rw [hexL_small h2] at hb
      rw [List.mem_singleton.1 hb]
      have := hexD_ok n h2
      exact ⟨this.1, this.2.2.1, this.2.2.2.1, this.2.2.2.2⟩
    · rw [hexL_big h2] at hb
      rcases List.mem_append.1 hb with hb | hb
      · exact ih (n / 16) (by omega) b hb
      · rw [List.mem_singleton.1 hb]
        have := hexD_ok (n % 16) (by omega)
        exact ⟨this.1, this.2.2.1, this.2.2.2.1, this.2.2.2.2⟩
theorem hexL_val (n : Nat) : (hexL n).foldl (fun a b => a * 16 + hexV b) 0 = n := by
  induction n using Nat.strongRecOn with
  | _ n ih =>
    by_cases h2 : n < 16
    · rw [hexL_small h2]
      have := (hexD_ok n h2).2.1
      simp [this]
    · rw [hexL_big h2, List.foldl_append, ih (n / 16) (by omega)]
      have := (hexD_ok (n % 16) (by omega)).2.1
      simp only [List.foldl_cons, List.foldl_nil, this]
      omega
theorem grpL_hex (n : Nat) (h : n < 65536) : grpL (hexL n) = some n := by
  unfold grpL
  have hl := hexL_len 3 n (by omega)
  rw [if_pos ⟨hl.1, hl.2, List.all_eq_true.2 fun b hb => (hexL_ok n b hb).1⟩, hexL_val]
theorem hexL_ne (n : Nat) : hexL n ≠ [] := by
  intro e
  have := hexL_len n n (by
    have : n < 16 ^ n := Nat.lt_pow_self (by decide)
    rw [Nat.pow_succ]; omega)
  rw [e] at this
  simp at this
theorem hexL_zero (n : Nat) : hexL n = [48] ↔ n = 0 := by
  constructor
  · intro e
    have := hexL_val n
    rw [e] at this
    simpa [hexV] using this.symm
  · rintro rfl; rw [hexL_small (by decide)]; rfl

/-- How many groups from a place on are 0. -/
def zerosAt (l : List Nat) (i : Nat) : Nat := ((l.drop i).takeWhile (· == 0)).length
/-- The longest row of groups that are 0: where, how long (1: there is none of two). -/
def longest (l : List Nat) : Nat → Nat × Nat
  | 0 => (0, 1)
  | i + 1 => if (longest l i).2 < zerosAt l i then (i, zerosAt l i) else longest l i
/-- The form of eight groups. -/
def formL (l : List Nat) : List UInt8 :=
  if (longest l 8).2 = 1 then Lib.join (l.map hexL) [58]
  else Lib.join ((l.take (longest l 8).1).map hexL) [58] ++ [58, 58] ++ Lib.join ((l.drop ((longest l 8).1 + (longest l 8).2)).map hexL) [58]
theorem longest_pos (l : List Nat) : ∀ i, 1 ≤ (longest l i).2
  | 0 => Nat.le_refl _
  | i + 1 => by
    unfold longest
    split
    · have := longest_pos l i; show 1 ≤ zerosAt l i; omega
    · exact longest_pos l i
theorem longest_row (l : List Nat) : ∀ i, (longest l i).2 = 1 ∨ zerosAt l (longest l i).1 = (longest l i).2 ∧ (longest l i).1 < i
  | 0 => .inl rfl
  | i + 1 => by
    unfold longest
    split
    · exact .inr ⟨rfl, Nat.lt_succ_self _⟩
    · rcases longest_row l i with h | ⟨h, k⟩
      · exact .inl h
      · exact .inr ⟨h, by omega⟩
theorem zeros_take (l : List Nat) (i : Nat) : (l.drop i).take (zerosAt l i) = List.replicate (zerosAt l i) 0 := by
  have h1 : (l.drop i).take (zerosAt l i) = (l.drop i).takeWhile (· == 0) := by
    unfold zerosAt
    generalize l.drop i = m
    induction m with
    | nil => rfl
    | cons x m ih =>
      rw [List.takeWhile_cons]
      split
      · simp [ih]
      · rfl
  rw [h1]
  refine List.eq_replicate_iff.2 ⟨rfl, fun x hx => ?_⟩
  have := List.all_eq_true.1 (List.all_takeWhile (p := (· == 0)) (l := l.drop i)) x hx
  simpa using this
theorem zeros_le (l : List Nat) (i : Nat) : zerosAt l i ≤ l.length - i := by
  unfold zerosAt
  have := (List.takeWhile_sublist (· == 0) (l := l.drop i)).length_le
  rwa [List.length_drop] at this
/-- The row of zeros taken out and put in. -/
theorem row_split (l : List Nat) (h : (longest l 8).2 ≠ 1) : l = l.take (longest l 8).1 ++ List.replicate (longest l 8).2 0 ++ l.drop ((longest l 8).1 + (longest l 8).2) := by
  rcases longest_row l 8 with f | ⟨f, -⟩
  · exact absurd f h
  · have := zeros_take l (longest l 8).1
    rw [f] at this
    rw [← this, List.append_assoc, ← List.drop_drop, List.take_append_drop, List.take_append_drop]

theorem allL_hex : ∀ (l : List Nat), (∀ g ∈ l, g < 65536) → allL (l.map hexL) = some l
  | [], _ => rfl
  | g :: l, h => by
    rw [List.map_cons, allL, grpL_hex g (h g (List.mem_cons_self ..)), allL_hex l (fun x hx => h x (List.mem_cons_of_mem _ hx))]
theorem join_ne (l : List Nat) (h : l ≠ []) : Lib.join (l.map hexL) [58] ≠ [] := by
  cases l with
  | nil => exact absurd rfl h
  | cons g l =>
    rw [List.map_cons, Lib.join_cons]
    intro e
    exact hexL_ne g (List.append_eq_nil_iff.1 e).1
theorem groupsL_join (l : List Nat) (h : ∀ g ∈ l, g < 65536) : groupsL (Lib.join (l.map hexL) [58]) = some l := by
  cases l with
  | nil => rfl
  | cons g l =>
    unfold groupsL
    rw [if_neg (join_ne _ (by simp)), splitL_join 58 _ (by simp), allL_hex _ h]
    intro p hp
    obtain ⟨x, -, rfl⟩ := List.mem_map.1 hp
    intro f
    exact (hexL_ok x 58 f).2.1 rfl

/-! ### '::' in a form -/
/-- No two signs ':' stand together, and none at the end. -/
def Calm : List UInt8 → Prop
  | [] => True
  | [b] => b ≠ 58
  | b :: c :: l => ¬ (b = 58 ∧ c = 58) ∧ Calm (c :: l)
theorem calm_plain : ∀ (p : List UInt8), 58 ∉ p → Calm p
  | [], _ => trivial
  | [b], h => fun e => h (by simp [e])
  | b :: c :: l, h => ⟨fun e => h (by simp [e.1]), calm_plain (c :: l) fun e => h (List.mem_cons_of_mem _ e)⟩
theorem calm_app : ∀ (p q : List UInt8), p ≠ [] → 58 ∉ p → q ≠ [] → (∀ b r, q = b :: r → b ≠ 58) → Calm q → Calm (p ++ 58 :: q)
  | [], _, h, _, _, _, _ => absurd rfl h
  | [b], q, _, h, hq, hb, hc => by
    cases q with
    | nil => exact absurd rfl hq
    | cons x r =>
      show Calm (b :: 58 :: x :: r)
      exact ⟨fun e => h (by simp [e.1]), fun e => hb x r rfl e.2, hc⟩
  | b :: c :: l, q, _, h, hq, hb, hc => by
    have := calm_app (c :: l) q (by simp) (fun e => h (List.mem_cons_of_mem _ e)) hq hb hc
    exact ⟨fun e => h (by simp [e.1]), this⟩
theorem join_head (g : Nat) (l : List Nat) : ∃ b r, Lib.join ((g :: l).map hexL) [58] = b :: r ∧ b ≠ 58 := by
  rw [List.map_cons, Lib.join_cons]
  cases e : hexL g with
  | nil => exact absurd e (hexL_ne g)
  | cons b r => exact ⟨b, _, rfl, (hexL_ok g b (by rw [e]; exact List.mem_cons_self ..)).2.1⟩
theorem calm_join : ∀ (l : List Nat), Calm (Lib.join (l.map hexL) [58])
  | [] => trivial
  | [g] => by
    rw [List.map_cons, List.map_nil, Lib.join_one]
    exact calm_plain _ fun e => (hexL_ok g 58 e).2.1 rfl
  | g :: k :: l => by
    have ih := calm_join (k :: l)
    have e : Lib.join ((g :: k :: l).map hexL) [58] = hexL g ++ 58 :: Lib.join ((k :: l).map hexL) [58] := by
      rw [List.map_cons, List.map_cons, Lib.join_cons, Lib.join_cons]
      simp [Lib.joinTail]
    rw [e]
    obtain ⟨b, r, hbr, hb⟩ := join_head k l
    refine calm_app _ _ (hexL_ne g) (fun e => (hexL_ok g 58 e).2.1 rfl) (by rw [hbr]; simp) ?_ ih
    intro b2 r2 e2
    rw [hbr] at e2
    injection e2 with e3 e4
    rw [← e3]; exact hb
theorem index_calm : ∀ (p : List UInt8), Calm p → Lib.index p [58, 58] = -1
  | [], _ => rfl
  | [b], _ => by
    unfold Lib.index
    simp [List.isPrefixOf, Lib.index]
  | b :: c :: l, h => by
    have ih := index_calm (c :: l) h.2
    rw [Lib.index, ih]
    have : ([58, 58] : List UInt8).isPrefixOf (b :: c :: l) = false := by
      simp only [List.isPrefixOf, Bool.and_true]
      rw [Bool.eq_false_iff]
      intro f
      simp only [Bool.and_eq_true, beq_iff_eq] at f
      exact h.1 ⟨f.1.symm, f.2.symm⟩
    rw [this]; rfl
theorem index_calm_app : ∀ (p q : List UInt8), Calm p → Lib.index (p ++ [58, 58] ++ q) [58, 58] = p.length
  | [], q, _ => by
    show Lib.index (58 :: 58 :: q) [58, 58] = _
    unfold Lib.index
    simp [List.isPrefixOf]
  | [b], q, h => by
    have ih := index_calm_app [] q trivial
    have hb : b ≠ 58 := h
    show Lib.index (b :: ([] ++ [58, 58] ++ q)) [58, 58] = _
    rw [Lib.index, ih]
    have : ([58, 58] : List UInt8).isPrefixOf (b :: ([] ++ [58, 58] ++ q)) = false := by
      simp [List.isPrefixOf, Ne.symm hb]
    rw [this]; rfl
  | b :: c :: l, q, h => by
    have ih := index_calm_app (c :: l) q h.2
    show Lib.index (b :: (c :: l ++ [58, 58] ++ q)) [58, 58] = _
    rw [Lib.index, ih]
    have : ([58, 58] : List UInt8).isPrefixOf (b :: (c :: l ++ [58, 58] ++ q)) = false := by
      rw [Bool.eq_false_iff]
      intro f
      simp [List.isPrefixOf] at f
      exact h.1 ⟨f.1.symm, f.2.symm⟩
    rw [this]
    have e : (((c :: l).length : Int) == -1) = false := by rw [beq_eq_false_iff_ne]; omega
    rw [if_neg (by decide), if_neg (by rw [e]; decide)]
    rw [List.length_cons (a := b)]
    omega
theorem sixL_form (l : List Nat) (hl : l.length = 8) (h : ∀ g ∈ l, g < 65536) : sixL (formL l) = some l := by
  unfold formL
  by_cases h1 : (longest l 8).2 = 1
  · rw [if_pos h1]
    have hc : Lib.cut (Lib.join (l.map hexL) [58]) [58, 58] = (Lib.join (l.map hexL) [58], [], false) := by
      unfold Lib.cut
      rw [index_calm _ (calm_join l), if_neg (by decide)]
    unfold sixL
    rw [hc, groupsL_join l h]
    simp [groupsL, hl]
  · rw [if_neg h1]
    have hr := row_split l h1
    have hp := longest_pos l 8
    generalize (longest l 8).1 = f at hr ⊢
    generalize (longest l 8).2 = m at hr h1 hp ⊢
    have hc : Lib.cut (Lib.join ((l.take f).map hexL) [58] ++ [58, 58] ++ Lib.join ((l.drop (f + m)).map hexL) [58]) [58, 58] = (Lib.join ((l.take f).map hexL) [58], Lib.join ((l.drop (f + m)).map hexL) [58], true) := by
      unfold Lib.cut
      rw [index_calm_app _ _ (calm_join _), if_pos (by omega)]
      simp
    unfold sixL
    rw [hc, groupsL_join _ (fun g hg => h g (List.mem_of_mem_take hg)), groupsL_join _ (fun g hg => h g (List.mem_of_mem_drop hg))]
    have hlen := congrArg List.length hr
    rw [List.length_append, List.length_append, List.length_replicate, hl] at hlen
    have he : 8 - (l.take f).length - (l.drop (f + m)).length = m := by omega
    simp only [if_true]
    rw [if_pos (by omega), he, ← hr]

/-! ### Decimal numbers -/
theorem decDigits_ok : ∀ (n : Nat), ∀ b ∈ Lib.decDigits n, digB b = true := by
  intro n
  have key : ∀ n : Fin 10, digB (UInt8.ofNat (48 + n.val)) = true := by decide
  induction n using Nat.strongRecOn with
  | _ n ih =>
    intro b hb
    rw [Lib.decDigits] at hb
    split at hb
    · rename_i h2
      rw [List.mem_singleton.1 hb]
      exact key ⟨n, h2⟩
    · rcases List.mem_append.1 hb with hb | hb
      · exact ih (n / 10) (by omega) b hb
      · rw [List.mem_singleton.1 hb]
        exact key ⟨n % 10, by omega⟩
theorem decDigits_val (n : Nat) : (Lib.decDigits n).foldl (fun a b => a * 10 + (b.toNat - 48)) 0 = n := by
  have key : ∀ n : Fin 10, (UInt8.ofNat (48 + n.val)).toNat - 48 = n.val := by decide
  induction n using Nat.strongRecOn with
  | _ n ih =>
    rw [Lib.decDigits]
    split
    · rename_i h2
      have := key ⟨n, h2⟩
      simpa using this
    · have := key ⟨n % 10, by omega⟩
      rw [List.foldl_append, ih (n / 10) (by omega)]
      simp only [List.foldl_cons, List.foldl_nil]
      simp only at this
      omega
theorem decDigits_len : ∀ (k n : Nat), n < 10 ^ (k + 1) → 1 ≤ (Lib.decDigits n).length ∧ (Lib.decDigits n).length ≤ k + 1
  | 0, n, h => by rw [Lib.decDigits, dif_pos (by simpa using h)]; simp
  | k + 1, n, h => by
    rw [Lib.decDigits]
    split
    · simp
    · have := decDigits_len k (n / 10) (by rw [Nat.pow_succ] at h; omega)
      rw [List.length_append]
      simp; omega
theorem decDigits_lead (n : Nat) : 1 < (Lib.decDigits n).length → (Lib.decDigits n)[0]? ≠ some 48 := by
  have key : ∀ n : Fin 10, UInt8.ofNat (48 + n.val) = 48 → n.val = 0 := by decide
  induction n using Nat.strongRecOn with
  | _ n ih =>
    rw [Lib.decDigits]
    split
    · simp
    · rename_i hn
      intro _
      by_cases h2 : n / 10 < 10
      · rw [Lib.decDigits, dif_pos h2]
        simp only [List.cons_append, List.nil_append, List.getElem?_cons_zero]
        intro e
        have := key ⟨n / 10, h2⟩ (Option.some.inj e)
        simp only at this
        omega
      · have hl : 1 < (Lib.decDigits (n / 10)).length := by
          rw [Lib.decDigits, dif_neg h2, List.length_append]
          have := decDigits_len (n / 10 / 10) (n / 10 / 10) (by
            have : n / 10 / 10 < 10 ^ (n / 10 / 10) := Nat.lt_pow_self (by decide)
            rw [Nat.pow_succ]; omega)
          simp; omega
        rw [List.getElem?_append_left (by omega)]
        exact ih (n / 10) (by omega) hl
theorem numL_dec (n : Nat) (h : n < 1000) : numL (Lib.decDigits n) = some n := by
  unfold numL
  have hl := decDigits_len 2 n (by omega)
  rw [if_pos ⟨hl.1, hl.2, decDigits_lead n, List.all_eq_true.2 (decDigits_ok n)⟩, decDigits_val]
theorem dec_not (n : Nat) (c : UInt8) (hc : digB c = false) : c ∉ Lib.decDigits n := fun h => by
  rw [decDigits_ok n c h] at hc; cases hc
theorem fourT_form (l : List Nat) (hl : l.length = 4) (h : ∀ x ∈ l, x < 256) : fourT (Lib.join (l.map Lib.decDigits) [46]) = some l := by
  have hs : splitL 46 (Lib.join (l.map Lib.decDigits) [46]) = l.map Lib.decDigits := by
    refine splitL_join 46 _ ?_ ?_
    · intro e
      have := congrArg List.length e
      simp [hl] at this
    · intro p hp
      obtain ⟨x, -, rfl⟩ := List.mem_map.1 hp
      exact dec_not x 46 (by decide)
  have ha : ∀ m : List Nat, (∀ x ∈ m, x < 256) → allB (m.map Lib.decDigits) = some m := by
    intro m
    induction m with
    | nil => intro _; rfl
    | cons x m ih =>
      intro hm
      have hx := hm x (List.mem_cons_self ..)
      have hb : byteL (Lib.decDigits x) = some x := by
        unfold byteL
        rw [numL_dec x (by omega)]
        simp only
        rw [if_pos (by omega)]
      rw [List.map_cons, allB, hb, ih fun y hy => hm y (List.mem_cons_of_mem _ hy)]
  unfold fourT
  rw [hs, if_pos (by simp [hl]), ha l h]
end Go.Proofs.YtpmmaickjolimaaGreatDoor.Ci

/- The numbers and pieces of the walks, and those of plain lists. -/
namespace Go.Proofs.YtpmmaickjolimaaGreatDoor.Ci
open Go.RowKit

theorem dropWhile_all {α : Type} (p : α → Bool) : ∀ l : List α, (∀ x ∈ l, p x = true) → l.dropWhile p = []
  | [], _ => rfl
  | a :: l, h => by
    rw [List.dropWhile_cons, if_pos (h a (List.mem_cons_self ..))]
    exact dropWhile_all p l fun x hx => h x (List.mem_cons_of_mem _ hx)
theorem trim_iff (l cs : List UInt8) : Lib.trimS l cs = [] ↔ ∀ x ∈ l, cs.contains x = true := by
  constructor
  · exact trim_nil
  · intro h
    unfold Lib.trimS Lib.trimLeftS Lib.trimRightS
    rw [dropWhile_all _ l.reverse fun x hx => h x (List.mem_reverse.1 hx)]
    rfl
set_option maxRecDepth 100000 in
theorem digs_has (b : UInt8) : digs.data.toList.contains b = digB b := by
  have key : ∀ n : Fin 256, digs.data.toList.contains (UInt8.ofNat n.val) = digB (UInt8.ofNat n.val) := by decide +kernel
  have := key ⟨b.toNat, b.toNat_lt⟩
  rwa [show UInt8.ofNat b.toNat = b by simp] at this
set_option maxRecDepth 100000 in
theorem hexs_has (b : UInt8) : hexs.data.toList.contains b = hexB b := by
  have key : ∀ n : Fin 256, hexs.data.toList.contains (UInt8.ofNat n.val) = hexB (UInt8.ofNat n.val) := by decide +kernel
  have := key ⟨b.toNat, b.toNat_lt⟩
  rwa [show UInt8.ofNat b.toNat = b by simp] at this
theorem trim_digs (l : List UInt8) : Lib.trimS l digs.data.toList = [] ↔ l.all digB = true := by
  rw [trim_iff, List.all_eq_true]
  simp only [digs_has]
theorem trim_hexs (l : List UInt8) : Lib.trimS l hexs.data.toList = [] ↔ l.all hexB = true := by
  rw [trim_iff, List.all_eq_true]
  simp only [hexs_has]
theorem decFrom_digs : ∀ (l : List UInt8) (a : Nat), l.all digB = true → Lib.decFrom a l = some (l.foldl (fun a b => a * 10 + (b.toNat - 48)) a)
  | [], _, _ => rfl
  | b :: l, a, h => by
    rw [List.all_cons, Bool.and_eq_true_iff] at h
    have hb := h.1
    unfold digB at hb
    simp only [Bool.and_eq_true, decide_eq_true_eq] at hb
    unfold Lib.decFrom Lib.digitVal
    rw [if_pos hb]
    exact decFrom_digs l _ h.2
theorem numQ_eq (s : ByteArray) : numQ s = (numL s.data.toList).map Int.ofNat := by
  unfold numQ numL
  rw [Lib.size_eq]
  generalize s.data.toList = l
  cases l with
  | nil =>
    rw [if_neg (by simp [Lib.trimS, Lib.trimLeftS, Lib.trimRightS]), if_neg (by simp)]
    rfl
  | cons b r =>
    by_cases h : 3 < (b :: r).length ∨ (1 < (b :: r).length ∧ (b :: r)[0]? = some 48) ∨ Lib.trimS (b :: r) digs.data.toList ≠ []
    · rw [if_pos h, if_neg]
      · rfl
      · rintro ⟨-, h2, h3, h4⟩
        rcases h with h | ⟨h5, h6⟩ | h
        · omega
        · exact h3 h5 h6
        · exact h ((trim_digs _).2 h4)
    · have h1 : ¬ 3 < (b :: r).length := fun f => h (.inl f)
      have h2 : ¬ (1 < (b :: r).length ∧ (b :: r)[0]? = some 48) := fun f => h (.inr (.inl f))
      have h3 : Lib.trimS (b :: r) digs.data.toList = [] := Classical.byContradiction fun f => h (.inr (.inr f))
      have hd := (trim_digs _).1 h3
      rw [if_neg h, if_pos ⟨by simp, by omega, fun f g => h2 ⟨f, g⟩, hd⟩]
      have hb := hd
      rw [List.all_cons, Bool.and_eq_true_iff] at hb
      have hb := hb.1
      unfold digB at hb
      simp only [Bool.and_eq_true, decide_eq_true_eq] at hb
      unfold Lib.atoi
      have n1 : (b == 45) = false := by
        rw [beq_eq_false_iff_ne]; rintro rfl; exact absurd hb.1 (by decide)
      have n2 : (b == 43) = false := by
        rw [beq_eq_false_iff_ne]; rintro rfl; exact absurd hb.1 (by decide)
      simp only [n1, n2, Bool.false_eq_true, if_false]
      unfold Lib.decNat
      rw [if_neg (by simp), decFrom_digs _ 0 hd]
      rfl
theorem pieces_data (s : ByteArray) (c : UInt8) : (pieces s ⟨#[c]⟩).map (·.data.toList) = splitL c s.data.toList := by
  unfold pieces
  rw [Lib.splitB_data]
  exact splitK_one c _ _ (Lib.count_one c s.data.toList).symm
theorem byteL_eq (p : ByteArray) : byteL p.data.toList = if okB p = true then some (numOr p) else none := by
  unfold byteL okB numOr
  rw [numQ_eq p]
  cases h : numL p.data.toList with
  | none => rfl
  | some n =>
    by_cases h2 : n ≤ 255
    · simp [h2, (by omega : (n : Int) ≤ 255)]
    · simp [h2]
      omega
theorem allB_eq : ∀ (ps : List ByteArray), allB (ps.map (·.data.toList)) = if ps.all okB = true then some (ps.map numOr) else none
  | [] => rfl
  | p :: ps => by
    rw [List.map_cons, allB, allB_eq ps, List.all_cons, byteL_eq, List.map_cons]
    generalize okB p = a
    generalize ps.all okB = b
    cases a <;> cases b <;> rfl
theorem fourQ_eq (s : ByteArray) : fourQ s = fourT s.data.toList := by
  unfold fourQ fourT fourL
  have hp := pieces_data s 46
  rw [← hp, List.length_map, allB_eq]
  show (if (decide ((pieces s dot).length = 4) && (pieces s dot).all okB) = true then _ else _) = _
  by_cases h : (pieces s ⟨#[46]⟩).length = 4
  · rw [if_pos h]
    have : decide ((pieces s dot).length = 4) = true := decide_eq_true h
    rw [this, Bool.true_and]
    rfl
  · rw [if_neg h]
    have : decide ((pieces s dot).length = 4) = false := decide_eq_false h
    rw [this]
    rfl
/-- One group of a text. -/
def grpOk (x : ByteArray) : Bool := (grpL x.data.toList).isSome
def grpOr (x : ByteArray) : Nat := (grpL x.data.toList).getD 0
theorem grpL_eq (p : ByteArray) : grpL p.data.toList = if grpOk p = true then some (grpOr p) else none := by
  unfold grpOk grpOr
  cases grpL p.data.toList <;> rfl
theorem allL_eq : ∀ (ps : List ByteArray), allL (ps.map (·.data.toList)) = if ps.all grpOk = true then some (ps.map grpOr) else none
  | [] => rfl
  | p :: ps => by
    rw [List.map_cons, allL, allL_eq ps, List.all_cons, grpL_eq, List.map_cons]
    generalize grpOk p = a
    generalize ps.all grpOk = b
    cases a <;> cases b <;> rfl
theorem grpL_some {x : ByteArray} (h : grpOk x = true) : 1 ≤ x.size ∧ x.size ≤ 4 ∧ x.data.toList.all hexB = true ∧ grpOr x = x.data.toList.foldl (fun a b => a * 16 + hexV b) 0 := by
  unfold grpOk at h
  unfold grpOr
  unfold grpL at h ⊢
  split at h
  · rename_i hc
    rw [if_pos hc]
    rw [← Lib.size_eq] at hc
    exact ⟨hc.1, hc.2.1, hc.2.2, rfl⟩
  · cases h
end Go.Proofs.YtpmmaickjolimaaGreatDoor.Ci

/- Walks: comment, bracket, inAtom. -/
namespace Go.Proofs.YtpmmaickjolimaaGreatDoor.Ma
open Go.RowKit
open Ci (Bel)

/-- What stands of a comment in hand. -/
structure CmI (l : List UInt8) (k d : Nat) : Prop where
  h40 : ∀ h : 0 < l.length, l[0] = 40
  pos : 1 ≤ d ∨ k = 0
  eq : cmtL l 0 = (cmtL (l.drop k) d).map (· + k)
theorem drop_at {l : List UInt8} {k : Nat} (hk : k < l.length) : l.drop k = l[k] :: l.drop (k + 1) := List.drop_eq_getElem_cons hk
theorem map_map_add (o : Option Nat) (a b c : Nat) (h : a + b = c) : (o.map (· + a)).map (· + b) = o.map (· + c) := by
  cases o with
  | none => rfl
  | some x => show some (x + a + b) = some (x + c); rw [← h, Nat.add_assoc]
theorem CmI.pos' {l : List UInt8} {k d : Nat} (h : CmI l k d) (hk : k < l.length) (hc : l[k] ≠ 40) : 1 ≤ d := by
  rcases h.pos with h1 | rfl
  · exact h1
  · exact absurd (h.h40 hk) hc
theorem CmI.open_ {l : List UInt8} {k d : Nat} (h : CmI l k d) (hk : k < l.length) (hc : l[k] = 40) : CmI l (k + 1) (d + 1) := by
  refine ⟨h.h40, .inl (by omega), ?_⟩
  rw [h.eq, drop_at hk, cmtL.eq_def]
  simp only
  rw [if_pos hc, map_map_add _ 1 k (k + 1) (by omega)]
theorem CmI.esc_ {l : List UInt8} {k d : Nat} (h : CmI l k d) (hk : k < l.length) (hc : l[k] = 92) : CmI l (k + 2) d := by
  have hne : l[k] ≠ 40 := by rw [hc]; decide
  refine ⟨h.h40, .inl (h.pos' hk hne), ?_⟩
  rw [h.eq, drop_at hk, cmtL.eq_def]
  simp only
  rw [if_neg hne, if_pos hc]
  by_cases hk2 : k + 1 < l.length
  · rw [drop_at hk2]
    simp only
    rw [map_map_add _ 2 k (k + 2) (by omega)]
  · rw [List.drop_eq_nil_of_le (by omega : l.length ≤ k + 1), List.drop_eq_nil_of_le (by omega : l.length ≤ k + 2)]
    rfl
theorem CmI.close_ {l : List UInt8} {k d : Nat} (h : CmI l k d) (hk : k < l.length) (hc : l[k] = 41) (hd : d ≠ 1) : CmI l (k + 1) (d - 1) := by
  have hne : l[k] ≠ 40 := by rw [hc]; decide
  have hp := h.pos' hk hne
  refine ⟨h.h40, .inl (by omega), ?_⟩
  rw [h.eq, drop_at hk, cmtL.eq_def]
  simp only
  rw [if_neg hne, if_neg (by rw [hc]; decide), if_pos hc, if_neg hd, map_map_add _ 1 k (k + 1) (by omega)]
theorem CmI.done_ {l : List UInt8} {k d : Nat} (h : CmI l k d) (hk : k < l.length) (hc : l[k] = 41) (hd : d = 1) : cmtL l 0 = some (k + 1) := by
  have hne : l[k] ≠ 40 := by rw [hc]; decide
  rw [h.eq, drop_at hk, cmtL.eq_def]
  simp only
  rw [if_neg hne, if_neg (by rw [hc]; decide), if_pos hc, if_pos hd]
  show some (1 + k) = _
  rw [Nat.add_comm]
theorem CmI.other_ {l : List UInt8} {k d : Nat} (h : CmI l k d) (hk : k < l.length) (h1 : l[k] ≠ 40) (h2 : l[k] ≠ 92) (h3 : l[k] ≠ 41) : CmI l (k + 1) d := by
  refine ⟨h.h40, .inl (h.pos' hk h1), ?_⟩
  rw [h.eq, drop_at hk, cmtL.eq_def]
  simp only
  rw [if_neg h1, if_neg h2, if_neg h3, map_map_add _ 1 k (k + 1) (by omega)]
theorem CmI.end_ {l : List UInt8} {k d : Nat} (h : CmI l k d) (hk : l.length ≤ k) : cmtL l 0 = none := by
  rw [h.eq, List.drop_eq_nil_of_le hk]; rfl
theorem byte_eq {b : UInt8} {n : Nat} (hn : n < 256) (h : b = UInt8.ofNat n) : ((b.toNat : Int) == (n : Int)) = true := by
  subst h
  rw [UInt8.toNat_ofNat', Nat.mod_eq_of_lt hn]
  exact beq_self_eq_true _
theorem byte_ne {b : UInt8} {n : Nat} (hn : n < 256) (h : b ≠ UInt8.ofNat n) : ((b.toNat : Int) == (n : Int)) = false := by
  rw [beq_eq_false_iff_ne]
  intro e
  refine h (UInt8.toNat_inj.1 ?_)
  rw [UInt8.toNat_ofNat', Nat.mod_eq_of_lt hn]
  omega
set_option maxHeartbeats 2000000 in
set_option maxRecDepth 100000 in
theorem comment_run (s : ByteArray) (w : World) (hs : s.size ≤ 65536) (h40 : ∀ h : 0 < s.data.toList.length, s.data.toList[0] = 40) :
    Calls Tryz.prog 85 #[.string s] w fun e w' => e = .returned (.int .i64 ((cmtL s.data.toList 0).getD 0 : Nat)) ∧ Bel w w' := by
  have hl : s.data.toList.length = s.size := by rw [Lib.size_eq]
  have HL := hid hl
  have H0 := hid (show CmI s.data.toList 0 0 from ⟨h40, .inr rfl, by rw [List.drop_zero]; cases cmtL s.data.toList 0 <;> rfl⟩)
  clear hl h40
  go_enter Tryz.func85, Tryz.ntmps85
  go_wp2_with fail
  go_loopg [3, 4] (s.size + 2) (fun gg v3 v4 wr => ∃ (d k : Nat), v3 = .int .i64 d ∧ v4 = .int .i64 k ∧ k + gg = s.size + 2 ∧ k ≤ s.size + 1 ∧ d ≤ k ∧ Hid (Bel w wr ∧ CmI s.data.toList k d))
  case atStart => exact ⟨0, 0, rfl, rfl, by omega, by omega, Nat.le_refl _, hid ⟨Bel.refl w, H0.out⟩⟩
  case round =>
    clear H0
    obtain ⟨d, k, rfl, rfl, hk, hk1, hd, H⟩ := hrel
    by_cases hlt : k < s.size
    · have hlt' : k < s.data.toList.length := by rw [HL.out]; exact hlt
      have HC := hid (show s.data.toList[k]'hlt' = s[k] from rfl)
      by_cases h1 : s[k] = 40
      · have b1 := byte_eq (n := 40) (by decide) h1
        have HN := hid (show Bel w wr ∧ CmI s.data.toList (k + 1) (d + 1) from ⟨H.out.1, H.out.2.open_ hlt' (HC.out.trans h1)⟩)
        clear h1 H
        go_wp2_with fail
        go_roundg (gk - 1)
        case measure => omega
        case rel => exact ⟨d + 1, k + 1, by go_num, by go_num, by omega, by omega, by omega, HN⟩
      · have b1 := byte_ne (n := 40) (by decide) h1
        by_cases h2 : s[k] = 92
        · have b2 := byte_eq (n := 92) (by decide) h2
          have HN := hid (show Bel w wr ∧ CmI s.data.toList (k + 2) d from ⟨H.out.1, H.out.2.esc_ hlt' (HC.out.trans h2)⟩)
          clear h1 h2 H
          go_wp2_with fail
          go_roundg (gk - 2)
          case measure => omega
          case rel => exact ⟨d, k + 2, by go_num, by go_num, by omega, by omega, by omega, HN⟩
        · have b2 := byte_ne (n := 92) (by decide) h2
          by_cases h3 : s[k] = 41
          · have b3 := byte_eq (n := 41) (by decide) h3
            have hd1 : 1 ≤ d := H.out.2.pos' hlt' (by rw [HC.out]; exact h1)
            by_cases h4 : d = 1
            · subst h4
              have HX := hid (show cmtL s.data.toList 0 = some (k + 1) from H.out.2.done_ hlt' (HC.out.trans h3) rfl)
              clear h1 h2 h3
              go_wp2_with fail
              go_ret
              exact ⟨by rw [HX.out]; rfl, H.out.1⟩
            · have b4 : (((d : Int) - 1) == 0) = false := by rw [beq_eq_false_iff_ne]; omega
              have HN := hid (show Bel w wr ∧ CmI s.data.toList (k + 1) (d - 1) from ⟨H.out.1, H.out.2.close_ hlt' (HC.out.trans h3) h4⟩)
              clear h1 h2 h3 h4 H
              go_wp2_with fail
              go_roundg (gk - 1)
              case measure => omega
              case rel => exact ⟨d - 1, k + 1, by go_num, by go_num, by omega, by omega, by omega, HN⟩
          · have b3 := byte_ne (n := 41) (by decide) h3
            have HN := hid (show Bel w wr ∧ CmI s.data.toList (k + 1) d from ⟨H.out.1, H.out.2.other_ hlt' (by rw [HC.out]; exact h1) (by rw [HC.out]; exact h2) (by rw [HC.out]; exact h3)⟩)
            clear h1 h2 h3 H
            go_wp2_with fail
            go_roundg (gk - 1)
            case measure => omega
            case rel => exact ⟨d, k + 1, by go_num, by go_num, by omega, by omega, by omega, HN⟩
    · have HX := hid (H.out.2.end_ (by rw [HL.out]; omega))
      go_wp2_with fail
      go_ret
      exact ⟨by rw [HX.out]; rfl, H.out.1⟩
end Go.Proofs.YtpmmaickjolimaaGreatDoor.Ma
