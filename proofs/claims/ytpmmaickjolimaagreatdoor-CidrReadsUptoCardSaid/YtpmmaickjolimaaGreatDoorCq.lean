/- An address's form, in plain lists of bytes; reading it back. -/
import Derived.Test.YtpmmaickjolimaaGreatDoorCp
namespace Go.Proofs.YtpmmaickjolimaaGreatDoor.Ci

def hexD (n : Nat) : UInt8 := if n < 10 then UInt8.ofNat (48 + n) else UInt8.ofNat (87 + n)
/-- A number's form to the base of 16. -/
def hexL (n : Nat) : List UInt8 :=
  if _h : n < 16 then [hexD n] else hexL (n / 16) ++ [hexD (n % 16)]
termination_by n
decreasing_by omega
theorem hexL_small {n : Nat} (h : n < 16) : hexL n = [hexD n] := by rw [hexL, dif_pos h]
theorem hexL_big {n : Nat} (h : ¬ n < 16) : hexL n = hexL (n / 16) ++ [hexD (n % 16)] := by rw [hexL, dif_neg h]
set_option maxRecDepth 10000 in
theorem hexD_ok (n : Nat) (h : n < 16) : hexB (hexD n) = true ∧ hexV (hexD n) = n ∧ hexD n ≠ 58 ∧ hexD n ≠ 46 ∧ hexD n ≠ 47 := by
  have key : ∀ n : Fin 16, hexB (hexD n.val) = true ∧ hexV (hexD n.val) = n.val ∧ hexD n.val ≠ 58 ∧ hexD n.val ≠ 46 ∧ hexD n.val ≠ 47 := by decide
  exact key ⟨n, h⟩
theorem hexL_len : ∀ (k n : Nat), n < 16 ^ (k + 1) → 1 ≤ (hexL n).length ∧ (hexL n).length ≤ k + 1
  | 0, n, h => by rw [hexL_small (by simpa using h)]; simp
  | k + 1, n, h => by
    by_cases h2 : n < 16
    · rw [hexL_small h2]; simp
    · rw [hexL_big h2, List.length_append]
      have := hexL_len k (n / 16) (by rw [Nat.pow_succ] at h; omega)
      simp; omega
theorem hexL_ok : ∀ (n : Nat), ∀ b ∈ hexL n, hexB b = true ∧ b ≠ 58 ∧ b ≠ 46 ∧ b ≠ 47 := by
  intro n
  induction n using Nat.strongRecOn with
  | _ n ih =>
    intro b hb
    by_cases h2 : n < 16
    · rw [hexL_small h2] at hb
      rw [List.mem_singleton.1 hb]
      have := hexD_ok n h2
      exact ⟨this.1, this.2.2.1, this.2.2.2.1, this.2.2.2.2⟩
    · rw [hexL_big h2] at hb
      rcases List.mem_append.1 hb with hb | hb
      · exact ih (n / 16) (by omega) b hb
      · rw [List.mem_singleton.1 hb]
        have := hexD_ok (n % 16) (by omega)
        exact ⟨this.1, this.2.2.1, this.2.2.2.1, this.2.2.2.2⟩
theorem hexL_val (n : Nat) : (hexL n).foldl (fun a b => a * 16 + hexV b) 0 = n := by
  induction n using Nat.strongRecOn with
  | _ n ih =>
    by_cases h2 : n < 16
    · rw [hexL_small h2]
      have := (hexD_ok n h2).2.1
      simp [this]
    · rw [hexL_big h2, List.foldl_append, ih (n / 16) (by omega)]
      have := (hexD_ok (n % 16) (by omega)).2.1
      simp only [List.foldl_cons, List.foldl_nil, this]
      omega
theorem grpL_hex (n : Nat) (h : n < 65536) : grpL (hexL n) = some n := by
  unfold grpL
  have hl := hexL_len 3 n (by omega)
  rw [if_pos ⟨hl.1, hl.2, List.all_eq_true.2 fun b hb => (hexL_ok n b hb).1⟩, hexL_val]
theorem hexL_ne (n : Nat) : hexL n ≠ [] := by
  intro e
  have := hexL_len n n (by
    have : n < 16 ^ n := Nat.lt_pow_self (by decide)
    rw [Nat.pow_succ]; omega)
  rw [e] at this
  simp at this
theorem hexL_zero (n : Nat) : hexL n = [48] ↔ n = 0 := by
  constructor
  · intro e
    have := hexL_val n
    rw [e] at this
    simpa [hexV] using this.symm
  · rintro rfl; rw [hexL_small (by decide)]; rfl

/-- How many groups from a place on are 0. -/
def zerosAt (l : List Nat) (i : Nat) : Nat := ((l.drop i).takeWhile (· == 0)).length
/-- The longest row of groups that are 0: where, how long (1: there is none of two). -/
def longest (l : List Nat) : Nat → Nat × Nat
  | 0 => (0, 1)
  | i + 1 => if (longest l i).2 < zerosAt l i then (i, zerosAt l i) else longest l i
/-- The form of eight groups. -/
def formL (l : List Nat) : List UInt8 :=
  if (longest l 8).2 = 1 then Lib.join (l.map hexL) [58]
  else Lib.join ((l.take (longest l 8).1).map hexL) [58] ++ [58, 58] ++ Lib.join ((l.drop ((longest l 8).1 + (longest l 8).2)).map hexL) [58]
theorem longest_pos (l : List Nat) : ∀ i, 1 ≤ (longest l i).2
  | 0 => Nat.le_refl _
  | i + 1 => by
    unfold longest
    split
    · have := longest_pos l i; show 1 ≤ zerosAt l i; omega
    · exact longest_pos l i
theorem longest_row (l : List Nat) : ∀ i, (longest l i).2 = 1 ∨ zerosAt l (longest l i).1 = (longest l i).2 ∧ (longest l i).1 < i
  | 0 => .inl rfl
  | i + 1 => by
    unfold longest
    split
    · exact .inr ⟨rfl, Nat.lt_succ_self _⟩
    · rcases longest_row l i with h | ⟨h, k⟩
      · exact .inl h
      · exact .inr ⟨h, by omega⟩
theorem zeros_take (l : List Nat) (i : Nat) : (l.drop i).take (zerosAt l i) = List.replicate (zerosAt l i) 0 := by
  have h1 : (l.drop i).take (zerosAt l i) = (l.drop i).takeWhile (· == 0) := by
    unfold zerosAt
    generalize l.drop i = m
    induction m with
    | nil => rfl
    | cons x m ih =>
      rw [List.takeWhile_cons]
      split
      · simp [ih]
      · rfl
  rw [h1]
  refine List.eq_replicate_iff.2 ⟨rfl, fun x hx => ?_⟩
  have := List.all_eq_true.1 (List.all_takeWhile (p := (· == 0)) (l := l.drop i)) x hx
  simpa using this
theorem zeros_le (l : List Nat) (i : Nat) : zerosAt l i ≤ l.length - i := by
  unfold zerosAt
  have := (List.takeWhile_sublist (· == 0) (l := l.drop i)).length_le
  rwa [List.length_drop] at this
/-- The row of zeros taken out and put in. -/
theorem row_split (l : List Nat) (h : (longest l 8).2 ≠ 1) : l = l.take (longest l 8).1 ++ List.replicate (longest l 8).2 0 ++ l.drop ((longest l 8).1 + (longest l 8).2) := by
  rcases longest_row l 8 with f | ⟨f, -⟩
  · exact absurd f h
  · have := zeros_take l (longest l 8).1
    rw [f] at this
    rw [← this, List.append_assoc, ← List.drop_drop, List.take_append_drop, List.take_append_drop]

theorem allL_hex : ∀ (l : List Nat), (∀ g ∈ l, g < 65536) → allL (l.map hexL) = some l
  | [], _ => rfl
  | g :: l, h => by
    rw [List.map_cons, allL, grpL_hex g (h g (List.mem_cons_self ..)), allL_hex l (fun x hx => h x (List.mem_cons_of_mem _ hx))]
theorem join_ne (l : List Nat) (h : l ≠ []) : Lib.join (l.map hexL) [58] ≠ [] := by
  cases l with
  | nil => exact absurd rfl h
  | cons g l =>
    rw [List.map_cons, Lib.join_cons]
    intro e
    exact hexL_ne g (List.append_eq_nil_iff.1 e).1
theorem groupsL_join (l : List Nat) (h : ∀ g ∈ l, g < 65536) : groupsL (Lib.join (l.map hexL) [58]) = some l := by
  cases l with
  | nil => rfl
  | cons g l =>
    unfold groupsL
    rw [if_neg (join_ne _ (by simp)), splitL_join 58 _ (by simp), allL_hex _ h]
    intro p hp
    obtain ⟨x, -, rfl⟩ := List.mem_map.1 hp
    intro f
    exact (hexL_ok x 58 f).2.1 rfl

/-! ### '::' in a form -/
/-- No two signs ':' stand together, and none at the end. -/
def Calm : List UInt8 → Prop
  | [] => True
  | [b] => b ≠ 58
  | b :: c :: l => ¬ (b = 58 ∧ c = 58) ∧ Calm (c :: l)
theorem calm_plain : ∀ (p : List UInt8), 58 ∉ p → Calm p
  | [], _ => trivial
  | [b], h => fun e => h (by simp [e])
  | b :: c :: l, h => ⟨fun e => h (by simp [e.1]), calm_plain (c :: l) fun e => h (List.mem_cons_of_mem _ e)⟩
theorem calm_app : ∀ (p q : List UInt8), p ≠ [] → 58 ∉ p → q ≠ [] → (∀ b r, q = b :: r → b ≠ 58) → Calm q → Calm (p ++ 58 :: q)
  | [], _, h, _, _, _, _ => absurd rfl h
  | [b], q, _, h, hq, hb, hc => by
    cases q with
    | nil => exact absurd rfl hq
    | cons x r =>
      show Calm (b :: 58 :: x :: r)
      exact ⟨fun e => h (by simp [e.1]), fun e => hb x r rfl e.2, hc⟩
  | b :: c :: l, q, _, h, hq, hb, hc => by
    have := calm_app (c :: l) q (by simp) (fun e => h (List.mem_cons_of_mem _ e)) hq hb hc
    exact ⟨fun e => h (by simp [e.1]), this⟩
theorem join_head (g : Nat) (l : List Nat) : ∃ b r, Lib.join ((g :: l).map hexL) [58] = b :: r ∧ b ≠ 58 := by
  rw [List.map_cons, Lib.join_cons]
  cases e : hexL g with
  | nil => exact absurd e (hexL_ne g)
  | cons b r => exact ⟨b, _, rfl, (hexL_ok g b (by rw [e]; exact List.mem_cons_self ..)).2.1⟩
theorem calm_join : ∀ (l : List Nat), Calm (Lib.join (l.map hexL) [58])
  | [] => trivial
  | [g] => by
    rw [List.map_cons, List.map_nil, Lib.join_one]
    exact calm_plain _ fun e => (hexL_ok g 58 e).2.1 rfl
  | g :: k :: l => by
    have ih := calm_join (k :: l)
    have e : Lib.join ((g :: k :: l).map hexL) [58] = hexL g ++ 58 :: Lib.join ((k :: l).map hexL) [58] := by
      rw [List.map_cons, List.map_cons, Lib.join_cons, Lib.join_cons]
      simp [Lib.joinTail]
    rw [e]
    obtain ⟨b, r, hbr, hb⟩ := join_head k l
    refine calm_app _ _ (hexL_ne g) (fun e => (hexL_ok g 58 e).2.1 rfl) (by rw [hbr]; simp) ?_ ih
    intro b2 r2 e2
    rw [hbr] at e2
    injection e2 with e3 e4
    rw [← e3]; exact hb
theorem index_calm : ∀ (p : List UInt8), Calm p → Lib.index p [58, 58] = -1
  | [], _ => rfl
  | [b], _ => by
    unfold Lib.index
    simp [List.isPrefixOf, Lib.index]
  | b :: c :: l, h => by
    have ih := index_calm (c :: l) h.2
    rw [Lib.index, ih]
    have : ([58, 58] : List UInt8).isPrefixOf (b :: c :: l) = false := by
      simp only [List.isPrefixOf, Bool.and_true]
      rw [Bool.eq_false_iff]
      intro f
      simp only [Bool.and_eq_true, beq_iff_eq] at f
      exact h.1 ⟨f.1.symm, f.2.symm⟩
    rw [this]; rfl
theorem index_calm_app : ∀ (p q : List UInt8), Calm p → Lib.index (p ++ [58, 58] ++ q) [58, 58] = p.length
  | [], q, _ => by
    show Lib.index (58 :: 58 :: q) [58, 58] = _
    unfold Lib.index
    simp [List.isPrefixOf]
  | [b], q, h => by
    have ih := index_calm_app [] q trivial
    have hb : b ≠ 58 := h
    show Lib.index (b :: ([] ++ [58, 58] ++ q)) [58, 58] = _
    rw [Lib.index, ih]
    have : ([58, 58] : List UInt8).isPrefixOf (b :: ([] ++ [58, 58] ++ q)) = false := by
      simp [List.isPrefixOf, Ne.symm hb]
    rw [this]; rfl
  | b :: c :: l, q, h => by
    have ih := index_calm_app (c :: l) q h.2
    show Lib.index (b :: (c :: l ++ [58, 58] ++ q)) [58, 58] = _
    rw [Lib.index, ih]
    have : ([58, 58] : List UInt8).isPrefixOf (b :: (c :: l ++ [58, 58] ++ q)) = false := by
      rw [Bool.eq_false_iff]
      intro f
      simp [List.isPrefixOf] at f
      exact h.1 ⟨f.1.symm, f.2.symm⟩
    rw [this]
    have e : (((c :: l).length : Int) == -1) = false := by rw [beq_eq_false_iff_ne]; omega
    rw [if_neg (by decide), if_neg (by rw [e]; decide)]
    rw [List.length_cons (a := b)]
    omega
theorem sixL_form (l : List Nat) (hl : l.length = 8) (h : ∀ g ∈ l, g < 65536) : sixL (formL l) = some l := by
  unfold formL
  by_cases h1 : (longest l 8).2 = 1
  · rw [if_pos h1]
    have hc : Lib.cut (Lib.join (l.map hexL) [58]) [58, 58] = (Lib.join (l.map hexL) [58], [], false) := by
      unfold Lib.cut
      rw [index_calm _ (calm_join l), if_neg (by decide)]
    unfold sixL
    rw [hc, groupsL_join l h]
    simp [groupsL, hl]
  · rw [if_neg h1]
    have hr := row_split l h1
    have hp := longest_pos l 8
    generalize (longest l 8).1 = f at hr ⊢
    generalize (longest l 8).2 = m at hr h1 hp ⊢
    have hc : Lib.cut (Lib.join ((l.take f).map hexL) [58] ++ [58, 58] ++ Lib.join ((l.drop (f + m)).map hexL) [58]) [58, 58] = (Lib.join ((l.take f).map hexL) [58], Lib.join ((l.drop (f + m)).map hexL) [58], true) := by
      unfold Lib.cut
      rw [index_calm_app _ _ (calm_join _), if_pos (by omega)]
      simp
    unfold sixL
    rw [hc, groupsL_join _ (fun g hg => h g (List.mem_of_mem_take hg)), groupsL_join _ (fun g hg => h g (List.mem_of_mem_drop hg))]
    have hlen := congrArg List.length hr
    rw [List.length_append, List.length_append, List.length_replicate, hl] at hlen
    have he : 8 - (l.take f).length - (l.drop (f + m)).length = m := by omega
    simp only [if_true]
    rw [if_pos (by omega), he, ← hr]

/-! ### Decimal numbers -/
theorem decDigits_ok : ∀ (n : Nat), ∀ b ∈ Lib.decDigits n, digB b = true := by
  intro n
  have key : ∀ n : Fin 10, digB (UInt8.ofNat (48 + n.val)) = true := by decide
  induction n using Nat.strongRecOn with
  | _ n ih =>
    intro b hb
    rw [Lib.decDigits] at hb
    split at hb
    · rename_i h2
      rw [List.mem_singleton.1 hb]
      exact key ⟨n, h2⟩
    · rcases List.mem_append.1 hb with hb | hb
      · exact ih (n / 10) (by omega) b hb
      · rw [List.mem_singleton.1 hb]
        exact key ⟨n % 10, by omega⟩
theorem decDigits_val (n : Nat) : (Lib.decDigits n).foldl (fun a b => a * 10 + (b.toNat - 48)) 0 = n := by
  have key : ∀ n : Fin 10, (UInt8.ofNat (48 + n.val)).toNat - 48 = n.val := by decide
  induction n using Nat.strongRecOn with
  | _ n ih =>
    rw [Lib.decDigits]
    split
    · rename_i h2
      have := key ⟨n, h2⟩
      simpa using this
    · have := key ⟨n % 10, by omega⟩
      rw [List.foldl_append, ih (n / 10) (by omega)]
      simp only [List.foldl_cons, List.foldl_nil]
      simp only at this
      omega
theorem decDigits_len : ∀ (k n : Nat), n < 10 ^ (k + 1) → 1 ≤ (Lib.decDigits n).length ∧ (Lib.decDigits n).length ≤ k + 1
  | 0, n, h => by rw [Lib.decDigits, dif_pos (by simpa using h)]; simp
  | k + 1, n, h => by
    rw [Lib.decDigits]
    split
    · simp
    · have := decDigits_len k (n / 10) (by rw [Nat.pow_succ] at h; omega)
      rw [List.length_append]
      simp; omega
theorem decDigits_lead (n : Nat) : 1 < (Lib.decDigits n).length → (Lib.decDigits n)[0]? ≠ some 48 := by
  have key : ∀ n : Fin 10, UInt8.ofNat (48 + n.val) = 48 → n.val = 0 := by decide
  induction n using Nat.strongRecOn with
  | _ n ih =>
    rw [Lib.decDigits]
    split
    · simp
    · rename_i hn
      intro _
      by_cases h2 : n / 10 < 10
      · rw [Lib.decDigits, dif_pos h2]
        simp only [List.cons_append, List.nil_append, List.getElem?_cons_zero]
        intro e
        have := key ⟨n / 10, h2⟩ (Option.some.inj e)
        simp only at this
        omega
      · have hl : 1 < (Lib.decDigits (n / 10)).length := by
          rw [Lib.decDigits, dif_neg h2, List.length_append]
          have := decDigits_len (n / 10 / 10) (n / 10 / 10) (by
            have : n / 10 / 10 < 10 ^ (n / 10 / 10) := Nat.lt_pow_self (by decide)
            rw [Nat.pow_succ]; omega)
          simp; omega
        rw [List.getElem?_append_left (by omega)]
        exact ih (n / 10) (by omega) hl
theorem numL_dec (n : Nat) (h : n < 1000) : numL (Lib.decDigits n) = some n := by
  unfold numL
  have hl := decDigits_len 2 n (by omega)
  rw [if_pos ⟨hl.1, hl.2, decDigits_lead n, List.all_eq_true.2 (decDigits_ok n)⟩, decDigits_val]
theorem dec_not (n : Nat) (c : UInt8) (hc : digB c = false) : c ∉ Lib.decDigits n := fun h => by
  rw [decDigits_ok n c h] at hc; cases hc
theorem fourT_form (l : List Nat) (hl : l.length = 4) (h : ∀ x ∈ l, x < 256) : fourT (Lib.join (l.map Lib.decDigits) [46]) = some l := by
  have hs : splitL 46 (Lib.join (l.map Lib.decDigits) [46]) = l.map Lib.decDigits := by
    refine splitL_join 46 _ ?_ ?_
    · intro e
      have := congrArg List.length e
      simp [hl] at this
    · intro p hp
      obtain ⟨x, -, rfl⟩ := List.mem_map.1 hp
      exact dec_not x 46 (by decide)
  have ha : ∀ m : List Nat, (∀ x ∈ m, x < 256) → allB (m.map Lib.decDigits) = some m := by
    intro m
    induction m with
    | nil => intro _; rfl
    | cons x m ih =>
      intro hm
      have hx := hm x (List.mem_cons_self ..)
      have hb : byteL (Lib.decDigits x) = some x := by
        unfold byteL
        rw [numL_dec x (by omega)]
        simp only
        rw [if_pos (by omega)]
      rw [List.map_cons, allB, hb, ih fun y hy => hm y (List.mem_cons_of_mem _ hy)]
  unfold fourT
  rw [hs, if_pos (by simp [hl]), ha l h]
end Go.Proofs.YtpmmaickjolimaaGreatDoor.Ci
