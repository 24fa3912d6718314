/- A range's form is read as that range. -/
import Derived.Test.YtpmmaickjolimaaDoorDd
namespace Go.Proofs.YtpmmaickjolimaaDoor.Ci
open Go.RowKit

theorem join_mem (sep : UInt8) : ∀ (ps : List (List UInt8)) (b : UInt8), b ∈ Lib.join ps [sep] → b = sep ∨ ∃ p ∈ ps, b ∈ p
  | [], b, h => by cases h
  | p :: ps, b, h => by
    rw [Lib.join_cons] at h
    rcases List.mem_append.1 h with h | h
    · exact .inr ⟨p, List.mem_cons_self .., h⟩
    · unfold Lib.joinTail at h
      obtain ⟨q, hq, hb⟩ := List.mem_flatten.1 h
      obtain ⟨r, hr, rfl⟩ := List.mem_map.1 hq
      rcases List.mem_append.1 hb with hb | hb
      · exact .inl (List.mem_singleton.1 hb)
      · exact .inr ⟨r, List.mem_cons_of_mem _ hr, hb⟩
theorem form_mem (l : List Nat) : ∀ b ∈ formL l, b ≠ 46 ∧ b ≠ 47 := by
  have key : ∀ (m : List Nat), ∀ b ∈ Lib.join (m.map hexL) [58], b ≠ 46 ∧ b ≠ 47 := by
    intro m b hb
    rcases join_mem 58 _ b hb with rfl | ⟨p, hp, hb⟩
    · decide
    · obtain ⟨g, -, rfl⟩ := List.mem_map.1 hp
      exact ⟨(hexL_ok g b hb).2.2.1, (hexL_ok g b hb).2.2.2⟩
  intro b hb
  unfold formL at hb
  split at hb
  · exact key _ b hb
  · rcases List.mem_append.1 hb with hb | hb
    · rcases List.mem_append.1 hb with hb | hb
      · exact key _ b hb
      · rcases List.mem_cons.1 hb with rfl | hb
        · decide
        · rw [List.mem_singleton.1 hb]; decide
    · exact key _ b hb
theorem dots_mem (l : List Nat) : ∀ b ∈ Lib.join (l.map Lib.decDigits) [46], b ≠ 47 := by
  intro b hb
  rcases join_mem 46 _ b hb with rfl | ⟨p, hp, hb⟩
  · decide
  · obtain ⟨g, -, rfl⟩ := List.mem_map.1 hp
    rintro rfl
    exact dec_not g 47 (by decide) hb
theorem addrT_no (n : Nt) : 47 ∉ addrT n := by
  intro h
  unfold addrT at h
  split at h
  · exact (form_mem _ 47 h).2 rfl
  · exact dots_mem _ 47 h rfl
/-- A right range of IPv4 has nothing behind its first four bytes. -/
theorem right_four (n : Nt) (hn : n.Fits) (h6 : n.six = false) (hr : rightQ n = true) : n.addr = n.addr.take 4 ++ List.replicate 12 0 := by
  unfold rightQ at hr
  simp only [Bool.and_eq_true, decide_eq_true_eq] at hr
  have hb : n.bits ≤ 32 := by have := hr.1.2; rw [h6] at this; exact this
  refine List.ext_getElem (by simp [hn.len]) fun i h1 h2 => ?_
  have hi : i < 16 := by rw [hn.len] at h1; exact h1
  by_cases h4 : i < 4
  · rw [List.getElem_append_left (by simp [hn.len]; exact h4), List.getElem_take]
  · rw [List.getElem_append_right (by simp [hn.len]; omega)]
    have hc : (cutL n.addr n.bits)[i]'(by simp [cutL]; exact h1) = n.addr[i] := by simp only [hr.2]
    rw [← hc]
    unfold cutL
    rw [List.getElem_mapIdx, List.getElem_replicate]
    unfold cutB
    rw [if_pos (by omega)]
theorem addrQ_form (n : Nt) (hn : n.Fits) (hr : rightQ n = true) : addrQ (addrT n) = some { n with bits := (sizeQ n.six : Nat) } := by
  unfold addrQ addrT
  cases h6 : n.six with
  | true =>
    have hf : fourN' (formL (groupsOf n.addr)) = none := by
      unfold fourN' fourT
      rw [splitL_none 46 _ (fun h => (form_mem _ 46 h).1 rfl), if_neg (by simp)]
      rfl
    rw [if_pos rfl, hf]
    show sixQ _ = _
    unfold sixQ
    rw [sixL_form _ (groupsOf_len 8 _ hn.len) (groupsOf_lt 8 _ hn.len hn.by_)]
    show some (⟨true, 128, bytesL (groupsOf n.addr)⟩ : Nt) = _
    rw [bytes_groupsOf 8 _ hn.len hn.by_]
    rfl
  | false =>
    have h4 := fourT_form (n.addr.take 4) (by simp [hn.len]) (fun x hx => hn.by_ x (List.mem_of_mem_take hx))
    have hf : fourN' (Lib.join ((n.addr.take 4).map Lib.decDigits) [46]) = some ⟨false, 32, n.addr.take 4 ++ List.replicate 12 0⟩ := by
      unfold fourN'
      rw [h4]; rfl
    rw [if_neg (by decide), hf, ← right_four n hn h6 hr]
    rfl
theorem onlyRight_of {n : Nt} (h : rightQ n = true) : onlyRight n = some n := by unfold onlyRight; rw [if_pos h]
theorem parse_form (n : Nt) (hn : n.Fits) (hr : rightQ n = true) : parseQ (formQ n) = some n := by
  have hb := rightQ_bits hr
  have hle : n.bits ≤ (sizeQ n.six : Nat) := by unfold rightQ at hr; simp only [Bool.and_eq_true, decide_eq_true_eq] at hr; exact hr.1.2
  unfold parseQ formQ
  by_cases hlt : n.bits < (sizeQ n.six : Nat)
  · rw [if_pos hlt]
    have hc : Lib.cut (addrT n ++ 47 :: Lib.decDigits n.bits.toNat) [47] = (addrT n, Lib.decDigits n.bits.toNat, true) := by
      unfold Lib.cut
      rw [index_one_some 47 _ _ (addrT_no n), if_pos (by omega)]
      simp
    rw [hc, addrQ_form n hn hr]
    show (if true = true then (numL (Lib.decDigits n.bits.toNat)).bind fun k => onlyRight { n with bits := (k : Int) } else onlyRight { n with bits := ((sizeQ n.six : Nat) : Int) }) = _
    rw [if_pos rfl, numL_dec n.bits.toNat (by omega)]
    show onlyRight { n with bits := ((n.bits.toNat : Nat) : Int) } = _
    rw [show ((n.bits.toNat : Nat) : Int) = n.bits by omega]
    exact onlyRight_of hr
  · rw [if_neg hlt]
    have hc : Lib.cut (addrT n) [47] = (addrT n, [], false) := by
      unfold Lib.cut
      rw [index_one_none 47 _ (addrT_no n), if_neg (by decide)]
    rw [hc, addrQ_form n hn hr]
    show (if false = true then (numL []).bind fun k => onlyRight { n with bits := (k : Int) } else onlyRight { n with bits := ((sizeQ n.six : Nat) : Int) }) = _
    rw [if_neg (by decide), show ((sizeQ n.six : Nat) : Int) = n.bits by omega]
    exact onlyRight_of hr
theorem form_size (n : Nt) (hn : n.Fits) (hb : n.bits ≤ 128) : (formQ n).length ≤ 120 := by
  have h1 : (addrT n).length ≤ 100 := by
    unfold addrT
    split
    · have := longT_size n.addr hn.len hn.by_
      rw [Lib.size_eq] at this
      exact this
    · have := dotT_size (n.addr.take 4) (fun x hx => hn.by_ x (List.mem_of_mem_take hx))
      rw [Lib.size_eq, List.length_take] at this
      have : (Lib.join ((n.addr.take 4).map Lib.decDigits) [46]).length ≤ 4 * min 4 n.addr.length := this
      omega
  have h2 := (decDigits_len 2 n.bits.toNat (by omega)).2
  unfold formQ
  split
  · rw [List.length_append, List.length_cons]; omega
  · omega
theorem parse_right {s : List UInt8} {n : Nt} (h : parseQ s = some n) : n.Fits ∧ rightQ n = true := by
  unfold parseQ at h
  obtain ⟨m, hm, h⟩ := Option.bind_eq_some_iff.1 h
  have hf := addrQ_fits hm
  have key : ∀ k : Nt, onlyRight k = some n → k = n ∧ rightQ n = true := fun k hk => by
    unfold onlyRight at hk
    split at hk
    · rename_i hr
      obtain rfl := Option.some.inj hk
      exact ⟨rfl, hr⟩
    · cases hk
  split at h
  · obtain ⟨k, hk, h⟩ := Option.bind_eq_some_iff.1 h
    obtain ⟨rfl, hr⟩ := key _ h
    have := numL_lt hk
    exact ⟨⟨by show (_ : Int) ≤ (k : Int); omega, by show (k : Int) ≤ _; omega, hf.1.len, hf.1.by_⟩, hr⟩
  · obtain ⟨rfl, hr⟩ := key _ h
    exact ⟨hf.1, hr⟩
end Go.Proofs.YtpmmaickjolimaaDoor.Ci
