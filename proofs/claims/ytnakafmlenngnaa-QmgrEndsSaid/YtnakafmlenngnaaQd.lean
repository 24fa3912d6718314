/- slices.DeleteFunc on a row of one's own, of whatever closure. -/
import Derived.Test.YtnakafmlenngnaaQi
import Derived.Lib.SliceRun
namespace Go.Proofs.Ytnakafmlenngnaa.Qm
open Go.RowKit Go.Proofs.Ytnakafmlenngnaa.Wi

/-- What stays of a list, when those at places of which p is true go. -/
def keepAt {α : Type} (p : Nat → Bool) : Nat → List α → List α
  | _, [] => []
  | k, x :: l => if p k then keepAt p (k + 1) l else x :: keepAt p (k + 1) l

theorem keepAt_snoc {α : Type} (p : Nat → Bool) : ∀ (l : List α) (k : Nat) (x : α), keepAt p k (l ++ [x]) = keepAt p k l ++ (if p (k + l.length) then [] else [x])
  | [], k, x => by simp only [List.nil_append, keepAt, List.length_nil, Nat.add_zero]
  | y :: l, k, x => by
    simp only [List.cons_append, keepAt, keepAt_snoc p l (k + 1) x, List.length_cons]
    rw [show k + 1 + l.length = k + (l.length + 1) by omega]
    split <;> simp

theorem keepAt_all {α : Type} (p : Nat → Bool) (l : List α) (k : Nat) (h : ∀ j, k ≤ j → j < k + l.length → p j = false) : keepAt p k l = l := by
  induction l generalizing k with
  | nil => rfl
  | cons x l ih =>
    rw [keepAt, h k (Nat.le_refl _) (by simp), ih (k + 1) fun j h1 h2 => h j (by omega) (by simp; omega)]
    rfl

theorem keepAt_length {α : Type} (p : Nat → Bool) (l : List α) (k : Nat) : (keepAt p k l).length ≤ l.length := by
  induction l generalizing k with
  | nil => simp [keepAt]
  | cons x l ih =>
    rw [keepAt]
    have := ih (k + 1)
    split <;> simp <;> omega

/-- keepAt as a map of what it keeps. -/
theorem keepAt_map {α β : Type} (f : α → β) (p : Nat → Bool) (l : List α) (k : Nat) : keepAt p k (l.map f) = (keepAt p k l).map f := by
  induction l generalizing k with
  | nil => rfl
  | cons x l ih =>
    simp only [List.map_cons, keepAt, ih]
    split <;> simp

theorem keepAt_filter {α : Type} (q : α → Bool) (p : Nat → Bool) (l : List α) (k : Nat) (h : ∀ j (hj : j < l.length), p (k + j) = q l[j]) : keepAt p k l = l.filter fun x => !q x := by
  induction l generalizing k with
  | nil => rfl
  | cons x l ih =>
    have h0 := h 0 (by simp)
    simp only [Nat.add_zero, List.getElem_cons_zero] at h0
    rw [keepAt, h0, ih (k + 1) fun j hj => by
      have := h (j + 1) (by simpa using hj)
      rw [show k + 1 + j = k + (j + 1) by omega]
      simpa using this]
    cases hq : q x <;> simp [hq]

/-- The row, while DeleteFunc goes over it: ks is what stays of the first j, there, then what is stale, then the rest. -/
def Mid (w : World) (b cap n : Nat) (xs : List Value) (p : Nat → Bool) (i j : Nat) : Prop :=
  ∃ cur mid, w.heap[b]? = some (.cells cur 89 (0, 0)) ∧ cur.size = cap ∧ cur.toList.take n = keepAt p 0 (xs.take j) ++ (mid ++ xs.drop j) ∧ (keepAt p 0 (xs.take j)).length = i ∧ i + mid.length = j ∧ 1 ≤ mid.length

section
variable {w : World} {b cap n i j : Nat} {xs : List Value} {p : Nat → Bool}
theorem Mid.cell (h : Mid w b cap n xs p i j) (hj : j < xs.length) (hn : xs.length = n) : w.cell? ⟨b, j, none⟩ = some xs[j] := by
  obtain ⟨cur, mid, hh, -, ht, hi, hm, -⟩ := h
  have : (cur.toList.take n)[j]? = some xs[j] := by
    rw [ht, List.getElem?_append_right (by omega), List.getElem?_append_right (by omega), hi, List.getElem?_drop, show j + (j - i - mid.length) = j by omega, List.getElem?_eq_getElem hj]
  rw [List.getElem?_take_of_lt (by omega)] at this
  unfold World.cell?
  simp only [hh]
  simpa using this
theorem Mid.any (h : Mid w b cap n xs p i j) (hc : n ≤ cap) (o : Nat) (ho : o < n) : (w.cell? ⟨b, o, none⟩).isSome = true := by
  obtain ⟨cur, mid, hh, hs, ht, hi, hm, -⟩ := h
  unfold World.cell?
  simp only [hh]
  simp [Array.getElem?_eq_getElem (show o < cur.size by omega)]
theorem Mid.free (h : Mid w b cap n xs p i j) (o : Nat) : w.frozen? ⟨b, o, none⟩ = false := by
  obtain ⟨cur, mid, hh, -⟩ := h
  simp [World.frozen?, hh]
theorem Mid.lt (h : Mid w b cap n xs p i j) : b < w.heap.size := by
  obtain ⟨cur, mid, hh, -⟩ := h
  exact (Array.getElem?_eq_some_iff.1 hh).1
theorem take_snoc (hj : j < xs.length) : xs.take (j + 1) = xs.take j ++ [xs[j]] := by
  rw [List.take_add_one, List.getElem?_eq_getElem hj]; rfl
theorem Mid.skip (h : Mid w b cap n xs p i j) (hj : j < xs.length) (hp : p j = true) : Mid w b cap n xs p i (j + 1) := by
  obtain ⟨cur, mid, hh, hs, ht, hi, hm, h1⟩ := h
  have e : keepAt p 0 (xs.take (j + 1)) = keepAt p 0 (xs.take j) := by
    rw [take_snoc hj, keepAt_snoc, show 0 + (xs.take j).length = j by simp; omega, hp]
    simp
  refine ⟨cur, mid ++ [xs[j]], hh, hs, ?_, by rw [e]; exact hi, by simp; omega, by simp⟩
  rw [e, ht]
  congr 1
  rw [List.append_assoc, List.singleton_append, List.getElem_cons_drop hj]
theorem Mid.stay (h : Mid w b cap n xs p i j) (hj : j < xs.length) (hp : p j = false) : Mid (w.setCell ⟨b, i, none⟩ xs[j]) b cap n xs p (i + 1) (j + 1) := by
  obtain ⟨cur, mid, hh, hs, ht, hi, hm, h1⟩ := h
  obtain ⟨m, mid', rfl⟩ : ∃ m mid', mid = m :: mid' := by cases mid with
    | nil => simp at h1
    | cons m l => exact ⟨m, l, rfl⟩
  have e : keepAt p 0 (xs.take (j + 1)) = keepAt p 0 (xs.take j) ++ [xs[j]] := by
    rw [take_snoc hj, keepAt_snoc, show 0 + (xs.take j).length = j by simp; omega, hp]
    simp
  refine ⟨cur.setIfInBounds i xs[j], mid' ++ [xs[j]], by simp [World.setCell, Array.getElem?_modify, hh], by simpa using hs, ?_, by rw [e]; simp; omega, by simp at hm ⊢; omega, by simp⟩
  rw [e, Array.toList_setIfInBounds, List.take_set, ht]
  rw [List.set_append_right _ _ (by omega), hi, Nat.sub_self]
  simp only [List.cons_append, List.set_cons_zero]
  rw [List.append_assoc, List.append_assoc, List.singleton_append, List.singleton_append, List.getElem_cons_drop hj]
end

theorem only_setCells (b : Nat) : ∀ (vs : List Value) (o : Nat) (w : World), Only b w (w.setCells b o vs)
  | [], _, w => Only.refl b w
  | v :: r, o, w => ((Only.refl b w).setCell o v).trans (only_setCells b r (o + 1) _)

theorem cells_setCells (b : Nat) : ∀ (vs : List Value) (o : Nat) (w : World) (cur : Array Value), w.heap[b]? = some (.cells cur 89 (0, 0)) →
    ∃ cur', (w.setCells b o vs).heap[b]? = some (.cells cur' 89 (0, 0)) ∧ cur'.size = cur.size ∧ ∀ i, i ≤ o → cur'.toList.take i = cur.toList.take i
  | [], _, _, cur, h => ⟨cur, h, rfl, fun _ _ => rfl⟩
  | v :: r, o, w, cur, h => by
    obtain ⟨cur', h1, h2, h3⟩ := cells_setCells b r (o + 1) (w.setCell ⟨b, o, none⟩ v) (cur.setIfInBounds o v) (by simp [World.setCell, Array.getElem?_modify, h])
    refine ⟨cur', h1, by simpa using h2, fun i hi => ?_⟩
    rw [h3 i (by omega), Array.toList_setIfInBounds]
    exact List.take_set_of_le hi

/-- What DeleteFunc has behind it. -/
theorem Mid.done {w : World} {b cap n i : Nat} {xs : List Value} {p : Nat → Bool} (h : Mid w b cap n xs p i n) (hn : xs.length = n) (hc : n ≤ cap) (hm : cap ≤ maxLen) :
    i < n ∧ (w.setCells b i (List.replicate (n - i) (.pointer none))).ownsRow 0 89 1 (.slice (some ⟨b, 0, none⟩) i cap) (keepAt p 0 xs).length (keepAt p 0 xs) := by
  obtain ⟨cur, mid, hh, hs, ht, hi, hm1, h1⟩ := h
  rw [show xs.take n = xs by rw [← hn]; simp] at ht hi
  rw [hi]
  refine ⟨by omega, by rw [hi, Nat.mul_one], .inr ?_⟩
  obtain ⟨cur', e1, e2, e3⟩ := cells_setCells b (List.replicate (n - i) (.pointer none)) i w cur hh
  refine ⟨b, cap, cur', rfl, Nat.zero_le _, e1, by omega, hm, by rw [e2, Nat.mul_one]; exact hs, ?_⟩
  rw [Nat.mul_one, e3 i (Nat.le_refl _)]
  have : (cur.toList.take n).take i = keepAt p 0 xs := by rw [ht, List.take_append_of_le_length (by omega), ← hi, List.take_length]
  rwa [List.take_take, Nat.min_eq_left (by omega)] at this

theorem Mid.start {w : World} {b cap n k : Nat} {xs : List Value} {p : Nat → Bool} {cur : Array Value} (hh : w.heap[b]? = some (.cells cur 89 (0, 0))) (hs : cur.size = cap) (ht : cur.toList.take n = xs) (hk : k < xs.length) (hp : p k = true) (hb : ∀ j, j < k → p j = false) :
    Mid w b cap n xs p k (k + 1) := by
  have e : keepAt p 0 (xs.take (k + 1)) = xs.take k := by
    rw [take_snoc hk, keepAt_snoc, show 0 + (xs.take k).length = k by simp; omega, hp, if_pos rfl, List.append_nil]
    exact keepAt_all p _ 0 fun j _ h => hb j (by simp at h; omega)
  refine ⟨cur, [xs[k]], hh, hs, ?_, by rw [e]; simp; omega, by simp, by simp⟩
  rw [e, ht, List.singleton_append, List.getElem_cons_drop hk, List.take_append_drop]

set_option maxHeartbeats 4000000 in
theorem del64 (g : Nat) (lb : Array Value) (eg : ∀ args w, (callFunc g args).run Try.prog w = .ok (.enter g args) w) (v : Value) (n : Nat) (xs : List Value) (p : Nat → Bool) (I : Nat → World → Prop) (w : World)
    (hrow : w.ownsRow 0 89 1 v n xs) (hxs : ∀ k (hk : k < xs.length), ∃ a, xs[k] = .pointer a) (h0 : I 0 w)
    (hI : ∀ b, v.ownBlock = some b → ∀ k W W', I k W → (∃ cur, W.heap[b]? = some (.cells cur 89 (0, 0))) → Only b W W' → I k W')
    (hp : ∀ k W, ∀ hk : k < xs.length, I k W → Calls Try.prog g (#[xs[k]] ++ lb) W fun e W' => e = .returned (.bool (p k)) ∧ I (k + 1) W' ∧ ∀ b, v.ownBlock = some b → W'.heap[b]? = W.heap[b]?) :
    Calls Try.prog 64 #[v, .func (.func g) #[] lb] w fun e w' => ∃ v', e = .returned v' ∧ w'.ownsRow 0 89 1 v' (keepAt p 0 xs).length (keepAt p 0 xs) ∧ v'.ownBlock = v.ownBlock ∧ I n w' := by
  obtain ⟨hlen, hrow2⟩ := hrow
  rw [Nat.mul_one] at hlen
  rcases hrow2 with ⟨rfl, rfl⟩ | ⟨b, cap, cur, rfl, -, hh, hcap, hmax, hsz, hcur⟩
  · obtain rfl : xs = [] := List.eq_nil_of_length_eq_zero hlen
    have HX := (show Hid (Calls Try.prog 53 #[.slice none 0 0, .func (.func g) #[] lb] w (IxPost p 0 I)) from ix53 g lb eg none 0 0 (fun _ => default) p I w (by omega) h0 (fun k W hk => absurd hk (Nat.not_lt_zero _)) (fun k W hk => absurd hk (Nat.not_lt_zero _)))
    clear hp hI h0
    go_enter Try.func64, Try.ntmps64
    go_wp2_with (go_at_call 53; refine HX.out.mono ?_; rintro e w1 ⟨r, rfl, ⟨k, hk, -⟩ | ⟨rfl, -, hI1⟩⟩; exact absurd hk (Nat.not_lt_zero _))
    go_ret
    exact ⟨_, rfl, ⟨rfl, .inl ⟨rfl, rfl⟩⟩, rfl, hI1⟩
  · rw [Nat.mul_one] at hsz hcur
    have hm : cap ≤ 9223372036854775807 := by unfold maxLen at hmax; omega
    have hfree : ∀ (W : World) (cur : Array Value), W.heap[b]? = some (.cells cur 89 (0, 0)) → ∀ o, W.frozen? ⟨b, o, none⟩ = false := fun W cur h o => by simp [World.frozen?, h]
    -- the first that goes
    have HX : Hid (Calls Try.prog 53 #[.slice (some ⟨b, 0, none⟩) n cap, .func (.func g) #[] lb] w (IxPost p n fun k W => I k W ∧ W.heap[b]? = some (.cells cur 89 (0, 0)))) := by
      show Calls _ _ _ _ _
      refine ix53 g lb eg _ n cap (fun k => xs.getD k default) p _ w (by omega) ⟨h0, hh⟩ (fun k W hk hW => ⟨b, 0, rfl, ?_⟩) (fun k W hk hW => ?_)
      · have : (cur.toList.take n)[k]? = some (xs.getD k default) := by
          rw [hcur, List.getD_eq_getElem?_getD, List.getElem?_eq_getElem (by omega)]; rfl
        rw [List.getElem?_take_of_lt hk] at this
        unfold World.cell?
        simp only [hW.2]
        simpa using this
      · have e : xs.getD k default = xs[k] := by rw [List.getD_eq_getElem?_getD, List.getElem?_eq_getElem (by omega)]; rfl
        rw [e]
        refine (hp k W (by omega) hW.1).mono ?_
        rintro e W' ⟨rfl, h1, h2⟩
        exact ⟨rfl, h1, (h2 b rfl).trans hW.2⟩
    have HP := (show Hid (∀ k W, ∀ hk : k < xs.length, I k W → Calls Try.prog g (#[xs[k]] ++ lb) W fun e W' => e = .returned (.bool (p k)) ∧ I (k + 1) W' ∧ ∀ c, (Value.slice (some ⟨b, 0, none⟩) n cap).ownBlock = some c → W'.heap[c]? = W.heap[c]?) from hp)
    have HI := (show Hid (∀ k W W', I k W → (∃ cur, W.heap[b]? = some (.cells cur 89 (0, 0))) → Only b W W' → I k W') from hI b rfl)
    have Hcur := (show Hid (cur.toList.take n = xs) from hcur)
    have Hh := (show Hid (w.heap[b]? = some (.cells cur 89 (0, 0))) from hh)
    have hnlen := hlen
    clear hp hI h0 hcur hh
    go_enter Try.func64, Try.ntmps64
    go_wp2_with fail
    refine HX.out.mono ?_
    rintro e w1 ⟨r, rfl, hr⟩
    rcases hr with ⟨k, hk, rfl, hpk, hno, hI1, hh1⟩ | ⟨rfl, hno, hI1, hh1⟩
    · have HM := (show Hid (Mid w1 b cap n xs p k (k + 1)) from Mid.start hh1 hsz Hcur.out (by omega) hpk hno)
      have HI1 := (show Hid (I (k + 1) w1) from hI1)
      have hne : ((k : Int) == -1) = false := by simp
      clear hI1 hh1 hno hpk HX Hcur Hh
      go_wp2_with fail
      go_loopg [5, 6] (n - (k + 1)) (fun gg i jj wr => ∃ i' j' : Nat, i = .int .i64 i' ∧ jj = .int .i64 j' ∧ j' + gg = n ∧ i' < j' ∧ Hid (Mid wr b cap n xs p i' j') ∧ Hid (I j' wr))
      case atStart => exact ⟨k, k + 1, rfl, by go_num, by omega, by omega, HM, HI1⟩
      case round =>
        obtain ⟨i, j, rfl, rfl, hj, hij, hM, hI1⟩ := hrel
        have Hk := (show Hid (j + gk = n) from hj)
        have hjn : j ≤ n := by omega
        clear hj HM HI1
        by_cases hlt : j < n
        · have c0 := hM.out.cell (by omega) hnlen
          obtain ⟨pa, ea⟩ := hxs j (by omega)
          have HK := (show Hid (Calls Try.prog g (#[xs[j]] ++ lb) wr fun e W' => e = .returned (.bool (p j)) ∧ I (j + 1) W' ∧ ∀ c, (Value.slice (some ⟨b, 0, none⟩) n cap).ownBlock = some c → W'.heap[c]? = wr.heap[c]?) from HP.out j wr (by omega) hI1.out)
          clear HP
          have Hea := (show Hid (xs[j] = .pointer pa) from ea)
          rw [ea] at HK c0
          clear ea
          cases hq : p j with
          | true =>
            rw [hq] at HK
            have Hq := (show Hid (p j = true) from hq)
            clear hq
            go_wp2_with (go_at_fn g; refine HK.out.mono ?_; rintro e w2 ⟨rfl, hI2, hk2⟩)
            go_roundg (gk - 1)
            case measure => have := Hk.out; omega
            case rel =>
              obtain ⟨cur2, mid2, g1, g2⟩ := hM.out
              exact ⟨i, j + 1, rfl, by go_num, by have := Hk.out; omega, by omega, Mid.skip ⟨cur2, mid2, (hk2 b rfl).trans g1, g2⟩ (by omega) Hq.out, hI2⟩
          | false =>
            rw [hq] at HK
            have Hq := (show Hid (p j = false) from hq)
            clear hq
            go_wp2_with fail
            go_at_fn g
            refine HK.out.mono ?_
            rintro e w2 ⟨rfl, hI2, hk2⟩
            have hM2 : Mid w2 b cap n xs p i j := by
              obtain ⟨cur2, mid2, g1, g2⟩ := hM.out
              exact ⟨cur2, mid2, (hk2 b rfl).trans g1, g2⟩
            have ci := hM2.any (by omega) i (by omega)
            have fi := hM2.free i
            obtain ⟨vi, ci⟩ := Option.isSome_iff_exists.1 ci
            have HM2 := (show Hid (Mid w2 b cap n xs p i j) from hM2)
            clear hM2 hM
            go_wp2_with fail
            go_roundg (gk - 1)
            case measure => have := Hk.out; omega
            case rel =>
              exact ⟨i + 1, j + 1, by go_num, by go_num, by have := Hk.out; omega, by omega, (by show Mid _ _ _ _ _ _ _ _; rw [← Hea.out]; exact HM2.out.stay (by omega) Hq.out), HI.out _ _ _ hI2 (by obtain ⟨c, _, e, _⟩ := HM2.out; exact ⟨c, e⟩) ((Only.refl _ _).setCell _ _)⟩
        · obtain rfl : j = n := by omega
          have hd := hM.out.done hnlen hcap hmax
          have hin := hd.1
          have Hd := (show Hid (_) from hd.2)
          have hcl : (Builtin.clear_ #[84] 0 #[.slice (some ⟨b, i, none⟩) (j - i) (cap - i)]).run Try.prog wr = .ok (.tuple #[]) (wr.setCells b i (List.replicate (j - i) (.pointer none))) := by
            refine Go.Lib.run_clear_slice wr 84 89 0 (.pointer none) Try.underlying84 (fun w => by kernel_rfl) rfl rfl b i (j - i) (cap - i) (by omega) (fun q hq => hM.out.any hcap (i + q) (by omega)) (fun q hq => hM.out.free _)
          clear HP hd
          go_wp2_with fail
          go_ret
          exact ⟨_, rfl, Hd.out, rfl, HI.out _ _ _ hI1.out (by obtain ⟨c, _, e, _⟩ := hM.out; exact ⟨c, e⟩) (only_setCells _ _ _ _)⟩
    · have e : keepAt p 0 xs = xs := keepAt_all p xs 0 fun j _ h => hno j (by omega)
      clear HX HP HI
      go_wp2_with fail
      go_ret
      refine ⟨_, rfl, ?_, rfl, hI1⟩
      rw [e]
      exact ⟨by omega, .inr ⟨b, cap, cur, by rw [hlen]; rfl, Nat.zero_le _, hh1, by omega, hmax, by omega, by rw [Nat.mul_one, hlen]; exact Hcur.out⟩⟩
end Go.Proofs.Ytnakafmlenngnaa.Qm
