/- The grammar, third part: mailboxes, lists, elements. -/
import Derived.Test.YtpmmaickjolimaaGreatDoorK01
namespace Go.Proofs.YtpmmaickjolimaaGreatDoor.Ma

theorem getD_posn (o : Nat) (c : List It) (x : It) (r : List It) : (posn o (c ++ x :: r)).getD c.length z = ⟨x.kind, x.text, o + (flat c).length + x.gap.length, o + (flat c).length + x.b.length⟩ := by
  rw [posn_app, List.getD_eq_getElem?_getD, List.getElem?_append_right (by rw [posn_len]; exact Nat.le_refl _), posn_len, Nat.sub_self, posn]
  rfl
theorem getD_nil (o : Nat) (c : List It) : ((posn o c).getD c.length z).kind = 0 := by
  rw [List.getD_eq_getElem?_getD, List.getElem?_eq_none (by rw [posn_len]; exact Nat.le_refl _)]
  rfl
theorem drop_posn (o : Nat) (c : List It) (x : It) (r : List It) : (posn o (c ++ x :: r)).drop (c.length + 1) = posn (o + (flat c).length + x.b.length) r := by
  have e : c ++ x :: r = (c ++ [x]) ++ r := by simp
  rw [e, posn_app, List.drop_left' (by rw [posn_len]; simp), flat_app]
  simp [flat, Nat.add_assoc]
theorem stops_of {k : Nat} {x : It} (h1 : wrd x.kind = false) (h2 : x.kind ≠ 46) : stops k x := by
  unfold stops
  simp [h1, h2]
/-- The phrase at the front: what it is, and what stands behind. -/
theorem ph_split (o : Nat) (l : List It) (all : List Sp) : ∃ c r, l = c ++ r ∧ IsPh c ∧ phraseN ⟨false, posn o l, all⟩ = c.length := by
  obtain ⟨c, r, rfl, h1, h2⟩ := phI_split l 0
  exact ⟨c, r, rfl, h2, by show phN 0 (posn o (c ++ r)) = _; rw [phN_posn, h1]⟩
theorem dots_ph {c : List It} {t : List UInt8} (h : Dots wrd c t) : IsPh c := by
  obtain ⟨i, c, u, hi, hc⟩ := h
  have key : ∀ (c : List It) (u : List UInt8), Tl wrd c u → ∀ k, k ≠ 0 → phI k c = c.length := by
    intro c u hc
    induction hc with
    | nil => intro k _; rfl
    | cons d i c t hd hi hc ih =>
      intro k hk
      rw [phI, if_pos (by simp [hd, hk]), phI, if_pos (by simp [hi]), ih (k + 1 + 1) (by omega)]
      rfl
  unfold IsPh
  rw [phI, if_pos (by simp [hi]), key c u hc 1 (by decide)]
  rfl
theorem ph_head {i : It} {c : List It} (hc : IsPh (i :: c)) : wrd i.kind = true := by
  unfold IsPh at hc
  rw [phI] at hc
  by_cases h : (wrd i.kind || (i.kind == 46 && 0 != 0)) = true
  · simpa using h
  · rw [if_neg h] at hc; simp at hc
/-- What follows the phrase ahead of a bare mailbox is its sign. -/
theorem spec_at (o : Nat) (s : Spc) (r : List It) (all : List Sp) (hs : IsSpec s) : ((posn o (s.sec ++ r)).getD (phraseN ⟨false, posn o (s.sec ++ r), all⟩) z).kind = 64 := by
  obtain ⟨c, a, d, t, u, hc, ha, hd⟩ := hs
  have e : (c ++ a :: d) ++ r = c ++ a :: (d ++ r) := by simp
  show ((posn o ((c ++ a :: d) ++ r)).getD (phraseN ⟨false, posn o ((c ++ a :: d) ++ r), all⟩) z).kind = 64
  rw [e]
  have h1 : phraseN ⟨false, posn o (c ++ a :: (d ++ r)), all⟩ = c.length := by
    show phN 0 (posn o (c ++ a :: (d ++ r))) = _
    rw [phN_posn]
    exact phI_app c 0 a _ (dots_ph hc) (stops_of (by rw [ha]; decide) (by rw [ha]; decide))
  rw [h1, getD_posn]
  exact ha
theorem spec_head {s : Spc} (hs : IsSpec s) : ∃ i t, s.sec = i :: t ∧ wrd i.kind = true := by
  obtain ⟨c, a, d, t, u, hc, ha, hd⟩ := hs
  obtain ⟨i, c, u, hi, hc⟩ := hc
  exact ⟨i, c ++ a :: d, rfl, hi⟩
theorem its_one (s : Spc) (n : List UInt8) : its [.sp s n] = s.sec := by
  show s.sec ++ [] = _
  rw [List.append_nil]
theorem its_angle (c : List It) (lt : It) (r : List It) (s : Spc) (n : List UInt8) (gt : It) : its (kp (c ++ lt :: r) ++ [.sp s n, .keep gt]) = c ++ lt :: (r ++ (s.sec ++ [gt])) := by
  rw [its_app, its_kp]
  show c ++ lt :: r ++ (s.sec ++ ([gt] ++ [])) = _
  simp
theorem sps_angle (o : Nat) (c : List It) (lt : It) (r : List It) (s : Spc) (n : List UInt8) (gt : It) : spsOf o (kp (c ++ lt :: r) ++ [.sp s n, .keep gt]) = spsOf (o + (flat c).length + lt.b.length + (flat r).length) [.sp s n] := by
  rw [spsOf_app, spsOf_kp, its_kp, flat_app, flat_cons, List.nil_append]
  simp only [List.length_append, ← Nat.add_assoc]
  rfl
theorem len_angle (o : Nat) (c : List It) (lt : It) (r : List It) (s : Spc) (gt : It) : o + (flat (c ++ lt :: (r ++ (s.sec ++ [gt])))).length = o + (flat c).length + lt.b.length + (flat r).length + (flat s.sec).length + gt.b.length := by
  rw [flat_app, flat_cons, flat_app, flat_app]
  simp only [List.length_append, flat, List.flatMap_cons, List.flatMap_nil, List.length_nil]; omega
theorem mailbox_sound (body : List UInt8) (o : Nat) (l : List It) (all : List Sp) (hf : Fits body o l) (hb : (mailboxQ body ⟨false, posn o l, all⟩).bad = false) :
    ∃ m r, l = its m ++ r ∧ IsMb m ∧ mailboxQ body ⟨false, posn o l, all⟩ = ⟨false, posn (o + (flat (its m)).length) r, all ++ spsOf o m⟩ := by
  obtain ⟨c, r0, rfl, hc, hn⟩ := ph_split o l all
  unfold mailboxQ at hb ⊢
  by_cases hq : ((posn o (c ++ r0)).getD (phraseN ⟨false, posn o (c ++ r0), all⟩) z).kind ≠ 60
  · rw [if_pos hq] at hb ⊢
    obtain ⟨s, r, e, hs, e2⟩ := spec_sound [] o _ all hb
    exact ⟨[.sp s []], r, by rw [its_one]; exact e, .bare s hs, by rw [e2, its_one]⟩
  · rw [if_neg hq] at hb ⊢
    have hq' : ((posn o (c ++ r0)).getD (phraseN ⟨false, posn o (c ++ r0), all⟩) z).kind = 60 := Classical.not_not.1 hq
    cases r0 with
    | nil => rw [hn, List.append_nil, getD_nil] at hq'; exact absurd hq' (by decide)
    | cons lt r0 =>
      rw [hn, getD_posn] at hq'
      have hlt : lt.kind = 60 := hq'
      have hnm := (name_eq body o c lt r0 all hf hc (stops_of (by rw [hlt]; decide) (by rw [hlt]; decide))).2
      simp only [hn, drop_posn, hnm] at hb ⊢
      by_cases h64 : isQ 64 ⟨false, posn (o + (flat c).length + lt.b.length) r0, all⟩ = true
      · rw [if_pos h64] at hb ⊢
        have h2 : (wantS 58 (routeQ ((posn (o + (flat c).length + lt.b.length) r0).length + 1) ⟨false, posn (o + (flat c).length + lt.b.length) r0, all⟩)).bad = false := good_of fun h => by
          rw [want_of_bad 62 _ (spec_bad _ _ h)] at hb
          exact absurd hb (by simp)
        obtain ⟨d, r1, rfl, hd, _, e⟩ := route_sound _ _ r0 all (by rw [posn_len]; omega) h2
        rw [e] at hb ⊢
        have h3 : (specQ (nameOf c) ⟨false, posn (o + (flat c).length + lt.b.length + (flat d).length) r1, all⟩).bad = false := good_of fun h => by
          rw [want_of_bad 62 _ h] at hb
          exact absurd hb (by simp)
        obtain ⟨s, r2, rfl, hs, e2⟩ := spec_sound _ _ _ all h3
        rw [e2] at hb ⊢
        obtain ⟨gt, r3, rfl, hgt⟩ := want_cons (by decide) hb
        rw [wantS_gs 62 _ gt r3 _ hgt]
        refine ⟨_, r3, ?_, .angle c lt d s gt hc hlt hd hs hgt, ?_⟩
        · rw [its_angle]; simp
        · rw [its_angle, sps_angle, len_angle]
      · rw [if_neg h64] at hb ⊢
        have h3 : (specQ (nameOf c) ⟨false, posn (o + (flat c).length + lt.b.length) r0, all⟩).bad = false := good_of fun h => by
          rw [want_of_bad 62 _ h] at hb
          exact absurd hb (by simp)
        obtain ⟨s, r2, rfl, hs, e2⟩ := spec_sound _ _ _ all h3
        rw [e2] at hb ⊢
        obtain ⟨gt, r3, rfl, hgt⟩ := want_cons (by decide) hb
        rw [wantS_gs 62 _ gt r3 _ hgt]
        refine ⟨_, r3, ?_, .angle c lt [] s gt hc hlt .none hs hgt, ?_⟩
        · rw [its_angle]; simp
        · rw [its_angle, sps_angle, len_angle]; rfl
theorem mailbox_full (body : List UInt8) (o : Nat) (m : List Sg) (x : It) (r : List It) (all : List Sp) (hm : IsMb m) (hx : x.kind ≠ 46) (hf : Fits body o (its m ++ x :: r)) :
    mailboxQ body ⟨false, posn o (its m ++ x :: r), all⟩ = ⟨false, posn (o + (flat (its m)).length) (x :: r), all ++ spsOf o m⟩ := by
  unfold mailboxQ
  cases hm with
  | bare s hs =>
    rw [its_one]
    rw [if_pos (by show ((posn o (s.sec ++ x :: r)).getD _ z).kind ≠ 60; rw [spec_at o s (x :: r) all hs]; decide)]
    exact spec_full [] o s x r all hs hx
  | angle c lt d s gt hc hlt hd hs hgt =>
    have e0 : c ++ lt :: (d ++ (s.sec ++ [gt])) ++ x :: r = c ++ lt :: (d ++ (s.sec ++ gt :: x :: r)) := by simp
    rw [its_angle, e0] at hf
    rw [its_angle, e0, sps_angle, len_angle]
    obtain ⟨h1, h2⟩ := name_eq body o c lt _ all hf hc (stops_of (by rw [hlt]; decide) (by rw [hlt]; decide))
    simp only [h1, h2, drop_posn, getD_posn]
    rw [if_neg (by rw [hlt]; decide)]
    have hsp := spec_full (nameOf c) (o + (flat c).length + lt.b.length + (flat d).length) s gt (x :: r) all hs (by rw [hgt]; decide)
    by_cases hne : d = []
    · subst hne
      obtain ⟨i, t, e, hi⟩ := spec_head hs
      have hq : isQ 64 ⟨false, posn (o + (flat c).length + lt.b.length) ([] ++ (s.sec ++ gt :: x :: r)), all⟩ = false := by
        rw [e, List.nil_append, List.cons_append, isQ_gs]
        unfold wrd at hi
        rcases (by simpa using hi : i.kind = 97 ∨ i.kind = 113) with h | h <;> rw [h] <;> rfl
      rw [if_neg (by rw [hq]; simp)]
      have e1 : o + (flat c).length + lt.b.length + (flat []).length = o + (flat c).length + lt.b.length := rfl
      rw [e1] at hsp ⊢
      rw [List.nil_append, hsp, wantS_gs 62 _ gt _ _ hgt]
    · have hq : isQ 64 ⟨false, posn (o + (flat c).length + lt.b.length) (d ++ (s.sec ++ gt :: x :: r)), all⟩ = true := by
        cases hd with
        | none => exact absurd rfl hne
        | last a d t k ha hd hk => show isQ 64 ⟨false, posn _ (a :: _), all⟩ = true; rw [isQ_gs, ha]; rfl
        | more a d t k c ha hd hk hne hc => show isQ 64 ⟨false, posn _ (a :: _), all⟩ = true; rw [isQ_gs, ha]; rfl
      rw [if_pos hq, route_full hd _ _ _ all hne (by rw [posn_len]; simp; omega), hsp, wantS_gs 62 _ gt _ _ hgt]

/-! Lists -/
theorem its_keep (m : List Sg) (k : It) (l : List Sg) : its (m ++ .keep k :: l) = its m ++ k :: its l := by
  rw [its_app]; rfl
theorem len_keep (o : Nat) (m : List Sg) (k : It) (l : List It) : o + (flat (its m ++ k :: l)).length = o + (flat (its m)).length + k.b.length + (flat l).length := by
  rw [flat_app, flat_cons, List.length_append, List.length_append]; omega
theorem sps_keep (o : Nat) (m : List Sg) (k : It) (l : List Sg) : spsOf o (m ++ .keep k :: l) = spsOf o m ++ spsOf (o + (flat (its m)).length + k.b.length) l := by
  rw [spsOf_app]; rfl
theorem commas_sound (body : List UInt8) (e : UInt8) (f : St → St) (P : List Sg → Prop) (he : e ≠ 0)
    (hP : ∀ o l all, Fits body o l → (f ⟨false, posn o l, all⟩).bad = false → ∃ m r, l = its m ++ r ∧ P m ∧ f ⟨false, posn o l, all⟩ = ⟨false, posn (o + (flat (its m)).length) r, all ++ spsOf o m⟩) :
    ∀ (n o : Nat) (l : List It) (all : List Sp), l.length < n → Fits body o l → (commasQ e f n ⟨false, posn o l, all⟩).bad = false →
    ∃ m r, l = its m ++ r ∧ IsList e P m ∧ commasQ e f n ⟨false, posn o l, all⟩ = ⟨false, posn (o + (flat (its m)).length) r, all ++ spsOf o m⟩ := by
  intro n
  induction n with
  | zero => intro o l all hn; exact absurd hn (by omega)
  | succ n ih =>
    intro o l all hn hf hb
    rw [commasQ] at hb ⊢
    simp only at hb ⊢
    -- what stands there is read, or not
    have key : ∃ m r, l = its m ++ r ∧ (m = [] ∨ P m) ∧ (if (!isQ 44 ⟨false, posn o l, all⟩ && !isQ e ⟨false, posn o l, all⟩ && !false) = true then f ⟨false, posn o l, all⟩ else ⟨false, posn o l, all⟩) = ⟨false, posn (o + (flat (its m)).length) r, all ++ spsOf o m⟩ := by
      by_cases hc : (!isQ 44 ⟨false, posn o l, all⟩ && !isQ e ⟨false, posn o l, all⟩ && !false) = true
      · rw [if_pos hc] at hb ⊢
        have h1 : (f ⟨false, posn o l, all⟩).bad = false := good_of fun h => by
          rw [if_neg (by simp [isQ, h]), want_of_bad _ _ h] at hb
          exact absurd hb (by simp)
        obtain ⟨m, r, e1, hm, e2⟩ := hP o l all hf h1
        exact ⟨m, r, e1, .inr hm, e2⟩
      · rw [if_neg hc]
        exact ⟨[], l, rfl, .inl rfl, by simp [its, flat, spsOf]⟩
    obtain ⟨m, r, rfl, hm, e1⟩ := key
    rw [e1] at hb ⊢
    by_cases hq : isQ 44 ⟨false, posn (o + (flat (its m)).length) r, all ++ spsOf o m⟩ = true
    · rw [if_pos hq] at hb ⊢
      obtain ⟨k, r, rfl, hk⟩ := isQ_cons (by decide) hq
      rw [takeS_gs 44 _ k r _ hk] at hb ⊢
      obtain ⟨m2, r, rfl, hm2, e2⟩ := ih _ r _ (by simp at hn; omega) (hf.app.cons) hb
      refine ⟨m ++ .keep k :: m2, r, by rw [its_keep]; simp, ?_, ?_⟩
      · rcases hm with rfl | hm
        · exact .comma k m2 hk hm2
        · exact .more m k m2 hm hk hm2
      · rw [e2, its_keep, len_keep, sps_keep, List.append_assoc]
    · rw [if_neg hq] at hb ⊢
      obtain ⟨k, r, rfl, hk⟩ := want_cons he hb
      rw [wantS_gs e _ k r _ hk]
      refine ⟨m ++ [.keep k], r, by rw [its_keep]; simp [its], ?_, ?_⟩
      · rcases hm with rfl | hm
        · exact .end_ k hk
        · exact .last m k hm hk
      · rw [its_keep, len_keep, sps_keep]; simp [its, flat, spsOf]
theorem commas_full (body : List UInt8) (e : UInt8) (f : St → St) (P : List Sg → Prop) (he : e ≠ 44)
    (hP : ∀ o m x r all, P m → x.kind = 44 ∨ x.kind = e → Fits body o (its m ++ x :: r) → f ⟨false, posn o (its m ++ x :: r), all⟩ = ⟨false, posn (o + (flat (its m)).length) (x :: r), all ++ spsOf o m⟩)
    (hH : ∀ m, P m → ∃ i t, its m = i :: t ∧ i.kind ≠ 44 ∧ i.kind ≠ e) {m : List Sg} (hm : IsList e P m) :
    ∀ (n o : Nat) (r : List It) (all : List Sp), (its m).length ≤ n → Fits body o (its m ++ r) →
    commasQ e f n ⟨false, posn o (its m ++ r), all⟩ = ⟨false, posn (o + (flat (its m)).length) r, all ++ spsOf o m⟩ := by
  have one : ∀ (o : Nat) (m : List Sg) (x : It) (r : List It) (all : List Sp), P m → x.kind = 44 ∨ x.kind = e → Fits body o (its m ++ x :: r) →
      (if (!isQ 44 ⟨false, posn o (its m ++ x :: r), all⟩ && !isQ e ⟨false, posn o (its m ++ x :: r), all⟩ && !false) = true then f ⟨false, posn o (its m ++ x :: r), all⟩ else ⟨false, posn o (its m ++ x :: r), all⟩) = ⟨false, posn (o + (flat (its m)).length) (x :: r), all ++ spsOf o m⟩ := by
    intro o m x r all hm hx hf
    obtain ⟨i, t, e1, h1, h2⟩ := hH m hm
    rw [if_pos]
    · exact hP o m x r all hm hx hf
    · rw [e1, List.cons_append, isQ_gs, isQ_gs]; simp [h1, h2]
  have none_ : ∀ (o : Nat) (k : It) (r : List It) (all : List Sp), k.kind = 44 ∨ k.kind = e →
      (if (!isQ 44 ⟨false, posn o (k :: r), all⟩ && !isQ e ⟨false, posn o (k :: r), all⟩ && !false) = true then f ⟨false, posn o (k :: r), all⟩ else ⟨false, posn o (k :: r), all⟩) = ⟨false, posn o (k :: r), all⟩ := by
    intro o k r all hk
    rw [if_neg]
    rw [isQ_gs, isQ_gs]
    rcases hk with h | h <;> simp [h]
  induction hm with
  | end_ k hk =>
    intro n o r all hn hf
    obtain ⟨n, rfl⟩ : ∃ m, n = m + 1 := ⟨n - 1, by have : 1 ≤ n := hn; omega⟩
    show commasQ e f (n + 1) ⟨false, posn o (k :: r), all⟩ = _
    rw [commasQ]
    simp only [none_ o k r all (.inr hk)]
    rw [isQ_gs, if_neg (by rw [hk]; simpa using he), wantS_gs e _ k r _ hk]
    simp [its, Sg.its, flat, spsOf]
  | last m k hm hk =>
    intro n o r all hn hf
    have e0 : its (m ++ [.keep k]) ++ r = its m ++ k :: r := by rw [its_keep]; simp [its]
    rw [e0] at hf ⊢
    obtain ⟨n, rfl⟩ : ∃ m, n = m + 1 := ⟨n - 1, by rw [its_keep] at hn; simp at hn; omega⟩
    rw [commasQ]
    simp only [one o m k r all hm (.inr hk) hf]
    rw [isQ_gs, if_neg (by rw [hk]; simpa using he), wantS_gs e _ k r _ hk, its_keep, len_keep, sps_keep]
    simp [its, flat, spsOf]
  | comma k l hk hl ih =>
    intro n o r all hn hf
    have hf' : Fits body o (k :: (its l ++ r)) := hf
    obtain ⟨n, rfl⟩ : ∃ m, n = m + 1 := ⟨n - 1, by have : (its l).length + 1 ≤ n := hn; omega⟩
    show commasQ e f (n + 1) ⟨false, posn o (k :: (its l ++ r)), all⟩ = _
    rw [commasQ]
    simp only [none_ o k _ all (.inl hk)]
    rw [isQ_gs, if_pos (by rw [hk]; rfl), takeS_gs 44 _ k _ _ hk, ih n _ r all (by have : (its l).length + 1 ≤ n + 1 := hn; omega) hf'.cons]
    show (⟨false, _, _⟩ : St) = ⟨false, posn (o + (k.b ++ flat (its l)).length) r, all ++ spsOf (o + k.b.length) l⟩
    rw [List.length_append, Nat.add_assoc]
  | more m k l hm hk hl ih =>
    intro n o r all hn hf
    have e0 : its (m ++ .keep k :: l) ++ r = its m ++ k :: (its l ++ r) := by rw [its_keep]; simp
    rw [e0] at hf ⊢
    have hn' : (its m).length + ((its l).length + 1) ≤ n := by rw [its_keep, List.length_append] at hn; exact hn
    obtain ⟨n, rfl⟩ : ∃ m, n = m + 1 := ⟨n - 1, by omega⟩
    rw [commasQ]
    simp only [one o m k (its l ++ r) all hm (.inl hk) hf]
    rw [isQ_gs, if_pos (by rw [hk]; rfl), takeS_gs 44 _ k _ _ hk, ih n _ r _ (by omega) hf.app.cons, its_keep, len_keep, sps_keep, List.append_assoc]

/-! Elements -/
theorem mb_head {m : List Sg} (hm : IsMb m) : ∃ i t, its m = i :: t ∧ (wrd i.kind = true ∨ i.kind = 60) := by
  cases hm with
  | bare s hs =>
    obtain ⟨i, t, e, hi⟩ := spec_head hs
    exact ⟨i, t, by rw [its_one, e], .inl hi⟩
  | angle c lt d s gt hc hlt hd hs hgt =>
    rw [its_angle]
    cases c with
    | nil => exact ⟨lt, _, rfl, .inr hlt⟩
    | cons i c => exact ⟨i, _, rfl, .inl (ph_head hc)⟩
theorem el_head {m : List Sg} (hm : IsEl m) : ∃ i t, its m = i :: t ∧ (wrd i.kind = true ∨ i.kind = 60) := by
  cases hm with
  | mb m hm => exact mb_head hm
  | grp c k l hc hne hk hl =>
    rw [its_app, its_kp]
    cases c with
    | nil => exact absurd rfl hne
    | cons i c => exact ⟨i, _, rfl, .inl (ph_head hc)⟩
theorem head_ne {k : UInt8} (h : wrd k = true ∨ k = 60) {x : UInt8} (hx : wrd x = false ∧ x ≠ 60) : k ≠ x := by
  rintro rfl
  rcases h with h | h
  · rw [h] at hx; exact absurd hx.1 (by simp)
  · exact hx.2 h
theorem group_full (body : List UInt8) {l : List Sg} (hl : IsList 59 IsMb l) : ∀ (n o : Nat) (r : List It) (all : List Sp), (its l).length ≤ n → Fits body o (its l ++ r) →
    commasQ 59 (mailboxQ body) n ⟨false, posn o (its l ++ r), all⟩ = ⟨false, posn (o + (flat (its l)).length) r, all ++ spsOf o l⟩ :=
  commas_full body 59 (mailboxQ body) IsMb (by decide)
    (fun o m x r all hm hx hf => mailbox_full body o m x r all hm (by rcases hx with h | h <;> rw [h] <;> decide) hf)
    (fun m hm => by
      obtain ⟨i, t, e, hi⟩ := mb_head hm
      exact ⟨i, t, e, head_ne hi (by decide), head_ne hi (by decide)⟩) hl
theorem element_sound (body : List UInt8) (o : Nat) (l : List It) (all : List Sp) (hf : Fits body o l) (hb : (elementQ body ⟨false, posn o l, all⟩).bad = false) :
    ∃ m r, l = its m ++ r ∧ IsEl m ∧ elementQ body ⟨false, posn o l, all⟩ = ⟨false, posn (o + (flat (its m)).length) r, all ++ spsOf o m⟩ := by
  obtain ⟨c, r0, rfl, hc, hn⟩ := ph_split o l all
  unfold elementQ at hb ⊢
  by_cases hq : phraseN ⟨false, posn o (c ++ r0), all⟩ = 0 ∨ ((posn o (c ++ r0)).getD (phraseN ⟨false, posn o (c ++ r0), all⟩) z).kind ≠ 58
  · rw [if_pos hq] at hb ⊢
    obtain ⟨m, r, e, hm, e2⟩ := mailbox_sound body o _ all hf hb
    exact ⟨m, r, e, .mb m hm, e2⟩
  · rw [if_neg hq] at hb ⊢
    rw [hn] at hq
    simp only [not_or, Classical.not_not] at hq
    obtain ⟨hne, hq'⟩ := hq
    cases r0 with
    | nil => rw [List.append_nil, getD_nil] at hq'; exact absurd hq' (by decide)
    | cons k r0 =>
      rw [getD_posn] at hq'
      have hk : k.kind = 58 := hq'
      simp only [hn, drop_posn] at hb ⊢
      obtain ⟨m, r, rfl, hm, e⟩ := commas_sound body 59 (mailboxQ body) IsMb (by decide) (fun o l all => mailbox_sound body o l all) _ _ r0 all (by rw [posn_len]; omega) hf.app.cons hb
      refine ⟨kp (c ++ [k]) ++ m, r, ?_, .grp c k m hc (fun h => hne (by rw [h]; rfl)) hk hm, ?_⟩
      · rw [its_app, its_kp]; simp
      · rw [e, its_app, its_kp, spsOf_app, spsOf_kp, its_kp, flat_app, flat_app, List.nil_append]
        have e1 : (flat [k]).length = k.b.length := by simp [flat]
        simp only [List.length_append, e1, Nat.add_assoc]
theorem element_full (body : List UInt8) (o : Nat) (m : List Sg) (x : It) (r : List It) (all : List Sp) (hm : IsEl m) (hx : x.kind ≠ 46) (hf : Fits body o (its m ++ x :: r)) :
    elementQ body ⟨false, posn o (its m ++ x :: r), all⟩ = ⟨false, posn (o + (flat (its m)).length) (x :: r), all ++ spsOf o m⟩ := by
  unfold elementQ
  cases hm with
  | mb m hm =>
    rw [if_pos]
    · exact mailbox_full body o m x r all hm hx hf
    · cases hm with
      | bare s hs =>
        right
        rw [its_one]
        show ((posn o (s.sec ++ x :: r)).getD _ z).kind ≠ 58
        rw [spec_at o s (x :: r) all hs]; decide
      | angle c lt d s gt hc hlt hd hs hgt =>
        have e0 : c ++ lt :: (d ++ (s.sec ++ [gt])) ++ x :: r = c ++ lt :: (d ++ (s.sec ++ gt :: x :: r)) := by simp
        rw [its_angle, e0] at hf ⊢
        have h1 := (name_eq body o c lt _ all hf hc (stops_of (by rw [hlt]; decide) (by rw [hlt]; decide))).1
        right
        rw [h1]
        show ((posn o (c ++ lt :: _)).getD c.length z).kind ≠ 58
        rw [getD_posn]
        show lt.kind ≠ 58
        rw [hlt]; decide
  | grp c k l hc hne hk hl =>
    have e0 : its (kp (c ++ [k]) ++ l) ++ x :: r = c ++ k :: (its l ++ x :: r) := by rw [its_app, its_kp]; simp
    rw [e0] at hf ⊢
    have h1 := (name_eq body o c k _ all hf hc (stops_of (by rw [hk]; decide) (by rw [hk]; decide))).1
    rw [if_neg (by
      rw [h1]
      show ¬ (c.length = 0 ∨ ((posn o (c ++ k :: _)).getD c.length z).kind ≠ 58)
      rw [getD_posn, hk]
      simp [hne])]
    simp only [h1, drop_posn]
    rw [group_full body hl _ _ (x :: r) all (by rw [posn_len]; simp; omega) hf.app.cons, its_app, its_kp, spsOf_app, spsOf_kp, its_kp, flat_app, flat_app, List.nil_append]
    have e1 : (flat [k]).length = k.b.length := by simp [flat]
    simp only [List.length_append, e1, Nat.add_assoc]
theorem body_full (body : List UInt8) {l : List Sg} (hl : IsBody l) (n o : Nat) (r : List It) (all : List Sp) (hn : (its l).length ≤ n) (hf : Fits body o (its l ++ r)) :
    commasQ 101 (elementQ body) n ⟨false, posn o (its l ++ r), all⟩ = ⟨false, posn (o + (flat (its l)).length) r, all ++ spsOf o l⟩ :=
  commas_full body 101 (elementQ body) IsEl (by decide)
    (fun o m x r all hm hx hf => element_full body o m x r all hm (by rcases hx with h | h <;> rw [h] <;> decide) hf)
    (fun m hm => by
      obtain ⟨i, t, e, hi⟩ := el_head hm
      exact ⟨i, t, e, head_ne hi (by decide), head_ne hi (by decide)⟩) hl n o r all hn hf
theorem body_sound (body : List UInt8) (n o : Nat) (l : List It) (all : List Sp) (hn : l.length < n) (hf : Fits body o l) (hb : (commasQ 101 (elementQ body) n ⟨false, posn o l, all⟩).bad = false) :
    ∃ m r, l = its m ++ r ∧ IsBody m ∧ commasQ 101 (elementQ body) n ⟨false, posn o l, all⟩ = ⟨false, posn (o + (flat (its m)).length) r, all ++ spsOf o m⟩ :=
  commas_sound body 101 (elementQ body) IsEl (by decide) (fun o l all => element_sound body o l all) n o l all hn hf hb
end Go.Proofs.YtpmmaickjolimaaGreatDoor.Ma

/- Tokens: which bytes are cut into which. -/
namespace Go.Proofs.YtpmmaickjolimaaGreatDoor.Ma

theorem cmt_loc : ∀ (k : Nat) (s : List UInt8) (d n : Nat), s.length ≤ k → cmtL s d = some n → ∃ c t, s = c ++ t ∧ c.length = n ∧ 0 < n ∧ ∀ t', cmtL (c ++ t') d = some n := by
  intro k
  induction k with
  | zero => intro s d n hs h; cases s with
    | nil => simp [cmtL] at h
    | cons => simp at hs
  | succ k ih =>
    intro s d n hs h
    cases s with
    | nil => simp [cmtL] at h
    | cons b t =>
      have step : ∀ (d' : Nat), (cmtL t d').map (· + 1) = some n → (∀ t', cmtL (b :: t') d = (cmtL t' d').map (· + 1)) → ∃ c t', b :: t = c ++ t' ∧ c.length = n ∧ 0 < n ∧ ∀ t', cmtL (c ++ t') d = some n := by
        intro d' h he
        obtain ⟨m, h1, rfl⟩ := Option.map_eq_some_iff.1 h
        obtain ⟨c, u, rfl, rfl, hm, hc⟩ := ih t d' m (by simp at hs; omega) h1
        refine ⟨b :: c, u, rfl, rfl, by omega, fun t' => ?_⟩
        rw [List.cons_append, he, hc]; rfl
      rw [cmtL.eq_def] at h
      simp only at h
      by_cases h1 : b = 40
      · rw [if_pos h1] at h
        exact step _ h fun t' => by rw [cmtL.eq_def]; simp only; rw [if_pos h1]
      · rw [if_neg h1] at h
        by_cases h2 : b = 92
        · rw [if_pos h2] at h
          cases t with
          | nil => simp at h
          | cons b2 t =>
            obtain ⟨m, h3, rfl⟩ := Option.map_eq_some_iff.1 h
            obtain ⟨c, u, rfl, rfl, hm, hc⟩ := ih t d m (by simp at hs; omega) h3
            refine ⟨b :: b2 :: c, u, rfl, rfl, by omega, fun t' => ?_⟩
            rw [List.cons_append, List.cons_append, cmtL.eq_def]
            simp only
            rw [if_neg h1, if_pos h2, hc]; rfl
        · rw [if_neg h2] at h
          by_cases h3 : b = 41
          · rw [if_pos h3] at h
            by_cases h4 : d = 1
            · rw [if_pos h4] at h
              obtain rfl := Option.some.inj h
              refine ⟨[b], t, rfl, rfl, by omega, fun t' => ?_⟩
              rw [List.cons_append, cmtL.eq_def]
              simp only
              rw [if_neg h1, if_neg h2, if_pos h3, if_pos h4]
            · rw [if_neg h4] at h
              exact step _ h fun t' => by rw [cmtL.eq_def]; simp only; rw [if_neg h1, if_neg h2, if_pos h3, if_neg h4]
          · rw [if_neg h3] at h
            exact step _ h fun t' => by rw [cmtL.eq_def]; simp only; rw [if_neg h1, if_neg h2, if_neg h3]
theorem quo_loc : ∀ (k : Nat) (s : List UInt8) (x : List UInt8) (n : Nat), s.length ≤ k → quoL s = some (x, n) → ∃ c t, s = c ++ t ∧ c.length = n ∧ 0 < n ∧ ∀ t', quoL (c ++ t') = some (x, n) := by
  intro k
  induction k with
  | zero => intro s x n hs h; cases s with
    | nil => simp [quoL] at h
    | cons => simp at hs
  | succ k ih =>
    intro s x n hs h
    cases s with
    | nil => simp [quoL] at h
    | cons b t =>
      have step : ∀ (f : List UInt8 → List UInt8), (quoL t).map (fun y => (f y.1, y.2 + 1)) = some (x, n) → (∀ t', quoL (b :: t') = (quoL t').map fun y => (f y.1, y.2 + 1)) → ∃ c t', b :: t = c ++ t' ∧ c.length = n ∧ 0 < n ∧ ∀ t', quoL (c ++ t') = some (x, n) := by
        intro f h he
        obtain ⟨⟨x', m⟩, h1, h2⟩ := Option.map_eq_some_iff.1 h
        obtain ⟨rfl, rfl⟩ := Prod.mk.inj h2
        obtain ⟨c, u, rfl, rfl, hm, hc⟩ := ih t x' m (by simp at hs; omega) h1
        refine ⟨b :: c, u, rfl, rfl, by omega, fun t' => ?_⟩
        rw [List.cons_append, he, hc]; rfl
      rw [quoL.eq_def] at h
      simp only at h
      by_cases h1 : b = 34
      · rw [if_pos h1] at h
        obtain ⟨rfl, rfl⟩ := Prod.mk.inj (Option.some.inj h)
        refine ⟨[b], t, rfl, rfl, by omega, fun t' => ?_⟩
        rw [List.cons_append, quoL.eq_def]
        simp only
        rw [if_pos h1]
      · rw [if_neg h1] at h
        by_cases h2 : b = 13 ∨ b = 10
        · rw [if_pos h2] at h
          exact step id h fun t' => by rw [quoL.eq_def]; simp only; rw [if_neg h1, if_pos h2]; rfl
        · rw [if_neg h2] at h
          by_cases h3 : b = 92
          · rw [if_pos h3] at h
            cases t with
            | nil => simp at h
            | cons b2 t =>
              simp only at h
              by_cases h4 : b2 = 13 ∨ b2 = 10
              · rw [if_pos h4] at h; simp at h
              · rw [if_neg h4] at h
                obtain ⟨⟨x', m⟩, h5, h6⟩ := Option.map_eq_some_iff.1 h
                obtain ⟨rfl, rfl⟩ := Prod.mk.inj h6
                obtain ⟨c, u, rfl, rfl, hm, hc⟩ := ih t x' m (by simp at hs; omega) h5
                refine ⟨b :: b2 :: c, u, rfl, rfl, by omega, fun t' => ?_⟩
                rw [List.cons_append, List.cons_append, quoL.eq_def]
                simp only
                rw [if_neg h1, if_neg h2, if_pos h3, if_neg h4, hc]; rfl
          · rw [if_neg h3] at h
            by_cases h4 : b.toNat < 32 ∧ b ≠ 9 ∨ b = 127
            · rw [if_pos h4] at h; simp at h
            · rw [if_neg h4] at h
              exact step (fun y => tab b :: y) h fun t' => by rw [quoL.eq_def]; simp only; rw [if_neg h1, if_neg h2, if_neg h3, if_neg h4]
theorem brk_loc : ∀ (s : List UInt8) (n : Nat), brkL s = some n → ∃ c t, s = c ++ t ∧ c.length = n ∧ 0 < n ∧ ∀ t', brkL (c ++ t') = some n
  | [], n, h => by simp [brkL] at h
  | b :: t, n, h => by
    rw [brkL] at h
    by_cases h1 : b = 93
    · rw [if_pos h1] at h
      obtain rfl := Option.some.inj h
      exact ⟨[b], t, rfl, rfl, by omega, fun t' => by rw [List.cons_append, brkL, if_pos h1]⟩
    · rw [if_neg h1] at h
      by_cases h2 : b.toNat ≤ 32 ∨ 126 < b.toNat ∨ b = 91 ∨ b = 92
      · rw [if_pos h2] at h; simp at h
      · rw [if_neg h2] at h
        obtain ⟨m, h3, rfl⟩ := Option.map_eq_some_iff.1 h
        obtain ⟨c, u, rfl, rfl, hm, hc⟩ := brk_loc t m h3
        exact ⟨b :: c, u, rfl, rfl, by omega, fun t' => by rw [List.cons_append, brkL, if_neg h1, if_neg h2, hc]; rfl⟩
/-- No byte of an atom stands at the front. -/
def Nxt (s : List UInt8) : Prop := ∀ b t, s = b :: t → atB b = false
theorem atN_split : ∀ (s : List UInt8), ∃ c t, s = c ++ t ∧ c.length = atN s ∧ (∀ b ∈ c, atB b = true) ∧ Nxt t
  | [] => ⟨[], [], rfl, rfl, by simp, fun _ _ h => by simp at h⟩
  | b :: s => by
    obtain ⟨c, t, rfl, h1, h2, h3⟩ := atN_split s
    by_cases h : atB b = true
    · refine ⟨b :: c, t, rfl, by rw [atN, if_pos h, List.length_cons, h1], fun x hx => ?_, h3⟩
      rcases List.mem_cons.1 hx with rfl | hx
      · exact h
      · exact h2 x hx
    · refine ⟨[], b :: (c ++ t), rfl, by rw [atN, if_neg h]; rfl, by simp, fun x u e => ?_⟩
      obtain ⟨rfl, -⟩ := List.cons.inj e
      simpa using h
theorem atN_app : ∀ (c t : List UInt8), (∀ b ∈ c, atB b = true) → Nxt t → atN (c ++ t) = c.length
  | [], t, _, h => by
    cases t with
    | nil => rfl
    | cons b t => rw [List.nil_append, atN, if_neg (by rw [h b t rfl]; simp)]; rfl
  | b :: c, t, hc, h => by
    rw [List.cons_append, atN, if_pos (hc b (List.mem_cons_self ..)), atN_app c t (fun x hx => hc x (List.mem_cons_of_mem _ hx)) h, List.length_cons]

/-- Bytes that are no token. -/
inductive Gap : List UInt8 → Prop
  | nil : Gap []
  | bl (b : UInt8) (g : List UInt8) : blB b = true → Gap g → Gap (b :: g)
  | cm (c g : List UInt8) : cmtL (40 :: c) 0 = some (c.length + 1) → Gap g → Gap (40 :: c ++ g)
/-- The bytes of a token. -/
inductive Raw : It → Prop
  | sg (g : List UInt8) (c : UInt8) : sgB c = true → Raw ⟨g, [c], c, []⟩
  | qu (g c x : List UInt8) : quoL c = some (x, c.length) → Raw ⟨g, 34 :: c, 113, x⟩
  | li (g c : List UInt8) : brkL c = some c.length → Raw ⟨g, 91 :: c, 108, 91 :: c⟩
  | at_ (g : List UInt8) (b : UInt8) (c : List UInt8) : (∀ x ∈ b :: c, atB x = true) → Raw ⟨g, b :: c, 97, b :: c⟩
structure Tok (i : It) : Prop where
  g : Gap i.gap
  r : Raw i
/-- Two tokens may stand so. -/
def Nb (i j : It) : Prop := i.kind = 97 → j.gap = [] → j.kind ≠ 97
def Chn {α : Type} (R : α → α → Prop) : List α → Prop
  | [] => True
  | [_] => True
  | a :: b :: l => R a b ∧ Chn R (b :: l)
def IsEnd (e : It) : Prop := Gap e.gap ∧ e.raw = [] ∧ e.kind = 101 ∧ e.text = []
def Lx (o : Nat) (s : List UInt8) (T : List Tk) : Prop := ∀ f, s.length < f → cutL f o s = some T
theorem Lx.nil (o : Nat) : Lx o [] [⟨101, [], o, o⟩] := by
  intro f hf
  obtain ⟨f, rfl⟩ : ∃ m, f = m + 1 := ⟨f - 1, by have : 0 < f := hf; omega⟩
  rfl
theorem Lx.skip {o n : Nat} {s : List UInt8} {T : List Tk} (h1 : one s = some (n, none)) (h0 : 0 < n) (h : Lx (o + n) (s.drop n) T) : Lx o s T := by
  intro f hf
  cases s with
  | nil => simp [one] at h1
  | cons c t =>
    obtain ⟨f, rfl⟩ : ∃ m, f = m + 1 := ⟨f - 1, by omega⟩
    rw [cutL]
    simp only [h1]
    exact h f (by rw [List.length_drop]; simp at hf ⊢; omega)
theorem Lx.tok {o n : Nat} {s : List UInt8} {k : UInt8} {x : List UInt8} {T : List Tk} (h1 : one s = some (n, some (k, x))) (h0 : 0 < n) (h : Lx (o + n) (s.drop n) T) : Lx o s (⟨k, x, o, o + n⟩ :: T) := by
  intro f hf
  cases s with
  | nil => simp [one] at h1
  | cons c t =>
    obtain ⟨f, rfl⟩ : ∃ m, f = m + 1 := ⟨f - 1, by omega⟩
    rw [cutL]
    simp only [h1]
    rw [h f (by rw [List.length_drop]; simp at hf ⊢; omega)]
    rfl
theorem bl_ne {b : UInt8} (h : blB b = true) : atB b = false := by
  unfold blB at h
  simp at h
  rcases h with h | h | h | h <;> subst h <;> decide
theorem sg_ne {b : UInt8} (h : sgB b = true) : atB b = false ∧ blB b = false ∧ b ≠ 40 ∧ b ≠ 34 ∧ b ≠ 91 ∧ b ≠ 97 ∧ b ≠ 101 := by
  unfold sgB at h
  simp at h
  rcases h with h | h | h | h | h | h | h <;> subst h <;> decide
theorem at_ne {b : UInt8} (h : atB b = true) : blB b = false ∧ b ≠ 40 ∧ b ≠ 34 ∧ b ≠ 91 ∧ sgB b = false := by
  refine ⟨good_of fun e => ?_, ?_, ?_, ?_, good_of fun e => ?_⟩
  · rw [bl_ne e] at h; exact absurd h (by simp)
  · rintro rfl; exact absurd h (by decide)
  · rintro rfl; exact absurd h (by decide)
  · rintro rfl; exact absurd h (by decide)
  · rw [(sg_ne e).1] at h; exact absurd h (by simp)
theorem cmt_all {c : List UInt8} {d : Nat} (h : cmtL c d = some c.length) (t : List UInt8) : cmtL (c ++ t) d = some c.length := by
  obtain ⟨c', u, e, h1, _, h2⟩ := cmt_loc _ c d _ (Nat.le_refl _) h
  have : u = [] := by
    have := congrArg List.length e
    rw [List.length_append] at this
    exact List.eq_nil_of_length_eq_zero (by omega)
  subst this
  rw [List.append_nil] at e
  subst e
  exact h2 t
theorem quo_all {c x : List UInt8} (h : quoL c = some (x, c.length)) (t : List UInt8) : quoL (c ++ t) = some (x, c.length) := by
  obtain ⟨c', u, e, h1, _, h2⟩ := quo_loc _ c x _ (Nat.le_refl _) h
  have : u = [] := by
    have := congrArg List.length e
    rw [List.length_append] at this
    exact List.eq_nil_of_length_eq_zero (by omega)
  subst this
  rw [List.append_nil] at e
  subst e
  exact h2 t
theorem brk_all {c : List UInt8} (h : brkL c = some c.length) (t : List UInt8) : brkL (c ++ t) = some c.length := by
  obtain ⟨c', u, e, h1, _, h2⟩ := brk_loc c _ h
  have : u = [] := by
    have := congrArg List.length e
    rw [List.length_append] at this
    exact List.eq_nil_of_length_eq_zero (by omega)
  subst this
  rw [List.append_nil] at e
  subst e
  exact h2 t
theorem Lx.gap {g : List UInt8} (hg : Gap g) : ∀ {o : Nat} {s : List UInt8} {T : List Tk}, Lx (o + g.length) s T → Lx o (g ++ s) T := by
  induction hg with
  | nil => intro o s T h; exact h
  | bl b g hb _ ih =>
    intro o s T h
    refine Lx.skip (n := 1) (by rw [List.cons_append, one, if_pos hb]) (by decide) ?_
    exact ih (by rw [List.length_cons] at h; rw [show o + 1 + g.length = o + (g.length + 1) by omega]; exact h)
  | cm c g hc _ ih =>
    intro o s T h
    have e : 40 :: c ++ g ++ s = 40 :: (c ++ (g ++ s)) := by simp
    rw [e]
    refine Lx.skip (n := c.length + 1) ?_ (by omega) ?_
    · have := cmt_all (c := 40 :: c) hc (g ++ s)
      rw [one, if_neg (by decide), if_pos rfl, show (40 :: (c ++ (g ++ s)) : List UInt8) = 40 :: c ++ (g ++ s) by simp, this]
      rfl
    · rw [show (40 :: (c ++ (g ++ s)) : List UInt8).drop (c.length + 1) = g ++ s by rw [List.drop_succ_cons, List.drop_left]]
      refine ih ?_
      rw [List.length_append, List.length_cons] at h
      rw [show o + (c.length + 1) + g.length = o + (c.length + 1 + g.length) by omega]
      exact h
theorem Lx.raw {i : It} (hi : Raw i) {o : Nat} {s : List UInt8} {T : List Tk} (hn : i.kind = 97 → Nxt s) (h : Lx (o + i.raw.length) s T) : Lx o (i.raw ++ s) (⟨i.kind, i.text, o, o + i.raw.length⟩ :: T) := by
  cases hi with
  | sg g c hc =>
    obtain ⟨h1, h2, h3, h4, h5, _⟩ := sg_ne hc
    exact Lx.tok (n := 1) (by show one (c :: s) = _; rw [one, if_neg (by simp [h2]), if_neg h3, if_neg h4, if_neg h5, if_pos hc]) (by decide) h
  | qu g c x hc =>
    refine Lx.tok (n := c.length + 1) ?_ (by omega) ?_
    · show one (34 :: (c ++ s)) = _
      rw [one, if_neg (by decide), if_neg (by decide), if_pos rfl, quo_all hc]; rfl
    · show Lx _ ((34 :: (c ++ s)).drop (c.length + 1)) _
      rw [List.drop_succ_cons, List.drop_left]; exact h
  | li g c hc =>
    refine Lx.tok (n := c.length + 1) ?_ (by omega) ?_
    · show one (91 :: (c ++ s)) = _
      rw [one, if_neg (by decide), if_neg (by decide), if_neg (by decide), if_pos rfl, brk_all hc]
      show some (_, some (_, (91 :: (c ++ s)).take (c.length + 1))) = _
      rw [List.take_succ_cons, List.take_left]
    · show Lx _ ((91 :: (c ++ s)).drop (c.length + 1)) _
      rw [List.drop_succ_cons, List.drop_left]; exact h
  | at_ g b c hc =>
    obtain ⟨h1, h2, h3, h4, h5⟩ := at_ne (hc b (List.mem_cons_self ..))
    have e := atN_app c s (fun x hx => hc x (List.mem_cons_of_mem _ hx)) (hn rfl)
    refine Lx.tok (n := c.length + 1) ?_ (by omega) ?_
    · show one (b :: (c ++ s)) = _
      rw [one, if_neg (by simp [h1]), if_neg h2, if_neg h3, if_neg h4, if_neg (by simp [h5]), if_pos (hc b (List.mem_cons_self ..)), e, List.take_succ_cons, List.take_left]
    · show Lx _ ((b :: (c ++ s)).drop (c.length + 1)) _
      rw [List.drop_succ_cons, List.drop_left]; exact h
theorem gap_nxt {g : List UInt8} (hg : Gap g) (hne : g ≠ []) (s : List UInt8) : Nxt (g ++ s) := by
  cases hg with
  | nil => exact absurd rfl hne
  | bl b g hb _ => rintro x t e; obtain ⟨rfl, -⟩ := List.cons.inj e; exact bl_ne hb
  | cm c g hc _ => rintro x t e; obtain ⟨rfl, -⟩ := List.cons.inj e; decide
theorem raw_nxt {i : It} (hi : Raw i) (hk : i.kind ≠ 97) (s : List UInt8) : Nxt (i.raw ++ s) := by
  cases hi with
  | sg g c hc => rintro x t e; obtain ⟨rfl, -⟩ := List.cons.inj e; exact (sg_ne hc).1
  | qu g c x hc => rintro x t e; obtain ⟨rfl, -⟩ := List.cons.inj e; decide
  | li g c hc => rintro x t e; obtain ⟨rfl, -⟩ := List.cons.inj e; decide
  | at_ g b c hc => exact absurd rfl hk
theorem lex_full (e : It) (he : IsEnd e) : ∀ (l : List It) (o : Nat), (∀ i ∈ l, Tok i) → Chn Nb (l ++ [e]) → Lx o (flat (l ++ [e])) (posn o (l ++ [e]))
  | [], o, _, _ => by
    obtain ⟨h1, h2, h3, h4⟩ := he
    have e1 : flat ([] ++ [e]) = e.gap ++ [] := by simp [flat, It.b, h2]
    have e2 : posn o ([] ++ [e]) = [⟨101, [], o + e.gap.length, o + e.gap.length⟩] := by simp [posn, h3, h4, It.b, h2]
    rw [e1, e2]
    exact Lx.gap h1 (Lx.nil _)
  | i :: l, o, hl, hc => by
    have hi := hl i (List.mem_cons_self ..)
    have hc2 : Chn Nb (l ++ [e]) := by
      cases l with
      | nil => trivial
      | cons j l => exact hc.2
    have ih := lex_full e he l (o + i.b.length) (fun j hj => hl j (List.mem_cons_of_mem _ hj)) hc2
    rw [List.cons_append, flat_cons, posn]
    show Lx o (i.gap ++ i.raw ++ flat (l ++ [e])) _
    rw [List.append_assoc]
    have el : i.b.length = i.gap.length + i.raw.length := by unfold It.b; rw [List.length_append]
    rw [el, ← Nat.add_assoc] at ih ⊢
    refine Lx.gap hi.g (Lx.raw hi.r (fun hk => ?_) ih)
    cases l with
    | nil =>
      by_cases hg : e.gap = []
      · have : flat ([] ++ [e]) = [] := by simp [flat, It.b, he.2.1, hg]
        rw [this]; intro b t h; simp at h
      · have : flat ([] ++ [e]) = e.gap ++ [] := by simp [flat, It.b, he.2.1]
        rw [this]; exact gap_nxt he.1 hg _
    | cons j l =>
      have hj := hl j (List.mem_cons_of_mem _ (List.mem_cons_self ..))
      rw [List.cons_append, flat_cons]
      show Nxt (j.gap ++ j.raw ++ _)
      rw [List.append_assoc]
      by_cases hg : j.gap = []
      · rw [hg, List.nil_append]; exact raw_nxt hj.r (hc.1 hk hg) _
      · exact gap_nxt hj.g hg _
end Go.Proofs.YtpmmaickjolimaaGreatDoor.Ma
