/- Putting paths in a body, a list of paths: what is read then. -/
import Derived.Test.YtpmmaickjolimaaGreatDoorK18
namespace Go.Proofs.YtpmmaickjolimaaGreatDoor.Ma

theorem mails_ok : ∀ (L : List Sp) (l : List Ml), mailsQ L = (l, 0) → l = L.map (fun x => ⟨(addrOf x.loc x.dom).1, x.from_, x.til, x.name⟩) ∧ ∀ x ∈ L, (addrOf x.loc x.dom).2 = 0
  | [], l, h => by
    rw [mailsQ] at h
    obtain ⟨rfl, -⟩ := Prod.mk.inj h
    exact ⟨rfl, fun x hx => by cases hx⟩
  | x :: L, l, h => by
    rw [mailsQ] at h
    by_cases h1 : (addrOf x.loc x.dom).2 = 0
    · rw [if_pos h1] at h
      by_cases h2 : (mailsQ L).2 = 0
      · rw [if_pos h2] at h
        obtain ⟨rfl, -⟩ := Prod.mk.inj h
        obtain ⟨e, f⟩ := mails_ok L (mailsQ L).1 (by rw [← h2])
        refine ⟨by rw [List.map_cons, ← e], fun y hy => ?_⟩
        rcases List.mem_cons.1 hy with rfl | hy
        · exact h1
        · exact f y hy
      · rw [if_neg h2] at h
        exact absurd (Prod.mk.inj h).2 h2
    · rw [if_neg h1] at h
      have := (Prod.mk.inj h).2
      split at this <;> simp at this
theorem mails_bad : ∀ (L : List Sp), (mailsQ L).2 ≠ 0 → (mailsQ L).1 = []
  | [], h => rfl
  | x :: L, h => by
    rw [mailsQ] at h ⊢
    by_cases h1 : (addrOf x.loc x.dom).2 = 0
    · rw [if_pos h1] at h ⊢
      by_cases h2 : (mailsQ L).2 = 0
      · rw [if_pos h2] at h; simp at h
      · rw [if_neg h2]
    · rw [if_neg h1]
theorem mails_put : ∀ (L : List Sp) (ps : List Pt) (ns : List (List UInt8)), (∀ p ∈ ps, Good p) → ps.length = ns.length →
    L.map (fun x => (x.loc, x.dom, x.name)) = List.zipWith (fun (n : List UInt8) (p : Pt) => (p.loc, domP p, n)) ns ps →
    ∃ k, mailsQ L = (k, 0) ∧ k.map Ml.path = ps ∧ k.map Ml.name = ns
  | [], ps, ns, hg, hl, h => by
    cases ps with
    | nil =>
      cases ns with
      | nil => exact ⟨[], rfl, rfl, rfl⟩
      | cons n ns => simp at hl
    | cons p ps =>
      cases ns with
      | nil => simp at hl
      | cons n ns => simp at h
  | x :: L, ps, ns, hg, hl, h => by
    cases ps with
    | nil =>
      cases ns with
      | nil => simp at h
      | cons n ns => simp at hl
    | cons p ps =>
      cases ns with
      | nil => simp at hl
      | cons n ns =>
        rw [List.map_cons, List.zipWith_cons_cons] at h
        obtain ⟨h1, h2⟩ := List.cons.inj h
        obtain ⟨k, e1, e2, e3⟩ := mails_put L ps ns (fun q hq => hg q (List.mem_cons_of_mem _ hq)) (by simpa using hl) h2
        simp only [Prod.mk.injEq] at h1
        obtain ⟨hlc, hd, hn⟩ := h1
        have ha := addr_good (hg p (List.mem_cons_self ..))
        refine ⟨⟨p, x.from_, x.til, n⟩ :: k, ?_, by rw [List.map_cons, e2], by rw [List.map_cons, e3]⟩
        rw [mailsQ, hlc, hd, ha, e1, hn]
        simp
theorem parse_ok {body : List UInt8} {l : List Ml} (h : parseQ body = (l, 0)) : body.length ≤ 65536 ∧ ∃ L, readQ body = some L ∧ mailsQ L = (l, 0) ∧ l.length ≤ 200 := by
  unfold parseQ at h
  by_cases h1 : 65536 < body.length
  · rw [if_pos h1] at h; simp at h
  · rw [if_neg h1] at h
    cases hr : readQ body with
    | none => rw [hr] at h; simp at h
    | some L =>
      rw [hr] at h
      simp only at h
      by_cases h2 : (mailsQ L).2 = 0 ∧ 200 < (mailsQ L).1.length
      · rw [if_pos h2] at h; simp at h
      · rw [if_neg h2] at h
        refine ⟨by omega, L, rfl, h, ?_⟩
        rw [h] at h2
        simp only [true_and] at h2
        omega
theorem parse_of {body : List UInt8} {L : List Sp} {l : List Ml} (h1 : body.length ≤ 65536) (h2 : readQ body = some L) (h3 : mailsQ L = (l, 0)) (h4 : l.length ≤ 200) : parseQ body = (l, 0) := by
  unfold parseQ
  rw [if_neg (by omega), h2]
  simp only
  rw [h3, if_neg (by simp only; omega)]
theorem parse_bad (body : List UInt8) (h : (parseQ body).2 ≠ 0) : (parseQ body).1 = [] := by
  unfold parseQ at h ⊢
  by_cases h1 : 65536 < body.length
  · rw [if_pos h1]
  · rw [if_neg h1] at h ⊢
    cases hr : readQ body with
    | none => rfl
    | some L =>
      rw [hr] at h
      simp only at h ⊢
      by_cases h2 : (mailsQ L).2 = 0 ∧ 200 < (mailsQ L).1.length
      · rw [if_pos h2]
      · rw [if_neg h2] at h ⊢
        exact mails_bad L h
theorem parse_good {body : List UInt8} {l : List Ml} (h : parseQ body = (l, 0)) : ∀ m ∈ l, Good m.path := by
  obtain ⟨-, L, -, hm, -⟩ := parse_ok h
  obtain ⟨rfl, hg⟩ := mails_ok L l hm
  intro m hm
  obtain ⟨x, hx, rfl⟩ := List.mem_map.1 hm
  exact good_addr (hg x hx)
theorem tok_raw {m : List Sg} (h : ∃ m' e, m = m' ++ [.keep e] ∧ IsEnd e ∧ ∀ i ∈ its m', Tok i) : ∀ x ∈ m, ∀ s n, x = .sp s n → ∀ i ∈ s.sec, i.raw ≠ [] := by
  obtain ⟨m', e, rfl, -, ht⟩ := h
  rintro x hx s n rfl i hi
  rcases List.mem_append.1 hx with hx | hx
  · exact raw_ne (ht i (List.mem_flatMap.2 ⟨_, hx, hi⟩)).r
  · cases List.mem_singleton.1 hx
theorem tok_gap {m : List Sg} (h : ∃ m' e, m = m' ++ [.keep e] ∧ IsEnd e ∧ ∀ i ∈ its m', Tok i) : ∀ i ∈ its m, Gap i.gap := by
  obtain ⟨m', e, rfl, he, ht⟩ := h
  intro i hi
  rw [its_last] at hi
  rcases List.mem_append.1 hi with hi | hi
  · exact (ht i hi).g
  · rw [List.mem_singleton.1 hi]; exact he.1
/-- Where mailboxes stand. -/
def OrdM (n : Nat) : Nat → List Ml → Prop
  | a, [] => a ≤ n
  | a, x :: l => a ≤ x.from_ ∧ x.from_ < x.til ∧ OrdM n x.til l
theorem parse_ord {body : List UInt8} {l : List Ml} (h : parseQ body = (l, 0)) : OrdM body.length 0 l := by
  obtain ⟨-, L, hr, hm, -⟩ := parse_ok h
  obtain ⟨m, hR, rfl⟩ := read_sound body L hr
  obtain ⟨rfl, -⟩ := mails_ok _ l hm
  have ho := sps_ord m 0 body.length (body_ok hR.gr) (tok_raw hR.tk) (by rw [Nat.zero_add, ← hR.tx]; exact Nat.le_refl _)
  have key : ∀ (L : List Sp) (a : Nat), Ord body.length a L → OrdM body.length a (L.map fun x => ⟨(addrOf x.loc x.dom).1, x.from_, x.til, x.name⟩) := by
    intro L
    induction L with
    | nil => intro a h; exact h
    | cons x L ih => intro a h; exact ⟨h.1, h.2.1, ih _ h.2.2⟩
  exact key _ _ ho
theorem replF_eq (body : List UInt8) : ∀ (L : List Sp) (ps : List Pt) (at_ : Nat) (b : List UInt8), (∀ p ∈ ps, Good p) → L.length = ps.length →
    replF body at_ b (L.map fun x => ⟨(addrOf x.loc x.dom).1, x.from_, x.til, x.name⟩) ps = if 65536 < (b ++ replL shownP body at_ L ps).length then ([], 101) else (b ++ replL shownP body at_ L ps, 0)
  | [], ps, at_, b, _, hl => by
    cases ps with
    | nil => rfl
    | cons p ps => simp at hl
  | x :: L, ps, at_, b, hg, hl => by
    cases ps with
    | nil => simp at hl
    | cons p ps =>
      have := showQ_good (hg p (List.mem_cons_self ..))
      rw [List.map_cons, replF, this, if_pos rfl, replF_eq body L ps _ _ (fun q hq => hg q (List.mem_cons_of_mem _ hq)) (by simpa using hl), replL]
      simp only [List.append_assoc]
theorem replF_good (body : List UInt8) : ∀ (ms : List Ml) (ps : List Pt) (at_ : Nat) (b : List UInt8), ms.length = ps.length → (replF body at_ b ms ps).2 = 0 → ∀ p ∈ ps, Good p
  | [], ps, at_, b, hl, _ => by
    cases ps with
    | nil => intro p hp; cases hp
    | cons p ps => simp at hl
  | x :: ms, ps, at_, b, hl, h => by
    cases ps with
    | nil => simp at hl
    | cons p ps =>
      rw [replF] at h
      by_cases h1 : (showQ p).2 = 0
      · rw [if_pos h1] at h
        intro q hq
        rcases List.mem_cons.1 hq with rfl | hq
        · exact good_of_show h1
        · exact replF_good body ms ps _ _ (by simpa using hl) h q hq
      · rw [if_neg h1] at h
        exact absurd h h1
/-- Paths put into a body: they are read, with the names that stood there. -/
theorem replace_reads {body : List UInt8} {l : List Ml} (hp : parseQ body = (l, 0)) {ps : List Pt} (hg : ∀ p ∈ ps, Good p) (hl : l.length = ps.length) :
    replaceQ body ps = ([], 101) ∨ ∃ t, replaceQ body ps = (t, 0) ∧ ∃ k, parseQ t = (k, 0) ∧ k.map Ml.path = ps ∧ k.map Ml.name = l.map Ml.name := by
  obtain ⟨hb, L, hr, hm, h200⟩ := parse_ok hp
  obtain ⟨m, hR, rfl⟩ := read_sound body L hr
  obtain ⟨rfl, -⟩ := mails_ok _ l hm
  have hll : (spsOf 0 m).length = ps.length := by rw [← hl, List.length_map]
  have e1 : replaceQ body ps = replF body 0 [] ((spsOf 0 m).map fun x => ⟨(addrOf x.loc x.dom).1, x.from_, x.til, x.name⟩) ps := by
    unfold replaceQ
    rw [hp]
    simp only
    rw [if_neg (by simp), if_neg (by rw [List.length_map]; omega)]
  rw [e1, replF_eq body _ ps 0 [] hg hll, List.nil_append]
  by_cases h6 : 65536 < (replL shownP body 0 (spsOf 0 m) ps).length
  · rw [if_pos h6]; exact .inl rfl
  · rw [if_neg h6]
    refine .inr ⟨_, rfl, ?_⟩
    -- good paths as such
    have key : ∀ (qs : List {p : Pt // Good p}), (spsOf 0 m).length = qs.length → replL shownP body 0 (spsOf 0 m) (qs.map (·.1)) = flat (its (rpl (fun g (a : {p : Pt // Good p}) => putP g a.1) m qs)) ∧
        Rd (flat (its (rpl (fun g (a : {p : Pt // Good p}) => putP g a.1) m qs))) (rpl (fun g (a : {p : Pt // Good p}) => putP g a.1) m qs) ∧
        (spsOf 0 (rpl (fun g (a : {p : Pt // Good p}) => putP g a.1) m qs)).map (fun x => (x.loc, x.dom, x.name)) = List.zipWith (fun x (a : {p : Pt // Good p}) => (a.1.loc, domP a.1, x.name)) (spsOf 0 m) qs := by
      intro qs hq
      refine ⟨?_, ?_, ?_⟩
      · have := rpl_text (fun g (a : {p : Pt // Good p}) => putP g a.1) (fun a => shownP a.1) (fun g a => putP_flat g a.2) m qs [] [] body 0 0 (body_ok hR.gr) rfl rfl (by rw [List.nil_append]; exact hR.tx) hq
        rw [List.nil_append] at this
        rw [← this]
        clear this
        have hrep : ∀ (L : List Sp) (at_ : Nat) (qs : List {p : Pt // Good p}), L.length = qs.length → replL shownP body at_ L (qs.map (·.1)) = replL (fun a : {p : Pt // Good p} => shownP a.1) body at_ L qs := by
          intro L
          induction L with
          | nil => intro at_ qs h; cases qs with
            | nil => rfl
            | cons => simp at h
          | cons x L ih => intro at_ qs h; cases qs with
            | nil => simp at h
            | cons q qs => rw [List.map_cons, replL, replL, ih _ qs (by simpa using h)]
        exact hrep _ _ _ hq
      · exact rp_read hR (rpl_rp (fun g (a : {p : Pt // Good p}) => putP g a.1) (A := fun _ => True) (fun g a hgp _ => putP_put hgp a.2) m qs 0 (body_ok hR.gr) (tok_gap hR.tk) (fun _ _ => trivial) hq)
      · exact rpl_sps (fun g (a : {p : Pt // Good p}) => putP g a.1) (lo := fun a => a.1.loc) (dm := fun a => domP a.1) (fun g a => ⟨rfl, rfl⟩) m qs 0 0 hq
    have hqs : ∃ qs : List {p : Pt // Good p}, qs.map (·.1) = ps := by
      clear e1 h6 key hl hll
      induction ps with
      | nil => exact ⟨[], rfl⟩
      | cons p ps ih =>
        obtain ⟨qs, e⟩ := ih fun q hq => hg q (List.mem_cons_of_mem _ hq)
        exact ⟨⟨p, hg p (List.mem_cons_self ..)⟩ :: qs, by rw [List.map_cons, e]⟩
    obtain ⟨qs, rfl⟩ := hqs
    rw [List.length_map] at hll
    obtain ⟨k1, k2, k3⟩ := key qs hll
    have hz : List.zipWith (fun x (a : {p : Pt // Good p}) => (a.1.loc, domP a.1, x.name)) (spsOf 0 m) qs = List.zipWith (fun (n : List UInt8) (p : Pt) => (p.loc, domP p, n)) ((spsOf 0 m).map (·.name)) (qs.map (·.1)) := by
      rw [List.zipWith_map]
    obtain ⟨k, e4, e5, e6⟩ := mails_put _ (qs.map (·.1)) ((spsOf 0 m).map (·.name)) hg (by rw [List.length_map, List.length_map]; exact hll.symm) (k3.trans hz)
    refine ⟨k, ?_, e5, by rw [e6, List.map_map]; rfl⟩
    refine parse_of (by omega) (by rw [k1]; exact read_full _ _ k2) e4 ?_
    have : k.length = (qs.map (·.1)).length := by rw [← e5, List.length_map]
    rw [this, ← hl]
    exact h200

/-! ### A list of paths -/
def listF : List (List UInt8) → List Pt → List UInt8 × Int
  | out, p :: ps => if (showQ p).2 = 0 then listF (out ++ [(showQ p).1]) ps else ([], (showQ p).2)
  | out, [] => (Lib.join out [44, 32], 0)
def listQ (l : List Pt) : List UInt8 × Int := if 200 < l.length then ([], 102) else listF [] l
theorem listF_eq : ∀ (ps : List Pt) (out : List (List UInt8)), (∀ p ∈ ps, Good p) → listF out ps = (Lib.join (out ++ ps.map shownP) [44, 32], 0)
  | [], out, _ => by simp [listF]
  | p :: ps, out, h => by
    rw [listF, showQ_good (h p (List.mem_cons_self ..)), if_pos rfl, listF_eq ps _ fun q hq => h q (List.mem_cons_of_mem _ hq)]
    simp
theorem listF_good : ∀ (ps : List Pt) (out : List (List UInt8)), (listF out ps).2 = 0 → ∀ p ∈ ps, Good p
  | [], _, _ => by intro p hp; cases hp
  | p :: ps, out, h => by
    rw [listF] at h
    by_cases h1 : (showQ p).2 = 0
    · rw [if_pos h1] at h
      intro q hq
      rcases List.mem_cons.1 hq with rfl | hq
      · exact good_of_show h1
      · exact listF_good ps _ h q hq
    · rw [if_neg h1] at h
      exact absurd h h1
def endI : It := ⟨[], [], 101, []⟩
def segs : List UInt8 → List Pt → List Sg
  | g, p :: q :: ps => .sp (putP g p) [] :: .keep ⟨[], [44], 44, []⟩ :: segs [32] (q :: ps)
  | g, [p] => [.sp (putP g p) [], .keep endI]
  | _, [] => [.keep endI]
theorem segs_body : ∀ (ps : List Pt) (g : List UInt8), (∀ p ∈ ps, Good p) → Gap g → IsBody (segs g ps)
  | [], g, _, _ => .end_ endI rfl
  | [p], g, h, hg => .last [.sp (putP g p) []] endI (.mb _ (.bare _ (putP_put hg (h p (List.mem_cons_self ..))).sp)) rfl
  | p :: q :: ps, g, h, hg => .more [.sp (putP g p) []] ⟨[], [44], 44, []⟩ _ (.mb _ (.bare _ (putP_put hg (h p (List.mem_cons_self ..))).sp)) rfl (segs_body (q :: ps) [32] (fun x hx => h x (List.mem_cons_of_mem _ hx)) (.bl 32 [] (by decide) .nil))
theorem segs_flat : ∀ (ps : List Pt) (p : Pt) (g : List UInt8), (∀ x ∈ p :: ps, Good x) → flat (its (segs g (p :: ps))) = g ++ Lib.join ((p :: ps).map shownP) [44, 32]
  | [], p, g, h => by
    show flat ((putP g p).sec ++ [endI]) = _
    rw [flat_app, putP_flat g (h p (List.mem_cons_self ..)), List.map_cons, Lib.join_cons]
    simp [flat, It.b, endI, Lib.joinTail]
  | q :: ps, p, g, h => by
    have ih := segs_flat ps q [32] fun x hx => h x (List.mem_cons_of_mem _ hx)
    show flat ((putP g p).sec ++ (⟨[], [44], 44, []⟩ :: its (segs [32] (q :: ps)))) = _
    rw [flat_app, putP_flat g (h p (List.mem_cons_self ..)), flat_cons, ih, List.map_cons, List.map_cons, Lib.join_cons, Lib.join_cons]
    simp [It.b, Lib.joinTail]
theorem segs_tok : ∀ (ps : List Pt) (g : List UInt8), (∀ p ∈ ps, Good p) → Gap g → ∃ m' e, segs g ps = m' ++ [.keep e] ∧ IsEnd e ∧ (∀ i ∈ its m', Tok i)
  | [], g, _, _ => ⟨[], endI, rfl, ⟨.nil, rfl, rfl, rfl⟩, by intro i hi; cases hi⟩
  | [p], g, h, hg => ⟨[.sp (putP g p) []], endI, rfl, ⟨.nil, rfl, rfl, rfl⟩, by
    intro i hi
    rw [its_one] at hi
    exact (putP_put hg (h p (List.mem_cons_self ..))).tok i hi⟩
  | p :: q :: ps, g, h, hg => by
    obtain ⟨m', e, h1, h2, h3⟩ := segs_tok (q :: ps) [32] (fun x hx => h x (List.mem_cons_of_mem _ hx)) (.bl 32 [] (by decide) .nil)
    refine ⟨.sp (putP g p) [] :: .keep ⟨[], [44], 44, []⟩ :: m', e, by rw [segs, h1]; rfl, h2, ?_⟩
    intro i hi
    have hi' : i ∈ (putP g p).sec ++ (⟨[], [44], 44, []⟩ :: its m') := hi
    rcases List.mem_append.1 hi' with hi | hi
    · exact (putP_put hg (h p (List.mem_cons_self ..))).tok i hi
    · rcases List.mem_cons.1 hi with rfl | hi
      · exact sign_tok 44 (by decide)
      · exact h3 i hi
theorem segs_chn : ∀ (ps : List Pt) (g : List UInt8), (∀ p ∈ ps, Good p) → Gap g → Chn Nb (its (segs g ps))
  | [], g, _, _ => trivial
  | [p], g, h, hg => by
    show Chn Nb ((putP g p).sec ++ [endI])
    refine Chn.app (putP_put hg (h p (List.mem_cons_self ..))).chn trivial ?_
    intro x _ y t e
    obtain ⟨rfl, -⟩ := List.cons.inj e
    exact nb_right (by show (101 : UInt8) ≠ 97; decide)
  | p :: q :: ps, g, h, hg => by
    show Chn Nb ((putP g p).sec ++ (⟨[], [44], 44, []⟩ :: its (segs [32] (q :: ps))))
    refine Chn.app (putP_put hg (h p (List.mem_cons_self ..))).chn (Chn.cons (segs_chn (q :: ps) [32] (fun x hx => h x (List.mem_cons_of_mem _ hx)) (.bl 32 [] (by decide) .nil)) fun b t _ => nb_left (by show (44 : UInt8) ≠ 97; decide)) ?_
    intro x _ y t e
    obtain ⟨rfl, -⟩ := List.cons.inj e
    exact nb_right (by show (44 : UInt8) ≠ 97; decide)
theorem segs_sps : ∀ (ps : List Pt) (g : List UInt8) (o : Nat), (spsOf o (segs g ps)).map (fun x => (x.loc, x.dom, x.name)) = List.zipWith (fun (n : List UInt8) (p : Pt) => (p.loc, domP p, n)) (List.replicate ps.length []) ps
  | [], g, o => rfl
  | [p], g, o => rfl
  | p :: q :: ps, g, o => by
    rw [segs, spsOf, spsOf, List.map_cons, segs_sps (q :: ps)]
    rfl
/-- A list of paths is read as these. -/
theorem list_reads {ps : List Pt} {s : List UInt8} (h : listQ ps = (s, 0)) (hs : s.length ≤ 65536) : ∃ k, parseQ s = (k, 0) ∧ k.map Ml.path = ps ∧ k.map Ml.name = List.replicate ps.length [] := by
  unfold listQ at h
  by_cases h1 : 200 < ps.length
  · rw [if_pos h1] at h; simp at h
  · rw [if_neg h1] at h
    have hg := listF_good ps [] (by rw [h])
    rw [listF_eq ps [] hg, List.nil_append] at h
    obtain ⟨rfl, -⟩ := Prod.mk.inj h
    have hf : Lib.join (ps.map shownP) [44, 32] = flat (its (segs [] ps)) := by
      cases ps with
      | nil => rfl
      | cons p ps => rw [segs_flat ps p [] hg]; rfl
    obtain ⟨k, e1, e2, e3⟩ := mails_put (spsOf 0 (segs [] ps)) ps (List.replicate ps.length []) hg (by rw [List.length_replicate]) (segs_sps ps [] 0)
    refine ⟨k, parse_of hs ?_ e1 (by have : k.length = ps.length := by rw [← e2, List.length_map]
                                     omega), e2, e3⟩
    rw [hf]
    exact read_full _ _ ⟨segs_body ps [] hg .nil, rfl, segs_tok ps [] hg .nil, segs_chn ps [] hg .nil⟩
theorem replace_ok {body : List UInt8} {ps : List Pt} (h : (replaceQ body ps).2 = 0) : ∃ l, parseQ body = (l, 0) ∧ l.length = ps.length ∧ ∀ p ∈ ps, Good p := by
  unfold replaceQ at h
  by_cases h1 : (parseQ body).2 = 0
  · rw [if_neg (by simpa using h1)] at h
    by_cases h2 : (parseQ body).1.length = ps.length
    · rw [if_neg (by simpa using h2)] at h
      exact ⟨_, Prod.ext rfl h1, h2, replF_good body _ ps 0 [] h2 h⟩
    · rw [if_pos h2] at h; simp at h
  · rw [if_pos h1] at h
    exact absurd h h1
end Go.Proofs.YtpmmaickjolimaaGreatDoor.Ma

/- What cut leaves is what the parser stands on: the facts. -/
namespace Go.Proofs.YtpmmaickjolimaaGreatDoor.Ma
open Go.RowKit
open Ci (Bel own_bel row_shape addr_add own_base)

theorem quo_len : ∀ (k : Nat) (s x : List UInt8) (n : Nat), s.length ≤ k → quoL s = some (x, n) → x.length ≤ n
  | 0, s, x, n, hs, h => by
    cases s with
    | nil => simp [quoL] at h
    | cons => simp at hs
  | k + 1, s, x, n, hs, h => by
    cases s with
    | nil => simp [quoL] at h
    | cons b t =>
      rw [quoL.eq_def] at h
      simp only at h
      by_cases h1 : b = 34
      · rw [if_pos h1] at h
        obtain ⟨rfl, rfl⟩ := Prod.mk.inj (Option.some.inj h)
        exact Nat.zero_le _
      · rw [if_neg h1] at h
        by_cases h2 : b = 13 ∨ b = 10
        · rw [if_pos h2] at h
          obtain ⟨⟨x', m⟩, h3, h4⟩ := Option.map_eq_some_iff.1 h
          obtain ⟨rfl, rfl⟩ := Prod.mk.inj h4
          have := quo_len k t x' m (by simp at hs; omega) h3
          simp only at this ⊢; omega
        · rw [if_neg h2] at h
          by_cases h3 : b = 92
          · rw [if_pos h3] at h
            cases t with
            | nil => simp at h
            | cons b2 t =>
              simp only at h
              by_cases h4 : b2 = 13 ∨ b2 = 10
              · rw [if_pos h4] at h; simp at h
              · rw [if_neg h4] at h
                obtain ⟨⟨x', m⟩, h5, h6⟩ := Option.map_eq_some_iff.1 h
                obtain ⟨rfl, rfl⟩ := Prod.mk.inj h6
                have := quo_len k t x' m (by simp at hs; omega) h5
                simp only [List.length_cons] at this ⊢; omega
          · rw [if_neg h3] at h
            by_cases h4 : b.toNat < 32 ∧ b ≠ 9 ∨ b = 127
            · rw [if_pos h4] at h; simp at h
            · rw [if_neg h4] at h
              obtain ⟨⟨x', m⟩, h5, h6⟩ := Option.map_eq_some_iff.1 h
              obtain ⟨rfl, rfl⟩ := Prod.mk.inj h6
              have := quo_len k t x' m (by simp at hs; omega) h5
              simp only [List.length_cons] at this ⊢; omega
theorem raw_text {i : It} (h : Raw i) : i.text.length ≤ i.raw.length ∧ i.kind ≠ 0 := by
  cases h with
  | sg g c hc => exact ⟨Nat.zero_le _, fun e => by rw [show c = 0 from e] at hc; exact absurd hc (by decide)⟩
  | qu g c x hc => exact ⟨by have := quo_len _ c x _ (Nat.le_refl _) hc; simp only [List.length_cons]; omega, by show (113 : UInt8) ≠ 0; decide⟩
  | li g c hc => exact ⟨Nat.le_refl _, by show (108 : UInt8) ≠ 0; decide⟩
  | at_ g b c hc => exact ⟨Nat.le_refl _, by show (97 : UInt8) ≠ 0; decide⟩
theorem flat_mem_le : ∀ (l : List It) (i : It), i ∈ l → i.raw.length ≤ (flat l).length
  | [], _, h => by cases h
  | j :: l, i, h => by
    rw [flat_cons, List.length_append]
    rcases List.mem_cons.1 h with rfl | h
    · unfold It.b; rw [List.length_append]; omega
    · have := flat_mem_le l i h; omega
/-- What a body's tokens are like. -/
structure Lexed (s : List UInt8) (T : List Tk) : Prop where
  num : T.length ≤ s.length + 1
  en : ∃ T' e, T = T' ++ [e] ∧ e.kind = 101 ∧ ∀ t ∈ T', t.kind ≠ 101
  nn : ∀ t ∈ T, t.kind ≠ 0
  tx : ∀ t ∈ T, t.text.length ≤ s.length
  pos : ∀ (i j : Nat) (hi : i < T.length) (hj : j < T.length), T[j].til ≤ s.length ∧ (i ≤ j → T[i].from_ ≤ T[j].til)
theorem lexed {s : List UInt8} {T : List Tk} (h : cutQ s = some T) : Lexed s T := by
  obtain ⟨l, e, h1, rfl, h3, h4, h5⟩ := lex_sound _ _ _ _ h
  have hf : flat (l ++ [e]) = s := h1.symm
  have hin := posn_in (l ++ [e]) 0
  have hk : ∀ t ∈ posn 0 (l ++ [e]), t.kind ≠ 0 ∧ t.text.length ≤ s.length := by
    intro t ht
    obtain ⟨i, hi, e1, e2⟩ := posn_kind _ _ t ht
    rw [e1, e2]
    rcases List.mem_append.1 hi with hi | hi
    · have := raw_text (h3 i hi).r
      have h6 := flat_mem_le (l ++ [e]) i (List.mem_append_left _ hi)
      rw [hf] at h6
      exact ⟨this.2, Nat.le_trans this.1 h6⟩
    · rw [List.mem_singleton.1 hi, h4.2.2.1, h4.2.2.2]
      exact ⟨by decide, Nat.zero_le _⟩
  refine ⟨?_, ?_, fun t ht => (hk t ht).1, fun t ht => (hk t ht).2, ?_⟩
  · rw [posn_len, List.length_append, List.length_singleton]
    have := flat_len_le l fun i hi => raw_ne (h3 i hi).r
    rw [← hf, flat_app, List.length_append]
    omega
  · refine ⟨posn 0 l, ⟨e.kind, e.text, 0 + (flat l).length + e.gap.length, 0 + (flat l).length + e.b.length⟩, ?_, h4.2.2.1, ?_⟩
    · rw [posn_app]; rfl
    · intro t ht
      obtain ⟨i, hi, e1, -⟩ := posn_kind _ _ t ht
      rw [e1]
      exact raw_kind (h3 i hi).r
  · intro i j hi hj
    refine ⟨?_, fun hij => posn_ord _ _ _ _ hi hj hij⟩
    have := (hin _ (List.getElem_mem hj)).2.2
    rw [hf] at this
    omega
/-- The parser's context. -/
theorem cx_of {s : ByteArray} {w W : World} {T : List Tk} {lb cp : Nat} (hs : s.size ≤ 65536) (hl : Lexed s.data.toList T) (ht : Toks w W (.slice (some ⟨lb, 0, none⟩) T.length cp) T) : (⟨W, lb, s, T⟩ : Cx).Ok ∧ (⟨W, lb, s, T⟩ : Cx).Pos := by
  have hsz := Lib.size_eq s
  have hne : 0 < T.length := by
    obtain ⟨T', e, rfl, -⟩ := hl.en
    simp
  refine ⟨⟨?_, ?_, by show T.length ≤ 65537; have := hl.num; omega, hl.en, hl.nn, fun t h => by have := hl.tx t h; omega⟩, fun i j hi hj => by have := hl.pos i j hi hj; refine ⟨by show T[j].til ≤ s.size; have := this.1; omega, this.2⟩⟩
  · intro j v hv
    have hj := (List.getElem?_eq_some_iff.1 hv).1
    rw [ht.1] at hj
    exact (World.ownsRow.cellAt ht j hj).trans hv
  · rcases ht.2 with ⟨-, h⟩ | ⟨g, cap, cur, e, hg, hh, -⟩
    · omega
    · cases e
      exact (Array.getElem?_eq_some_iff.1 hh).1
theorem toks_at {w W : World} {v : Value} {T : List Tk} (h : Toks w W v T) (hne : 0 < T.length) : ∃ lb cp, v = .slice (some ⟨lb, 0, none⟩) T.length cp ∧ w.heap.size ≤ lb ∧ lb < W.heap.size ∧ T.length ≤ cp := by
  rcases h.2 with ⟨-, h⟩ | ⟨g, cap, cur, e, hg, hh, h1, h2, h3⟩
  · omega
  · exact ⟨g, cap, e, hg, (Array.getElem?_eq_some_iff.1 hh).1, by omega⟩
theorem read_of {s : List UInt8} {T : List Tk} (h : cutQ s = some T) : readQ s = if (commasQ 101 (elementQ s) (T.length + 1) ⟨false, T, []⟩).bad then none else some (commasQ 101 (elementQ s) (T.length + 1) ⟨false, T, []⟩).all := by
  unfold readQ
  rw [h]
theorem read_none {s : List UInt8} (h : cutQ s = none) : readQ s = none := by
  unfold readQ
  rw [h]
theorem ord_len {n : Nat} : ∀ {l : List Sp} {a : Nat}, Ord n a l → a + l.length ≤ n
  | [], a, h => h
  | x :: l, a, h => by have := ord_len h.2.2; have := h.1; have := h.2.1; simp only [List.length_cons]; omega
theorem read_len {s : List UInt8} {L : List Sp} (h : readQ s = some L) : Ord s.length 0 L ∧ L.length ≤ s.length := by
  obtain ⟨m, hR, rfl⟩ := read_sound s L h
  have ho := sps_ord m 0 s.length (body_ok hR.gr) (tok_raw hR.tk) (by rw [Nat.zero_add, ← hR.tx]; exact Nat.le_refl _)
  exact ⟨ho, by have := ord_len ho; omega⟩
theorem raw_pos {i : It} (h : Raw i) : 1 ≤ i.raw.length := by
  have := raw_ne h
  cases hr : i.raw with
  | nil => exact absurd hr this
  | cons b l => simp
theorem tl_len {w : UInt8 → Bool} {c : List It} {t : List UInt8} (h : Tl w c t) (hr : ∀ i ∈ c, Raw i) : t.length ≤ (flat c).length := by
  induction h with
  | nil => exact Nat.le_refl _
  | cons d i c t _ _ _ ih =>
    have h1 := ih fun j hj => hr j (List.mem_cons_of_mem _ (List.mem_cons_of_mem _ hj))
    have h2 := raw_pos (hr d (List.mem_cons_self ..))
    have h3 := (raw_text (hr i (List.mem_cons_of_mem _ (List.mem_cons_self ..)))).1
    rw [flat_cons, flat_cons]
    unfold It.b
    simp only [List.length_append, List.length_cons, List.length_nil] at h1 ⊢
    omega
theorem dots_len {w : UInt8 → Bool} {c : List It} {t : List UInt8} (h : Dots w c t) (hr : ∀ i ∈ c, Raw i) : t.length ≤ (flat c).length := by
  cases h with
  | mk i c t _ hc =>
    have h1 := tl_len hc fun j hj => hr j (List.mem_cons_of_mem _ hj)
    have h3 := (raw_text (hr i (List.mem_cons_self ..))).1
    rw [flat_cons]
    unfold It.b
    simp only [List.length_append] at h1 ⊢
    omega
theorem dom_len {c : List It} {t : List UInt8} (h : IsDom c t) (hr : ∀ i ∈ c, Raw i) : t.length ≤ (flat c).length := by
  cases h with
  | lit i _ =>
    have h3 := (raw_text (hr i (List.mem_cons_self ..))).1
    rw [flat_cons]
    unfold It.b
    simp only [List.length_append]
    omega
  | dots c t hd => exact dots_len hd hr
theorem spec_len {s : Spc} (h : IsSpec s) (hr : ∀ i ∈ s.sec, Raw i) : s.loc.length ≤ (flat s.sec).length ∧ s.dom.length ≤ (flat s.sec).length := by
  cases h with
  | mk l a d loc dom h1 h2 h3 =>
    have k1 := dots_len h1 fun i hi => hr i (List.mem_append_left _ hi)
    have k2 := dom_len h3 fun i hi => hr i (List.mem_append_right _ (List.mem_cons_of_mem _ hi))
    show loc.length ≤ (flat (l ++ a :: d)).length ∧ dom.length ≤ (flat (l ++ a :: d)).length
    rw [flat_app, flat_cons, List.length_append, List.length_append]
    omega
theorem sps_mem : ∀ (m : List Sg) (o : Nat) (x : Sp), x ∈ spsOf o m → ∃ s n, Sg.sp s n ∈ m ∧ x.loc = s.loc ∧ x.dom = s.dom
  | [], _, x, h => by simp [spsOf] at h
  | .keep i :: m, o, x, h => by
    rw [spsOf] at h
    obtain ⟨s, n, h1, h2⟩ := sps_mem m _ x h
    exact ⟨s, n, List.mem_cons_of_mem _ h1, h2⟩
  | .sp s n :: m, o, x, h => by
    rw [spsOf] at h
    rcases List.mem_cons.1 h with rfl | h
    · exact ⟨s, n, List.mem_cons_self .., rfl, rfl⟩
    · obtain ⟨s, n, h1, h2⟩ := sps_mem m _ x h
      exact ⟨s, n, List.mem_cons_of_mem _ h1, h2⟩
theorem its_sec_le : ∀ (m : List Sg) (s : Spc) (n : List UInt8), Sg.sp s n ∈ m → (flat s.sec).length ≤ (flat (its m)).length
  | [], _, _, h => by cases h
  | y :: m, s, n, h => by
    have e : flat (its (y :: m)) = flat y.its ++ flat (its m) := by
      show flat (y.its ++ its m) = _
      rw [flat_app]
    rw [e, List.length_append]
    rcases List.mem_cons.1 h with rfl | h
    · show _ ≤ (flat s.sec).length + _; omega
    · have := its_sec_le m s n h; omega
theorem read_small {s : List UInt8} {L : List Sp} (h : readQ s = some L) : ∀ x ∈ L, x.loc.length ≤ s.length ∧ x.dom.length ≤ s.length := by
  obtain ⟨m, hR, rfl⟩ := read_sound s L h
  intro x hx
  obtain ⟨sp, n, hm, e1, e2⟩ := sps_mem m 0 x hx
  rw [e1, e2]
  have hle := its_sec_le m sp n hm
  rw [← hR.tx] at hle
  have hr : ∀ i ∈ sp.sec, Raw i := by
    obtain ⟨m', e, rfl, -, ht⟩ := hR.tk
    rcases List.mem_append.1 hm with hm | hm
    · exact fun i hi => (ht i (List.mem_flatMap.2 ⟨_, hm, hi⟩)).r
    · cases List.mem_singleton.1 hm
  have := spec_len (show IsSpec sp from body_ok hR.gr _ hm) hr
  omega
/-- Mails in hand. -/
def mlOf (x : Sp) : Ml := ⟨(addrOf x.loc x.dom).1, x.from_, x.til, x.name⟩
def MlI (L : List Sp) (k : Nat) (l : List Ml) : Prop := l.length = k ∧ mailsQ L = if (mailsQ (L.drop k)).2 = 0 then (l ++ (mailsQ (L.drop k)).1, 0) else ([], (mailsQ (L.drop k)).2)
theorem MlI.zero (L : List Sp) : MlI L 0 [] := by
  refine ⟨rfl, ?_⟩
  rw [List.drop_zero]
  split
  · rename_i h; rw [List.nil_append, ← h]
  · rename_i h; rw [← mails_bad L h]
theorem drop_at' {α : Type} {l : List α} {k : Nat} (hk : k < l.length) : l.drop k = l[k] :: l.drop (k + 1) := List.drop_eq_getElem_cons hk
theorem MlI.next {L : List Sp} {k : Nat} {l : List Ml} (h : MlI L k l) (hk : k < L.length) (h0 : (addrOf L[k].loc L[k].dom).2 = 0) : MlI L (k + 1) (l ++ [mlOf L[k]]) := by
  refine ⟨by rw [List.length_append, h.1]; rfl, ?_⟩
  rw [h.2, drop_at' hk, mailsQ, if_pos h0]
  by_cases h1 : (mailsQ (L.drop (k + 1))).2 = 0
  · rw [if_pos h1, if_pos h1, if_pos rfl]
    simp [mlOf]
  · rw [if_neg h1, if_neg h1, if_neg h1]
theorem MlI.bad {L : List Sp} {k : Nat} {l : List Ml} (h : MlI L k l) (hk : k < L.length) (h0 : (addrOf L[k].loc L[k].dom).2 ≠ 0) : mailsQ L = ([], if (addrOf L[k].loc L[k].dom).2 = 91 then 101 else 100) := by
  rw [h.2, drop_at' hk, mailsQ, if_neg h0]
  by_cases h9 : (addrOf L[k].loc L[k].dom).2 = 91
  · rw [if_pos h9]; rfl
  · rw [if_neg h9]; rfl
theorem MlI.end_ {L : List Sp} {k : Nat} {l : List Ml} (h : MlI L k l) (hk : L.length ≤ k) : mailsQ L = (l, 0) := by
  rw [h.2, List.drop_eq_nil_of_le hk, mailsQ, if_pos rfl, List.append_nil]
end Go.Proofs.YtpmmaickjolimaaGreatDoor.Ma
