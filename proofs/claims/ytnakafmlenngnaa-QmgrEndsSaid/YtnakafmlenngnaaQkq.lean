/- Keeps: how the manager and what the law has noted stand to one another. -/
import Derived.Test.YtnakafmlenngnaaQkp
namespace Go.Proofs.Ytnakafmlenngnaa.Qm
open Go.Proofs.Ytnakafmlenngnaa.Wi

theorem Lft.app {ms : List Ml} {id : ByteArray} {l : List Nat} (h : Lft ms id l) (n : Ml) (hn : n.id ≠ id) : Lft (ms ++ [n]) id l := by
  refine ⟨fun m hm e => ?_, fun hx => h.2 fun m hm => hx m (List.mem_append_left _ hm)⟩
  rcases List.mem_append.1 hm with f | f
  · exact h.1 m f e
  · simp only [List.mem_singleton] at f
    subst f
    exact absurd e hn
theorem Lft.new {ms : List Ml} {n : Ml} (h : ∀ m ∈ ms, m.id ≠ n.id) : Lft (ms ++ [n]) n.id (lz 0 (zOf n.rs)) := by
  refine ⟨fun m hm e => ?_, fun hx => absurd rfl (hx n (by simp))⟩
  rcases List.mem_append.1 hm with f | f
  · exact absurd e (h m f)
  · simp only [List.mem_singleton] at f
    subst f
    rfl
theorem Lft.set_other {ms : List Ml} {id : ByteArray} {l : List Nat} (h : Lft ms id l) {a : Nat} {m m' : Ml} (hm : ms[a]? = some m) (hi : m'.id = m.id) (hne : m.id ≠ id) : Lft (ms.set a m') id l := by
  obtain ⟨ha, em⟩ := List.getElem?_eq_some_iff.1 hm
  refine ⟨fun x hx e => ?_, fun hx => h.2 fun y hy e => ?_⟩
  · rcases List.mem_or_eq_of_mem_set hx with f | rfl
    · exact h.1 x f e
    · exact absurd (hi.symm.trans e) hne
  · obtain ⟨k, hk, rfl⟩ := List.getElem_of_mem hy
    have hka : a ≠ k := by rintro rfl; exact hne (by rw [← em]; exact e)
    refine hx ms[k] ?_ e
    rw [List.mem_iff_getElem]
    exact ⟨k, by simpa using hk, by rw [List.getElem_set_ne hka]⟩
theorem Lft.set_this {ms : List Ml} {a : Nat} {m m' : Ml} (hn : (ms.map (·.id)).Nodup) (hm : ms[a]? = some m) (hi : m'.id = m.id) : Lft (ms.set a m') m.id (lz 0 (zOf m'.rs)) := by
  obtain ⟨ha, em⟩ := List.getElem?_eq_some_iff.1 hm
  refine ⟨fun x hx e => ?_, fun hx => absurd hi (hx m' ?_)⟩
  · obtain ⟨k, hk, rfl⟩ := List.getElem_of_mem hx
    simp only [List.length_set] at hk
    rw [List.getElem_set] at e ⊢
    split
    · rfl
    · rename_i hka
      rw [if_neg hka] at e
      refine absurd ?_ hka
      refine (List.getElem?_inj (by simpa using ha) hn).1 ?_
      rw [List.getElem?_map, List.getElem?_map, List.getElem?_eq_getElem ha, List.getElem?_eq_getElem hk, em]
      exact congrArg some e.symm
  · rw [List.mem_iff_getElem]
    exact ⟨a, by simpa using ha, by simp⟩
theorem Lft.erase {ms : List Ml} {id : ByteArray} {l : List Nat} (h : Lft ms id l) {a : Nat} {m : Ml} (hm : ms[a]? = some m) (hne : m.id ≠ id) : Lft (ms.eraseIdx a) id l := by
  obtain ⟨ha, em⟩ := List.getElem?_eq_some_iff.1 hm
  refine ⟨fun x hx e => h.1 x (List.mem_of_mem_eraseIdx hx) e, fun hx => h.2 fun y hy e => ?_⟩
  obtain ⟨k, hk, rfl⟩ := List.getElem_of_mem hy
  refine hx ms[k] ?_ e
  rw [List.mem_eraseIdx_iff_getElem]
  exact ⟨k, hk, by rintro rfl; exact hne (by rw [← em]; exact e), rfl⟩

structure KpI (q : Qs) (jobs : List Jb) (names : List ByteArray) (left : List (List Nat)) (i : Nat) : Prop where
  inv : Inv q
  good : Good q.ms
  len : left.length = names.length
  cur : ∀ k (h1 : k < names.length) (h2 : k < left.length), names[k].size ≠ 0 → (∀ m (hm : m < names.length), k < m → names[m] ≠ names[k]) → Lft q.ms names[k] left[k]
  jl : jobs.length ≤ i
  qj : q.jobs.length ≤ i
  ml : q.ms.length ≤ i
  dl : q.ds.length ≤ 200 * i
  nl : names.length ≤ i
  ll : ∀ l ∈ left, l.length ≤ 200
  rs : ∀ j ∈ jobs, 1 ≤ j.rs.length ∧ j.rs.length ≤ 50 ∧ j.rs.Nodup ∧ j.id.size ≠ 0

section
variable {q : Qs} {jobs : List Jb} {names : List ByteArray} {left : List (List Nat)} {i : Nat}
theorem KpI.start (lm : Lm) (h : lm.Ok) : KpI (begin0 lm) [] [] [] 0 :=
  ⟨(ApI.start lm h).inv, by intro m hm; simp [begin0] at hm, rfl, fun k h1 => absurd h1 (by simp), by simp, by simp [begin0], by simp [begin0], by simp [begin0], by simp, by simp, by simp⟩
theorem KpI.mono (h : KpI q jobs names left i) : KpI q jobs names left (i + 1) :=
  ⟨h.inv, h.good, h.len, h.cur, by have := h.jl; omega, by have := h.qj; omega, by have := h.ml; omega, by have := h.dl; omega, by have := h.nl; omega, h.ll, h.rs⟩

theorem KpI.add (h : KpI q jobs names left i) (id : ByteArray) (came : Int) (D : List ByteArray) (now : Int) :
    ((Qm.add q id came D now).1 ≠ 0 ∧ (Qm.add q id came D now).2 = q) ∨
    ((Qm.add q id came D now).1 = 0 ∧ D.length ≤ 200 ∧ KpI (Qm.add q id came D now).2 jobs (names ++ [id]) (left ++ [placesIn 0 D]) (i + 1)) := by
  by_cases h0 : addOk id came D now = false
  · refine .inl ?_
    unfold Qm.add
    rw [if_pos (by simpa using h0)]
    exact ⟨by simp, rfl⟩
  have h1 : addOk id came D now = true := by simpa using h0
  by_cases h2 : mIdx q.ms id < q.ms.length
  · refine .inl ?_
    unfold Qm.add
    rw [if_neg (by simpa using h1), if_pos h2]
    exact ⟨by simp, rfl⟩
  by_cases h3 : Qm.full q = true
  · refine .inl ?_
    unfold Qm.add
    rw [if_neg (by simpa using h1), if_neg h2, if_pos h3]
    exact ⟨by simp, rfl⟩
  refine .inr ?_
  have hi := h.inv.add id came D now
  obtain ⟨l1, l2, l3⟩ := add_lengths q id came D now
  have e : Qm.add q id came D now = (0, { q with ds := (D.foldl (addTo q.lm now) (q.ds, [])).1, ms := endsM q.lm now (q.ms ++ [⟨id, came, (D.foldl (addTo q.lm now) (q.ds, [])).2, false, 0⟩]) }) := by
    unfold Qm.add
    rw [if_neg (by simpa using h1), if_neg h2, if_neg h3]
  obtain ⟨o1, -, -, -, o5, -, -⟩ := addOk_true h1
  obtain ⟨z1, z2⟩ := addFold_z q.lm now D (q.ds, [])
  simp only [zOf, List.map_nil, List.nil_append] at z1
  have hg : Good (q.ms ++ [⟨id, came, (D.foldl (addTo q.lm now) (q.ds, [])).2, false, 0⟩]) := by
    intro m hm
    rcases List.mem_append.1 hm with f | f
    · exact h.good m f
    · simp only [List.mem_singleton] at f
      subst f
      exact ⟨by dsimp only; omega, z2 (by simp)⟩
  have hnew : ∀ m ∈ q.ms, m.id ≠ id := fun m hm em => h2 (mIdx_mem hm em)
  refine ⟨by rw [e], by omega, hi, ?_, by simp [h.len], ?_, by have := h.jl; omega, by rw [l3]; have := h.qj; omega, by have := h.ml; omega, by have := h.dl; omega, by have := h.nl; simp; omega, ?_, h.rs⟩
  · rw [e]; exact hg.ends _ _
  · intro k k1 k2 ks kl
    simp only [List.length_append, List.length_cons, List.length_nil] at k1 k2
    rw [e]
    dsimp only
    refine Lft.ends ?_ hg _ _
    by_cases hk : k < names.length
    · have hne : id ≠ names[k] := by
        have := kl names.length (by simp) hk
        rw [List.getElem_append_right (by omega), List.getElem_append_left hk] at this
        simpa using this
      have hk2 : k < left.length := by rw [h.len]; exact hk
      rw [List.getElem_append_left hk] at ks ⊢
      rw [List.getElem_append_left hk2]
      refine Lft.app (h.cur k hk hk2 ks fun m hm hkm => ?_) _ hne
      have := kl m (by simp; omega) hkm
      rw [List.getElem_append_left hm, List.getElem_append_left hk] at this
      exact this
    · obtain rfl : k = names.length := by omega
      have e1 : (names ++ [id])[names.length]'(by simp) = id := by simp
      have e2 : (left ++ [placesIn 0 D])[names.length]'(by simp [h.len]) = placesIn 0 D := by
        rw [List.getElem_append_right (by have := h.len; omega)]
        simp
      rw [e1, e2, placesIn_z]
      have := Lft.new (n := ⟨id, came, (D.foldl (addTo q.lm now) (q.ds, [])).2, false, 0⟩) hnew
      dsimp only at this
      unfold zOf at this
      rw [z1] at this
      exact this
  · intro l hl
    rcases List.mem_append.1 hl with f | f
    · exact h.ll l f
    · simp only [List.mem_singleton] at f
      subst f
      have := placesIn_length 0 D
      omega

theorem KpI.congr {q' : Qs} (h : KpI q jobs names left i) (hk : q'.ms.map key = q.ms.map key) (h3 : ∀ m ∈ q'.ms, ∀ r ∈ m.rs, r.st ≤ 3) : Good q'.ms ∧ ∀ k (h1 : k < names.length) (h2 : k < left.length), names[k].size ≠ 0 → (∀ m (hm : m < names.length), k < m → names[m] ≠ names[k]) → Lft q'.ms names[k] left[k] := by
  refine ⟨fun m hm => ⟨?_, h3 m hm⟩, fun k h1 h2 ks kl => (h.cur k h1 h2 ks kl).congr hk⟩
  have : key m ∈ q.ms.map key := by rw [← hk]; exact List.mem_map.2 ⟨m, hm, rfl⟩
  obtain ⟨m0, h0, e0⟩ := List.mem_map.1 this
  injection e0 with e1 _
  rw [← e1]
  exact (h.good m0 h0).1

theorem KpI.next {q' : Qs} {j : Jb} (h : KpI q jobs names left i) (hn : Qm.next q = some (j, q')) : KpI q' (jobs ++ [j]) names left (i + 1) ∧ 1 ≤ j.rs.length ∧ j.rs.length ≤ 50 := by
  obtain ⟨h1, h2, h3, h4, h5, h6, h7⟩ := h.inv.next hn
  obtain ⟨l1, l2, l3⟩ := next_lengths hn
  have hne : 1 ≤ j.rs.length := List.length_pos_iff.2 h3
  obtain ⟨x, d, a, m, -, -, hm, -, e1, e2⟩ := (next_begun hn).ex
  have hms : q'.ms = q.ms.set a { m with rs := (m.rs.foldl (takeTo d.name) ([], [])).1 } := by rw [e1]; rfl
  have hjid : j.id = m.id := by rw [e2]; rfl
  have hgm := h.good m (List.mem_of_getElem? hm)
  have hkey : q'.ms.map key = q.ms.map key := by
    rw [hms]
    refine map_set_self key _ _ _ fun y hy => ?_
    rw [hm] at hy
    injection hy with hy
    subst hy
    exact Prod.ext rfl (take_z _ _)
  obtain ⟨g1, g2⟩ := h.congr hkey (by
    rw [hms]
    intro y hy
    rcases List.mem_or_eq_of_mem_set hy with f | rfl
    · exact (h.good y f).2
    · exact take_le _ _ hgm.2)
  refine ⟨⟨h1, g1, h.len, g2, by have := h.jl; simp; omega, by have := h.qj; omega, by have := h.ml; omega, by have := h.dl; omega, by have := h.nl; omega, h.ll, ?_⟩, hne, h4⟩
  intro j' hj'
  rcases List.mem_append.1 hj' with f | f
  · exact h.rs j' f
  · simp only [List.mem_singleton] at f
    subst f
    exact ⟨hne, h4, h5.imp (fun {a b} hab => Nat.ne_of_lt hab), by rw [hjid]; exact hgm.1⟩

theorem KpI.again (h : KpI q jobs names left i) (id : ByteArray) (now : Int) : KpI (Qm.again q id now).2 jobs names left (i + 1) := by
  obtain ⟨l1, l2, l3, -⟩ := again_lengths h.inv.rl id now
  have hi := h.inv.again id now
  have key1 : Good (Qm.again q id now).2.ms ∧ ∀ k (h1 : k < names.length) (h2 : k < left.length), names[k].size ≠ 0 → (∀ m (hm : m < names.length), k < m → names[m] ≠ names[k]) → Lft (Qm.again q id now).2.ms names[k] left[k] := by
    unfold Qm.again
    split
    · exact ⟨h.good, h.cur⟩
    split
    · exact ⟨h.good, h.cur⟩
    rename_i m hm
    split
    · exact ⟨h.good, h.cur⟩
    split
    · exact ⟨h.good, h.cur⟩
    · obtain ⟨z1, z2⟩ := againFold_z q.lm now m.rs (q.ds, [])
      have hgm := h.good m (List.mem_of_getElem? hm)
      have hg := h.good.set (mIdx q.ms id) { m with waits := false, due := 0, rs := (m.rs.foldl (againTo q.lm now) (q.ds, [])).2 } ⟨hgm.1, z2 (by simp) hgm.2⟩
      refine ⟨hg.ends _ _, fun k h1 h2 ks kl => ((h.cur k h1 h2 ks kl).congr ?_).ends hg _ _⟩
      refine map_set_self key _ _ _ fun y hy => ?_
      rw [hm] at hy
      injection hy with hy
      subst hy
      exact Prod.ext rfl z1
  exact ⟨hi, key1.1, h.len, key1.2, by have := h.jl; omega, by rw [l3]; have := h.qj; omega, by have := h.ml; omega, by have := h.dl; omega, by have := h.nl; omega, h.ll, h.rs⟩

/-- The names, those of one message struck. -/
def strike (id : ByteArray) (names : List ByteArray) : List ByteArray := names.map fun n => if n = id then ByteArray.empty else n
theorem KpI.drop (h : KpI q jobs names left i) (id : ByteArray) :
    ((Qm.drop q id).1 ≠ 0 ∧ (Qm.drop q id).2 = q) ∨ ((Qm.drop q id).1 = 0 ∧ KpI (Qm.drop q id).2 jobs (strike id names) left (i + 1)) := by
  obtain ⟨l1, l2, l3, -⟩ := drop_lengths q id
  have hi := h.inv.drop id
  cases hm : q.ms[mIdx q.ms id]? with
  | none =>
    refine .inl ?_
    unfold Qm.drop
    rw [hm]
    exact ⟨by simp, rfl⟩
  | some m =>
    by_cases hb : hasIn [2] m.rs = true
    · refine .inl ?_
      unfold Qm.drop
      rw [hm]
      dsimp only
      rw [if_pos hb]
      exact ⟨by simp, rfl⟩
    · refine .inr ?_
      have e : Qm.drop q id = (0, { q with ms := q.ms.eraseIdx (mIdx q.ms id) }) := by
        unfold Qm.drop
        rw [hm]
        dsimp only
        rw [if_neg hb]
      have hmi := mIdx_get hm
      refine ⟨by rw [e], hi, by rw [e]; exact fun m hm => h.good m (List.mem_of_mem_eraseIdx hm), by simp [strike, h.len], ?_, by have := h.jl; omega, by rw [l3]; have := h.qj; omega, by have := h.ml; omega, by have := h.dl; omega, by have := h.nl; simp [strike]; omega, h.ll, h.rs⟩
      intro k k1 k2 ks kl
      simp only [strike, List.length_map] at k1
      have es : ∀ m (hm : m < names.length), (strike id names)[m]'(by simpa [strike] using hm) = if names[m] = id then ByteArray.empty else names[m] := fun m hm => by simp [strike]
      rw [es k k1] at ks ⊢
      by_cases hk : names[k] = id
      · rw [if_pos hk] at ks; exact absurd rfl ks
      · rw [if_neg hk] at ks ⊢
        rw [e]
        dsimp only
        refine (h.cur k k1 k2 ks fun m hm' hkm em => ?_).erase hm (by rw [hmi]; exact fun e => hk e.symm)
        have := kl m (by simpa [strike] using hm') hkm
        rw [es m hm', es k k1, if_neg hk, if_neg (by rw [em]; exact hk)] at this
        exact this em

theorem KpI.done (h : KpI q jobs names left i) (j : Jb) (hj : j ∈ jobs) (res : List Int) (g : Bool) (now : Int) :
    ((Qm.done q j res g now).1 ≠ 0 ∧ (Qm.done q j res g now).2 = q) ∨
    ((Qm.done q j res g now).1 = 0 ∧ res.length = j.rs.length ∧
      (∀ k (h1 : k < names.length) (h2 : k < left.length), names[k] = j.id → (∀ m (hm : m < names.length), k < m → names[m] ≠ j.id) → KpI (Qm.done q j res g now).2 jobs names (left.set k (left[k].filter fun r => !goneR j res r)) (i + 1)) ∧
      ((∀ m (hm : m < names.length), names[m] ≠ j.id) → KpI (Qm.done q j res g now).2 jobs names left (i + 1))) := by
  have hinv := h.inv.done j res g now
  obtain ⟨l1, l2, l3, -⟩ := done_lengths q j res g now
  rcases done_cases q j res g now with e | ⟨m, d, ho, hm, hd, hjx, e⟩
  · exact .inl e
  refine .inr ?_
  have hres : res.length = j.rs.length := by
    unfold doneOk at ho
    simp only [Bool.and_eq_true, decide_eq_true_eq] at ho
    exact ho.1.2
  have hfit := h.inv.fits j m hm hjx
  have hmi := mIdx_get hm
  have hnd := (h.rs j hj).2.2.1
  have hgm := h.good m (List.mem_of_getElem? hm)
  have hg := h.good.set (mIdx q.ms j.id) { m with rs := (j.rs.zip res).foldl settle m.rs } ⟨hgm.1, settle_le _ _ hgm.2⟩
  have hst := settle_lz j res m.rs hres hnd hfit
  have hms : Good (Qm.done q j res g now).2.ms ∧ ∀ id l, Lft (q.ms.set (mIdx q.ms j.id) { m with rs := (j.rs.zip res).foldl settle m.rs }) id l → Lft (Qm.done q j res g now).2.ms id l := by
    rw [e]
    dsimp only
    unfold doneAt
    split
    · have hg2 := hg.off d.name
      refine ⟨hg2.ends _ _, fun id l hl => Lft.ends (hl.congr ?_) hg2 _ _⟩
      rw [List.map_map]
      exact List.map_congr_left fun x _ => offM_key _ _
    · exact ⟨hg.ends _ _, fun id l hl => hl.ends hg _ _⟩
  have hoth : ∀ id l, Lft q.ms id l → id ≠ j.id → Lft (Qm.done q j res g now).2.ms id l := fun id l hl hne =>
    hms.2 id l (hl.set_other hm rfl (by rw [hmi]; exact fun e => hne e.symm))
  have hthis : ∀ l, Lft q.ms j.id l → Lft (Qm.done q j res g now).2.ms j.id (l.filter fun r => !goneR j res r) := fun l hl => by
    have h1 := Lft.set_this (m' := { m with rs := (j.rs.zip res).foldl settle m.rs }) h.inv.ids hm rfl
    dsimp only at h1
    rw [hst, hl.1 m (List.mem_of_getElem? hm) hmi] at h1
    exact hms.2 _ _ ((congrArg (fun x => Lft (q.ms.set (mIdx q.ms j.id) { m with rs := (j.rs.zip res).foldl settle m.rs }) x (l.filter fun r => !goneR j res r)) hmi).mp h1)
  refine ⟨by rw [e], hres, fun k h1 h2 ek kl => ?_, fun hno => ?_⟩
  · refine ⟨hinv, hms.1, by simp [h.len], ?_, by have := h.jl; omega, by have := h.qj; omega, by have := h.ml; omega, by have := h.dl; omega, by have := h.nl; omega, ?_, h.rs⟩
    · intro x x1 x2 xs xl
      simp only [List.length_set] at x2
      have hc := h.cur x x1 x2 xs xl
      rw [List.getElem_set]
      split
      · rename_i ekx
        subst ekx
        rw [ek] at hc ⊢
        exact hthis _ hc
      · rename_i hkx
        refine hoth _ _ hc fun e => ?_
        rcases Nat.lt_or_ge k x with f | f
        · exact kl x x1 f e
        · exact xl k h1 (by omega) (ek.trans e.symm)
    · intro l hl
      rcases List.mem_or_eq_of_mem_set hl with f | rfl
      · exact h.ll l f
      · exact Nat.le_trans (List.length_filter_le _ _) (h.ll _ (List.getElem_mem h2))
  · refine ⟨hinv, hms.1, h.len, ?_, by have := h.jl; omega, by have := h.qj; omega, by have := h.ml; omega, by have := h.dl; omega, by have := h.nl; omega, h.ll, h.rs⟩
    intro x x1 x2 xs xl
    exact hoth _ _ (h.cur x x1 x2 xs xl) (hno x x1)
end
end Go.Proofs.Ytnakafmlenngnaa.Qm
