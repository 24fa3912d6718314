/- Add: what its loop keeps. -/
import Derived.Test.YtnakafmlenngnaaQw
namespace Go.Proofs.Ytnakafmlenngnaa.Qm
open Go.RowKit Go.Proofs.Ytnakafmlenngnaa.Wi

/-- A slice of texts. -/
def StrsAt (w : World) (x : Option Addr) (D : List ByteArray) : Prop :=
  D.length ≤ 9223372036854775807 ∧ ∀ k (hk : k < D.length), ∃ b o, x = some ⟨b, o, none⟩ ∧ b < w.heap.size ∧ w.cell? ⟨b, o + k, none⟩ = some (.string D[k])

theorem StrsAt.ext {w w' : World} {x : Option Addr} {D : List ByteArray} {F : Nat → Prop} (h : StrsAt w x D) (hx : Ext F w w') (hF : ∀ b o, x = some ⟨b, o, none⟩ → ¬ F b) : StrsAt w' x D :=
  ⟨h.1, fun k hk => by
    obtain ⟨b, o, e, hb, hc⟩ := h.2 k hk
    exact ⟨b, o, e, Nat.lt_of_lt_of_le hb hx.size, (hx.cell hb (hF b o e) _).trans hc⟩⟩

theorem add1_run (s : ByteArray) (w : World) : Calls Try.prog 45 #[.string s] w fun e w' => e = .returned (.bool (decide (300 < s.size))) ∧ w = w' := by
  go_enter Try.func45, Try.ntmps45
  go_wp2_with fail
  go_ret
  refine ⟨?_, rfl⟩
  simp
  omega
theorem isEmpty_tl (s : ByteArray) : s.toList.isEmpty = decide (s.size = 0) := by
  rw [ByteArray.toList_eq]
  cases s with | mk a => cases a with | mk l => cases l <;> simp [ByteArray.size]
theorem add2_run (s : ByteArray) (w : World) : Calls Try.prog 46 #[.string s] w fun e w' => e = .returned (.bool (decide (s.size ≠ 0))) ∧ w = w' := by
  go_enter Try.func46, Try.ntmps46
  go_wp2_with fail
  go_ret
  refine ⟨?_, rfl⟩
  have : decide (s.size ≠ 0) = !s.toList.isEmpty := by rw [isEmpty_tl]; simp
  rw [this]
  rfl

theorem mkD_length (lm : Lm) (ds : List Ds) (n : ByteArray) : (mkD lm ds n).length ≤ ds.length + 1 := by
  unfold mkD
  split <;> simp
theorem queueD_length (lm : Lm) (ds : List Ds) (n : ByteArray) (now : Int) : (queueD lm ds n now).1.length ≤ ds.length + 1 := by
  have := mkD_length lm ds n
  unfold queueD
  split
  · exact this
  · split
    · exact this
    · simpa using this
def addF (lm : Lm) (now : Int) (ds : List Ds) (D : List ByteArray) : List Ds × List Rc := D.foldl (addTo lm now) (ds, [])
theorem addF_snoc (lm : Lm) (now : Int) (ds : List Ds) (D : List ByteArray) (k : Nat) (hk : k < D.length) : addF lm now ds (D.take (k + 1)) = addTo lm now (addF lm now ds (D.take k)) D[k] := by
  unfold addF
  rw [List.take_succ_eq_append_getElem hk, List.foldl_append]
  rfl
theorem addF_length (lm : Lm) (now : Int) (ds : List Ds) (D : List ByteArray) (k : Nat) (hk : k ≤ D.length) : (addF lm now ds (D.take k)).1.length ≤ ds.length + k ∧ (addF lm now ds (D.take k)).2.length = k := by
  induction k with
  | zero => simp [addF]
  | succ k ih =>
    obtain ⟨h1, h2⟩ := ih (by omega)
    rw [addF_snoc _ _ _ _ _ (by omega)]
    unfold addTo
    have := queueD_length lm (addF lm now ds (D.take k)).1 (D[k]'(by omega)) now
    split
    · simp; omega
    · simp; omega

theorem Mg.setX {w : World} {mb : Nat} {L : Lq} {F : Nat → Prop} (h : Mg w mb L F) (b o : Nat) (v : Value) (hb : ¬ F b) : Mg (w.setCell ⟨b, o, none⟩ v) mb L F :=
  h.same (by simp [World.setCell]) fun k hk => Below.heap_setCell _ _ _ _ fun e => hb (by have e : k = b := e; rw [← e]; exact hk)

/-- What Add's loop keeps behind k destinations. -/
structure AddI (w wr : World) (mb : Nat) (L : Lq) (F : Nat → Prop) (xb : Nat) (id : ByteArray) (came now : Int) (D : List ByteArray) (kd kr : Nat) (L1 : Lq) (F1 : Nat → Prop) (vo : Value) : Prop where
  mg : Mg wr mb L1 F1
  ext : Ext F w wr
  grow : Grow F w wr F1
  sub : ∀ k, F k → F1 k
  ms : L1.ms = L.ms
  q : L1.q = { L.q with ds := (addF L.lm now L.q.ds (D.take kd)).1 }
  xc : wr.heap[xb]? = some (.cells #[.string id, .int .i64 came, vo, .bool false, .int .i64 0] 93 (0, 0))
  row : wr.ownsRow w.heap.size 95 2 vo kr (rcsC (addF L.lm now L.q.ds (D.take kr)).2)
  nx : ¬ F1 xb ∧ w.heap.size ≤ xb
  nv : ∀ g, vo.ownBlock = some g → ¬ F1 g

section
variable {w wr : World} {mb : Nat} {L : Lq} {F : Nat → Prop} {xb : Nat} {id : ByteArray} {came now : Int} {D : List ByteArray} {kd kr : Nat} {L1 : Lq} {F1 : Nat → Prop} {vo : Value}
/-- Nothing turned. -/
theorem AddI.quiet (h : AddI w wr mb L F xb id came now D kd kr L1 F1 vo) {w' : World} (hx : Ext (fun _ => False) wr w') : AddI w w' mb L F xb id came now D kd kr L1 F1 vo :=
  ⟨h.mg.quiet hx, h.ext.trans (hx.mono fun _ f => f.elim), h.grow.trans (Grow.refl _ _ _) h.ext.size hx.size, h.sub, h.ms, h.q, (hx.block _ (heap_lt h.xc) fun f => f).trans h.xc, row_keep h.row fun g hg => hx.block g (row_lt h.row g hg) fun f => f, h.nx, h.nv⟩
theorem AddI.setX (h : AddI w wr mb L F xb id came now D kd kr L1 F1 vo) (b o : Nat) (v : Value) (hw : w.heap.size ≤ b) (hb : ¬ F1 b) (hx : b ≠ xb) (hv : vo.ownBlock ≠ some b) : AddI w (wr.setCell ⟨b, o, none⟩ v) mb L F xb id came now D kd kr L1 F1 vo :=
  ⟨h.mg.setX b o v hb, h.ext.setCell_new b o v hw, fun k hk => by
    rcases h.grow k hk with h1 | h1
    · exact .inl h1
    · exact .inr ⟨h1.1, by simpa [World.setCell] using h1.2⟩, h.sub, h.ms, h.q, (Below.heap_setCell _ _ _ _ hx.symm).trans h.xc, row_keep h.row fun g hg => Below.heap_setCell _ _ _ _ fun e => hv (by rw [hg, e]), h.nx, h.nv⟩

theorem AddI.lm (h : AddI w wr mb L F xb id came now D kd kr L1 F1 vo) : L1.lm = L.lm := congrArg Qs.lm h.q
theorem AddI.ds (h : AddI w wr mb L F xb id came now D kd kr L1 F1 vo) : L1.q.ds = (addF L.lm now L.q.ds (D.take kd)).1 := congrArg Qs.ds h.q
theorem AddI.dlen (h : AddI w wr mb L F xb id came now D kd kr L1 F1 vo) (hk : kd ≤ D.length) : L1.ds.length ≤ L.ds.length + kd := by
  have e := congrArg List.length h.ds
  have := (addF_length L.lm now L.q.ds D kd hk).1
  simp only [Lq.q, List.length_map] at e this
  omega

/-- The recipient's block, behind the queueing. -/
theorem AddI.queued (h : AddI w wr mb L F xb id came now D kr kr L1 F1 vo) (hk : kr < D.length) (hne : D[kr].size ≠ 0) {pb : Nat} (hpb : pb < wr.heap.size) (hpn : ¬ F1 pb) (hpw : w.heap.size ≤ pb) (hpx : pb ≠ xb) (hpv : vo.ownBlock ≠ some pb)
    (hpc : wr.heap[pb]? = some (.cells #[.string D[kr], .int .i64 0] 95 (0, 0))) {e : Ending} {w' : World} (hq : QueuePost mb L1 F1 D[kr] now pb (0 + 1) wr e w') :
    ∃ L2 F2, AddI w w' mb L F xb id came now D (kr + 1) kr L2 F2 vo ∧ w'.heap[pb]? = some (.cells #[.string D[kr], .int .i64 ((queueD L.lm (addF L.lm now L.q.ds (D.take kr)).1 D[kr] now).2 : Nat)] 95 (0, 0)) ∧
      (addF L.lm now L.q.ds (D.take (kr + 1))).2 = (addF L.lm now L.q.ds (D.take kr)).2 ++ [⟨D[kr], (queueD L.lm (addF L.lm now L.q.ds (D.take kr)).1 D[kr] now).2⟩] := by
  obtain ⟨-, L2, F2, W1, hM, rfl, hX, hG, hS, hQ, hms⟩ := hq
  rw [h.lm, h.ds] at hQ ⊢
  have hadd : addF L.lm now L.q.ds (D.take (kr + 1)) = ((queueD L.lm (addF L.lm now L.q.ds (D.take kr)).1 D[kr] now).1, (addF L.lm now L.q.ds (D.take kr)).2 ++ [⟨D[kr], (queueD L.lm (addF L.lm now L.q.ds (D.take kr)).1 D[kr] now).2⟩]) := by
    rw [addF_snoc _ _ _ _ _ hk]
    unfold addTo
    rw [if_neg hne]
  have old : ∀ k, k < wr.heap.size → ¬ F1 k → ¬ F2 k := fun k hk hn f => by
    rcases hG k f with h1 | h1
    · exact hn h1
    · omega
  have hxl := heap_lt h.xc
  have h1 : AddI w W1 mb L F xb id came now D (kr + 1) kr L2 F2 vo := ⟨hM, h.ext.grow h.grow hX, h.grow.trans hG h.ext.size hX.size, fun k hk => hS k (h.sub k hk), hms.trans h.ms, by rw [hQ, h.q, hadd], (hX.block _ hxl h.nx.1).trans h.xc, row_keep h.row fun g hg => hX.block g (row_lt h.row g hg) (h.nv g hg), ⟨old _ hxl h.nx.1, h.nx.2⟩, fun g hg => old g (row_lt h.row g hg) (h.nv g hg)⟩
  refine ⟨L2, F2, h1.setX pb (0 + 1) _ hpw (old _ hpb hpn) hpx hpv, ?_, by rw [hadd]⟩
  have e : W1.heap[pb]? = some (.cells #[.string D[kr], .int .i64 0] 95 (0, 0)) := (hX.block _ hpb hpn).trans hpc
  simp [World.setCell, Array.getElem?_modify, e]

theorem AddI.empty (h : AddI w wr mb L F xb id came now D kr kr L1 F1 vo) (hk : kr < D.length) (he : D[kr].size = 0) : AddI w wr mb L F xb id came now D (kr + 1) kr L1 F1 vo ∧
      (addF L.lm now L.q.ds (D.take (kr + 1))).2 = (addF L.lm now L.q.ds (D.take kr)).2 ++ [⟨D[kr], 0⟩] := by
  have hadd : addF L.lm now L.q.ds (D.take (kr + 1)) = ((addF L.lm now L.q.ds (D.take kr)).1, (addF L.lm now L.q.ds (D.take kr)).2 ++ [⟨D[kr], 0⟩]) := by
    rw [addF_snoc _ _ _ _ _ hk]
    unfold addTo
    rw [if_pos he]
  exact ⟨⟨h.mg, h.ext, h.grow, h.sub, h.ms, by rw [h.q, hadd], h.xc, h.row, h.nx, h.nv⟩, by rw [hadd]⟩

theorem AddI.append (h : AddI w wr mb L F xb id came now D (kr + 1) kr L1 F1 vo) {d : ByteArray} {st : Nat} (hst : (addF L.lm now L.q.ds (D.take (kr + 1))).2 = (addF L.lm now L.q.ds (D.take kr)).2 ++ [⟨d, st⟩]) {wA : World} {v' : Value} {o : Obj}
    (hown : wA.ownsRow w.heap.size 95 2 v' (kr + 1) (rcsC (addF L.lm now L.q.ds (D.take kr)).2 ++ [.string d, .int .i64 (st : Nat)])) (hg : (wr.alloc o).grownBy wA vo.ownBlock) (hb : v'.ownBlock = vo.ownBlock ∨ v'.ownBlock = some (wr.heap.size + 1)) :
    AddI w (wA.setCell ⟨xb, 2, none⟩ v') mb L F xb id came now D (kr + 1) (kr + 1) L1 F1 v' ∧ wA.cell? ⟨xb, 2, none⟩ = some vo ∧ wA.frozen? ⟨xb, 2, none⟩ = false := by
  have hxl := heap_lt h.xc
  have hxv : vo.ownBlock ≠ some xb := fun e => by
    obtain ⟨cur, hr⟩ := row_type h.row _ e
    exact neT hr h.xc (by decide) rfl
  have hx : Ext (fun k => vo.ownBlock = some k) wr wA := ((Ext.refl _ wr).alloc o).grown hg fun g hg => .inr hg
  have e : wA.heap[xb]? = some (.cells #[.string id, .int .i64 came, vo, .bool false, .int .i64 0] 93 (0, 0)) := (hx.block xb hxl hxv).trans h.xc
  have hxa : Ext F w wA := ⟨hx.os.trans h.ext.os, hx.tape.trans h.ext.tape, hx.output.trans h.ext.output, Nat.le_trans h.ext.size hx.size, fun k hk hf => (hx.block k (Nat.lt_of_lt_of_le hk h.ext.size) fun f => by
    have := row_base h.row k f
    omega).trans (h.ext.block k hk hf)⟩
  have hmg : Mg wA mb L1 F1 := h.mg.ext hx fun k f => h.nv k f
  refine ⟨⟨hmg.setX xb 2 v' h.nx.1, hxa.setCell_new xb 2 v' h.nx.2, fun k hk => ?_, h.sub, h.ms, h.q, by simp [World.setCell, Array.getElem?_modify, e], ?_, h.nx, fun g hg' f => ?_⟩, by simp [World.cell?, e], by simp [World.frozen?, e]⟩
  · rcases h.grow k hk with h1 | h1
    · exact .inl h1
    · have := hx.size
      refine .inr ⟨h1.1, ?_⟩
      simp [World.setCell]; omega
  · rw [hst]
    have : rcsC ((addF L.lm now L.q.ds (D.take kr)).2 ++ [⟨d, st⟩]) = rcsC (addF L.lm now L.q.ds (D.take kr)).2 ++ [.string d, .int .i64 (st : Nat)] := by
      simp [rcsC, rcC]
    rw [this]
    refine row_keep hown fun g hg' => Below.heap_setCell _ _ _ _ ?_
    obtain ⟨cur, hr⟩ := row_type hown g hg'
    exact neT hr e (by decide)
  · rcases hb with hb | hb
    · exact h.nv g (by rw [← hb]; exact hg') f
    · rw [hb] at hg'
      injection hg' with hg'
      have := h.mg.lt g f
      omega
end

section
variable {w w' : World} {mb : Nat} {L : Lq} {F F' : Nat → Prop}
theorem Mg.addMail (h : Mg w mb L F) (z : LM) (v' : Value) (hF : ∀ k, F k → F' k) (hlt : ∀ k, F' k → k < w'.heap.size)
    (hx : ∀ k, F k → k ≠ mb → L.mv.ownBlock ≠ some k → w'.heap[k]? = w.heap[k]?)
    (htop : w'.heap[mb]? = some (.cells (topC { L with ms := L.ms ++ [z], mv := v' }) 87 (0, 0)))
    (hrow : w'.ownsRow 0 89 1 v' (L.ms ++ [z]).length ((L.ms ++ [z]).map mPtr))
    (hz : MailAt w' z) (hn : ¬ F z.b ∧ ∀ g, z.v.ownBlock = some g → ¬ F g) (hF' : F' z.b ∧ (∀ g, z.v.ownBlock = some g → F' g) ∧ ∀ g, v'.ownBlock = some g → F' g) : Mg w' mb { L with ms := L.ms ++ [z], mv := v' } F' := by
  have cell : ∀ {k : Nat} {c : Array Value} {t : TypeId}, F k → w.heap[k]? = some (.cells c t (0, 0)) → t ≠ 87 → t ≠ 89 → w'.heap[k]? = w.heap[k]? := by
    intro k c t hk hc h1 h2
    refine hx k hk (neT hc h.top h1) fun e => ?_
    obtain ⟨cur, hr⟩ := row_type h.mrow k e
    exact neT hc hr h2 rfl
  have rows : ∀ {base e size n : Nat} {v : Value} {xs : List Value}, w.ownsRow base e size v n xs → (∀ g, v.ownBlock = some g → F g) → e ≠ 87 → e ≠ 89 → w'.ownsRow base e size v n xs := by
    intro base e size n v xs hr hf h1 h2
    refine row_keep hr fun g hg => ?_
    obtain ⟨cur, hc⟩ := row_type hr g hg
    exact cell (hf g hg) hc h1 h2
  refine ⟨⟨htop, ?_, ?_, rows h.drow h.fr.2.1 (by decide) (by decide), ?_, rows h.jrow h.fr.2.2 (by decide) (by decide), fun z hz => rows (h.jobs z hz) (h.fj z hz) (by decide) (by decide), h.lim, h.turn, ?_, h.dsep, ⟨hF _ h.fb.1, hF _ h.fb.2⟩, ?_, ?_, ?_, ⟨hF'.2.2, fun g hg => hF g (h.fr.2.1 g hg), fun g hg => hF g (h.fr.2.2 g hg)⟩, hlt⟩, hrow⟩
  · intro y hy
    rcases List.mem_append.1 hy with hy | hy
    · have hd := h.mails y hy
      refine hd.same (cell (h.fm y hy).1 hd.cell (by decide) (by decide)) fun g hg => ?_
      obtain ⟨cur, hr⟩ := row_type hd.row _ hg
      exact cell ((h.fm y hy).2 g hg) hr (by decide) (by decide)
    · simp only [List.mem_cons, List.not_mem_nil, or_false] at hy
      subst hy; exact hz
  · intro y hy
    have hd := h.dests y hy
    exact hd.same (cell (h.fd y hy).1 hd.cell (by decide) (by decide)) (cell (h.fd y hy).2 hd.win (by decide) (by decide))
  · refine h.map.same (hx _ h.fb.2 (neM h.top h.map).symm fun e => ?_)
    obtain ⟨cur, hr⟩ := row_type h.mrow _ e
    exact neM hr h.map rfl
  · refine List.pairwise_append.2 ⟨h.msep, List.pairwise_singleton _ _, fun a ha b hb => ?_⟩
    simp only [List.mem_cons, List.not_mem_nil, or_false] at hb
    subst hb
    exact ⟨fun e => hn.1 (by rw [← e]; exact (h.fm a ha).1), fun g hg e => hn.2 g e ((h.fm a ha).2 g hg)⟩
  · intro y hy
    rcases List.mem_append.1 hy with hy | hy
    · exact ⟨hF _ (h.fm y hy).1, fun g hg => hF g ((h.fm y hy).2 g hg)⟩
    · simp only [List.mem_cons, List.not_mem_nil, or_false] at hy
      subst hy; exact ⟨hF'.1, hF'.2.1⟩
  · exact fun z hz => ⟨hF _ (h.fd z hz).1, hF _ (h.fd z hz).2⟩
  · exact fun z hz g hg => hF g (h.fj z hz g hg)
end

/-- A step of the manager, in place. -/
def StepPost (mb : Nat) (F : Nat → Prop) (q' : Qs) (w w' : World) : Prop := ∃ L' F', Mg w' mb L' F' ∧ Grow F w w' F' ∧ Ext F w w' ∧ L'.q = q'

theorem AddI.finish {w wr : World} {mb : Nat} {L : Lq} {F : Nat → Prop} {xb : Nat} {id : ByteArray} {came now : Int} {D : List ByteArray} {L1 : Lq} {F1 : Nat → Prop} {vo : Value}
    (h : AddI w wr mb L F xb id came now D D.length D.length L1 F1 vo) (hc : 0 ≤ came ∧ came ≤ 1000000000) {wA : World} {v' : Value} {o : Obj}
    (hown : wA.ownsRow 0 89 1 v' (L1.ms.length + 1) (L1.ms.map mPtr ++ [.pointer (some ⟨xb, 0, none⟩)])) (hg : (wr.alloc o).grownBy wA L1.mv.ownBlock) (hb : v'.ownBlock = L1.mv.ownBlock ∨ v'.ownBlock = some (wr.heap.size + 1)) :
    ∃ L2 F2, Mg (wA.setCell ⟨mb, 6, none⟩ v') mb L2 F2 ∧ Grow F w (wA.setCell ⟨mb, 6, none⟩ v') F2 ∧ Ext F w (wA.setCell ⟨mb, 6, none⟩ v') ∧ L2.lm = L.lm ∧
      L2.q = { L.q with ds := (addF L.lm now L.q.ds D).1, ms := L.q.ms ++ [⟨id, came, (addF L.lm now L.q.ds D).2, false, 0⟩] } ∧ wA.cell? ⟨mb, 6, none⟩ = some L1.mv ∧ wA.frozen? ⟨mb, 6, none⟩ = false := by
  have hx : Ext (fun k => L1.mv.ownBlock = some k) wr wA := ((Ext.refl _ wr).alloc o).grown hg fun g hg => .inr hg
  have hmbl := h.mg.mblt
  have hmv : L1.mv.ownBlock ≠ some mb := fun e => by
    obtain ⟨cur, hr⟩ := row_type h.mg.mrow _ e
    exact neT hr h.mg.top (by decide) rfl
  have htop : wA.heap[mb]? = some (.cells (topC L1) 87 (0, 0)) := (hx.block mb hmbl hmv).trans h.mg.top
  have hset : ∀ k, k ≠ mb → (wA.setCell ⟨mb, 6, none⟩ v').heap[k]? = wA.heap[k]? := fun k hk => Below.heap_setCell _ _ _ _ hk
  have hsz : (wA.setCell ⟨mb, 6, none⟩ v').heap.size = wA.heap.size := by simp [World.setCell]
  have hxs := hx.size
  have hes := h.ext.size
  have hFmb : F mb ∨ w.heap.size ≤ mb := by
    rcases h.grow mb h.mg.fb.1 with f | f
    · exact .inl f
    · exact .inr f.1
  have hxb : mb ≠ xb := fun e => h.nx.1 (by rw [← e]; exact h.mg.fb.1)
  have hxl := heap_lt h.xc
  have hD : D.take D.length = D := List.take_length
  have hQ := h.q
  rw [hD] at hQ
  have hrow := h.row
  rw [hD] at hrow
  have hrl := (addF_length L.lm now L.q.ds D D.length (Nat.le_refl _)).2
  rw [hD] at hrl
  have keep : ∀ k, k < wr.heap.size → ¬ F1 k → (wA.setCell ⟨mb, 6, none⟩ v').heap[k]? = wr.heap[k]? := fun k hk hn =>
    (hset k fun e => hn (by rw [e]; exact h.mg.fb.1)).trans (hx.block k hk fun e => hn (h.mg.fr.1 k e))
  refine ⟨{ L1 with ms := L1.ms ++ [⟨xb, vo, ⟨id, came, (addF L.lm now L.q.ds D).2, false, 0⟩⟩], mv := v' }, fun k => F1 k ∨ (w.heap.size ≤ k ∧ k < wA.heap.size), ?_, ?_, ?_, h.lm, ?_, by simp [World.cell?, htop, topC], by simp [World.frozen?, htop]⟩
  · refine h.mg.addMail _ v' (fun k hk => .inl hk) (fun k hk => ?_) (fun k hk h1 h2 => ?_) ?_ ?_ ?_ ⟨h.nx.1, h.nv⟩ ⟨.inr ⟨h.nx.2, by show xb < _; omega⟩, fun g hg' => .inr ⟨row_base h.row g hg', by have := row_lt h.row g hg'; omega⟩, fun g hg' => ?_⟩
    · rw [hsz]
      rcases hk with hk | hk
      · have := h.mg.lt k hk; omega
      · exact hk.2
    · exact (hset k h1).trans (hx.block k (h.mg.lt k hk) h2)
    · simp [World.setCell, Array.getElem?_modify, htop, topC]
    · rw [List.map_append, List.length_append]
      refine row_keep hown fun g hg' => hset g ?_
      obtain ⟨cur, hr⟩ := row_type hown g hg'
      exact neT hr htop (by decide)
    · refine ⟨(keep xb hxl h.nx.1).trans h.xc, ?_, hc, by simp⟩
      dsimp only
      rw [hrl]
      exact row_lower (row_keep hrow fun g hg' => keep g (row_lt hrow g hg') (h.nv g hg')) 0 (Nat.zero_le _)
    · rcases hb with hb | hb
      · exact .inl (h.mg.fr.1 g (by rw [← hb]; exact hg'))
      · have hl := row_lt hown g hg'
        rw [hb] at hg'
        injection hg' with hg'
        exact .inr ⟨by omega, hl⟩
  · intro k hk
    rw [hsz]
    rcases hk with hk | hk
    · rcases h.grow k hk with h1 | h1
      · exact .inl h1
      · exact .inr ⟨h1.1, by omega⟩
    · exact .inr hk
  · refine h.ext.grow h.grow ⟨hx.os, hx.tape, hx.output, by rw [hsz]; exact hx.size, fun k hk hn => keep k hk hn⟩
  · have : ({ L1 with ms := L1.ms ++ [⟨xb, vo, ⟨id, came, (addF L.lm now L.q.ds D).2, false, 0⟩⟩], mv := v' } : Lq).q = { L1.q with ms := L1.q.ms ++ [⟨id, came, (addF L.lm now L.q.ds D).2, false, 0⟩] } := by
      simp [Lq.q]
    rw [this, hQ]
end Go.Proofs.Ytnakafmlenngnaa.Qm
