/- Next: what its inner loop keeps. -/
import Derived.Test.YtnakafmlenngnaaQt
namespace Go.Proofs.Ytnakafmlenngnaa.Qm
open Go.RowKit Go.Proofs.Ytnakafmlenngnaa.Wi

section
variable {w w' : World} {mb : Nat} {L : Lq} {F F' : Nat → Prop}
theorem Mg.mail (h : Mg w mb L F) (i : Nat) (hi : i < L.ms.length) (m : Ml) (hs : w.heap.size ≤ w'.heap.size)
    (hx : ∀ k, F k → k ≠ L.ms[i].b → L.ms[i].v.ownBlock ≠ some k → w'.heap[k]? = w.heap[k]?) (hm : MailAt w' { L.ms[i] with m := m }) : Mg w' mb (turned L i m) F := by
  have hz := h.mails _ (List.getElem_mem hi)
  refine ⟨by rw [turned_set L i hi]; exact h.toCore.mail i hi { L.ms[i] with m := m } rfl rfl hs hx hm, ?_⟩
  have e1 : (turned L i m).ms.map mPtr = L.ms.map mPtr := by
    refine List.ext_getElem (by simp [turned]) fun j h1 h2 => ?_
    simp only [turned, List.getElem_map, List.getElem_modify]
    split
    · rename_i e; subst e; rfl
    · rfl
  have e2 : (turned L i m).ms.length = L.ms.length := by simp [turned]
  rw [e1, e2]
  refine row_keep h.mrow fun g hg => hx g (h.fr.1 g hg) ?_ fun e => ?_
  · obtain ⟨cur, hr⟩ := row_type h.mrow g hg
    exact neT hr hz.cell (by decide)
  · obtain ⟨cur, hr⟩ := row_type h.mrow g hg
    obtain ⟨cur2, hr2⟩ := row_type hz.row g e
    exact neT hr hr2 (by decide) rfl

theorem Mg.setTurn (h : Mg w mb L F) (t : Nat) (ht : t ≤ L.ds.length) : Mg (w.setCell ⟨mb, 9, none⟩ (.int .i64 (t : Nat))) mb { L with turn := t } F := by
  have hk : ∀ k, k ≠ mb → (w.setCell ⟨mb, 9, none⟩ (.int .i64 (t : Nat))).heap[k]? = w.heap[k]? := fun k hk => Below.heap_setCell _ _ _ _ hk
  refine ⟨h.toCore.top_ { L with turn := t } rfl rfl rfl rfl rfl rfl rfl ht h.fr.1 (by simp [World.setCell]) (fun k _ h1 => hk k h1) (by simp [World.setCell, Array.getElem?_modify, h.top, topC]), ?_⟩
  refine row_keep h.mrow fun g hg => hk g ?_
  obtain ⟨cur, hr⟩ := row_type h.mrow g hg
  exact neT hr h.top (by decide)

/-- A recipient's state is set. -/
theorem Mg.setRc (h : Mg w mb L F) (i : Nat) (hi : i < L.ms.length) (r : Nat) (hr : r < L.ms[i].m.rs.length) (s : Nat) (g : Nat) (hg : L.ms[i].v.ownBlock = some g) :
    Mg (w.setCell ⟨g, r * 2 + 1, none⟩ (.int .i64 (s : Nat))) mb (turned L i { L.ms[i].m with rs := L.ms[i].m.rs.set r { L.ms[i].m.rs[r] with st := s } }) F := by
  have hz := h.mails _ (List.getElem_mem hi)
  have hk : ∀ k, k ≠ g → (w.setCell ⟨g, r * 2 + 1, none⟩ (.int .i64 (s : Nat))).heap[k]? = w.heap[k]? := fun k hk => Below.heap_setCell _ _ _ _ hk
  refine h.mail i hi _ (by simp [World.setCell]) (fun k _ _ h2 => hk k fun e => h2 (by rw [hg, e])) ⟨?_, ?_, hz.came, hz.due⟩
  · obtain ⟨cur, hc⟩ := row_type hz.row g hg
    exact (hk _ (neT hz.cell hc (by decide))).trans hz.cell
  · dsimp only
    rw [List.length_set, ← rcsC_set _ r s hr]
    exact row_set hz.row g hg (r * 2 + 1) _

theorem Mg.addJob (h : Mg w mb L F) (z : LJ) (v' : Value) (hF : ∀ k, F k → F' k) (hlt : ∀ k, F' k → k < w'.heap.size)
    (hx : ∀ k, F k → k ≠ mb → L.jv.ownBlock ≠ some k → w'.heap[k]? = w.heap[k]?)
    (htop : w'.heap[mb]? = some (.cells (topC { L with jobs := L.jobs ++ [z], jv := v' }) 87 (0, 0)))
    (hrow : w'.ownsRow 0 49 3 v' (L.jobs ++ [z]).length ((L.jobs ++ [z]).flatMap jbC))
    (hz : w'.ownsRow 0 3 1 z.v z.j.rs.length (intsC z.j.rs)) (hF' : (∀ g, z.v.ownBlock = some g → F' g) ∧ ∀ g, v'.ownBlock = some g → F' g) : Mg w' mb { L with jobs := L.jobs ++ [z], jv := v' } F' := by
  have cell : ∀ {k : Nat} {c : Array Value} {t : TypeId}, F k → w.heap[k]? = some (.cells c t (0, 0)) → t ≠ 87 → t ≠ 49 → w'.heap[k]? = w.heap[k]? := by
    intro k c t hk hc h1 h2
    refine hx k hk (neT hc h.top h1) fun e => ?_
    obtain ⟨cur, hr⟩ := row_type h.jrow k e
    exact neT hc hr h2 rfl
  have rows : ∀ {base e size n : Nat} {v : Value} {xs : List Value}, w.ownsRow base e size v n xs → (∀ g, v.ownBlock = some g → F g) → e ≠ 87 → e ≠ 49 → w'.ownsRow base e size v n xs := by
    intro base e size n v xs hr hf h1 h2
    refine row_keep hr fun g hg => ?_
    obtain ⟨cur, hc⟩ := row_type hr g hg
    exact cell (hf g hg) hc h1 h2
  refine ⟨⟨htop, ?_, ?_, rows h.drow h.fr.2.1 (by decide) (by decide), ?_, hrow, ?_, h.lim, h.turn, h.msep, h.dsep, ⟨hF _ h.fb.1, hF _ h.fb.2⟩, ?_, ?_, ?_, ⟨fun g hg => hF g (h.fr.1 g hg), fun g hg => hF g (h.fr.2.1 g hg), hF'.2⟩, hlt⟩, rows h.mrow h.fr.1 (by decide) (by decide)⟩
  · intro y hy
    have hd := h.mails y hy
    refine hd.same (cell (h.fm y hy).1 hd.cell (by decide) (by decide)) fun g hg => ?_
    obtain ⟨cur, hr⟩ := row_type hd.row _ hg
    exact cell ((h.fm y hy).2 g hg) hr (by decide) (by decide)
  · intro y hy
    have hd := h.dests y hy
    exact hd.same (cell (h.fd y hy).1 hd.cell (by decide) (by decide)) (cell (h.fd y hy).2 hd.win (by decide) (by decide))
  · refine h.map.same (hx _ h.fb.2 (neM h.top h.map).symm fun e => ?_)
    obtain ⟨cur, hr⟩ := row_type h.jrow _ e
    exact neM hr h.map rfl
  · intro y hy
    rcases List.mem_append.1 hy with hy | hy
    · exact rows (h.jobs y hy) (h.fj y hy) (by decide) (by decide)
    · simp only [List.mem_cons, List.not_mem_nil, or_false] at hy
      subst hy; exact hz
  · exact fun z hz => ⟨hF _ (h.fm z hz).1, fun g hg => hF g ((h.fm z hz).2 g hg)⟩
  · exact fun z hz => ⟨hF _ (h.fd z hz).1, hF _ (h.fd z hz).2⟩
  · intro y hy
    rcases List.mem_append.1 hy with hy | hy
    · exact fun g hg => hF g (h.fj y hy g hg)
    · simp only [List.mem_cons, List.not_mem_nil, or_false] at hy
      subst hy; exact hF'.1
end

def takeF (n : ByteArray) (rs : List Rc) : List Rc × List Nat := rs.foldl (takeTo n) ([], [])
theorem takeF_snoc (n : ByteArray) (rs : List Rc) (k : Nat) (hk : k < rs.length) : takeF n (rs.take (k + 1)) = takeTo n (takeF n (rs.take k)) rs[k] := by
  unfold takeF
  rw [List.take_succ_eq_append_getElem hk, List.foldl_append]
  rfl
theorem takeF_length (n : ByteArray) (rs : List Rc) (k : Nat) (hk : k ≤ rs.length) : (takeF n (rs.take k)).1.length = k ∧ (takeF n (rs.take k)).2.length ≤ 50 := by
  induction k with
  | zero => simp [takeF]
  | succ k ih =>
    obtain ⟨h1, h2⟩ := ih (by omega)
    rw [takeF_snoc _ _ _ (by omega)]
    unfold takeTo
    split
    · rename_i hc
      simp only [Bool.and_eq_true, decide_eq_true_eq] at hc
      simp; omega
    · simp; omega

/-- The message, r of its recipients having been looked at. -/
def midM (n : ByteArray) (m : Ml) (r : Nat) : Ml := { m with rs := (takeF n (m.rs.take r)).1 ++ m.rs.drop r }

theorem midM_zero (n : ByteArray) (m : Ml) : midM n m 0 = m := by simp [midM, takeF]
theorem midM_end (n : ByteArray) (m : Ml) : midM n m m.rs.length = { m with rs := (takeF n m.rs).1 } := by simp [midM]
theorem midM_length (n : ByteArray) (m : Ml) (r : Nat) (hr : r ≤ m.rs.length) : (midM n m r).rs.length = m.rs.length := by
  have := (takeF_length n m.rs r hr).1
  simp [midM]; omega
theorem midM_at (n : ByteArray) (m : Ml) (r : Nat) (hr : r < m.rs.length) (hr' : r < (midM n m r).rs.length) : (midM n m r).rs[r] = m.rs[r] := by
  have := (takeF_length n m.rs r (by omega)).1
  simp only [midM]
  rw [List.getElem_append_right (by omega)]
  simp [this]

/-- Does the job take the recipient? -/
def takes (n : ByteArray) (m : Ml) (r : Nat) (hr : r < m.rs.length) : Bool := goes n m.rs[r] && decide ((takeF n (m.rs.take r)).2.length < 50)

theorem mid_no (n : ByteArray) (m : Ml) (r : Nat) (hr : r < m.rs.length) (h : takes n m r hr = false) : midM n m (r + 1) = midM n m r ∧ (takeF n (m.rs.take (r + 1))).2 = (takeF n (m.rs.take r)).2 := by
  have e : takeF n (m.rs.take (r + 1)) = ((takeF n (m.rs.take r)).1 ++ [m.rs[r]], (takeF n (m.rs.take r)).2) := by
    rw [takeF_snoc _ _ _ hr]
    unfold takeTo
    unfold takes at h
    rw [h]
    rfl
  constructor
  · unfold midM
    rw [e]
    simp only [List.append_assoc, List.singleton_append, List.getElem_cons_drop hr]
  · rw [e]
theorem mid_yes (n : ByteArray) (m : Ml) (r : Nat) (hr : r < m.rs.length) (h : takes n m r hr = true) : midM n m (r + 1) = { m with rs := (midM n m r).rs.set r { m.rs[r] with st := 2 } } ∧ (takeF n (m.rs.take (r + 1))).2 = (takeF n (m.rs.take r)).2 ++ [r] := by
  have hl := (takeF_length n m.rs r (by omega)).1
  have e : takeF n (m.rs.take (r + 1)) = ((takeF n (m.rs.take r)).1 ++ [{ m.rs[r] with st := 2 }], (takeF n (m.rs.take r)).2 ++ [r]) := by
    rw [takeF_snoc _ _ _ hr]
    unfold takeTo
    unfold takes at h
    rw [h, hl]
    rfl
  constructor
  · unfold midM
    rw [e]
    simp only
    congr 1
    rw [List.set_append_right _ _ (by omega), hl, Nat.sub_self, ← List.getElem_cons_drop hr, List.set_cons_zero]
    simp
  · rw [e]

structure NextI (w wr : World) (mb : Nat) (L0 : Lq) (F : Nat → Prop) (db tb zb jb a : Nat) (n : ByteArray) (z : LM) (rm rj : Nat) (vj : Value) : Prop where
  mg : Mg wr mb (turned L0 a (midM n z.m rm)) F
  ext : Ext F w wr
  bx : Boxes wr db tb zb n
  nb : ¬ F db ∧ ¬ F tb
  jc : wr.heap[jb]? = some (.cells #[.string z.m.id, .string n, vj] 49 (0, 0))
  row : wr.ownsRow w.heap.size 3 1 vj (takeF n (z.m.rs.take rj)).2.length (intsC (takeF n (z.m.rs.take rj)).2)
  nj : ¬ F jb ∧ w.heap.size < jb
  nv : ∀ g, vj.ownBlock = some g → ¬ F g
  rb : wr.heap[w.heap.size]? = some (.cells #[.string ByteArray.empty, .string ByteArray.empty, .slice none 0 0] 49 (0, 0))

section
variable {w wr : World} {mb : Nat} {L0 : Lq} {F : Nat → Prop} {db tb zb jb a : Nat} {n : ByteArray} {z : LM} {rm rj : Nat} {vj : Value}
theorem NextI.quiet (h : NextI w wr mb L0 F db tb zb jb a n z rm rj vj) {w' : World} (hx : Ext (fun _ => False) wr w') : NextI w w' mb L0 F db tb zb jb a n z rm rj vj :=
  ⟨h.mg.quiet hx, h.ext.trans (hx.mono fun _ f => f.elim), h.bx.quiet hx, h.nb, (hx.block _ (heap_lt h.jc) fun f => f).trans h.jc, row_keep h.row fun g hg => hx.block g (row_lt h.row g hg) fun f => f, h.nj, h.nv, (hx.block _ (heap_lt h.rb) fun f => f).trans h.rb⟩

theorem NextI.no (h : NextI w wr mb L0 F db tb zb jb a n z rm rm vj) (hr : rm < z.m.rs.length) (ht : takes n z.m rm hr = false) : NextI w wr mb L0 F db tb zb jb a n z (rm + 1) (rm + 1) vj := by
  obtain ⟨e1, e2⟩ := mid_no n z.m rm hr ht
  exact ⟨by rw [e1]; exact h.mg, h.ext, h.bx, h.nb, h.jc, by rw [e2]; exact h.row, h.nj, h.nv, h.rb⟩

theorem turned_at {L : Lq} {i : Nat} {m : Ml} (hi : i < L.ms.length) (hi' : i < (turned L i m).ms.length) : (turned L i m).ms[i] = { L.ms[i] with m := m } := by
  simp [turned]
theorem turned_turned (L : Lq) (i : Nat) (m m' : Ml) : turned (turned L i m) i m' = turned L i m' := by
  unfold turned
  congr 1
  dsimp only
  refine List.ext_getElem (by simp) fun j h1 h2 => ?_
  simp only [List.getElem_modify]
  split <;> rfl
theorem turned_length (L : Lq) (i : Nat) (m : Ml) : (turned L i m).ms.length = L.ms.length := by simp [turned]

theorem NextI.mailz (h : NextI w wr mb L0 F db tb zb jb a n z rm rj vj) (ha : a < L0.ms.length) (hz : L0.ms[a] = z) : MailAt wr { z with m := midM n z.m rm } := by
  have hl : a < (turned L0 a (midM n z.m rm)).ms.length := by rw [turned_length]; exact ha
  have := h.mg.mails _ (List.getElem_mem hl)
  rw [turned_at ha hl, hz] at this
  exact this

/-- The recipient's state is set: flying. -/
theorem NextI.fly (h : NextI w wr mb L0 F db tb zb jb a n z rm rm vj) (ha : a < L0.ms.length) (hz : L0.ms[a] = z) (hr : rm < z.m.rs.length) (ht : takes n z.m rm hr = true) (g : Nat) (hg : z.v.ownBlock = some g) :
    NextI w (wr.setCell ⟨g, rm * 2 + 1, none⟩ (.int .i64 2)) mb L0 F db tb zb jb a n z (rm + 1) rm vj := by
  obtain ⟨e1, -⟩ := mid_yes n z.m rm hr ht
  have hl : a < (turned L0 a (midM n z.m rm)).ms.length := by rw [turned_length]; exact ha
  have hat := turned_at (m := midM n z.m rm) ha hl
  have hmz := h.mailz ha hz
  have hr2 : rm < (midM n z.m rm).rs.length := by rw [midM_length _ _ _ (by omega)]; exact hr
  have hFg : F g := by
    have := (h.mg.fm _ (List.getElem_mem hl)).2 g
    rw [hat, hz] at this
    exact this hg
  obtain ⟨cur, hgc⟩ := row_type hmz.row g hg
  have hk : ∀ k, k ≠ g → (wr.setCell ⟨g, rm * 2 + 1, none⟩ (.int .i64 2)).heap[k]? = wr.heap[k]? := fun k hk => Below.heap_setCell _ _ _ _ hk
  have hsz : (wr.setCell ⟨g, rm * 2 + 1, none⟩ (.int .i64 2)).heap.size = wr.heap.size := by simp [World.setCell]
  have hx : Ext (· = g) wr (wr.setCell ⟨g, rm * 2 + 1, none⟩ (.int .i64 2)) := (Ext.refl _ _).setCell g _ _ rfl
  refine ⟨?_, h.ext.setCell g _ _ hFg, ?_, h.nb, (hk _ fun e => h.nj.1 (by rw [e]; exact hFg)).trans h.jc, row_keep h.row fun k hk' => hk k fun e => h.nv k hk' (by rw [e]; exact hFg), h.nj, h.nv, (hk _ fun e => ?_).trans h.rb⟩
  · have := h.mg.setRc a hl rm (by simpa [hat] using hr2) 2 g (by rw [hat, hz]; exact hg)
    rw [turned_turned] at this
    have e2 : ({ (turned L0 a (midM n z.m rm)).ms[a].m with rs := (turned L0 a (midM n z.m rm)).ms[a].m.rs.set rm { ((turned L0 a (midM n z.m rm)).ms[a].m.rs[rm]'(by simpa [hat] using hr2)) with st := 2 } } : Ml) = midM n z.m (rm + 1) := by
      rw [e1]
      simp only [hat]
      rw [midM_at n z.m rm hr hr2]
      rfl
    rw [e2] at this
    exact this
  · obtain ⟨_, _, hc⟩ := h.bx.n
    exact h.bx.ext hx (fun e => h.nb.1 (by rw [e]; exact hFg)) (fun e => h.nb.2 (by rw [e]; exact hFg)) (neT hc hgc (by decide))
  · rw [← e] at hgc
    exact neT h.rb hgc (by decide) rfl

theorem intsC_append (l : List Nat) (r : Nat) : intsC (l ++ [r]) = intsC l ++ [.int .i64 (r : Nat)] := by simp [intsC]

/-- .. and it is in the job. -/
theorem NextI.put (h : NextI w wr mb L0 F db tb zb jb a n z (rm + 1) rm vj) (hr : rm < z.m.rs.length) (ht : takes n z.m rm hr = true) {wA : World} {v' : Value} {o : Obj}
    (hown : wA.ownsRow w.heap.size 3 1 v' ((takeF n (z.m.rs.take rm)).2.length + 1) (intsC (takeF n (z.m.rs.take rm)).2 ++ [.int .i64 (rm : Nat)])) (hg : (wr.alloc o).grownBy wA vj.ownBlock) (hb : v'.ownBlock = vj.ownBlock ∨ v'.ownBlock = some (wr.heap.size + 1)) :
    NextI w (wA.setCell ⟨jb, 2, none⟩ v') mb L0 F db tb zb jb a n z (rm + 1) (rm + 1) v' ∧ wA.cell? ⟨jb, 2, none⟩ = some vj ∧ wA.frozen? ⟨jb, 2, none⟩ = false := by
  obtain ⟨-, e2⟩ := mid_yes n z.m rm hr ht
  have hjl := heap_lt h.jc
  have hjv : vj.ownBlock ≠ some jb := fun e => by
    obtain ⟨cur, hr⟩ := row_type h.row _ e
    exact neT hr h.jc (by decide) rfl
  have hx : Ext (fun k => vj.ownBlock = some k) wr wA := ((Ext.refl _ wr).alloc o).grown hg fun g hg => .inr hg
  have e : wA.heap[jb]? = some (.cells #[.string z.m.id, .string n, vj] 49 (0, 0)) := (hx.block jb hjl hjv).trans h.jc
  have hx2 : Ext (fun k => vj.ownBlock = some k ∨ k = jb) wr (wA.setCell ⟨jb, 2, none⟩ v') := (hx.mono fun _ f => .inl f).setCell jb 2 v' (.inr rfl)
  have hxa : Ext F w (wA.setCell ⟨jb, 2, none⟩ v') := ⟨hx2.os.trans h.ext.os, hx2.tape.trans h.ext.tape, hx2.output.trans h.ext.output, Nat.le_trans h.ext.size hx2.size, fun k hk hf => (hx2.block k (Nat.lt_of_lt_of_le hk h.ext.size) fun f => by
    rcases f with f | f
    · have := row_base h.row k f
      omega
    · have := h.nj.2
      omega).trans (h.ext.block k hk hf)⟩
  have hbx : Boxes (wA.setCell ⟨jb, 2, none⟩ v') db tb zb n := by
    refine h.bx.ext hx2 (fun f => ?_) (fun f => ?_) (fun f => ?_)
    · rcases f with f | f
      · obtain ⟨cur, hr⟩ := row_type h.row _ f
        exact neT hr h.bx.d (by decide) rfl
      · exact neT h.bx.d h.jc (by decide) f
    · rcases f with f | f
      · obtain ⟨cur, hr⟩ := row_type h.row _ f
        exact neT hr h.bx.t (by decide) rfl
      · exact neT h.bx.t h.jc (by decide) f
    · obtain ⟨_, _, h1⟩ := h.bx.n
      rcases f with f | f
      · obtain ⟨cur, hr⟩ := row_type h.row _ f
        exact neT hr h1 (by decide) rfl
      · exact neT h1 h.jc (by decide) f
  refine ⟨⟨h.mg.ext hx2 fun k f => ?_, hxa, hbx, h.nb, by simp [World.setCell, Array.getElem?_modify, e], ?_, h.nj, fun g hg' f => ?_, ?_⟩, by simp [World.cell?, e], by simp [World.frozen?, e]⟩
  · rcases f with f | f
    · exact h.nv k f
    · rw [f]; exact h.nj.1
  · rw [e2, intsC_append, List.length_append]
    refine row_keep hown fun g hg' => Below.heap_setCell _ _ _ _ ?_
    obtain ⟨cur, hr⟩ := row_type hown g hg'
    exact neT hr e (by decide)
  · rcases hb with hb | hb
    · exact h.nv g (by rw [← hb]; exact hg') f
    · rw [hb] at hg'
      injection hg' with hg'
      have := h.mg.lt g f
      omega
  · refine (hx2.block _ (heap_lt h.rb) fun f => ?_).trans h.rb
    rcases f with f | f
    · obtain ⟨cur, hr⟩ := row_type h.row _ f
      exact neT hr h.rb (by decide) rfl
    · have := h.nj.2; omega
end
end Go.Proofs.Ytnakafmlenngnaa.Qm
