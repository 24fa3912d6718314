/- How the manager lies in memory. -/
import Derived.Test.YtnakafmlenngnaaQm
import Derived.Test.YtnakafmlenngnaaQd
namespace Go.Proofs.Ytnakafmlenngnaa.Qm
open Go.RowKit Go.Proofs.Ytnakafmlenngnaa.Wi

/-- A message at its block, with its recipients' row; a destination at its block, with its window's; a job with its row. -/
structure LM where
  b : Nat
  v : Value
  m : Ml
structure LD where
  b : Nat
  wb : Nat
  d : Ds
structure LJ where
  v : Value
  j : Jb
structure Lq where
  lm : Lm
  mp : Nat
  mv : Value
  dv : Value
  jv : Value
  ms : List LM
  ds : List LD
  turn : Nat
  jobs : List LJ
def Lq.q (L : Lq) : Qs := ⟨L.lm, L.ms.map (·.m), L.ds.map (·.d), L.turn, L.jobs.map (·.j)⟩

def rcC (r : Rc) : List Value := [.string r.dest, .int .i64 (r.st : Nat)]
def rcsC (l : List Rc) : List Value := l.flatMap rcC
def jbC (z : LJ) : List Value := [.string z.j.id, .string z.j.dest, z.v]
def intsC (l : List Nat) : List Value := l.map fun (n : Nat) => Value.int .i64 (n : Int)
def mPtr (z : LM) : Value := .pointer (some ⟨z.b, 0, none⟩)
def dPtr (z : LD) : Value := .pointer (some ⟨z.b, 0, none⟩)

theorem rcsC_length (l : List Rc) : (rcsC l).length = l.length * 2 := by
  induction l with
  | nil => rfl
  | cons r l ih =>
    show (rcC r ++ rcsC l).length = _
    rw [List.length_append, ih, List.length_cons]
    simp [rcC]; omega
theorem rcsC_at (l : List Rc) (k : Nat) (hk : k < l.length) : (rcsC l)[k * 2]? = some (.string l[k].dest) ∧ (rcsC l)[k * 2 + 1]? = some (.int .i64 (l[k].st : Nat)) := by
  induction l generalizing k with
  | nil => simp at hk
  | cons r l ih =>
    cases k with
    | zero => exact ⟨rfl, rfl⟩
    | succ k =>
      have := ih k (by simpa using hk)
      simp only [rcsC, List.flatMap_cons, rcC, List.cons_append, List.nil_append, List.getElem_cons_succ] at this ⊢
      rw [show (k + 1) * 2 = k * 2 + 1 + 1 by omega, show k * 2 + 1 + 1 + 1 = (k * 2 + 1) + 1 + 1 by omega]
      simp only [List.getElem?_cons_succ]
      exact this
theorem rcsC_set (l : List Rc) (k s : Nat) (hk : k < l.length) : (rcsC l).set (k * 2 + 1) (.int .i64 (s : Nat)) = rcsC (l.set k { l[k] with st := s }) := by
  induction l generalizing k with
  | nil => simp at hk
  | cons r l ih =>
    cases k with
    | zero => rfl
    | succ k =>
      have := ih k (by simpa using hk)
      simp only [rcsC, List.flatMap_cons, rcC, List.cons_append, List.nil_append, List.getElem_cons_succ, List.set_cons_succ] at this ⊢
      rw [show (k + 1) * 2 = k * 2 + 1 + 1 by omega]
      simp only [List.set_cons_succ]
      rw [this]

structure MailAt (w : World) (z : LM) : Prop where
  cell : w.heap[z.b]? = some (.cells #[.string z.m.id, .int .i64 z.m.came, z.v, .bool z.m.waits, .int .i64 z.m.due] 93 (0, 0))
  row : w.ownsRow 0 95 2 z.v z.m.rs.length (rcsC z.m.rs)
  came : 0 ≤ z.m.came ∧ z.m.came ≤ 1000000000
  due : 0 ≤ z.m.due ∧ z.m.due ≤ 1000000000

structure DestAt (w : World) (lm : Lm) (z : LD) : Prop where
  cell : w.heap[z.b]? = some (.cells #[.string z.d.name, .pointer (some ⟨z.wb, 0, none⟩), .int .i64 z.d.rev] 101 (0, 0))
  win : Win w z.wb lm.ini lm.lim z.d.s z.d.c z.d.f
  st : Stands lm.lim z.d.s z.d.c z.d.f
  rev : 0 ≤ z.d.rev ∧ z.d.rev ≤ 2000000000

def topC (L : Lq) : Array Value := #[.int .i64 L.lm.active, .int .i64 (L.lm.ini : Nat), .int .i64 (L.lm.lim : Nat), .int .i64 L.lm.minb, .int .i64 L.lm.maxb, .int .i64 L.lm.life, L.mv, L.dv, .map (some L.mp), .int .i64 (L.turn : Nat), L.jv]

/-- The manager at block mb, all but its row of messages; all its blocks are of F. -/
structure Core (w : World) (mb : Nat) (L : Lq) (F : Nat → Prop) : Prop where
  top : w.heap[mb]? = some (.cells (topC L) 87 (0, 0))
  mails : ∀ z ∈ L.ms, MailAt w z
  dests : ∀ z ∈ L.ds, DestAt w L.lm z
  drow : w.ownsRow 0 99 1 L.dv L.ds.length (L.ds.map dPtr)
  map : SMap w L.mp (L.ds.map fun z => (z.d.name, dPtr z))
  jrow : w.ownsRow 0 49 3 L.jv L.jobs.length (L.jobs.flatMap jbC)
  jobs : ∀ z ∈ L.jobs, w.ownsRow 0 3 1 z.v z.j.rs.length (intsC z.j.rs)
  lim : L.lm.Ok
  turn : L.turn ≤ L.ds.length
  msep : L.ms.Pairwise fun a b => a.b ≠ b.b ∧ ∀ g, a.v.ownBlock = some g → b.v.ownBlock ≠ some g
  dsep : L.ds.Pairwise fun a b => a.b ≠ b.b ∧ a.wb ≠ b.wb
  fb : F mb ∧ F L.mp
  fm : ∀ z ∈ L.ms, F z.b ∧ ∀ g, z.v.ownBlock = some g → F g
  fd : ∀ z ∈ L.ds, F z.b ∧ F z.wb
  fj : ∀ z ∈ L.jobs, ∀ g, z.v.ownBlock = some g → F g
  fr : (∀ g, L.mv.ownBlock = some g → F g) ∧ (∀ g, L.dv.ownBlock = some g → F g) ∧ (∀ g, L.jv.ownBlock = some g → F g)
  lt : ∀ k, F k → k < w.heap.size

/-- .. and its row of messages. -/
structure Mg (w : World) (mb : Nat) (L : Lq) (F : Nat → Prop) : Prop extends Core w mb L F where
  mrow : w.ownsRow 0 89 1 L.mv L.ms.length (L.ms.map mPtr)

/-- The blocks of F' are of F, or were made on the way from w to w'. -/
def Grow (F : Nat → Prop) (w w' : World) (F' : Nat → Prop) : Prop := ∀ k, F' k → F k ∨ (w.heap.size ≤ k ∧ k < w'.heap.size)
theorem Grow.refl (F : Nat → Prop) (w w' : World) : Grow F w w' F := fun _ h => .inl h
theorem Grow.trans {F F' F'' : Nat → Prop} {a b c : World} (h : Grow F a b F') (k : Grow F' b c F'') (hab : a.heap.size ≤ b.heap.size) (hbc : b.heap.size ≤ c.heap.size) : Grow F a c F'' := by
  intro i hi
  rcases k i hi with h1 | h1
  · rcases h i h1 with h2 | h2
    · exact .inl h2
    · exact .inr ⟨h2.1, by omega⟩
  · exact .inr ⟨by omega, h1.2⟩
theorem Ext.grow {F F' : Nat → Prop} {a b c : World} (h : Ext F a b) (g : Grow F a b F') (k : Ext F' b c) : Ext F a c :=
  ⟨k.os.trans h.os, k.tape.trans h.tape, k.output.trans h.output, Nat.le_trans h.size k.size, fun i hi hf => (k.block i (Nat.lt_of_lt_of_le hi h.size) fun f => by
    rcases g i f with h1 | h1
    · exact hf h1
    · omega).trans (h.block i hi hf)⟩

theorem neT {w : World} {a b : Nat} {c d : Array Value} {s t : TypeId} {p q : Nat × Nat} (h1 : w.heap[a]? = some (.cells c s p)) (h2 : w.heap[b]? = some (.cells d t q)) (h : s ≠ t) : a ≠ b := by
  rintro rfl
  rw [h1] at h2
  injection h2 with h2
  injection h2 with _ h3
  exact h h3
theorem neM {w : World} {a b : Nat} {c : Array Value} {s : TypeId} {p : Nat × Nat} {l : List (ByteArray × Value)} (h1 : w.heap[a]? = some (.cells c s p)) (h2 : SMap w b l) : a ≠ b := by
  rintro rfl
  obtain ⟨es, ck, h2, -⟩ := h2
  rw [h1] at h2
  injection h2 with h2
  cases h2
theorem heap_lt {w : World} {b : Nat} {o : Obj} (h : w.heap[b]? = some o) : b < w.heap.size := (Array.getElem?_eq_some_iff.1 h).1

theorem SMap.lt {w : World} {b : Nat} {l : List (ByteArray × Value)} (h : SMap w b l) : b < w.heap.size := by
  obtain ⟨e, c, hb, _⟩ := h
  exact heap_lt hb
theorem SMap.same {w w' : World} {b : Nat} {l : List (ByteArray × Value)} (h : SMap w b l) (hx : w'.heap[b]? = w.heap[b]?) : SMap w' b l := by
  obtain ⟨e, c, hb, he⟩ := h
  exact ⟨e, c, hx.trans hb, he⟩

theorem MailAt.same {w w' : World} {z : LM} (h : MailAt w z) (h1 : w'.heap[z.b]? = w.heap[z.b]?) (h2 : ∀ g, z.v.ownBlock = some g → w'.heap[g]? = w.heap[g]?) : MailAt w' z :=
  ⟨h1.trans h.cell, row_keep h.row h2, h.came, h.due⟩
theorem Win.same {w w' : World} {b i l s c f : Nat} (h : Win w b i l s c f) (h1 : w'.heap[b]? = w.heap[b]?) : Win w' b i l s c f := h1.trans h
theorem DestAt.same {w w' : World} {lm : Lm} {z : LD} (h : DestAt w lm z) (h1 : w'.heap[z.b]? = w.heap[z.b]?) (h2 : w'.heap[z.wb]? = w.heap[z.wb]?) : DestAt w' lm z :=
  ⟨h1.trans h.cell, Win.same h.win h2, h.st, h.rev⟩

section
variable {w w' : World} {mb : Nat} {L : Lq} {F F' : Nat → Prop}
/-- What a manager asks of the blocks to stand: those that turned are none of its own. -/
theorem Core.same (h : Core w mb L F) (hs : w.heap.size ≤ w'.heap.size) (hx : ∀ k, F k → w'.heap[k]? = w.heap[k]?) : Core w' mb L F where
  top := (hx mb h.fb.1).trans h.top
  mails z hz := (h.mails z hz).same (hx _ (h.fm z hz).1) fun g hg => hx g ((h.fm z hz).2 g hg)
  dests z hz := (h.dests z hz).same (hx _ (h.fd z hz).1) (hx _ (h.fd z hz).2)
  drow := row_keep h.drow fun g hg => hx g (h.fr.2.1 g hg)
  map := h.map.same (hx _ h.fb.2)
  jrow := row_keep h.jrow fun g hg => hx g (h.fr.2.2 g hg)
  jobs z hz := row_keep (h.jobs z hz) fun g hg => hx g (h.fj z hz g hg)
  lim := h.lim
  turn := h.turn
  msep := h.msep
  dsep := h.dsep
  fb := h.fb
  fm := h.fm
  fd := h.fd
  fj := h.fj
  fr := h.fr
  lt k hk := Nat.lt_of_lt_of_le (h.lt k hk) hs
theorem Mg.same (h : Mg w mb L F) (hs : w.heap.size ≤ w'.heap.size) (hx : ∀ k, F k → w'.heap[k]? = w.heap[k]?) : Mg w' mb L F :=
  ⟨h.toCore.same hs hx, row_keep h.mrow fun g hg => hx g (h.fr.1 g hg)⟩
theorem Core.ext {G : Nat → Prop} (h : Core w mb L F) (hx : Ext G w w') (hG : ∀ k, G k → ¬ F k) : Core w' mb L F :=
  h.same hx.size fun k hk => hx.block k (h.lt k hk) fun g => hG k g hk
theorem Mg.ext {G : Nat → Prop} (h : Mg w mb L F) (hx : Ext G w w') (hG : ∀ k, G k → ¬ F k) : Mg w' mb L F :=
  h.same hx.size fun k hk => hx.block k (h.lt k hk) fun g => hG k g hk
theorem Core.quiet (h : Core w mb L F) (hx : Ext (fun _ => False) w w') : Core w' mb L F := h.ext hx fun _ f => f.elim
theorem Mg.quiet (h : Mg w mb L F) (hx : Ext (fun _ => False) w w') : Mg w' mb L F := h.ext hx fun _ f => f.elim

/-- A message turned, or its row. -/
theorem Core.mail (h : Core w mb L F) (i : Nat) (hi : i < L.ms.length) (z' : LM) (hb : z'.b = L.ms[i].b) (hv : z'.v = L.ms[i].v) (hs : w.heap.size ≤ w'.heap.size)
    (hx : ∀ k, F k → k ≠ z'.b → z'.v.ownBlock ≠ some k → w'.heap[k]? = w.heap[k]?) (hm : MailAt w' z') : Core w' mb { L with ms := L.ms.set i z' } F := by
  have hmem : L.ms[i] ∈ L.ms := List.getElem_mem hi
  have ho := h.mails _ hmem
  rw [hb, hv] at hx
  -- a block of another kind is as it was
  have other : ∀ k c t, F k → w.heap[k]? = some (.cells c t (0, 0)) → t ≠ 93 → t ≠ 95 → w'.heap[k]? = w.heap[k]? := by
    intro k c t hk hc h1 h2
    refine hx k hk (neT hc ho.cell h1) fun e => ?_
    obtain ⟨cur, hr⟩ := row_type ho.row k e
    exact neT hc hr h2 rfl
  have rows : ∀ {base e size n : Nat} {v : Value} {xs : List Value}, w.ownsRow base e size v n xs → (∀ g, v.ownBlock = some g → F g) → e ≠ 93 → e ≠ 95 → w'.ownsRow base e size v n xs := by
    intro base e size n v xs hr hf h1 h2
    refine row_keep hr fun g hg => ?_
    obtain ⟨cur, hc⟩ := row_type hr g hg
    exact other g _ _ (hf g hg) hc h1 h2
  refine ⟨(other mb _ _ h.fb.1 h.top (by decide) (by decide)).trans h.top, ?_, ?_, rows h.drow h.fr.2.1 (by decide) (by decide), ?_, rows h.jrow h.fr.2.2 (by decide) (by decide), fun z hz => rows (h.jobs z hz) (h.fj z hz) (by decide) (by decide), h.lim, h.turn, ?_, h.dsep, h.fb, ?_, h.fd, h.fj, h.fr, fun k hk => Nat.lt_of_lt_of_le (h.lt k hk) hs⟩
  · intro z hz
    obtain ⟨j, hj, e⟩ := List.getElem_of_mem hz
    rw [List.getElem_set] at e
    split at e
    · rw [← e]; exact hm
    · rename_i hij
      simp only [List.length_set] at hj
      have hzm : L.ms[j] ∈ L.ms := List.getElem_mem hj
      rw [← e]
      have hsep : L.ms[j].b ≠ L.ms[i].b ∧ (∀ g, L.ms[j].v.ownBlock = some g → L.ms[i].v.ownBlock ≠ some g) := by
        rcases Nat.lt_or_ge j i with f | f
        · exact List.pairwise_iff_getElem.1 h.msep j i hj hi f
        · obtain ⟨a, b⟩ := List.pairwise_iff_getElem.1 h.msep i j hi hj (by omega)
          exact ⟨fun e => a e.symm, fun g h1 h2 => b g h2 h1⟩
      have hzo := h.mails _ hzm
      refine hzo.same (hx _ (h.fm _ hzm).1 hsep.1 fun e => ?_) fun g hg => hx g ((h.fm _ hzm).2 g hg) ?_ (hsep.2 g hg)
      · obtain ⟨cur, hr⟩ := row_type ho.row _ e
        exact neT hzo.cell hr (by decide) rfl
      · obtain ⟨cur, hr⟩ := row_type hzo.row _ hg
        exact fun e => neT hr ho.cell (by decide) e
  · intro z hz
    have hd := h.dests z hz
    exact hd.same (other _ _ _ (h.fd z hz).1 hd.cell (by decide) (by decide)) (other _ _ _ (h.fd z hz).2 hd.win (by decide) (by decide))
  · refine h.map.same (hx _ h.fb.2 (fun e => neM ho.cell h.map e.symm) fun e => ?_)
    obtain ⟨cur, hr⟩ := row_type ho.row _ e
    exact neM hr h.map rfl
  · rw [List.pairwise_iff_getElem]
    intro j k hj hk hjk
    simp only [List.length_set] at hj hk
    have := List.pairwise_iff_getElem.1 h.msep j k hj hk hjk
    simp only [List.getElem_set]
    split <;> split <;> rename_i e1 e2
    · omega
    · subst e1; rw [hb, hv]; exact this
    · subst e2; rw [hb, hv]; exact this
    · exact this
  · intro z hz
    rcases List.mem_or_eq_of_mem_set hz with hz | rfl
    · exact h.fm z hz
    · rw [hb, hv]; exact h.fm _ hmem

/-- A destination turned, or its window. -/
theorem Core.dest (h : Core w mb L F) (i : Nat) (hi : i < L.ds.length) (z' : LD) (hb : z'.b = L.ds[i].b) (hv : z'.wb = L.ds[i].wb) (hn : z'.d.name = L.ds[i].d.name) (hs : w.heap.size ≤ w'.heap.size)
    (hx : ∀ k, F k → k ≠ z'.b → k ≠ z'.wb → w'.heap[k]? = w.heap[k]?) (hm : DestAt w' L.lm z') : Core w' mb { L with ds := L.ds.set i z' } F := by
  have hmem : L.ds[i] ∈ L.ds := List.getElem_mem hi
  have ho := h.dests _ hmem
  rw [hb, hv] at hx
  have other : ∀ k c t, F k → w.heap[k]? = some (.cells c t (0, 0)) → t ≠ 101 → t ≠ 79 → w'.heap[k]? = w.heap[k]? := by
    intro k c t hk hc h1 h2
    exact hx k hk (neT hc ho.cell h1) (neT hc ho.win h2)
  have rows : ∀ {base e size n : Nat} {v : Value} {xs : List Value}, w.ownsRow base e size v n xs → (∀ g, v.ownBlock = some g → F g) → e ≠ 101 → e ≠ 79 → w'.ownsRow base e size v n xs := by
    intro base e size n v xs hr hf h1 h2
    refine row_keep hr fun g hg => ?_
    obtain ⟨cur, hc⟩ := row_type hr g hg
    exact other g _ _ (hf g hg) hc h1 h2
  have hmap : ∀ (g : LD → ByteArray × Value), (∀ z : LD, z.b = L.ds[i].b → z.d.name = L.ds[i].d.name → g z = g L.ds[i]) → (L.ds.set i z').map g = L.ds.map g := by
    intro g hg
    rw [List.map_set, hg z' hb hn]
    refine List.ext_getElem (by simp) fun j h1 h2 => ?_
    rw [List.getElem_set]
    split
    · rename_i e; subst e; simp
    · rfl
  have hp : (L.ds.set i z').map dPtr = L.ds.map dPtr := by
    rw [List.map_set]
    refine List.ext_getElem (by simp) fun j h1 h2 => ?_
    rw [List.getElem_set]
    split
    · rename_i e; subst e; simp [dPtr, hb]
    · rfl
  refine ⟨(other mb _ _ h.fb.1 h.top (by decide) (by decide)).trans h.top, ?_, ?_, ?_, ?_, rows h.jrow h.fr.2.2 (by decide) (by decide), fun z hz => rows (h.jobs z hz) (h.fj z hz) (by decide) (by decide), h.lim, by simpa using h.turn, h.msep, ?_, h.fb, h.fm, ?_, h.fj, h.fr, fun k hk => Nat.lt_of_lt_of_le (h.lt k hk) hs⟩
  · intro z hz
    have hd := h.mails z hz
    refine hd.same (other _ _ _ (h.fm z hz).1 hd.cell (by decide) (by decide)) fun g hg => ?_
    obtain ⟨cur, hr⟩ := row_type hd.row _ hg
    exact other _ _ _ ((h.fm z hz).2 g hg) hr (by decide) (by decide)
  · intro z hz
    obtain ⟨j, hj, e⟩ := List.getElem_of_mem hz
    rw [List.getElem_set] at e
    split at e
    · rw [← e]; exact hm
    · rename_i hij
      simp only [List.length_set] at hj
      have hzm : L.ds[j] ∈ L.ds := List.getElem_mem hj
      rw [← e]
      have hsep : L.ds[j].b ≠ L.ds[i].b ∧ L.ds[j].wb ≠ L.ds[i].wb := by
        rcases Nat.lt_or_ge j i with f | f
        · exact List.pairwise_iff_getElem.1 h.dsep j i hj hi f
        · obtain ⟨a, b⟩ := List.pairwise_iff_getElem.1 h.dsep i j hi hj (by omega)
          exact ⟨fun e => a e.symm, fun e => b e.symm⟩
      have hzo := h.dests _ hzm
      exact hzo.same (hx _ (h.fd _ hzm).1 hsep.1 (neT hzo.cell ho.win (by decide))) (hx _ (h.fd _ hzm).2 (neT hzo.win ho.cell (by decide)) hsep.2)
  · simp only [List.length_set]
    rw [hp]
    exact rows h.drow h.fr.2.1 (by decide) (by decide)
  · rw [hmap _ fun z h1 h2 => by simp [dPtr, h1, h2]]
    exact h.map.same (hx _ h.fb.2 (fun e => neM ho.cell h.map e.symm) (fun e => neM ho.win h.map e.symm))
  · rw [List.pairwise_iff_getElem]
    intro j k hj hk hjk
    simp only [List.length_set] at hj hk
    have := List.pairwise_iff_getElem.1 h.dsep j k hj hk hjk
    simp only [List.getElem_set]
    split <;> split <;> rename_i e1 e2
    · omega
    · subst e1; rw [hb, hv]; exact this
    · subst e2; rw [hb, hv]; exact this
    · exact this
  · intro z hz
    rcases List.mem_or_eq_of_mem_set hz with hz | rfl
    · exact h.fd z hz
    · rw [hb, hv]; exact h.fd _ hmem

/-- The manager's own block turned, and nothing else. -/
theorem Core.top_ (h : Core w mb L F) (L' : Lq) (h1 : L'.lm = L.lm) (h2 : L'.mp = L.mp) (h3 : L'.dv = L.dv) (h4 : L'.jv = L.jv) (h5 : L'.ms = L.ms) (h6 : L'.ds = L.ds) (h7 : L'.jobs = L.jobs) (ht : L'.turn ≤ L.ds.length)
    (hv : ∀ g, L'.mv.ownBlock = some g → F g) (hs : w.heap.size ≤ w'.heap.size) (hx : ∀ k, F k → k ≠ mb → w'.heap[k]? = w.heap[k]?) (hm : w'.heap[mb]? = some (.cells (topC L') 87 (0, 0))) : Core w' mb L' F := by
  have other : ∀ k c t, F k → w.heap[k]? = some (.cells c t (0, 0)) → t ≠ 87 → w'.heap[k]? = w.heap[k]? := by
    intro k c t hk hc h1
    exact hx k hk (neT hc h.top h1)
  have rows : ∀ {base e size n : Nat} {v : Value} {xs : List Value}, w.ownsRow base e size v n xs → (∀ g, v.ownBlock = some g → F g) → e ≠ 87 → w'.ownsRow base e size v n xs := by
    intro base e size n v xs hr hf h1
    refine row_keep hr fun g hg => ?_
    obtain ⟨cur, hc⟩ := row_type hr g hg
    exact other g _ _ (hf g hg) hc h1
  refine ⟨hm, ?_, ?_, ?_, ?_, ?_, ?_, by rw [h1]; exact h.lim, by rw [h6]; exact ht, by rw [h5]; exact h.msep, by rw [h6]; exact h.dsep, by rw [h2]; exact h.fb, by rw [h5]; exact h.fm, by rw [h6]; exact h.fd, by rw [h7]; exact h.fj, by rw [h3, h4]; exact ⟨hv, h.fr.2⟩, fun k hk => Nat.lt_of_lt_of_le (h.lt k hk) hs⟩
  · rw [h5]
    intro z hz
    have hd := h.mails z hz
    refine hd.same (other _ _ _ (h.fm z hz).1 hd.cell (by decide)) fun g hg => ?_
    obtain ⟨cur, hr⟩ := row_type hd.row _ hg
    exact other _ _ _ ((h.fm z hz).2 g hg) hr (by decide)
  · rw [h6, h1]
    intro z hz
    have hd := h.dests z hz
    exact hd.same (other _ _ _ (h.fd z hz).1 hd.cell (by decide)) (other _ _ _ (h.fd z hz).2 hd.win (by decide))
  · rw [h3, h6]; exact rows h.drow h.fr.2.1 (by decide)
  · rw [h2, h6]; exact h.map.same (hx _ h.fb.2 (fun e => neM h.top h.map e.symm))
  · rw [h4, h7]; exact rows h.jrow h.fr.2.2 (by decide)
  · rw [h7]; exact fun z hz => rows (h.jobs z hz) (h.fj z hz) (by decide)
end
end Go.Proofs.Ytnakafmlenngnaa.Qm
