/- Next: its stages. -/
import Derived.Test.YtnakafmlenngnaaQu
namespace Go.Proofs.Ytnakafmlenngnaa.Qm
open Go.RowKit Go.Proofs.Ytnakafmlenngnaa.Wi

/-- The manager, a delivery having begun at destination i. -/
def tookL (L : Lq) (i : Nat) : Lq := { L with ds := L.ds.modify i fun z => { z with d := { z.d with f := z.d.f + 1 } }, turn := (i + 1) % L.ds.length }

theorem tookL_set (L : Lq) (i : Nat) (hi : i < L.ds.length) : tookL L i = { { L with ds := L.ds.set i { L.ds[i] with d := { L.ds[i].d with f := L.ds[i].d.f + 1 } } } with turn := (i + 1) % L.ds.length } := by
  unfold tookL
  rw [modify_set _ _ _ hi]

def resO : Obj := .cells #[.string ByteArray.empty, .string ByteArray.empty, .slice none 0 0] 49

/-- Behind Take. -/
theorem took_mg {w2 w3 : World} {mb : Nat} {L : Lq} {F : Nat → Prop} (h : Mg w2 mb L F) (i : Nat) (hi : i < L.ds.length) (hf : L.ds[i].d.f < L.ds[i].d.s) (hw : Win w3 L.ds[i].wb L.lm.ini L.lm.lim L.ds[i].d.s L.ds[i].d.c (L.ds[i].d.f + 1)) (ho : Only L.ds[i].wb w2 w3) :
    Mg (w3.setCell ⟨mb, 9, none⟩ (.int .i64 ((i + 1) % L.ds.length : Nat))) mb (tookL L i) F ∧ Ext F w2 (w3.setCell ⟨mb, 9, none⟩ (.int .i64 ((i + 1) % L.ds.length : Nat))) ∧ w3.cell? ⟨mb, 9, none⟩ = some (.int .i64 (L.turn : Nat)) ∧ w3.frozen? ⟨mb, 9, none⟩ = false ∧ w3.cell? ⟨mb, 7, none⟩ = some L.dv := by
  have hz := h.dests _ (List.getElem_mem hi)
  have hm3 : Mg w3 mb { L with ds := L.ds.set i { L.ds[i] with d := { L.ds[i].d with f := L.ds[i].d.f + 1 } } } F := by
    refine h.dest i hi _ rfl rfl rfl (by rw [ho.size]; exact Nat.le_refl _) (fun k _ _ h2 => ho.block k h2) ⟨?_, hw, ?_, hz.rev⟩
    · exact (ho.block _ (neT hz.cell hz.win (by decide))).trans hz.cell
    · obtain ⟨s1, s2, s3, s4⟩ := hz.st
      unfold Stands
      dsimp only
      omega
  have hl : (L.ds.set i { L.ds[i] with d := { L.ds[i].d with f := L.ds[i].d.f + 1 } }).length = L.ds.length := by simp
  obtain ⟨-, -, -, -, -, -, -, t7, -, t9, -⟩ := hm3.tops
  refine ⟨?_, ?_, t9, hm3.toCore.free 9, t7⟩
  · rw [tookL_set L i hi]
    exact hm3.setTurn ((i + 1) % L.ds.length) (by dsimp only; rw [hl]; exact Nat.le_of_lt (Nat.mod_lt _ (by omega)))
  · refine Ext.setCell ⟨ho.os, ho.tape, ho.output, by rw [ho.size]; exact Nat.le_refl _, fun k _ hk => ho.block k fun e => hk (by rw [e]; exact (h.fd _ (List.getElem_mem hi)).2)⟩ mb 9 _ h.fb.1

theorem NextI.start {w w2 w4 : World} {mb : Nat} {L : Lq} {F : Nat → Prop} {db tb zb a i : Nat} {n : ByteArray} (hlt : ∀ k, F k → k < w.heap.size) (hx2 : Ext (fun _ => False) (w.alloc resO) w2) (hB : Boxes w2 db tb zb n) (hnb : ¬ F db ∧ ¬ F tb) (h4 : Mg w4 mb (tookL L i) F) (hx4 : Ext F w2 w4) (hi : i < L.ds.length)
    (hzb : zb = L.ds[i].b) (hn : n = L.ds[i].d.name) (ha : a < L.ms.length) :
    NextI w (w4.alloc (.cells #[.string L.ms[a].m.id, .string n, .slice none 0 0] 49)) mb (tookL L i) F db tb zb w4.heap.size a n L.ms[a] 0 0 (.slice none 0 0) := by
  have h2s := hx2.size
  have h4s := hx4.size
  simp at h2s
  have hxa : Ext (fun _ => False) w4 (w4.alloc (.cells #[.string L.ms[a].m.id, .string n, .slice none 0 0] 49)) := (Ext.refl _ _).alloc _
  have hwF : ¬ F w.heap.size := fun f => by have := hlt _ f; omega
  have hrb4 : w4.heap[w.heap.size]? = some resO := by
    rw [hx4.block _ (by omega) hwF, hx2.block _ (by simp) (fun f => f)]
    exact (MapKept.heap_alloc w resO).1
  have hself : turned (tookL L i) a (midM n L.ms[a].m 0) = tookL L i := by
    rw [midM_zero]
    exact turned_self (tookL L i) a ha
  refine ⟨by rw [hself]; exact h4.quiet hxa, ?_, ?_, hnb, (MapKept.heap_alloc w4 _).1, by simp [takeF, intsC]; exact World.ownsRow_nil _ _ _ _, ⟨fun f => ?_, by omega⟩, fun g hg => by (cases hg), (hxa.block _ (by omega) fun f => f).trans hrb4⟩
  · exact ((((Ext.refl F w).alloc resO).trans (hx2.mono fun _ f => f.elim)).trans hx4).alloc _
  · refine Boxes.quiet ⟨(hx4.block _ (heap_lt hB.d) hnb.1).trans hB.d, (hx4.block _ (heap_lt hB.t) hnb.2).trans hB.t, ?_⟩ hxa
    have hzm : (tookL L i).ds[i]'(by simpa [tookL] using hi) ∈ (tookL L i).ds := List.getElem_mem _
    have := (h4.dests _ hzm).cell
    have e : (tookL L i).ds[i]'(by simpa [tookL] using hi) = { L.ds[i] with d := { L.ds[i].d with f := L.ds[i].d.f + 1 } } := by simp [tookL]
    rw [e] at this
    rw [hzb, hn]
    exact ⟨_, _, this⟩
  · have := hlt _ f; omega

/-- What is told of a delivery that begins. -/
def JobStep (mb : Nat) (F : Nat → Prop) (j : Jb) (q' : Qs) (v : Value) (w w' : World) : Prop :=
  ∃ L' F', Mg w' mb L' F' ∧ Grow F w w' F' ∧ Ext F w w' ∧ L'.q = q' ∧ w'.ownsRow w.heap.size 3 1 v j.rs.length (intsC j.rs) ∧ ∀ g, v.ownBlock = some g → ¬ F' g

def jobO (id n : ByteArray) (v : Value) : Obj := .cells #[.string id, .string n, v] 49

theorem NextI.jcells {w wr : World} {mb : Nat} {L0 : Lq} {F : Nat → Prop} {db tb zb jb a : Nat} {n : ByteArray} {z : LM} {rm rj : Nat} {vj : Value} (h : NextI w wr mb L0 F db tb zb jb a n z rm rj vj) :
    wr.cell? ⟨jb, 0, none⟩ = some (.string z.m.id) ∧ wr.cell? ⟨jb, 1, none⟩ = some (.string n) ∧ wr.cell? ⟨jb, 2, none⟩ = some vj ∧ wr.frozen? ⟨jb, 2, none⟩ = false := by
  have := h.jc
  simp [World.cell?, World.frozen?, this]

/-- The job is among those under way; its copy is given back. -/
theorem NextI.finish {w wr w1 wA : World} {mb : Nat} {L0 : Lq} {F : Nat → Prop} {db tb zb jb a : Nat} {n : ByteArray} {z : LM} {vj vc v' : Value} (h : NextI w wr mb L0 F db tb zb jb a n z z.m.rs.length z.m.rs.length vj) (hlt : ∀ k, F k → k < w.heap.size) (hx1 : Ext (fun _ => False) wr w1)
    (hc : w1.ownsRow wr.heap.size 3 1 vc (takeF n z.m.rs).2.length (intsC (takeF n z.m.rs).2))
    (hown : wA.ownsRow 0 49 3 v' (L0.jobs.length + 1) (L0.jobs.flatMap jbC ++ [.string z.m.id, .string n, vc])) (hg : (w1.alloc (jobO z.m.id n vc)).grownBy wA L0.jv.ownBlock) (hb : v'.ownBlock = L0.jv.ownBlock ∨ v'.ownBlock = some (w1.heap.size + 1)) :
    JobStep mb F ⟨z.m.id, n, (takeF n z.m.rs).2⟩ { (turned L0 a { z.m with rs := (takeF n z.m.rs).1 }).q with jobs := L0.q.jobs ++ [⟨z.m.id, n, (takeF n z.m.rs).2⟩] } vj w
        ((((wA.setCell ⟨mb, 10, none⟩ v').setCell ⟨w.heap.size, 0, none⟩ (.string z.m.id)).setCell ⟨w.heap.size, 1, none⟩ (.string n)).setCell ⟨w.heap.size, 2, none⟩ vj) ∧
      wA.cell? ⟨mb, 10, none⟩ = some L0.jv ∧ wA.frozen? ⟨mb, 10, none⟩ = false ∧ wA.heap[jb]? = some (jobO z.m.id n vj) ∧ wA.heap[w.heap.size]? = some resO := by
  have hmg := h.mg
  rw [midM_end] at hmg
  have hrow := h.row
  rw [List.take_length] at hrow
  have h1 := hmg.quiet hx1
  have hmbl := h1.mblt
  have hjvl : ∀ k, L0.jv.ownBlock = some k → F k := fun k hk => hmg.fr.2.2 k hk
  have hxA : Ext (fun k => L0.jv.ownBlock = some k) w1 wA := ((Ext.refl _ w1).alloc _).grown hg fun g hg => .inr hg
  have hjmb : L0.jv.ownBlock ≠ some mb := fun e => by
    obtain ⟨cur, hr⟩ := row_type h1.jrow _ e
    exact neT hr h1.top (by decide) rfl
  have htop : wA.heap[mb]? = some (.cells (topC (turned L0 a { z.m with rs := (takeF n z.m.rs).1 })) 87 (0, 0)) := (hxA.block mb hmbl hjmb).trans h1.top
  have hjc1 : w1.heap[jb]? = some (jobO z.m.id n vj) := (hx1.block _ (heap_lt h.jc) fun f => f).trans h.jc
  have hrb1 : w1.heap[w.heap.size]? = some resO := (hx1.block _ (heap_lt h.rb) fun f => f).trans h.rb
  have hrbF : ¬ F w.heap.size := fun f => by have := hlt _ f; omega
  have hrbl := heap_lt h.rb
  have hx1s := hx1.size
  have hxAs := hxA.size
  have hes := h.ext.size
  have hjc2 : wA.heap[jb]? = some (jobO z.m.id n vj) := (hxA.block jb (heap_lt hjc1) fun e => h.nj.1 (hjvl _ e)).trans hjc1
  have hrb2 : wA.heap[w.heap.size]? = some resO := (hxA.block _ (heap_lt hrb1) fun e => hrbF (hjvl _ e)).trans hrb1
  have hset : ∀ k, k ≠ mb → (wA.setCell ⟨mb, 10, none⟩ v').heap[k]? = wA.heap[k]? := fun k hk => Below.heap_setCell _ _ _ _ hk
  have hsz : (wA.setCell ⟨mb, 10, none⟩ v').heap.size = wA.heap.size := by simp [World.setCell]
  have hvc : ∀ g, vc.ownBlock = some g → wr.heap.size ≤ g ∧ g < w1.heap.size := fun g hg' => ⟨row_base hc g hg', row_lt hc g hg'⟩
  have hv' : ∀ g, v'.ownBlock = some g → (F g ∨ g = w1.heap.size + 1) ∧ g < wA.heap.size := fun g hg' => ⟨by
    rcases hb with hb | hb
    · exact .inl (hjvl g (by rw [← hb]; exact hg'))
    · rw [hb] at hg'; injection hg' with hg'; exact .inr hg'.symm, row_lt hown g hg'⟩
  have hjcs : (jobO z.m.id n vc) = .cells #[.string z.m.id, .string n, vc] 49 := rfl
  -- the manager
  have hM : Mg (wA.setCell ⟨mb, 10, none⟩ v') mb { turned L0 a { z.m with rs := (takeF n z.m.rs).1 } with jobs := L0.jobs ++ [⟨vc, ⟨z.m.id, n, (takeF n z.m.rs).2⟩⟩], jv := v' } (fun k => F k ∨ vc.ownBlock = some k ∨ v'.ownBlock = some k) := by
    refine h1.addJob (L := turned L0 a { z.m with rs := (takeF n z.m.rs).1 }) ⟨vc, ⟨z.m.id, n, (takeF n z.m.rs).2⟩⟩ v' (fun k hk => .inl hk) (fun k hk => ?_) (fun k hk h1' h2 => ?_) ?_ ?_ ?_ ⟨fun g hg' => .inr (.inl hg'), fun g hg' => .inr (.inr hg')⟩
    · rw [hsz]
      rcases hk with hk | hk | hk
      · have := hlt k hk; omega
      · have := (hvc k hk).2; omega
      · exact (hv' k hk).2
    · exact (hset k h1').trans (hxA.block k (h1.lt k hk) h2)
    · simp [World.setCell, Array.getElem?_modify, htop, topC, turned]
    · rw [List.flatMap_append, List.length_append]
      refine row_keep hown fun g hg' => hset g ?_
      obtain ⟨cur, hr⟩ := row_type hown g hg'
      exact neT hr htop (by decide)
    · refine row_lower (row_keep hc fun g hg' => ?_) 0 (Nat.zero_le _)
      obtain ⟨cur, hr⟩ := row_type hc g hg'
      rw [hset g (neT hr h1.top (by decide))]
      exact hxA.block g (hvc g hg').2 fun e => by have := hlt g (hjvl g e); have := (hvc g hg').1; omega
  have hrbF' : ¬ (F w.heap.size ∨ vc.ownBlock = some w.heap.size ∨ v'.ownBlock = some w.heap.size) := by
    rintro (f | f | f)
    · exact hrbF f
    · have := (hvc _ f).1; omega
    · rcases (hv' _ f).1 with f | f
      · exact hrbF f
      · omega
  have hM2 := ((hM.setX w.heap.size 0 (.string z.m.id) hrbF').setX w.heap.size 1 (.string n) hrbF').setX w.heap.size 2 vj hrbF'
  have hfin : ∀ k, k ≠ mb → k ≠ w.heap.size → ((((wA.setCell ⟨mb, 10, none⟩ v').setCell ⟨w.heap.size, 0, none⟩ (.string z.m.id)).setCell ⟨w.heap.size, 1, none⟩ (.string n)).setCell ⟨w.heap.size, 2, none⟩ vj).heap[k]? = wA.heap[k]? := fun k h1' h2 =>
    (((Below.heap_setCell _ _ _ _ h2).trans (Below.heap_setCell _ _ _ _ h2)).trans (Below.heap_setCell _ _ _ _ h2)).trans (hset k h1')
  have hfs : ((((wA.setCell ⟨mb, 10, none⟩ v').setCell ⟨w.heap.size, 0, none⟩ (.string z.m.id)).setCell ⟨w.heap.size, 1, none⟩ (.string n)).setCell ⟨w.heap.size, 2, none⟩ vj).heap.size = wA.heap.size := by simp [World.setCell]
  refine ⟨⟨_, _, hM2, fun k hk => ?_, ?_, ?_, ?_, fun g hg' f => ?_⟩, by simp [World.cell?, htop, topC, turned], by simp [World.frozen?, htop], hjc2, hrb2⟩
  · rw [hfs]
    rcases hk with hk | hk | hk
    · exact .inl hk
    · have := hvc k hk; exact .inr ⟨by omega, by omega⟩
    · rcases hv' k hk with ⟨f | f, hl⟩
      · exact .inl f
      · exact .inr ⟨by omega, hl⟩
  · have e1 : Ext F w wA := ((h.ext.trans (hx1.mono fun _ f => f.elim)).trans (hxA.mono fun k hk => hjvl k hk))
    exact (((e1.setCell mb 10 v' h.mg.fb.1).setCell_new w.heap.size 0 _ (Nat.le_refl _)).setCell_new w.heap.size 1 _ (Nat.le_refl _)).setCell_new w.heap.size 2 _ (Nat.le_refl _)
  · simp [Lq.q, turned]
  · refine row_keep hrow fun g hg' => ?_
    obtain ⟨cur, hr⟩ := row_type hrow g hg'
    have hgl := row_lt hrow g hg'
    rw [hfin g (neT hr h.mg.top (by decide)) (neT hr h.rb (by decide)), hxA.block g (by omega) fun e => h.nv g hg' (hjvl g e)]
    exact hx1.block g hgl fun f => f
  · have hgl := row_lt hrow g hg'
    rcases f with f | f | f
    · exact h.nv g hg' f
    · have := (hvc _ f).1; omega
    · rcases (hv' _ f).1 with f | f
      · exact h.nv g hg' f
      · omega
end Go.Proofs.Ytnakafmlenngnaa.Qm
