/- Walk: New of alias. -/
import Derived.Test.YtpmmaickjolimaaGreatDoorJ17
import Derived.Test.YtpmmaickjolimaaGreatDoorJ18
import Derived.Test.YtpmmaickjolimaaGreatDoorJ19
import Derived.WalkKit
import Derived.WalkLawsBesides
namespace Go.Proofs.YtpmmaickjolimaaGreatDoor.Tb
open Go.RowKit
open Ci (Bel hid own_bel row_shape own_base addr_add splitL Aft wp_region_aft quiet_load_aft wpList_push)
open Ma (Pt Pts ptC ptCs mbQ Mailbox_run pt_infos pt_size ptCs_snoc ptCs_at rightP good_small)

/-- Texts in memory. -/
structure Sts (W : World) (x : Option Addr) (bs : List ByteArray) : Prop where
  at_ : bs = [] ∨ ∃ b o, x = some ⟨b, o, none⟩ ∧ b < W.heap.size ∧ ∀ k (hk : k < bs.length), W.cell? ⟨b, o + k, none⟩ = some (.string bs[k])
theorem Sts.next {W W' : World} {x : Option Addr} {bs : List ByteArray} (h : Sts W x bs) (hb : Bel W W') : Sts W' x bs := by
  refine ⟨?_⟩
  rcases h.at_ with f | ⟨b, o, e, hs, f⟩
  · exact .inl f
  · exact .inr ⟨b, o, e, Nat.lt_of_lt_of_le hs hb.size, fun k hk => (bel_cell hb hs).trans (f k hk)⟩
theorem Sts.place {W : World} {x : Option Addr} {bs : List ByteArray} (h : Sts W x bs) {k : Nat} (hk : k < bs.length) : ∃ b o, x = some ⟨b, o, none⟩ ∧ W.cell? ⟨b, o + k, none⟩ = some (.string bs[k]) := by
  rcases h.at_ with f | ⟨b, o, e, -, f⟩
  · rw [f] at hk; cases hk
  · exact ⟨b, o, e, f k hk⟩
theorem TabAt.grown {W W' : World} {a : Option Addr} {es : List En} {v : Value} {base n : Nat} {xs : List Value} (h : TabAt W a es) (ho : W.ownsRow base 100 1 v n xs) (hg : W.grownBy W' v.ownBlock) : TabAt W' a es := by
  obtain ⟨b, x, c, e, h1, h2⟩ := h.at_
  have keep : ∀ {j : Nat} {cur : Array Value} {T : TypeId}, W.heap[j]? = some (.cells cur T (0, 0)) → T ≠ 100 → W'.heap[j]? = W.heap[j]? := fun hj hT => hg.block _ (Array.getElem?_eq_some_iff.1 hj).1 fun e => own_ne ho hj hT e.symm
  refine ⟨⟨b, x, c, e, (keep h1 (by decide)).trans h1, ?_⟩, h.srt, h.num⟩
  rcases h2.ty with rfl | ⟨b2, o2, cur, e2, f2⟩
  · exact ⟨.inl rfl, .inl rfl⟩
  · have hk := keep f2 (by decide)
    refine ⟨?_, .inr ⟨b2, o2, cur, e2, hk.trans f2⟩⟩
    rcases h2.at_ with f | ⟨b3, o3, e3, hs, f⟩
    · exact .inl f
    · rw [e2] at e3
      cases e3
      exact .inr ⟨b2, o2, e2, Nat.lt_of_lt_of_le hs hg.size, fun k hk2 => ⟨(World.cell?_of_block (a := ⟨b2, o2 + k * 2, none⟩) hk).trans (f k hk2).1, (World.cell?_of_block (a := ⟨b2, o2 + k * 2 + 1, none⟩) hk).trans (f k hk2).2⟩⟩
def valsR (es : List En) : Bool := es.all fun e => (valP e.val).2
def newF : List (List UInt8) → List (List En) → Option (List (List En))
  | [], acc => some acc
  | t :: r, acc => match tparse t with
    | none => none
    | some es => if valsR es then newF r (acc ++ [es]) else none
theorem newF_at {L : List (List UInt8)} {k : Nat} {acc : List (List En)} (hk : k < L.length) : newF (L.drop k) acc = match tparse L[k] with
    | none => none
    | some es => if valsR es then newF (L.drop (k + 1)) (acc ++ [es]) else none := by
  rw [List.drop_eq_getElem_cons hk]; rfl
/-- The tables in hand. -/
structure NeI (w : World) (L : List (List UInt8)) (k : Nat) (W : World) (v : Value) (ps : List (Option Addr)) (ts : List (List En)) : Prop where
  bel : Bel w W
  row : W.ownsRow w.heap.size 100 1 v ps.length (ptrs ps)
  lp : ps.length = k
  lt : ts.length = k
  tab : ∀ i (hi : i < ps.length) (hi2 : i < ts.length), TabAt W ps[i] ts[i]
  vals : ∀ es ∈ ts, ValsOk es
  eq : newF (L.drop k) ts = newF L []
  nil : ps = [] → v = .slice none 0 0
theorem ne_rel {w W w9 : World} {L : List (List UInt8)} {k : Nat} {x' : Value} {v : Value} {ps : List (Option Addr)} {ts : List (List En)} {a : Option Addr} {es : List En} (hB : Bel w W) (hrow : W.ownsRow w.heap.size 100 1 v ps.length (ptrs ps)) (hp : ps.length = k) (ht : ts.length = k)
    (htab : ∀ i (hi : i < ps.length) (hi2 : i < ts.length), TabAt W ps[i] ts[i]) (hvals : ∀ es ∈ ts, ValsOk es) (hnew : TabAt W a es) (hes : ValsOk es) (hn : newF (L.drop (k + 1)) (ts ++ [es]) = newF L [])
    (hown : w9.ownsRow w.heap.size 100 1 x' (ps.length + 1) (ptrs ps ++ [.pointer a])) (hg : (W.alloc (.cells #[.pointer a] 100)).grownBy w9 v.ownBlock) : NeI w L (k + 1) w9 x' (ps ++ [a]) (ts ++ [es]) := by
  have hrow2 := hrow.alloc (.cells #[.pointer a] 100)
  have go : ∀ {p : Option Addr} {t : List En}, TabAt W p t → TabAt w9 p t := fun h => (h.next ((Bel.refl W).alloc _)).grown hrow2 hg
  refine ⟨Ci.Bel.grown (hB.alloc _) hg hrow2, ?_, by rw [List.length_append, hp]; rfl, by rw [List.length_append, ht]; rfl, ?_, ?_, hn, fun h => absurd h (by simp)⟩
  · have : ptrs (ps ++ [a]) = ptrs ps ++ [.pointer a] := by unfold ptrs; rw [List.map_append]; rfl
    rw [this, List.length_append]
    exact hown
  · intro i hi hi2
    by_cases e : i < ps.length
    · rw [List.getElem_append_left e, List.getElem_append_left (by omega)]
      exact go (htab i e (by omega))
    · have e2 : i = k := by rw [List.length_append] at hi; simp at hi; omega
      subst e2
      rw [List.getElem_append_right (by omega), List.getElem_append_right (by omega)]
      simp only [hp, ht, Nat.sub_self, List.getElem_cons_zero]
      exact go hnew
  · intro e he
    rcases List.mem_append.1 he with he | he
    · exact hvals e he
    · rw [List.mem_singleton.1 he]; exact hes
def NewPost (L : List (List UInt8)) (w : World) (e : Ending) (w' : World) : Prop :=
  if 8 < L.length then e = .returned (.tuple #[.pointer none, .int .i64 1]) ∧ Bel w w'
  else match newF L [] with
    | none => e = .returned (.tuple #[.pointer none, .int .i64 163]) ∧ Bel w w'
    | some ts => ∃ a, e = .returned (.tuple #[.pointer a, .int .i64 0]) ∧ Bel w w' ∧ AlAt w' a ts
theorem new_bad {L : List (List UInt8)} {w w' : World} (h : ¬ 8 < L.length) (hn : newF L [] = none) (hb : Bel w w') : NewPost L w (.returned (.tuple #[.pointer none, .int .i64 163])) w' := by
  unfold NewPost
  rw [if_neg h, hn]
  exact ⟨rfl, hb⟩
set_option maxHeartbeats 8000000 in
set_option maxRecDepth 100000 in
theorem new_run (x : Option Addr) (bs : List ByteArray) (c : Nat) (w : World) (hw : Lat w) (hS : Sts w x bs) :
    Calls Tryz.prog 22 #[.slice x bs.length c] w (NewPost (bs.map (·.data.toList)) w) := by
  have HS := hid hS
  have HW := hid hw
  clear hS hw
  by_cases h8 : 8 < bs.length
  · have b1 : decide ((8 : Int) < (bs.length : Int)) = true := decide_eq_true (by omega)
    have HX := hid (show 8 < (bs.map (·.data.toList)).length by rw [List.length_map]; exact h8)
    clear h8
    generalize bs.length = n at b1 ⊢
    go_enter Tryz.func22, Tryz.ntmps22
    go_wp2_with fail
    refine bodyPost_ret (v := .tuple #[.pointer none, .int .i64 1]) (by simp [results, Tryz.results22, go_sem]) rfl ?_
    unfold NewPost
    rw [if_pos HX.out]
    exact ⟨rfl, Bel.refl w⟩
  · have b1 : decide ((8 : Int) < (bs.length : Int)) = false := decide_eq_false (by omega)
    have h8' : bs.length ≤ 8 := by omega
    have HX := hid (show ¬ 8 < (bs.map (·.data.toList)).length by rw [List.length_map]; exact h8)
    go_enter Tryz.func22, Tryz.ntmps22
    go_wp2_with fail
    go_loopg [4, 18] bs.length (fun gg v4 v18 wr => ∃ (k : Nat) (ps : List (Option Addr)) (ts : List (List En)), v18 = .int .i64 k ∧ k + gg = bs.length ∧ Hid (NeI w (bs.map (·.data.toList)) k wr v4 ps ts))
    case atStart => exact ⟨0, [], [], rfl, by omega, hid ⟨Bel.refl w, World.ownsRow_nil _ _ _ _, rfl, rfl, fun i hi => absurd hi (Nat.not_lt_zero _), fun es he => (by cases he), rfl, fun _ => rfl⟩⟩
    case round =>
      obtain ⟨k, ps, ts, rfl, hk, HI⟩ := hrel
      obtain ⟨W0, hW0⟩ : ∃ W0, W0 = wr := ⟨_, rfl⟩
      subst hW0
      obtain ⟨g0, hg0⟩ : ∃ g0, g0 = gk := ⟨_, rfl⟩
      subst hg0
      have Hk := hid hk
      have hkn : k ≤ bs.length := by omega
      clear hk
      by_cases hlt : k < bs.length
      · obtain ⟨b, o, rfl, c0⟩ := (HS.out.next HI.out.bel).place hlt
        have hkL : k < (bs.map (·.data.toList)).length := by rw [List.length_map]; exact hlt
        have hstep := newF_at (acc := ts) hkL
        rw [HI.out.eq, List.getElem_map] at hstep
        have HP := hid (tparse_run bs[k] W0 (HW.out.next HI.out.bel))
        generalize bs[k] = tx at c0 hstep HP
        unfold ParsePost at HP
        cases htp : tparse tx.data.toList with
        | none =>
          rw [htp] at hstep HP
          have HN := hid (show newF (bs.map (·.data.toList)) [] = none from hstep)
          have HP := (show Hid (Calls Tryz.prog 55 #[.string tx] W0 fun e w' => ∃ code at_ : Int, code ≠ 0 ∧ e = .returned (.tuple #[.pointer none, .agg #[.int .i64 code, .int .i64 at_]]) ∧ Bel W0 w') from HP)
          clear hstep
          go_wp2_with (first | (go_at_call 55; refine HP.out.mono ?_; rintro e w1 ⟨code, at_, hc, rfl, hb1⟩; have b3 : (code == 0) = false := (by simpa using hc)))
          exact bodyPost_ret (v := .tuple #[.pointer none, .int .i64 163]) (by simp [results, Tryz.results22, go_sem]) rfl (new_bad HX.out HN.out ((HI.out.bel.trans hb1).alloc _))
        | some es =>
          rw [htp] at hstep HP
          have HSt := hid (show newF (bs.map (·.data.toList)) [] = if valsR es then newF ((bs.map (·.data.toList)).drop (k + 1)) (ts ++ [es]) else none from hstep)
          have HP := (show Hid (Calls Tryz.prog 55 #[.string tx] W0 fun e w' => ∃ a, e = .returned (.tuple #[.pointer a, .agg #[.int .i64 0, .int .i64 0]]) ∧ Bel W0 w' ∧ TabAt w' a es) from HP)
          have HVs := hid (tparse_vals htp)
          clear hstep htp
          go_wp2_with (first | (go_at_call 55; refine HP.out.mono ?_; rintro e w1 ⟨a, rfl, hb1, ht1⟩; have HB01 := hid hb1; have HB1 := hid (HI.out.bel.trans hb1); have HTA := hid ht1; have HLen := hid (fun W (hb : Bel w1 W) => len_run a es W (ht1.next hb)); clear hb1 ht1) | (go_at_call 56; refine (HLen.out _ ((Bel.refl w1).alloc _)).mono ?_; rintro e w2 ⟨rfl, hb2⟩; have HB12 := hid (((Bel.refl w1).alloc _).trans hb2); have HB2 := hid (HB1.out.trans HB12.out); clear hb2))
          go_loopg [32] es.length (fun gg v32 wr => ∃ (j : Nat), v32 = .int .i64 j ∧ j + gg = es.length ∧ Hid (Bel w2 wr ∧ ∀ i (hi : i < es.length), i < j → (valP es[i].val).2 = true))
          case atStart => exact ⟨0, rfl, by omega, hid ⟨Bel.refl w2, fun i _ h => absurd h (Nat.not_lt_zero _)⟩⟩
          case round =>
            obtain ⟨j, rfl, hj, HJ⟩ := hrel
            have Hj := hid hj
            have hjn : j ≤ es.length := by omega
            have hen : es.length ≤ 2000 := HTA.out.num
            clear hj
            have HB3 := hid (HB12.out.trans HJ.out.1)
            by_cases hjl : j < es.length
            · have HAt := hid (at_run a es j wr (HTA.out.next HB3.out) hjl)
              have HVR := (show Hid (∀ W, Bel wr W → Calls Tryz.prog 58 #[.string ⟨es[j].val.toArray⟩] W fun e w' => e = .returned (.bool (valP es[j].val).2) ∧ Bel W w') from fun W hb => vright_run ⟨es[j].val.toArray⟩ W (HW.out.next (HB1.out.trans (HB3.out.trans hb))) (by rw [Lib.size_eq]; have := HVs.out es[j] (List.getElem_mem hjl); show es[j].val.length ≤ _; omega))
              cases hv : (valP es[j].val).2 with
              | false =>
                rw [hv] at HVR
                have hvr : valsR es = false := by
                  unfold valsR
                  rw [List.all_eq_false]
                  exact ⟨es[j], List.getElem_mem hjl, by rw [hv]; decide⟩
                have HN := hid (show newF (bs.map (·.data.toList)) [] = none by rw [HSt.out, hvr]; rfl)
                clear hv hvr
                generalize es[j] = y at HAt HVR
                go_wp2_with (first | (go_at_call 57; refine HAt.out.mono ?_; rintro e w4 ⟨rfl, hb4⟩; have HB4 := hid hb4; clear hb4) | (go_at_call 58; refine (HVR.out _ HB4.out).mono ?_; rintro e w5 ⟨rfl, hb5⟩; have HB5 := hid hb5; clear hb5))
                exact bodyPost_ret (v := .tuple #[.pointer none, .int .i64 163]) (by simp [results, Tryz.results22, go_sem]) rfl (new_bad HX.out HN.out (HB1.out.trans (HB3.out.trans (HB4.out.trans HB5.out))))
              | true =>
                rw [hv] at HVR
                have HV := hid hv
                clear hv
                have HJL := hid hjl
                generalize hy : es[j] = y at HAt HVR HV
                have HYY := hid hy
                clear hy
                go_wp2_with (first | (go_at_call 57; refine HAt.out.mono ?_; rintro e w4 ⟨rfl, hb4⟩; have HB4 := hid hb4; clear hb4) | (go_at_call 58; refine (HVR.out _ HB4.out).mono ?_; rintro e w5 ⟨rfl, hb5⟩; have HB5 := hid hb5; clear hb5))
                go_roundg (gk - 1)
                case measure => have := Hj.out; omega
                case rel => exact ⟨j + 1, by go_num, by have := Hj.out; omega, hid ⟨HJ.out.1.trans (HB4.out.trans HB5.out), fun i hi hij => by
                  by_cases e : i = j
                  · subst e; exact (congrArg (fun z => (valP z.val).2) HYY.out).trans HV.out
                  · exact HJ.out.2 i hi (by omega)⟩⟩
            · obtain rfl : j = es.length := by omega
              have hvr : valsR es = true := by
                unfold valsR
                rw [List.all_eq_true]
                intro y hy
                obtain ⟨i, hi, rfl⟩ := List.getElem_of_mem hy
                exact HJ.out.2 i hi hi
              have HN := hid (show newF ((bs.map (·.data.toList)).drop (k + 1)) (ts ++ [es]) = newF (bs.map (·.data.toList)) [] by rw [HSt.out, hvr]; rfl)
              clear hvr
              have HBR := hid (HB1.out.trans HB3.out)
              have HB0 := hid (HB01.out.trans HB3.out)
              have HRow := hid (own_bel HI.out.row HB0.out)
              have HTE := hid (HTA.out.next HB3.out)
              obtain ⟨x4, c4, rfl, -, -⟩ := row_shape HI.out.row
              generalize hpl : ps.length = m at HRow
              have HPL := hid hpl
              have hm8 : m ≤ 8 := by have := HI.out.lp; omega
              clear hpl
              go_wp2_with (first | (at_builtin; refine wpList_push_at (W := wr) rfl (.tmp 46) (.tmp 48) 99 rfl 100 (.pointer none) 1 8 Tryz.underlying99 ptr_infos rfl (by decide) w.heap.size (.slice x4 m c4) m (ptrs ps) rfl HRow.out HBR.out.size _ rfl rfl (by intro u hu; simp at hu; subst hu; rfl) (by unfold maxLen; omega) (by omega) ?_; intro v9 w9 hown9 hg9 _; have HO9 := hid hown9; have HG9 := hid hg9; clear hown9 hg9))
              go_roundg (g0 - 1)
              case measure => have := Hk.out; omega
              case rel => exact ⟨k + 1, ps ++ [a], ts ++ [es], by go_num, by have := Hk.out; omega, hid (ne_rel HBR.out (by rw [HPL.out]; exact HRow.out) HI.out.lp HI.out.lt (fun i hi hi2 => (HI.out.tab i hi hi2).next HB0.out) HI.out.vals HTE.out HVs.out HN.out (by rw [HPL.out]; exact HO9.out) HG9.out)⟩
      · obtain rfl : k = bs.length := by omega
        have hlt2 := HI.out.lt
        have hlp := HI.out.lp
        have hn : newF (bs.map (·.data.toList)) [] = some ts := by
          rw [← HI.out.eq, show bs.length = (bs.map (·.data.toList)).length by rw [List.length_map], List.drop_length]; rfl
        have HN := hid hn
        obtain ⟨x4, c4, rfl, -, -⟩ := row_shape HI.out.row
        have hTs : Tabs W0 x4 ts := tabs_of_row (n := ps.length) (c := c4) (base := w.heap.size) HI.out.row (by omega) HI.out.tab
        have HJ := hid (tjoin_run x4 ts c4 W0 hTs (by omega) (fun h => by
          have : ps = [] := List.eq_nil_of_length_eq_zero (by rw [hlp, ← hlt2, h]; rfl)
          obtain ⟨e1, -, e3⟩ := Value.slice.inj (HI.out.nil this)
          exact ⟨e1, e3⟩))
        have HVs := hid HI.out.vals
        have HB := hid HI.out.bel
        rw [show ts.length = ps.length by omega] at HJ
        clear hn hTs HI hlt2 hlp
        generalize ps.length = m at HJ
        go_wp2_with (first | (go_at_call 59; refine HJ.out.mono ?_; rintro e w5 ⟨a5, rfl, hb5, hc5⟩))
        refine bodyPost_ret (v := .tuple #[.pointer (some ⟨w5.heap.size, 0, none⟩), .int .i64 0]) (by simp [results, Tryz.results22, go_sem]) rfl ?_
        unfold NewPost
        rw [if_neg HX.out, HN.out]
        exact ⟨_, rfl, (HB.out.trans hb5).alloc _, ⟨_, a5, rfl, heap_alloc_new w5 _, hc5.next ((Bel.refl w5).alloc _)⟩, HVs.out⟩
end Go.Proofs.YtpmmaickjolimaaGreatDoor.Tb

/- An expansion in plain terms: who is met, who is found. -/
namespace Go.Proofs.YtpmmaickjolimaaGreatDoor.Ex

variable {α : Type} [DecidableEq α]
/-- Whom an expansion has met, whom it has found. -/
structure Xs (α : Type) where
  met : List α
  out : List α
def findX (s : Xs α) (p : α) : Except Int (Xs α) := if p ∈ s.out then .ok s else if 200 ≤ s.out.length then .error 160 else .ok ⟨s.met, s.out ++ [p]⟩
def goX (f : Xs α → α → Except Int (Xs α)) (p : α) : Xs α → List α → Except Int (Xs α)
  | s, [] => .ok s
  | s, q :: r => match (if q = p then findX s p else f s q) with
    | .error e => .error e
    | .ok s' => goX f p s' r
def expX (D : α → Option (List α)) : Nat → Xs α → α → Except Int (Xs α)
  | 0, s, p => if p ∈ s.met then .ok s else .error 161
  | k + 1, s, p => if p ∈ s.met then .ok s else match D p with
    | none => findX ⟨s.met ++ [p], s.out⟩ p
    | some l => goX (expX D k) p ⟨s.met ++ [p], s.out⟩ l
def nxt (D : α → Option (List α)) (q : α) : List α := (D q).getD []
def endB (D : α → Option (List α)) (q : α) : Bool := match D q with
  | none => true
  | some l => decide (q ∈ l)
/-- What is turned from a state to a later one, while p is at work. -/
structure Rel (D : α → Option (List α)) (X : α → Prop) (p : α) (s s' : Xs α) : Prop where
  sub : ∀ q ∈ s.met, q ∈ s'.met
  osub : ∀ q ∈ s.out, q ∈ s'.out
  clo : ∀ q ∈ s'.met, q ∉ s.met → ∀ r ∈ nxt D q, r ∈ s'.met
  ends : ∀ q ∈ s'.met, q ∉ s.met → endB D q = true → q ∈ s'.out
  outs : ∀ q ∈ s'.out, q ∈ s.out ∨ X q ∨ (q ∈ s'.met ∧ q ∉ s.met ∧ endB D q = true)
  nod : s.out.Nodup → s'.out.Nodup
  len : s.out.length ≤ 200 → s'.out.length ≤ 200
  reach : ∀ S : α → Prop, (∀ q r, S q → r ∈ nxt D q → S r) → S p → ∀ q ∈ s'.met, q ∈ s.met ∨ S q
theorem Rel.refl (D : α → Option (List α)) (X : α → Prop) (p : α) (s : Xs α) : Rel D X p s s :=
  ⟨fun _ h => h, fun _ h => h, fun _ h k => absurd h k, fun _ h k => absurd h k, fun _ h => .inl h, fun h => h, fun h => h, fun _ _ _ _ h => .inl h⟩
theorem Rel.trans {D : α → Option (List α)} {X : α → Prop} {p : α} {a b c : Xs α} (h : Rel D X p a b) (k : Rel D X p b c) : Rel D X p a c := by
  refine ⟨fun q hq => k.sub q (h.sub q hq), fun q hq => k.osub q (h.osub q hq), ?_, ?_, ?_, fun x => k.nod (h.nod x), fun x => k.len (h.len x), ?_⟩
  · intro q hq hn r hr
    by_cases hb : q ∈ b.met
    · exact k.sub r (h.clo q hb hn r hr)
    · exact k.clo q hq hb r hr
  · intro q hq hn he
    by_cases hb : q ∈ b.met
    · exact k.osub q (h.ends q hb hn he)
    · exact k.ends q hq hb he
  · intro q hq
    rcases k.outs q hq with h1 | h1 | ⟨h1, h2, h3⟩
    · rcases h.outs q h1 with h4 | h4 | ⟨h4, h5, h6⟩
      · exact .inl h4
      · exact .inr (.inl h4)
      · exact .inr (.inr ⟨k.sub q h4, h5, h6⟩)
    · exact .inr (.inl h1)
    · exact .inr (.inr ⟨h1, fun e => h2 (h.sub q e), h3⟩)
  · intro S hS hp q hq
    rcases k.reach S hS hp q hq with h1 | h1
    · exact h.reach S hS hp q h1
    · exact .inr h1
/-- The same, while one is at work that stands for the other. -/
theorem Rel.root {D : α → Option (List α)} {X : α → Prop} {p q : α} {a b : Xs α} (h : Rel D (fun _ => False) q a b) (hq : q ∈ nxt D p) : Rel D X p a b :=
  ⟨h.sub, h.osub, h.clo, h.ends, fun r hr => (h.outs r hr).imp id fun x => x.elim (fun f => f.elim) .inr, h.nod, h.len, fun S hS hp => h.reach S hS (hS p q hp hq)⟩
omit [DecidableEq α] in
theorem nodup_snoc {l : List α} {p : α} (h : l.Nodup) (hp : p ∉ l) : (l ++ [p]).Nodup := by
  rw [List.nodup_append]
  exact ⟨h, by simp, fun a ha b hb e => hp (by rw [List.mem_singleton.1 hb] at e; exact e ▸ ha)⟩
theorem find_rel {D : α → Option (List α)} {X : α → Prop} {p : α} {s s' : Xs α} (h : findX s p = .ok s') (hX : X p) : Rel D X p s s' ∧ p ∈ s'.out ∧ s'.met = s.met := by
  unfold findX at h
  split at h
  · cases h
    exact ⟨Rel.refl _ _ _ _, by assumption, rfl⟩
  · split at h
    · cases h
    · cases h
      refine ⟨⟨fun _ h => h, fun q hq => List.mem_append_left _ hq, fun _ h k => absurd h k, fun _ h k => absurd h k, ?_, fun hn => nodup_snoc hn (by assumption), fun hl => ?_, fun _ _ _ _ h => .inl h⟩, by simp, rfl⟩
      · intro q hq
        rcases List.mem_append.1 hq with h1 | h1
        · exact .inl h1
        · rw [List.mem_singleton.1 h1]; exact .inr (.inl hX)
      · show (s.out ++ [p]).length ≤ 200
        simp; omega
theorem go_rel {D : α → Option (List α)} {f : Xs α → α → Except Int (Xs α)} {p : α} (hf : ∀ s q s', f s q = .ok s' → Rel D (fun _ => False) q s s' ∧ q ∈ s'.met) :
    ∀ (l : List α) (s s' : Xs α), goX f p s l = .ok s' → (∀ q ∈ l, q ∈ nxt D p) → p ∈ s.met → Rel D (fun q => q = p ∧ p ∈ nxt D p) p s s' ∧ (∀ q ∈ l, q ∈ s'.met) ∧ (p ∈ l → p ∈ s'.out)
  | [], s, s', h, _, _ => by
    cases h
    exact ⟨Rel.refl _ _ _ _, (fun q hq => by cases hq), (fun hq => by cases hq)⟩
  | q :: r, s, s', h, hl, hp => by
    unfold goX at h
    have hq := hl q (List.mem_cons_self ..)
    split at h
    · cases h
    · rename_i s1 h1
      have key : Rel D (fun q => q = p ∧ p ∈ nxt D p) p s s1 ∧ q ∈ s1.met ∧ (p = q → p ∈ s1.out) := by
        split at h1
        · rename_i e
          subst e
          obtain ⟨a, b, c⟩ := find_rel (D := D) (X := fun x => x = q ∧ q ∈ nxt D q) h1 ⟨rfl, hq⟩
          exact ⟨a, by rw [c]; exact hp, fun _ => b⟩
        · rename_i e
          obtain ⟨a, b⟩ := hf _ _ _ h1
          exact ⟨a.root hq, b, fun x => absurd x.symm e⟩
      obtain ⟨k1, k2, k3⟩ := key
      obtain ⟨a, b, c⟩ := go_rel hf r s1 s' h (fun x hx => hl x (List.mem_cons_of_mem _ hx)) (k1.sub p hp)
      refine ⟨k1.trans a, fun x hx => ?_, fun hx => ?_⟩
      · rcases List.mem_cons.1 hx with rfl | hx
        · exact a.sub _ k2
        · exact b x hx
      · rcases List.mem_cons.1 hx with e | hx
        · exact a.osub _ (k3 e)
        · exact c hx
theorem exp_rel (D : α → Option (List α)) : ∀ (k : Nat) (s : Xs α) (p : α) (s' : Xs α), expX D k s p = .ok s' → Rel D (fun _ => False) p s s' ∧ p ∈ s'.met
  | 0, s, p, s', h => by
    unfold expX at h
    split at h
    · cases h; exact ⟨Rel.refl _ _ _ _, by assumption⟩
    · cases h
  | k + 1, s, p, s', h => by
    unfold expX at h
    split at h
    · cases h; exact ⟨Rel.refl _ _ _ _, by assumption⟩
    · rename_i hn
      have hm : ∀ q, q ∈ s.met ++ [p] ↔ q ∈ s.met ∨ q = p := fun q => by simp
      -- what holds of both ways
      have key : ∃ X : α → Prop, Rel D X p ⟨s.met ++ [p], s.out⟩ s' ∧ (∀ q, X q → q = p ∧ endB D p = true) ∧ (∀ q ∈ nxt D p, q ∈ s'.met) ∧ (endB D p = true → p ∈ s'.out) := by
        split at h
        · rename_i hd
          obtain ⟨a, b, c⟩ := find_rel (D := D) (X := fun x => x = p) h rfl
          exact ⟨_, a, (fun q e => ⟨e, by unfold endB; rw [hd]⟩), (fun q hq => by unfold nxt at hq; rw [hd] at hq; cases hq), fun _ => b⟩
        · rename_i l hd
          have hl : nxt D p = l := by unfold nxt; rw [hd]; rfl
          obtain ⟨a, b, c⟩ := go_rel (D := D) (fun s q s' => exp_rel D k s q s') l _ s' h (fun q hq => by rw [hl]; exact hq) (by simp)
          refine ⟨_, a, fun q e => ⟨e.1, ?_⟩, fun q hq => b q (by rw [← hl]; exact hq), fun he => c ?_⟩
          · unfold endB; rw [hd]; rw [hl] at e; exact decide_eq_true e.2
          · unfold endB at he; rw [hd] at he; exact of_decide_eq_true he
      obtain ⟨X, a, hX, hnx, hen⟩ := key
      have hpm : p ∈ s'.met := a.sub p (by simp)
      refine ⟨⟨fun q hq => a.sub q (List.mem_append_left _ hq), a.osub, ?_, ?_, ?_, a.nod, a.len, ?_⟩, hpm⟩
      · intro q hq hns r hr
        by_cases e : q = p
        · subst e; exact hnx r hr
        · exact a.clo q hq (fun x => (hm q).1 x |>.elim hns e) r hr
      · intro q hq hns he
        by_cases e : q = p
        · subst e; exact hen he
        · exact a.ends q hq (fun x => (hm q).1 x |>.elim hns e) he
      · intro q hq
        rcases a.outs q hq with h1 | h1 | ⟨h1, h2, h3⟩
        · exact .inl h1
        · obtain ⟨rfl, he⟩ := hX q h1
          exact .inr (.inr ⟨hpm, hn, he⟩)
        · exact .inr (.inr ⟨h1, fun e => h2 (List.mem_append_left _ e), h3⟩)
      · intro S hS hp q hq
        rcases a.reach S hS hp q hq with h1 | h1
        · rcases (hm q).1 h1 with h2 | rfl
          · exact .inl h2
          · exact .inr hp
        · exact .inr h1
/-- What holds where an expansion is over. -/
structure Fin_ (D : α → Option (List α)) (p : α) (s : Xs α) : Prop where
  has : p ∈ s.met
  clo : ∀ q ∈ s.met, ∀ r ∈ nxt D q, r ∈ s.met
  outs : ∀ q, q ∈ s.out ↔ q ∈ s.met ∧ endB D q = true
  nod : s.out.Nodup
  len : s.out.length ≤ 200
  reach : ∀ S : α → Prop, (∀ q r, S q → r ∈ nxt D q → S r) → S p → ∀ q ∈ s.met, S q
theorem exp_fin {D : α → Option (List α)} {k : Nat} {p : α} {s : Xs α} (h : expX D k ⟨[], []⟩ p = .ok s) : Fin_ D p s := by
  obtain ⟨a, hp⟩ := exp_rel D k _ p s h
  refine ⟨hp, fun q hq => a.clo q hq (by simp), fun q => ⟨fun hq => ?_, fun hq => a.ends q hq.1 (by simp) hq.2⟩, a.nod (by simp), a.len (by simp), fun S hS hSp q hq => ?_⟩
  · rcases a.outs q hq with h1 | h1 | h1
    · cases h1
    · exact h1.elim
    · exact ⟨h1.1, h1.2.2⟩
  · rcases a.reach S hS hSp q hq with h1 | h1
    · cases h1
    · exact h1
/-! The law's loop -/
def addX (all : List α) (q : α) : List α := if q ∈ all then all else all ++ [q]
theorem nodup_le : ∀ (l m : List α), l.Nodup → (∀ q ∈ l, q ∈ m) → l.length ≤ m.length
  | [], m, _, _ => Nat.zero_le _
  | a :: l, m, hn, hs => by
    rw [List.nodup_cons] at hn
    have ha := hs a (List.mem_cons_self ..)
    have := nodup_le l (m.erase a) hn.2 fun q hq => by
      rw [List.mem_erase_of_ne (fun e : q = a => hn.1 (e ▸ hq))]
      exact hs q (List.mem_cons_of_mem _ hq)
    rw [List.length_erase_of_mem ha] at this
    have hpos := List.length_pos_of_mem ha
    simp only [List.length_cons]
    omega
/-- What is in hand while those are gone through that are come to. -/
structure Lw (D : α → Option (List α)) (p : α) (s : Xs α) (all : List α) (i n : Nat) : Prop where
  nod : all.Nodup
  has : p ∈ all
  sub : ∀ q ∈ all, q ∈ s.met
  le : i ≤ all.length
  clo : ∀ j (hj : j < i), ∀ r ∈ nxt D (all[j]'(Nat.lt_of_lt_of_le hj le)), r ∈ all
  num : n = (all.take i).countP (endB D ·)
theorem Lw.start {D : α → Option (List α)} {p : α} {s : Xs α} (h : Fin_ D p s) : Lw D p s [p] 0 0 :=
  ⟨by simp, by simp, fun q hq => by rw [List.mem_singleton.1 hq]; exact h.has, Nat.zero_le _, fun j hj => absurd hj (Nat.not_lt_zero _), rfl⟩
/-- One that is come to is laid behind. -/
theorem Lw.add {D : α → Option (List α)} {p : α} {s : Xs α} {all : List α} {i n : Nat} (h : Lw D p s all i n) {q : α} (hq : q ∈ s.met) : Lw D p s (addX all q) i n := by
  unfold addX
  split
  · exact h
  · rename_i hn
    have hl : i ≤ (all ++ [q]).length := by have := h.le; rw [List.length_append]; omega
    refine ⟨nodup_snoc h.nod hn, List.mem_append_left _ h.has, fun r hr => ?_, hl, fun j hj r hr => ?_, ?_⟩
    · rcases List.mem_append.1 hr with h1 | h1
      · exact h.sub r h1
      · rw [List.mem_singleton.1 h1]; exact hq
    · have hj2 : j < all.length := Nat.lt_of_lt_of_le hj h.le
      rw [List.getElem_append_left hj2] at hr
      exact List.mem_append_left _ (h.clo j hj r hr)
    · rw [List.take_append_of_le_length h.le]; exact h.num
/-- One is gone through: those whom it stands for have been laid behind. -/
theorem Lw.step {D : α → Option (List α)} {p : α} {s : Xs α} {all : List α} {i n : Nat} (h : Lw D p s all i n) (hi : i < all.length) (hc : ∀ r ∈ nxt D all[i], r ∈ all) :
    Lw D p s all (i + 1) (n + if endB D all[i] then 1 else 0) := by
  refine ⟨h.nod, h.has, h.sub, hi, fun j hj r hr => ?_, ?_⟩
  · by_cases e : j = i
    · subst e; exact hc r hr
    · exact h.clo j (by omega) r hr
  · rw [List.take_succ_eq_append_getElem hi, List.countP_append, ← h.num]
    simp [List.countP_cons]
theorem Lw.done {D : α → Option (List α)} {p : α} {s : Xs α} {all : List α} {n : Nat} (h : Lw D p s all all.length n) (hs : Fin_ D p s) : n = s.out.length := by
  rw [h.num, List.take_length, List.countP_eq_length_filter]
  have hall : ∀ q ∈ s.met, q ∈ all := hs.reach (· ∈ all) (fun q r hq hr => by
    obtain ⟨j, hj, rfl⟩ := List.getElem_of_mem hq
    exact h.clo j hj r hr) h.has
  refine Nat.le_antisymm (nodup_le _ _ (h.nod.filter _) fun q hq => ?_) (nodup_le _ _ hs.nod fun q hq => ?_)
  · rw [List.mem_filter] at hq
    exact (hs.outs q).2 ⟨h.sub q hq.1, hq.2⟩
  · obtain ⟨h1, h2⟩ := (hs.outs q).1 hq
    exact List.mem_filter.2 ⟨hall q h1, h2⟩
/-- Whoever stands for none is found alone. -/
theorem exp_alone {D : α → Option (List α)} {k : Nat} {p : α} (h : D p = none) : expX D (k + 1) ⟨[], []⟩ p = .ok ⟨[p], [p]⟩ := by
  unfold expX
  simp [h, findX]
end Go.Proofs.YtpmmaickjolimaaGreatDoor.Ex

/- A map keyed by mailboxes: looked up, stored into. -/
namespace Go.Proofs.YtpmmaickjolimaaGreatDoor.Tb
open Go.RowKit
open Ci (Bel hid)
open Ma (Pt Pts ptC)

/-- Whom a map of mailboxes holds. -/
def MapAt (W : World) (r : Nat) (met : List Pt) : Prop := ∃ es clock, W.heap[r]? = some (.map es clock) ∧ es.toList.map (fun e => (e.key, e.val)) = met.map fun p => (Value.agg (ptC p).toArray, Value.bool true)
theorem asking (p : Pt) (w : World) : ∀ (es : List MapEntry) (met : List Pt) (i : Nat), es.map (fun e => (e.key, e.val)) = met.map (fun p => (Value.agg (ptC p).toArray, Value.bool true)) →
    ∃ r, (Instr.findAsking 39 (.agg (ptC p).toArray) es i).run Tryz.prog w = .ok r w ∧ ((p ∈ met ∧ ∃ j, r = some (j, .bool true)) ∨ (p ∉ met ∧ r = none))
  | [], met, i, h => by
    cases met with
    | nil => exact ⟨none, rfl, .inr ⟨by simp, rfl⟩⟩
    | cons q met => cases h
  | e :: es, met, i, h => by
    cases met with
    | nil => cases h
    | cons q met =>
      rw [List.map_cons, List.map_cons] at h
      obtain ⟨h1, h2⟩ := List.cons.inj h
      obtain ⟨h3, h4⟩ := Prod.mk.inj h1
      have heq : (Op.equalIn Op.maxDepth 39 (.agg (ptC p).toArray) (.agg (ptC q).toArray)).run Tryz.prog w = .ok (decide (p = q)) w := eq_ptc p q w
      obtain ⟨r, hr, hc⟩ := asking p w es met (i + 1) h2
      by_cases hpq : p = q
      · rw [decide_eq_true hpq] at heq
        refine ⟨some (i, .bool true), ?_, .inl ⟨by rw [hpq]; exact List.mem_cons_self .., i, rfl⟩⟩
        unfold Instr.findAsking
        simp only [Sem.run_bind, h3, Op.equal, heq, Result.andThen_ok, if_true, h4, Sem.run_pure]
      · rw [decide_eq_false hpq] at heq
        refine ⟨r, ?_, ?_⟩
        · unfold Instr.findAsking
          simp only [Sem.run_bind, h3, Op.equal, heq, Result.andThen_ok, Bool.false_eq_true, if_false, hr]
        · rcases hc with ⟨a, b⟩ | ⟨a, b⟩
          · exact .inl ⟨List.mem_cons_of_mem _ a, b⟩
          · exact .inr ⟨fun hm => (List.mem_cons.1 hm).elim hpq a, b⟩
theorem find_key (p : Pt) (w : World) (es : List MapEntry) (met : List Pt) (h : es.map (fun e => (e.key, e.val)) = met.map (fun p => (Value.agg (ptC p).toArray, Value.bool true))) :
    ∃ r, (Instr.findKey 39 (.agg (ptC p).toArray) es).run Tryz.prog w = .ok r w ∧ ((p ∈ met ∧ ∃ j, r = some (j, .bool true)) ∨ (p ∉ met ∧ r = none)) := by
  unfold Instr.findKey
  simp only [Sem.run_bind, run_underlying Tryz.underlying39, Result.andThen_ok]
  cases es with
  | nil =>
    cases met with
    | nil => exact ⟨none, rfl, .inr ⟨by simp, rfl⟩⟩
    | cons q met => cases h
  | cons e es =>
    obtain ⟨r, hr, hc⟩ := asking p w (e :: es) met 0 h
    refine ⟨r, ?_, hc⟩
    unfold Instr.findNow Instr.sameNow
    exact hr
set_option maxRecDepth 100000 in
theorem check_pt (em : Bool) (p : Pt) (w : World) : (Instr.checkKey em 10000 39 (.agg (ptC p).toArray)).run Tryz.prog w = .ok () w := by
  rw [show (10000 : Nat) = 9999 + 1 from rfl, Instr.checkKey]
  simp only [Sem.run_bind, run_underlying Tryz.underlying39, Result.andThen_ok]
  obtain ⟨nl, lc, dm, lt⟩ := p
  rfl
/-- Is one in the map? -/
theorem met_look {W : World} {r : Nat} {met : List Pt} (h : MapAt W r met) (p : Pt) : (Instr.lookup 113 (.map (some r)) (.agg (ptC p).toArray) false).run Tryz.prog W = .ok (.bool (decide (p ∈ met))) W := by
  obtain ⟨es, clock, h1, h2⟩ := h
  obtain ⟨x, hx, hc⟩ := find_key p W es.toList met h2
  have hz : (zeroValue 4).run Tryz.prog W = .ok (.bool false) W := Tryz.zeroValue4 W
  unfold Instr.lookup
  simp only [Sem.run_bind, run_underlying Tryz.underlying113, Result.andThen_ok]
  have hg : (getObj r).run Tryz.prog W = .ok (.map es clock) W := by simp [getObj, Sem.run, h1]
  have hck := check_pt es.isEmpty p W
  rw [hg]
  simp only [Result.andThen_ok, Sem.run_bind, Sem.run_pure, hck, hx]
  rcases hc with ⟨a, j, rfl⟩ | ⟨a, rfl⟩
  · rw [decide_eq_true a]; rfl
  · rw [decide_eq_false a]
    simp only [Sem.run_bind, hz, Result.andThen_ok]
    rfl
/-- One is put into the map. -/
theorem met_put {W : World} {r : Nat} {met : List Pt} (h : MapAt W r met) (p : Pt) (hp : p ∉ met) : ∃ es clock, (Instr.mapUpdate 113 (.map (some r)) (.agg (ptC p).toArray) (.bool true)).run Tryz.prog W = .ok () (W.putObj r (.map es clock)) ∧ es.toList.map (fun e => (e.key, e.val)) = (met ++ [p]).map fun p => (Value.agg (ptC p).toArray, Value.bool true) := by
  obtain ⟨es, clock, h1, h2⟩ := h
  obtain ⟨x, hx, hc⟩ := find_key p W es.toList met h2
  rcases hc with ⟨a, -⟩ | ⟨-, rfl⟩
  · exact absurd a hp
  refine ⟨es.push { key := .agg (ptC p).toArray, val := .bool true, born := clock }, clock + 1, ?_, by rw [Array.toList_push, List.map_append, List.map_append, h2]; rfl⟩
  unfold Instr.mapUpdate
  simp only [Sem.run_bind, run_underlying Tryz.underlying113, Result.andThen_ok]
  have hg : (getObj r).run Tryz.prog W = .ok (.map es clock) W := by simp [getObj, Sem.run, h1]
  have hck := check_pt false p W
  have hs : ∀ o, (setObj r o).run Tryz.prog W = .ok () (W.putObj r o) := fun o => by simp [setObj, Sem.run, World.putObj, h1]
  rw [hg]
  simp only [Result.andThen_ok, Sem.run_bind, hck, hx, hs]
end Go.Proofs.YtpmmaickjolimaaGreatDoor.Tb

/- Walk: the finder of Expand of alias. -/
namespace Go.Proofs.YtpmmaickjolimaaGreatDoor.Tb
open Go.RowKit
open Ci (Bel hid own_bel row_shape own_base addr_add splitL Aft wp_region_aft quiet_load_aft)
open Ma (Pt Pts ptC ptCs mbQ Mailbox_run pt_infos pt_size ptCs_snoc ptCs_at rightP good_small)
open Ex (Xs findX goX expX)

/-- An expansion in hand: the blocks of its variables, and what they hold. -/
structure ExM (w0 : World) (ts : List (List En)) (a : Option Addr) (ba bo bm r bf be : Nat) (W : World) (s : Xs Pt) (v : Value) : Prop where
  bel : Bel w0 W
  ge : w0.heap.size ≤ ba ∧ w0.heap.size ≤ bo ∧ w0.heap.size ≤ bm ∧ w0.heap.size ≤ r ∧ w0.heap.size ≤ bf ∧ w0.heap.size ≤ be
  al : W.heap[ba]? = some (.cells #[.pointer a] 47 (0, 0))
  out : W.heap[bo]? = some (.cells #[v] 37 (0, 0))
  row : W.ownsRow w0.heap.size 39 4 v s.out.length (ptCs s.out)
  mv : W.heap[bm]? = some (.cells #[.map (some r)] 113 (0, 0))
  met : MapAt W r s.met
  fv : W.heap[bf]? = some (.cells #[.func (.func 61) #[] #[.pointer (some ⟨bo, 0, none⟩)]] 114 (0, 0))
  ev : W.heap[be]? = some (.cells #[.func (.func 63) #[] #[.pointer (some ⟨bm, 0, none⟩), .pointer (some ⟨ba, 0, none⟩), .pointer (some ⟨bf, 0, none⟩), .pointer (some ⟨be, 0, none⟩)]] 115 (0, 0))
  len : s.out.length ≤ 200
/-- How a world goes on while an expansion works. -/
structure Xm (bo r : Nat) (W W' : World) (v v' : Value) : Prop where
  os : W'.os = W.os
  tape : W'.tape = W.tape
  output : W'.output = W.output
  size : W.heap.size ≤ W'.heap.size
  keep : ∀ j, j < W.heap.size → j ≠ bo → j ≠ r → v.ownBlock ≠ some j → W'.heap[j]? = W.heap[j]?
  fresh : v'.ownBlock = v.ownBlock ∨ ∃ g, v'.ownBlock = some g ∧ W.heap.size ≤ g
theorem Xm.of_bel {bo r : Nat} {W W' : World} {v : Value} (h : Bel W W') : Xm bo r W W' v v := ⟨h.os, h.tape, h.output, h.size, fun j hj _ _ _ => h.block j hj, .inl rfl⟩
theorem Xm.trans {bo r : Nat} {A B C : World} {u v x : Value} (h : Xm bo r A B u v) (k : Xm bo r B C v x) : Xm bo r A C u x := by
  refine ⟨k.os.trans h.os, k.tape.trans h.tape, k.output.trans h.output, Nat.le_trans h.size k.size, fun j hj h1 h2 h3 => ?_, ?_⟩
  · refine (k.keep j (Nat.lt_of_lt_of_le hj h.size) h1 h2 ?_).trans (h.keep j hj h1 h2 h3)
    rcases h.fresh with e | ⟨g, e, hg⟩
    · rw [e]; exact h3
    · rw [e]; intro e2; have := Option.some.inj e2; omega
  · rcases k.fresh with e | ⟨g, e, hg⟩
    · rw [e]; exact h.fresh
    · exact .inr ⟨g, e, Nat.le_trans h.size hg⟩
theorem ExM.next {w0 W W' : World} {ts : List (List En)} {a : Option Addr} {ba bo bm r bf be : Nat} {s : Xs Pt} {v : Value} (h : ExM w0 ts a ba bo bm r bf be W s v) (hb : Bel W W') : ExM w0 ts a ba bo bm r bf be W' s v := by
  refine ⟨h.bel.trans hb, h.ge, hb.heap h.al, hb.heap h.out, own_bel h.row hb, hb.heap h.mv, ?_, hb.heap h.fv, hb.heap h.ev, h.len⟩
  obtain ⟨es, c, h1, h2⟩ := h.met
  exact ⟨es, c, hb.heap h1, h2⟩
/-- What a panic of an expansion's bears. -/
def stopV (e : Int) : List PanicEntry := [{ v := .iface 111 (.agg #[.int .i64 e]), recovered := false }]
/-- How a part of an expansion ends. -/
def ExPost (w0 : World) (ts : List (List En)) (a : Option Addr) (ba bo bm r bf be : Nat) (W : World) (v : Value) (x : Except Int (Xs Pt)) (e : Ending) (W' : World) : Prop := match x with
  | .ok s' => e = .returned (.tuple #[]) ∧ ∃ v', Xm bo r W W' v v' ∧ ExM w0 ts a ba bo bm r bf be W' s' v'
  | .error c => e = .panicked (stopV c) ∧ ∃ s' v', Xm bo r W W' v v' ∧ ExM w0 ts a ba bo bm r bf be W' s' v'
theorem ExM.outs {w0 W : World} {ts : List (List En)} {a : Option Addr} {ba bo bm r bf be : Nat} {s : Xs Pt} {v : Value} (h : ExM w0 ts a ba bo bm r bf be W s v) : ∃ x c, v = .slice x s.out.length c ∧ Pts W x s.out := by
  obtain ⟨x, c, rfl, -, -⟩ := row_shape h.row
  exact ⟨x, c, rfl, pts_of_row h.row⟩
/-- One is found: what is appended leaves all else. -/
theorem ExM.found {w0 W W1 W2 : World} {ts : List (List En)} {a : Option Addr} {ba bo bm r bf be : Nat} {s : Xs Pt} {v v' : Value} {p : Pt} {o : Obj} (h : ExM w0 ts a ba bo bm r bf be W s v) (hb : Bel W W1) (hg : (W1.alloc o).grownBy W2 v.ownBlock) (hf : v'.ownBlock = v.ownBlock ∨ ∃ g, v'.ownBlock = some g ∧ W1.heap.size ≤ g)
    (ho : W2.ownsRow w0.heap.size 39 4 v' (s.out.length + 1) (ptCs s.out ++ ptC p)) (hl : s.out.length < 200) :
    Xm bo r W (W2.setCell ⟨bo, 0, none⟩ v') v v' ∧ ExM w0 ts a ba bo bm r bf be (W2.setCell ⟨bo, 0, none⟩ v') ⟨s.met, s.out ++ [p]⟩ v' := by
  have hsz : W.heap.size ≤ W1.heap.size := hb.size
  have lt : ∀ {j : Nat} {o : Obj}, W.heap[j]? = some o → j < W.heap.size := fun h => (Array.getElem?_eq_some_iff.1 h).1
  have k2 : ∀ j, j < W.heap.size → v.ownBlock ≠ some j → W2.heap[j]? = W.heap[j]? := fun j hj hv => by
    rw [hg.block j (by rw [World.size_alloc]; omega) (fun e => hv e.symm), heap_alloc_old _ _ (by omega)]
    exact hb.block j hj
  have k3 : ∀ j, j < W.heap.size → v.ownBlock ≠ some j → j ≠ bo → (W2.setCell ⟨bo, 0, none⟩ v').heap[j]? = W.heap[j]? := fun j hj hv hne => by
    rw [heap_setCell_other _ _ _ _ (show j ≠ bo from hne)]
    exact k2 j hj hv
  have hz : (W2.setCell ⟨bo, 0, none⟩ v').heap.size = W2.heap.size := World.size_setCell ..
  have hgz := hg.size
  rw [World.size_alloc] at hgz
  have cn : ∀ {j : Nat} {cur : Array Value} {T : TypeId}, W.heap[j]? = some (.cells cur T (0, 0)) → T ≠ 39 → v.ownBlock ≠ some j := fun hj hT => own_ne h.row hj hT
  have bn : ∀ {j : Nat} {cur : Array Value} {T : TypeId}, W.heap[j]? = some (.cells cur T (0, 0)) → T ≠ 37 → j ≠ bo := fun hj hT e => by
    subst e
    rw [h.out] at hj
    cases hj
    exact hT rfl
  have cell : ∀ {j : Nat} {cur : Array Value} {T : TypeId}, W.heap[j]? = some (.cells cur T (0, 0)) → T ≠ 39 → T ≠ 37 → (W2.setCell ⟨bo, 0, none⟩ v').heap[j]? = some (.cells cur T (0, 0)) := fun hj h1 h2 => (k3 _ (lt hj) (cn hj h1) (bn hj h2)).trans hj
  have hob : W2.heap[bo]? = some (.cells #[v] 37 (0, 0)) := (k2 bo (lt h.out) (cn h.out (by decide))).trans h.out
  refine ⟨⟨?_, ?_, ?_, by rw [hz]; omega, fun j hj h1 _ h3 => k3 j hj h3 h1, ?_⟩, ⟨?_, h.ge, cell h.al (by decide) (by decide), heap_setCell_same _ _ _ _ _ _ hob, ?_, cell h.mv (by decide) (by decide), ?_, cell h.fv (by decide) (by decide), cell h.ev (by decide) (by decide), ?_⟩⟩
  · exact hg.os.trans hb.os
  · exact hg.tape.trans hb.tape
  · exact hg.output.trans hb.output
  · rcases hf with e | ⟨g, e, hge⟩
    · exact .inl e
    · exact .inr ⟨g, e, by omega⟩
  · exact (Ci.Bel.grown ((h.bel.trans hb).alloc _) hg ((own_bel h.row hb).alloc _)).setCell h.ge.2.1 _
  · show (W2.setCell ⟨bo, 0, none⟩ v').ownsRow _ _ _ _ (s.out ++ [p]).length _
    rw [ptCs_snoc, List.length_append]
    exact ownsRow_setCell_other ho (own_ne ho hob (by decide)) _
  · obtain ⟨es, c, h1, h2⟩ := h.met
    refine ⟨es, c, (k3 r (lt h1) (fun e => ?_) (fun e => ?_)).trans h1, h2⟩
    · rcases h.row.2 with ⟨rfl, -⟩ | ⟨g, cap, cur, rfl, -, hgg, -⟩
      · cases e
      · have : g = r := Option.some.inj e
        rw [this, h1] at hgg
        cases hgg
    · subst e
      rw [h.out] at h1
      cases h1
  · show (s.out ++ [p]).length ≤ 200
    rw [List.length_append]
    show s.out.length + 1 ≤ 200
    omega
theorem ex_box {w0 W W1 W2 : World} {ts : List (List En)} {a : Option Addr} {ba bo bm r bf be : Nat} {s : Xs Pt} {v : Value} {o : Obj} (h : ExM w0 ts a ba bo bm r bf be W s v) (hb : Bel W W1) (hg : (W1.alloc o).grownBy W2 v.ownBlock) : W2.heap[bo]? = some (.cells #[v] 37 (0, 0)) := by
  have hz : W.heap.size ≤ W1.heap.size := hb.size
  have hl : bo < W.heap.size := (Array.getElem?_eq_some_iff.1 h.out).1
  rw [hg.block bo (by rw [World.size_alloc]; omega) (fun e => own_ne h.row h.out (by decide) e.symm), heap_alloc_old _ _ (by omega)]
  exact hb.heap h.out
set_option maxHeartbeats 4000000 in
set_option maxRecDepth 100000 in
theorem find_run (w0 : World) (ts : List (List En)) (a : Option Addr) (ba bo bm r bf be : Nat) (W : World) (s : Xs Pt) (v : Value) (p : Pt) (h : ExM w0 ts a ba bo bm r bf be W s v) :
    Calls Tryz.prog 61 #[.agg (ptC p).toArray, .pointer (some ⟨bo, 0, none⟩)] W (ExPost w0 ts a ba bo bm r bf be W v (findX s p)) := by
  obtain ⟨x, c, rfl, hP⟩ := h.outs
  have HH := hid h
  have HX : Hid (findX s p = if p ∈ s.out then .ok s else if 200 ≤ s.out.length then .error 160 else .ok ⟨s.met, s.out ++ [p]⟩) := hid rfl
  have HCt := (show Hid (∀ W', Bel W W' → Calls Tryz.prog 62 #[.slice x s.out.length c, .agg (ptC p).toArray] W' fun e w' => e = .returned (.bool (decide (p ∈ s.out))) ∧ Bel W' w') from fun W' hb => pcontains_run x s.out c p W' (hP.next hb) (by have := h.len; omega))
  obtain ⟨nl, lc, dm, lt⟩ := p
  have HB0 := hid ((Bel.refl W).alloc (.cells #[.bool nl, .string ⟨lc.toArray⟩, .string ⟨dm.toArray⟩, .bool lt] 39))
  have HC0 := hid (heap_alloc_new W (.cells #[.bool nl, .string ⟨lc.toArray⟩, .string ⟨dm.toArray⟩, .bool lt] 39))
  have hbl : bo < W.heap.size := (Array.getElem?_eq_some_iff.1 h.out).1
  have c0 : (W.alloc (.cells #[.bool nl, .string ⟨lc.toArray⟩, .string ⟨dm.toArray⟩, .bool lt] 39)).cell? ⟨bo, 0, none⟩ = some (.slice x s.out.length c) := by rw [bel_cell HB0.out hbl, Lib.cell_of_heap h.out]; rfl
  have HO := hid h.out
  have hlen := h.len
  have HLen := hid hlen
  clear h hP hbl
  show Calls _ _ #[.agg #[.bool nl, .string ⟨lc.toArray⟩, .string ⟨dm.toArray⟩, .bool lt], .pointer (some ⟨bo, 0, none⟩)] _ _
  by_cases h1 : (⟨nl, lc, dm, lt⟩ : Pt) ∈ s.out
  · have HY := hid (show findX s ⟨nl, lc, dm, lt⟩ = .ok s by rw [HX.out, if_pos h1])
    rw [decide_eq_true h1] at HCt
    clear h1 HX
    generalize hn : s.out.length = n at c0 HCt HH ⊢
    have HN := hid hn
    clear hn
    go_enter Tryz.func61, Tryz.ntmps61
    go_wp2_with (first | (go_at_call 62; refine (HCt.out _ HB0.out).mono ?_; rintro e w1 ⟨rfl, hb1⟩))
    refine bodyPost_ret (results_none rfl _ _ _) rfl ?_
    rw [HY.out]
    exact ⟨rfl, _, Xm.of_bel (HB0.out.trans hb1), HH.out.next (HB0.out.trans hb1)⟩
  · rw [decide_eq_false h1] at HCt
    have HX2 := hid (show findX s ⟨nl, lc, dm, lt⟩ = if 200 ≤ s.out.length then .error 160 else .ok ⟨s.met, s.out ++ [⟨nl, lc, dm, lt⟩]⟩ by rw [HX.out, if_neg h1])
    clear h1 HX
    by_cases h2 : 200 ≤ s.out.length
    · have HY := hid (show findX s ⟨nl, lc, dm, lt⟩ = .error 160 by rw [HX2.out, if_pos h2])
      have b1 : decide ((200 : Int) ≤ (s.out.length : Int)) = true := decide_eq_true (by omega)
      clear h2 HX2 hlen
      have hn63 : s.out.length ≤ 9223372036854775807 := by have := HLen.out; omega
      generalize hn : s.out.length = n at c0 HCt b1 hn63 HH ⊢
      have HN := hid hn
      clear hn
      go_enter Tryz.func61, Tryz.ntmps61
      go_wp2_with (first | (go_at_call 62; refine (HCt.out _ HB0.out).mono ?_; rintro e w1 ⟨rfl, hb1⟩; have c1 : w1.cell? ⟨bo, 0, none⟩ = some (.slice x n c) := (by rw [bel_cell hb1 (Array.getElem?_eq_some_iff.1 (HB0.out.heap HO.out)).1]; exact c0)))
      refine ⟨rfl, ?_⟩
      rw [HY.out]
      exact ⟨rfl, s, _, Xm.of_bel (HB0.out.trans hb1), HH.out.next (HB0.out.trans hb1)⟩
    · have HY := hid (show findX s ⟨nl, lc, dm, lt⟩ = .ok ⟨s.met, s.out ++ [⟨nl, lc, dm, lt⟩]⟩ by rw [HX2.out, if_neg h2])
      have hlt : s.out.length < 200 := by omega
      have HLt := hid hlt
      have b1 : decide ((200 : Int) ≤ (s.out.length : Int)) = false := decide_eq_false (by omega)
      clear h2 HX2 hlen
      have hn200 : s.out.length ≤ 9223372036854775807 := by omega
      generalize hn : s.out.length = n at c0 HCt b1 hn200 HH ⊢
      have HN := hid hn
      clear hn hlt
      have HRow := (show Hid (∀ w1, Bel W w1 → w1.ownsRow w0.heap.size 39 4 (.slice x n c) n (ptCs s.out)) from fun w1 hb => by
        have := own_bel HH.out.row hb
        rw [HN.out] at this
        exact this)
      go_enter Tryz.func61, Tryz.ntmps61
      go_wp2_with (first | (go_at_call 62; refine (HCt.out _ HB0.out).mono ?_; rintro e w1 ⟨rfl, hb1⟩; have HB1 := hid (HB0.out.trans hb1); have hc1 := hb1.heap HC0.out; have ho1 := hb1.heap (HB0.out.heap HO.out); have f1 : w1.frozen? ⟨bo, 0, none⟩ = false := Lib.frozen_of_heap ho1 0; have c1 : w1.cell? ⟨bo, 0, none⟩ = some (.slice x n c) := (by rw [bel_cell hb1 (Array.getElem?_eq_some_iff.1 (HB0.out.heap HO.out)).1]; exact c0); have d0 : w1.cell? ⟨W.heap.size, 0, none⟩ = some (.bool nl) := (by rw [Lib.cell_of_heap hc1]; rfl); have d1 : w1.cell? ⟨W.heap.size, 1, none⟩ = some (.string ⟨lc.toArray⟩) := (by rw [Lib.cell_of_heap hc1]; rfl); have d2 : w1.cell? ⟨W.heap.size, 2, none⟩ = some (.string ⟨dm.toArray⟩) := (by rw [Lib.cell_of_heap hc1]; rfl); have d3 : w1.cell? ⟨W.heap.size, 3, none⟩ = some (.bool lt) := (by rw [Lib.cell_of_heap hc1]; rfl); clear hc1 ho1 hb1) | (at_builtin; refine wpList_push_at (W := w1) rfl (.tmp 11) (.tmp 13) 37 rfl 39 (.agg #[.bool false, .string ⟨#[]⟩, .string ⟨#[]⟩, .bool false]) 4 48 Tryz.underlying37 pt_infos rfl (by decide) w0.heap.size (.slice x n c) n (ptCs s.out) rfl (HRow.out w1 HB1.out) (HH.out.bel.trans HB1.out).size _ rfl rfl (by intro u hu; simp at hu; rcases hu with rfl | rfl | rfl | rfl <;> rfl) (by unfold maxLen; have := HLt.out; have := HN.out; omega) (by have := HLt.out; have := HN.out; omega) ?_; intro v9 w9 hown9 hg9 hf9; obtain ⟨x9, c9, rfl, -, -⟩ := row_shape hown9; have e9 := ex_box HH.out HB1.out hg9; have c9b : w9.cell? ⟨bo, 0, none⟩ = some (.slice x n c) := (by rw [Lib.cell_of_heap e9]; rfl); have f9 : w9.frozen? ⟨bo, 0, none⟩ = false := Lib.frozen_of_heap e9 0; have HO9 := hid hown9; have HG9 := hid hg9; have HF9 := hid hf9; clear hown9 hg9 hf9 e9))
      refine bodyPost_ret (results_none rfl _ _ _) rfl ?_
      rw [HY.out]
      have e := HN.out
      subst e
      have hh := HH.out.found (p := ⟨nl, lc, dm, lt⟩) HB1.out HG9.out (HF9.out) HO9.out HLt.out
      exact ⟨rfl, _, hh⟩
end Go.Proofs.YtpmmaickjolimaaGreatDoor.Tb
