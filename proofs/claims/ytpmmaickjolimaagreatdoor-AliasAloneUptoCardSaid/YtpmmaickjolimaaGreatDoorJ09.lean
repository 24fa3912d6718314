/- The parser in memory; is, take, want, took. -/
import Derived.Test.YtpmmaickjolimaaGreatDoorJ08
import Derived.Laws.ResultCell
import Derived.Deep.RegionHeld3
import Derived.Deep.RegionLaw
import Derived.Laws.AppendOwn
import Derived.Test.YtpmmaickjolimaaGreatDoorJ01
import Derived.Test.YtpmmaickjolimaaGreatDoorJ07
import Derived.Lib.ConvBytes
import Derived.Test.YtpmmaickjolimaaGreatDoorJ03
namespace Go.Proofs.YtpmmaickjolimaaGreatDoor.Ma
open Go.RowKit
open Ci (Bel own_bel row_shape addr_add own_base)

theorem run_loadVar_one {P : Program} (w : World) (ad : Addr) (ty : TypeId) (v : Value) (d : TypeDesc) (hc : w.cell? ad = some v) (hu : P.underlying ty = some d) (hd : d.isRow = false) :
    (loadVar ty ad).run P w = .ok v w := by
  have hagg : (isAgg ty).run P w = .ok false w := by
    unfold isAgg
    rw [Sem.run_bind, run_underlying hu w]
    cases d <;> simp_all
  simp [loadVar, Sem.run_bind, hagg, hc]
structure Cx where
  W : World
  lb : Nat
  body : ByteArray
  T : List Tk
def spC (x : Sp) : List Value := [.string ⟨x.loc.toArray⟩, .string ⟨x.dom.toArray⟩, .int .i64 x.from_, .int .i64 x.til, .string ⟨x.name.toArray⟩]
def spCs (l : List Sp) : List Value := l.flatMap spC
/-- What a parser stands on: its tokens, an end behind them. -/
structure Cx.Ok (X : Cx) : Prop where
  tk : ∀ j v, (tkCs X.T)[j]? = some v → X.W.cell? ⟨X.lb, j, none⟩ = some v
  lt : X.lb < X.W.heap.size
  num : X.T.length ≤ 65537
  en : ∃ T' e, X.T = T' ++ [e] ∧ e.kind = 101 ∧ ∀ t ∈ T', t.kind ≠ 101
  nn : ∀ t ∈ X.T, t.kind ≠ 0
  tx : ∀ t ∈ X.T, t.text.length ≤ 65536
/-- A parser's state in memory. -/
structure Ps (X : Cx) (st : St) (sl : Value) (w : World) : Prop where
  bel : Bel X.W w
  at_ : ∃ (k cp : Nat) (ad : Option Addr), st.l = X.T.drop k ∧ k ≤ X.T.length ∧ st.l.length ≤ cp ∧ cp ≤ maxLen ∧ (0 < st.l.length → ad = some ⟨X.lb, k * 4, none⟩) ∧
    w.heap[X.W.heap.size]? = some (.cells #[.string X.body, .slice ad st.l.length cp, .bool st.bad, sl] 81 (0, 0))
  own : w.ownsRow (X.W.heap.size + 1) 84 5 sl st.all.length (spCs st.all)
/-- All that was there but the parser is as it was. -/
structure Exc (b : Nat) (w w' : World) : Prop where
  le : w.heap.size ≤ w'.heap.size
  eq : ∀ j, j < w.heap.size → j ≠ b → w'.heap[j]? = w.heap[j]?
theorem Exc.refl (b : Nat) (w : World) : Exc b w w := ⟨Nat.le_refl _, fun _ _ _ => rfl⟩
theorem Exc.trans {b : Nat} {w w1 w2 : World} (h : Exc b w w1) (k : Exc b w1 w2) : Exc b w w2 :=
  ⟨Nat.le_trans h.le k.le, fun j hj hn => (k.eq j (Nat.lt_of_lt_of_le hj h.le) hn).trans (h.eq j hj hn)⟩
theorem Exc.bel {b : Nat} {w w' : World} (h : Bel w w') : Exc b w w' := ⟨h.size, fun j hj _ => h.block j hj⟩
theorem Exc.heap {b : Nat} {w w' : World} (h : Exc b w w') {j : Nat} {o : Obj} (hj : w.heap[j]? = some o) (hn : j ≠ b) : w'.heap[j]? = some o :=
  (h.eq j (Array.getElem?_eq_some_iff.1 hj).1 hn).trans hj
theorem own_other {w w' : World} {base b e size n : Nat} {v : Value} {xs : List Value} (h : w.ownsRow base e size v n xs) (hb : b < base) (he : ∀ k, k ≠ b → w'.heap[k]? = w.heap[k]?) : w'.ownsRow base e size v n xs := by
  refine ⟨h.1, ?_⟩
  rcases h.2 with f | ⟨g, cap, cur, rfl, hg, hh, rest⟩
  · exact .inl f
  · exact .inr ⟨g, cap, cur, rfl, hg, by rw [he g (by omega)]; exact hh, rest⟩
theorem Ps.next {X : Cx} {st : St} {sl : Value} {w w' : World} (h : Ps X st sl w) (hb : Bel w w') : Ps X st sl w' := by
  obtain ⟨k, cp, ad, h1, h2, h3, h4, h5, h6⟩ := h.at_
  exact ⟨h.bel.trans hb, ⟨k, cp, ad, h1, h2, h3, h4, h5, hb.heap h6⟩, own_bel h.own hb⟩
/-- The parser was written. -/
theorem Ps.upd {X : Cx} {st st' : St} {sl : Value} {w w' : World} (h : Ps X st sl w) (he : ∀ k, k ≠ X.W.heap.size → w'.heap[k]? = w.heap[k]?) (hb : ∀ U : World, Bel U w → U.heap.size ≤ X.W.heap.size → Bel U w') (ha : st'.all = st.all)
    (hat : ∃ (k cp : Nat) (ad : Option Addr), st'.l = X.T.drop k ∧ k ≤ X.T.length ∧ st'.l.length ≤ cp ∧ cp ≤ maxLen ∧ (0 < st'.l.length → ad = some ⟨X.lb, k * 4, none⟩) ∧
    w'.heap[X.W.heap.size]? = some (.cells #[.string X.body, .slice ad st'.l.length cp, .bool st'.bad, sl] 81 (0, 0))) : Ps X st' sl w' :=
  ⟨hb _ h.bel (Nat.le_refl _), hat, by rw [ha]; exact own_other h.own (Nat.lt_succ_self _) he⟩
theorem Exc.upd {b : Nat} {w w' : World} (hs : w.heap.size ≤ w'.heap.size) (he : ∀ k, k ≠ b → w'.heap[k]? = w.heap[k]?) : Exc b w w' := ⟨hs, fun j _ hn => he j hn⟩
theorem tkCs_at (T : List Tk) (k : Nat) (hk : k < T.length) (j : Nat) (v : Value) (hv : (tkC T[k])[j]? = some v) : (tkCs T)[k * 4 + j]? = some v := by
  induction T generalizing k with
  | nil => simp at hk
  | cons t T ih =>
    show (tkC t ++ tkCs T)[k * 4 + j]? = some v
    have hl : (tkC t).length = 4 := rfl
    cases k with
    | zero =>
      have hj : j < 4 := by
        have := (List.getElem?_eq_some_iff.1 hv).1
        exact this
      rw [List.getElem?_append_left (by omega), Nat.zero_mul, Nat.zero_add]
      exact hv
    | succ k =>
      rw [List.getElem?_append_right (by omega), hl, show (k + 1) * 4 + j - 4 = k * 4 + j by omega]
      exact ih k (by simp at hk; omega) hv
/-- A token in hand. -/
theorem Ps.tok {X : Cx} {st : St} {sl : Value} {w : World} (hX : X.Ok) (h : Ps X st sl w) {k : Nat} (hl : st.l = X.T.drop k) (i : Nat) (hi : i < st.l.length) : w.rangeAt X.lb ((k + i) * 4) (tkC st.l[i]) := by
  have hk : k + i < X.T.length := by rw [hl, List.length_drop] at hi; omega
  have e : st.l[i] = X.T[k + i] := by simp [hl]
  intro j v hv
  rw [e] at hv
  have hc := hX.tk _ v (tkCs_at X.T (k + i) hk j v hv)
  unfold World.cell? at hc ⊢
  simp only at hc ⊢
  rw [h.bel.block X.lb hX.lt]
  exact hc
theorem hd_eq {st : St} (h : 0 < st.l.length) : hd st = st.l[0] := by
  unfold hd
  cases st with
  | mk bad l all => cases l with
    | nil => simp at h
    | cons t l => rfl
/-! take -/
theorem int_size : (Tryz.prog.info? 3).map (·.size) = some 1 := by kernel_rfl
/-- What a method leaves: the state, and all else as it was. -/
structure Pw (X : Cx) (st : St) (sl : Value) (w w' : World) : Prop where
  ps : Ps X st sl w'
  ex : Exc X.W.heap.size w w'
theorem Pw.trans {X : Cx} {st st' : St} {sl sl' : Value} {w w1 w2 : World} (h : Pw X st sl w w1) (k : Pw X st' sl' w1 w2) : Pw X st' sl' w w2 := ⟨k.ps, h.ex.trans k.ex⟩
theorem wpList_store_blk {P : Program} {ops : Array Oper} {rest : List Oper} {op : Oper} {a : Act} {w : World} {Q : Exit → Act → World → Prop} (hgd : op.guard = none) (ty : TypeId) (x y : Operand) (ho : op.op = .store ty x y)
    (b : Nat) (vs : List Value) (hx : a.eval x = .pointer (some ⟨b, 0, none⟩)) (hy : a.eval y = .agg vs.toArray) (hi : (P.info? ty).map (·.size) = some vs.length) (h1 : vs.toArray.all (·.oneCell') = true)
    (cs : List Value) (T : TypeId) (hb : w.heap[b]? = some (.cells cs.toArray T (0, 0))) (hl : vs.length = cs.length)
    (h : ∀ w', w'.heap[b]? = some (.cells vs.toArray T (0, 0)) → (∀ k, k ≠ b → w'.heap[k]? = w.heap[k]?) → w'.heap.size = w.heap.size → (∀ U : World, Bel U w → U.heap.size ≤ b → Bel U w') → wpList P ops Q rest (a.put op.dst undef) w') :
    wpList P ops Q (op :: rest) a w := by
  refine wpList_store_mid hgd ty x y ho b 0 vs.toArray hx hy (Ci.there_of hb (by rw [List.size_toArray]; omega)) (by rw [List.size_toArray]; exact hi) h1 ?_
  rw [List.toList_toArray]
  exact h _ (Ci.heap_setCells_whole hb hl) (fun k hk => Ci.heap_setCells_other b k hk vs 0 w) (Ci.size_setCells b vs 0 w) fun U hU hs => Ci.Bel.setCells hs vs 0 w hU
end Go.Proofs.YtpmmaickjolimaaGreatDoor.Ma

/- took, want, word. -/
namespace Go.Proofs.YtpmmaickjolimaaGreatDoor.Ma
open Go.RowKit
open Ci (Bel own_bel row_shape addr_add own_base)

theorem Pw.of_bel {X : Cx} {st : St} {sl : Value} {w w1 w2 : World} (h : Pw X st sl w w1) (hb : Bel w1 w2) : Pw X st sl w w2 := ⟨h.ps.next hb, h.ex.trans (Exc.bel hb)⟩
theorem Ps.own_lt {X : Cx} {st : St} {sl : Value} {w : World} (h : Ps X st sl w) : ∀ g, sl.ownBlock = some g → g < w.heap.size := by
  intro g hg
  rcases h.own.2 with ⟨rfl, -⟩ | ⟨g', cap, cur, rfl, -, hh, -⟩
  · cases hg
  · cases hg
    exact (Array.getElem?_eq_some_iff.1 hh).1
/-- The mark was written. -/
theorem Pw.bad {X : Cx} {st : St} {sl : Value} {w w1 w2 : World} {ad : Option Addr} {n cp : Nat} {b : Bool} (h : Pw X st sl w w1)
    (hp : w1.heap[X.W.heap.size]? = some (.cells #[.string X.body, .slice ad n cp, .bool st.bad, sl] 81 (0, 0)))
    (hp2 : w2.heap[X.W.heap.size]? = some (.cells #[.string X.body, .slice ad n cp, .bool b, sl] 81 (0, 0)))
    (ho : ∀ k, k ≠ X.W.heap.size → w2.heap[k]? = w1.heap[k]?) (hb : ∀ U : World, Bel U w1 → U.heap.size ≤ X.W.heap.size → Bel U w2) (hs : w2.heap.size = w1.heap.size) : Pw X ⟨b, st.l, st.all⟩ sl w w2 := by
  obtain ⟨k, cp', ad', h1, h2, h3, h4, h5, h6⟩ := h.ps.at_
  have e := h6.symm.trans hp
  simp only [Option.some.injEq, Obj.cells.injEq, and_true] at e
  have e1 : ad' = ad ∧ st.l.length = n ∧ cp' = cp := by
    have := congrArg (fun a : Array Value => a.toList) e
    simpa using this
  obtain ⟨rfl, e2, e3⟩ := e1
  subst e2 e3
  exact ⟨h.ps.upd (st' := ⟨b, st.l, st.all⟩) ho hb rfl ⟨k, cp', ad', h1, h2, h3, h4, h5, hp2⟩, h.ex.trans (Exc.upd (by omega) ho)⟩
end Go.Proofs.YtpmmaickjolimaaGreatDoor.Ma

/- word, domain. -/
namespace Go.Proofs.YtpmmaickjolimaaGreatDoor.Ma
open Go.RowKit
open Ci (Bel own_bel row_shape addr_add own_base)

/-- Tokens are left. -/
def Sf (X : Cx) (st : St) : Prop := ∃ q, st.l = X.T.drop q ∧ q < X.T.length
theorem Sf.pos {X : Cx} {st : St} (h : Sf X st) : 0 < st.l.length := by
  obtain ⟨q, e, h⟩ := h
  rw [e, List.length_drop]; omega
theorem Sf.drop {X : Cx} {st : St} (hX : X.Ok) (h : Sf X st) (n : Nat) (hn : n < st.l.length) (hk : st.l[n].kind ≠ 101) (bad : Bool) (all : List Sp) : Sf X ⟨bad, st.l.drop (n + 1), all⟩ := by
  obtain ⟨q, e, h⟩ := h
  refine ⟨q + (n + 1), by rw [e, List.drop_drop], ?_⟩
  rw [e, List.length_drop] at hn
  refine Classical.byContradiction fun hh => hk ?_
  have hq : q + n = X.T.length - 1 := by omega
  have e2 : st.l[n] = X.T[q + n]'(by omega) := by simp [e]
  obtain ⟨T', en, eT, h1, h2⟩ := hX.en
  have hl : X.T.length = T'.length + 1 := by rw [eT]; simp
  have e3 : X.T[q + n]'(by omega) = en := by
    have : q + n = T'.length := by omega
    simp [eT, this]
  rw [e2, e3, h1]
theorem Sf.take {X : Cx} {st : St} (hX : X.Ok) (h : Sf X st) {k : UInt8} (hk : k ≠ 101) : Sf X (takeS k st) := by
  unfold takeS
  by_cases hq : isQ k st = true
  · rw [if_pos hq]
    have hp := h.pos
    have := h.drop hX 0 hp (by
      have e : (hd st).kind = k := by
        unfold isQ at hq
        simp at hq
        exact hq.2
      rw [hd_eq hp] at e
      rw [e]; exact hk) st.bad st.all
    simpa using this
  · rw [if_neg hq]; exact h
theorem Sf.same {X : Cx} {st st' : St} (h : Sf X st) (e : st'.l = st.l) : Sf X st' := by
  obtain ⟨q, e1, h1⟩ := h
  exact ⟨q, e.trans e1, h1⟩
theorem Sf.want {X : Cx} {st : St} (hX : X.Ok) (h : Sf X st) {k : UInt8} (hk : k ≠ 101) : Sf X (wantS k st) := (h.take hX hk).same rfl
end Go.Proofs.YtpmmaickjolimaaGreatDoor.Ma

/- domain. -/
namespace Go.Proofs.YtpmmaickjolimaaGreatDoor.Ma
open Go.RowKit
open Ci (Bel own_bel row_shape addr_add own_base)

theorem Sf.text {X : Cx} {st : St} (hX : X.Ok) (h : Sf X st) (k : UInt8) : (takeT k st).text.length ≤ 65536 := by
  unfold takeT
  split
  · have hp := h.pos
    rw [hd_eq hp]
    obtain ⟨q, e, hq⟩ := h
    refine hX.tx _ ?_
    have h1 : ∀ t ∈ st.l, t ∈ X.T := fun t ht => List.mem_of_mem_drop (e ▸ ht)
    exact h1 _ (List.getElem_mem hp)
  · exact Nat.zero_le _
theorem Sf.le {X : Cx} {st : St} (hX : X.Ok) (h : Sf X st) : st.l.length ≤ 65537 := by
  obtain ⟨q, e, hq⟩ := h
  have := hX.num
  rw [e, List.length_drop]; omega
end Go.Proofs.YtpmmaickjolimaaGreatDoor.Ma

/- phrase. -/
namespace Go.Proofs.YtpmmaickjolimaaGreatDoor.Ma
open Go.RowKit
open Ci (Bel own_bel row_shape addr_add own_base)

/-- What stands of a phrase in hand. -/
structure PhS (l : List Tk) (k e : Nat) : Prop where
  hn : phN 0 l = k + phN k (l.drop k)
  he : phE 0 0 l = phE k e (l.drop k)
  hj : (k = 0 ∧ e = 0) ∨ ∃ j, ∃ h : j < l.length, e = l[j].til
theorem PhS.dot {l : List Tk} {k e : Nat} (h : PhS l k e) (hk : k < l.length) (hw : wrd l[k].kind = false) (hd : l[k].kind = 46) (h0 : k ≠ 0) : PhS l (k + 1) e := by
  have hd' : l.drop k = l[k] :: l.drop (k + 1) := List.drop_eq_getElem_cons hk
  have c : (wrd l[k].kind || (l[k].kind == 46 && k != 0)) = true := by rw [hw, hd]; simp [h0]
  refine ⟨?_, ?_, ?_⟩
  · rw [h.hn, hd', phN, if_pos c]; omega
  · rw [h.he, hd', phE, if_pos c, if_neg (by rw [hw]; simp)]
  · rcases h.hj with ⟨e1, -⟩ | e1
    · exact absurd e1 h0
    · exact .inr e1
theorem PhS.stop {l : List Tk} {k e : Nat} (h : PhS l k e) (hk : k < l.length) (c : (wrd l[k].kind || (l[k].kind == 46 && k != 0)) = false) : phN 0 l = k ∧ phE 0 0 l = e := by
  have hd' : l.drop k = l[k] :: l.drop (k + 1) := List.drop_eq_getElem_cons hk
  refine ⟨?_, ?_⟩
  · rw [h.hn, hd', phN, if_neg (by rw [c]; simp)]; omega
  · rw [h.he, hd', phE, if_neg (by rw [c]; simp)]
theorem PhS.end_ {l : List Tk} {k e : Nat} (h : PhS l k e) (hk : l.length ≤ k) : phN 0 l = k ∧ phE 0 0 l = e := by
  refine ⟨?_, ?_⟩
  · rw [h.hn, List.drop_eq_nil_of_le hk]; rfl
  · rw [h.he, List.drop_eq_nil_of_le hk]; rfl
end Go.Proofs.YtpmmaickjolimaaGreatDoor.Ma

/- Ahead of mailbox: what is left behind a phrase, a domain, a mailbox. -/
namespace Go.Proofs.YtpmmaickjolimaaGreatDoor.Ma
open Go.RowKit

theorem Sf.end_ {X : Cx} {st : St} (hX : X.Ok) (h : Sf X st) : ∃ t ∈ st.l, t.kind = 101 := by
  obtain ⟨q, e, hq⟩ := h
  obtain ⟨T', en, eT, h1, _⟩ := hX.en
  refine ⟨en, ?_, h1⟩
  have hl : q ≤ T'.length := by rw [eT, List.length_append, List.length_singleton] at hq; omega
  rw [e, eT, List.drop_append_of_le_length hl]
  simp
theorem Sf.domLoop {X : Cx} (hX : X.Ok) : ∀ (n : Nat) (s : List UInt8) (t : Tk) (st : St), Sf X st → Sf X (domLoop n s t st).2.2
  | 0, _, _, _, h => h
  | n + 1, s, t, st, h => by
    rw [Ma.domLoop]
    split
    · exact Sf.domLoop hX n _ _ _ ((h.take hX (by decide)).want hX (by decide))
    · exact h
theorem Sf.dom {X : Cx} {st : St} (hX : X.Ok) (h : Sf X st) : Sf X (domQ st).2.2 := by
  unfold domQ
  split
  · exact h.take hX (by decide)
  · exact Sf.domLoop hX _ _ _ _ (h.want hX (by decide))
end Go.Proofs.YtpmmaickjolimaaGreatDoor.Ma

/- Mailboxes of SMTP, in plain terms; which texts stand for them in a field. -/
namespace Go.Proofs.YtpmmaickjolimaaGreatDoor.Ma
open Ci (splitL addrQ formQ Nt rightQ)

structure Pt where
  null : Bool
  loc : List UInt8
  dom : List UInt8
  lit : Bool
deriving DecidableEq
def lowB (b : UInt8) : UInt8 := if 65 ≤ b.toNat ∧ b.toNat ≤ 90 then b + 32 else b
def lowL (l : List UInt8) : List UInt8 := l.map lowB
/-- A letter or a digit. -/
def lgB (b : UInt8) : Bool := (decide (97 ≤ b.toNat) && decide (b.toNat ≤ 122)) || (decide (65 ≤ b.toNat) && decide (b.toNat ≤ 90)) || (decide (48 ≤ b.toNat) && decide (b.toNat ≤ 57))
def ldhB (b : UInt8) : Bool := lgB b || b == 45
def patB (b : UInt8) : Bool := lgB b || ([33, 35, 36, 37, 38, 39, 42, 43, 45, 47, 61, 63, 94, 95, 96, 123, 124, 125, 126] : List UInt8).contains b
def lblQ (l : List UInt8) : Bool := !l.isEmpty && decide (l.length ≤ 63) && l.all ldhB && l.head? != some 45 && l.getLast? != some 45
def namedQ (s : List UInt8) : Bool := (splitL 46 s).all lblQ
def ipv6 : List UInt8 := [105, 112, 118, 54, 58]
def IPv6 : List UInt8 := [73, 80, 118, 54, 58]
def isLit (s : List UInt8) : Bool := decide (1 < s.length) && s.head? == some 91 && s.getLast? == some 93
def innerQ (s : List UInt8) : List UInt8 := (s.take (s.length - 1)).drop 1
def sixQ' (i : List UInt8) : Bool := decide (4 < i.length) && lowL (i.take 5) == ipv6
def stripQ (i : List UInt8) : List UInt8 := if sixQ' i then i.drop 5 else i
/-- A domain: its form, whether it is a literal, the error. -/
def domainQ (s : List UInt8) : List UInt8 × Bool × Int :=
  if isLit s then match addrQ (stripQ (innerQ s)) with
    | some n => if n.six = sixQ' (innerQ s) then (formQ n, true, 0) else ([], false, 90)
    | none => ([], false, 90)
  else if !namedQ s then ([], false, 90) else if 255 < s.length then ([], false, 91) else (lowL s, false, 0)
def dottedQ (s : List UInt8) : Bool := (splitL 46 s).all fun a => !a.isEmpty && a.all patB
def esc (b : UInt8) : List UInt8 := if b = 34 ∨ b = 92 then [92, b] else [b]
def formP (s : List UInt8) : List UInt8 := if dottedQ s then s else 34 :: (s.flatMap esc ++ [34])
def sixP (p : Pt) : Bool := match addrQ p.dom with
  | some n => n.six
  | none => false
/-- The domain as it stands in a form. -/
def domP (p : Pt) : List UInt8 := if p.lit then [91] ++ (if sixP p then IPv6 else []) ++ p.dom ++ [93] else p.dom
def shownP (p : Pt) : List UInt8 := if p.null then [] else if !p.lit && p.dom.isEmpty then formP p.loc else formP p.loc ++ [64] ++ domP p
def oddB (b : UInt8) : Bool := decide (b.toNat < 32) || decide (126 < b.toNat)
def pmL : List UInt8 := [112, 111, 115, 116, 109, 97, 115, 116, 101, 114]
def mayQ (p : Pt) : Bool :=
  if p.null then p == ⟨true, [], [], false⟩
  else if p.loc.isEmpty || p.loc.any oddB then false
  else if p.lit then match addrQ p.dom with
    | some n => formQ n == p.dom
    | none => false
  else if p.dom.isEmpty then p.loc == pmL else namedQ p.dom && lowL p.dom == p.dom
def rightP (p : Pt) : Int :=
  if !mayQ p then 90 else if p.null then 0
  else if 64 < (formP p.loc).length ∨ (!p.lit) ∧ 255 < p.dom.length ∨ 256 < (shownP p).length + 2 then 91 else 0
structure Ml where
  path : Pt
  from_ : Nat
  til : Nat
  name : List UInt8
def addrOf (loc dom : List UInt8) : Pt × Int :=
  let y : Pt := ⟨false, loc, (domainQ dom).1, (domainQ dom).2.1⟩
  (y, if (domainQ dom).2.2 = 0 then rightP y else (domainQ dom).2.2)
def mailsQ : List Sp → List Ml × Int
  | [] => ([], 0)
  | x :: r => if (addrOf x.loc x.dom).2 = 0 then
      (if (mailsQ r).2 = 0 then (⟨(addrOf x.loc x.dom).1, x.from_, x.til, x.name⟩ :: (mailsQ r).1, 0) else ([], (mailsQ r).2))
    else ([], if (addrOf x.loc x.dom).2 = 91 then 101 else 100)
def parseQ (body : List UInt8) : List Ml × Int :=
  if 65536 < body.length then ([], 101) else match readQ body with
  | none => ([], 100)
  | some L => if (mailsQ L).2 = 0 ∧ 200 < (mailsQ L).1.length then ([], 102) else mailsQ L
/-- A path as it may stand in a field. -/
def showQ (p : Pt) : List UInt8 × Int :=
  if p.null || p.dom.isEmpty then ([], 1) else if rightP p = 0 then (shownP p, 0) else ([], rightP p)
def replF (body : List UInt8) : Nat → List UInt8 → List Ml → List Pt → List UInt8 × Int
  | at_, b, x :: xs, p :: ps => if (showQ p).2 = 0 then replF body x.til (b ++ (body.take x.from_).drop at_ ++ (showQ p).1) xs ps else ([], (showQ p).2)
  | at_, b, _, _ => if 65536 < (b ++ body.drop at_).length then ([], 101) else (b ++ body.drop at_, 0)
def replaceQ (body : List UInt8) (l : List Pt) : List UInt8 × Int :=
  if (parseQ body).2 ≠ 0 then ([], (parseQ body).2) else if (parseQ body).1.length ≠ l.length then ([], 1) else replF body 0 [] (parseQ body).1 l
end Go.Proofs.YtpmmaickjolimaaGreatDoor.Ma

/- Paths that may stand in a field: put into a text, they are read as they are. -/
namespace Go.Proofs.YtpmmaickjolimaaGreatDoor.Ma
open Ci (splitL addrQ formQ Nt rightQ addrT hexL hexB digB)

/-! ### Pieces between dots -/
theorem u8_forall {p : UInt8 → Prop} (h : ∀ n : Fin 256, p (UInt8.ofNat n.val)) : ∀ b, p b := fun b => by
  have := h ⟨b.toNat, b.toNat_lt⟩
  simpa using this
/-! ### Quoted texts, literals -/
/-! ### A path in its place -/
structure Good (p : Pt) : Prop where
  nn : p.null = false
  dn : p.dom ≠ []
  rt : rightP p = 0
theorem Good.may {p : Pt} (h : Good p) : mayQ p = true := by
  have := h.rt
  unfold rightP at this
  cases hm : mayQ p with
  | true => rfl
  | false => rw [hm] at this; simp at this
theorem Good.len {p : Pt} (h : Good p) : ¬ (64 < (formP p.loc).length ∨ (!p.lit) = true ∧ 255 < p.dom.length ∨ 256 < (shownP p).length + 2) := by
  have h1 := h.rt
  unfold rightP at h1
  rw [h.may, h.nn] at h1
  intro hc
  rw [if_neg (by decide), if_neg (by decide), if_pos hc] at h1
  simp at h1
theorem Good.loc {p : Pt} (h : Good p) : p.loc ≠ [] ∧ ∀ b ∈ p.loc, oddB b = false := by
  have := h.may
  unfold mayQ at this
  rw [h.nn, if_neg (by decide)] at this
  by_cases hc : (p.loc.isEmpty || p.loc.any oddB) = true
  · rw [if_pos hc] at this; simp at this
  · simp only [Bool.or_eq_true, not_or] at hc
    refine ⟨fun e => hc.1 (by rw [e]; rfl), fun b hb => ?_⟩
    cases ho : oddB b with
    | false => rfl
    | true => exact absurd (List.any_eq_true.2 ⟨b, hb, ho⟩) hc.2
theorem Good.lit {p : Pt} (h : Good p) (hl : p.lit = true) : ∃ n, addrQ p.dom = some n ∧ formQ n = p.dom := by
  have := h.may
  unfold mayQ at this
  rw [h.nn, if_neg (by decide), hl] at this
  by_cases hc : (p.loc.isEmpty || p.loc.any oddB) = true
  · rw [if_pos hc] at this; simp at this
  · rw [if_neg hc, if_pos rfl] at this
    cases ha : addrQ p.dom with
    | none => rw [ha] at this; simp at this
    | some n => rw [ha] at this; exact ⟨n, rfl, by simpa using this⟩
end Go.Proofs.YtpmmaickjolimaaGreatDoor.Ma

/- Putting paths in a body, a list of paths: what is read then. -/
namespace Go.Proofs.YtpmmaickjolimaaGreatDoor.Ma

theorem mails_bad : ∀ (L : List Sp), (mailsQ L).2 ≠ 0 → (mailsQ L).1 = []
  | [], h => rfl
  | x :: L, h => by
    rw [mailsQ] at h ⊢
    by_cases h1 : (addrOf x.loc x.dom).2 = 0
    · rw [if_pos h1] at h ⊢
      by_cases h2 : (mailsQ L).2 = 0
      · rw [if_pos h2] at h; simp at h
      · rw [if_neg h2]
    · rw [if_neg h1]
theorem parse_bad (body : List UInt8) (h : (parseQ body).2 ≠ 0) : (parseQ body).1 = [] := by
  unfold parseQ at h ⊢
  by_cases h1 : 65536 < body.length
  · rw [if_pos h1]
  · rw [if_neg h1] at h ⊢
    cases hr : readQ body with
    | none => rfl
    | some L =>
      rw [hr] at h
      simp only at h ⊢
      by_cases h2 : (mailsQ L).2 = 0 ∧ 200 < (mailsQ L).1.length
      · rw [if_pos h2]
      · rw [if_neg h2] at h ⊢
        exact mails_bad L h
/-! ### A list of paths -/
end Go.Proofs.YtpmmaickjolimaaGreatDoor.Ma

/- What cut leaves is what the parser stands on: the facts. -/
namespace Go.Proofs.YtpmmaickjolimaaGreatDoor.Ma
open Go.RowKit
open Ci (Bel own_bel row_shape addr_add own_base)

/-- Mails in hand. -/
def mlOf (x : Sp) : Ml := ⟨(addrOf x.loc x.dom).1, x.from_, x.til, x.name⟩
def MlI (L : List Sp) (k : Nat) (l : List Ml) : Prop := l.length = k ∧ mailsQ L = if (mailsQ (L.drop k)).2 = 0 then (l ++ (mailsQ (L.drop k)).1, 0) else ([], (mailsQ (L.drop k)).2)
theorem MlI.zero (L : List Sp) : MlI L 0 [] := by
  refine ⟨rfl, ?_⟩
  rw [List.drop_zero]
  split
  · rename_i h; rw [List.nil_append, ← h]
  · rename_i h; rw [← mails_bad L h]
theorem drop_at' {α : Type} {l : List α} {k : Nat} (hk : k < l.length) : l.drop k = l[k] :: l.drop (k + 1) := List.drop_eq_getElem_cons hk
theorem MlI.next {L : List Sp} {k : Nat} {l : List Ml} (h : MlI L k l) (hk : k < L.length) (h0 : (addrOf L[k].loc L[k].dom).2 = 0) : MlI L (k + 1) (l ++ [mlOf L[k]]) := by
  refine ⟨by rw [List.length_append, h.1]; rfl, ?_⟩
  rw [h.2, drop_at' hk, mailsQ, if_pos h0]
  by_cases h1 : (mailsQ (L.drop (k + 1))).2 = 0
  · rw [if_pos h1, if_pos h1, if_pos rfl]
    simp [mlOf]
  · rw [if_neg h1, if_neg h1, if_neg h1]
theorem MlI.bad {L : List Sp} {k : Nat} {l : List Ml} (h : MlI L k l) (hk : k < L.length) (h0 : (addrOf L[k].loc L[k].dom).2 ≠ 0) : mailsQ L = ([], if (addrOf L[k].loc L[k].dom).2 = 91 then 101 else 100) := by
  rw [h.2, drop_at' hk, mailsQ, if_neg h0]
  by_cases h9 : (addrOf L[k].loc L[k].dom).2 = 91
  · rw [if_pos h9]; rfl
  · rw [if_neg h9]; rfl
theorem MlI.end_ {L : List Sp} {k : Nat} {l : List Ml} (h : MlI L k l) (hk : L.length ≤ k) : mailsQ L = (l, 0) := by
  rw [h.2, List.drop_eq_nil_of_le hk, mailsQ, if_pos rfl, List.append_nil]
end Go.Proofs.YtpmmaickjolimaaGreatDoor.Ma

/- Walks of path: while, only, turned, lower. -/
namespace Go.Proofs.YtpmmaickjolimaaGreatDoor.Ma
open Go.RowKit
open Ci (Bel Lay)

theorem ib_run (s : ByteArray) (c : UInt8) (W : World) : Calls Tryz.prog 84 #[.string s, .int .u8 (c.toNat : Int)] W fun e w' => e = .returned (.int .i64 (Lib.indexByte s.data.toList c)) ∧ w' = W := by
  have := Tryz.strings_IndexByte s c.toNat W; rw [u8_back] at this; exact this
/-- How many bytes ahead are of a set. -/
def whN (B : List UInt8) (l : List UInt8) : Nat := (l.takeWhile (B.contains ·)).length
theorem whN_le (B l : List UInt8) : whN B l ≤ l.length := by
  unfold whN
  exact (List.takeWhile_prefix _).length_le
theorem whN_step {B l : List UInt8} {k : Nat} (hk : k < l.length) (h : whN B l = k + whN B (l.drop k)) (hc : B.contains l[k] = true) : whN B l = (k + 1) + whN B (l.drop (k + 1)) := by
  rw [h, drop_at hk]
  unfold whN
  rw [List.takeWhile_cons, if_pos hc, List.length_cons]
  omega
theorem whN_stop {B l : List UInt8} {k : Nat} (hk : k < l.length) (h : whN B l = k + whN B (l.drop k)) (hc : B.contains l[k] = false) : whN B l = k := by
  rw [h, drop_at hk]
  unfold whN
  rw [List.takeWhile_cons, hc]
  simp
theorem whN_end {B l : List UInt8} {k : Nat} (hk : l.length ≤ k) (h : whN B l = k + whN B (l.drop k)) : whN B l = k := by
  rw [h, List.drop_eq_nil_of_le hk]
  rfl
theorem whN_all (B : List UInt8) : ∀ l : List UInt8, (whN B l = l.length) ↔ l.all (B.contains ·) = true
  | [] => by simp [whN]
  | b :: l => by
    have ih := whN_all B l
    unfold whN at ih ⊢
    rw [List.takeWhile_cons, List.all_cons]
    cases hb : B.contains b with
    | true => simpa using ih
    | false => simp
set_option maxHeartbeats 1000000 in
set_option maxRecDepth 100000 in
theorem while_run (s bs : ByteArray) (w : World) (hs : s.size < 9223372036854775807) :
    Calls Tryz.prog 183 #[.string s, .string bs] w fun e w' => e = .returned (.int .i64 (whN bs.data.toList s.data.toList : Nat)) ∧ w' = w := by
  have hl : s.data.toList.length = s.size := by rw [Lib.size_eq]
  have HL := hid hl
  have HI := (show Hid (∀ (c : UInt8) (W : World), Calls Tryz.prog 84 #[.string bs, .int .u8 (c.toNat : Int)] W fun e w' => e = .returned (.int .i64 (Lib.indexByte bs.data.toList c)) ∧ w' = W) from fun c W => ib_run bs c W)
  clear hl
  go_enter Tryz.func183, Tryz.ntmps183
  go_wp2_with fail
  go_loopg [5] (s.size + 1) (fun gg v5 wr => ∃ (k : Nat), v5 = .int .i64 k ∧ k + gg = s.size + 1 ∧ k ≤ s.size ∧ Hid (wr = w ∧ whN bs.data.toList s.data.toList = k + whN bs.data.toList (s.data.toList.drop k)))
  case atStart => exact ⟨0, rfl, by omega, by omega, hid ⟨rfl, by simp⟩⟩
  case round =>
    obtain ⟨k, rfl, hk, hk2, H⟩ := hrel
    by_cases hlt : k < s.size
    · have hlt' : k < s.data.toList.length := by rw [HL.out]; exact hlt
      have HC := hid (show s.data.toList[k]'hlt' = s[k] from rfl)
      cases hc : bs.data.toList.contains s[k] with
      | true =>
        have b1 : decide (0 ≤ Lib.indexByte bs.data.toList s[k]) = true := by rw [index_has]; exact hc
        have HN := hid (whN_step hlt' H.out.2 (by rw [HC.out]; exact hc))
        have HW := hid H.out.1
        clear hc
        go_wp2_with (first | (go_at_call 84; refine (HI.out _ _).mono ?_; rintro e w1 ⟨rfl, rfl⟩))
        go_roundg (gk - 1)
        case measure => omega
        case rel => exact ⟨k + 1, by go_num, by omega, by omega, hid ⟨HW.out, HN.out⟩⟩
      | false =>
        have b1 : decide (0 ≤ Lib.indexByte bs.data.toList s[k]) = false := by rw [index_has]; exact hc
        have HN := hid (whN_stop hlt' H.out.2 (by rw [HC.out]; exact hc))
        have HW := hid H.out.1
        clear hc
        go_wp2_with (first | (go_at_call 84; refine (HI.out _ _).mono ?_; rintro e w1 ⟨rfl, rfl⟩))
        go_ret
        exact ⟨by rw [HN.out]; rfl, HW.out⟩
    · have HN := hid (whN_end (by rw [HL.out]; omega) H.out.2)
      have HW := hid H.out.1
      go_wp2_with fail
      go_ret
      exact ⟨by rw [HN.out]; rfl, HW.out⟩
set_option maxHeartbeats 1000000 in
set_option maxRecDepth 100000 in
theorem only_run (s bs : ByteArray) (w : World) (hs : s.size < 9223372036854775807) :
    Calls Tryz.prog 141 #[.string s, .string bs] w fun e w' => e = .returned (.bool (s.data.toList.all (bs.data.toList.contains ·))) ∧ w' = w := by
  have HI := (show Hid (∀ (W : World), Calls Tryz.prog 183 #[.string s, .string bs] W fun e w' => e = .returned (.int .i64 (whN bs.data.toList s.data.toList : Nat)) ∧ w' = W) from fun W => while_run s bs W hs)
  have HX := hid (show (((whN bs.data.toList s.data.toList : Nat) : Int) == (s.size : Int)) = s.data.toList.all (bs.data.toList.contains ·) by
    have h1 := whN_all bs.data.toList s.data.toList
    have h2 := Lib.size_eq s
    rw [Bool.eq_iff_iff, ← h1, beq_iff_eq]
    omega)
  generalize whN bs.data.toList s.data.toList = n at HI HX
  go_enter Tryz.func141, Tryz.ntmps141
  go_wp2_with (first | (go_at_call 183; refine (HI.out _).mono ?_; rintro e w1 ⟨rfl, rfl⟩))
  go_ret
  exact ⟨by rw [← HX.out]; rfl, rfl⟩
/-! turned -/
def turnB (f t : List UInt8) (c : UInt8) : UInt8 := if 0 ≤ Lib.indexByte f c then t.getD (Lib.indexByte f c).toNat 0 else c
/-- The bytes in hand: the first k are turned. -/
def turnK (f t : List UInt8) (l : List UInt8) (k : Nat) : List UInt8 := (l.take k).map (turnB f t) ++ l.drop k
structure TuI (w wr : World) (l : List UInt8) (cap : Nat) : Prop where
  bel : Bel w wr
  hc : ∃ (rest : List Value), wr.heap[w.heap.size]? = some (.cells ((l.map fun b => Value.int .u8 (b.toNat : Int)) ++ rest).toArray 5 (l.length + rest.length, l.length + rest.length + 1))
theorem TuI.cell {w wr : World} {l : List UInt8} {cap : Nat} (h : TuI w wr l cap) {k : Nat} (hk : k < l.length) : wr.cell? ⟨w.heap.size, k, none⟩ = some (.int .u8 (l[k].toNat : Int)) := by
  obtain ⟨rest, hc⟩ := h.hc
  simp [World.cell?, hc]
  rw [List.getElem?_append_left (by rw [List.length_map]; exact hk)]
  simp [hk]
theorem TuI.free {w wr : World} {l : List UInt8} {cap : Nat} (h : TuI w wr l cap) {k : Nat} (hk : k < l.length) : wr.frozen? ⟨w.heap.size, k, none⟩ = false := by
  obtain ⟨rest, hc⟩ := h.hc
  simp [World.frozen?, hc]
  omega
theorem TuI.set {w wr : World} {l : List UInt8} {cap : Nat} (h : TuI w wr l cap) (k : Nat) (hk : k < l.length) (x : UInt8) : TuI w (wr.setCell ⟨w.heap.size, k, none⟩ (.int .u8 (x.toNat : Int))) (l.set k x) cap := by
  obtain ⟨rest, hc⟩ := h.hc
  refine ⟨h.bel.setCell (Nat.le_refl _) _, rest, ?_⟩
  have e : (wr.setCell ⟨w.heap.size, k, none⟩ (.int .u8 (x.toNat : Int))).heap[w.heap.size]? = some (.cells ((((l.map fun b => Value.int .u8 (b.toNat : Int)) ++ rest).toArray).setIfInBounds k (.int .u8 (x.toNat : Int))) 5 (l.length + rest.length, l.length + rest.length + 1)) := by
    simp [World.setCell, Array.getElem?_modify, hc]
  rw [e]
  simp [List.map_set, hk]
theorem turnK_zero (f t l : List UInt8) : turnK f t l 0 = l := by simp [turnK]
theorem turnK_len (f t l : List UInt8) (k : Nat) : (turnK f t l k).length = l.length := by simp [turnK]; omega
theorem turnK_at (f t l : List UInt8) (k : Nat) (hk : k < l.length) : (turnK f t l k)[k]'(by rw [turnK_len]; exact hk) = l[k] := by
  unfold turnK
  rw [List.getElem_append_right (by simp; omega)]
  simp [Nat.min_eq_left (Nat.le_of_lt hk)]
theorem turnK_next (f t l : List UInt8) (k : Nat) (hk : k < l.length) : turnK f t l (k + 1) = (turnK f t l k).set k (turnB f t l[k]) := by
  unfold turnK
  refine List.ext_getElem (by simp; omega) fun i h1 h2 => ?_
  rw [List.getElem_set]
  by_cases e : k = i
  · subst e
    rw [if_pos rfl, List.getElem_append_left (by simp; omega)]
    simp
  · rw [if_neg e]
    rw [List.getElem_append, List.getElem_append]
    simp only [List.length_map, List.length_take]
    split <;> split <;> first | omega | (simp; done) | (simp; congr 1; omega)
theorem turnK_all (f t l : List UInt8) : turnK f t l l.length = l.map (turnB f t) := by simp [turnK]
theorem index_lt (c : UInt8) : ∀ l : List UInt8, 0 ≤ Lib.indexByte l c → (Lib.indexByte l c).toNat < l.length
  | [], h => by simp [Lib.indexByte] at h
  | b :: l, h => by
    have ih := index_lt c l
    have hg := Lib.indexByte_ge l c
    have e : Lib.indexByte (b :: l) c = if b == c then 0 else if Lib.indexByte l c == -1 then -1 else Lib.indexByte l c + 1 := rfl
    rw [e] at h ⊢
    by_cases h1 : b = c
    · rw [if_pos (by simpa using h1)]; simp
    · rw [if_neg (by simpa using h1)] at h ⊢
      by_cases h2 : Lib.indexByte l c = -1
      · rw [if_pos (by simpa using h2)] at h; simp at h
      · rw [if_neg (by simpa using h2)] at h ⊢
        have := ih (by omega)
        rw [List.length_cons]; omega
set_option maxHeartbeats 2000000 in
set_option maxRecDepth 100000 in
theorem turned_run (s f t : ByteArray) (ht : f.size = t.size) (w : World) (hs : s.size < 9223372036854775807) :
    Calls Tryz.prog 140 #[.string s, .string f, .string t] w fun e w' => e = .returned (.string ⟨(s.data.toList.map (turnB f.data.toList t.data.toList)).toArray⟩) ∧ Bel w w' := by
  have hcv := Lib.run_convert_string_bytes (P := Tryz.prog) w 9 88 5 s (u := .string) Tryz.underlying9 Tryz.underlying88 Tryz.underlying5
  have hLn : s.data.toList.length = s.size := by rw [Lib.size_eq]
  have H0 := hid (show TuI w (Lib.bytesWorld w 5 s) (turnK f.data.toList t.data.toList s.data.toList 0) 0 from by
    refine ⟨Ci.bel_bytes w s, List.replicate (grownCap w s.size 0 5 - s.size) (.int .u8 0), ?_⟩
    rw [Lib.bytesWorld_at_new, turnK_zero]
    have e : Lib.bytesCells w 5 s = ((s.data.toList.map fun (b : UInt8) => Value.int .u8 (b.toNat : Int)) ++ List.replicate (grownCap w s.size 0 5 - s.size) (Value.int .u8 0)).toArray := by
      unfold Lib.bytesCells
      simp
    rw [e]
    simp)
  have HI := (show Hid (∀ (c : UInt8) (W : World), Calls Tryz.prog 84 #[.string f, .int .u8 (c.toNat : Int)] W fun e w' => e = .returned (.int .i64 (Lib.indexByte f.data.toList c)) ∧ w' = W) from fun c W => ib_run f c W)
  generalize grownCap w s.size 0 5 = cap at hcv H0
  obtain ⟨W1, hW1⟩ : ∃ W1, W1 = Lib.bytesWorld w 5 s := ⟨_, rfl⟩
  rw [← hW1] at hcv H0
  have HLn := hid hLn
  have HT := hid ht
  clear hW1 hLn ht
  go_enter Tryz.func140, Tryz.ntmps140
  go_wp2_with fail
  go_loopg [8, 9, 10, 15] s.size (fun gg v8 v9 v10 v15 wr => ∃ k : Nat, v15 = .int .i64 k ∧ k + gg = s.size ∧ Hid (TuI w wr (turnK f.data.toList t.data.toList s.data.toList k) 0))
  case atStart => exact ⟨0, rfl, by omega, H0⟩
  case round =>
    clear H0
    obtain ⟨k, rfl, hk, H⟩ := hrel
    have hkn : k ≤ s.size := by omega
    by_cases hlt : k < s.size
    · have hlt' : k < s.data.toList.length := by rw [HLn.out]; exact hlt
      have hkl : k < (turnK f.data.toList t.data.toList s.data.toList k).length := by rw [turnK_len]; exact hlt'
      have c0 := H.out.cell hkl
      rw [turnK_at _ _ _ _ hlt'] at c0
      have f0 := H.out.free hkl
      have HN := hid (turnK_next f.data.toList t.data.toList s.data.toList k hlt')
      have HS := (show Hid (∀ x, TuI w (wr.setCell ⟨w.heap.size, k, none⟩ (.int .u8 ((x : UInt8).toNat : Int))) ((turnK f.data.toList t.data.toList s.data.toList k).set k x) 0) from fun x => H.out.set k hkl x)
      have HA := hid (show (turnK f.data.toList t.data.toList s.data.toList k).set k s.data.toList[k] = turnK f.data.toList t.data.toList s.data.toList k from by
        have e := turnK_at f.data.toList t.data.toList s.data.toList k hlt'
        rw [← e]
        exact List.set_getElem_self hkl)
      clear hkl
      generalize s.data.toList[k] = x at c0 HN HA
      have HJ := hid (show ∀ (_ : 0 ≤ Lib.indexByte f.data.toList x), (Lib.indexByte f.data.toList x).toNat < t.size from fun h => by
        have := index_lt x f.data.toList h
        have h2 := Lib.size_eq f
        have := HT.out
        omega)
      have HB := hid (show turnB f.data.toList t.data.toList x = if 0 ≤ Lib.indexByte f.data.toList x then t.data.toList.getD (Lib.indexByte f.data.toList x).toNat 0 else x from rfl)
      by_cases hx : 0 ≤ Lib.indexByte f.data.toList x
      · have hj := HJ.out hx
        obtain ⟨i, hi⟩ : ∃ i : Nat, Lib.indexByte f.data.toList x = (i : Int) := ⟨_, (Int.toNat_of_nonneg hx).symm⟩
        have HIx := (show Hid (∀ (W : World), Calls Tryz.prog 84 #[.string f, .int .u8 (x.toNat : Int)] W fun e w' => e = .returned (.int .i64 (i : Int)) ∧ w' = W) from fun W => by rw [← hi]; exact HI.out x W)
        have hi' : i < t.size := by rw [hi] at hj; exact hj
        have HE := hid (show turnB f.data.toList t.data.toList x = t[i] from by
          rw [HB.out, if_pos hx, hi]
          have h2 := Lib.size_eq t
          rw [Int.toNat_natCast, List.getD_eq_getElem?_getD, List.getElem?_eq_getElem (by omega)]
          rfl)
        clear hx hj hi HJ HB
        go_wp2_with (first | (go_at_call 84; refine (HIx.out _).mono ?_; rintro e w1 ⟨rfl, rfl⟩))
        go_roundg (gk - 1)
        case measure => omega
        case rel => exact ⟨k + 1, by go_num, by omega, hid (by rw [HN.out, HE.out]; exact HS.out _)⟩
      · have b1 : decide (0 ≤ Lib.indexByte f.data.toList x) = false := decide_eq_false hx
        have HIx := (show Hid (∀ (W : World), Calls Tryz.prog 84 #[.string f, .int .u8 (x.toNat : Int)] W fun e w' => e = .returned (.int .i64 (Lib.indexByte f.data.toList x)) ∧ w' = W) from fun W => HI.out x W)
        have HE := hid (show (turnK f.data.toList t.data.toList s.data.toList k).set k (turnB f.data.toList t.data.toList x) = turnK f.data.toList t.data.toList s.data.toList k from by rw [HB.out, if_neg hx]; exact HA.out)
        clear hx HJ HB
        go_wp2_with (first | (go_at_call 84; refine (HIx.out _).mono ?_; rintro e w1 ⟨rfl, rfl⟩))
        go_roundg (gk - 1)
        case measure => omega
        case rel => exact ⟨k + 1, by go_num, by omega, hid (by rw [HN.out, HE.out]; exact H.out)⟩
    · obtain rfl : k = s.size := by omega
      have HF := hid (show turnK f.data.toList t.data.toList s.data.toList s.size = s.data.toList.map (turnB f.data.toList t.data.toList) by rw [← HLn.out]; exact turnK_all _ _ _)
      have hcb : (convert 88 9 (.slice (some ⟨w.heap.size, 0, none⟩) s.size cap)).run Tryz.prog wr = .ok (.string ⟨(s.data.toList.map (turnB f.data.toList t.data.toList)).toArray⟩) wr := by
        have hl : (s.data.toList.map (turnB f.data.toList t.data.toList)).length = s.size := by rw [List.length_map, HLn.out]
        rw [← hl]
        refine run_convert_bytes_back wr 88 9 5 ⟨w.heap.size, 0, none⟩ cap _ Tryz.underlying88 Tryz.underlying5 Tryz.underlying9 fun j hj => ?_
        have H2 := H.out
        rw [HF.out] at H2
        rw [Ci.addr_add, Nat.zero_add]
        exact H2.cell hj
      go_wp2_with fail
      go_ret
      exact ⟨rfl, H.out.bel⟩
end Go.Proofs.YtpmmaickjolimaaGreatDoor.Ma

/- Walks of path: lower, named, dotted, form. -/
namespace Go.Proofs.YtpmmaickjolimaaGreatDoor.Ma
open Go.RowKit
open Ci (Bel Lay pieces pieces_data splitL dot)

def upsL : List UInt8 := [65, 66, 67, 68, 69, 70, 71, 72, 73, 74, 75, 76, 77, 78, 79, 80, 81, 82, 83, 84, 85, 86, 87, 88, 89, 90]
def losL : List UInt8 := [97, 98, 99, 100, 101, 102, 103, 104, 105, 106, 107, 108, 109, 110, 111, 112, 113, 114, 115, 116, 117, 118, 119, 120, 121, 122]
set_option maxRecDepth 100000 in
theorem turn_low : ∀ b : UInt8, turnB upsL losL b = lowB b := u8_forall (by decide)
theorem low_map (l : List UInt8) : l.map (turnB upsL losL) = lowL l := by
  unfold lowL
  exact List.map_congr_left fun b _ => turn_low b
set_option maxRecDepth 100000 in
theorem lower_run (s : ByteArray) (w : World) (hs : s.size < 9223372036854775807) : Calls Tryz.prog 94 #[.string s] w fun e w' => e = .returned (.string ⟨(lowL s.data.toList).toArray⟩) ∧ Bel w w' := by
  have HI := (show Hid (∀ W, Calls Tryz.prog 140 #[.string s, .string ⟨upsL.toArray⟩, .string ⟨losL.toArray⟩] W fun e w' => e = .returned (.string ⟨(lowL s.data.toList).toArray⟩) ∧ Bel W w') from fun W => by
    rw [← low_map]
    exact turned_run s ⟨upsL.toArray⟩ ⟨losL.toArray⟩ rfl W hs)
  go_enter Tryz.func94, Tryz.ntmps94
  go_wp2_with (first | (go_at_call 140; refine (HI.out _).mono ?_; rintro e w1 ⟨rfl, hb1⟩))
  go_ret
  exact ⟨rfl, hb1⟩
def ldhL : List UInt8 := [97, 98, 99, 100, 101, 102, 103, 104, 105, 106, 107, 108, 109, 110, 111, 112, 113, 114, 115, 116, 117, 118, 119, 120, 121, 122, 65, 66, 67, 68, 69, 70, 71, 72, 73, 74, 75, 76, 77, 78, 79, 80, 81, 82, 83, 84, 85, 86, 87, 88, 89, 90, 48, 49, 50, 51, 52, 53, 54, 55, 56, 57, 45]
set_option maxRecDepth 100000 in
theorem ldh_has : ∀ b : UInt8, ldhL.contains b = ldhB b := u8_forall (by decide)
set_option maxRecDepth 100000 in
theorem pat_has : ∀ b : UInt8, atomsL.contains b = patB b := u8_forall (by decide)
theorem all_ldh (l : List UInt8) : l.all (ldhL.contains ·) = l.all ldhB := by
  congr 1; funext b; exact ldh_has b
theorem all_pat (l : List UInt8) : l.all (atomsL.contains ·) = l.all patB := by
  congr 1; funext b; exact pat_has b
/-- The pieces in hand are right up to so many. -/
theorem all_take {α : Type} (p : α → Bool) (l : List α) (k : Nat) (hk : k < l.length) (h : (l.take k).all p = true) : (l.take (k + 1)).all p = p l[k] := by
  rw [List.take_succ_eq_append_getElem hk, List.all_append, h]
  simp
theorem all_false {α : Type} (p : α → Bool) (l : List α) (k : Nat) (hk : k < l.length) (h : p l[k] = false) : l.all p = false := by
  rw [List.all_eq_false]
  exact ⟨l[k], List.getElem_mem hk, by rw [h]; simp⟩
def lblB (x : ByteArray) : Bool := lblQ x.data.toList
theorem named_pieces (s : ByteArray) : namedQ s.data.toList = (pieces s dot).all lblB := by
  unfold namedQ
  rw [← pieces_data s 46, List.all_map]
  rfl
def patP (x : ByteArray) : Bool := !x.data.toList.isEmpty && x.data.toList.all patB
theorem dotted_pieces (s : ByteArray) : dottedQ s.data.toList = (pieces s dot).all patP := by
  unfold dottedQ
  rw [← pieces_data s 46, List.all_map]
  rfl
theorem pieces_num (s : ByteArray) (hs : s.size < 4294967281) : (pieces s dot).length ≤ 4294967281 := by
  have h1 := congrArg List.length (pieces_data s 46)
  rw [List.length_map, Ci.splitL_len] at h1
  have h2 := List.count_le_length (a := (46 : UInt8)) (l := s.data.toList)
  rw [← Lib.size_eq] at h2
  show (pieces s ⟨#[46]⟩).length ≤ _
  omega
/-- The pieces of a text in memory. -/
structure Pcs (w wr : World) (P : List ByteArray) : Prop where
  bel : Bel w wr
  hc : wr.heap[w.heap.size]? = some (.cells (P.map Value.string).toArray 9 (0, 0))
theorem Pcs.cell {w wr : World} {P : List ByteArray} (h : Pcs w wr P) {k : Nat} (hk : k < P.length) : wr.cell? ⟨w.heap.size, k, none⟩ = some (.string P[k]) := by
  simp [World.cell?, h.hc, hk]
theorem Pcs.next {w wr W : World} {P : List ByteArray} (h : Pcs w wr P) (hb : Bel wr W) : Pcs w W P := ⟨h.bel.trans hb, hb.heap h.hc⟩
theorem emp_iff (x : ByteArray) : x.toList.isEmpty = x.data.toList.isEmpty := by
  rw [ByteArray.toList_eq]
theorem lbl_emp {x : ByteArray} (h : x.toList.isEmpty = true) : lblB x = false := by
  rw [emp_iff] at h
  unfold lblB lblQ
  rw [h]; rfl
theorem lbl_parts {x : ByteArray} (h : x.toList.isEmpty = false) (h0 : 0 < x.size) (m : Nat) (hm : m < x.size) (hm2 : m + 1 = x.size) : lblB x = (decide (x.size ≤ 63) && x.data.toList.all ldhB && (x[0] != 45) && (x[m] != 45)) := by
  have hs := Lib.size_eq x
  rw [emp_iff] at h
  have e1 : x.data.toList.head? = some x[0] := by
    rw [List.head?_eq_getElem?, List.getElem?_eq_getElem (by omega)]
    rfl
  have e2 : x.data.toList.getLast? = some x[m] := by
    rw [List.getLast?_eq_getElem?, show x.data.toList.length - 1 = m by omega, List.getElem?_eq_getElem (by omega)]
    rfl
  unfold lblB lblQ
  rw [h, e1, e2, ← hs]
  rfl
set_option maxHeartbeats 4000000 in
set_option maxRecDepth 100000 in
theorem named_run (s : ByteArray) (w : World) (hw : Lay w) (hs : s.size < 4294967281) :
    Calls Tryz.prog 95 #[.string s] w fun e w' => e = .returned (.bool (namedQ s.data.toList)) ∧ Bel w w' := by
  have HS := (show Hid (Calls Tryz.prog 75 #[.string s, .string ⟨#[46]⟩] w fun e w' => e = .returned (.slice (some ⟨w.heap.size, 0, none⟩) (pieces s dot).length (pieces s dot).length) ∧ Pcs w w' (pieces s dot)) from (Ci.split_run s dot w hw hs (by decide)).mono fun e w' ⟨h1, h2, h3⟩ => ⟨h1, h3, h2⟩)
  have hn := pieces_num s hs
  have HR := hid (named_pieces s)
  have HO := (show Hid (∀ x, x.size ≤ 63 → ∀ W, Calls Tryz.prog 141 #[.string x, .string ⟨ldhL.toArray⟩] W fun e w' => e = .returned (.bool (x.data.toList.all ldhB)) ∧ w' = W) from fun x hx W => by
    rw [← all_ldh]
    exact only_run x ⟨ldhL.toArray⟩ W (by omega))
  generalize pieces s dot = P at HS hn HR
  generalize namedQ s.data.toList = r at HR
  clear hw
  go_enter Tryz.func95, Tryz.ntmps95
  go_wp2_with (first | (go_at_call 75; refine HS.out.mono ?_; rintro e w1 ⟨rfl, hp⟩; have H0 := hid hp; clear hp))
  go_loopg [4, 8] P.length (fun gg v4 v8 wr => ∃ k : Nat, v8 = .int .i64 k ∧ k + gg = P.length ∧ Hid (Pcs w wr P ∧ (P.take k).all lblB = true))
  case atStart => exact ⟨0, rfl, by omega, hid ⟨H0.out, by simp⟩⟩
  case round =>
    clear H0 HS
    obtain ⟨k, rfl, hk, H⟩ := hrel
    have hkn : k ≤ P.length := by omega
    by_cases hlt : k < P.length
    · have c0 := H.out.1.cell hlt
      have HA := hid (fun (h : lblB P[k] = false) => all_false lblB P k hlt h)
      have HN := hid (all_take lblB P k hlt H.out.2)
      have HB := hid H.out.1.bel
      generalize P[k] = x at c0 HA HN
      have HK := hid hk
      cases hemp : x.toList.isEmpty with
      | true =>
        have HX := hid (show r = false from HR.out.trans (HA.out (lbl_emp hemp)))
        clear hk
        go_wp2_with fail
        go_ret
        exact ⟨by rw [HX.out]; rfl, HB.out⟩
      | false =>
        have h0 : 0 < x.size := by
          rw [emp_iff] at hemp
          rw [Lib.size_eq]
          rcases hx : x.data.toList with _ | ⟨b, l⟩
          · rw [hx] at hemp; simp at hemp
          · simp
        obtain ⟨m, hm⟩ : ∃ m, m + 1 = x.size := ⟨x.size - 1, by omega⟩
        have hlb : m < x.size := by omega
        have HP := hid (lbl_parts hemp h0 m hlb hm)
        by_cases h63 : 63 < x.size
        · have b1 : decide ((63 : Int) < (x.size : Int)) = true := decide_eq_true (by omega)
          have HX := hid (show r = false from HR.out.trans (HA.out (by rw [HP.out, decide_eq_false (by omega : ¬ x.size ≤ 63)]; rfl)))
          clear hk h63
          go_wp2_with fail
          go_ret
          exact ⟨by rw [HX.out]; rfl, HB.out⟩
        · have b1 : decide ((63 : Int) < (x.size : Int)) = false := decide_eq_false (by omega)
          have HO1 := (show Hid (∀ W, Calls Tryz.prog 141 #[.string x, .string ⟨ldhL.toArray⟩] W fun e w' => e = .returned (.bool (x.data.toList.all ldhB)) ∧ w' = W) from fun W => HO.out x (by omega) W)
          have HD := hid (show decide (x.size ≤ 63) = true from decide_eq_true (by omega))
          cases ha : x.data.toList.all ldhB with
          | false =>
            have HX := hid (show r = false from HR.out.trans (HA.out (by rw [HP.out, ha, HD.out]; rfl)))
            rw [ha] at HO1
            clear hk h63 ha
            go_wp2_with (first | (go_at_call 141; refine (HO1.out _).mono ?_; rintro e w1 ⟨rfl, rfl⟩))
            go_ret
            exact ⟨by rw [HX.out]; rfl, HB.out⟩
          | true =>
            have hla : wrap64 ((x.size : Int) - 1) = (m : Int) := by rw [show (x.size : Int) - 1 = (m : Int) by omega]; unfold wrap64; omega
            clear hm
            by_cases h1 : x[0] = 45
            · have c1 : (((x[0]'h0).toNat : Int) == 45) = true := byte_eq (n := 45) (by decide) h1
              have HX := hid (show r = false from HR.out.trans (HA.out (by rw [HP.out, ha, HD.out, h1]; rfl)))
              rw [ha] at HO1
              clear hk h63 ha h1
              go_wp2_with (first | (go_at_call 141; refine (HO1.out _).mono ?_; rintro e w1 ⟨rfl, rfl⟩))
              go_ret
              exact ⟨by rw [HX.out]; rfl, HB.out⟩
            · have c1 : (((x[0]'h0).toNat : Int) == 45) = false := byte_ne (n := 45) (by decide) h1
              have HE1 := hid (show (x[0] != 45) = true by simpa using h1)
              by_cases h2 : x[m] = 45
              · have c2 : (((x[m]'hlb).toNat : Int) == 45) = true := byte_eq (n := 45) (by decide) h2
                have HX := hid (show r = false from HR.out.trans (HA.out (by rw [HP.out, ha, HD.out, h2, HE1.out]; rfl)))
                rw [ha] at HO1
                clear hk h63 ha h1 h2
                go_wp2_with (first | (go_at_call 141; refine (HO1.out _).mono ?_; rintro e w1 ⟨rfl, rfl⟩))
                go_ret
                exact ⟨by rw [HX.out]; rfl, HB.out⟩
              · have c2 : (((x[m]'hlb).toNat : Int) == 45) = false := byte_ne (n := 45) (by decide) h2
                have HE2 := hid (show (x[m] != 45) = true by simpa using h2)
                have HT := hid (show (P.take (k + 1)).all lblB = true by rw [HN.out, HP.out, ha, HD.out, HE1.out, HE2.out]; rfl)
                have HPc := hid H.out.1
                rw [ha] at HO1
                clear hk h63 ha h1 h2 H HN HA HP HE1 HE2 HD
                go_wp2_with (first | (go_at_call 141; refine (HO1.out _).mono ?_; rintro e w1 ⟨rfl, rfl⟩))
                go_roundg (gk - 1)
                case measure => have := HK.out; omega
                case rel => exact ⟨k + 1, by go_num, by have := HK.out; omega, hid ⟨HPc.out, HT.out⟩⟩
    · obtain rfl : k = P.length := by omega
      have HX := hid (show r = true from HR.out.trans (by have := H.out.2; rwa [List.take_length] at this))
      have HB := hid H.out.1.bel
      go_wp2_with fail
      go_ret
      exact ⟨by rw [HX.out]; rfl, HB.out⟩
set_option maxHeartbeats 4000000 in
set_option maxRecDepth 100000 in
theorem dotted_run (s : ByteArray) (w : World) (hw : Lay w) (hs : s.size < 4294967281) :
    Calls Tryz.prog 144 #[.string s] w fun e w' => e = .returned (.bool (dottedQ s.data.toList)) ∧ Bel w w' := by
  have HS := (show Hid (Calls Tryz.prog 75 #[.string s, .string ⟨#[46]⟩] w fun e w' => e = .returned (.slice (some ⟨w.heap.size, 0, none⟩) (pieces s dot).length (pieces s dot).length) ∧ Pcs w w' (pieces s dot)) from (Ci.split_run s dot w hw hs (by decide)).mono fun e w' ⟨h1, h2, h3⟩ => ⟨h1, h3, h2⟩)
  have hn := pieces_num s hs
  have HR := hid (dotted_pieces s)
  have HO := (show Hid (∀ x ∈ pieces s dot, ∀ W, Calls Tryz.prog 141 #[.string x, .string ⟨atomsL.toArray⟩] W fun e w' => e = .returned (.bool (x.data.toList.all patB)) ∧ w' = W) from fun x hx W => by
    rw [← all_pat]
    exact only_run x ⟨atomsL.toArray⟩ W (by have := Ci.pieces_size s dot hs x hx; omega))
  generalize pieces s dot = P at HS hn HR HO
  generalize dottedQ s.data.toList = r at HR
  clear hw
  go_enter Tryz.func144, Tryz.ntmps144
  go_wp2_with (first | (go_at_call 75; refine HS.out.mono ?_; rintro e w1 ⟨rfl, hp⟩; have H0 := hid hp; clear hp))
  go_loopg [4, 8] P.length (fun gg v4 v8 wr => ∃ k : Nat, v8 = .int .i64 k ∧ k + gg = P.length ∧ Hid (Pcs w wr P ∧ (P.take k).all patP = true))
  case atStart => exact ⟨0, rfl, by omega, hid ⟨H0.out, by simp⟩⟩
  case round =>
    clear H0 HS
    obtain ⟨k, rfl, hk, H⟩ := hrel
    have hkn : k ≤ P.length := by omega
    by_cases hlt : k < P.length
    · have c0 := H.out.1.cell hlt
      have HA := hid (fun (h : patP P[k] = false) => all_false patP P k hlt h)
      have HN := hid (all_take patP P k hlt H.out.2)
      have HB := hid H.out.1.bel
      have hmem := List.getElem_mem hlt
      generalize P[k] = x at c0 HA HN hmem
      have HK := hid hk
      have HP := hid (show patP x = (!x.toList.isEmpty && x.data.toList.all patB) by rw [emp_iff]; rfl)
      have HO1 := (show Hid (∀ W, Calls Tryz.prog 141 #[.string x, .string ⟨atomsL.toArray⟩] W fun e w' => e = .returned (.bool (x.data.toList.all patB)) ∧ w' = W) from fun W => HO.out x hmem W)
      clear hmem
      cases hemp : x.toList.isEmpty with
      | true =>
        have HX := hid (show r = false from HR.out.trans (HA.out (by rw [HP.out, hemp]; rfl)))
        clear hk
        go_wp2_with fail
        go_ret
        exact ⟨by rw [HX.out]; rfl, HB.out⟩
      | false =>
        cases ha : x.data.toList.all patB with
        | false =>
          have HX := hid (show r = false from HR.out.trans (HA.out (by rw [HP.out, hemp, ha]; rfl)))
          rw [ha] at HO1
          clear hk ha
          go_wp2_with (first | (go_at_call 141; refine (HO1.out _).mono ?_; rintro e w1 ⟨rfl, rfl⟩))
          go_ret
          exact ⟨by rw [HX.out]; rfl, HB.out⟩
        | true =>
          have HT := hid (show (P.take (k + 1)).all patP = true by rw [HN.out, HP.out, hemp, ha]; rfl)
          have HPc := hid H.out.1
          rw [ha] at HO1
          clear hk ha H HN HA HP
          go_wp2_with (first | (go_at_call 141; refine (HO1.out _).mono ?_; rintro e w1 ⟨rfl, rfl⟩))
          go_roundg (gk - 1)
          case measure => have := HK.out; omega
          case rel => exact ⟨k + 1, by go_num, by have := HK.out; omega, hid ⟨HPc.out, HT.out⟩⟩
    · obtain rfl : k = P.length := by omega
      have HX := hid (show r = true from HR.out.trans (by have := H.out.2; rwa [List.take_length] at this))
      have HB := hid H.out.1.bel
      go_wp2_with fail
      go_ret
      exact ⟨by rw [HX.out]; rfl, HB.out⟩
end Go.Proofs.YtpmmaickjolimaaGreatDoor.Ma

/- The examples at the head of all statements. -/

namespace Go.Proofs.YtpmmaickjolimaaGreatDoor.Ci
open Go.RowKit

def nA : Nt := ⟨false, 8, [10, 0, 0, 0, 0, 0, 0, 0, 0, 0, 0, 0, 0, 0, 0, 0]⟩
set_option maxRecDepth 100000
/-- A range put into a variable of its own. -/
theorem put_net (w : World) (n : Nt) (h : n.addr.length = 16) : Bel w ((w.alloc (.cells #[.bool false, .int .i64 0, .int .u8 0, .int .u8 0, .int .u8 0, .int .u8 0, .int .u8 0, .int .u8 0, .int .u8 0, .int .u8 0, .int .u8 0, .int .u8 0, .int .u8 0, .int .u8 0, .int .u8 0, .int .u8 0, .int .u8 0, .int .u8 0] 25)).setCells w.heap.size 0 (netC n)) ∧ ((w.alloc (.cells #[.bool false, .int .i64 0, .int .u8 0, .int .u8 0, .int .u8 0, .int .u8 0, .int .u8 0, .int .u8 0, .int .u8 0, .int .u8 0, .int .u8 0, .int .u8 0, .int .u8 0, .int .u8 0, .int .u8 0, .int .u8 0, .int .u8 0, .int .u8 0] 25)).setCells w.heap.size 0 (netC n)).heap[w.heap.size]? = some (.cells (netC n).toArray 25 (0, 0)) :=
  ⟨Bel.setCells (Nat.le_refl _) _ _ _ ((Bel.refl w).alloc _), heap_setCells_whole (cs := #[.bool false, .int .i64 0, .int .u8 0, .int .u8 0, .int .u8 0, .int .u8 0, .int .u8 0, .int .u8 0, .int .u8 0, .int .u8 0, .int .u8 0, .int .u8 0, .int .u8 0, .int .u8 0, .int .u8 0, .int .u8 0, .int .u8 0, .int .u8 0].toList) (heap_alloc_new w _) (by rw [netC_len _ h]; rfl)⟩
theorem there_net (w : World) (n : Nt) (h : n.addr.length = 16) : (w.alloc (.cells #[.bool false, .int .i64 0, .int .u8 0, .int .u8 0, .int .u8 0, .int .u8 0, .int .u8 0, .int .u8 0, .int .u8 0, .int .u8 0, .int .u8 0, .int .u8 0, .int .u8 0, .int .u8 0, .int .u8 0, .int .u8 0, .int .u8 0, .int .u8 0] 25)).there w.heap.size 0 (netC n).toArray.size :=
  there_of (cs := #[.bool false, .int .i64 0, .int .u8 0, .int .u8 0, .int .u8 0, .int .u8 0, .int .u8 0, .int .u8 0, .int .u8 0, .int .u8 0, .int .u8 0, .int .u8 0, .int .u8 0, .int .u8 0, .int .u8 0, .int .u8 0, .int .u8 0, .int .u8 0].toList) (heap_alloc_new w _) (by rw [List.size_toArray, netC_len _ h]; decide)
theorem net_len (n : Nt) (h : n.addr.length = 16) : (Tryz.prog.info? 25).map (·.size) = some (netC n).length := by rw [netC_len _ h]; exact net_info
theorem range_net {w : World} {b : Nat} {n : Nt} (h : w.heap[b]? = some (.cells (netC n).toArray 25 (0, 0))) : w.rangeAt b 0 (netC n) := range_of h fun j v hv => by simpa using hv
end Go.Proofs.YtpmmaickjolimaaGreatDoor.Ci
