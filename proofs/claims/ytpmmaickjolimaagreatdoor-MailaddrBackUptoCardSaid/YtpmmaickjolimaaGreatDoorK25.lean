/- Parse. -/
import Derived.Test.YtpmmaickjolimaaGreatDoorK19
import Derived.Test.YtpmmaickjolimaaGreatDoorK24
import Derived.Test.YtpmmaickjolimaaGreatDoorK14
import Derived.Lib.Builder
import Derived.Lib.AppendStr
import Derived.Test.YtpmmaickjolimaaGreatDoorK23
namespace Go.Proofs.YtpmmaickjolimaaGreatDoor.Ma
open Go.RowKit
open Ci (Bel Lay own_bel row_shape addr_add own_base wpList_push)

def mlC (m : Ml) : List Value := [.bool m.path.null, .string ⟨m.path.loc.toArray⟩, .string ⟨m.path.dom.toArray⟩, .bool m.path.lit, .int .i64 m.from_, .int .i64 m.til, .string ⟨m.name.toArray⟩]
def mlCs (l : List Ml) : List Value := l.flatMap mlC
def Mls (a0 W : World) (v : Value) (l : List Ml) : Prop := W.ownsRow a0.heap.size 41 7 v l.length (mlCs l)
theorem Mls.next {a0 W W' : World} {v : Value} {l : List Ml} (h : Mls a0 W v l) (hb : Bel W W') : Mls a0 W' v l := own_bel h hb
theorem mlCs_snoc (l : List Ml) (m : Ml) : mlCs (l ++ [m]) = mlCs l ++ mlC m := by unfold mlCs; rw [List.flatMap_append]; simp
theorem ml_infos : (Tryz.prog.info? 41).map (fun i => (i.zero, i.size, i.bytes)) = some (some (.agg #[.bool false, .string ⟨#[]⟩, .string ⟨#[]⟩, .bool false, .int .i64 0, .int .i64 0, .string ⟨#[]⟩]), 7, 80) := by kernel_rfl
def ParsePost (s : ByteArray) (w : World) (e : Ending) (w' : World) : Prop := ∃ v, e = .returned (.tuple #[v, .int .i64 (parseQ s.data.toList).2]) ∧ Bel w w' ∧ Mls w w' v (parseQ s.data.toList).1
theorem mls_nil (w W : World) : Mls w W (.slice none 0 0) [] := ⟨rfl, .inl ⟨rfl, rfl⟩⟩
theorem spCs_at (L : List Sp) (k : Nat) (hk : k < L.length) (j : Nat) (v : Value) (hv : (spC L[k])[j]? = some v) : (spCs L)[k * 5 + j]? = some v := by
  induction L generalizing k with
  | nil => simp at hk
  | cons t L ih =>
    show (spC t ++ spCs L)[k * 5 + j]? = some v
    have hl : (spC t).length = 5 := rfl
    cases k with
    | zero =>
      have hj : j < 5 := (List.getElem?_eq_some_iff.1 hv).1
      rw [List.getElem?_append_left (by omega), Nat.zero_mul, Nat.zero_add]
      exact hv
    | succ k =>
      rw [List.getElem?_append_right (by omega), hl, show (k + 1) * 5 + j - 5 = k * 5 + j by omega]
      exact ih k (by simp at hk; omega) hv
/-- What is in hand while addresses are made. -/
structure PaI (w3 wr : World) (L : List Sp) (k : Nat) (v : Value) (l : List Ml) : Prop where
  bel : Bel w3 wr
  row : Mls w3 wr v l
  mi : MlI L k l
theorem form_size (n : Ci.Nt) (hn : n.Fits) (hb : n.bits ≤ 128) : (Ci.formQ n).length ≤ 120 := by
  have h1 : (Ci.addrT n).length ≤ 100 := by
    unfold Ci.addrT
    split
    · have := Ci.longT_size n.addr hn.len hn.by_
      rw [Lib.size_eq] at this
      exact this
    · have := Ci.dotT_size (n.addr.take 4) (fun x hx => hn.by_ x (List.mem_of_mem_take hx))
      rw [Lib.size_eq, List.length_take] at this
      have : (Lib.join ((n.addr.take 4).map Lib.decDigits) [46]).length ≤ 4 * min 4 n.addr.length := this
      omega
  have h2 : n.bits.toNat < 1000 := by omega
  have h3 := (Ci.decDigits_len 2 n.bits.toNat (by omega)).2
  unfold Ci.formQ
  split
  · rw [List.length_append, List.length_cons]; omega
  · omega
theorem dom_size (d : List UInt8) : (domainQ d).1.length ≤ d.length + 120 ∧ ((domainQ d).2.2 = 0 ∨ (domainQ d).2.2 = 90 ∨ (domainQ d).2.2 = 91) := by
  unfold domainQ
  split
  · split
    · rename_i n h
      have hf := (Ci.addrQ_fits h).1
      have hb := Ci.rightQ_bits (addr_right h)
      split
      · exact ⟨by have := form_size n hf (by omega); show (Ci.formQ n).length ≤ _; omega, .inl rfl⟩
      · exact ⟨by simp, .inr (.inl rfl)⟩
    · exact ⟨by simp, .inr (.inl rfl)⟩
  · split
    · exact ⟨by simp, .inr (.inl rfl)⟩
    · split
      · exact ⟨by simp, .inr (.inr rfl)⟩
      · exact ⟨by show (lowL d).length ≤ _; rw [lower_le]; omega, .inl rfl⟩
theorem ps_start (X : Cx) (cp : Nat) (h1 : X.T.length ≤ cp) (h2 : cp ≤ maxLen) : Ps X ⟨false, X.T, []⟩ (.slice none 0 0) (X.W.alloc (.cells #[.string X.body, .slice (some ⟨X.lb, 0, none⟩) X.T.length cp, .bool false, .slice none 0 0] 81)) :=
  ⟨(Bel.refl _).alloc _, ⟨0, cp, some ⟨X.lb, 0, none⟩, by simp, Nat.zero_le _, h1, h2, fun _ => by rw [Nat.zero_mul], heap_alloc_new _ _⟩, ⟨rfl, .inl ⟨rfl, rfl⟩⟩⟩
theorem spC_one (x : Sp) : ((spC x).toArray.all (·.oneCell')) = true := by simp [spC, Value.oneCell']
theorem spC_range {W : World} {b : Nat} {x : Sp} {T : TypeId} (h : W.heap[b]? = some (.cells (spC x).toArray T (0, 0))) : W.rangeAt b 0 (spC x) := Ci.range_of h fun j v hv => by rw [Nat.zero_add]; exact hv
/-- A spec of a parser's row. -/
theorem row_at {a W : World} {base g cp : Nat} {L : List Sp} (h : a.ownsRow base 84 5 (.slice (some ⟨g, 0, none⟩) L.length cp) L.length (spCs L)) (hb : Bel a W) (k : Nat) (hk : k < L.length) : W.rangeAt g (k * 5) (spC L[k]) := fun j v hv => by
  have hj := spCs_at L k hk j v hv
  have hl := (List.getElem?_eq_some_iff.1 hj).1
  rw [h.1] at hl
  exact ((World.ownsRow.cellAt (own_bel h hb) (k * 5 + j) hl).trans hj)
set_option maxHeartbeats 8000000 in
set_option maxRecDepth 100000 in
theorem mparse_run (s : ByteArray) (w : World) (hw : Lay w) : Calls Tryz.prog 18 #[.string s] w (ParsePost s w) := by
  have hs := Lib.size_eq s
  by_cases hbig : 65536 < s.size
  · have b1 : decide ((65536 : Int) < (s.size : Int)) = true := decide_eq_true (by omega)
    have HQ := hid (show parseQ s.data.toList = ([], 101) by unfold parseQ; rw [if_pos (by omega)])
    clear hw hs hbig
    go_enter Tryz.func18, Tryz.ntmps18
    go_wp2_with fail
    go_ret2
    exact ⟨.slice none 0 0, by rw [HQ.out]; rfl, Bel.refl w, by rw [HQ.out]; exact mls_nil w w⟩
  · have b1 : decide ((65536 : Int) < (s.size : Int)) = false := decide_eq_false (by omega)
    have HC := (show Hid (Calls Tryz.prog 45 #[.string s] w (CutPost s w)) from cut_run s w (by omega))
    have HB := hid hbig
    have HZ := hid hs
    have HW := hid hw
    have hP : parseQ s.data.toList = match readQ s.data.toList with
      | none => ([], 100)
      | some L => if (mailsQ L).2 = 0 ∧ 200 < (mailsQ L).1.length then ([], 102) else mailsQ L := by
      unfold parseQ; rw [if_neg (by omega)]; rfl
    cases hcq : cutQ s.data.toList with
    | none =>
      have HQ := hid (show parseQ s.data.toList = ([], 100) by rw [hP, read_none hcq])
      have HC2 := (show Hid (Calls Tryz.prog 45 #[.string s] w fun e w' => e = .returned (.tuple #[.slice none 0 0, .bool false]) ∧ Bel w w') from HC.out.mono fun e w' ⟨v, he, hb, hv⟩ => by
        rw [hcq] at he hv
        obtain rfl : v = .slice none 0 0 := hv
        exact ⟨he, hb⟩)
      clear hcq HC hP hbig hw hs
      go_enter Tryz.func18, Tryz.ntmps18
      go_wp2_with (first | (go_at_call 45; refine HC2.out.mono ?_; rintro e w1 ⟨rfl, hb1⟩))
      go_ret2
      exact ⟨.slice none 0 0, by rw [HQ.out]; rfl, hb1, by rw [HQ.out]; exact mls_nil w w1⟩
    | some T =>
      have hlx := lexed hcq
      have hT0 : 0 < T.length := by
        obtain ⟨T', e, rfl, -⟩ := hlx.en
        simp
      have hTn : T.length ≤ 65537 := by have := hlx.num; omega
      have HC2 := (show Hid (Calls Tryz.prog 45 #[.string s] w fun e w' => ∃ lb cp, e = .returned (.tuple #[.slice (some ⟨lb, 0, none⟩) T.length cp, .bool true]) ∧ Bel w w' ∧ T.length ≤ cp ∧ cp ≤ maxLen ∧ lb < w'.heap.size ∧ (⟨w', lb, s, T⟩ : Cx).Ok ∧ (⟨w', lb, s, T⟩ : Cx).Pos) from HC.out.mono fun e w' ⟨v, he, hb, hv⟩ => by
        rw [hcq] at he hv
        have hv' : Toks w w' v T := hv
        obtain ⟨lb, cp, rfl, h1, h2, h3⟩ := toks_at hv' hT0
        have hcx := cx_of (by omega) hlx hv'
        refine ⟨lb, cp, he, hb, h3, ?_, h2, hcx.1, hcx.2⟩
        rcases hv'.2 with ⟨f, -⟩ | ⟨g, cap, cur, e, -, -, -, hcm, -⟩
        · cases f
        · cases e; exact hcm)
      have HR := hid (read_of hcq)
      have HPQ := hid hP
      have HSM := hid (fun L (h : readQ s.data.toList = some L) => And.intro (read_small h) (read_len h).2)
      clear hcq HC hP hbig hw hs hlx
      have hmf : ∀ (fn : Fn) (first cap : Array Value) (w : World), (Instr.makeFunc fn first cap).run Tryz.prog w = .ok (.func fn first cap) w := fun _ _ _ _ => rfl
      go_enter Tryz.func18, Tryz.ntmps18
      go_upto_region 8 with (first | (go_at_call 45; refine HC2.out.mono ?_; rintro e w1 ⟨lb, cp, rfl, hb1, hcp1, hcp2, hlb, hok, hpos⟩; have HOK := hid hok; have HPOS := hid hpos; clear hok hpos) | (go_at_call 46; refine (commas_el ⟨w1, lb, s, T⟩ HOK.out HPOS.out ⟨false, T, []⟩ (.slice none 0 0) _ (ps_start ⟨w1, lb, s, T⟩ cp hcp1 hcp2) ⟨0, by simp, hT0⟩ rfl (by show 0 + T.length ≤ 65537; omega)).mono ?_; rintro e w3 ⟨rfl, sl', hps'⟩; have hps : Ps ⟨w1, lb, s, T⟩ (commasQ 101 (elementQ s.data.toList) (T.length + 1) ⟨false, T, []⟩) sl' w3 := hps'; clear hps'; generalize commasQ 101 (elementQ s.data.toList) (T.length + 1) ⟨false, T, []⟩ = st' at hps HR; obtain ⟨q, cp3, ad3, -, -, -, -, -, hp3⟩ := hps.at_; have HPS := hid hps; have p2 : w3.cell? ⟨w1.heap.size, 2, none⟩ = some (.bool st'.bad) := (by simp [World.cell?, hp3]); have p3 : w3.cell? ⟨w1.heap.size, 3, none⟩ = some sl' := (by simp [World.cell?, hp3]); clear hps hp3 HOK HPOS HC2))
      have HB3 := hid (show Bel w w3 from hb1.trans HPS.out.bel)
      have HOW := hid HPS.out.own
      have HSZ := hid (show w.heap.size ≤ w1.heap.size from hb1.size)
      clear HPS hmf hb1 hcp1 hcp2 hlb hT0 hTn
      obtain ⟨bad, tl, L⟩ := st'
      simp only at HR p2 HOW
      cases bad with
      | true =>
        have HQ := hid (show parseQ s.data.toList = ([], 100) by rw [HPQ.out, HR.out]; rfl)
        clear HR HPQ HSM HOW
        go_wp2_with fail
        go_ret2
        exact ⟨.slice none 0 0, by rw [HQ.out]; rfl, HB3.out, by rw [HQ.out]; exact mls_nil w w3⟩
      | false =>
        have HRL := hid (show readQ s.data.toList = some L from HR.out)
        have HQ := hid (show parseQ s.data.toList = if (mailsQ L).2 = 0 ∧ 200 < (mailsQ L).1.length then ([], 102) else mailsQ L by rw [HPQ.out, HRL.out])
        have HSL := hid (HSM.out L HRL.out)
        have hn : L.length ≤ 65536 := by have := HSL.out.2; have := HZ.out; have := HB.out; omega
        obtain ⟨x3, c3, rfl, hcl, -⟩ := row_shape HOW.out
        clear HR HPQ HSM HRL hcl
        go_wp2_with fail
        clear p2 p3
        go_loopg [7, 41] L.length (fun gg v7 v41 wr => ∃ (k : Nat) (x7 : Option Addr) (c7 : Nat) (l : List Ml), v7 = .slice x7 k c7 ∧ v41 = .int .i64 k ∧ k + gg = L.length ∧ Hid (PaI w3 wr L k (.slice x7 k c7) l))
        case atStart => exact ⟨0, none, 0, [], rfl, rfl, by omega, hid ⟨Bel.refl w3, ⟨rfl, .inl ⟨rfl, rfl⟩⟩, MlI.zero L⟩⟩
        case round =>
          obtain ⟨k, x7, c7, l, rfl, rfl, hk, H⟩ := hrel
          have Hk := hid hk
          have hkn : k ≤ L.length := by omega
          clear hk
          by_cases hlt : k < L.length
          · obtain ⟨g, rfl⟩ : ∃ g, x3 = some ⟨g, 0, none⟩ := by
              rcases HOW.out.2 with ⟨e, h0⟩ | ⟨g, cap, cur, e, -⟩
              · omega
              · cases e; exact ⟨g, rfl⟩
            have hrg := row_at HOW.out H.out.bel k hlt
            have hsm := HSL.out.1 L[k] (List.getElem_mem hlt)
            have HNX := hid (fun h0 => H.out.mi.next hlt h0)
            have HBD := hid (fun h0 => H.out.mi.bad hlt h0)
            have hsmz : s.data.toList.length ≤ 65536 := by have := HZ.out; have := HB.out; omega
            generalize L[k] = x at hrg hsm HNX HBD
            have HDS := hid (dom_size x.dom)
            have hdl : (⟨(domainQ x.dom).1.toArray⟩ : ByteArray).size ≤ 4194304 := by rw [Lib.size_eq]; have := HDS.out.1; show (domainQ x.dom).1.length ≤ _; omega
            have hll : (⟨x.loc.toArray⟩ : ByteArray).size ≤ 4194304 := by rw [Lib.size_eq]; show x.loc.length ≤ _; omega
            have hdd : (⟨x.dom.toArray⟩ : ByteArray).size ≤ 4194304 := by rw [Lib.size_eq]; show x.dom.length ≤ _; omega
            have HD := (show Hid (∀ W, Lay W → Calls Tryz.prog 48 #[.string ⟨x.dom.toArray⟩] W fun e w' => e = .returned (.tuple #[.string ⟨(domainQ x.dom).1.toArray⟩, .bool (domainQ x.dom).2.1, .int .i64 (domainQ x.dom).2.2]) ∧ Bel W w') from fun W hW => pdomain_run ⟨x.dom.toArray⟩ W hW hdd)
            have HRt := (show Hid (∀ W, Lay W → Calls Tryz.prog 49 #[.agg #[.bool false, .string ⟨x.loc.toArray⟩, .string ⟨(domainQ x.dom).1.toArray⟩, .bool (domainQ x.dom).2.1]] W fun e w' => e = .returned (.int .i64 (rightP (addrOf x.loc x.dom).1)) ∧ Bel W w') from fun W hW => right_run false ⟨x.loc.toArray⟩ ⟨(domainQ x.dom).1.toArray⟩ (domainQ x.dom).2.1 W hW hll hdl)
            have HA2 := hid (show (addrOf x.loc x.dom).2 = if (domainQ x.dom).2.2 = 0 then rightP (addrOf x.loc x.dom).1 else (domainQ x.dom).2.2 from rfl)
            have HA1 := hid (show (addrOf x.loc x.dom).1 = ⟨false, x.loc, (domainQ x.dom).1, (domainQ x.dom).2.1⟩ from rfl)
            have HMO := hid (show mlOf x = ⟨(addrOf x.loc x.dom).1, x.from_, x.til, x.name⟩ from rfl)
            generalize addrOf x.loc x.dom = A at HA1 HA2 HRt HNX HBD HMO
            generalize domainQ x.dom = D at HA1 HA2 HRt HD HDS hdl
            have HBW := hid (show Bel w wr from HB3.out.trans H.out.bel)
            have HLE := hid (show wr.heap.size ≥ w3.heap.size from H.out.bel.size)
            clear hll hdl hdd hsm hsmz
            obtain ⟨dl, dt, de⟩ := D
            simp only at HD HRt HA1 HA2
            have HOL := hid (show wr.ownsRow w3.heap.size 41 7 (.slice x7 k c7) k (mlCs l) by
              have := H.out.row
              unfold Mls at this
              rwa [H.out.mi.1] at this)
            have HBM := hid H.out.bel
            have HLN := hid H.out.mi.1
            clear H HDS
            by_cases h0 : de = 0
            · subst h0
              rw [if_pos rfl] at HA2
              have HA3 := hid (show A.2 = rightP A.1 from HA2.out)
              generalize hr : rightP A.1 = r at HRt HA3
              by_cases hr0 : r = 0
              · subst hr0
                have HM := hid (HNX.out HA3.out)
                have HMC := hid (show mlC (mlOf x) = [.bool false, .string ⟨x.loc.toArray⟩, .string ⟨dl.toArray⟩, .bool dt, .int .i64 x.from_, .int .i64 x.til, .string ⟨x.name.toArray⟩] by
                  rw [HMO.out, HA1.out]; rfl)
                clear HNX HBD HA1 HA2 HA3 HMO hr
                go_wp2_with (first | (refine wpList_load_mid rfl 84 (.tmp 43) rfl g (k * 5) rfl (spC x) _ hrg Tryz.underlying84 rfl sp_size ?_) | (refine wpList_store_blk rfl 84 (.tmp 9) (.tmp 44) rfl wr.heap.size (spC x) rfl rfl sp_size (spC_one x) (spC ⟨[], [], 0, 0, []⟩) _ (heap_alloc_new wr _) rfl ?_; intro w5 hc5 ho5 hs5 hb5; have HB5 := hid (hb5 wr ((Bel.refl wr).alloc _) (Nat.le_refl _)); have p5 : w5.cell? ⟨wr.heap.size, 1, none⟩ = some (.string ⟨x.dom.toArray⟩) := (by simp [World.cell?, hc5, spC]); clear ho5 hs5 hb5) | (go_at_call 48; refine (HD.out _ (HW.out.next (HBW.out.trans HB5.out))).mono ?_; rintro e w6 ⟨rfl, hb6⟩; have q6 := hb6.heap hc5; have HB6 := hid (HB5.out.trans hb6); have p6 : w6.cell? ⟨wr.heap.size, 0, none⟩ = some (.string ⟨x.loc.toArray⟩) := (by simp [World.cell?, q6, spC]); clear hb6 hc5) | (go_at_call 49; refine (HRt.out _ (HW.out.next (HBW.out.trans (HB6.out.trans ((Bel.refl w6).alloc _))))).mono ?_; rintro e w8 ⟨rfl, hb8⟩; have hc8 := hb8.heap (heap_alloc_new w6 _); have q8 := hb8.heap (((Bel.refl w6).alloc _).heap q6); have HB8 := hid (HB6.out.trans (((Bel.refl w6).alloc _).trans hb8)); have e2 : w8.cell? ⟨wr.heap.size, 2, none⟩ = some (.int .i64 x.from_) := (by simp [World.cell?, q8, spC]); have e3 : w8.cell? ⟨wr.heap.size, 3, none⟩ = some (.int .i64 x.til) := (by simp [World.cell?, q8, spC]); have e4 : w8.cell? ⟨wr.heap.size, 4, none⟩ = some (.string ⟨x.name.toArray⟩) := (by simp [World.cell?, q8, spC]); clear hb8) | (refine wpList_load_mid rfl 39 (.tmp 13) rfl w6.heap.size 0 rfl [.bool false, .string ⟨x.loc.toArray⟩, .string ⟨dl.toArray⟩, .bool dt] _ (range_pt hc8) Tryz.underlying39 rfl pt_size ?_) | (at_builtin; refine wpList_push (a0 := w3) (W := w8) rfl (.tmp 64) (.tmp 73) 34 rfl 41 (.agg #[.bool false, .string ⟨#[]⟩, .string ⟨#[]⟩, .bool false, .int .i64 0, .int .i64 0, .string ⟨#[]⟩]) 7 80 Tryz.underlying34 ml_infos rfl (by decide) (.slice x7 k c7) k (mlCs l) rfl (own_bel HOL.out HB8.out) (HBM.out.trans HB8.out) _ rfl rfl (by intro u hu; simp at hu; rcases hu with rfl | rfl | rfl | rfl | rfl | rfl | rfl <;> rfl) (by unfold maxLen; omega) (by omega) ?_; intro x' p' w9 hown9 hb9))
                go_roundg (gk - 1)
                case measure => have := Hk.out; omega
                case rel => exact ⟨k + 1, x', p', l ++ [mlOf x], rfl, by go_num, by have := Hk.out; omega, hid ⟨hb9, by
                  unfold Mls
                  rw [List.length_append, HLN.out, mlCs_snoc, HMC.out]
                  exact hown9, HM.out⟩⟩
              · by_cases h91 : r = 91
                · have HQ2 := hid (show parseQ s.data.toList = ([], 101) by
                    have := HBD.out (by rw [HA3.out]; exact hr0)
                    rw [HA3.out, if_pos h91] at this
                    rw [HQ.out, this]; rfl)
                  subst h91
                  clear HNX HBD HA1 HA2 HA3 HMO hr HQ hr0
                  go_wp2_with (first | (refine wpList_load_mid rfl 84 (.tmp 43) rfl g (k * 5) rfl (spC x) _ hrg Tryz.underlying84 rfl sp_size ?_) | (refine wpList_store_blk rfl 84 (.tmp 9) (.tmp 44) rfl wr.heap.size (spC x) rfl rfl sp_size (spC_one x) (spC ⟨[], [], 0, 0, []⟩) _ (heap_alloc_new wr _) rfl ?_; intro w5 hc5 ho5 hs5 hb5; have HB5 := hid (hb5 wr ((Bel.refl wr).alloc _) (Nat.le_refl _)); have p5 : w5.cell? ⟨wr.heap.size, 1, none⟩ = some (.string ⟨x.dom.toArray⟩) := (by simp [World.cell?, hc5, spC]); clear ho5 hs5 hb5) | (go_at_call 48; refine (HD.out _ (HW.out.next (HBW.out.trans HB5.out))).mono ?_; rintro e w6 ⟨rfl, hb6⟩; have q6 := hb6.heap hc5; have HB6 := hid (HB5.out.trans hb6); have p6 : w6.cell? ⟨wr.heap.size, 0, none⟩ = some (.string ⟨x.loc.toArray⟩) := (by simp [World.cell?, q6, spC]); clear hb6 hc5) | (go_at_call 49; refine (HRt.out _ (HW.out.next (HBW.out.trans (HB6.out.trans ((Bel.refl w6).alloc _))))).mono ?_; rintro e w8 ⟨rfl, hb8⟩; have hc8 := hb8.heap (heap_alloc_new w6 _); have q8 := hb8.heap (((Bel.refl w6).alloc _).heap q6); have HB8 := hid (HB6.out.trans (((Bel.refl w6).alloc _).trans hb8)); clear hb8))
                  go_ret2
                  exact ⟨.slice none 0 0, by rw [HQ2.out]; rfl, HBW.out.trans HB8.out, by rw [HQ2.out]; exact mls_nil w _⟩
                · have HQ2 := hid (show parseQ s.data.toList = ([], 100) by
                    have := HBD.out (by rw [HA3.out]; exact hr0)
                    rw [HA3.out, if_neg h91] at this
                    rw [HQ.out, this]; rfl)
                  have b2 : (r == 0) = false := by simpa using hr0
                  have b3 : (r == 91) = false := by simpa using h91
                  clear HNX HBD HA1 HA2 HA3 HMO hr HQ hr0 h91
                  go_wp2_with (first | (refine wpList_load_mid rfl 84 (.tmp 43) rfl g (k * 5) rfl (spC x) _ hrg Tryz.underlying84 rfl sp_size ?_) | (refine wpList_store_blk rfl 84 (.tmp 9) (.tmp 44) rfl wr.heap.size (spC x) rfl rfl sp_size (spC_one x) (spC ⟨[], [], 0, 0, []⟩) _ (heap_alloc_new wr _) rfl ?_; intro w5 hc5 ho5 hs5 hb5; have HB5 := hid (hb5 wr ((Bel.refl wr).alloc _) (Nat.le_refl _)); have p5 : w5.cell? ⟨wr.heap.size, 1, none⟩ = some (.string ⟨x.dom.toArray⟩) := (by simp [World.cell?, hc5, spC]); clear ho5 hs5 hb5) | (go_at_call 48; refine (HD.out _ (HW.out.next (HBW.out.trans HB5.out))).mono ?_; rintro e w6 ⟨rfl, hb6⟩; have q6 := hb6.heap hc5; have HB6 := hid (HB5.out.trans hb6); have p6 : w6.cell? ⟨wr.heap.size, 0, none⟩ = some (.string ⟨x.loc.toArray⟩) := (by simp [World.cell?, q6, spC]); clear hb6 hc5) | (go_at_call 49; refine (HRt.out _ (HW.out.next (HBW.out.trans (HB6.out.trans ((Bel.refl w6).alloc _))))).mono ?_; rintro e w8 ⟨rfl, hb8⟩; have hc8 := hb8.heap (heap_alloc_new w6 _); have q8 := hb8.heap (((Bel.refl w6).alloc _).heap q6); have HB8 := hid (HB6.out.trans (((Bel.refl w6).alloc _).trans hb8)); clear hb8))
                  go_ret2
                  exact ⟨.slice none 0 0, by rw [HQ2.out]; rfl, HBW.out.trans HB8.out, by rw [HQ2.out]; exact mls_nil w _⟩
            · have HA3 := hid (show A.2 = de from HA2.out.trans (if_neg h0))
              by_cases h91 : de = 91
              · have HQ2 := hid (show parseQ s.data.toList = ([], 101) by
                  have := HBD.out (by rw [HA3.out]; exact h0)
                  rw [HA3.out, if_pos h91] at this
                  rw [HQ.out, this]; rfl)
                subst h91
                clear HNX HBD HA1 HA2 HA3 HMO HQ h0 HRt
                go_wp2_with (first | (refine wpList_load_mid rfl 84 (.tmp 43) rfl g (k * 5) rfl (spC x) _ hrg Tryz.underlying84 rfl sp_size ?_) | (refine wpList_store_blk rfl 84 (.tmp 9) (.tmp 44) rfl wr.heap.size (spC x) rfl rfl sp_size (spC_one x) (spC ⟨[], [], 0, 0, []⟩) _ (heap_alloc_new wr _) rfl ?_; intro w5 hc5 ho5 hs5 hb5; have HB5 := hid (hb5 wr ((Bel.refl wr).alloc _) (Nat.le_refl _)); have p5 : w5.cell? ⟨wr.heap.size, 1, none⟩ = some (.string ⟨x.dom.toArray⟩) := (by simp [World.cell?, hc5, spC]); clear ho5 hs5 hb5) | (go_at_call 48; refine (HD.out _ (HW.out.next (HBW.out.trans HB5.out))).mono ?_; rintro e w6 ⟨rfl, hb6⟩; have q6 := hb6.heap hc5; have HB6 := hid (HB5.out.trans hb6); have p6 : w6.cell? ⟨wr.heap.size, 0, none⟩ = some (.string ⟨x.loc.toArray⟩) := (by simp [World.cell?, q6, spC]); clear hb6 hc5))
                go_ret2
                exact ⟨.slice none 0 0, by rw [HQ2.out]; rfl, HBW.out.trans (HB6.out.trans ((Bel.refl w6).alloc _)), by rw [HQ2.out]; exact mls_nil w _⟩
              · have HQ2 := hid (show parseQ s.data.toList = ([], 100) by
                  have := HBD.out (by rw [HA3.out]; exact h0)
                  rw [HA3.out, if_neg h91] at this
                  rw [HQ.out, this]; rfl)
                have b2 : (de == 0) = false := by simpa using h0
                have b3 : (de == 91) = false := by simpa using h91
                clear HNX HBD HA1 HA2 HA3 HMO HQ h0 h91 HRt
                go_wp2_with (first | (refine wpList_load_mid rfl 84 (.tmp 43) rfl g (k * 5) rfl (spC x) _ hrg Tryz.underlying84 rfl sp_size ?_) | (refine wpList_store_blk rfl 84 (.tmp 9) (.tmp 44) rfl wr.heap.size (spC x) rfl rfl sp_size (spC_one x) (spC ⟨[], [], 0, 0, []⟩) _ (heap_alloc_new wr _) rfl ?_; intro w5 hc5 ho5 hs5 hb5; have HB5 := hid (hb5 wr ((Bel.refl wr).alloc _) (Nat.le_refl _)); have p5 : w5.cell? ⟨wr.heap.size, 1, none⟩ = some (.string ⟨x.dom.toArray⟩) := (by simp [World.cell?, hc5, spC]); clear ho5 hs5 hb5) | (go_at_call 48; refine (HD.out _ (HW.out.next (HBW.out.trans HB5.out))).mono ?_; rintro e w6 ⟨rfl, hb6⟩; have q6 := hb6.heap hc5; have HB6 := hid (HB5.out.trans hb6); have p6 : w6.cell? ⟨wr.heap.size, 0, none⟩ = some (.string ⟨x.loc.toArray⟩) := (by simp [World.cell?, q6, spC]); clear hb6 hc5))
                go_ret2
                exact ⟨.slice none 0 0, by rw [HQ2.out]; rfl, HBW.out.trans (HB6.out.trans ((Bel.refl w6).alloc _)), by rw [HQ2.out]; exact mls_nil w _⟩
          · obtain rfl : k = L.length := by omega
            have HM := hid (H.out.mi.end_ (Nat.le_refl _))
            have HLN := hid H.out.mi.1
            have HR7 := hid H.out.row
            have HBW := hid (show Bel w wr from HB3.out.trans H.out.bel)
            by_cases h200 : 200 < L.length
            · have b4 : decide ((200 : Int) < (L.length : Int)) = true := decide_eq_true (by omega)
              have HQ2 := hid (show parseQ s.data.toList = ([], 102) by
                rw [HQ.out, HM.out, if_pos ⟨rfl, by show 200 < l.length; rw [HLN.out]; exact h200⟩])
              clear H HQ HM h200
              go_wp2_with fail
              go_ret2
              exact ⟨.slice none 0 0, by rw [HQ2.out]; rfl, HBW.out, by rw [HQ2.out]; exact mls_nil w _⟩
            · have b4 : decide ((200 : Int) < (L.length : Int)) = false := decide_eq_false (by omega)
              have HQ2 := hid (show parseQ s.data.toList = (l, 0) by
                rw [HQ.out, HM.out, if_neg (by rintro ⟨-, e⟩; rw [show ((l, (0 : Int)) : List Ml × Int).1 = l from rfl, HLN.out] at e; exact h200 e)])
              clear H HQ HM h200
              go_wp2_with fail
              go_ret2
              exact ⟨.slice x7 L.length c7, by rw [HQ2.out]; rfl, HBW.out, by
                rw [HQ2.out]
                exact own_base HR7.out HB3.out.size⟩
end Go.Proofs.YtpmmaickjolimaaGreatDoor.Ma

/- Walks: (*strings.Builder).copyCheck, WriteString of this program. -/
namespace Go.Proofs.YtpmmaickjolimaaGreatDoor.Ma
open Go.RowKit
open Ci (Bel Lay)

theorem b_info : ∃ j, Tryz.prog.info? 90 = some j ∧ j.size = 2 := by
  have h : (Tryz.prog.info? 90).map (·.size) = some 2 := by kernel_rfl
  obtain ⟨j, hj, e⟩ := Option.map_eq_some_iff.1 h
  exact ⟨j, hj, e⟩
set_option maxRecDepth 100000 in
theorem copyCheck_run (B b : Nat) (bs : List Value) (w : World) (h : Lib.IsBuilder 90 5 B b bs w) :
    Calls Tryz.prog 100 #[.pointer (some ⟨b, 0, none⟩)] w fun e w' => e = .returned (.tuple #[]) ∧ (Lib.BuilderAt 90 5 B b (.pointer (some ⟨b, 0, none⟩)) bs w' ∧ Below B w w') := by
  rcases h with h | h
  · have c0 := h.cell0
    have hsh := h.shape
    have f0 := h.frozen0
    obtain ⟨j, hj, hjs⟩ := b_info
    have hto := Lib.run_to_unsafe (P := Tryz.prog) w ⟨b, 0, none⟩ Tryz.underlying87 Tryz.underlying198 hj (by rw [hjs]; decide) hsh (Nat.zero_lt_succ 1)
    have hfrom := Lib.run_from_unsafe (P := Tryz.prog) w ⟨b, 0, none⟩ Tryz.underlying198 Tryz.underlying87 hj hsh (by kernel_rfl)
    have hne : (callFunc 146 #[.pointer (some ⟨b, 0, none⟩)]).run Tryz.prog w = .ok (Next.value (.pointer (some ⟨b, 0, none⟩))) w := by
      rw [run_callFunc_extern Tryz.func146 (by kernel_rfl) (by kernel_rfl) (by kernel_rfl) (e := Extern.AbiNoEscape.same) (by kernel_rfl)]
      rfl
    have HU := hid (h.used (.pointer (some ⟨b, 0, none⟩)))
    have HB := hid h.1
    clear h
    go_enter Tryz.func100, Tryz.ntmps100
    go_wp2
    go_end0
    exact ⟨rfl, HU.out, (Below.refl B w).setCell (p := ⟨b, 0, none⟩) HB.out _⟩
  · have c0 := h.cell0
    have HB := hid h
    clear h
    go_enter Tryz.func100, Tryz.ntmps100
    go_wp2
    obtain ⟨j, hj, -⟩ := b_info
    rw [Lib.run_neq_ptr_same w _ Tryz.underlying87 hj]
    go_wp2
    go_end0
    exact ⟨rfl, HB.out, Below.refl B _⟩
theorem byte_infos : (Tryz.prog.info? 5).map (fun i => (i.zero, i.size, i.bytes)) = some (some (.int .u8 0), 1, 1) := by kernel_rfl
set_option maxHeartbeats 2000000 in
set_option maxRecDepth 100000 in
theorem writeString_run (B b : Nat) (bs : List Value) (s : ByteArray) (w : World) (h : Lib.IsBuilder 90 5 B b bs w) (hlen : bs.length + s.size ≤ 140737488355328) (hBw : B ≤ w.heap.size) :
    Calls Tryz.prog 51 #[.pointer (some ⟨b, 0, none⟩), .string s] w fun e w' => e = .returned (.tuple #[.int .i64 s.size, .nilIface]) ∧ (Lib.IsBuilder 90 5 B b (bs ++ Lib.strCells s) w' ∧ Below B w w') := by
  obtain ⟨i0, hi, hz0, hz1, hz2⟩ := info_parts byte_infos
  have HC := hid (copyCheck_run B b bs w h)
  clear h
  go_enter Tryz.func51, Tryz.ntmps51
  go_wp2_with (go_at_call 100; refine HC.out.mono ?_)
  rintro e w1 ⟨rfl, h1, hb1⟩
  obtain ⟨hB, v, hbk, hown, hne⟩ := h1
  have c0 : w1.cell? ⟨b, 0, none⟩ = some (.pointer (some ⟨b, 0, none⟩)) := by rw [Lib.cell_of_heap hbk]; rfl
  have c1 : w1.cell? ⟨b, 1, none⟩ = some v := by rw [Lib.cell_of_heap hbk]; rfl
  go_wp2_with (at_builtin; refine Lib.wpList_append_own_string _ rfl _ _ 88 9 rfl B 5 i0 Tryz.underlying88 Tryz.underlying9 hi hz0 hz1 hz2 _ _ _ rfl hown s rfl ?c3 ?c4 ?c5 ?_)
  case c3 => unfold maxLen; omega
  case c4 => omega
  case c5 => have := hb1.size; omega
  intro v' w2 hown' hgrow _
  have hlt : b < w1.heap.size := (Array.getElem?_eq_some_iff.1 hbk).1
  have hb2 : w2.heap[b]? = some (.cells #[.pointer (some ⟨b, 0, none⟩), v] 90 (0, 0)) := by
    rw [hgrow.block b hlt (fun e => hne e.symm)]
    exact hbk
  have d1 : w2.cell? ⟨b, 1, none⟩ = some v := by rw [Lib.cell_of_heap hb2]; rfl
  have f1 : w2.frozen? ⟨b, 1, none⟩ = false := Lib.frozen_of_heap hb2 1
  have HG := hid (show Below B w w2 from hb1.grown hgrow (by have := hb1.size; omega) (fun k hk => (hown.lt k hk).1))
  obtain ⟨ao, n', cap, rfl⟩ : ∃ ao n' cap, v' = .slice ao n' cap := by
    rcases hown'.2 with ⟨hv, _⟩ | ⟨g, cap, cur, hv, _⟩
    · exact ⟨_, _, _, hv⟩
    · exact ⟨_, _, _, hv⟩
  clear hown hgrow hb1 hne hbk c0 c1
  go_wp2
  go_ret2
  exact ⟨rfl, .inr (Lib.BuilderAt.put (T := 90) (e := 5) hB hb2 (bs' := bs ++ Lib.strCells s) (by simpa [Lib.strCells_length] using hown') (by decide)), HG.out.setCell (p := ⟨b, 1, none⟩) hB _⟩
end Go.Proofs.YtpmmaickjolimaaGreatDoor.Ma

/- Walk: shown of mailaddr. -/
namespace Go.Proofs.YtpmmaickjolimaaGreatDoor.Ma
open Go.RowKit
open Ci (Bel Lay)

/-! shown -/
set_option maxHeartbeats 4000000 in
set_option maxRecDepth 100000 in
theorem mshown_run (n : Bool) (l d : ByteArray) (t : Bool) (w : World) (hw : Lay w) (hl : l.size ≤ 4194304) (hd : d.size ≤ 4194304) :
    Calls Tryz.prog 50 #[.agg #[.bool n, .string l, .string d, .bool t]] w fun e w' => e = .returned (.tuple #[.string ⟨(showQ (pOf n l d t)).1.toArray⟩, .int .i64 (showQ (pOf n l d t)).2]) ∧ Bel w w' := by
  have H0 := hid (And.intro ((Bel.refl w).alloc (.cells #[.bool n, .string l, .string d, .bool t] 39)) (heap_alloc_new w (.cells #[.bool n, .string l, .string d, .bool t] 39)))
  have HW := hid hw
  have HP0 := hid H0.out.2
  have HS := (show Hid (∀ W, Lay W → Calls Tryz.prog 99 #[.agg #[.bool n, .string l, .string d, .bool t]] W fun e w' => e = .returned (.tuple #[.string ⟨(if rightP (pOf n l d t) = 0 then shownP (pOf n l d t) else []).toArray⟩, .int .i64 (rightP (pOf n l d t))]) ∧ Bel W w') from fun W hW => pshow_run n l d t W hW hl hd)
  have hq : showQ (pOf n l d t) = if n || d.toList.isEmpty then ([], 1) else (if rightP (pOf n l d t) = 0 then shownP (pOf n l d t) else [], rightP (pOf n l d t)) := by
    rw [emp_iff]
    unfold showQ
    show (if (n || d.data.toList.isEmpty) = true then _ else _) = _
    by_cases h : (n || d.data.toList.isEmpty) = true
    · rw [if_pos h, if_pos h]
    · rw [if_neg h, if_neg h]
      by_cases h0 : rightP (pOf n l d t) = 0
      · rw [if_pos h0, if_pos h0, h0]
      · rw [if_neg h0, if_neg h0]
  generalize showQ (pOf n l d t) = q at hq ⊢
  generalize (if rightP (pOf n l d t) = 0 then shownP (pOf n l d t) else []) = sh at HS hq
  generalize rightP (pOf n l d t) = r at HS hq
  clear hw
  cases n with
  | true =>
    rw [Bool.true_or, if_pos rfl] at hq
    subst hq
    go_enter Tryz.func50, Tryz.ntmps50
    go_wp2_with fail
    go_ret2
    exact ⟨rfl, H0.out.1⟩
  | false =>
    cases he : d.toList.isEmpty with
    | true =>
      rw [he, Bool.false_or, if_pos rfl] at hq
      subst hq
      go_enter Tryz.func50, Tryz.ntmps50
      go_wp2_with fail
      go_ret2
      exact ⟨rfl, H0.out.1⟩
    | false =>
      rw [he, Bool.false_or, if_neg Bool.false_ne_true] at hq
      subst hq
      go_enter Tryz.func50, Tryz.ntmps50
      go_wp2_with (first | (refine wpList_load_mid rfl 39 (.tmp 1) rfl w.heap.size 0 rfl [.bool false, .string l, .string d, .bool t] _ (range_pt HP0.out) Tryz.underlying39 rfl pt_size ?_) | (go_at_call 99; refine (HS.out _ (HW.out.next H0.out.1)).mono ?_; rintro e w1 ⟨rfl, hb1⟩))
      go_ret2
      exact ⟨rfl, H0.out.1.trans hb1⟩
end Go.Proofs.YtpmmaickjolimaaGreatDoor.Ma

/- A slice of paths in memory; List. -/
namespace Go.Proofs.YtpmmaickjolimaaGreatDoor.Ma
open Go.RowKit
open Ci (Bel Lay own_bel row_shape addr_add own_base wpList_push)

def ptC (p : Pt) : List Value := [.bool p.null, .string ⟨p.loc.toArray⟩, .string ⟨p.dom.toArray⟩, .bool p.lit]
/-- A slice of paths. -/
structure Pts (W : World) (x : Option Addr) (l : List Pt) : Prop where
  at_ : l = [] ∨ ∃ b o, x = some ⟨b, o, none⟩ ∧ b < W.heap.size ∧ ∀ k (hk : k < l.length), W.rangeAt b (o + k * 4) (ptC l[k])
theorem Pts.next {W W' : World} {x : Option Addr} {l : List Pt} (h : Pts W x l) (hb : Bel W W') : Pts W' x l := by
  refine ⟨?_⟩
  rcases h.at_ with f | ⟨b, o, e, hs, f⟩
  · exact .inl f
  · exact .inr ⟨b, o, e, Nat.lt_of_lt_of_le hs hb.size, fun k hk j v hv => (hb.cell hs).trans (f k hk j v hv)⟩
theorem Pts.place {W : World} {x : Option Addr} {l : List Pt} (h : Pts W x l) {k : Nat} (hk : k < l.length) : ∃ b o, x = some ⟨b, o, none⟩ ∧ W.rangeAt b (o + k * 4) (ptC l[k]) := by
  rcases h.at_ with f | ⟨b, o, e, -, f⟩
  · rw [f] at hk; cases hk
  · exact ⟨b, o, e, f k hk⟩
def Small (l : List Pt) : Prop := ∀ p ∈ l, p.loc.length ≤ 4194304 ∧ p.dom.length ≤ 4194304
theorem ptC_one (p : Pt) : ((ptC p).toArray.all (·.oneCell')) = true := by simp [ptC, Value.oneCell']
theorem ptC_range {W : World} {b : Nat} {p : Pt} {T : TypeId} (h : W.heap[b]? = some (.cells (ptC p).toArray T (0, 0))) : W.rangeAt b 0 (ptC p) := Ci.range_of h fun j v hv => by rw [Nat.zero_add]; exact hv
theorem mshown_pt (p : Pt) (w : World) (hw : Lay w) (hl : p.loc.length ≤ 4194304) (hd : p.dom.length ≤ 4194304) :
    Calls Tryz.prog 50 #[.agg (ptC p).toArray] w fun e w' => e = .returned (.tuple #[.string ⟨(showQ p).1.toArray⟩, .int .i64 (showQ p).2]) ∧ Bel w w' :=
  mshown_run p.null ⟨p.loc.toArray⟩ ⟨p.dom.toArray⟩ p.lit w hw (by rw [Lib.size_eq]; exact hl) (by rw [Lib.size_eq]; exact hd)
/-- The texts in hand. -/
def Strs (a0 W : World) (v : Value) (l : List (List UInt8)) : Prop := W.ownsRow a0.heap.size 9 1 v l.length (l.map fun x => Value.string ⟨x.toArray⟩)
theorem str_infos : (Tryz.prog.info? 9).map (fun i => (i.zero, i.size, i.bytes)) = some (some (.string ⟨#[]⟩), 1, 16) := by kernel_rfl
theorem listF_drop (l : List Pt) (k : Nat) (hk : k < l.length) (out : List (List UInt8)) : listF out (l.drop k) = if (showQ l[k]).2 = 0 then listF (out ++ [(showQ l[k]).1]) (l.drop (k + 1)) else ([], (showQ l[k]).2) := by
  rw [List.drop_eq_getElem_cons hk, listF]
structure LiI (w wr : World) (x : Option Addr) (l : List Pt) (k : Nat) (v : Value) (out : List (List UInt8)) : Prop where
  bel : Bel w wr
  row : Strs w wr v out
  num : out.length = k
  eq : listQ l = listF out (l.drop k)
  len : ∀ s ∈ out, s.length ≤ 256
theorem show_len (p : Pt) : (showQ p).1.length ≤ 256 := by
  unfold showQ
  split
  · simp
  · split
    · rename_i h0
      show (shownP p).length ≤ _
      unfold rightP at h0
      split at h0
      · simp at h0
      · split at h0
        · rename_i hn
          unfold shownP
          rw [if_pos hn]; simp
        · split at h0
          · simp at h0
          · rename_i hc
            simp only [not_or] at hc
            omega
    · simp
theorem join_len : ∀ (l : List (List UInt8)), (∀ s ∈ l, s.length ≤ 256) → (Lib.join l [44, 32]).length ≤ 258 * l.length
  | [], _ => by simp [Lib.join]
  | [a], h => by
    rw [Lib.join_one]
    have := h a (List.mem_cons_self ..)
    simp; omega
  | a :: b :: l, h => by
    have ih := join_len (b :: l) fun s hs => h s (List.mem_cons_of_mem _ hs)
    have := h a (List.mem_cons_self ..)
    rw [Lib.join_cons] at ih ⊢
    simp only [Lib.joinTail, List.map_cons, List.flatten_cons, List.length_append, List.length_cons, List.length_nil] at ih ⊢
    omega
set_option maxHeartbeats 8000000 in
set_option maxRecDepth 100000 in
theorem mlist_run (x : Option Addr) (l : List Pt) (c : Nat) (w : World) (hw : Lay w) (hL : Pts w x l) (hS : Small l) (hn : l.length ≤ 9223372036854775807) :
    Calls Tryz.prog 20 #[.slice x l.length c] w fun e w' => e = .returned (.tuple #[.string ⟨(listQ l).1.toArray⟩, .int .i64 (listQ l).2]) ∧ Bel w w' := by
  have HW := hid hw
  have HL := hid hL
  have HS := hid hS
  clear hw hL hS
  by_cases h200 : 200 < l.length
  · have b1 : decide ((200 : Int) < (l.length : Int)) = true := decide_eq_true (by omega)
    have HQ := hid (show listQ l = ([], 102) by unfold listQ; rw [if_pos h200])
    rw [HQ.out]
    clear h200
    go_enter Tryz.func20, Tryz.ntmps20
    go_wp2_with fail
    go_ret2
    exact ⟨rfl, Bel.refl w⟩
  · have b1 : decide ((200 : Int) < (l.length : Int)) = false := decide_eq_false (by omega)
    have H0 := hid (show listQ l = listF [] l by unfold listQ; rw [if_neg h200])
    go_enter Tryz.func20, Tryz.ntmps20
    go_wp2_with fail
    go_loopg [4, 14] l.length (fun gg v4 v14 wr => ∃ (k : Nat) (x7 : Option Addr) (c7 : Nat) (out : List (List UInt8)), v4 = .slice x7 k c7 ∧ v14 = .int .i64 k ∧ k + gg = l.length ∧ Hid (LiI w wr x l k (.slice x7 k c7) out))
    case atStart => exact ⟨0, none, 0, [], rfl, rfl, by omega, hid ⟨Bel.refl w, ⟨rfl, .inl ⟨rfl, rfl⟩⟩, rfl, H0.out, fun s hs => by cases hs⟩⟩
    case round =>
      obtain ⟨k, x7, c7, out, rfl, rfl, hk, H⟩ := hrel
      have Hk := hid hk
      have hkn : k ≤ l.length := by omega
      clear hk
      by_cases hlt : k < l.length
      · obtain ⟨b, o, rfl, -⟩ := HL.out.place hlt
        have hrg : wr.rangeAt b (o + k * 4) (ptC l[k]) := by
          obtain ⟨b3, o3, e, f⟩ := (HL.out.next H.out.bel).place hlt
          cases e
          exact f
        have HSm := hid (HS.out _ (List.getElem_mem hlt))
        have HE := hid (show listQ l = if (showQ l[k]).2 = 0 then listF (out ++ [(showQ l[k]).1]) (l.drop (k + 1)) else ([], (showQ l[k]).2) by rw [H.out.eq, listF_drop l k hlt])
        generalize l[k] = p at hrg HSm HE
        have HM := (show Hid (∀ W, Lay W → Calls Tryz.prog 50 #[.agg (ptC p).toArray] W fun e w' => e = .returned (.tuple #[.string ⟨(showQ p).1.toArray⟩, .int .i64 (showQ p).2]) ∧ Bel W w') from fun W hW => mshown_pt p W hW HSm.out.1 HSm.out.2)
        have HSL := hid (show_len p)
        have HBW := hid H.out.bel
        have HOW := hid (show wr.ownsRow w.heap.size 9 1 (.slice x7 k c7) k (out.map fun x => Value.string ⟨x.toArray⟩) by
          have := H.out.row
          unfold Strs at this
          rwa [H.out.num] at this)
        have HNM := hid H.out.num
        have HLE := hid H.out.len
        generalize showQ p = q at HM HE HSL
        obtain ⟨ss, se⟩ := q
        simp only at HM HE HSL
        clear H
        by_cases h0 : se = 0
        · subst h0
          have HE2 := hid (show listQ l = listF (out ++ [ss]) (l.drop (k + 1)) from HE.out)
          clear HE
          go_wp2_with (first | (refine wpList_load_mid rfl 39 (.tmp 16) rfl b (o + k * 4) rfl (ptC p) _ hrg Tryz.underlying39 rfl pt_size ?_) | (refine wpList_store_blk rfl 39 (.tmp 6) (.tmp 17) rfl wr.heap.size (ptC p) rfl rfl pt_size (ptC_one p) [.bool false, .string ⟨#[]⟩, .string ⟨#[]⟩, .bool false] _ (heap_alloc_new wr _) rfl ?_; intro w5 hc5 ho5 hs5 hb5; have HB5 := hid (hb5 wr ((Bel.refl wr).alloc _) (Nat.le_refl _)); clear ho5 hs5 hb5) | (refine wpList_load_mid rfl 39 (.tmp 6) rfl wr.heap.size 0 rfl (ptC p) _ (ptC_range hc5) Tryz.underlying39 rfl pt_size ?_) | (go_at_call 50; refine (HM.out _ (HW.out.next (HBW.out.trans HB5.out))).mono ?_; rintro e w6 ⟨rfl, hb6⟩; have HB6 := hid (HB5.out.trans hb6); clear hb6) | (at_builtin; refine wpList_push (a0 := w) (W := w6) rfl (.tmp 26) (.tmp 28) 46 rfl 9 (.string ⟨#[]⟩) 1 16 Tryz.underlying46 str_infos rfl (by decide) (.slice x7 k c7) k _ rfl (own_bel HOW.out HB6.out) (HBW.out.trans HB6.out) _ rfl rfl (by intro u hu; simp at hu; rcases hu with rfl; rfl) (by unfold maxLen; omega) (by omega) ?_; intro x' p' w9 hown9 hb9))
          go_roundg (gk - 1)
          case measure => have := Hk.out; omega
          case rel => exact ⟨k + 1, x', p', out ++ [ss], rfl, by go_num, by have := Hk.out; omega, hid ⟨hb9, by
            unfold Strs
            rw [List.length_append, HNM.out, List.map_append]
            exact hown9, by rw [List.length_append, HNM.out]; rfl, HE2.out, fun s hs => by
            rcases List.mem_append.1 hs with hs | hs
            · exact HLE.out s hs
            · rw [List.mem_singleton.1 hs]; exact HSL.out⟩⟩
        · have HE2 := hid (show listQ l = ([], se) from HE.out.trans (if_neg h0))
          have b2 : (se == 0) = false := by simpa using h0
          clear HE h0
          go_wp2_with (first | (refine wpList_load_mid rfl 39 (.tmp 16) rfl b (o + k * 4) rfl (ptC p) _ hrg Tryz.underlying39 rfl pt_size ?_) | (refine wpList_store_blk rfl 39 (.tmp 6) (.tmp 17) rfl wr.heap.size (ptC p) rfl rfl pt_size (ptC_one p) [.bool false, .string ⟨#[]⟩, .string ⟨#[]⟩, .bool false] _ (heap_alloc_new wr _) rfl ?_; intro w5 hc5 ho5 hs5 hb5; have HB5 := hid (hb5 wr ((Bel.refl wr).alloc _) (Nat.le_refl _)); clear ho5 hs5 hb5) | (refine wpList_load_mid rfl 39 (.tmp 6) rfl wr.heap.size 0 rfl (ptC p) _ (ptC_range hc5) Tryz.underlying39 rfl pt_size ?_) | (go_at_call 50; refine (HM.out _ (HW.out.next (HBW.out.trans HB5.out))).mono ?_; rintro e w6 ⟨rfl, hb6⟩; have HB6 := hid (HB5.out.trans hb6); clear hb6))
          go_ret2
          exact ⟨by rw [HE2.out]; rfl, HBW.out.trans HB6.out⟩
      · obtain rfl : k = l.length := by omega
        have HE := hid (show listQ l = (Lib.join out [44, 32], 0) by
          rw [H.out.eq, List.drop_length]; rfl)
        have HBW := hid H.out.bel
        have hnm := H.out.num
        have hjl := join_len out H.out.len
        have HJ := (show Hid (Calls Tryz.prog 54 #[.slice x7 l.length c7, .string ⟨#[44, 32]⟩] wr fun e w' => e = .returned (.string ⟨(Lib.join out [44, 32]).toArray⟩) ∧ Bel wr w') from by
          have hr := H.out.row
          rcases hr.2 with ⟨e, h0⟩ | ⟨g, cap, cur, e, hg, hh, h1, h2, h3, h4⟩
          · obtain rfl : out = [] := List.eq_nil_of_length_eq_zero h0
            obtain ⟨rfl, e2, rfl⟩ := Value.slice.inj e
            have hz : l.length = 0 := by rw [← hnm]; rfl
            rw [hz]
            exact (Any.strings_Join_none Tryz.lays156 Tryz.Builder_Extra_156 none 0 ⟨#[44, 32]⟩ wr).mono fun e w' h => ⟨h.1, by rw [h.2]; exact Bel.refl wr⟩
          · obtain ⟨rfl, e2, rfl⟩ := Value.slice.inj e
            have := Tryz.strings_Join g 0 c7 (out.map fun x => ⟨x.toArray⟩) ⟨#[44, 32]⟩ wr (fun j y hj => by
              rw [Nat.zero_add, World.ownsRow.cellAt (show wr.ownsRow w.heap.size 9 1 (.slice (some ⟨g, 0, none⟩) out.length c7) out.length _ by have h9 := hr; unfold Strs at h9; rw [← hnm] at h9; exact h9) j (by have := (List.getElem?_eq_some_iff.1 hj).1; rw [List.length_map] at this; omega)]
              rw [List.getElem?_map] at hj ⊢
              obtain ⟨z, hz, rfl⟩ := Option.map_eq_some_iff.1 hj
              simp [hz]) (Array.getElem?_eq_some_iff.1 hh).1 (by rw [List.length_map]; omega) (by rw [List.length_map]; exact h1) (by
              rw [List.map_map]
              show (Lib.join (out.map fun x => x) [44, 32]).length ≤ _
              rw [List.map_id']
              omega)
            rw [List.length_map, List.map_map] at this
            rw [← hnm]
            have e3 : (out.map ((fun b : ByteArray => b.data.toList) ∘ fun x => (⟨x.toArray⟩ : ByteArray))) = out := by
              show out.map (fun x => x) = out
              rw [List.map_id']
            rw [e3] at this
            exact this)
        clear H hjl hnm
        go_wp2_with (first | (go_at_call 54; refine HJ.out.mono ?_; rintro e w9 ⟨rfl, hb9⟩))
        go_ret2
        exact ⟨by rw [HE.out]; rfl, HBW.out.trans hb9⟩
end Go.Proofs.YtpmmaickjolimaaGreatDoor.Ma
