/- Left: the recipients of a message that are not settled. -/
import Derived.Test.YtnakafmlenngnaaQkq
import Derived.Test.YtnakafmlenngnaaQar
namespace Go.Proofs.Ytnakafmlenngnaa.Qm
open Go.RowKit Go.Proofs.Ytnakafmlenngnaa.Wi

theorem leftIn_snoc (k : Nat) (l : List Rc) (r : Rc) : leftIn k (l ++ [r]) = leftIn k l ++ (if r.st = 0 then [] else [k + l.length]) := by
  induction l generalizing k with
  | nil => simp only [List.nil_append, leftIn, List.length_nil, Nat.add_zero]
  | cons x l ih =>
    simp only [List.cons_append, leftIn]
    have := ih (k + 1)
    rw [show k + 1 + l.length = k + (x :: l).length by simp; omega] at this
    split <;> simp [this]
theorem leftIn_length (k : Nat) (l : List Rc) : (leftIn k l).length ≤ l.length := by
  rw [leftIn_z]
  have := lz_length k (zOf l)
  simpa [zOf] using this
/-- What the first k leave. -/
def lefK (rs : List Rc) (k : Nat) : List Nat := leftIn 0 (rs.take k)
theorem lefK_next (rs : List Rc) (k : Nat) (hk : k < rs.length) : lefK rs (k + 1) = lefK rs k ++ (if rs[k].st = 0 then [] else [k]) := by
  unfold lefK
  rw [List.take_succ_eq_append_getElem hk, leftIn_snoc]
  simp [Nat.min_eq_left (Nat.le_of_lt hk)]
theorem lefK_length (rs : List Rc) (k : Nat) : (lefK rs k).length ≤ rs.length := by
  unfold lefK
  refine Nat.le_trans (leftIn_length _ _) ?_
  simp
  omega

set_option maxHeartbeats 4000000 in
set_option maxRecDepth 100000 in
theorem left_run (mb : Nat) (L : Lq) (F : Nat → Prop) (id : ByteArray) (w : World) (hM : Mg w mb L F) (hrl : ∀ m ∈ L.q.ms, m.rs.length ≤ 200) :
    Calls Try.prog 39 #[.pointer (some ⟨mb, 0, none⟩), .string id] w (RowPost 3 1 (leftQ L.q id).length (intsC (leftQ L.q id)) w) := by
  have HF := hid (find_run mb L F id w hM)
  unfold leftQ
  by_cases hi : mIdx L.q.ms id < L.ms.length
  · have e1 : foundV L (mIdx L.q.ms id) = .pointer (some ⟨L.ms[mIdx L.q.ms id].b, 0, none⟩) := by unfold foundV; rw [List.getElem?_eq_getElem hi]; rfl
    have e2 : L.q.ms[mIdx L.q.ms id]? = some L.ms[mIdx L.q.ms id].m := by
      show (L.ms.map (·.m))[mIdx L.q.ms id]? = _
      rw [List.getElem?_map, List.getElem?_eq_getElem hi]; rfl
    rw [e1] at HF
    rw [e2]
    dsimp only
    have hrm := hrl _ (List.mem_of_getElem? e2)
    generalize mIdx L.q.ms id = a at hi HF e2 hrm ⊢
    have HM := (show Hid (∀ W, Ext (fun _ => False) w W → MailAt W L.ms[a]) from fun W hW => (hM.quiet hW).mails _ (List.getElem_mem hi))
    obtain ⟨xr, cr, hzv, xr1, xr2⟩ := row_shape (HM.out w (Ext.refl _ _)).row
    generalize L.ms[a] = z at HF HM hrm hzv xr1 ⊢
    clear e1 e2 hrl hM
    obtain ⟨i, j1, j2, j3, j4⟩ := info3
    have Hzv := hid hzv
    clear hzv
    go_enter Try.func39, Try.ntmps39
    go_wp2_with fail
    refine HF.out.mono ?_
    rintro e w1 ⟨rfl, hx1⟩
    obtain ⟨-, -, c2, -, -⟩ := (HM.out w1 hx1).cells
    rw [Hzv.out] at c2
    have hzb := (HM.out w1 hx1).blt
    have HX := hid hx1
    clear hx1 HF
    go_wp2_with fail
    go_loopg [19, 6] z.m.rs.length (fun gg ix vo wr => ∃ k : Nat, ix = .int .i64 k ∧ k + gg = z.m.rs.length ∧ wr.ownsRow w.heap.size 3 1 vo (lefK z.m.rs k).length (intsC (lefK z.m.rs k)) ∧ Ext (fun _ => False) w wr)
    case atStart => exact ⟨0, rfl, by omega, World.ownsRow_nil _ _ _ _, HX.out⟩
    case round =>
      obtain ⟨k, rfl, hk, hown, hx⟩ := hrel
      have Hk := hid hk
      have hkn : k ≤ z.m.rs.length := by omega
      have HO := hid hown
      have HX2 := hid hx
      have hll := lefK_length z.m.rs k
      obtain ⟨x2, p2, rfl, q1, q2⟩ := row_shape hown
      clear hk hown hx HX c2 hzb
      by_cases hlt : k < z.m.rs.length
      · obtain ⟨g, cap, f1, -, -, -, hg, d0, d1, -⟩ := (HM.out wr HX2.out).rc k hlt
        rw [Hzv.out] at f1
        injection f1 with f1 f2 f3
        subst f1
        clear f2 f3
        have hnx := lefK_next z.m.rs k hlt
        by_cases hs : z.m.rs[k].st = 0
        · rw [if_pos hs, List.append_nil] at hnx
          rw [hs] at d1
          have HG : Hid (World.ownsRow (wr.alloc (.cells #[.string z.m.rs[k].dest, .int .i64 (0 : Nat)] 95)) w.heap.size 3 1 (.slice x2 (lefK z.m.rs k).length p2) (lefK z.m.rs (k + 1)).length (intsC (lefK z.m.rs (k + 1))) ∧ Ext (fun _ => False) w (wr.alloc (.cells #[.string z.m.rs[k].dest, .int .i64 (0 : Nat)] 95))) := by
            show _ ∧ _
            rw [hnx]
            exact ⟨HO.out.alloc _, HX2.out.alloc _⟩
          clear hnx hs HO
          go_wp2_with fail
          go_roundg (gk - 1)
          case measure => have := Hk.out; omega
          case rel => exact ⟨k + 1, by go_num, by have := Hk.out; omega, HG.out⟩
        · rw [if_neg hs] at hnx
          have hne : ((z.m.rs[k].st : Int) != 0) = true := by simpa using hs
          have Hnx := hid hnx
          clear hnx hs
          go_wp2_with (first
            | (at_builtin; go_loud (refine wpList_append_own _ rfl (.tmp 27) (.tmp 29) 30 rfl w.heap.size 3 i (.int .i64 0) 1 8 Try.underlying30 j1 j2 j3 j4 rfl (by decide) (.slice x2 (lefK z.m.rs k).length p2) (lefK z.m.rs k).length (intsC (lefK z.m.rs k)) rfl ((HO.out.alloc _).alloc _) ⟨wr.heap.size + 1, 0, none⟩ 1 1 [.int .i64 k] rfl rfl ?c1 ?c2 ?c3 ?c4 ?c5 ?_)))
          case c1 => exact new1 _ _ (by simp)
          case c2 => intro u hu; simp at hu; subst hu; rfl
          case c3 => unfold maxLen; omega
          case c4 => omega
          case c5 => have := HX2.out.size; simp; omega
          intro v' w2 hown hg2 _
          have HG : Hid (w2.ownsRow w.heap.size 3 1 v' (lefK z.m.rs (k + 1)).length (intsC (lefK z.m.rs (k + 1))) ∧ Ext (fun _ => False) w w2) := by
            show _ ∧ _
            refine ⟨?_, ((HX2.out.alloc _).alloc _).grown hg2 fun g hg => .inl (row_base HO.out g hg)⟩
            rw [Hnx.out]
            simpa [intsC] using hown
          obtain ⟨x3, p3, rfl, q3, q4⟩ := row_shape hown
          clear hown hg2 Hnx HO HX2
          go_wp2_with fail
          go_roundg (gk - 1)
          case measure => have := Hk.out; omega
          case rel => exact ⟨k + 1, by go_num, by have := Hk.out; omega, HG.out⟩
      · obtain rfl : k = z.m.rs.length := by omega
        go_wp2_with fail
        go_ret
        refine ⟨_, rfl, ?_, HX2.out⟩
        have := HO.out
        unfold lefK at this
        rw [List.take_of_length_le (Nat.le_refl _)] at this
        unfold lefK
        rw [List.take_of_length_le (Nat.le_refl _)]
        exact this
  · have e1 : foundV L (mIdx L.q.ms id) = .pointer none := by unfold foundV; rw [List.getElem?_eq_none (by omega)]; rfl
    have e2 : L.q.ms[mIdx L.q.ms id]? = none := by
      show (L.ms.map (·.m))[mIdx L.q.ms id]? = _
      rw [List.getElem?_map, List.getElem?_eq_none (by omega)]; rfl
    rw [e1] at HF
    rw [e2]
    dsimp only
    clear hM hrl e1 e2 hi
    go_enter Try.func39, Try.ntmps39
    go_wp2_with fail
    refine HF.out.mono ?_
    rintro e w1 ⟨rfl, hx1⟩
    have HX := hid hx1
    clear hx1 HF
    go_wp2_with fail
    go_ret
    exact ⟨_, rfl, World.ownsRow_nil _ _ _ _, HX.out⟩
end Go.Proofs.Ytnakafmlenngnaa.Qm
