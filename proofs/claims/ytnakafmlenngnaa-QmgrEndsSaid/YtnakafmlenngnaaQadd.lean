/- Add. -/
import Derived.Test.YtnakafmlenngnaaQa
namespace Go.Proofs.Ytnakafmlenngnaa.Qm
open Go.RowKit Go.Proofs.Ytnakafmlenngnaa.Wi

theorem anyp {α : Type} (l : List α) (q : α → Bool) (p : Nat → Bool) (hp : ∀ k (hk : k < l.length), p k = q l[k]) : (l.any q = true ↔ ∃ k, k < l.length ∧ p k = true) := by
  rw [List.any_eq_true]
  constructor
  · rintro ⟨r, hr, hq⟩
    obtain ⟨k, hk, rfl⟩ := List.getElem_of_mem hr
    exact ⟨k, hk, by rw [hp k hk]; exact hq⟩
  · rintro ⟨k, hk, h⟩
    exact ⟨l[k], List.getElem_mem hk, by rw [← hp k hk]; exact h⟩

theorem strs_any (x : Option Addr) (D : List ByteArray) (c : Nat) (w : World) (h : StrsAt w x D) (g : Nat) (eg : ∀ args w, (callFunc g args).run Try.prog w = .ok (.enter g args) w) (q : ByteArray → Bool)
    (hq : ∀ s W, Calls Try.prog g #[.string s] W fun e w' => e = .returned (.bool (q s)) ∧ W = w') :
    Calls Try.prog 47 #[.slice x D.length c, .func (.func g) #[] #[]] w fun e w' => e = .returned (.bool (D.any q)) ∧ w = w' := by
  have hp : ∀ k (hk : k < D.length), (fun k => q (D.getD k ByteArray.empty)) k = q D[k] := fun k hk => by simp [List.getD_eq_getElem?_getD, hk]
  refine (co47 g #[] eg x D.length c (fun k => .string (D.getD k ByteArray.empty)) (fun k => q (D.getD k ByteArray.empty)) (fun _ W => W = w) w h.1 rfl (fun k W hk hW => ?_) (fun k W hk hW => ?_)).mono ?_
  · obtain ⟨b, o, e, -, hc⟩ := h.2 k hk
    exact ⟨b, o, e, by rw [hW, hc]; simp [List.getD_eq_getElem?_getD, hk]⟩
  · refine (hq (D.getD k ByteArray.empty) W).mono ?_
    rintro e w' ⟨rfl, rfl⟩
    exact ⟨rfl, hW⟩
  · rintro e w' ⟨b, rfl, hb, m, hm⟩
    refine ⟨?_, hm.symm⟩
    have : b = D.any q := by
      rw [Bool.eq_iff_iff, hb]
      exact (anyp D q _ hp).symm
    rw [this]

set_option maxHeartbeats 4000000 in
set_option maxRecDepth 100000 in
theorem add_bad_run (m : Value) (id : ByteArray) (came now : Int) (x : Option Addr) (D : List ByteArray) (c : Nat) (w : World) (hx : StrsAt w x D) (hb : addOk id came D now = false) :
    Calls Try.prog 28 #[m, .string id, .int .i64 came, .slice x D.length c, .int .i64 now] w (QuietPost (.int .i64 1) w) := by
  have HT := (show Hid (∀ b, (isT came && isT now) = b → ∀ (W : World) (g : Nat), W.cell? ⟨g, 0, none⟩ = some (.int .i64 came) → W.cell? ⟨g, 1, none⟩ = some (.int .i64 now) → Calls Try.prog 44 #[.slice (some ⟨g, 0, none⟩) 2 2] W fun e w' => e = .returned (.bool b) ∧ W = w') from fun b h W g hg hg1 => istime_two W g came now b h hg hg1)
  have HL := (show Hid (∀ b, (D.any fun s => decide (300 < s.size)) = b → ∀ W, Ext (fun _ => False) w W → Calls Try.prog 47 #[.slice x D.length c, .func (.func 45) #[] #[]] W fun e w' => e = .returned (.bool b) ∧ W = w') from fun b h W hW => by
    rw [← h]
    exact strs_any x D c W (hx.ext hW fun _ _ _ f => f) 45 (enters_of Try.func45 (by kernel_rfl) rfl) _ add1_run)
  have HS := (show Hid (∀ b, (D.any fun s => decide (s.size ≠ 0)) = b → ∀ W, Ext (fun _ => False) w W → Calls Try.prog 47 #[.slice x D.length c, .func (.func 46) #[] #[]] W fun e w' => e = .returned (.bool b) ∧ W = w') from fun b h W hW => by
    rw [← h]
    exact strs_any x D c W (hx.ext hW fun _ _ _ f => f) 46 (enters_of Try.func46 (by kernel_rfl) rfl) _ add2_run)
  have hc : id.size < 1 ∨ (¬ id.size < 1 ∧ 32 < id.size) ∨ (¬ id.size < 1 ∧ ¬ 32 < id.size ∧ (isT came && isT now) = false) ∨ (¬ id.size < 1 ∧ ¬ 32 < id.size ∧ (isT came && isT now) = true ∧ D.length < 1) ∨ (¬ id.size < 1 ∧ ¬ 32 < id.size ∧ (isT came && isT now) = true ∧ ¬ D.length < 1 ∧ 200 < D.length) ∨
      (¬ id.size < 1 ∧ ¬ 32 < id.size ∧ (isT came && isT now) = true ∧ ¬ D.length < 1 ∧ ¬ 200 < D.length ∧ (D.any fun s => decide (300 < s.size)) = true) ∨ (¬ id.size < 1 ∧ ¬ 32 < id.size ∧ (isT came && isT now) = true ∧ ¬ D.length < 1 ∧ ¬ 200 < D.length ∧ (D.any fun s => decide (300 < s.size)) = false ∧ (D.any fun s => decide (s.size ≠ 0)) = false) := by
    by_cases h1 : id.size < 1
    · exact .inl h1
    by_cases h2 : 32 < id.size
    · exact .inr (.inl ⟨h1, h2⟩)
    cases h3 : (isT came && isT now) with
    | false => exact .inr (.inr (.inl ⟨h1, h2, rfl⟩))
    | true =>
      by_cases h4 : D.length < 1
      · exact .inr (.inr (.inr (.inl ⟨h1, h2, rfl, h4⟩)))
      by_cases h5 : 200 < D.length
      · exact .inr (.inr (.inr (.inr (.inl ⟨h1, h2, rfl, h4, h5⟩))))
      cases h6 : (D.any fun s => decide (300 < s.size)) with
      | true => exact .inr (.inr (.inr (.inr (.inr (.inl ⟨h1, h2, rfl, h4, h5, rfl⟩)))))
      | false =>
        cases h7 : (D.any fun s => decide (s.size ≠ 0)) with
        | false => exact .inr (.inr (.inr (.inr (.inr (.inr ⟨h1, h2, rfl, h4, h5, rfl, rfl⟩)))))
        | true =>
          rw [Bool.and_eq_true] at h3
          have : addOk id came D now = true := by
            simp only [addOk, h6, h7, h3.1, h3.2, Bool.and_eq_true, decide_eq_true_eq, Bool.not_false, and_true]
            omega
          rw [this] at hb
          cases hb
  have hn := hx.1
  clear hx hb
  rcases hc with h1 | ⟨h1, h2⟩ | ⟨h1, h2, h3⟩ | ⟨h1, h2, h3, h4⟩ | ⟨h1, h2, h3, h4, h5⟩ | ⟨h1, h2, h3, h4, h5, h6⟩ | ⟨h1, h2, h3, h4, h5, h6, h7⟩
  · go_enter Try.func28, Try.ntmps28
    go_wp2_with fail
    go_ret
    exact ⟨rfl, Ext.refl _ _⟩
  · go_enter Try.func28, Try.ntmps28
    go_wp2_with fail
    go_ret
    exact ⟨rfl, Ext.refl _ _⟩
  all_goals have HT := hid (HT.out _ h3)
  all_goals clear h3
  · go_enter Try.func28, Try.ntmps28
    go_wp2_with (first | (go_at_call 44; refine (HT.out _ _ ?_ ?_).mono ?_; (go_simp); (go_simp); rintro e w1 ⟨rfl, rfl⟩))
    go_ret
    exact ⟨rfl, (Ext.refl _ _).alloc _⟩
  · go_enter Try.func28, Try.ntmps28
    go_wp2_with (first | (go_at_call 44; refine (HT.out _ _ ?_ ?_).mono ?_; (go_simp); (go_simp); rintro e w1 ⟨rfl, rfl⟩))
    go_ret
    exact ⟨rfl, (Ext.refl _ _).alloc _⟩
  · go_enter Try.func28, Try.ntmps28
    go_wp2_with (first | (go_at_call 44; refine (HT.out _ _ ?_ ?_).mono ?_; (go_simp); (go_simp); rintro e w1 ⟨rfl, rfl⟩))
    go_ret
    exact ⟨rfl, (Ext.refl _ _).alloc _⟩
  · have HL := hid (HL.out _ h6 _ ((Ext.refl _ _).alloc (.cells #[.int .i64 came, .int .i64 now] 3)))
    clear h6
    go_enter Try.func28, Try.ntmps28
    go_wp2_with (first | (go_at_call 44; refine (HT.out _ _ ?_ ?_).mono ?_; (go_simp); (go_simp); rintro e w1 ⟨rfl, rfl⟩) | (go_at_call 47; refine HL.out.mono ?_; rintro e w1 ⟨rfl, rfl⟩))
    go_ret
    exact ⟨rfl, (Ext.refl _ _).alloc _⟩
  · have HL := hid (HL.out _ h6 _ ((Ext.refl _ _).alloc (.cells #[.int .i64 came, .int .i64 now] 3)))
    have HS := hid (HS.out _ h7 _ ((Ext.refl _ _).alloc (.cells #[.int .i64 came, .int .i64 now] 3)))
    clear h6 h7
    go_enter Try.func28, Try.ntmps28
    go_wp2_with (first | (go_at_call 44; refine (HT.out _ _ ?_ ?_).mono ?_; (go_simp); (go_simp); rintro e w1 ⟨rfl, rfl⟩) | (go_at_call 47; refine HL.out.mono ?_; rintro e w1 ⟨rfl, rfl⟩) | (go_at_call 47; refine HS.out.mono ?_; rintro e w1 ⟨rfl, rfl⟩))
    go_ret
    exact ⟨rfl, (Ext.refl _ _).alloc _⟩

theorem addOk_true {id : ByteArray} {came now : Int} {D : List ByteArray} (h : addOk id came D now = true) : ¬ id.size < 1 ∧ ¬ 32 < id.size ∧ (isT came && isT now) = true ∧ ¬ D.length < 1 ∧ ¬ 200 < D.length ∧ (D.any fun s => decide (300 < s.size)) = false ∧ (D.any fun s => decide (s.size ≠ 0)) = true := by
  simp only [addOk, Bool.and_eq_true, decide_eq_true_eq, Bool.not_eq_true'] at h
  obtain ⟨⟨⟨⟨⟨⟨⟨h1, h2⟩, h3⟩, h4⟩, h5⟩, h6⟩, h7⟩, h8⟩ := h
  exact ⟨by omega, by omega, by rw [h3, h4]; rfl, by omega, by omega, h7, h8⟩

theorem isT_iff {n : Int} (h : isT n = true) : 0 ≤ n ∧ n ≤ 1000000000 := by
  simpa [isT] using h

/-- The calls that come first in Add. -/
def AddPre (came now : Int) (x : Option Addr) (D : List ByteArray) (c : Nat) (w : World) : Prop :=
  (∀ (W : World) (g : Nat), W.cell? ⟨g, 0, none⟩ = some (.int .i64 came) → W.cell? ⟨g, 1, none⟩ = some (.int .i64 now) → Calls Try.prog 44 #[.slice (some ⟨g, 0, none⟩) 2 2] W fun e w' => e = .returned (.bool true) ∧ W = w') ∧
  (∀ W, Ext (fun _ => False) w W → Calls Try.prog 47 #[.slice x D.length c, .func (.func 45) #[] #[]] W fun e w' => e = .returned (.bool false) ∧ W = w') ∧
  (∀ W, Ext (fun _ => False) w W → Calls Try.prog 47 #[.slice x D.length c, .func (.func 46) #[] #[]] W fun e w' => e = .returned (.bool true) ∧ W = w')
theorem add_pre {id : ByteArray} {came now : Int} {x : Option Addr} {D : List ByteArray} (c : Nat) {w : World} (hx : StrsAt w x D) (h : addOk id came D now = true) : AddPre came now x D c w := by
  obtain ⟨-, -, h3, -, -, h6, h7⟩ := addOk_true h
  refine ⟨fun W g hg hg1 => istime_two W g came now true h3 hg hg1, fun W hW => ?_, fun W hW => ?_⟩
  · rw [← h6]
    exact strs_any x D c W (hx.ext hW fun _ _ _ f => f) 45 (enters_of Try.func45 (by kernel_rfl) rfl) _ add1_run
  · rw [← h7]
    exact strs_any x D c W (hx.ext hW fun _ _ _ f => f) 46 (enters_of Try.func46 (by kernel_rfl) rfl) _ add2_run

set_option maxHeartbeats 4000000 in
set_option maxRecDepth 100000 in
theorem add_there_run (mb : Nat) (L : Lq) (F : Nat → Prop) (id : ByteArray) (came now : Int) (x : Option Addr) (D : List ByteArray) (c : Nat) (w : World) (hM : Mg w mb L F) (hx : StrsAt w x D) (hb : addOk id came D now = true) (hf : mIdx L.q.ms id < L.ms.length) :
    Calls Try.prog 28 #[.pointer (some ⟨mb, 0, none⟩), .string id, .int .i64 came, .slice x D.length c, .int .i64 now] w (QuietPost (.int .i64 220) w) := by
  obtain ⟨HT, HL, HS⟩ := add_pre c hx hb
  obtain ⟨h1, h2, -, h4, h5, -, -⟩ := addOk_true hb
  have HT := hid HT
  have HL := hid (HL _ ((Ext.refl _ _).alloc (.cells #[.int .i64 came, .int .i64 now] 3)))
  have HS := hid (HS _ ((Ext.refl _ _).alloc (.cells #[.int .i64 came, .int .i64 now] 3)))
  have HF := hid (find_run mb L F id _ (hM.quiet ((Ext.refl _ _).alloc (.cells #[.int .i64 came, .int .i64 now] 3))))
  have e : foundV L (mIdx L.q.ms id) = .pointer (some ⟨L.ms[mIdx L.q.ms id].b, 0, none⟩) := by simp [foundV, hf]
  rw [e] at HF
  generalize L.ms[mIdx L.q.ms id].b = zb at HF
  have hn := hx.1
  clear hM hx hb hf e
  go_enter Try.func28, Try.ntmps28
  go_wp2_with (first | (go_at_call 44; refine (HT.out _ _ ?_ ?_).mono ?_; (go_simp); (go_simp); rintro e w1 ⟨rfl, rfl⟩) | (go_at_call 47; refine HL.out.mono ?_; rintro e w1 ⟨rfl, rfl⟩) | (go_at_call 47; refine HS.out.mono ?_; rintro e w1 ⟨rfl, rfl⟩) | (go_at_call 48; refine HF.out.mono ?_; rintro e w1 ⟨rfl, hx1⟩))
  go_ret
  exact ⟨rfl, ((Ext.refl _ _).alloc _).trans hx1⟩

set_option maxHeartbeats 4000000 in
set_option maxRecDepth 100000 in
theorem add_full_run (mb : Nat) (L : Lq) (F : Nat → Prop) (id : ByteArray) (came now : Int) (x : Option Addr) (D : List ByteArray) (c : Nat) (w : World) (hM : Mg w mb L F) (hml : L.ms.length ≤ 50000) (hx : StrsAt w x D) (hb : addOk id came D now = true) (hf : ¬ mIdx L.q.ms id < L.ms.length) (hfull : full L.q = true) :
    Calls Try.prog 28 #[.pointer (some ⟨mb, 0, none⟩), .string id, .int .i64 came, .slice x D.length c, .int .i64 now] w (QuietPost (.int .i64 221) w) := by
  obtain ⟨HT, HL, HS⟩ := add_pre c hx hb
  obtain ⟨h1, h2, -, h4, h5, -, -⟩ := addOk_true hb
  have HT := hid HT
  have HL := hid (HL _ ((Ext.refl _ _).alloc (.cells #[.int .i64 came, .int .i64 now] 3)))
  have HS := hid (HS _ ((Ext.refl _ _).alloc (.cells #[.int .i64 came, .int .i64 now] 3)))
  have HF := hid (find_run mb L F id _ (hM.quiet ((Ext.refl _ _).alloc (.cells #[.int .i64 came, .int .i64 now] 3))))
  have HU := (show Hid (∀ W, Ext (fun _ => False) (w.alloc (.cells #[.int .i64 came, .int .i64 now] 3)) W → Calls Try.prog 49 #[.pointer (some ⟨mb, 0, none⟩)] W (QuietPost (.bool true) W)) from fun W hW => by
    rw [← hfull]
    exact full_run mb L F W (hM.quiet (((Ext.refl _ _).alloc _).trans hW)) (by omega))
  have e : foundV L (mIdx L.q.ms id) = .pointer none := by unfold foundV; rw [List.getElem?_eq_none (by omega)]; rfl
  rw [e] at HF
  have hn := hx.1
  clear hM hx hb hf e hfull
  go_enter Try.func28, Try.ntmps28
  go_wp2_with (first | (go_at_call 44; refine (HT.out _ _ ?_ ?_).mono ?_; (go_simp); (go_simp); rintro e w1 ⟨rfl, rfl⟩) | (go_at_call 47; refine HL.out.mono ?_; rintro e w1 ⟨rfl, rfl⟩) | (go_at_call 47; refine HS.out.mono ?_; rintro e w1 ⟨rfl, rfl⟩) | (go_at_call 48; refine HF.out.mono ?_; rintro e w1 ⟨rfl, hx1⟩) | (go_at_call 49; refine (HU.out _ hx1).mono ?_; rintro e w2 ⟨rfl, hx2⟩))
  go_ret
  exact ⟨rfl, (((Ext.refl _ _).alloc _).trans hx1).trans hx2⟩
end Go.Proofs.Ytnakafmlenngnaa.Qm
