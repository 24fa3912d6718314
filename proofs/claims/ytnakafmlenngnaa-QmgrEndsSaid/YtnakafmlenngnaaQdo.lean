/- Done: where it refuses. -/
import Derived.Test.YtnakafmlenngnaaQoff
namespace Go.Proofs.Ytnakafmlenngnaa.Qm
open Go.RowKit Go.Proofs.Ytnakafmlenngnaa.Wi

def oddR (n : Int) : Bool := decide (n < 1) || decide (3 < n)

theorem done1_run (a : Int) (w : World) : Calls Try.prog 57 #[.int .i64 a] w fun e w' => e = .returned (.bool (oddR a)) ∧ w = w' := by
  unfold oddR
  by_cases h : a < 1
  · go_enter Try.func57, Try.ntmps57
    go_wp2_with fail
    go_ret
    exact ⟨by simp [h], rfl⟩
  · by_cases h2 : 3 < a
    · go_enter Try.func57, Try.ntmps57
      go_wp2_with fail
      go_ret
      exact ⟨by simp, rfl⟩
    · go_enter Try.func57, Try.ntmps57
      go_wp2_with fail
      go_ret
      exact ⟨by simp [h, h2], rfl⟩

/-- The results. -/
def ResL (w : World) (x : Option Addr) (l : List Int) : Prop := IntsAt w x l.length (fun k => l.getD k 0)

theorem odd_any (x : Option Addr) (l : List Int) (c : Nat) (w : World) (h : ResL w x l) :
    Calls Try.prog 58 #[.slice x l.length c, .func (.func 57) #[] #[]] w fun e w' => e = .returned (.bool (l.any oddR)) ∧ w = w' := by
  have hp : ∀ k (hk : k < l.length), (fun k => oddR (l.getD k 0)) k = oddR l[k] := fun k hk => by simp [List.getD_eq_getElem?_getD, hk]
  refine (co58 57 #[] (enters_of Try.func57 (by kernel_rfl) rfl) x l.length c (fun k => .int .i64 (l.getD k 0)) (fun k => oddR (l.getD k 0)) (fun _ W => W = w) w h.1 rfl (fun k W hk hW => ?_) (fun k W hk hW => ?_)).mono ?_
  · obtain ⟨b, o, e, -, hc⟩ := h.2 k hk
    exact ⟨b, o, e, by rw [hW]; exact hc⟩
  · refine (done1_run (l.getD k 0) W).mono ?_
    rintro e w' ⟨rfl, rfl⟩
    exact ⟨rfl, hW⟩
  · rintro e w' ⟨b, rfl, hb, m, hm⟩
    refine ⟨?_, hm.symm⟩
    have : b = l.any oddR := by
      rw [Bool.eq_iff_iff, hb]
      exact (anyp l oddR _ hp).symm
    rw [this]

theorem doneOk_eq (j : Jb) (res : List Int) (now : Int) : doneOk j res now = (isT now && decide (res.length = j.rs.length) && !(res.any oddR)) := rfl

set_option maxHeartbeats 4000000 in
set_option maxRecDepth 100000 in
theorem done_bad_run (m : Value) (j : Jb) (y : Option Addr) (c : Nat) (rx : Option Addr) (rc : Nat) (res : List Int) (g : Bool) (now : Int) (w : World) (hr : ResL w rx res) (hb : doneOk j res now = false) :
    Calls Try.prog 30 #[m, .agg #[.string j.id, .string j.dest, .slice y j.rs.length c], .slice rx res.length rc, .bool g, .int .i64 now] w (QuietPost (.int .i64 1) w) := by
  rw [doneOk_eq] at hb
  have HT := (show Hid (∀ b, isT now = b → ∀ (W : World) (g : Nat), W.cell? ⟨g, 0, none⟩ = some (.int .i64 now) → Calls Try.prog 44 #[.slice (some ⟨g, 0, none⟩) 1 1] W fun e w' => e = .returned (.bool b) ∧ W = w') from fun b h W g hg => istime_one W g now b h hg)
  have HO := (show Hid (∀ b, res.any oddR = b → ∀ W, Ext (fun _ => False) w W → Calls Try.prog 58 #[.slice rx res.length rc, .func (.func 57) #[] #[]] W fun e w' => e = .returned (.bool b) ∧ W = w') from fun b h W hW => by
    rw [← h]
    exact odd_any rx res rc W (hr.quiet hW))
  have hxa : Ext (fun _ => False) w ((w.alloc (.cells #[.string j.id, .string j.dest, .slice y j.rs.length c] 49)).alloc (.cells #[.int .i64 now] 3)) := ((Ext.refl _ _).alloc _).alloc _
  cases h1 : isT now with
  | false =>
    have HT := hid (HT.out _ h1)
    clear h1 hb hr HO
    go_enter Try.func30, Try.ntmps30
    go_wp2_with (first | (go_at_call 44; refine (HT.out _ _ ?_).mono ?_; (go_simp); rintro e w1 ⟨rfl, rfl⟩))
    go_ret
    exact ⟨rfl, hxa⟩
  | true =>
    have HT := hid (HT.out _ h1)
    rw [h1] at hb
    by_cases h2 : res.length = j.rs.length
    · have h3 : res.any oddR = true := by simpa [h2] using hb
      have HO := hid (HO.out _ h3 _ hxa)
      rw [h2] at HO ⊢
      clear h1 hb hr h3 h2
      go_enter Try.func30, Try.ntmps30
      go_wp2_with (first | (go_at_call 44; refine (HT.out _ _ ?_).mono ?_; (go_simp); rintro e w1 ⟨rfl, rfl⟩) | (go_at_call 58; refine HO.out.mono ?_; rintro e w1 ⟨rfl, rfl⟩))
      go_ret
      exact ⟨rfl, hxa⟩
    · have hl : ((res.length : Int) != (j.rs.length : Int)) = true := by simp; omega
      clear h1 hb hr HO h2
      go_enter Try.func30, Try.ntmps30
      go_wp2_with (first | (go_at_call 44; refine (HT.out _ _ ?_).mono ?_; (go_simp); rintro e w1 ⟨rfl, rfl⟩))
      go_ret
      exact ⟨rfl, hxa⟩
end Go.Proofs.Ytnakafmlenngnaa.Qm
