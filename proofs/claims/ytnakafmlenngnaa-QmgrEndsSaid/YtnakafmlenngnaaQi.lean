/- slices.IndexFunc, slices.ContainsFunc: of whatever closure, with a relation of the caller's. -/
import Derived.Test.YtnakafmlenngnaaQb
import Derived.Shelf.Abstract
namespace Go.Proofs.Ytnakafmlenngnaa.Qm
open Go.RowKit Go.Proofs.Ytnakafmlenngnaa.Wi

/-- Behind IndexFunc: the first place at which the closure says true, or -1; the relation stands behind as many calls as there were. -/
def IxPost (p : Nat → Bool) (n : Nat) (I : Nat → World → Prop) (e : Ending) (w' : World) : Prop :=
  ∃ r : Int, e = .returned (.int .i64 r) ∧ ((∃ k : Nat, k < n ∧ r = k ∧ p k = true ∧ (∀ j, j < k → p j = false) ∧ I (k + 1) w') ∨ (r = -1 ∧ (∀ j, j < n → p j = false) ∧ I n w'))

/-- Behind ContainsFunc. -/
def CoPost (p : Nat → Bool) (n : Nat) (I : Nat → World → Prop) (e : Ending) (w' : World) : Prop :=
  ∃ b : Bool, e = .returned (.bool b) ∧ (b = true ↔ ∃ k, k < n ∧ p k = true) ∧ ∃ m, I m w'

set_option maxHeartbeats 1000000 in
theorem ix53 (g : Nat) (lb : Array Value) (eg : ∀ args w, (callFunc g args).run Try.prog w = .ok (.enter g args) w) (x : Option Addr) (n c : Nat) (pv : Nat → Value) (p : Nat → Bool) (I : Nat → World → Prop) (w : World) (hn : n ≤ 9223372036854775807) (h0 : I 0 w)
    (hc : ∀ k W, k < n → I k W → ∃ b o, x = some ⟨b, o, none⟩ ∧ W.cell? ⟨b, o + k, none⟩ = some (pv k))
    (hp : ∀ k W, k < n → I k W → Calls Try.prog g (#[pv k] ++ lb) W fun e W' => e = .returned (.bool (p k)) ∧ I (k + 1) W') :
    Calls Try.prog 53 #[.slice x n c, .func (.func g) #[] lb] w (IxPost p n I) := by
  have HP := (show Hid (∀ k W, k < n → I k W → Calls Try.prog g (#[pv k] ++ lb) W fun e W' => e = .returned (.bool (p k)) ∧ I (k + 1) W') from hp)
  have HC := (show Hid (∀ k W, k < n → I k W → ∃ b o, x = some ⟨b, o, none⟩ ∧ W.cell? ⟨b, o + k, none⟩ = some (pv k)) from hc)
  clear hp hc
  go_enter Try.func53, Try.ntmps53
  go_wp2_with fail
  go_loopg [8] n (fun gg i wr => ∃ k : Nat, i = .int .i64 k ∧ k + gg = n ∧ Hid (∀ j, j < k → p j = false) ∧ Hid (I k wr))
  case atStart => exact ⟨0, rfl, by omega, fun j hj => absurd hj (Nat.not_lt_zero _), h0⟩
  case round =>
    obtain ⟨k, rfl, hk, hno, hI⟩ := hrel
    have Hk := (show Hid (k + gk = n) from hk)
    have hkn : k ≤ n := by omega
    clear hk h0
    by_cases hlt : k < n
    · obtain ⟨b, o, rfl, c0⟩ := HC.out k wr hlt hI.out
      have HK := (show Hid (Calls Try.prog g (#[pv k] ++ lb) wr fun e W' => e = .returned (.bool (p k)) ∧ I (k + 1) W') from HP.out k wr hlt hI.out)
      clear HC HP
      cases hq : p k with
      | true =>
        rw [hq] at HK
        have Hq := (show Hid (p k = true) from hq)
        clear hq
        go_wp2_with (go_at_fn g; refine HK.out.mono ?_; rintro e w' ⟨rfl, hI2⟩)
        go_ret
        exact ⟨k, rfl, .inl ⟨k, hlt, rfl, Hq.out, hno.out, hI2⟩⟩
      | false =>
        rw [hq] at HK
        have Hq := (show Hid (p k = false) from hq)
        clear hq
        go_wp2_with (go_at_fn g; refine HK.out.mono ?_; rintro e w' ⟨rfl, hI2⟩)
        go_roundg (gk - 1)
        case measure => have := Hk.out; omega
        case rel => exact ⟨k + 1, by go_num, by have := Hk.out; omega, fun j hj => by
                      by_cases f : j = k
                      · subst f; exact Hq.out
                      · exact hno.out j (by omega), hI2⟩
    · obtain rfl : k = n := by omega
      clear HC HP
      go_wp2_with fail
      go_ret
      exact ⟨-1, rfl, .inr ⟨rfl, hno.out, hI.out⟩⟩

set_option maxHeartbeats 1000000 in
theorem ix72 (g : Nat) (lb : Array Value) (eg : ∀ args w, (callFunc g args).run Try.prog w = .ok (.enter g args) w) (x : Option Addr) (n c : Nat) (pv : Nat → Value) (p : Nat → Bool) (I : Nat → World → Prop) (w : World) (hn : n ≤ 9223372036854775807) (h0 : I 0 w)
    (hc : ∀ k W, k < n → I k W → ∃ b o, x = some ⟨b, o, none⟩ ∧ W.cell? ⟨b, o + k, none⟩ = some (pv k))
    (hp : ∀ k W, k < n → I k W → Calls Try.prog g (#[pv k] ++ lb) W fun e W' => e = .returned (.bool (p k)) ∧ I (k + 1) W') :
    Calls Try.prog 72 #[.slice x n c, .func (.func g) #[] lb] w (IxPost p n I) := by
  have HP := (show Hid (∀ k W, k < n → I k W → Calls Try.prog g (#[pv k] ++ lb) W fun e W' => e = .returned (.bool (p k)) ∧ I (k + 1) W') from hp)
  have HC := (show Hid (∀ k W, k < n → I k W → ∃ b o, x = some ⟨b, o, none⟩ ∧ W.cell? ⟨b, o + k, none⟩ = some (pv k)) from hc)
  clear hp hc
  go_enter Try.func72, Try.ntmps72
  go_wp2_with fail
  go_loopg [8] n (fun gg i wr => ∃ k : Nat, i = .int .i64 k ∧ k + gg = n ∧ Hid (∀ j, j < k → p j = false) ∧ Hid (I k wr))
  case atStart => exact ⟨0, rfl, by omega, fun j hj => absurd hj (Nat.not_lt_zero _), h0⟩
  case round =>
    obtain ⟨k, rfl, hk, hno, hI⟩ := hrel
    have Hk := (show Hid (k + gk = n) from hk)
    have hkn : k ≤ n := by omega
    clear hk h0
    by_cases hlt : k < n
    · obtain ⟨b, o, rfl, c0⟩ := HC.out k wr hlt hI.out
      have HK := (show Hid (Calls Try.prog g (#[pv k] ++ lb) wr fun e W' => e = .returned (.bool (p k)) ∧ I (k + 1) W') from HP.out k wr hlt hI.out)
      clear HC HP
      cases hq : p k with
      | true =>
        rw [hq] at HK
        have Hq := (show Hid (p k = true) from hq)
        clear hq
        go_wp2_with (go_at_fn g; refine HK.out.mono ?_; rintro e w' ⟨rfl, hI2⟩)
        go_ret
        exact ⟨k, rfl, .inl ⟨k, hlt, rfl, Hq.out, hno.out, hI2⟩⟩
      | false =>
        rw [hq] at HK
        have Hq := (show Hid (p k = false) from hq)
        clear hq
        go_wp2_with (go_at_fn g; refine HK.out.mono ?_; rintro e w' ⟨rfl, hI2⟩)
        go_roundg (gk - 1)
        case measure => have := Hk.out; omega
        case rel => exact ⟨k + 1, by go_num, by have := Hk.out; omega, fun j hj => by
                      by_cases f : j = k
                      · subst f; exact Hq.out
                      · exact hno.out j (by omega), hI2⟩
    · obtain rfl : k = n := by omega
      clear HC HP
      go_wp2_with fail
      go_ret
      exact ⟨-1, rfl, .inr ⟨rfl, hno.out, hI.out⟩⟩

theorem co47 (g : Nat) (lb : Array Value) (eg : ∀ args w, (callFunc g args).run Try.prog w = .ok (.enter g args) w) (x : Option Addr) (n c : Nat) (pv : Nat → Value) (p : Nat → Bool) (I : Nat → World → Prop) (w : World) (hn : n ≤ 9223372036854775807) (h0 : I 0 w)
    (hc : ∀ k W, k < n → I k W → ∃ b o, x = some ⟨b, o, none⟩ ∧ W.cell? ⟨b, o + k, none⟩ = some (pv k))
    (hp : ∀ k W, k < n → I k W → Calls Try.prog g (#[pv k] ++ lb) W fun e W' => e = .returned (.bool (p k)) ∧ I (k + 1) W') :
    Calls Try.prog 47 #[.slice x n c, .func (.func g) #[] lb] w (CoPost p n I) := by
  have HX := (show Hid (Calls Try.prog 72 #[.slice x n c, .func (.func g) #[] lb] w (IxPost p n I)) from ix72 g lb eg x n c pv p I w hn h0 hc hp)
  clear hc hp h0
  go_enter Try.func47, Try.ntmps47
  go_wp2_with (go_at_call 72; refine HX.out.mono ?_; rintro e w' ⟨r, rfl, hr⟩)
  go_ret
  rcases hr with ⟨k, h1, rfl, h2, h3, h4⟩ | ⟨rfl, h2, h4⟩
  · exact ⟨true, by simp, ⟨fun _ => ⟨k, h1, h2⟩, fun _ => rfl⟩, _, h4⟩
  · exact ⟨false, by simp, ⟨fun f => (nomatch f), fun ⟨k, h1, h5⟩ => by rw [h2 k h1] at h5; cases h5⟩, _, h4⟩

set_option maxHeartbeats 1000000 in
theorem ix75 (g : Nat) (lb : Array Value) (eg : ∀ args w, (callFunc g args).run Try.prog w = .ok (.enter g args) w) (x : Option Addr) (n c : Nat) (pv pu : Nat → Value) (p : Nat → Bool) (I : Nat → World → Prop) (w : World) (hn : n ≤ 9223372036854775807) (h0 : I 0 w)
    (hc : ∀ k W, k < n → I k W → ∃ b o, x = some ⟨b, o, none⟩ ∧ W.cell? ⟨b, o + k * 2, none⟩ = some (pv k) ∧ W.cell? ⟨b, o + k * 2 + 1, none⟩ = some (pu k))
    (hp : ∀ k W, k < n → I k W → Calls Try.prog g (#[.agg #[pv k, pu k]] ++ lb) W fun e W' => e = .returned (.bool (p k)) ∧ I (k + 1) W') :
    Calls Try.prog 75 #[.slice x n c, .func (.func g) #[] lb] w (IxPost p n I) := by
  have HP := (show Hid (∀ k W, k < n → I k W → Calls Try.prog g (#[.agg #[pv k, pu k]] ++ lb) W fun e W' => e = .returned (.bool (p k)) ∧ I (k + 1) W') from hp)
  have HC := (show Hid (∀ k W, k < n → I k W → ∃ b o, x = some ⟨b, o, none⟩ ∧ W.cell? ⟨b, o + k * 2, none⟩ = some (pv k) ∧ W.cell? ⟨b, o + k * 2 + 1, none⟩ = some (pu k)) from hc)
  clear hp hc
  go_enter Try.func75, Try.ntmps75
  go_wp2_with fail
  go_loopg [8] n (fun gg i wr => ∃ k : Nat, i = .int .i64 k ∧ k + gg = n ∧ Hid (∀ j, j < k → p j = false) ∧ Hid (I k wr))
  case atStart => exact ⟨0, rfl, by omega, fun j hj => absurd hj (Nat.not_lt_zero _), h0⟩
  case round =>
    obtain ⟨k, rfl, hk, hno, hI⟩ := hrel
    have Hk := (show Hid (k + gk = n) from hk)
    have hkn : k ≤ n := by omega
    clear hk h0
    by_cases hlt : k < n
    · obtain ⟨b, o, rfl, c0, c1⟩ := HC.out k wr hlt hI.out
      have HK := (show Hid (Calls Try.prog g (#[.agg #[pv k, pu k]] ++ lb) wr fun e W' => e = .returned (.bool (p k)) ∧ I (k + 1) W') from HP.out k wr hlt hI.out)
      clear HC HP
      cases hq : p k with
      | true =>
        rw [hq] at HK
        have Hq := (show Hid (p k = true) from hq)
        clear hq
        go_wp2_with (go_at_fn g; refine HK.out.mono ?_; rintro e w' ⟨rfl, hI2⟩)
        go_ret
        exact ⟨k, rfl, .inl ⟨k, hlt, rfl, Hq.out, hno.out, hI2⟩⟩
      | false =>
        rw [hq] at HK
        have Hq := (show Hid (p k = false) from hq)
        clear hq
        go_wp2_with (go_at_fn g; refine HK.out.mono ?_; rintro e w' ⟨rfl, hI2⟩)
        go_roundg (gk - 1)
        case measure => have := Hk.out; omega
        case rel => exact ⟨k + 1, by go_num, by have := Hk.out; omega, fun j hj => by
                      by_cases f : j = k
                      · subst f; exact Hq.out
                      · exact hno.out j (by omega), hI2⟩
    · obtain rfl : k = n := by omega
      clear HC HP
      go_wp2_with fail
      go_ret
      exact ⟨-1, rfl, .inr ⟨rfl, hno.out, hI.out⟩⟩

theorem co55 (g : Nat) (lb : Array Value) (eg : ∀ args w, (callFunc g args).run Try.prog w = .ok (.enter g args) w) (x : Option Addr) (n c : Nat) (pv pu : Nat → Value) (p : Nat → Bool) (I : Nat → World → Prop) (w : World) (hn : n ≤ 9223372036854775807) (h0 : I 0 w)
    (hc : ∀ k W, k < n → I k W → ∃ b o, x = some ⟨b, o, none⟩ ∧ W.cell? ⟨b, o + k * 2, none⟩ = some (pv k) ∧ W.cell? ⟨b, o + k * 2 + 1, none⟩ = some (pu k))
    (hp : ∀ k W, k < n → I k W → Calls Try.prog g (#[.agg #[pv k, pu k]] ++ lb) W fun e W' => e = .returned (.bool (p k)) ∧ I (k + 1) W') :
    Calls Try.prog 55 #[.slice x n c, .func (.func g) #[] lb] w (CoPost p n I) := by
  have HX := (show Hid (Calls Try.prog 75 #[.slice x n c, .func (.func g) #[] lb] w (IxPost p n I)) from ix75 g lb eg x n c pv pu p I w hn h0 hc hp)
  clear hc hp h0
  go_enter Try.func55, Try.ntmps55
  go_wp2_with (go_at_call 75; refine HX.out.mono ?_; rintro e w' ⟨r, rfl, hr⟩)
  go_ret
  rcases hr with ⟨k, h1, rfl, h2, h3, h4⟩ | ⟨rfl, h2, h4⟩
  · exact ⟨true, by simp, ⟨fun _ => ⟨k, h1, h2⟩, fun _ => rfl⟩, _, h4⟩
  · exact ⟨false, by simp, ⟨fun f => (nomatch f), fun ⟨k, h1, h5⟩ => by rw [h2 k h1] at h5; cases h5⟩, _, h4⟩

set_option maxHeartbeats 1000000 in
theorem ix76 (g : Nat) (lb : Array Value) (eg : ∀ args w, (callFunc g args).run Try.prog w = .ok (.enter g args) w) (x : Option Addr) (n c : Nat) (pv : Nat → Value) (p : Nat → Bool) (I : Nat → World → Prop) (w : World) (hn : n ≤ 9223372036854775807) (h0 : I 0 w)
    (hc : ∀ k W, k < n → I k W → ∃ b o, x = some ⟨b, o, none⟩ ∧ W.cell? ⟨b, o + k, none⟩ = some (pv k))
    (hp : ∀ k W, k < n → I k W → Calls Try.prog g (#[pv k] ++ lb) W fun e W' => e = .returned (.bool (p k)) ∧ I (k + 1) W') :
    Calls Try.prog 76 #[.slice x n c, .func (.func g) #[] lb] w (IxPost p n I) := by
  have HP := (show Hid (∀ k W, k < n → I k W → Calls Try.prog g (#[pv k] ++ lb) W fun e W' => e = .returned (.bool (p k)) ∧ I (k + 1) W') from hp)
  have HC := (show Hid (∀ k W, k < n → I k W → ∃ b o, x = some ⟨b, o, none⟩ ∧ W.cell? ⟨b, o + k, none⟩ = some (pv k)) from hc)
  clear hp hc
  go_enter Try.func76, Try.ntmps76
  go_wp2_with fail
  go_loopg [8] n (fun gg i wr => ∃ k : Nat, i = .int .i64 k ∧ k + gg = n ∧ Hid (∀ j, j < k → p j = false) ∧ Hid (I k wr))
  case atStart => exact ⟨0, rfl, by omega, fun j hj => absurd hj (Nat.not_lt_zero _), h0⟩
  case round =>
    obtain ⟨k, rfl, hk, hno, hI⟩ := hrel
    have Hk := (show Hid (k + gk = n) from hk)
    have hkn : k ≤ n := by omega
    clear hk h0
    by_cases hlt : k < n
    · obtain ⟨b, o, rfl, c0⟩ := HC.out k wr hlt hI.out
      have HK := (show Hid (Calls Try.prog g (#[pv k] ++ lb) wr fun e W' => e = .returned (.bool (p k)) ∧ I (k + 1) W') from HP.out k wr hlt hI.out)
      clear HC HP
      cases hq : p k with
      | true =>
        rw [hq] at HK
        have Hq := (show Hid (p k = true) from hq)
        clear hq
        go_wp2_with (go_at_fn g; refine HK.out.mono ?_; rintro e w' ⟨rfl, hI2⟩)
        go_ret
        exact ⟨k, rfl, .inl ⟨k, hlt, rfl, Hq.out, hno.out, hI2⟩⟩
      | false =>
        rw [hq] at HK
        have Hq := (show Hid (p k = false) from hq)
        clear hq
        go_wp2_with (go_at_fn g; refine HK.out.mono ?_; rintro e w' ⟨rfl, hI2⟩)
        go_roundg (gk - 1)
        case measure => have := Hk.out; omega
        case rel => exact ⟨k + 1, by go_num, by have := Hk.out; omega, fun j hj => by
                      by_cases f : j = k
                      · subst f; exact Hq.out
                      · exact hno.out j (by omega), hI2⟩
    · obtain rfl : k = n := by omega
      clear HC HP
      go_wp2_with fail
      go_ret
      exact ⟨-1, rfl, .inr ⟨rfl, hno.out, hI.out⟩⟩

theorem co58 (g : Nat) (lb : Array Value) (eg : ∀ args w, (callFunc g args).run Try.prog w = .ok (.enter g args) w) (x : Option Addr) (n c : Nat) (pv : Nat → Value) (p : Nat → Bool) (I : Nat → World → Prop) (w : World) (hn : n ≤ 9223372036854775807) (h0 : I 0 w)
    (hc : ∀ k W, k < n → I k W → ∃ b o, x = some ⟨b, o, none⟩ ∧ W.cell? ⟨b, o + k, none⟩ = some (pv k))
    (hp : ∀ k W, k < n → I k W → Calls Try.prog g (#[pv k] ++ lb) W fun e W' => e = .returned (.bool (p k)) ∧ I (k + 1) W') :
    Calls Try.prog 58 #[.slice x n c, .func (.func g) #[] lb] w (CoPost p n I) := by
  have HX := (show Hid (Calls Try.prog 76 #[.slice x n c, .func (.func g) #[] lb] w (IxPost p n I)) from ix76 g lb eg x n c pv p I w hn h0 hc hp)
  clear hc hp h0
  go_enter Try.func58, Try.ntmps58
  go_wp2_with (go_at_call 76; refine HX.out.mono ?_; rintro e w' ⟨r, rfl, hr⟩)
  go_ret
  rcases hr with ⟨k, h1, rfl, h2, h3, h4⟩ | ⟨rfl, h2, h4⟩
  · exact ⟨true, by simp, ⟨fun _ => ⟨k, h1, h2⟩, fun _ => rfl⟩, _, h4⟩
  · exact ⟨false, by simp, ⟨fun f => (nomatch f), fun ⟨k, h1, h5⟩ => by rw [h2 k h1] at h5; cases h5⟩, _, h4⟩

set_option maxHeartbeats 1000000 in
theorem ix77 (g : Nat) (lb : Array Value) (eg : ∀ args w, (callFunc g args).run Try.prog w = .ok (.enter g args) w) (x : Option Addr) (n c : Nat) (pv pu pt : Nat → Value) (p : Nat → Bool) (I : Nat → World → Prop) (w : World) (hn : n ≤ 9223372036854775807) (h0 : I 0 w)
    (hc : ∀ k W, k < n → I k W → ∃ b o, x = some ⟨b, o, none⟩ ∧ W.cell? ⟨b, o + k * 3, none⟩ = some (pv k) ∧ W.cell? ⟨b, o + k * 3 + 1, none⟩ = some (pu k) ∧ W.cell? ⟨b, o + k * 3 + 2, none⟩ = some (pt k))
    (hp : ∀ k W, k < n → I k W → Calls Try.prog g (#[.agg #[pv k, pu k, pt k]] ++ lb) W fun e W' => e = .returned (.bool (p k)) ∧ I (k + 1) W') :
    Calls Try.prog 77 #[.slice x n c, .func (.func g) #[] lb] w (IxPost p n I) := by
  have HP := (show Hid (∀ k W, k < n → I k W → Calls Try.prog g (#[.agg #[pv k, pu k, pt k]] ++ lb) W fun e W' => e = .returned (.bool (p k)) ∧ I (k + 1) W') from hp)
  have HC := (show Hid (∀ k W, k < n → I k W → ∃ b o, x = some ⟨b, o, none⟩ ∧ W.cell? ⟨b, o + k * 3, none⟩ = some (pv k) ∧ W.cell? ⟨b, o + k * 3 + 1, none⟩ = some (pu k) ∧ W.cell? ⟨b, o + k * 3 + 2, none⟩ = some (pt k)) from hc)
  clear hp hc
  go_enter Try.func77, Try.ntmps77
  go_wp2_with fail
  go_loopg [8] n (fun gg i wr => ∃ k : Nat, i = .int .i64 k ∧ k + gg = n ∧ Hid (∀ j, j < k → p j = false) ∧ Hid (I k wr))
  case atStart => exact ⟨0, rfl, by omega, fun j hj => absurd hj (Nat.not_lt_zero _), h0⟩
  case round =>
    obtain ⟨k, rfl, hk, hno, hI⟩ := hrel
    have Hk := (show Hid (k + gk = n) from hk)
    have hkn : k ≤ n := by omega
    clear hk h0
    by_cases hlt : k < n
    · obtain ⟨b, o, rfl, c0, c1, c2⟩ := HC.out k wr hlt hI.out
      have HK := (show Hid (Calls Try.prog g (#[.agg #[pv k, pu k, pt k]] ++ lb) wr fun e W' => e = .returned (.bool (p k)) ∧ I (k + 1) W') from HP.out k wr hlt hI.out)
      clear HC HP
      cases hq : p k with
      | true =>
        rw [hq] at HK
        have Hq := (show Hid (p k = true) from hq)
        clear hq
        go_wp2_with (go_at_fn g; refine HK.out.mono ?_; rintro e w' ⟨rfl, hI2⟩)
        go_ret
        exact ⟨k, rfl, .inl ⟨k, hlt, rfl, Hq.out, hno.out, hI2⟩⟩
      | false =>
        rw [hq] at HK
        have Hq := (show Hid (p k = false) from hq)
        clear hq
        go_wp2_with (go_at_fn g; refine HK.out.mono ?_; rintro e w' ⟨rfl, hI2⟩)
        go_roundg (gk - 1)
        case measure => have := Hk.out; omega
        case rel => exact ⟨k + 1, by go_num, by have := Hk.out; omega, fun j hj => by
                      by_cases f : j = k
                      · subst f; exact Hq.out
                      · exact hno.out j (by omega), hI2⟩
    · obtain rfl : k = n := by omega
      clear HC HP
      go_wp2_with fail
      go_ret
      exact ⟨-1, rfl, .inr ⟨rfl, hno.out, hI.out⟩⟩
end Go.Proofs.Ytnakafmlenngnaa.Qm
