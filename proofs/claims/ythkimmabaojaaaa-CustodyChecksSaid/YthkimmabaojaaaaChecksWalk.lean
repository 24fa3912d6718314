/- CustodyChecks: the walk of the law. -/
import Derived.Test.YthkimmabaojaaaaRchk
import Derived.Deep.DeepCutAuto
namespace Go.Proofs.Ythkimmabaojaaaa.Rc
open Go.RowKit Go.Proofs.Ythkimmabaojaaaa.Cu Go.Proofs.Ythkimmabaojaaaa.Cm Go.Proofs.Ythkimmabaojaaaa.Cl Go.Proofs.Ythkimmabaojaaaa.Ck Go.Proofs.Ythkimmabaojaaaa.Cc Go.Proofs.Ythkimmabaojaaaa.Rf

theorem walk (x : Option Addr) (len0 cap : Nat) (D : Nat → Dd) (w : World) (hD0 : Deeds w x len0 D) (hcap0 : len0 ≤ cap) (hcap2 : cap ≤ 9223372036854775807) :
    Calls Try.prog 5 #[.slice x len0 cap] w fun e w' => e = .returned (.bool true) ∧ Below w.heap.size w w' := by
  obtain ⟨len, hl, hcap, hle, hbig, hsm⟩ : ∃ len, len ≤ 2000 ∧ len ≤ cap ∧ len ≤ len0 ∧ (2000 < len0 → len = 2000) ∧ (¬ 2000 < len0 → len = len0) := by
    by_cases h : 2000 < len0
    · exact ⟨2000, by omega, by omega, by omega, fun _ => rfl, fun f => (f h).elim⟩
    · exact ⟨len0, by omega, hcap0, by omega, fun f => (h f).elim, fun _ => rfl⟩
  have hD : Deeds w x len D := ⟨by omega, fun k hk => hD0.2 k (by omega)⟩
  have HDW := (show Hid (∀ (W : World), Below w.heap.size w W → Deeds W x len D) from fun W hW => by
      by_cases h0 : 0 < len
      · exact Deeds.below hD hW (Deeds.at_old hD h0)
      · exact ⟨by omega, fun k hk => by omega⟩)
  have HC := (show Hid (∀ (W : World), Below w.heap.size w W → Calls Try.prog 13 #[.slice x len cap] W (CheckPost D len W.heap.size W)) from fun W hW =>
    check_run x len cap D W (HDW.out W hW) hl)
  have HR := (show Hid (∀ (W : World), Below w.heap.size w W → Calls Try.prog 14 #[.slice x len cap] W (CheckPost D len W.heap.size W)) from fun W hW =>
    rcheck_run x len cap D W (HDW.out W hW) hl)
  have HBig := (show Hid (2000 < len0 → len = 2000) from hbig)
  have HSm := (show Hid (¬ 2000 < len0 → len = len0) from hsm)
  clear hbig hsm hD0 hD HDW
  go_enter Try.func5, Try.ntmps5
  go_wp2_with fail
  refine (awake_run w).mono ?_
  rintro e w1 ⟨rfl, hb1⟩
  go_upto_if 9 with (fail)
  go_cut [0] (fun v wx => v = .slice x len cap ∧ wx = w1)
  case first =>
    by_cases h : 2000 < len0
    · have h1 : (2000 : Int) ≤ cap := by omega
      have h2 : (2000 : Int) < len0 := by omega
      go_wp2_with fail
      go_meet
      exact ⟨by rw [HBig.out h], rfl⟩
    · have h2 : ¬ (2000 : Int) < len0 := by omega
      go_wp2_with fail
      go_meet
      exact ⟨by rw [HSm.out h], rfl⟩
  case rest =>
    obtain ⟨rfl, rfl⟩ := hcut
    clear HBig HSm hle
    go_wp2_with fail
    refine (HC.out _ hb1).mono ?_
    rintro e w2 ⟨n, hn, rfl, hb2⟩
    have hbw2 := hb1.trans (hb2.mono hb1.size)
    go_wp2_with fail
    refine (HR.out _ hbw2).mono ?_
    rintro e w3 ⟨m, hm, rfl, hb3⟩
    have hbw3 := hbw2.trans (hb3.mono hbw2.size)
    have hmc : m = n := hm.uniq hn
    rw [hmc]
    clear hm hmc hb3 hn hb2
    go_wp2_with fail
    go_ret
    exact ⟨by simp, hbw3⟩
end Go.Proofs.Ythkimmabaojaaaa.Rc
