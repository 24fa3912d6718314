/- CustodyApart: both ways. -/
import Derived.Test.YthkimmabaojaaaaApartWalk
namespace Go.Proofs.Ythkimmabaojaaaa.Ca
open Go.RowKit Go.Proofs.Ythkimmabaojaaaa.Cu Go.Proofs.Ythkimmabaojaaaa.Cm Go.Proofs.Ythkimmabaojaaaa.Ck

theorem walk (x : Option Addr) (len cap : Nat) (D : Nat → Dd) (a b : Dd) (w : World) (hD : Deeds w x len D) :
    Calls Try.prog 4 #[.slice x len cap, ddV a, ddV b] w fun e w' => e = .returned (.bool true) ∧ Below w.heap.size w w' := by
  by_cases h : a.id = b.id
  · exact walk_same _ a b w h
  · exact walk_apart x len cap D a b w hD h
end Go.Proofs.Ythkimmabaojaaaa.Ca
