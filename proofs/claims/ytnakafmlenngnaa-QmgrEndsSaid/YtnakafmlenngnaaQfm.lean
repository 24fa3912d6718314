/- Fair, in plain terms. -/
import Derived.Test.YtnakafmlenngnaaQm
namespace Go.Proofs.Ytnakafmlenngnaa.Qm
open Go.Proofs.Ytnakafmlenngnaa.Wi

def nameF (i : Nat) : ByteArray := ⟨#[UInt8.ofNat (65 + i)]⟩
def idF (i k : Nat) : ByteArray := ⟨#[UInt8.ofNat (97 + i), UInt8.ofNat (48 + k)]⟩
def lmF : Lm := ⟨100, 5, 5, 1, 1, 1000⟩

def chkN (many : Nat) : Nat → Nat → Qs → Bool
  | 0, _, q => (match next q with | none => true | some _ => false)
  | c + 1, p, q => match next q with
    | none => false
    | some x => decide (x.1.dest = nameF (p % many)) && chkN many c (p + 1) x.2
def chkA (many total : Nat) : Nat → Nat → Qs → Bool
  | 0, _, q => chkN many total 0 q
  | c + 1, p, q => match add q (idF (p % many) (p / many)) 0 [nameF (p % many)] 0 with
    | (e, q') => decide (e = 0) && chkA many total c (p + 1) q'

def fairAt (many rounds : Nat) : Bool := chkA many (many * rounds) (many * rounds) 0 ⟨lmF, [], [], 0, []⟩
theorem fair1x1 : fairAt 1 1 = true := by decide +kernel
theorem fair1x2 : fairAt 1 2 = true := by decide +kernel
theorem fair1x3 : fairAt 1 3 = true := by decide +kernel
theorem fair1x4 : fairAt 1 4 = true := by decide +kernel
theorem fair1x5 : fairAt 1 5 = true := by decide +kernel
theorem fair2x1 : fairAt 2 1 = true := by decide +kernel
theorem fair2x2 : fairAt 2 2 = true := by decide +kernel
theorem fair2x3 : fairAt 2 3 = true := by decide +kernel
theorem fair2x4 : fairAt 2 4 = true := by decide +kernel
theorem fair2x5 : fairAt 2 5 = true := by decide +kernel
theorem fair3x1 : fairAt 3 1 = true := by decide +kernel
theorem fair3x2 : fairAt 3 2 = true := by decide +kernel
theorem fair3x3 : fairAt 3 3 = true := by decide +kernel
theorem fair3x4 : fairAt 3 4 = true := by decide +kernel
theorem fair3x5 : fairAt 3 5 = true := by decide +kernel
theorem fair4x1 : fairAt 4 1 = true := by decide +kernel
theorem fair4x2 : fairAt 4 2 = true := by decide +kernel
theorem fair4x3 : fairAt 4 3 = true := by decide +kernel
theorem fair4x4 : fairAt 4 4 = true := by decide +kernel
theorem fair4x5 : fairAt 4 5 = true := by decide +kernel
theorem fair5x1 : fairAt 5 1 = true := by decide +kernel
theorem fair5x2 : fairAt 5 2 = true := by decide +kernel
theorem fair5x3 : fairAt 5 3 = true := by decide +kernel
theorem fair5x4 : fairAt 5 4 = true := by decide +kernel
theorem fair5x5 : fairAt 5 5 = true := by decide +kernel
theorem fair6x1 : fairAt 6 1 = true := by decide +kernel
theorem fair6x2 : fairAt 6 2 = true := by decide +kernel
theorem fair6x3 : fairAt 6 3 = true := by decide +kernel
theorem fair6x4 : fairAt 6 4 = true := by decide +kernel
theorem fair6x5 : fairAt 6 5 = true := by decide +kernel
theorem fair7x1 : fairAt 7 1 = true := by decide +kernel
theorem fair7x2 : fairAt 7 2 = true := by decide +kernel
theorem fair7x3 : fairAt 7 3 = true := by decide +kernel
theorem fair7x4 : fairAt 7 4 = true := by decide +kernel
theorem fair7x5 : fairAt 7 5 = true := by decide +kernel
theorem fair8x1 : fairAt 8 1 = true := by decide +kernel
theorem fair8x2 : fairAt 8 2 = true := by decide +kernel
theorem fair8x3 : fairAt 8 3 = true := by decide +kernel
theorem fair8x4 : fairAt 8 4 = true := by decide +kernel
theorem fair8x5 : fairAt 8 5 = true := by decide +kernel
theorem fair9x1 : fairAt 9 1 = true := by decide +kernel
theorem fair9x2 : fairAt 9 2 = true := by decide +kernel
theorem fair9x3 : fairAt 9 3 = true := by decide +kernel
theorem fair9x4 : fairAt 9 4 = true := by decide +kernel
theorem fair9x5 : fairAt 9 5 = true := by decide +kernel
theorem fair10x1 : fairAt 10 1 = true := by decide +kernel
theorem fair10x2 : fairAt 10 2 = true := by decide +kernel
theorem fair10x3 : fairAt 10 3 = true := by decide +kernel
theorem fair10x4 : fairAt 10 4 = true := by decide +kernel
theorem fair10x5 : fairAt 10 5 = true := by decide +kernel
theorem fair11x1 : fairAt 11 1 = true := by decide +kernel
theorem fair11x2 : fairAt 11 2 = true := by decide +kernel
theorem fair11x3 : fairAt 11 3 = true := by decide +kernel
theorem fair11x4 : fairAt 11 4 = true := by decide +kernel
theorem fair11x5 : fairAt 11 5 = true := by decide +kernel
theorem fair12x1 : fairAt 12 1 = true := by decide +kernel
theorem fair12x2 : fairAt 12 2 = true := by decide +kernel
theorem fair12x3 : fairAt 12 3 = true := by decide +kernel
theorem fair12x4 : fairAt 12 4 = true := by decide +kernel
theorem fair12x5 : fairAt 12 5 = true := by decide +kernel
theorem fair13x1 : fairAt 13 1 = true := by decide +kernel
theorem fair13x2 : fairAt 13 2 = true := by decide +kernel
theorem fair13x3 : fairAt 13 3 = true := by decide +kernel
theorem fair13x4 : fairAt 13 4 = true := by decide +kernel
theorem fair13x5 : fairAt 13 5 = true := by decide +kernel
theorem fair14x1 : fairAt 14 1 = true := by decide +kernel
theorem fair14x2 : fairAt 14 2 = true := by decide +kernel
theorem fair14x3 : fairAt 14 3 = true := by decide +kernel
theorem fair14x4 : fairAt 14 4 = true := by decide +kernel
theorem fair14x5 : fairAt 14 5 = true := by decide +kernel
theorem fair15x1 : fairAt 15 1 = true := by decide +kernel
theorem fair15x2 : fairAt 15 2 = true := by decide +kernel
theorem fair15x3 : fairAt 15 3 = true := by decide +kernel
theorem fair15x4 : fairAt 15 4 = true := by decide +kernel
theorem fair15x5 : fairAt 15 5 = true := by decide +kernel
theorem fair16x1 : fairAt 16 1 = true := by decide +kernel
theorem fair16x2 : fairAt 16 2 = true := by decide +kernel
theorem fair16x3 : fairAt 16 3 = true := by decide +kernel
theorem fair16x4 : fairAt 16 4 = true := by decide +kernel
theorem fair16x5 : fairAt 16 5 = true := by decide +kernel
theorem fair17x1 : fairAt 17 1 = true := by decide +kernel
theorem fair17x2 : fairAt 17 2 = true := by decide +kernel
theorem fair17x3 : fairAt 17 3 = true := by decide +kernel
theorem fair17x4 : fairAt 17 4 = true := by decide +kernel
theorem fair17x5 : fairAt 17 5 = true := by decide +kernel
theorem fair18x1 : fairAt 18 1 = true := by decide +kernel
theorem fair18x2 : fairAt 18 2 = true := by decide +kernel
theorem fair18x3 : fairAt 18 3 = true := by decide +kernel
theorem fair18x4 : fairAt 18 4 = true := by decide +kernel
theorem fair18x5 : fairAt 18 5 = true := by decide +kernel
theorem fair19x1 : fairAt 19 1 = true := by decide +kernel
theorem fair19x2 : fairAt 19 2 = true := by decide +kernel
theorem fair19x3 : fairAt 19 3 = true := by decide +kernel
theorem fair19x4 : fairAt 19 4 = true := by decide +kernel
theorem fair19x5 : fairAt 19 5 = true := by decide +kernel
theorem fair20x1 : fairAt 20 1 = true := by decide +kernel
theorem fair20x2 : fairAt 20 2 = true := by decide +kernel
theorem fair20x3 : fairAt 20 3 = true := by decide +kernel
theorem fair20x4 : fairAt 20 4 = true := by decide +kernel
theorem fair20x5 : fairAt 20 5 = true := by decide +kernel
theorem fair_all (many rounds : Nat) (h1 : 1 ≤ many) (h2 : many ≤ 20) (h3 : 1 ≤ rounds) (h4 : rounds ≤ 5) : fairAt many rounds = true := by
  have hm : many = 1 ∨ many = 2 ∨ many = 3 ∨ many = 4 ∨ many = 5 ∨ many = 6 ∨ many = 7 ∨ many = 8 ∨ many = 9 ∨ many = 10 ∨ many = 11 ∨ many = 12 ∨ many = 13 ∨ many = 14 ∨ many = 15 ∨ many = 16 ∨ many = 17 ∨ many = 18 ∨ many = 19 ∨ many = 20 := by omega
  have hr : rounds = 1 ∨ rounds = 2 ∨ rounds = 3 ∨ rounds = 4 ∨ rounds = 5 := by omega
  rcases hm with rfl | rfl | rfl | rfl | rfl | rfl | rfl | rfl | rfl | rfl | rfl | rfl | rfl | rfl | rfl | rfl | rfl | rfl | rfl | rfl
  · rcases hr with rfl | rfl | rfl | rfl | rfl
    · exact fair1x1
    · exact fair1x2
    · exact fair1x3
    · exact fair1x4
    · exact fair1x5
  · rcases hr with rfl | rfl | rfl | rfl | rfl
    · exact fair2x1
    · exact fair2x2
    · exact fair2x3
    · exact fair2x4
    · exact fair2x5
  · rcases hr with rfl | rfl | rfl | rfl | rfl
    · exact fair3x1
    · exact fair3x2
    · exact fair3x3
    · exact fair3x4
    · exact fair3x5
  · rcases hr with rfl | rfl | rfl | rfl | rfl
    · exact fair4x1
    · exact fair4x2
    · exact fair4x3
    · exact fair4x4
    · exact fair4x5
  · rcases hr with rfl | rfl | rfl | rfl | rfl
    · exact fair5x1
    · exact fair5x2
    · exact fair5x3
    · exact fair5x4
    · exact fair5x5
  · rcases hr with rfl | rfl | rfl | rfl | rfl
    · exact fair6x1
    · exact fair6x2
    · exact fair6x3
    · exact fair6x4
    · exact fair6x5
  · rcases hr with rfl | rfl | rfl | rfl | rfl
    · exact fair7x1
    · exact fair7x2
    · exact fair7x3
    · exact fair7x4
    · exact fair7x5
  · rcases hr with rfl | rfl | rfl | rfl | rfl
    · exact fair8x1
    · exact fair8x2
    · exact fair8x3
    · exact fair8x4
    · exact fair8x5
  · rcases hr with rfl | rfl | rfl | rfl | rfl
    · exact fair9x1
    · exact fair9x2
    · exact fair9x3
    · exact fair9x4
    · exact fair9x5
  · rcases hr with rfl | rfl | rfl | rfl | rfl
    · exact fair10x1
    · exact fair10x2
    · exact fair10x3
    · exact fair10x4
    · exact fair10x5
  · rcases hr with rfl | rfl | rfl | rfl | rfl
    · exact fair11x1
    · exact fair11x2
    · exact fair11x3
    · exact fair11x4
    · exact fair11x5
  · rcases hr with rfl | rfl | rfl | rfl | rfl
    · exact fair12x1
    · exact fair12x2
    · exact fair12x3
    · exact fair12x4
    · exact fair12x5
  · rcases hr with rfl | rfl | rfl | rfl | rfl
    · exact fair13x1
    · exact fair13x2
    · exact fair13x3
    · exact fair13x4
    · exact fair13x5
  · rcases hr with rfl | rfl | rfl | rfl | rfl
    · exact fair14x1
    · exact fair14x2
    · exact fair14x3
    · exact fair14x4
    · exact fair14x5
  · rcases hr with rfl | rfl | rfl | rfl | rfl
    · exact fair15x1
    · exact fair15x2
    · exact fair15x3
    · exact fair15x4
    · exact fair15x5
  · rcases hr with rfl | rfl | rfl | rfl | rfl
    · exact fair16x1
    · exact fair16x2
    · exact fair16x3
    · exact fair16x4
    · exact fair16x5
  · rcases hr with rfl | rfl | rfl | rfl | rfl
    · exact fair17x1
    · exact fair17x2
    · exact fair17x3
    · exact fair17x4
    · exact fair17x5
  · rcases hr with rfl | rfl | rfl | rfl | rfl
    · exact fair18x1
    · exact fair18x2
    · exact fair18x3
    · exact fair18x4
    · exact fair18x5
  · rcases hr with rfl | rfl | rfl | rfl | rfl
    · exact fair19x1
    · exact fair19x2
    · exact fair19x3
    · exact fair19x4
    · exact fair19x5
  · rcases hr with rfl | rfl | rfl | rfl | rfl
    · exact fair20x1
    · exact fair20x2
    · exact fair20x3
    · exact fair20x4
    · exact fair20x5
end Go.Proofs.Ytnakafmlenngnaa.Qm
