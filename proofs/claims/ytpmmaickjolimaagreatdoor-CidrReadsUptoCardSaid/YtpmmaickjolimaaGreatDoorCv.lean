/- A range is itself. -/
import Derived.Test.YtpmmaickjolimaaGreatDoorCw
namespace Go.Proofs.YtpmmaickjolimaaGreatDoor.Ci
open Go.RowKit

set_option maxHeartbeats 4000000 in
set_option maxRecDepth 100000 in
theorem eq_net16 (s : Bool) (b : Int) (x0 x1 x2 x3 x4 x5 x6 x7 x8 x9 x10 x11 x12 x13 x14 x15 : Nat) (w : World) : (Op.equalIn 10000 25 (.agg #[.bool s, .int .i64 b, .int .u8 (x0 : Nat), .int .u8 (x1 : Nat), .int .u8 (x2 : Nat), .int .u8 (x3 : Nat), .int .u8 (x4 : Nat), .int .u8 (x5 : Nat), .int .u8 (x6 : Nat), .int .u8 (x7 : Nat), .int .u8 (x8 : Nat), .int .u8 (x9 : Nat), .int .u8 (x10 : Nat), .int .u8 (x11 : Nat), .int .u8 (x12 : Nat), .int .u8 (x13 : Nat), .int .u8 (x14 : Nat), .int .u8 (x15 : Nat)]) (.agg #[.bool s, .int .i64 b, .int .u8 (x0 : Nat), .int .u8 (x1 : Nat), .int .u8 (x2 : Nat), .int .u8 (x3 : Nat), .int .u8 (x4 : Nat), .int .u8 (x5 : Nat), .int .u8 (x6 : Nat), .int .u8 (x7 : Nat), .int .u8 (x8 : Nat), .int .u8 (x9 : Nat), .int .u8 (x10 : Nat), .int .u8 (x11 : Nat), .int .u8 (x12 : Nat), .int .u8 (x13 : Nat), .int .u8 (x14 : Nat), .int .u8 (x15 : Nat)])).run Tryz.prog w = .ok true w := by
  have u5 := Tryz.underlying5
  have a5 := Tryz.isAgg5
  have z5 := Tryz.sizeOf5
  rw [show (10000 : Nat) = 9999 + 1 from rfl, Op.equalIn]
  simp only [Sem.run_bind, run_underlying Tryz.underlying25, Result.andThen_ok]
  go_simp
  rw [show (9999 : Nat) = 9998 + 1 from rfl, Op.equalIn]
  simp only [Sem.run_bind, run_underlying Tryz.underlying23, Result.andThen_ok]
  simp only [Std.Legacy.Range.forIn_eq_forIn_range', Std.Legacy.Range.size, Nat.sub_zero, Nat.add_sub_cancel, Nat.div_one, List.range'_succ, List.range'_zero, List.forIn_cons, List.forIn_nil]
  go_simp
theorem eq_net (n : Nt) (hl : n.addr.length = 16) (w : World) : (Op.equalIn 10000 25 (.agg (netC n).toArray) (.agg (netC n).toArray)).run Tryz.prog w = .ok true w := by
  obtain ⟨s, b, l⟩ := n
  match l, hl with
  | [x0, x1, x2, x3, x4, x5, x6, x7, x8, x9, x10, x11, x12, x13, x14, x15], _ => exact eq_net16 s b x0 x1 x2 x3 x4 x5 x6 x7 x8 x9 x10 x11 x12 x13 x14 x15 w
end Go.Proofs.YtpmmaickjolimaaGreatDoor.Ci
