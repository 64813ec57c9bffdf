/- The walk of the law CrcCombines. -/
import Derived.Test.YtflonblpfkfpnaaCrcK
namespace Go.Proofs.Ytflonblpfkfpnaa
open Go.RowKit
attribute [local go_sem] eq32 ne32

set_option maxHeartbeats 400000 in
theorem crcCombines_walk (a b : BitVec 32) (n : Int) (hn0 : -9223372036854775808 ≤ n) (hn : n ≤ 9223372036854775807) (w : World) :
    Calls Try.prog 4 #[.int .u32 (v32 a : Int), .int .u32 (v32 b : Int), .int .i64 n] w fun e w' => e = .returned (.bool true) ∧ Below w.heap.size w w' := by
  have hacc := Below.refl w.heap.size w
  go_enter Try.func4, Try.ntmps4
  go_wp2_with (first
    | (go_at_call 15; with_reducible refine (combine_any _ _ _ _ hn0 hn).mono ?_; rintro e w' ⟨rfl, hb⟩; replace hacc := acc_call hacc hb (Nat.le_refl _); clear hb)
    | (go_at_call 16; with_reducible refine (rcombine_any _ _ _ _ hn0 hn).mono ?_; rintro e w' ⟨rfl, hb⟩; replace hacc := acc_call hacc hb (Nat.le_refl _); clear hb)
    | (go_at_call 14; with_reducible refine (known_any _).mono ?_; rintro e w' ⟨rfl, hb⟩; replace hacc := acc_call hacc hb (Nat.le_refl _); clear hb))
  go_ret
  exact ⟨rfl, hacc⟩
end Go.Proofs.Ytflonblpfkfpnaa
