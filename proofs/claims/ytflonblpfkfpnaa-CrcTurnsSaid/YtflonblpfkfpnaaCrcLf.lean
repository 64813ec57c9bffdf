/- The walk of the law CrcTurns. -/
import Derived.Test.YtflonblpfkfpnaaCrcTurns1
import Derived.Test.YtflonblpfkfpnaaCrcTurns2
import Derived.Test.YtflonblpfkfpnaaCrcTurns3
import Derived.Test.YtflonblpfkfpnaaCrcTurns4
namespace Go.Proofs.Ytflonblpfkfpnaa
set_option linter.unusedVariables false
set_option linter.unusedSimpArgs false
open Go.RowKit
attribute [local go_sem] x8 x32 eq32 ne32 subA_zero

set_option maxRecDepth 100000 in
set_option maxHeartbeats 4000000 in
theorem crcTurns_walk (w : World) (ax : Option Addr) (cx : Nat) (x : List UInt8) (hx : BytesAt w ax x) (hlx : x.length ≤ cx) (hcx : cx ≤ 9223372036854775807)
    (ay : Option Addr) (cy : Nat) (y : List UInt8) (hy : BytesAt w ay y) (hly : y.length ≤ cy) (hcy : cy ≤ 9223372036854775807)
    (az : Option Addr) (cz : Nat) (z : List UInt8) (hz : BytesAt w az z) (hlz : z.length ≤ cz) (hcz : cz ≤ 9223372036854775807)
    (at0 : Int) (hat0 : -9223372036854775808 ≤ at0) (hat1 : at0 ≤ 9223372036854775807) :
    Calls Try.prog 7 #[.slice ax x.length cx, .slice ay y.length cy, .slice az z.length cz, .int .i64 at0] w fun e w' => e = .returned (.bool true) ∧ Below w.heap.size w w' := by
  have HX : Hid (∀ q, Below w.heap.size w q → BytesAt q ax x) := fun q hq => hx.below (Nat.le_refl _) hq
  have HY : Hid (∀ q, Below w.heap.size w q → BytesAt q ay y) := fun q hq => hy.below (Nat.le_refl _) hq
  have HZ : Hid (∀ q, Below w.heap.size w q → BytesAt q az z) := fun q hq => hz.below (Nat.le_refl _) hq
  obtain ⟨X, hX⟩ : ∃ X, x.length = X := ⟨_, rfl⟩
  obtain ⟨Y, hY⟩ : ∃ Y, y.length = Y := ⟨_, rfl⟩
  obtain ⟨Z, hZ⟩ : ∃ Z, z.length = Z := ⟨_, rfl⟩
  rw [hX, hY, hZ]
  rw [hX] at hlx
  rw [hY] at hly
  rw [hZ] at hlz
  have HLX := Lib.hid hX
  have HLY := Lib.hid hY
  have HLZ := Lib.hid hZ
  clear hX hY hZ hx hy hz
  have hcase : (¬ Y < X ∧ ¬ Z < X) ∨ (¬ Y < X ∧ Z < X) ∨ (Y < X ∧ ¬ Z < Y) ∨ (Y < X ∧ Z < Y) := by omega
  rcases hcase with h | h | h | h
  · exact crcTurns_c1 w ax cx x HX hcx ay cy y HY hcy az cz z HZ hcz at0 hat0 hat1 X Y Z HLX HLY HLZ hlx hly hlz h
  · exact crcTurns_c2 w ax cx x HX hcx ay cy y HY hcy az cz z HZ hcz at0 hat0 hat1 X Y Z HLX HLY HLZ hlx hly hlz h
  · exact crcTurns_c3 w ax cx x HX hcx ay cy y HY hcy az cz z HZ hcz at0 hat0 hat1 X Y Z HLX HLY HLZ hlx hly hlz h
  · exact crcTurns_c4 w ax cx x HX hcx ay cy y HY hcy az cz z HZ hcz at0 hat0 hat1 X Y Z HLX HLY HLZ hlx hly hlz h
end Go.Proofs.Ytflonblpfkfpnaa
