/-
  OrbitCheck: the walk.
-/
import Derived.Test.YtijocgijnbcefaaOrbL
import Derived.Test.YtijocgijnbcefaaOrbT
import Derived.Test.YtijocgijnbcefaaOrbS
namespace Go.Proofs.Ytijocgijnbcefaa
open Go.ChangeShapes Go.WideShapes Go.ChangeAt Go.RowKit

set_option maxRecDepth 100000 in
theorem orbitCheck_any (w : World) (A : Option Addr) (n cap : Nat) (ts : List Win) (h : Sl csW 6 w w.heap.size A n cap ts) :
    Calls Try.prog 3 #[.slice A n cap] w fun e w' => e = .returned (.bool true) ∧ Below w.heap.size w w' := by
  go_enter Try.func3, Try.ntmps3
  go_wp2_with fail
  refine (check_any _ A n cap ts _ h (Nat.le_refl _)).mono ?_
  rintro e w1 ⟨rfl, hb1⟩
  have h1 := h.below hb1 (Nat.le_refl _)
  go_wp2_with fail
  refine (check9_any _ A n cap ts _ h1 hb1.size).mono ?_
  rintro e w2 ⟨rfl, hb2⟩
  have hb12 := hb1.trans (hb2.mono hb1.size)
  rw [check_eq]
  generalize checkR ts = c
  go_wp2_with fail
  refine (lives_any _).mono ?_
  rintro e w3 ⟨rfl, hb3⟩
  go_wp2
  go_ret
  exact ⟨rfl, hb12.trans (hb3.mono hb12.size)⟩

end Go.Proofs.Ytijocgijnbcefaa
