/-
  The helpers of law21: small, staff.
-/
import Derived.Test.YtcljmnbjejcdaaaAppE
namespace Go.Proofs.Ytcljmnbjejcdaaa
open Go.ChangeShapes Go.WideShapes Go.ChangeAt Go.RowKit

def staffP : List Per := [⟨0, 5⟩, ⟨0, 6⟩, ⟨1, 7⟩]

set_option maxRecDepth 100000 in
theorem staff_any (w : World) : Calls Try.prog 27 #[] w fun e w' => e = .returned (.slice (some ⟨w.heap.size, 0, none⟩) 3 3) ∧ Sl csP 2 w' (w.heap.size + 1) (some ⟨w.heap.size, 0, none⟩) 3 3 staffP ∧ w.heap.size + 1 ≤ w'.heap.size ∧ Below w.heap.size w w' := by
  go_enter Try.func27, Try.ntmps27
  go_wp2
  go_ret
  refine ⟨rfl, ?_, by simp, (Below.refl _ _).alloc (Nat.le_refl _) _⟩
  exact Sl.lit (cs := csP) w 44 staffP (by intro x _; rfl) (by decide)

set_option maxRecDepth 100000 in
theorem small_any (w : World) (A : Option Addr) (n cap : Nat) (D : Option Addr) (q d : Nat) (C : Option Addr) (m c : Nat) (hn : n ≤ 9223372036854775807) (hq : q ≤ 9223372036854775807) (hm : m ≤ 9223372036854775807) :
    Calls Try.prog 10 #[.slice A n cap, .slice D q d, .slice C m c] w fun e w' => e = .returned (.bool (decide (n ≤ 30 ∧ q ≤ 30 ∧ m ≤ 600))) ∧ w' = w := by
  by_cases h1 : n ≤ 30
  · by_cases h2 : q ≤ 30
    · by_cases h3 : m ≤ 600
      · have hR : Hid (decide (n ≤ 30 ∧ q ≤ 30 ∧ m ≤ 600) = true) := by unfold Hid; simp [h1, h2, h3]
        have g1 : decide ((n : Int) ≤ 30) = true := by simp; omega
        have g2 : decide ((q : Int) ≤ 30) = true := by simp; omega
        have g3 : decide ((m : Int) ≤ 600) = true := by simp; omega
        clear h1 h2 h3
        go_enter Try.func10, Try.ntmps10
        go_wp2
        go_ret
        exact ⟨by rw [hR.out]; rfl, rfl⟩
      · have hR : Hid (decide (n ≤ 30 ∧ q ≤ 30 ∧ m ≤ 600) = false) := by unfold Hid; simp [h1, h2, h3]
        have g1 : decide ((n : Int) ≤ 30) = true := by simp; omega
        have g2 : decide ((q : Int) ≤ 30) = true := by simp; omega
        have g3 : decide ((m : Int) ≤ 600) = false := by simp; omega
        clear h1 h2 h3
        go_enter Try.func10, Try.ntmps10
        go_wp2
        go_ret
        exact ⟨by rw [hR.out]; rfl, rfl⟩
    · have hR : Hid (decide (n ≤ 30 ∧ q ≤ 30 ∧ m ≤ 600) = false) := by unfold Hid; simp [h1, h2]
      have g1 : decide ((n : Int) ≤ 30) = true := by simp; omega
      have g2 : decide ((q : Int) ≤ 30) = false := by simp; omega
      clear h1 h2
      go_enter Try.func10, Try.ntmps10
      go_wp2
      go_ret
      exact ⟨by rw [hR.out]; rfl, rfl⟩
  · have hR : Hid (decide (n ≤ 30 ∧ q ≤ 30 ∧ m ≤ 600) = false) := by unfold Hid; simp [h1]
    have g1 : decide ((n : Int) ≤ 30) = false := by simp; omega
    clear h1
    go_enter Try.func10, Try.ntmps10
    go_wp2
    go_ret
    exact ⟨by rw [hR.out]; rfl, rfl⟩
end Go.Proofs.Ytcljmnbjejcdaaa
