/-
  The small functions that chapter 9 calls: numbers, tests on one window.
-/
import Derived.Test.YtijocgijnbcefaaOrbP
import Derived.Test.YtijocgijnbcefaaGrow
namespace Go.Proofs.Ytijocgijnbcefaa
open Go.ChangeShapes Go.WideShapes Go.ChangeAt Go.RowKit

theorem around_any (n m : Int) (w : World) (hn : I64 n) (hm : 1 ≤ m) (hm2 : m ≤ 9223372036854775807) :
    Calls Try.prog 17 #[.int .i64 n, .int .i64 m] w fun e w' => e = .returned (.int .i64 (around n m)) ∧ w = w' := by
  obtain ⟨h1, h2⟩ := hn
  by_cases h : n < 0
  · go_enter Try.func17, Try.ntmps17
    go_wp2
    go_ret
    exact ⟨ret_int (by unfold around; rw [if_pos h, ← Int.neg_tmod, Int.tmod_eq_emod_of_nonneg (by omega)]), rfl⟩
  · go_enter Try.func17, Try.ntmps17
    go_wp2
    go_ret
    exact ⟨ret_int (by unfold around; rw [if_neg (by omega)]), rfl⟩

theorem in_any (n lo hi : Int) (w : World) :
    Calls Try.prog 55 #[.int .i64 n, .int .i64 lo, .int .i64 hi] w fun e w' => e = .returned (.bool (inr n lo hi)) ∧ w = w' := by
  go_enter Try.func55, Try.ntmps55
  go_wp2
  all_goals (go_ret; exact ⟨ret_bool (by rw [Bool.eq_iff_iff]; simp [inr]; try omega), rfl⟩)

theorem key_any (t : Win) (kk aa bb : Int) (w : World) :
    Calls Try.prog 45 #[t.val, .int .i64 kk, .int .i64 aa, .int .i64 bb] w fun e w' => e = .returned (.bool (t.key kk aa bb)) ∧ Below w.heap.size w w' := by
  unfold Win.val
  go_enter Try.func45, Try.ntmps45
  go_wp2
  all_goals (go_ret; exact ⟨ret_bool (by simp [Win.key, *]), (Below.refl _ _).alloc (Nat.le_refl _) _⟩)

theorem before_any (v t : Win) (w : World) :
    Calls Try.prog 40 #[v.val, t.val] w fun e w' => e = .returned (.bool (v.before t)) ∧ Below w.heap.size w w' := by
  unfold Win.val
  go_enter Try.func40, Try.ntmps40
  go_wp2
  all_goals (go_ret; exact ⟨ret_bool (by rw [Bool.eq_iff_iff, Win.before_iff]; unfold Win.Before; simp at *; omega), ((Below.refl _ _).alloc (Nat.le_refl _) _).alloc (by simp) _⟩)

theorem formed9_any (t : Win) (w : World) :
    Calls Try.prog 39 #[t.val] w fun e w' => e = .returned (.bool t.formed) ∧ Below w.heap.size w w' := by
  unfold Win.val
  go_enter Try.func39, Try.ntmps39
  go_wp2_with (go_at_call 55; refine (in_any _ _ _ _).mono ?_; rintro e w' ⟨rfl, rfl⟩)
  all_goals (go_ret; exact ⟨ret_bool (by rw [Bool.eq_iff_iff, Win.formed_iff]; unfold Win.Formed; simp [inr] at *; omega), (Below.refl _ _).alloc (Nat.le_refl _) _⟩)

theorem formed_any (t : Win) (w : World) :
    Calls Try.prog 34 #[t.val] w fun e w' => e = .returned (.bool t.formed) ∧ Below w.heap.size w w' := by
  unfold Win.val
  go_enter Try.func34, Try.ntmps34
  go_wp2
  all_goals (go_ret; exact ⟨ret_bool (by rw [Bool.eq_iff_iff, Win.formed_iff]; unfold Win.Formed; simp at *; omega), (Below.refl _ _).alloc (Nat.le_refl _) _⟩)

end Go.Proofs.Ytijocgijnbcefaa
