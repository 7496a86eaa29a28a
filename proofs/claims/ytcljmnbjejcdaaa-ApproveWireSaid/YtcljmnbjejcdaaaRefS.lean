/-
  perigeeref01's Around and SameInts alone (from OrbA, OrbC), for seats that hold no more of it.
-/
import Derived.Test.YtcljmnbjejcdaaaOrbP
import Derived.Test.YtcljmnbjejcdaaaGrow
namespace Go.Proofs.Ytcljmnbjejcdaaa
open Go.ChangeShapes Go.WideShapes Go.ChangeAt Go.RowKit

theorem around_any (n m : Int) (w : World) (hn : I64 n) (hm : 1 ≤ m) (hm2 : m ≤ 9223372036854775807) :
    Calls Try.prog 23 #[.int .i64 n, .int .i64 m] w fun e w' => e = .returned (.int .i64 (around n m)) ∧ w = w' := by
  obtain ⟨h1, h2⟩ := hn
  by_cases h : n < 0
  · go_enter Try.func23, Try.ntmps23
    go_wp2
    go_ret
    exact ⟨ret_int (by unfold around; rw [if_pos h, ← Int.neg_tmod, Int.tmod_eq_emod_of_nonneg (by omega)]), rfl⟩
  · go_enter Try.func23, Try.ntmps23
    go_wp2
    go_ret
    exact ⟨ret_int (by unfold around; rw [if_neg (by omega)]), rfl⟩

set_option maxRecDepth 100000 in
set_option maxHeartbeats 1000000 in
theorem same_any (B B' : Nat) (A A' : Option Addr) (n n' cap cap' : Nat) (xs ys : List Int) (w : World) (h : Sl csI 1 w B A n cap xs) (h' : Sl csI 1 w B' A' n' cap' ys) (hB : B ≤ w.heap.size) (hB' : B' ≤ w.heap.size) :
    Calls Try.prog 18 #[.slice A n cap, .slice A' n' cap'] w fun e w' => e = .returned (.bool (decide (xs = ys))) ∧ Below w.heap.size w w' := by
  have hn := h.ncap
  have hc := h.cmax
  have hn' := h'.ncap
  have hc' := h'.cmax
  by_cases hnn : n = n'
  · subst hnn
    go_enter Try.func18, Try.ntmps18
    go_wp2
    go_loopw [5] (fun i wr => ∃ k : Nat, k ≤ n ∧ i = .int .i64 k ∧ Hid (xs.take k = ys.take k) ∧ Below w.heap.size w wr) (fun i _ => n - (intOf i).toNat)
    case atStart => exact ⟨0, Nat.zero_le _, rfl, rfl, Below.refl _ _⟩
    case round =>
      obtain ⟨k, hk, rfl, HR, hbw⟩ := hrel
      by_cases hlt : k < n
      · obtain ⟨b, o, x, rfl, hb, hx, hcell⟩ := (h.below hbw hB).int_at hlt
        obtain ⟨b', o', y, rfl, hb', hy, hcell'⟩ := (h'.below hbw hB').int_at hlt
        have HX := Lib.hid hx
        have HY := Lib.hid hy
        clear hx hy
        have hki : (k : Int) < (n : Int) := by omega
        by_cases hxy : x = y
        · subst hxy
          go_wp2
          go_quiet (fail)
          go_wp2
          go_roundw
          case rel => exact ⟨k + 1, by omega, by go_num, by rw [Hid, take_snoc HX.out, take_snoc HY.out, HR.out], below_drewN hbw _⟩
          case measure => simp [intOf]; omega
        · have hne : (x != y) = true := by simpa using hxy
          go_wp2
          go_quiet (fail)
          go_wp2
          go_ret
          exact ⟨ret_bool (by symm; rw [decide_eq_false_iff_not]; intro e; subst e; have := HX.out.symm.trans HY.out; simp at this; exact hxy this), below_drewN hbw _⟩
      · obtain rfl : n = k := by omega
        have HE : Hid (xs = ys) := by
          have := HR.out
          rwa [List.take_of_length_le (by rw [h.len]; omega), List.take_of_length_le (by rw [h'.len]; omega)] at this
        go_wp2
        go_ret
        exact ⟨ret_bool (by rw [HE.out]; simp), hbw⟩
  · have HE : Hid (xs ≠ ys) := by rintro rfl; exact hnn (h.len.symm.trans h'.len)
    have hne : ((n : Int) != (n' : Int)) = true := by simp; omega
    go_enter Try.func18, Try.ntmps18
    go_wp2
    go_ret
    exact ⟨ret_bool (by simp [HE.out]), Below.refl _ _⟩

end Go.Proofs.Ytcljmnbjejcdaaa
