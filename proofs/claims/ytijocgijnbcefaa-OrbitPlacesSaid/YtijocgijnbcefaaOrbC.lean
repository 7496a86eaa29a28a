/-
  perigeeref01's functions on lists of ints.
-/
import Derived.Test.YtijocgijnbcefaaOrbA
namespace Go.Proofs.Ytijocgijnbcefaa
open Go.ChangeShapes Go.WideShapes Go.ChangeAt Go.RowKit

theorem bound_any (n m : Int) (w : World) (hn : I64 n) (hm : 0 ≤ m) (hm2 : m ≤ 1000000000000) :
    Calls Try.prog 29 #[.int .i64 n, .int .i64 m] w fun e w' => e = .returned (.int .i64 (bound n m)) ∧ w = w' := by
  have h1 := around_lo (n := n) (m := 2 * m + 1) (by omega)
  have h2 := around_hi (n := n) (m := 2 * m + 1) (by omega)
  go_enter Try.func29, Try.ntmps29
  go_wp2_with (go_at_call 17; refine (around_any _ _ _ hn (by omega) (by omega)).mono ?_; rintro e w' ⟨rfl, rfl⟩)
  go_ret
  exact ⟨rfl, rfl⟩

theorem pick_any (B : Nat) (A : Option Addr) (n cap : Nat) (xs : List Int) (i m : Int) (w : World) (h : Sl csI 1 w B A n cap xs) (hx : ∀ x ∈ xs, I64 x) (hm : 1 ≤ m) (hm2 : m ≤ 9223372036854775807) (hi : I64 i) :
    Calls Try.prog 43 #[.slice A n cap, .int .i64 i, .int .i64 m] w fun e w' => e = .returned (.int .i64 (pick xs i m)) ∧ w = w' := by
  obtain ⟨i1, i2⟩ := hi
  have hlen := h.len
  have hn := h.ncap
  have hc := h.cmax
  by_cases h0 : i < 0
  · have HP : Hid (pick xs i m = 0) := by unfold pick Hid; rw [if_pos (by omega)]
    clear hlen
    go_enter Try.func43, Try.ntmps43
    go_wp2
    go_ret
    exact ⟨by rw [HP.out]; rfl, rfl⟩
  · by_cases h1 : (n : Int) ≤ i
    · have HP : Hid (pick xs i m = 0) := by unfold pick Hid; rw [if_pos (by omega)]
      clear hlen
      go_enter Try.func43, Try.ntmps43
      go_wp2
      go_ret
      exact ⟨by rw [HP.out]; rfl, rfl⟩
    · obtain ⟨b, o, x, rfl, hb, hk, hcell⟩ := h.int_at (k := i.toNat) (by omega)
      have HP : Hid (pick xs i m = around x m) := by unfold pick Hid; rw [if_neg (by omega), getD_of hk]
      have hwx := hx x (List.mem_of_getElem? hk)
      clear hk hlen hx h
      go_enter Try.func43, Try.ntmps43
      go_wp2_with (go_at_call 17; refine (around_any _ _ _ hwx hm hm2).mono ?_; rintro e w' ⟨rfl, rfl⟩)
      go_ret
      exact ⟨by rw [HP.out]; rfl, rfl⟩

theorem has_any (B : Nat) (A : Option Addr) (n cap : Nat) (xs : List Int) (x : Int) (w : World) (h : Sl csI 1 w B A n cap xs) :
    Calls Try.prog 27 #[.slice A n cap, .int .i64 x] w fun e w' => e = .returned (.bool (decide (x ∈ xs))) ∧ w = w' := by
  have hn := h.ncap
  have hc := h.cmax
  go_enter Try.func27, Try.ntmps27
  go_wp2
  go_loop [5] (fun i => ∃ k : Nat, k ≤ n ∧ i = .int .i64 k ∧ Hid ((x ∈ xs) ↔ x ∈ xs.drop k)) (fun i => n - (intOf i).toNat)
  case atStart => exact ⟨0, Nat.zero_le _, rfl, Iff.rfl⟩
  case round =>
    obtain ⟨k, hk, rfl, HR⟩ := hrel
    by_cases hlt : k < n
    · obtain ⟨b, o, y, rfl, hb, hy, hcell⟩ := h.int_at hlt
      have HD := Lib.hid (drop_cons hy)
      clear hy h
      by_cases hxy : y = x
      · subst hxy
        go_wp2
        go_ret
        exact ⟨ret_bool (by symm; rw [decide_eq_true_iff, HR.out, HD.out]; simp), rfl⟩
      · go_wp2
        go_round
        case rel => exact ⟨k + 1, by omega, by go_num, by rw [Hid, HR.out, HD.out]; simp [Ne.symm hxy]⟩
        case measure => simp [intOf]; omega
    · obtain rfl : n = k := by omega
      have hl := h.len
      clear h
      have HE : Hid (xs.drop n = []) := by unfold Hid; rw [List.drop_eq_nil_iff]; omega
      clear hl
      go_wp2
      go_ret
      exact ⟨ret_bool (by symm; rw [decide_eq_false_iff_not, HR.out, HE.out]; simp), rfl⟩

theorem same_any (B B' : Nat) (A A' : Option Addr) (n n' cap cap' : Nat) (xs ys : List Int) (w : World) (h : Sl csI 1 w B A n cap xs) (h' : Sl csI 1 w B' A' n' cap' ys) (hB : B ≤ w.heap.size) (hB' : B' ≤ w.heap.size) :
    Calls Try.prog 26 #[.slice A n cap, .slice A' n' cap'] w fun e w' => e = .returned (.bool (decide (xs = ys))) ∧ Below w.heap.size w w' := by
  have hn := h.ncap
  have hc := h.cmax
  have hn' := h'.ncap
  have hc' := h'.cmax
  by_cases hnn : n = n'
  · subst hnn
    go_enter Try.func26, Try.ntmps26
    go_wp2
    go_loopw [5] (fun i wr => ∃ k : Nat, k ≤ n ∧ i = .int .i64 k ∧ Hid (xs.take k = ys.take k) ∧ Below w.heap.size w wr) (fun i _ => n - (intOf i).toNat)
    case atStart => exact ⟨0, Nat.zero_le _, rfl, rfl, Below.refl _ _⟩
    case round =>
      obtain ⟨k, hk, rfl, HR, hbw⟩ := hrel
      by_cases hlt : k < n
      · obtain ⟨b, o, x, rfl, hb, hx, hcell⟩ := (h.below hbw hB).int_at hlt
        obtain ⟨b', o', y, rfl, hb', hy, hcell'⟩ := (h'.below hbw hB').int_at hlt
        have HX := Lib.hid hx
        have HY := Lib.hid hy
        clear hx hy
        have hki : (k : Int) < (n : Int) := by omega
        by_cases hxy : x = y
        · subst hxy
          go_wp2
          go_quiet (fail)
          go_wp2
          go_roundw
          case rel => exact ⟨k + 1, by omega, by go_num, by rw [Hid, take_snoc HX.out, take_snoc HY.out, HR.out], below_drewN hbw _⟩
          case measure => simp [intOf]; omega
        · have hne : (x != y) = true := by simpa using hxy
          go_wp2
          go_quiet (fail)
          go_wp2
          go_ret
          exact ⟨ret_bool (by symm; rw [decide_eq_false_iff_not]; intro e; subst e; have := HX.out.symm.trans HY.out; simp at this; exact hxy this), below_drewN hbw _⟩
      · obtain rfl : n = k := by omega
        have HE : Hid (xs = ys) := by
          have := HR.out
          rwa [List.take_of_length_le (by rw [h.len]; omega), List.take_of_length_le (by rw [h'.len]; omega)] at this
        go_wp2
        go_ret
        exact ⟨ret_bool (by rw [HE.out]; simp), hbw⟩
  · have HE : Hid (xs ≠ ys) := by rintro rfl; exact hnn (h.len.symm.trans h'.len)
    have hne : ((n : Int) != (n' : Int)) = true := by simp; omega
    go_enter Try.func26, Try.ntmps26
    go_wp2
    go_ret
    exact ⟨ret_bool (by simp [HE.out]), Below.refl _ _⟩

end Go.Proofs.Ytijocgijnbcefaa
