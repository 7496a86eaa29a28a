/-
  Small functions of chapter 9 that call others, or whose statements draw their order.
-/
import Derived.Test.YtijocgijnbcefaaOrbA
namespace Go.Proofs.Ytijocgijnbcefaa
open Go.ChangeShapes Go.WideShapes Go.ChangeAt Go.RowKit

theorem meet_any (v t : Win) (w : World) :
    Calls Try.prog 41 #[v.val, t.val] w fun e w' => e = .returned (.bool (v.meet t)) ∧ Below w.heap.size w w' := by
  unfold Win.val
  go_enter Try.func41, Try.ntmps41
  go_wp2_with fail
  refine (key_any v _ _ _ _).mono ?_
  rintro e w1 ⟨rfl, hb⟩
  have hb' : Below w.heap.size w w1 := (((Below.refl _ _).alloc (Nat.le_refl _) _).alloc (by simp) _).trans (hb.mono (by simp; omega))
  obtain ⟨hc, hf⟩ := bcell hb
  simp only [World.size_alloc] at hc hf
  clear hb
  by_cases hk : v.key t.kind t.a t.b = true
  all_goals
    go_wp2
  all_goals
    go_ret
    exact ⟨ret_bool (by simp [Win.meet, *]; try omega), hb'⟩

theorem ceil_any (a b : Int) (w : World) (ha : 0 ≤ a) (ha2 : a ≤ 1000000) (hb : 1 ≤ b) (hb2 : b ≤ 1000000) :
    Calls Try.prog 59 #[.int .i64 a, .int .i64 b] w fun e w' => e = .returned (.int .i64 (ceil a b)) ∧ ∃ n, w' = w.drewN n := by
  have h1 : 0 ≤ a / b := Int.ediv_nonneg ha (by omega)
  have h2 : a / b ≤ a := Int.ediv_le_self _ ha
  have h3 : 0 ≤ a % b := Int.emod_nonneg _ (by omega)
  have h4 : a % b < b := Int.emod_lt_of_pos _ (by omega)
  go_enter Try.func59, Try.ntmps59
  go_wp2
  go_quiet (fail)
  go_wp2
  all_goals (go_ret; exact ⟨ret_int (by unfold ceil; omega), _, rfl⟩)

theorem ends_any (t : Win) (w : World) (ht : t.Formed) :
    Calls Try.prog 57 #[t.val] w fun e w' => e = .returned (.tuple #[.int .i64 t.ends.1, .int .i64 t.ends.2.1, .bool t.ends.2.2]) ∧ Below w.heap.size w w' := by
  obtain ⟨b1, b2⟩ : 0 ≤ t.b ∧ t.b ≤ 31 := by unfold Win.Formed at ht; omega
  clear ht
  unfold Win.val
  go_enter Try.func57, Try.ntmps57
  go_wp2
  all_goals go_quiet (fail)
  all_goals go_wp2
  all_goals go_ret3
  all_goals exact ⟨by simp at *; simp [Win.ends, *], below_drewN ((Below.refl _ _).alloc (Nat.le_refl _) _) _⟩

theorem other_any (t : Win) (node : Int) (w : World) (ht : t.Formed) :
    Calls Try.prog 47 #[t.val, .int .i64 node] w fun e w' => e = .returned (.tuple #[.int .i64 (t.other node).1, .bool (t.other node).2]) ∧ Below w.heap.size w w' := by
  obtain ⟨b1, b2⟩ : 0 ≤ t.b ∧ t.b ≤ 31 := by unfold Win.Formed at ht; omega
  clear ht
  unfold Win.val
  go_enter Try.func47, Try.ntmps47
  go_wp2
  all_goals go_ret2
  all_goals exact ⟨by simp at *; simp [Win.other, *], (Below.refl _ _).alloc (Nat.le_refl _) _⟩

theorem hop_any (t : Win) (frm dst tick size : Int) (w : World) (ht : t.Formed) (h1 : 0 ≤ tick) (h2 : tick ≤ 1000000000) (h3 : 1 ≤ size) (h4 : size ≤ 1000000) :
    Calls Try.prog 51 #[t.val, .int .i64 frm, .int .i64 dst, .int .i64 tick, .int .i64 size] w fun e w' => e = .returned (.tuple #[.int .i64 (t.hop frm dst tick size).1, .bool (t.hop frm dst tick size).2]) ∧ Below w.heap.size w w' := by
  obtain ⟨b1, b2, b3, b4, b5⟩ : 0 ≤ t.lo ∧ t.lo ≤ 1000000 ∧ 0 ≤ t.hi ∧ t.hi ≤ 1000000 ∧ t.rate ≤ 1000 := by unfold Win.Formed at ht; omega
  obtain ⟨hr, hr0⟩ := Win.link_rate ht
  go_enter Try.func51, Try.ntmps51
  unfold Win.val
  go_wp2_with fail
  refine (ends_any t _ ht).mono ?_
  rintro e w1 ⟨rfl, hb⟩
  have hb' : Below w.heap.size w w1 := ((Below.refl _ _).alloc (Nat.le_refl _) _).trans (hb.mono (by simp))
  obtain ⟨hc, hf⟩ := bcell hb
  simp only [World.size_alloc] at hc hf
  have c3 : w1.cell? ⟨w.heap.size, 3, none⟩ = some (.int .i64 t.lo) := by rw [hc _ _ (by omega)]; simp
  have c4 : w1.cell? ⟨w.heap.size, 4, none⟩ = some (.int .i64 t.hi) := by rw [hc _ _ (by omega)]; simp
  have c5 : w1.cell? ⟨w.heap.size, 5, none⟩ = some (.int .i64 t.rate) := by rw [hc _ _ (by omega)]; simp
  clear hc hf hb
  obtain ⟨x, hx⟩ : ∃ x, t.ends.1 = x := ⟨_, rfl⟩
  obtain ⟨y, hy⟩ : ∃ x, t.ends.2.1 = x := ⟨_, rfl⟩
  obtain ⟨L, hL⟩ : ∃ x, t.ends.2.2 = x := ⟨_, rfl⟩
  rw [hx, hy, hL]
  rw [hL] at hr
  have HRr := Lib.hid hr
  clear hr
  have Hx := Lib.hid hx
  have Hy := Lib.hid hy
  have HL := Lib.hid hL
  clear hx hy hL
  have q1 := ceil_bd (a := size) (b := t.rate) (by omega) hr0
  obtain ⟨q1, q2⟩ := q1
  go_wp2
  all_goals first
    | (go_ret2; exact ⟨by rw [Win.hop_no Hx.out Hy.out HL.out (by cases L <;> simp at * <;> omega)]; rfl, hb'⟩)
    | (have hh : Hid (t.hop frm dst tick size = _) := Win.hop_yes (tick := tick) (size := size) (dst := dst) (frm := frm) Hx.out Hy.out HL.out (by cases L <;> simp at * <;> omega)
       have hr := HRr.out (by cases L <;> simp at *)
       go_quiet ((go_at_call 59; exact Calls.quiet_of (ceil_any _ _ _ (by omega) (by omega) hr (by omega))))
       go_wp2
       all_goals
         go_quiet (fail)
         go_wp2
         go_ret2
         refine ⟨?_, below_drewN (below_drewN hb' _) _⟩
         rw [hh.out]
         first
         | (rw [Int.max_eq_right (by omega)]; rfl)
         | (rw [Int.max_eq_left (by omega)]; rfl))

end Go.Proofs.Ytijocgijnbcefaa
