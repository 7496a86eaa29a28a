/-
  What orbit.Check calls: cmp.Compare, cmp.Or, the two closures, slices.ContainsFunc, slices.IsSortedFunc.
-/
import Derived.StillTailTactics
import Derived.Test.YtijocgijnbcefaaOrbB
import Derived.Test.YtijocgijnbcefaaOrbC
namespace Go.Proofs.Ytijocgijnbcefaa
open Go.ChangeShapes Go.WideShapes Go.ChangeAt Go.RowKit

def cmpI (a b : Int) : Int := if a < b then -1 else if b < a then 1 else 0
def orI : List Int → Int
  | [] => 0
  | x :: l => if x = 0 then orI l else x
theorem cmpI_bd (a b : Int) : -1 ≤ cmpI a b ∧ cmpI a b ≤ 1 := by unfold cmpI; split <;> (try split) <;> omega

theorem isNaN_any (a : Int) (w : World) : Calls Try.prog 54 #[.int .i64 a] w fun e w' => e = .returned (.bool false) ∧ w = w' := by
  go_enter Try.func54, Try.ntmps54
  go_wp2
  go_ret
  exact ⟨by simp, rfl⟩

theorem compare_any (a b : Int) (w : World) : Calls Try.prog 38 #[.int .i64 a, .int .i64 b] w fun e w' => e = .returned (.int .i64 (cmpI a b)) ∧ w = w' := by
  go_enter Try.func38, Try.ntmps38
  go_wp2_with (go_at_call 54; refine (isNaN_any _ _).mono ?_; rintro e w' ⟨rfl, rfl⟩)
  all_goals (go_ret; exact ⟨ret_int (by unfold cmpI; (try split) <;> (try split) <;> omega), rfl⟩)

theorem or_any (B : Nat) (A : Option Addr) (n cap : Nat) (xs : List Int) (w : World) (h : Sl csI 1 w B A n cap xs) :
    Calls Try.prog 37 #[.slice A n cap] w fun e w' => e = .returned (.int .i64 (orI xs)) ∧ w = w' := by
  have hn := h.ncap
  have hc := h.cmax
  go_enter Try.func37, Try.ntmps37
  go_wp2
  go_loop [5, 8] (fun v i => ∃ k : Nat, k ≤ n ∧ i = .int .i64 k ∧ Hid (orI xs = orI (xs.drop k))) (fun _ i => n - (intOf i).toNat)
  case atStart => exact ⟨0, Nat.zero_le _, rfl, rfl⟩
  case round =>
    obtain ⟨k, hk, rfl, HR⟩ := hrel
    by_cases hlt : k < n
    · obtain ⟨b, o, y, rfl, hb, hy, hcell⟩ := h.int_at hlt
      have HD := Lib.hid (drop_cons hy)
      clear hy h
      by_cases hxy : y = 0
      · subst hxy
        go_wp2
        go_round
        case rel => exact ⟨k + 1, by omega, by go_num, by rw [Hid, HR.out, HD.out]; simp [orI]⟩
        case measure => simp [intOf]; omega
      · have hne : (y != 0) = true := by simpa using hxy
        go_wp2
        go_ret
        exact ⟨ret_int (by rw [HR.out, HD.out]; simp [orI, hxy]), rfl⟩
    · obtain rfl : n = k := by omega
      have hl := h.len
      have HE : Hid (orI xs = 0) := by
        have : xs.drop n = [] := by rw [List.drop_eq_nil_iff]; omega
        rw [Hid, HR.out, this]; rfl
      clear hl h
      go_wp2
      go_ret
      exact ⟨ret_int HE.out.symm, rfl⟩

theorem chk1_any (t : Win) (w : World) :
    Calls Try.prog 33 #[t.val] w fun e w' => e = .returned (.bool (!t.formed)) ∧ Below w.heap.size w w' := by
  unfold Win.val
  go_enter Try.func33, Try.ntmps33
  go_wp2_with fail
  refine (formed_any t _).mono ?_
  rintro e w1 ⟨rfl, hb⟩
  have hb' : Below w.heap.size w w1 := ((Below.refl _ _).alloc (Nat.le_refl _) _).trans (hb.mono (by simp))
  clear hb
  go_wp2
  go_ret
  exact ⟨rfl, hb'⟩

/-- the order of windows as a number -/
def Win.cmp (v t : Win) : Int := orI [cmpI v.lo t.lo, cmpI v.kind t.kind, cmpI v.a t.a, cmpI v.b t.b]
theorem Win.cmp_neg (v t : Win) : (v.cmp t < 0) ↔ v.Before t := by
  simp only [Win.cmp, orI, cmpI, Win.Before]
  repeat' split
  all_goals omega

theorem chk2_any (v t : Win) (w : World) :
    Calls Try.prog 36 #[v.val, t.val] w fun e w' => e = .returned (.int .i64 (v.cmp t)) ∧ Below w.heap.size w w' := by
  unfold Win.val
  go_enter Try.func36, Try.ntmps36
  go_wp2
  have b1 := (Blk.new w 31 #[.int .i64 v.kind, .int .i64 v.a, .int .i64 v.b, .int .i64 v.lo, .int .i64 v.hi, .int .i64 v.rate]).alloc (.cells #[.int .i64 t.kind, .int .i64 t.a, .int .i64 t.b, .int .i64 t.lo, .int .i64 t.hi, .int .i64 t.rate] 31)
  have b2 := Blk.new (w.alloc (.cells #[.int .i64 v.kind, .int .i64 v.a, .int .i64 v.b, .int .i64 v.lo, .int .i64 v.hi, .int .i64 v.rate] 31)) 31 #[.int .i64 t.kind, .int .i64 t.a, .int .i64 t.b, .int .i64 t.lo, .int .i64 t.hi, .int .i64 t.rate]
  have hb0 : Below w.heap.size w ((w.alloc (.cells #[.int .i64 v.kind, .int .i64 v.a, .int .i64 v.b, .int .i64 v.lo, .int .i64 v.hi, .int .i64 v.rate] 31)).alloc (.cells #[.int .i64 t.kind, .int .i64 t.a, .int .i64 t.b, .int .i64 t.lo, .int .i64 t.hi, .int .i64 t.rate] 31)) := ((Below.refl _ _).alloc (Nat.le_refl _) _).alloc (by simp) _
  have hs0 : ((w.alloc (.cells #[.int .i64 v.kind, .int .i64 v.a, .int .i64 v.b, .int .i64 v.lo, .int .i64 v.hi, .int .i64 v.rate] 31)).alloc (.cells #[.int .i64 t.kind, .int .i64 t.a, .int .i64 t.b, .int .i64 t.lo, .int .i64 t.hi, .int .i64 t.rate] 31)).heap.size = w.heap.size + 2 := by simp
  simp only [World.size_alloc] at b2
  generalize (w.alloc (.cells #[.int .i64 v.kind, .int .i64 v.a, .int .i64 v.b, .int .i64 v.lo, .int .i64 v.hi, .int .i64 v.rate] 31)).alloc (.cells #[.int .i64 t.kind, .int .i64 t.a, .int .i64 t.b, .int .i64 t.lo, .int .i64 t.hi, .int .i64 t.rate] 31) = W2 at *
  have p0 := Gr.blk b1 (H := W2.heap.size) b1.lt 0
  have p1 := Gr.blk b1 (H := W2.heap.size) b1.lt 1
  have p2 := Gr.blk b1 (H := W2.heap.size) b1.lt 2
  have p3 := Gr.blk b1 (H := W2.heap.size) b1.lt 3
  have q0 := Gr.blk b2 (H := W2.heap.size) b2.lt 0
  have q1 := Gr.blk b2 (H := W2.heap.size) b2.lt 1
  have q2 := Gr.blk b2 (H := W2.heap.size) b2.lt 2
  have q3 := Gr.blk b2 (H := W2.heap.size) b2.lt 3
  simp only [List.getElem?_toArray, List.getElem?_cons_zero, List.getElem?_cons_succ] at p0 p1 p2 p3 q0 q1 q2 q3
  clear b1 b2
  have Hs0 := Lib.hid hs0
  clear hs0
  refine wp_region_gr_tail W2.heap.size 20 (by kernel_rfl) (by kernel_rfl) ?_
  simp only [List.take_succ_cons, List.take_zero, List.drop_succ_cons, List.drop_zero]
  repeat (go_big_quiet_step ((go_at_call 38; exact Calls.gr_same (compare_any _ _ _))))
  refine wpQuiet_nil ?_
  rintro w1 ⟨g, hg⟩
  have hb1 : Below W2.heap.size W2 w1 := by rw [hg]; exact Gr.below
  clear hg p0 p1 p2 p3 q0 q1 q2 q3
  have hbw := hb0.trans (hb1.mono hb0.size)
  have hS := Sl.lit (cs := csI) (s := 1) w1 3 [cmpI v.lo t.lo, cmpI v.kind t.kind, cmpI v.a t.a, cmpI v.b t.b] (fun _ _ => rfl) (by simp)
  have HS : Hid _ := hS
  clear hS
  go_wp2_with fail
  refine (or_any _ _ _ _ [cmpI v.lo t.lo, cmpI v.kind t.kind, cmpI v.a t.a, cmpI v.b t.b] _ HS.out).mono ?_
  rintro e w2 ⟨rfl, rfl⟩
  go_wp2
  go_ret
  exact ⟨rfl, hbw.alloc hbw.size _⟩

end Go.Proofs.Ytijocgijnbcefaa
