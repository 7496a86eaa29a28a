/-
  The section's examples: example, lives.
-/
import Derived.Test.YtijocgijnbcefaaOrbEx
import Derived.Test.YtijocgijnbcefaaOrbG
import Derived.Test.YtijocgijnbcefaaOrbH
import Derived.Test.YtijocgijnbcefaaOrbN
import Derived.Test.YtijocgijnbcefaaMix
namespace Go.Proofs.Ytijocgijnbcefaa
open Go.ChangeShapes Go.WideShapes Go.ChangeAt Go.RowKit

theorem example_any (w : World) : Calls Try.prog 42 #[] w fun e w' => e = .returned (.slice (some ⟨w.heap.size, 0, none⟩) 3 3) ∧ Sl csW 6 w' (w.heap.size + 1) (some ⟨w.heap.size, 0, none⟩) 3 3 exT ∧ w.heap.size + 1 ≤ w'.heap.size ∧ Below w.heap.size w w' := by
  go_enter Try.func42, Try.ntmps42
  go_wp2
  go_ret
  refine ⟨rfl, ?_, by simp, (Below.refl _ _).alloc (Nat.le_refl _) _⟩
  exact Sl.lit (cs := csW) w 31 exT (by intro x _; rfl) (by decide)

theorem lit2 (w : World) (x y : Int) : Sl csI 1 (w.alloc (.cells #[.int .i64 x, .int .i64 y] 3)) (w.heap.size + 1) (some ⟨w.heap.size, 0, none⟩) 2 2 [x, y] := Sl.lit (cs := csI) w 3 [x, y] (by intro x _; rfl) (by simp)
theorem lit3 (w : World) (x y z : Int) : Sl csI 1 (w.alloc (.cells #[.int .i64 x, .int .i64 y, .int .i64 z] 3)) (w.heap.size + 1) (some ⟨w.heap.size, 0, none⟩) 3 3 [x, y, z] := Sl.lit (cs := csI) w 3 [x, y, z] (by intro x _; rfl) (by simp)

theorem exTicks {B : Nat} {A : Option Addr} (w : World) (hS : Sl csW 6 w B A 3 3 exT) (hB : B ≤ w.heap.size) :
    Calls Try.prog 22 #[.slice A 3 3, .int .i64 1, .int .i64 0, .int .i64 0, .int .i64 15, .int .i64 100] w fun e w' => e = .returned (.int .i64 5) ∧ Below w.heap.size w w' := by
  have h := ticks_any B A 3 3 exT 1 0 0 15 100 w hS hB exT_formed (by omega)
  rwa [show ticks 1 0 0 15 100 exT = 5 from by decide] at h

set_option maxRecDepth 100000 in
set_option maxHeartbeats 2000000 in
theorem lives_any (w : World) : Calls Try.prog 15 #[] w fun e w' => e = .returned (.bool true) ∧ Below w.heap.size w w' := by
  go_enter Try.func15, Try.ntmps15
  go_wp2_with fail
  refine (example_any w).mono ?_
  rintro e w1 ⟨rfl, hS1, hz1, hb1⟩
  go_wp2_with fail
  refine (arrival_any (w.heap.size + 1) _ 3 3 exT 0 0 0 50 w1 hS1 hz1 exT_formed (by omega) (by omega) (by omega) (by omega) (by omega) (by omega)).mono ?_
  rintro e w2 ⟨a, l, ok, A2, cap2, hsp, rfl, hL2, hb2⟩
  obtain ⟨rfl, rfl, rfl⟩ := exArr0 hsp
  have hS2 := hS1.below hb2 hz1
  have hz2 := hb2.size
  go_wp2_with fail
  refine (arrival_any (w.heap.size + 1) _ 3 3 exT 0 1 0 50 w2 hS2 (by omega) exT_formed (by omega) (by omega) (by omega) (by omega) (by omega) (by omega)).mono ?_
  rintro e w3 ⟨a, l, ok, A3, cap3, hsp3, rfl, hL3, hb3⟩
  obtain ⟨rfl, rfl, rfl⟩ := exArr1 hsp3
  have hS3 := hS2.below hb3 (by omega)
  have hz3 := hb3.size
  have hL23 := hL2.below hb3 (Nat.le_refl _)
  go_wp2_with fail
  refine (at_any (w.heap.size + 1) _ 3 3 exT 1 1 1 39 w3 hS3 (by omega)).mono ?_
  rintro e w4 ⟨rfl, hb4⟩
  have hat : atOf exT 1 1 1 39 = some ⟨1, 1, 1, 25, 40, 20⟩ := by decide
  rw [hat]
  have hS4 := hS3.below hb4 (by omega)
  have hz4 := hb4.size
  have hL24 := hL23.below hb4 hz3
  have hL34 := hL3.below hb4 (Nat.le_refl _)
  have hb04 := hb1.trans ((hb2.trans ((hb3.trans (hb4.mono hz3)).mono hz2)).mono (by omega))
  clear hS1 hS2 hS3 hL2 hL23 hL3 hb1 hb2 hb3 hb4
  unfold found
  simp only [Option.getD_some, Option.isSome_some]
  unfold Win.val
  go_wp2
  have bX := Blk.new w4 31 #[.int .i64 1, .int .i64 1, .int .i64 1, .int .i64 25, .int .i64 40, .int .i64 20]
  have hb45 : Below w.heap.size w (w4.alloc (.cells #[.int .i64 1, .int .i64 1, .int .i64 1, .int .i64 25, .int .i64 40, .int .i64 20] 31)) := hb04.alloc (by omega) _
  have hbX : Below w4.heap.size w4 (w4.alloc (.cells #[.int .i64 1, .int .i64 1, .int .i64 1, .int .i64 25, .int .i64 40, .int .i64 20] 31)) := (Below.refl _ _).alloc (Nat.le_refl _) _
  have hsX : w4.heap.size < (w4.alloc (.cells #[.int .i64 1, .int .i64 1, .int .i64 1, .int .i64 25, .int .i64 40, .int .i64 20] 31)).heap.size := by simp
  obtain ⟨wb, hwb⟩ : ∃ wb, w4.alloc (.cells #[.int .i64 1, .int .i64 1, .int .i64 1, .int .i64 25, .int .i64 40, .int .i64 20] 31) = wb := ⟨_, rfl⟩
  rw [hwb] at bX hb45 hbX hsX ⊢
  refine wp_region_mix (by kernel_rfl) ?_
  change AtK _ _ _ _ _ wb.drew
  have hbd : Below w4.heap.size w4 wb.drew := below_drewN hbX 1
  have hb5 : Below w.heap.size w wb.drew := below_drewN hb45 1
  have bX5 := bX.drew
  have hsd : w4.heap.size < wb.drew.heap.size := hsX
  obtain ⟨w5, hw5⟩ : ∃ w5, wb.drew = w5 := ⟨_, rfl⟩
  rw [hw5] at hbd hb5 bX5 hsd ⊢
  clear bX hb45 hbX hsX hwb hw5
  have hS5 := hS4.below hbd (by omega)
  have hL25 := hL24.below hbd (by omega)
  have hL35 := hL34.below hbd (by omega)
  clear hS4 hL24 hL34 hbd
  refine AtK.lone 11 0 _ _ (by kernel_rfl) ?_
  simp only [List.take_succ_cons, List.take_zero, List.drop_zero]
  go_wp2_with fail
  refine (check_any (w.heap.size + 1) _ 3 3 exT _ hS5 (by omega)).mono ?_
  rintro e w6 ⟨rfl, hb6⟩
  rw [exCheck]
  have hz6 := hb6.size
  have hS6 := hS5.below hb6 (by omega)
  have hL26 := hL25.below hb6 (by omega)
  have hL36 := hL35.below hb6 (by omega)
  have bX6 := bX5.below hb6 (by omega)
  clear hS5 hL25 hL35 bX5
  go_wp2
  refine AtK.move (by kernel_rfl) _ _ rfl rfl (by kernel_rfl) ?_
  refine AtK.lone 11 12 _ _ (by kernel_rfl) ?_
  simp only [List.take_succ_cons, List.take_zero, List.drop_succ_cons, List.drop_zero]
  go_wp2_with fail
  have hl2 := lit2 w6 0 12
  refine (same_any w2.heap.size (w6.heap.size + 1) A2 _ 2 2 cap2 2 [0, 12] [0, 12] _ (hL26.below (B' := w6.heap.size) ((Below.refl _ _).alloc (Nat.le_refl _) _) (by omega)) hl2 (by simp; omega) (by simp)).mono ?_
  rintro e w7 ⟨rfl, hb7⟩
  have hb67 : Below w6.heap.size w6 w7 := ((Below.refl _ _).alloc (Nat.le_refl _) _).trans (hb7.mono (by simp))
  have hz7 := hb67.size
  have hS7 := hS6.below hb67 (by omega)
  have hL37 := hL36.below hb67 (by omega)
  have bX7 := bX6.below hb67 (by omega)
  clear hS6 hL26 hL36 bX6 hl2 hb7
  simp only [decide_true]
  go_wp2
  refine AtK.move (by kernel_rfl) _ _ rfl rfl (by kernel_rfl) ?_
  refine AtK.lone 2 24 _ _ (by kernel_rfl) ?_
  simp only [List.take_succ_cons, List.take_zero, List.drop_succ_cons, List.drop_zero]
  go_wp2_with fail
  have hl3 := lit3 w7 0 1 13
  refine (same_any w3.heap.size (w7.heap.size + 1) A3 _ 3 3 cap3 3 [0, 1, 13] [0, 1, 13] _ (hL37.below (B' := w7.heap.size) ((Below.refl _ _).alloc (Nat.le_refl _) _) (by omega)) hl3 (by simp; omega) (by simp)).mono ?_
  rintro e w8 ⟨rfl, hb8⟩
  have hb78 : Below w7.heap.size w7 w8 := ((Below.refl _ _).alloc (Nat.le_refl _) _).trans (hb8.mono (by simp))
  have hz8 := hb78.size
  have hS8 := hS7.below hb78 (by omega)
  have bX8 := bX7.below hb78 (by omega)
  have hb08 : Below w.heap.size w w8 := hb5.trans ((hb6.trans ((hb67.trans (hb78.mono hz7)).mono hz6)).mono (by omega))
  clear hS7 hL37 bX7 hl3 hb8
  simp only [decide_true]
  go_wp2
  have x0 := Gr.blk bX8 (H := w8.heap.size) (by omega) 0
  have x1 := Gr.blk bX8 (H := w8.heap.size) (by omega) 1
  have x2 := Gr.blk bX8 (H := w8.heap.size) (by omega) 2
  have x3 := Gr.blk bX8 (H := w8.heap.size) (by omega) 3
  have x4 := Gr.blk bX8 (H := w8.heap.size) (by omega) 4
  have x5 := Gr.blk bX8 (H := w8.heap.size) (by omega) 5
  simp only [List.getElem?_toArray, List.getElem?_cons_zero, List.getElem?_cons_succ] at x0 x1 x2 x3 x4 x5
  obtain ⟨b, o, t, hbo, hbb, ht, hW⟩ := hS8.win (k := 2) (by omega)
  obtain ⟨rfl, rfl⟩ : w.heap.size = b ∧ 0 = o := by simpa using hbo
  obtain rfl : (⟨1, 1, 1, 25, 40, 20⟩ : Win) = t := by simpa [exT] using ht
  obtain ⟨c0, c1, c2, c3, c4, c5⟩ := hW w8 (Below.refl _ _)
  have c0 := Gr.cell (H := w8.heap.size) (show w8.cell? ⟨w.heap.size, 12, none⟩ = some (.int .i64 1) from c0) (by dsimp only; omega)
  have c1 := Gr.cell (H := w8.heap.size) (show w8.cell? ⟨w.heap.size, 13, none⟩ = some (.int .i64 1) from c1) (by dsimp only; omega)
  have c2 := Gr.cell (H := w8.heap.size) (show w8.cell? ⟨w.heap.size, 14, none⟩ = some (.int .i64 1) from c2) (by dsimp only; omega)
  have c3 := Gr.cell (H := w8.heap.size) (show w8.cell? ⟨w.heap.size, 15, none⟩ = some (.int .i64 25) from c3) (by dsimp only; omega)
  have c4 := Gr.cell (H := w8.heap.size) (show w8.cell? ⟨w.heap.size, 16, none⟩ = some (.int .i64 40) from c4) (by dsimp only; omega)
  have c5 := Gr.cell (H := w8.heap.size) (show w8.cell? ⟨w.heap.size, 17, none⟩ = some (.int .i64 20) from c5) (by dsimp only; omega)
  clear hbo ht hW
  refine AtK.gr w8.heap.size (by kernel_rfl) ?_
  simp only [List.drop_succ_cons, List.drop_zero]
  repeat (go_big_quiet_step ((go_at_call 22; exact Calls.gr_of (Nat.le_refl _) (exTicks _ (Gr.sl hS8 (by omega)) (Nat.le_trans (by omega) (Gr.size (Nat.le_refl _)))))))
  refine wpQuiet_nil ?_
  rintro w9 ⟨g, hg⟩
  have hb9 : Below w8.heap.size w8 w9 := by rw [hg]; exact Gr.below
  have hb09 : Below w.heap.size w w9 := hb08.trans (hb9.mono (by omega))
  clear c0 c1 c2 c3 c4 c5 x0 x1 x2 x3 x4 x5 hg
  go_wp2
  go_ret
  exact ⟨rfl, hb09⟩

end Go.Proofs.Ytijocgijnbcefaa
