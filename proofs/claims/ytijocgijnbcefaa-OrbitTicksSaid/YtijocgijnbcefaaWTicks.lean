/-
  OrbitTicks: the walk.
-/
import Derived.Test.YtijocgijnbcefaaOrbX
import Derived.Test.YtijocgijnbcefaaOrbE
namespace Go.Proofs.Ytijocgijnbcefaa
open Go.ChangeShapes Go.WideShapes Go.ChangeAt Go.RowKit

set_option maxRecDepth 100000 in
set_option maxHeartbeats 1000000 in
theorem orbitTicks_any (w : World) (A : Option Addr) (n cap : Nat) (xs : List Int) (h : Sl csI 1 w w.heap.size A n cap xs) (hx : ∀ x ∈ xs, I64 x) (b0 b1 b2 b3 b4 b5 : Int) (_z : I64 b0 ∧ I64 b1 ∧ I64 b2 ∧ I64 b3 ∧ I64 b4 ∧ I64 b5) :
    Calls Try.prog 6 #[.slice A n cap, .agg #[.int .i64 b0, .int .i64 b1, .int .i64 b2, .int .i64 b3, .int .i64 b4, .int .i64 b5]] w fun e w' => e = .returned (.bool true) ∧ Below w.heap.size w w' := by
  go_enter Try.func6, Try.ntmps6
  have bX := Blk.new w 34 #[.int .i64 b0, .int .i64 b1, .int .i64 b2, .int .i64 b3, .int .i64 b4, .int .i64 b5]
  have hb0 : Below w.heap.size w (w.alloc (.cells #[.int .i64 b0, .int .i64 b1, .int .i64 b2, .int .i64 b3, .int .i64 b4, .int .i64 b5] 34)) := (Below.refl _ _).alloc (Nat.le_refl _) _
  have hs0 : w.heap.size < (w.alloc (.cells #[.int .i64 b0, .int .i64 b1, .int .i64 b2, .int .i64 b3, .int .i64 b4, .int .i64 b5] 34)).heap.size := by simp
  go_wp2_with fail
  obtain ⟨W, hW⟩ : ∃ W, w.alloc (.cells #[.int .i64 b0, .int .i64 b1, .int .i64 b2, .int .i64 b3, .int .i64 b4, .int .i64 b5] 34) = W := ⟨_, rfl⟩
  rw [hW] at bX hb0 hs0 ⊢
  clear hW
  refine (table_any W A n cap xs ((h.below hb0 (Nat.le_refl _)).more (by omega)) hx).mono ?_
  rintro e w1 ⟨A1, n1, cap1, ts, rfl, hT, hG, hn, hb1⟩
  have hbw := hb0.trans (hb1.mono (by omega))
  have bX1 := bX.below hb1 hs0
  have hs1 : w.heap.size < w1.heap.size := by have := hb1.size; omega
  have c0 := Gr.blk bX1 (H := w1.heap.size) hs1 0
  have c1 := Gr.blk bX1 (H := w1.heap.size) hs1 1
  have c2 := Gr.blk bX1 (H := w1.heap.size) hs1 2
  have c4 := Gr.blk bX1 (H := w1.heap.size) hs1 4
  have c5 := Gr.blk bX1 (H := w1.heap.size) hs1 5
  simp only [List.getElem?_toArray, List.getElem?_cons_zero, List.getElem?_cons_succ] at c0 c1 c2 c4 c5
  have hsl := hT.sl
  have hF := hG.formed
  obtain ⟨T, hTk⟩ : ∃ T, ticks b0 b1 b2 b4 b5 ts = T := ⟨_, rfl⟩
  have k1 : ∀ w', Sl csW 6 w' w1.heap.size A1 n1 cap1 ts → w1.heap.size ≤ w'.heap.size → Calls Try.prog 22 #[.slice A1 n1 cap1, .int .i64 b0, .int .i64 b1, .int .i64 b2, .int .i64 b4, .int .i64 b5] w' fun e w'' => e = .returned (.int .i64 T) ∧ Below w'.heap.size w' w'' := fun w' hs hB => by
    have := ticks_any w1.heap.size A1 n1 cap1 ts b0 b1 b2 b4 b5 w' hs hB hF (by omega); rwa [hTk] at this
  have k2 : ∀ w', Sl csW 6 w' w1.heap.size A1 n1 cap1 ts → w1.heap.size ≤ w'.heap.size → Calls Try.prog 23 #[.slice A1 n1 cap1, .int .i64 b0, .int .i64 b1, .int .i64 b2, .int .i64 b4, .int .i64 b5] w' fun e w'' => e = .returned (.int .i64 T) ∧ Below w'.heap.size w' w'' := fun w' hs hB => by
    have := ticks9_any w1.heap.size A1 n1 cap1 ts b0 b1 b2 b4 b5 w' hs hB hF (by omega); rwa [hTk] at this
  clear hTk
  go_wp2
  refine wp_region_gr w1.heap.size (by kernel_rfl) (by kernel_rfl) ?_
  repeat (go_big_quiet_step (first | (go_at_call 22; exact Calls.gr_of (Nat.le_refl _) (k1 _ (Gr.sl hsl (Nat.le_refl _)) (Gr.size (Nat.le_refl _)))) | (go_at_call 23; exact Calls.gr_of (Nat.le_refl _) (k2 _ (Gr.sl hsl (Nat.le_refl _)) (Gr.size (Nat.le_refl _)))) | (go_at_call 15; exact Calls.gr_of (Nat.le_refl _) (lives_any _))))
  refine wpQuiet_nil ?_
  rintro w2 ⟨g, hg⟩
  have hb2 : Below w1.heap.size w1 w2 := by rw [hg]; exact Gr.below
  go_wp2
  go_ret
  exact ⟨rfl, hbw.trans (hb2.mono (by omega))⟩

end Go.Proofs.Ytijocgijnbcefaa
