/-
  ApproveSigns: the walk.
-/
import Derived.Test.YtcljmnbjejcdaaaAppL
namespace Go.Proofs.Ytcljmnbjejcdaaa
open Go.ChangeShapes Go.WideShapes Go.ChangeAt Go.RowKit

set_option maxRecDepth 100000 in
set_option maxHeartbeats 2000000 in
theorem approveSigns_any (w : World) (A : Option Addr) (n cap : Nat) (ps : List Per) (h : Sl csP 2 w w.heap.size A n cap ps) (hp : ∀ p ∈ ps, U64 p.secret) (_ : ∀ p ∈ ps, I64 p.centre) (i : Int) (_ : I64 i) (a : App) (_ : I64 a.person) (_ : U64 a.tag) (C : Option Addr) (m c : Nat) (xs : List UInt8) (hs : Sl csB 1 w w.heap.size C m c xs) :
    Calls Try.prog 3 #[.slice A n cap, .int .i64 i, a.val, .slice C m c] w fun e w' => e = .returned (.bool true) ∧ Below w.heap.size w w' := by
  have hnc := h.ncap
  have hcm := h.cmax
  have hmc := hs.ncap
  have hcc := hs.cmax
  have hb0 : Below w.heap.size w (w.alloc (.cells #[.int .i64 a.person, .int .u64 (a.tag : Int)] 25)) := (Below.refl _ _).alloc (Nat.le_refl _) _
  have bX := Blk.new w 25 #[.int .i64 a.person, .int .u64 (a.tag : Int)]
  have hs0 : (w.alloc (.cells #[.int .i64 a.person, .int .u64 (a.tag : Int)] 25)).heap.size ≥ w.heap.size + 1 := by simp
  have hU := small_any (w.alloc (.cells #[.int .i64 a.person, .int .u64 (a.tag : Int)] 25)) A n cap none 0 0 C m c (by omega) (by omega) (by omega)
  by_cases hsm : n ≤ 30 ∧ m ≤ 600
  · rw [decide_eq_true (show n ≤ 30 ∧ 0 ≤ 30 ∧ m ≤ 600 by omega)] at hU
    have hm : m ≤ 1000000000000 := by omega
    unfold App.val
    go_enter Try.func3, Try.ntmps3
    go_wp2_with fail
    refine hU.mono ?_
    rintro e w1 ⟨rfl, rfl⟩
    clear hU
    generalize hw0 : w.alloc (.cells #[.int .i64 a.person, .int .u64 (a.tag : Int)] 25) = u0 at *
    have h1 := h.below hb0 (Nat.le_refl _)
    have s1 := hs.below hb0 (Nat.le_refl _)
    go_wp2_with fail
    refine (sign_any w.heap.size A n cap ps i C m c xs u0 h1 hp (by omega) s1 hm).mono ?_
    rintro e v1 ⟨rfl, hv1⟩
    have hz1 := hv1.size
    have HV := Lib.hid (fun w' (hC : Below w.heap.size w w') => valid_any w.heap.size A n cap ps a C m c xs w' (h.below hC (Nat.le_refl _)) hp hC.size (hs.below hC (Nat.le_refl _)) hm)
    have HR := Lib.hid (fun w' (hC : Below w.heap.size w w') => validR_any w.heap.size A n cap ps a C m c xs w' (h.below hC (Nat.le_refl _)) hp hC.size (hs.below hC (Nat.le_refl _)) hm)
    generalize validB ps a xs = V at *
    have hVV : (V == V) = true := by simp
    by_cases hin : inP ps i = true
    · have HS : Hid (signV ps i xs = .tuple #[.agg #[.int .i64 i, .int .u64 (tagN (secN ps i) xs : Nat)], .int .i64 0]) := by unfold Hid signV; rw [if_pos hin]; simp only [signA, App.val]
      have HX := Lib.hid (fun w' (hC : Below w.heap.size w w') => valid_any w.heap.size A n cap ps (signA ps i xs) C m c xs w' (h.below hC (Nat.le_refl _)) hp hC.size (hs.below hC (Nat.le_refl _)) hm)
      rw [valid_sign hin] at HX
      unfold signA App.val at HX
      dsimp only at HX
      rw [HS.out]
      generalize hT : tagN (secN ps i) xs = T at *
      have hb1 : Below u0.heap.size u0 (v1.alloc (.cells #[.int .i64 i, .int .u64 (T : Int)] 25)) := hv1.alloc hz1 _
      have bx := Blk.new v1 25 #[.int .i64 i, .int .u64 (T : Int)]
      have hsx : (v1.alloc (.cells #[.int .i64 i, .int .u64 (T : Int)] 25)).heap.size ≥ v1.heap.size + 1 := by simp
      generalize hw1 : v1.alloc (.cells #[.int .i64 i, .int .u64 (T : Int)] 25) = u1 at *
      have hbw1 := hb0.trans (hb1.mono (by omega))
      go_wp2_with fail
      refine (signR_any w.heap.size A n cap ps i C m c xs u1 (h.below hbw1 (Nat.le_refl _)) hp (by omega) (hs.below hbw1 (Nat.le_refl _)) hm).mono ?_
      rintro e v2 ⟨rfl, hv2⟩
      have hz2 := hv2.size
      rw [HS.out]
      have hb2 : Below u1.heap.size u1 (v2.alloc (.cells #[.int .i64 i, .int .u64 (T : Int)] 25)) := hv2.alloc hz2 _
      have by2 := Blk.new v2 25 #[.int .i64 i, .int .u64 (T : Int)]
      have hsy : (v2.alloc (.cells #[.int .i64 i, .int .u64 (T : Int)] 25)).heap.size ≥ v2.heap.size + 1 := by simp
      generalize hw2 : v2.alloc (.cells #[.int .i64 i, .int .u64 (T : Int)] 25) = u2 at *
      have hbw2 := hbw1.trans (hb2.mono (by omega))
      have bx2 := bx.below hb2 (by omega)
      have bX2 := bX.below (hb1.trans (hb2.mono (by omega))) (by omega)
      have d0 := bX2.cell 0; have d1 := bX2.cell 1; have d2 := bx2.cell 0; have d3 := bx2.cell 1; have d4 := by2.cell 0; have d5 := by2.cell 1
      simp only [List.getElem?_toArray, List.getElem?_cons_zero, List.getElem?_cons_succ] at d0 d1 d2 d3 d4 d5
      replace d0 := Gr.cell (H := u2.heap.size) d0 (by dsimp only; omega)
      replace d1 := Gr.cell (H := u2.heap.size) d1 (by dsimp only; omega)
      replace d2 := Gr.cell (H := u2.heap.size) d2 (by dsimp only; omega)
      replace d3 := Gr.cell (H := u2.heap.size) d3 (by dsimp only; omega)
      replace d4 := Gr.cell (H := u2.heap.size) d4 (by dsimp only; omega)
      replace d5 := Gr.cell (H := u2.heap.size) d5 (by dsimp only; omega)
      clear bX bx by2 bx2 bX2 hin hT hv1 hv2 hb1 hb2 HS
      go_wp2
      clear hw0 hw1 hw2
      refine wp_region_gr u2.heap.size (by kernel_rfl) (by kernel_rfl) ?_
      repeat (go_big_quiet_step ((first
        | (go_at_call 14; with_reducible exact Calls.gr_of (Nat.le_refl _) (HV.out _ (hbw2.trans (Gr.below.mono (by omega)))))
        | (go_at_call 15; with_reducible exact Calls.gr_of (Nat.le_refl _) (HR.out _ (hbw2.trans (Gr.below.mono (by omega)))))
        | (go_at_call 14; with_reducible exact Calls.gr_of (Nat.le_refl _) (HX.out _ (hbw2.trans (Gr.below.mono (by omega)))))
        | (go_at_call 11; with_reducible exact Calls.gr_of (Nat.le_refl _) (lives_any _)))))
      refine wpQuiet_nil ?_
      rintro w3 ⟨g, hg⟩
      have hb3 : Below u2.heap.size u2 w3 := by rw [hg]; exact Gr.below
      clear hg d0 d1 d2 d3 d4 d5
      go_wp2
      go_ret
      exact ⟨rfl, hbw2.trans (hb3.mono (by omega))⟩
    · have HS : Hid (signV ps i xs = .tuple #[.agg #[.int .i64 0, .int .u64 0], .int .i64 3]) := by unfold Hid signV; rw [if_neg hin]
      rw [HS.out]
      go_wp2_with fail
      have hb1 : Below u0.heap.size u0 (v1.alloc (.cells #[.int .i64 0, .int .u64 0] 25)) := hv1.alloc hz1 _
      have bx := Blk.new v1 25 #[.int .i64 0, .int .u64 0]
      have hsx : (v1.alloc (.cells #[.int .i64 0, .int .u64 0] 25)).heap.size ≥ v1.heap.size + 1 := by simp
      generalize hw1 : v1.alloc (.cells #[.int .i64 0, .int .u64 0] 25) = u1 at *
      have hbw1 := hb0.trans (hb1.mono (by omega))
      refine (signR_any w.heap.size A n cap ps i C m c xs u1 (h.below hbw1 (Nat.le_refl _)) hp (by omega) (hs.below hbw1 (Nat.le_refl _)) hm).mono ?_
      rintro e v2 ⟨rfl, hv2⟩
      have hz2 := hv2.size
      rw [HS.out]
      go_wp2
      have hb2 : Below u1.heap.size u1 (v2.alloc (.cells #[.int .i64 0, .int .u64 0] 25)) := hv2.alloc hz2 _
      have by2 := Blk.new v2 25 #[.int .i64 0, .int .u64 0]
      have hsy : (v2.alloc (.cells #[.int .i64 0, .int .u64 0] 25)).heap.size ≥ v2.heap.size + 1 := by simp
      generalize hw2 : v2.alloc (.cells #[.int .i64 0, .int .u64 0] 25) = u2 at *
      have hbw2 := hbw1.trans (hb2.mono (by omega))
      have bx2 := bx.below hb2 (by omega)
      have bX2 := bX.below (hb1.trans (hb2.mono (by omega))) (by omega)
      have d0 := bX2.cell 0; have d1 := bX2.cell 1; have d2 := bx2.cell 0; have d3 := bx2.cell 1; have d4 := by2.cell 0; have d5 := by2.cell 1
      simp only [List.getElem?_toArray, List.getElem?_cons_zero, List.getElem?_cons_succ] at d0 d1 d2 d3 d4 d5
      replace d0 := Gr.cell (H := u2.heap.size) d0 (by dsimp only; omega)
      replace d1 := Gr.cell (H := u2.heap.size) d1 (by dsimp only; omega)
      replace d2 := Gr.cell (H := u2.heap.size) d2 (by dsimp only; omega)
      replace d3 := Gr.cell (H := u2.heap.size) d3 (by dsimp only; omega)
      replace d4 := Gr.cell (H := u2.heap.size) d4 (by dsimp only; omega)
      replace d5 := Gr.cell (H := u2.heap.size) d5 (by dsimp only; omega)
      clear bX bx by2 bx2 bX2 hin hv1 hv2 hb1 hb2 HS
      clear hw0 hw1 hw2
      refine wp_region_gr u2.heap.size (by kernel_rfl) (by kernel_rfl) ?_
      repeat (go_big_quiet_step ((first
        | (go_at_call 14; with_reducible exact Calls.gr_of (Nat.le_refl _) (HV.out _ (hbw2.trans (Gr.below.mono (by omega)))))
        | (go_at_call 15; with_reducible exact Calls.gr_of (Nat.le_refl _) (HR.out _ (hbw2.trans (Gr.below.mono (by omega)))))
        | (go_at_call 11; with_reducible exact Calls.gr_of (Nat.le_refl _) (lives_any _)))))
      refine wpQuiet_nil ?_
      rintro w3 ⟨g, hg⟩
      have hb3 : Below u2.heap.size u2 w3 := by rw [hg]; exact Gr.below
      clear hg d0 d1 d2 d3 d4 d5
      go_wp2
      go_ret
      exact ⟨rfl, hbw2.trans (hb3.mono (by omega))⟩
  · have hz : decide (n ≤ 30 ∧ 0 ≤ 30 ∧ m ≤ 600) = false := by rw [decide_eq_false_iff_not]; omega
    rw [hz] at hU
    unfold App.val
    go_enter Try.func3, Try.ntmps3
    go_wp2_with fail
    refine hU.mono ?_
    rintro e w1 ⟨rfl, rfl⟩
    clear hU
    go_wp2_with fail
    refine (lives_any _).mono ?_
    rintro e w1 ⟨rfl, hb1⟩
    go_wp2
    go_ret
    exact ⟨rfl, hb0.trans (hb1.mono (by omega))⟩
end Go.Proofs.Ytcljmnbjejcdaaa
