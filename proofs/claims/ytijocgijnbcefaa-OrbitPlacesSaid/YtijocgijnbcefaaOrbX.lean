/-
  The reference's Table: the walk.
-/
import Derived.Test.YtijocgijnbcefaaOrbV
import Derived.Test.YtijocgijnbcefaaOrbS
namespace Go.Proofs.Ytijocgijnbcefaa
open Go.ChangeShapes Go.WideShapes Go.ChangeAt Go.RowKit

theorem pick_bd (xs : List Int) (i m : Int) (hm : 1 ≤ m) : 0 ≤ pick xs i m ∧ pick xs i m < m := by
  unfold pick
  split
  · omega
  · exact ⟨around_lo hm, around_hi hm⟩
theorem around_nat {n m : Int} (hm : 1 ≤ m) : ∃ k : Nat, around n m = k ∧ (k : Int) < m := by
  have h1 := around_lo (n := n) hm
  have h2 := around_hi (n := n) hm
  exact ⟨(around n m).toNat, by omega, by omega⟩

/-! The index runs by sevens, modulo 2^64: some step stops the loop. -/
def lastJ (n : Nat) : Nat := ((n + 18446744073709551611) * 7905747460161236407) % 18446744073709551616
theorem last_step (n : Nat) (hn : n ≤ 9223372036854775807) : wrap64 (wrap64 (7 * (lastJ n : Nat)) + 5) = n := by
  unfold wrap64 lastJ
  omega
theorem steps (j : Nat) : wrap64 (wrap64 (7 * j) + 7) = wrap64 (7 * (j + 1 : Nat)) ∧ I64 (wrap64 (7 * j)) := by
  unfold I64 wrap64
  omega
theorem in_wrap (x : Int) : I64 (wrap64 x) := by unfold I64 wrap64; omega

set_option maxRecDepth 100000 in
set_option maxHeartbeats 2000000 in
theorem table_any (w : World) (A : Option Addr) (n cap : Nat) (xs : List Int) (h : Sl csI 1 w w.heap.size A n cap xs) (hx : ∀ x ∈ xs, I64 x) :
    Calls Try.prog 16 #[.slice A n cap] w fun e w' => ∃ A' n' cap' ts, e = .returned (.slice A' n' cap') ∧ Tab w' w.heap.size A' n' cap' ts ∧ Good ts ∧ n' ≤ 60 ∧ Below w.heap.size w w' := by
  have hn := h.ncap
  have hcm := h.cmax
  go_enter Try.func16, Try.ntmps16
  go_wp2_with fail
  refine (pick_any w.heap.size A n cap xs 6 300 w h hx (by omega) (by omega) (by unfold I64; omega)).mono ?_
  rintro e w1 ⟨rfl, rfl⟩
  have hs := pick_bd xs 6 300 (by omega)
  generalize pick xs 6 300 = s0 at *
  obtain ⟨sp, hsp⟩ : ∃ sp, 40 + s0 = sp := ⟨_, rfl⟩
  go_wp2
  have HJ := Lib.hid (last_step n (by omega))
  go_loopg [3, 5, 6] (lastJ n) (fun gk o i _ wr => ∃ (A1 : Option Addr) (n1 cap1 j : Nat) (ts : List Win), o = .slice A1 n1 cap1 ∧ i = .int .i64 (wrap64 (7 * j)) ∧ Hid (j + gk = lastJ n) ∧ Tab wr w.heap.size A1 n1 cap1 ts ∧ Hid (Good ts) ∧ n1 ≤ 60 ∧ Below w.heap.size w wr)
  case atStart => exact ⟨none, 0, 0, 0, [], rfl, by simp [wrap64], Nat.zero_add _, Tab.none_ _ _, Good.nil, by omega, Below.refl _ _⟩
  case round =>
    obtain ⟨A1, n1, cap1, j, ts, rfl, rfl, Hj, hT, HG, hn1, hbw⟩ := hrel
    obtain ⟨hN, hS⟩ := steps j
    obtain ⟨k, hk⟩ : ∃ k, wrap64 (7 * j) = k := ⟨_, rfl⟩
    rw [hk] at hN hS ⊢
    have HN := Lib.hid hN
    have HK := Lib.hid hk
    clear hN hk
    obtain ⟨k1, hk1⟩ : ∃ x, wrap64 (k + 1) = x := ⟨_, rfl⟩
    obtain ⟨k2, hk2⟩ : ∃ x, wrap64 (k + 2) = x := ⟨_, rfl⟩
    obtain ⟨k3, hk3⟩ : ∃ x, wrap64 (k + 3) = x := ⟨_, rfl⟩
    obtain ⟨k4, hk4⟩ : ∃ x, wrap64 (k + 4) = x := ⟨_, rfl⟩
    obtain ⟨k5, hk5'⟩ : ∃ x, wrap64 (k + 5) = x := ⟨_, rfl⟩
    obtain ⟨k7, hk7⟩ : ∃ x, wrap64 (k + 7) = x := ⟨_, rfl⟩
    have i1 : I64 k1 := by rw [← hk1]; exact in_wrap _
    have i2 : I64 k2 := by rw [← hk2]; exact in_wrap _
    have i3 : I64 k3 := by rw [← hk3]; exact in_wrap _
    have i4 : I64 k4 := by rw [← hk4]; exact in_wrap _
    have i5 : I64 k5 := by rw [← hk5']; exact in_wrap _
    have H5 := Lib.hid hk5'
    have H7 := Lib.hid hk7
    by_cases hk5 : k5 < n
    · have hgk : 0 < gk := by
        rcases Nat.eq_zero_or_pos gk with h0 | h0
        · exfalso
          have h1 : j = lastJ n := by have := Hj.out; omega
          have h2 := HJ.out
          rw [← h1, HK.out, H5.out] at h2
          omega
        · exact h0
      by_cases h60 : n1 < 60
      · have h60I : (n1 : Int) < 60 := by omega
        have hsl := h.below hbw (Nat.le_refl _)
        have hp0 := pick_bd xs k 4 (by omega)
        have hp1 := pick_bd xs k1 4 (by omega)
        have hp2 := pick_bd xs k2 4 (by omega)
        have hp3 := pick_bd xs k3 sp (by omega)
        have hp4 := pick_bd xs k4 30 (by omega)
        have hp5 := pick_bd xs k5 40 (by omega)
        obtain ⟨p0, e0⟩ : ∃ p, pick xs k 4 = p := ⟨_, rfl⟩
        obtain ⟨p1, e1⟩ : ∃ p, pick xs k1 4 = p := ⟨_, rfl⟩
        obtain ⟨p2, e2⟩ : ∃ p, pick xs k2 4 = p := ⟨_, rfl⟩
        obtain ⟨p3, e3⟩ : ∃ p, pick xs k3 sp = p := ⟨_, rfl⟩
        obtain ⟨p4, e4⟩ : ∃ p, pick xs k4 30 = p := ⟨_, rfl⟩
        obtain ⟨p5, e5⟩ : ∃ p, pick xs k5 40 = p := ⟨_, rfl⟩
        rw [e0] at hp0
        rw [e1] at hp1
        rw [e2] at hp2
        rw [e3] at hp3
        rw [e4] at hp4
        rw [e5] at hp5
        go_wp2_with fail
        refine (pick_any w.heap.size A n cap xs k 4 _ hsl hx (by omega) (by omega) hS).mono ?_
        rintro e w2 ⟨rfl, rfl⟩
        rw [e0]
        go_wp2_with fail
        refine (pick_any w.heap.size A n cap xs k1 4 _ hsl hx (by omega) (by omega) i1).mono ?_
        rintro e w2 ⟨rfl, rfl⟩
        rw [e1]
        go_wp2_with fail
        refine (pick_any w.heap.size A n cap xs k2 4 _ hsl hx (by omega) (by omega) i2).mono ?_
        rintro e w2 ⟨rfl, rfl⟩
        rw [e2]
        have bX := Blk.new wr 31 #[.int .i64 (1 + p0), .int .i64 p1, .int .i64 p2, .int .i64 0, .int .i64 0, .int .i64 0]
        have hb1 : Below wr.heap.size wr (wr.alloc (.cells #[.int .i64 (1 + p0), .int .i64 p1, .int .i64 p2, .int .i64 0, .int .i64 0, .int .i64 0] 31)) := (Below.refl _ _).alloc (Nat.le_refl _) _
        have hs1 : wr.heap.size < (wr.alloc (.cells #[.int .i64 (1 + p0), .int .i64 p1, .int .i64 p2, .int .i64 0, .int .i64 0, .int .i64 0] 31)).heap.size := by simp
        go_wp2_with fail
        obtain ⟨W, hW⟩ : ∃ W, wr.alloc (.cells #[.int .i64 (1 + p0), .int .i64 p1, .int .i64 p2, .int .i64 0, .int .i64 0, .int .i64 0] 31) = W := ⟨_, rfl⟩
        rw [hW] at bX hb1 hs1 ⊢
        clear hW
        have hslW := hsl.below (hb1.mono hbw.size) (Nat.le_refl _)
        go_wp2_with fail
        refine (pick_any w.heap.size A n cap xs k3 sp _ hslW hx (by omega) (by omega) i3).mono ?_
        rintro e w2 ⟨rfl, rfl⟩
        rw [e3]
        have c3 := bX.cell 3
        have f3 := bX.frozen 3
        simp only [List.getElem?_toArray, List.getElem?_cons_zero, List.getElem?_cons_succ] at c3
        have bY := bX.set_ 3 (.int .i64 p3)
        have hb2 : Below wr.heap.size wr (W.setCell ⟨wr.heap.size, 3, none⟩ (.int .i64 p3)) := hb1.setCell (Nat.le_refl _) _
        have hs2 : wr.heap.size < (W.setCell ⟨wr.heap.size, 3, none⟩ (.int .i64 p3)).heap.size := by simpa [World.setCell] using hs1
        go_wp2
        obtain ⟨W2, hW2⟩ : ∃ W2, W.setCell ⟨wr.heap.size, 3, none⟩ (.int .i64 p3) = W2 := ⟨_, rfl⟩
        rw [hW2] at bY hb2 hs2 ⊢
        clear hW2 c3 f3 bX hb1 hs1 hslW
        have bY : Blk W2 wr.heap.size 31 #[.int .i64 (1 + p0), .int .i64 p1, .int .i64 p2, .int .i64 p3, .int .i64 0, .int .i64 0] := bY
        have hsl2 := hsl.below (hb2.mono hbw.size) (Nat.le_refl _)
        have c3 := Gr.blk bY (H := W2.heap.size) hs2 3
        simp only [List.getElem?_toArray, List.getElem?_cons_zero, List.getElem?_cons_succ] at c3
        have pk4 : ∀ w', Sl csI 1 w' w.heap.size A n cap xs → Calls Try.prog 43 #[.slice A n cap, .int .i64 k4, .int .i64 30] w' fun e w'' => e = .returned (.int .i64 p4) ∧ w' = w'' := by
          intro w' hs'
          have h9 := pick_any w.heap.size A n cap xs k4 30 w' hs' hx (by omega) (by omega) i4
          rwa [e4] at h9
        refine wp_region_gr_tail W2.heap.size 9 (by kernel_rfl) (by kernel_rfl) ?_
        simp only [List.take_succ_cons, List.take_zero, List.drop_succ_cons, List.drop_zero]
        repeat (go_big_quiet_step ((go_at_call 43; exact Calls.gr_same (pk4 _ (Gr.sl hsl2 (by have := hbw.size; omega))))))
        refine wpQuiet_nil ?_
        rintro w2 ⟨g, hg⟩
        have hb3 : Below W2.heap.size W2 w2 := by rw [hg]; exact Gr.below
        have bZ := bY.below hb3 hs2
        have hb4 := hb2.trans (hb3.mono (by omega))
        have hs3 : wr.heap.size < w2.heap.size := by have := hb3.size; omega
        clear hg c3 pk4 bY hb2 hb3 hs2 hsl2
        have c4 := bZ.cell 4
        have f4 := bZ.frozen 4
        simp only [List.getElem?_toArray, List.getElem?_cons_zero, List.getElem?_cons_succ] at c4
        have bY := bZ.set_ 4 (.int .i64 (p3 + 1 + p4))
        have hb2 : Below wr.heap.size wr (w2.setCell ⟨wr.heap.size, 4, none⟩ (.int .i64 (p3 + 1 + p4))) := hb4.setCell (Nat.le_refl _) _
        have hs2 : wr.heap.size < (w2.setCell ⟨wr.heap.size, 4, none⟩ (.int .i64 (p3 + 1 + p4))).heap.size := by simpa [World.setCell] using hs3
        have hslW := hsl.below (hb2.mono hbw.size) (Nat.le_refl _)
        go_wp2_with fail
        refine (pick_any w.heap.size A n cap xs k5 40 _ hslW hx (by omega) (by omega) i5).mono ?_
        rintro e w3 ⟨rfl, rfl⟩
        rw [e5]
        obtain ⟨W3, hW3⟩ : ∃ W3, w2.setCell ⟨wr.heap.size, 4, none⟩ (.int .i64 (p3 + 1 + p4)) = W3 := ⟨_, rfl⟩
        rw [hW3] at bY hb2 hs2 ⊢
        clear hW3 c4 f4 bZ hb4 hs3 hslW
        have bZ : Blk W3 wr.heap.size 31 #[.int .i64 (1 + p0), .int .i64 p1, .int .i64 p2, .int .i64 p3, .int .i64 (p3 + 1 + p4), .int .i64 0] := bY
        clear bY
        have c5 := bZ.cell 5
        have f5 := bZ.frozen 5
        simp only [List.getElem?_toArray, List.getElem?_cons_zero, List.getElem?_cons_succ] at c5
        have bY := bZ.set_ 5 (.int .i64 (1 + p5))
        have hb3 : Below wr.heap.size wr (W3.setCell ⟨wr.heap.size, 5, none⟩ (.int .i64 (1 + p5))) := hb2.setCell (Nat.le_refl _) _
        have hs3 : wr.heap.size < (W3.setCell ⟨wr.heap.size, 5, none⟩ (.int .i64 (1 + p5))).heap.size := by simpa [World.setCell] using hs2
        have bY : Blk (W3.setCell ⟨wr.heap.size, 5, none⟩ (.int .i64 (1 + p5))) wr.heap.size 31 #[.int .i64 (1 + p0), .int .i64 p1, .int .i64 p2, .int .i64 p3, .int .i64 (p3 + 1 + p4), .int .i64 (1 + p5)] := bY
        obtain ⟨W4, hW4⟩ : ∃ W4, W3.setCell ⟨wr.heap.size, 5, none⟩ (.int .i64 (1 + p5)) = W4 := ⟨_, rfl⟩
        rw [hW4] at bY hb3 hs3
        have cc0 := bY.cell 0; have cc1 := bY.cell 1; have cc2 := bY.cell 2; have cc3 := bY.cell 3; have cc4 := bY.cell 4; have cc5 := bY.cell 5
        simp only [List.getElem?_toArray, List.getElem?_cons_zero, List.getElem?_cons_succ] at cc0 cc1 cc2 cc3 cc4 cc5
        have ff := bY.frozen
        have hT4 := hT.below hb3
        have hs4 := hbw.size
        rcases (by omega : p0 = 0 ∨ p0 = 1 ∨ p0 = 2 ∨ p0 = 3) with rfl | rfl | rfl | rfl
        · go_wp2_with fail
          refine (insert_any w.heap.size A1 n1 cap1 ts ⟨1, p1, p2, p3, p3 + 1 + p4, 1 + p5⟩ _ hT4 (by have := (hb3).size; omega) HG.out (by unfold Win.Formed; simp; omega) (by omega)).mono ?_
          rintro e w5 ⟨A', n', cap', ts', rfl, hT5, hG5, hn5, hb5⟩
          have hbw5 := hbw.trans (((hb3).trans (hb5.mono (by have := (hb3).size; omega))).mono hbw.size)
          have HG5 := Lib.hid hG5
          clear hG5 hT
          go_wp2
          go_roundg (gk - 1)
          case rel => exact ⟨A', n', cap', j + 1, ts', rfl, by first | rw [← H7.out, HN.out] | rw [HN.out], by have := Hj.out; unfold Hid; omega, hT5, HG5, by omega, hbw5⟩
          case measure => omega
        · by_cases hab : p1 ≥ p2
          · have hb6 : Below wr.heap.size wr (W4.setCell ⟨wr.heap.size, 2, none⟩ (.int .i64 (p1 + 1 + p2))) := hb3.setCell (Nat.le_refl _) _
            have hT6 := hT.below hb6
            go_wp2_with fail
            refine (insert_any w.heap.size A1 n1 cap1 ts ⟨2, p1, p1 + 1 + p2, p3, p3 + 1 + p4, 1 + p5⟩ _ hT6 (by have := (hb6).size; omega) HG.out (by unfold Win.Formed; simp; omega) (by omega)).mono ?_
            rintro e w5 ⟨A', n', cap', ts', rfl, hT5, hG5, hn5, hb5⟩
            have hbw5 := hbw.trans (((hb6).trans (hb5.mono (by have := (hb6).size; omega))).mono hbw.size)
            have HG5 := Lib.hid hG5
            clear hG5 hT
            go_wp2
            go_roundg (gk - 1)
            case rel => exact ⟨A', n', cap', j + 1, ts', rfl, by first | rw [← H7.out, HN.out] | rw [HN.out], by have := Hj.out; unfold Hid; omega, hT5, HG5, by omega, hbw5⟩
            case measure => omega
          · go_wp2_with fail
            refine (insert_any w.heap.size A1 n1 cap1 ts ⟨2, p1, p2, p3, p3 + 1 + p4, 1 + p5⟩ _ hT4 (by have := (hb3).size; omega) HG.out (by unfold Win.Formed; simp; omega) (by omega)).mono ?_
            rintro e w5 ⟨A', n', cap', ts', rfl, hT5, hG5, hn5, hb5⟩
            have hbw5 := hbw.trans (((hb3).trans (hb5.mono (by have := (hb3).size; omega))).mono hbw.size)
            have HG5 := Lib.hid hG5
            clear hG5 hT
            go_wp2
            go_roundg (gk - 1)
            case rel => exact ⟨A', n', cap', j + 1, ts', rfl, by first | rw [← H7.out, HN.out] | rw [HN.out], by have := Hj.out; unfold Hid; omega, hT5, HG5, by omega, hbw5⟩
            case measure => omega
        · have hb5' : Below wr.heap.size wr (W4.setCell ⟨wr.heap.size, 5, none⟩ (.int .i64 0)) := hb3.setCell (Nat.le_refl _) _
          have hb6 : Below wr.heap.size wr ((W4.setCell ⟨wr.heap.size, 5, none⟩ (.int .i64 0)).setCell ⟨wr.heap.size, 2, none⟩ (.int .i64 0)) := hb5'.setCell (Nat.le_refl _) _
          have hT6 := hT.below hb6
          go_wp2_with fail
          refine (insert_any w.heap.size A1 n1 cap1 ts ⟨3, p1, 0, p3, p3 + 1 + p4, 0⟩ _ hT6 (by have := (hb6).size; omega) HG.out (by unfold Win.Formed; simp; omega) (by omega)).mono ?_
          rintro e w5 ⟨A', n', cap', ts', rfl, hT5, hG5, hn5, hb5⟩
          have hbw5 := hbw.trans (((hb6).trans (hb5.mono (by have := (hb6).size; omega))).mono hbw.size)
          have HG5 := Lib.hid hG5
          clear hG5 hT
          go_wp2
          go_roundg (gk - 1)
          case rel => exact ⟨A', n', cap', j + 1, ts', rfl, by first | rw [← H7.out, HN.out] | rw [HN.out], by have := Hj.out; unfold Hid; omega, hT5, HG5, by omega, hbw5⟩
          case measure => omega
        · have hb6 : Below wr.heap.size wr (W4.setCell ⟨wr.heap.size, 5, none⟩ (.int .i64 0)) := hb3.setCell (Nat.le_refl _) _
          have hT6 := hT.below hb6
          go_wp2_with fail
          refine (insert_any w.heap.size A1 n1 cap1 ts ⟨4, p1, p2, p3, p3 + 1 + p4, 0⟩ _ hT6 (by have := (hb6).size; omega) HG.out (by unfold Win.Formed; simp; omega) (by omega)).mono ?_
          rintro e w5 ⟨A', n', cap', ts', rfl, hT5, hG5, hn5, hb5⟩
          have hbw5 := hbw.trans (((hb6).trans (hb5.mono (by have := (hb6).size; omega))).mono hbw.size)
          have HG5 := Lib.hid hG5
          clear hG5 hT
          go_wp2
          go_roundg (gk - 1)
          case rel => exact ⟨A', n', cap', j + 1, ts', rfl, by first | rw [← H7.out, HN.out] | rw [HN.out], by have := Hj.out; unfold Hid; omega, hT5, HG5, by omega, hbw5⟩
          case measure => omega
      · obtain rfl : n1 = 60 := by omega
        have HR : Hid (∃ A' n' cap' ts', Ending.returned (.slice A1 60 cap1) = .returned (.slice A' n' cap') ∧ Tab wr w.heap.size A' n' cap' ts' ∧ Good ts' ∧ n' ≤ 60 ∧ Below w.heap.size w wr) := ⟨_, _, _, ts, rfl, hT, HG.out, by omega, hbw⟩
        go_wp2
        go_ret
        exact HR.out
    · have HR : Hid (∃ A' n' cap' ts', Ending.returned (.slice A1 n1 cap1) = .returned (.slice A' n' cap') ∧ Tab wr w.heap.size A' n' cap' ts' ∧ Good ts' ∧ n' ≤ 60 ∧ Below w.heap.size w wr) := ⟨_, _, _, ts, rfl, hT, HG.out, hn1, hbw⟩
      go_wp2
      go_ret
      obtain ⟨a1, a2, a3, a4, a5, a6⟩ := HR.out
      first | exact ⟨a1, a2, a3, a5, a4, a6⟩ | exact ⟨a1, a2, a3, a4, a5, a6⟩

end Go.Proofs.Ytijocgijnbcefaa
