/-
  ApproveChecks: the walk.
-/
import Derived.Test.YtcljmnbjejcdaaaAppL
namespace Go.Proofs.Ytcljmnbjejcdaaa
open Go.ChangeShapes Go.WideShapes Go.ChangeAt Go.RowKit

set_option maxRecDepth 100000 in
set_option maxHeartbeats 2000000 in
theorem approveChecks_any (w : World) (A : Option Addr) (n cap : Nat) (ps : List Per) (h : Sl csP 2 w w.heap.size A n cap ps) (hp : ∀ p ∈ ps, U64 p.secret) (hC : ∀ p ∈ ps, I64 p.centre) (D : Option Addr) (q d : Nat) (l : List App) (hd : Sl csA 2 w w.heap.size D q d l) (hI : ∀ a ∈ l, I64 a.person) (C : Option Addr) (m c : Nat) (xs : List UInt8) (hs : Sl csB 1 w w.heap.size C m c xs) :
    Calls Try.prog 4 #[.slice A n cap, .slice D q d, .slice C m c] w fun e w' => e = .returned (.bool true) ∧ Below w.heap.size w w' := by
  have hnc := h.ncap
  have hcm := h.cmax
  have hmc := hs.ncap
  have hcc := hs.cmax
  have hqc := hd.ncap
  have hqm := hd.cmax
  have hU := small_any w A n cap D q d C m c (by omega) (by omega) (by omega)
  by_cases hsm : n ≤ 30 ∧ q ≤ 30 ∧ m ≤ 600
  · rw [decide_eq_true hsm] at hU
    have hm : m ≤ 1000000000000 := by omega
    have hn : n ≤ 1000000000000 := by omega
    have hq : q ≤ 1000000000000 := by omega
    go_enter Try.func4, Try.ntmps4
    go_wp2_with fail
    refine hU.mono ?_
    rintro e w1 ⟨rfl, rfl⟩
    clear hU
    go_wp2_with fail
    refine (checkO_any w1.heap.size A n cap ps D q d l C m c xs w1 h hp hC (Nat.le_refl _) hd hs hm hn hI).mono ?_
    rintro e w2 ⟨rfl, hb2⟩
    go_wp2_with fail
    refine (checkR_any w1.heap.size A n cap ps D q d l C m c xs w2 (h.below hb2 (Nat.le_refl _)) hp hb2.size (hd.below hb2 (Nat.le_refl _)) (hs.below hb2 (Nat.le_refl _)) hm hn).mono ?_
    rintro e w3 ⟨rfl, hb3⟩
    have hb13 := hb2.trans (hb3.mono hb2.size)
    generalize checkA ps l xs = R at *
    clear hb2 hb3
    go_wp2_with fail
    refine (signers_any w1.heap.size A n cap ps D q d l C m c xs w3 (h.below hb13 (Nat.le_refl _)) hp hb13.size (hd.below hb13 (Nat.le_refl _)) (hs.below hb13 (Nat.le_refl _)) hm hn hI hq).mono ?_
    rintro e w4 ⟨v4, rfl, hR4, hb4⟩
    have hb14 := hb13.trans (hb4.mono hb13.size)
    obtain ⟨A4, c4, rfl, hS4⟩ := hR4.sl (fun _ => rfl)
    clear hb13 hb4 hR4
    go_wp2_with fail
    refine (signersR_any w1.heap.size A n cap ps D q d l C m c xs w4 (h.below hb14 (Nat.le_refl _)) hp hb14.size (hd.below hb14 (Nat.le_refl _)) (hs.below hb14 (Nat.le_refl _)) hm hn).mono ?_
    rintro e w5 ⟨v5, rfl, hR5, hb5⟩
    have hb15 := hb14.trans (hb5.mono hb14.size)
    obtain ⟨A5, c5, rfl, hS5⟩ := hR5.sl (fun _ => rfl)
    have hS4' := hS4.below hb5 (Nat.le_refl _)
    generalize signersI ps l xs = S at *
    clear hb14 hR5 hS4
    go_wp2_with fail
    refine (same_any w4.heap.size w5.heap.size A4 A5 _ _ c4 c5 S S w5 hS4' hS5 hb5.size (Nat.le_refl _)).mono ?_
    rintro e w6 ⟨rfl, hb6⟩
    have hb16 := hb15.trans (hb6.mono hb15.size)
    simp only [decide_true]
    clear hb15 hb6 hS4' hS5 hb5
    go_wp2_with fail
    refine (lives_any _).mono ?_
    rintro e w7 ⟨rfl, hb7⟩
    go_wp2
    go_ret
    exact ⟨rfl, hb16.trans (hb7.mono hb16.size)⟩
  · rw [decide_eq_false hsm] at hU
    go_enter Try.func4, Try.ntmps4
    go_wp2_with fail
    refine hU.mono ?_
    rintro e w1 ⟨rfl, rfl⟩
    clear hU
    go_wp2_with fail
    refine (lives_any _).mono ?_
    rintro e w1 ⟨rfl, hb1⟩
    go_wp2
    go_ret
    exact ⟨rfl, hb1⟩
end Go.Proofs.Ytcljmnbjejcdaaa
