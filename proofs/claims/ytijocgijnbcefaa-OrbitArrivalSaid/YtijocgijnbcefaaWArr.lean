/-
  OrbitArrival: the walk.
-/
import Derived.Test.YtijocgijnbcefaaOrbX
import Derived.Test.YtijocgijnbcefaaOrbQ
namespace Go.Proofs.Ytijocgijnbcefaa
open Go.ChangeShapes Go.WideShapes Go.ChangeAt Go.RowKit

set_option maxRecDepth 100000 in
theorem orbitArrival_any (w : World) (A : Option Addr) (n cap : Nat) (xs : List Int) (h : Sl csI 1 w w.heap.size A n cap xs) (hx : ∀ x ∈ xs, I64 x) (c : Int) (ic : I64 c) (s : Int) (is : I64 s) (k : Int) (ik : I64 k) (z : Int) (iz : I64 z) :
    Calls Try.prog 7 #[.slice A n cap, .int .i64 c, .int .i64 s, .int .i64 k, .int .i64 z] w fun e w' => e = .returned (.bool true) ∧ Below w.heap.size w w' := by
  go_enter Try.func7, Try.ntmps7
  go_wp2_with fail
  refine (table_any w A n cap xs h hx).mono ?_
  rintro e w1 ⟨A1, n1, cap1, ts, rfl, hT, hG, hn, hb1⟩
  obtain ⟨C, hC, hC0⟩ := around_nat (n := c) (m := 12) (by omega)
  obtain ⟨S, hS, hS0⟩ := around_nat (n := s) (m := 9) (by omega)
  have hk := around_lo (n := k) (m := 1000001) (by omega)
  have hk2 := around_hi (n := k) (m := 1000001) (by omega)
  have hz := around_lo (n := z) (m := 65536) (by omega)
  have hz2 := around_hi (n := z) (m := 65536) (by omega)
  obtain ⟨K, hK⟩ : ∃ K, around k 1000001 = K := ⟨_, rfl⟩
  obtain ⟨Z, hZ⟩ : ∃ Z, around z 65536 = Z := ⟨_, rfl⟩
  rw [hK] at hk hk2
  rw [hZ] at hz hz2
  go_wp2_with fail
  refine (around_any c 12 _ ic (by omega) (by omega)).mono ?_
  rintro e w2 ⟨rfl, rfl⟩
  go_wp2_with fail
  refine (around_any s 9 _ is (by omega) (by omega)).mono ?_
  rintro e w2 ⟨rfl, rfl⟩
  go_wp2_with fail
  refine (around_any k 1000001 _ ik (by omega) (by omega)).mono ?_
  rintro e w2 ⟨rfl, rfl⟩
  go_wp2_with fail
  refine (around_any z 65536 _ iz (by omega) (by omega)).mono ?_
  rintro e w2 ⟨rfl, rfl⟩
  have hsl := hT.sl
  go_wp2_with fail
  refine (arrival_any _ A1 n1 cap1 ts C S K (1 + Z) _ hsl (Nat.le_refl _) hG.formed (by omega) (by omega) hk (by omega) (by omega) (by omega)).mono ?_
  rintro e w3 ⟨a, l, ok, A3, cap3, hsp, rfl, hL3, hb3⟩
  have hb13 := hb1.trans (hb3.mono hb1.size)
  go_wp2_with fail
  refine (arrival9_any _ A1 n1 cap1 ts C S K (1 + Z) _ (hsl.below hb3 (Nat.le_refl _)) hb3.size hG.formed (by omega) (by omega) hk (by omega) (by omega) (by omega)).mono ?_
  rintro e w4 ⟨a', l', ok', A4, cap4, hsp', rfl, hL4, hb4⟩
  obtain ⟨rfl, rfl, rfl⟩ := hsp.unique hG.formed hk (by omega) hsp'
  have hb14 := hb13.trans (hb4.mono hb13.size)
  have hL34 := hL3.below hb4 (Nat.le_refl _)
  go_wp2_with fail
  refine (same_any _ _ A3 A4 _ _ cap3 cap4 l l _ hL34 hL4 hb4.size (Nat.le_refl _)).mono ?_
  rintro e w5 ⟨rfl, hb5⟩
  have hb15 := hb14.trans (hb5.mono hb14.size)
  simp only [decide_true]
  go_wp2_with fail
  refine (lives_any _).mono ?_
  rintro e w6 ⟨rfl, hb6⟩
  go_wp2
  go_ret
  exact ⟨rfl, hb15.trans (hb6.mono hb15.size)⟩

end Go.Proofs.Ytijocgijnbcefaa
