/-
  OrbitPlaces: the walk.
-/
import Derived.Test.YtijocgijnbcefaaOrbX
import Derived.Test.YtijocgijnbcefaaOrbR
import Derived.Test.YtijocgijnbcefaaOrbG
import Derived.Test.YtijocgijnbcefaaSrt
import Derived.Sort.OwnSortedInts
namespace Go.Proofs.Ytijocgijnbcefaa
open Go.ChangeShapes Go.WideShapes Go.ChangeAt Go.RowKit

theorem sort_out (w : World) (B0 : Nat) (v : Value) (l : List Int) (h : Out w B0 v l) (hl : l.length ≤ 1000) :
    Calls Try.prog 52 #[v] w fun e w' => e = .returned (.tuple #[]) ∧ Out w' B0 v (l.mergeSort (fun x y => decide (x ≤ y))) ∧ Below B0 w w' := by
  have hlen : (l.mergeSort (fun x y => decide (x ≤ y))).length = l.length := List.length_mergeSort _
  rcases h.2 with ⟨rfl, h2⟩ | ⟨g, cap, cur, rfl, hb, hg, h1, h2, h3, h4⟩
  · have hl0 : l = [] := List.length_eq_zero_iff.1 h2
    subst hl0
    exact (Try.slices_Sort_int_none none 0 w).mono fun e w' ⟨he, hw⟩ => by subst hw; exact ⟨he, by simpa using h, Below.refl _ _⟩
  · rw [Nat.mul_one] at h4
    have hlt : g < w.heap.size := (Array.getElem?_eq_some_iff.1 hg).1
    refine (Try.slices_Sort_int g 0 cap l w (Go.holds_of_blockI hg h4) hlt (by omega)).mono fun e w' ⟨he, n, os, hw⟩ => ?_
    subst hw
    refine ⟨he, ?_, (Below.refl _ _).grown (Go.grownBy_sortedI _) (by omega) (fun k hk => by cases hk; exact hb)⟩
    have := Go.ownsRow_sortedI (n := n) (os := os) (ts := l.mergeSort (fun x y => decide (x ≤ y))) hlen hb hg h1 h2 h3
    unfold Out
    rw [hlen]
    exact this

set_option maxRecDepth 100000 in
set_option maxHeartbeats 2000000 in
theorem orbitPlaces_any (w : World) (A : Option Addr) (n cap : Nat) (xs : List Int) (h : Sl csI 1 w w.heap.size A n cap xs) (hx : ∀ x ∈ xs, I64 x) (c : Int) (_ic : I64 c) (k : Int) (_ik : I64 k) (r : Int) (ir : I64 r) :
    Calls Try.prog 12 #[.slice A n cap, .int .i64 c, .int .i64 k, .int .i64 r] w fun e w' => e = .returned (.bool true) ∧ Below w.heap.size w w' := by
  go_enter Try.func12, Try.ntmps12
  go_wp2_with fail
  refine (table_any w A n cap xs h hx).mono ?_
  rintro e w1 ⟨A1, n1, cap1, ts, rfl, hT, hG, hn, hb1⟩
  have hsl := hT.sl
  have hpe := places_eq hG c k
  have hmr := mem_placesR hG.formed c k
  have hat := at_eq (ord_lo hG.ord) 4 c (around r 40) k
  have HM := Lib.hid hmr
  have HA := Lib.hid hat
  have HP := Lib.hid hpe
  clear hmr hat hpe
  go_wp2_with fail
  refine (places_any sort_out w1.heap.size A1 n1 cap1 ts c k _ hsl (Nat.le_refl _) (by omega)).mono ?_
  rintro e w2 ⟨v2, rfl, hO2, hb2⟩
  rw [HP.out] at hO2
  obtain ⟨l, hl⟩ : ∃ l, placesR ts c k 32 = l := ⟨_, rfl⟩
  have HL := Lib.hid hl
  rw [hl] at hO2
  clear hl
  obtain ⟨A2, cap2, rfl, hL2⟩ := hO2.sl
  have hbw2 := hb1.trans (hb2.mono hb1.size)
  have hs2 := hb2.size
  clear hO2
  go_wp2_with fail
  refine (places9_any w1.heap.size A1 n1 cap1 ts c k _ (hsl.below hb2 (Nat.le_refl _)) hs2).mono ?_
  rintro e w3 ⟨v3, rfl, hO3, hb3⟩
  rw [HL.out] at hO3
  obtain ⟨A3, cap3, rfl, hL3⟩ := hO3.sl
  have hbw3 := hbw2.trans (hb3.mono hbw2.size)
  have hs3 := hb3.size
  clear hO3
  go_wp2_with fail
  refine (same_any _ _ A2 A3 _ _ cap2 cap3 l l _ (hL2.below hb3 (Nat.le_refl _)) hL3 hs3 (Nat.le_refl _)).mono ?_
  rintro e w4 ⟨rfl, hb4⟩
  have hbw4 := hbw3.trans (hb4.mono hbw3.size)
  have hs4 := hb4.size
  simp only [decide_true]
  obtain ⟨b, hb⟩ : ∃ b, around r 40 = b := ⟨_, rfl⟩
  have HB := Lib.hid hb
  have hr1 := around_lo (n := r) (m := 40) (by omega)
  have hr2 := around_hi (n := r) (m := 40) (by omega)
  rw [hb] at hr1 hr2
  clear hb
  go_wp2_with fail
  refine (around_any r 40 _ ir (by omega) (by omega)).mono ?_
  rintro e w5 ⟨rfl, rfl⟩
  rw [HB.out]
  obtain ⟨O, hO⟩ : ∃ O, atOf ts 4 c b k = O := ⟨_, rfl⟩
  obtain ⟨t0, ht0⟩ : ∃ t, O.getD wz = t := ⟨_, rfl⟩
  obtain ⟨o0, ho0⟩ : ∃ o, O.isSome = o := ⟨_, rfl⟩
  have fO : found O = .tuple #[t0.val, .bool o0] := by unfold found; rw [ht0, ho0]
  have hd : decide (b ∈ l) = o0 := by
    have h1 := HA.out
    rw [HB.out, hO] at h1
    rw [← ho0, h1, ← HL.out]
    exact Bool.eq_iff_iff.2 (by rw [decide_eq_true_eq]; exact HM.out b)
  have HO := Lib.hid hO
  have FO := Lib.hid fO
  have HD := Lib.hid hd
  clear hO ht0 ho0 fO hd
  have hbw14 : Below w1.heap.size w1 w4 := hb2.trans ((hb3.trans (hb4.mono hs3)).mono hs2)
  go_wp2_with fail
  refine (at_any w1.heap.size A1 n1 cap1 ts 4 c b k _ (hsl.below hbw14 (Nat.le_refl _)) hbw14.size).mono ?_
  rintro e u1 ⟨rfl, hu1⟩
  rw [HO.out, FO.out]
  have hb5 := hbw4.trans (hu1.mono hbw4.size)
  have hr : Below w.heap.size w (u1.alloc (.cells #[.int .i64 t0.kind, .int .i64 t0.a, .int .i64 t0.b, .int .i64 t0.lo, .int .i64 t0.hi, .int .i64 t0.rate] 31)) := hb5.alloc hb5.size _
  have hL5 := (hL2.below (hb3.trans ((hb4.trans (hu1.mono hs4)).mono hs3)) (Nat.le_refl _))
  have hL6 := hL5.below ((Below.refl u1.heap.size u1).alloc (Nat.le_refl _) (.cells #[.int .i64 t0.kind, .int .i64 t0.a, .int .i64 t0.b, .int .i64 t0.lo, .int .i64 t0.hi, .int .i64 t0.rate] 31)) (by have := hu1.size; omega)
  go_wp2_with fail
  refine (has_any w2.heap.size A2 l.length cap2 l b _ hL6).mono ?_
  rintro e u2 ⟨rfl, rfl⟩
  rw [HD.out]
  go_wp2_with fail
  refine (lives_any _).mono ?_
  rintro e w6 ⟨rfl, hb6⟩
  go_wp2
  go_ret
  exact ⟨rfl, hr.trans (hb6.mono hr.size)⟩

end Go.Proofs.Ytijocgijnbcefaa
