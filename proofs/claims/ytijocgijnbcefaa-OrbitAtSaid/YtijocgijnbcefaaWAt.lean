/-
  OrbitAt: the walk.
-/
import Derived.Test.YtijocgijnbcefaaOrbX
import Derived.Test.YtijocgijnbcefaaOrbD
import Derived.Test.YtijocgijnbcefaaOrbW
namespace Go.Proofs.Ytijocgijnbcefaa
open Go.ChangeShapes Go.WideShapes Go.ChangeAt Go.RowKit

set_option maxRecDepth 100000 in
set_option maxHeartbeats 1000000 in
theorem orbitAt_any (w : World) (A : Option Addr) (n cap : Nat) (xs : List Int) (h : Sl csI 1 w w.heap.size A n cap xs) (hx : ∀ x ∈ xs, I64 x) (b0 b1 b2 b3 b4 b5 : Int) (_z : I64 b0 ∧ I64 b1 ∧ I64 b2 ∧ I64 b3 ∧ I64 b4 ∧ I64 b5) :
    Calls Try.prog 5 #[.slice A n cap, .agg #[.int .i64 b0, .int .i64 b1, .int .i64 b2, .int .i64 b3, .int .i64 b4, .int .i64 b5]] w fun e w' => e = .returned (.bool true) ∧ Below w.heap.size w w' := by
  go_enter Try.func5, Try.ntmps5
  have bX := Blk.new w 34 #[.int .i64 b0, .int .i64 b1, .int .i64 b2, .int .i64 b3, .int .i64 b4, .int .i64 b5]
  have hb0 : Below w.heap.size w (w.alloc (.cells #[.int .i64 b0, .int .i64 b1, .int .i64 b2, .int .i64 b3, .int .i64 b4, .int .i64 b5] 34)) := (Below.refl _ _).alloc (Nat.le_refl _) _
  have hs0 : w.heap.size < (w.alloc (.cells #[.int .i64 b0, .int .i64 b1, .int .i64 b2, .int .i64 b3, .int .i64 b4, .int .i64 b5] 34)).heap.size := by simp
  go_wp2_with fail
  obtain ⟨W, hW⟩ : ∃ W, w.alloc (.cells #[.int .i64 b0, .int .i64 b1, .int .i64 b2, .int .i64 b3, .int .i64 b4, .int .i64 b5] 34) = W := ⟨_, rfl⟩
  rw [hW] at bX hb0 hs0 ⊢
  clear hW
  refine (table_any W A n cap xs ((h.below hb0 (Nat.le_refl _)).more (by omega)) hx).mono ?_
  rintro e w1 ⟨A1, n1, cap1, ts, rfl, hT, hG, hn, hb1⟩
  have hbw := hb0.trans (hb1.mono (by omega))
  have bX1 := bX.below hb1 hs0
  have hs1 : w.heap.size < w1.heap.size := by have := hb1.size; omega
  have c0 := bX1.cell 0; have c1 := bX1.cell 1; have c2 := bX1.cell 2; have c3 := bX1.cell 3
  simp only [List.getElem?_toArray, List.getElem?_cons_zero, List.getElem?_cons_succ] at c0 c1 c2 c3
  have hsl := hT.sl
  have hat := at_eq (ord_lo hG.ord) b0 b1 b2 b3
  obtain ⟨O, hO⟩ : ∃ O, ts.find? (isAt b0 b1 b2 b3) = O := ⟨_, rfl⟩
  obtain ⟨N, hN⟩ : ∃ N, ts.find? (isNext b0 b1 b2 b3) = N := ⟨_, rfl⟩
  have hN2 : nextOf ts b0 b1 b2 b3 = N := hN
  rw [hO] at hat
  obtain ⟨t0, ht0⟩ : ∃ t, O.getD wz = t := ⟨_, rfl⟩
  obtain ⟨o0, ho0⟩ : ∃ o, O.isSome = o := ⟨_, rfl⟩
  obtain ⟨t1, ht1⟩ : ∃ t, N.getD wz = t := ⟨_, rfl⟩
  obtain ⟨o1, ho1⟩ : ∃ o, N.isSome = o := ⟨_, rfl⟩
  have fO : found O = .tuple #[t0.val, .bool o0] := by unfold found; rw [ht0, ho0]
  have fN : found N = .tuple #[t1.val, .bool o1] := by unfold found; rw [ht1, ho1]
  clear ht0 ho0 ht1 ho1
  have hA := hsl
  go_wp2_with fail
  refine (at_any w1.heap.size A1 n1 cap1 ts b0 b1 b2 b3 _ hsl (Nat.le_refl _)).mono ?_
  rintro e u1 ⟨rfl, hu1⟩
  rw [hat, fO]
  have q1 : Below w1.heap.size w1 u1 := hu1
  have r1 : Below w1.heap.size w1 (u1.alloc (.cells #[.int .i64 t0.kind, .int .i64 t0.a, .int .i64 t0.b, .int .i64 t0.lo, .int .i64 t0.hi, .int .i64 t0.rate] 31)) := q1.alloc q1.size _
  have bX2 := bX1.below r1 hs1
  have y0 := bX2.cell 0; have y1 := bX2.cell 1; have y2 := bX2.cell 2; have y3 := bX2.cell 3
  simp only [List.getElem?_toArray, List.getElem?_cons_zero, List.getElem?_cons_succ] at y0 y1 y2 y3
  go_wp2_with fail
  refine (at9_any w1.heap.size A1 n1 cap1 ts b0 b1 b2 b3 _ (hsl.below r1 (Nat.le_refl _)) r1.size).mono ?_
  rintro e u2 ⟨rfl, hu2⟩
  rw [hO, fO]
  have q2 : Below w1.heap.size w1 u2 := r1.trans (hu2.mono r1.size)
  have r2 : Below w1.heap.size w1 (u2.alloc (.cells #[.int .i64 t0.kind, .int .i64 t0.a, .int .i64 t0.b, .int .i64 t0.lo, .int .i64 t0.hi, .int .i64 t0.rate] 31)) := q2.alloc q2.size _
  have bX3 := bX1.below r2 hs1
  have y0 := bX3.cell 0; have y1 := bX3.cell 1; have y2 := bX3.cell 2; have y3 := bX3.cell 3
  simp only [List.getElem?_toArray, List.getElem?_cons_zero, List.getElem?_cons_succ] at y0 y1 y2 y3
  go_wp2_with fail
  refine (next_any w1.heap.size A1 n1 cap1 ts b0 b1 b2 b3 _ (hsl.below r2 (Nat.le_refl _)) r2.size).mono ?_
  rintro e u3 ⟨rfl, hu3⟩
  rw [hN2, fN]
  have q3 : Below w1.heap.size w1 u3 := r2.trans (hu3.mono r2.size)
  have r3 : Below w1.heap.size w1 (u3.alloc (.cells #[.int .i64 t1.kind, .int .i64 t1.a, .int .i64 t1.b, .int .i64 t1.lo, .int .i64 t1.hi, .int .i64 t1.rate] 31)) := q3.alloc q3.size _
  have bX4 := bX1.below r3 hs1
  have y0 := bX4.cell 0; have y1 := bX4.cell 1; have y2 := bX4.cell 2; have y3 := bX4.cell 3
  simp only [List.getElem?_toArray, List.getElem?_cons_zero, List.getElem?_cons_succ] at y0 y1 y2 y3
  go_wp2_with fail
  refine (next9_any w1.heap.size A1 n1 cap1 ts b0 b1 b2 b3 _ (hsl.below r3 (Nat.le_refl _)) r3.size).mono ?_
  rintro e u4 ⟨rfl, hu4⟩
  rw [hN, fN]
  have q4 : Below w1.heap.size w1 u4 := r3.trans (hu4.mono r3.size)
  have r4 : Below w1.heap.size w1 (u4.alloc (.cells #[.int .i64 t1.kind, .int .i64 t1.a, .int .i64 t1.b, .int .i64 t1.lo, .int .i64 t1.hi, .int .i64 t1.rate] 31)) := q4.alloc q4.size _
  have bX5 := bX1.below r4 hs1
  have y0 := bX5.cell 0; have y1 := bX5.cell 1; have y2 := bX5.cell 2; have y3 := bX5.cell 3
  simp only [List.getElem?_toArray, List.getElem?_cons_zero, List.getElem?_cons_succ] at y0 y1 y2 y3
  have m1 := q1.size; have m2 := q2.size; have m3 := q3.size; have m4 := q4.size
  have bb1 := Blk.new u1 31 #[.int .i64 t0.kind, .int .i64 t0.a, .int .i64 t0.b, .int .i64 t0.lo, .int .i64 t0.hi, .int .i64 t0.rate]
  have zz1 : u1.heap.size < (u1.alloc (.cells #[.int .i64 t0.kind, .int .i64 t0.a, .int .i64 t0.b, .int .i64 t0.lo, .int .i64 t0.hi, .int .i64 t0.rate] 31)).heap.size := by simp
  have bb2 := Blk.new u2 31 #[.int .i64 t0.kind, .int .i64 t0.a, .int .i64 t0.b, .int .i64 t0.lo, .int .i64 t0.hi, .int .i64 t0.rate]
  have zz2 : u2.heap.size < (u2.alloc (.cells #[.int .i64 t0.kind, .int .i64 t0.a, .int .i64 t0.b, .int .i64 t0.lo, .int .i64 t0.hi, .int .i64 t0.rate] 31)).heap.size := by simp
  have bb3 := Blk.new u3 31 #[.int .i64 t1.kind, .int .i64 t1.a, .int .i64 t1.b, .int .i64 t1.lo, .int .i64 t1.hi, .int .i64 t1.rate]
  have zz3 : u3.heap.size < (u3.alloc (.cells #[.int .i64 t1.kind, .int .i64 t1.a, .int .i64 t1.b, .int .i64 t1.lo, .int .i64 t1.hi, .int .i64 t1.rate] 31)).heap.size := by simp
  have bb4 := Blk.new u4 31 #[.int .i64 t1.kind, .int .i64 t1.a, .int .i64 t1.b, .int .i64 t1.lo, .int .i64 t1.hi, .int .i64 t1.rate]
  have zz4 : u4.heap.size < (u4.alloc (.cells #[.int .i64 t1.kind, .int .i64 t1.a, .int .i64 t1.b, .int .i64 t1.lo, .int .i64 t1.hi, .int .i64 t1.rate] 31)).heap.size := by simp
  have bb1 := (bb1.below hu2 (by have := zz1;  omega)).alloc (.cells #[.int .i64 t0.kind, .int .i64 t0.a, .int .i64 t0.b, .int .i64 t0.lo, .int .i64 t0.hi, .int .i64 t0.rate] 31)
  have bb1 := (bb1.below hu3 (by have := zz2; have := hu2.size; have := zz2; omega)).alloc (.cells #[.int .i64 t1.kind, .int .i64 t1.a, .int .i64 t1.b, .int .i64 t1.lo, .int .i64 t1.hi, .int .i64 t1.rate] 31)
  have bb1 := (bb1.below hu4 (by have := zz3; have := hu2.size; have := zz2; have := hu3.size; have := zz3; omega)).alloc (.cells #[.int .i64 t1.kind, .int .i64 t1.a, .int .i64 t1.b, .int .i64 t1.lo, .int .i64 t1.hi, .int .i64 t1.rate] 31)
  have bb2 := (bb2.below hu3 (by have := zz2; have := hu2.size; have := zz2; omega)).alloc (.cells #[.int .i64 t1.kind, .int .i64 t1.a, .int .i64 t1.b, .int .i64 t1.lo, .int .i64 t1.hi, .int .i64 t1.rate] 31)
  have bb2 := (bb2.below hu4 (by have := zz3; have := hu2.size; have := zz2; have := hu3.size; have := zz3; omega)).alloc (.cells #[.int .i64 t1.kind, .int .i64 t1.a, .int .i64 t1.b, .int .i64 t1.lo, .int .i64 t1.hi, .int .i64 t1.rate] 31)
  have bb3 := (bb3.below hu4 (by have := zz3; have := hu2.size; have := zz2; have := hu3.size; have := zz3; omega)).alloc (.cells #[.int .i64 t1.kind, .int .i64 t1.a, .int .i64 t1.b, .int .i64 t1.lo, .int .i64 t1.hi, .int .i64 t1.rate] 31)
  have e10 := bb1.cell 0; have e11 := bb1.cell 1; have e12 := bb1.cell 2; have e13 := bb1.cell 3; have e14 := bb1.cell 4; have e15 := bb1.cell 5
  have e20 := bb2.cell 0; have e21 := bb2.cell 1; have e22 := bb2.cell 2; have e23 := bb2.cell 3; have e24 := bb2.cell 4; have e25 := bb2.cell 5
  have e30 := bb3.cell 0; have e31 := bb3.cell 1; have e32 := bb3.cell 2; have e33 := bb3.cell 3; have e34 := bb3.cell 4; have e35 := bb3.cell 5
  have e40 := bb4.cell 0; have e41 := bb4.cell 1; have e42 := bb4.cell 2; have e43 := bb4.cell 3; have e44 := bb4.cell 4; have e45 := bb4.cell 5
  simp only [List.getElem?_toArray, List.getElem?_cons_zero, List.getElem?_cons_succ] at e10 e11 e12 e13 e14 e15 e20 e21 e22 e23 e24 e25 e30 e31 e32 e33 e34 e35 e40 e41 e42 e43 e44 e45
  go_wp2_with fail
  refine (lives_any _).mono ?_
  rintro e w9 ⟨rfl, hb9⟩
  go_wp2
  go_ret
  exact ⟨rfl, hbw.trans ((r4.trans (hb9.mono r4.size)).mono (by omega))⟩

end Go.Proofs.Ytijocgijnbcefaa
