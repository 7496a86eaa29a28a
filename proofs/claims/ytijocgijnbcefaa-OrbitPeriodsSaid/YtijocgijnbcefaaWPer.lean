/-
  OrbitPeriods: the walk.
-/
import Derived.Test.YtijocgijnbcefaaOrbX
import Derived.Test.YtijocgijnbcefaaOrbC
import Derived.Test.YtijocgijnbcefaaOrbH
import Derived.Test.YtijocgijnbcefaaPerP
namespace Go.Proofs.Ytijocgijnbcefaa
open Go.ChangeShapes Go.WideShapes Go.ChangeAt Go.RowKit

theorem bound_in (n : Int) : -500 ≤ bound n 500 ∧ bound n 500 ≤ 500 := by
  have h1 := around_lo (n := n) (m := 2 * 500 + 1) (by omega)
  have h2 := around_hi (n := n) (m := 2 * 500 + 1) (by omega)
  unfold bound
  omega

set_option maxRecDepth 100000 in
set_option maxHeartbeats 4000000 in
theorem orbitPeriods_any (w : World) (A : Option Addr) (n cap : Nat) (xs : List Int) (h : Sl csI 1 w w.heap.size A n cap xs) (hx : ∀ x ∈ xs, I64 x) (b0 b1 b2 b3 b4 b5 : Int) (z : I64 b0 ∧ I64 b1 ∧ I64 b2 ∧ I64 b3 ∧ I64 b4 ∧ I64 b5) :
    Calls Try.prog 11 #[.slice A n cap, .agg #[.int .i64 b0, .int .i64 b1, .int .i64 b2, .int .i64 b3, .int .i64 b4, .int .i64 b5]] w fun e w' => e = .returned (.bool true) ∧ Below w.heap.size w w' := by
  obtain ⟨z0, z1, z2, z3, z4, z5⟩ := z
  go_enter Try.func11, Try.ntmps11
  have bX := Blk.new w 34 #[.int .i64 b0, .int .i64 b1, .int .i64 b2, .int .i64 b3, .int .i64 b4, .int .i64 b5]
  have hb0 : Below w.heap.size w (w.alloc (.cells #[.int .i64 b0, .int .i64 b1, .int .i64 b2, .int .i64 b3, .int .i64 b4, .int .i64 b5] 34)) := (Below.refl _ _).alloc (Nat.le_refl _) _
  have hs0 : w.heap.size < (w.alloc (.cells #[.int .i64 b0, .int .i64 b1, .int .i64 b2, .int .i64 b3, .int .i64 b4, .int .i64 b5] 34)).heap.size := by simp
  go_wp2_with fail
  obtain ⟨W, hW⟩ : ∃ W, w.alloc (.cells #[.int .i64 b0, .int .i64 b1, .int .i64 b2, .int .i64 b3, .int .i64 b4, .int .i64 b5] 34) = W := ⟨_, rfl⟩
  rw [hW] at bX hb0 hs0 ⊢
  clear hW
  refine (table_any W A n cap xs ((h.below hb0 (Nat.le_refl _)).more (by omega)) hx).mono ?_
  rintro e w1 ⟨A1, n1, cap1, ts, rfl, hT, hG, hn, hb1⟩
  have hbw := hb0.trans (hb1.mono (by omega))
  have bX1 := bX.below hb1 hs0
  have hs1 : w.heap.size < w1.heap.size := by have := hb1.size; omega
  have c0 := bX1.cell 0; have c1 := bX1.cell 1; have c2 := bX1.cell 2; have c3 := bX1.cell 3; have c4 := bX1.cell 4; have c5 := bX1.cell 5
  simp only [List.getElem?_toArray, List.getElem?_cons_zero, List.getElem?_cons_succ] at c0 c1 c2 c3 c4 c5
  have hsl := hT.sl
  have hF := hG.formed
  have ba := bound_in b4
  have bc := bound_in b5
  have bt := bound_in b3
  obtain ⟨a, ha⟩ : ∃ a, bound b4 500 = a := ⟨_, rfl⟩
  obtain ⟨c', hc'⟩ : ∃ c, bound b5 500 = c := ⟨_, rfl⟩
  obtain ⟨t', ht'⟩ : ∃ t, bound b3 500 = t := ⟨_, rfl⟩
  rw [ha] at ba
  rw [hc'] at bc
  rw [ht'] at bt
  have Ha := Lib.hid ha
  have Hc := Lib.hid hc'
  have Ht := Lib.hid ht'
  clear ha hc' ht'
  go_wp2_with fail
  refine (bound_any b4 500 _ z4 (by omega) (by omega)).mono ?_
  rintro e w2 ⟨rfl, rfl⟩
  rw [Ha.out]
  go_wp2_with fail
  refine (bound_any b5 500 _ z5 (by omega) (by omega)).mono ?_
  rintro e w2 ⟨rfl, rfl⟩
  rw [Hc.out]
  go_upto_region 4 with fail
  go_cut [8] (fun s8 wx => ∃ b, s8 = .int .i64 b ∧ a ≤ b ∧ -500 ≤ b ∧ b ≤ 500 ∧ w1 = wx)
  case first =>
    go_wp2_with fail
    refine (bound_any b3 500 _ z3 (by omega) (by omega)).mono ?_
    rintro e w2 ⟨rfl, rfl⟩
    rw [Ht.out]
    rcases (by omega : (t' < c' ∧ a < t') ∨ (t' < c' ∧ t' ≤ a) ∨ (c' ≤ t' ∧ a < c') ∨ (c' ≤ t' ∧ c' ≤ a)) with ⟨h1, h2⟩ | ⟨h1, h2⟩ | ⟨h1, h2⟩ | ⟨h1, h2⟩
    all_goals
      go_wp2
      go_meet
      exact ⟨_, rfl, by omega, by omega, by omega, rfl⟩
  case rest =>
    obtain ⟨b, rfl, hab, hb1, hb2, rfl⟩ := hcut
    go_upto_region 5 with fail
    go_cut [7] (fun s7 wx => ∃ c, s7 = .int .i64 c ∧ b ≤ c ∧ -500 ≤ c ∧ c ≤ 500 ∧ w1 = wx)
    case first =>
      rcases (by omega : b < c' ∨ c' ≤ b) with h1 | h1
      all_goals
        go_wp2
        go_meet
        exact ⟨_, rfl, by omega, by omega, by omega, rfl⟩
    case rest =>
      obtain ⟨c, rfl, hbc, hc1, hc2, rfl⟩ := hcut
      have hadd := ticks_add (k := b0) (x := b1) (y := b2) hab hbc ts hF
      have hone1 := ticks_some (k := b0) (x := b1) (y := b2) (b := b) hG.far
      have hone0 := ticks_none (k := b0) (x := b1) (y := b2) (b := b) (ts := ts)
      have hgap := fun t => gap (k := b0) (x := b1) (y := b2) (b := b) (t := t) (ord_lo hG.ord)
      have hat := at_eq (ord_lo hG.ord) b0 b1 b2 b
      have hnx := fun t => at_next (ts := ts) (k := b0) (x := b1) (y := b2) (b := b) (t := t)
      have hbd := fun f u => ticks_bd (k := b0) (a := b1) (b := b2) (f := f) (u := u) ts hF
      rw [hT.len] at hbd
      have kk : ∀ (f u : Int) (w' : World), Sl csW 6 w' w1.heap.size A1 n1 cap1 ts → w1.heap.size ≤ w'.heap.size → Calls Try.prog 22 #[.slice A1 n1 cap1, .int .i64 b0, .int .i64 b1, .int .i64 b2, .int .i64 f, .int .i64 u] w' fun e w'' => e = .returned (.int .i64 (ticks b0 b1 b2 f u ts)) ∧ Below w'.heap.size w' w'' := fun f u w' hs hB =>
        ticks_any w1.heap.size A1 n1 cap1 ts b0 b1 b2 f u w' hs hB hF (by omega)
      obtain ⟨F, hFe⟩ : ∃ F : Int → Int → Int, ∀ f u, ticks b0 b1 b2 f u ts = F f u := ⟨_, fun _ _ => rfl⟩
      simp only [hFe] at hadd hone1 hone0 hgap hbd kk
      clear hFe
      have e1 := hbd a b
      have e2 := hbd b c
      have KK := Lib.hid kk
      have HB := Lib.hid hbd
      have H1 := Lib.hid hone1
      have H0 := Lib.hid hone0
      have HG := Lib.hid hgap
      have HN := Lib.hid hnx
      have HA := Lib.hid hat
      have HD : (F a b + F b c != F a c) = false := by rw [hadd]; simp
      have hw1 : IntKind.i64.wrap (F a b + F b c) = F a b + F b c := IntWalk.i64_in _ (by omega)
      have d0 := Gr.cell (H := w1.heap.size) c0 (by dsimp only; omega)
      have d1 := Gr.cell (H := w1.heap.size) c1 (by dsimp only; omega)
      have d2 := Gr.cell (H := w1.heap.size) c2 (by dsimp only; omega)
      clear kk hbd hone1 hone0 hgap hnx hat hadd
      go_wp2
      refine wp_region_gr w1.heap.size (by kernel_rfl) (by kernel_rfl) ?_
      repeat (go_big_quiet_step ((go_at_call 22; exact Calls.gr_of (Nat.le_refl _) (KK.out _ _ _ (Gr.sl hsl (Nat.le_refl _)) (Gr.size (Nat.le_refl _))))))
      refine wpQuiet_nil ?_
      rintro w2 ⟨g, hg⟩
      have hb2 : Below w1.heap.size w1 w2 := by rw [hg]; exact Gr.below
      clear hg d0 d1 d2 hw1 c0 c1 c2 c3 c4 c5
      have hs2 := hb2.size
      have bX2 := bX1.below hb2 hs1
      have c0 := bX2.cell 0; have c1 := bX2.cell 1; have c2 := bX2.cell 2
      simp only [List.getElem?_toArray, List.getElem?_cons_zero, List.getElem?_cons_succ] at c0 c1 c2
      have hsl2 := hsl.below hb2 (Nat.le_refl _)
      obtain ⟨O, hO⟩ : ∃ O, atOf ts b0 b1 b2 b = O := ⟨_, rfl⟩
      obtain ⟨N, hN⟩ : ∃ N, nextOf ts b0 b1 b2 b = N := ⟨_, rfl⟩
      have HO := Lib.hid hO
      have HNe := Lib.hid hN
      clear hO hN
      obtain ⟨t0, ht0⟩ : ∃ t, O.getD wz = t := ⟨_, rfl⟩
      obtain ⟨o0, ho0⟩ : ∃ o, O.isSome = o := ⟨_, rfl⟩
      obtain ⟨t1, ht1⟩ : ∃ t, N.getD wz = t := ⟨_, rfl⟩
      obtain ⟨o1, ho1⟩ : ∃ o, N.isSome = o := ⟨_, rfl⟩
      have fO : found O = .tuple #[t0.val, .bool o0] := by unfold found; rw [ht0, ho0]
      have fN : found N = .tuple #[t1.val, .bool o1] := by unfold found; rw [ht1, ho1]
      have P0 := Lib.hid ht0
      have P1 := Lib.hid ho0
      have P2 := Lib.hid ht1
      have P3 := Lib.hid ho1
      have FO := Lib.hid fO
      have FN := Lib.hid fN
      clear ht0 ho0 ht1 ho1 fO fN
      go_wp2_with fail
      refine (at_any w1.heap.size A1 n1 cap1 ts b0 b1 b2 b _ hsl2 hs2).mono ?_
      rintro e u1 ⟨rfl, hu1⟩
      rw [HO.out, FO.out]
      have q1 : Below w1.heap.size w1 u1 := hb2.trans (hu1.mono hs2)
      have r1 : Below w1.heap.size w1 (u1.alloc (.cells #[.int .i64 t0.kind, .int .i64 t0.a, .int .i64 t0.b, .int .i64 t0.lo, .int .i64 t0.hi, .int .i64 t0.rate] 31)) := q1.alloc q1.size _
      have m1 := q1.size
      have bX3 := bX1.below r1 hs1
      have c0 := bX3.cell 0; have c1 := bX3.cell 1; have c2 := bX3.cell 2
      simp only [List.getElem?_toArray, List.getElem?_cons_zero, List.getElem?_cons_succ] at c0 c1 c2
      go_wp2_with fail
      refine (next_any w1.heap.size A1 n1 cap1 ts b0 b1 b2 b _ (hsl.below r1 (Nat.le_refl _)) r1.size).mono ?_
      rintro e u2 ⟨rfl, hu2⟩
      rw [HNe.out, FN.out]
      have q2 : Below w1.heap.size w1 u2 := r1.trans (hu2.mono r1.size)
      have r2 : Below w1.heap.size w1 (u2.alloc (.cells #[.int .i64 t1.kind, .int .i64 t1.a, .int .i64 t1.b, .int .i64 t1.lo, .int .i64 t1.hi, .int .i64 t1.rate] 31)) := q2.alloc q2.size _
      have m2 := q2.size
      have bX4 := bX1.below r2 hs1
      have c0 := bX4.cell 0; have c1 := bX4.cell 1; have c2 := bX4.cell 2
      have bb1 := Blk.new u1 31 #[.int .i64 t0.kind, .int .i64 t0.a, .int .i64 t0.b, .int .i64 t0.lo, .int .i64 t0.hi, .int .i64 t0.rate]
      have zz1 : u1.heap.size < (u1.alloc (.cells #[.int .i64 t0.kind, .int .i64 t0.a, .int .i64 t0.b, .int .i64 t0.lo, .int .i64 t0.hi, .int .i64 t0.rate] 31)).heap.size := by simp
      have bb2 := Blk.new u2 31 #[.int .i64 t1.kind, .int .i64 t1.a, .int .i64 t1.b, .int .i64 t1.lo, .int .i64 t1.hi, .int .i64 t1.rate]
      have zz2 : u2.heap.size < (u2.alloc (.cells #[.int .i64 t1.kind, .int .i64 t1.a, .int .i64 t1.b, .int .i64 t1.lo, .int .i64 t1.hi, .int .i64 t1.rate] 31)).heap.size := by simp
      have hu2s := hu2.size
      have bb1 := (bb1.below hu2 zz1).alloc (.cells #[.int .i64 t1.kind, .int .i64 t1.a, .int .i64 t1.b, .int .i64 t1.lo, .int .i64 t1.hi, .int .i64 t1.rate] 31)
      simp only [List.getElem?_toArray, List.getElem?_cons_zero, List.getElem?_cons_succ] at c0 c1 c2
      go_wp2_with fail
      refine (KK.out b (b + 1) _ (hsl.below r2 (Nat.le_refl _)) r2.size).mono ?_
      rintro e u3 ⟨rfl, hu3⟩
      have r3 : Below w1.heap.size w1 u3 := r2.trans (hu3.mono r2.size)
      have bb1 := bb1.below hu3 (by omega)
      have bb2 := bb2.below hu3 zz2
      have m3 := r3.size
      have bX5 := bX1.below r3 hs1
      have c0 := bX5.cell 0; have c1 := bX5.cell 1; have c2 := bX5.cell 2
      have e10 := bb1.cell 0; have e11 := bb1.cell 1; have e12 := bb1.cell 2; have e13 := bb1.cell 3; have e14 := bb1.cell 4; have e15 := bb1.cell 5
      have e20 := bb2.cell 0; have e21 := bb2.cell 1; have e22 := bb2.cell 2; have e23 := bb2.cell 3; have e24 := bb2.cell 4; have e25 := bb2.cell 5
      simp only [List.getElem?_toArray, List.getElem?_cons_zero, List.getElem?_cons_succ] at c0 c1 c2 e10 e11 e12 e13 e14 e15 e20 e21 e22 e23 e24 e25
      have hbw3 := hbw.trans (r3.mono (by omega))
      clear bX2 bX3 bX4 bX5 bb1 bb2 zz1 zz2 q1 r1 q2 hu1 hu2 hu3 m1 m2 hu2s
      cases o0 with
      | true =>
        have hOs : O = some t0 := by
          have h1 := P0.out
          have h2 := P1.out
          cases O with
          | none => cases h2
          | some t => exact congrArg some h1
        have hNs : N = some t0 := by rw [← HNe.out]; exact HN.out t0 (by rw [HO.out]; exact hOs)
        have h1 : F b (b + 1) = 1 := H1.out (by rw [← HA.out, HO.out, hOs]; rfl)
        obtain rfl : t1 = t0 := by have := P2.out; rw [hNs] at this; exact this.symm
        obtain rfl : o1 = true := by have := P3.out; rw [hNs] at this; exact this.symm
        rw [h1]
        clear hOs hNs h1
        go_wp2_with fail
        refine (lives_any _).mono ?_
        rintro e w9 ⟨rfl, hb9⟩
        go_wp2
        go_ret
        exact ⟨rfl, hbw3.trans (hb9.mono (hbw3.size))⟩
      | false =>
        have hOs : O = none := by
          have h2 := P1.out
          cases O with
          | none => rfl
          | some t => cases h2
        have h0 : F b (b + 1) = 0 := H0.out (by rw [← HA.out, HO.out, hOs])
        rw [h0]
        clear h0
        cases o1 with
        | false =>
          clear hOs
          go_wp2_with fail
          refine (lives_any _).mono ?_
          rintro e w9 ⟨rfl, hb9⟩
          go_wp2
          go_ret
          exact ⟨rfl, hbw3.trans (hb9.mono (hbw3.size))⟩
        | true =>
          have hNs : N = some t1 := by
            have h1 := P2.out
            have h2 := P3.out
            cases N with
            | none => cases h2
            | some t => exact congrArg some h1
          obtain ⟨g1, g2⟩ := HG.out t1 (by rw [HO.out]; exact hOs) (by rw [HNe.out]; exact hNs)
          have G2 := Lib.hid g2
          have hsl3 := hsl.below r3 (Nat.le_refl _)
          clear hOs hNs g2
          go_wp2_with fail
          refine (KK.out b t1.lo _ hsl3 m3).mono ?_
          rintro e w4 ⟨rfl, hu4⟩
          rw [G2.out]
          have hbw4 := hbw3.trans (hu4.mono hbw3.size)
          go_wp2_with fail
          refine (lives_any _).mono ?_
          rintro e w9 ⟨rfl, hb9⟩
          go_wp2
          go_ret
          exact ⟨rfl, hbw4.trans (hb9.mono (hbw4.size))⟩

end Go.Proofs.Ytijocgijnbcefaa
