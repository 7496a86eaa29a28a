/-
  Places of orbit (without its sort) and of ref09: the walks.
-/
import Derived.Test.YtijocgijnbcefaaOrbV
import Derived.Test.YtijocgijnbcefaaOrbD
import Derived.Test.YtijocgijnbcefaaPlaP
import Derived.Test.YtijocgijnbcefaaArrS
namespace Go.Proofs.Ytijocgijnbcefaa
open Go.ChangeShapes Go.WideShapes Go.ChangeAt Go.RowKit

/-- a list of ints that the call itself made -/
def Out (w : World) (B : Nat) (v : Value) (l : List Int) : Prop := w.ownsRow B 3 1 v l.length (l.map (Value.int .i64))

theorem flat_csI (l : List Int) : l.flatMap csI = l.map (Value.int .i64) := by
  induction l with
  | nil => rfl
  | cons x l ih => rw [List.flatMap_cons, ih]; rfl

theorem Out.sl {w : World} {B : Nat} {v : Value} {l : List Int} (h : Out w B v l) : ∃ A cap, v = .slice A l.length cap ∧ Sl csI 1 w w.heap.size A l.length cap l := by
  rcases h.2 with ⟨rfl, h2⟩ | ⟨g, cap, cur, rfl, hb, hg, h1, h2, h3⟩
  · have hl : l = [] := by
      have := h.1
      cases l with
      | nil => rfl
      | cons x l => simp at h2
    subst hl
    exact ⟨_, _, rfl, Sl.nil_⟩
  · exact ⟨_, _, rfl, Sl.own (by rw [flat_csI]; exact h) rfl (fun _ _ => rfl) (Nat.le_refl _) h1 h2⟩

set_option maxRecDepth 100000 in
set_option maxHeartbeats 2000000 in
theorem places9_any (B : Nat) (A : Option Addr) (n cap : Nat) (ts : List Win) (c k : Int) (w : World) (h : Sl csW 6 w B A n cap ts) (hB : B ≤ w.heap.size) :
    Calls Try.prog 31 #[.slice A n cap, .int .i64 c, .int .i64 k] w fun e w' => ∃ v, e = .returned v ∧ Out w' w.heap.size v (placesR ts c k 32) ∧ Below w.heap.size w w' := by
  obtain ⟨i0, hi, hz0, hz1, hz2⟩ := info_parts infoI
  go_enter Try.func31, Try.ntmps31
  go_wp2
  go_loopw [7, 8] (fun v i wr => ∃ (q : Nat) (v' : Value), q ≤ 32 ∧ i = .int .i64 q ∧ v' = v ∧ Out wr w.heap.size v' (placesR ts c k q) ∧ Below w.heap.size w wr) (fun _ i _ => 32 - (intOf i).toNat)
  case atStart => exact ⟨0, _, by omega, rfl, rfl, World.ownsRow_nil _ _ _ _, Below.refl _ _⟩
  case round =>
    obtain ⟨q, v, hq, rfl, rfl, hO, hbr⟩ := hrel
    by_cases hlt : q < 32
    · have hlI : (q : Int) < 32 := by omega
      have hln := placesR_len ts c k q
      have HS := Lib.hid (placesR_succ ts c k q)
      have hsr := hbr.size
      obtain ⟨O, hOf⟩ : ∃ O, ts.find? (isAt 4 c q k) = O := ⟨_, rfl⟩
      obtain ⟨t0, ht0⟩ : ∃ t, O.getD wz = t := ⟨_, rfl⟩
      obtain ⟨o0, ho0⟩ : ∃ o, O.isSome = o := ⟨_, rfl⟩
      have fO : found O = .tuple #[t0.val, .bool o0] := by unfold found; rw [ht0, ho0]
      have HF := Lib.hid hOf
      have FO := Lib.hid fO
      have HO := Lib.hid ho0
      have hsl := h.below hbr hB
      clear hOf fO ht0 ho0
      go_wp2_with fail
      refine (at9_any B A n cap ts 4 c q k _ hsl (by omega)).mono ?_
      rintro e u1 ⟨rfl, hu1⟩
      rw [HF.out, FO.out]
      have hb1 := hbr.trans (hu1.mono hsr)
      have hO1 : Out u1 w.heap.size v (placesR ts c k q) := own_below6 hO hu1
      clear hO
      cases o0 with
      | false =>
        have hO2 : Out (u1.alloc (.cells #[.int .i64 t0.kind, .int .i64 t0.a, .int .i64 t0.b, .int .i64 t0.lo, .int .i64 t0.hi, .int .i64 t0.rate] 31)) w.heap.size v (placesR ts c k (q + 1)) := by
          rw [HS.out, if_neg (by rw [HF.out, HO.out]; simp), List.append_nil]
          exact World.ownsRow.alloc hO1 _
        have hb2 : Below w.heap.size w (u1.alloc (.cells #[.int .i64 t0.kind, .int .i64 t0.a, .int .i64 t0.b, .int .i64 t0.lo, .int .i64 t0.hi, .int .i64 t0.rate] 31)) := hb1.alloc hb1.size _
        clear hO1 hu1 hb1
        go_wp2
        go_roundw
        case rel => exact ⟨q + 1, _, by omega, by go_num, rfl, hO2, hb2⟩
        case measure => simp [intOf]; omega
      | true =>
        have hO2 : Out (u1.alloc (.cells #[.int .i64 t0.kind, .int .i64 t0.a, .int .i64 t0.b, .int .i64 t0.lo, .int .i64 t0.hi, .int .i64 t0.rate] 31)) w.heap.size v (placesR ts c k q) := World.ownsRow.alloc hO1 _
        have hb2 : Below w.heap.size w (u1.alloc (.cells #[.int .i64 t0.kind, .int .i64 t0.a, .int .i64 t0.b, .int .i64 t0.lo, .int .i64 t0.hi, .int .i64 t0.rate] 31)) := hb1.alloc hb1.size _
        clear hO1 hu1 hb1
        unfold Out at hO2
        go_wp2_with (at_builtin; refine wpList_append_own _ rfl _ _ 27 rfl w.heap.size 3 i0 (.int .i64 0) 1 8 (by kernel_rfl) hi hz0 hz1 hz2 rfl (by decide) _ _ _ rfl (hO2.alloc _) ⟨u1.heap.size + 1, 0, none⟩ 1 1 [.int .i64 q] rfl rfl (by simpa using (cell_one_new (u1.alloc (.cells #[.int .i64 t0.kind, .int .i64 t0.a, .int .i64 t0.b, .int .i64 t0.lo, .int .i64 t0.hi, .int .i64 t0.rate] 31)) _ _)) ?c2 ?c3 ?c4 ?c5 ?_)
        case c2 => simp [Value.oneCell']
        case c3 => unfold maxLen; omega
        case c4 => omega
        case c5 => have := hb2.size; simp at this ⊢; omega
        intro v2 w2 hown2 hgrow2 _
        have hb3 : Below w.heap.size w w2 := Below.grown (hb2.alloc hb2.size (.cells #[.int .i64 q] 3)) hgrow2 (by have := hb2.size; simp at this ⊢; omega) (fun k hk => (hO2.alloc (.cells #[.int .i64 q] 3)).lt k hk |>.1)
        have hO3 : Out w2 w.heap.size v2 (placesR ts c k (q + 1)) := by
          rw [HS.out, if_pos (by rw [HF.out, HO.out])]
          unfold Out
          rw [List.length_append, List.map_append]
          exact hown2
        clear hown2 hgrow2 hO2 hb2
        go_wp2
        go_roundw
        case rel => exact ⟨q + 1, _, by omega, by go_num, rfl, hO3, hb3⟩
        case measure => simp [intOf]; omega
    · obtain rfl : q = 32 := by omega
      have HR : Hid (∃ v', Ending.returned v = .returned v' ∧ Out wr w.heap.size v' (placesR ts c k 32) ∧ Below w.heap.size w wr) := ⟨v, rfl, hO, hbr⟩
      go_wp2
      go_ret
      exact HR.out


set_option maxRecDepth 100000 in
set_option maxHeartbeats 2000000 in
theorem places_any (hsort : ∀ (w : World) (B0 : Nat) (v : Value) (l : List Int), Out w B0 v l → l.length ≤ 1000 → Calls Try.prog 52 #[v] w fun e w' => e = .returned (.tuple #[]) ∧ Out w' B0 v (l.mergeSort (fun x y => decide (x ≤ y))) ∧ Below B0 w w')
    (B : Nat) (A : Option Addr) (n cap : Nat) (ts : List Win) (c k : Int) (w : World) (h : Sl csW 6 w B A n cap ts) (hB : B ≤ w.heap.size) (hn1 : n ≤ 1000) :
    Calls Try.prog 30 #[.slice A n cap, .int .i64 c, .int .i64 k] w fun e w' => ∃ v, e = .returned v ∧ Out w' w.heap.size v ((placesO ts c k).mergeSort (fun x y => decide (x ≤ y))) ∧ Below w.heap.size w w' := by
  obtain ⟨i0, hi, hz0, hz1, hz2⟩ := info_parts infoI
  have HSO := Lib.hid hsort
  clear hsort
  have hn := h.ncap
  have hcm := h.cmax
  go_enter Try.func30, Try.ntmps30
  go_wp2
  go_loopw [7, 12] (fun v i wr => ∃ (q : Nat) (v' : Value), q ≤ n ∧ i = .int .i64 q ∧ v' = v ∧ Out wr w.heap.size v' (placesO (ts.take q) c k) ∧ Below w.heap.size w wr) (fun _ i _ => n - (intOf i).toNat)
  case atStart => exact ⟨0, _, by omega, rfl, rfl, World.ownsRow_nil _ _ _ _, Below.refl _ _⟩
  case round =>
    obtain ⟨q, v, hq, rfl, rfl, hO, hbr⟩ := hrel
    have hsr := hbr.size
    by_cases hlt : q < n
    · obtain ⟨b, o, t, rfl, hb, ht, hW⟩ := h.win hlt
      have hln := placesO_len (ts.take q) c k
      have hlt2 : (ts.take q).length ≤ q := List.length_take_le _ _
      have HS : Hid (placesO (ts.take (q + 1)) c k = placesO (ts.take q) c k ++ if inPlace c k t = true then [t.b] else []) := by
        rw [take_snoc ht]; exact placesO_snoc _ _ _ _
      obtain ⟨c0, c1, c2, c3, c4, c5⟩ := hW wr (hbr.mono hB)
      have hO2 : Out (wr.alloc (.cells #[.int .i64 t.kind, .int .i64 t.a, .int .i64 t.b, .int .i64 t.lo, .int .i64 t.hi, .int .i64 t.rate] 31)) w.heap.size v (placesO (ts.take q) c k) := World.ownsRow.alloc hO _
      have hb2 : Below w.heap.size w (wr.alloc (.cells #[.int .i64 t.kind, .int .i64 t.a, .int .i64 t.b, .int .i64 t.lo, .int .i64 t.hi, .int .i64 t.rate] 31)) := hbr.alloc hbr.size _
      have HH := Lib.hid h
      clear ht hW hO h
      by_cases hp : inPlace c k t = true
      · have hp' := hp
        simp only [inPlace, Bool.and_eq_true, decide_eq_true_eq] at hp'
        obtain ⟨⟨⟨p1, p2⟩, p3⟩, p4⟩ := hp'
        have HP := Lib.hid hp
        clear hp
        unfold Out at hO2
        go_wp2_with (at_builtin; refine wpList_append_own _ rfl _ _ 27 rfl w.heap.size 3 i0 (.int .i64 0) 1 8 (by kernel_rfl) hi hz0 hz1 hz2 rfl (by decide) _ _ _ rfl (hO2.alloc _) ⟨wr.heap.size + 1, 0, none⟩ 1 1 [.int .i64 t.b] rfl rfl (by simpa using (cell_one_new (wr.alloc (.cells #[.int .i64 t.kind, .int .i64 t.a, .int .i64 t.b, .int .i64 t.lo, .int .i64 t.hi, .int .i64 t.rate] 31)) _ _)) ?c2 ?c3 ?c4 ?c5 ?_)
        case c2 => simp [Value.oneCell']
        case c3 => unfold maxLen; omega
        case c4 => omega
        case c5 => have := hb2.size; simp at this ⊢; omega
        intro v2 w2 hown2 hgrow2 _
        have hb3 : Below w.heap.size w w2 := Below.grown (hb2.alloc hb2.size (.cells #[.int .i64 t.b] 3)) hgrow2 (by have := hb2.size; simp at this ⊢; omega) (fun k hk => (hO2.alloc (.cells #[.int .i64 t.b] 3)).lt k hk |>.1)
        have hO3 : Out w2 w.heap.size v2 (placesO (ts.take (q + 1)) c k) := by
          rw [HS.out, if_pos HP.out]
          unfold Out
          rw [List.length_append, List.map_append]
          exact hown2
        clear hown2 hgrow2 hO2 hb2
        go_wp2
        go_roundw
        case rel => exact ⟨q + 1, _, by omega, by go_num, rfl, hO3, hb3⟩
        case measure => simp [intOf]; omega
      · have hO3 : Out (wr.alloc (.cells #[.int .i64 t.kind, .int .i64 t.a, .int .i64 t.b, .int .i64 t.lo, .int .i64 t.hi, .int .i64 t.rate] 31)) w.heap.size v (placesO (ts.take (q + 1)) c k) := by
          rw [HS.out, if_neg hp, List.append_nil]
          exact hO2
        have HP := Lib.hid hp
        clear hp hO2
        by_cases p1 : t.kind = 4
        · have p1' : (t.kind == 4) = true := beq_iff_eq.2 p1
          by_cases p2 : t.a = c
          · have p2' : (t.a == c) = true := beq_iff_eq.2 p2
            by_cases p3 : t.lo ≤ k
            · have p4 : t.hi ≤ k := by
                have := HP.out
                simp only [inPlace, p1', p2', Bool.true_and, Bool.and_eq_true, decide_eq_true_eq] at this
                omega
              clear p1 p2
              go_wp2
              go_roundw
              case rel => exact ⟨q + 1, _, by omega, by go_num, rfl, hO3, hb2⟩
              case measure => simp [intOf]; omega
            · clear p1 p2
              go_wp2
              go_roundw
              case rel => exact ⟨q + 1, _, by omega, by go_num, rfl, hO3, hb2⟩
              case measure => simp [intOf]; omega
          · have p2' : (t.a == c) = false := beq_eq_false_iff_ne.2 p2
            clear p1 p2
            go_wp2
            go_roundw
            case rel => exact ⟨q + 1, _, by omega, by go_num, rfl, hO3, hb2⟩
            case measure => simp [intOf]; omega
        · have p1' : (t.kind == 4) = false := beq_eq_false_iff_ne.2 p1
          clear p1
          go_wp2
          go_roundw
          case rel => exact ⟨q + 1, _, by omega, by go_num, rfl, hO3, hb2⟩
          case measure => simp [intOf]; omega
    · obtain rfl : q = n := by omega
      have hO4 : Out wr w.heap.size v (placesO ts c k) := by rwa [List.take_of_length_le (by rw [h.len]; omega)] at hO
      have hln := placesO_len ts c k
      rw [h.len] at hln
      clear hO
      go_wp2_with fail
      refine (HSO.out wr w.heap.size v (placesO ts c k) hO4 (by omega)).mono ?_
      rintro e w2 ⟨rfl, hO5, hb5⟩
      have HR : Hid (∃ v', Ending.returned v = .returned v' ∧ Out w2 w.heap.size v' ((placesO ts c k).mergeSort (fun x y => decide (x ≤ y))) ∧ Below w.heap.size w w2) := ⟨v, rfl, hO5, hbr.trans hb5⟩
      clear hO4 hO5
      go_wp2
      go_ret
      exact HR.out

end Go.Proofs.Ytijocgijnbcefaa
