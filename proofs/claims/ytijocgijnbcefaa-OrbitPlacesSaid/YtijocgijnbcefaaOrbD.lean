/-
  perigeeref09's At, Next: searches over a table.
-/
import Derived.Test.YtijocgijnbcefaaOrbB
import Derived.Test.YtijocgijnbcefaaOrbC
namespace Go.Proofs.Ytijocgijnbcefaa
open Go.ChangeShapes Go.WideShapes Go.ChangeAt Go.RowKit

theorem at9_any (B : Nat) (A : Option Addr) (n cap : Nat) (ts : List Win) (kk aa bb tick : Int) (w : World) (h : Sl csW 6 w B A n cap ts) (hB : B ≤ w.heap.size) :
    Calls Try.prog 19 #[.slice A n cap, .int .i64 kk, .int .i64 aa, .int .i64 bb, .int .i64 tick] w fun e w' => e = .returned (found (ts.find? (isAt kk aa bb tick))) ∧ Below w.heap.size w w' := by
  have hn := h.ncap
  have hc := h.cmax
  go_enter Try.func19, Try.ntmps19
  go_wp2
  go_loopw [12] (fun i wr => ∃ k : Nat, k ≤ n ∧ i = .int .i64 k ∧ Hid (ts.find? (isAt kk aa bb tick) = (ts.drop k).find? (isAt kk aa bb tick)) ∧ Below w.heap.size w wr ∧ Blk wr w.heap.size 31 z6) (fun i _ => n - (intOf i).toNat)
  case atStart => exact ⟨0, Nat.zero_le _, rfl, rfl, (Below.refl _ _).alloc (Nat.le_refl _) _, Blk.new _ _ _⟩
  case round =>
    obtain ⟨k, hk, rfl, HR, hbw, hz⟩ := hrel
    have hlw := hz.lt
    by_cases hlt : k < n
    · obtain ⟨b, o, t, rfl, hb, ht, hW⟩ := h.win hlt
      have HD := Lib.hid (drop_cons ht)
      clear ht h
      obtain ⟨c0, c1, c2, c3, c4, c5⟩ := hW wr (hbw.mono hB)
      go_wp2_with fail
      refine (key_any t _ _ _ _).mono ?_
      rintro e w1 ⟨rfl, hb1⟩
      have hbw1 := hbw.trans (hb1.mono hbw.size)
      have hz1 := hz.below hb1 hlw
      clear c0 c1 c2 c3 c4 c5 hz hbw hb1
      obtain ⟨c0, c1, c2, c3, c4, c5⟩ := hW w1 (hbw1.mono hB)
      obtain ⟨z0, z1, z2, z3, z4, z5, f0, f1, f2, f3, f4, f5⟩ := hz1.free6
      by_cases hkey : t.key kk aa bb = true
      · by_cases h1 : t.lo ≤ tick
        · by_cases h2 : tick < t.hi
          · have HF : Hid (ts.find? (isAt kk aa bb tick) = some t) := by unfold Hid; rw [HR.out, HD.out, List.find?_cons_of_pos (by simp [isAt, *])]
            go_wp2
            refine bodyPost_ret (v := .tuple #[t.val, .bool true]) (by simp [results, Try.results19, go_sem, z0, z1, z2, z3, z4, z5]) rfl ⟨?_, ?_⟩
            · rw [HF.out]; rfl
            · exact below6 hbw1 (Nat.le_refl _) t
          · have HN : Hid (ts.find? (isAt kk aa bb tick) = (ts.drop (k + 1)).find? (isAt kk aa bb tick)) := by rw [Hid, HR.out, HD.out, List.find?_cons_of_neg (by simp [isAt, *])]
            go_wp2
            go_roundw
            case rel => exact ⟨k + 1, by omega, by go_num, HN, hbw1, hz1⟩
            case measure => simp [intOf]; omega
        · have HN : Hid (ts.find? (isAt kk aa bb tick) = (ts.drop (k + 1)).find? (isAt kk aa bb tick)) := by rw [Hid, HR.out, HD.out, List.find?_cons_of_neg (by simp [isAt, *])]
          go_wp2
          go_roundw
          case rel => exact ⟨k + 1, by omega, by go_num, HN, hbw1, hz1⟩
          case measure => simp [intOf]; omega
      · have HN : Hid (ts.find? (isAt kk aa bb tick) = (ts.drop (k + 1)).find? (isAt kk aa bb tick)) := by rw [Hid, HR.out, HD.out, List.find?_cons_of_neg (by simp [isAt, *])]
        go_wp2
        go_roundw
        case rel => exact ⟨k + 1, by omega, by go_num, HN, hbw1, hz1⟩
        case measure => simp [intOf]; omega
    · obtain rfl : n = k := by omega
      have hl := h.len
      have HE : Hid (ts.find? (isAt kk aa bb tick) = none) := by
        have : ts.drop n = [] := by rw [List.drop_eq_nil_iff]; omega
        rw [Hid, HR.out, this]; rfl
      clear hl h
      obtain ⟨z0, z1, z2, z3, z4, z5, f0, f1, f2, f3, f4, f5⟩ := hz.free6
      go_wp2
      refine bodyPost_ret (v := .tuple #[wz.val, .bool false]) (by simp [results, Try.results19, go_sem, wz, z0, z1, z2, z3, z4, z5]) rfl ⟨?_, ?_⟩
      · rw [HE.out]; rfl
      · exact below6 hbw (Nat.le_refl _) wz

theorem next9_any (B : Nat) (A : Option Addr) (n cap : Nat) (ts : List Win) (kk aa bb tick : Int) (w : World) (h : Sl csW 6 w B A n cap ts) (hB : B ≤ w.heap.size) :
    Calls Try.prog 21 #[.slice A n cap, .int .i64 kk, .int .i64 aa, .int .i64 bb, .int .i64 tick] w fun e w' => e = .returned (found (ts.find? (isNext kk aa bb tick))) ∧ Below w.heap.size w w' := by
  have hn := h.ncap
  have hc := h.cmax
  go_enter Try.func21, Try.ntmps21
  go_wp2
  go_loopw [12] (fun i wr => ∃ k : Nat, k ≤ n ∧ i = .int .i64 k ∧ Hid (ts.find? (isNext kk aa bb tick) = (ts.drop k).find? (isNext kk aa bb tick)) ∧ Below w.heap.size w wr ∧ Blk wr w.heap.size 31 z6) (fun i _ => n - (intOf i).toNat)
  case atStart => exact ⟨0, Nat.zero_le _, rfl, rfl, (Below.refl _ _).alloc (Nat.le_refl _) _, Blk.new _ _ _⟩
  case round =>
    obtain ⟨k, hk, rfl, HR, hbw, hz⟩ := hrel
    have hlw := hz.lt
    by_cases hlt : k < n
    · obtain ⟨b, o, t, rfl, hb, ht, hW⟩ := h.win hlt
      have HD := Lib.hid (drop_cons ht)
      clear ht h
      obtain ⟨c0, c1, c2, c3, c4, c5⟩ := hW wr (hbw.mono hB)
      go_wp2_with fail
      refine (key_any t _ _ _ _).mono ?_
      rintro e w1 ⟨rfl, hb1⟩
      have hbw1 := hbw.trans (hb1.mono hbw.size)
      have hz1 := hz.below hb1 hlw
      clear c0 c1 c2 c3 c4 c5 hz hbw hb1
      obtain ⟨c0, c1, c2, c3, c4, c5⟩ := hW w1 (hbw1.mono hB)
      obtain ⟨z0, z1, z2, z3, z4, z5, f0, f1, f2, f3, f4, f5⟩ := hz1.free6
      by_cases hkey : t.key kk aa bb = true
      · by_cases h2 : tick < t.hi
        · have HF : Hid (ts.find? (isNext kk aa bb tick) = some t) := by unfold Hid; rw [HR.out, HD.out, List.find?_cons_of_pos (by simp [isNext, *])]
          go_wp2
          refine bodyPost_ret (v := .tuple #[t.val, .bool true]) (by simp [results, Try.results21, go_sem, z0, z1, z2, z3, z4, z5]) rfl ⟨?_, ?_⟩
          · rw [HF.out]; rfl
          · exact below6 hbw1 (Nat.le_refl _) t
        · have HN : Hid (ts.find? (isNext kk aa bb tick) = (ts.drop (k + 1)).find? (isNext kk aa bb tick)) := by rw [Hid, HR.out, HD.out, List.find?_cons_of_neg (by simp [isNext, *])]
          go_wp2
          go_roundw
          case rel => exact ⟨k + 1, by omega, by go_num, HN, hbw1, hz1⟩
          case measure => simp [intOf]; omega
      · have HN : Hid (ts.find? (isNext kk aa bb tick) = (ts.drop (k + 1)).find? (isNext kk aa bb tick)) := by rw [Hid, HR.out, HD.out, List.find?_cons_of_neg (by simp [isNext, *])]
        go_wp2
        go_roundw
        case rel => exact ⟨k + 1, by omega, by go_num, HN, hbw1, hz1⟩
        case measure => simp [intOf]; omega
    · obtain rfl : n = k := by omega
      have hl := h.len
      have HE : Hid (ts.find? (isNext kk aa bb tick) = none) := by
        have : ts.drop n = [] := by rw [List.drop_eq_nil_iff]; omega
        rw [Hid, HR.out, this]; rfl
      clear hl h
      obtain ⟨z0, z1, z2, z3, z4, z5, f0, f1, f2, f3, f4, f5⟩ := hz.free6
      go_wp2
      refine bodyPost_ret (v := .tuple #[wz.val, .bool false]) (by simp [results, Try.results21, go_sem, wz, z0, z1, z2, z3, z4, z5]) rfl ⟨?_, ?_⟩
      · rw [HE.out]; rfl
      · exact below6 hbw (Nat.le_refl _) wz

end Go.Proofs.Ytijocgijnbcefaa
