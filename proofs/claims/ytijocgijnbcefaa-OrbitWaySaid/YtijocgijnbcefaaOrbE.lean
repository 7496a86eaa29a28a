/-
  perigeeref09's Ticks, step; perigeelaw09's hop: sums and least hops over a table.
-/
import Derived.Test.YtijocgijnbcefaaOrbB
import Derived.Test.YtijocgijnbcefaaOrbC
namespace Go.Proofs.Ytijocgijnbcefaa
open Go.ChangeShapes Go.WideShapes Go.ChangeAt Go.RowKit

theorem ticks9_any (B : Nat) (A : Option Addr) (n cap : Nat) (ts : List Win) (kk aa bb f u : Int) (w : World) (h : Sl csW 6 w B A n cap ts) (hB : B ≤ w.heap.size) (hF : ∀ t ∈ ts, t.Formed) (h200 : n ≤ 1000) :
    Calls Try.prog 23 #[.slice A n cap, .int .i64 kk, .int .i64 aa, .int .i64 bb, .int .i64 f, .int .i64 u] w fun e w' => e = .returned (.int .i64 (ticks kk aa bb f u ts)) ∧ Below w.heap.size w w' := by
  have hn := h.ncap
  have hc := h.cmax
  go_enter Try.func23, Try.ntmps23
  go_wp2
  go_loopw [13, 14] (fun s i wr => ∃ (k : Nat) (N : Int), k ≤ n ∧ i = .int .i64 k ∧ s = .int .i64 N ∧ Hid (N = ticks kk aa bb f u (ts.take k)) ∧ 0 ≤ N ∧ N ≤ k * 1000000 ∧ Below w.heap.size w wr) (fun _ i _ => n - (intOf i).toNat)
  case atStart => exact ⟨0, 0, Nat.zero_le _, rfl, rfl, rfl, by omega, by omega, Below.refl _ _⟩
  case round =>
    obtain ⟨k, N, hk, rfl, rfl, HR, hN0, hN1, hbw⟩ := hrel
    by_cases hlt : k < n
    · obtain ⟨b, o, t, rfl, hb, ht, hW⟩ := h.win hlt
      have HD := Lib.hid (take_snoc ht)
      have hft := hF t (List.mem_of_getElem? ht)
      obtain ⟨b1, b2, b3, b4⟩ : 0 ≤ t.lo ∧ t.lo ≤ 1000000 ∧ 0 ≤ t.hi ∧ t.hi ≤ 1000000 := by unfold Win.Formed at hft; omega
      have hbd := tick1_bd (k := kk) (a := aa) (b := bb) (f := f) (u := u) hft
      clear ht h hft hF
      obtain ⟨c0, c1, c2, c3, c4, c5⟩ := hW wr (hbw.mono hB)
      go_wp2_with fail
      all_goals
        refine (key_any t _ _ _ _).mono ?_
        rintro e w1 ⟨rfl, hb1⟩
        have hbw1 := hbw.trans (hb1.mono hbw.size)
        clear c0 c1 c2 c3 c4 c5 hbw hb1 hW
        by_cases hkey : t.key kk aa bb = true
        · go_wp2
          all_goals
            go_roundw
            case rel => exact ⟨k + 1, _, by omega, by go_num, rfl, by rw [Hid, HD.out, ticks_snoc, ← HR.out, tick1_yes hkey]; split <;> omega, by omega, by omega, hbw1⟩
            case measure => simp [intOf]; omega
        · go_wp2
          go_roundw
          case rel => exact ⟨k + 1, _, by omega, by go_num, rfl, by rw [Hid, HD.out, ticks_snoc, ← HR.out, tick1_no hkey]; omega, by omega, by omega, hbw1⟩
          case measure => simp [intOf]; omega
    · obtain rfl : n = k := by omega
      have hl := h.len
      have HE : Hid (N = ticks kk aa bb f u ts) := by rw [Hid, HR.out, List.take_of_length_le (by omega)]
      clear hl h
      go_wp2
      go_ret
      exact ⟨ret_int HE.out, hbw⟩

theorem step9_any (B : Nat) (A : Option Addr) (n cap : Nat) (ts : List Win) (frm dst tick size : Int) (w : World) (h : Sl csW 6 w B A n cap ts) (hB : B ≤ w.heap.size) (hF : ∀ t ∈ ts, t.Formed)
    (h1 : 0 ≤ tick) (h2 : tick ≤ 1000000000) (h3 : 1 ≤ size) (h4 : size ≤ 1000000) :
    Calls Try.prog 50 #[.slice A n cap, .int .i64 frm, .int .i64 dst, .int .i64 tick, .int .i64 size] w fun e w' => e = .returned (.tuple #[.int .i64 (stepL frm dst tick size ts).1, .bool (stepL frm dst tick size ts).2]) ∧ Below w.heap.size w w' := by
  have hn := h.ncap
  have hc := h.cmax
  go_enter Try.func50, Try.ntmps50
  go_wp2
  go_loopw [12, 13, 14] (fun s g i wr => ∃ (k : Nat) (N : Int) (D : Bool), k ≤ n ∧ i = .int .i64 k ∧ s = .int .i64 N ∧ g = .bool D ∧ Hid ((N, D) = stepL frm dst tick size (ts.take k)) ∧ Below w.heap.size w wr) (fun _ _ i _ => n - (intOf i).toNat)
  case atStart => exact ⟨0, 0, false, Nat.zero_le _, rfl, rfl, rfl, rfl, Below.refl _ _⟩
  case round =>
    obtain ⟨k, N, D, hk, rfl, rfl, rfl, HR, hbw⟩ := hrel
    by_cases hlt : k < n
    · obtain ⟨b, o, t, rfl, hb, ht, hW⟩ := h.win hlt
      have HD := Lib.hid (take_snoc ht)
      have hft := hF t (List.mem_of_getElem? ht)
      clear ht h hF
      obtain ⟨c0, c1, c2, c3, c4, c5⟩ := hW wr (hbw.mono hB)
      go_wp2_with fail
      refine (hop_any t frm dst tick size _ hft h1 h2 h3 h4).mono ?_
      rintro e w1 ⟨rfl, hb1⟩
      have hbw1 := hbw.trans (hb1.mono hbw.size)
      clear c0 c1 c2 c3 c4 c5 hbw hb1 hW
      have HS := Lib.hid (stepL_snoc frm dst tick size (ts.take k) t)
      obtain ⟨E, hE⟩ : ∃ E, (t.hop frm dst tick size).1 = E := ⟨_, rfl⟩
      obtain ⟨F, hFF⟩ : ∃ F, (t.hop frm dst tick size).2 = F := ⟨_, rfl⟩
      rw [hE, hFF]
      have HE := Lib.hid hE
      have HF := Lib.hid hFF
      clear hE hFF
      have HX : Hid (stepL frm dst tick size (ts.take (k + 1)) = if F = true ∧ (D = false ∨ E < N) then (E, true) else (N, D)) := by
        rw [Hid, HD.out, HS.out, ← HR.out, step1, HE.out, HF.out]
      go_wp2
      all_goals
        go_roundw
        case rel => exact ⟨k + 1, _, _, by omega, by go_num, rfl, rfl, by rw [Hid, HX.out]; simp [*]; try omega, hbw1⟩
        case measure => simp [intOf]; omega
    · obtain rfl : n = k := by omega
      have hl := h.len
      have HE : Hid ((N, D) = stepL frm dst tick size ts) := by rw [Hid, HR.out, List.take_of_length_le (by omega)]
      clear hl h
      go_wp2
      go_ret2
      exact ⟨by rw [← HE.out]; rfl, hbw⟩

theorem hopL_any (B : Nat) (A : Option Addr) (n cap : Nat) (ts : List Win) (frm dst tick size : Int) (w : World) (h : Sl csW 6 w B A n cap ts) (hB : B ≤ w.heap.size) (hF : ∀ t ∈ ts, t.Formed)
    (h1 : 0 ≤ tick) (h2 : tick ≤ 1000000000) (h3 : 1 ≤ size) (h4 : size ≤ 1000000) :
    Calls Try.prog 28 #[.slice A n cap, .int .i64 frm, .int .i64 dst, .int .i64 tick, .int .i64 size] w fun e w' => e = .returned (.tuple #[.int .i64 (stepL frm dst tick size ts).1, .bool (stepL frm dst tick size ts).2]) ∧ Below w.heap.size w w' := by
  have hn := h.ncap
  have hc := h.cmax
  go_enter Try.func28, Try.ntmps28
  go_wp2
  go_loopw [12, 13, 14] (fun s g i wr => ∃ (k : Nat) (N : Int) (D : Bool), k ≤ n ∧ i = .int .i64 k ∧ s = .int .i64 N ∧ g = .bool D ∧ Hid ((N, D) = stepL frm dst tick size (ts.take k)) ∧ Below w.heap.size w wr) (fun _ _ i _ => n - (intOf i).toNat)
  case atStart => exact ⟨0, 0, false, Nat.zero_le _, rfl, rfl, rfl, rfl, Below.refl _ _⟩
  case round =>
    obtain ⟨k, N, D, hk, rfl, rfl, rfl, HR, hbw⟩ := hrel
    by_cases hlt : k < n
    · obtain ⟨b, o, t, rfl, hb, ht, hW⟩ := h.win hlt
      have HD := Lib.hid (take_snoc ht)
      have hft := hF t (List.mem_of_getElem? ht)
      clear ht h hF
      obtain ⟨c0, c1, c2, c3, c4, c5⟩ := hW wr (hbw.mono hB)
      go_wp2_with fail
      refine (hop_any t frm dst tick size _ hft h1 h2 h3 h4).mono ?_
      rintro e w1 ⟨rfl, hb1⟩
      have hbw1 := hbw.trans (hb1.mono hbw.size)
      clear c0 c1 c2 c3 c4 c5 hbw hb1 hW
      have HS := Lib.hid (stepL_snoc frm dst tick size (ts.take k) t)
      obtain ⟨E, hE⟩ : ∃ E, (t.hop frm dst tick size).1 = E := ⟨_, rfl⟩
      obtain ⟨F, hFF⟩ : ∃ F, (t.hop frm dst tick size).2 = F := ⟨_, rfl⟩
      rw [hE, hFF]
      have HE := Lib.hid hE
      have HF := Lib.hid hFF
      clear hE hFF
      have HX : Hid (stepL frm dst tick size (ts.take (k + 1)) = if F = true ∧ (D = false ∨ E < N) then (E, true) else (N, D)) := by
        rw [Hid, HD.out, HS.out, ← HR.out, step1, HE.out, HF.out]
      go_wp2
      all_goals
        go_roundw
        case rel => exact ⟨k + 1, _, _, by omega, by go_num, rfl, rfl, by rw [Hid, HX.out]; simp [*]; try omega, hbw1⟩
        case measure => simp [intOf]; omega
    · obtain rfl : n = k := by omega
      have hl := h.len
      have HE : Hid ((N, D) = stepL frm dst tick size ts) := by rw [Hid, HR.out, List.take_of_length_le (by omega)]
      clear hl h
      go_wp2
      go_ret2
      exact ⟨by rw [← HE.out]; rfl, hbw⟩

end Go.Proofs.Ytijocgijnbcefaa
