/-
  slices.ContainsFunc and slices.IsSortedFunc at orbit.Check's closures.
-/
import Derived.Test.YtijocgijnbcefaaOrbI
namespace Go.Proofs.Ytijocgijnbcefaa
open Go.ChangeShapes Go.WideShapes Go.ChangeAt Go.RowKit

theorem index_any (B : Nat) (A : Option Addr) (n cap : Nat) (ts : List Win) (w : World) (h : Sl csW 6 w B A n cap ts) (hB : B ≤ w.heap.size) :
    Calls Try.prog 53 #[.slice A n cap, .func (.func 33) #[] #[]] w fun e w' => e = .returned (.int .i64 (match ts.findIdx? (fun t => !t.formed) with | some i => (i : Int) | none => -1)) ∧ Below w.heap.size w w' := by
  have hn := h.ncap
  have hc := h.cmax
  obtain ⟨R, hR⟩ : ∃ R : Int, (match ts.findIdx? (fun t => !t.formed) with | some i => (i : Int) | none => -1) = R := ⟨_, rfl⟩
  rw [hR]
  have HRR := Lib.hid hR
  clear hR
  go_enter Try.func53, Try.ntmps53
  go_wp2
  go_loopw [5, 8] (fun _ i wr => ∃ k : Nat, k ≤ n ∧ i = .int .i64 k ∧ Hid (∀ t ∈ ts.take k, t.formed = true) ∧ Below w.heap.size w wr) (fun _ i _ => n - (intOf i).toNat)
  case atStart => exact ⟨0, Nat.zero_le _, rfl, by simp [Hid], Below.refl _ _⟩
  case round =>
    obtain ⟨k, hk, rfl, HR, hbw⟩ := hrel
    by_cases hlt : k < n
    · obtain ⟨b, o, t, rfl, hb, ht, hW⟩ := h.win hlt
      have HD := Lib.hid (take_snoc ht)
      have HG := Lib.hid ht
      clear ht h
      obtain ⟨c0, c1, c2, c3, c4, c5⟩ := hW wr (hbw.mono hB)
      go_wp2_with fail
      refine (chk1_any t _).mono ?_
      rintro e w1 ⟨rfl, hb1⟩
      have hbw1 := hbw.trans (hb1.mono hbw.size)
      clear c0 c1 c2 c3 c4 c5 hbw hb1
      by_cases hf : t.formed = true
      · go_wp2
        go_roundw
        case rel => exact ⟨k + 1, by omega, by go_num, by rw [Hid, HD.out]; intro x hx; exact (List.mem_append.1 hx).elim (HR.out x) (fun e => by simp at e; rw [e]; exact hf), hbw1⟩
        case measure => simp [intOf]; omega
      · have HE : Hid ((k : Int) = R) := by
          have h2 : ts.findIdx? (fun t => !t.formed) = some k := by
            rw [List.findIdx?_eq_some_iff_getElem]
            obtain ⟨hk', e⟩ := List.getElem?_eq_some_iff.1 HG.out
            refine ⟨hk', by rw [e]; simpa using hf, fun j hj => ?_⟩
            have := HR.out (ts[j]'(by omega)) (by rw [List.mem_take_iff_getElem]; exact ⟨j, by omega, rfl⟩)
            simpa using this
          have := HRR.out
          rw [h2] at this
          exact this
        go_wp2
        go_ret
        exact ⟨ret_int HE.out, hbw1⟩
    · obtain rfl : n = k := by omega
      have hl := h.len
      have HE : Hid (-1 = R) := by
        have h2 : ts.findIdx? (fun t => !t.formed) = none := by
          rw [List.findIdx?_eq_none_iff]
          intro x hx
          have := HR.out x (by rw [List.take_of_length_le (by omega)]; exact hx)
          simpa using this
        have := HRR.out
        rw [h2] at this
        exact this
      clear hl h
      go_wp2
      go_ret
      exact ⟨ret_int HE.out, hbw⟩

theorem contains_any (B : Nat) (A : Option Addr) (n cap : Nat) (ts : List Win) (w : World) (h : Sl csW 6 w B A n cap ts) (hB : B ≤ w.heap.size) :
    Calls Try.prog 32 #[.slice A n cap, .func (.func 33) #[] #[]] w fun e w' => e = .returned (.bool (!ts.all (·.formed))) ∧ Below w.heap.size w w' := by
  have c := index_any B A n cap ts w h hB
  cases hi : ts.findIdx? (fun t => !t.formed) with
  | none =>
    have HA : Hid (ts.all (·.formed) = true) := by
      rw [Hid, List.all_eq_true]
      intro x hx
      have := List.findIdx?_eq_none_iff.1 hi x hx
      simpa using this
    rw [hi] at c
    have C := Lib.hid c
    clear c hi
    go_enter Try.func32, Try.ntmps32
    go_wp2_with fail
    refine C.out.mono ?_
    clear C
    rintro e w1 ⟨rfl, hb1⟩
    go_wp2
    go_ret
    exact ⟨by rw [HA.out]; rfl, hb1⟩
  | some i =>
    have HA : Hid (ts.all (·.formed) = false) := by
      rw [Hid, List.all_eq_false]
      obtain ⟨hk, h1, _⟩ := List.findIdx?_eq_some_iff_getElem.1 hi
      exact ⟨_, List.getElem_mem hk, by simpa using h1⟩
    rw [hi] at c
    have C := Lib.hid c
    clear c hi
    go_enter Try.func32, Try.ntmps32
    go_wp2_with fail
    refine C.out.mono ?_
    clear C
    rintro e w1 ⟨rfl, hb1⟩
    have hi0 : (0 : Int) ≤ (i : Int) := by omega
    go_wp2
    go_ret
    exact ⟨by rw [HA.out]; rfl, hb1⟩

theorem sorted_any (B : Nat) (A : Option Addr) (n cap : Nat) (ts : List Win) (w : World) (h : Sl csW 6 w B A n cap ts) (hB : B ≤ w.heap.size) :
    Calls Try.prog 35 #[.slice A n cap, .func (.func 36) #[] #[]] w fun e w' => e = .returned (.bool (sortedB ts)) ∧ Below w.heap.size w w' := by
  have hn := h.ncap
  have hc := h.cmax
  go_enter Try.func35, Try.ntmps35
  go_wp2
  go_loopw [5] (fun i wr => ∃ k : Int, -1 ≤ k ∧ k < n ∧ i = .int .i64 k ∧ Hid (∀ (j : Nat) (t u : Win), k ≤ j → ts[j]? = some t → ts[j + 1]? = some u → ¬ u.Before t) ∧ Below w.heap.size w wr) (fun i _ => (intOf i).toNat)
  case atStart => exact ⟨(n : Int) - 1, by omega, by omega, rfl, fun j t u h1 _ h3 => by have := (List.getElem?_eq_some_iff.1 h3).1; have := h.len; omega, Below.refl _ _⟩
  case round =>
    obtain ⟨k, hk, hkn, rfl, HR, hbw⟩ := hrel
    by_cases hlt : 0 < k
    · obtain ⟨m, rfl⟩ : ∃ m : Nat, k = (m : Int) + 1 := ⟨(k - 1).toNat, by omega⟩
      obtain ⟨b, o, t, rfl, hb, ht, hW⟩ := h.win (k := m + 1) (by omega)
      obtain ⟨b', o', u, hbo, hb', hu, hW'⟩ := h.win (k := m) (by omega)
      obtain ⟨rfl, rfl⟩ : b = b' ∧ o = o' := by simpa using hbo
      have HT := Lib.hid ht
      have HU := Lib.hid hu
      have hs := hbw.size
      obtain ⟨c0, c1, c2, c3, c4, c5⟩ := hW wr (hbw.mono hB)
      obtain ⟨d0, d1, d2, d3, d4, d5⟩ := hW' wr (hbw.mono hB)
      clear ht hu hbo h
      have c0 := Gr.cell (H := wr.heap.size) c0 (by simp; omega)
      have c1 := Gr.cell (H := wr.heap.size) c1 (by simp; omega)
      have c2 := Gr.cell (H := wr.heap.size) c2 (by simp; omega)
      have c3 := Gr.cell (H := wr.heap.size) c3 (by simp; omega)
      have c4 := Gr.cell (H := wr.heap.size) c4 (by simp; omega)
      have c5 := Gr.cell (H := wr.heap.size) c5 (by simp; omega)
      have d0 := Gr.cell (H := wr.heap.size) d0 (by simp; omega)
      have d1 := Gr.cell (H := wr.heap.size) d1 (by simp; omega)
      have d2 := Gr.cell (H := wr.heap.size) d2 (by simp; omega)
      have d3 := Gr.cell (H := wr.heap.size) d3 (by simp; omega)
      have d4 := Gr.cell (H := wr.heap.size) d4 (by simp; omega)
      have d5 := Gr.cell (H := wr.heap.size) d5 (by simp; omega)
      go_wp2
      refine wp_region_gr wr.heap.size (by kernel_rfl) (by kernel_rfl) ?_
      repeat (go_big_quiet_step ((go_at_call 36; exact Calls.gr_of (Nat.le_refl _) (chk2_any t u _))))
      refine wpQuiet_nil ?_
      rintro w1 ⟨g, hg⟩
      have hb1 : Below wr.heap.size wr w1 := by rw [hg]; exact Gr.below
      have hbw1 := hbw.trans (hb1.mono hbw.size)
      clear hg c0 c1 c2 c3 c4 c5 d0 d1 d2 d3 d4 d5 hb1 hbw
      by_cases hneg : t.cmp u < 0
      · have HE : Hid (sortedB ts = false) := by
          rw [Hid, ← Bool.not_eq_true, sortedB_iff]
          intro hall
          exact hall m u t HU.out HT.out ((Win.cmp_neg t u).1 hneg)
        go_wp2
        go_ret
        exact ⟨by rw [HE.out]; rfl, hbw1⟩
      · have HN : Hid (∀ (j : Nat) (x y : Win), (m : Int) ≤ j → ts[j]? = some x → ts[j + 1]? = some y → ¬ y.Before x) := by
          intro j x y hj hx hy
          by_cases hjm : j = m
          · subst hjm
            have e1 := Option.some.inj (hx.symm.trans HU.out)
            have e2 := Option.some.inj (hy.symm.trans HT.out)
            subst e1 e2
            exact fun hbf => hneg ((Win.cmp_neg y x).2 hbf)
          · exact HR.out j x y (by omega) hx hy
        go_wp2
        go_roundw
        case rel => exact ⟨m, by omega, by omega, by go_num, HN, hbw1⟩
        case measure => simp [intOf]
    · have HE : Hid (sortedB ts = true) := by
        rw [Hid, sortedB_iff]
        intro j t u hj hu
        exact HR.out j t u (by omega) hj hu
      go_wp2
      go_ret
      exact ⟨by rw [HE.out]; rfl, hbw⟩

end Go.Proofs.Ytijocgijnbcefaa
