/-
  perigeeref09.Check.
-/
import Derived.Test.YtijocgijnbcefaaOrbI
namespace Go.Proofs.Ytijocgijnbcefaa
open Go.ChangeShapes Go.WideShapes Go.ChangeAt Go.RowKit

def NoMeet (ts : List Win) : Prop := ∀ (i k : Nat) (t u : Win), k < i → ts[i]? = some t → ts[k]? = some u → ¬ t.meet u = true
noncomputable def checkR (ts : List Win) : Int := by
  classical exact if 200 < ts.length then 2 else if ts.all (·.formed) = false then 5 else if sortedB ts = true ∧ NoMeet ts then 0 else 23

set_option maxRecDepth 100000 in
set_option maxHeartbeats 800000 in
theorem check9_any (B : Nat) (A : Option Addr) (n cap : Nat) (ts : List Win) (w : World) (h : Sl csW 6 w B A n cap ts) (hB : B ≤ w.heap.size) :
    Calls Try.prog 14 #[.slice A n cap] w fun e w' => e = .returned (.int .i64 (checkR ts)) ∧ Below w.heap.size w w' := by
  have hn := h.ncap
  have hc := h.cmax
  have HL := Lib.hid h.len
  by_cases h200 : 200 < n
  · have HR : Hid (checkR ts = 2) := by unfold Hid checkR; rw [if_pos (by rw [HL.out]; exact h200)]
    go_enter Try.func14, Try.ntmps14
    go_wp2
    go_ret
    exact ⟨by rw [HR.out]; rfl, Below.refl _ _⟩
  · go_enter Try.func14, Try.ntmps14
    go_wp2
    go_loopw [3] (fun i wr => ∃ k : Nat, k ≤ n ∧ i = .int .i64 k ∧ Hid (∀ t ∈ ts.take k, t.formed = true) ∧ Below w.heap.size w wr) (fun i _ => n - (intOf i).toNat)
    case atStart => exact ⟨0, Nat.zero_le _, rfl, by simp [Hid], Below.refl _ _⟩
    case round =>
      obtain ⟨k, hk, rfl, HF, hbw⟩ := hrel
      by_cases hlt : k < n
      · obtain ⟨b, o, t, rfl, hb, ht, hW⟩ := h.win hlt
        have HD := Lib.hid (take_snoc ht)
        have HG := Lib.hid ht
        clear ht h
        obtain ⟨c0, c1, c2, c3, c4, c5⟩ := hW wr (hbw.mono hB)
        go_wp2_with fail
        refine (formed9_any t _).mono ?_
        rintro e w1 ⟨rfl, hb1⟩
        have hbw1 := hbw.trans (hb1.mono hbw.size)
        clear c0 c1 c2 c3 c4 c5 hbw hb1
        by_cases hf : t.formed = true
        · go_wp2
          go_roundw
          case rel => exact ⟨k + 1, by omega, by go_num, by rw [Hid, HD.out]; intro x hx; exact (List.mem_append.1 hx).elim (HF.out x) (fun e => by simp at e; rw [e]; exact hf), hbw1⟩
          case measure => simp [intOf]; omega
        · have HR : Hid (checkR ts = 5) := by
            unfold Hid checkR
            rw [if_neg (by rw [HL.out]; exact h200), if_pos]
            rw [List.all_eq_false]
            exact ⟨t, List.mem_of_getElem? HG.out, hf⟩
          go_wp2
          go_ret
          exact ⟨by rw [HR.out]; rfl, hbw1⟩
      · obtain rfl : n = k := by omega
        have HA : Hid (ts.all (·.formed) = true) := by
          rw [Hid, List.all_eq_true]
          intro x hx
          exact HF.out x (by rw [List.take_of_length_le (by rw [HL.out]; omega)]; exact hx)
        clear hlt HF
        go_wp2
        obtain ⟨wo, rfl⟩ : ∃ wo : World, wo = wr := ⟨_, rfl⟩
        go_loopw [4, 5] (fun i _ wr => ∃ k : Nat, k ≤ n ∧ i = .int .i64 k ∧ Hid ((∀ (j : Nat) (t u : Win), j + 1 < k → ts[j]? = some t → ts[j + 1]? = some u → ¬ u.Before t) ∧ (∀ (i j : Nat) (t u : Win), j < i → i < k → ts[i]? = some t → ts[j]? = some u → ¬ t.meet u = true)) ∧ Below w.heap.size w wr) (fun i _ _ => n - (intOf i).toNat)
        case atStart => exact ⟨0, Nat.zero_le _, rfl, ⟨fun j t u hj => absurd hj (by omega), fun i j t u h1 h2 => absurd h2 (by omega)⟩, hbw⟩
        case round =>
          clear hbw
          obtain ⟨k, hk, rfl, HV, hbw⟩ := hrel
          by_cases hlt : k < n
          · obtain ⟨b, o, t, rfl, hb, ht, hW⟩ := h.win hlt
            have HT := Lib.hid ht
            have HH := Lib.hid h
            clear ht h
            have hs := hbw.size
            by_cases hk0 : 0 < k
            · obtain ⟨m, rfl⟩ : ∃ m, k = m + 1 := ⟨k - 1, by omega⟩
              obtain ⟨b', o', u, hbo, hb', hu, hW'⟩ := HH.out.win (k := m) (by omega)
              obtain ⟨rfl, rfl⟩ : b = b' ∧ o = o' := by simpa using hbo
              have HU := Lib.hid hu
              clear hu hbo
              obtain ⟨c0, c1, c2, c3, c4, c5⟩ := hW wr (hbw.mono hB)
              obtain ⟨d0, d1, d2, d3, d4, d5⟩ := hW' wr (hbw.mono hB)
              have c0 := Gr.cell (H := wr.heap.size) c0 (by simp; omega)
              have c1 := Gr.cell (H := wr.heap.size) c1 (by simp; omega)
              have c2 := Gr.cell (H := wr.heap.size) c2 (by simp; omega)
              have c3 := Gr.cell (H := wr.heap.size) c3 (by simp; omega)
              have c4 := Gr.cell (H := wr.heap.size) c4 (by simp; omega)
              have c5 := Gr.cell (H := wr.heap.size) c5 (by simp; omega)
              have d0 := Gr.cell (H := wr.heap.size) d0 (by simp; omega)
              have d1 := Gr.cell (H := wr.heap.size) d1 (by simp; omega)
              have d2 := Gr.cell (H := wr.heap.size) d2 (by simp; omega)
              have d3 := Gr.cell (H := wr.heap.size) d3 (by simp; omega)
              have d4 := Gr.cell (H := wr.heap.size) d4 (by simp; omega)
              have d5 := Gr.cell (H := wr.heap.size) d5 (by simp; omega)
              go_wp2
              refine wp_region_gr wr.heap.size (by kernel_rfl) (by kernel_rfl) ?_
              repeat (go_big_quiet_step ((go_at_call 40; exact Calls.gr_of (Nat.le_refl _) (before_any t u _))))
              refine wpQuiet_nil ?_
              rintro w1 ⟨g, hg⟩
              have hb1 : Below wr.heap.size wr w1 := by rw [hg]; exact Gr.below
              have hbw1 := hbw.trans (hb1.mono hbw.size)
              have hs1 := hbw1.size
              clear hg c0 c1 c2 c3 c4 c5 d0 d1 d2 d3 d4 d5 hb1 hbw
              by_cases hbf : t.before u = true
              · have HR : Hid (checkR ts = 23) := by
                  unfold Hid checkR
                  rw [if_neg (by rw [HL.out]; exact h200), if_neg (by rw [HA.out]; simp), if_neg]
                  rintro ⟨h1, _⟩
                  exact (sortedB_iff ts).1 h1 m u t HU.out HT.out (by simpa [Win.before] using hbf)
                simp only [hbf]
                go_wp2
                go_ret
                exact ⟨by rw [HR.out]; rfl, hbw1⟩
              · have HS : Hid (∀ (j : Nat) (x y : Win), j + 1 < m + 1 + 1 → ts[j]? = some x → ts[j + 1]? = some y → ¬ y.Before x) := by
                  intro j x y hj hx hy
                  by_cases hjm : j = m
                  · subst hjm
                    have e1 := Option.some.inj (hx.symm.trans HU.out)
                    have e2 := Option.some.inj (hy.symm.trans HT.out)
                    subst e1 e2
                    intro hh
                    exact hbf (by simpa [Win.before] using hh)
                  · exact HV.out.1 j x y (by omega) hx hy
                have hbf' : t.before u = false := by simpa using hbf
                simp only [hbf']
                clear hbf hbf'
                go_wp2
                obtain ⟨wp, rfl⟩ : ∃ wp : World, wp = w1 := ⟨_, rfl⟩
                go_loopw [5] (fun i wr => ∃ q : Nat, q ≤ m + 1 ∧ i = .int .i64 q ∧ Hid (∀ (j : Nat) (x : Win), j < q → ts[j]? = some x → ¬ t.meet x = true) ∧ Below w.heap.size w wr) (fun i _ => m + 1 - (intOf i).toNat)
                case atStart => exact ⟨0, Nat.zero_le _, rfl, fun j x h1 => absurd h1 (by omega), hbw1⟩
                case round =>
                  clear hbw1 hs1 hs
                  obtain ⟨q, hq, rfl, HQ, hbq⟩ := hrel
                  by_cases hqm : q < m + 1
                  · obtain ⟨b3, o3, v, hbo, hb3, hv, hW3⟩ := HH.out.win (k := q) (by omega)
                    obtain ⟨rfl, rfl⟩ : b = b3 ∧ o = o3 := by simpa using hbo
                    have HVq := Lib.hid hv
                    have hs := hbq.size
                    clear hv hbo
                    obtain ⟨c0, c1, c2, c3, c4, c5⟩ := hW wr (hbq.mono hB)
                    obtain ⟨d0, d1, d2, d3, d4, d5⟩ := hW3 wr (hbq.mono hB)
                    have c0 := Gr.cell (H := wr.heap.size) c0 (by simp; omega)
                    have c1 := Gr.cell (H := wr.heap.size) c1 (by simp; omega)
                    have c2 := Gr.cell (H := wr.heap.size) c2 (by simp; omega)
                    have c3 := Gr.cell (H := wr.heap.size) c3 (by simp; omega)
                    have c4 := Gr.cell (H := wr.heap.size) c4 (by simp; omega)
                    have c5 := Gr.cell (H := wr.heap.size) c5 (by simp; omega)
                    have d0 := Gr.cell (H := wr.heap.size) d0 (by simp; omega)
                    have d1 := Gr.cell (H := wr.heap.size) d1 (by simp; omega)
                    have d2 := Gr.cell (H := wr.heap.size) d2 (by simp; omega)
                    have d3 := Gr.cell (H := wr.heap.size) d3 (by simp; omega)
                    have d4 := Gr.cell (H := wr.heap.size) d4 (by simp; omega)
                    have d5 := Gr.cell (H := wr.heap.size) d5 (by simp; omega)
                    go_wp2
                    refine wp_region_gr wr.heap.size (by kernel_rfl) (by kernel_rfl) ?_
                    repeat (go_big_quiet_step ((go_at_call 41; exact Calls.gr_of (Nat.le_refl _) (meet_any t v _))))
                    refine wpQuiet_nil ?_
                    rintro w2 ⟨g, hg⟩
                    have hb2 : Below wr.heap.size wr w2 := by rw [hg]; exact Gr.below
                    have hbw2 := hbq.trans (hb2.mono hbq.size)
                    clear hg c0 c1 c2 c3 c4 c5 d0 d1 d2 d3 d4 d5 hb2 hbq
                    by_cases hmt : t.meet v = true
                    · have HR : Hid (checkR ts = 23) := by
                        unfold Hid checkR
                        rw [if_neg (by rw [HL.out]; exact h200), if_neg (by rw [HA.out]; simp), if_neg]
                        rintro ⟨_, h1⟩
                        exact h1 (m + 1) q t v hqm HT.out HVq.out hmt
                      simp only [hmt]
                      go_wp2
                      go_ret
                      exact ⟨by rw [HR.out]; rfl, hbw2⟩
                    · have HQ' : Hid (∀ (j : Nat) (x : Win), j < q + 1 → ts[j]? = some x → ¬ t.meet x = true) := by
                        intro j x hj hx
                        by_cases hjq : j = q
                        · subst hjq
                          have e1 := Option.some.inj (hx.symm.trans HVq.out)
                          subst e1
                          exact hmt
                        · exact HQ.out j x (by omega) hx
                      have hmt' : t.meet v = false := by simpa using hmt
                      simp only [hmt']
                      clear hmt hmt'
                      go_wp2
                      go_roundw
                      case rel => exact ⟨q + 1, by omega, by go_num, HQ', hbw2⟩
                      case measure => simp [intOf]; omega
                  · obtain rfl : q = m + 1 := by omega
                    have HV' : Hid ((∀ (j : Nat) (t u : Win), j + 1 < m + 1 + 1 → ts[j]? = some t → ts[j + 1]? = some u → ¬ u.Before t) ∧ (∀ (i j : Nat) (t u : Win), j < i → i < m + 1 + 1 → ts[i]? = some t → ts[j]? = some u → ¬ t.meet u = true)) := by
                      refine ⟨HS.out, fun i j x y hji hi hx hy => ?_⟩
                      by_cases him : i = m + 1
                      · subst him
                        have e1 := Option.some.inj (hx.symm.trans HT.out)
                        subst e1
                        exact HQ.out j y hji hy
                      · exact HV.out.2 i j x y hji (by omega) hx hy
                    go_wp2
                    go_roundw
                    case rel => exact ⟨m + 1 + 1, by omega, by go_num, HV', hbq⟩
                    case measure => simp [intOf]; omega
            · obtain rfl : k = 0 := by omega
              have HV' : Hid ((∀ (j : Nat) (t u : Win), j + 1 < 0 + 1 → ts[j]? = some t → ts[j + 1]? = some u → ¬ u.Before t) ∧ (∀ (i j : Nat) (t u : Win), j < i → i < 0 + 1 → ts[i]? = some t → ts[j]? = some u → ¬ t.meet u = true)) :=
                ⟨fun j _ _ h => absurd h (by omega), fun i j _ _ h1 h2 => absurd h2 (by omega)⟩
              go_wp2
              refine wp_region_gr wr.heap.size (by kernel_rfl) (by kernel_rfl) ?_
              repeat (go_big_quiet_step (fail))
              refine wpQuiet_nil ?_
              rintro w1 ⟨g, hg⟩
              have hb1 : Below wr.heap.size wr w1 := by rw [hg]; exact Gr.below
              have hbw1 := hbw.trans (hb1.mono hbw.size)
              clear hg hb1 hbw
              go_wp2
              refine wp_loop_rounds 1 ?_
              rw [rounds_succ]
              go_wp2
              go_roundw
              case rel => exact ⟨0 + 1, by omega, by go_num, HV', hbw1⟩
              case measure => simp [intOf]; omega
          · obtain rfl : n = k := by omega
            have HR : Hid (checkR ts = 0) := by
              unfold Hid checkR
              rw [if_neg (by rw [HL.out]; exact h200), if_neg (by rw [HA.out]; simp), if_pos]
              refine ⟨(sortedB_iff ts).2 fun j t u hj hu => HV.out.1 j t u ?_ hj hu, fun i k t u hki hi hk => HV.out.2 i k t u hki ?_ hi hk⟩
              · have := (List.getElem?_eq_some_iff.1 hu).1; rw [HL.out] at this; exact this
              · have := (List.getElem?_eq_some_iff.1 hi).1; rw [HL.out] at this; exact this
            go_wp2
            go_ret
            exact ⟨by rw [HR.out]; rfl, hbw⟩

end Go.Proofs.Ytijocgijnbcefaa
