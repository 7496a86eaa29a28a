/-
  The reference's Check (chapter 21).
-/
import Derived.Test.YtcljmnbjejcdaaaAppB
namespace Go.Proofs.Ytcljmnbjejcdaaa
open Go.ChangeShapes Go.WideShapes Go.ChangeAt Go.RowKit

theorem cen_get {ps : List Per} {k : Nat} {p : Per} (h : ps[k]? = some p) : cenN ps k = p.centre := by unfold cenN; simp [List.getD, h]
theorem two_no {ps : List Per} {s : List Nat} (h : s.Pairwise (fun x y => cenN ps x ≠ cenN ps y)) : twoB ps s = false := by unfold twoB; simp [h]
theorem two_yes {ps : List Per} {s : List Nat} {i k : Nat} {x y : Nat} (hx : s[i]? = some x) (hy : s[k]? = some y) (hk : k < i) (h : cenN ps x = cenN ps y) : twoB ps s = true := by
  unfold twoB
  rw [Bool.not_eq_true', decide_eq_false_iff_not]
  intro hp
  obtain ⟨h1, rfl⟩ := List.getElem?_eq_some_iff.1 hx
  obtain ⟨h2, rfl⟩ := List.getElem?_eq_some_iff.1 hy
  exact List.pairwise_iff_getElem.1 hp k i h2 h1 hk h.symm
theorem pair_snoc {ps : List Per} {s : List Nat} {i x : Nat} (hx : s[i]? = some x) (hp : (s.take i).Pairwise (fun x y => cenN ps x ≠ cenN ps y)) (h : ∀ k y, k < i → s[k]? = some y → cenN ps x ≠ cenN ps y) : (s.take (i + 1)).Pairwise (fun x y => cenN ps x ≠ cenN ps y) := by
  rw [take_snoc hx, List.pairwise_append]
  refine ⟨hp, List.pairwise_singleton _ _, fun a ha b hb => ?_⟩
  rw [List.mem_singleton] at hb
  subst hb
  obtain ⟨k, hk, rfl⟩ := List.mem_iff_getElem.1 ha
  have hk' : k < i ∧ k < s.length := by have h9 := hk; simp at h9; omega
  rw [List.getElem_take]
  exact (h k _ hk'.1 (List.getElem?_eq_getElem hk'.2)).symm

set_option maxRecDepth 100000 in
set_option maxHeartbeats 2000000 in
theorem checkR_any (B : Nat) (A : Option Addr) (n cap : Nat) (ps : List Per) (D : Option Addr) (q d : Nat) (l : List App) (C : Option Addr) (m c : Nat) (xs : List UInt8) (w : World) (h : Sl csP 2 w B A n cap ps) (hp : ∀ p ∈ ps, U64 p.secret) (hB : B ≤ w.heap.size) (hd : Sl csA 2 w B D q d l) (hs : Sl csB 1 w B C m c xs) (hm : m ≤ 1000000000000) (hn : n ≤ 1000000000000) :
    Calls Try.prog 17 #[.slice A n cap, .slice D q d, .slice C m c] w fun e w' => e = .returned (.int .i64 (checkA ps l xs)) ∧ Below w.heap.size w w' := by
  have hqd := hd.ncap
  have hdm := hd.cmax
  have hcm := h.cmax
  have hl := hd.len
  by_cases h16 : 16 < q
  · have HC : Hid (checkA ps l xs = 2) := by unfold Hid checkA; rw [if_pos (by omega)]
    clear hl
    go_enter Try.func17, Try.ntmps17
    go_wp2
    go_ret
    exact ⟨by rw [HC.out]; rfl, Below.refl _ _⟩
  · have HC : Hid (checkA ps l xs = if twoB ps (signersN ps l xs) = true then 0 else 33) := by unfold Hid checkA; rw [if_neg (by omega)]
    have HN : Hid (∀ x ∈ signersN ps l xs, x < n) := fun x hx => by have := (mem_signers.1 hx).1; have := h.len; omega
    have hsl : (signersN ps l xs).length ≤ n := by have := signersTo_len ps l xs ps.length; unfold signersTo at this; rw [List.length_map] at this; have h2 := h.len; unfold signersN; unfold signedB at this; omega
    clear hl
    go_enter Try.func17, Try.ntmps17
    go_wp2_with fail
    refine (signersR_any B A n cap ps D q d l C m c xs w h hp hB hd hs hm hn).mono ?_
    rintro e w1 ⟨v1, rfl, hR, hb1⟩
    unfold signersI at hR
    obtain ⟨s, hse⟩ : ∃ s, signersN ps l xs = s := ⟨_, rfl⟩
    rw [hse] at hR HC HN hsl
    obtain ⟨A1, cap1, rfl, hS1⟩ := hR.sl (fun _ => rfl)
    rw [List.length_map] at hS1 ⊢
    obtain ⟨r, hr⟩ : ∃ r, s.length = r := ⟨_, rfl⟩
    have HR := Lib.hid hr
    rw [hr] at hS1 hsl ⊢
    have hrc := hS1.ncap
    have hrm := hS1.cmax
    have h1 := h.below hb1 hB
    clear hse hr hR
    go_wp2
    go_loopw [8] (fun i wr => ∃ k : Nat, k ≤ r ∧ i = .int .i64 k ∧ Hid ((s.take k).Pairwise (fun x y => cenN ps x ≠ cenN ps y)) ∧ Below w1.heap.size w1 wr) (fun i _ => r - (intOf i).toNat)
    case atStart => exact ⟨0, by omega, rfl, by unfold Hid; simp, Below.refl _ _⟩
    case round =>
      obtain ⟨i, hi, rfl, HP, hbr⟩ := hrel
      have hsr := hbr.size
      by_cases hir : i < r
      · have hiI : (i : Int) < r := by omega
        obtain ⟨b1, o1, xi, rfl, hbb1, hxi, ci⟩ := (hS1.below hbr (Nat.le_refl _)).int_at hir
        obtain ⟨x, hx, rfl⟩ : ∃ x : Nat, s[i]? = some x ∧ (x : Int) = xi := by
          rw [List.getElem?_map] at hxi
          cases hh : s[i]? with
          | none => rw [hh] at hxi; cases hxi
          | some x => rw [hh] at hxi; injection hxi with hxi; exact ⟨x, rfl, hxi⟩
        have hxn := HN.out x (List.mem_of_getElem? hx)
        obtain ⟨b2, o2, p, rfl, hb2, hpx, hpc⟩ := h1.two_at hxn
        have HX := Lib.hid hx
        have HCX := Lib.hid (cen_get hpx)
        have hxI : (x : Int) < n := by omega
        have HS1 := Lib.hid hS1
        have HH1 := Lib.hid h1
        have HPC := Lib.hid hpc
        clear hx hxi hpx hpc hS1 ci h1
        go_wp2
        obtain ⟨wo, rfl⟩ : ∃ wo : World, wo = wr := ⟨_, rfl⟩
        go_loopw [9] (fun j wr => ∃ k : Nat, k ≤ i ∧ j = .int .i64 k ∧ Hid (∀ (t y : Nat), t < k → s[t]? = some y → cenN ps x ≠ cenN ps y) ∧ Below wo.heap.size wo wr) (fun j _ => i - (intOf j).toNat)
        case atStart => exact ⟨0, by omega, rfl, fun t y ht => absurd ht (by omega), Below.refl _ _⟩
        case round =>
          obtain ⟨k, hk, rfl, HK, hbi⟩ := hrel
          have hbwi := hbr.trans (hbi.mono hsr)
          by_cases hki : k < i
          · have hkI : (k : Int) < i := by omega
            have hkr : (k : Int) < r := by omega
            obtain ⟨b3, o3, yi, he3, hbb3, hyi, ck⟩ := (HS1.out.below hbwi (Nat.le_refl _)).int_at (show k < r by omega)
            injection he3 with he3
            injection he3 with e1 e2
            subst e1 e2
            obtain ⟨y, hy, rfl⟩ : ∃ y : Nat, s[k]? = some y ∧ (y : Int) = yi := by
              rw [List.getElem?_map] at hyi
              cases hh : s[k]? with
              | none => rw [hh] at hyi; cases hyi
              | some x => rw [hh] at hyi; injection hyi with hyi; exact ⟨x, rfl, hyi⟩
            have hyn := HN.out y (List.mem_of_getElem? hy)
            obtain ⟨b4, o4, p4, he4, hb4, hpy, hpc4⟩ := HH1.out.two_at hyn
            injection he4 with he4
            injection he4 with e1 e2
            subst e1 e2
            obtain ⟨b5, o5, xj, he5, hbb5, hxj, ci⟩ := (HS1.out.below hbwi (Nat.le_refl _)).int_at hir
            injection he5 with he5
            injection he5 with e1 e2
            subst e1 e2
            rw [List.getElem?_map, HX.out] at hxj
            injection hxj with hxj
            subst hxj
            have cx := HPC.out wr (hbwi.mono (by have := hb1.size; omega)) 0 (.int .i64 p.centre) rfl
            have cy := hpc4 wr (hbwi.mono (by have := hb1.size; omega)) 0 (.int .i64 p4.centre) rfl
            have HY := Lib.hid hy
            have HCY := Lib.hid (cen_get hpy)
            have hyI : (y : Int) < n := by omega
            rw [Nat.add_zero] at cx cy
            clear hy hyi hpy hpc4
            by_cases hce : p.centre = p4.centre
            · have HF : Hid (checkA ps l xs = 0) := by rw [Hid, HC.out, if_pos (two_yes HX.out HY.out hki (by rw [HCX.out, HCY.out, hce]))]
              have hbe : (p.centre == p4.centre) = true := beq_iff_eq.2 hce
              have hend := hb1.trans (hbwi.mono hb1.size)
              clear hce
              go_wp2
              go_quiet (fail)
              go_wp2
              go_ret
              exact ⟨by rw [HF.out]; rfl, below_drewN hend _⟩
            · have hbe : (p.centre == p4.centre) = false := beq_eq_false_iff_ne.2 hce
              have HK' : Hid (∀ (t y : Nat), t < k + 1 → s[t]? = some y → cenN ps x ≠ cenN ps y) := by
                intro t z ht hz
                by_cases htk : t = k
                · subst htk
                  have e9 : y = z := Option.some.inj (HY.out.symm.trans hz)
                  subst e9
                  rw [HCX.out, HCY.out]
                  exact hce
                · exact HK.out t z (by omega) hz
              clear hce
              go_wp2
              go_quiet (fail)
              go_wp2
              go_roundw
              case rel => exact ⟨k + 1, by omega, by go_num, HK', below_drewN hbi _⟩
              case measure => simp [intOf]; omega
          · obtain rfl : i = k := by omega
            have HP' : Hid ((s.take (i + 1)).Pairwise (fun x y => cenN ps x ≠ cenN ps y)) := pair_snoc HX.out HP.out HK.out
            go_wp2
            go_roundw
            case rel => exact ⟨i + 1, by omega, by go_num, HP', hbwi⟩
            case measure => simp [intOf]; omega
      · obtain rfl : i = r := by omega
        have HT : Hid (checkA ps l xs = 33) := by
          have h9 := HP.out
          rw [List.take_of_length_le (by rw [HR.out]; omega)] at h9
          rw [Hid, HC.out, two_no h9]
          rfl
        have hend := hb1.trans (hbr.mono hb1.size)
        go_wp2
        go_ret
        exact ⟨by rw [HT.out]; rfl, hend⟩

end Go.Proofs.Ytcljmnbjejcdaaa
