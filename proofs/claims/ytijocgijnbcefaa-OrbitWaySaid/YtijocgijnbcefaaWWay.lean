/-
  OrbitWay: the walk.
-/
import Derived.Test.YtijocgijnbcefaaOrbX
import Derived.Test.YtijocgijnbcefaaOrbE
import Derived.Test.YtijocgijnbcefaaWayP
namespace Go.Proofs.Ytijocgijnbcefaa
open Go.ChangeShapes Go.WideShapes Go.ChangeAt Go.RowKit

theorem spec_no {ts : List Win} {c st : Nat} {k z a : Int} {l : List Int} (h : ArrSpec ts c k z st a l false) : a = 0 ∧ l = [] := by
  obtain ⟨e, he, h⟩ := h
  rcases h with ⟨_, h1, h2, _⟩ | ⟨_, _, h, _⟩
  · exact ⟨h1, h2⟩
  · cases h

theorem Sl.take_ {w : World} {B b o n cap p : Nat} {xs : List Int} (h : Sl csI 1 w B (some ⟨b, o, none⟩) n cap xs) (hp : p ≤ n) : Sl csI 1 w B (some ⟨b, o, none⟩) p cap (xs.take p) := by
  refine ⟨by have := h.len; simp; omega, by have := h.ncap; omega, h.cmax, fun h0 => ?_⟩
  obtain ⟨b', o', e, hb, hc⟩ := h.row (by omega)
  exact ⟨b', o', e, hb, fun k x hx => hc k x (by rw [List.getElem?_take] at hx; split at hx; exact hx; cases hx)⟩

set_option maxRecDepth 100000 in
set_option maxHeartbeats 4000000 in
theorem orbitWay_any (w : World) (A : Option Addr) (n cap : Nat) (xs : List Int) (h : Sl csI 1 w w.heap.size A n cap xs) (hx : ∀ x ∈ xs, I64 x) (c : Int) (ic : I64 c) (s : Int) (is : I64 s) (k : Int) (ik : I64 k) (z : Int) (iz : I64 z) :
    Calls Try.prog 8 #[.slice A n cap, .int .i64 c, .int .i64 s, .int .i64 k, .int .i64 z] w fun e w' => e = .returned (.bool true) ∧ Below w.heap.size w w' := by
  go_enter Try.func8, Try.ntmps8
  go_wp2_with fail
  refine (table_any w A n cap xs h hx).mono ?_
  rintro e w1 ⟨A1, n1, cap1, ts, rfl, hT, hG, hn, hb1⟩
  obtain ⟨C, hC, hC0⟩ := around_nat (n := c) (m := 12) (by omega)
  obtain ⟨S, hS, hS0⟩ := around_nat (n := s) (m := 9) (by omega)
  have hk := around_lo (n := k) (m := 400) (by omega)
  have hk2 := around_hi (n := k) (m := 400) (by omega)
  have hz := around_lo (n := z) (m := 500) (by omega)
  have hz2 := around_hi (n := z) (m := 500) (by omega)
  obtain ⟨K, hK⟩ : ∃ K, around k 400 = K := ⟨_, rfl⟩
  obtain ⟨Z, hZ⟩ : ∃ Z, around z 500 = Z := ⟨_, rfl⟩
  rw [hK] at hk hk2
  rw [hZ] at hz hz2
  go_wp2_with fail
  refine (around_any c 12 _ ic (by omega) (by omega)).mono ?_
  rintro e w2 ⟨rfl, rfl⟩
  go_wp2_with fail
  refine (around_any s 9 _ is (by omega) (by omega)).mono ?_
  rintro e w2 ⟨rfl, rfl⟩
  go_wp2_with fail
  refine (around_any k 400 _ ik (by omega) (by omega)).mono ?_
  rintro e w2 ⟨rfl, rfl⟩
  go_wp2_with fail
  refine (around_any z 500 _ iz (by omega) (by omega)).mono ?_
  rintro e w2 ⟨rfl, rfl⟩
  have hsl := hT.sl
  go_wp2_with fail
  refine (arrival_any _ A1 n1 cap1 ts C S K (1 + Z) _ hsl (Nat.le_refl _) hG.formed (by omega) (by omega) hk (by omega) (by omega) (by omega)).mono ?_
  rintro e w3 ⟨a, l, ok, A3, cap3, hsp, rfl, hL3, hb3⟩
  have hbw := hb1.trans (hb3.mono hb1.size)
  have hsl3 := hsl.below hb3 (Nat.le_refl _)
  have hs13 := hb3.size
  clear hC hS hK hZ hT hsl hb3 hb1
  cases ok with
  | false =>
    obtain ⟨rfl, rfl⟩ := spec_no hsp
    simp only [List.length_nil]
    clear hsp
    go_wp2_with fail
    refine (lives_any _).mono ?_
    rintro e w6 ⟨rfl, hb6⟩
    go_wp2
    go_ret
    exact ⟨rfl, hbw.trans (hb6.mono hbw.size)⟩
  | true =>
    obtain ⟨tk, hI⟩ := way_info hsp hG.formed (by omega) hk (by omega) (by omega)
    clear hsp
    have HI := Lib.hid hI
    have HF := Lib.hid hG.formed
    have h2 := hI.two
    have h13 := hI.max
    have HL : Hid (l.length = l.length) := rfl
    obtain ⟨m, hm⟩ : ∃ m, l.length = m := ⟨_, rfl⟩
    have hIl := hI.last
    rw [hm] at hIl h2 h13 hL3 ⊢
    have HM := Lib.hid hm
    obtain ⟨b, o, rfl, hb, hcell⟩ := hL3.row (by omega)
    have c0 : w3.cell? ⟨b, o, none⟩ = some (.int .i64 C) := by simpa using hcell 0 _ hI.first 0 _ rfl
    have cm : w3.cell? ⟨b, o + (m - 1), none⟩ = some (.int .i64 (12 + S)) := by simpa using hcell (m - 1) _ hIl 0 _ rfl
    have hta := hI.ta
    rw [hm] at hta
    have HA := Lib.hid hta
    clear hI hm hIl hta HL
    have hm2 : (2 : Int) ≤ m := by omega
    have hm13 : (m : Int) ≤ 13 := by omega
    have hm1 : ((m : Int) - 1).toNat = m - 1 := by omega
    go_wp2
    have HCL := Lib.hid hcell
    clear c0 cm hcell hm1
    go_loopw [19, 20] (fun t i wr => ∃ p : Nat, p + 1 ≤ m ∧ t = .int .i64 (tk p) ∧ i = .int .i64 ((p : Int) + 1) ∧ Below w3.heap.size w3 wr) (fun _ i _ => m - (intOf i).toNat)
    case atStart => exact ⟨0, by omega, by rw [HI.out.t0], by simp, Below.refl _ _⟩
    case round =>
      obtain ⟨p, hp, rfl, rfl, hbr⟩ := hrel
      by_cases hlt : p + 1 < m
      · obtain ⟨x, y, hs⟩ := HI.out.steps p (by have := HM.out; omega)
        have hsr := hbr.size
        have hcap := hL3.ncap
        have hcmx := hL3.cmax
        have cx : wr.cell? ⟨b, o + p, none⟩ = some (.int .i64 x) := by
          rw [hbr.cell (p := ⟨b, o + p, none⟩) hb]
          simpa using HCL.out p x hs.hx 0 _ rfl
        have cy : wr.cell? ⟨b, o + (p + 1), none⟩ = some (.int .i64 y) := by
          rw [hbr.cell (p := ⟨b, o + (p + 1), none⟩) hb]
          simpa using HCL.out (p + 1) y hs.hy 0 _ rfl
        have cx := Gr.cell (H := wr.heap.size) cx (by dsimp only; omega)
        have cy := Gr.cell (H := wr.heap.size) cy (by dsimp only; omega)
        have hslp := (hL3.below hbr (Nat.le_refl _)).take_ (p := p + 1) (by omega)
        have has : ∀ g, Calls Try.prog 27 #[.slice (some ⟨b, o, none⟩) (p + 1) cap3, .int .i64 y] (Gr wr.heap.size wr g) fun e w' => e = .returned (.bool false) ∧ Gr wr.heap.size wr g = w' := fun g => by
          have := has_any _ (some ⟨b, o, none⟩) (p + 1) cap3 (l.take (p + 1)) y (Gr wr.heap.size wr g) (Gr.sl hslp hsr)
          rwa [decide_eq_false hs.new] at this
        have HH := Lib.hid has
        have h0 := hs.pos
        have HS := Lib.hid hs
        have hd0 : decide (y < 0) = false := by simp; omega
        have hpn : ((p : Int) + 1).toNat = p + 1 := by omega
        have hpm : (p : Int) + 1 < m := by omega
        have hmc : (m : Int) ≤ cap3 := by omega
        have hlast : Hid (12 ≤ y ↔ p + 1 = m - 1) := by have := hs.last; rwa [HM.out] at this
        clear has hs hslp
        go_wp2
        by_cases h12 : 12 ≤ y
        · have d12 : decide (12 ≤ y) = true := by simp; omega
          have e1 : ((p : Int) + 1 == (m : Int) - 1) = true := beq_iff_eq.2 (by have := hlast.out.1 h12; omega)
          refine wp_region_gr wr.heap.size (by kernel_rfl) (by kernel_rfl) ?_
          repeat (go_big_quiet_step (first | (go_at_call 27; exact Calls.gr_same (HH.out _)) | fail))
          refine wpQuiet_nil ?_
          rintro w4 ⟨g, hg⟩
          have hb4 : Below wr.heap.size wr w4 := by rw [hg]; exact Gr.below
          clear hg
          have hbr4 := hbr.trans (hb4.mono hsr)
          have hs4 := hbr4.size
          have cx : w4.cell? ⟨b, o + p, none⟩ = some (.int .i64 x) := by
            rw [hbr4.cell (p := ⟨b, o + p, none⟩) hb]
            simpa using HCL.out p x HS.out.hx 0 _ rfl
          have cy : w4.cell? ⟨b, o + (p + 1), none⟩ = some (.int .i64 y) := by
            rw [hbr4.cell (p := ⟨b, o + (p + 1), none⟩) hb]
            simpa using HCL.out (p + 1) y HS.out.hy 0 _ rfl
          have cx := Gr.cell (H := w4.heap.size) cx (by dsimp only; omega)
          have cy := Gr.cell (H := w4.heap.size) cy (by dsimp only; omega)
          have hsl4 := hsl3.below hbr4 hs13
          have hop : ∀ g, Calls Try.prog 28 #[.slice A1 n1 cap1, .int .i64 x, .int .i64 y, .int .i64 (tk p), .int .i64 (1 + Z)] (Gr w4.heap.size w4 g) fun e w' => e = .returned (.tuple #[.int .i64 (tk (p + 1)), .bool true]) ∧ Below (Gr w4.heap.size w4 g).heap.size (Gr w4.heap.size w4 g) w' := fun g => by
            have h9 := hopL_any w1.heap.size A1 n1 cap1 ts x y (tk p) (1 + Z) (Gr w4.heap.size w4 g) (Gr.sl hsl4 (by omega)) (Nat.le_trans (by omega) (Gr.size (Nat.le_refl _))) HF.out HS.out.tks.1 (by have := HS.out.tks.2; omega) (by omega) (by omega)
            rwa [HS.out.step] at h9
          have HO := Lib.hid hop
          clear hop hsl4 e1 d12 hd0 HH
          have hq1 : IntKind.i64.wrap ((p : Int) + 1 - 1) = p := by rw [IntWalk.i64_in _ (by omega)]; omega
          have hq2 : (p : Int) < m := by omega
          go_wp2
          refine wp_region_gr w4.heap.size (by kernel_rfl) (by kernel_rfl) ?_
          repeat (go_big_quiet_step (first | (go_at_call 28; exact Calls.gr_of (Nat.le_refl _) (HO.out _)) | fail))
          refine wpQuiet_nil ?_
          rintro w5 ⟨g, hg⟩
          have hb5 : Below w4.heap.size w4 w5 := by rw [hg]; exact Gr.below
          clear hg cx cy HO hq1
          have hbr5 := hbr4.trans (hb5.mono hs4)
          go_wp2
          go_roundw
          case rel => exact ⟨p + 1, by omega, rfl, by simp, hbr5⟩
          case measure => simp [intOf]; omega
        · have e1 : ((p : Int) + 1 == (m : Int) - 1) = false := beq_eq_false_iff_ne.2 (by intro h; exact h12 (hlast.out.2 (by omega)))
          have d12 : decide (12 ≤ y) = false := by simp; omega
          have h12' : y < 12 := by omega
          refine wp_region_gr wr.heap.size (by kernel_rfl) (by kernel_rfl) ?_
          repeat (go_big_quiet_step (first | (go_at_call 27; exact Calls.gr_same (HH.out _)) | fail))
          refine wpQuiet_nil ?_
          rintro w4 ⟨g, hg⟩
          have hb4 : Below wr.heap.size wr w4 := by rw [hg]; exact Gr.below
          clear hg
          have hbr4 := hbr.trans (hb4.mono hsr)
          have hs4 := hbr4.size
          have cx : w4.cell? ⟨b, o + p, none⟩ = some (.int .i64 x) := by
            rw [hbr4.cell (p := ⟨b, o + p, none⟩) hb]
            simpa using HCL.out p x HS.out.hx 0 _ rfl
          have cy : w4.cell? ⟨b, o + (p + 1), none⟩ = some (.int .i64 y) := by
            rw [hbr4.cell (p := ⟨b, o + (p + 1), none⟩) hb]
            simpa using HCL.out (p + 1) y HS.out.hy 0 _ rfl
          have cx := Gr.cell (H := w4.heap.size) cx (by dsimp only; omega)
          have cy := Gr.cell (H := w4.heap.size) cy (by dsimp only; omega)
          have hsl4 := hsl3.below hbr4 hs13
          have hop : ∀ g, Calls Try.prog 28 #[.slice A1 n1 cap1, .int .i64 x, .int .i64 y, .int .i64 (tk p), .int .i64 (1 + Z)] (Gr w4.heap.size w4 g) fun e w' => e = .returned (.tuple #[.int .i64 (tk (p + 1)), .bool true]) ∧ Below (Gr w4.heap.size w4 g).heap.size (Gr w4.heap.size w4 g) w' := fun g => by
            have h9 := hopL_any w1.heap.size A1 n1 cap1 ts x y (tk p) (1 + Z) (Gr w4.heap.size w4 g) (Gr.sl hsl4 (by omega)) (Nat.le_trans (by omega) (Gr.size (Nat.le_refl _))) HF.out HS.out.tks.1 (by have := HS.out.tks.2; omega) (by omega) (by omega)
            rwa [HS.out.step] at h9
          have HO := Lib.hid hop
          clear hop hsl4 e1 d12 hd0 HH
          have hq1 : IntKind.i64.wrap ((p : Int) + 1 - 1) = p := by rw [IntWalk.i64_in _ (by omega)]; omega
          have hq2 : (p : Int) < m := by omega
          go_wp2
          refine wp_region_gr w4.heap.size (by kernel_rfl) (by kernel_rfl) ?_
          repeat (go_big_quiet_step (first | (go_at_call 28; exact Calls.gr_of (Nat.le_refl _) (HO.out _)) | fail))
          refine wpQuiet_nil ?_
          rintro w5 ⟨g, hg⟩
          have hb5 : Below w4.heap.size w4 w5 := by rw [hg]; exact Gr.below
          clear hg cx cy HO hq1
          have hbr5 := hbr4.trans (hb5.mono hs4)
          go_wp2
          go_roundw
          case rel => exact ⟨p + 1, by omega, rfl, by simp, hbr5⟩
          case measure => simp [intOf]; omega
      · obtain rfl : m = p + 1 := by omega
        have ea : tk p = a := by have := HA.out; simpa using this
        have HE : Hid (tk p = a) := ea
        have hbw2 := hbw.trans (hbr.mono hbw.size)
        rw [ea]
        clear ea
        go_wp2_with fail
        refine (lives_any _).mono ?_
        rintro e w6 ⟨rfl, hb6⟩
        go_wp2
        go_ret
        exact ⟨rfl, hbw2.trans (hb6.mono hbw2.size)⟩

end Go.Proofs.Ytijocgijnbcefaa
