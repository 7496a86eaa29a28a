/-
  The reference's Signers and Check (chapter 21).
-/
import Derived.Test.YtcljmnbjejcdaaaAppA
namespace Go.Proofs.Ytcljmnbjejcdaaa
open Go.ChangeShapes Go.WideShapes Go.ChangeAt Go.RowKit

def signedB (ps : List Per) (b : List UInt8) (p : Nat) (a : App) : Bool := a.person == (p : Int) && validB ps a b
def signersTo (ps : List Per) (l : List App) (b : List UInt8) (m : Nat) : List Int := ((List.range m).filter (fun p => l.any (signedB ps b p))).map (fun p : Nat => (p : Int))
theorem signersTo_all (ps : List Per) (l : List App) (b : List UInt8) : signersTo ps l b ps.length = signersI ps l b := rfl
theorem signersTo_succ (ps : List Per) (l : List App) (b : List UInt8) (m : Nat) : signersTo ps l b (m + 1) = signersTo ps l b m ++ if l.any (signedB ps b m) = true then [(m : Int)] else [] := by
  unfold signersTo
  rw [List.range_succ, List.filter_append, List.map_append]
  by_cases h : l.any (signedB ps b m) = true
  · rw [if_pos h, List.filter_cons, if_pos h]; rfl
  · rw [if_neg h, List.filter_cons, if_neg h]; rfl
theorem signersTo_len (ps : List Per) (l : List App) (b : List UInt8) (m : Nat) : (signersTo ps l b m).length ≤ m := by
  unfold signersTo; rw [List.length_map]; exact Nat.le_trans (List.length_filter_le _ _) (by simp)
theorem any_snoc {α : Type} {f : α → Bool} {l : List α} {k : Nat} {x : α} (h : l[k]? = some x) : (l.take (k + 1)).any f = ((l.take k).any f || f x) := by
  rw [take_snoc h, List.any_append]; simp

set_option maxRecDepth 100000 in
set_option maxHeartbeats 2000000 in
theorem signersR_any (B : Nat) (A : Option Addr) (n cap : Nat) (ps : List Per) (D : Option Addr) (q d : Nat) (l : List App) (C : Option Addr) (m c : Nat) (xs : List UInt8) (w : World) (h : Sl csP 2 w B A n cap ps) (hp : ∀ p ∈ ps, U64 p.secret) (hB : B ≤ w.heap.size) (hd : Sl csA 2 w B D q d l) (hs : Sl csB 1 w B C m c xs) (hm : m ≤ 1000000000000) (hn : n ≤ 1000000000000) :
    Calls Try.prog 20 #[.slice A n cap, .slice D q d, .slice C m c] w fun e w' => ∃ v, e = .returned v ∧ Row csI 3 w' w.heap.size v (signersI ps l xs) ∧ Below w.heap.size w w' := by
  have HL := Lib.hid h.len
  have HLd := Lib.hid hd.len
  have hcm := h.cmax
  have hqd := hd.ncap
  have hdm := hd.cmax
  go_enter Try.func20, Try.ntmps20
  go_wp2
  go_loopw [7, 8] (fun v i wr => ∃ (p : Nat) (v' : Value), p ≤ n ∧ i = .int .i64 p ∧ v' = v ∧ Row csI 3 wr w.heap.size v' (signersTo ps l xs p) ∧ Below w.heap.size w wr) (fun _ i _ => n - (intOf i).toNat)
  case atStart => exact ⟨0, _, by omega, rfl, rfl, Row.nil _ _ _ _, Below.refl _ _⟩
  case round =>
    obtain ⟨p, v, hpn, rfl, rfl, hO, hbr⟩ := hrel
    have hsr := hbr.size
    by_cases hlt : p < n
    · have hlI : (p : Int) < n := by omega
      have HS := Lib.hid (signersTo_succ ps l xs p)
      have hln := signersTo_len ps l xs p
      go_wp2
      obtain ⟨wo, rfl⟩ : ∃ wo : World, wo = wr := ⟨_, rfl⟩
      go_loopw [9, 10] (fun g i wr => ∃ k : Nat, k ≤ q ∧ i = .int .i64 k ∧ g = .bool ((l.take k).any (signedB ps xs p)) ∧ Below wo.heap.size wo wr) (fun _ i _ => q - (intOf i).toNat)
      case atStart => exact ⟨0, by omega, rfl, by simp, Below.refl _ _⟩
      case round =>
        obtain ⟨k, hk, rfl, rfl, hbi⟩ := hrel
        have hsi := hbi.size
        have hbwi := hbr.trans (hbi.mono hsr)
        by_cases hkq : k < q
        · have hkI : (k : Int) < q := by omega
          obtain ⟨b, o, a, rfl, hb, hx, hc⟩ := hd.two_at hkq
          have c0 := hc wr (hbwi.mono hB) 0 (.int .i64 a.person) rfl
          have c1 := hc wr (hbwi.mono hB) 1 (.int .u64 (a.tag : Int)) rfl
          have HA := Lib.hid (any_snoc (f := signedB ps xs p) hx)
          rw [Nat.add_zero] at c0
          have HD := Lib.hid hd
          clear hx hc hd
          cases hg : (l.take k).any (signedB ps xs p) with
          | true =>
            have HG : Hid ((l.take (k + 1)).any (signedB ps xs p) = true) := by rw [Hid, HA.out, hg, Bool.true_or]
            clear hg
            go_wp2
            go_roundw
            case rel => exact ⟨k + 1, by omega, by go_num, by rw [HG.out], hbi⟩
            case measure => simp [intOf]; omega
          | false =>
            by_cases hpe : a.person = (p : Int)
            · have hpb : (a.person == (p : Int)) = true := beq_iff_eq.2 hpe
              have HG : Hid ((l.take (k + 1)).any (signedB ps xs p) = validB ps a xs) := by rw [Hid, HA.out, hg, Bool.false_or]; unfold signedB; rw [hpb, Bool.true_and]
              clear hg hpe
              go_wp2_with fail
              refine (validR_any B A n cap ps a C m c xs _ (h.below hbwi hB) hp (by omega) (hs.below hbwi hB) hm).mono ?_
              rintro e w2 ⟨rfl, hb2⟩
              rw [← HG.out]
              have hbi2 := hbi.trans (hb2.mono hsi)
              go_wp2
              go_roundw
              case rel => exact ⟨k + 1, by omega, by go_num, rfl, hbi2⟩
              case measure => simp [intOf]; omega
            · have hpb : (a.person == (p : Int)) = false := beq_eq_false_iff_ne.2 hpe
              have HG : Hid ((l.take (k + 1)).any (signedB ps xs p) = false) := by rw [Hid, HA.out, hg, Bool.false_or]; unfold signedB; rw [hpb, Bool.false_and]
              clear hg hpe
              go_wp2
              go_roundw
              case rel => exact ⟨k + 1, by omega, by go_num, by rw [HG.out], hbi⟩
              case measure => simp [intOf]; omega
        · obtain rfl : k = q := by omega
          have hE : (l.take k).any (signedB ps xs p) = l.any (signedB ps xs p) := by rw [List.take_of_length_le (by rw [HLd.out]; omega)]
          rw [hE]
          have hO2 := hO.below hbi
          clear hE hO
          cases hg : l.any (signedB ps xs p) with
          | true =>
            have HG : Hid (signersTo ps l xs (p + 1) = signersTo ps l xs p ++ [(p : Int)]) := by rw [Hid, HS.out, hg]; rfl
            clear hg
            generalize signersTo ps l xs p = L at *
            have hO3 := hO2.alloc (.cells #[.int .i64 p] 3)
            have hsrc := Src.new (cs := csI) wr (p : Int) (.int .i64 p) rfl 3
            have hB2 : Below w.heap.size w (wr.alloc (.cells #[.int .i64 p] 3)) := hbwi.alloc hbwi.size _
            go_wp2_with (at_builtin; refine wpList_row oneI rfl _ _ rfl w.heap.size v L rfl hO3 (some ⟨wr.heap.size, 0, none⟩) 1 1 [(p : Int)] rfl hsrc (by omega) (by simp; omega) ?_; intro v2 w2 hO4 hg4 hat4)
            have hb3 : Below w.heap.size w w2 := Below.grown hB2 hg4 (by simp; omega) (fun k hk => (row_len hO3 k hk).1)
            rw [← HG.out] at hO4
            clear hO2 hO3 hsrc hB2 hg4 hat4
            go_wp2
            go_roundw
            case rel => exact ⟨p + 1, _, by omega, by go_num, rfl, hO4, hb3⟩
            case measure => simp [intOf]; omega
          | false =>
            have hO4 : Row csI 3 wr w.heap.size v (signersTo ps l xs (p + 1)) := by rw [HS.out, hg]; simpa using hO2
            clear hg hO2
            go_wp2
            go_roundw
            case rel => exact ⟨p + 1, _, by omega, by go_num, rfl, hO4, hbwi⟩
            case measure => simp [intOf]; omega
    · obtain rfl : p = n := by omega
      have HR : Hid (∃ v', Ending.returned v = .returned v' ∧ Row csI 3 wr w.heap.size v' (signersI ps l xs) ∧ Below w.heap.size w wr) := ⟨v, rfl, by rw [← signersTo_all, HL.out]; exact hO, hbr⟩
      go_wp2
      go_ret
      exact HR.out

end Go.Proofs.Ytcljmnbjejcdaaa
