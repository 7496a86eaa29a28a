/-
  The reference's Signed (chapter 21).
-/
import Derived.Test.YtcljmnbjejcdaaaAppA
import Derived.Test.YtcljmnbjejcdaaaApdT
import Derived.Test.YtcljmnbjejcdaaaRefS
namespace Go.Proofs.Ytcljmnbjejcdaaa
open Go.ChangeShapes Go.WideShapes Go.ChangeAt Go.RowKit

def signedTo (ps : List Per) (zs : List Int) (b : List UInt8) (k : Nat) : List App := (zs.take k).map (fun z => signA ps (around z ps.length) b)
def signedM (n m : Nat) : Nat := if n = 0 then 0 else min m 16
def signedL (ps : List Per) (zs : List Int) (b : List UInt8) : List App := signedTo ps zs b (signedM ps.length zs.length)
theorem signedTo_succ {ps : List Per} {zs : List Int} {b : List UInt8} {k : Nat} {z : Int} (h : zs[k]? = some z) : signedTo ps zs b (k + 1) = signedTo ps zs b k ++ [signA ps (around z ps.length) b] := by
  unfold signedTo; rw [take_snoc h, List.map_append]; rfl
theorem signedTo_len (ps : List Per) (zs : List Int) (b : List UInt8) (k : Nat) : (signedTo ps zs b k).length ≤ k := by
  unfold signedTo; rw [List.length_map]; exact List.length_take_le _ _

set_option maxRecDepth 100000 in
set_option maxHeartbeats 2000000 in
theorem signed_any (B : Nat) (A : Option Addr) (n cap : Nat) (ps : List Per) (V : Option Addr) (q d : Nat) (zs : List Int) (C : Option Addr) (m c : Nat) (xs : List UInt8) (w : World) (h : Sl csP 2 w B A n cap ps) (hp : ∀ p ∈ ps, U64 p.secret) (hB : B ≤ w.heap.size) (hv : Sl csI 1 w B V q d zs) (hz : ∀ z ∈ zs, I64 z) (hs : Sl csB 1 w B C m c xs) (hm : m ≤ 1000000000000) (hn : n ≤ 1000000000000) :
    Calls Try.prog 22 #[.slice A n cap, .slice V q d, .slice C m c] w fun e w' => ∃ v, e = .returned v ∧ Rw csA 25 2 w' w.heap.size v (signedL ps zs xs) ∧ Below w.heap.size w w' := by
  have HLp := Lib.hid h.len
  have HLz := Lib.hid hv.len
  have hqd := hv.ncap
  have hdm := hv.cmax
  have hcm := h.cmax
  have hM : signedM n q = (if n = 0 then 0 else min q 16) := rfl
  obtain ⟨M, hMe⟩ : ∃ M, signedM n q = M := ⟨_, rfl⟩
  rw [hMe] at hM
  have hM2 : M ≤ q ∧ M ≤ 16 ∧ (0 < M → 0 < n) := by rw [hM]; split <;> omega
  have hM3 : n = 0 ∨ (0 < n ∧ q = M) ∨ (0 < n ∧ M < q ∧ M = 16) := by rw [hM]; split <;> omega
  have HM := Lib.hid hMe
  clear hM hMe
  go_enter Try.func22, Try.ntmps22
  go_wp2
  go_loopw [7, 8] (fun v i wr => ∃ (k : Nat) (v' : Value), k ≤ M ∧ i = .int .i64 k ∧ v' = v ∧ Rw csA 25 2 wr w.heap.size v' (signedTo ps zs xs k) ∧ Below w.heap.size w wr) (fun _ i _ => M - (intOf i).toNat)
  case atStart => exact ⟨0, _, by omega, rfl, rfl, Rw.nil _ _ _ _ _, Below.refl _ _⟩
  case round =>
    obtain ⟨k, v, hkM, rfl, rfl, hO, hbr⟩ := hrel
    have hsr := hbr.size
    by_cases hlt : k < M
    · have hkq : (k : Int) < q := by omega
      have hk16 : (k : Int) < 16 := by omega
      have hn0 : (0 : Int) < n := by omega
      have hw := hv.below hbr hB
      obtain ⟨b, o, z, rfl, hb, hx, ci⟩ := hw.int_at (show k < q by omega)
      have hiz := hz z (List.mem_of_getElem? hx)
      have HS := Lib.hid (signedTo_succ (ps := ps) (b := xs) hx)
      have h1 := around_lo (n := z) (m := n) (by omega)
      have h2 := around_hi (n := z) (m := n) (by omega)
      have hlen := signedTo_len ps zs xs k
      clear hx
      go_wp2_with fail
      refine (around_any z n wr hiz (by omega) (by omega)).mono ?_
      rintro e w1 ⟨rfl, rfl⟩
      generalize hj : around z n = j at *
      go_wp2_with fail
      refine (signR_any B A n cap ps j C m c xs wr (h.below hbr hB) hp (by omega) (hs.below hbr hB) hm).mono ?_
      rintro e w2 ⟨rfl, hb2⟩
      have hin : inP ps j = true := by unfold inP; simp [HLp.out]; omega
      have HV : Hid (signV ps j xs = .tuple #[.agg #[.int .i64 j, .int .u64 (tagN (secN ps j) xs : Nat)], .int .i64 0]) := by unfold Hid signV; rw [if_pos hin]; simp only [signA, App.val]
      have HS2 : Hid (signedTo ps zs xs (k + 1) = signedTo ps zs xs k ++ [⟨j, tagN (secN ps j) xs⟩]) := by rw [Hid, HS.out, HLp.out, hj]; rfl
      rw [HV.out]
      generalize tagN (secN ps j) xs = T at *
      generalize signedTo ps zs xs k = L at *
      have hs2 := hb2.size
      have hbw2 := hbr.trans (hb2.mono hsr)
      have hO2 := hO.below hb2
      have hba : Below w2.heap.size w2 ((w2.alloc (.cells #[.int .i64 j, .int .u64 (T : Int)] 25)).alloc (.cells #[.int .i64 j, .int .u64 (T : Int)] 25)) := ((Below.refl _ _).alloc (Nat.le_refl _) _).alloc (by simp) _
      have hO3 := hO2.below hba
      have hbX := hbw2.trans (hba.mono (by omega))
      have hcs : ∀ i u, (csA ⟨j, T⟩)[i]? = some u → World.cell? ((w2.alloc (.cells #[.int .i64 j, .int .u64 (T : Int)] 25)).alloc (.cells #[.int .i64 j, .int .u64 (T : Int)] 25)) ((⟨w2.heap.size + 1, 0, none⟩ : Addr).add i) = some u := by
        intro i u hu
        rw [addr_add, Nat.zero_add]
        have hsz : (w2.alloc (.cells #[.int .i64 j, .int .u64 (T : Int)] 25)).heap.size = w2.heap.size + 1 := by simp
        have h9 := (Blk.new (w2.alloc (.cells #[.int .i64 j, .int .u64 (T : Int)] 25)) 25 #[.int .i64 j, .int .u64 (T : Int)]).cell i
        rw [hsz] at h9
        rw [h9, ← hu]
        simp [csA]
      clear hO hO2 HS hj h1 h2 ci hw
      go_wp2_with (at_builtin; refine wpList_rw twoA rfl _ _ rfl w.heap.size v L rfl hO3 ⟨w2.heap.size + 1, 0, none⟩ ⟨j, T⟩ 1 rfl hcs (by omega) (by simp; omega) ?_; intro v2 w3 hO4 hg4 hat4)
      have hb3 : Below w.heap.size w w3 := hbX.grown hg4 hbX.size (fun i hi => (World.ownsRow.lt hO3 i hi).1)
      rw [← HS2.out] at hO4
      clear hO3 hg4 hat4 hcs hba hbX
      go_wp2
      go_roundw
      case rel => exact ⟨k + 1, _, by omega, by go_num, rfl, hO4, hb3⟩
      case measure => simp [intOf]; omega
    · obtain rfl : k = M := by omega
      have HE : Hid (∃ v', Ending.returned v = .returned v' ∧ Rw csA 25 2 wr w.heap.size v' (signedL ps zs xs) ∧ Below w.heap.size w wr) := ⟨v, rfl, by unfold signedL; rw [HLp.out, HLz.out, HM.out]; exact hO, hbr⟩
      clear hO
      rcases hM3 with hn0 | ⟨hn0, hqM⟩ | ⟨hn0, hMq, hM16⟩
      · subst hn0
        by_cases hkq : (k : Int) < q
        · by_cases hk16 : (k : Int) < 16
          · go_wp2
            go_ret
            exact HE.out
          · go_wp2
            go_ret
            exact HE.out
        · go_wp2
          go_ret
          exact HE.out
      · subst hqM
        go_wp2
        go_ret
        exact HE.out
      · have hkq : (k : Int) < q := by omega
        have hk16 : ¬ (k : Int) < 16 := by omega
        go_wp2
        go_ret
        exact HE.out
end Go.Proofs.Ytcljmnbjejcdaaa
