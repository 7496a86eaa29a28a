/-
  The reference's Made (chapter 21).
-/
import Derived.Test.YtcljmnbjejcdaaaAppG
import Derived.Test.YtcljmnbjejcdaaaFac
namespace Go.Proofs.Ytcljmnbjejcdaaa
open Go.ChangeShapes Go.WideShapes Go.ChangeAt Go.RowKit

def madeTo (ps : List Per) (k : Nat) : List Per := (ps.take k).map (fun p => ⟨around p.centre 3, p.secret⟩)
def madeL (ps : List Per) : List Per := madeTo ps 16
theorem madeTo_succ {ps : List Per} {k : Nat} {p : Per} (h : ps[k]? = some p) : madeTo ps (k + 1) = madeTo ps k ++ [⟨around p.centre 3, p.secret⟩] := by
  unfold madeTo; rw [take_snoc h, List.map_append]; rfl
theorem madeTo_len (ps : List Per) (k : Nat) : (madeTo ps k).length ≤ k := by
  unfold madeTo; rw [List.length_map]; exact List.length_take_le _ _
/-- a person alone in a block -/
def OneP (B : Nat) (p : Per) (v : Value) (w : World) : Prop := ∃ g, B ≤ g ∧ v = .slice (some ⟨g, 0, none⟩) 1 1 ∧ Blk w g 44 (csP p).toArray
theorem OneP.grow {B : Nat} {p : Per} {v : Value} {w w' : World} (h : OneP B p v w) (hb : Below w.heap.size w w') : OneP B p v w' := by
  obtain ⟨g, h1, h2, h3⟩ := h
  exact ⟨g, h1, h2, h3.below hb h3.lt⟩

set_option maxRecDepth 100000 in
set_option maxHeartbeats 2000000 in
theorem made_any (B : Nat) (A : Option Addr) (n cap : Nat) (ps : List Per) (w : World) (h : Sl csP 2 w B A n cap ps) (hC : ∀ p ∈ ps, I64 p.centre) (hB : B ≤ w.heap.size) :
    Calls Try.prog 21 #[.slice A n cap] w fun e w' => ∃ v, e = .returned v ∧ Rw csP 44 2 w' w.heap.size v (madeL ps) ∧ Below w.heap.size w w' := by
  have HLp := Lib.hid h.len
  have hcm := h.cmax
  have hnc := h.ncap
  obtain ⟨M, hM⟩ : ∃ M, min n 16 = M := ⟨_, rfl⟩
  have hM2 : M ≤ n ∧ M ≤ 16 := by omega
  have hM3 : n = M ∨ (M < n ∧ M = 16) := by omega
  have HM := Lib.hid hM
  clear hM
  go_enter Try.func21, Try.ntmps21
  go_wp2
  go_loopw [3, 4] (fun v i wr => ∃ (k : Nat) (v' : Value), k ≤ M ∧ i = .int .i64 k ∧ v' = v ∧ Rw csP 44 2 wr w.heap.size v' (madeTo ps k) ∧ Below w.heap.size w wr) (fun _ i _ => M - (intOf i).toNat)
  case atStart => exact ⟨0, _, by omega, rfl, rfl, Rw.nil _ _ _ _ _, Below.refl _ _⟩
  case round =>
    obtain ⟨k, v, hkM, rfl, rfl, hO, hbr⟩ := hrel
    have hsr := hbr.size
    by_cases hlt : k < M
    · have hkq : (k : Int) < n := by omega
      have hk16 : (k : Int) < 16 := by omega
      have hw := h.below hbr hB
      obtain ⟨b, o, p, rfl, hb, hx, hcell⟩ := hw.two_at (show k < n by omega)
      have hip := hC p (List.mem_of_getElem? hx)
      have HS := Lib.hid (madeTo_succ hx)
      have hlen := madeTo_len ps k
      clear hx
      generalize madeTo ps k = L at *
      have hO1 := hO
      clear hO
      go_wp2
      refine wp_region_facts_tail 14 (grown wr (List.replicate 13 none ++ [some (OneP wr.heap.size ⟨around p.centre 3, p.secret⟩)])) (grown_ok (fun F hF v w w' hv hb => by simp at hF; subst hF; exact hv.grow hb)) (by kernel_rfl) (by kernel_rfl) ((Below.refl _ _).drew) ?_
      refine wpF.move0 rfl (.tmp 3) (.inl rfl) rfl (fun _ => Below.refl _ _) ?_
      refine wpF.move0 rfl (.tmp 0) (.inl rfl) rfl (fun _ => Below.refl _ _) ?_
      refine wpF.move0 rfl (.tmp 4) (.inl rfl) rfl (fun _ => Below.refl _ _) ?_
      go_simp
      refine wpF.const0 rfl (.pointer (some ⟨b, o + k * 2, none⟩)) 18 rfl (by simp) (fun w' hC' => ?_) ?_
      · go_wp2
        exact ⟨rfl, rfl, rfl, Below.refl _ _⟩
      go_simp
      refine wpF.const0 rfl (.pointer (some ⟨b, o + k * 2, none⟩)) 19 rfl (by simp) (fun w' hC' => ?_) ?_
      · go_wp2
        exact ⟨rfl, rfl, rfl, Below.refl _ _⟩
      go_simp
      refine wpF.const0 rfl (.int .i64 p.centre) 20 rfl (by simp) (fun w' hC' => ?_) ?_
      · have c0 := hcell w' (hC'.mono (Nat.le_trans hB hsr)) 0 (.int .i64 p.centre) rfl
        rw [Nat.add_zero] at c0
        go_wp2
        exact ⟨rfl, rfl, rfl, Below.refl _ _⟩
      go_simp
      refine wpF.const0 rfl (.int .i64 (around p.centre 3)) 21 rfl (by simp) (fun w' hC' => ?_) ?_
      · go_wp2_with fail
        refine (around_any p.centre 3 _ hip (by omega) (by omega)).mono ?_
        rintro e w1 ⟨rfl, rfl⟩
        go_wp2
        exact ⟨rfl, rfl, rfl, Below.refl _ _⟩
      refine wpF.move0 rfl (.tmp 0) (.inl rfl) rfl (fun _ => Below.refl _ _) ?_
      refine wpF.move0 rfl (.tmp 4) (.inl rfl) rfl (fun _ => Below.refl _ _) ?_
      go_simp
      refine wpF.const0 rfl (.pointer (some ⟨b, o + k * 2, none⟩)) 24 rfl (by simp) (fun w' hC' => ?_) ?_
      · go_wp2
        exact ⟨rfl, rfl, rfl, Below.refl _ _⟩
      go_simp
      refine wpF.const0 rfl (.pointer (some ⟨b, o + k * 2 + 1, none⟩)) 25 rfl (by simp) (fun w' hC' => ?_) ?_
      · go_wp2
        exact ⟨rfl, rfl, rfl, Below.refl _ _⟩
      go_simp
      refine wpF.const0 rfl (.int .u64 (p.secret : Int)) 26 rfl (by simp) (fun w' hC' => ?_) ?_
      · have c1 := hcell w' (hC'.mono (Nat.le_trans hB hsr)) 1 (.int .u64 (p.secret : Int)) rfl
        go_wp2
        exact ⟨rfl, rfl, rfl, Below.refl _ _⟩
      go_simp
      refine wpF.const0 rfl (.agg #[.int .i64 (around p.centre 3), .int .u64 (p.secret : Int)]) 27 rfl (by simp) (fun w' hC' => ?_) ?_
      · go_wp2
        exact ⟨rfl, rfl, rfl, Below.refl _ _⟩
      go_simp
      refine wpF.make0 (OneP wr.heap.size ⟨around p.centre 3, p.secret⟩) rfl 28 rfl (by simp) (fun w' hC' => ?_) ?_
      · go_wp2
        exact ⟨rfl, rfl, ⟨w'.heap.size, hC'.size, rfl, Blk.new w' _ _⟩, (Below.refl _ _).alloc (Nat.le_refl _) _⟩
      intro vs w2 hC2 hF2
      have hf := hF2 13 (by simp) _ rfl
      replace hC2 : Below wr.heap.size wr w2 := hC2
      rw [puts_cons, puts_nil, show dstOf _ 13 = some 28 from rfl]
      generalize vs 13 = v13 at *
      obtain ⟨g, hg, rfl, hblk⟩ := hf
      clear hF2
      have hsg := hblk.lt
      have hO2 := hO1.below hC2
      have hb2 := hbr.trans (hC2.mono hsr)
      have hs2 := hC2.size
      have hcs : ∀ i u, (csP ⟨around p.centre 3, p.secret⟩)[i]? = some u → w2.cell? ((⟨g, 0, none⟩ : Addr).add i) = some u := by
        intro i u hu
        rw [addr_add, Nat.zero_add, hblk.cell i, ← hu]
        simp [csP]
      clear hO1
      go_simp
      at_builtin; refine wpList_rw twoP rfl _ _ rfl w.heap.size v L rfl hO2 ⟨g, 0, none⟩ ⟨around p.centre 3, p.secret⟩ 1 rfl hcs (by omega) (by omega) ?_; intro v2 w3 hO4 hg4 hat4
      have hb3 : Below w.heap.size w w3 := hb2.grown hg4 hb2.size (fun i hi => (World.ownsRow.lt hO2 i hi).1)
      rw [← HS.out] at hO4
      clear hO2 hg4 hat4 hcs
      go_wp2
      go_roundw
      case rel => exact ⟨k + 1, _, by omega, by go_num, rfl, hO4, hb3⟩
      case measure => simp [intOf]; omega
    · obtain rfl : k = M := by omega
      have HE : Hid (∃ v', Ending.returned v = .returned v' ∧ Rw csP 44 2 wr w.heap.size v' (madeL ps) ∧ Below w.heap.size w wr) := ⟨v, rfl, by
        unfold madeL
        have e : madeTo ps 16 = madeTo ps k := by
          unfold madeTo
          congr 1
          have h1 := HLp.out
          have h2 := HM.out
          rcases hM3 with h3 | ⟨_, h3⟩
          · rw [List.take_of_length_le (by omega), List.take_of_length_le (by omega)]
          · rw [h3]
        rw [e]; exact hO, hbr⟩
      clear hO
      rcases hM3 with hqM | ⟨hMq, hM16⟩
      · subst hqM
        go_wp2
        go_ret
        exact HE.out
      · have hkq : (k : Int) < n := by omega
        have hk16 : ¬ (k : Int) < 16 := by omega
        go_wp2
        go_ret
        exact HE.out
end Go.Proofs.Ytcljmnbjejcdaaa
