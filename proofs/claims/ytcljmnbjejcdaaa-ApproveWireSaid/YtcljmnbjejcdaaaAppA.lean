/-
  Sign and Valid of approve and of its reference.
-/
import Derived.Test.YtcljmnbjejcdaaaHashX
import Derived.Test.YtcljmnbjejcdaaaAppP
namespace Go.Proofs.Ytcljmnbjejcdaaa
open Go.ChangeShapes Go.WideShapes Go.ChangeAt Go.RowKit

/-- the cells of a person, of an approval -/
def csP (p : Per) : List Value := [.int .i64 p.centre, .int .u64 (p.secret : Int)]
def csA (a : App) : List Value := [.int .i64 a.person, .int .u64 (a.tag : Int)]
abbrev App.val (a : App) : Value := .agg #[.int .i64 a.person, .int .u64 (a.tag : Int)]

theorem Sl.two_at {α : Type} {cs : α → List Value} {w : World} {B : Nat} {A : Option Addr} {n cap : Nat} {xs : List α} (h : Sl cs 2 w B A n cap xs) {k : Nat} (hk : k < n) : ∃ b o x, A = some ⟨b, o, none⟩ ∧ b < B ∧ xs[k]? = some x ∧ ∀ w', Below B w w' → ∀ (j : Nat) (v : Value), (cs x)[j]? = some v → w'.cell? ⟨b, o + k * 2 + j, none⟩ = some v := by
  obtain ⟨b, o, e, hb, hc⟩ := h.row (by omega)
  have hl : k < xs.length := by rw [h.len]; exact hk
  exact ⟨b, o, xs[k], e, hb, List.getElem?_eq_getElem hl, fun w' hw j v hv => (hw.cell (p := ⟨b, o + k * 2 + j, none⟩) hb).trans (hc k xs[k] (List.getElem?_eq_getElem hl) j v hv)⟩

/-- what Sign answers -/
def signV (ps : List Per) (i : Int) (b : List UInt8) : Value := if inP ps i = true then .tuple #[(signA ps i b).val, .int .i64 0] else .tuple #[.agg #[.int .i64 0, .int .u64 0], .int .i64 3]

theorem sec_get {ps : List Per} {k : Nat} {p : Per} (h : ps[k]? = some p) : secN ps (k : Int) = p.secret := by unfold secN; simp [List.getD, h]

set_option maxRecDepth 100000 in
set_option maxHeartbeats 1000000 in
theorem sign_any (B : Nat) (A : Option Addr) (n cap : Nat) (ps : List Per) (i : Int) (C : Option Addr) (m c : Nat) (xs : List UInt8) (w : World) (h : Sl csP 2 w B A n cap ps) (hp : ∀ p ∈ ps, U64 p.secret) (hB : B ≤ w.heap.size) (hs : Sl csB 1 w B C m c xs) (hm : m ≤ 1000000000000) :
    Calls Try.prog 12 #[.slice A n cap, .int .i64 i, .slice C m c] w fun e w' => e = .returned (signV ps i xs) ∧ Below w.heap.size w w' := by
  have hn := h.ncap
  have hc := h.cmax
  have hl := h.len
  have HL := Lib.hid hl
  clear hl
  have bz := Blk.new w 25 #[.int .i64 0, .int .u64 0]
  have hb0 : Below w.heap.size w (w.alloc (.cells #[.int .i64 0, .int .u64 0] 25)) := (Below.refl _ _).alloc (Nat.le_refl _) _
  have hs0 : w.heap.size < (w.alloc (.cells #[.int .i64 0, .int .u64 0] 25)).heap.size := by simp
  by_cases h1 : i < 0
  · have HV : Hid (signV ps i xs = .tuple #[.agg #[.int .i64 0, .int .u64 0], .int .i64 3]) := by unfold Hid signV inP; rw [if_neg]; simp; omega
    have z0 := bz.cell 0; have z1 := bz.cell 1; have f0 := bz.frozen 0; have f1 := bz.frozen 1
    simp only [List.getElem?_toArray, List.getElem?_cons_zero, List.getElem?_cons_succ] at z0 z1
    go_enter Try.func12, Try.ntmps12
    go_wp2
    refine bodyPost_ret (v := .tuple #[.agg #[.int .i64 0, .int .u64 0], .int .i64 3]) (by simp [results, Try.results12, go_sem, z0, z1]) rfl ⟨by rw [HV.out], ?_⟩
    exact hb0
  · by_cases h2 : (n : Int) ≤ i
    · have HV : Hid (signV ps i xs = .tuple #[.agg #[.int .i64 0, .int .u64 0], .int .i64 3]) := by unfold Hid signV inP; rw [if_neg]; have := HL.out; simp; omega
      have z0 := bz.cell 0; have z1 := bz.cell 1; have f0 := bz.frozen 0; have f1 := bz.frozen 1
      simp only [List.getElem?_toArray, List.getElem?_cons_zero, List.getElem?_cons_succ] at z0 z1
      go_enter Try.func12, Try.ntmps12
      go_wp2
      refine bodyPost_ret (v := .tuple #[.agg #[.int .i64 0, .int .u64 0], .int .i64 3]) (by simp [results, Try.results12, go_sem, z0, z1]) rfl ⟨by rw [HV.out], ?_⟩
      exact hb0
    · obtain ⟨k, rfl⟩ : ∃ k : Nat, i = k := ⟨i.toNat, by omega⟩
      have hk : k < n := by omega
      obtain ⟨b, o, p, rfl, hb, hx, hcell⟩ := h.two_at hk
      have hpu := hp p (List.mem_of_getElem? hx)
      have HV : Hid (signV ps k xs = .tuple #[.agg #[.int .i64 k, .int .u64 (tagN p.secret xs : Nat)], .int .i64 0]) := by
        unfold Hid signV
        rw [if_pos (by unfold inP; rw [HL.out]; simp; omega)]
        unfold signA
        rw [sec_get hx]
      have cs1 := hcell _ (hb0.mono hB) 1 (.int .u64 (p.secret : Int)) rfl
      clear hx h
      go_enter Try.func12, Try.ntmps12
      go_wp2_with fail
      refine (tag_any B p.secret hpu C m c xs _ (hs.below hb0 hB) (by simp; omega) hm).mono ?_
      rintro e w1 ⟨rfl, hb1⟩
      have bz1 := bz.below hb1 hs0
      have hbw := hb0.trans (hb1.mono (by simp))
      generalize tagN p.secret xs = T at *
      have z0 := bz1.cell 0; have z1 := bz1.cell 1; have f0 := bz1.frozen 0; have f1 := bz1.frozen 1
      simp only [List.getElem?_toArray, List.getElem?_cons_zero, List.getElem?_cons_succ] at z0 z1
      go_wp2
      refine bodyPost_ret (v := .tuple #[.agg #[.int .i64 k, .int .u64 T], .int .i64 0]) (by simp [results, Try.results12, go_sem, z0, z1]) rfl ⟨by rw [HV.out], ?_⟩
      exact Below.setCell (p := ⟨w.heap.size, 1, none⟩) (Below.setCell (p := ⟨w.heap.size, 0, none⟩) hbw (Nat.le_refl _) _) (Nat.le_refl _) _

set_option maxRecDepth 100000 in
set_option maxHeartbeats 1000000 in
theorem signR_any (B : Nat) (A : Option Addr) (n cap : Nat) (ps : List Per) (i : Int) (C : Option Addr) (m c : Nat) (xs : List UInt8) (w : World) (h : Sl csP 2 w B A n cap ps) (hp : ∀ p ∈ ps, U64 p.secret) (hB : B ≤ w.heap.size) (hs : Sl csB 1 w B C m c xs) (hm : m ≤ 1000000000000) :
    Calls Try.prog 13 #[.slice A n cap, .int .i64 i, .slice C m c] w fun e w' => e = .returned (signV ps i xs) ∧ Below w.heap.size w w' := by
  have hn := h.ncap
  have hc := h.cmax
  have hl := h.len
  have HL := Lib.hid hl
  clear hl
  have bz := Blk.new w 25 #[.int .i64 0, .int .u64 0]
  have hb0 : Below w.heap.size w (w.alloc (.cells #[.int .i64 0, .int .u64 0] 25)) := (Below.refl _ _).alloc (Nat.le_refl _) _
  have hs0 : w.heap.size < (w.alloc (.cells #[.int .i64 0, .int .u64 0] 25)).heap.size := by simp
  by_cases h1 : i < 0
  · have HV : Hid (signV ps i xs = .tuple #[.agg #[.int .i64 0, .int .u64 0], .int .i64 3]) := by unfold Hid signV inP; rw [if_neg]; simp; omega
    have z0 := bz.cell 0; have z1 := bz.cell 1; have f0 := bz.frozen 0; have f1 := bz.frozen 1
    simp only [List.getElem?_toArray, List.getElem?_cons_zero, List.getElem?_cons_succ] at z0 z1
    go_enter Try.func13, Try.ntmps13
    go_wp2
    refine bodyPost_ret (v := .tuple #[.agg #[.int .i64 0, .int .u64 0], .int .i64 3]) (by simp [results, Try.results13, go_sem, z0, z1]) rfl ⟨by rw [HV.out], ?_⟩
    exact hb0
  · by_cases h2 : (n : Int) ≤ i
    · have HV : Hid (signV ps i xs = .tuple #[.agg #[.int .i64 0, .int .u64 0], .int .i64 3]) := by unfold Hid signV inP; rw [if_neg]; have := HL.out; simp; omega
      have z0 := bz.cell 0; have z1 := bz.cell 1; have f0 := bz.frozen 0; have f1 := bz.frozen 1
      simp only [List.getElem?_toArray, List.getElem?_cons_zero, List.getElem?_cons_succ] at z0 z1
      go_enter Try.func13, Try.ntmps13
      go_wp2
      refine bodyPost_ret (v := .tuple #[.agg #[.int .i64 0, .int .u64 0], .int .i64 3]) (by simp [results, Try.results13, go_sem, z0, z1]) rfl ⟨by rw [HV.out], ?_⟩
      exact hb0
    · obtain ⟨k, rfl⟩ : ∃ k : Nat, i = k := ⟨i.toNat, by omega⟩
      have hk : k < n := by omega
      obtain ⟨b, o, p, rfl, hb, hx, hcell⟩ := h.two_at hk
      have hpu := hp p (List.mem_of_getElem? hx)
      have HV : Hid (signV ps k xs = .tuple #[.agg #[.int .i64 k, .int .u64 (tagN p.secret xs : Nat)], .int .i64 0]) := by
        unfold Hid signV
        rw [if_pos (by unfold inP; rw [HL.out]; simp; omega)]
        unfold signA
        rw [sec_get hx]
      have cs1 := hcell _ (hb0.mono hB) 1 (.int .u64 (p.secret : Int)) rfl
      clear hx h
      go_enter Try.func13, Try.ntmps13
      go_wp2_with fail
      refine (tagR_any B p.secret hpu C m c xs _ (hs.below hb0 hB) (by simp; omega) hm).mono ?_
      rintro e w1 ⟨rfl, hb1⟩
      have bz1 := bz.below hb1 hs0
      have hbw := hb0.trans (hb1.mono (by simp))
      generalize tagN p.secret xs = T at *
      have z0 := bz1.cell 0; have z1 := bz1.cell 1; have f0 := bz1.frozen 0; have f1 := bz1.frozen 1
      simp only [List.getElem?_toArray, List.getElem?_cons_zero, List.getElem?_cons_succ] at z0 z1
      go_wp2
      refine bodyPost_ret (v := .tuple #[.agg #[.int .i64 k, .int .u64 T], .int .i64 0]) (by simp [results, Try.results13, go_sem, z0, z1]) rfl ⟨by rw [HV.out], ?_⟩
      exact Below.setCell (p := ⟨w.heap.size, 1, none⟩) (Below.setCell (p := ⟨w.heap.size, 0, none⟩) hbw (Nat.le_refl _) _) (Nat.le_refl _) _

theorem valid_eq {ps : List Per} {a : App} {b : List UInt8} (h : inP ps a.person = true) : validB ps a b = decide (tagN (secN ps a.person) b = a.tag) := by
  unfold validB; rw [h, Bool.true_and]
  exact Bool.eq_iff_iff.2 (by rw [beq_iff_eq, decide_eq_true_eq])
theorem valid_no {ps : List Per} {a : App} {b : List UInt8} (h : ¬ inP ps a.person = true) : validB ps a b = false := by
  unfold validB
  rw [Bool.not_eq_true] at h
  rw [h, Bool.false_and]

set_option maxRecDepth 100000 in
set_option maxHeartbeats 1000000 in
theorem valid_any (B : Nat) (A : Option Addr) (n cap : Nat) (ps : List Per) (a : App) (C : Option Addr) (m c : Nat) (xs : List UInt8) (w : World) (h : Sl csP 2 w B A n cap ps) (hp : ∀ p ∈ ps, U64 p.secret) (hB : B ≤ w.heap.size) (hs : Sl csB 1 w B C m c xs) (hm : m ≤ 1000000000000) :
    Calls Try.prog 14 #[.slice A n cap, a.val, .slice C m c] w fun e w' => e = .returned (.bool (validB ps a xs)) ∧ Below w.heap.size w w' := by
  unfold App.val
  go_enter Try.func14, Try.ntmps14
  have bX := Blk.new w 25 #[.int .i64 a.person, .int .u64 (a.tag : Int)]
  have hb0 : Below w.heap.size w (w.alloc (.cells #[.int .i64 a.person, .int .u64 (a.tag : Int)] 25)) := (Below.refl _ _).alloc (Nat.le_refl _) _
  have hs0 : (w.alloc (.cells #[.int .i64 a.person, .int .u64 (a.tag : Int)] 25)).heap.size = w.heap.size + 1 := by simp
  go_wp2_with fail
  refine (sign_any B A n cap ps a.person C m c xs _ (h.below hb0 hB) hp (by rw [hs0]; omega) (hs.below hb0 hB) hm).mono ?_
  rintro e w1 ⟨rfl, hb1⟩
  have bX1 := bX.below hb1 (by rw [hs0]; omega)
  have hbw := hb0.trans (hb1.mono (by rw [hs0]; omega))
  have hs1 := hb1.size
  rw [hs0] at hs1
  by_cases hin : inP ps a.person = true
  · have HS : Hid (signV ps a.person xs = .tuple #[.agg #[.int .i64 a.person, .int .u64 (tagN (secN ps a.person) xs : Nat)], .int .i64 0]) := by unfold Hid signV; rw [if_pos hin]; simp only [signA, App.val]
    have HV := Lib.hid (valid_eq (b := xs) hin)
    rw [HS.out]
    generalize tagN (secN ps a.person) xs = T at *
    have hbX : Below w1.heap.size w1 (w1.alloc (.cells #[.int .i64 a.person, .int .u64 (T : Int)] 25)) := (Below.refl _ _).alloc (Nat.le_refl _) _
    have bX2 := bX1.below hbX (by omega)
    have c0 := bX2.cell 0; have c1 := bX2.cell 1
    simp only [List.getElem?_toArray, List.getElem?_cons_zero, List.getElem?_cons_succ] at c0 c1
    have hend : Below w.heap.size w (w1.alloc (.cells #[.int .i64 a.person, .int .u64 (T : Int)] 25)) := hbw.alloc hbw.size _
    clear hin
    by_cases hT : T = a.tag
    · subst hT
      go_wp2
      go_ret
      exact ⟨by rw [HV.out]; simp, hend⟩
    · have hT2 : ((T : Int) == (a.tag : Int)) = false := by simp; omega
      go_wp2
      go_ret
      exact ⟨by rw [HV.out]; simp [hT], hend⟩
  · have HS : Hid (signV ps a.person xs = .tuple #[.agg #[.int .i64 0, .int .u64 0], .int .i64 3]) := by unfold Hid signV; rw [if_neg hin]
    have HV := Lib.hid (valid_no (b := xs) hin)
    rw [HS.out]
    have hend : Below w.heap.size w (w1.alloc (.cells #[.int .i64 0, .int .u64 0] 25)) := hbw.alloc hbw.size _
    clear hin
    go_wp2
    go_ret
    exact ⟨by rw [HV.out]; rfl, hend⟩

set_option maxRecDepth 100000 in
set_option maxHeartbeats 1000000 in
theorem validR_any (B : Nat) (A : Option Addr) (n cap : Nat) (ps : List Per) (a : App) (C : Option Addr) (m c : Nat) (xs : List UInt8) (w : World) (h : Sl csP 2 w B A n cap ps) (hp : ∀ p ∈ ps, U64 p.secret) (hB : B ≤ w.heap.size) (hs : Sl csB 1 w B C m c xs) (hm : m ≤ 1000000000000) :
    Calls Try.prog 15 #[.slice A n cap, a.val, .slice C m c] w fun e w' => e = .returned (.bool (validB ps a xs)) ∧ Below w.heap.size w w' := by
  unfold App.val
  go_enter Try.func15, Try.ntmps15
  have bX := Blk.new w 25 #[.int .i64 a.person, .int .u64 (a.tag : Int)]
  have hb0 : Below w.heap.size w (w.alloc (.cells #[.int .i64 a.person, .int .u64 (a.tag : Int)] 25)) := (Below.refl _ _).alloc (Nat.le_refl _) _
  have hs0 : (w.alloc (.cells #[.int .i64 a.person, .int .u64 (a.tag : Int)] 25)).heap.size = w.heap.size + 1 := by simp
  go_wp2_with fail
  refine (signR_any B A n cap ps a.person C m c xs _ (h.below hb0 hB) hp (by rw [hs0]; omega) (hs.below hb0 hB) hm).mono ?_
  rintro e w1 ⟨rfl, hb1⟩
  have bX1 := bX.below hb1 (by rw [hs0]; omega)
  have hbw := hb0.trans (hb1.mono (by rw [hs0]; omega))
  have hs1 := hb1.size
  rw [hs0] at hs1
  by_cases hin : inP ps a.person = true
  · have HS : Hid (signV ps a.person xs = .tuple #[.agg #[.int .i64 a.person, .int .u64 (tagN (secN ps a.person) xs : Nat)], .int .i64 0]) := by unfold Hid signV; rw [if_pos hin]; simp only [signA, App.val]
    have HV := Lib.hid (valid_eq (b := xs) hin)
    rw [HS.out]
    generalize tagN (secN ps a.person) xs = T at *
    have hbX : Below w1.heap.size w1 (w1.alloc (.cells #[.int .i64 a.person, .int .u64 (T : Int)] 25)) := (Below.refl _ _).alloc (Nat.le_refl _) _
    have bX2 := bX1.below hbX (by omega)
    have c0 := bX2.cell 0; have c1 := bX2.cell 1
    simp only [List.getElem?_toArray, List.getElem?_cons_zero, List.getElem?_cons_succ] at c0 c1
    have hend : Below w.heap.size w (w1.alloc (.cells #[.int .i64 a.person, .int .u64 (T : Int)] 25)) := hbw.alloc hbw.size _
    clear hin
    by_cases hT : T = a.tag
    · subst hT
      go_wp2
      go_ret
      exact ⟨by rw [HV.out]; simp, hend⟩
    · have hT2 : ((T : Int) == (a.tag : Int)) = false := by simp; omega
      go_wp2
      go_ret
      exact ⟨by rw [HV.out]; simp [hT], hend⟩
  · have HS : Hid (signV ps a.person xs = .tuple #[.agg #[.int .i64 0, .int .u64 0], .int .i64 3]) := by unfold Hid signV; rw [if_neg hin]
    have HV := Lib.hid (valid_no (b := xs) hin)
    rw [HS.out]
    have hend : Below w.heap.size w (w1.alloc (.cells #[.int .i64 0, .int .u64 0] 25)) := hbw.alloc hbw.size _
    clear hin
    go_wp2
    go_ret
    exact ⟨by rw [HV.out]; rfl, hend⟩

end Go.Proofs.Ytcljmnbjejcdaaa
