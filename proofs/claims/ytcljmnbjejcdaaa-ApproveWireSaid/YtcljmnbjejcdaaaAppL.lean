/-
  law21.lives: the walk (draft: does not build whole yet).
-/
import Derived.Test.YtcljmnbjejcdaaaLivP
import Derived.Test.YtcljmnbjejcdaaaFac
namespace Go.Proofs.Ytcljmnbjejcdaaa
open Go.ChangeShapes Go.WideShapes Go.ChangeAt Go.RowKit

theorem sign_liv0 : signV staffP 0 e12 = .tuple #[.agg #[.int .i64 0, .int .u64 ((liv 0).tag : Int)], .int .i64 0] := rfl
theorem sign_liv1 : signV staffP 1 e12 = .tuple #[.agg #[.int .i64 1, .int .u64 ((liv 1).tag : Int)], .int .i64 0] := rfl
theorem sign_liv2 : signV staffP 2 e12 = .tuple #[.agg #[.int .i64 2, .int .u64 ((liv 2).tag : Int)], .int .i64 0] := rfl
theorem sign_liv3 : signV staffP 3 e12 = .tuple #[.agg #[.int .i64 0, .int .u64 0], .int .i64 3] := rfl
theorem staff_u64 : ∀ p ∈ staffP, U64 p.secret := by unfold staffP U64; decide

/-- what lives holds at its last statement -/
structure LivS (W x : Nat) (w : World) (Ap Ae Ao A1 A2 A3 A4 : Option Addr) (k1 k2 k3 k4 : Nat) : Prop where
  p : Sl csP 2 w W Ap 3 3 staffP
  e : Sl csB 1 w W Ae 2 2 e12
  o : Sl csB 1 w W Ao 2 2 e13
  two : Sl csA 2 w W A1 2 k1 [liv 0, liv 1]
  mixed : Sl csA 2 w W A2 2 k2 [liv 0, liv 2]
  twice : Sl csA 2 w W A3 2 k3 [liv 0, liv 0]
  all : Sl csA 2 w W A4 3 k4 [liv 2, liv 1, liv 0]
  x0 : w.cell? ⟨x, 0, none⟩ = some (.int .i64 0)
  x1 : w.cell? ⟨x, 1, none⟩ = some (.int .u64 ((liv 0).tag : Int))
  xW : x < W
  W : W ≤ w.heap.size
section
variable {W x : Nat} {w w' : World} {Ap Ae Ao A1 A2 A3 A4 : Option Addr} {k1 k2 k3 k4 : Nat}
theorem LivS.below (h : LivS W x w Ap Ae Ao A1 A2 A3 A4 k1 k2 k3 k4) (hb : Below w.heap.size w w') : LivS W x w' Ap Ae Ao A1 A2 A3 A4 k1 k2 k3 k4 :=
  ⟨h.p.below hb h.W, h.e.below hb h.W, h.o.below hb h.W, h.two.below hb h.W, h.mixed.below hb h.W, h.twice.below hb h.W, h.all.below hb h.W, (hb.cell (p := ⟨x, 0, none⟩) (Nat.lt_of_lt_of_le h.xW h.W)).trans h.x0, (hb.cell (p := ⟨x, 1, none⟩) (Nat.lt_of_lt_of_le h.xW h.W)).trans h.x1, h.xW, Nat.le_trans h.W hb.size⟩
theorem staff_i64 : ∀ p ∈ staffP, I64 p.centre := by unfold staffP I64; decide
theorem liv_i64 {l : List Nat} (h : ∀ i ∈ l, i < 3) : ∀ a ∈ l.map liv, I64 a.person := by
  intro a ha
  obtain ⟨i, hi, rfl⟩ := List.mem_map.1 ha
  have := h i hi
  rw [liv_person]; unfold I64; omega
theorem lv_two (h : LivS W x w Ap Ae Ao A1 A2 A3 A4 k1 k2 k3 k4) : Calls Try.prog 16 #[.slice Ap 3 3, .slice A1 2 k1, .slice Ae 2 2] w fun e w' => e = .returned (.int .i64 0) ∧ Below w.heap.size w w' := by
  have := checkO_any W Ap 3 3 staffP A1 2 k1 _ Ae 2 2 _ w h.p staff_u64 staff_i64 h.W h.two h.e (by omega) (by omega) (liv_i64 (l := [0, 1]) (by decide))
  rw [chk_two] at this
  exact this
theorem lv_mixed (h : LivS W x w Ap Ae Ao A1 A2 A3 A4 k1 k2 k3 k4) : Calls Try.prog 16 #[.slice Ap 3 3, .slice A2 2 k2, .slice Ae 2 2] w fun e w' => e = .returned (.int .i64 33) ∧ Below w.heap.size w w' := by
  have := checkO_any W Ap 3 3 staffP A2 2 k2 _ Ae 2 2 _ w h.p staff_u64 staff_i64 h.W h.mixed h.e (by omega) (by omega) (liv_i64 (l := [0, 2]) (by decide))
  rw [chk_mixed] at this
  exact this
theorem lv_twice (h : LivS W x w Ap Ae Ao A1 A2 A3 A4 k1 k2 k3 k4) : Calls Try.prog 16 #[.slice Ap 3 3, .slice A3 2 k3, .slice Ae 2 2] w fun e w' => e = .returned (.int .i64 33) ∧ Below w.heap.size w w' := by
  have := checkO_any W Ap 3 3 staffP A3 2 k3 _ Ae 2 2 _ w h.p staff_u64 staff_i64 h.W h.twice h.e (by omega) (by omega) (liv_i64 (l := [0, 0]) (by decide))
  rw [chk_twice] at this
  exact this
theorem lv_all (h : LivS W x w Ap Ae Ao A1 A2 A3 A4 k1 k2 k3 k4) : Calls Try.prog 16 #[.slice Ap 3 3, .slice A4 3 k4, .slice Ae 2 2] w fun e w' => e = .returned (.int .i64 0) ∧ Below w.heap.size w w' := by
  have := checkO_any W Ap 3 3 staffP A4 3 k4 _ Ae 2 2 _ w h.p staff_u64 staff_i64 h.W h.all h.e (by omega) (by omega) (liv_i64 (l := [2, 1, 0]) (by decide))
  rw [chk_all] at this
  exact this
theorem lv_other (h : LivS W x w Ap Ae Ao A1 A2 A3 A4 k1 k2 k3 k4) : Calls Try.prog 16 #[.slice Ap 3 3, .slice A1 2 k1, .slice Ao 2 2] w fun e w' => e = .returned (.int .i64 33) ∧ Below w.heap.size w w' := by
  have := checkO_any W Ap 3 3 staffP A1 2 k1 _ Ao 2 2 _ w h.p staff_u64 staff_i64 h.W h.two h.o (by omega) (by omega) (liv_i64 (l := [0, 1]) (by decide))
  rw [chk_other] at this
  exact this
theorem lv_many (h : LivS W x w Ap Ae Ao A1 A2 A3 A4 k1 k2 k3 k4) (A : Option Addr) (hA : Sl csA 2 w w.heap.size A 17 17 (List.replicate 17 ⟨0, 0⟩)) : Calls Try.prog 16 #[.slice Ap 3 3, .slice A 17 17, .slice Ae 2 2] w fun e w' => e = .returned (.int .i64 2) ∧ Below w.heap.size w w' := by
  have := checkO_any w.heap.size Ap 3 3 staffP A 17 17 _ Ae 2 2 _ w (h.p.more h.W) staff_u64 staff_i64 (Nat.le_refl _) hA (h.e.more h.W) (by omega) (by omega) (by intro a ha; rw [List.eq_of_mem_replicate ha]; unfold I64; simp)
  rw [chk_many (by simp)] at this
  exact this
theorem lv_sig (h : LivS W x w Ap Ae Ao A1 A2 A3 A4 k1 k2 k3 k4) : Calls Try.prog 19 #[.slice Ap 3 3, .slice A4 3 k4, .slice Ae 2 2] w fun e w' => (∃ A c, e = .returned (.slice A 3 c) ∧ Sl csI 1 w' w'.heap.size A 3 c [0, 1, 2]) ∧ Below w.heap.size w w' := by
  refine (signers_any W Ap 3 3 staffP A4 3 k4 _ Ae 2 2 _ w h.p staff_u64 h.W h.all h.e (by omega) (by omega) (liv_i64 (l := [2, 1, 0]) (by decide)) (by omega)).mono ?_
  rintro e w' ⟨v, rfl, hR, hb⟩
  rw [sig_all] at hR
  obtain ⟨A, c, rfl, hS⟩ := hR.sl (fun _ => rfl)
  exact ⟨⟨A, c, rfl, hS⟩, hb⟩
theorem lv_none (h : LivS W x w Ap Ae Ao A1 A2 A3 A4 k1 k2 k3 k4) : Calls Try.prog 19 #[.slice Ap 3 3, .slice A1 2 k1, .slice Ao 2 2] w fun e w' => (∃ A c, e = .returned (.slice A 0 c)) ∧ Below w.heap.size w w' := by
  refine (signers_any W Ap 3 3 staffP A1 2 k1 _ Ao 2 2 _ w h.p staff_u64 h.W h.two h.o (by omega) (by omega) (liv_i64 (l := [0, 1]) (by decide)) (by omega)).mono ?_
  rintro e w' ⟨v, rfl, hR, hb⟩
  rw [sig_other] at hR
  obtain ⟨A, c, rfl, hS⟩ := hR.sl (fun _ => rfl)
  exact ⟨⟨A, c, rfl⟩, hb⟩
theorem lv_val (h : LivS W x w Ap Ae Ao A1 A2 A3 A4 k1 k2 k3 k4) : Calls Try.prog 14 #[.slice Ap 3 3, .agg #[.int .i64 0, .int .u64 ((liv 0).tag : Int)], .slice Ae 2 2] w fun e w' => e = .returned (.bool true) ∧ Below w.heap.size w w' := by
  have := valid_any W Ap 3 3 staffP (liv 0) Ae 2 2 _ w h.p staff_u64 h.W h.e (by omega)
  rw [liv_val (by decide)] at this
  exact this
theorem lv_inv (h : LivS W x w Ap Ae Ao A1 A2 A3 A4 k1 k2 k3 k4) : Calls Try.prog 14 #[.slice Ap 3 3, .agg #[.int .i64 0, .int .u64 ((liv 0).tag : Int)], .slice Ao 2 2] w fun e w' => e = .returned (.bool false) ∧ Below w.heap.size w w' := by
  have := valid_any W Ap 3 3 staffP (liv 0) Ao 2 2 _ w h.p staff_u64 h.W h.o (by omega)
  rw [liv_other] at this
  exact this
end

def Z34 : Array Value := #[.int .i64 0, .int .u64 0, .int .i64 0, .int .u64 0, .int .i64 0, .int .u64 0, .int .i64 0, .int .u64 0, .int .i64 0, .int .u64 0, .int .i64 0, .int .u64 0, .int .i64 0, .int .u64 0, .int .i64 0, .int .u64 0, .int .i64 0, .int .u64 0, .int .i64 0, .int .u64 0, .int .i64 0, .int .u64 0, .int .i64 0, .int .u64 0, .int .i64 0, .int .u64 0, .int .i64 0, .int .u64 0, .int .i64 0, .int .u64 0, .int .i64 0, .int .u64 0, .int .i64 0, .int .u64 0]
theorem mk17 (w : World) : (Instr.makeSlice 34 (.int .i64 17) (.int .i64 17)).run Try.prog w = .ok (.slice (some ⟨w.heap.size, 0, none⟩) 17 17) (w.alloc (.cells Z34 25)) := by kernel_rfl
theorem z34_sl (w : World) : Sl csA 2 (w.alloc (.cells Z34 25)) (w.alloc (.cells Z34 25)).heap.size (some ⟨w.heap.size, 0, none⟩) 17 17 (List.replicate 17 ⟨0, 0⟩) := by
  have h := Sl.lit (cs := csA) (s := 2) w 25 (List.replicate 17 ⟨0, 0⟩) (by intro x _; rfl) (by simp)
  have e : (w.alloc (.cells Z34 25)).heap.size = w.heap.size + 1 := by simp
  rw [e]; exact h
set_option maxRecDepth 100000 in
set_option maxHeartbeats 2000000 in
theorem lives_any (w : World) : Calls Try.prog 11 #[] w fun e w' => e = .returned (.bool true) ∧ Below w.heap.size w w' := by
  have hmk := mk17
  go_enter Try.func11, Try.ntmps11
  go_wp2_with fail
  refine (staff_any w).mono ?_
  rintro e w1 ⟨rfl, hP, hz1, hb1⟩
  have hE := Sl.lit (cs := csB) w1 5 e12 (by intro x _; rfl) (by decide)
  have hbE : Below w1.heap.size w1 (w1.alloc (.cells #[.int .u8 1, .int .u8 2] 5)) := (Below.refl _ _).alloc (Nat.le_refl _) _
  have hsE : (w1.alloc (.cells #[.int .u8 1, .int .u8 2] 5)).heap.size = w1.heap.size + 1 := by simp
  change Sl csB 1 (w1.alloc (.cells #[.int .u8 1, .int .u8 2] 5)) (w1.heap.size + 1) (some ⟨w1.heap.size, 0, none⟩) 2 2 e12 at hE
  have hP2 := hP.below hbE hz1
  obtain ⟨u0, hu0⟩ : ∃ u0, w1.alloc (.cells #[.int .u8 1, .int .u8 2] 5) = u0 := ⟨_, rfl⟩
  rw [hu0] at hE hbE hsE hP2
  have hP3 : Sl csP 2 u0 (w1.heap.size + 1) (some ⟨w.heap.size, 0, none⟩) 3 3 staffP := hP2.more (by omega)
  have hb0 : Below w.heap.size w u0 := hb1.trans (hbE.mono hb1.size)
  have hsw := hb1.size
  obtain ⟨G, hG⟩ : ∃ G, w1.heap.size + 1 = G := ⟨_, rfl⟩
  rw [hG] at hE hP3 hsE
  have hG0 : G ≤ u0.heap.size := by omega
  have hwG : w.heap.size ≤ G := by omega
  clear hP hP2 hb1 hbE hz1
  go_wp2_with fail
  refine (sign_any G _ 3 3 staffP 0 _ 2 2 e12 u0 hP3 staff_u64 hG0 hE (by omega)).mono ?_
  rintro e v0 ⟨rfl, hv0⟩
  rw [sign_liv0]
  have hbv0 : Below u0.heap.size u0 (v0.alloc (.cells #[.int .i64 0, .int .u64 ((liv 0).tag : Int)] 25)) := hv0.alloc hv0.size _
  have bX0 := Blk.new v0 25 #[.int .i64 0, .int .u64 ((liv 0).tag : Int)]
  have sz0 : (v0.alloc (.cells #[.int .i64 0, .int .u64 ((liv 0).tag : Int)] 25)).heap.size = v0.heap.size + 1 := by simp
  have vz0 := hv0.size
  obtain ⟨u1, hu1⟩ : ∃ u, v0.alloc (.cells #[.int .i64 0, .int .u64 ((liv 0).tag : Int)] 25) = u := ⟨_, rfl⟩
  rw [hu1] at hbv0 bX0 sz0
  have hP4 := hP3.below hbv0 (by omega)
  have hE1 := hE.below hbv0 (by omega)
  have hb1 := hb0.trans (hbv0.mono (by omega))
  go_wp2_with fail
  refine (sign_any G _ 3 3 staffP 1 _ 2 2 e12 u1 hP4 staff_u64 (by omega) hE1 (by omega)).mono ?_
  rintro e v1 ⟨rfl, hv1⟩
  rw [sign_liv1]
  have hbv1 : Below u1.heap.size u1 (v1.alloc (.cells #[.int .i64 1, .int .u64 ((liv 1).tag : Int)] 25)) := hv1.alloc hv1.size _
  have bX1 := Blk.new v1 25 #[.int .i64 1, .int .u64 ((liv 1).tag : Int)]
  have sz1 : (v1.alloc (.cells #[.int .i64 1, .int .u64 ((liv 1).tag : Int)] 25)).heap.size = v1.heap.size + 1 := by simp
  have vz1 := hv1.size
  obtain ⟨u2, hu2⟩ : ∃ u, v1.alloc (.cells #[.int .i64 1, .int .u64 ((liv 1).tag : Int)] 25) = u := ⟨_, rfl⟩
  rw [hu2] at hbv1 bX1 sz1
  have hP5 := hP4.below hbv1 (by omega)
  have hE2 := hE1.below hbv1 (by omega)
  have hb2 := hb1.trans (hbv1.mono (by omega))
  have bX0_1 := bX0.below hbv1 (by omega)
  go_wp2_with fail
  refine (sign_any G _ 3 3 staffP 2 _ 2 2 e12 u2 hP5 staff_u64 (by omega) hE2 (by omega)).mono ?_
  rintro e v2 ⟨rfl, hv2⟩
  rw [sign_liv2]
  have hbv2 : Below u2.heap.size u2 (v2.alloc (.cells #[.int .i64 2, .int .u64 ((liv 2).tag : Int)] 25)) := hv2.alloc hv2.size _
  have bX2 := Blk.new v2 25 #[.int .i64 2, .int .u64 ((liv 2).tag : Int)]
  have sz2 : (v2.alloc (.cells #[.int .i64 2, .int .u64 ((liv 2).tag : Int)] 25)).heap.size = v2.heap.size + 1 := by simp
  have vz2 := hv2.size
  obtain ⟨u3, hu3⟩ : ∃ u, v2.alloc (.cells #[.int .i64 2, .int .u64 ((liv 2).tag : Int)] 25) = u := ⟨_, rfl⟩
  rw [hu3] at hbv2 bX2 sz2
  have hP6 := hP5.below hbv2 (by omega)
  have hE3 := hE2.below hbv2 (by omega)
  have hb3 := hb2.trans (hbv2.mono (by omega))
  have bX0_2 := bX0_1.below hbv2 (by omega)
  have bX1_2 := bX1.below hbv2 (by omega)
  go_wp2_with fail
  refine (sign_any G _ 3 3 staffP 3 _ 2 2 e12 u3 hP6 staff_u64 (by omega) hE3 (by omega)).mono ?_
  rintro e v3 ⟨rfl, hv3⟩
  rw [sign_liv3]
  have hbv3 : Below u3.heap.size u3 (v3.alloc (.cells #[.int .i64 0, .int .u64 0] 25)) := hv3.alloc hv3.size _
  have bX3 := Blk.new v3 25 #[.int .i64 0, .int .u64 0]
  have sz3 : (v3.alloc (.cells #[.int .i64 0, .int .u64 0] 25)).heap.size = v3.heap.size + 1 := by simp
  have vz3 := hv3.size
  have hP7 := hP6.below hbv3 (by omega)
  have hE4 := hE3.below hbv3 (by omega)
  have hb4 := hb3.trans (hbv3.mono (by omega))
  have bX0_3 := bX0_2.below hbv3 (by omega)
  have bX1_3 := bX1_2.below hbv3 (by omega)
  have bX2_3 := bX2.below hbv3 (by omega)
  have c0 := bX0_3.cell 0; have c1 := bX0_3.cell 1; have c2 := bX1_3.cell 0; have c3 := bX1_3.cell 1; have c4 := bX2_3.cell 0; have c5 := bX2_3.cell 1
  simp only [List.getElem?_toArray, List.getElem?_cons_zero, List.getElem?_cons_succ] at c0 c1 c2 c3 c4 c5
  go_wp2_with fail
  generalize hu4 : v3.alloc (.cells #[.int .i64 0, .int .u64 0] 25) = u4 at *
  clear bX0 bX1 bX2 bX3 bX0_1 bX0_2 bX0_3 bX1_2 bX1_3 bX2_3 hu0 hu1 hu2 hu3 hu4 hP3 hP4 hP5 hP6 hE hE1 hE2 hE3
  have g0 : v0.heap.size < u4.heap.size := by omega
  have g1 : v1.heap.size < u4.heap.size := by omega
  have g2 : v2.heap.size < u4.heap.size := by omega
  refine wp_region_facts (grown u4 [none, none, some (IsSl csA 2 [liv 0, liv 1]), none, none, some (IsSl csA 2 [liv 0, liv 2]), none, none, some (IsSl csA 2 [liv 0, liv 0]), none, none, none, some (IsSl csA 2 [liv 2, liv 1, liv 0]), some (IsSl csA 2 [liv 0, liv 1]), some (IsSl csA 2 [liv 0, liv 2]), some (IsSl csA 2 [liv 0, liv 0]), some (IsSl csA 2 [liv 2, liv 1, liv 0])]) (grown_ok (fun F hF v w w' hv hb => by simp at hF; rcases hF with rfl | rfl | rfl | rfl | rfl | rfl | rfl | rfl <;> exact hv.grow hb)) (by kernel_rfl) (by kernel_rfl) ((Below.refl _ _).drew) ?_
  refine wpF.const0 rfl (.agg #[.int .i64 0, .int .u64 ((liv 0).tag : Int)]) 71 rfl (by simp) (fun w' hC' => ?_) ?_
  · have e0 := (hC'.cell (p := ⟨v0.heap.size, 0, none⟩) g0).trans c0
    have e1 := (hC'.cell (p := ⟨v0.heap.size, 1, none⟩) g0).trans c1
    go_wp2
    exact ⟨rfl, rfl, rfl, Below.refl _ _⟩
  go_simp
  refine wpF.const0 rfl (.agg #[.int .i64 1, .int .u64 ((liv 1).tag : Int)]) 72 rfl (by simp) (fun w' hC' => ?_) ?_
  · have e0 := (hC'.cell (p := ⟨v1.heap.size, 0, none⟩) g1).trans c2
    have e1 := (hC'.cell (p := ⟨v1.heap.size, 1, none⟩) g1).trans c3
    go_wp2
    exact ⟨rfl, rfl, rfl, Below.refl _ _⟩
  go_simp
  refine wpF.make0 (IsSl csA 2 [liv 0, liv 1]) rfl 73 rfl (by simp) (fun w' hC' => ?_) ?_
  · go_wp2
    exact ⟨rfl, rfl, IsSl.lit w' 25 [liv 0, liv 1] (fun _ _ => rfl) (by simp), (Below.refl _ _).alloc (Nat.le_refl _) _⟩
  refine wpF.const rfl (.agg #[.int .i64 0, .int .u64 ((liv 0).tag : Int)]) 74 rfl (by simp) (fun vs w' hC' _ => ?_) ?_
  · rw [puts_cons, puts_nil, show dstOf _ 2 = some 73 from rfl]
    have e0 := (hC'.cell (p := ⟨v0.heap.size, 0, none⟩) g0).trans c0
    have e1 := (hC'.cell (p := ⟨v0.heap.size, 1, none⟩) g0).trans c1
    go_wp2
    exact ⟨rfl, rfl, rfl, Below.refl _ _⟩
  go_simp
  refine wpF.const rfl (.agg #[.int .i64 2, .int .u64 ((liv 2).tag : Int)]) 75 rfl (by simp) (fun vs w' hC' _ => ?_) ?_
  · rw [puts_cons, puts_nil, show dstOf _ 2 = some 73 from rfl]
    have e0 := (hC'.cell (p := ⟨v2.heap.size, 0, none⟩) g2).trans c4
    have e1 := (hC'.cell (p := ⟨v2.heap.size, 1, none⟩) g2).trans c5
    go_wp2
    exact ⟨rfl, rfl, rfl, Below.refl _ _⟩
  go_simp
  refine wpF.make [2, 5] rfl (IsSl csA 2 [liv 0, liv 2]) rfl 76 rfl (by simp) (fun vs w' hC' _ => ?_) ?_
  · rw [puts_cons, puts_nil, show dstOf _ 2 = some 73 from rfl]
    go_wp2
    exact ⟨rfl, rfl, IsSl.lit w' 25 [liv 0, liv 2] (fun _ _ => rfl) (by simp), (Below.refl _ _).alloc (Nat.le_refl _) _⟩
  refine wpF.const rfl (.agg #[.int .i64 0, .int .u64 ((liv 0).tag : Int)]) 77 rfl (by simp) (fun vs w' hC' _ => ?_) ?_
  · rw [puts_cons, puts_cons, puts_nil, show dstOf _ 2 = some 73 from rfl, show dstOf _ 5 = some 76 from rfl]
    have e0 := (hC'.cell (p := ⟨v0.heap.size, 0, none⟩) g0).trans c0
    have e1 := (hC'.cell (p := ⟨v0.heap.size, 1, none⟩) g0).trans c1
    go_wp2
    exact ⟨rfl, rfl, rfl, Below.refl _ _⟩
  go_simp
  refine wpF.const rfl (.agg #[.int .i64 0, .int .u64 ((liv 0).tag : Int)]) 78 rfl (by simp) (fun vs w' hC' _ => ?_) ?_
  · rw [puts_cons, puts_cons, puts_nil, show dstOf _ 2 = some 73 from rfl, show dstOf _ 5 = some 76 from rfl]
    have e0 := (hC'.cell (p := ⟨v0.heap.size, 0, none⟩) g0).trans c0
    have e1 := (hC'.cell (p := ⟨v0.heap.size, 1, none⟩) g0).trans c1
    go_wp2
    exact ⟨rfl, rfl, rfl, Below.refl _ _⟩
  go_simp
  refine wpF.make [2, 5, 8] rfl (IsSl csA 2 [liv 0, liv 0]) rfl 79 rfl (by simp) (fun vs w' hC' _ => ?_) ?_
  · rw [puts_cons, puts_cons, puts_nil, show dstOf _ 2 = some 73 from rfl, show dstOf _ 5 = some 76 from rfl]
    go_wp2
    exact ⟨rfl, rfl, IsSl.lit w' 25 [liv 0, liv 0] (fun _ _ => rfl) (by simp), (Below.refl _ _).alloc (Nat.le_refl _) _⟩
  refine wpF.const rfl (.agg #[.int .i64 2, .int .u64 ((liv 2).tag : Int)]) 80 rfl (by simp) (fun vs w' hC' _ => ?_) ?_
  · rw [puts_cons, puts_cons, puts_cons, puts_nil, show dstOf _ 2 = some 73 from rfl, show dstOf _ 5 = some 76 from rfl, show dstOf _ 8 = some 79 from rfl]
    have e0 := (hC'.cell (p := ⟨v2.heap.size, 0, none⟩) g2).trans c4
    have e1 := (hC'.cell (p := ⟨v2.heap.size, 1, none⟩) g2).trans c5
    go_wp2
    exact ⟨rfl, rfl, rfl, Below.refl _ _⟩
  go_simp
  refine wpF.const rfl (.agg #[.int .i64 1, .int .u64 ((liv 1).tag : Int)]) 81 rfl (by simp) (fun vs w' hC' _ => ?_) ?_
  · rw [puts_cons, puts_cons, puts_cons, puts_nil, show dstOf _ 2 = some 73 from rfl, show dstOf _ 5 = some 76 from rfl, show dstOf _ 8 = some 79 from rfl]
    have e0 := (hC'.cell (p := ⟨v1.heap.size, 0, none⟩) g1).trans c2
    have e1 := (hC'.cell (p := ⟨v1.heap.size, 1, none⟩) g1).trans c3
    go_wp2
    exact ⟨rfl, rfl, rfl, Below.refl _ _⟩
  go_simp
  refine wpF.const rfl (.agg #[.int .i64 0, .int .u64 ((liv 0).tag : Int)]) 82 rfl (by simp) (fun vs w' hC' _ => ?_) ?_
  · rw [puts_cons, puts_cons, puts_cons, puts_nil, show dstOf _ 2 = some 73 from rfl, show dstOf _ 5 = some 76 from rfl, show dstOf _ 8 = some 79 from rfl]
    have e0 := (hC'.cell (p := ⟨v0.heap.size, 0, none⟩) g0).trans c0
    have e1 := (hC'.cell (p := ⟨v0.heap.size, 1, none⟩) g0).trans c1
    go_wp2
    exact ⟨rfl, rfl, rfl, Below.refl _ _⟩
  go_simp
  refine wpF.make [2, 5, 8, 12] rfl (IsSl csA 2 [liv 2, liv 1, liv 0]) rfl 83 rfl (by simp) (fun vs w' hC' _ => ?_) ?_
  · rw [puts_cons, puts_cons, puts_cons, puts_nil, show dstOf _ 2 = some 73 from rfl, show dstOf _ 5 = some 76 from rfl, show dstOf _ 8 = some 79 from rfl]
    go_wp2
    exact ⟨rfl, rfl, IsSl.lit w' 25 [liv 2, liv 1, liv 0] (fun _ _ => rfl) (by simp), (Below.refl _ _).alloc (Nat.le_refl _) _⟩
  refine wpF.copy [2, 5, 8, 12, 13] rfl _ rfl 73 (.inr rfl) rfl 2 (by simp) rfl rfl (by kernel_rfl) (by simp) (by kernel_rfl) (fun _ => Below.refl _ _) ?_
  refine wpF.copy [2, 5, 8, 12, 13, 14] rfl _ rfl 76 (.inr rfl) rfl 5 (by simp) rfl rfl (by kernel_rfl) (by simp) (by kernel_rfl) (fun _ => Below.refl _ _) ?_
  refine wpF.copy [2, 5, 8, 12, 13, 14, 15] rfl _ rfl 79 (.inr rfl) rfl 8 (by simp) rfl rfl (by kernel_rfl) (by simp) (by kernel_rfl) (fun _ => Below.refl _ _) ?_
  refine wpF.copy [2, 5, 8, 12, 13, 14, 15, 16] rfl _ rfl 83 (.inr rfl) rfl 12 (by simp) rfl rfl (by kernel_rfl) (by simp) (by kernel_rfl) (fun _ => Below.refl _ _) ?_
  intro vs w5 hC5 hF5
  obtain ⟨A1, k1, e11, s1⟩ := hF5 13 (by simp) _ rfl
  obtain ⟨A2, k2, e12', s2⟩ := hF5 14 (by simp) _ rfl
  obtain ⟨A3, k3, e13', s3⟩ := hF5 15 (by simp) _ rfl
  obtain ⟨A4, k4, e14, s4⟩ := hF5 16 (by simp) _ rfl
  simp only [List.length_cons, List.length_nil] at e11 e12' e13' e14 s1 s2 s3 s4
  replace hC5 : Below u4.heap.size u4 w5 := hC5
  rw [puts_cons, puts_cons, puts_cons, puts_cons, puts_cons, puts_cons, puts_cons, puts_cons, puts_nil, show dstOf _ 2 = some 73 from rfl, show dstOf _ 5 = some 76 from rfl, show dstOf _ 8 = some 79 from rfl, show dstOf _ 12 = some 83 from rfl, show dstOf _ 13 = some 11 from rfl, show dstOf _ 14 = some 12 from rfl, show dstOf _ 15 = some 13 from rfl, show dstOf _ 16 = some 14 from rfl]
  rw [e11, e12', e13', e14]
  have hE6 := Sl.lit (cs := csB) w5 5 e13 (by intro x _; rfl) (by decide)
  have hb56 : Below w5.heap.size w5 (w5.alloc (.cells #[.int .u8 1, .int .u8 3] 5)) := (Below.refl _ _).alloc (Nat.le_refl _) _
  have hz56 : (w5.alloc (.cells #[.int .u8 1, .int .u8 3] 5)).heap.size = w5.heap.size + 1 := by simp
  change Sl csB 1 (w5.alloc (.cells #[.int .u8 1, .int .u8 3] 5)) (w5.heap.size + 1) (some ⟨w5.heap.size, 0, none⟩) 2 2 e13 at hE6
  have hz45 := hC5.size
  have S6 : LivS (w5.heap.size + 1) v0.heap.size (w5.alloc (.cells #[.int .u8 1, .int .u8 3] 5)) (some ⟨w.heap.size, 0, none⟩) (some ⟨w1.heap.size, 0, none⟩) (some ⟨w5.heap.size, 0, none⟩) A1 A2 A3 A4 k1 k2 k3 k4 :=
    ⟨((hP7.below hC5 (by omega)).below hb56 (by omega)).more (by omega), ((hE4.below hC5 (by omega)).below hb56 (by omega)).more (by omega), hE6, (s1.below hb56 (Nat.le_refl _)).more (by omega), (s2.below hb56 (Nat.le_refl _)).more (by omega), (s3.below hb56 (Nat.le_refl _)).more (by omega), (s4.below hb56 (Nat.le_refl _)).more (by omega),
      (hb56.cell (p := ⟨v0.heap.size, 0, none⟩) (by show v0.heap.size < w5.heap.size; omega)).trans ((hC5.cell (p := ⟨v0.heap.size, 0, none⟩) g0).trans c0), (hb56.cell (p := ⟨v0.heap.size, 1, none⟩) (by show v0.heap.size < w5.heap.size; omega)).trans ((hC5.cell (p := ⟨v0.heap.size, 1, none⟩) g0).trans c1), by omega, by omega⟩
  have hB6 : Below w.heap.size w (w5.alloc (.cells #[.int .u8 1, .int .u8 3] 5)) := hb4.trans ((hC5.trans (hb56.mono (by omega))).mono (by omega))
  generalize hgA : w5.alloc (.cells #[.int .u8 1, .int .u8 3] 5) = w6 at *
  generalize vs 2 = d2 at *
  generalize vs 5 = d5 at *
  generalize vs 8 = d8 at *
  generalize vs 12 = d12 at *
  clear hF5 e11 e12' e13' e14 s1 s2 s3 s4 hE6 hb56 hz56 hP7 hE4 c0 c1 c2 c3 c4 c5
  obtain ⟨W, hW⟩ : ∃ W, w5.heap.size + 1 = W := ⟨_, rfl⟩
  rw [hW] at S6
  clear hC5 hz45 hb0 hb1 hb2 hb3 hb4 hv0 hv1 hv2 hv3 vz0 vz1 vz2 vz3 hbv0 hbv1 hbv2 hbv3
  go_simp
  go_wp2_with fail
  refine (lv_two S6).mono ?_
  rintro e w7 ⟨rfl, hb7⟩
  have S7 := S6.below hb7
  have hB7 := hB6.trans (hb7.mono hB6.size)
  clear S6 hB6 hb7
  go_wp2_with fail
  refine (lv_mixed S7).mono ?_
  rintro e w8 ⟨rfl, hb8⟩
  have S8 := S7.below hb8
  have hB8 := hB7.trans (hb8.mono hB7.size)
  clear S7 hB7 hb8
  go_wp2_with fail
  refine (lv_twice S8).mono ?_
  rintro e w9 ⟨rfl, hb9⟩
  have S9 := S8.below hb9
  have hB9 := hB8.trans (hb9.mono hB8.size)
  clear S8 hB8 hb9
  go_wp2_with fail
  refine (lv_all S9).mono ?_
  rintro e w10 ⟨rfl, hb10⟩
  have S10 := S9.below hb10
  have hB10 := hB9.trans (hb10.mono hB9.size)
  clear S9 hB9 hb10
  go_wp2_with fail
  refine (lv_other S10).mono ?_
  rintro e w11 ⟨rfl, hb11⟩
  have S11 := S10.below hb11
  have hB11 := hB10.trans (hb11.mono hB10.size)
  clear S10 hB10 hb11
  have hz11 := z34_sl w11
  have hb12 : Below w11.heap.size w11 (w11.alloc (.cells Z34 25)) := (Below.refl _ _).alloc (Nat.le_refl _) _
  have S12 := S11.below hb12
  have hB12 := hB11.trans (hb12.mono hB11.size)
  generalize hw12 : w11.alloc (.cells Z34 25) = w12 at *
  clear S11 hB11 hb12
  go_wp2_with fail
  refine (lv_many S12 _ hz11).mono ?_
  rintro e w13 ⟨rfl, hb13⟩
  have S13 := S12.below hb13
  have hB13 := hB12.trans (hb13.mono hB12.size)
  clear S12 hB12 hb13 hz11 hw12
  go_wp2_with fail
  refine (lv_sig S13).mono ?_
  rintro e w14 ⟨⟨As, cs', rfl, hsig⟩, hb14⟩
  have S14 := S13.below hb14
  have hB14 := hB13.trans (hb14.mono hB13.size)
  have hL := Sl.lit (cs := csI) w14 3 [0, 1, 2] (by intro x _; rfl) (by simp)
  have hb15 : Below w14.heap.size w14 (w14.alloc (.cells #[.int .i64 0, .int .i64 1, .int .i64 2] 3)) := (Below.refl _ _).alloc (Nat.le_refl _) _
  have e15 : (w14.alloc (.cells #[.int .i64 0, .int .i64 1, .int .i64 2] 3)).heap.size = w14.heap.size + 1 := by simp
  change Sl csI 1 (w14.alloc (.cells #[.int .i64 0, .int .i64 1, .int .i64 2] 3)) (w14.heap.size + 1) (some ⟨w14.heap.size, 0, none⟩) 3 3 [0, 1, 2] at hL
  have S15 := S14.below hb15
  have hB15 := hB14.trans (hb15.mono hB14.size)
  have hs15 := hsig.below hb15 (Nat.le_refl _)
  generalize hw15 : w14.alloc (.cells #[.int .i64 0, .int .i64 1, .int .i64 2] 3) = w15 at *
  clear S13 hB13 hb14 S14 hB14 hb15 hsig
  go_wp2_with fail
  refine (same_any _ _ _ _ 3 3 _ _ [0, 1, 2] [0, 1, 2] _ hs15 hL (by omega) (by omega)).mono ?_
  rintro e w16 ⟨rfl, hb16⟩
  have S16 := S15.below hb16
  have hB16 := hB15.trans (hb16.mono hB15.size)
  rw [decide_eq_true (show ([0, 1, 2] : List Int) = [0, 1, 2] from rfl)]
  clear S15 hB15 hb16 hs15 hL hw15 e15
  go_wp2_with fail
  refine (lv_none S16).mono ?_
  rintro e w17 ⟨⟨An, cn, rfl⟩, hb17⟩
  have S17 := S16.below hb17
  have hB17 := hB16.trans (hb17.mono hB16.size)
  have x0 := S17.x0
  have x1 := S17.x1
  clear S16 hB16 hb17
  go_wp2_with fail
  refine (lv_val S17).mono ?_
  rintro e w18 ⟨rfl, hb18⟩
  have S18 := S17.below hb18
  have hB18 := hB17.trans (hb18.mono hB17.size)
  clear x0 x1
  have x0 := S18.x0
  have x1 := S18.x1
  clear S17 hB17 hb18
  go_wp2_with fail
  refine (lv_inv S18).mono ?_
  rintro e w19 ⟨rfl, hb19⟩
  have hB19 := hB18.trans (hb19.mono hB18.size)
  clear x0 x1 S18 hB18 hb19
  go_wp2
  go_ret
  exact ⟨rfl, hB19⟩
end Go.Proofs.Ytcljmnbjejcdaaa
