/-
  ApproveWire: the walk.
-/
import Derived.Test.YtcljmnbjejcdaaaAppL
import Derived.Test.YtcljmnbjejcdaaaWirB
import Derived.Test.YtcljmnbjejcdaaaWirC
namespace Go.Proofs.Ytcljmnbjejcdaaa
open Go.ChangeShapes Go.WideShapes Go.ChangeAt Go.RowKit

theorem Row.freshI (w : World) : Row csI 3 (w.alloc (.cells #[] 3)) w.heap.size (.slice (some ⟨w.heap.size, 0, none⟩) 0 0) [] := by
  have := World.ownsRow_lit (base := w.heap.size) (e := 3) (size := 1) w #[] 0 (Nat.le_refl _) (by unfold maxLen; omega) (by simp)
  unfold Row
  simpa using this
theorem flat_csI' (l : List Int) : l.flatMap csI = l.map (Value.int .i64) := by
  induction l with
  | nil => rfl
  | cons x l ih => rw [List.flatMap_cons, ih]; rfl
theorem Row.storeI {w : World} {B g cap m k : Nat} {l : List Int} (h : Row csI 3 w B (.slice (some ⟨g, 0, none⟩) m cap) l) (hl : l.length = m) (v : Int) :
    Row csI 3 (w.setCell ⟨g, k, none⟩ (.int .i64 v)) B (.slice (some ⟨g, 0, none⟩) m cap) (l.set k v) := by
  subst hl
  have := (World.ownsRow.stored h k (.int .i64 v)).1
  unfold Row
  rw [List.length_set, flat_csI', List.map_set, ← flat_csI']
  exact this
theorem Row.atI {w : World} {B : Nat} {v : Value} {l : List Int} (h : Row csI 3 w B v l) {k m : Nat} (hk : k < m) (hl : l.length = m) : ∃ g c x, v = .slice (some ⟨g, 0, none⟩) m c ∧ B ≤ g ∧ g < w.heap.size ∧ m ≤ c ∧ c ≤ 9223372036854775807 ∧ w.cell? ⟨g, k, none⟩ = some (.int .i64 x) ∧ w.frozen? ⟨g, k, none⟩ = false := by
  subst hl
  obtain ⟨g, cap, hv, hb, hlt⟩ := World.ownsRow.form h (by omega)
  obtain ⟨A, c, hv2, hS⟩ := h.sl (fun _ => rfl)
  subst hv
  injection hv2 with e1 e2 e3
  subst e1 e3
  refine ⟨g, cap, l[k], rfl, hb, hlt, hS.ncap, hS.cmax, ?_, World.ownsRow.frozenAt h k⟩
  rw [World.ownsRow.cellAt h k (by omega), flat_csI', List.getElem?_map, List.getElem?_eq_getElem hk]
  rfl

set_option maxRecDepth 100000 in
set_option maxHeartbeats 4000000 in
theorem approveWire_any (w : World) (A : Option Addr) (n cap : Nat) (zs : List Int) (h : Sl csI 1 w w.heap.size A n cap zs) (hz : ∀ z ∈ zs, I64 z) (hnil : A = none → n = 0 ∧ cap = 0) (s0 s1 : Nat) (us0 : U64 s0) (us1 : U64 s1) (a : Nat) (ha : a ≤ 255) (d : Int) (hd1 : -128 ≤ d) (hd2 : d ≤ 127) :
    Calls Try.prog 9 #[.slice A n cap, .agg #[.int .u64 (s0 : Int), .int .u64 (s1 : Int)], .int .u8 (a : Int), .int .i8 d] w fun e w' => e = .returned (.bool true) ∧ Below w.heap.size w w' := by
  have hnc := h.ncap
  have hcm := h.cmax
  have hb0 : Below w.heap.size w (w.alloc (.cells #[.int .u64 (s0 : Int), .int .u64 (s1 : Int)] 51)) := (Below.refl _ _).alloc (Nat.le_refl _) _
  have bX := Blk.new w 51 #[.int .u64 (s0 : Int), .int .u64 (s1 : Int)]
  by_cases hok : 1 ≤ n ∧ n ≤ 40
  · obtain ⟨hn1, hn40⟩ := hok
    have q1 : decide ((40 : Int) < n) = false := by simp; omega
    have q2 : decide ((n : Int) < 1) = false := by simp; omega
    have HL := Lib.hid h.len
    have x0 := bX.cell 0; have x1 := bX.cell 1
    simp only [List.getElem?_toArray, List.getElem?_cons_zero, List.getElem?_cons_succ] at x0 x1
    obtain ⟨k, hk⟩ : ∃ k : Nat, (a : Int) % (n : Int) = k := ⟨a % n, by omega⟩
    have hkn : k < n := by have := Int.emod_lt_of_pos (a : Int) (show (0 : Int) < n by omega); omega
    go_enter Try.func9, Try.ntmps9
    go_upto_region 5 with fail
    rw [hk]
    have hP := Sl.lit (cs := csP) (s := 2) (w.alloc (.cells #[.int .u64 (s0 : Int), .int .u64 (s1 : Int)] 51)) 44 (wps s0 s1) (by intro x _; rfl) (by simp [wps])
    have hb1 : Below w.heap.size w ((w.alloc (.cells #[.int .u64 (s0 : Int), .int .u64 (s1 : Int)] 51)).alloc (.cells #[.int .i64 2, .int .u64 (s0 : Int), .int .i64 2, .int .u64 (s1 : Int)] 44)) := hb0.alloc (by simp) _
    have hz1 : ((w.alloc (.cells #[.int .u64 (s0 : Int), .int .u64 (s1 : Int)] 51)).alloc (.cells #[.int .i64 2, .int .u64 (s0 : Int), .int .i64 2, .int .u64 (s1 : Int)] 44)).heap.size = w.heap.size + 2 := by simp
    change Sl csP 2 ((w.alloc (.cells #[.int .u64 (s0 : Int), .int .u64 (s1 : Int)] 51)).alloc (.cells #[.int .i64 2, .int .u64 (s0 : Int), .int .i64 2, .int .u64 (s1 : Int)] 44)) ((w.alloc (.cells #[.int .u64 (s0 : Int), .int .u64 (s1 : Int)] 51)).heap.size + 1) (some ⟨(w.alloc (.cells #[.int .u64 (s0 : Int), .int .u64 (s1 : Int)] 51)).heap.size, 0, none⟩) 2 2 (wps s0 s1) at hP
    rw [show (w.alloc (.cells #[.int .u64 (s0 : Int), .int .u64 (s1 : Int)] 51)).heap.size = w.heap.size + 1 by simp] at hP
    generalize (w.alloc (.cells #[.int .u64 (s0 : Int), .int .u64 (s1 : Int)] 51)).alloc (.cells #[.int .i64 2, .int .u64 (s0 : Int), .int .i64 2, .int .u64 (s1 : Int)] 44) = w1 at *
    have hz1' : w.heap.size + 1 + 1 ≤ w1.heap.size := by omega
    clear hz1
    generalize w.heap.size + 1 = pb at *
    have hP1 : Sl csP 2 w1 w1.heap.size (some ⟨pb, 0, none⟩) 2 2 (wps s0 s1) := hP.more (by omega)
    have hA1 := (h.below hb1 (Nat.le_refl _)).more hb1.size
    have hsz1 := hb1.size
    have HN := Lib.hid hnil
    have ha1 : Src csI w1 A n cap zs := Src.of oneI hA1 (fun _ hA => (hnil hA).2)
    have hF := Row.freshI w1
    have hbf : Below w1.heap.size w1 (w1.alloc (.cells #[] 3)) := (Below.refl _ _).alloc (Nat.le_refl _) _
    have hsF : Src csI (w1.alloc (.cells #[] 3)) A n cap zs := Src.of oneI (hA1.below hbf (Nat.le_refl _)) (fun _ hA => (hnil hA).2)
    clear hP bX x0 x1 hb0 hnil ha1 hk h
    go_upto_region 6 with (first
      | (at_builtin; refine wpList_row oneI rfl (.tmp 43) (.tmp 44) rfl w1.heap.size _ [] rfl hF A n cap zs rfl hsF (by simp; omega) hbf.size ?_; intro v2 w2 hR2 hg2 _; have hb2 : Below w1.heap.size w1 w2 := hbf.grown hg2 hbf.size (fun i hi => (World.ownsRow.lt hF i hi).1); rw [List.nil_append] at hR2; have hz2 := hb2.size; have hF2 := Row.freshI w2; have hbf2 : Below w2.heap.size w2 (w2.alloc (.cells #[] 3)) := (Below.refl _ _).alloc (Nat.le_refl _) _; have hsF2 : Src csI (w2.alloc (.cells #[] 3)) A n cap zs := Src.of oneI ((hA1.below hb2 (Nat.le_refl _)).below hbf2 hz2) (fun _ hA => (HN.out hA).2); clear hF hbf hsF hg2)
      | (at_builtin; refine wpList_row oneI rfl (.tmp 46) (.tmp 47) rfl w2.heap.size _ [] rfl hF2 A n cap zs rfl hsF2 (by simp; omega) hbf2.size ?_; intro v3 w3 hR3 hg3 _; have hb3 : Below w2.heap.size w2 w3 := hbf2.grown hg3 hbf2.size (fun i hi => (World.ownsRow.lt hF2 i hi).1); rw [List.nil_append] at hR3; have hR2' : Row csI 3 w3 w1.heap.size v2 zs := hR2.below hb3; obtain ⟨g2, c2, y2, rfl, hg2a, hg2b', hc2a, hc2b, _, _⟩ := hR2.atI hkn HL.out; obtain ⟨g2', c2', y2, e9, _, hg2b, _, _, cy2, fy2⟩ := hR2'.atI hkn HL.out; injection e9 with e9 e10 e11; injection e9 with e9; injection e9 with e9; subst e9; subst e11; obtain ⟨g3, c3, y3, rfl, hg3a, hg3b, hc3a, hc3b, cy3, fy3⟩ := hR3.atI hkn HL.out; clear hF2 hbf2 hsF2 hR2 hg3))
    have hg23 : g2 < w2.heap.size := hg2b'
    go_upto_region 7 with fail
    have v1a := Int.tmod_lt_of_pos d (show (0 : Int) < 64 by omega)
    have v1b : -64 < d.tmod 64 := by exact Int.lt_tmod_of_pos d (show (0 : Int) < 64 by omega)
    have v2a := Int.tmod_lt_of_pos (d + 1) (show (0 : Int) < 64 by omega)
    have v2b : -64 < (d + 1).tmod 64 := by exact Int.lt_tmod_of_pos (d + 1) (show (0 : Int) < 64 by omega)
    have v12 : d.tmod 64 ≠ (d + 1).tmod 64 := by
      intro e
      have h1 := Int.tmod_add_mul_tdiv d 64
      have h2 := Int.tmod_add_mul_tdiv (d + 1) 64
      omega
    have r2 := hR2'.storeI (k := k) HL.out (d.tmod 64)
    have hne3 : (Value.slice (some ⟨g3, 0, none⟩) n c3).ownBlock ≠ some (⟨g2, k, none⟩ : Addr).block := by
      intro e
      have : g3 = g2 := by simpa [Value.ownBlock] using e
      omega
    have r3 : Row csI 3 (w3.setCell ⟨g2, k, none⟩ (.int .i64 (d.tmod 64))) w2.heap.size (.slice (some ⟨g3, 0, none⟩) n c3) zs := ownsRow_setCell_other hR3 hne3 _
    have hb4 : Below w1.heap.size w1 (w3.setCell ⟨g2, k, none⟩ (.int .i64 (d.tmod 64))) := (hb2.trans (hb3.mono hz2)).setCell (p := ⟨g2, k, none⟩) hg2a _
    generalize w3.setCell ⟨g2, k, none⟩ (.int .i64 (d.tmod 64)) = w4 at *
    clear hR2' hR3 cy2 fy2 cy3 fy3 hb3 hb2 hne3
    obtain ⟨g3', c3', y3', e8, _, hg3b', _, _, cy3, fy3⟩ := r3.atI hkn HL.out
    injection e8 with e8 e12 e13
    injection e8 with e8
    injection e8 with e8
    subst e8
    subst e13
    go_upto_region 8 with fail
    have r3' := r3.storeI (k := k) HL.out ((d + 1).tmod 64)
    have hne2 : (Value.slice (some ⟨g2, 0, none⟩) n c2).ownBlock ≠ some (⟨g3, k, none⟩ : Addr).block := by
      intro e
      have : g2 = g3 := by simpa [Value.ownBlock] using e
      omega
    have r2' : Row csI 3 (w4.setCell ⟨g3, k, none⟩ (.int .i64 ((d + 1).tmod 64))) w1.heap.size (.slice (some ⟨g2, 0, none⟩) n c2) (zs.set k (d.tmod 64)) := ownsRow_setCell_other r2 hne2 _
    have hb5 : Below w1.heap.size w1 (w4.setCell ⟨g3, k, none⟩ (.int .i64 ((d + 1).tmod 64))) := hb4.setCell (p := ⟨g3, k, none⟩) (by show w1.heap.size ≤ g3; omega) _
    generalize w4.setCell ⟨g3, k, none⟩ (.int .i64 ((d + 1).tmod 64)) = w5 at *
    clear r2 r3 hb4 hne2 cy3 fy3
    have hza : ∀ z ∈ zs.set k (d.tmod 64), I64 z := fun z hz' => by
      rcases List.mem_or_eq_of_mem_set hz' with h | h
      · exact hz z h
      · subst h; unfold I64; omega
    have hzb : ∀ z ∈ zs.set k ((d + 1).tmod 64), I64 z := fun z hz' => by
      rcases List.mem_or_eq_of_mem_set hz' with h | h
      · exact hz z h
      · subst h; unfold I64; omega
    have T0 := wire_ne us0 (l := zs) (k := k) (v1 := d.tmod 64) (v2 := (d + 1).tmod 64) (by rw [HL.out]; exact hkn) (by omega) (by omega) (by omega) (by omega) v12
    have T1 := wire_ne us1 (l := zs) (k := k) (v1 := d.tmod 64) (v2 := (d + 1).tmod 64) (by rw [HL.out]; exact hkn) (by omega) (by omega) (by omega) (by omega) v12
    have la : (zs.set k (d.tmod 64)).length = n := by rw [List.length_set, HL.out]
    have lb : (zs.set k ((d + 1).tmod 64)).length = n := by rw [List.length_set, HL.out]
    generalize zs.set k (d.tmod 64) = za at *
    generalize zs.set k ((d + 1).tmod 64) = zb at *
    obtain ⟨A2, c2x, e2, S2⟩ := r2'.sl (fun _ => rfl)
    obtain ⟨A3, c3x, e3, S3⟩ := r3'.sl (fun _ => rfl)
    injection e2 with e2 e2a e2b
    injection e3 with e3 e3a e3b
    subst e2 e2b e3 e3b
    rw [la] at S2
    rw [lb] at S3
    have La := Lib.hid la
    have Lb := Lib.hid lb
    clear r2' r3' e2a e3a la lb v1a v1b v2a v2b v12
    go_upto_region 9 with fail
    have B1 := (Blk.new w5 56 #[.slice none 0 0]).alloc (.cells #[.slice none 0 0] 56)
    have B2 := Blk.new (w5.alloc (.cells #[.slice none 0 0] 56)) 56 #[.slice none 0 0]
    have hb6 : Below w5.heap.size w5 ((w5.alloc (.cells #[.slice none 0 0] 56)).alloc (.cells #[.slice none 0 0] 56)) := ((Below.refl _ _).alloc (Nat.le_refl _) _).alloc (by simp) _
    rw [show (w5.alloc (.cells #[.slice none 0 0] 56)).heap.size = w5.heap.size + 1 by simp] at B2
    generalize (w5.alloc (.cells #[.slice none 0 0] 56)).alloc (.cells #[.slice none 0 0] 56) = w6 at *
    have z1 := B1.lt
    have z2 := B2.lt
    have S2b := S2.below hb6 (Nat.le_refl _)
    have S3b := S3.below hb6 (Nat.le_refl _)
    have hz5 := hb5.size
    clear S2 S3
    go_wp2_with fail
    refine (ints_any w6 w6 w5.heap.size [] _ n _ za hza (Wtr.start B1) (by simp) (by omega) S2b).mono ?_
    rintro e w7 ⟨rfl, hw7⟩
    rw [List.nil_append] at hw7
    have hb67 := hw7.wr.below (B := w5.heap.size) (by omega) (Nat.le_refl _)
    have B2' : Blk w7 (w5.heap.size + 1) 56 #[.slice none 0 0] := (hw7.wr.block _ z2 (by omega)).trans B2
    go_wp2_with fail
    refine (ints_any w7 w7 (w5.heap.size + 1) [] _ n _ zb hzb (Wtr.start B2') (by simp) (by omega) ((S3b.below hb67 (Nat.le_refl _)).more (by omega))).mono ?_
    rintro e w8 ⟨rfl, hw8⟩
    rw [List.nil_append] at hw8
    have hb78 := hw8.wr.below (B := w5.heap.size) (by have := hw7.wr.size; omega) (by omega)
    have F1 := hw7.toBuf.keep hw8.wr (by omega) B2'
    have F2 := hw8.toBuf
    have hb8 : Below w1.heap.size w1 w8 := hb5.trans (((hb6.trans hb67).trans hb78).mono hz5)
    have lx : (intsB za).length ≤ 1000 := by
      unfold intsB; rw [List.length_append]; have := uintB_len za.length; have := intsT_len za; have := La.out; omega
    have ly : (intsB zb).length ≤ 1000 := by
      unfold intsB; rw [List.length_append]; have := uintB_len zb.length; have := intsT_len zb; have := Lb.out; omega
    generalize intsB za = X at *
    generalize intsB zb = Y at *
    generalize w5.heap.size + 1 = bw2 at *
    generalize w5.heap.size = bw1 at *
    clear hw7 hw8 S2b S3b hb6 hb67 hb78 hb5 B1 B2 B2' z1 z2 hza hzb
    go_wp2_with fail
    refine (done_any w8 bw1 X F1 (by omega)).mono ?_
    rintro e w9 ⟨⟨Ax, cx, rfl, SX⟩, hb9⟩
    go_wp2_with fail
    refine (done_any w9 bw2 Y (F2.below hb9) (by omega)).mono ?_
    rintro e w10 ⟨⟨Ay, cy, rfl, SY⟩, hb10⟩
    have SX := (SX.below hb10 (Nat.le_refl _)).more hb10.size
    have hb8a := hb9.trans (hb10.mono hb9.size)
    have F1 := F1.below hb8a
    have hbA := hb8.trans (hb8a.mono hb8.size)
    have hPA := (hP1.below hbA (Nat.le_refl _)).more hbA.size
    obtain ⟨nx, hnx⟩ : ∃ nx, X.length = nx := ⟨_, rfl⟩
    obtain ⟨ny, hny⟩ : ∃ ny, Y.length = ny := ⟨_, rfl⟩
    have HNX := Lib.hid hnx
    rw [hnx] at SX lx ⊢
    rw [hny] at SY ly ⊢
    have hbw10 := hb1.trans (hbA.mono hsz1)
    have wu : ∀ p ∈ wps s0 s1, U64 p.secret := by
      intro p hp
      simp [wps] at hp
      rcases hp with rfl | rfl
      · exact us0
      · exact us1
    have wi : ∀ p ∈ wps s0 s1, I64 p.centre := by
      intro p hp
      simp [wps] at hp
      rcases hp with rfl | rfl <;> (unfold I64; simp)
    have K0 := wire_ok s0 s1 X
    have K1 := wire_one s0 s1 X
    have K2 := wire_bad T0 T1
    have V0 : Hid (signV (wps s0 s1) 0 X = .tuple #[.agg #[.int .i64 0, .int .u64 ((signA (wps s0 s1) 0 X).tag : Int)], .int .i64 0]) := rfl
    have V1 : Hid (signV (wps s0 s1) 1 X = .tuple #[.agg #[.int .i64 1, .int .u64 ((signA (wps s0 s1) 1 X).tag : Int)], .int .i64 0]) := rfl
    have P0 : Hid ((signA (wps s0 s1) 0 X).person = 0) := rfl
    have P1 : Hid ((signA (wps s0 s1) 1 X).person = 1) := rfl
    have W0 := Lib.hid wu
    have W1 := Lib.hid wi
    have K0 := Lib.hid K0
    have K1 := Lib.hid K1
    have K2 := Lib.hid K2
    generalize signA (wps s0 s1) 0 X = a0 at *
    generalize signA (wps s0 s1) 1 X = a1 at *
    clear hP1 hb1 hb8 hb8a hb9 hb10 hbA F2 T0 T1 hnx hny wu wi hA1
    go_wp2_with fail
    refine (sign_any w10.heap.size _ 2 2 (wps s0 s1) 0 Ax nx cx X w10 hPA W0.out (Nat.le_refl _) SX (by omega)).mono ?_
    rintro e w11 ⟨rfl, hb11⟩
    rw [V0.out]
    have hzA := hb11.size
    have bS := Blk.new w11 25 #[.int .i64 0, .int .u64 (a0.tag : Int)]
    have hbS : Below w10.heap.size w10 (w11.alloc (.cells #[.int .i64 0, .int .u64 (a0.tag : Int)] 25)) := hb11.alloc hzA _
    have hzS : (w11.alloc (.cells #[.int .i64 0, .int .u64 (a0.tag : Int)] 25)).heap.size ≥ w11.heap.size + 1 := by simp
    generalize hw12 : w11.alloc (.cells #[.int .i64 0, .int .u64 (a0.tag : Int)] 25) = w12 at *
    go_wp2_with fail
    clear hw12
    refine (sign_any w10.heap.size _ 2 2 (wps s0 s1) 1 Ax nx cx X w12 (hPA.below hbS (Nat.le_refl _)) W0.out (by omega) (SX.below hbS (Nat.le_refl _)) (by omega)).mono ?_
    rintro e w13 ⟨rfl, hb13⟩
    rw [V1.out]
    have hzB := hb13.size
    have bT := Blk.new w13 25 #[.int .i64 1, .int .u64 (a1.tag : Int)]
    have hbT : Below w12.heap.size w12 (w13.alloc (.cells #[.int .i64 1, .int .u64 (a1.tag : Int)] 25)) := hb13.alloc hzB _
    have bS' := bS.below hbT bS.lt
    have hb14 : Below w10.heap.size w10 (w13.alloc (.cells #[.int .i64 1, .int .u64 (a1.tag : Int)] 25)) := hbS.trans (hbT.mono (by omega))
    generalize hw14 : w13.alloc (.cells #[.int .i64 1, .int .u64 (a1.tag : Int)] 25) = w14 at *
    have c0 := bS'.cell 0; have c1 := bS'.cell 1; have c2' := bT.cell 0; have c3' := bT.cell 1
    simp only [List.getElem?_toArray, List.getElem?_cons_zero, List.getElem?_cons_succ] at c0 c1 c2' c3'
    have hL := Sl.lit (cs := csA) (s := 2) w14 25 [a0, a1] (by intro x _; rfl) (by simp)
    change Sl csA 2 (w14.alloc (.cells #[.int .i64 a0.person, .int .u64 (a0.tag : Int), .int .i64 a1.person, .int .u64 (a1.tag : Int)] 25)) (w14.heap.size + 1) (some ⟨w14.heap.size, 0, none⟩) 2 2 [a0, a1] at hL
    rw [P0.out, P1.out] at hL
    have hbL : Below w14.heap.size w14 (w14.alloc (.cells #[.int .i64 0, .int .u64 (a0.tag : Int), .int .i64 1, .int .u64 (a1.tag : Int)] 25)) := (Below.refl _ _).alloc (Nat.le_refl _) _
    have hzL : w14.heap.size + 1 ≤ (w14.alloc (.cells #[.int .i64 0, .int .u64 (a0.tag : Int), .int .i64 1, .int .u64 (a1.tag : Int)] 25)).heap.size := by simp
    have hb15 := hb14.trans (hbL.mono hb14.size)
    generalize hw15 : w14.alloc (.cells #[.int .i64 0, .int .u64 (a0.tag : Int), .int .i64 1, .int .u64 (a1.tag : Int)] 25) = w15 at *
    have L2 := hL.more hzL
    have L1 : Sl csA 2 w15 w15.heap.size (some ⟨w14.heap.size, 0, none⟩) 1 2 [a0] := ⟨rfl, by omega, by omega, fun _ => by
      obtain ⟨b, o, e, hb, hc⟩ := L2.row (by omega)
      exact ⟨b, o, e, hb, fun k x hx j v hv => by
        have hk0 : k = 0 := by
          have := (List.getElem?_eq_some_iff.1 hx).1
          simp at this; exact this
        subst hk0
        exact hc 0 x (by simpa using hx) j v hv⟩⟩
    have hPB := (hPA.below hb15 (Nat.le_refl _)).more hb15.size
    have SXB := (SX.below hb15 (Nat.le_refl _)).more hb15.size
    have SYB := (SY.below hb15 (Nat.le_refl _)).more hb15.size
    have F15 := F1.below hb15
    have hbw15 := hbw10.trans (hb15.mono hbw10.size)
    have hI2 : ∀ a ∈ [a0, a1], I64 a.person := by
      intro a ha
      have := P0.out; have := P1.out
      simp at ha
      rcases ha with rfl | rfl <;> (unfold I64; omega)
    have HI := Lib.hid hI2
    clear hL hbL hzL bS bS' bT hbS hbT hb14 hb15 hzS hzA hzB hb11 hb13 hPA SX SY hI2
    go_wp2_with fail
    clear hw14 hw15 c0 c1 c2' c3'
    refine (done_any w15 bw1 X F15 (by rw [HNX.out]; omega)).mono ?_
    rintro e w16 ⟨⟨Az, cz, rfl, SZ⟩, hb16⟩
    rw [HNX.out] at SZ ⊢
    go_wp2_with fail
    refine (checkO_any w16.heap.size _ 2 2 (wps s0 s1) _ 2 2 [a0, a1] Az nx cz X w16 ((hPB.below hb16 (Nat.le_refl _)).more hb16.size) W0.out W1.out (Nat.le_refl _) ((L2.below hb16 (Nat.le_refl _)).more hb16.size) SZ (by omega) (by omega) HI.out).mono ?_
    rintro e w17 ⟨rfl, hb17⟩
    rw [K0.out]
    have hb57 := hb16.trans (hb17.mono hb16.size)
    go_wp2_with fail
    refine (checkO_any w15.heap.size _ 2 2 (wps s0 s1) _ 2 2 [a0, a1] Ay ny cy Y w17 (hPB.below hb57 (Nat.le_refl _)) W0.out W1.out hb57.size (L2.below hb57 (Nat.le_refl _)) (SYB.below hb57 (Nat.le_refl _)) (by omega) (by omega) HI.out).mono ?_
    rintro e w18 ⟨rfl, hb18⟩
    rw [K2.out]
    have hb58 := hb57.trans (hb18.mono hb57.size)
    go_wp2_with fail
    refine (checkO_any w15.heap.size _ 2 2 (wps s0 s1) _ 1 2 [a0] Ax nx cx X w18 (hPB.below hb58 (Nat.le_refl _)) W0.out W1.out hb58.size (L1.below hb58 (Nat.le_refl _)) (SXB.below hb58 (Nat.le_refl _)) (by omega) (by omega) (fun a ha => HI.out a (by simp at ha; subst ha; simp))).mono ?_
    rintro e w19 ⟨rfl, hb19⟩
    rw [K1.out]
    have hbw19 := hbw15.trans ((hb58.trans (hb19.mono hb58.size)).mono hbw15.size)
    clear hb16 hb17 hb18 hb19 hb57 hb58 hPB L1 L2 SXB SYB SZ F15
    go_wp2_with fail
    refine (lives_any _).mono ?_
    rintro e wz ⟨rfl, hbz⟩
    go_wp2
    go_ret
    exact ⟨rfl, hbw19.trans (hbz.mono hbw19.size)⟩
  · have key : 40 < n ∨ n < 1 := by omega
    by_cases h40 : 40 < n
    · have q1 : decide ((40 : Int) < n) = true := by simp; omega
      clear key hok
      go_enter Try.func9, Try.ntmps9
      go_wp2_with fail
      refine (lives_any _).mono ?_
      rintro e wz ⟨rfl, hbz⟩
      go_wp2
      go_ret
      exact ⟨rfl, hb0.trans (hbz.mono hb0.size)⟩
    · have q1 : decide ((40 : Int) < n) = false := by simp; omega
      have q2 : decide ((n : Int) < 1) = true := by simp; omega
      clear key hok
      go_enter Try.func9, Try.ntmps9
      go_wp2_with fail
      refine (lives_any _).mono ?_
      rintro e wz ⟨rfl, hbz⟩
      go_wp2
      go_ret
      exact ⟨rfl, hb0.trans (hbz.mono hb0.size)⟩
end Go.Proofs.Ytcljmnbjejcdaaa
