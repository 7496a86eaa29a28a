/-
  ApproveBinds: the walk.
-/
import Derived.Test.YtcljmnbjejcdaaaWSgd
import Derived.Test.YtcljmnbjejcdaaaBndP
namespace Go.Proofs.Ytcljmnbjejcdaaa
open Go.ChangeShapes Go.WideShapes Go.ChangeAt Go.RowKit

def csBA (l : List UInt8) : Array Value := (l.map fun b => Value.int .u8 (b.toNat : Int)).toArray
theorem flat_csB (l : List UInt8) : l.flatMap csB = l.map fun b => Value.int .u8 (b.toNat : Int) := by
  induction l with
  | nil => rfl
  | cons x l ih => rw [List.flatMap_cons, ih]; rfl
theorem Row.freshB (w : World) : Row csB 5 (w.alloc (.cells #[] 5)) w.heap.size (.slice (some ⟨w.heap.size, 0, none⟩) 0 0) [] := by
  have := World.ownsRow_lit (base := w.heap.size) (e := 5) (size := 1) w #[] 0 (Nat.le_refl _) (by unfold maxLen; omega) (by simp)
  unfold Row
  simpa using this
theorem Row.storeB {w : World} {B g cap m n : Nat} {l : List UInt8} (h : Row csB 5 w B (.slice (some ⟨g, 0, none⟩) m cap) l) (hl : l.length = m) (b : UInt8) :
    Row csB 5 (w.setCell ⟨g, n, none⟩ (.int .u8 (b.toNat : Int))) B (.slice (some ⟨g, 0, none⟩) m cap) (l.set n b) := by
  subst hl
  have := (World.ownsRow.stored h n (.int .u8 (b.toNat : Int))).1
  unfold Row
  rw [List.length_set, flat_csB, List.map_set, ← flat_csB]
  exact this
theorem Row.atB {w : World} {B m c n : Nat} {A : Option Addr} {l : List UInt8} {x : UInt8} (h : Row csB 5 w B (.slice A m c) l) (hl : l.length = m) (hx : l[n]? = some x) : ∃ g, A = some ⟨g, 0, none⟩ ∧ B ≤ g ∧ g < w.heap.size ∧ w.cell? ⟨g, n, none⟩ = some (.int .u8 (x.toNat : Int)) ∧ w.frozen? ⟨g, n, none⟩ = false := by
  subst hl
  have hlen : 0 < l.length := by have := (List.getElem?_eq_some_iff.1 hx).1; omega
  obtain ⟨g, cap, hv, hb, hlt⟩ := World.ownsRow.form h hlen
  injection hv with e1 e2 e3
  subst e1 e3
  refine ⟨g, rfl, hb, hlt, ?_, World.ownsRow.frozenAt h n⟩
  have hn := (List.getElem?_eq_some_iff.1 hx).1
  rw [World.ownsRow.cellAt h n (by omega), flat_csB, List.getElem?_map, hx]
  rfl

theorem valid_at {ps : List Per} {k : Int} {s T : Nat} {l : List UInt8} (h : inP ps k = true) (hs : secN ps k = s) : validB ps ⟨k, T⟩ l = (tagN s l == T) := by
  unfold validB; simp only [h, hs, Bool.true_and]
set_option maxRecDepth 100000 in
set_option maxHeartbeats 4000000 in
theorem approveBinds_any (w : World) (A : Option Addr) (n cap : Nat) (raw : List Per) (h : Sl csP 2 w w.heap.size A n cap raw) (hp : ∀ p ∈ raw, U64 p.secret) (hC : ∀ p ∈ raw, I64 p.centre) (i1 : Int) (hi1 : I64 i1) (i2 : Int) (hi2 : I64 i2) (C : Option Addr) (m c : Nat) (xs : List UInt8) (hs : Sl csB 1 w w.heap.size C m c xs) (hnil : C = none → m = 0 ∧ c = 0) (at_ : Nat) (hat : at_ ≤ 65535) (l8 : List UInt8) (hl8 : l8.length = 8) :
    Calls Try.prog 8 #[.slice A n cap, .int .i64 i1, .int .i64 i2, .slice C m c, .int .u16 (at_ : Int), .agg (csBA l8)] w fun e w' => e = .returned (.bool true) ∧ Below w.heap.size w w' := by
  have hmc := hs.ncap
  have hcc := hs.cmax
  obtain ⟨x0, x1, x2, x3, x4, x5, x6, x7, rfl⟩ : ∃ x0 x1 x2 x3 x4 x5 x6 x7, l8 = [x0, x1, x2, x3, x4, x5, x6, x7] := by
    match l8, hl8 with
    | [x0, x1, x2, x3, x4, x5, x6, x7], _ => exact ⟨_, _, _, _, _, _, _, _, rfl⟩
  change Calls Try.prog 8 #[.slice A n cap, .int .i64 i1, .int .i64 i2, .slice C m c, .int .u16 (at_ : Int), .agg #[.int .u8 (x0.toNat : Int), .int .u8 (x1.toNat : Int), .int .u8 (x2.toNat : Int), .int .u8 (x3.toNat : Int), .int .u8 (x4.toNat : Int), .int .u8 (x5.toNat : Int), .int .u8 (x6.toNat : Int), .int .u8 (x7.toNat : Int)]] w _
  obtain ⟨ch, hch⟩ : ∃ ch : Nat → UInt8, ch = fun j => [x0, x1, x2, x3, x4, x5, x6, x7].getD j 0 := ⟨_, rfl⟩
  have HCH : Hid (∀ j, j < 8 → (#[Value.int .u8 (x0.toNat : Int), .int .u8 (x1.toNat : Int), .int .u8 (x2.toNat : Int), .int .u8 (x3.toNat : Int), .int .u8 (x4.toNat : Int), .int .u8 (x5.toNat : Int), .int .u8 (x6.toNat : Int), .int .u8 (x7.toNat : Int)] : Array Value)[j]? = some (.int .u8 ((ch j).toNat : Int))) := by
    intro j hj
    subst hch
    have : j = 0 ∨ j = 1 ∨ j = 2 ∨ j = 3 ∨ j = 4 ∨ j = 5 ∨ j = 6 ∨ j = 7 := by omega
    rcases this with rfl | rfl | rfl | rfl | rfl | rfl | rfl | rfl <;> rfl
  clear hch
  have hb0 : Below w.heap.size w (w.alloc (.cells #[.int .u8 (x0.toNat : Int), .int .u8 (x1.toNat : Int), .int .u8 (x2.toNat : Int), .int .u8 (x3.toNat : Int), .int .u8 (x4.toNat : Int), .int .u8 (x5.toNat : Int), .int .u8 (x6.toNat : Int), .int .u8 (x7.toNat : Int)] 48)) := (Below.refl _ _).alloc (Nat.le_refl _) _
  have bX := Blk.new w 48 #[.int .u8 (x0.toNat : Int), .int .u8 (x1.toNat : Int), .int .u8 (x2.toNat : Int), .int .u8 (x3.toNat : Int), .int .u8 (x4.toNat : Int), .int .u8 (x5.toNat : Int), .int .u8 (x6.toNat : Int), .int .u8 (x7.toNat : Int)]
  have hs0 : (w.alloc (.cells #[.int .u8 (x0.toNat : Int), .int .u8 (x1.toNat : Int), .int .u8 (x2.toNat : Int), .int .u8 (x3.toNat : Int), .int .u8 (x4.toNat : Int), .int .u8 (x5.toNat : Int), .int .u8 (x6.toNat : Int), .int .u8 (x7.toNat : Int)] 48)).heap.size ≥ w.heap.size + 1 := by simp
  have HX : Hid (∀ wx, Below (w.alloc (.cells #[.int .u8 (x0.toNat : Int), .int .u8 (x1.toNat : Int), .int .u8 (x2.toNat : Int), .int .u8 (x3.toNat : Int), .int .u8 (x4.toNat : Int), .int .u8 (x5.toNat : Int), .int .u8 (x6.toNat : Int), .int .u8 (x7.toNat : Int)] 48)).heap.size (w.alloc (.cells #[.int .u8 (x0.toNat : Int), .int .u8 (x1.toNat : Int), .int .u8 (x2.toNat : Int), .int .u8 (x3.toNat : Int), .int .u8 (x4.toNat : Int), .int .u8 (x5.toNat : Int), .int .u8 (x6.toNat : Int), .int .u8 (x7.toNat : Int)] 48)) wx → ∀ j, j < 8 → wx.cell? ⟨w.heap.size, j, none⟩ = some (.int .u8 ((ch j).toNat : Int))) := fun wx hb j hj => by
    rw [(bX.below hb (by omega)).cell j]
    exact HCH.out j hj
  clear HCH bX
  go_enter Try.func8, Try.ntmps8
  go_wp2_with fail
  generalize w.alloc (.cells #[.int .u8 (x0.toNat : Int), .int .u8 (x1.toNat : Int), .int .u8 (x2.toNat : Int), .int .u8 (x3.toNat : Int), .int .u8 (x4.toNat : Int), .int .u8 (x5.toNat : Int), .int .u8 (x6.toNat : Int), .int .u8 (x7.toNat : Int)] 48) = u0 at *
  refine (made_any w.heap.size A n cap raw _ (h.below hb0 (Nat.le_refl _)) hC (by omega)).mono ?_
  rintro e w1 ⟨v1, rfl, hR1, hb1⟩
  obtain ⟨A1, c1, rfl, hS1⟩ := hR1.sl twoP
  have hz1 := hb1.size
  have hbw1 := hb0.trans (hb1.mono (by omega))
  have hP := madeL_len raw
  have hPs := madeL_sec hp
  generalize madeL raw = ps at *
  obtain ⟨r, hr⟩ : ∃ r, ps.length = r := ⟨_, rfl⟩
  have HR := Lib.hid hr
  rw [hr] at hS1 hP ⊢
  have hX1 := (hs.below hbw1 (Nat.le_refl _)).more hbw1.size
  clear hr hR1 hC hp h hs
  by_cases hbad : 600 < m ∨ r = 0
  · by_cases hm6 : 600 < m
    · have b1 : decide ((600 : Int) < m) = true := by simp; omega
      clear hbad
      go_wp2_with fail
      refine (lives_any _).mono ?_
      rintro e wz ⟨rfl, hbz⟩
      go_wp2
      go_ret
      exact ⟨rfl, hbw1.trans (hbz.mono hbw1.size)⟩
    · have b1 : decide ((600 : Int) < m) = false := by simp; omega
      have b2 : ((r : Int) == 0) = true := by simp; omega
      clear hbad
      go_wp2_with fail
      refine (lives_any _).mono ?_
      rintro e wz ⟨rfl, hbz⟩
      go_wp2
      go_ret
      exact ⟨rfl, hbw1.trans (hbz.mono hbw1.size)⟩
  · have hm6 : ¬ 600 < m := fun h => hbad (.inl h)
    have hr0 : ¬ r = 0 := fun h => hbad (.inr h)
    have b1 : decide ((600 : Int) < m) = false := by simp; omega
    have b2 : ((r : Int) == 0) = false := by simp; omega
    have hm : m ≤ 1000000000000 := by omega
    clear hbad
    have k1 := around_lo (n := i1) (m := (r : Int)) (by omega)
    have k2 := around_hi (n := i1) (m := (r : Int)) (by omega)
    have k3 := around_lo (n := i2) (m := (r : Int)) (by omega)
    have k4 := around_hi (n := i2) (m := (r : Int)) (by omega)
    obtain ⟨i, hi⟩ : ∃ i : Nat, around i1 (r : Int) = i := ⟨(around i1 (r : Int)).toNat, by omega⟩
    obtain ⟨k, hk⟩ : ∃ k : Nat, around i2 (r : Int) = k := ⟨(around i2 (r : Int)).toNat, by omega⟩
    rw [hi] at k1 k2
    rw [hk] at k3 k4
    have HI := Lib.hid hi
    have HK := Lib.hid hk
    clear hi hk
    go_wp2_with fail
    refine (around_any i1 r _ hi1 (by omega) (by omega)).mono ?_
    rintro e w2 ⟨rfl, rfl⟩
    rw [HI.out]
    go_wp2_with fail
    refine (around_any i2 r _ hi2 (by omega) (by omega)).mono ?_
    rintro e w2 ⟨rfl, rfl⟩
    rw [HK.out]
    obtain ⟨pi, hpi⟩ : ∃ p, ps[i]? = some p := ⟨ps[i]'(by rw [HR.out]; omega), List.getElem?_eq_getElem _⟩
    obtain ⟨pk, hpk⟩ : ∃ p, ps[k]? = some p := ⟨ps[k]'(by rw [HR.out]; omega), List.getElem?_eq_getElem _⟩
    have ui := hPs pi (List.mem_of_getElem? hpi)
    have uk := hPs pk (List.mem_of_getElem? hpk)
    obtain ⟨b1', o1, rfl, hb1lt, hc1⟩ := hS1.row (by omega)
    have hci := hc1 i pi hpi 1 _ rfl
    have hck := hc1 k pk hpk 1 _ rfl
    clear hc1
    have HSi := Lib.hid (sec_get hpi)
    have HSk := Lib.hid (sec_get hpk)
    have inI : inP ps (i : Int) = true := by unfold inP; rw [HR.out]; simp; omega
    have inK : inP ps (k : Int) = true := by unfold inP; rw [HR.out]; simp; omega
    have HV : Hid (signV ps (i : Int) xs = .tuple #[.agg #[.int .i64 i, .int .u64 (tagN pi.secret xs : Nat)], .int .i64 0]) := by
      unfold Hid signV; rw [if_pos inI]; unfold signA; rw [HSi.out]
    have HVl1 : Hid (∀ l, validB ps ⟨i, tagN pi.secret xs⟩ l = (tagN pi.secret l == tagN pi.secret xs)) := fun l => valid_at inI HSi.out
    have HVl2 : Hid (validB ps ⟨k, tagN pi.secret xs⟩ xs = (pi.secret == pk.secret)) := (valid_at inK HSk.out).trans (binds_key ui uk xs)
    clear inI inK hpi hpk
    go_wp2_with fail
    refine (sign_any w1.heap.size _ r c1 ps i C m c xs w1 hS1 hPs (Nat.le_refl _) hX1 hm).mono ?_
    rintro e w2 ⟨rfl, hb2⟩
    rw [HV.out]
    have HT : Hid (∀ wx, Below w1.heap.size w1 wx → Calls Try.prog 24 #[.int .u64 (pi.secret : Int), .slice C m c] wx fun e w' => e = .returned (.int .u64 (tagN pi.secret xs : Nat)) ∧ Below wx.heap.size wx w') := fun wx hb =>
      tag_any w1.heap.size pi.secret ui C m c xs wx (hX1.below hb (Nat.le_refl _)) hb.size hm
    generalize hTe : tagN pi.secret xs = T at *
    have hz2 := hb2.size
    have hb3 : Below w1.heap.size w1 (w2.alloc (.cells #[.int .i64 i, .int .u64 (T : Int)] 25)) := hb2.alloc hz2 _
    have bA := Blk.new w2 25 #[.int .i64 i, .int .u64 (T : Int)]
    have hs3 : (w2.alloc (.cells #[.int .i64 i, .int .u64 (T : Int)] 25)).heap.size ≥ w2.heap.size + 1 := by simp
    generalize hw3 : w2.alloc (.cells #[.int .i64 i, .int .u64 (T : Int)] 25) = w3 at *
    have hTT : ((T : Int) != (T : Int)) = false := by simp
    have hz3 := hb3.size
    have d1 := bA.cell 1
    simp only [List.getElem?_toArray, List.getElem?_cons_zero, List.getElem?_cons_succ] at d1
    have e0 := Gr.cell (H := w3.heap.size) d1 (by dsimp only; omega)
    have e1 := Gr.cell (H := w3.heap.size) ((hb3.cell (p := ⟨b1', o1 + i * 2 + 1, none⟩) hb1lt).trans hci) (by dsimp only; omega)
    clear d1
    go_wp2
    clear hw3
    refine wp_region_gr w3.heap.size (by kernel_rfl) (by kernel_rfl) ?_
    repeat (go_big_quiet_step ((go_at_call 24; with_reducible exact Calls.gr_of (Nat.le_refl _) (HT.out _ (hb3.trans (Gr.below.mono hz3))))))
    refine wpQuiet_nil ?_
    rintro w4 ⟨g4, hg4⟩
    have hb4 : Below w3.heap.size w3 w4 := by rw [hg4]; exact Gr.below
    clear hg4 e0 e1
    have hz4 := hb4.size
    have hb14 := hb3.trans (hb4.mono hz3)
    have bA4 := bA.below hb4 (by omega)
    clear bA hb3 hb4 hb2
    have hXs := hX1.below hb14 (Nat.le_refl _)
    have hsrc : Src csB w4 C m c xs := Src.of oneB hXs (fun _ hn => (hnil hn).2)
    have hF := Row.freshB w4
    have hbf : Below w4.heap.size w4 (w4.alloc (.cells #[] 5)) := (Below.refl _ _).alloc (Nat.le_refl _) _
    have hXf := hXs.below hbf hb14.size
    have hsF : Src csB (w4.alloc (.cells #[] 5)) C m c xs := Src.of oneB hXf (fun _ hn => (hnil hn).2)
    have Hsrc := Lib.hid hsrc
    clear hsrc
    go_wp2_with (at_builtin; refine wpList_row oneB rfl (.tmp 63) (.tmp 64) rfl w4.heap.size _ [] rfl hF C m c xs rfl hsF (by simp; omega) hbf.size ?_; intro v5 w5 hO5 hg5 _; have hb5 : Below w4.heap.size w4 w5 := hbf.grown hg5 hbf.size (fun i hi => (World.ownsRow.lt hF i hi).1); rw [List.nil_append] at hO5; clear hF hbf hsF hXf hg5)
    obtain ⟨A5, c5, rfl, hS5⟩ := hO5.sl (fun _ => rfl)
    have hn5 := hS5.ncap
    have hm5 := hS5.cmax
    rw [hX1.len] at hO5 hn5 ⊢
    clear hS5
    have hu4 := hb1.trans (hb14.mono hz1)
    obtain ⟨s, hs⟩ : ∃ s : Nat, at_ % m / 8 * 8 = s := ⟨_, rfl⟩
    have hs8 : s % 8 = 0 := by omega
    have hsm : 0 < m → s < m := fun h => by have := Nat.mod_lt at_ h; omega
    have hS : (at_ : Int) % (m : Int) / 8 * 8 = (s : Int) := by omega
    have HLx := Lib.hid hX1.len
    have hz5 := hb5.size
    clear hs
    go_loopw [19, 20] (fun p j wq => ∃ k : Nat, k ≤ 8 ∧ j = .int .i64 k ∧ p = .bool (chgTo m s ch k) ∧ (m = 0 → k = 0) ∧ Row csB 5 wq w4.heap.size (.slice A5 m c5) (xorTo xs s ch k) ∧ Below w4.heap.size w4 wq) (fun _ j _ => 8 - (intOf j).toNat)
    case atStart => exact ⟨0, by omega, rfl, rfl, fun _ => rfl, hO5, hb5⟩
    case round =>
      obtain ⟨q, hq8, rfl, rfl, hq0, hOq, hbq⟩ := hrel
      clear hO5 hb5
      by_cases hgo : q < 8 ∧ 0 < m
      · obtain ⟨hq, hm0⟩ := hgo
        have g1 : decide ((0 : Int) < m) = true := by simp; omega
        have hsl := hsm hm0
        have hzq := hbq.size
        have hzu := hu4.size
        have hur := hu4.trans (hbq.mono hzu)
        by_cases hn : s + q < m
        · have hx9 : xs[s + q]? = some (xs[s + q]'(by rw [HLx.out]; exact hn)) := List.getElem?_eq_getElem _
          obtain ⟨x, hx⟩ : ∃ x, xs[s + q]? = some x := ⟨_, hx9⟩
          have hxq : (xorTo xs s ch q)[s + q]? = some x := by rw [xorTo_at, if_neg (by omega), hx]
          obtain ⟨g, rfl, hg1, hg2, hgc, hgf⟩ := hOq.atB ((xorTo_len q).trans HLx.out) hxq
          have y0 := Gr.cell (H := wr.heap.size) (HX.out wr hur q hq) (by dsimp only; omega)
          have y1 := HX.out wr hur q hq
          have hnat : ((s : Int) + (q : Int)).toNat = s + q := by omega
          have hgx := Gr.cell (H := wr.heap.size) hgc (by dsimp only; omega)
          have HXx := Lib.hid hx
          have hni : (s : Int) + (q : Int) < m := by omega
          clear hx hx9 hxq
          by_cases hc0 : ch q = 0
          · have HE1 : Hid (chgTo m s ch (q + 1) = chgTo m s ch q) := by unfold Hid; rw [chgTo]; simp [hc0]
            have HE2 : Hid (xorTo xs s ch (q + 1) = xorTo xs s ch q) := by unfold Hid; rw [xorTo, if_neg (fun h => h.2 hc0)]
            have hz : (((ch q).toNat : Int) != 0) = false := by rw [hc0]; rfl
            have hz2 : (((ch q).toNat : Int) == 0) = true := by rw [hc0]; rfl
            clear y0 hgx
            go_wp2
            go_roundw
            case rel => exact ⟨q + 1, by omega, by go_num, by rw [HE1.out], fun h => by omega, by rw [HE2.out]; exact hOq, hbq⟩
            case measure => simp [intOf]; omega
          · have hcn : ¬ (ch q).toNat = 0 := fun h => hc0 (UInt8.toNat_inj.1 (by rw [h]; rfl))
            have hx8 : xs.getD (s + q) 0 = x := getD_of HXx.out
            have HE1 : Hid (chgTo m s ch (q + 1) = true) := by
              unfold Hid; rw [chgTo, decide_eq_true hn, decide_eq_true hc0]; simp
            have HE2 : Hid (xorTo xs s ch (q + 1) = (xorTo xs s ch q).set (s + q) (x ^^^ ch q)) := by
              unfold Hid; rw [xorTo, if_pos ⟨by rw [HLx.out]; exact hn, hc0⟩, hx8]
            have HB : Hid (bits .xor .u8 (x.toNat : Int) ((ch q).toNat : Int) = ((x ^^^ ch q).toNat : Int)) := by
              rw [Hid, u8_xor_nat _ _ x.toNat_lt (ch q).toNat_lt, UInt8.toNat_xor]
            have hz : (((ch q).toNat : Int) != 0) = true := by simp; omega
            have hz2 : (((ch q).toNat : Int) == 0) = false := by simp; omega
            clear hx8
            go_wp2
            refine wp_region_gr_tail wr.heap.size 11 (by kernel_rfl) (by kernel_rfl) ?_
            simp only [List.take_succ_cons, List.take_zero, List.drop_succ_cons, List.drop_zero]
            repeat (go_big_quiet_step (fail))
            refine wpQuiet_nil ?_
            rintro w6 ⟨g6, hg6⟩
            have hb6 : Below wr.heap.size wr w6 := by rw [hg6]; exact Gr.below
            clear hg6 y0 hgx
            have f6 := (hb6.frozen (p := ⟨g, s + q, none⟩) hg2).trans hgf
            have x6 := (hb6.cell (p := ⟨g, s + q, none⟩) hg2).trans hgc
            have hO6 : Row csB 5 w6 w4.heap.size (.slice (some ⟨g, 0, none⟩) m c5) (xorTo xs s ch q) := hOq.below hb6
            have hO7 := hO6.storeB (n := s + q) ((xorTo_len q).trans HLx.out) (x ^^^ ch q)
            have hb7 : Below w4.heap.size w4 (w6.setCell ⟨g, s + q, none⟩ (.int .u8 ((x ^^^ ch q).toNat : Int))) := (hbq.trans (hb6.mono hzq)).setCell (p := ⟨g, s + q, none⟩) hg1 _
            rw [← HE2.out] at hO7
            clear hO6 y1
            go_wp2
            go_roundw
            case rel => exact ⟨q + 1, by omega, by go_num, by rw [HE1.out], fun h => by omega, by rw [HB.out]; exact hO7, by rw [HB.out]; exact hb7⟩
            case measure => simp [intOf]; omega
        · have HE1 : Hid (chgTo m s ch (q + 1) = chgTo m s ch q) := by unfold Hid; rw [chgTo]; simp [hn]
          have HE2 : Hid (xorTo xs s ch (q + 1) = xorTo xs s ch q) := by unfold Hid; rw [xorTo, if_neg (fun h => hn (by rw [← HLx.out]; exact h.1))]
          go_wp2
          go_roundw
          case rel => exact ⟨q + 1, by omega, by go_num, by rw [HE1.out], fun h => by omega, by rw [HE2.out]; exact hOq, hbq⟩
          case measure => simp [intOf]; omega
      · have HB : Hid ((tagN pi.secret (xorTo xs s ch q) == T) = !(chgTo m s ch q)) := by
          rw [Hid, ← hTe]
          rcases Nat.eq_zero_or_pos m with h0 | h0
          · obtain rfl := hq0 h0
            simp [xorTo, chgTo]
          · have : q = 8 := by omega
            subst this
            rw [← HLx.out]
            exact binds_msg ui hs8 (by rw [HLx.out]; exact hsm h0)
        have HG : Hid (8 ≤ q ∨ m = 0) := by
          unfold Hid; omega
        have hzq := hbq.size
        have hbr := hb14.trans (hbq.mono hb14.size)
        have bA6 := bA4.below hbq (by omega)
        obtain ⟨A6, c6, e6, hS6⟩ := hOq.sl (fun _ => rfl)
        rw [xorTo_len, HLx.out] at e6 hS6
        injection e6 with e6 e7 e8
        subst e6 e8
        have HT2 : Hid (validB ps ⟨i, T⟩ (xorTo xs s ch q) = !(chgTo m s ch q)) := (HVl1.out _).trans HB.out
        generalize xorTo xs s ch q = cx at *
        generalize chgTo m s ch q = cg at *
        have d1 := bA6.cell 1
        simp only [List.getElem?_toArray, List.getElem?_cons_zero, List.getElem?_cons_succ] at d1
        have hbx : Below wr.heap.size wr (wr.alloc (.cells #[.int .i64 k, .int .u64 (T : Int)] 25)) := (Below.refl _ _).alloc (Nat.le_refl _) _
        have bK := Blk.new wr 25 #[.int .i64 k, .int .u64 (T : Int)]
        have hsx : (wr.alloc (.cells #[.int .i64 k, .int .u64 (T : Int)] 25)).heap.size ≥ wr.heap.size + 1 := by simp
        generalize hw7 : wr.alloc (.cells #[.int .i64 k, .int .u64 (T : Int)] 25) = w7 at *
        have hb7 := hbr.trans (hbx.mono hbr.size)
        have bA7 := bA6.below hbx (by have := bA6.lt; omega)
        have hzr := hbr.size
        have a0 := bA7.cell 0; have a1 := bA7.cell 1; have a2 := bK.cell 0; have a3 := bK.cell 1
        simp only [List.getElem?_toArray, List.getElem?_cons_zero, List.getElem?_cons_succ] at a0 a1 a2 a3
        have y0 := Gr.cell (H := w7.heap.size) a0 (by have := bA7.lt; dsimp only; omega)
        have y1 := Gr.cell (H := w7.heap.size) a1 (by have := bA7.lt; dsimp only; omega)
        have y2 := Gr.cell (H := w7.heap.size) a2 (by have := bK.lt; dsimp only; omega)
        have y3 := Gr.cell (H := w7.heap.size) a3 (by have := bK.lt; dsimp only; omega)
        have y4 := Gr.cell (H := w7.heap.size) ((hb7.cell (p := ⟨b1', o1 + i * 2 + 1, none⟩) hb1lt).trans hci) (by dsimp only; omega)
        have y5 := Gr.cell (H := w7.heap.size) ((hb7.cell (p := ⟨b1', o1 + k * 2 + 1, none⟩) hb1lt).trans hck) (by dsimp only; omega)
        have HK1 : Hid (∀ wx, Below w7.heap.size w7 wx → Calls Try.prog 14 #[.slice (some ⟨b1', o1, none⟩) r c1, .agg #[.int .i64 i, .int .u64 (T : Int)], .slice A5 m c5] wx fun e w' => e = .returned (.bool (!cg)) ∧ Below wx.heap.size wx w') := fun wx hb => by
          have := valid_any wx.heap.size _ r c1 ps ⟨i, T⟩ A5 m c5 cx wx ((hS1.below (hb7.trans (hb.mono hb7.size)) (Nat.le_refl _)).more (Nat.le_trans hb7.size hb.size)) hPs (Nat.le_refl _) ((hS6.below (hbx.trans (hb.mono hbx.size)) (Nat.le_refl _)).more (Nat.le_trans hbx.size hb.size)) hm
          rw [HT2.out] at this
          exact this
        have HK2 : Hid (∀ wx, Below w7.heap.size w7 wx → Calls Try.prog 14 #[.slice (some ⟨b1', o1, none⟩) r c1, .agg #[.int .i64 k, .int .u64 (T : Int)], .slice C m c] wx fun e w' => e = .returned (.bool (pi.secret == pk.secret)) ∧ Below wx.heap.size wx w') := fun wx hb => by
          have := valid_any wx.heap.size _ r c1 ps ⟨k, T⟩ C m c xs wx ((hS1.below (hb7.trans (hb.mono hb7.size)) (Nat.le_refl _)).more (Nat.le_trans hb7.size hb.size)) hPs (Nat.le_refl _) ((hX1.below (hb7.trans (hb.mono hb7.size)) (Nat.le_refl _)).more (Nat.le_trans hb7.size hb.size)) hm
          rw [HVl2.out] at this
          exact this
        have hbw7 := hbw1.trans (hb7.mono hbw1.size)
        obtain ⟨sb, hsb⟩ : ∃ sb, (pi.secret == pk.secret) = sb := ⟨_, rfl⟩
        have hsI : (((pi.secret : Nat) : Int) == ((pk.secret : Nat) : Int)) = sb := by
          rw [← hsb, Bool.eq_iff_iff, beq_iff_eq, beq_iff_eq]; omega
        rw [hsb] at HK2
        clear a0 a1 a2 a3 bA7 bK hOq hq0 HB HVl1 HVl2 hsb HT2
        rcases HG.out with h8 | h0
        · have hq8' : ¬ (q : Int) < 8 := by omega
          clear hgo HG
          cases cg
          all_goals
            cases sb
            all_goals
              go_wp2
              refine wp_region_gr w7.heap.size (by kernel_rfl) (by kernel_rfl) ?_
              repeat (go_big_quiet_step ((first
                | (go_at_call 14; with_reducible exact Calls.gr_of (Nat.le_refl _) (HK1.out _ Gr.below))
                | (go_at_call 14; with_reducible exact Calls.gr_of (Nat.le_refl _) (HK2.out _ Gr.below))
                | (go_at_call 11; exact Calls.gr_of (Nat.le_refl _) (lives_any _)))))
              refine wpQuiet_nil ?_
              rintro w8 ⟨g8, hg8⟩
              have hb8 : Below w7.heap.size w7 w8 := by rw [hg8]; exact Gr.below
              clear hg8 y0 y1 y2 y3 y4 y5
              go_wp2
              go_ret
              exact ⟨rfl, hbw7.trans (hb8.mono hbw7.size)⟩
        · subst h0
          clear hgo HG
          cases cg
          all_goals
            cases sb
            all_goals
              by_cases hq8' : (q : Int) < 8
              all_goals
               go_wp2
               refine wp_region_gr w7.heap.size (by kernel_rfl) (by kernel_rfl) ?_
               repeat (go_big_quiet_step ((first
                 | (go_at_call 14; with_reducible exact Calls.gr_of (Nat.le_refl _) (HK1.out _ Gr.below))
                 | (go_at_call 14; with_reducible exact Calls.gr_of (Nat.le_refl _) (HK2.out _ Gr.below))
                 | (go_at_call 11; exact Calls.gr_of (Nat.le_refl _) (lives_any _)))))
               refine wpQuiet_nil ?_
               rintro w8 ⟨g8, hg8⟩
               have hb8 : Below w7.heap.size w7 w8 := by rw [hg8]; exact Gr.below
               clear hg8 y0 y1 y2 y3 y4 y5
               go_wp2
               go_ret
               exact ⟨rfl, hbw7.trans (hb8.mono hbw7.size)⟩
end Go.Proofs.Ytcljmnbjejcdaaa
