/-
  ApproveOrder: the walk.
-/
import Derived.Test.YtcljmnbjejcdaaaWSgd
import Derived.Test.YtcljmnbjejcdaaaApdS
namespace Go.Proofs.Ytcljmnbjejcdaaa
open Go.ChangeShapes Go.WideShapes Go.ChangeAt Go.RowKit

theorem signedL_le {ps : List Per} {zs : List Int} {b : List UInt8} {q : Nat} (h : zs.length = q) : (signedL ps zs b).length ≤ q ∧ (signedL ps zs b).length ≤ 16 := by
  have h1 := signedTo_len ps zs b (signedM ps.length zs.length)
  have h2 : signedM ps.length zs.length ≤ q ∧ signedM ps.length zs.length ≤ 16 := by unfold signedM; split <;> omega
  unfold signedL
  omega
theorem rev_drop {α : Type} {l : List α} {j : Nat} {x : α} (h : l[j]? = some x) : (l.drop j).reverse = (l.drop (j + 1)).reverse ++ [x] := by
  rw [drop_cons h, List.reverse_cons]

set_option maxRecDepth 100000 in
set_option maxHeartbeats 4000000 in
theorem approveOrder_any (w : World) (A : Option Addr) (n cap : Nat) (raw : List Per) (h : Sl csP 2 w w.heap.size A n cap raw) (hp : ∀ p ∈ raw, U64 p.secret) (hC : ∀ p ∈ raw, I64 p.centre) (V : Option Addr) (q d : Nat) (zs : List Int) (hv : Sl csI 1 w w.heap.size V q d zs) (hz : ∀ z ∈ zs, I64 z) (V2 : Option Addr) (q2 d2 : Nat) (ys : List Int) (hv2 : Sl csI 1 w w.heap.size V2 q2 d2 ys) (hy : ∀ z ∈ ys, I64 z) (C : Option Addr) (m c : Nat) (xs : List UInt8) (hs : Sl csB 1 w w.heap.size C m c xs) :
    Calls Try.prog 7 #[.slice A n cap, .slice V q d, .slice V2 q2 d2, .slice C m c] w fun e w' => e = .returned (.bool true) ∧ Below w.heap.size w w' := by
  have hmc := hs.ncap
  have hcc := hs.cmax
  have g1 := hv.ncap
  have g2 := hv.cmax
  have g3 := hv2.ncap
  have g4 := hv2.cmax
  by_cases hsm : m ≤ 600 ∧ q ≤ 8 ∧ q2 ≤ 8
  · obtain ⟨m1, m2, m3⟩ := hsm
    have b1 : decide ((600 : Int) < m) = false := by simp; omega
    have b2 : decide ((8 : Int) < q) = false := by simp; omega
    have b3 : decide ((8 : Int) < q2) = false := by simp; omega
    have hm : m ≤ 1000000000000 := by omega
    go_enter Try.func7, Try.ntmps7
    go_wp2_with fail
    refine (made_any w.heap.size A n cap raw _ h hC (Nat.le_refl _)).mono ?_
    rintro e w1 ⟨v1, rfl, hR1, hb1⟩
    obtain ⟨A1, c1, rfl, hS1⟩ := hR1.sl twoP
    have hP := madeL_len raw
    have hPs := madeL_sec hp
    have hPc := madeL_cen (ps := raw)
    generalize madeL raw = ps at *
    obtain ⟨r, hr⟩ : ∃ r, ps.length = r := ⟨_, rfl⟩
    have HR := Lib.hid hr
    rw [hr] at hS1 hP ⊢
    have hX1 := (hs.below hb1 (Nat.le_refl _)).more hb1.size
    have hV1 := (hv.below hb1 (Nat.le_refl _)).more hb1.size
    have hW1 := (hv2.below hb1 (Nat.le_refl _)).more hb1.size
    have hq1 := signedL_le (ps := ps) (b := xs) hv.len
    have hq2 := signedL_le (ps := ps) (b := xs) hv2.len
    have hI1 := signed_i64 (ps := ps) (b := xs) hz (by rw [HR.out]; omega)
    have hI2 := signed_i64 (ps := ps) (b := xs) hy (by rw [HR.out]; omega)
    clear hr hR1 h hs hv hv2 hp hC
    go_wp2_with fail
    refine (signed_any w1.heap.size A1 r c1 ps V q d zs C m c xs w1 hS1 hPs (Nat.le_refl _) hV1 hz hX1 hm (by omega)).mono ?_
    rintro e w2 ⟨v2, rfl, hR2, hb2⟩
    go_wp2_with fail
    refine (signed_any w1.heap.size A1 r c1 ps V2 q2 d2 ys C m c xs w2 (hS1.below hb2 (Nat.le_refl _)) hPs hb2.size (hW1.below hb2 (Nat.le_refl _)) hy (hX1.below hb2 (Nat.le_refl _)) hm (by omega)).mono ?_
    rintro e w3 ⟨v3, rfl, hR3, hb3⟩
    have hR2' := hR2.below hb3
    have hb13 := hb2.trans (hb3.mono hb2.size)
    have hP3 := (hS1.below hb13 (Nat.le_refl _)).more hb13.size
    have hX3 := (hX1.below hb13 (Nat.le_refl _)).more hb13.size
    have hbw3 := hb1.trans (hb13.mono hb1.size)
    have HI1 := Lib.hid hI1
    have HI2 := Lib.hid hI2
    generalize signedL ps zs xs = l at *
    generalize signedL ps ys xs = mo at *
    obtain ⟨A2, c2, rfl, hSr2, hS2⟩ := hR2'.src twoA
    obtain ⟨A3, c3, rfl, hSr3, hS3⟩ := hR3.src twoA
    obtain ⟨t, ht⟩ : ∃ t, l.length = t := ⟨_, rfl⟩
    obtain ⟨t2, ht2⟩ : ∃ t, mo.length = t := ⟨_, rfl⟩
    have HT := Lib.hid ht
    have HT2 := Lib.hid ht2
    rw [ht] at hS2 hSr2 hq1
    rw [ht2] at hS3 hSr3 hq2
    rw [ht, ht2]
    have hn2 := hS2.ncap
    have hm2 := hS2.cmax
    have HCk : Hid (∀ D q d l' wx, Below w3.heap.size w3 wx → Sl csA 2 wx wx.heap.size D q d l' → (∀ a ∈ l', I64 a.person) → Calls Try.prog 16 #[.slice A1 r c1, .slice D q d, .slice C m c] wx fun e w' => e = .returned (.int .i64 (checkA ps l' xs)) ∧ Below wx.heap.size wx w') := fun D q d l' wx hb hD hI =>
      checkO_any wx.heap.size A1 r c1 ps D q d l' C m c xs wx ((hP3.below hb (Nat.le_refl _)).more hb.size) hPs hPc (Nat.le_refl _) hD ((hX3.below hb (Nat.le_refl _)).more hb.size) hm (by omega) hI
    have HSg : Hid (∀ D q d l' wx, Below w3.heap.size w3 wx → Sl csA 2 wx wx.heap.size D q d l' → q ≤ 1000 → (∀ a ∈ l', I64 a.person) → Calls Try.prog 19 #[.slice A1 r c1, .slice D q d, .slice C m c] wx fun e w' => (∃ A c, e = .returned (.slice A (signersI ps l' xs).length c) ∧ Sl csI 1 w' w'.heap.size A (signersI ps l' xs).length c (signersI ps l' xs)) ∧ Below wx.heap.size wx w') := fun D q d l' wx hb hD hq hI => by
      refine (signers_any wx.heap.size A1 r c1 ps D q d l' C m c xs wx ((hP3.below hb (Nat.le_refl _)).more hb.size) hPs (Nat.le_refl _) hD ((hX3.below hb (Nat.le_refl _)).more hb.size) hm (by omega) hI (by omega)).mono ?_
      rintro e w' ⟨v, rfl, hR, hb⟩
      obtain ⟨A, c, rfl, hS⟩ := hR.sl (fun _ => rfl)
      exact ⟨⟨A, c, rfl, hS⟩, hb⟩
    clear ht ht2 hR2 hR2' hR3 hS1 hX1 hV1 hW1 hb2 hb3 hb13 hI1 hI2 hP3 hX3 hPs hPc hb1
    have hSr2' := hSr2
    clear hSr2
    have HSr2 := Lib.hid hSr2'
    have HSr3 := Lib.hid hSr3
    clear hSr2' hSr3
    go_wp2
    go_loopw [12, 13] (fun v i wr => ∃ (j : Nat) (v' : Value), j ≤ t ∧ i = .int .i64 ((j : Int) - 1) ∧ v' = v ∧ Rw csA 25 2 wr w3.heap.size v' (l.drop j).reverse ∧ Below w3.heap.size w3 wr) (fun _ i _ => (intOf i + 1).toNat)
    case atStart => exact ⟨t, _, by omega, rfl, rfl, by rw [List.drop_of_length_le (by rw [HT.out]; omega)]; exact Rw.nil _ _ _ _ _, Below.refl _ _⟩
    case round =>
      obtain ⟨j, v, hj, rfl, rfl, hO, hbr⟩ := hrel
      by_cases hj0 : 0 < j
      · obtain ⟨k, rfl⟩ : ∃ k, j = k + 1 := ⟨j - 1, by omega⟩
        rw [show ((k + 1 : Nat) : Int) - 1 = (k : Int) by omega]
        have hkI : (k : Int) < t := by omega
        obtain ⟨b2, o2, x, rfl, hb2, hx, hcx⟩ := hS2.two_at (show k < t by omega)
        have x0 := hcx wr hbr 0 _ rfl
        have x1 := hcx wr hbr 1 _ rfl
        rw [Nat.add_zero] at x0
        have HS := Lib.hid (rev_drop hx)
        have hlen : ((l.drop (k + 1)).reverse).length ≤ t := by have := HT.out; simp; omega
        generalize (l.drop (k + 1)).reverse = L at *
        have hba : Below wr.heap.size wr (wr.alloc (.cells #[.int .i64 x.person, .int .u64 (x.tag : Int)] 25)) := (Below.refl _ _).alloc (Nat.le_refl _) _
        have hO3 := hO.below hba
        have hsr := hbr.size
        have hbX := hbr.trans (hba.mono hsr)
        have hcs : ∀ i u, (csA x)[i]? = some u → World.cell? (wr.alloc (.cells #[.int .i64 x.person, .int .u64 (x.tag : Int)] 25)) ((⟨wr.heap.size, 0, none⟩ : Addr).add i) = some u := by
          intro i u hu
          rw [addr_add, Nat.zero_add]
          rw [(Blk.new wr 25 #[.int .i64 x.person, .int .u64 (x.tag : Int)]).cell i, ← hu]
          simp [csA]
        clear hO hx hcx
        go_wp2_with (at_builtin; refine wpList_rw twoA rfl _ _ rfl w3.heap.size v L rfl hO3 ⟨wr.heap.size, 0, none⟩ x 1 rfl hcs (by omega) (by simp; omega) ?_; intro v2 w4 hO4 hg4 hat4)
        have hb4 : Below w3.heap.size w3 w4 := hbX.grown hg4 hbX.size (fun i hi => (World.ownsRow.lt hO3 i hi).1)
        rw [← HS.out] at hO4
        clear hO3 hg4 hat4 hcs hba hbX x0 x1
        go_wp2
        go_roundw
        case rel => exact ⟨k, _, by omega, rfl, rfl, hO4, hb4⟩
        case measure => simp [intOf]
      · obtain rfl : j = 0 := by omega
        rw [show ((0 : Nat) : Int) - 1 = -1 by omega]
        rw [List.drop_zero] at hO
        obtain ⟨A4, c4, rfl, hSr4, hS4⟩ := hO.src twoA
        rw [List.length_reverse, HT.out] at hSr4 hS4 ⊢
        have hl16 : t ≤ 8 := by omega
        have hbw := hbw3.trans (hbr.mono hbw3.size)
        have hF := Rw.fresh twoA wr
        have hbf : Below wr.heap.size wr (wr.alloc (.cells #[] 25)) := (Below.refl _ _).alloc (Nat.le_refl _) _
        have sF := (HSr2.out.below hbr).below hbf
        have sB := hSr4.below hbf
        have SR := Lib.hid hSr4
        clear hSr4
        go_wp2_with (first
          | (at_builtin; refine wpList_rws twoA rfl (.tmp 57) (.tmp 58) rfl wr.heap.size _ [] rfl hF A2 t c2 l rfl sF (by simp; omega) hbf.size ?_; intro v5 w5 hO5 hg5 _; have hb5 : Below wr.heap.size wr w5 := hbf.grown hg5 hbf.size (fun i hi => (World.ownsRow.lt hF i hi).1); rw [List.nil_append] at hO5; have sB5 := SR.out.below hb5; clear hF hbf sF sB hg5)
          | (at_builtin; refine wpList_rws twoA rfl (.tmp 59) (.tmp 60) rfl wr.heap.size v5 l rfl hO5 A4 t c4 l.reverse rfl sB5 (by have := HT.out; omega) hb5.size ?_; intro v6 w6 hO6 hg6 _; have hb6 : Below wr.heap.size wr w6 := hb5.grown hg6 hb5.size (fun i hi => (World.ownsRow.lt hO5 i hi).1); clear hO5 hb5 hg6 sB5; have hG := Rw.fresh twoA w6; have hbg : Below w6.heap.size w6 (w6.alloc (.cells #[] 25)) := (Below.refl _ _).alloc (Nat.le_refl _) _; have sG := (HSr3.out.below (hbr.trans (hb6.mono hbr.size))).below (hbg.mono (by have := hbr.size; have := hb6.size; omega)))
          | (at_builtin; refine wpList_rws twoA rfl (.tmp 62) (.tmp 63) rfl w6.heap.size _ [] rfl hG A3 t2 c3 mo rfl sG (by simp; omega) hbg.size ?_; intro v7 w7 hO7 hg7 _; have hb7 : Below w6.heap.size w6 w7 := hbg.grown hg7 hbg.size (fun i hi => (World.ownsRow.lt hG i hi).1); rw [List.nil_append] at hO7; have sL7 := (HSr2.out.below (hbr.trans (hb6.mono hbr.size))).below (hb7.mono (by have := hbr.size; have := hb6.size; omega)); clear hG hbg sG hg7)
          | (at_builtin; refine wpList_rws twoA rfl (.tmp 64) (.tmp 65) rfl w6.heap.size v7 mo rfl hO7 A2 t c2 l rfl sL7 (by have := HT2.out; omega) hb7.size ?_; intro v8 w8 hO8 hg8 _; have hb8 : Below w6.heap.size w6 w8 := hb7.grown hg8 hb7.size (fun i hi => (World.ownsRow.lt hO7 i hi).1); clear hO7 hb7 hg8 sL7))
        have hbr6 := hbr.trans (hb6.mono hbr.size)
        have hd8 : Below w3.heap.size w3 w8 := hbr6.trans (hb8.mono hbr6.size)
        have hr8 : Below wr.heap.size wr w8 := hb6.trans (hb8.mono hb6.size)
        obtain ⟨A6, c6, rfl, hS6⟩ := hO6.sl twoA
        obtain ⟨A8, c8, rfl, hS8⟩ := hO8.sl twoA
        have T2 := (hS2.below hd8 (Nat.le_refl _)).more hd8.size
        have T4 := (hS4.below hr8 (Nat.le_refl _)).more hr8.size
        have T6 := (hS6.below hb8 (Nat.le_refl _)).more hb8.size
        have L6 : (l ++ l.reverse).length ≤ 16 := by have := HT.out; simp; omega
        have L8 : (mo ++ l).length ≤ 16 := by have := HT.out; have := HT2.out; simp; omega
        have e1 : ∀ a, a ∈ l.reverse ↔ a ∈ l := fun a => List.mem_reverse
        have e2 : ∀ a, a ∈ l ++ l.reverse ↔ a ∈ l := fun a => by simp
        have HC1 := Lib.hid (check_congr (ps := ps) (b := xs) e1 (by have := HT.out; simp; omega) (by have := HT.out; omega))
        have HC2 := Lib.hid (check_congr (ps := ps) (b := xs) e2 L6 (by have := HT.out; omega))
        have HG1 : Hid (signersI ps l.reverse xs = signersI ps l xs) := by unfold Hid signersI; rw [signers_congr e1]
        have HG2 : Hid (signersI ps (l ++ l.reverse) xs = signersI ps l xs) := by unfold Hid signersI; rw [signers_congr e2]
        have HM := Lib.hid (fun h0 => check_more (ps := ps) (b := xs) (l := l) (l' := mo ++ l) (fun a ha => List.mem_append_right _ ha) L8 h0)
        have I4 : ∀ a ∈ l.reverse, I64 a.person := fun a ha => HI1.out a ((e1 a).1 ha)
        have I6 : ∀ a ∈ l ++ l.reverse, I64 a.person := fun a ha => HI1.out a ((e2 a).1 ha)
        have I8 : ∀ a ∈ mo ++ l, I64 a.person := fun a ha => by
          rcases List.mem_append.1 ha with ha | ha
          · exact HI2.out a ha
          · exact HI1.out a ha
        clear e1 e2 hO6 hO8 hS2 hS3 hS4 hS6 hbr hbr6 hb6 hr8 hb8 HSr2 HSr3 SR
        obtain ⟨R, hR⟩ : ∃ R, checkA ps l xs = R := ⟨_, rfl⟩
        obtain ⟨G, hG⟩ : ∃ G, signersI ps l xs = G := ⟨_, rfl⟩
        have HCl := Lib.hid hR
        have HGl := Lib.hid hG
        have hbw8 := hbw3.trans (hd8.mono hbw3.size)
        rw [hR] at HC1 HC2 HM
        rw [hG] at HG1 HG2
        obtain ⟨t6, ht6⟩ : ∃ t6, (l ++ l.reverse).length = t6 := ⟨_, rfl⟩
        obtain ⟨t8, ht8⟩ : ∃ t8, (mo ++ l).length = t8 := ⟨_, rfl⟩
        rw [ht6] at T6 L6 ⊢
        rw [ht8] at hS8 L8 ⊢
        generalize l ++ l.reverse = l6 at *
        generalize mo ++ l = l8 at *
        generalize l.reverse = l4 at *
        clear hR hG ht6 ht8
        have T8 := hS8
        clear hS8 hbw
        go_wp2_with fail
        refine (HCk.out A2 t c2 l w8 hd8 T2 HI1.out).mono ?_
        rintro e w9 ⟨rfl, hc9⟩
        rw [HCl.out]
        have hd9 := hd8.trans (hc9.mono hd8.size)
        have hbw9 := hbw8.trans (hc9.mono hbw8.size)
        replace T2 := (T2.below hc9 (Nat.le_refl _)).more hc9.size
        replace T4 := (T4.below hc9 (Nat.le_refl _)).more hc9.size
        replace T6 := (T6.below hc9 (Nat.le_refl _)).more hc9.size
        replace T8 := (T8.below hc9 (Nat.le_refl _)).more hc9.size
        clear hd8 hbw8 hc9
        go_wp2_with fail
        refine (HSg.out A2 t c2 l w9 hd9 T2 (by omega) HI1.out).mono ?_
        rintro e w10 ⟨⟨Bs, ks, rfl, Qs⟩, hc10⟩
        rw [HGl.out] at Qs ⊢
        have hd10 := hd9.trans (hc10.mono hd9.size)
        have hbw10 := hbw9.trans (hc10.mono hbw9.size)
        replace T2 := (T2.below hc10 (Nat.le_refl _)).more hc10.size
        replace T4 := (T4.below hc10 (Nat.le_refl _)).more hc10.size
        replace T6 := (T6.below hc10 (Nat.le_refl _)).more hc10.size
        replace T8 := (T8.below hc10 (Nat.le_refl _)).more hc10.size
        clear hd9 hbw9 hc10
        go_wp2_with fail
        refine (HCk.out A4 t c4 l4 w10 hd10 T4 I4).mono ?_
        rintro e w11 ⟨rfl, hc11⟩
        rw [HC1.out]
        have hd11 := hd10.trans (hc11.mono hd10.size)
        have hbw11 := hbw10.trans (hc11.mono hbw10.size)
        replace T2 := (T2.below hc11 (Nat.le_refl _)).more hc11.size
        replace T4 := (T4.below hc11 (Nat.le_refl _)).more hc11.size
        replace T6 := (T6.below hc11 (Nat.le_refl _)).more hc11.size
        replace T8 := (T8.below hc11 (Nat.le_refl _)).more hc11.size
        replace Qs := (Qs.below hc11 (Nat.le_refl _)).more hc11.size
        clear hd10 hbw10 hc11
        go_wp2_with fail
        refine (HCk.out A6 t6 c6 l6 w11 hd11 T6 I6).mono ?_
        rintro e w12 ⟨rfl, hc12⟩
        rw [HC2.out]
        have hd12 := hd11.trans (hc12.mono hd11.size)
        have hbw12 := hbw11.trans (hc12.mono hbw11.size)
        replace T2 := (T2.below hc12 (Nat.le_refl _)).more hc12.size
        replace T4 := (T4.below hc12 (Nat.le_refl _)).more hc12.size
        replace T6 := (T6.below hc12 (Nat.le_refl _)).more hc12.size
        replace T8 := (T8.below hc12 (Nat.le_refl _)).more hc12.size
        replace Qs := (Qs.below hc12 (Nat.le_refl _)).more hc12.size
        clear hd11 hbw11 hc12
        go_wp2_with fail
        refine (HSg.out A4 t c4 l4 w12 hd12 T4 (by omega) I4).mono ?_
        rintro e w13 ⟨⟨Bp, kp, rfl, Qp⟩, hc13⟩
        rw [HG1.out] at Qp ⊢
        have hd13 := hd12.trans (hc13.mono hd12.size)
        have hbw13 := hbw12.trans (hc13.mono hbw12.size)
        replace T2 := (T2.below hc13 (Nat.le_refl _)).more hc13.size
        replace T4 := (T4.below hc13 (Nat.le_refl _)).more hc13.size
        replace T6 := (T6.below hc13 (Nat.le_refl _)).more hc13.size
        replace T8 := (T8.below hc13 (Nat.le_refl _)).more hc13.size
        replace Qs := (Qs.below hc13 (Nat.le_refl _)).more hc13.size
        clear hd12 hbw12 hc13
        go_wp2_with fail
        refine (same_any w13.heap.size w13.heap.size Bp Bs _ _ kp ks G G w13 Qp Qs (Nat.le_refl _) (Nat.le_refl _)).mono ?_
        rintro e w14 ⟨rfl, hc14⟩
        simp only [decide_true]
        have hd14 := hd13.trans (hc14.mono hd13.size)
        have hbw14 := hbw13.trans (hc14.mono hbw13.size)
        replace T2 := (T2.below hc14 (Nat.le_refl _)).more hc14.size
        replace T4 := (T4.below hc14 (Nat.le_refl _)).more hc14.size
        replace T6 := (T6.below hc14 (Nat.le_refl _)).more hc14.size
        replace T8 := (T8.below hc14 (Nat.le_refl _)).more hc14.size
        replace Qs := (Qs.below hc14 (Nat.le_refl _)).more hc14.size
        replace Qp := (Qp.below hc14 (Nat.le_refl _)).more hc14.size
        clear hd13 hbw13 hc14
        go_wp2_with fail
        refine (HSg.out A6 t6 c6 l6 w14 hd14 T6 (by omega) I6).mono ?_
        rintro e w15 ⟨⟨Br, kr, rfl, Qr⟩, hc15⟩
        rw [HG2.out] at Qr ⊢
        have hd15 := hd14.trans (hc15.mono hd14.size)
        have hbw15 := hbw14.trans (hc15.mono hbw14.size)
        replace T2 := (T2.below hc15 (Nat.le_refl _)).more hc15.size
        replace T4 := (T4.below hc15 (Nat.le_refl _)).more hc15.size
        replace T6 := (T6.below hc15 (Nat.le_refl _)).more hc15.size
        replace T8 := (T8.below hc15 (Nat.le_refl _)).more hc15.size
        replace Qs := (Qs.below hc15 (Nat.le_refl _)).more hc15.size
        replace Qp := (Qp.below hc15 (Nat.le_refl _)).more hc15.size
        clear hd14 hbw14 hc15
        go_wp2_with fail
        refine (same_any w15.heap.size w15.heap.size Br Bs _ _ kr ks G G w15 Qr Qs (Nat.le_refl _) (Nat.le_refl _)).mono ?_
        rintro e w16 ⟨rfl, hc16⟩
        simp only [decide_true]
        have hd16 := hd15.trans (hc16.mono hd15.size)
        have hbw16 := hbw15.trans (hc16.mono hbw15.size)
        replace T2 := (T2.below hc16 (Nat.le_refl _)).more hc16.size
        replace T4 := (T4.below hc16 (Nat.le_refl _)).more hc16.size
        replace T6 := (T6.below hc16 (Nat.le_refl _)).more hc16.size
        replace T8 := (T8.below hc16 (Nat.le_refl _)).more hc16.size
        replace Qs := (Qs.below hc16 (Nat.le_refl _)).more hc16.size
        replace Qp := (Qp.below hc16 (Nat.le_refl _)).more hc16.size
        replace Qr := (Qr.below hc16 (Nat.le_refl _)).more hc16.size
        clear hd15 hbw15 hc16
        by_cases hR0 : R = 0
        · subst hR0
          have HL8 : Hid (checkA ps l8 xs = 0) := HM.out rfl
          go_wp2_with fail
          refine (HCk.out A8 t8 c8 l8 w16 hd16 T8 I8).mono ?_
          rintro e w17 ⟨rfl, hc17⟩
          rw [HL8.out]
          have hbw17 := hbw16.trans (hc17.mono hbw16.size)
          go_wp2_with fail
          refine (lives_any _).mono ?_
          rintro e wz ⟨rfl, hbz⟩
          go_wp2
          go_ret
          exact ⟨rfl, hbw17.trans (hbz.mono hbw17.size)⟩
        · have hR1 : (R != 0) = true := by simp [hR0]
          go_wp2_with fail
          refine (lives_any _).mono ?_
          rintro e wz ⟨rfl, hbz⟩
          go_wp2
          go_ret
          exact ⟨rfl, hbw16.trans (hbz.mono hbw16.size)⟩
  · have key : Hid (m ≤ 600 → q ≤ 8 → ¬ q2 ≤ 8) := fun a b c => hsm ⟨a, b, c⟩
    by_cases m1 : m ≤ 600
    · have b1 : decide ((600 : Int) < m) = false := by simp; omega
      by_cases m2 : q ≤ 8
      · have b2 : decide ((8 : Int) < q) = false := by simp; omega
        have b3 : decide ((8 : Int) < q2) = true := by have := key.out m1 m2; simp; omega
        go_enter Try.func7, Try.ntmps7
        go_wp2_with fail
        refine (lives_any _).mono ?_
        rintro e wz ⟨rfl, hbz⟩
        go_wp2
        go_ret
        exact ⟨rfl, hbz⟩
      · have b2 : decide ((8 : Int) < q) = true := by simp; omega
        go_enter Try.func7, Try.ntmps7
        go_wp2_with fail
        refine (lives_any _).mono ?_
        rintro e wz ⟨rfl, hbz⟩
        go_wp2
        go_ret
        exact ⟨rfl, hbz⟩
    · have b1 : decide ((600 : Int) < m) = true := by simp; omega
      go_enter Try.func7, Try.ntmps7
      go_wp2_with fail
      refine (lives_any _).mono ?_
      rintro e wz ⟨rfl, hbz⟩
      go_wp2
      go_ret
      exact ⟨rfl, hbz⟩
end Go.Proofs.Ytcljmnbjejcdaaa
