/-
  ApproveFourEyes: the walk.
-/
import Derived.Test.YtcljmnbjejcdaaaFeyP
namespace Go.Proofs.Ytcljmnbjejcdaaa
open Go.ChangeShapes Go.WideShapes Go.ChangeAt Go.RowKit

set_option maxRecDepth 100000 in
set_option maxHeartbeats 4000000 in
theorem approveFourEyes_any (w : World) (A : Option Addr) (n cap : Nat) (raw : List Per) (h : Sl csP 2 w w.heap.size A n cap raw) (hp : ∀ p ∈ raw, U64 p.secret) (hC : ∀ p ∈ raw, I64 p.centre) (V : Option Addr) (q d : Nat) (zs : List Int) (hv : Sl csI 1 w w.heap.size V q d zs) (hz : ∀ z ∈ zs, I64 z) (C : Option Addr) (m c : Nat) (xs : List UInt8) (hs : Sl csB 1 w w.heap.size C m c xs) :
    Calls Try.prog 6 #[.slice A n cap, .slice V q d, .slice C m c] w fun e w' => e = .returned (.bool true) ∧ Below w.heap.size w w' := by
  have hmc := hs.ncap
  have hcc := hs.cmax
  by_cases hm6 : 600 < m
  · go_enter Try.func6, Try.ntmps6
    go_wp2_with fail
    refine (lives_any _).mono ?_
    rintro e w1 ⟨rfl, hb1⟩
    go_wp2
    go_ret
    exact ⟨rfl, hb1⟩
  · have hm : m ≤ 1000000000000 := by omega
    go_enter Try.func6, Try.ntmps6
    go_wp2_with fail
    refine (made_any w.heap.size A n cap raw _ h hC (Nat.le_refl _)).mono ?_
    rintro e w1 ⟨v1, rfl, hR1, hb1⟩
    obtain ⟨A1, c1, rfl, hS1⟩ := hR1.sl twoP
    have hP := madeL_len raw
    have hPs := madeL_sec hp
    have hPc := madeL_cen (ps := raw)
    generalize madeL raw = ps at *
    have hw1 := whoL_lt (n := ps.length) (zs := zs)
    have hw2 := whoL_len (n := ps.length) (zs := zs)
    have hsw := signed_who ps zs xs
    generalize hwho : whoL ps.length zs = who at *
    have HF := Lib.hid (four_eyes (b := xs) hw1 hw2)
    obtain ⟨r, hr⟩ : ∃ r, ps.length = r := ⟨_, rfl⟩
    have HR := Lib.hid hr
    have HW := Lib.hid hw1
    have HS := Lib.hid hsw
    rw [hr] at hS1 hP hw1 ⊢
    clear hr hR1 hwho hsw hw1
    go_wp2_with fail
    refine (signed_any w1.heap.size A1 r c1 ps V q d zs C m c xs w1 hS1 hPs (Nat.le_refl _) ((hv.below hb1 (Nat.le_refl _)).more hb1.size) hz ((hs.below hb1 (Nat.le_refl _)).more hb1.size) hm (by omega)).mono ?_
    rintro e w2 ⟨v2, rfl, hR2, hb2⟩
    have hI2 := signed_i64 (ps := ps) (b := xs) hz (by rw [HR.out]; omega)
    rw [HS.out] at hR2 hI2
    obtain ⟨A2, c2, rfl, hS2⟩ := hR2.sl twoA
    rw [List.length_map] at hS2 ⊢
    have hbw2 := hb1.trans (hb2.mono hb1.size)
    have hz2 := hb2.size
    have hzw := hb1.size
    obtain ⟨t, ht⟩ : ∃ t, who.length = t := ⟨_, rfl⟩
    have HT := Lib.hid ht
    rw [ht] at hS2 hw2 ⊢
    have hn2 := hS2.ncap
    have hm2 := hS2.cmax
    have hn1 := hS1.ncap
    have hm1 := hS1.cmax
    have hP2 := (hS1.below hb2 (Nat.le_refl _)).more hb2.size
    have hX2 := (hs.below hbw2 (Nat.le_refl _)).more hbw2.size
    have HI := Lib.hid hI2
    have HPs := Lib.hid hPs
    have HPc := Lib.hid hPc
    obtain ⟨P, hPP⟩ : ∃ P, pairP ps who = P := ⟨_, rfl⟩
    have HP := Lib.hid hPP
    have HF2 : Hid (checkA ps (who.map fun i : Nat => signA ps (i : Int) xs) xs = 0 ↔ toB P t = true) := by rw [Hid, HF.out, HT.out, hPP]
    clear ht hPP HF hR2 hI2 hPs hPc h hv hs hS1 hp hC
    go_wp2
    go_loopw [9, 10] (fun p i wr => ∃ k : Nat, k ≤ t ∧ i = .int .i64 k ∧ p = .bool (toB P k) ∧ Below w2.heap.size w2 wr) (fun _ i _ => t - (intOf i).toNat)
    case atStart => exact ⟨0, by omega, rfl, rfl, Below.refl _ _⟩
    case round =>
      obtain ⟨k, hk, rfl, rfl, hbr⟩ := hrel
      by_cases hkt : k < t
      · have hkI : (k : Int) < t := by omega
        obtain ⟨ck, hck⟩ : ∃ ck, toB P k = ck := ⟨_, rfl⟩
        have HK := Lib.hid hck
        rw [hck]
        clear hck
        obtain ⟨b2, o2, rfl, hb2lt, hc2⟩ := hS2.row (by omega)
        obtain ⟨ik, hik⟩ : ∃ i, who[k]? = some i := ⟨who[k]'(by rw [HT.out]; omega), List.getElem?_eq_getElem _⟩
        have hikr : ik < r := by have := HW.out ik (List.mem_of_getElem? hik); rw [HR.out] at this; exact this
        obtain ⟨b1, o1, rfl, hb1lt, hc1⟩ := hP2.row (by omega)
        have HA : Hid (∀ (k i : Nat), who[k]? = some i → ∀ w', Below w2.heap.size w2 w' → w'.cell? ⟨b2, o2 + k * 2, none⟩ = some (.int .i64 i) ∧ w'.cell? ⟨b2, o2 + k * 2 + 1, none⟩ = some (.int .u64 ((signA ps (i : Int) xs).tag : Int))) := fun k i hi w' hb => by
          have hx : (who.map fun i : Nat => signA ps (i : Int) xs)[k]? = some (signA ps (i : Int) xs) := by rw [List.getElem?_map, hi]; rfl
          exact ⟨(hb.cell (p := ⟨b2, o2 + k * 2, none⟩) hb2lt).trans (hc2 k _ hx 0 _ rfl), (hb.cell (p := ⟨b2, o2 + k * 2 + 1, none⟩) hb2lt).trans (hc2 k _ hx 1 _ rfl)⟩
        have HB : Hid (∀ i, i < r → ∀ w', Below w2.heap.size w2 w' → w'.cell? ⟨b1, o1 + i * 2, none⟩ = some (.int .i64 (cenN ps i))) := fun i hi w' hb => by
          have hx : ps[i]? = some (ps[i]'(by rw [HR.out]; exact hi)) := List.getElem?_eq_getElem _
          rw [cen_getD hx]
          exact (hb.cell (p := ⟨b1, o1 + i * 2, none⟩) hb1lt).trans (hc1 i _ hx 0 _ rfl)
        have HIK := Lib.hid hik
        clear hc1 hc2 hik
        go_wp2
        obtain ⟨wo, rfl⟩ : ∃ wo : World, wo = wr := ⟨_, rfl⟩
        go_loopw [9, 11] (fun p i wq => ∃ j : Nat, j ≤ k ∧ i = .int .i64 j ∧ p = .bool (toB P k || inB P k j) ∧ Below w2.heap.size w2 wq) (fun _ i _ => k - (intOf i).toNat)
        case atStart => exact ⟨0, by omega, rfl, by rw [HK.out]; simp [inB], hbr⟩
        case round =>
          obtain ⟨j, hj, rfl, rfl, hbq⟩ := hrel
          by_cases hjk : j < k
          · have hjI : (j : Int) < t := by omega
            have hjkI : (j : Int) < k := by omega
            obtain ⟨cj, hcj⟩ : ∃ cj, (toB P k || inB P k j) = cj := ⟨_, rfl⟩
            have HJ := Lib.hid hcj
            rw [hcj]
            clear hcj
            cases cj with
            | true =>
              have HE : Hid ((toB P k || inB P k (j + 1)) = true) := by
                unfold Hid
                rw [inB, ← Bool.or_assoc, HJ.out, Bool.true_or]
              go_wp2
              refine wp_region_gr wr.heap.size (by kernel_rfl) (by kernel_rfl) ?_
              repeat (go_big_quiet_step (fail))
              refine wpQuiet_nil ?_
              rintro w3 ⟨g3, hg3⟩
              have hb3 : Below wr.heap.size wr w3 := by rw [hg3]; exact Gr.below
              have hbq3 := hbq.trans (hb3.mono hbq.size)
              clear hg3 hb3
              go_wp2
              go_roundw
              case rel => exact ⟨j + 1, by omega, by go_num, by rw [HE.out], hbq3⟩
              case measure => simp [intOf]; omega
            | false =>
              obtain ⟨ij, hij⟩ : ∃ i, who[j]? = some i := ⟨who[j]'(by rw [HT.out]; omega), List.getElem?_eq_getElem _⟩
              have hijr : ij < r := by have := HW.out ij (List.mem_of_getElem? hij); rw [HR.out] at this; exact this
              have HPk : Hid (P k j = (!decide (ik = ij) && decide (cenN ps ik = cenN ps ij))) := by
                rw [Hid, ← HP.out, pairP, getD_of HIK.out, getD_of hij]
              have HE : Hid ((toB P k || inB P k (j + 1)) = P k j) := by
                unfold Hid
                rw [inB, ← Bool.or_assoc, HJ.out, Bool.false_or]
              have x0 := Gr.cell (H := wr.heap.size) (HA.out k ik HIK.out wr hbq).1 (by have := hbq.size; dsimp only; omega)
              have x1 := Gr.cell (H := wr.heap.size) (HA.out j ij hij wr hbq).1 (by have := hbq.size; dsimp only; omega)
              have x2 := Gr.cell (H := wr.heap.size) (HB.out ik hikr wr hbq) (by have := hbq.size; dsimp only; omega)
              have x3 := Gr.cell (H := wr.heap.size) (HB.out ij hijr wr hbq) (by have := hbq.size; dsimp only; omega)
              have i1 : (ik : Int) < r := by omega
              have i2 : (ij : Int) < r := by omega
              clear hij
              generalize cenN ps ik = za at *
              generalize cenN ps ij = zb at *
              by_cases hne : ik = ij
              · subst hne
                go_wp2
                refine wp_region_gr wr.heap.size (by kernel_rfl) (by kernel_rfl) ?_
                repeat (go_big_quiet_step (fail))
                refine wpQuiet_nil ?_
                rintro w3 ⟨g3, hg3⟩
                have hb3 : Below wr.heap.size wr w3 := by rw [hg3]; exact Gr.below
                have hbq3 := hbq.trans (hb3.mono hbq.size)
                clear hg3 hb3 x0 x1 x2 x3
                go_wp2
                go_roundw
                case rel => exact ⟨j + 1, by omega, by go_num, by rw [HE.out, HPk.out]; simp, hbq3⟩
                case measure => simp [intOf]; omega
              · have hn1' : (((ik : Nat) : Int) != (ij : Int)) = true := by simp; omega
                go_wp2
                refine wp_region_gr wr.heap.size (by kernel_rfl) (by kernel_rfl) ?_
                repeat (go_big_quiet_step (fail))
                refine wpQuiet_nil ?_
                rintro w3 ⟨g3, hg3⟩
                have hb3 : Below wr.heap.size wr w3 := by rw [hg3]; exact Gr.below
                have hbq3 := hbq.trans (hb3.mono hbq.size)
                clear hg3 hb3 x0 x1 x2 x3
                go_wp2
                go_roundw
                case rel => exact ⟨j + 1, by omega, by go_num, by rw [HE.out, HPk.out]; simp [hne]; rfl, hbq3⟩
                case measure => simp [intOf]; omega
          · obtain rfl : j = k := by omega
            have HN : Hid ((toB P j || inB P j j) = toB P (j + 1)) := rfl
            rw [HN.out]
            obtain ⟨cn, hcn⟩ : ∃ cn, toB P (j + 1) = cn := ⟨_, rfl⟩
            have HC := Lib.hid hcn
            rw [hcn]
            clear hcn
            have y0 := (HA.out j ik HIK.out wr hbq).1
            have y1 := (HA.out j ik HIK.out wr hbq).2
            have x0 := Gr.cell (H := wr.heap.size) y0 (by have := hbq.size; dsimp only; omega)
            have x1 := Gr.cell (H := wr.heap.size) y1 (by have := hbq.size; dsimp only; omega)
            clear y0 y1
            obtain ⟨al, hal⟩ : ∃ a : App, signA ps (ik : Int) xs = a := ⟨_, rfl⟩
            have hap : al.person = (ik : Int) := by rw [← hal]; rfl
            have halI : I64 al.person := by rw [← hal]; exact HI.out _ (List.mem_map.2 ⟨ik, List.mem_of_getElem? HIK.out, rfl⟩)
            rw [hal] at x1
            rw [← hap] at x0
            clear hap
            go_wp2
            refine wp_region_gr_tail wr.heap.size 12 (by kernel_rfl) (by kernel_rfl) ?_
            simp only [List.take_succ_cons, List.take_zero, List.drop_succ_cons, List.drop_zero]
            repeat (go_big_quiet_step (fail))
            refine wpQuiet_nil ?_
            rintro w3 ⟨g3, hg3⟩
            have hb3 : Below wr.heap.size wr w3 := by rw [hg3]; exact Gr.below
            have hbq3 := hbq.trans (hb3.mono hbq.size)
            clear hg3 hb3 x0 x1
            have hL := Sl.lit (cs := csA) (s := 2) w3 25 [al, al, al] (by intro x _; rfl) (by simp)
            have hb4 : Below w3.heap.size w3 (w3.alloc (.cells #[.int .i64 al.person, .int .u64 (al.tag : Int), .int .i64 al.person, .int .u64 (al.tag : Int), .int .i64 al.person, .int .u64 (al.tag : Int)] 25)) := (Below.refl _ _).alloc (Nat.le_refl _) _
            have hz4 : (w3.alloc (.cells #[.int .i64 al.person, .int .u64 (al.tag : Int), .int .i64 al.person, .int .u64 (al.tag : Int), .int .i64 al.person, .int .u64 (al.tag : Int)] 25)).heap.size ≥ w3.heap.size + 1 := by simp
            change Sl csA 2 (w3.alloc (.cells #[.int .i64 al.person, .int .u64 (al.tag : Int), .int .i64 al.person, .int .u64 (al.tag : Int), .int .i64 al.person, .int .u64 (al.tag : Int)] 25)) (w3.heap.size + 1) (some ⟨w3.heap.size, 0, none⟩) 3 3 [al, al, al] at hL
            generalize hw4 : w3.alloc (.cells #[.int .i64 al.person, .int .u64 (al.tag : Int), .int .i64 al.person, .int .u64 (al.tag : Int), .int .i64 al.person, .int .u64 (al.tag : Int)] 25) = w4 at *
            have hbq4 := hbq3.trans (hb4.mono hbq3.size)
            have hchk := checkO_any w4.heap.size _ r c1 ps _ 3 3 [al, al, al] C m c xs w4 ((hP2.below hbq4 (Nat.le_refl _)).more hbq4.size) HPs.out HPc.out (Nat.le_refl _) (hL.more hz4) ((hX2.below hbq4 (Nat.le_refl _)).more hbq4.size) hm (by omega) (by intro a ha; simp at ha; subst ha; exact halI)
            rw [alone_one] at hchk
            have HCk := Lib.hid hchk
            clear hchk hL hb4 hz4
            go_wp2_with fail
            refine HCk.out.mono ?_
            rintro e w5 ⟨rfl, hb5⟩
            have hbq5 := hbq4.trans (hb5.mono hbq4.size)
            clear HCk hw4 hb5
            go_wp2
            go_roundw
            case rel => exact ⟨j + 1, by omega, by go_num, by rw [HC.out], hbq5⟩
            case measure => simp [intOf]; omega
      · obtain rfl : k = t := by omega
        have hbw := hbw2.trans (hbr.mono hbw2.size)
        have hchk := checkO_any w2.heap.size A1 r c1 ps A2 k c2 _ C m c xs wr (hP2.below hbr (Nat.le_refl _)) HPs.out HPc.out hbr.size (hS2.below hbr (Nat.le_refl _)) (hX2.below hbr (Nat.le_refl _)) hm (by omega) HI.out
        have HCk := Lib.hid hchk
        clear hchk
        have HF3 := HF2.out
        generalize checkA ps (who.map fun i : Nat => signA ps (i : Int) xs) xs = R at *
        cases hT : toB P k with
        | true =>
          obtain rfl := HF3.2 hT
          clear HF3 HF2 hT
          go_wp2_with fail
          refine HCk.out.mono ?_
          rintro e w5 ⟨rfl, hb5⟩
          have hbw5 := hbw.trans (hb5.mono hbw.size)
          clear HCk hb5
          go_wp2_with fail
          refine (lives_any _).mono ?_
          rintro e w6 ⟨rfl, hb6⟩
          go_wp2
          go_ret
          exact ⟨rfl, hbw5.trans (hb6.mono hbw5.size)⟩
        | false =>
          have hRn : (R == 0) = false := by
            rw [beq_eq_false_iff_ne]
            intro h0
            have := HF3.1 h0
            rw [hT] at this
            cases this
          clear HF3 HF2 hT
          go_wp2_with fail
          refine HCk.out.mono ?_
          rintro e w5 ⟨rfl, hb5⟩
          have hbw5 := hbw.trans (hb5.mono hbw.size)
          clear HCk hb5
          go_wp2_with fail
          refine (lives_any _).mono ?_
          rintro e w6 ⟨rfl, hb6⟩
          go_wp2
          go_ret
          exact ⟨rfl, hbw5.trans (hb6.mono hbw5.size)⟩
end Go.Proofs.Ytcljmnbjejcdaaa
