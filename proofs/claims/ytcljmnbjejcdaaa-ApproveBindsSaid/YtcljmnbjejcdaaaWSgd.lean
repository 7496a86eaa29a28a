/-
  ApproveSigned: the walk.
-/
import Derived.Test.YtcljmnbjejcdaaaAppL
import Derived.Test.YtcljmnbjejcdaaaAppM
namespace Go.Proofs.Ytcljmnbjejcdaaa
open Go.ChangeShapes Go.WideShapes Go.ChangeAt Go.RowKit

theorem flat_set {l : List App} : ∀ {k : Nat} {a : App} (T : Nat), l[k]? = some a → (l.set k ⟨a.person, T⟩).flatMap csA = (l.flatMap csA).set (k * 2 + 1) (.int .u64 (T : Int)) := by
  induction l with
  | nil => intro k a T h; simp at h
  | cons x l ih =>
    intro k a T h
    cases k with
    | zero =>
      simp at h; subst h
      simp [csA]
    | succ k =>
      simp at h
      rw [List.set_cons_succ, List.flatMap_cons, List.flatMap_cons, ih T h, show (k + 1) * 2 + 1 = (k * 2 + 1) + 2 by omega]
      simp [csA]
theorem Rw.tag {w : World} {B : Nat} {g cap k : Nat} {l : List App} {a : App} (h : Rw csA 25 2 w B (.slice (some ⟨g, 0, none⟩) l.length cap) l) (hk : l[k]? = some a) (T : Nat) :
    Rw csA 25 2 (w.setCell ⟨g, k * 2 + 1, none⟩ (.int .u64 (T : Int))) B (.slice (some ⟨g, 0, none⟩) l.length cap) (l.set k ⟨a.person, T⟩) := by
  have := World.ownsRow.stored h (k * 2 + 1) (.int .u64 (T : Int))
  unfold Rw
  rw [List.length_set, flat_set T hk]
  exact this.1
theorem Rw.tag' {w : World} {B : Nat} {g cap k t : Nat} {l : List App} {a : App} (h : Rw csA 25 2 w B (.slice (some ⟨g, 0, none⟩) t cap) l) (ht : l.length = t) (hk : l[k]? = some a) (T : Nat) :
    Rw csA 25 2 (w.setCell ⟨g, k * 2 + 1, none⟩ (.int .u64 (T : Int))) B (.slice (some ⟨g, 0, none⟩) (l.set k ⟨a.person, T⟩).length cap) (l.set k ⟨a.person, T⟩) ∧ True := by
  subst ht
  rw [List.length_set]
  exact ⟨h.tag hk T, trivial⟩
theorem Rw.at_ {α : Type} {cs : α → List Value} {T e : TypeId} {s : Nat} {w : World} {B : Nat} {v : Value} {l : List α} (h : Rw cs e s w B v l) (O : CellTy cs T e s) {k : Nat} {x : α} (hk : l[k]? = some x) : ∃ g cap, v = .slice (some ⟨g, 0, none⟩) l.length cap ∧ B ≤ g ∧ g < w.heap.size ∧ l.length ≤ cap ∧ cap ≤ 9223372036854775807 ∧ (∀ j u, (cs x)[j]? = some u → w.cell? ⟨g, k * s + j, none⟩ = some u) ∧ (∀ j, w.frozen? ⟨g, j, none⟩ = false) := by
  have hlen : 0 < l.length := by have := (List.getElem?_eq_some_iff.1 hk).1; omega
  obtain ⟨g, cap, hv, hb, hlt⟩ := World.ownsRow.form h hlen
  obtain ⟨A, c, hv2, hS⟩ := Rw.sl O h
  subst hv
  injection hv2 with e1 e2 e3
  subst e1 e3
  obtain ⟨b, o, e4, _, hc⟩ := hS.row hlen
  injection e4 with e4; injection e4 with e5 e6
  subst e5 e6
  refine ⟨g, cap, rfl, hb, hlt, hS.ncap, hS.cmax, fun j u hu => ?_, fun j => World.ownsRow.frozenAt h j⟩
  have := hc k x hk j u hu
  rwa [Nat.zero_add] at this
theorem Rw.at_' {α : Type} {cs : α → List Value} {T e : TypeId} {s : Nat} {w : World} {B t : Nat} {A : Option Addr} {c : Nat} {l : List α} (h : Rw cs e s w B (.slice A t c) l) (ht : l.length = t) (O : CellTy cs T e s) {k : Nat} {x : α} (hk : l[k]? = some x) : ∃ g cap, Value.slice A t c = .slice (some ⟨g, 0, none⟩) t cap ∧ B ≤ g ∧ g < w.heap.size ∧ t ≤ cap ∧ cap ≤ 9223372036854775807 ∧ (∀ j u, (cs x)[j]? = some u → w.cell? ⟨g, k * s + j, none⟩ = some u) ∧ (∀ j, w.frozen? ⟨g, j, none⟩ = false) := by
  subst ht; exact Rw.at_ h O hk
theorem signed_i64 {ps : List Per} {zs : List Int} {b : List UInt8} (hz : ∀ z ∈ zs, I64 z) (hn : ps.length ≤ 1000000000000) : ∀ a ∈ signedL ps zs b, I64 a.person := by
  intro a ha
  unfold signedL signedTo at ha
  obtain ⟨z, hz', rfl⟩ := List.mem_map.1 ha
  have hm := hz z (List.mem_of_mem_take hz')
  by_cases h0 : ps.length = 0
  · unfold signedM at hz'; rw [if_pos h0] at hz'; simp at hz'
  · have h1 := around_lo (n := z) (m := ps.length) (by omega)
    have h2 := around_hi (n := z) (m := ps.length) (by omega)
    simp only [signA]
    unfold I64
    omega
theorem signed_u64 (ps : List Per) (zs : List Int) (b : List UInt8) : ∀ a ∈ signedL ps zs b, U64 a.tag := by
  intro a ha
  unfold signedL signedTo at ha
  obtain ⟨z, _, rfl⟩ := List.mem_map.1 ha
  unfold signA
  dsimp only
  generalize hk : secN ps (around z ps.length) = k
  exact tagN_lt k b
theorem madeL_len (ps : List Per) : (madeL ps).length ≤ 16 := madeTo_len ps 16
theorem madeL_sec {ps : List Per} (h : ∀ p ∈ ps, U64 p.secret) : ∀ p ∈ madeL ps, U64 p.secret := by
  intro p hp
  unfold madeL madeTo at hp
  obtain ⟨q, hq, rfl⟩ := List.mem_map.1 hp
  exact h q (List.mem_of_mem_take hq)
theorem madeL_cen {ps : List Per} : ∀ p ∈ madeL ps, I64 p.centre := by
  intro p hp
  unfold madeL madeTo at hp
  obtain ⟨q, hq, rfl⟩ := List.mem_map.1 hp
  have h1 := around_lo (n := q.centre) (m := 3) (by omega)
  have h2 := around_hi (n := q.centre) (m := 3) (by omega)
  unfold I64; simp only; omega

set_option maxRecDepth 100000 in
set_option maxHeartbeats 2000000 in
theorem approveSigned_any (w : World) (A : Option Addr) (n cap : Nat) (raw : List Per) (h : Sl csP 2 w w.heap.size A n cap raw) (hp : ∀ p ∈ raw, U64 p.secret) (hC : ∀ p ∈ raw, I64 p.centre) (V : Option Addr) (q d : Nat) (zs : List Int) (hv : Sl csI 1 w w.heap.size V q d zs) (hz : ∀ z ∈ zs, I64 z) (C : Option Addr) (m c : Nat) (xs : List UInt8) (hs : Sl csB 1 w w.heap.size C m c xs) (a : App) (ha : I64 a.person) (hat : U64 a.tag) :
    Calls Try.prog 5 #[.slice A n cap, .slice V q d, .slice C m c, a.val] w fun e w' => e = .returned (.bool true) ∧ Below w.heap.size w w' := by
  have hmc := hs.ncap
  have hcc := hs.cmax
  have hb0 : Below w.heap.size w (w.alloc (.cells #[.int .i64 a.person, .int .u64 (a.tag : Int)] 25)) := (Below.refl _ _).alloc (Nat.le_refl _) _
  have bX := Blk.new w 25 #[.int .i64 a.person, .int .u64 (a.tag : Int)]
  have hs0 : (w.alloc (.cells #[.int .i64 a.person, .int .u64 (a.tag : Int)] 25)).heap.size ≥ w.heap.size + 1 := by simp
  by_cases hm6 : 600 < m
  · unfold App.val
    go_enter Try.func5, Try.ntmps5
    go_wp2_with fail
    refine (lives_any _).mono ?_
    rintro e w1 ⟨rfl, hb1⟩
    go_wp2
    go_ret
    exact ⟨rfl, hb0.trans (hb1.mono (by omega))⟩
  · have hm : m ≤ 1000000000000 := by omega
    unfold App.val
    go_enter Try.func5, Try.ntmps5
    go_wp2_with fail
    refine (made_any w.heap.size A n cap raw _ (h.below hb0 (Nat.le_refl _)) hC (by omega)).mono ?_
    rintro e w1 ⟨v1, rfl, hR1, hb1⟩
    obtain ⟨A1, c1, rfl, hS1⟩ := hR1.sl twoP
    have bX1 := bX.below hb1 (by omega)
    have hz1 := hb1.size
    have hbw1 := hb0.trans (hb1.mono (by omega))
    have hP := madeL_len raw
    have hPs := madeL_sec hp
    have hPc := madeL_cen (ps := raw)
    generalize madeL raw = ps at *
    obtain ⟨r, hr⟩ : ∃ r, ps.length = r := ⟨_, rfl⟩
    have HR := Lib.hid hr
    rw [hr] at hS1 hP ⊢
    clear hr hR1 bX
    go_wp2_with fail
    refine (signed_any w1.heap.size A1 r c1 ps V q d zs C m c xs w1 hS1 hPs (Nat.le_refl _) ((hv.below hbw1 (Nat.le_refl _)).more hbw1.size) hz ((hs.below hbw1 (Nat.le_refl _)).more hbw1.size) hm (by omega)).mono ?_
    rintro e w2 ⟨v2, rfl, hR2, hb2⟩
    have hI2 := signed_i64 (ps := ps) (b := xs) hz (by rw [HR.out]; omega)
    have hT2 := signed_u64 ps zs xs
    have hlen2 : (signedL ps zs xs).length ≤ 16 := Nat.le_trans (signedTo_len ps zs xs _) (by unfold signedM; split <;> omega)
    generalize signedL ps zs xs = l at *
    obtain ⟨A2, c2, rfl, hS2⟩ := hR2.sl twoA
    have hbw2 := hbw1.trans (hb2.mono hbw1.size)
    have hz2 := hb2.size
    have hzw := hbw1.size
    have bX2 := bX1.below hb2 (by omega)
    obtain ⟨t, ht⟩ : ∃ t, l.length = t := ⟨_, rfl⟩
    have HT := Lib.hid ht
    rw [ht] at hS2 hlen2 hR2 ⊢
    have hn2 := hS2.ncap
    have hm2 := hS2.cmax
    clear ht bX1
    go_upto_if 24 with fail
    go_cut [] (fun wx => ∃ l' : List App, Below w1.heap.size w1 wx ∧ Sl csA 2 wx wx.heap.size A2 t c2 l' ∧ ∀ a ∈ l', I64 a.person)
    case first =>
      by_cases ht0 : 0 < t
      · have d0 := bX2.cell 0; have d1 := bX2.cell 1
        simp only [List.getElem?_toArray, List.getElem?_cons_zero, List.getElem?_cons_succ] at d0 d1
        have k1 := around_lo (n := a.person) (m := (t : Int) + 1) (by omega)
        have k2 := around_hi (n := a.person) (m := (t : Int) + 1) (by omega)
        obtain ⟨K, hK⟩ : ∃ K : Nat, around a.person ((t : Int) + 1) = K := ⟨(around a.person ((t : Int) + 1)).toNat, by omega⟩
        go_wp2_with fail
        refine (around_any a.person ((t : Int) + 1) _ ha (by omega) (by omega)).mono ?_
        rintro e w3 ⟨rfl, rfl⟩
        rw [hK] at k1 k2 ⊢
        by_cases hKt : K < t
        · obtain ⟨x, hx⟩ : ∃ x, l[K]? = some x := ⟨l[K]'(by rw [HT.out]; omega), List.getElem?_eq_getElem _⟩
          obtain ⟨g, cap', e9, hg1, hg2, _, _, hcx, hfx⟩ := hR2.at_' HT.out twoA hx
          injection e9 with e9 e10 e11
          subst e9 e11
          have x1 := hcx 1 _ rfl
          have HX := Lib.hid hx
          have e0 := Gr.cell (H := w2.heap.size) d1 (by dsimp only; omega)
          have e1 := Gr.cell (H := w2.heap.size) x1 (by dsimp only; omega)
          clear hcx hx
          go_wp2
          refine wp_region_gr_tail w2.heap.size 12 (by kernel_rfl) (by kernel_rfl) ?_
          simp only [List.take_succ_cons, List.take_zero, List.drop_succ_cons, List.drop_zero]
          repeat (go_big_quiet_step (fail))
          refine wpQuiet_nil ?_
          rintro w3 ⟨g3, hg3⟩
          have hb3 : Below w2.heap.size w2 w3 := by rw [hg3]; exact Gr.below
          clear hg3 e0 e1
          have f3 := (hb3.frozen (p := ⟨g, K * 2 + 1, none⟩) hg2).trans (hfx _)
          have x3 := (hb3.cell (p := ⟨g, K * 2 + 1, none⟩) hg2).trans x1
          go_wp2
          go_meet
          have hx2 := u64_xor_nat x.tag a.tag (hT2 x (List.mem_of_getElem? HX.out)) hat
          rw [hx2]
          obtain ⟨o2, o3⟩ := ((hR2.below hb3).tag' HT.out HX.out (x.tag ^^^ a.tag))
          obtain ⟨A5, c5, e5, hS5⟩ := o2.sl twoA
          injection e5 with e5 e6 e7
          subst e5 e7
          rw [List.length_set, HT.out] at hS5
          refine ⟨l.set K ⟨x.person, x.tag ^^^ a.tag⟩, ?_, hS5, ?_⟩
          · exact (hb2.trans (hb3.mono hz2)).setCell (p := ⟨g, K * 2 + 1, none⟩) hg1 _
          · intro y hy
            rcases List.mem_or_eq_of_mem_set hy with hy | hy
            · exact hI2 y hy
            · subst hy; exact hI2 x (List.mem_of_getElem? HX.out)
        · go_wp2
          go_meet
          exact ⟨l, hb2, hS2, hI2⟩
      · go_wp2
        go_meet
        exact ⟨l, hb2, hS2, hI2⟩
    case rest =>
      obtain ⟨l', hb3, hS3, hI3⟩ := hcut
      have hbwc := hbw1.trans (hb3.mono hbw1.size)
      have hP3 := (hS1.below hb3 (Nat.le_refl _)).more hb3.size
      have hX3 := (hs.below hbwc (Nat.le_refl _)).more hbwc.size
      have hr : r ≤ 1000000000000 := by omega
      have ht : t ≤ 1000000000000 := by omega
      clear hS1 hS2 hR2 hb2 hbw2 bX2 hI2 hT2 hb1 hbw1 hz1 hz2 hzw hs0 hb0 h hv hs hb3
      go_wp2_with fail
      refine (checkO_any wc.heap.size A1 r c1 ps A2 t c2 l' C m c xs wc hP3 hPs hPc (Nat.le_refl _) hS3 hX3 hm hr hI3).mono ?_
      rintro e w4 ⟨rfl, hb4⟩
      go_wp2_with fail
      refine (checkR_any wc.heap.size A1 r c1 ps A2 t c2 l' C m c xs w4 (hP3.below hb4 (Nat.le_refl _)) hPs hb4.size (hS3.below hb4 (Nat.le_refl _)) (hX3.below hb4 (Nat.le_refl _)) hm hr).mono ?_
      rintro e w5 ⟨rfl, hb5⟩
      have hb35 := hb4.trans (hb5.mono hb4.size)
      generalize checkA ps l' xs = R at *
      clear hb4 hb5
      go_wp2_with fail
      refine (signers_any wc.heap.size A1 r c1 ps A2 t c2 l' C m c xs w5 (hP3.below hb35 (Nat.le_refl _)) hPs hb35.size (hS3.below hb35 (Nat.le_refl _)) (hX3.below hb35 (Nat.le_refl _)) hm hr hI3 ht).mono ?_
      rintro e w6 ⟨v6, rfl, hR6, hb6⟩
      have hb36 := hb35.trans (hb6.mono hb35.size)
      obtain ⟨A6, c6, rfl, hS6⟩ := hR6.sl (fun _ => rfl)
      clear hb35 hb6 hR6
      go_wp2_with fail
      refine (signersR_any wc.heap.size A1 r c1 ps A2 t c2 l' C m c xs w6 (hP3.below hb36 (Nat.le_refl _)) hPs hb36.size (hS3.below hb36 (Nat.le_refl _)) (hX3.below hb36 (Nat.le_refl _)) hm hr).mono ?_
      rintro e w7 ⟨v7, rfl, hR7, hb7⟩
      have hb37 := hb36.trans (hb7.mono hb36.size)
      obtain ⟨A7, c7, rfl, hS7⟩ := hR7.sl (fun _ => rfl)
      have hS6' := hS6.below hb7 (Nat.le_refl _)
      generalize signersI ps l' xs = S at *
      clear hb36 hR7 hS6
      go_wp2_with fail
      refine (same_any w6.heap.size w7.heap.size A6 A7 _ _ c6 c7 S S w7 hS6' hS7 hb7.size (Nat.le_refl _)).mono ?_
      rintro e w8 ⟨rfl, hb8⟩
      have hb38 := hb37.trans (hb8.mono hb37.size)
      simp only [decide_true]
      clear hb37 hb8 hS6' hS7 hb7
      go_wp2_with fail
      refine (lives_any _).mono ?_
      rintro e w9 ⟨rfl, hb9⟩
      go_wp2
      go_ret
      exact ⟨rfl, hbwc.trans ((hb38.trans (hb9.mono hb38.size)).mono hbwc.size)⟩
end Go.Proofs.Ytcljmnbjejcdaaa
