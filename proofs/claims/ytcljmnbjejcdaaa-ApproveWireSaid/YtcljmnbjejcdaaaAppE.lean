/-
  approve.Check (chapter 21): counts by centre in a map, then a range over it.
-/
import Derived.Test.YtcljmnbjejcdaaaAppC
import Derived.Test.YtcljmnbjejcdaaaAppD
import Derived.Maps.RangeWalk
namespace Go.Proofs.Ytcljmnbjejcdaaa
open Go.ChangeShapes Go.WideShapes Go.ChangeAt Go.RowKit

/-- how many of s are of centre z -/
def cntC (ps : List Per) (s : List Nat) (z : Int) : Nat := (s.map (cenN ps)).count z
theorem cntC_snoc {ps : List Per} {s : List Nat} {k x : Nat} (h : s[k]? = some x) (z : Int) : cntC ps (s.take (k + 1)) z = cntC ps (s.take k) z + if z = cenN ps x then 1 else 0 := by
  unfold cntC
  rw [take_snoc h, List.map_append, List.count_append]
  by_cases hz : z = cenN ps x
  · subst hz; simp
  · rw [if_neg hz]
    have : List.count z (List.map (cenN ps) [x]) = 0 := by
      rw [List.count_eq_zero]; simp [hz]
    rw [this]
theorem cntC_le (ps : List Per) (s : List Nat) (z : Int) : cntC ps s z ≤ s.length := by
  unfold cntC; have := List.count_le_length (a := z) (l := s.map (cenN ps)); simpa using this
theorem two_cnt {ps : List Per} {s : List Nat} : twoB ps s = true ↔ ∃ z, 2 ≤ cntC ps s z := by
  have h1 : s.Pairwise (fun x y => cenN ps x ≠ cenN ps y) ↔ (s.map (cenN ps)).Nodup := by
    unfold List.Nodup; rw [List.pairwise_map]
  unfold twoB
  rw [Bool.not_eq_true', decide_eq_false_iff_not, h1, List.nodup_iff_count]
  constructor
  · intro h
    rcases Classical.em (∃ z, 2 ≤ cntC ps s z) with h2 | h2
    · exact h2
    · exact absurd (fun z => by rcases Nat.lt_or_ge (cntC ps s z) 2 with h3 | h3; unfold cntC at h3; omega; exact absurd ⟨z, h3⟩ h2) h
  · rintro ⟨z, hz⟩ h
    have := h z
    unfold cntC at hz
    omega

structure CntIs {H : Type} (D : DataW H) (f : Int → Nat) : Prop where
  map : Go.Maps.IsMap D
  val : ∀ z, D.atKey (.int .i64 z) (.lit (.int .i64 0)) = .lit (.int .i64 (f z))
  has : ∀ z, Maps.has D (.int .i64 z) = decide (0 < f z)
section
variable {H : Type} {D : DataW H} {f g : Int → Nat}
theorem CntIs.new : CntIs (.map [] : DataW H) (fun _ => 0) := ⟨⟨[], rfl⟩, fun _ => rfl, fun _ => rfl⟩
theorem CntIs.congr (h : CntIs D f) (e : ∀ z, g z = f z) : CntIs D g := by have : g = f := funext e; rw [this]; exact h
theorem CntIs.put (h : CntIs D f) (x : Int) : CntIs (D.put (.int .i64 x) (.lit (.int .i64 ((f x : Int) + 1)))) (fun z => f z + if z = x then 1 else 0) := by
  have hk : WideAt.IsKeyLit (.int .i64 x) := trivial
  refine ⟨h.map.put _ _, fun z => ?_, fun z => ?_⟩
  · by_cases hz : z = x
    · subst hz; rw [Go.Maps.atKey_put_same h.map hk]; simp
    · rw [Go.Maps.atKey_put_other (by intro e; injection e with _ e; exact hz e), h.val]; simp [hz]
  · by_cases hz : z = x
    · subst hz; rw [Go.Maps.has_put_same h.map hk]; simp
    · rw [Go.Maps.has_put_other (by intro e; injection e with _ e; exact hz e), h.has]; simp [hz]
end
theorem map_below2 {P : Program} {kt : TypeId} {R : Value → Option (DataW Unit × List MemPlace)} {w w' : World} {b k B : Nat} {D : DataW Unit} (h : w.ownsMap P kt R b k D) (hb : Below B w w') (hB : b < B) : w'.ownsMap P kt R b k D := by
  obtain ⟨es, clock, h1, F, hs, hD⟩ := h
  exact ⟨es, clock, (hb.block b hB).trans h1, F, hs, hD⟩
theorem lit_inj {a b : Int} (h : (DataW.lit (.int .i64 a) : DataW Unit) = .lit (.int .i64 b)) : a = b := by
  injection h with h; injection h
theorem zeroInt (w : World) : (zeroValue 3).run Try.prog w = .ok (.int .i64 0) w := by kernel_rfl
theorem look_cnt {w : World} {b k : Nat} {D : DataW Unit} {f : Int → Nat} (h : w.ownsMap Try.prog 3 (plainElem Try.prog 3) b k D) (hs : CntIs D f) {z : Int} (hz : I64 z) :
    (Instr.lookup 61 (.map (some b)) (.int .i64 z) false).run Try.prog w = .ok (.int .i64 (f z)) w := by
  obtain ⟨c, hrun, hat, _⟩ := h.lookup_int keyInt Try.underlying61 Try.underlying3 (zeroInt w) (keyI hz)
  rw [lit_inj ((hs.val z).symm.trans hat)]; exact hrun
theorem row_grown {α : Type} {cs : α → List Value} {t : TypeId} {w w' : World} {B j : Nat} {v : Value} {l : List α} (h : Row cs t w B v l) (hb : w.grownBy w' (some j)) (hj : j < B) : Row cs t w' B v l := by
  refine ⟨h.1, ?_⟩
  rcases h.2 with h1 | ⟨g, cap, cur, hv, hbg, hg, rest⟩
  · exact .inl h1
  · exact .inr ⟨g, cap, cur, hv, hbg, (hb.block g ((Array.getElem?_eq_some_iff.1 hg).1) (by intro e; injection e with e; omega)).trans hg, rest⟩

set_option maxRecDepth 100000 in
set_option maxHeartbeats 2000000 in
theorem checkO_any (B : Nat) (A : Option Addr) (n cap : Nat) (ps : List Per) (D : Option Addr) (q d : Nat) (l : List App) (C : Option Addr) (m c : Nat) (xs : List UInt8) (w : World) (h : Sl csP 2 w B A n cap ps) (hp : ∀ p ∈ ps, U64 p.secret) (hC : ∀ p ∈ ps, I64 p.centre) (hB : B ≤ w.heap.size) (hd : Sl csA 2 w B D q d l) (hs : Sl csB 1 w B C m c xs) (hm : m ≤ 1000000000000) (hn : n ≤ 1000000000000) (hI : ∀ a ∈ l, I64 a.person) :
    Calls Try.prog 16 #[.slice A n cap, .slice D q d, .slice C m c] w fun e w' => e = .returned (.int .i64 (checkA ps l xs)) ∧ Below w.heap.size w w' := by
  have hqd := hd.ncap
  have hdm := hd.cmax
  have hcm := h.cmax
  have hl := hd.len
  by_cases h16 : 16 < q
  · have HC : Hid (checkA ps l xs = 2) := by unfold Hid checkA; rw [if_pos (by omega)]
    clear hl
    go_enter Try.func16, Try.ntmps16
    go_wp2
    go_ret
    exact ⟨by rw [HC.out]; rfl, Below.refl _ _⟩
  · have HC : Hid (checkA ps l xs = if twoB ps (signersN ps l xs) = true then 0 else 33) := by unfold Hid checkA; rw [if_neg (by omega)]
    have HN : Hid (∀ x ∈ signersN ps l xs, x < n) := fun x hx => by have := (mem_signers.1 hx).1; have := h.len; omega
    have hsl : (signersN ps l xs).length ≤ n := by have := signersTo_len ps l xs ps.length; unfold signersTo at this; rw [List.length_map] at this; have h2 := h.len; unfold signersN; unfold signedB at this; omega
    have hmm := @run_makeMap Try.prog
    obtain ⟨w0, hw0⟩ : ∃ w0, w.alloc (.map #[] 0) = w0 := ⟨_, rfl⟩
    have hb0 : Below w.heap.size w w0 := by rw [← hw0]; exact (Below.refl _ _).alloc (Nat.le_refl _) _
    have hs0 : w0.heap.size = w.heap.size + 1 := by rw [← hw0]; simp
    have how0 : w0.ownsMap Try.prog 3 (plainElem (H := Unit) Try.prog 3) w.heap.size 0 (.map []) := by rw [← hw0]; exact World.ownsMap_made w _ _ _
    clear hl
    go_enter Try.func16, Try.ntmps16
    go_wp2_with fail
    refine (signers_any B A n cap ps D q d l C m c xs w0 (h.below hb0 hB) hp (by omega) (hd.below hb0 hB) (hs.below hb0 hB) hm hn hI (by omega)).mono ?_
    rintro e w1 ⟨v1, rfl, hR, hb1⟩
    unfold signersI at hR
    obtain ⟨s, hse⟩ : ∃ s, signersN ps l xs = s := ⟨_, rfl⟩
    rw [hse] at hR HC HN hsl
    obtain ⟨A1, cap1, rfl, hS1⟩ := hR.sl (fun _ => rfl)
    rw [List.length_map] at hS1 ⊢
    obtain ⟨r, hr⟩ : ∃ r, s.length = r := ⟨_, rfl⟩
    have HR := Lib.hid hr
    have HRow := Lib.hid hR
    rw [hr] at hS1 hsl ⊢
    have hrc := hS1.ncap
    have hrm := hS1.cmax
    have hbw1 := hb0.trans (hb1.mono (by omega))
    have hs1 := hb1.size
    have how1 := map_below2 how0 hb1 (by omega)
    have h1 := h.below hbw1 hB
    clear hse hr hR how0 hmm
    go_wp2
    go_loopw [21] (fun i wr => ∃ k : Nat, k ≤ r ∧ i = .int .i64 k ∧ (∃ DD : DataW Unit, wr.ownsMap Try.prog 3 (plainElem Try.prog 3) w.heap.size k DD ∧ CntIs DD (cntC ps (s.take k))) ∧ w1.grownBy wr (some w.heap.size)) (fun i _ => r - (intOf i).toNat)
    case atStart => exact ⟨0, by omega, rfl, ⟨_, how1, CntIs.new⟩, ⟨rfl, rfl, rfl, Nat.le_refl _, fun _ _ _ => rfl⟩⟩
    case round =>
      obtain ⟨k, hk, rfl, ⟨DD, hown, hcnt⟩, hgr⟩ := hrel
      have hsr := hgr.size
      have hBr : Below B w1 wr := (Below.refl B w1).grown hgr (by omega) (fun j e => by cases e; exact hB)
      by_cases hkr : k < r
      · have hkI : (k : Int) < r := by omega
        obtain ⟨A2, cap2, e9, hS2⟩ := (row_grown HRow.out hgr (by omega)).sl (fun _ => rfl)
        rw [List.length_map, HR.out] at e9 hS2
        injection e9 with e9 e10 e11
        subst e9 e11
        obtain ⟨b1, o1, xi, rfl, hbb1, hxi, ci⟩ := hS2.int_at hkr
        obtain ⟨x, hx, rfl⟩ : ∃ x : Nat, s[k]? = some x ∧ (x : Int) = xi := by
          rw [List.getElem?_map] at hxi
          cases hh : s[k]? with
          | none => rw [hh] at hxi; cases hxi
          | some x => rw [hh] at hxi; injection hxi with hxi; exact ⟨x, rfl, hxi⟩
        have hxn := HN.out x (List.mem_of_getElem? hx)
        obtain ⟨b2, o2, p, rfl, hb2, hpx, hpc⟩ := h1.two_at hxn
        have cx := hpc wr hBr 0 (.int .i64 p.centre) rfl
        rw [Nat.add_zero] at cx
        have hpi := hC p (List.mem_of_getElem? hpx)
        have hxI : (x : Int) < n := by omega
        have hrun := look_cnt hown hcnt hpi
        have hcp := hcnt.put p.centre
        have hst := cntC_snoc (ps := ps) hx
        rw [cen_get hpx] at hst
        have hle := cntC_le ps (s.take k) p.centre
        rw [List.length_take] at hle
        generalize hu : cntC ps (s.take k) p.centre = u at *
        have huI : (u : Int) ≤ 1000000000000 := by omega
        obtain ⟨w3, hupd, how3, hg3⟩ := hown.update keyInt Try.underlying61 (show k < maxLen by unfold maxLen; omega) (keyI hpi) (plainElem_int (H := Unit) Try.underlying3 (WalkArith.wf_i64 (show -9223372036854775808 ≤ (u : Int) + 1 ∧ (u : Int) + 1 ≤ 9223372036854775807 by omega)))
        have hst' : ∃ DD : DataW Unit, w3.ownsMap Try.prog 3 (plainElem Try.prog 3) w.heap.size (k + 1) DD ∧ CntIs DD (cntC ps (s.take (k + 1))) := ⟨_, how3, hcp.congr hst⟩
        have hgr3 := hgr.andThen hg3 (fun j hj => by cases hj; exact Or.inr rfl)
        clear hx hxi hpx hpc hown hcnt hcp hst hle hu how3 hg3 hS2
        go_wp2
        go_roundw
        case rel => exact ⟨k + 1, by omega, by go_num, hst', hgr3⟩
        case measure => simp [intOf]; omega
      · obtain rfl : r = k := by omega
        have hE : s.take r = s := List.take_of_length_le (by rw [HR.out]; omega)
        rw [hE] at hcnt
        have hbr : Below w.heap.size w wr := hbw1.grown hgr hbw1.size (fun j e => by cases e; exact Nat.le_refl _)
        have HCnt := Lib.hid hcnt
        have hlt := hown.lt
        clear hcnt hE
        go_wp2_with (first
          | (at_range; refine wpList_range_own _ rfl _ 61 rfl 3 3 keyInt Try.underlying61 _ w.heap.size r DD rfl hown ?_; intro w2 hrg0 hg0 hs2)
          | fail)
        go_frame
        obtain ⟨it, hit⟩ : ∃ it, wr.heap.size = it := ⟨_, rfl⟩
        rw [hit] at hrg0 ⊢
        have hb2 : Below w.heap.size w w2 := hbr.grown hg0 hbr.size (fun j e => by cases e)
        go_loopw [11] (fun _ wq => ∃ (left : Lit → Bool) (cnt : Nat), wq.ranges Try.prog 3 (plainElem Try.prog 3) w.heap.size it r DD left cnt ∧ Hid (∀ z : Int, left (.int .i64 z) = false → cntC ps s z < 2) ∧ Below w.heap.size w wq) (fun _ wq => wq.rangeLeft w.heap.size it)
        case atStart => exact ⟨_, _, hrg0, fun z hz => by rw [HCnt.out.has, decide_eq_false_iff_not] at hz; omega, hb2⟩
        case round =>
          obtain ⟨left, cnt, hrg, HL, hbq⟩ := hrel
          go_wp2_with (first
            | (at_next; refine wpList_next_ranges_ii _ rfl _ rfl 3 3 .i64 .i64 keyInt Try.underlying3 Try.underlying3 w.heap.size it r _ _ _ rfl hrg ?_ ?_)
            | fail)
          · intro _ hl0
            have HT : Hid (checkA ps l xs = 33) := by
              rw [Hid, HC.out, if_neg]
              intro h9
              obtain ⟨z, hz⟩ := two_cnt.1 h9
              have := HL.out z (hl0 _)
              omega
            go_wp2
            go_ret
            exact ⟨by rw [HT.out]; rfl, hbq⟩
          · intro x y w3 cnt3 hwx hwc hlx hat hrg3 hlt3 hg3 hs3 hen
            have hb3 : Below w.heap.size w w3 := hbq.grown hg3 hbq.size (fun j e => by cases e; omega)
            have hy : (cntC ps s x : Int) = y := lit_inj ((HCnt.out.val x).symm.trans (hat _))
            have HY := Lib.hid hy
            clear hat hg3 hs3 hy
            by_cases h2 : 2 ≤ y
            · have HT : Hid (checkA ps l xs = 0) := by
                rw [Hid, HC.out, if_pos (two_cnt.2 ⟨x, by have := HY.out; omega⟩)]
              go_wp2
              go_ret
              exact ⟨by rw [HT.out]; rfl, hb3⟩
            · have HL' : Hid (∀ z : Int, ((fun k : Lit => left k && !k.sameKey (.int .i64 x)) (.int .i64 z)) = false → cntC ps s z < 2) := by
                intro z hz
                by_cases hzx : z = x
                · subst hzx; have := HY.out; omega
                · refine HL.out z ?_
                  have h8 : (Lit.int .i64 z).sameKey (.int .i64 x) = false := Go.Maps.sameKey_ne (by intro e; injection e with _ e; exact hzx e)
                  simpa [h8] using hz
              go_wp2
              go_roundw
              case rel => exact ⟨_, cnt3, hrg3, HL', hb3⟩
              case measure => rw [hrg3.left_eq, hrg.left_eq]; exact hlt3
end Go.Proofs.Ytcljmnbjejcdaaa
