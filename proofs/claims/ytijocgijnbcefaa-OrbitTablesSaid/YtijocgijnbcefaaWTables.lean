/-
  OrbitTables: the walk.
-/
import Derived.Test.YtijocgijnbcefaaOrbX
import Derived.Deep.MidRow
namespace Go.Proofs.Ytijocgijnbcefaa
open Go.ChangeShapes Go.WideShapes Go.ChangeAt Go.RowKit

/-- two neighbours exchanged -/
def swap (ts : List Win) (k : Nat) (x y : Win) : List Win := (ts.set k y).set (k + 1) x

theorem swap_get {ts : List Win} {k : Nat} {x y : Win} (hx : ts[k]? = some x) (hy : ts[k + 1]? = some y) (i : Nat) : (swap ts k x y)[i]? = if i = k then some y else if i = k + 1 then some x else ts[i]? := by
  have h1 := (List.getElem?_eq_some_iff.1 hx).1
  have h2 := (List.getElem?_eq_some_iff.1 hy).1
  unfold swap
  rw [List.getElem?_set, List.getElem?_set]
  simp only [List.length_set]
  by_cases e1 : k + 1 = i
  · subst e1; simp [h2]
  · by_cases e2 : k = i
    · subst e2; simp [h1]
    · rw [if_neg e1, if_neg e2, if_neg (Ne.symm e2), if_neg (Ne.symm e1)]

theorem swap_check {ts : List Win} (h : Good ts) (hl : ts.length ≤ 200) {k : Nat} {x y : Win} (hx : ts[k]? = some x) (hy : ts[k + 1]? = some y) : checkO (swap ts k x y) = 23 := by
  have h1 := (List.getElem?_eq_some_iff.1 hx).1
  have h2 := (List.getElem?_eq_some_iff.1 hy).1
  have hlen : (swap ts k x y).length = ts.length := by unfold swap; simp
  have hxm : x ∈ ts := List.mem_of_getElem? hx
  have hym : y ∈ ts := List.mem_of_getElem? hy
  have hF : ∀ t ∈ swap ts k x y, t.Formed := by
    intro t ht
    obtain ⟨i, hi⟩ := List.mem_iff_getElem?.1 ht
    rw [swap_get hx hy] at hi
    split at hi
    · cases hi; exact h.formed _ hym
    · split at hi
      · cases hi; exact h.formed _ hxm
      · exact h.formed t (List.mem_of_getElem? hi)
  have hb : x.Before y := by
    have ho := h.ord
    have hf := h.far
    unfold Ord at ho; unfold Far at hf
    rw [List.pairwise_iff_getElem] at ho hf
    obtain ⟨_, e1⟩ := List.getElem?_eq_some_iff.1 hx
    obtain ⟨_, e2⟩ := List.getElem?_eq_some_iff.1 hy
    have a1 := ho k (k + 1) h1 h2 (by omega)
    have a2 := hf k (k + 1) h1 h2 (by omega)
    rw [e1, e2] at a1 a2
    rw [meet_iff] at a2
    have f1 := h.formed x hxm
    have f2 := h.formed y hym
    unfold Win.Formed at f1 f2
    unfold Win.Before at a1 ⊢
    by_cases hk : y.key x.kind x.a x.b = true
    · have hk' : y.kind = x.kind ∧ y.a = x.a ∧ y.b = x.b := by simpa [Win.key, and_assoc] using hk
      by_cases c1 : y.lo < x.hi
      · by_cases c2 : x.lo < y.hi
        · exact absurd ⟨hk, c1, c2⟩ a2
        · omega
      · omega
    · have hk' : ¬ (y.kind = x.kind ∧ y.a = x.a ∧ y.b = x.b) := by simpa [Win.key, and_assoc] using hk
      omega
  have hs : sortedB (swap ts k x y) = false := by
    rw [Bool.eq_false_iff]
    intro hc
    have := (sortedB_iff _).1 hc k y x (by rw [swap_get hx hy, if_pos rfl]) (by rw [swap_get hx hy, if_neg (by omega), if_pos rfl])
    exact this hb
  unfold checkO
  rw [if_neg (by omega), if_neg, if_pos hs]
  rw [Bool.not_eq_false, List.all_eq_true]
  intro t ht
  rw [Win.formed_iff]
  exact hF t ht

/-- the memory behind both stores -/
theorem swap_sl {w w' : World} {g n cap B : Nat} {ts : List Win} {k : Nat} {x y : Win} (h : Sl csW 6 w B (some ⟨g, 0, none⟩) n cap ts) (hx : ts[k]? = some x) (hy : ts[k + 1]? = some y)
    (h1 : w'.rangeAt g (k * 6) (csW y)) (h2 : w'.rangeAt g ((k + 1) * 6) (csW x)) (h3 : ∀ j, (j < k * 6 ∨ (k + 2) * 6 ≤ j) → w'.cell? ⟨g, j, none⟩ = w.cell? ⟨g, j, none⟩) : Sl csW 6 w' B (some ⟨g, 0, none⟩) n cap (swap ts k x y) := by
  have hk := (List.getElem?_eq_some_iff.1 hx).1
  refine ⟨by unfold swap; simpa using h.len, h.ncap, h.cmax, fun h0 => ?_⟩
  obtain ⟨b, o, e, hb, hc⟩ := h.row h0
  obtain ⟨rfl, rfl⟩ : g = b ∧ o = 0 := by injection e with e; injection e with e1 e2; exact ⟨e1, e2.symm⟩
  refine ⟨g, 0, rfl, hb, fun i t ht j v hv => ?_⟩
  have hj : j < 6 := (List.getElem?_eq_some_iff.1 hv).1
  rw [swap_get hx hy] at ht
  split at ht
  · cases ht; subst i
    rw [Nat.zero_add]; exact h1 j v hv
  · split at ht
    · cases ht; subst i
      rw [Nat.zero_add]; exact h2 j v hv
    · rw [Nat.zero_add, h3 _ (by omega)]
      have := hc i t ht j v hv
      rwa [Nat.zero_add] at this

theorem one6 (t : Win) : (csW t).toArray.all (·.oneCell') = true := by simp [csW, Value.oneCell']

theorem below_setCells {B b : Nat} {a : World} (hb : B ≤ b) : ∀ (vs : List Value) (o : Nat) (w : World), Below B a w → Below B a (w.setCells b o vs) ∧ (w.setCells b o vs).heap.size = w.heap.size
  | [], _, _, h => ⟨h, rfl⟩
  | v :: r, o, w, h => by
    obtain ⟨h1, h2⟩ := below_setCells hb r (o + 1) (w.setCell ⟨b, o, none⟩ v) (h.setCell hb v)
    exact ⟨h1, h2.trans (by simp [World.setCell])⟩

set_option maxRecDepth 100000 in
set_option maxHeartbeats 2000000 in
theorem orbitTables_any (w : World) (A : Option Addr) (n cap : Nat) (xs : List Int) (h : Sl csI 1 w w.heap.size A n cap xs) (hx : ∀ x ∈ xs, I64 x) (a : Int) (ia : I64 a) :
    Calls Try.prog 4 #[.slice A n cap, .int .i64 a] w fun e w' => e = .returned (.bool true) ∧ Below w.heap.size w w' := by
  go_enter Try.func4, Try.ntmps4
  go_wp2_with fail
  refine (table_any w A n cap xs h hx).mono ?_
  rintro e w1 ⟨A1, n1, cap1, ts, rfl, hT, hG, hn, hb1⟩
  have hlen := hT.len
  have hck := hG.check (by omega)
  have HL := Lib.hid hlen
  clear hlen
  have hsl := hT.sl
  go_wp2_with fail
  refine (check_any w1.heap.size A1 n1 cap1 ts _ hsl (Nat.le_refl _)).mono ?_
  rintro e w2 ⟨rfl, hb2⟩
  rw [hck]
  clear hck
  have hb12 := hb1.trans (hb2.mono hb1.size)
  have hT2 := hT.below hb2
  clear hT hsl
  by_cases h2 : n1 < 2
  · go_wp2_with fail
    refine (lives_any _).mono ?_
    rintro e w6 ⟨rfl, hb6⟩
    go_wp2
    go_ret
    exact ⟨rfl, hb12.trans (hb6.mono hb12.size)⟩
  · obtain ⟨K, hK, hK0⟩ := around_nat (n := a) (m := n1 - 1) (by omega)
    have h2' : (2 : Int) ≤ n1 := by omega
    go_wp2_with fail
    refine (around_any a (n1 - 1) _ ia (by omega) (by omega)).mono ?_
    rintro e w3 ⟨rfl, rfl⟩
    rw [hK]
    clear hK
    go_wp2
    refine wp_region_mix (by kernel_rfl) ?_
    change AtK _ _ _ _ _ w2.drew
    have hTd : Tab w2.drew w.heap.size A1 n1 cap1 ts := hT2.below (below_drewN (Below.refl _ _) 1)
    have hbd : Below w.heap.size w w2.drew := below_drewN hb12 1
    obtain ⟨wd, hwd⟩ : ∃ wd, w2.drew = wd := ⟨_, rfl⟩
    rw [hwd] at hTd hbd ⊢
    clear hwd hT2 hb12 hb2
    have hsl := hTd.sl
    obtain ⟨g, cap', hv, hbg, hlt⟩ := hTd.own.form (by omega)
    obtain ⟨rfl, rfl⟩ : A1 = some ⟨g, 0, none⟩ ∧ cap1 = cap' := by injection hv with h1 _ h2; exact ⟨h1, h2⟩
    have hfz := hTd.own.frozenAt
    obtain ⟨x, hx⟩ : ∃ x, ts[K]? = some x := ⟨_, List.getElem?_eq_getElem (by have := HL.out; omega)⟩
    obtain ⟨y, hy⟩ : ∃ y, ts[K + 1]? = some y := ⟨_, List.getElem?_eq_getElem (by have := HL.out; omega)⟩
    have rx : wd.rangeAt g (K * 6) (csW x) := fun j v hj => by
      obtain ⟨b, o, e, _, hc⟩ := hsl.row (by omega)
      injection e with e; injection e with e1 e2
      subst e1 e2
      simpa using hc K x hx j v hj
    have ry : wd.rangeAt g ((K + 1) * 6) (csW y) := fun j v hj => by
      obtain ⟨b, o, e, _, hc⟩ := hsl.row (by omega)
      injection e with e; injection e with e1 e2
      subst e1 e2
      simpa using hc (K + 1) y hy j v hj
    have tx : wd.there g (K * 6) 6 := fun j hj => ⟨rx.isSome j hj, hfz _⟩
    have ty : wd.there g ((K + 1) * 6) 6 := fun j hj => ⟨ry.isSome j hj, hfz _⟩
    have HX := Lib.hid hx
    have HY := Lib.hid hy
    clear hx hy
    have hK1 : IntKind.i64.wrap ((K : Int) + 1) = (K : Int) + 1 := IntWalk.i64_in _ (by omega)
    have iK : ∀ w, (Instr.indexAt 22 (.slice (some ⟨g, 0, none⟩) n1 cap1) (.int .i64 K)).run Try.prog w = .ok (.pointer (some ⟨g, K * 6, none⟩)) w := fun w => by
      have e1 : (K : Int) < n1 := by omega
      simp [go_sem, e1]
    have iK1 : ∀ w, (Instr.indexAt 22 (.slice (some ⟨g, 0, none⟩) n1 cap1) (.int .i64 ((K : Int) + 1))).run Try.prog w = .ok (.pointer (some ⟨g, (K + 1) * 6, none⟩)) w := fun w => by
      have e1 : (K : Int) + 1 < n1 := by omega
      have e2 : (0 : Int) ≤ (K : Int) + 1 := by omega
      simp [go_sem, e1, e2]
    refine AtL.of _ _ rfl rfl ?_
    refine AtL.move (i := 0) (by kernel_rfl) _ _ rfl rfl (by kernel_rfl) ?_
    refine AtL.move (i := 1) (by kernel_rfl) _ _ rfl rfl (by kernel_rfl) ?_
    refine AtL.move (i := 2) (by kernel_rfl) _ _ rfl rfl (by kernel_rfl) ?_
    refine AtL.move (i := 3) (by kernel_rfl) _ _ rfl rfl (by kernel_rfl) ?_
    refine AtL.pure (i := 4) (by kernel_rfl) _ (.int .i64 ((K : Int) + 1)) rfl (fun w => ?hrun) (by kernel_rfl) ?_
    case hrun =>
      unfold execOp
      simp [Act.eval, Act.put, go_sem, hK1]
    refine AtL.move (i := 5) (by kernel_rfl) _ _ rfl rfl (by kernel_rfl) ?_
    refine AtL.move (i := 6) (by kernel_rfl) _ _ rfl rfl (by kernel_rfl) ?_
    refine AtL.pure (i := 7) (by kernel_rfl) _ (.int .i64 ((K : Int) + 1)) rfl (fun w => ?hrun) (by kernel_rfl) ?_
    case hrun =>
      unfold execOp
      simp [Act.eval, Act.put, go_sem, hK1]
    refine AtL.pure (i := 8) (by kernel_rfl) _ (.pointer (some ⟨g, (K + 1) * 6, none⟩)) rfl (fun w => ?hrun) (by kernel_rfl) ?_
    case hrun =>
      have h2 := iK1 w
      unfold execOp
      simp [Act.eval, Act.put, h2]
    refine AtL.move (i := 10) (by kernel_rfl) _ _ rfl rfl (by kernel_rfl) ?_
    refine AtL.move (i := 11) (by kernel_rfl) _ _ rfl rfl (by kernel_rfl) ?_
    go_simp
    refine AtL.pure (i := 12) (by kernel_rfl) _ (.pointer (some ⟨g, K * 6, none⟩)) rfl (fun w => ?hrun) (by kernel_rfl) ?_
    case hrun =>
      have h2 := iK w
      unfold execOp
      simp [Act.eval, h2]
    go_simp
    have hu := Try.underlying31
    have hi : (Try.prog.info? 31).map (·.size) = some (csW x).length := by kernel_rfl
    have hi' : (Try.prog.info? 31).map (·.size) = some (csW y).length := by kernel_rfl
    refine AtL.two (i := 9) (j := 13) (by kernel_rfl) _ _ rfl rfl ?_ ?_
    · refine wpList_load_mid rfl _ _ rfl g ((K + 1) * 6) rfl (csW y) _ ry hu rfl hi' ?_
      refine ⟨rfl, ?_⟩
      go_simp
      refine AtL.one (i := 13) (by kernel_rfl) _ rfl ?_
      go_simp
      refine wpList_load_mid rfl _ _ rfl g (K * 6) rfl (csW x) _ rx hu rfl hi ?_
      refine ⟨rfl, ?_⟩
      refine AtL.one (i := 14) (by kernel_rfl) _ rfl ?_
      go_wp2
      refine AtL.one (i := 15) (by kernel_rfl) _ rfl ?_
      go_simp
      refine wpList_store_mid rfl _ _ _ rfl g (K * 6) (csW y).toArray rfl rfl tx hi' (one6 y) ?_
      refine ⟨rfl, ?_⟩
      obtain ⟨be, se⟩ := below_setCells hbg (csW y).toArray.toList (K * 6) wd hbd
      have ee := World.rangeAt_setCells_same wd g (K * 6) (csW y) tx
      have te := World.there_setCells ty g (K * 6) (csW y).toArray.toList
      have oe := World.cell?_setCells_out g (csW y).toArray.toList (K * 6) wd
      obtain ⟨we, hwe⟩ : ∃ we, wd.setCells g (K * 6) (csW y).toArray.toList = we := ⟨_, rfl⟩
      have hwe2 : wd.setCells g (K * 6) (csW y) = we := hwe
      rw [hwe] at be se te oe ⊢
      rw [hwe2] at ee
      clear hwe hwe2
      refine AtL.one (i := 16) (by kernel_rfl) _ rfl ?_
      go_wp2
      refine AtL.one (i := 17) (by kernel_rfl) _ rfl ?_
      go_simp
      refine wpList_store_mid rfl _ _ _ rfl g ((K + 1) * 6) (csW x).toArray rfl rfl te hi (one6 x) ?_
      refine ⟨rfl, ?_⟩
      refine ⟨by kernel_rfl, ?_⟩
      obtain ⟨bf, sf⟩ := below_setCells hbg (csW x).toArray.toList ((K + 1) * 6) we be
      have ef := World.rangeAt_setCells_same we g ((K + 1) * 6) (csW x) te
      have eg := World.rangeAt_setCells_apart ee g ((K + 1) * 6) (csW x).toArray.toList (.inr (.inl (by show K * 6 + 6 ≤ _; omega)))
      have of := World.cell?_setCells_out g (csW x).toArray.toList ((K + 1) * 6) we
      obtain ⟨wf, hwf⟩ : ∃ wf, we.setCells g ((K + 1) * 6) (csW x).toArray.toList = wf := ⟨_, rfl⟩
      have hwf2 : we.setCells g ((K + 1) * 6) (csW x) = wf := hwf
      rw [hwf] at bf sf eg of ⊢
      rw [hwf2] at ef
      clear hwf hwf2
      have hslf : Sl csW 6 wf wf.heap.size (some ⟨g, 0, none⟩) n1 cap1 (swap ts K x y) := by
        have := swap_sl hsl HX.out HY.out eg ef (fun j hj => (of ⟨g, j, none⟩ (fun _ _ => by show _ ∨ (K + 1) * 6 + 6 ≤ j; dsimp only; omega)).trans (oe ⟨g, j, none⟩ (fun _ _ => by show _ ∨ K * 6 + 6 ≤ j; dsimp only; omega)))
        exact this.more (by omega)
      have hsw := swap_check hG (by have := HL.out; omega) HX.out HY.out
      go_wp2_with fail
      refine (check_any wf.heap.size _ n1 cap1 (swap ts K x y) _ hslf (Nat.le_refl _)).mono ?_
      rintro e w6 ⟨rfl, hb6⟩
      rw [hsw]
      have hbw6 := bf.trans (hb6.mono bf.size)
      clear hsw
      go_wp2_with fail
      refine (lives_any _).mono ?_
      rintro e w7 ⟨rfl, hb7⟩
      go_wp2
      go_ret
      exact ⟨rfl, hbw6.trans (hb7.mono hbw6.size)⟩
    · refine wpList_load_mid rfl _ _ rfl g (K * 6) rfl (csW x) _ rx hu rfl hi ?_
      refine ⟨rfl, ?_⟩
      go_simp
      refine AtL.one (i := 9) (by kernel_rfl) _ rfl ?_
      go_simp
      refine wpList_load_mid rfl _ _ rfl g ((K + 1) * 6) rfl (csW y) _ ry hu rfl hi' ?_
      refine ⟨rfl, ?_⟩
      refine AtL.one (i := 14) (by kernel_rfl) _ rfl ?_
      go_wp2
      refine AtL.one (i := 15) (by kernel_rfl) _ rfl ?_
      go_simp
      refine wpList_store_mid rfl _ _ _ rfl g (K * 6) (csW y).toArray rfl rfl tx hi' (one6 y) ?_
      refine ⟨rfl, ?_⟩
      obtain ⟨be, se⟩ := below_setCells hbg (csW y).toArray.toList (K * 6) wd hbd
      have ee := World.rangeAt_setCells_same wd g (K * 6) (csW y) tx
      have te := World.there_setCells ty g (K * 6) (csW y).toArray.toList
      have oe := World.cell?_setCells_out g (csW y).toArray.toList (K * 6) wd
      obtain ⟨we, hwe⟩ : ∃ we, wd.setCells g (K * 6) (csW y).toArray.toList = we := ⟨_, rfl⟩
      have hwe2 : wd.setCells g (K * 6) (csW y) = we := hwe
      rw [hwe] at be se te oe ⊢
      rw [hwe2] at ee
      clear hwe hwe2
      refine AtL.one (i := 16) (by kernel_rfl) _ rfl ?_
      go_wp2
      refine AtL.one (i := 17) (by kernel_rfl) _ rfl ?_
      go_simp
      refine wpList_store_mid rfl _ _ _ rfl g ((K + 1) * 6) (csW x).toArray rfl rfl te hi (one6 x) ?_
      refine ⟨rfl, ?_⟩
      refine ⟨by kernel_rfl, ?_⟩
      obtain ⟨bf, sf⟩ := below_setCells hbg (csW x).toArray.toList ((K + 1) * 6) we be
      have ef := World.rangeAt_setCells_same we g ((K + 1) * 6) (csW x) te
      have eg := World.rangeAt_setCells_apart ee g ((K + 1) * 6) (csW x).toArray.toList (.inr (.inl (by show K * 6 + 6 ≤ _; omega)))
      have of := World.cell?_setCells_out g (csW x).toArray.toList ((K + 1) * 6) we
      obtain ⟨wf, hwf⟩ : ∃ wf, we.setCells g ((K + 1) * 6) (csW x).toArray.toList = wf := ⟨_, rfl⟩
      have hwf2 : we.setCells g ((K + 1) * 6) (csW x) = wf := hwf
      rw [hwf] at bf sf eg of ⊢
      rw [hwf2] at ef
      clear hwf hwf2
      have hslf : Sl csW 6 wf wf.heap.size (some ⟨g, 0, none⟩) n1 cap1 (swap ts K x y) := by
        have := swap_sl hsl HX.out HY.out eg ef (fun j hj => (of ⟨g, j, none⟩ (fun _ _ => by show _ ∨ (K + 1) * 6 + 6 ≤ j; dsimp only; omega)).trans (oe ⟨g, j, none⟩ (fun _ _ => by show _ ∨ K * 6 + 6 ≤ j; dsimp only; omega)))
        exact this.more (by omega)
      have hsw := swap_check hG (by have := HL.out; omega) HX.out HY.out
      go_wp2_with fail
      refine (check_any wf.heap.size _ n1 cap1 (swap ts K x y) _ hslf (Nat.le_refl _)).mono ?_
      rintro e w6 ⟨rfl, hb6⟩
      rw [hsw]
      have hbw6 := bf.trans (hb6.mono bf.size)
      clear hsw
      go_wp2_with fail
      refine (lives_any _).mono ?_
      rintro e w7 ⟨rfl, hb7⟩
      go_wp2
      go_ret
      exact ⟨rfl, hbw6.trans (hb7.mono hbw6.size)⟩

end Go.Proofs.Ytijocgijnbcefaa
