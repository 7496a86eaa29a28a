/-
  hash.words, hash.with, hash.Sum, hash.Tag.
-/
import Derived.Test.YtcljmnbjejcdaaaHashI
namespace Go.Proofs.Ytcljmnbjejcdaaa
open Go.ChangeShapes Go.WideShapes Go.ChangeAt Go.RowKit Go.Shelf

attribute [local go_sem] Oper.semAt_some

theorem words_in (F : Fence) (m : Nat) (h5 : F.fn 42) (hro : F.round = none) (A : Option Addr) (n cap : Nat) (w : World) :
    CallsIn F m Try.prog 42 #[.slice A n cap] w fun e w' => e = .returned (.func (.func 49) #[] #[.pointer (some ⟨w.heap.size, 0, none⟩)]) ∧ w' = w.alloc (.cells #[.slice A n cap] 26) := by
  refine callsIn_of_wp Try.func42 rfl h5 ?_ hro
  simp only [Try.ntmps42, List.size_toArray, List.length_cons, List.length_nil, Nat.reduceAdd, Nat.reduceSub, Array.replicate_succ, Array.replicate_zero, List.push_toArray, List.append_toArray, List.nil_append, List.cons_append]
  gi_wp2
  go_ret
  exact ⟨rfl, rfl⟩

theorem cells_kept {X Y : World} {row : Option Nat} {k : Nat} {o : Obj} (hg : X.grownBy Y row) (hr : ∀ r, row = some r → ∃ o : Obj, X.heap[r]? = some o ∧ o.isCells = false) (h : X.heap[k]? = some o) (ho : o.isCells = true) : Y.heap[k]? = some o :=
  (hg.block k (Array.getElem?_eq_some_iff.1 h).1 (fun e => by
    obtain ⟨o', h1, h2⟩ := hr k e.symm
    rw [h] at h1
    injection h1 with h1
    subst h1
    rw [ho] at h2
    cases h2)).trans h
theorem row_kept {α : Type} {cs : α → List Value} {t : TypeId} {X Y : World} {B : Nat} {v : Value} {l : List α} (h : Row cs t X B v l) (hk : ∀ k o, X.heap[k]? = some o → o.isCells = true → v.ownBlock = some k → Y.heap[k]? = some o) : Row cs t Y B v l := by
  refine ⟨h.1, ?_⟩
  rcases h.2 with h1 | ⟨g, cap, cur, rfl, hbg, hg, rest⟩
  · exact .inl h1
  · exact .inr ⟨g, cap, cur, rfl, hbg, hk g _ hg rfl rfl, rest⟩
theorem row_box {α : Type} {cs : α → List Value} {e t : TypeId} {X : World} {B N : Nat} {v u : Value} {l : List α} (h : Row cs e X B v l) (hb : Boxed X N t u) (hne : e ≠ t) : v.ownBlock ≠ some N := own_blk_ne h (g := N) (t := t) (cs := #[u]) hb hne
theorem boxed_kept {X Y : World} {row : Option Nat} {N : Nat} {t : TypeId} {v : Value} (h : Boxed X N t v) (hg : X.grownBy Y row) (hr : ∀ r, row = some r → ∃ o : Obj, X.heap[r]? = some o ∧ o.isCells = false) : Boxed Y N t v := cells_kept hg hr h rfl

/-- between two rounds of 'with' -/
structure WithI (w : World) (B0 n2 nb : Nat) (l0 : List Int) (pre : List WU) (W : World) : Prop where
  ex : ∃ v, Boxed W n2 37 v ∧ Row csI 3 W B0 v (l0 ++ pre.map (fun x : WU => sgn x.1))
  bx : ∃ u, Boxed W nb 26 u
  below : Below B0 w W

set_option maxRecDepth 100000 in
set_option maxHeartbeats 2000000 in
theorem with_in (m : Nat) (hm : 3 ≤ m) (B0 B : Nat) (v0 : Value) (l0 : List Int) (A : Option Addr) (n cap : Nat) (xs : List UInt8) (w : World) (h0 : Row csI 3 w B0 v0 l0) (hB0 : B0 ≤ w.heap.size) (hl0 : l0.length ≤ 100) (h : Sl csB 1 w B A n cap xs) (hB : B ≤ B0) (hr : n ≤ 100000000000000) :
    CallsIn Fence.wide m Try.prog 33 #[v0, .slice A n cap] w fun e w' => ∃ v, e = .returned v ∧ Row csI 3 w' B0 v (withN l0 xs) ∧ Below B0 w w' := by
  have h1 : 1 ≤ m := by omega
  have HL := Lib.hid h.len
  have HW := Lib.hid (wordsN_len xs)
  refine callsIn_of_wp_marks Try.func33 rfl trivial ?_ rfl
  simp only [Try.ntmps33, List.size_toArray, List.length_cons, List.length_nil, Nat.reduceAdd, Nat.reduceSub, Array.replicate_succ, Array.replicate_zero, List.push_toArray, List.append_toArray, List.nil_append, List.cons_append]
  obtain ⟨A0, cap0, hv0, _⟩ := h0.sl (fun _ => rfl)
  subst hv0
  gi_wp2_with (refine ⟨trivial, ?_⟩; gi_at_call 42; refine (words_in Fence.wide (m - 1) trivial rfl _ _ _ _).mono ?_; rintro e w' ⟨rfl, rfl⟩)
  obtain ⟨V, hV⟩ : ∃ V, (w.alloc (.cells #[.slice A0 l0.length cap0] 37)).alloc (.cells #[.slice A n cap] 26) = V := ⟨_, rfl⟩
  have bV : Below w.heap.size w V := by rw [← hV]; exact ((Below.refl _ w).alloc (Nat.le_refl _) _).alloc (by simp) _
  have sV : V.heap.size = w.heap.size + 2 := by rw [← hV]; simp
  have b2 : Boxed V w.heap.size 37 (.slice A0 l0.length cap0) := by rw [← hV]; exact (Boxed.new w _ _).alloc _
  have b1 : Boxed V (w.heap.size + 1) 26 (.slice A n cap) := by
    rw [← hV]
    have := Boxed.new (w.alloc (.cells #[.slice A0 l0.length cap0] 37)) 26 (.slice A n cap)
    rwa [World.size_alloc] at this
  rw [hV]
  clear hV
  have rV := h0.below bV
  have slV := h.below bV (by omega)
  refine wpIn_range_box (bN := w.heap.size + 1) rfl h1 (gf := 49) (lb := #[.pointer (some ⟨w.heap.size + 1, 0, none⟩)]) rfl trivial (enters_of Try.func49 (by kernel_rfl) rfl)
    (words1_seq Fence.wide (m - 1) trivial rfl (by omega) (w.heap.size + 1) B (w.heap.size + 1) (w.heap.size + 1 + 1) B A n cap xs V b1 slV (by omega) (by omega) (by omega) (Lies.of_sl h _ _)) (by omega) kpX_t (kpX_b (by omega) (by omega)) (fun _ => rfl)
    (WithI w B0 w.heap.size (w.heap.size + 1) l0) ?hI ?hIb ⟨⟨_, b2, by simpa using rV⟩, ⟨_, b1⟩, bV.mono hB0⟩
    (fun x => { tmps := #[.slice A0 l0.length cap0, .slice A n cap, .pointer (some ⟨w.heap.size, 0, none⟩), undef, .slice none 0 0, .int .u64 (x.1 : Int), .slice A n cap, .func (.func 49) #[] #[.pointer (some ⟨w.heap.size + 1, 0, none⟩)], .int .u64 (x.1 : Int), undef, undef, undef, undef, undef, undef, undef, undef, undef, undef], defers := [] })
    ?assign ?body ?done
  case hI =>
    rintro pre X Y row ⟨⟨v, i1, i2⟩, ⟨u, i3⟩, i4⟩ hg hr
    have hr' : ∀ r, row = some r → ∃ o : Obj, X.heap[r]? = some o ∧ o.isCells = false := fun r e => (hr r e).2
    exact ⟨⟨v, boxed_kept i1 hg hr', row_kept i2 fun k o h1 h2 _ => cells_kept hg hr' h1 h2⟩, ⟨u, boxed_kept i3 hg hr'⟩, i4.trans ((Below.refl _ X).grown hg (by have := i4.size; omega) (fun k e => by have := (hr k e).1; omega))⟩
  case hIb =>
    rintro pre X u ⟨⟨v, i1, i2⟩, ⟨u', i3⟩, i4⟩
    have hne := row_box i2 i3 (by decide)
    exact ⟨⟨v, i1.other (by omega) _, row_kept i2 fun k o h1 _ h2 => (Below.heap_setCell _ _ _ _ (by rintro rfl; exact hne h2)).trans h1⟩, ⟨_, i3.set _⟩, i4.setCell (by dsimp only; omega) _⟩
  case assign =>
    intro l x W K hK
    gi_wp2
    exact hK
  case body =>
    rintro l pre x W hl ⟨⟨v, i1, i2⟩, ⟨u', i3⟩, i4⟩ hlen
    have hx := x.2
    have hxs := wrap_sgn hx
    have hne := row_box i2 i3 (by decide)
    have hne2 := row_box i2 i1 (by decide)
    obtain ⟨A', cap', hv, _⟩ := i2.sl (fun _ => rfl)
    subst hv
    have hln : (l0 ++ pre.map (fun x : WU => sgn x.1)).length ≤ 16999999999999 := by
      have := HW.out
      have := HL.out
      simp
      omega
    have HT : Hid (l0 ++ (pre ++ [x]).map (fun x : WU => sgn x.1) = (l0 ++ pre.map (fun x : WU => sgn x.1)) ++ [sgn x.1]) := by rw [Hid, List.map_append, List.append_assoc]; rfl
    obtain ⟨i0, hi', hz0, hz1, hz2⟩ := info_parts infoI
    generalize l0 ++ pre.map (fun x : WU => sgn x.1) = L at *
    have c1 := i1.cell
    have hWs := i4.size
    have i1lt := i1.lt
    have i3lt := i3.lt
    have i2a := i2.alloc (.cells #[.int .i64 (sgn x.1)] 3)
    unfold Row at i2a
    have hL1 : (L.flatMap csI).length = L.length := oneI.flat L
    gi_wp2_with (gi_at_builtin; refine wpListIn_append_own _ rfl _ _ 37 rfl B0 3 i0 (.int .i64 0) 1 8 (by kernel_rfl) hi' hz0 hz1 hz2 rfl (by decide) (.slice A' L.length cap') L.length _ rfl i2a ⟨W.heap.size, 0, none⟩ 1 1 [.int .i64 (sgn x.1)] rfl rfl (cell_one_new _ _ _) (by simp [Value.oneCell']) (by unfold maxLen; omega) (by omega) (by simp; omega) ?_; intro v' w1 hown' hgrow _; obtain ⟨g', cap2, rfl⟩ := ownsRow_succ hown'; have b9 : Boxed w1 w.heap.size 37 (.slice A' L.length cap') := (hgrow.block w.heap.size (by simp; omega) (fun e => hne2 e.symm)).trans (i1.alloc _); have c9 := b9.cell; have f9 := b9.frozen)
    have b8 : Boxed w1 (w.heap.size + 1) 26 u' := (hgrow.block (w.heap.size + 1) (by simp; omega) (fun e => hne e.symm)).trans (i3.alloc _)
    have hr9 : Row csI 3 w1 B0 (.slice (some ⟨g', 0, none⟩) (L.length + 1) cap2) (L ++ [sgn x.1]) := Row.snoc hown'
    have hne3 := row_box hr9 b9 (by decide)
    have ha : Below B0 W (W.alloc (.cells #[.int .i64 (sgn x.1)] 3)) := (Below.refl _ _).alloc (by omega) _
    have hb9 : Below B0 W w1 := ha.grown hgrow (by simp; omega) (fun k hk => by have := row_len i2 k hk; omega)
    have hk9 : KeepsFrom (w.heap.size + 2) W w1 := (((KeepsOthers.alloc W (.cells #[.int .i64 (sgn x.1)] 3)).trans (KeepsOthers.of_grownBy hgrow (fun j o e ho => by
      rcases i2a.2 with ⟨h1, _⟩ | ⟨g, c, cur, h1, _, h2, _⟩
      · rw [h1] at e; cases e
      · rw [h1] at e; cases e; rw [h2] at ho; cases ho; rfl))).from _)
    refine ⟨hk9.trans ((KeepsOthers.setCell _ _ _).from _), ⟨(hb9.mono hB).setCell (by dsimp only; omega) _, fun k h1 h2 => ?_⟩, ⟨⟨_, b9.set _, ?_⟩, ⟨u', b8.other (by omega) _⟩, (i4.trans hb9).setCell (by dsimp only; omega) _⟩⟩
    · obtain rfl : k = w.heap.size + 1 := by omega
      rw [Below.heap_setCell _ _ _ _ (by dsimp only; omega)]
      exact (hgrow.block (w.heap.size + 1) (by simp; omega) (fun e => hne e.symm)).trans (Below.heap_alloc _ _ _ (by omega))
    · rw [HT.out]
      exact row_kept hr9 fun k o h1 _ h2 => (Below.heap_setCell _ _ _ _ (by rintro rfl; exact hne3 h2)).trans h1
  case done =>
    rintro D ys W hD hys ⟨⟨v, i1, i2⟩, ⟨u', i3⟩, i4⟩ hK
    obtain ⟨A', cap', hv, _⟩ := i2.sl (fun _ => rfl)
    subst hv
    have e1 : l0 ++ ys.map (fun x : WU => sgn x.1) = l0 ++ (wordsN xs).map sgn := by rw [← hys, List.map_map]; rfl
    rw [e1] at i1 i2
    have hln : (l0 ++ (wordsN xs).map sgn).length ≤ 16999999999999 := by
      have := HW.out
      have := HL.out
      simp
      omega
    have HT : Hid (withN l0 xs = (l0 ++ (wordsN xs).map sgn) ++ [(n : Int)]) := by unfold Hid withN; rw [HL.out]
    obtain ⟨i0, hi', hz0, hz1, hz2⟩ := info_parts infoI
    clear e1 hys
    generalize l0 ++ (wordsN xs).map sgn = L at *
    have c1 := i1.cell
    have hWs := i4.size
    have i2a := i2.alloc (.cells #[.int .i64 n] 3)
    unfold Row at i2a
    have hL1 : (L.flatMap csI).length = L.length := oneI.flat L
    have hDl := (Array.getElem?_eq_some_iff.1 hK).1
    have hDrow : (Value.slice A' L.length cap').ownBlock ≠ some D := fun e => by
      rcases i2.2 with ⟨h1, _⟩ | ⟨g, c, cur, h1, _, h2, _⟩
      · rw [h1] at e; cases e
      · rw [h1] at e; cases e; rw [h2] at hK; cases hK
    gi_wp2_with (gi_at_builtin; refine wpListIn_append_own _ rfl _ _ 37 rfl B0 3 i0 (.int .i64 0) 1 8 (by kernel_rfl) hi' hz0 hz1 hz2 rfl (by decide) (.slice A' L.length cap') L.length _ rfl i2a ⟨W.heap.size, 0, none⟩ 1 1 [.int .i64 n] rfl rfl (cell_one_new _ _ _) (by simp [Value.oneCell']) (by unfold maxLen; omega) (by omega) (by simp; omega) ?_; intro v' w1 hown' hgrow _; obtain ⟨g', cap2, rfl⟩ := ownsRow_succ hown')
    have hK1 : w1.heap[D]? = some (.deferred (some [])) := (hgrow.block D (by simp; omega) (fun e => hDrow e.symm)).trans ((Below.heap_alloc _ _ _ hDl).trans hK)
    have ha : Below B0 W (W.alloc (.cells #[.int .i64 n] 3)) := (Below.refl _ _).alloc (by omega) _
    have hb9 : Below B0 w w1 := i4.trans (ha.grown hgrow (by simp; omega) (fun k hk => by have := row_len i2 k hk; omega))
    have hr9 : Row csI 3 w1 B0 (.slice (some ⟨g', 0, none⟩) (L.length + 1) cap2) (withN l0 xs) := by rw [HT.out]; exact Row.snoc hown'
    refine ⟨by simp, .inl ⟨_, _, rfl, run_takeDeferred hK1, ?_⟩⟩
    refine ⟨_, results_tmp rfl _ _ _, _, rfl, row_kept hr9 fun k o h1 h2 _ => ?_, hb9.trans (belowK_b (w := w) hB0 w1 D _ _ (by omega) hK1 rfl rfl)⟩
    exact (World.putObj_heap_other (by rintro rfl; rw [hK1] at h1; cases h1; cases h2)).trans h1

end Go.Proofs.Ytcljmnbjejcdaaa
