/-
  hash.Sum, hash.Tag.
-/
import Derived.Test.YtcljmnbjejcdaaaHashW
namespace Go.Proofs.Ytcljmnbjejcdaaa
open Go.ChangeShapes Go.WideShapes Go.ChangeAt Go.RowKit Go.Shelf

attribute [local go_sem] Oper.semAt_some

/-- between two rounds of 'Sum' over the label's words -/
structure SumI (w : World) (n2 nb : Nat) (pre : List WU) (W : World) : Prop where
  ex : Boxed W n2 23 (.int .u64 (mixL 0 (pre.map (·.1)) : Nat))
  bx : ∃ u, Boxed W nb 26 u
  below : Below w.heap.size w W

set_option maxRecDepth 100000 in
set_option maxHeartbeats 2000000 in
theorem sum_in (m : Nat) (hm : 3 ≤ m) (B : Nat) (s : ByteArray) (A : Option Addr) (n cap : Nat) (l : List Int) (w : World) (h : Sl csI 1 w B A n cap l) (hB : B ≤ w.heap.size) (hs : s.size ≤ 1000) (hr : n ≤ 100000000000000) (hl : ∀ x ∈ l, I64 x) :
    CallsIn Fence.wide m Try.prog 32 #[.string s, .slice A n cap] w fun e w' => e = .returned (.int .u64 (sumN s.data.toList l : Nat)) ∧ Below w.heap.size w w' := by
  have h1 : 1 ≤ m := by omega
  have hn := h.ncap
  have hcm := h.cmax
  have b0 := Boxed.new w 23 (.int .u64 0)
  have hb0 : Below w.heap.size w (w.alloc (.cells #[.int .u64 0] 23)) := (Below.refl _ _).alloc (Nat.le_refl _) _
  have hs0 : (w.alloc (.cells #[.int .u64 0] 23)).heap.size = w.heap.size + 1 := by simp
  obtain ⟨cs, w1, hconv, hSs, hb1, hz1⟩ := bytes_of_string s (by omega) (w.alloc (.cells #[.int .u64 0] 23))
  rw [hs0] at hSs hb1 hz1 hconv
  refine callsIn_of_wp_marks Try.func32 rfl trivial ?_ rfl
  simp only [Try.ntmps32, List.size_toArray, List.length_cons, List.length_nil, Nat.reduceAdd, Nat.reduceSub, Array.replicate_succ, Array.replicate_zero, List.push_toArray, List.append_toArray, List.nil_append, List.cons_append]
  gi_wp2_with (refine ⟨trivial, ?_⟩; gi_at_call 42; refine (words_in Fence.wide (m - 1) trivial rfl _ _ _ _).mono ?_; rintro e w' ⟨rfl, rfl⟩)
  obtain ⟨V, hV⟩ : ∃ V, w1.alloc (.cells #[.slice (some ⟨w.heap.size + 1, 0, none⟩) s.size cs] 26) = V := ⟨_, rfl⟩
  have bV1 : Below w1.heap.size w1 V := by rw [← hV]; exact (Below.refl _ w1).alloc (Nat.le_refl _) _
  have bV : Below w.heap.size w V := (hb0.trans (hb1.mono (by omega))).trans (bV1.mono (by omega))
  have sV : V.heap.size = w.heap.size + 3 := by rw [← hV]; simp; omega
  have b2 : Boxed V w.heap.size 23 (.int .u64 0) := (bV1.block w.heap.size (by omega)).trans ((hb1.block w.heap.size (by omega)).trans b0)
  have b1 : Boxed V (w.heap.size + 1 + 1) 26 (.slice (some ⟨w.heap.size + 1, 0, none⟩) s.size cs) := by
    rw [← hV]
    have := Boxed.new w1 26 (.slice (some ⟨w.heap.size + 1, 0, none⟩) s.size cs)
    rwa [hz1] at this
  rw [hV]
  clear hV
  have slV := hSs.below bV1 (Nat.le_refl _)
  have HS := Lib.hid h
  have hwl := wordsN_len s.data.toList
  have hsz := bytes_len s
  have HE : Hid (sumN s.data.toList l = mixL (mixN (mixN (mixL 0 (wordsN s.data.toList)) s.data.toList.length) l.length) (l.map uns)) := rfl
  have HZ := Lib.hid hsz
  have HL := Lib.hid hl
  have HLL := Lib.hid h.len
  have HWL := Lib.hid hwl
  clear hsz hl hwl hSs h hconv
  refine wpIn_range_box (bN := w.heap.size + 1 + 1) rfl h1 (gf := 49) (lb := #[.pointer (some ⟨w.heap.size + 1 + 1, 0, none⟩)]) rfl trivial (enters_of Try.func49 (by kernel_rfl) rfl)
    (words1_seq Fence.wide (m - 1) trivial rfl (by omega) (w.heap.size + 1 + 1) w.heap.size (w.heap.size + 1) (w.heap.size + 3) w1.heap.size _ s.size cs s.data.toList V b1 slV (by omega) (by omega) (by omega) (fun _ => ⟨_, _, rfl, .inr ⟨by omega, by omega⟩⟩)) (by omega) kpX_t (kpX_b (by omega) (by omega)) (fun _ => rfl)
    (SumI w w.heap.size (w.heap.size + 1 + 1)) ?hI ?hIb ⟨b2, ⟨_, b1⟩, bV⟩
    (fun x => { tmps := #[.string s, .slice A n cap, undef, undef, .int .u64 0, .pointer (some ⟨w.heap.size, 0, none⟩), .int .u64 (x.1 : Int), undef, undef, .string s, .slice (some ⟨w.heap.size + 1, 0, none⟩) s.size cs, .func (.func 49) #[] #[.pointer (some ⟨w.heap.size + 1 + 1, 0, none⟩)], .int .u64 (x.1 : Int), undef, undef, undef, undef, undef, undef, undef, undef, undef, undef, undef, undef, undef, undef, undef, undef, undef, undef, undef, undef, undef, undef, undef, undef], defers := [] })
    ?assign ?body ?done
  case hI =>
    rintro pre X Y row ⟨i1, ⟨u, i3⟩, i4⟩ hg hr
    have hr' : ∀ r, row = some r → ∃ o : Obj, X.heap[r]? = some o ∧ o.isCells = false := fun r e => (hr r e).2
    exact ⟨boxed_kept i1 hg hr', ⟨u, boxed_kept i3 hg hr'⟩, i4.trans ((Below.refl _ X).grown hg (by have := i4.size; omega) (fun k e => by have := (hr k e).1; omega))⟩
  case hIb =>
    rintro pre X u ⟨i1, ⟨u', i3⟩, i4⟩
    exact ⟨i1.other (by omega) _, ⟨_, i3.set _⟩, i4.setCell (by dsimp only; omega) _⟩
  case assign =>
    intro l x W K hK
    gi_wp2
    exact hK
  case body =>
    rintro l pre x W hl' ⟨i1, ⟨u', i3⟩, i4⟩ hlen
    have hx := x.2
    have hM := mixL_lt (show U64 0 by unfold U64; omega) (pre.map (·.1))
    have HT : Hid (mixL 0 ((pre ++ [x]).map (·.1)) = mixN (mixL 0 (pre.map (·.1))) x.1) := by rw [Hid, List.map_append, List.map_cons, List.map_nil, mixL_snoc]
    generalize mixL 0 (pre.map (·.1)) = M at *
    have c1 := i1.cell
    have f1 := i1.frozen
    have hWs := i4.size
    have hm2 : 1 ≤ m - 1 - 1 := by omega
    gi_wp2_with (refine ⟨trivial, ?_⟩; gi_at_call 43; refine (CallsIn.inRound l (callsIn_wide.2 (mix_any M x.1 hM hx _))).mono ?_; rintro e w' ⟨rfl, rfl⟩)
    rw [← HT.out]
    refine ⟨(KeepsOthers.setCell _ _ _).from _, ⟨(Below.refl _ _).setCell (by dsimp only; omega) _, fun k h1 h2 => Below.heap_setCell _ _ _ _ (by dsimp only; omega)⟩, ⟨i1.set _, ⟨u', i3.other (by omega) _⟩, i4.setCell (by dsimp only; omega) _⟩⟩
  case done =>
    rintro D ys W hD hys ⟨i1, ⟨u', i3⟩, i4⟩ hK
    rw [hys] at i1
    have hsU : U64 s.size := by unfold U64; omega
    have hnU : U64 n := by unfold U64; omega
    have hM := mixL_lt (show U64 0 by unfold U64; omega) (wordsN s.data.toList)
    have HE1 : Hid (sumN s.data.toList l = mixL (mixN (mixN (mixL 0 (wordsN s.data.toList)) s.size) n) (l.map uns)) := by rw [Hid, HE.out, HZ.out, HLL.out]
    generalize mixL 0 (wordsN s.data.toList) = M at *
    clear hys HE
    have c1 := i1.cell
    have f1 := i1.frozen
    have hWs := i4.size
    have hslW := HS.out.below i4 hB
    have hDne : w.heap.size ≠ D := by omega
    gi_wp2_with fail
    refine ⟨trivial, ?_⟩
    refine (callsIn_wide.2 (mix_any M s.size hM hsU _)).mono ?_
    rintro e w' ⟨rfl, rfl⟩
    gi_wp2_with fail
    refine ⟨trivial, ?_⟩
    refine (callsIn_wide.2 (mix_any (mixN M s.size) n (mixN_lt _ _) hnU _)).mono ?_
    rintro e w' ⟨rfl, rfl⟩
    have hU1 : U64 (mixN (mixN M s.size) n) := mixN_lt _ _
    generalize mixN (mixN M s.size) n = M1 at *
    have i5 := i1.set (.int .u64 (M1 : Int))
    have i6 := i4.setCell (p := ⟨w.heap.size, 0, none⟩) (by dsimp only; omega) (.int .u64 (M1 : Int))
    have hK2 : (W.setCell ⟨w.heap.size, 0, none⟩ (.int .u64 (M1 : Int))).heap[D]? = some (.deferred (some [])) := (Below.heap_setCell _ _ _ _ (by dsimp only; omega)).trans hK
    gi_wp2
    obtain ⟨W2, hW2⟩ : ∃ W2, W.setCell ⟨w.heap.size, 0, none⟩ (.int .u64 (M1 : Int)) = W2 := ⟨_, rfl⟩
    rw [hW2] at i5 i6 hK2 ⊢
    clear hW2 hslW i1 i3 i4 c1 f1 hK
    gi_loopw [27] (fun i wr => ∃ k : Nat, k ≤ n ∧ i = .int .i64 k ∧ Boxed wr w.heap.size 23 (.int .u64 (mixL M1 ((l.map uns).take k) : Nat)) ∧ Below w.heap.size w wr ∧ wr.heap[D]? = some (.deferred (some []))) (fun i _ => n - (intOf i).toNat)
    case atStart => exact ⟨0, by omega, rfl, by rw [mixL_zero]; exact i5, i6, hK2⟩
    case round =>
      obtain ⟨k, hk, rfl, j1, j2, j3⟩ := hrel
      by_cases hlt : k < n
      · obtain ⟨b1', o1, x, rfl, hb1', hx, cx⟩ := (HS.out.below j2 hB).int_at hlt
        have hxu := uns_lt x
        have hwx := uns_wrap x
        have HT : Hid (mixL M1 ((l.map uns).take (k + 1)) = mixN (mixL M1 ((l.map uns).take k)) (uns x)) := by
          rw [Hid, take_snoc (uns_get hx), mixL_snoc]
        have hU2 : U64 (mixL M1 ((l.map uns).take k)) := mixL_lt hU1 _
        have hkn : (k : Int) < n := by omega
        clear hx
        generalize mixL M1 ((l.map uns).take k) = M2 at *
        have c1 := j1.cell
        have f1 := j1.frozen
        have hWs2 := j2.size
        gi_wp2_with fail
        refine ⟨trivial, ?_⟩
        refine (callsIn_wide.2 (mix_any M2 (uns x) hU2 hxu _)).mono ?_
        rintro e w' ⟨rfl, rfl⟩
        rw [← HT.out]
        have j4 := j1.set (.int .u64 (mixL M1 ((l.map uns).take (k + 1)) : Nat))
        have j5 := j2.setCell (p := ⟨w.heap.size, 0, none⟩) (by dsimp only; omega) (.int .u64 (mixL M1 ((l.map uns).take (k + 1)) : Nat))
        have j6 : (wr.setCell ⟨w.heap.size, 0, none⟩ (.int .u64 (mixL M1 ((l.map uns).take (k + 1)) : Nat))).heap[D]? = some (.deferred (some [])) := (Below.heap_setCell _ _ _ _ (by dsimp only; omega)).trans j3
        generalize hM3 : mixL M1 ((l.map uns).take (k + 1)) = M3 at *
        have HM3 := Lib.hid hM3
        clear hM3
        gi_wp2
        go_roundw
        case rel => exact ⟨k + 1, by omega, by go_num, by rw [HM3.out]; exact j4, j5, j6⟩
        case measure => simp [intOf]; omega
      · obtain rfl : k = n := by omega
        have HF : Hid (mixL M1 ((l.map uns).take k) = sumN s.data.toList l) := by
          rw [Hid, HE1.out, List.take_of_length_le (by rw [List.length_map, HLL.out]; omega)]
        rw [HF.out] at j1
        have c1 := j1.cell
        gi_wp2
        refine ⟨by simp, .inl ⟨_, _, rfl, run_takeDeferred j3, ?_⟩⟩
        exact ⟨_, results_tmp rfl _ _ _, rfl, j2.trans (belowK_b (w := w) (Nat.le_refl _) _ D _ _ (by omega) j3 rfl rfl)⟩

theorem sum_any (B : Nat) (s : ByteArray) (A : Option Addr) (n cap : Nat) (l : List Int) (w : World) (h : Sl csI 1 w B A n cap l) (hB : B ≤ w.heap.size) (hs : s.size ≤ 1000) (hr : n ≤ 100000000000000) (hl : ∀ x ∈ l, I64 x) :
    Calls Try.prog 32 #[.string s, .slice A n cap] w fun e w' => e = .returned (.int .u64 (sumN s.data.toList l : Nat)) ∧ Below w.heap.size w w' :=
  (callsIn_wide (n := 3)).1 (sum_in 3 (by omega) B s A n cap l w h hB hs hr hl)
theorem with_any (B0 B : Nat) (v0 : Value) (l0 : List Int) (A : Option Addr) (n cap : Nat) (xs : List UInt8) (w : World) (h0 : Row csI 3 w B0 v0 l0) (hB0 : B0 ≤ w.heap.size) (hl0 : l0.length ≤ 100) (h : Sl csB 1 w B A n cap xs) (hB : B ≤ B0) (hr : n ≤ 100000000000000) :
    Calls Try.prog 33 #[v0, .slice A n cap] w fun e w' => ∃ v, e = .returned v ∧ Row csI 3 w' B0 v (withN l0 xs) ∧ Below B0 w w' :=
  (callsIn_wide (n := 3)).1 (with_in 3 (by omega) B0 B v0 l0 A n cap xs w h0 hB0 hl0 h hB hr)

set_option maxRecDepth 100000 in
set_option maxHeartbeats 2000000 in
theorem tag_any (B : Nat) (key : Nat) (hk : U64 key) (A : Option Addr) (n cap : Nat) (xs : List UInt8) (w : World) (h : Sl csB 1 w B A n cap xs) (hB : B ≤ w.heap.size) (hr : n ≤ 1000000000000) :
    Calls Try.prog 24 #[.int .u64 key, .slice A n cap] w fun e w' => e = .returned (.int .u64 (tagN key xs : Nat)) ∧ Below w.heap.size w w' := by
  have hks := wrap_sgn hk
  have HL := Lib.hid h.len
  have HT : Hid (tagN key xs = sumN tagS.data.toList (withN [sgn key] xs)) := by rw [Hid, tagS_eq]; rfl
  go_enter Try.func24, Try.ntmps24
  go_wp2_with fail
  have hrow := Row.lit1 (cs := csI) w 3 (sgn key) (.int .i64 (sgn key)) rfl
  have hb0 : Below w.heap.size w (w.alloc (.cells #[.int .i64 (sgn key)] 3)) := (Below.refl _ _).alloc (Nat.le_refl _) _
  have hsl := h.below hb0 hB
  refine (with_any w.heap.size B _ [sgn key] A n cap xs _ hrow (by simp) (by simp) hsl hB (by omega)).mono ?_
  rintro e w1 ⟨v1, rfl, hR1, hb1⟩
  have hlen := withN_len [sgn key] xs
  have hok := withN_ok (l := [sgn key]) (b := xs) (fun x hx => by rw [List.mem_singleton] at hx; subst hx; exact sgn_bd hk) (by rw [HL.out]; omega)
  rw [HL.out] at hlen
  obtain ⟨A1, cap1, rfl, hS1⟩ := hR1.sl (fun _ => rfl)
  have hbw := hb0.trans (hb1.mono (Nat.le_refl _))
  obtain ⟨L, hL⟩ : ∃ L, withN [sgn key] xs = L := ⟨_, rfl⟩
  rw [hL] at hS1 hlen hok HT ⊢
  have HK := Lib.hid hok
  have HN := Lib.hid hlen
  clear hL hok hlen hR1
  go_wp2_with fail
  refine (sum_any w1.heap.size tagS A1 _ cap1 L w1 hS1 (Nat.le_refl _) (by decide) (by have := HN.out; simp at this; omega) HK.out).mono ?_
  rintro e w2 ⟨rfl, hb2⟩
  rw [← HT.out]
  go_wp2
  go_ret
  exact ⟨rfl, hbw.trans (hb2.mono hbw.size)⟩

end Go.Proofs.Ytcljmnbjejcdaaa
