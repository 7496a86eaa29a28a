/-
  orbit.Ticks: a caller of the iterator.
-/
import Derived.Test.YtijocgijnbcefaaOrbG
namespace Go.Proofs.Ytijocgijnbcefaa
open Go.ChangeShapes Go.WideShapes Go.ChangeAt Go.RowKit Go.Shelf

attribute [local go_sem] Oper.semAt_some

/-- between two rounds -/
def TI (w W0 : World) (kk aa bb f u : Int) (pre : List { t : Win // t.Formed ∧ t.key kk aa bb = true }) (W : World) : Prop :=
  ((((∀ t ∈ pre.map (·.1), t.Formed) ∧ Boxed W w.heap.size 3 (.int .i64 f)) ∧ Boxed W (w.heap.size + 1) 3 (.int .i64 u)) ∧ Boxed W (w.heap.size + 1 + 1) 3 (.int .i64 (ticks kk aa bb f u (pre.map (·.1))))) ∧ (Below w.heap.size w W ∧ Below 0 W0 W)

set_option maxRecDepth 100000 in
set_option maxHeartbeats 2000000 in
theorem ticks_in (m : Nat) (hm : 3 ≤ m) (B : Nat) (A : Option Addr) (n cap : Nat) (ts : List Win) (kk aa bb f u : Int) (w : World) (hS : Sl csW 6 w B A n cap ts) (hB : B ≤ w.heap.size)
    (hF : ∀ t ∈ ts, t.Formed) (h200 : n ≤ 1000) :
    CallsIn Fence.wide m Try.prog 22 #[.slice A n cap, .int .i64 kk, .int .i64 aa, .int .i64 bb, .int .i64 f, .int .i64 u] w fun e w' => e = .returned (.int .i64 (ticks kk aa bb f u ts)) ∧ Below w.heap.size w w' := by
  have h1 : 1 ≤ m := by omega
  refine callsIn_of_wp_marks Try.func22 rfl trivial ?_ rfl
  simp only [Try.ntmps22, List.size_toArray, List.length_cons, List.length_nil, Nat.reduceAdd, Nat.reduceSub, Array.replicate_succ, Array.replicate_zero, List.push_toArray, List.append_toArray, List.nil_append, List.cons_append]
  gi_wp2_with (refine ⟨trivial, ?_⟩; gi_at_call 46; refine (of_in Fence.wide (m - 1) trivial rfl _ _ _ _ _ _ _).mono ?_; rintro e w' ⟨rfl, rfl⟩)
  have bX := OfBox.new (((w.alloc (.cells #[.int .i64 f] 3)).alloc (.cells #[.int .i64 u] 3)).alloc (.cells #[.int .i64 0] 3)) A n cap kk aa bb
  have bO := ((((Boxed.new ((w.alloc (.cells #[.int .i64 f] 3)).alloc (.cells #[.int .i64 u] 3)) 3 (.int .i64 0)).alloc (.cells #[.slice A n cap] 22)).alloc (.cells #[.int .i64 kk] 3)).alloc (.cells #[.int .i64 aa] 3)).alloc (.cells #[.int .i64 bb] 3)
  have bR := (((((Boxed.new (w.alloc (.cells #[.int .i64 f] 3)) 3 (.int .i64 u)).alloc (.cells #[.int .i64 0] 3)).alloc (.cells #[.slice A n cap] 22)).alloc (.cells #[.int .i64 kk] 3)).alloc (.cells #[.int .i64 aa] 3)).alloc (.cells #[.int .i64 bb] 3)
  have bT := ((((((Boxed.new w 3 (.int .i64 f)).alloc (.cells #[.int .i64 u] 3)).alloc (.cells #[.int .i64 0] 3)).alloc (.cells #[.slice A n cap] 22)).alloc (.cells #[.int .i64 kk] 3)).alloc (.cells #[.int .i64 aa] 3)).alloc (.cells #[.int .i64 bb] 3)
  simp only [World.size_alloc] at bX bO bR
  have hB0 : Below w.heap.size w (((((((w.alloc (.cells #[.int .i64 f] 3)).alloc (.cells #[.int .i64 u] 3)).alloc (.cells #[.int .i64 0] 3)).alloc (.cells #[.slice A n cap] 22)).alloc (.cells #[.int .i64 kk] 3)).alloc (.cells #[.int .i64 aa] 3)).alloc (.cells #[.int .i64 bb] 3)) :=
    (((((((Below.refl _ w).alloc (Nat.le_refl _) _).alloc (by simp) _).alloc (by simp; omega) _).alloc (by simp; omega) _).alloc (by simp; omega) _).alloc (by simp; omega) _).alloc (by simp; omega) _
  have hsz : (((((((w.alloc (.cells #[.int .i64 f] 3)).alloc (.cells #[.int .i64 u] 3)).alloc (.cells #[.int .i64 0] 3)).alloc (.cells #[.slice A n cap] 22)).alloc (.cells #[.int .i64 kk] 3)).alloc (.cells #[.int .i64 aa] 3)).alloc (.cells #[.int .i64 bb] 3)).heap.size = w.heap.size + 7 := by simp
  obtain ⟨W0, hW0⟩ : ∃ W0, (((((((w.alloc (.cells #[.int .i64 f] 3)).alloc (.cells #[.int .i64 u] 3)).alloc (.cells #[.int .i64 0] 3)).alloc (.cells #[.slice A n cap] 22)).alloc (.cells #[.int .i64 kk] 3)).alloc (.cells #[.int .i64 aa] 3)).alloc (.cells #[.int .i64 bb] 3)) = W0 := ⟨_, rfl⟩
  rw [hW0] at bX bO bR bT hB0 hsz ⊢
  clear hW0
  have hFf : ∀ t ∈ ts.filter (·.key kk aa bb), t.Formed ∧ t.key kk aa bb = true := fun t ht => ⟨hF t (List.mem_filter.1 ht).1, by simpa using (List.mem_filter.1 ht).2⟩
  refine wpIn_rangeFunc_ownH rfl h1 (gf := 56) (lb := #[.pointer (some ⟨w.heap.size + 1 + 1 + 1, 0, none⟩), .pointer (some ⟨w.heap.size + 1 + 1 + 1 + 1, 0, none⟩), .pointer (some ⟨w.heap.size + 1 + 1 + 1 + 1 + 1, 0, none⟩), .pointer (some ⟨w.heap.size + 1 + 1 + 1 + 1 + 1 + 1, 0, none⟩)]) rfl trivial (enters_of Try.func56 (by kernel_rfl) rfl)
    (of_stops_p (fun t => t.Formed ∧ t.key kk aa bb = true) Fence.wide (m - 1) trivial rfl (by omega) (w.heap.size + 1 + 1 + 1) w.heap.size A n cap ts kk aa bb W0 bX ((hS.below hB0 hB).more hB) (by omega) (by omega) hFf) kpX_t (kpX_b (by omega) (by omega)) (Below.refl _ _) (fun _ => rfl)
    (TI w W0 kk aa bb f u)
    (fun _ _ _ => False)
    (OwnFrom.and (OwnFrom.and (OwnFrom.and (OwnFrom.and (ownFrom_pure _ _) (Own.from (boxed_own _ _ _) _)) (Own.from (boxed_own _ _ _) _)) (Own.from (boxed_own _ _ _) _)) (OwnFrom.and (ownFrom_below (Nat.le_refl _) (by omega)) (ownFrom_below (Nat.zero_le _) (Nat.zero_le _))))
    (fun _ _ _ _ _ hs _ _ => hs)
    ⟨⟨⟨⟨by simp, bT⟩, bR⟩, bO⟩, hB0, Below.refl _ _⟩
    (fun x a' W => ∃ Bx, w.heap.size + 6 < Bx ∧ Blk W Bx 31 #[.int .i64 x.1.kind, .int .i64 x.1.a, .int .i64 x.1.b, .int .i64 x.1.lo, .int .i64 x.1.hi, .int .i64 x.1.rate] ∧ a' = { tmps := #[.slice A n cap, .int .i64 kk, .int .i64 aa, .int .i64 bb, .int .i64 f, .int .i64 u, undef, undef, undef, undef, .pointer (some ⟨w.heap.size, 0, none⟩), .pointer (some ⟨w.heap.size + 1, 0, none⟩), .int .i64 0, .pointer (some ⟨w.heap.size + 1 + 1, 0, none⟩), .pointer (some ⟨Bx, 0, none⟩), undef, undef, .slice A n cap, .int .i64 kk, .int .i64 aa, .int .i64 bb,
        .func (.func 56) #[] #[.pointer (some ⟨w.heap.size + 1 + 1 + 1, 0, none⟩), .pointer (some ⟨w.heap.size + 1 + 1 + 1 + 1, 0, none⟩), .pointer (some ⟨w.heap.size + 1 + 1 + 1 + 1 + 1, 0, none⟩), .pointer (some ⟨w.heap.size + 1 + 1 + 1 + 1 + 1 + 1, 0, none⟩)], x.1.val, undef, undef, undef, undef, undef, undef, undef, undef, undef, undef, undef, undef, undef, undef, undef, undef, undef], defers := [] })
    (fun x a' _ X Y row hs hg hr => by obtain ⟨Bx, e1, e2, e3⟩ := hs; exact ⟨Bx, e1, blk_own Bx _ (fun (_ : Unit) => #[Value.int .i64 x.1.kind, .int .i64 x.1.a, .int .i64 x.1.b, .int .i64 x.1.lo, .int .i64 x.1.hi, .int .i64 x.1.rate]) () X Y row e2 hg (fun r e => (hr r e).2), e3⟩)
    ?assign ?body ?done ?stop
  case assign =>
    rintro l pre x W K ⟨⟨⟨⟨hp, bT1⟩, bR1⟩, bO1⟩, hB1, hZ1⟩ hK
    have hs1 := hZ1.size
    gi_wp2
    exact hK _ _ ((KeepsOthers.alloc _ _).from _) ((KpX.refl _ _ _ W).alloc (by omega) (by omega) _) ⟨⟨⟨⟨hp, bT1.alloc _⟩, bR1.alloc _⟩, bO1.alloc _⟩, hB1.alloc hB1.size _, hZ1.alloc (Nat.zero_le _) _⟩ ⟨W.heap.size, by omega, Blk.new W _ _, rfl⟩
  case body =>
    rintro l pre ⟨x, hxF, hxk⟩ a' W hl ⟨r, hr⟩ ⟨⟨⟨⟨hp, bT1⟩, bR1⟩, bO1⟩, hB1, hZ1⟩ ⟨Bx, hBx, bX1, rfl⟩ hlt
    dsimp only at bX1
    have hsz' : W0.heap.size ≤ w.heap.size + 7 ∧ w.heap.size + 7 ≤ W0.heap.size := by omega
    clear hsz
    have hs1 := hZ1.size
    have hbd := ticks_bd (k := kk) (a := aa) (b := bb) (f := f) (u := u) (pre.map (·.1)) hp
    have hlen : (pre.map (·.1)).length ≤ 1000 := by
      have h1 := List.length_filter_le (·.key kk aa bb) ts
      have h2 := hS.len
      simp; omega
    have HT : Hid (ticks kk aa bb f u ((pre ++ [(⟨x, hxF, hxk⟩ : { t : Win // t.Formed ∧ t.key kk aa bb = true })]).map (·.1)) = ticks kk aa bb f u (pre.map (·.1)) + tick1 kk aa bb f u x) := by rw [Hid, List.map_append, List.map_cons, List.map_nil, ticks_snoc]
    have HP : Hid (∀ t ∈ (pre ++ [(⟨x, hxF, hxk⟩ : { t : Win // t.Formed ∧ t.key kk aa bb = true })]).map (·.1), t.Formed) := by
      intro t ht
      rw [List.map_append] at ht
      exact (List.mem_append.1 ht).elim (hp t) (fun e => by simp at e; rw [e]; exact hxF)
    have HY := Lib.hid (tick1_yes (f := f) (u := u) hxk)
    obtain ⟨T, hT⟩ : ∃ T, ticks kk aa bb f u (pre.map (·.1)) = T := ⟨_, rfl⟩
    rw [hT] at bO1 hbd
    have HTT := Lib.hid hT
    obtain ⟨t1, t2⟩ := hbd
    have t3 : T ≤ 1000000000 := by omega
    obtain ⟨b1, b2, b3, b4⟩ : 0 ≤ x.lo ∧ x.lo ≤ 1000000 ∧ 0 ≤ x.hi ∧ x.hi ≤ 1000000 := by unfold Win.Formed at hxF; omega
    have cT := bT1.cell
    have cR := bR1.cell
    have x3 := bX1.cell 3; have x4 := bX1.cell 4
    simp only [List.getElem?_toArray, List.getElem?_cons_zero, List.getElem?_cons_succ] at x3 x4
    have g0 := Gr.cell (H := W.heap.size) cT bT1.lt
    have g1 := Gr.cell (H := W.heap.size) cR bR1.lt
    have g3 := Gr.cell (H := W.heap.size) x3 bX1.lt
    have g4 := Gr.cell (H := W.heap.size) x4 bX1.lt
    clear cT cR x3 x4 hp hlt hT t2 hlen
    clear hFf hF
    gi_wp2
    refine wpIn_region_gr W.heap.size (by kernel_rfl) (by kernel_rfl) ?_
    repeat (go_big_quiet_step (fail))
    refine wpQuiet_nil ?_
    rintro w1 ⟨g, hg⟩
    have hb1 : Below W.heap.size W w1 := by rw [hg]; exact Gr.below
    clear hg g0 g1 g3 g4
    have bO2 : Boxed w1 (w.heap.size + 1 + 1) 3 (.int .i64 T) := (hb1.block _ bO1.lt).trans bO1
    have bT2 : Boxed w1 w.heap.size 3 (.int .i64 f) := (hb1.block _ bT1.lt).trans bT1
    have bR2 : Boxed w1 (w.heap.size + 1) 3 (.int .i64 u) := (hb1.block _ bR1.lt).trans bR1
    have hkp1 : KpX w.heap.size (w.heap.size + 1 + 1 + 1) (w.heap.size + 1 + 1 + 1 + 4) W w1 := ⟨hb1.mono hB1.size, fun k h1 h2 => hb1.block k (by omega)⟩
    have hkf : KeepsFrom W0.heap.size W w1 := ⟨hb1.size, fun k o _ hk _ => (hb1.block k (Array.getElem?_eq_some_iff.1 hk).1).trans hk⟩
    have hB2 := hB1.trans (hb1.mono hB1.size)
    have hZ2 := hZ1.trans (hb1.mono (Nat.zero_le _))
    obtain ⟨L, hL⟩ : ∃ L, (if f < x.lo then x.lo else f) = L := ⟨_, rfl⟩
    obtain ⟨G, hG⟩ : ∃ G, (if x.hi < u then x.hi else u) = G := ⟨_, rfl⟩
    rw [hL, hG]
    have HL : Hid (max f x.lo = L) := by rw [← hL]; unfold Hid; split <;> omega
    have HG : Hid (min u x.hi = G) := by rw [← hG]; unfold Hid; split <;> omega
    have l1 : 0 ≤ L := by have := HL.out; omega
    have l2 : G ≤ 1000000 := by have := HG.out; omega
    clear hL hG bO1 bT1 bR1 bX1 hB1 hZ1 hb1
    have cO := bO2.cell
    have fO := bO2.frozen
    by_cases hLG : L < G
    · have HS : Hid (T + (G - L) = ticks kk aa bb f u ((pre ++ [(⟨x, hxF, hxk⟩ : { t : Win // t.Formed ∧ t.key kk aa bb = true })]).map (·.1))) := by
        rw [Hid, HT.out, HTT.out, HY.out, HL.out, HG.out, if_pos hLG]
      gi_wp2
      exact ⟨hkf.trans ((KeepsOthers.setCell _ _ _).from _), hkp1.setCell (by simp; omega) (by simp) _, ⟨⟨⟨HP.out, bT2.other (by omega) _⟩, bR2.other (by omega) _⟩, by rw [← HS.out]; exact bO2.set _⟩, hB2.setCell (by simp; omega) _, hZ2.setCell (Nat.zero_le _) _⟩
    · have HS : Hid (T = ticks kk aa bb f u ((pre ++ [(⟨x, hxF, hxk⟩ : { t : Win // t.Formed ∧ t.key kk aa bb = true })]).map (·.1))) := by
        rw [Hid, HT.out, HTT.out, HY.out, HL.out, HG.out, if_neg hLG]; omega
      gi_wp2
      exact ⟨hkf, hkp1, ⟨⟨⟨HP.out, bT2⟩, bR2⟩, by rw [← HS.out]; exact bO2⟩, hB2, hZ2⟩
  case done =>
    rintro D ys W hD hys ⟨⟨⟨⟨hp, bT1⟩, bR1⟩, bO1⟩, hB1, hZ1⟩ hK
    rw [hys] at bO1
    have cO := bO1.cell
    have HE := Lib.hid (ticks_filter kk aa bb f u ts)
    clear hys hp hFf hF
    gi_wp2
    refine ⟨by simp, .inl ⟨_, _, rfl, run_takeDeferred hK, ?_⟩⟩
    exact ⟨_, results_tmp rfl _ _ _, by rw [← HE.out]; rfl, hB1.trans (belowK_b (w := w) (Nat.le_refl _) W D _ _ (by omega) hK rfl rfl)⟩
  case stop =>
    rintro D c pre W _ _ h _
    exact h.elim

theorem ticks_any (B : Nat) (A : Option Addr) (n cap : Nat) (ts : List Win) (kk aa bb f u : Int) (w : World) (hS : Sl csW 6 w B A n cap ts) (hB : B ≤ w.heap.size) (hF : ∀ t ∈ ts, t.Formed) (h200 : n ≤ 1000) :
    Calls Try.prog 22 #[.slice A n cap, .int .i64 kk, .int .i64 aa, .int .i64 bb, .int .i64 f, .int .i64 u] w fun e w' => e = .returned (.int .i64 (ticks kk aa bb f u ts)) ∧ Below w.heap.size w w' :=
  (callsIn_wide (n := 3)).1 (ticks_in 3 (by omega) B A n cap ts kk aa bb f u w hS hB hF h200)

end Go.Proofs.Ytijocgijnbcefaa
