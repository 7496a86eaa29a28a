/-
  orbit.Next, orbit.At, orbit.Ticks: callers of the iterator.
-/
import Derived.Test.YtijocgijnbcefaaOrbF
namespace Go.Proofs.Ytijocgijnbcefaa
open Go.ChangeShapes Go.WideShapes Go.ChangeAt Go.RowKit Go.Shelf

attribute [local go_sem] Oper.semAt_some

theorem Blk.set6 {w : World} {g : Nat} {ty : TypeId} (h : Blk w g ty z6) (t : Win) : Blk
    ((((((w.setCell ⟨g, 0, none⟩ (.int .i64 t.kind)).setCell ⟨g, 1, none⟩ (.int .i64 t.a)).setCell ⟨g, 2, none⟩ (.int .i64 t.b)).setCell ⟨g, 3, none⟩ (.int .i64 t.lo)).setCell ⟨g, 4, none⟩ (.int .i64 t.hi)).setCell ⟨g, 5, none⟩ (.int .i64 t.rate)) g ty
    #[.int .i64 t.kind, .int .i64 t.a, .int .i64 t.b, .int .i64 t.lo, .int .i64 t.hi, .int .i64 t.rate] :=
  (((((h.set_ 0 (.int .i64 t.kind)).set_ 1 (.int .i64 t.a)).set_ 2 (.int .i64 t.b)).set_ 3 (.int .i64 t.lo)).set_ 4 (.int .i64 t.hi)).set_ 5 (.int .i64 t.rate)
theorem keeps6 (w : World) (g : Nat) (t : Win) : KeepsOthers w
    ((((((w.setCell ⟨g, 0, none⟩ (.int .i64 t.kind)).setCell ⟨g, 1, none⟩ (.int .i64 t.a)).setCell ⟨g, 2, none⟩ (.int .i64 t.b)).setCell ⟨g, 3, none⟩ (.int .i64 t.lo)).setCell ⟨g, 4, none⟩ (.int .i64 t.hi)).setCell ⟨g, 5, none⟩ (.int .i64 t.rate)) :=
  (((((KeepsOthers.setCell _ _ _).trans (KeepsOthers.setCell _ _ _)).trans (KeepsOthers.setCell _ _ _)).trans (KeepsOthers.setCell _ _ _)).trans (KeepsOthers.setCell _ _ _)).trans (KeepsOthers.setCell _ _ _)
theorem boxed_far6 {w : World} {B g : Nat} {ty : TypeId} {v : Value} (h : Boxed w B ty v) (hne : B ≠ g) (t : Win) : Boxed
    ((((((w.setCell ⟨g, 0, none⟩ (.int .i64 t.kind)).setCell ⟨g, 1, none⟩ (.int .i64 t.a)).setCell ⟨g, 2, none⟩ (.int .i64 t.b)).setCell ⟨g, 3, none⟩ (.int .i64 t.lo)).setCell ⟨g, 4, none⟩ (.int .i64 t.hi)).setCell ⟨g, 5, none⟩ (.int .i64 t.rate)) B ty v :=
  (Below.heap_setCell _ _ _ _ (by simpa using hne)).trans ((Below.heap_setCell _ _ _ _ (by simpa using hne)).trans ((Below.heap_setCell _ _ _ _ (by simpa using hne)).trans ((Below.heap_setCell _ _ _ _ (by simpa using hne)).trans ((Below.heap_setCell _ _ _ _ (by simpa using hne)).trans ((Below.heap_setCell _ _ _ _ (by simpa using hne)).trans h)))))

theorem find_filter (k a b tick : Int) (ts : List Win) : (ts.filter (·.key k a b)).find? (fun t => decide (tick < t.hi)) = ts.find? (isNext k a b tick) := by
  rw [List.find?_filter]; congr 1; funext t; simp [isNext]

def nextOf (ts : List Win) (k a b tick : Int) : Option Win := ts.find? (isNext k a b tick)

theorem kpX_t {n₀ a b : Nat} : ∀ {A B C : World}, KpX n₀ a b A B → KpX n₀ a b B C → KpX n₀ a b A C := fun h k => h.trans k
theorem kpX_b {n₀ a b s : Nat} (h1 : n₀ ≤ s) (h2 : b ≤ s) : ∀ (W : World) (l : Nat) (o o' : Obj), s ≤ l → W.heap[l]? = some o → o.isCells = false → o.isWalk = false → KpX n₀ a b W (W.putObj l o') :=
  fun _ _ _ o' hl _ _ _ => KpX.putObj o' (by omega) (by omega)

set_option maxRecDepth 100000 in
set_option maxHeartbeats 2000000 in
theorem next_in (F : Fence) (m : Nat) (h20 : F.fn 20) (h5 : F.fn 46) (h6 : F.fn 56) (hro : F.round = none) (hm : 3 ≤ m) (B : Nat) (A : Option Addr) (n cap : Nat) (ts : List Win) (kk aa bb tick : Int) (w : World) (hS : Sl csW 6 w B A n cap ts) (hB : B ≤ w.heap.size) :
    CallsIn F m Try.prog 20 #[.slice A n cap, .int .i64 kk, .int .i64 aa, .int .i64 bb, .int .i64 tick] w fun e w' => e = .returned (found (nextOf ts kk aa bb tick)) ∧ Below w.heap.size w w' := by
  have h1 : 1 ≤ m := by omega
  refine callsIn_of_wp_marks Try.func20 rfl h20 ?_ hro
  simp only [Try.ntmps20, List.size_toArray, List.length_cons, List.length_nil, Nat.reduceAdd, Nat.reduceSub, Array.replicate_succ, Array.replicate_zero, List.push_toArray, List.append_toArray, List.nil_append, List.cons_append]
  gi_wp2_with (gi_at_call 46; refine (of_in F (m - 1) h5 hro _ _ _ _ _ _ _).mono ?_; rintro e w' ⟨rfl, rfl⟩)
  have bX := OfBox.new (((w.alloc (.cells #[.int .i64 tick] 3)).alloc (.cells #[.int .i64 0, .int .i64 0, .int .i64 0, .int .i64 0, .int .i64 0, .int .i64 0] 31)).alloc (.cells #[.bool false] 4)) A n cap kk aa bb
  have bO := ((((Boxed.new ((w.alloc (.cells #[.int .i64 tick] 3)).alloc (.cells #[.int .i64 0, .int .i64 0, .int .i64 0, .int .i64 0, .int .i64 0, .int .i64 0] 31)) 4 (.bool false)).alloc (.cells #[.slice A n cap] 22)).alloc (.cells #[.int .i64 kk] 3)).alloc (.cells #[.int .i64 aa] 3)).alloc (.cells #[.int .i64 bb] 3)
  have bR := (((((Blk.new (w.alloc (.cells #[.int .i64 tick] 3)) 31 z6).alloc (.cells #[.bool false] 4)).alloc (.cells #[.slice A n cap] 22)).alloc (.cells #[.int .i64 kk] 3)).alloc (.cells #[.int .i64 aa] 3)).alloc (.cells #[.int .i64 bb] 3)
  have bT := ((((((Boxed.new w 3 (.int .i64 tick)).alloc (.cells z6 31)).alloc (.cells #[.bool false] 4)).alloc (.cells #[.slice A n cap] 22)).alloc (.cells #[.int .i64 kk] 3)).alloc (.cells #[.int .i64 aa] 3)).alloc (.cells #[.int .i64 bb] 3)
  simp only [World.size_alloc] at bX bO bR
  have hB0 : Below w.heap.size w (((((((w.alloc (.cells #[.int .i64 tick] 3)).alloc (.cells z6 31)).alloc (.cells #[.bool false] 4)).alloc (.cells #[.slice A n cap] 22)).alloc (.cells #[.int .i64 kk] 3)).alloc (.cells #[.int .i64 aa] 3)).alloc (.cells #[.int .i64 bb] 3)) :=
    (((((((Below.refl _ w).alloc (Nat.le_refl _) _).alloc (by simp) _).alloc (by simp; omega) _).alloc (by simp; omega) _).alloc (by simp; omega) _).alloc (by simp; omega) _).alloc (by simp; omega) _
  have hsz : (((((((w.alloc (.cells #[.int .i64 tick] 3)).alloc (.cells z6 31)).alloc (.cells #[.bool false] 4)).alloc (.cells #[.slice A n cap] 22)).alloc (.cells #[.int .i64 kk] 3)).alloc (.cells #[.int .i64 aa] 3)).alloc (.cells #[.int .i64 bb] 3)).heap.size = w.heap.size + 7 := by simp
  unfold z6 at bR bT hB0 hsz
  obtain ⟨W0, hW0⟩ : ∃ W0, (((((((w.alloc (.cells #[.int .i64 tick] 3)).alloc (.cells #[.int .i64 0, .int .i64 0, .int .i64 0, .int .i64 0, .int .i64 0, .int .i64 0] 31)).alloc (.cells #[.bool false] 4)).alloc (.cells #[.slice A n cap] 22)).alloc (.cells #[.int .i64 kk] 3)).alloc (.cells #[.int .i64 aa] 3)).alloc (.cells #[.int .i64 bb] 3)) = W0 := ⟨_, rfl⟩
  rw [hW0] at bX bO bR bT hB0 hsz ⊢
  clear hW0
  refine wpIn_rangeFunc_ownH hro h1 (gf := 56) (lb := #[.pointer (some ⟨w.heap.size + 1 + 1 + 1, 0, none⟩), .pointer (some ⟨w.heap.size + 1 + 1 + 1 + 1, 0, none⟩), .pointer (some ⟨w.heap.size + 1 + 1 + 1 + 1 + 1, 0, none⟩), .pointer (some ⟨w.heap.size + 1 + 1 + 1 + 1 + 1 + 1, 0, none⟩)]) rfl h6 (enters_of Try.func56 (by kernel_rfl) rfl)
    (of_stops F (m - 1) h6 hro (by omega) (w.heap.size + 1 + 1 + 1) w.heap.size A n cap ts kk aa bb W0 bX ((hS.below hB0 hB).more hB) (by omega) (by omega)) kpX_t (kpX_b (by omega) (by omega)) (Below.refl _ _) (fun _ => rfl)
    (fun pre W => ((((∀ t ∈ pre, ¬ tick < t.hi) ∧ Boxed W w.heap.size 3 (.int .i64 tick)) ∧ Blk W (w.heap.size + 1) 31 z6) ∧ Boxed W (w.heap.size + 1 + 1) 4 (.bool false)) ∧ (Below w.heap.size w W ∧ Below 0 W0 W))
    (fun c pre W => ((c = .ret ∧ ∃ ini t, pre = ini ++ [t] ∧ (∀ x ∈ ini, ¬ tick < x.hi) ∧ tick < t.hi ∧ Blk W (w.heap.size + 1) 31 #[.int .i64 t.kind, .int .i64 t.a, .int .i64 t.b, .int .i64 t.lo, .int .i64 t.hi, .int .i64 t.rate]) ∧ Boxed W (w.heap.size + 1 + 1) 4 (.bool true)) ∧ Below w.heap.size w W)
    (OwnFrom.and (OwnFrom.and (OwnFrom.and (OwnFrom.and (ownFrom_pure _ _) (Own.from (boxed_own _ _ _) _)) (Own.from (blk_own _ _ _) _)) (Own.from (boxed_own _ _ _) _)) (OwnFrom.and (ownFrom_below (Nat.le_refl _) (by omega)) (ownFrom_below (Nat.zero_le _) (Nat.zero_le _))))
    (fun c => OwnFrom.and (OwnFrom.and (Own.from (fun s X Y row hs hg hr => by obtain ⟨hc, ini, t, e1, e2, e3, e4⟩ := hs; exact ⟨hc, ini, t, e1, e2, e3, blk_own _ _ (fun (_ : Unit) => #[Value.int .i64 t.kind, .int .i64 t.a, .int .i64 t.b, .int .i64 t.lo, .int .i64 t.hi, .int .i64 t.rate]) () X Y row e4 hg hr⟩) _) (Own.from (boxed_own _ _ _) _)) (ownFrom_below (Nat.le_refl _) (by omega)))
    ⟨⟨⟨⟨by simp, bT⟩, bR⟩, bO⟩, hB0, Below.refl _ _⟩
    (fun x a' W => ∃ Bx, w.heap.size + 6 < Bx ∧ Blk W Bx 31 #[.int .i64 x.kind, .int .i64 x.a, .int .i64 x.b, .int .i64 x.lo, .int .i64 x.hi, .int .i64 x.rate] ∧ a' = { tmps := #[.slice A n cap, .int .i64 kk, .int .i64 aa, .int .i64 bb, .int .i64 tick, undef, undef, undef, undef, .pointer (some ⟨w.heap.size, 0, none⟩), .pointer (some ⟨w.heap.size + 1, 0, none⟩), .pointer (some ⟨w.heap.size + 1 + 1, 0, none⟩), .pointer (some ⟨Bx, 0, none⟩), .slice A n cap, .int .i64 kk, .int .i64 aa, .int .i64 bb,
        .func (.func 56) #[] #[.pointer (some ⟨w.heap.size + 1 + 1 + 1, 0, none⟩), .pointer (some ⟨w.heap.size + 1 + 1 + 1 + 1, 0, none⟩), .pointer (some ⟨w.heap.size + 1 + 1 + 1 + 1 + 1, 0, none⟩), .pointer (some ⟨w.heap.size + 1 + 1 + 1 + 1 + 1 + 1, 0, none⟩)], x.val, undef, undef, undef, undef, undef, undef], defers := [] })
    (fun x a' _ X Y row hs hg hr => by obtain ⟨Bx, e1, e2, e3⟩ := hs; exact ⟨Bx, e1, blk_own Bx _ (fun (_ : Unit) => #[Value.int .i64 x.kind, .int .i64 x.a, .int .i64 x.b, .int .i64 x.lo, .int .i64 x.hi, .int .i64 x.rate]) () X Y row e2 hg (fun r e => (hr r e).2), e3⟩)
    ?assign ?body ?done ?stop
  case assign =>
    rintro l pre x W K ⟨⟨⟨⟨hp, bT1⟩, bR1⟩, bO1⟩, hB1, hZ1⟩ hK
    have hs1 := hZ1.size
    gi_wp2
    exact hK _ _ ((KeepsOthers.alloc _ _).from _) ((KpX.refl _ _ _ W).alloc (by omega) (by omega) _) ⟨⟨⟨⟨hp, bT1.alloc _⟩, bR1.alloc _⟩, bO1.alloc _⟩, hB1.alloc hB1.size _, hZ1.alloc (Nat.zero_le _) _⟩ ⟨W.heap.size, by omega, Blk.new W _ _, rfl⟩
  case body =>
    rintro l pre x a' W hl ⟨r, hr⟩ ⟨⟨⟨⟨hp, bT1⟩, bR1⟩, bO1⟩, hB1, hZ1⟩ ⟨Bx, hBx, bX1, rfl⟩ hlt
    have cT := bT1.cell
    have cO := bO1.cell
    have fO := bO1.frozen
    have x0 := bX1.cell 0; have x1 := bX1.cell 1; have x2 := bX1.cell 2; have x3 := bX1.cell 3; have x4 := bX1.cell 4; have x5 := bX1.cell 5
    simp only [List.getElem?_toArray, List.getElem?_cons_zero, List.getElem?_cons_succ] at x0 x1 x2 x3 x4 x5
    obtain ⟨z0, z1, z2, z3, z4, z5, f0, f1, f2, f3, f4, f5⟩ := bR1.free6
    by_cases hx : tick < x.hi
    · gi_wp2
      exact ⟨((keeps6 W (w.heap.size + 1) x).trans (KeepsOthers.setCell _ _ _)).from _, ⟨⟨rfl, pre, x, rfl, hp, hx, (bR1.set6 x).far (by simp) _⟩, (boxed_far6 bO1 (by omega) x).set _⟩, (below6 hB1 (by omega) x).setCell (by simp; omega) _⟩
    · gi_wp2
      exact ⟨KeepsFrom.refl _ _, KpX.refl _ _ _ _, ⟨⟨⟨fun t ht => (List.mem_append.1 ht).elim (hp t) (fun e => by simp at e; subst e; exact hx), bT1⟩, bR1⟩, bO1⟩, hB1, hZ1⟩
  case done =>
    rintro D ys W hD rfl ⟨⟨⟨⟨hp, bT1⟩, bR1⟩, bO1⟩, hB1, hZ1⟩ hK
    have cO := bO1.cell
    have fO := bO1.frozen
    obtain ⟨z0, z1, z2, z3, z4, z5, f0, f1, f2, f3, f4, f5⟩ := bR1.free6
    have HN : Hid (nextOf ts kk aa bb tick = none) := by
      rw [Hid, nextOf, ← find_filter, List.find?_eq_none]; intro t ht; simpa using hp t ht
    clear hp
    gi_wp2
    have hK' := ((keeps6 W (w.heap.size + 1) wz).trans (KeepsOthers.setCell _ ⟨w.heap.size + 1 + 1, 0, none⟩ (.bool false))).same D _ hK rfl
    have hR5 := ((bR1.set6 wz).far (p := ⟨w.heap.size + 1 + 1, 0, none⟩) (by simp) (.bool false)).grown (grownBy_putObj' _ D (.deferred none)) (by simp; omega)
    have hO5 := ((boxed_far6 bO1 (g := w.heap.size + 1) (by omega) wz).set (.bool false)).kept (grownBy_putObj' _ D (.deferred none)) (by simp; omega)
    refine ⟨by simp, .inl ⟨_, _, rfl, run_takeDeferred hK', ?_⟩⟩
    have r0 := hR5.cell 0; have r1 := hR5.cell 1; have r2 := hR5.cell 2; have r3 := hR5.cell 3; have r4 := hR5.cell 4; have r5 := hR5.cell 5
    have ro := hO5.cell
    refine ⟨.tuple #[wz.val, .bool false], ?_, by rw [HN.out]; rfl, ((below6 hB1 (by omega) wz).setCell (p := ⟨w.heap.size + 1 + 1, 0, none⟩) (by simp; omega) _).trans (belowK_b (w := w) (Nat.le_refl _) _ D _ _ (by omega) hK' rfl rfl)⟩
    simp only [wz] at r0 r1 r2 r3 r4 r5 ro
    simp [results, Try.f20, go_sem, r0, r1, r2, r3, r4, r5, ro, wz]
  case stop =>
    rintro D c pre W hD hpre ⟨⟨⟨rfl, ini, t, rfl, hini, ht, bR1⟩, bO1⟩, hB1⟩ hK
    have HN : Hid (nextOf ts kk aa bb tick = some t) := by
      obtain ⟨suf, hs⟩ := hpre
      rw [Hid, nextOf, ← find_filter, ← hs, List.append_assoc, List.find?_append, List.find?_eq_none.2 (fun x hx => by simpa using hini x hx)]
      simp [ht]
    gi_wp2
    refine ⟨by simp, .inl ⟨_, _, rfl, run_takeDeferred hK, ?_⟩⟩
    have hR5 := bR1.grown (grownBy_putObj' _ D (.deferred none)) (by simp; omega)
    have hO5 := bO1.kept (grownBy_putObj' _ D (.deferred none)) (by simp; omega)
    have r0 := hR5.cell 0; have r1 := hR5.cell 1; have r2 := hR5.cell 2; have r3 := hR5.cell 3; have r4 := hR5.cell 4; have r5 := hR5.cell 5
    have ro := hO5.cell
    refine ⟨.tuple #[t.val, .bool true], ?_, by rw [HN.out]; rfl, hB1.trans (belowK_b (w := w) (Nat.le_refl _) W D _ _ (by omega) hK rfl rfl)⟩
    simp [results, Try.f20, go_sem, r0, r1, r2, r3, r4, r5, ro]

theorem next_any (B : Nat) (A : Option Addr) (n cap : Nat) (ts : List Win) (kk aa bb tick : Int) (w : World) (hS : Sl csW 6 w B A n cap ts) (hB : B ≤ w.heap.size) :
    Calls Try.prog 20 #[.slice A n cap, .int .i64 kk, .int .i64 aa, .int .i64 bb, .int .i64 tick] w fun e w' => e = .returned (found (nextOf ts kk aa bb tick)) ∧ Below w.heap.size w w' := by
  exact (callsIn_wide (n := 3)).1 (next_in Fence.wide 3 trivial trivial trivial rfl (by omega) B A n cap ts kk aa bb tick w hS hB)

def atOf (ts : List Win) (k a b tick : Int) : Option Win := match nextOf ts k a b tick with
  | some t => if t.lo ≤ tick then some t else none
  | none => none

theorem at_any (B : Nat) (A : Option Addr) (n cap : Nat) (ts : List Win) (kk aa bb tick : Int) (w : World) (hS : Sl csW 6 w B A n cap ts) (hB : B ≤ w.heap.size) :
    Calls Try.prog 18 #[.slice A n cap, .int .i64 kk, .int .i64 aa, .int .i64 bb, .int .i64 tick] w fun e w' => e = .returned (found (atOf ts kk aa bb tick)) ∧ Below w.heap.size w w' := by
  have hS1 := hS.below (B' := w.heap.size) ((Below.refl _ w).alloc (Nat.le_refl _) (.cells #[.int .i64 0, .int .i64 0, .int .i64 0, .int .i64 0, .int .i64 0, .int .i64 0] 31)) hB
  have c := next_any B A n cap ts kk aa bb tick _ hS1 (by simp; omega)
  rcases hN : nextOf ts kk aa bb tick with _ | t
  · have HA : Hid (atOf ts kk aa bb tick = none) := by unfold Hid atOf; rw [hN]
    rw [hN] at c
    simp only [found, Option.getD_none, Option.isSome_none, wz, Win.val] at c
    have C := Lib.hid c
    clear c hN
    go_enter Try.func18, Try.ntmps18
    go_wp2_with fail
    refine C.out.mono ?_
    clear C
    rintro e w1 ⟨rfl, hb1⟩
    have hz := (Blk.new w 31 z6).below hb1 (by simp)
    have hbw := ((Below.refl _ w).alloc (Nat.le_refl _) _).trans (hb1.mono (by simp))
    have hs1 := hb1.size
    simp only [World.size_alloc] at hs1
    obtain ⟨z0, z1, z2, z3, z4, z5, f0, f1, f2, f3, f4, f5⟩ := (hz.alloc (.cells #[.int .i64 0, .int .i64 0, .int .i64 0, .int .i64 0, .int .i64 0, .int .i64 0] 31)).free6
    clear hb1
    go_wp2
    refine bodyPost_ret (v := .tuple #[wz.val, .bool false]) (by simp [results, Try.results18, go_sem, wz, z0, z1, z2, z3, z4, z5]) rfl ⟨?_, ?_⟩
    · rw [HA.out]; rfl
    · exact below6 (hbw.alloc (by omega) _) (Nat.le_refl _) wz
  · rw [hN] at c
    simp only [found, Option.getD_some, Option.isSome_some, Win.val] at c
    have C := Lib.hid c
    clear c
    by_cases hlo : t.lo ≤ tick
    · have HA : Hid (atOf ts kk aa bb tick = some t) := by unfold Hid atOf; rw [hN]; simp [hlo]
      clear hN
      go_enter Try.func18, Try.ntmps18
      go_wp2_with fail
      refine C.out.mono ?_
      clear C
      rintro e w1 ⟨rfl, hb1⟩
      have hz := (Blk.new w 31 z6).below hb1 (by simp)
      have hbw := ((Below.refl _ w).alloc (Nat.le_refl _) _).trans (hb1.mono (by simp))
      have hs1 := hb1.size
      simp only [World.size_alloc] at hs1
      obtain ⟨z0, z1, z2, z3, z4, z5, f0, f1, f2, f3, f4, f5⟩ := (hz.alloc (.cells #[.int .i64 t.kind, .int .i64 t.a, .int .i64 t.b, .int .i64 t.lo, .int .i64 t.hi, .int .i64 t.rate] 31)).free6
      clear hb1
      go_wp2
      refine bodyPost_ret (v := .tuple #[t.val, .bool true]) (by simp [results, Try.results18, go_sem, z0, z1, z2, z3, z4, z5]) rfl ⟨?_, ?_⟩
      · rw [HA.out]; rfl
      · exact below6 (hbw.alloc (by omega) _) (Nat.le_refl _) t
    · have HA : Hid (atOf ts kk aa bb tick = none) := by unfold Hid atOf; rw [hN]; simp [hlo]
      clear hN
      go_enter Try.func18, Try.ntmps18
      go_wp2_with fail
      refine C.out.mono ?_
      clear C
      rintro e w1 ⟨rfl, hb1⟩
      have hz := (Blk.new w 31 z6).below hb1 (by simp)
      have hbw := ((Below.refl _ w).alloc (Nat.le_refl _) _).trans (hb1.mono (by simp))
      have hs1 := hb1.size
      simp only [World.size_alloc] at hs1
      obtain ⟨z0, z1, z2, z3, z4, z5, f0, f1, f2, f3, f4, f5⟩ := (hz.alloc (.cells #[.int .i64 t.kind, .int .i64 t.a, .int .i64 t.b, .int .i64 t.lo, .int .i64 t.hi, .int .i64 t.rate] 31)).free6
      clear hb1
      go_wp2
      refine bodyPost_ret (v := .tuple #[wz.val, .bool false]) (by simp [results, Try.results18, go_sem, wz, z0, z1, z2, z3, z4, z5]) rfl ⟨?_, ?_⟩
      · rw [HA.out]; rfl
      · exact below6 (hbw.alloc (by omega) _) (Nat.le_refl _) wz

end Go.Proofs.Ytijocgijnbcefaa
