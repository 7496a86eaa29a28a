/-
  orbit.of: the windows of a key, ranged over: what the iterator hands to any loop body that keeps what lay below n₀ and the iterator's own boxes.
-/
import Derived.RangeFuncNested
import Derived.RangeFuncBound
import Derived.RangeFuncCalls
import Derived.RangeFuncLeaves
import Derived.Shelf.Abstract
import Derived.OwnWalkIn
import Derived.TacticsInMore
import Derived.LoopNIn
import Derived.LoopIn
import Derived.Test.YtijocgijnbcefaaOrbB
import Derived.Test.YtijocgijnbcefaaOrbC
namespace Go.Proofs.Ytijocgijnbcefaa
open Go.ChangeShapes Go.WideShapes Go.ChangeAt Go.RowKit Go.Shelf

attribute [local go_sem] Oper.semAt_some

/-- Below n₀, and from a on up to b, all lies as it lay. -/
structure KpX (n₀ a b : Nat) (W W' : World) : Prop where
  below : Below n₀ W W'
  box : ∀ k, a ≤ k → k < b → W'.heap[k]? = W.heap[k]?
section
variable {n₀ a b : Nat} {W W' X : World}
theorem KpX.refl (n₀ a b : Nat) (W : World) : KpX n₀ a b W W := ⟨Below.refl _ _, fun _ _ _ => rfl⟩
theorem KpX.trans (h : KpX n₀ a b W W') (k : KpX n₀ a b W' X) : KpX n₀ a b W X := ⟨h.below.trans k.below, fun i h1 h2 => (k.box i h1 h2).trans (h.box i h1 h2)⟩
theorem KpX.alloc (h : KpX n₀ a b W W') (hn : n₀ ≤ W'.heap.size) (hb : b ≤ W'.heap.size) (o : Obj) : KpX n₀ a b W (W'.alloc o) :=
  ⟨h.below.alloc hn _, fun k h1 h2 => (Below.heap_alloc _ _ _ (by omega)).trans (h.box k h1 h2)⟩
theorem KpX.setCell (h : KpX n₀ a b W W') {p : Addr} (hn : n₀ ≤ p.block) (hp : p.block < a ∨ b ≤ p.block) (u : Value) : KpX n₀ a b W (W'.setCell p u) :=
  ⟨h.below.setCell hn _, fun k h1 h2 => (Below.heap_setCell _ _ _ _ (by omega)).trans (h.box k h1 h2)⟩
theorem KpX.putObj {l : Nat} (o' : Obj) (hn : n₀ ≤ l) (hb : b ≤ l) : KpX n₀ a b W (W.putObj l o') :=
  ⟨⟨rfl, rfl, rfl, by simp, fun k hk => World.putObj_heap_other (by omega)⟩, fun k h1 h2 => World.putObj_heap_other (by omega)⟩
theorem KpX.boxed (h : KpX n₀ a b W W') {B : Nat} {t : TypeId} {v : Value} (hB : Boxed W B t v) (h1 : a ≤ B) (h2 : B < b) : Boxed W' B t v := (h.box B h1 h2).trans hB
end

theorem blk_own {β : Type} (g : Nat) (t : TypeId) (cs : β → Array Value) : Own (fun s W => Blk W g t (cs s)) := fun s X Y row hs hg hrow =>
  hs.grown hg (fun e' => by obtain ⟨o, ho, hc⟩ := hrow g e'.symm; rw [show X.heap[g]? = _ from hs] at ho; cases ho; cases hc)

/-- the iterator's boxes -/
structure OfBox (W : World) (N : Nat) (A : Option Addr) (n cap : Nat) (kk aa bb : Int) : Prop where
  t : Boxed W N 22 (.slice A n cap)
  k : Boxed W (N + 1) 3 (.int .i64 kk)
  a : Boxed W (N + 1 + 1) 3 (.int .i64 aa)
  b : Boxed W (N + 1 + 1 + 1) 3 (.int .i64 bb)
theorem OfBox.kept {n₀ N : Nat} {W W' : World} {A : Option Addr} {n cap : Nat} {kk aa bb : Int} (h : OfBox W N A n cap kk aa bb) (hk : KpX n₀ N (N + 4) W W') : OfBox W' N A n cap kk aa bb :=
  ⟨hk.boxed h.t (by omega) (by omega), hk.boxed h.k (by omega) (by omega), hk.boxed h.a (by omega) (by omega), hk.boxed h.b (by omega) (by omega)⟩

theorem key_iff {t : Win} {k a b : Int} : t.key k a b = true ↔ t.kind = k ∧ t.a = a ∧ t.b = b := by simp [Win.key, and_assoc]

set_option maxRecDepth 100000 in
set_option maxHeartbeats 1000000 in
theorem of1_in (F : Fence) (m : Nat) (h6 : F.fn 56) (hro : F.round = none) (hm : 1 ≤ m) (l N n₀ : Nat) (A : Option Addr) (n cap : Nat) (ts : List Win) (kk aa bb : Int) (J Jx : List Win → World → Prop) (B0 : Nat)
    (hJ : AbidesFrom B0 J) (p : Win → Prop) (hp : ∀ t ∈ ts.filter (·.key kk aa bb), p t)
    (hY : ∀ pre x W, p x → J pre W → pre.length < (ts.filter (·.key kk aa bb)).length → YieldAt F (m - 1) Try.prog l #[x.val] W fun e W' =>
      (e = .returned (.bool true) ∧ J (pre ++ [x]) W' ∧ KpX n₀ N (N + 4) W W') ∨ (e = .returned (.bool false) ∧ Jx (pre ++ [x]) W'))
    (W : World) (hbox : OfBox W N A n cap kk aa bb) (hS : Sl csW 6 W n₀ A n cap ts) (hn₀ : n₀ ≤ N) (h0 : J [] W) :
    CallsIn F m Try.prog 56 #[.func (.yield l) #[] #[], .pointer (some ⟨N, 0, none⟩), .pointer (some ⟨N + 1, 0, none⟩), .pointer (some ⟨N + 1 + 1, 0, none⟩), .pointer (some ⟨N + 1 + 1 + 1, 0, none⟩)] W fun e W' => (∃ v, e = .returned v) ∧
      ((∃ ys, ys = ts.filter (·.key kk aa bb) ∧ J ys W') ∨ (∃ pre, pre <+: ts.filter (·.key kk aa bb) ∧ Jx pre W')) := by
  have hn := hS.ncap
  have hc := hS.cmax
  have hl := hS.len
  have ct := hbox.t.cell
  have hsz := hbox.b.lt
  have HL := Lib.hid hl
  clear hl
  refine callsIn_of_wp Try.func56 rfl h6 ?_ hro
  simp only [Try.ntmps56, List.size_toArray, List.length_cons, List.length_nil, Nat.reduceAdd, Nat.reduceSub, Array.replicate_succ, Array.replicate_zero, List.push_toArray, List.append_toArray, List.nil_append, List.cons_append]
  gi_wp2
  gi_loopw [10] (fun i wr => ∃ k : Nat, k ≤ n ∧ i = .int .i64 k ∧ J ((ts.take k).filter (·.key kk aa bb)) wr ∧ KpX n₀ N (N + 4) W wr)
    (fun i _ => n - (intOf i).toNat)
  case atStart => exact ⟨0, Nat.zero_le _, rfl, h0, KpX.refl _ _ _ _⟩
  case round =>
    obtain ⟨k, hk, rfl, hJs, hkp⟩ := hrel
    have hsw := hkp.below.size
    obtain ⟨bt, bk, ba, bb'⟩ := hbox.kept hkp
    by_cases hlt : k < n
    · obtain ⟨b, o, t, rfl, hb, ht, hW⟩ := hS.win hlt
      obtain ⟨c0, c1, c2, c3, c4, c5⟩ := hW wr hkp.below
      have HT := Lib.hid (take_snoc ht)
      clear ht
      have hJ' : J ((ts.take k).filter (·.key kk aa bb)) (wr.alloc (.cells #[.int .i64 t.kind, .int .i64 t.a, .int .i64 t.b, .int .i64 t.lo, .int .i64 t.hi, .int .i64 t.rate] 31)) := hJ _ _ _ none hJs (World.grownBy_alloc _ _ none) (fun r e => by cases e)
      have hkp' := hkp.alloc (by omega) (by omega) (.cells #[.int .i64 t.kind, .int .i64 t.a, .int .i64 t.b, .int .i64 t.lo, .int .i64 t.hi, .int .i64 t.rate] 31)
      have ck := (bk.alloc (.cells #[.int .i64 t.kind, .int .i64 t.a, .int .i64 t.b, .int .i64 t.lo, .int .i64 t.hi, .int .i64 t.rate] 31)).cell
      have ca := (ba.alloc (.cells #[.int .i64 t.kind, .int .i64 t.a, .int .i64 t.b, .int .i64 t.lo, .int .i64 t.hi, .int .i64 t.rate] 31)).cell
      have cb := (bb'.alloc (.cells #[.int .i64 t.kind, .int .i64 t.a, .int .i64 t.b, .int .i64 t.lo, .int .i64 t.hi, .int .i64 t.rate] 31)).cell
      clear bt bk ba bb'
      by_cases hkey : t.key kk aa bb = true
      · have HF : Hid ((ts.take (k + 1)).filter (·.key kk aa bb) = (ts.take k).filter (·.key kk aa bb) ++ [t]) := by rw [Hid, HT.out, List.filter_append]; simp [hkey]
        have HP : Hid ((ts.take (k + 1)).filter (·.key kk aa bb) <+: ts.filter (·.key kk aa bb)) := (List.take_prefix _ _).filter _
        have hlen : ((ts.take k).filter (·.key kk aa bb)).length < (ts.filter (·.key kk aa bb)).length := by
          have h1 := HP.out.length_le
          rw [HF.out] at h1
          simp at h1
          omega
        have htm : t ∈ ts.filter (·.key kk aa bb) := HP.out.subset (by rw [HF.out]; simp)
        obtain ⟨fn, tmps, assign, body, hy, hR⟩ := hY _ t _ (hp t htm) hJ' hlen
        clear htm
        obtain ⟨k1, k2, k3⟩ := key_iff.1 hkey
        have e1 : (t.kind == kk) = true := by simpa using k1
        have e2 : (t.a == aa) = true := by simpa using k2
        have e3 : (t.b == bb) = true := by simpa using k3
        clear k1 k2 k3 hkey hlen
        unfold Win.val at hy
        gi_wp2_with fail
        refine hR.mono ?_
        rintro e W3 (⟨rfl, hJ3, hk3⟩ | ⟨rfl, hJx3⟩)
        · gi_wp2
          go_roundw
          case rel => exact ⟨k + 1, by omega, by go_num, by rw [HF.out]; exact hJ3, hkp'.trans hk3⟩
          case measure => simp [intOf]; omega
        · gi_wp2
          refine bodyPost_ret (results_none rfl _ _ _) rfl ?_
          exact ⟨⟨_, rfl⟩, .inr ⟨_, HP.out, by rw [HF.out]; exact hJx3⟩⟩
      · have HF : Hid ((ts.take (k + 1)).filter (·.key kk aa bb) = (ts.take k).filter (·.key kk aa bb)) := by rw [Hid, HT.out, List.filter_append]; simp [hkey]
        have hkey' : ¬ (t.kind = kk ∧ t.a = aa ∧ t.b = bb) := fun h => hkey (key_iff.2 h)
        by_cases k1 : t.kind = kk
        · have e1 : (t.kind == kk) = true := by simpa using k1
          by_cases k2 : t.a = aa
          · have e2 : (t.a == aa) = true := by simpa using k2
            have e3 : (t.b == bb) = false := by simp; intro h; exact hkey' ⟨k1, k2, h⟩
            clear k1 k2 hkey hkey'
            gi_wp2
            refine ⟨fun _ h => (by cases h), ?_⟩
            gi_wp2
            go_roundw
            case rel => exact ⟨k + 1, by omega, by go_num, by rw [HF.out]; exact hJ', hkp'⟩
            case measure => simp [intOf]; omega
          · have e2 : (t.a == aa) = false := by simpa using k2
            clear k1 k2 hkey hkey'
            gi_wp2
            refine ⟨fun _ h => (by cases h), ?_⟩
            gi_wp2
            go_roundw
            case rel => exact ⟨k + 1, by omega, by go_num, by rw [HF.out]; exact hJ', hkp'⟩
            case measure => simp [intOf]; omega
        · have e1 : (t.kind == kk) = false := by simpa using k1
          clear k1 hkey hkey'
          gi_wp2
          refine ⟨fun _ h => (by cases h), ?_⟩
          gi_wp2
          go_roundw
          case rel => exact ⟨k + 1, by omega, by go_num, by rw [HF.out]; exact hJ', hkp'⟩
          case measure => simp [intOf]; omega
    · obtain rfl : k = n := by omega
      have HE : Hid (ts.take k = ts) := by rw [Hid, List.take_of_length_le (by rw [HL.out]; omega)]
      gi_wp2
      go_end0
      exact ⟨⟨_, rfl⟩, .inl ⟨_, rfl, by rw [HE.out] at hJs; exact hJs⟩⟩

/-- orbit.of: four boxes, and the function value over them. -/
theorem of_in (F : Fence) (m : Nat) (h5 : F.fn 46) (hro : F.round = none) (A : Option Addr) (n cap : Nat) (kk aa bb : Int) (w : World) :
    CallsIn F m Try.prog 46 #[.slice A n cap, .int .i64 kk, .int .i64 aa, .int .i64 bb] w fun e w' =>
      e = .returned (.func (.func 56) #[] #[.pointer (some ⟨w.heap.size, 0, none⟩), .pointer (some ⟨w.heap.size + 1, 0, none⟩), .pointer (some ⟨w.heap.size + 1 + 1, 0, none⟩), .pointer (some ⟨w.heap.size + 1 + 1 + 1, 0, none⟩)]) ∧
      w' = (((w.alloc (.cells #[.slice A n cap] 22)).alloc (.cells #[.int .i64 kk] 3)).alloc (.cells #[.int .i64 aa] 3)).alloc (.cells #[.int .i64 bb] 3) := by
  refine callsIn_of_wp Try.func46 rfl h5 ?_ hro
  simp only [Try.ntmps46, List.size_toArray, List.length_cons, List.length_nil, Nat.reduceAdd, Nat.reduceSub, Array.replicate_succ, Array.replicate_zero, List.push_toArray, List.append_toArray, List.nil_append, List.cons_append]
  gi_wp2
  go_ret
  exact ⟨rfl, rfl⟩

theorem OfBox.new (w : World) (A : Option Addr) (n cap : Nat) (kk aa bb : Int) :
    OfBox ((((w.alloc (.cells #[.slice A n cap] 22)).alloc (.cells #[.int .i64 kk] 3)).alloc (.cells #[.int .i64 aa] 3)).alloc (.cells #[.int .i64 bb] 3)) w.heap.size A n cap kk aa bb :=
  ⟨(((Boxed.new w _ _).alloc _).alloc _).alloc _, by have := ((Boxed.new (w.alloc (.cells #[.slice A n cap] 22)) 3 (.int .i64 kk)).alloc (.cells #[.int .i64 aa] 3)).alloc (.cells #[.int .i64 bb] 3); simpa using this,
   by have := (Boxed.new ((w.alloc (.cells #[.slice A n cap] 22)).alloc (.cells #[.int .i64 kk] 3)) 3 (.int .i64 aa)).alloc (.cells #[.int .i64 bb] 3); simpa using this,
   by have := Boxed.new (((w.alloc (.cells #[.slice A n cap] 22)).alloc (.cells #[.int .i64 kk] 3)).alloc (.cells #[.int .i64 aa] 3)) 3 (.int .i64 bb); simpa using this⟩

theorem of_stops (F : Fence) (m : Nat) (h6 : F.fn 56) (hro : F.round = none) (hm : 1 ≤ m) (N n₀ : Nat) (A : Option Addr) (n cap : Nat) (ts : List Win) (kk aa bb : Int) (w : World) (hbox : OfBox w N A n cap kk aa bb) (hS : Sl csW 6 w n₀ A n cap ts) (hn₀ : n₀ ≤ N) (hN : N + 4 ≤ w.heap.size) :
    SeqStopsK F m Try.prog 56 #[.pointer (some ⟨N, 0, none⟩), .pointer (some ⟨N + 1, 0, none⟩), .pointer (some ⟨N + 1 + 1, 0, none⟩), .pointer (some ⟨N + 1 + 1 + 1, 0, none⟩)] (fun x : Win => #[x.val]) (KpX n₀ N (N + 4))
      (fun ys => ys = ts.filter (·.key kk aa bb)) (fun pre => pre <+: ts.filter (·.key kk aa bb)) (ts.filter (·.key kk aa bb)).length w := fun l J Jx W hW hJ _ hY h0 =>
  of1_in F m h6 hro hm l N n₀ A n cap ts kk aa bb J Jx _ hJ (fun _ => True) (fun _ _ => trivial) (fun pre x W _ => hY pre x W) W (hbox.kept (n₀ := N) ⟨hW.mono (by omega), fun k h1 h2 => hW.block k (by omega)⟩) (hS.below hW (by omega)) hn₀ h0

/-- the same, where the body may know p of every window that comes -/
theorem of_stops_p (p : Win → Prop) (F : Fence) (m : Nat) (h6 : F.fn 56) (hro : F.round = none) (hm : 1 ≤ m) (N n₀ : Nat) (A : Option Addr) (n cap : Nat) (ts : List Win) (kk aa bb : Int) (w : World) (hbox : OfBox w N A n cap kk aa bb) (hS : Sl csW 6 w n₀ A n cap ts) (hn₀ : n₀ ≤ N) (hN : N + 4 ≤ w.heap.size)
    (hp : ∀ t ∈ ts.filter (·.key kk aa bb), p t) :
    SeqStopsK F m Try.prog 56 #[.pointer (some ⟨N, 0, none⟩), .pointer (some ⟨N + 1, 0, none⟩), .pointer (some ⟨N + 1 + 1, 0, none⟩), .pointer (some ⟨N + 1 + 1 + 1, 0, none⟩)] (fun x : { t : Win // p t } => #[x.1.val]) (KpX n₀ N (N + 4))
      (fun ys => ys.map (·.1) = ts.filter (·.key kk aa bb)) (fun pre => pre.map (·.1) <+: ts.filter (·.key kk aa bb)) (ts.filter (·.key kk aa bb)).length w := fun l J Jx W hW hJ _ hY h0 => by
  refine (of1_in F m h6 hro hm l N n₀ A n cap ts kk aa bb (fun pre W => ∃ pre' : List { t : Win // p t }, pre'.map (·.1) = pre ∧ J pre' W) (fun pre W => ∃ pre' : List { t : Win // p t }, pre'.map (·.1) = pre ∧ Jx pre' W) W.heap.size ?_ p hp ?_ W
    (hbox.kept (n₀ := N) ⟨hW.mono (by omega), fun k h1 h2 => hW.block k (by omega)⟩) (hS.below hW (by omega)) hn₀ ⟨[], rfl, h0⟩).mono ?_
  · rintro s X Y row ⟨pre', e, h⟩ hg hr
    exact ⟨pre', e, hJ pre' X Y row h hg hr⟩
  · rintro pre x W1 hx ⟨pre', rfl, h⟩ hlen
    obtain ⟨fn, tmps, assign, body, hy, hR⟩ := hY pre' ⟨x, hx⟩ W1 h (by simpa using hlen)
    refine ⟨fn, tmps, assign, body, hy, hR.mono ?_⟩
    rintro e W' (⟨he, h1, h2⟩ | ⟨he, h1⟩)
    · exact .inl ⟨he, ⟨_, by simp, h1⟩, h2⟩
    · exact .inr ⟨he, _, by simp, h1⟩
  · rintro e W' ⟨he, ⟨ys, rfl, pre', e1, h1⟩ | ⟨pre, h2, pre', rfl, h1⟩⟩
    · exact ⟨he, .inl ⟨pre', e1, h1⟩⟩
    · exact ⟨he, .inr ⟨pre', h2, h1⟩⟩

end Go.Proofs.Ytijocgijnbcefaa
