/-
  A range over an iterator that writes a variable of its own between two rounds (a captured variable that is boxed): own law, for a body that never leaves the loop. The invariant must not hang on that box.
-/
import Derived.Test.YtcljmnbjejcdaaaBase
import Derived.RangeFuncNested
import Derived.RangeFuncBound
import Derived.RangeFuncCalls
import Derived.RangeFuncLeaves
import Derived.Shelf.Abstract
import Derived.OwnWalkIn
import Derived.TacticsInMore
import Derived.LoopNIn
import Derived.LoopIn
namespace Go.Proofs.Ytcljmnbjejcdaaa
open Go.ChangeShapes Go.WideShapes Go.ChangeAt Go.RowKit Go.Shelf

/-- the iterator's contract; bN: the block of its variable -/
def SeqB {α : Type} (F : Fence) (n : Nat) (P : Program) (g : Nat) (lb : Array Value) (encs : α → Array Value) (Kp : World → World → Prop) (S : List α → Prop) (N bN : Nat) (w : World) : Prop :=
  ∀ (l : Nat) (J : List α → World → Prop) (W : World), Below w.heap.size w W → AbidesFrom W.heap.size J → (∀ pre X u, J pre X → J pre (X.setCell ⟨bN, 0, none⟩ u)) →
    (∀ pre x X, J pre X → pre.length < N → YieldAt F (n - 1) P l (encs x) X fun e W' => e = .returned (.bool true) ∧ J (pre ++ [x]) W' ∧ Kp X W') → J [] W →
    CallsIn F n P g (#[.func (.yield l) #[] #[]] ++ lb) W fun e W' => (∃ v, e = .returned v) ∧ ∃ xs, S xs ∧ J xs W'

section
variable {F : Fence} {n : Nat} {P : Program} {α : Type} {g : Operand} {ps : Array Tmp} {assign body : Code} {Q : Exit → Act → World → Prop} {a : Act} {w : World}

theorem wpIn_range_box (hro : F.round = none) (h1 : 1 ≤ n) {gf : Nat} {lb : Array Value} (hg : a.eval g = .func (.func gf) #[] lb) (hFg : F.fn gf) (eg : ∀ args w, (callFunc gf args).run P w = .ok (.enter gf args) w)
    {encs : α → Array Value} {Kp : World → World → Prop} {S : List α → Prop} {N bN : Nat} (hseq : SeqB F (n - 1) P gf lb encs Kp S N bN w) (hbN : bN < w.heap.size)
    (hKt : ∀ {A B C : World}, Kp A B → Kp B C → Kp A C) (hKb : ∀ (W : World) (l : Nat) (o o' : Obj), w.heap.size ≤ l → W.heap[l]? = some o → o.isCells = false → o.isWalk = false → Kp W (W.putObj l o')) (hps : ∀ x, (encs x).size = ps.size)
    (I : List α → World → Prop) (hI : OwnFrom w.heap.size I) (hIb : ∀ pre X u, I pre X → I pre (X.setCell ⟨bN, 0, none⟩ u)) (h0 : I [] w) (a₁ : α → Act)
    (hassign : ∀ (l : Nat) (x : α) (W : World) (K : Act → World → Prop), K (a₁ x) W →
      assign.wpIn (F.inRound l) (n - 1 - 1) P (Exit.then K (fun _ _ _ => False)) { tmps := (ps.zip (encs x)).foldl (fun t (p, v) => t.setIfInBounds p v) a.tmps, defers := [] } W)
    (hbody : ∀ (l : Nat) (pre : List α) (x : α) (W : World), w.heap.size ≤ l → I pre W → pre.length < N → body.wpIn (F.inRound l) (n - 1 - 1) P (fun e _ W' => e = .normal ∧ KeepsFrom w.heap.size W W' ∧ Kp W W' ∧ I (pre ++ [x]) W') (a₁ x) W)
    (hdone : ∀ (D : Nat) (xs : List α) (W : World), w.heap.size ≤ D → S xs → I xs W → W.heap[D]? = some (.deferred (some [])) → Q .normal { a with defers := { target := .collected D, args := #[] } :: a.defers } W) :
    (Code.rangeFunc g ps assign body).wpIn F n P Q a w := by
  refine wpIn_rangeFunc fun fn hfn => ?_
  rw [hro]
  -- the loop's record
  obtain ⟨R, hR⟩ : ∃ R : LoopState → Loop, R = fun st => { state := st, pending := none, fn, tmps := a.tmps, params := ps, assign, body, defers := w.heap.size } := ⟨_, rfl⟩
  obtain ⟨V, hV⟩ : ∃ V, (w.alloc (.deferred (some []))).alloc (.loop (R .ready)) = V := ⟨_, rfl⟩
  have sV : V.heap.size = w.heap.size + 2 := by rw [← hV]; simp
  have lV : V.heap[w.heap.size + 1]? = some (.loop (R .ready)) := by
    rw [← hV]
    have := World.alloc_heap_new (w.alloc (.deferred (some []))) (.loop (R .ready))
    rwa [World.size_alloc] at this
  have dV : V.heap[w.heap.size]? = some (.deferred (some [])) := by
    rw [← hV]
    exact (Below.heap_alloc _ _ _ (by simp)).trans (World.alloc_heap_new w _)
  have iV : I [] V := by rw [← hV]; exact hI.alloc _ (hI.alloc _ h0)
  have bV : Below w.heap.size w V := by rw [← hV]; exact ((Below.refl _ w).alloc (Nat.le_refl _) _).alloc (by simp) _
  refine ⟨w.heap.size + 1, [{ target := .collected w.heap.size, args := #[] }], V, { target := .fn (.func gf) lb, args := #[.func (.yield (w.heap.size + 1)) #[] #[]] }, V, gf, #[.func (.yield (w.heap.size + 1)) #[] #[]] ++ lb, V, ?_, ?_, ?_, ?_, fun _ => h1, ?_⟩
  · rw [← hV, hR]; exact run_enterLoop_outer _ _ _ _ _
  · simp only [resolve, hg]
    simp [go_sem]
  · intro f' hf'
    simp [Target.leads] at hf'
    subst hf'
    exact hFg
  · simp [invoke, go_sem, eg]
  have keep : ∀ {X Y : World} {row : Option Nat} {k : Nat} {o : Obj}, X.grownBy Y row → (∀ r, row = some r → V.heap.size ≤ r ∧ ∃ o : Obj, X.heap[r]? = some o ∧ o.isWalk = true) → k < V.heap.size → X.heap[k]? = some o → Y.heap[k]? = some o := fun {X Y row k o} hxy hr hk ho =>
    (hxy.block k (Array.getElem?_eq_some_iff.1 ho).1 (fun e => by have := (hr k e.symm).1; omega)).trans ho
  refine (hseq (w.heap.size + 1) (fun pre W => I pre W ∧ W.heap[w.heap.size + 1]? = some (.loop (R .ready)) ∧ W.heap[w.heap.size]? = some (.deferred (some []))) V bV ?_ ?_ ?_ ⟨iV, lV, dV⟩).mono ?_
  · rintro s X Y row ⟨i1, i2, i3⟩ hxy hr
    refine ⟨hI s X Y row i1 hxy (fun r e => ?_), keep hxy hr (by omega) i2, keep hxy hr (by omega) i3⟩
    obtain ⟨e1, o, e2, e3⟩ := hr r e
    exact ⟨by omega, o, e2, Obj.not_cells_of_walk e3⟩
  · rintro pre X u ⟨i1, i2, i3⟩
    exact ⟨hIb pre X u i1, (Below.heap_setCell _ _ _ _ (by dsimp only; omega)).trans i2, (Below.heap_setCell _ _ _ _ (by dsimp only; omega)).trans i3⟩
  · rintro pre x X ⟨i1, i2, i3⟩ hlen
    have hlt : w.heap.size + 1 < X.heap.size := (Array.getElem?_eq_some_iff.1 i2).1
    have hy := run_yield (P := P) (args := encs x) i2 (by rw [hR]; exact hps x)
    rw [hR] at hy
    refine ⟨fn, _, assign, body, hy, roundIn_of_wpIn hfn (hassign _ x X _ ?_)⟩
    refine ⟨_, run_beginRound i2 (by rw [hR]), ?_⟩
    obtain ⟨Y, hY⟩ : ∃ Y, X.putObj (w.heap.size + 1) (.loop { R .ready with state := .busy }) = Y := ⟨_, rfl⟩
    have jY : Y.heap[w.heap.size + 1]? = some (.loop { R .ready with state := .busy }) := by rw [← hY]; exact World.putObj_heap_same hlt
    have dY : Y.heap[w.heap.size]? = some (.deferred (some [])) := by rw [← hY]; exact (World.putObj_heap_other (by omega)).trans i3
    have kY : Kp X Y := by rw [← hY]; exact hKb _ _ _ _ (by omega) i2 rfl rfl
    have iY : I pre Y := by rw [← hY]; exact hI.putObj _ i1 (by omega) i2 rfl
    rw [hY]
    refine wpIn_mono (hbody _ pre x Y (by omega) iY hlen) ?_
    rintro e a3 Z ⟨rfl, k3, kp3, i3'⟩
    have jZ := k3.same _ _ (by omega) jY rfl
    have dZ := k3.same _ _ (Nat.le_refl _) dY rfl
    have hr := run_endRound (P := P) none jZ
    have lz : w.heap.size + 1 < Z.heap.size := (Array.getElem?_eq_some_iff.1 jZ).1
    refine ⟨_, _, hr, rfl, ⟨hI.putObj _ i3' (by omega) jZ rfl, ?_, (World.putObj_heap_other (by omega)).trans dZ⟩, hKt kY (hKt kp3 (hKb _ _ _ _ (by omega) jZ rfl rfl))⟩
    rw [World.putObj_heap_same lz, hR]
    rfl
  · rintro e W2 ⟨⟨v, rfl⟩, xs, hS, i1, i2, i3⟩
    refine ⟨none, _, by have h9 := run_endLoop (P := P) i2 (by rw [hR]; simp); rw [hR] at h9; exact h9, ?_⟩
    exact hdone _ xs _ (Nat.le_refl _) hS (hI.putObj _ i1 (by omega) i2 rfl) ((World.putObj_heap_other (by omega)).trans i3)
end

end Go.Proofs.Ytcljmnbjejcdaaa
