/-
  append of a whole slice of structs to a row that the call itself made.
-/
import Derived.Test.YtcljmnbjejcdaaaApdT
namespace Go.Proofs.Ytcljmnbjejcdaaa
open Go.ChangeShapes Go.WideShapes Go.ChangeAt Go.RowKit

section
variable {α : Type} {cs : α → List Value} {T e : TypeId} {s : Nat}
/-- what is appended: cells in memory, or nothing at all -/
def SrcS (cs : α → List Value) (w : World) (X : Option Addr) (m c : Nat) (ys : List α) : Prop :=
  ys.length = m ∧ ((X = none ∧ m = 0 ∧ c = 0) ∨ ∃ ad, X = some ad ∧ ∀ j u, (ys.flatMap cs)[j]? = some u → w.cell? (ad.add j) = some u)
theorem SrcS.below {w w' : World} {X : Option Addr} {m c : Nat} {ys : List α} (h : SrcS cs w X m c ys) (hb : Below w.heap.size w w') : SrcS cs w' X m c ys := by
  refine ⟨h.1, ?_⟩
  rcases h.2 with h0 | ⟨ad, h1, h2⟩
  · exact .inl h0
  · refine .inr ⟨ad, h1, fun j u hu => ?_⟩
    have := h2 j u hu
    have hlt : (ad.add j).block < w.heap.size := by
      rcases Nat.lt_or_ge (ad.add j).block w.heap.size with h | h
      · exact h
      · unfold World.cell? at this
        rw [Array.getElem?_eq_none h] at this
        cases this
    exact (hb.cell hlt).trans this
theorem Rw.src (O : CellTy cs T e s) {w : World} {B : Nat} {v : Value} {l : List α} (h : Rw cs e s w B v l) : ∃ A c, v = .slice A l.length c ∧ SrcS cs w A l.length c l ∧ Sl cs s w w.heap.size A l.length c l := by
  obtain ⟨A, c, hv, hS⟩ := Rw.sl O h
  refine ⟨A, c, hv, ⟨rfl, ?_⟩, hS⟩
  rcases h.2 with ⟨h1, h2⟩ | ⟨g, cap, cur, h1, _⟩
  · rw [hv] at h1
    injection h1 with e1 e2 e3
    exact .inl ⟨e1, e2, e3⟩
  · rw [hv] at h1
    injection h1 with e1 e2 e3
    subst e1
    refine .inr ⟨_, rfl, fun j u hu => ?_⟩
    exact World.ownsRow.cells h (by rw [hv]; rfl) j u hu

theorem Rw.fresh (O : CellTy cs T e s) (w : World) : Rw cs e s (w.alloc (.cells #[] e)) w.heap.size (.slice (some ⟨w.heap.size, 0, none⟩) 0 0) [] := by
  have := World.ownsRow_lit (base := w.heap.size) (e := e) (size := s) w #[] 0 (Nat.le_refl _) (by unfold maxLen; omega) (by simp)
  have _ := O.pos
  unfold Rw
  simpa using this

theorem wpList_rws (O : CellTy cs T e s) {w : World} {ops : Array Oper} {rest : List Oper} {o : Oper} {a : Act} {Q : Exit → Act → World → Prop} (hgd : o.guard = none) (sl x : Operand)
    (ho : o.op = .call { callee := .builtin .append, args := #[sl, x], argTypes := #[T, T] }) (Bw : Nat) (v : Value) (l : List α) (hs : a.eval sl = v) (hown : Rw cs e s w Bw v l)
    (X : Option Addr) (m c : Nat) (ys : List α) (hx : a.eval x = .slice X m c) (hX : SrcS cs w X m c ys) (hsz : l.length + m ≤ 1000000000000) (hB : Bw ≤ w.heap.size)
    (h : ∀ v' w', Rw cs e s w' Bw v' (l ++ ys) → w.grownBy w' v.ownBlock → (v'.ownBlock = v.ownBlock ∨ v'.ownBlock = some w.heap.size) → wpList Try.prog ops Q rest (a.put o.dst v') w') : wpList Try.prog ops Q (o :: rest) a w := by
  obtain ⟨i0, z, hi, hz0, hz1, hz2, hz3⟩ := O.info
  obtain ⟨hl, hX⟩ := hX
  have row : ∀ v' w', w'.ownsRow Bw e s v' (l.length + m) (l.flatMap cs ++ ys.flatMap cs) → Rw cs e s w' Bw v' (l ++ ys) := fun v' w' h => by
    unfold Rw
    rw [List.length_append, List.flatMap_append, hl]
    exact h
  rcases hX with ⟨rfl, rfl, rfl⟩ | ⟨ad, rfl, hc⟩
  · obtain rfl : ys = [] := List.length_eq_zero_iff.1 hl
    refine wpList_append_own_none hgd sl x T ho Bw e i0 s O.und hi v l.length _ hs hown hx (h v w (by simpa using hown) ?_ (.inl rfl))
    exact World.grownBy.refl _ _
  · refine wpList_append_own_at (w := w) hgd sl x T ho Bw e i0 z s i0.bytes O.und hi hz0 hz1 rfl hz3 O.pos v l.length _ hs hown ad m c (ys.flatMap cs) hx (by rw [O.flat, hl]) hc ?_ ?_ ?_ hB ?_
    · intro u hu
      obtain ⟨t, _, ht⟩ := List.mem_flatMap.1 hu
      exact O.one t u ht
    · unfold maxLen; omega
    · exact Nat.le_trans (Nat.mul_le_mul_left _ hz2) (by omega)
    · intro v' w' h1 h2 _ h3
      exact h v' w' (row v' w' h1) h2 h3
end
end Go.Proofs.Ytcljmnbjejcdaaa
