/-
  append to a row that the call itself made, elements of s cells (structs).
-/
import Derived.Test.YtcljmnbjejcdaaaAppA
import Derived.Test.YtcljmnbjejcdaaaApd
namespace Go.Proofs.Ytcljmnbjejcdaaa
open Go.ChangeShapes Go.WideShapes Go.ChangeAt Go.RowKit

structure CellTy {α : Type} (cs : α → List Value) (T e : TypeId) (s : Nat) : Prop where
  und : Try.prog.underlying T = some (.slice e)
  info : ∃ i z, Try.prog.info? e = some i ∧ i.zero = some z ∧ i.size = s ∧ i.bytes ≤ 16 ∧ z.cells.size = s
  pos : 0 < s
  len : ∀ x, (cs x).length = s
  one : ∀ x, ∀ v ∈ cs x, v.oneCell' = true
theorem twoP : CellTy csP 22 44 2 := by
  obtain ⟨i0, h1, h2, h3, h4⟩ := info_parts (show (Try.prog.info? 44).map (fun i => (i.zero, i.size, i.bytes)) = some (some (.agg #[.int .i64 0, .int .u64 0]), 2, 16) by kernel_rfl)
  exact ⟨by kernel_rfl, ⟨i0, _, h1, h2, h3, by omega, rfl⟩, by omega, fun x => rfl, fun x v hv => by simp [csP] at hv; rcases hv with rfl | rfl <;> rfl⟩
theorem twoA : CellTy csA 34 25 2 := by
  obtain ⟨i0, h1, h2, h3, h4⟩ := info_parts (show (Try.prog.info? 25).map (fun i => (i.zero, i.size, i.bytes)) = some (some (.agg #[.int .i64 0, .int .u64 0]), 2, 16) by kernel_rfl)
  exact ⟨by kernel_rfl, ⟨i0, _, h1, h2, h3, by omega, rfl⟩, by omega, fun x => rfl, fun x v hv => by simp [csA] at hv; rcases hv with rfl | rfl <;> rfl⟩

def Rw {α : Type} (cs : α → List Value) (t : TypeId) (s : Nat) (w : World) (B : Nat) (v : Value) (l : List α) : Prop := w.ownsRow B t s v l.length (l.flatMap cs)
section
variable {α : Type} {cs : α → List Value} {T e : TypeId} {s : Nat}
theorem CellTy.flat (O : CellTy cs T e s) (l : List α) : (l.flatMap cs).length = l.length * s := by
  induction l with
  | nil => simp
  | cons x l ih => rw [List.flatMap_cons, List.length_append, ih, O.len, List.length_cons, Nat.add_mul]; omega
theorem Rw.nil (cs : α → List Value) (t : TypeId) (s : Nat) (w : World) (B : Nat) : Rw cs t s w B (.slice none 0 0) [] := World.ownsRow_nil _ _ _ _
theorem Rw.below {w w' : World} {B : Nat} {v : Value} {l : List α} (h : Rw cs e s w B v l) (hb : Below w.heap.size w w') : Rw cs e s w' B v l := by
  refine ⟨h.1, ?_⟩
  rcases h.2 with h1 | ⟨g, cap, cur, hv, hbg, hg, rest⟩
  · exact .inl h1
  · exact .inr ⟨g, cap, cur, hv, hbg, (hb.block g ((Array.getElem?_eq_some_iff.1 hg).1)).trans hg, rest⟩
theorem Rw.sl {w : World} {B : Nat} {v : Value} {l : List α} (O : CellTy cs T e s) (h : Rw cs e s w B v l) : ∃ A cap, v = .slice A l.length cap ∧ Sl cs s w w.heap.size A l.length cap l := by
  rcases h.2 with ⟨rfl, h2⟩ | ⟨g, cap, cur, rfl, hb, hg, h3, h4, h5⟩
  · have hl : l = [] := List.length_eq_zero_iff.1 h2
    subst hl
    exact ⟨_, _, rfl, Sl.nil_⟩
  · exact ⟨_, _, rfl, Sl.own h rfl (fun x _ => O.len x) (Nat.le_refl _) h3 h4⟩

/-- one more element, that lies in a block of its own -/
theorem wpList_rw (O : CellTy cs T e s) {w : World} {ops : Array Oper} {rest : List Oper} {o : Oper} {a : Act} {Q : Exit → Act → World → Prop} (hgd : o.guard = none) (sl x : Operand)
    (ho : o.op = .call { callee := .builtin .append, args := #[sl, x], argTypes := #[T, T] }) (Bw : Nat) (v : Value) (l : List α) (hs : a.eval sl = v) (hown : Rw cs e s w Bw v l)
    (ad : Addr) (y : α) (c : Nat) (hx : a.eval x = .slice (some ad) 1 c) (hc : ∀ j u, (cs y)[j]? = some u → w.cell? (ad.add j) = some u) (hsz : l.length ≤ 1000000000000) (hB : Bw ≤ w.heap.size)
    (h : ∀ v' w', Rw cs e s w' Bw v' (l ++ [y]) → w.grownBy w' v.ownBlock → (v'.ownBlock = v.ownBlock ∨ v'.ownBlock = some w.heap.size) → wpList Try.prog ops Q rest (a.put o.dst v') w') : wpList Try.prog ops Q (o :: rest) a w := by
  obtain ⟨i0, z, hi, hz0, hz1, hz2, hz3⟩ := O.info
  have row : ∀ v' w', w'.ownsRow Bw e s v' (l.length + 1) (l.flatMap cs ++ cs y) → Rw cs e s w' Bw v' (l ++ [y]) := fun v' w' h => by
    unfold Rw
    rw [List.length_append, List.flatMap_append]
    simpa using h
  refine wpList_append_own_at (w := w) hgd sl x T ho Bw e i0 z s i0.bytes O.und hi hz0 hz1 rfl hz3 O.pos v l.length _ hs hown ad 1 c (cs y) hx (by rw [O.len, Nat.one_mul]) hc ?_ ?_ ?_ hB ?_
  · intro u hu
    exact O.one y u hu
  · unfold maxLen; omega
  · exact Nat.le_trans (Nat.mul_le_mul_left _ hz2) (by omega)
  · intro v' w' h1 h2 _ h3
    exact h v' w' (row v' w' h1) h2 h3
end
end Go.Proofs.Ytcljmnbjejcdaaa
