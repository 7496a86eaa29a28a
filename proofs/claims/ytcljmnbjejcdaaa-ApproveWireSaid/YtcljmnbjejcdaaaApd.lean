/-
  append to a row that the call itself made: one law for every element type of one cell.
-/
import Derived.Test.YtcljmnbjejcdaaaHashA
import Derived.Laws.AppendOwnNone
import Derived.Laws.IdiomStrings
namespace Go.Proofs.Ytcljmnbjejcdaaa
open Go.ChangeShapes Go.WideShapes Go.ChangeAt Go.RowKit

/-- a slice type T of elements e of one cell -/
structure OneTy {α : Type} (cs : α → List Value) (T e : TypeId) : Prop where
  und : Try.prog.underlying T = some (.slice e)
  info : ∃ i z, Try.prog.info? e = some i ∧ i.zero = some z ∧ i.size = 1 ∧ i.bytes ≤ 8 ∧ z.cells.size = 1
  one : ∀ x, ∃ v, cs x = [v] ∧ v.oneCell' = true

theorem oneI : OneTy csI 37 3 := by
  obtain ⟨i0, h1, h2, h3, h4⟩ := info_parts (show (Try.prog.info? 3).map (fun i => (i.zero, i.size, i.bytes)) = some (some (.int .i64 0), 1, 8) by kernel_rfl)
  exact ⟨by kernel_rfl, ⟨i0, _, h1, h2, h3, by omega, rfl⟩, fun x => ⟨_, rfl, rfl⟩⟩
theorem oneU : OneTy csU 82 23 := by
  obtain ⟨i0, h1, h2, h3, h4⟩ := info_parts (show (Try.prog.info? 23).map (fun i => (i.zero, i.size, i.bytes)) = some (some (.int .u64 0), 1, 8) by kernel_rfl)
  exact ⟨by kernel_rfl, ⟨i0, _, h1, h2, h3, by omega, rfl⟩, fun x => ⟨_, rfl, rfl⟩⟩
theorem oneB : OneTy csB 26 5 := by
  obtain ⟨i0, h1, h2, h3, h4⟩ := info_parts (show (Try.prog.info? 5).map (fun i => (i.zero, i.size, i.bytes)) = some (some (.int .u8 0), 1, 1) by kernel_rfl)
  exact ⟨by kernel_rfl, ⟨i0, _, h1, h2, h3, by omega, rfl⟩, fun x => ⟨_, rfl, rfl⟩⟩

section
variable {α : Type} {cs : α → List Value} {T e : TypeId}
theorem OneTy.flat (O : OneTy cs T e) (l : List α) : (l.flatMap cs).length = l.length := by
  induction l with
  | nil => rfl
  | cons x l ih =>
    obtain ⟨v, h, _⟩ := O.one x
    rw [List.flatMap_cons, List.length_append, ih, h, List.length_cons]
    simp; omega
/-- what is appended: cells in memory, or nothing at all -/
def Src (cs : α → List Value) (w : World) (X : Option Addr) (m c : Nat) (ys : List α) : Prop :=
  ys.length = m ∧ ((X = none ∧ m = 0 ∧ c = 0) ∨ ∃ ad, X = some ad ∧ ∀ j u, (ys.flatMap cs)[j]? = some u → w.cell? (ad.add j) = some u)
theorem addr_add (g o j : Nat) : (⟨g, o, none⟩ : Addr).add j = ⟨g, o + j, none⟩ := by unfold Addr.add; split <;> simp_all
theorem Src.new (w : World) (x : α) (v : Value) (hv : cs x = [v]) (t : TypeId) : Src cs (w.alloc (.cells #[v] t)) (some ⟨w.heap.size, 0, none⟩) 1 1 [x] := by
  refine ⟨rfl, .inr ⟨_, rfl, fun j u hj => ?_⟩⟩
  rw [addr_add, Nat.zero_add, (Blk.new w t #[v]).cell j]
  simpa [hv] using hj
theorem Src.of (O : OneTy cs T e) {w : World} {B : Nat} {A : Option Addr} {n cap : Nat} {xs : List α} (h : Sl cs 1 w B A n cap xs) (h0 : n = 0 → A = none → cap = 0) : Src cs w A n cap xs := by
  refine ⟨h.len, ?_⟩
  rcases Nat.eq_zero_or_pos n with hn | hn
  · have hx : xs = [] := List.length_eq_zero_iff.1 (h.len.trans hn)
    subst hx
    cases A with
    | none => exact .inl ⟨rfl, hn, h0 hn rfl⟩
    | some ad => exact .inr ⟨ad, rfl, fun j u hj => by simp at hj⟩
  · obtain ⟨b, o, rfl, hb, hc⟩ := h.row hn
    refine .inr ⟨_, rfl, fun j u hj => ?_⟩
    have hjl : j < xs.length := by rw [← O.flat]; exact (List.getElem?_eq_some_iff.1 hj).1
    have hx : xs[j]? = some xs[j] := List.getElem?_eq_getElem hjl
    obtain ⟨v, hv, _⟩ := O.one xs[j]
    have h1 := hc j _ hx 0 v (by rw [hv]; rfl)
    rw [addr_add]
    have hflat : ∀ (l : List α) (k : Nat) (y : α), l[k]? = some y → (l.flatMap cs)[k]? = (cs y)[0]? := by
      intro l
      induction l with
      | nil => intro k y hk; simp at hk
      | cons z l ih =>
        intro k y hk
        obtain ⟨vz, hz, _⟩ := O.one z
        rw [List.flatMap_cons, hz]
        cases k with
        | zero => simp at hk; subst hk; rw [hz]; rfl
        | succ k => simp at hk; simpa using ih k y hk
    rw [hflat xs j _ hx, hv] at hj
    simp at hj
    subst hj
    simpa using h1

theorem wpList_row (O : OneTy cs T e) {w : World} {ops : Array Oper} {rest : List Oper} {o : Oper} {a : Act} {Q : Exit → Act → World → Prop} (hgd : o.guard = none) (s x : Operand)
    (ho : o.op = .call { callee := .builtin .append, args := #[s, x], argTypes := #[T, T] }) (Bw : Nat) (v : Value) (l : List α) (hs : a.eval s = v) (hown : Row cs e w Bw v l)
    (X : Option Addr) (m c : Nat) (ys : List α) (hx : a.eval x = .slice X m c) (hX : Src cs w X m c ys) (hsz : l.length + m ≤ 17000000000000) (hB : Bw ≤ w.heap.size)
    (h : ∀ v' w', Row cs e w' Bw v' (l ++ ys) → w.grownBy w' v.ownBlock → (v'.ownBlock = v.ownBlock ∨ v'.ownBlock = some w.heap.size) → wpList Try.prog ops Q rest (a.put o.dst v') w') : wpList Try.prog ops Q (o :: rest) a w := by
  obtain ⟨i0, z, hi, hz0, hz1, hz2, hz3⟩ := O.info
  obtain ⟨hl, hX⟩ := hX
  have row : ∀ v' w', w'.ownsRow Bw e 1 v' (l.length + m) (l.flatMap cs ++ ys.flatMap cs) → Row cs e w' Bw v' (l ++ ys) := fun v' w' h => by
    unfold Row
    rw [List.length_append, List.flatMap_append, hl]
    exact h
  rcases hX with ⟨rfl, rfl, rfl⟩ | ⟨ad, rfl, hc⟩
  · obtain rfl : ys = [] := List.length_eq_zero_iff.1 hl
    refine wpList_append_own_none hgd s x T ho Bw e i0 1 O.und hi v l.length _ hs hown hx (h v w (by simpa using hown) ?_ (.inl rfl))
    exact World.grownBy.refl _ _
  · refine wpList_append_own_at (w := w) hgd s x T ho Bw e i0 z 1 i0.bytes O.und hi hz0 hz1 rfl hz3 (by decide) v l.length _ hs hown ad m c (ys.flatMap cs) hx (by rw [O.flat, hl, Nat.mul_one]) hc ?_ ?_ ?_ hB ?_
    · intro u hu
      obtain ⟨t, _, ht⟩ := List.mem_flatMap.1 hu
      obtain ⟨vt, h1, h2⟩ := O.one t
      rw [h1] at ht
      simp at ht
      subst ht
      exact h2
    · unfold maxLen; omega
    · exact Nat.le_trans (Nat.mul_le_mul_left _ hz2) (by omega)
    · intro v' w' h1 h2 _ h3
      exact h v' w' (row v' w' h1) h2 h3
end

/-- what a write to a row leaves alone -/
theorem Sl.grown {α : Type} {cs : α → List Value} {s : Nat} {w w' : World} {B : Nat} {A : Option Addr} {n cap : Nat} {xs : List α} {row : Option Nat} (h : Sl cs s w B A n cap xs) (hg : w.grownBy w' row) (hB : B ≤ w.heap.size)
    (hne : ∀ b o, A = some ⟨b, o, none⟩ → b < B → some b ≠ row) : Sl cs s w' B A n cap xs :=
  ⟨h.len, h.ncap, h.cmax, fun h0 => by
    obtain ⟨b, o, e, hb, hc⟩ := h.row h0
    exact ⟨b, o, e, hb, fun k x hx j v hv => (World.cell?_of_block (hg.block b (by omega) (hne b o e hb))).trans (hc k x hx j v hv)⟩⟩

theorem bytes_len (s : ByteArray) : s.data.toList.length = s.size := Array.length_toList
/-- '[]byte(s)' -/
theorem bytes_of_string (s : ByteArray) (hs : s.size ≤ 9223372036854775807) (w : World) : ∃ cap w', (convert 9 26 (.string s)).run Try.prog w = .ok (.slice (some ⟨w.heap.size, 0, none⟩) s.size cap) w' ∧
    Sl csB 1 w' w'.heap.size (some ⟨w.heap.size, 0, none⟩) s.size cap s.data.toList ∧ Below w.heap.size w w' ∧ w'.heap.size = w.heap.size + 1 := by
  have hrun := run_bytes_of_string (P := Try.prog) w 9 26 5 s (by kernel_rfl) (by kernel_rfl) (by kernel_rfl)
  refine ⟨_, _, hrun, ⟨bytes_len s, grownCap_ge _ _ _ _, grownCap_le_maxLen _ _ _ _ (by unfold maxLen; omega), fun h0 => ⟨w.heap.size, 0, rfl, by simp, fun k x hx j v hv => ?_⟩⟩, ((below_drewN (Below.refl _ _) 1).alloc (Nat.le_refl _) _), by simp⟩
  have hnew : (w.drew.alloc (.cells (bytesRow s (grownCap w s.size 0 5)) 5 ((bytesRow s (grownCap w s.size 0 5)).size, (bytesRow s (grownCap w s.size 0 5)).size + 1))).heap[w.heap.size]? = some (.cells (bytesRow s (grownCap w s.size 0 5)) 5 ((bytesRow s (grownCap w s.size 0 5)).size, (bytesRow s (grownCap w s.size 0 5)).size + 1)) := by
    show (w.heap.push _)[w.heap.size]? = _
    simp
  obtain ⟨rfl, hj⟩ : j = 0 ∧ v = .int .u8 (x.toNat : Int) := by
    cases j with
    | zero =>
      have h1 : some (Value.int .u8 (x.toNat : Int)) = some v := hv
      injection h1 with h1
      exact ⟨rfl, h1.symm⟩
    | succ j =>
      have h1 : (none : Option Value) = some v := hv
      cases h1
  subst hj
  rw [cell_of_row _ _ _ _ _ _ hnew]
  obtain ⟨hk, rfl⟩ := List.getElem?_eq_some_iff.1 hx
  have hk' : k < s.data.size := by simpa using hk
  unfold bytesRow
  rw [Nat.zero_add, Nat.mul_one, Nat.add_zero, Array.getElem?_append_left (by simpa using hk'), Array.getElem?_map, Array.getElem?_eq_getElem hk']
  rfl

end Go.Proofs.Ytcljmnbjejcdaaa
