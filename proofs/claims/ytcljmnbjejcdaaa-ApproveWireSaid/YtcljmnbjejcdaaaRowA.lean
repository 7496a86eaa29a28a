/-
  Arguments opened: slices of ints, of bytes, of structs of two numbers; a struct of two numbers.
-/
import Derived.Test.YtcljmnbjejcdaaaAppA
import Derived.Deep.Slices
import Derived.Deep.Fields
import Derived.ChangeSame
import Derived.ChangeOld
import Derived.ShutString
import Derived.Lib.SmallJoins
namespace Go.Proofs.Ytcljmnbjejcdaaa
open Go.ChangeShapes Go.WideShapes Go.ChangeAt Go.RowKit Go.Deep Go.Joins

theorem own : ownKnob Try.prog.godebug = none := by kernel_rfl
theorem laidOut : laidOutB Try.prog = true := by kernel_rfl

theorem cell_lt {w : World} {a : Addr} {v : Value} (h : w.cell? a = some v) : a.block < w.heap.size := by
  rcases Nat.lt_or_ge a.block w.heap.size with h1 | h1
  · exact h1
  · unfold World.cell? at h
    rw [Array.getElem?_eq_none h1] at h
    cases h

section
variable {H : Type} {enc : TypeId × Value → H} {P : Program} {w : World} {base : Nat} {spare : Nat → Bool} {held : Bool}
theorem open_slice_fields {t e : TypeId} {fs : Array Field} {fuel : Nat} {cs : List Value} {x : DataW H × List MemPlace} (ht : P.underlying t = some (.slice e)) (he : P.underlying e = some (.struct fs))
    (hone : oneCellFields P fs = true) (hC : P.cellsOf e = fs.size) (h : DataW.trod enc P w base spare held fuel t cs = some x) :
    (cs = [.slice none 0 0] ∧ x = (.nil, [])) ∨
    ∃ (a : Addr) (len cap m : Nat) (D : Nat → DataW H) (Pl : Nat → List MemPlace), cs = [.slice (some a) len cap] ∧ base ≤ a.block ∧ len ≤ cap ∧ cap ≤ maxLen ∧ m = (if spare a.block then cap else len) ∧
      x = (.slice ((List.range len).map D) ((List.range (m - len)).map fun j => D (len + j)), MemPlace.row a (m * fs.size) ++ (List.range m).flatMap Pl) ∧
      ∀ i, i < m → ∃ (ys : List (DataW H × List MemPlace)) (n : Nat), D i = .agg (ys.map (·.1)) ∧ Pl i = ys.flatMap (·.2) ∧ ys.length = fs.size ∧
        ∀ (j : Nat) (f : Field), fs[j]? = some f → ∃ (v : Value) (y : DataW H × List MemPlace), w.cell? (a.add (i * fs.size + j)) = some v ∧ ys[j]? = some y ∧ DataW.trod enc P w base spare held n f.type [v] = some y := by
  rcases open_slice ht h with h0 | ⟨a, len, cap, m, n, D, Pl, hcs, hb, hl, hm, hmm, hx, hi⟩
  · exact .inl h0
  · refine .inr ⟨a, len, cap, m, D, Pl, hcs, hb, hl, hm, hmm, by rw [hC] at hx; exact hx, fun i him => ?_⟩
    obtain ⟨cs', hc, ht'⟩ := hi i him
    rw [hC] at hc
    obtain ⟨ys, n', hn', hy, hlen, hyl, hf⟩ := DataW.trod_struct he ht'
    obtain ⟨_, hcl, hat⟩ := World.cells?_some hc
    simp only [Prod.mk.injEq] at hy
    refine ⟨ys, n', hy.1, hy.2, hyl, fun j f hj => ?_⟩
    obtain ⟨ho, hk⟩ := hone_of hone j f hj
    have hjl : j < fs.size := (Array.getElem?_eq_some_iff.1 hj).1
    have hcell := hat j hjl
    have hv : cs'[j]? = some (cs'[j]'(by omega)) := List.getElem?_eq_getElem (by omega)
    have h1 := hf j f hj
    rw [ho, hk] at h1
    have hone' : (cs'.drop j).take 1 = [cs'[j]'(by omega)] := by
      rw [List.drop_eq_getElem_cons (by omega)]
      rfl
    rw [hone'] at h1
    have hys : ys[j]? = some (ys[j]'(by omega)) := List.getElem?_eq_getElem (by omega)
    refine ⟨_, _, ?_, hys, h1.trans hys⟩
    rw [← Go.Deep.add_add, hcell, hv]
end

theorem i64_of {n : Int} (h : (Lit.int .i64 n).wf = true) : I64 n := by
  simp only [Lit.wf, Bool.and_eq_true, decide_eq_true_eq] at h
  exact h
theorem u64_of {n : Int} (h : (Lit.int .u64 n).wf = true) : 0 ≤ n ∧ U64 n.toNat := by
  simp only [Lit.wf, Bool.and_eq_true, decide_eq_true_eq] at h
  have h1 : IntKind.u64.min = 0 := by decide
  have h2 : IntKind.u64.max = 18446744073709551615 := by decide
  rw [h1, h2] at h
  unfold U64
  omega

theorem list_of {α : Type} {p : Nat → α → Prop} (n : Nat) (h : ∀ i, i < n → ∃ x, p i x) : ∃ l : List α, l.length = n ∧ ∀ i x, l[i]? = some x → p i x := by
  induction n with
  | zero => exact ⟨[], rfl, fun i x hx => by simp at hx⟩
  | succ n ih =>
    obtain ⟨l, hl, hp⟩ := ih (fun i hi => h i (by omega))
    obtain ⟨x, hx⟩ := h n (by omega)
    refine ⟨l ++ [x], by simp [hl], fun i y hy => ?_⟩
    rcases Nat.lt_or_ge i n with h1 | h1
    · rw [List.getElem?_append_left (by omega)] at hy; exact hp i y hy
    · rw [List.getElem?_append_right (by omega)] at hy
      have hi : i - l.length = 0 := by
        rcases Nat.eq_zero_or_pos (i - l.length) with h2 | h2
        · exact h2
        · rw [List.getElem?_eq_none (by simp; omega)] at hy; cases hy
      rw [hi] at hy
      have : i = n := by omega
      subst this
      simp at hy; subst hy; exact hx

theorem Sl.map {α β : Type} {cs : α → List Value} {cs' : β → List Value} {s : Nat} {w : World} {B : Nat} {A : Option Addr} {n cap : Nat} {xs : List α} (h : Sl cs s w B A n cap xs) (f : α → β) (hf : ∀ x ∈ xs, cs' (f x) = cs x) : Sl cs' s w B A n cap (xs.map f) :=
  ⟨by rw [List.length_map]; exact h.len, h.ncap, h.cmax, fun h0 => by
    obtain ⟨b, o, e, hb, hc⟩ := h.row h0
    refine ⟨b, o, e, hb, fun k y hy j v hv => ?_⟩
    rw [List.getElem?_map] at hy
    cases hk : xs[k]? with
    | none => rw [hk] at hy; cases hy
    | some x =>
      rw [hk] at hy
      have : f x = y := by simpa using hy
      subst this
      rw [hf x (List.mem_of_getElem? hk)] at hv
      exact hc k x hk j v hv⟩

section
variable {H : Type} {enc : TypeId × Value → H} {W : World} {d : DataW H} {p : List MemPlace}
theorem open_two {t e : TypeId} {f0 f1 : Field} {k0 k1 : IntKind} (ht : Try.prog.underlying t = some (.slice e)) (he : Try.prog.underlying e = some (.struct #[f0, f1])) (hone : oneCellFields Try.prog #[f0, f1] = true) (hC : Try.prog.cellsOf e = 2) (h0 : Try.prog.underlying f0.type = some (.int k0)) (h1 : Try.prog.underlying f1.type = some (.int k1))
    {A : Option Addr} {n cap : Nat} (h : DataW.Trod enc Try.prog W 0 (fun _ => true) true t (.slice A n cap) d p) : ∃ l : List (Int × Int), Sl (fun q : Int × Int => [.int k0 q.1, .int k1 q.2]) 2 W W.heap.size A n cap l ∧ ∀ q ∈ l, (Lit.int k0 q.1).wf = true ∧ (Lit.int k1 q.2).wf = true := by
  obtain ⟨fuel, hf⟩ := h
  rcases open_slice_fields ht he hone hC hf with ⟨hcs, _⟩ | ⟨a, len, c, m, D, Pl, hcs, _, hl, hm, hmm, _, hi⟩
  · simp [Value.cells] at hcs
    obtain ⟨rfl, rfl, rfl⟩ := hcs
    exact ⟨[], Sl.nil_, fun _ h => by cases h⟩
  · simp [Value.cells] at hcs
    obtain ⟨rfl, rfl, rfl⟩ := hcs
    simp at hmm
    subst hmm
    have hint : ∀ i, i < n → ∃ x0 x1 : Int, W.cell? (a.add (i * 2)) = some (.int k0 x0) ∧ W.cell? (a.add (i * 2 + 1)) = some (.int k1 x1) ∧ (Lit.int k0 x0).wf = true ∧ (Lit.int k1 x1).wf = true := by
      intro i hin
      obtain ⟨ys, k, _, _, _, hff⟩ := hi i (by omega)
      obtain ⟨v0, y0, c0, _, t0⟩ := hff 0 f0 rfl
      obtain ⟨v1, y1, c1, _, t1⟩ := hff 1 f1 rfl
      obtain ⟨x0, e0, _, w0⟩ := DataW.trod_int h0 t0
      obtain ⟨x1, e1, _, w1⟩ := DataW.trod_int h1 t1
      simp at e0 e1
      subst e0 e1
      exact ⟨x0, x1, c0, c1, w0, w1⟩
    obtain ⟨l, hll, hls⟩ := list_of (α := Int × Int) (p := fun i q => W.cell? (a.add (i * 2)) = some (.int k0 q.1) ∧ W.cell? (a.add (i * 2 + 1)) = some (.int k1 q.2) ∧ (Lit.int k0 q.1).wf = true ∧ (Lit.int k1 q.2).wf = true) n (fun i hin => by
      obtain ⟨x0, x1, h⟩ := hint i hin
      exact ⟨(x0, x1), h⟩)
    refine ⟨l, ⟨hll, hl, by unfold maxLen at hm; omega, fun hn0 => ?_⟩, fun q hq => by obtain ⟨i, hi⟩ := List.mem_iff_getElem?.1 hq; exact (hls i q hi).2.2⟩
    obtain ⟨x0, _, h0', _⟩ := hint 0 hn0
    obtain ⟨b, o, spot⟩ := a
    have hspot : spot = none := by simpa [Addr.add] using World.cell?_spot h0'
    subst hspot
    refine ⟨b, o, rfl, cell_lt h0', fun i q hq j v hv => ?_⟩
    obtain ⟨g0, g1, _⟩ := hls i q hq
    have hj : j < 2 := (List.getElem?_eq_some_iff.1 hv).1
    have h6 : j = 0 ∨ j = 1 := by omega
    rcases h6 with rfl | rfl
    · simp at hv; subst hv
      rwa [show (⟨b, o, none⟩ : Addr).add (i * 2) = ⟨b, o + i * 2 + 0, none⟩ from by simp [Addr.add]] at g0
    · simp at hv; subst hv
      rwa [show (⟨b, o, none⟩ : Addr).add (i * 2 + 1) = ⟨b, o + i * 2 + 1, none⟩ from by simp [Addr.add, Nat.add_assoc]] at g1

theorem open_persons {A : Option Addr} {n cap : Nat} (h : DataW.Trod enc Try.prog W 0 (fun _ => true) true 22 (.slice A n cap) d p) : ∃ ps, Sl csP 2 W W.heap.size A n cap ps ∧ (∀ x ∈ ps, U64 x.secret) ∧ ∀ x ∈ ps, I64 x.centre := by
  obtain ⟨l, hl, hw⟩ := open_two (k0 := .i64) (k1 := .u64) Try.underlying22 Try.underlying44 (by kernel_rfl) (by kernel_rfl) Try.underlying3 Try.underlying23 h
  refine ⟨l.map (fun q => ⟨q.1, q.2.toNat⟩), hl.map _ (fun q hq => ?_), fun x hx => ?_, fun x hx => ?_⟩
  · have := (u64_of (hw q hq).2).1
    simp only [csP]
    rw [Int.toNat_of_nonneg this]
  · obtain ⟨q, hq, rfl⟩ := List.mem_map.1 hx
    exact (u64_of (hw q hq).2).2
  · obtain ⟨q, hq, rfl⟩ := List.mem_map.1 hx
    exact i64_of (hw q hq).1
set_option maxRecDepth 100000 in
theorem open_approvals {A : Option Addr} {n cap : Nat} (h : DataW.Trod enc Try.prog W 0 (fun _ => true) true 34 (.slice A n cap) d p) : ∃ l, Sl csA 2 W W.heap.size A n cap l ∧ (∀ x ∈ l, I64 x.person) ∧ ∀ x ∈ l, U64 x.tag := by
  obtain ⟨l, hl, hw⟩ := open_two (k0 := .i64) (k1 := .u64) Try.underlying34 Try.underlying25 (by kernel_rfl) (by kernel_rfl) Try.underlying3 Try.underlying23 h
  refine ⟨l.map (fun q => ⟨q.1, q.2.toNat⟩), hl.map _ (fun q hq => ?_), fun x hx => ?_, fun x hx => ?_⟩
  · have := (u64_of (hw q hq).2).1
    simp only [csA]
    rw [Int.toNat_of_nonneg this]
  · obtain ⟨q, hq, rfl⟩ := List.mem_map.1 hx
    exact i64_of (hw q hq).1
  · obtain ⟨q, hq, rfl⟩ := List.mem_map.1 hx
    exact (u64_of (hw q hq).2).2

theorem open_row {t e : TypeId} {k : IntKind} (ht : Try.prog.underlying t = some (.slice e)) (he : Try.prog.underlying e = some (.int k)) (hc : Try.prog.cellsOf e = 1) {A : Option Addr} {n cap : Nat} (h : DataW.Trod enc Try.prog W 0 (fun _ => true) true t (.slice A n cap) d p) : ∃ xs : List Int, Sl (fun x => [.int k x]) 1 W W.heap.size A n cap xs ∧ ∀ x ∈ xs, (Lit.int k x).wf = true := by
  obtain ⟨fuel, hf⟩ := h
  rcases open_ints ht he hc hf with ⟨hcs, _⟩ | ⟨a, l, c, zs, hcs, _, hl, hm, hz, _, hcell, hwz⟩
  · simp [Value.cells] at hcs
    obtain ⟨rfl, rfl, rfl⟩ := hcs
    exact ⟨[], Sl.nil_, fun x hx => absurd hx (by simp)⟩
  · simp [Value.cells] at hcs
    obtain ⟨rfl, rfl, rfl⟩ := hcs
    simp at hz
    refine ⟨zs.take n, ⟨by simp; omega, hl, by unfold maxLen at hm; omega, fun hn0 => ?_⟩, fun x hx => hwz x (List.mem_of_mem_take hx)⟩
    have h0 := hcell 0 (by omega)
    obtain ⟨b, o, spot⟩ := a
    have hspot : spot = none := by simpa [Addr.add] using World.cell?_spot h0
    subst hspot
    refine ⟨b, o, rfl, cell_lt h0, fun i x hx j v hv => ?_⟩
    have hj : j < 1 := by simpa using (List.getElem?_eq_some_iff.1 hv).1
    obtain rfl : j = 0 := by omega
    simp at hv
    subst hv
    rw [List.getElem?_take] at hx
    split at hx
    · have := hcell i (by omega)
      rw [show (⟨b, o, none⟩ : Addr).add i = ⟨b, o + i * 1 + 0, none⟩ by simp [Addr.add]] at this
      rw [this, getD_of hx]
    · cases hx
theorem open_nums {A : Option Addr} {n cap : Nat} (h : DataW.Trod enc Try.prog W 0 (fun _ => true) true 37 (.slice A n cap) d p) : ∃ xs, Sl csI 1 W W.heap.size A n cap xs ∧ ∀ x ∈ xs, I64 x := by
  obtain ⟨xs, h1, h2⟩ := open_row (k := .i64) Try.underlying37 Try.underlying3 (by kernel_rfl) h
  exact ⟨xs, h1, fun x hx => i64_of (h2 x hx)⟩
theorem open_bytes {A : Option Addr} {n cap : Nat} (h : DataW.Trod enc Try.prog W 0 (fun _ => true) true 26 (.slice A n cap) d p) : ∃ xs, Sl csB 1 W W.heap.size A n cap xs := by
  obtain ⟨xs, h1, h2⟩ := open_row (k := .u8) Try.underlying26 Try.underlying5 (by kernel_rfl) h
  refine ⟨xs.map (fun x => UInt8.ofNat x.toNat), h1.map _ (fun x hx => ?_)⟩
  have h3 := h2 x hx
  simp only [Lit.wf, Bool.and_eq_true, decide_eq_true_eq] at h3
  have e1 : IntKind.u8.min = 0 := by decide
  have e2 : IntKind.u8.max = 255 := by decide
  rw [e1, e2] at h3
  simp only [csB]
  have : ((UInt8.ofNat x.toNat).toNat : Int) = x := by
    rw [UInt8.toNat_ofNat']
    omega
  rw [this]
set_option maxRecDepth 100000 in
theorem open_approval {b : Nat} {v : Value} (hv : Value.okWide Try.prog W .any b 25 v) (h : DataW.Trod enc Try.prog W 0 (fun _ => true) true 25 v d p) :
    ∃ a : App, v = a.val ∧ I64 a.person ∧ U64 a.tag := by
  obtain ⟨v0, v1, y0, y1, n, rfl, _, _, t0, t1⟩ := open_agg2 Try.underlying25 (by kernel_rfl) (by kernel_rfl) hv h
  obtain ⟨x0, e0, _, w0⟩ := DataW.trod_int (k := .i64) Try.underlying3 t0
  obtain ⟨x1, e1, _, w1⟩ := DataW.trod_int (k := .u64) Try.underlying23 t1
  simp at e0 e1
  subst e0 e1
  have := u64_of w1
  exact ⟨⟨x0, x1.toNat⟩, by simp only [App.val]; rw [Int.toNat_of_nonneg this.1], i64_of w0, this.2⟩
end
end Go.Proofs.Ytcljmnbjejcdaaa
