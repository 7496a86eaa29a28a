/-
  Arguments opened: a slice of windows, a slice of ints.
-/
import Derived.Test.YtijocgijnbcefaaOrbA
import Derived.Deep.Slices
import Derived.Deep.Fields
import Derived.ChangeSame
import Derived.ChangeOld
import Derived.ShutString
import Derived.Lib.SmallJoins
namespace Go.Proofs.Ytijocgijnbcefaa
open Go.ChangeShapes Go.WideShapes Go.ChangeAt Go.RowKit Go.Deep Go.Joins

theorem own : ownKnob Try.prog.godebug = none := by kernel_rfl
theorem laidOut : laidOutB Try.prog = true := by kernel_rfl

theorem cell_lt {w : World} {a : Addr} {v : Value} (h : w.cell? a = some v) : a.block < w.heap.size := by
  rcases Nat.lt_or_ge a.block w.heap.size with h1 | h1
  · exact h1
  · unfold World.cell? at h
    rw [Array.getElem?_eq_none h1] at h
    cases h

section
variable {H : Type} {enc : TypeId × Value → H} {P : Program} {w : World} {base : Nat} {spare : Nat → Bool} {held : Bool}
theorem open_slice_fields {t e : TypeId} {fs : Array Field} {fuel : Nat} {cs : List Value} {x : DataW H × List MemPlace} (ht : P.underlying t = some (.slice e)) (he : P.underlying e = some (.struct fs))
    (hone : oneCellFields P fs = true) (hC : P.cellsOf e = fs.size) (h : DataW.trod enc P w base spare held fuel t cs = some x) :
    (cs = [.slice none 0 0] ∧ x = (.nil, [])) ∨
    ∃ (a : Addr) (len cap m : Nat) (D : Nat → DataW H) (Pl : Nat → List MemPlace), cs = [.slice (some a) len cap] ∧ base ≤ a.block ∧ len ≤ cap ∧ cap ≤ maxLen ∧ m = (if spare a.block then cap else len) ∧
      x = (.slice ((List.range len).map D) ((List.range (m - len)).map fun j => D (len + j)), MemPlace.row a (m * fs.size) ++ (List.range m).flatMap Pl) ∧
      ∀ i, i < m → ∃ (ys : List (DataW H × List MemPlace)) (n : Nat), D i = .agg (ys.map (·.1)) ∧ Pl i = ys.flatMap (·.2) ∧ ys.length = fs.size ∧
        ∀ (j : Nat) (f : Field), fs[j]? = some f → ∃ (v : Value) (y : DataW H × List MemPlace), w.cell? (a.add (i * fs.size + j)) = some v ∧ ys[j]? = some y ∧ DataW.trod enc P w base spare held n f.type [v] = some y := by
  rcases open_slice ht h with h0 | ⟨a, len, cap, m, n, D, Pl, hcs, hb, hl, hm, hmm, hx, hi⟩
  · exact .inl h0
  · refine .inr ⟨a, len, cap, m, D, Pl, hcs, hb, hl, hm, hmm, by rw [hC] at hx; exact hx, fun i him => ?_⟩
    obtain ⟨cs', hc, ht'⟩ := hi i him
    rw [hC] at hc
    obtain ⟨ys, n', hn', hy, hlen, hyl, hf⟩ := DataW.trod_struct he ht'
    obtain ⟨_, hcl, hat⟩ := World.cells?_some hc
    simp only [Prod.mk.injEq] at hy
    refine ⟨ys, n', hy.1, hy.2, hyl, fun j f hj => ?_⟩
    obtain ⟨ho, hk⟩ := hone_of hone j f hj
    have hjl : j < fs.size := (Array.getElem?_eq_some_iff.1 hj).1
    have hcell := hat j hjl
    have hv : cs'[j]? = some (cs'[j]'(by omega)) := List.getElem?_eq_getElem (by omega)
    have h1 := hf j f hj
    rw [ho, hk] at h1
    have hone' : (cs'.drop j).take 1 = [cs'[j]'(by omega)] := by
      rw [List.drop_eq_getElem_cons (by omega)]
      rfl
    rw [hone'] at h1
    have hys : ys[j]? = some (ys[j]'(by omega)) := List.getElem?_eq_getElem (by omega)
    refine ⟨_, _, ?_, hys, h1.trans hys⟩
    rw [← Go.Deep.add_add, hcell, hv]
end

section
variable {H : Type} {enc : TypeId × Value → H} {P : Program} {w : World} {base : Nat} {spare : Nat → Bool} {held : Bool}
theorem open_agg6 {r : Reach} {b0 : Nat} {t : TypeId} {f0 f1 f2 f3 f4 f5 : Field} {v : Value} {d : DataW H} {p : List MemPlace} (hs : P.underlying t = some (.struct #[f0, f1, f2, f3, f4, f5])) (hone : oneCellFields P #[f0, f1, f2, f3, f4, f5] = true) (hC : P.cellsOf t = 6)
    (hv : Value.okWide P w r b0 t v) (h : DataW.Trod enc P w base spare held t v d p) :
    ∃ (v0 v1 v2 v3 v4 v5 : Value) (y0 y1 y2 y3 y4 y5 : DataW H × List MemPlace) (n : Nat), v = .agg #[v0, v1, v2, v3, v4, v5] ∧ d = .agg [y0.1, y1.1, y2.1, y3.1, y4.1, y5.1] ∧ p = y0.2 ++ (y1.2 ++ (y2.2 ++ (y3.2 ++ (y4.2 ++ y5.2)))) ∧
      DataW.trod enc P w base spare held n f0.type [v0] = some y0 ∧ DataW.trod enc P w base spare held n f1.type [v1] = some y1 ∧ DataW.trod enc P w base spare held n f2.type [v2] = some y2 ∧ DataW.trod enc P w base spare held n f3.type [v3] = some y3 ∧ DataW.trod enc P w base spare held n f4.type [v4] = some y4 ∧ DataW.trod enc P w base spare held n f5.type [v5] = some y5 := by
  obtain ⟨cs, rfl, hsz⟩ := okWide_struct hs hv
  obtain ⟨l⟩ := cs
  match l, hsz.trans hC with
  | [c0, c1, c2, c3, c4, c5], _ =>
    obtain ⟨fuel, hf⟩ := h
    obtain ⟨xs, n, _, hx, _, hlen, hg⟩ := DataW.trod_struct hs hf
    obtain ⟨o0, k0⟩ := hone_of hone 0 f0 rfl
    obtain ⟨o1, k1⟩ := hone_of hone 1 f1 rfl
    obtain ⟨o2, k2⟩ := hone_of hone 2 f2 rfl
    obtain ⟨o3, k3⟩ := hone_of hone 3 f3 rfl
    obtain ⟨o4, k4⟩ := hone_of hone 4 f4 rfl
    obtain ⟨o5, k5⟩ := hone_of hone 5 f5 rfl
    match xs, hlen with
    | [y0, y1, y2, y3, y4, y5], _ =>
      simp only [Prod.mk.injEq] at hx
      exact ⟨c0, c1, c2, c3, c4, c5, y0, y1, y2, y3, y4, y5, n, rfl, by simpa using hx.1, by simpa using hx.2, by simpa [Value.cells, o0, k0] using hg 0 f0 rfl, by simpa [Value.cells, o1, k1] using hg 1 f1 rfl, by simpa [Value.cells, o2, k2] using hg 2 f2 rfl, by simpa [Value.cells, o3, k3] using hg 3 f3 rfl, by simpa [Value.cells, o4, k4] using hg 4 f4 rfl, by simpa [Value.cells, o5, k5] using hg 5 f5 rfl⟩
end

theorem i64_of {n : Int} (h : (Lit.int .i64 n).wf = true) : I64 n := by
  simp only [Lit.wf, Bool.and_eq_true, decide_eq_true_eq] at h
  exact h

theorem open_query {H : Type} {enc : TypeId × Value → H} {W : World} {b : Nat} {v : Value} {d : DataW H} {p : List MemPlace} (hv : Value.okWide Try.prog W .any b 34 v) (h : DataW.Trod enc Try.prog W 0 (fun _ => true) true 34 v d p) :
    ∃ b0 b1 b2 b3 b4 b5 : Int, v = .agg #[.int .i64 b0, .int .i64 b1, .int .i64 b2, .int .i64 b3, .int .i64 b4, .int .i64 b5] ∧ (I64 b0 ∧ I64 b1 ∧ I64 b2 ∧ I64 b3 ∧ I64 b4 ∧ I64 b5) := by
  obtain ⟨v0, v1, v2, v3, v4, v5, y0, y1, y2, y3, y4, y5, n, rfl, _, _, t0, t1, t2, t3, t4, t5⟩ := open_agg6 Try.underlying34 (by kernel_rfl) (by kernel_rfl) hv h
  have go : ∀ {v : Value} {y : DataW H × List MemPlace}, DataW.trod enc Try.prog W 0 (fun _ => true) true n 3 [v] = some y → ∃ x : Int, v = .int .i64 x ∧ I64 x := fun ht => by
    obtain ⟨x, hx, _, hw⟩ := DataW.trod_int Try.underlying3 ht
    simp at hx
    exact ⟨x, hx, i64_of hw⟩
  obtain ⟨b0, rfl, e0⟩ := go t0
  obtain ⟨b1, rfl, e1⟩ := go t1
  obtain ⟨b2, rfl, e2⟩ := go t2
  obtain ⟨b3, rfl, e3⟩ := go t3
  obtain ⟨b4, rfl, e4⟩ := go t4
  obtain ⟨b5, rfl, e5⟩ := go t5
  exact ⟨b0, b1, b2, b3, b4, b5, rfl, e0, e1, e2, e3, e4, e5⟩

theorem list_of {α : Type} {p : Nat → α → Prop} (n : Nat) (h : ∀ i, i < n → ∃ x, p i x) : ∃ l : List α, l.length = n ∧ ∀ i x, l[i]? = some x → p i x := by
  induction n with
  | zero => exact ⟨[], rfl, fun i x hx => by simp at hx⟩
  | succ n ih =>
    obtain ⟨l, hl, hp⟩ := ih (fun i hi => h i (by omega))
    obtain ⟨x, hx⟩ := h n (by omega)
    refine ⟨l ++ [x], by simp [hl], fun i y hy => ?_⟩
    rcases Nat.lt_or_ge i n with h1 | h1
    · rw [List.getElem?_append_left (by omega)] at hy; exact hp i y hy
    · rw [List.getElem?_append_right (by omega)] at hy
      have hi : i - l.length = 0 := by
        rcases Nat.eq_zero_or_pos (i - l.length) with h2 | h2
        · exact h2
        · rw [List.getElem?_eq_none (by simp; omega)] at hy; cases hy
      rw [hi] at hy
      have : i = n := by omega
      subst this
      simp at hy; subst hy; exact hx

section
variable {H : Type} {enc : TypeId × Value → H} {W : World} {d : DataW H} {p : List MemPlace}
theorem open_wins {A : Option Addr} {n cap : Nat} (h : DataW.Trod enc Try.prog W 0 (fun _ => true) true 22 (.slice A n cap) d p) : ∃ ts, Sl csW 6 W W.heap.size A n cap ts := by
  obtain ⟨fuel, hf⟩ := h
  rcases open_slice_fields Try.underlying22 Try.underlying31 (by kernel_rfl) (by kernel_rfl) hf with ⟨hcs, _⟩ | ⟨a, len, c, m, D, Pl, hcs, _, hl, hm, hmm, _, hi⟩
  · simp [Value.cells] at hcs
    obtain ⟨rfl, rfl, rfl⟩ := hcs
    exact ⟨[], Sl.nil_⟩
  · simp [Value.cells] at hcs
    obtain ⟨rfl, rfl, rfl⟩ := hcs
    simp at hmm
    subst hmm
    have hint : ∀ i, i < n → ∀ j, j < 6 → ∃ x : Int, W.cell? (a.add (i * 6 + j)) = some (.int .i64 x) := by
      intro i hin j hj
      obtain ⟨ys, k, _, _, _, hff⟩ := hi i (by omega)
      have h6 : j = 0 ∨ j = 1 ∨ j = 2 ∨ j = 3 ∨ j = 4 ∨ j = 5 := by omega
      have go : ∀ f : Field, (f.type = 3) → (∃ (v : Value) (y : DataW H × List MemPlace), W.cell? (a.add (i * 6 + j)) = some v ∧ ys[j]? = some y ∧ DataW.trod enc Try.prog W 0 (fun _ => true) true k f.type [v] = some y) → ∃ x : Int, W.cell? (a.add (i * 6 + j)) = some (.int .i64 x) := by
        rintro f ht ⟨v, y, hc, _, hv⟩
        rw [ht] at hv
        obtain ⟨x, hx, _⟩ := DataW.trod_int Try.underlying3 hv
        simp at hx
        exact ⟨x, by rw [hc, hx]⟩
      rcases h6 with rfl | rfl | rfl | rfl | rfl | rfl <;> exact go _ rfl (hff _ _ rfl)
    obtain ⟨ts, htl, hts⟩ := list_of (α := Win) (p := fun i t => ∀ (j : Nat) (v : Value), (csW t)[j]? = some v → W.cell? (a.add (i * 6 + j)) = some v) n (fun i hin => by
      obtain ⟨x0, h0⟩ := hint i hin 0 (by omega)
      obtain ⟨x1, h1⟩ := hint i hin 1 (by omega)
      obtain ⟨x2, h2⟩ := hint i hin 2 (by omega)
      obtain ⟨x3, h3⟩ := hint i hin 3 (by omega)
      obtain ⟨x4, h4⟩ := hint i hin 4 (by omega)
      obtain ⟨x5, h5⟩ := hint i hin 5 (by omega)
      refine ⟨⟨x0, x1, x2, x3, x4, x5⟩, fun j v hv => ?_⟩
      have hj : j < 6 := (List.getElem?_eq_some_iff.1 hv).1
      have h6 : j = 0 ∨ j = 1 ∨ j = 2 ∨ j = 3 ∨ j = 4 ∨ j = 5 := by omega
      rcases h6 with rfl | rfl | rfl | rfl | rfl | rfl <;> (simp [csW] at hv; subst hv; assumption))
    refine ⟨ts, htl, hl, by unfold maxLen at hm; omega, fun hn0 => ?_⟩
    obtain ⟨x0, h0⟩ := hint 0 hn0 0 (by omega)
    obtain ⟨b, o, spot⟩ := a
    have hspot : spot = none := by simpa [Addr.add] using World.cell?_spot h0
    subst hspot
    refine ⟨b, o, rfl, cell_lt h0, fun i t ht j v hv => ?_⟩
    have := hts i t ht j v hv
    rwa [show (⟨b, o, none⟩ : Addr).add (i * 6 + j) = ⟨b, o + i * 6 + j, none⟩ from by simp [Addr.add, Nat.add_assoc]] at this

theorem open_nums {A : Option Addr} {n cap : Nat} (h : DataW.Trod enc Try.prog W 0 (fun _ => true) true 27 (.slice A n cap) d p) : ∃ xs, Sl csI 1 W W.heap.size A n cap xs ∧ ∀ x ∈ xs, I64 x := by
  obtain ⟨fuel, hf⟩ := h
  rcases open_ints Try.underlying27 Try.underlying3 (by kernel_rfl) hf with ⟨hcs, _⟩ | ⟨a, l, c, zs, hcs, _, hl, hm, hz, _, hcell, hwz⟩
  · simp [Value.cells] at hcs
    obtain ⟨rfl, rfl, rfl⟩ := hcs
    exact ⟨[], Sl.nil_, fun x hx => absurd hx (by simp)⟩
  · simp [Value.cells] at hcs
    obtain ⟨rfl, rfl, rfl⟩ := hcs
    simp at hz
    refine ⟨zs.take n, ⟨by simp; omega, hl, by unfold maxLen at hm; omega, fun hn0 => ?_⟩, fun x hx => by
      have := hwz x (List.mem_of_mem_take hx)
      simp only [Lit.wf, Bool.and_eq_true, decide_eq_true_eq] at this
      exact this⟩
    have h0 := hcell 0 (by omega)
    obtain ⟨b, o, spot⟩ := a
    have hspot : spot = none := by simpa [Addr.add] using World.cell?_spot h0
    subst hspot
    refine ⟨b, o, rfl, cell_lt h0, fun i x hx j v hv => ?_⟩
    have hj : j < 1 := by simpa [csI] using (List.getElem?_eq_some_iff.1 hv).1
    obtain rfl : j = 0 := by omega
    simp [csI] at hv
    subst hv
    rw [List.getElem?_take] at hx
    split at hx
    · have := hcell i (by omega)
      rw [show (⟨b, o, none⟩ : Addr).add i = ⟨b, o + i * 1 + 0, none⟩ by simp [Addr.add]] at this
      rw [this, getD_of hx]
    · cases hx
end
end Go.Proofs.Ytijocgijnbcefaa
