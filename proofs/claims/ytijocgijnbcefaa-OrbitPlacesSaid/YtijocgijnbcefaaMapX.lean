/-
  Maps that a call makes: a block that is a map, read as a function from key values to element values. Any key type that is 'Keyed'.
-/
import Derived.Maps.Own
import Derived.DeepKeys4
import Derived.Test.YtijocgijnbcefaaBase
namespace Go.Proofs.Ytijocgijnbcefaa
open Go.RowKit Go.Maps

/-- Block B is a map over keys of type k; f says what it holds. -/
def MapIs (P : Program) (k : TypeId) (w : World) (B : Nat) (f : Value → Option Value) : Prop :=
  ∃ (es : Array MapEntry) (clock : Nat), w.heap[B]? = some (.map es clock) ∧ (∀ e ∈ es.toList, ∃ l, keyOf P k e.key = some l) ∧ (∀ e ∈ es.toList, f e.key = some e.val) ∧ (∀ x v, f x = some v → ∃ e ∈ es.toList, e.key = x ∧ e.val = v) ∧
    (∀ (i j : Nat) (e e' : MapEntry), es[i]? = some e → es[j]? = some e' → e.key = e'.key → i = j)

section
variable {P : Program} {k : TypeId} {w w' : World} {B : Nat} {f : Value → Option Value}
theorem MapIs.lt (h : MapIs P k w B f) : B < w.heap.size := by
  obtain ⟨es, clock, hb, _⟩ := h
  exact (Array.getElem?_eq_some_iff.1 hb).1
theorem MapIs.new (w : World) : MapIs P k (w.alloc (.map #[] 0)) w.heap.size (fun _ => none) :=
  ⟨#[], 0, World.alloc_heap_new w _, by simp, by simp, by simp, by simp⟩
theorem MapIs.keep (h : MapIs P k w B f) (hb : w'.heap[B]? = w.heap[B]?) : MapIs P k w' B f := by
  obtain ⟨es, clock, h1, h2⟩ := h
  exact ⟨es, clock, hb.trans h1, h2⟩
theorem MapIs.alloc (h : MapIs P k w B f) (o : Obj) : MapIs P k (w.alloc o) B f := h.keep (Below.heap_alloc w o B h.lt)
theorem MapIs.below {B' : Nat} (h : MapIs P k w B f) (hb : Below B' w w') (hB : B < B') : MapIs P k w' B f := h.keep (hb.block B hB)
theorem MapIs.congr {g : Value → Option Value} (h : MapIs P k w B f) (hg : ∀ x, g x = f x) : MapIs P k w B g := by
  have : g = f := funext hg
  rw [this]; exact h

theorem MapIs.run_find (K : Keyed P k) (h : MapIs P k w B f) {x : Value} {l : Lit} (hx : keyOf P k x = some l) :
    ∃ es clock, w.heap[B]? = some (.map es clock) ∧ (((Instr.findKey k x es.toList).run P w = .ok none w ∧ f x = none) ∨ ∃ j v, (Instr.findKey k x es.toList).run P w = .ok (some (j, v)) w ∧ f x = some v ∧ ∃ e, es[j]? = some e ∧ e.key = x ∧ e.val = v) := by
  obtain ⟨es, clock, hb, hk, hf1, hf2, hd⟩ := h
  refine ⟨es, clock, hb, ?_⟩
  rcases K.find w hx es.toList hk with ⟨h1, h2⟩ | ⟨j, e, h1, h2, h3⟩
  · refine .inl ⟨h1, ?_⟩
    cases hfx : f x with
    | none => rfl
    | some v =>
      obtain ⟨e, he, e1, _⟩ := hf2 x v hfx
      exact absurd e1 (h2 e he)
  · have hej : es[j]? = some e := by simpa using h2
    exact .inr ⟨j, e.val, h1, by rw [← h3]; exact hf1 e (List.mem_of_getElem? h2), e, hej, h3, rfl⟩

theorem MapIs.run_lookup_ok {t e : TypeId} {z : Value} (K : Keyed P k) (h : MapIs P k w B f) (ht : P.underlying t = some (.map k e)) (hz : (zeroValue e).run P w = .ok z w) {x : Value} {l : Lit} (hx : keyOf P k x = some l) :
    (Instr.lookup t (.map (some B)) x true).run P w = .ok (.tuple #[(f x).getD z, .bool (f x).isSome]) w := by
  obtain ⟨es, clock, hb, h1 | ⟨j, v, h1, h2, _⟩⟩ := h.run_find K hx
  · simp [Instr.lookup, run_underlying ht, hb, K.check w _ hx, h1.1, h1.2, hz, getObj, Sem.run]
  · simp [Instr.lookup, run_underlying ht, hb, K.check w _ hx, h1, h2, getObj, Sem.run]

theorem MapIs.run_lookup {t e : TypeId} {z : Value} (K : Keyed P k) (h : MapIs P k w B f) (ht : P.underlying t = some (.map k e)) (hz : (zeroValue e).run P w = .ok z w) {x : Value} {l : Lit} (hx : keyOf P k x = some l) :
    (Instr.lookup t (.map (some B)) x false).run P w = .ok ((f x).getD z) w := by
  obtain ⟨es, clock, hb, h1 | ⟨j, v, h1, h2, _⟩⟩ := h.run_find K hx
  · simp [Instr.lookup, run_underlying ht, hb, K.check w _ hx, h1.1, h1.2, hz, getObj, Sem.run]
  · simp [Instr.lookup, run_underlying ht, hb, K.check w _ hx, h1, h2, getObj, Sem.run]

open Classical in
theorem MapIs.run_update {t e : TypeId} (K : Keyed P k) (h : MapIs P k w B f) (ht : P.underlying t = some (.map k e)) {x v : Value} {l : Lit} (hx : keyOf P k x = some l) :
    ∃ w', (Instr.mapUpdate t (.map (some B)) x v).run P w = .ok () w' ∧ MapIs P k w' B (fun y => if y = x then some v else f y) ∧ w.grownBy w' (some B) := by
  obtain ⟨es, clock, hb, hcase⟩ := h.run_find K hx
  obtain ⟨es2, clock2, hb2, hk, hf1, hf2, hd⟩ := h
  obtain ⟨rfl, rfl⟩ : es2 = es ∧ clock2 = clock := by rw [hb] at hb2; simpa using hb2.symm
  clear hb2
  have hlt := (Array.getElem?_eq_some_iff.1 hb).1
  have hgrow : ∀ o, w.grownBy { w with heap := w.heap.setIfInBounds B o } (some B) := fun o =>
    ⟨rfl, rfl, rfl, by simp, fun j hj hne => by
      show (w.heap.setIfInBounds B o)[j]? = _
      rw [Array.getElem?_setIfInBounds_ne (fun e => hne (by rw [e]))]⟩
  rcases hcase with ⟨h1, h2⟩ | ⟨j, u, h1, h2, en, h3, h4, h5⟩
  · refine ⟨{ w with heap := w.heap.setIfInBounds B (.map (es2.push { key := x, val := v, born := clock2 }) (clock2 + 1)) }, ?_, ?_, hgrow _⟩
    · simp [Instr.mapUpdate, run_underlying ht, hb, K.check w _ hx, h1, getObj, setObj, Sem.run]
    · have hno : ∀ e ∈ es2.toList, e.key ≠ x := fun e he hex => by have := hf1 e he; rw [hex, h2] at this; cases this
      refine ⟨es2.push { key := x, val := v, born := clock2 }, clock2 + 1, by simp [hlt], ?_, ?_, ?_, ?_⟩
      · intro e he
        simp at he
        rcases he with he | rfl
        · exact hk e (by simpa using he)
        · exact ⟨l, hx⟩
      · intro e he
        dsimp only
        simp at he
        rcases he with he | rfl
        · rw [if_neg (hno e (by simpa using he))]; exact hf1 e (by simpa using he)
        · simp
      · intro y u hy
        dsimp only at hy
        by_cases hyx : y = x
        · rw [if_pos hyx] at hy
          exact ⟨{ key := x, val := v, born := clock2 }, by simp, hyx.symm, by simpa using hy⟩
        · rw [if_neg hyx] at hy
          obtain ⟨e, he, e1, e2⟩ := hf2 y u hy
          exact ⟨e, by simp at he ⊢; exact .inl he, e1, e2⟩
      · intro i j e e' hi hj hkk
        rw [Array.getElem?_push] at hi hj
        split at hi <;> split at hj
        · omega
        · have := Option.some.inj hi
          subst this
          exact absurd hkk.symm (hno e' (List.mem_of_getElem? (by simpa using hj)))
        · have := Option.some.inj hj
          subst this
          exact absurd hkk (hno e (List.mem_of_getElem? (by simpa using hi)))
        · exact hd i j e e' hi hj hkk
  · refine ⟨{ w with heap := w.heap.setIfInBounds B (.map (es2.modify j fun e => { e with key := x, val := v }) clock2) }, ?_, ?_, hgrow _⟩
    · have hst := K.stays w hx
      have hjl : j < es2.size := (Array.getElem?_eq_some_iff.1 h3).1
      simp [Instr.mapUpdate, run_underlying ht, hb, K.check w _ hx, h1, getObj, setObj, Sem.run, h3, h4, hst]
    · have hget : ∀ i, (es2.modify j fun e => { e with key := x, val := v })[i]? = (es2[i]?).map fun e => if i = j then { e with key := x, val := v } else e := by
        intro i
        rw [Array.getElem?_modify]
        by_cases hij : j = i
        · subst hij; simp
        · rw [if_neg hij]; cases es2[i]? <;> simp [Ne.symm hij]
      have hmem : ∀ e, e ∈ (es2.modify j fun e => { e with key := x, val := v }).toList → ∃ (i : Nat) (e0 : MapEntry), es2[i]? = some e0 ∧ ((i = j ∧ e.key = x ∧ e.val = v) ∨ (i ≠ j ∧ e = e0)) := by
        intro e he
        obtain ⟨i, hi⟩ := List.getElem?_of_mem he
        have hi' := hget i
        rw [← Array.getElem?_toList, hi] at hi'
        cases h0 : es2[i]? with
        | none => rw [h0] at hi'; simp at hi'
        | some e0 =>
          rw [h0] at hi'
          by_cases hij : i = j
          · simp [hij] at hi'; exact ⟨i, e0, h0, .inl ⟨hij, by rw [hi'], by rw [hi']⟩⟩
          · simp [hij] at hi'; exact ⟨i, e0, h0, .inr ⟨hij, hi'⟩⟩
      refine ⟨es2.modify j fun e => { e with key := x, val := v }, clock2, by simp [hlt], ?_, ?_, ?_, ?_⟩
      · intro e he
        obtain ⟨i, e0, h0, ⟨_, e1, _⟩ | ⟨_, rfl⟩⟩ := hmem e he
        · exact ⟨l, by rw [e1]; exact hx⟩
        · exact hk e (List.mem_of_getElem? (by simpa using h0))
      · intro e he
        obtain ⟨i, e0, h0, ⟨_, e1, e2⟩ | ⟨hij, rfl⟩⟩ := hmem e he
        · dsimp only; rw [if_pos e1, e2]
        · dsimp only
          rw [if_neg (fun hex => hij (hd i j e en h0 h3 (hex.trans h4.symm)))]
          exact hf1 e (List.mem_of_getElem? (by simpa using h0))
      · intro y u' hy
        dsimp only at hy
        by_cases hyx : y = x
        · rw [if_pos hyx] at hy
          refine ⟨{ en with key := x, val := v }, ?_, hyx.symm, by simpa using hy⟩
          refine List.mem_of_getElem? (i := j) ?_
          rw [Array.getElem?_toList, hget j, h3]; simp
        · rw [if_neg hyx] at hy
          obtain ⟨e, he, e1, e2⟩ := hf2 y u' hy
          obtain ⟨i, hi⟩ := List.getElem?_of_mem he
          have hi' : es2[i]? = some e := by simpa using hi
          have hij : i ≠ j := by
            rintro rfl
            have := Option.some.inj (hi'.symm.trans h3)
            subst this
            exact hyx (e1.symm.trans h4)
          refine ⟨e, List.mem_of_getElem? (i := i) ?_, e1, e2⟩
          rw [Array.getElem?_toList, hget i, hi']; simp [hij]
      · intro i i' e e' hi hi' hkk
        rw [hget] at hi hi'
        obtain ⟨e0, h0, rfl⟩ := Option.map_eq_some_iff.1 hi
        obtain ⟨e0', h0', rfl⟩ := Option.map_eq_some_iff.1 hi'
        have key : ∀ (i : Nat) (e0 : MapEntry), es2[i]? = some e0 → (if i = j then ({ e0 with key := x, val := v } : MapEntry) else e0).key = e0.key := by
          intro i e0 h0
          by_cases hij : i = j
          · subst hij
            have := Option.some.inj (h0.symm.trans h3)
            subst this
            simp [h4]
          · simp [hij]
        rw [key i e0 h0, key i' e0' h0'] at hkk
        exact hd i i' e0 e0' h0 h0' hkk
end

end Go.Proofs.Ytijocgijnbcefaa
