/-
  Plain: ApproveBinds.
-/
import Derived.Test.YtcljmnbjejcdaaaAppP
namespace Go.Proofs.Ytcljmnbjejcdaaa

def xorTo (xs : List UInt8) (s : Nat) (ch : Nat → UInt8) : Nat → List UInt8
  | 0 => xs
  | k + 1 => if s + k < xs.length ∧ ch k ≠ 0 then (xorTo xs s ch k).set (s + k) (xs.getD (s + k) 0 ^^^ ch k) else xorTo xs s ch k
def chgTo (m s : Nat) (ch : Nat → UInt8) : Nat → Bool
  | 0 => false
  | k + 1 => chgTo m s ch k || (decide (s + k < m) && decide (ch k ≠ 0))
section
variable {xs : List UInt8} {s : Nat} {ch : Nat → UInt8}
theorem xorTo_len : ∀ k, (xorTo xs s ch k).length = xs.length
  | 0 => rfl
  | k + 1 => by unfold xorTo; split <;> simp [xorTo_len k]
theorem xorTo_at : ∀ (k i : Nat), (xorTo xs s ch k)[i]? = if s ≤ i ∧ i < s + k then xs[i]?.map (fun x => x ^^^ ch (i - s)) else xs[i]?
  | 0, i => by rw [if_neg (by omega)]; rfl
  | k + 1, i => by
    unfold xorTo
    by_cases h : s + k < xs.length ∧ ch k ≠ 0
    · rw [if_pos h, List.getElem?_set, xorTo_len]
      by_cases hi : s + k = i
      · subst hi
        rw [if_pos rfl, if_pos h.1, if_pos (by omega), List.getElem?_eq_getElem h.1, show s + k - s = k by omega]
        simp [List.getD, h.1]
      · rw [if_neg hi, xorTo_at k i]
        by_cases h2 : s ≤ i ∧ i < s + k
        · rw [if_pos h2, if_pos (by omega)]
        · rw [if_neg h2, if_neg (by omega)]
    · rw [if_neg h, xorTo_at k i]
      by_cases h2 : s ≤ i ∧ i < s + k
      · rw [if_pos h2, if_pos (by omega)]
      · rw [if_neg h2]
        by_cases h3 : s ≤ i ∧ i < s + (k + 1)
        · have : i = s + k := by omega
          subst this
          rw [if_pos h3, show s + k - s = k by omega]
          by_cases h4 : s + k < xs.length
          · have : ch k = 0 := by
              rcases Classical.em (ch k = 0) with h5 | h5
              · exact h5
              · exact absurd ⟨h4, h5⟩ h
            rw [this, List.getElem?_eq_getElem h4]
            simp
          · rw [List.getElem?_eq_none (by omega)]; rfl
        · rw [if_neg h3]
theorem chgTo_no {m k : Nat} : chgTo m s ch k = false ↔ ∀ j, j < k → s + j < m → ch j = 0 := by
  induction k with
  | zero => simp [chgTo]
  | succ k ih =>
    unfold chgTo
    rw [Bool.or_eq_false_iff, ih, Bool.and_eq_false_iff, decide_eq_false_iff_not, decide_eq_false_iff_not]
    constructor
    · rintro ⟨h1, h2⟩ j hj hm
      rcases Nat.lt_or_ge j k with h | h
      · exact h1 j h hm
      · have : j = k := by omega
        subst this
        rcases h2 with h2 | h2
        · exact absurd hm h2
        · exact Classical.not_not.1 h2
    · intro h
      refine ⟨fun j hj hm => h j (by omega) hm, ?_⟩
      rcases Nat.lt_or_ge (s + k) m with h1 | h1
      · exact .inr (fun h2 => h2 (h k (by omega) h1))
      · exact .inl (by omega)
theorem tag_window {key : Nat} (hk : U64 key) {l l' : List UInt8} (hs : s % 8 = 0) (hsl : s < l.length) (hl : l.length = l'.length) (h : ∀ i, i < s ∨ s + 8 ≤ i → l[i]? = l'[i]?) (ht : tagN key l = tagN key l') : l = l' := by
  have e1 : l = l.take s ++ ((l.drop s).take 8 ++ l.drop (s + 8)) := by
    rw [← List.drop_drop, List.take_append_drop, List.take_append_drop]
  have e2 : l' = l'.take s ++ ((l'.drop s).take 8 ++ l'.drop (s + 8)) := by
    rw [← List.drop_drop, List.take_append_drop, List.take_append_drop]
  have a1 : l.take s = l'.take s := by
    apply List.ext_getElem?
    intro i
    rw [List.getElem?_take, List.getElem?_take]
    split
    · exact h i (.inl ‹_›)
    · rfl
  have a2 : l.drop (s + 8) = l'.drop (s + 8) := by
    apply List.ext_getElem?
    intro i
    rw [List.getElem?_drop, List.getElem?_drop]
    exact h _ (.inr (by omega))
  rw [← a1, ← a2] at e2
  rw [e1, e2] at ht
  have hmin : min s l.length = s := by omega
  have a3 := tagN_bytes (k := key) hk (a := l.take s) (x := (l.drop s).take 8) (y := (l'.drop s).take 8) (c := l.drop (s + 8)) (by rw [List.length_take, hmin]; exact hs) (by simp; omega) (by rw [List.length_take]; omega)
    (by
      rcases Nat.lt_or_ge (s + 8) l.length with h1 | h1
      · right; rw [List.length_take, List.length_drop]; omega
      · left; exact List.drop_of_length_le h1)
    (by intro h0; have := congrArg List.length h0; rw [List.length_take, List.length_drop] at this; simp at this; omega) ht
  rw [e1, e2, a3]
theorem xor_same {a b : UInt8} (h : a ^^^ b = a) : b = 0 := by
  have h1 : a ^^^ (a ^^^ b) = a ^^^ a := by rw [h]
  rwa [← UInt8.xor_assoc, UInt8.xor_self, UInt8.zero_xor] at h1
theorem binds_msg {key : Nat} (hk : U64 key) (hs : s % 8 = 0) (hsl : s < xs.length) : (tagN key (xorTo xs s ch 8) == tagN key xs) = !chgTo xs.length s ch 8 := by
  have key' : tagN key (xorTo xs s ch 8) = tagN key xs ↔ chgTo xs.length s ch 8 = false := by
    rw [chgTo_no]
    constructor
    · intro h j hj hm
      have e := tag_window hk (l := xorTo xs s ch 8) (l' := xs) hs (by rw [xorTo_len]; exact hsl) (xorTo_len 8) (fun i hi => by rw [xorTo_at, if_neg (by omega)]) h
      have h2 := xorTo_at (xs := xs) (s := s) (ch := ch) 8 (s + j)
      rw [e, if_pos (by omega), List.getElem?_eq_getElem hm, show s + j - s = j by omega] at h2
      simp at h2
      exact xor_same h2.symm
    · intro h
      have : xorTo xs s ch 8 = xs := by
        apply List.ext_getElem?
        intro i
        rw [xorTo_at]
        split
        · rename_i hi
          rcases Nat.lt_or_ge i xs.length with h1 | h1
          · rw [h (i - s) (by omega) (by omega), List.getElem?_eq_getElem h1]; simp
          · rw [List.getElem?_eq_none h1]; rfl
        · rfl
      rw [this]
  rw [Bool.eq_iff_iff, beq_iff_eq, key']
  simp
theorem binds_key {k k' : Nat} (hk : U64 k) (hk' : U64 k') (b : List UInt8) : (tagN k' b == tagN k b) = (k == k') := by
  rw [Bool.eq_iff_iff, beq_iff_eq, beq_iff_eq]
  exact ⟨fun h => (tagN_key hk' hk b h).symm, fun h => by rw [h]⟩
end
end Go.Proofs.Ytcljmnbjejcdaaa
