/-
  Check and the reference's Check are one function of the list.
-/
import Derived.Test.YtijocgijnbcefaaOrbK
import Derived.Test.YtijocgijnbcefaaOrbL
namespace Go.Proofs.Ytijocgijnbcefaa

theorem lastHi_cases (l : List Win) (k a b : Int) : (lastHi l k a b = none ∧ ∀ t ∈ l, ¬ t.key k a b = true) ∨
    ∃ (j : Nat) (t : Win), l[j]? = some t ∧ t.key k a b = true ∧ lastHi l k a b = some t.hi ∧ ∀ (i : Nat) (u : Win), j < i → l[i]? = some u → ¬ u.key k a b = true := by
  rw [← List.reverse_reverse l]
  generalize l.reverse = r
  induction r with
  | nil => exact .inl ⟨rfl, fun t ht => absurd ht (by simp)⟩
  | cons t r ih =>
    rw [List.reverse_cons]
    generalize r.reverse = l at ih
    rw [lastHi_snoc]
    by_cases h : t.key k a b = true
    · rw [if_pos h]
      refine .inr ⟨l.length, t, by simp, h, rfl, fun i u hi hu => ?_⟩
      rw [List.getElem?_eq_none (by simp; omega)] at hu
      cases hu
    · rw [if_neg h]
      rcases ih with ⟨h1, h2⟩ | ⟨j, u, h1, h2, h3, h4⟩
      · refine .inl ⟨h1, fun u hu => ?_⟩
        rcases List.mem_append.1 hu with hu | hu
        · exact h2 u hu
        · simp at hu; subst hu; exact h
      · have hj := (List.getElem?_eq_some_iff.1 h1).1
        refine .inr ⟨j, u, by rw [List.getElem?_append_left hj]; exact h1, h2, h3, fun i v hi hv => ?_⟩
        rcases Nat.lt_or_ge i l.length with h5 | h5
        · rw [List.getElem?_append_left h5] at hv; exact h4 i v hi hv
        · rw [List.getElem?_append_right h5] at hv
          have : v = t := by
            rcases Nat.eq_zero_or_pos (i - l.length) with h6 | h6
            · rw [h6] at hv; simpa using hv.symm
            · rw [List.getElem?_eq_none (by simp; omega)] at hv; cases hv
          subst this; exact h

theorem sorted_lo {ts : List Win} (h : sortedB ts = true) : ∀ (d i : Nat) (t u : Win), ts[i]? = some t → ts[i + d]? = some u → t.lo ≤ u.lo := by
  have hs := (sortedB_iff ts).1 h
  intro d
  induction d with
  | zero => intro i t u ht hu; rw [Nat.add_zero, ht] at hu; cases hu; exact Int.le_refl _
  | succ d ih =>
    intro i t u ht hu
    have hlt : i + d < ts.length := by have := (List.getElem?_eq_some_iff.1 hu).1; omega
    have hm : ts[i + d]? = some ts[i + d] := List.getElem?_eq_getElem hlt
    have h1 := ih i t _ ht hm
    have h2 := hs (i + d) _ u hm hu
    unfold Win.Before at h2
    omega

theorem key_trans {t u : Win} {k a b : Int} (h : u.key t.kind t.a t.b = true) (h2 : t.key k a b = true) : u.key k a b = true := by
  simp [Win.key] at *
  omega
theorem key_self (t : Win) : t.key t.kind t.a t.b = true := by simp [Win.key]
theorem key_symm {t u : Win} (h : u.key t.kind t.a t.b = true) : t.key u.kind u.a u.b = true := by
  simp [Win.key] at *; omega
theorem meet_iff (t u : Win) : t.meet u = true ↔ t.key u.kind u.a u.b = true ∧ t.lo < u.hi ∧ u.lo < t.hi := by simp [Win.meet, and_assoc]

theorem apart_iff {ts : List Win} (hF : ∀ t ∈ ts, t.Formed) (hs : sortedB ts = true) : Apart ts ↔ NoMeet ts := by
  have hlt : ∀ (i : Nat) (t : Win), ts[i]? = some t → t.lo < t.hi := fun i t h => by
    have := hF t (List.mem_of_getElem? h)
    unfold Win.Formed at this; omega
  have hlo : ∀ (i j : Nat) (t u : Win), i ≤ j → ts[i]? = some t → ts[j]? = some u → t.lo ≤ u.lo := fun i j t u hij ht hu =>
    sorted_lo hs (j - i) i t u ht (by rw [show i + (j - i) = j by omega]; exact hu)
  constructor
  · intro hA
    have main : ∀ (i k : Nat) (t u : Win), k < i → ts[i]? = some t → ts[k]? = some u → u.key t.kind t.a t.b = true → u.hi ≤ t.lo := by
      intro i
      induction i using Nat.strongRecOn with
      | _ i ih =>
        intro k t u hki ht hu hkey
        have hlen := (List.getElem?_eq_some_iff.1 ht).1
        rcases lastHi_cases (ts.take i) t.kind t.a t.b with ⟨_, h2⟩ | ⟨j, v, h1, h2, h3, h4⟩
        · exact absurd hkey (h2 u (List.mem_of_getElem? (i := k) (by rw [List.getElem?_take, if_pos hki]; exact hu)))
        · have hji : j < i := by have := (List.getElem?_eq_some_iff.1 h1).1; simp at this; omega
          rw [List.getElem?_take, if_pos hji] at h1
          have h5 := hA i t _ ht h3
          by_cases hkj : k = j
          · subst hkj
            rw [h1] at hu; cases hu; omega
          · have hkj' : k < j := by
              rcases Nat.lt_or_ge j k with h6 | h6
              · exact absurd hkey (h4 k u h6 (by rw [List.getElem?_take, if_pos hki]; exact hu))
              · omega
            have h7 := ih j hji k v u hkj' h1 hu (key_trans hkey (key_symm h2))
            have := hlt j v h1
            omega
    intro i k t u hki ht hu hm
    obtain ⟨h1, h2, h3⟩ := (meet_iff t u).1 hm
    have := main i k t u hki ht hu (key_symm h1)
    omega
  · intro hN i t h ht hl hc
    rcases lastHi_cases (ts.take i) t.kind t.a t.b with ⟨h1, _⟩ | ⟨j, v, h1, h2, h3, _⟩
    · rw [h1] at hl; cases hl
    · have hji : j < i := by have := (List.getElem?_eq_some_iff.1 h1).1; simp at this; omega
      rw [List.getElem?_take, if_pos hji] at h1
      rw [h3] at hl
      cases hl
      refine hN i j t v hji ht h1 ((meet_iff t v).2 ⟨key_symm h2, hc, ?_⟩)
      have := hlo j i v t (by omega) h1 ht
      have := hlt i t ht
      omega

theorem check_eq (ts : List Win) : checkO ts = checkR ts := by
  unfold checkO checkR
  by_cases h1 : 200 < ts.length
  · rw [if_pos h1, if_pos h1]
  · rw [if_neg h1, if_neg h1]
    by_cases h2 : ts.all (·.formed) = false
    · rw [if_pos h2, if_pos h2]
    · rw [if_neg h2, if_neg h2]
      have hF : ∀ t ∈ ts, t.Formed := fun t ht => by
        have := List.all_eq_true.1 (by simpa using h2 : ts.all (·.formed) = true) t ht
        rwa [← Win.formed_iff]
      cases h3 : sortedB ts with
      | false => simp
      | true =>
        have := apart_iff hF h3
        by_cases h4 : Apart ts
        · rw [if_neg (by simp), if_pos h4, if_pos ⟨rfl, this.1 h4⟩]
        · rw [if_neg (by simp), if_neg h4, if_neg (fun h => h4 (this.2 h.2))]

theorem check_ok {ts : List Win} (h1 : ts.length ≤ 200) (hF : ∀ t ∈ ts, t.Formed) (hs : sortedB ts = true) (hN : NoMeet ts) : checkO ts = 0 := by
  unfold checkO
  rw [if_neg (by omega), if_neg (by rw [List.all_eq_true.2 (fun t ht => by rw [Win.formed_iff]; exact hF t ht)]; simp), if_neg (by rw [hs]; simp), if_pos ((apart_iff hF hs).2 hN)]

end Go.Proofs.Ytijocgijnbcefaa
