/-
  Plain laws on tables: At, the way of an arrival.
-/
import Derived.Test.YtijocgijnbcefaaOrbU
import Derived.Test.YtijocgijnbcefaaOrbG
import Derived.Test.YtijocgijnbcefaaArrR
namespace Go.Proofs.Ytijocgijnbcefaa

theorem ord_lo {ts : List Win} (h : Ord ts) : ts.Pairwise (fun x y => x.lo ≤ y.lo) := h.imp fun {x y} hxy => by unfold Win.Before at hxy; omega

theorem at_eq {ts : List Win} (h : ts.Pairwise (fun x y => x.lo ≤ y.lo)) (k a b tick : Int) : atOf ts k a b tick = ts.find? (isAt k a b tick) := by
  unfold atOf nextOf
  induction ts with
  | nil => rfl
  | cons t l ih =>
    obtain ⟨h1, h2⟩ := List.pairwise_cons.1 h
    have ih := ih h2
    by_cases hn : isNext k a b tick t = true
    · rw [List.find?_cons_of_pos hn]
      dsimp only
      have hk : t.key k a b = true ∧ tick < t.hi := by simpa [isNext] using hn
      by_cases hlo : t.lo ≤ tick
      · rw [if_pos hlo, List.find?_cons_of_pos (by simp [isAt, hk.1, hk.2, hlo])]
      · rw [if_neg hlo, List.find?_cons_of_neg (by simp [isAt, hlo])]
        symm
        rw [List.find?_eq_none]
        intro x hx hc
        have := h1 x hx
        simp [isAt] at hc
        omega
    · rw [List.find?_cons_of_neg hn, List.find?_cons_of_neg (by
        intro hc
        apply hn
        simp [isAt] at hc
        simp [isNext, hc.1, hc.2])]
      exact ih

/-- what a way is -/
structure Track (ts : List Win) (size : Int) (e : Nat → Int) (c n : Nat) (l : List Nat) : Prop where
  pos : 0 < l.length
  first : l[0]? = some c
  last : l[l.length - 1]? = some n
  next : ∀ (i u v : Nat), l[i]? = some u → l[i + 1]? = some v → LeastPred ts size e u v

theorem Way.track {ts : List Win} {size : Int} {e : Nat → Int} {c n : Nat} {l : List Nat} (h : Way ts size e c n l) : Track ts size e c n l := by
  induction h with
  | start => exact ⟨by simp, rfl, rfl, fun i u v _ h2 => by simp at h2⟩
  | step m n l _ hp _ ih =>
    refine ⟨by simp, ?_, by simp, fun i u v h1 h2 => ?_⟩
    · rw [List.getElem?_append_left ih.pos]; exact ih.first
    · have hlt := (List.getElem?_eq_some_iff.1 h2).1
      simp at hlt
      rcases Nat.lt_or_ge (i + 1) l.length with h3 | h3
      · rw [List.getElem?_append_left (by omega)] at h1
        rw [List.getElem?_append_left h3] at h2
        exact ih.next i u v h1 h2
      · have hi : i = l.length - 1 := by omega
        rw [List.getElem?_append_left (by omega), hi, ih.last] at h1
        rw [List.getElem?_append_right h3, show i + 1 - l.length = 0 by omega] at h2
        simp at h1 h2
        subst h1 h2
        exact hp

section
variable {ts : List Win} {size : Int} {e : Nat → Int} {c n : Nat} {l : List Nat}
theorem Track.lt (h : Track ts size e c n l) (hF : ∀ t ∈ ts, t.Formed) (hs : 1 ≤ size) : ∀ (d i u v : Nat), l[i]? = some u → l[i + (d + 1)]? = some v → e u < e v := by
  have one : ∀ (i u v : Nat), l[i]? = some u → l[i + 1]? = some v → e u < e v := fun i u v h1 h2 => by
    obtain ⟨t, ht, hop⟩ := (h.next i u v h1 h2).hop
    exact (hop.gt (hF t ht) hs).1
  intro d
  induction d with
  | zero => exact one
  | succ d ih =>
    intro i u v h1 h2
    have hlt := (List.getElem?_eq_some_iff.1 h2).1
    have hm : l[i + (d + 1)]? = some (l[i + (d + 1)]'(by omega)) := List.getElem?_eq_getElem (by omega)
    have := ih i u _ h1 hm
    have := one (i + (d + 1)) _ v hm (by rw [show i + (d + 1) + 1 = i + (d + 1 + 1) by omega]; exact h2)
    omega
theorem Track.craft (h : Track ts size e c n l) (hF : ∀ t ∈ ts, t.Formed) (hs : 1 ≤ size) (i u : Nat) (h1 : l[i]? = some u) (h2 : i + 1 < l.length) : u < 12 := by
  obtain ⟨t, ht, hop⟩ := (h.next i u _ h1 (List.getElem?_eq_getElem h2)).hop
  exact (hop.gt (hF t ht) hs).2.1
theorem Track.rk (h : Track ts size e c n l) (hF : ∀ t ∈ ts, t.Formed) (hs : 1 ≤ size) : ∀ (i u : Nat), l[i]? = some u → i ≤ Go.Proofs.Ytijocgijnbcefaa.rk e u := by
  intro i
  induction i with
  | zero => intro u _; omega
  | succ i ih =>
    intro v hv
    have hlt := (List.getElem?_eq_some_iff.1 hv).1
    have hu : l[i]? = some (l[i]'(by omega)) := List.getElem?_eq_getElem (by omega)
    have h1 := ih _ hu
    have hlp := h.next i _ v hu hv
    have h2 := rk_lt (h.craft hF hs i _ hu hlt) hlp.pos (h.lt hF hs 0 i _ v hu hv)
    omega
theorem Track.len (h : Track ts size e c n l) (hF : ∀ t ∈ ts, t.Formed) (hs : 1 ≤ size) : l.length ≤ 13 := by
  have := h.rk hF hs (l.length - 1) n h.last
  have := rk_le e n
  omega
theorem Track.two (h : Track ts size e c n l) (hne : c ≠ n) : 2 ≤ l.length := by
  have hp := h.pos
  rcases Nat.lt_or_ge l.length 2 with h1 | h1
  · have h2 : l.length - 1 = 0 := by omega
    have h3 := h.last
    rw [h2, h.first] at h3
    simp at h3
    exact absurd h3 hne
  · exact h1
theorem Track.new (h : Track ts size e c n l) (hF : ∀ t ∈ ts, t.Formed) (hs : 1 ≤ size) (i v : Nat) (h1 : l[i]? = some v) : v ∉ l.take i := by
  intro hm
  obtain ⟨j, hj, hv⟩ := List.mem_iff_getElem.1 hm
  have hj' : j < i ∧ j < l.length := by have h9 := hj; simp at h9; omega
  rw [List.getElem_take] at hv
  have h2 : l[j]? = some v := by rw [List.getElem?_eq_getElem hj'.2, hv]
  have := h.lt hF hs (i - j - 1) j v v h2 (by rw [show j + (i - j - 1 + 1) = i by omega]; exact h1)
  omega
end
end Go.Proofs.Ytijocgijnbcefaa
