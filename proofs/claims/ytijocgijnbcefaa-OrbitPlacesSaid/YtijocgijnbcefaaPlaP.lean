/-
  Plain: the places of a craft (for OrbitPlaces).
-/
import Derived.Test.YtijocgijnbcefaaOrbW
namespace Go.Proofs.Ytijocgijnbcefaa

def inPlace (c k : Int) (t : Win) : Bool := t.kind == 4 && t.a == c && decide (t.lo ≤ k) && decide (k < t.hi)
def placesO (ts : List Win) (c k : Int) : List Int := (ts.filter (inPlace c k)).map (·.b)
def placesR (ts : List Win) (c k : Int) (m : Nat) : List Int := ((List.range m).filter fun (b : Nat) => (ts.find? (isAt 4 c (b : Int) k)).isSome).map (fun b : Nat => (b : Int))

theorem incr_ext : ∀ (l l' : List Int), l.Pairwise (· < ·) → l'.Pairwise (· < ·) → (∀ x, x ∈ l ↔ x ∈ l') → l = l'
  | [], [], _, _, _ => rfl
  | [], y :: l', _, _, h => by have := (h y).2 (by simp); simp at this
  | x :: l, [], _, _, h => by have := (h x).1 (by simp); simp at this
  | x :: l, y :: l', h1, h2, h => by
    obtain ⟨a1, a2⟩ := List.pairwise_cons.1 h1
    obtain ⟨b1, b2⟩ := List.pairwise_cons.1 h2
    have hxy : x = y := by
      rcases List.mem_cons.1 ((h x).1 (by simp)) with e | e
      · exact e
      · rcases List.mem_cons.1 ((h y).2 (by simp)) with f | f
        · exact f.symm
        · have := b1 x e; have := a1 y f; omega
    subst hxy
    rw [incr_ext l l' a2 b2 (fun z => ?_)]
    constructor
    · intro hz
      rcases List.mem_cons.1 ((h z).1 (by simp [hz])) with e | e
      · subst e; have := a1 z hz; omega
      · exact e
    · intro hz
      rcases List.mem_cons.1 ((h z).2 (by simp [hz])) with e | e
      · subst e; have := b1 z hz; omega
      · exact e

theorem placesO_snoc (ts : List Win) (t : Win) (c k : Int) : placesO (ts ++ [t]) c k = placesO ts c k ++ if inPlace c k t = true then [t.b] else [] := by
  unfold placesO
  rw [List.filter_append, List.map_append]
  by_cases h : inPlace c k t = true
  · rw [if_pos h]; simp [h]
  · rw [if_neg h]; simp [h]
theorem placesO_len (ts : List Win) (c k : Int) : (placesO ts c k).length ≤ ts.length := by
  unfold placesO; rw [List.length_map]; exact List.length_filter_le _ _
theorem placesR_succ (ts : List Win) (c k : Int) (m : Nat) : placesR ts c k (m + 1) = placesR ts c k m ++ if (ts.find? (isAt 4 c (m : Int) k)).isSome = true then [(m : Int)] else [] := by
  unfold placesR
  rw [List.range_succ, List.filter_append, List.map_append]
  by_cases h : (ts.find? (isAt 4 c (m : Int) k)).isSome = true
  · rw [if_pos h]; simp [h]
  · rw [if_neg h]; simp [h]
theorem placesR_len (ts : List Win) (c k : Int) (m : Nat) : (placesR ts c k m).length ≤ m := by
  unfold placesR; rw [List.length_map]; exact Nat.le_trans (List.length_filter_le _ _) (by simp)

theorem isAt_place {c k b : Int} {t : Win} : isAt 4 c b k t = true ↔ inPlace c k t = true ∧ t.b = b := by
  simp only [isAt, inPlace, Win.key, Bool.and_eq_true, beq_iff_eq, decide_eq_true_eq]
  constructor
  · rintro ⟨⟨⟨⟨h1, h2⟩, h3⟩, h4⟩, h5⟩; exact ⟨⟨⟨⟨h1, h2⟩, h4⟩, h5⟩, h3⟩
  · rintro ⟨⟨⟨⟨h1, h2⟩, h4⟩, h5⟩, h3⟩; exact ⟨⟨⟨⟨h1, h2⟩, h3⟩, h4⟩, h5⟩
theorem find_some {ts : List Win} {c k b : Int} : (ts.find? (isAt 4 c b k)).isSome = true ↔ ∃ t ∈ ts, inPlace c k t = true ∧ t.b = b := by
  rw [List.find?_isSome]
  constructor
  · rintro ⟨t, ht, h⟩; exact ⟨t, ht, isAt_place.1 h⟩
  · rintro ⟨t, ht, h⟩; exact ⟨t, ht, isAt_place.2 h⟩
theorem place_bd {c k : Int} {t : Win} (hF : t.Formed) (h : inPlace c k t = true) : 0 ≤ t.b ∧ t.b ≤ 31 := by
  simp only [inPlace, Bool.and_eq_true, beq_iff_eq, decide_eq_true_eq] at h
  unfold Win.Formed at hF
  omega
theorem mem_placesR {ts : List Win} (hF : ∀ t ∈ ts, t.Formed) (c k b : Int) : b ∈ placesR ts c k 32 ↔ (ts.find? (isAt 4 c b k)).isSome = true := by
  unfold placesR
  simp only [List.mem_map, List.mem_filter, List.mem_range]
  constructor
  · rintro ⟨n, ⟨_, h⟩, rfl⟩; exact h
  · intro h
    obtain ⟨t, ht, h1, rfl⟩ := find_some.1 h
    have := place_bd (hF t ht) h1
    have e : ((t.b.toNat : Nat) : Int) = t.b := by omega
    exact ⟨t.b.toNat, ⟨by omega, by rw [e]; exact h⟩, e⟩
theorem placesR_incr (ts : List Win) (c k : Int) (m : Nat) : (placesR ts c k m).Pairwise (· < ·) := by
  unfold placesR
  rw [List.pairwise_map]
  refine List.Pairwise.filter _ ?_
  exact List.Pairwise.imp (fun {a b} h => by omega) (List.pairwise_lt_range (n := m))

theorem at_meet' {k x y b : Int} {t u : Win} (ht : isAt k x y b t = true) (hu : isAt k x y b u = true) : u.meet t = true := by
  simp only [isAt, Bool.and_eq_true, decide_eq_true_eq] at ht hu
  rw [meet_iff]
  refine ⟨?_, by omega, by omega⟩
  simp [Win.key] at *
  omega

theorem places_eq {ts : List Win} (hG : Good ts) (c k : Int) : (placesO ts c k).mergeSort (fun x y => decide (x ≤ y)) = placesR ts c k 32 := by
  have hn : (placesO ts c k).Nodup := by
    unfold placesO
    rw [List.nodup_iff_pairwise_ne, List.pairwise_map]
    have h1 : ts.Pairwise (fun x y => inPlace c k x = true → inPlace c k y = true → x.b ≠ y.b) := by
      refine hG.far.imp (fun {x y} hm hx hy e => hm ?_)
      exact at_meet' (isAt_place.2 ⟨hx, e⟩) (isAt_place.2 ⟨hy, rfl⟩)
    exact (List.pairwise_filter.2 (h1.imp fun {x y} h hx hy => h hx hy))
  have hp := List.mergeSort_perm (placesO ts c k) (fun x y => decide (x ≤ y))
  have hs : ((placesO ts c k).mergeSort (fun x y => decide (x ≤ y))).Pairwise (fun x y => decide (x ≤ y) = true) :=
    List.pairwise_mergeSort (by intro a b c h1 h2; simp at *; omega) (by intro a b; simp; omega) _
  refine incr_ext _ _ ?_ (placesR_incr ts c k 32) (fun b => ?_)
  · have hn' := (hp.nodup_iff).2 hn
    rw [List.nodup_iff_pairwise_ne] at hn'
    refine List.Pairwise.imp₂ (fun {a b} h1 h2 => ?_) hs hn'
    simp at h1
    omega
  · rw [hp.mem_iff, mem_placesR hG.formed, find_some]
    unfold placesO
    simp only [List.mem_map, List.mem_filter]
    constructor
    · rintro ⟨t, ⟨h1, h2⟩, h3⟩; exact ⟨t, h1, h2, h3⟩
    · rintro ⟨t, h1, h2, h3⟩; exact ⟨t, ⟨h1, h2⟩, h3⟩

end Go.Proofs.Ytijocgijnbcefaa
