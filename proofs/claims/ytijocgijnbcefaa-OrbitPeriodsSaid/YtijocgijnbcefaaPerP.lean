/-
  Plain: ticks of periods (for OrbitPeriods).
-/
import Derived.Test.YtijocgijnbcefaaOrbW
namespace Go.Proofs.Ytijocgijnbcefaa

theorem ticks_cons (k a b f u : Int) (t : Win) (l : List Win) : ticks k a b f u (t :: l) = tick1 k a b f u t + ticks k a b f u l := by
  have main : ∀ (l : List Win) (n : Int), l.foldl (fun n t => n + tick1 k a b f u t) n = n + l.foldl (fun n t => n + tick1 k a b f u t) 0 := by
    intro l
    induction l with
    | nil => intro n; simp
    | cons t l ih => intro n; rw [List.foldl_cons, List.foldl_cons, ih, ih (0 + _)]; omega
  unfold ticks
  rw [List.foldl_cons, main]
  omega

theorem ticks_add {k x y a b c : Int} (hab : a ≤ b) (hbc : b ≤ c) : ∀ (ts : List Win), (∀ t ∈ ts, t.Formed) → ticks k x y a b ts + ticks k x y b c ts = ticks k x y a c ts
  | [], _ => rfl
  | t :: l, h => by
    rw [ticks_cons, ticks_cons, ticks_cons, ← ticks_add hab hbc l (fun t ht => h t (by simp [ht]))]
    have hf := h t (by simp)
    unfold Win.Formed at hf
    have : tick1 k x y a b t + tick1 k x y b c t = tick1 k x y a c t := by
      unfold tick1
      by_cases hk : t.key k x y = true
      · simp only [hk, true_and]
        split <;> split <;> split <;> omega
      · simp [hk]
    omega

theorem ticks_zero {k x y f u : Int} : ∀ (ts : List Win), (∀ t ∈ ts, tick1 k x y f u t = 0) → ticks k x y f u ts = 0
  | [], _ => rfl
  | t :: l, h => by rw [ticks_cons, h t (by simp), ticks_zero l (fun t ht => h t (by simp [ht]))]; rfl

theorem tick1_at {k x y b : Int} (t : Win) : tick1 k x y b (b + 1) t = if isAt k x y b t = true then 1 else 0 := by
  unfold tick1 isAt
  by_cases hk : t.key k x y = true
  · simp only [hk, true_and, Bool.true_and, Bool.and_eq_true, decide_eq_true_eq]
    split <;> split <;> omega
  · simp [hk]

theorem at_meet {k x y b : Int} {t u : Win} (ht : isAt k x y b t = true) (hu : isAt k x y b u = true) : u.meet t = true := by
  simp only [isAt, Bool.and_eq_true, decide_eq_true_eq] at ht hu
  rw [meet_iff]
  refine ⟨?_, by omega, by omega⟩
  simp [Win.key] at *
  omega

theorem ticks_none {k x y b : Int} {ts : List Win} (h : ts.find? (isAt k x y b) = none) : ticks k x y b (b + 1) ts = 0 :=
  ticks_zero ts fun t ht => by rw [tick1_at, if_neg (by simpa using List.find?_eq_none.1 h t ht)]

theorem ticks_some {k x y b : Int} : ∀ {ts : List Win}, Far ts → (ts.find? (isAt k x y b)).isSome = true → ticks k x y b (b + 1) ts = 1
  | [], _, h => by cases h
  | t :: l, hf, h => by
    obtain ⟨h1, h2⟩ := List.pairwise_cons.1 hf
    rw [ticks_cons, tick1_at]
    by_cases ht : isAt k x y b t = true
    · rw [if_pos ht, ticks_zero l (fun u hu => by
        rw [tick1_at, if_neg]
        exact fun hc => h1 u hu (at_meet ht hc))]
      rfl
    · rw [if_neg ht, ticks_some h2 (by rwa [List.find?_cons_of_neg ht] at h)]
      rfl

theorem at_next {ts : List Win} {k x y b : Int} {t : Win} (h : atOf ts k x y b = some t) : nextOf ts k x y b = some t := by
  unfold atOf at h
  split at h
  · split at h
    · cases h; assumption
    · cases h
  · cases h

theorem gap {ts : List Win} {k x y b : Int} {t : Win} (ho : ts.Pairwise (fun x y => x.lo ≤ y.lo)) (h : atOf ts k x y b = none) (hn : nextOf ts k x y b = some t) : b < t.lo ∧ ticks k x y b t.lo ts = 0 := by
  have hlo : b < t.lo := by
    unfold atOf at h
    rw [hn] at h
    dsimp only at h
    split at h
    · cases h
    · omega
  refine ⟨hlo, ticks_zero ts fun u hu => ?_⟩
  unfold nextOf at hn
  obtain ⟨h1, l1, l2, rfl, h2⟩ := List.find?_eq_some_iff_append.1 hn
  unfold tick1
  rw [if_neg]
  rintro ⟨hk, hlt⟩
  rcases List.mem_append.1 hu with hu | hu
  · have := h2 u hu
    simp only [isNext, hk, Bool.true_and, Bool.not_eq_true', decide_eq_false_iff_not] at this
    omega
  · rcases List.mem_cons.1 hu with rfl | hu
    · omega
    · have := (List.pairwise_cons.1 (List.pairwise_append.1 ho).2.1).1 u hu
      omega

end Go.Proofs.Ytijocgijnbcefaa
