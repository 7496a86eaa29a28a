/-
  The reference's search, plain: twelve rounds of relaxation come to the earliest arrival.
-/
import Derived.Test.YtijocgijnbcefaaArrD
namespace Go.Proofs.Ytijocgijnbcefaa

theorem Hop.hop {t : Win} {size : Int} {u v : Nat} {τ x : Int} (ht : t.Formed) (h : Hop t size u v τ x) : t.hop u v τ size = (x, true) := by
  have key : (t.hop u v τ size).1 = max τ t.lo + ceil size t.rate ∧ (t.hop u v τ size).2 = true := by
    obtain ⟨h1, h2, h3⟩ := h
    unfold Win.Formed at ht
    unfold Win.other at h1
    unfold Win.hop Win.ends
    split at h1
    · rename_i hk
      simp at h1
      rw [if_neg]
      · simp; omega
      · simp [hk.1]; omega
    · split at h1
      · rename_i hk
        simp at h1
        rw [if_neg]
        · simp; omega
        · simp [hk.1]; omega
      · split at h1
        · rename_i hk
          simp at h1
          rw [if_neg]
          · simp; omega
          · simp [hk.1]; omega
        · simp at h1
  exact Prod.ext (key.1.trans h.2.1.symm) key.2

theorem hop_Hop {t : Win} {size : Int} {u v : Nat} {τ : Int} (ht : t.Formed) : ((t.hop u v τ size).2 = true ↔ Hop t size u v τ (t.hop u v τ size).1) := by
  constructor
  · intro h
    by_cases hc : t.ends.2.2 = false ∨ ((t.ends.1 ≠ (u : Int) ∨ t.ends.2.1 ≠ (v : Int)) ∧ (t.ends.1 ≠ (v : Int) ∨ t.ends.2.1 ≠ (u : Int))) ∨ 12 ≤ (u : Int)
    · unfold Win.hop at h; rw [if_pos hc] at h; cases h
    · have e : t.hop u v τ size = (max τ t.lo + ceil size t.rate, decide (max τ t.lo + ceil size t.rate ≤ t.hi)) := by unfold Win.hop; rw [if_neg hc]
      rw [e] at h ⊢
      refine ⟨?_, rfl, by simpa using h⟩
      clear e h
      unfold Win.Formed at ht
      unfold Win.ends at hc
      unfold Win.other
      by_cases h1 : t.kind = 1
      · simp [h1] at hc ⊢
        by_cases h2 : t.a = u
        · simp [h2]; omega
        · omega
      · have hc0 := hc
        simp [h1] at hc ⊢
        by_cases h2 : t.kind = 2
        · have hc2 : ¬((t.a ≠ (u : Int) ∨ t.b ≠ (v : Int)) ∧ (t.a ≠ (v : Int) ∨ t.b ≠ (u : Int))) ∧ ¬ 12 ≤ (u : Int) := ⟨fun h => hc0 (.inr (.inl (by simpa [h1] using h))), fun h => hc0 (.inr (.inr h))⟩
          by_cases h4 : t.a = u
          · have h5 : t.b = v := by omega
            simp [h2, h4, h5]
          · have h5 : t.b = u := by omega
            have h6 : t.a = v := by omega
            simp [h2, h5, h6]; omega
        · simp [h2] at hc
  · intro h
    rw [h.hop ht]

/-- the nodes of a link -/
theorem Hop.ends {t : Win} {size : Int} {u v : Nat} {τ x : Int} (ht : t.Formed) (h : Hop t size u v τ x) :
    t.ends.2.2 = true ∧ ((t.ends.1.toNat = u ∧ t.ends.2.1.toNat = v) ∨ (t.ends.1.toNat = v ∧ t.ends.2.1.toNat = u)) := by
  obtain ⟨h1, h2, h3⟩ := h
  unfold Win.Formed at ht
  unfold Win.other at h1
  unfold Win.ends
  split at h1
  · rename_i hk
    simp at h1
    simp [hk.1]; omega
  · split at h1
    · rename_i hk
      simp at h1
      simp [hk.1]; omega
    · split at h1
      · rename_i hk
        simp at h1
        simp [hk.1]; omega
      · simp at h1

def relaxR (size : Int) (t : Win) (u v : Nat) (out : Nat → Int) : Nat → Int :=
  if out u < 0 then out
  else if (t.hop u v (out u) size).2 = true ∧ (out v < 0 ∨ (t.hop u v (out u) size).1 < out v) then upd out v (t.hop u v (out u) size).1 else out
def winR (size : Int) (out : Nat → Int) (t : Win) : Nat → Int :=
  if t.ends.2.2 = false then out else relaxR size t t.ends.2.1.toNat t.ends.1.toNat (relaxR size t t.ends.1.toNat t.ends.2.1.toNat out)
def roundR (ts : List Win) (size : Int) (out : Nat → Int) : Nat → Int := ts.foldl (winR size) out
def roundsR (ts : List Win) (size : Int) : Nat → (Nat → Int) → (Nat → Int)
  | 0, out => out
  | i + 1, out => roundR ts size (roundsR ts size i out)
def startR (c : Nat) (k : Int) : Nat → Int := upd (fun _ => -1) c k

section
variable {ts : List Win} {c : Nat} {k size : Int} {e : Nat → Int}

/-- no entry is too early -/
def Sound (e out : Nat → Int) : Prop := ∀ n, out n = -1 ∨ (0 ≤ e n ∧ e n ≤ out n)
def Hit (e out : Nat → Int) (n : Nat) : Prop := 0 ≤ e n ∧ out n = e n

theorem relaxR_sound (he : Earl ts c k size e) (hF : ∀ t ∈ ts, t.Formed) {t : Win} (ht : t ∈ ts) (u v : Nat) {out : Nat → Int} (h : Sound e out) :
    Sound e (relaxR size t u v out) ∧ ∀ n, Hit e out n → Hit e (relaxR size t u v out) n := by
  unfold relaxR
  by_cases h1 : out u < 0
  · rw [if_pos h1]; exact ⟨h, fun _ h => h⟩
  · rw [if_neg h1]
    by_cases h2 : (t.hop u v (out u) size).2 = true ∧ (out v < 0 ∨ (t.hop u v (out u) size).1 < out v)
    · rw [if_pos h2]
      have hop := (hop_Hop (hF t ht)).1 h2.1
      have hu : 0 ≤ e u ∧ e u ≤ out u := by
        rcases h u with h3 | h3
        · omega
        · exact h3
      obtain ⟨x, hx, hxe⟩ := hop.mono (hF t ht) (Int.le_refl _) hu.2
      obtain ⟨hv1, hv2⟩ := he.closed u v t x ht hu.1 hx
      refine ⟨fun n => ?_, fun n hn => ⟨hn.1, ?_⟩⟩
      · by_cases hnv : n = v
        · subst hnv; rw [upd_same]; exact .inr ⟨hv1, by omega⟩
        · rw [upd_ne _ _ hnv]; exact h n
      · by_cases hnv : n = v
        · subst hnv
          have := hn.2
          rcases h2.2 with h3 | h3
          · omega
          · omega
        · rw [upd_ne _ _ hnv]; exact hn.2
    · rw [if_neg h2]; exact ⟨h, fun _ h => h⟩

theorem relaxR_good (hF : ∀ t ∈ ts, t.Formed) {t : Win} (ht : t ∈ ts) {u v : Nat} {out : Nat → Int} (h : Sound e out) (hu : Hit e out u) (hv : 0 ≤ e v) (hop : Hop t size u v (e u) (e v)) :
    Hit e (relaxR size t u v out) v := by
  unfold relaxR
  have h0 := hu.1
  have h1 := hu.2
  rw [if_neg (by omega), h1, hop.hop (hF t ht)]
  refine ⟨hv, ?_⟩
  by_cases h2 : true = true ∧ (out v < 0 ∨ e v < out v)
  · rw [if_pos h2, upd_same]
  · rw [if_neg h2]
    have h3 : ¬ out v < 0 ∧ ¬ e v < out v := ⟨fun h => h2 ⟨rfl, .inl h⟩, fun h => h2 ⟨rfl, .inr h⟩⟩
    rcases h v with h4 | h4 <;> omega

theorem winR_sound (he : Earl ts c k size e) (hF : ∀ t ∈ ts, t.Formed) {t : Win} (ht : t ∈ ts) {out : Nat → Int} (h : Sound e out) :
    Sound e (winR size out t) ∧ ∀ n, Hit e out n → Hit e (winR size out t) n := by
  unfold winR
  by_cases hl : t.ends.2.2 = false
  · rw [if_pos hl]; exact ⟨h, fun _ h => h⟩
  · rw [if_neg hl]
    obtain ⟨a1, a2⟩ := relaxR_sound he hF ht t.ends.1.toNat t.ends.2.1.toNat h
    obtain ⟨b1, b2⟩ := relaxR_sound he hF ht t.ends.2.1.toNat t.ends.1.toNat a1
    exact ⟨b1, fun n hn => b2 n (a2 n hn)⟩

theorem winR_good (he : Earl ts c k size e) (hF : ∀ t ∈ ts, t.Formed) {t : Win} (ht : t ∈ ts) {u v : Nat} {out : Nat → Int} (h : Sound e out) (hu : Hit e out u) (hv : 0 ≤ e v) (hop : Hop t size u v (e u) (e v)) :
    Hit e (winR size out t) v := by
  obtain ⟨hl, hends⟩ := hop.ends (hF t ht)
  unfold winR
  rw [if_neg (by rw [hl]; simp)]
  obtain ⟨a1, a2⟩ := relaxR_sound he hF ht t.ends.1.toNat t.ends.2.1.toNat h
  obtain ⟨b1, b2⟩ := relaxR_sound he hF ht t.ends.2.1.toNat t.ends.1.toNat a1
  rcases hends with ⟨rfl, rfl⟩ | ⟨rfl, rfl⟩
  · exact b2 _ (relaxR_good hF ht h hu hv hop)
  · exact relaxR_good hF ht a1 (a2 _ hu) hv hop

theorem foldR (he : Earl ts c k size e) (hF : ∀ t ∈ ts, t.Formed) (l : List Win) (hl : ∀ t ∈ l, t ∈ ts) {out : Nat → Int} (h : Sound e out) :
    Sound e (l.foldl (winR size) out) ∧ (∀ n, Hit e out n → Hit e (l.foldl (winR size) out) n) ∧
    ∀ u v t, t ∈ l → Hit e out u → 0 ≤ e v → Hop t size u v (e u) (e v) → Hit e (l.foldl (winR size) out) v := by
  induction l generalizing out with
  | nil => exact ⟨h, fun _ h => h, fun u v t ht => absurd ht (by simp)⟩
  | cons a l ih =>
    have ha := hl a (by simp)
    obtain ⟨a1, a2⟩ := winR_sound he hF ha h
    obtain ⟨b1, b2, b3⟩ := ih (fun t ht => hl t (by simp [ht])) a1
    refine ⟨b1, fun n hn => b2 n (a2 n hn), fun u v t ht hu hv hop => ?_⟩
    rcases List.mem_cons.1 ht with rfl | ht
    · exact b2 v (winR_good he hF ha h hu hv hop)
    · exact b3 u v t ht (a2 u hu) hv hop

/-- how many crafts are reached before n -/
def rk (e : Nat → Int) (n : Nat) : Nat := (List.range 12).countP (fun m => decide (0 ≤ e m ∧ e m < e n))
theorem rk_le (e : Nat → Int) (n : Nat) : rk e n ≤ 12 := by
  have := List.countP_le_length (p := fun m => decide (0 ≤ e m ∧ e m < e n)) (l := List.range 12)
  simpa [rk] using this
theorem rk_lt {e : Nat → Int} {m n : Nat} (hm : m < 12) (h0 : 0 ≤ e m) (h : e m < e n) : rk e m < rk e n := by
  unfold rk
  have key : ∀ l : List Nat, l.countP (fun j => decide (0 ≤ e j ∧ e j < e m)) + (if m ∈ l then 1 else 0) ≤ l.countP (fun j => decide (0 ≤ e j ∧ e j < e n)) := by
    intro l
    induction l with
    | nil => simp
    | cons a l ih =>
      rw [List.countP_cons, List.countP_cons]
      by_cases ha : m = a
      · subst ha
        have e3 : (if decide (0 ≤ e m ∧ e m < e m) = true then 1 else 0) = (0 : Nat) := if_neg (by simp)
        have e4 : (if decide (0 ≤ e m ∧ e m < e n) = true then 1 else 0) = (1 : Nat) := if_pos (by simp; omega)
        have e5 : (if m ∈ m :: l then 1 else 0) = (1 : Nat) := if_pos (by simp)
        rw [e3, e4, e5]
        by_cases hml : m ∈ l
        · rw [if_pos hml] at ih; omega
        · rw [if_neg hml] at ih; omega
      · have e1 : (if m ∈ a :: l then 1 else 0) = (if m ∈ l then 1 else 0 : Nat) := by simp [ha]
        rw [e1]
        have e2 : (if decide (0 ≤ e a ∧ e a < e m) = true then 1 else 0) ≤ (if decide (0 ≤ e a ∧ e a < e n) = true then 1 else 0 : Nat) := by
          by_cases h1 : 0 ≤ e a ∧ e a < e m
          · rw [if_pos (by simpa using h1), if_pos (by simp; omega)]; exact Nat.le_refl _
          · rw [if_neg (by simpa using h1)]; exact Nat.zero_le _
        omega
  have := key (List.range 12)
  rw [if_pos (List.mem_range.2 hm)] at this
  omega

theorem roundsR_sound (he : Earl ts c k size e) (hF : ∀ t ∈ ts, t.Formed) (hk : 0 ≤ k) (hs : 1 ≤ size) (i : Nat) :
    Sound e (roundsR ts size i (startR c k)) ∧ ∀ n, 0 ≤ e n → rk e n ≤ i → Hit e (roundsR ts size i (startR c k)) n := by
  have hs0 : Sound e (startR c k) := fun n => by
    unfold startR
    by_cases hn : n = c
    · subst hn; rw [upd_same, he.start]; exact .inr ⟨hk, Int.le_refl _⟩
    · rw [upd_ne _ _ hn]; exact .inl rfl
  have hc0 : Hit e (startR c k) c := ⟨by rw [he.start]; exact hk, by unfold startR; rw [upd_same, he.start]⟩
  have base : ∀ i, Sound e (roundsR ts size i (startR c k)) ∧ Hit e (roundsR ts size i (startR c k)) c := by
    intro i
    induction i with
    | zero => exact ⟨hs0, hc0⟩
    | succ i ih =>
      obtain ⟨b1, b2, _⟩ := foldR he hF ts (fun _ h => h) ih.1
      exact ⟨b1, b2 c ih.2⟩
  induction i with
  | zero =>
    refine ⟨hs0, fun n hn hr => ?_⟩
    by_cases hnc : n = c
    · subst hnc; exact hc0
    · obtain ⟨m, t, ht, hm, hop⟩ := he.held n hnc hn
      obtain ⟨h1, h2, _⟩ := hop.gt (hF t ht) hs
      have := rk_lt h2 hm h1
      omega
  | succ i ih =>
    refine ⟨(base (i + 1)).1, fun n hn hr => ?_⟩
    by_cases hnc : n = c
    · subst hnc; exact (base (i + 1)).2
    · obtain ⟨m, t, ht, hm, hop⟩ := he.held n hnc hn
      obtain ⟨h1, h2, _⟩ := hop.gt (hF t ht) hs
      have := rk_lt h2 hm h1
      obtain ⟨_, _, b3⟩ := foldR he hF ts (fun _ h => h) (base i).1
      exact b3 m n t ht (ih.2 m hm (by omega)) hn hop

theorem roundsR_eq (he : Earl ts c k size e) (hF : ∀ t ∈ ts, t.Formed) (hk : 0 ≤ k) (hs : 1 ≤ size) : roundsR ts size 12 (startR c k) = e := by
  obtain ⟨h1, h2⟩ := roundsR_sound he hF hk hs 12
  funext n
  by_cases hn : 0 ≤ e n
  · exact (h2 n hn (rk_le e n)).2
  · rcases h1 n with h | h
    · have := he.low n; omega
    · omega

/-- there is an earliest arrival: the search by ticks comes to its end -/
theorem Earl.exists (ts : List Win) (c : Nat) (k size : Int) (hF : ∀ t ∈ ts, t.Formed) (hc : c < 21) (hk : 0 ≤ k) (hs : 1 ≤ size) : ∃ e, Earl ts c k size e := by
  have main : ∀ (d : Nat) (s : DS), DAll ts c k size s → undone s.dn ≤ d → ∃ e, Earl ts c k size e := by
    intro d
    induction d with
    | zero =>
      intro s hs' hd
      rcases pickN_spec s 21 with ⟨_, h⟩ | ⟨m, _, h2, _, h4, _⟩
      · exact ⟨_, hs'.earl h⟩
      · have := undone_lt h2 h4; omega
    | succ d ih =>
      intro s hs' hd
      rcases pickN_spec s 21 with ⟨_, h⟩ | ⟨m, _, h2, h3, h4, h5⟩
      · exact ⟨_, hs'.earl h⟩
      · have hlt := undone_lt h2 h4
        obtain ⟨m1, m2, m3⟩ := hs'.mark hk h3 h4 (fun n hn hd => by
          rcases Nat.lt_or_ge n 21 with h6 | h6
          · exact h5 n h6 hn hd
          · exact absurd (hs'.out n h6) hn)
        obtain ⟨r1, r2⟩ := roundD_all hF hs hk m1 m3
        exact ih _ r1 (by rw [r2]; omega)
  obtain ⟨m1, m2, m3⟩ := startD_mark ts c k size hc hk
  obtain ⟨r1, _⟩ := roundD_all hF hs hk m1 m3
  exact main _ _ r1 (Nat.le_refl _)

/-- stepL is the least end of a hop -/
theorem stepL_spec (hF : ∀ t ∈ ts, t.Formed) (u v : Nat) (τ : Int) :
    ((stepL u v τ size ts).2 = false ∧ ∀ t ∈ ts, ∀ x, ¬ Hop t size u v τ x) ∨
    ((stepL u v τ size ts).2 = true ∧ (∃ t ∈ ts, Hop t size u v τ (stepL u v τ size ts).1) ∧ ∀ t ∈ ts, ∀ x, Hop t size u v τ x → (stepL u v τ size ts).1 ≤ x) := by
  rw [← List.reverse_reverse ts] at hF ⊢
  generalize ts.reverse = r at *
  induction r with
  | nil => exact .inl ⟨rfl, fun t ht => absurd ht (by simp)⟩
  | cons a r ih =>
    have ih := ih (fun t ht => hF t (by rw [List.reverse_cons]; exact List.mem_append_left _ ht))
    have ha := hF a (by simp)
    rw [List.reverse_cons, stepL_snoc]
    generalize stepL u v τ size r.reverse = s at *
    unfold step1
    by_cases h1 : (a.hop u v τ size).2 = true
    · have hop := (hop_Hop ha).1 h1
      have only : ∀ x, Hop a size u v τ x → x = (a.hop u v τ size).1 := fun x hx => by rw [hx.hop ha]
      by_cases h2 : s.2 = false ∨ (a.hop u v τ size).1 < s.1
      · rw [if_pos ⟨h1, h2⟩]
        refine .inr ⟨rfl, ⟨a, by simp, hop⟩, fun t ht x hx => ?_⟩
        rcases List.mem_append.1 ht with ht | ht
        · rcases ih with ⟨i1, i2⟩ | ⟨i1, i2, i3⟩
          · exact absurd hx (i2 t ht x)
          · have := i3 t ht x hx
            rcases h2 with h2 | h2
            · rw [i1] at h2; cases h2
            · dsimp only; omega
        · simp at ht; subst ht
          rw [only x hx]; exact Int.le_refl _
      · rw [if_neg (fun h => h2 h.2)]
        rcases ih with ⟨i1, i2⟩ | ⟨i1, ⟨t, i2, i2'⟩, i3⟩
        · exact absurd (.inl i1) h2
        · refine .inr ⟨i1, ⟨t, List.mem_append_left _ i2, i2'⟩, fun t ht x hx => ?_⟩
          rcases List.mem_append.1 ht with ht | ht
          · exact i3 t ht x hx
          · simp at ht; subst ht
            rw [only x hx]
            have : ¬ (t.hop u v τ size).1 < s.1 := fun h => h2 (.inr h)
            omega
    · rw [if_neg (fun h => h1 h.1)]
      have no : ∀ x, ¬ Hop a size u v τ x := fun x hx => h1 (by rw [hx.hop ha])
      rcases ih with ⟨i1, i2⟩ | ⟨i1, ⟨t, i2, i2'⟩, i3⟩
      · refine .inl ⟨i1, fun t ht x hx => ?_⟩
        rcases List.mem_append.1 ht with ht | ht
        · exact i2 t ht x hx
        · simp at ht; subst ht; exact no x hx
      · refine .inr ⟨i1, ⟨t, List.mem_append_left _ i2, i2'⟩, fun t ht x hx => ?_⟩
        rcases List.mem_append.1 ht with ht | ht
        · exact i3 t ht x hx
        · simp at ht; subst ht; exact absurd hx (no x)

end
end Go.Proofs.Ytijocgijnbcefaa
