/-
  Earliest arrival, plain: what the two searches compute, and that it is the same. No program in sight.
-/
import Derived.Test.YtijocgijnbcefaaOrbP
namespace Go.Proofs.Ytijocgijnbcefaa

def upd {β : Type} (f : Nat → β) (i : Nat) (v : β) : Nat → β := fun j => if j = i then v else f j
theorem upd_same {β : Type} (f : Nat → β) (i : Nat) (v : β) : upd f i v i = v := by simp [upd]
theorem upd_ne {β : Type} (f : Nat → β) {i j : Nat} (v : β) (h : j ≠ i) : upd f i v j = f j := by simp [upd, h]

/-- A message that is at node u at τ can be at node v at 'end' over the window t, begun as early as possible. -/
def Hop (t : Win) (size : Int) (u v : Nat) (τ : Int) (e : Int) : Prop :=
  t.other (u : Int) = ((v : Int), true) ∧ e = max τ t.lo + ceil size t.rate ∧ e ≤ t.hi

theorem ceil_pos {a b : Int} (ha : 1 ≤ a) (hb : 1 ≤ b) : 1 ≤ ceil a b := by
  have h1 : 0 ≤ a / b := Int.ediv_nonneg (by omega) (by omega)
  have h2 : 0 ≤ a % b := Int.emod_nonneg _ (by omega)
  have h3 := Int.mul_ediv_add_emod a b
  unfold ceil
  by_cases h : a % b = 0
  · have : a / b ≠ 0 := by intro h0; rw [h0, h] at h3; omega
    omega
  · omega
theorem ceil_eq {a b : Int} (hb : 1 ≤ b) : (a + b - 1) / b = ceil a b := by
  have h2 : 0 ≤ a % b := Int.emod_nonneg _ (by omega)
  have h4 : a % b < b := Int.emod_lt_of_pos _ (by omega)
  have h3 := Int.mul_ediv_add_emod a b
  unfold ceil
  by_cases h : a % b = 0
  · have e1 : a + b - 1 = (b - 1) + b * (a / b) := by omega
    rw [e1, Int.add_mul_ediv_left _ _ (by omega), Int.ediv_eq_zero_of_lt (by omega) (by omega)]; omega
  · have e1 : a + b - 1 = (a % b - 1) + b * (a / b + 1) := by rw [Int.mul_add]; omega
    rw [e1, Int.add_mul_ediv_left _ _ (by omega), Int.ediv_eq_zero_of_lt (by omega) (by omega)]; omega
theorem ceil_mono {a a' b : Int} (h : a ≤ a') (hb : 1 ≤ b) : ceil a b ≤ ceil a' b := by
  rw [← ceil_eq hb, ← ceil_eq hb]
  exact Int.ediv_le_ediv (by omega) (by omega)

theorem other_link {t : Win} {u v : Nat} (ht : t.Formed) (h : t.other (u : Int) = ((v : Int), true)) : 1 ≤ t.rate ∧ u < 12 ∧ v < 21 ∧ u ≠ v := by
  unfold Win.Formed at ht
  unfold Win.other at h
  split at h
  · simp at h; omega
  · split at h
    · simp at h; omega
    · split at h
      · simp at h; omega
      · simp at h

theorem Hop.gt {t : Win} {size : Int} {u v : Nat} {τ e : Int} (ht : t.Formed) (hs : 1 ≤ size) (h : Hop t size u v τ e) : τ < e ∧ u < 12 ∧ v < 21 ∧ e ≤ 1000000 := by
  obtain ⟨h1, h2, h3⟩ := h
  obtain ⟨hr, hu, hv, _⟩ := other_link ht h1
  have := ceil_pos hs hr
  refine ⟨by omega, hu, hv, ?_⟩
  unfold Win.Formed at ht
  omega

theorem Hop.mono {t : Win} {size size' : Int} {u v : Nat} {τ τ' e' : Int} (ht : t.Formed) (hss : size ≤ size') (hτ : τ ≤ τ') (h : Hop t size' u v τ' e') : ∃ e, Hop t size u v τ e ∧ e ≤ e' := by
  obtain ⟨h1, h2, h3⟩ := h
  obtain ⟨hr, _, _, _⟩ := other_link ht h1
  have := ceil_mono (a := size) (a' := size') (b := t.rate) hss hr
  exact ⟨_, ⟨h1, rfl, by omega⟩, by omega⟩

/-- e is the earliest arrival of a message of a size that is at craft c at tick k. -/
structure Earl (ts : List Win) (c : Nat) (k size : Int) (e : Nat → Int) : Prop where
  start : e c = k
  low : ∀ n, e n = -1 ∨ k ≤ e n
  closed : ∀ (u v : Nat) (t : Win) (x : Int), t ∈ ts → 0 ≤ e u → Hop t size u v (e u) x → 0 ≤ e v ∧ e v ≤ x
  held : ∀ n, n ≠ c → 0 ≤ e n → ∃ (m : Nat) (t : Win), t ∈ ts ∧ 0 ≤ e m ∧ Hop t size m n (e m) (e n)

theorem Earl.cmp {ts ts' : List Win} {c : Nat} {k k' size size' : Int} {e e' : Nat → Int} (h : Earl ts c k size e) (h' : Earl ts' c k' size' e') (hF : ∀ t ∈ ts, t.Formed) (hsub : ∀ t ∈ ts', t ∈ ts) (hk0 : 0 ≤ k) (hk : k ≤ k') (hs1 : 1 ≤ size) (hs : size ≤ size') :
    ∀ n, 0 ≤ e' n → 0 ≤ e n ∧ e n ≤ e' n := by
  have main : ∀ (d : Nat) (n : Nat), 0 ≤ e' n → (e' n).toNat ≤ d → 0 ≤ e n ∧ e n ≤ e' n := by
    intro d
    induction d with
    | zero =>
      intro n hn hd
      by_cases hc : n = c
      · subst hc; rw [h.start, h'.start]; omega
      · obtain ⟨m, t, ht, hm, hop⟩ := h'.held n hc hn
        have := (hop.gt (hF t (hsub t ht)) (by omega)).1
        omega
    | succ d ih =>
      intro n hn hd
      by_cases hc : n = c
      · subst hc; rw [h.start, h'.start]; omega
      · obtain ⟨m, t, ht, hm, hop⟩ := h'.held n hc hn
        have hlt := (hop.gt (hF t (hsub t ht)) (by omega)).1
        obtain ⟨h1, h2⟩ := ih m hm (by omega)
        obtain ⟨x, hx, hxe⟩ := hop.mono (hF t (hsub t ht)) hs h2
        have := h.closed m n t x (hsub t ht) h1 hx
        omega
  exact fun n hn => main _ n hn (Nat.le_refl _)

theorem Earl.unique {ts : List Win} {c : Nat} {k size : Int} {e e' : Nat → Int} (h : Earl ts c k size e) (h' : Earl ts c k size e') (hF : ∀ t ∈ ts, t.Formed) (hk0 : 0 ≤ k) (hs1 : 1 ≤ size) : e = e' := by
  funext n
  have h1 := h.cmp h' hF (fun _ h => h) hk0 (by omega) hs1 (by omega) n
  have h2 := h'.cmp h hF (fun _ h => h) hk0 (by omega) hs1 (by omega) n
  rcases h.low n with a | a <;> rcases h'.low n with b | b <;> omega

/-- m is the least node from which a hop at its earliest tick ends at n at n's earliest tick -/
structure LeastPred (ts : List Win) (size : Int) (e : Nat → Int) (m n : Nat) : Prop where
  pos : 0 ≤ e m
  hop : ∃ t, t ∈ ts ∧ Hop t size m n (e m) (e n)
  least : ∀ m', 0 ≤ e m' → (∃ t, t ∈ ts ∧ Hop t size m' n (e m') (e n)) → m ≤ m'

theorem LeastPred.unique {ts : List Win} {size : Int} {e : Nat → Int} {m m' n : Nat} (h : LeastPred ts size e m n) (h' : LeastPred ts size e m' n) : m = m' :=
  Nat.le_antisymm (h.least m' h'.pos h'.hop) (h'.least m h.pos h.hop)

/-- the nodes of the way to n -/
inductive Way (ts : List Win) (size : Int) (e : Nat → Int) (c : Nat) : Nat → List Nat → Prop
  | start : Way ts size e c c [c]
  | step (m n : Nat) (l : List Nat) : n ≠ c → LeastPred ts size e m n → Way ts size e c m l → Way ts size e c n (l ++ [n])

theorem Way.unique {ts : List Win} {size : Int} {e : Nat → Int} {c n : Nat} {l l' : List Nat} (h : Way ts size e c n l) (h' : Way ts size e c n l') : l = l' := by
  induction h generalizing l' with
  | start =>
    cases h' with
    | start => rfl
    | step m n l hn _ _ => exact absurd rfl hn
  | step m n l hn hp _ ih =>
    cases h' with
    | start => exact absurd rfl hn
    | step m' _ l2 _ hp' hw' =>
      obtain rfl := hp.unique hp'
      rw [ih hw']

theorem Earl.way {ts : List Win} {c : Nat} {k size : Int} {e : Nat → Int} (h : Earl ts c k size e) (hF : ∀ t ∈ ts, t.Formed) (hs : 1 ≤ size) (pred : Nat → Nat) (hp : ∀ n, n ≠ c → 0 ≤ e n → LeastPred ts size e (pred n) n) :
    ∀ n, 0 ≤ e n → ∃ l, Way ts size e c n l := by
  have main : ∀ (d n : Nat), 0 ≤ e n → (e n).toNat ≤ d → ∃ l, Way ts size e c n l := by
    intro d
    induction d with
    | zero =>
      intro n hn hd
      by_cases hc : n = c
      · subst hc; exact ⟨_, .start⟩
      · obtain ⟨h1, ⟨t, ht, hop⟩, _⟩ := hp n hc hn
        have := (hop.gt (hF t ht) hs).1
        omega
    | succ d ih =>
      intro n hn hd
      by_cases hc : n = c
      · subst hc; exact ⟨_, .start⟩
      · have hpn := hp n hc hn
        obtain ⟨t, ht, hop⟩ := hpn.hop
        have := (hop.gt (hF t ht) hs).1
        obtain ⟨l, hl⟩ := ih (pred n) hpn.pos (by omega)
        exact ⟨_, .step _ n l hc hpn hl⟩
  exact fun n hn => main _ n hn (Nat.le_refl _)

end Go.Proofs.Ytijocgijnbcefaa
