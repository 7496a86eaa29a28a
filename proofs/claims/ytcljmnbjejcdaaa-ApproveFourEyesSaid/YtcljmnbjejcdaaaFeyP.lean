/-
  Plain: ApproveFourEyes.
-/
import Derived.Test.YtcljmnbjejcdaaaWSgd
namespace Go.Proofs.Ytcljmnbjejcdaaa

def inB (P : Nat → Nat → Bool) (i : Nat) : Nat → Bool
  | 0 => false
  | k + 1 => inB P i k || P i k
def toB (P : Nat → Nat → Bool) : Nat → Bool
  | 0 => false
  | i + 1 => toB P i || inB P i i
theorem inB_iff {P : Nat → Nat → Bool} {i : Nat} : ∀ {n : Nat}, inB P i n = true ↔ ∃ k, k < n ∧ P i k = true
  | 0 => by simp [inB]
  | n + 1 => by
    unfold inB
    rw [Bool.or_eq_true, inB_iff]
    constructor
    · rintro (⟨k, h1, h2⟩ | h)
      · exact ⟨k, by omega, h2⟩
      · exact ⟨n, by omega, h⟩
    · rintro ⟨k, h1, h2⟩
      rcases Nat.lt_or_ge k n with h | h
      · exact .inl ⟨k, h, h2⟩
      · have : k = n := by omega
        subst this; exact .inr h2
theorem toB_iff {P : Nat → Nat → Bool} : ∀ {n : Nat}, toB P n = true ↔ ∃ i k, i < n ∧ k < i ∧ P i k = true
  | 0 => by simp [toB]
  | n + 1 => by
    unfold toB
    rw [Bool.or_eq_true, toB_iff, inB_iff]
    constructor
    · rintro (⟨i, k, h1, h2, h3⟩ | ⟨k, h1, h2⟩)
      · exact ⟨i, k, by omega, h2, h3⟩
      · exact ⟨n, k, by omega, h1, h2⟩
    · rintro ⟨i, k, h1, h2, h3⟩
      rcases Nat.lt_or_ge i n with h | h
      · exact .inl ⟨i, k, h, h2, h3⟩
      · have : i = n := by omega
        subst this; exact .inr ⟨k, h2, h3⟩

/-- the chosen persons, as numbers -/
def whoL (n : Nat) (zs : List Int) : List Nat := (zs.take (signedM n zs.length)).map (fun z => (around z n).toNat)
theorem whoL_lt {n : Nat} {zs : List Int} : ∀ i ∈ whoL n zs, i < n := by
  intro i hi
  unfold whoL at hi
  obtain ⟨z, hz, rfl⟩ := List.mem_map.1 hi
  by_cases h0 : n = 0
  · unfold signedM at hz; rw [if_pos h0] at hz; simp at hz
  · have h1 := around_lo (n := z) (m := n) (by omega)
    have h2 := around_hi (n := z) (m := n) (by omega)
    omega
theorem signed_who (ps : List Per) (zs : List Int) (b : List UInt8) : signedL ps zs b = (whoL ps.length zs).map (fun i : Nat => signA ps (i : Int) b) := by
  unfold signedL signedTo whoL
  rw [List.map_map]
  refine List.map_congr_left fun z hz => ?_
  by_cases h0 : ps.length = 0
  · unfold signedM at hz; rw [if_pos h0] at hz; simp at hz
  · have h1 := around_lo (n := z) (m := ps.length) (by omega)
    simp only [Function.comp]
    rw [Int.toNat_of_nonneg h1]
theorem whoL_len {n : Nat} {zs : List Int} : (whoL n zs).length ≤ 16 := by
  unfold whoL signedM
  rw [List.length_map, List.length_take]
  split <;> omega

/-- two different persons of one centre -/
def pairP (ps : List Per) (who : List Nat) (i k : Nat) : Bool := !decide (who.getD i 0 = who.getD k 0) && decide (cenN ps (who.getD i 0) = cenN ps (who.getD k 0))
theorem four_eyes {ps : List Per} {who : List Nat} {b : List UInt8} (hw : ∀ i ∈ who, i < ps.length) (hl : who.length ≤ 16) :
    checkA ps (who.map fun i : Nat => signA ps (i : Int) b) b = 0 ↔ toB (pairP ps who) who.length = true := by
  unfold checkA
  rw [if_neg (by rw [List.length_map]; omega), toB_iff]
  have hm := signers_signed (ps := ps) (b := b) hw
  have hi := signers_incr ps (who.map fun i : Nat => signA ps (i : Int) b) b
  generalize signersN ps (who.map fun i : Nat => signA ps (i : Int) b) b = S at *
  have key : twoB ps S = true ↔ ∃ i k, i < who.length ∧ k < i ∧ pairP ps who i k = true := by
    rw [two_iff hi]
    unfold pairP
    constructor
    · rintro ⟨x, hx, y, hy, hne, hc⟩
      obtain ⟨i, hi', rfl⟩ := List.mem_iff_getElem.1 ((hm x).1 hx)
      obtain ⟨k, hk', rfl⟩ := List.mem_iff_getElem.1 ((hm y).1 hy)
      have gi : who.getD i 0 = who[i] := by simp [List.getD, hi']
      have gk : who.getD k 0 = who[k] := by simp [List.getD, hk']
      rcases Nat.lt_trichotomy k i with h | h | h
      · exact ⟨i, k, hi', h, by rw [gi, gk]; simp [hne, hc]⟩
      · subst h; exact absurd rfl hne
      · exact ⟨k, i, hk', h, by rw [gi, gk]; simp [Ne.symm hne, hc]⟩
    · rintro ⟨i, k, h1, h2, h3⟩
      have hk' : k < who.length := by omega
      have gi : who.getD i 0 = who[i] := by simp [List.getD, h1]
      have gk : who.getD k 0 = who[k] := by simp [List.getD, hk']
      rw [gi, gk] at h3
      simp at h3
      exact ⟨who[i], (hm _).2 (List.getElem_mem _), who[k], (hm _).2 (List.getElem_mem _), h3.1, h3.2⟩
  by_cases h : twoB ps S = true
  · rw [if_pos h]; exact ⟨fun _ => key.1 h, fun _ => rfl⟩
  · rw [if_neg h]; exact ⟨fun h' => by omega, fun h' => absurd (key.2 h') h⟩
theorem alone_one (ps : List Per) (a : App) (b : List UInt8) : checkA ps [a, a, a] b = 33 := by
  unfold checkA
  rw [if_neg (by simp), if_neg]
  intro h
  obtain ⟨x, hx, y, hy, hne, _⟩ := (two_iff (signers_incr ps [a, a, a] b)).1 h
  obtain ⟨_, c, hc, h1, _⟩ := mem_signers.1 hx
  obtain ⟨_, d, hd, h2, _⟩ := mem_signers.1 hy
  simp at hc hd
  subst hc hd
  omega
theorem cen_getD {ps : List Per} {i : Nat} {p : Per} (h : ps[i]? = some p) : cenN ps i = p.centre := by unfold cenN; rw [getD_of h]
end Go.Proofs.Ytcljmnbjejcdaaa
