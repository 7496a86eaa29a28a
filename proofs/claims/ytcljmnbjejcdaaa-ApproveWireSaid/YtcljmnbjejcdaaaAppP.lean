/-
  Plain: chapter 21 (approvals). No program in sight.
-/
import Derived.Test.YtcljmnbjejcdaaaHashP
namespace Go.Proofs.Ytcljmnbjejcdaaa

structure Per where
  centre : Int
  secret : Nat
  deriving DecidableEq
structure App where
  person : Int
  tag : Nat
  deriving DecidableEq

def per0 : Per := ⟨0, 0⟩
def secN (ps : List Per) (i : Int) : Nat := (ps.getD i.toNat per0).secret
def cenN (ps : List Per) (p : Nat) : Int := (ps.getD p per0).centre
def inP (ps : List Per) (i : Int) : Bool := decide (0 ≤ i) && decide (i < ps.length)
def validB (ps : List Per) (a : App) (b : List UInt8) : Bool := inP ps a.person && (tagN (secN ps a.person) b == a.tag)
/-- what person p signs -/
def signA (ps : List Per) (i : Int) (b : List UInt8) : App := ⟨i, tagN (secN ps i) b⟩
def signersN (ps : List Per) (l : List App) (b : List UInt8) : List Nat := (List.range ps.length).filter (fun p => l.any (fun a => a.person == (p : Int) && validB ps a b))
def signersI (ps : List Per) (l : List App) (b : List UInt8) : List Int := (signersN ps l b).map (fun p : Nat => (p : Int))
/-- two of one centre -/
def twoB (ps : List Per) (s : List Nat) : Bool := !decide (s.Pairwise (fun x y => cenN ps x ≠ cenN ps y))
def checkA (ps : List Per) (l : List App) (b : List UInt8) : Int := if 16 < l.length then 2 else if twoB ps (signersN ps l b) = true then 0 else 33

theorem mem_signers {ps : List Per} {l : List App} {b : List UInt8} {p : Nat} : p ∈ signersN ps l b ↔ p < ps.length ∧ ∃ a ∈ l, a.person = (p : Int) ∧ validB ps a b = true := by
  unfold signersN
  rw [List.mem_filter, List.mem_range, List.any_eq_true]
  simp only [Bool.and_eq_true, beq_iff_eq]
theorem signers_incr (ps : List Per) (l : List App) (b : List UInt8) : (signersN ps l b).Pairwise (· < ·) := List.pairwise_lt_range.filter _
theorem signers_congr {ps : List Per} {l l' : List App} {b : List UInt8} (h : ∀ a, a ∈ l ↔ a ∈ l') : signersN ps l b = signersN ps l' b := by
  unfold signersN
  refine List.filter_congr fun p _ => ?_
  rw [Bool.eq_iff_iff, List.any_eq_true, List.any_eq_true]
  constructor
  · rintro ⟨a, ha, h1⟩; exact ⟨a, (h a).1 ha, h1⟩
  · rintro ⟨a, ha, h1⟩; exact ⟨a, (h a).2 ha, h1⟩
theorem filter_sub {α : Type} {p q : α → Bool} (h : ∀ x, p x = true → q x = true) : ∀ l : List α, (l.filter p).Sublist (l.filter q)
  | [] => .slnil
  | x :: l => by
    by_cases hp : p x = true
    · rw [List.filter_cons_of_pos hp, List.filter_cons_of_pos (h x hp)]; exact (filter_sub h l).cons_cons x
    · rw [List.filter_cons_of_neg hp]
      by_cases hq : q x = true
      · rw [List.filter_cons_of_pos hq]; exact (filter_sub h l).cons x
      · rw [List.filter_cons_of_neg hq]; exact filter_sub h l
theorem signers_sub {ps : List Per} {l l' : List App} {b : List UInt8} (h : ∀ a, a ∈ l → a ∈ l') : (signersN ps l b).Sublist (signersN ps l' b) := by
  unfold signersN
  refine filter_sub (fun p hp => ?_) _
  rw [List.any_eq_true] at hp ⊢
  obtain ⟨a, ha, h1⟩ := hp
  exact ⟨a, h a ha, h1⟩
theorem two_sub {ps : List Per} {s s' : List Nat} (h : s.Sublist s') (ht : twoB ps s = true) : twoB ps s' = true := by
  unfold twoB at *
  simp only [Bool.not_eq_true', decide_eq_false_iff_not] at *
  exact fun hc => ht (hc.sublist h)
theorem check_more {ps : List Per} {l l' : List App} {b : List UInt8} (h : ∀ a, a ∈ l → a ∈ l') (hl : l'.length ≤ 16) (hc : checkA ps l b = 0) : checkA ps l' b = 0 := by
  unfold checkA at *
  by_cases h1 : 16 < l.length
  · rw [if_pos h1] at hc; omega
  · rw [if_neg h1] at hc
    by_cases h2 : twoB ps (signersN ps l b) = true
    · rw [if_neg (by omega), if_pos (two_sub (signers_sub h) h2)]
    · rw [if_neg h2] at hc; omega
theorem check_congr {ps : List Per} {l l' : List App} {b : List UInt8} (h : ∀ a, a ∈ l ↔ a ∈ l') (h1 : l.length ≤ 16) (h2 : l'.length ≤ 16) : checkA ps l b = checkA ps l' b := by
  unfold checkA
  rw [signers_congr h, if_neg (show ¬ 16 < l.length by omega), if_neg (show ¬ 16 < l'.length by omega)]
theorem two_iff {ps : List Per} {s : List Nat} (hs : s.Pairwise (· < ·)) : twoB ps s = true ↔ ∃ x ∈ s, ∃ y ∈ s, x ≠ y ∧ cenN ps x = cenN ps y := by
  unfold twoB
  simp only [Bool.not_eq_true', decide_eq_false_iff_not]
  constructor
  · intro h
    rcases Classical.em (∃ x ∈ s, ∃ y ∈ s, x ≠ y ∧ cenN ps x = cenN ps y) with h1 | h1
    · exact h1
    · refine absurd (hs.imp_of_mem (fun {x y} hx hy hlt hc => h1 ⟨x, hx, y, hy, by omega, hc⟩)) h
  · rintro ⟨x, hx, y, hy, hne, hc⟩ hp
    obtain ⟨i, hi, rfl⟩ := List.mem_iff_getElem.1 hx
    obtain ⟨j, hj, rfl⟩ := List.mem_iff_getElem.1 hy
    rw [List.pairwise_iff_getElem] at hp
    rcases Nat.lt_trichotomy i j with h | h | h
    · exact hp i j hi hj h hc
    · subst h; exact hne rfl
    · exact hp j i hj hi h hc.symm

theorem valid_sign {ps : List Per} {i : Int} (h : inP ps i = true) (b : List UInt8) : validB ps (signA ps i b) b = true := by
  unfold validB signA; simp [h]

/-! approvals that chosen persons sign -/
theorem signers_signed {ps : List Per} {b : List UInt8} {who : List Nat} (hw : ∀ i ∈ who, i < ps.length) (p : Nat) : p ∈ signersN ps (who.map fun i : Nat => signA ps (i : Int) b) b ↔ p ∈ who := by
  rw [mem_signers]
  constructor
  · rintro ⟨_, a, ha, h1, _⟩
    obtain ⟨i, hi, rfl⟩ := List.mem_map.1 ha
    have : (i : Int) = p := h1
    have : i = p := by omega
    subst this; exact hi
  · intro h
    exact ⟨hw p h, _, List.mem_map.2 ⟨p, h, rfl⟩, rfl, valid_sign (by unfold inP; have := hw p h; simp; omega) b⟩

end Go.Proofs.Ytcljmnbjejcdaaa
