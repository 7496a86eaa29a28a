/-
  The section's examples, plain.
-/
import Derived.Test.YtijocgijnbcefaaArrS
import Derived.Test.YtijocgijnbcefaaOrbT
namespace Go.Proofs.Ytijocgijnbcefaa

def exT : List Win := [⟨1, 0, 0, 10, 20, 10⟩, ⟨2, 0, 1, 12, 30, 5⟩, ⟨1, 1, 1, 25, 40, 20⟩]
theorem exT_formed : ∀ t ∈ exT, t.Formed := by
  intro t ht
  simp only [exT, List.mem_cons, List.not_mem_nil, or_false] at ht
  rcases ht with rfl | rfl | rfl <;> (unfold Win.Formed; simp)

def exE (n : Nat) : Int := if n = 0 then 0 else if n = 1 then 22 else if n = 12 then 15 else if n = 13 then 28 else -1

theorem exHop {t : Win} (ht : t ∈ exT) {u v : Nat} {x : Int} (hu : 0 ≤ exE u) (h : Hop t 50 u v (exE u) x) : (u = 0 ∧ v = 12 ∧ x = 15) ∨ (u = 0 ∧ v = 1 ∧ x = 22) ∨ (u = 1 ∧ v = 13 ∧ x = 28) := by
  obtain ⟨h1, h2, h3⟩ := h
  have hu4 : u = 0 ∨ u = 1 ∨ u = 12 ∨ u = 13 := by
    unfold exE at hu
    split at hu
    · omega
    · split at hu
      · omega
      · split at hu
        · omega
        · split at hu
          · omega
          · omega
  simp only [exT, List.mem_cons, List.not_mem_nil, or_false] at ht
  rcases ht with rfl | rfl | rfl <;> rcases hu4 with rfl | rfl | rfl | rfl <;> simp [Win.other, exE, ceil] at h1 h2 h3 <;> omega

theorem exEarl : Earl exT 0 0 50 exE := by
  refine ⟨rfl, fun n => ?_, fun u v t x ht hu hop => ?_, fun n hn hp => ?_⟩
  · unfold exE
    split <;> (try split) <;> (try split) <;> (try split) <;> omega
  · rcases exHop ht hu hop with ⟨rfl, rfl, rfl⟩ | ⟨rfl, rfl, rfl⟩ | ⟨rfl, rfl, rfl⟩ <;> simp [exE]
  · have h3 : n = 1 ∨ n = 12 ∨ n = 13 := by
      unfold exE at hp
      split at hp
      · omega
      · split at hp
        · omega
        · split at hp
          · omega
          · split at hp
            · omega
            · omega
    rcases h3 with rfl | rfl | rfl
    · exact ⟨0, ⟨2, 0, 1, 12, 30, 5⟩, by simp [exT], by simp [exE], by unfold Hop; decide⟩
    · exact ⟨0, ⟨1, 0, 0, 10, 20, 10⟩, by simp [exT], by simp [exE], by unfold Hop; decide⟩
    · exact ⟨1, ⟨1, 1, 1, 25, 40, 20⟩, by simp [exT], by simp [exE], by unfold Hop; decide⟩

theorem exLp (m n : Nat) (t : Win) (ht : t ∈ exT) (hm : 0 ≤ exE m) (hop : Hop t 50 m n (exE m) (exE n)) (hl : ∀ m', m' < m → ¬ (0 ≤ exE m' ∧ ∃ t ∈ exT, Hop t 50 m' n (exE m') (exE n))) : LeastPred exT 50 exE m n :=
  ⟨hm, ⟨t, ht, hop⟩, fun m' h1 ⟨t', h2, h3⟩ => by
    rcases Nat.lt_or_ge m' m with h | h
    · exact absurd ⟨h1, t', h2, h3⟩ (hl m' h)
    · exact h⟩

theorem exSpec0 : ArrSpec exT 0 0 50 0 15 [0, 12] true := by
  refine ⟨exE, exEarl, .inr ⟨by simp [exE], by simp [exE], rfl, [0, 12], ?_, rfl⟩⟩
  exact Way.step 0 12 [0] (by decide) (exLp 0 12 ⟨1, 0, 0, 10, 20, 10⟩ (by simp [exT]) (by simp [exE]) (by unfold Hop; decide) (fun m' h => absurd h (by omega))) .start
theorem exSpec1 : ArrSpec exT 0 0 50 1 28 [0, 1, 13] true := by
  refine ⟨exE, exEarl, .inr ⟨by simp [exE], by simp [exE], rfl, [0, 1, 13], ?_, rfl⟩⟩
  refine Way.step 1 13 [0, 1] (by decide) (exLp 1 13 ⟨1, 1, 1, 25, 40, 20⟩ (by simp [exT]) (by simp [exE]) (by unfold Hop; decide) (fun m' h => ?_)) ?_
  · rintro ⟨h1, t, h2, h3⟩
    rcases exHop h2 h1 h3 with ⟨_, h4, _⟩ | ⟨_, h4, _⟩ | ⟨h4, _, _⟩ <;> omega
  · exact Way.step 0 1 [0] (by decide) (exLp 0 1 ⟨2, 0, 1, 12, 30, 5⟩ (by simp [exT]) (by simp [exE]) (by unfold Hop; decide) (fun m' h => absurd h (by omega))) .start

theorem exArr0 {a : Int} {l : List Int} {ok : Bool} (h : ArrSpec exT 0 0 50 0 a l ok) : a = 15 ∧ l = [0, 12] ∧ ok = true := h.unique exT_formed (by omega) (by omega) exSpec0
theorem exArr1 {a : Int} {l : List Int} {ok : Bool} (h : ArrSpec exT 0 0 50 1 a l ok) : a = 28 ∧ l = [0, 1, 13] ∧ ok = true := h.unique exT_formed (by omega) (by omega) exSpec1

theorem exCheck : checkO exT = 0 := by
  refine check_ok (by decide) exT_formed (by decide) ?_
  intro i k t u hki ht hu
  have hi := (List.getElem?_eq_some_iff.1 ht).1
  change i < 3 at hi
  have h3 : (i = 1 ∧ k = 0) ∨ (i = 2 ∧ k = 0) ∨ (i = 2 ∧ k = 1) := by omega
  rcases h3 with ⟨rfl, rfl⟩ | ⟨rfl, rfl⟩ | ⟨rfl, rfl⟩ <;> (cases ht; cases hu; decide)

end Go.Proofs.Ytijocgijnbcefaa
