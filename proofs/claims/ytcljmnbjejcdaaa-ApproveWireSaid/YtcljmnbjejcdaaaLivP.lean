/-
  The examples of law21's lives, plain.
-/
import Derived.Test.YtcljmnbjejcdaaaAppG
import Derived.Test.YtcljmnbjejcdaaaAppF
namespace Go.Proofs.Ytcljmnbjejcdaaa

def e12 : List UInt8 := [1, 2]
def e13 : List UInt8 := [1, 3]
theorem tag_ne {k : Nat} (hk : U64 k) : tagN k e13 ≠ tagN k e12 := fun h => by
  have := tagN_bytes (k := k) hk (a := []) (x := [1, 3]) (y := [1, 2]) (c := []) rfl rfl (by decide) (.inl rfl) (by decide) (by simpa [e12, e13] using h)
  simp at this
def liv (i : Nat) : App := signA staffP (i : Int) e12
theorem liv_val {i : Nat} (h : i < 3) : validB staffP (liv i) e12 = true := by
  unfold validB liv signA
  simp [inP, staffP]; omega
theorem sec_small : ∀ n : Nat, (staffP.getD n per0).secret < 8
  | 0 => by decide
  | 1 => by decide
  | 2 => by decide
  | (n + 3) => by show (0 : Nat) < 8; omega
theorem sec_u64 (i : Int) : U64 (secN staffP i) := by
  have := sec_small i.toNat
  unfold U64 secN
  omega
theorem liv_other (i : Nat) : validB staffP (liv i) e13 = false := by
  unfold validB liv
  simp only [signA]
  have h := tag_ne (sec_u64 (i : Int))
  generalize tagN (secN staffP (i : Int)) e13 = x at *
  generalize tagN (secN staffP (i : Int)) e12 = y at *
  rw [beq_eq_false_iff_ne.2 h, Bool.and_false]
theorem liv_person (i : Nat) : (liv i).person = (i : Int) := rfl

/-- the signers among approvals that all hold -/
theorem sig_good {l : List Nat} (h : ∀ i ∈ l, i < 3) : signersN staffP (l.map liv) e12 = (List.range 3).filter (fun p => l.contains p) := by
  unfold signersN
  refine List.filter_congr fun p _ => ?_
  rw [Bool.eq_iff_iff, List.any_eq_true, List.contains_iff_mem]
  constructor
  · rintro ⟨a, ha, h1⟩
    obtain ⟨i, hi, rfl⟩ := List.mem_map.1 ha
    rw [Bool.and_eq_true, beq_iff_eq, liv_person] at h1
    have : i = p := by omega
    subst this; exact hi
  · intro hp
    exact ⟨liv p, List.mem_map.2 ⟨p, hp, rfl⟩, by rw [liv_person, liv_val (h p hp)]; simp⟩
theorem sig_bad (l : List Nat) : signersN staffP (l.map liv) e13 = [] := by
  unfold signersN
  rw [List.filter_eq_nil_iff]
  intro p _ h
  rw [List.any_eq_true] at h
  obtain ⟨a, ha, h1⟩ := h
  obtain ⟨i, hi, rfl⟩ := List.mem_map.1 ha
  rw [liv_other] at h1
  simp at h1
theorem chk_good {l : List Nat} (h : ∀ i ∈ l, i < 3) (hl : l.length ≤ 16) : checkA staffP (l.map liv) e12 = if twoB staffP ((List.range 3).filter (fun p => l.contains p)) = true then 0 else 33 := by
  unfold checkA
  rw [sig_good h, if_neg (by rw [List.length_map]; omega)]
theorem chk_two : checkA staffP [liv 0, liv 1] e12 = 0 := by
  rw [show [liv 0, liv 1] = [0, 1].map liv from rfl, chk_good (by decide) (by decide), if_pos (by decide)]
theorem chk_mixed : checkA staffP [liv 0, liv 2] e12 = 33 := by
  rw [show [liv 0, liv 2] = [0, 2].map liv from rfl, chk_good (by decide) (by decide), if_neg (by decide)]
theorem chk_twice : checkA staffP [liv 0, liv 0] e12 = 33 := by
  rw [show [liv 0, liv 0] = [0, 0].map liv from rfl, chk_good (by decide) (by decide), if_neg (by decide)]
theorem chk_all : checkA staffP [liv 2, liv 1, liv 0] e12 = 0 := by
  rw [show [liv 2, liv 1, liv 0] = [2, 1, 0].map liv from rfl, chk_good (by decide) (by decide), if_pos (by decide)]
theorem chk_other : checkA staffP [liv 0, liv 1] e13 = 33 := by
  unfold checkA
  rw [show [liv 0, liv 1] = [0, 1].map liv from rfl, sig_bad, if_neg (by simp), if_neg (by decide)]
theorem chk_many {ps : List Per} {l : List App} {b : List UInt8} (h : l.length = 17) : checkA ps l b = 2 := by
  unfold checkA; rw [if_pos (by omega)]
theorem sig_all : signersI staffP [liv 2, liv 1, liv 0] e12 = [0, 1, 2] := by
  unfold signersI
  rw [show [liv 2, liv 1, liv 0] = [2, 1, 0].map liv from rfl, sig_good (by decide)]
  decide
theorem sig_other : signersI staffP [liv 0, liv 1] e13 = [] := by
  unfold signersI
  rw [show [liv 0, liv 1] = [0, 1].map liv from rfl, sig_bad]
  rfl
end Go.Proofs.Ytcljmnbjejcdaaa
