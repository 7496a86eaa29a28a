/-
  Tables, plain: a window is put into its place.
-/
import Derived.Test.YtijocgijnbcefaaOrbT
namespace Go.Proofs.Ytijocgijnbcefaa

def Ord (ts : List Win) : Prop := ts.Pairwise (fun x y => ¬ y.Before x)
def Far (ts : List Win) : Prop := ts.Pairwise (fun x y => ¬ y.meet x = true)

theorem not_before_trans {x y z : Win} (h1 : ¬ y.Before x) (h2 : ¬ z.Before y) : ¬ z.Before x := by
  unfold Win.Before at *; omega

theorem ord_iff (ts : List Win) : sortedB ts = true ↔ Ord ts := by
  rw [sortedB_iff]
  constructor
  · intro h
    unfold Ord
    rw [List.pairwise_iff_getElem]
    have main : ∀ (d i : Nat) (t u : Win), ts[i]? = some t → ts[i + d]? = some u → ¬ u.Before t := by
      intro d
      induction d with
      | zero => intro i t u ht hu; rw [Nat.add_zero, ht] at hu; cases hu; unfold Win.Before; omega
      | succ d ih =>
        intro i t u ht hu
        have hlt : i + d < ts.length := by have := (List.getElem?_eq_some_iff.1 hu).1; omega
        have hm : ts[i + d]? = some ts[i + d] := List.getElem?_eq_getElem hlt
        exact not_before_trans (ih i t _ ht hm) (h (i + d) _ u hm hu)
    intro i j hi hj hij
    exact main (j - i) i _ _ (List.getElem?_eq_getElem hi) (by rw [show i + (j - i) = j by omega]; exact List.getElem?_eq_getElem hj)
  · intro h j t u ht hu
    unfold Ord at h
    rw [List.pairwise_iff_getElem] at h
    obtain ⟨h1, rfl⟩ := List.getElem?_eq_some_iff.1 ht
    obtain ⟨h2, rfl⟩ := List.getElem?_eq_some_iff.1 hu
    exact h j (j + 1) h1 h2 (by omega)

theorem far_iff (ts : List Win) : NoMeet ts ↔ Far ts := by
  unfold Far NoMeet
  rw [List.pairwise_iff_getElem]
  constructor
  · intro h i j hi hj hij
    exact h j i _ _ hij (List.getElem?_eq_getElem hj) (List.getElem?_eq_getElem hi)
  · intro h i k t u hki ht hu
    obtain ⟨h1, rfl⟩ := List.getElem?_eq_some_iff.1 ht
    obtain ⟨h2, rfl⟩ := List.getElem?_eq_some_iff.1 hu
    exact h k i h2 h1 hki

theorem meet_symm {t u : Win} (h : t.meet u = true) : u.meet t = true := by
  rw [meet_iff] at *
  exact ⟨key_symm h.1, h.2.2, h.2.1⟩

/-- a table -/
structure Good (ts : List Win) : Prop where
  formed : ∀ t ∈ ts, t.Formed
  ord : Ord ts
  far : Far ts

theorem Good.nil : Good [] := ⟨fun t h => absurd h (by simp), List.Pairwise.nil, List.Pairwise.nil⟩
theorem Good.check {ts : List Win} (h : Good ts) (hl : ts.length ≤ 200) : checkO ts = 0 := check_ok hl h.formed ((ord_iff ts).2 h.ord) ((far_iff ts).2 h.far)

/-- a is w's place -/
structure Place (ts : List Win) (w : Win) (a : Nat) : Prop where
  le : a ≤ ts.length
  prev : ∀ (j : Nat) (t : Win), a = j + 1 → ts[j]? = some t → t.Before w
  next : ∀ (j : Nat) (t : Win), a ≤ j → ts[j]? = some t → ¬ t.Before w

theorem Good.ins {ts : List Win} {w : Win} {a : Nat} (h : Good ts) (hw : w.Formed) (ha : Place ts w a) (hm : ∀ t ∈ ts, ¬ t.meet w = true) : Good (ts.take a ++ w :: ts.drop a) := by
  have hsplit : ts.take a ++ ts.drop a = ts := List.take_append_drop a ts
  have ho := h.ord
  have hf := h.far
  rw [← hsplit] at ho hf
  obtain ⟨o1, o2, o3⟩ := List.pairwise_append.1 ho
  obtain ⟨f1, f2, f3⟩ := List.pairwise_append.1 hf
  have hmt : ∀ x ∈ ts.take a, x ∈ ts := fun x hx => List.mem_of_mem_take hx
  have hmd : ∀ x ∈ ts.drop a, x ∈ ts := fun x hx => List.mem_of_mem_drop hx
  refine ⟨fun t ht => ?_, ?_, ?_⟩
  · rcases List.mem_append.1 ht with ht | ht
    · exact h.formed t (hmt t ht)
    · rcases List.mem_cons.1 ht with rfl | ht
      · exact hw
      · exact h.formed t (hmd t ht)
  · refine List.pairwise_append.2 ⟨o1, List.pairwise_cons.2 ⟨fun y hy => ?_, o2⟩, fun x hx y hy => ?_⟩
    · obtain ⟨j, hj, rfl⟩ := List.mem_iff_getElem.1 hy
      have hj' : j < ts.length - a := by simpa using hj
      rw [List.getElem_drop]
      exact ha.next (a + j) _ (by omega) (List.getElem?_eq_getElem (by omega))
    · rcases List.mem_cons.1 hy with rfl | hy
      · obtain ⟨j, hj, rfl⟩ := List.mem_iff_getElem.1 hx
        have hj' : j < a ∧ j < ts.length := by have h9 := hj; simp at h9; omega
        have hb := ha.prev (a - 1) (ts[a - 1]'(by have := ha.le; omega)) (by omega) (List.getElem?_eq_getElem _)
        have hle : ¬ (ts[a - 1]'(by have := ha.le; omega)).Before (ts[j]'hj'.2) := by
          have hp := h.ord
          unfold Ord at hp
          rw [List.pairwise_iff_getElem] at hp
          rcases Nat.lt_or_ge j (a - 1) with h1 | h1
          · exact hp j (a - 1) hj'.2 (by have := ha.le; omega) h1
          · have : j = a - 1 := by omega
            subst this
            unfold Win.Before; omega
        rw [List.getElem_take]
        unfold Win.Before at *
        omega
      · exact o3 x hx y hy
  · refine List.pairwise_append.2 ⟨f1, List.pairwise_cons.2 ⟨fun y hy => hm y (hmd y hy), f2⟩, fun x hx y hy => ?_⟩
    rcases List.mem_cons.1 hy with rfl | hy
    · exact fun hc => hm x (hmt x hx) (meet_symm hc)
    · exact f3 x hx y hy

end Go.Proofs.Ytijocgijnbcefaa
