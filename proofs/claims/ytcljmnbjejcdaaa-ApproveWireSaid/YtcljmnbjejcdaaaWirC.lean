/-
  Plain: ApproveWire.
-/
import Derived.Test.YtcljmnbjejcdaaaWireP
import Derived.Test.YtcljmnbjejcdaaaBndP
namespace Go.Proofs.Ytcljmnbjejcdaaa

theorem ints_set {l : List Int} {k : Nat} (v : Int) (hk : k < l.length) : intsB (l.set k v) = (uintB l.length ++ (l.take k).flatMap intB) ++ (intB v ++ (l.drop (k + 1)).flatMap intB) := by
  unfold intsB
  rw [List.length_set, List.set_eq_take_append_cons_drop, if_pos hk, List.flatMap_append, List.flatMap_cons, List.append_assoc]
theorem intB_one {v : Int} (h1 : -64 ≤ v) (h2 : v ≤ 63) : intB v = [UInt8.ofNat (zig v)] ∧ zig v < 128 := by
  have hz : zig v < 128 := by unfold zig; split <;> omega
  exact ⟨uintF_small hz 9, hz⟩
theorem wire_ne {key : Nat} (hkey : U64 key) {l : List Int} {k : Nat} {v1 v2 : Int} (hk : k < l.length) (a1 : -64 ≤ v1) (a2 : v1 ≤ 63) (b1 : -64 ≤ v2) (b2 : v2 ≤ 63) (hne : v1 ≠ v2) :
    tagN key (intsB (l.set k v2)) ≠ tagN key (intsB (l.set k v1)) := by
  intro ht
  rw [ints_set v1 hk, ints_set v2 hk] at ht
  obtain ⟨e1, z1⟩ := intB_one a1 a2
  obtain ⟨e2, z2⟩ := intB_one b1 b2
  rw [e1, e2] at ht
  generalize uintB l.length ++ (l.take k).flatMap intB = P at ht
  generalize (l.drop (k + 1)).flatMap intB = S at ht
  have hw := tag_window hkey (l := P ++ ([UInt8.ofNat (zig v2)] ++ S)) (l' := P ++ ([UInt8.ofNat (zig v1)] ++ S)) (s := P.length / 8 * 8) (by omega) (by simp; omega) (by simp) (fun i hi => by
    rcases Nat.lt_trichotomy i P.length with h | h | h
    · rw [List.getElem?_append_left h, List.getElem?_append_left h]
    · omega
    · obtain ⟨j, hj⟩ : ∃ j, i - P.length = j + 1 := ⟨i - P.length - 1, by omega⟩
      have g : ∀ c : UInt8, (P ++ ([c] ++ S))[i]? = S[j]? := fun c => by
        rw [List.getElem?_append_right (by omega), hj]
        rfl
      rw [g, g]) ht
  have h1 := List.append_cancel_left hw
  simp only [List.singleton_append, List.cons.injEq, and_true] at h1
  have h2 := congrArg UInt8.toNat h1
  rw [ofNat_toNat (by omega), ofNat_toNat (by omega)] at h2
  exact hne (zig_inj h2).symm

def wps (s0 s1 : Nat) : List Per := [⟨2, s0⟩, ⟨2, s1⟩]
theorem wire_ok (s0 s1 : Nat) (x : List UInt8) : checkA (wps s0 s1) [signA (wps s0 s1) 0 x, signA (wps s0 s1) 1 x] x = 0 := by
  have hm := signers_signed (ps := wps s0 s1) (b := x) (who := [0, 1]) (by intro i hi; simp [wps] at hi ⊢; omega)
  unfold checkA
  rw [if_neg (by simp), if_pos]
  refine (two_iff (signers_incr _ _ _)).2 ⟨0, (hm 0).2 (by simp), 1, (hm 1).2 (by simp), by omega, rfl⟩
theorem wire_one (s0 s1 : Nat) (x : List UInt8) : checkA (wps s0 s1) [signA (wps s0 s1) 0 x] x = 33 := by
  have hm := signers_signed (ps := wps s0 s1) (b := x) (who := [0]) (by intro i hi; simp [wps] at hi ⊢; omega)
  unfold checkA
  rw [if_neg (by simp), if_neg]
  intro h
  obtain ⟨p, hp, q, hq, hne, _⟩ := (two_iff (signers_incr _ _ _)).1 h
  have h1 := (hm p).1 hp
  have h2 := (hm q).1 hq
  simp at h1 h2
  omega
theorem valid_of {ps : List Per} {k : Int} {s : Nat} {x y : List UInt8} (h : inP ps k = true) (hs : secN ps k = s) : validB ps (signA ps k x) y = (tagN s y == tagN s x) := by
  unfold validB signA
  simp only [h, hs, Bool.true_and]
theorem wire_bad {s0 s1 : Nat} {x y : List UInt8} (h0 : tagN s0 y ≠ tagN s0 x) (h1 : tagN s1 y ≠ tagN s1 x) : checkA (wps s0 s1) [signA (wps s0 s1) 0 x, signA (wps s0 s1) 1 x] y = 33 := by
  unfold checkA
  rw [if_neg (by simp), if_neg]
  intro h
  obtain ⟨p, hp, _⟩ := (two_iff (signers_incr _ _ _)).1 h
  obtain ⟨_, a, ha, _, hv⟩ := mem_signers.1 hp
  have v0 := valid_of (ps := wps s0 s1) (k := 0) (s := s0) (x := x) (y := y) rfl rfl
  have v1 := valid_of (ps := wps s0 s1) (k := 1) (s := s1) (x := x) (y := y) rfl rfl
  have ha' : a = signA (wps s0 s1) 0 x ∨ a = signA (wps s0 s1) 1 x := by simpa using ha
  rcases ha' with rfl | rfl
  · rw [v0, beq_iff_eq] at hv; exact h0 hv
  · rw [v1, beq_iff_eq] at hv; exact h1 hv
end Go.Proofs.Ytcljmnbjejcdaaa
