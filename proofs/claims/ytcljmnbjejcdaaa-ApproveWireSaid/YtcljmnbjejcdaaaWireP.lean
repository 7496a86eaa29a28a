/-
  Plain: the encoding of chapter 2 (numbers in groups of seven bits). No program in sight.
-/
import Derived.Test.YtcljmnbjejcdaaaHashP
namespace Go.Proofs.Ytcljmnbjejcdaaa

def uintF : Nat → Nat → List UInt8
  | 0, _ => []
  | k + 1, n => if n < 128 then [UInt8.ofNat n] else UInt8.ofNat (n % 128 + 128) :: uintF k (n / 128)
/-- the encoding of an unsigned number -/
def uintB (n : Nat) : List UInt8 := uintF 10 n
def zig (n : Int) : Nat := if 0 ≤ n then (2 * n).toNat else (2 * (-(n + 1)) + 1).toNat
def zag (u : Nat) : Int := if u % 2 = 0 then ((u / 2 : Nat) : Int) else -((u / 2 : Nat) : Int) - 1
def intB (n : Int) : List UInt8 := uintB (zig n)
def intsB (l : List Int) : List UInt8 := uintB l.length ++ l.flatMap intB
def bytesB (b : List UInt8) : List UInt8 := uintB b.length ++ b

theorem uintF_small {n : Nat} (h : n < 128) (k : Nat) : uintF (k + 1) n = [UInt8.ofNat n] := by rw [uintF, if_pos h]
theorem uintF_big {n : Nat} (h : 128 ≤ n) (k : Nat) : uintF (k + 1) n = UInt8.ofNat (n % 128 + 128) :: uintF k (n / 128) := by rw [uintF, if_neg (by omega)]
theorem uintF_len : ∀ (k n : Nat), (uintF k n).length ≤ k
  | 0, _ => Nat.le_refl _
  | k + 1, n => by
    rw [uintF]
    split
    · simp
    · have := uintF_len k (n / 128); simp; omega
theorem uintB_len (n : Nat) : (uintB n).length ≤ 10 := uintF_len 10 n
theorem uintB_pos (n : Nat) : 1 ≤ (uintB n).length := by
  unfold uintB uintF
  split <;> simp
theorem zig_zag {n : Int} : zag (zig n) = n := by unfold zig zag; split <;> split <;> omega
theorem zag_zig (u : Nat) : zig (zag u) = u := by unfold zig zag; split <;> split <;> omega
theorem zig_lt {n : Int} (h : -9223372036854775808 ≤ n ∧ n ≤ 9223372036854775807) : U64 (zig n) := by unfold zig U64; split <;> omega
theorem zag_bd {u : Nat} (h : U64 u) : -9223372036854775808 ≤ zag u ∧ zag u ≤ 9223372036854775807 := by unfold zag; unfold U64 at h; split <;> omega
theorem zig_inj {a b : Int} (h : zig a = zig b) : a = b := by rw [← zig_zag (n := a), h, zig_zag]

/-! reading -/
inductive Rd where
  | ok (n : Nat) (rest : List UInt8)
  | short
  | form
/-- reads a number: the groups so far, what they come to -/
def readU : Nat → Nat → List UInt8 → Rd
  | _, _, [] => .short
  | k, acc, c :: l => if (k = 9 ∧ c ≠ 1) ∨ (0 < k ∧ c = 0) then .form else if c.toNat < 128 then .ok (acc + c.toNat * 128 ^ k) l else readU (k + 1) (acc + (c.toNat - 128) * 128 ^ k) l

theorem ofNat_toNat {n : Nat} (h : n < 256) : (UInt8.ofNat n).toNat = n := by simp; omega

theorem readF (m : Nat) : ∀ (k acc n : Nat) (l : List UInt8), k + m = 10 → n < 128 ^ m → (0 < k → 0 < n) → acc + n * 128 ^ k < 18446744073709551616 → readU k acc (uintF m n ++ l) = .ok (acc + n * 128 ^ k) l := by
  induction m with
  | zero =>
    intro k acc n l hk hn h0 hb
    have : n = 0 := by simp at hn; omega
    have := h0 (by omega)
    omega
  | succ m ih =>
    intro k acc n l hk hn h0 hb
    rw [uintF]
    by_cases hs : n < 128
    · rw [if_pos hs, List.singleton_append, readU, ofNat_toNat (by omega), if_neg, if_pos hs]
      rintro (⟨h1, h2⟩ | ⟨h1, h2⟩)
      · have hk9 : k = 9 := h1
        subst hk9
        have hn1 : n < 2 := by
          have e : (128 : Nat) ^ 9 = 9223372036854775808 := by decide
          rw [e] at hb
          omega
        have := h0 (by omega)
        have : n = 1 := by omega
        subst this
        exact h2 rfl
      · have := h0 h1
        have h3 : (UInt8.ofNat n).toNat = 0 := by rw [h2]; rfl
        rw [ofNat_toNat (by omega)] at h3
        omega
    · rw [if_neg hs, List.cons_append, readU]
      have ht : (UInt8.ofNat (n % 128 + 128)).toNat = n % 128 + 128 := ofNat_toNat (by omega)
      have hk9 : k ≠ 9 := by
        rintro rfl
        obtain rfl : m = 0 := by omega
        simp at hn
        omega
      rw [if_neg, ht, if_neg (by omega), show n % 128 + 128 - 128 = n % 128 by omega]
      · have hp : (128 : Nat) ^ (k + 1) = 128 ^ k * 128 := Nat.pow_succ ..
        have e : acc + n % 128 * 128 ^ k + n / 128 * 128 ^ (k + 1) = acc + n * 128 ^ k := by
          have h1 := Nat.mod_add_div n 128
          calc acc + n % 128 * 128 ^ k + n / 128 * 128 ^ (k + 1) = acc + (n % 128 * 128 ^ k + n / 128 * 128 ^ (k + 1)) := by omega
            _ = acc + (n % 128 + 128 * (n / 128)) * 128 ^ k := by rw [hp, Nat.add_mul]; congr 2; rw [Nat.mul_comm (128 ^ k) 128, ← Nat.mul_assoc, Nat.mul_comm (n / 128) 128]
            _ = acc + n * 128 ^ k := by rw [h1]
        rw [← e]
        refine ih (k + 1) _ (n / 128) l (by omega) ?_ (fun _ => by omega) (by rw [e]; exact hb)
        rw [Nat.pow_succ] at hn
        omega
      · rintro (⟨h1, _⟩ | ⟨_, h2⟩)
        · exact hk9 h1
        · have h3 : (UInt8.ofNat (n % 128 + 128)).toNat = 0 := by rw [h2]; rfl
          rw [ht] at h3
          omega

theorem readU_uint {n : Nat} (h : U64 n) (l : List UInt8) : readU 0 0 (uintB n ++ l) = .ok n l := by
  have e : (128 : Nat) ^ 10 = 1180591620717411303424 := by decide
  have := readF 10 0 0 n l rfl (by rw [e]; unfold U64 at h; omega) (by omega) (by unfold U64 at h; simpa using h)
  simpa [uintB] using this

theorem uint8_lt (c : UInt8) : c.toNat < 256 := c.toNat_lt
theorem uint8_one {c : UInt8} (h : c = 1) : c.toNat = 1 := by rw [h]; rfl
theorem uint8_zero {c : UInt8} (h : c.toNat = 0) : c = 0 := UInt8.toNat_inj.1 h
theorem ofNat_self (c : UInt8) : UInt8.ofNat c.toNat = c := by simp
theorem pow9 : (128 : Nat) ^ 9 = 9223372036854775808 := by decide

/-- what is read is the encoding of what it gives -/
theorem readU_back : ∀ (b : List UInt8) (k acc n : Nat) (l : List UInt8), readU k acc b = .ok n l → k ≤ 9 → acc < 128 ^ k →
    ∃ x, n = acc + x * 128 ^ k ∧ (0 < k → 0 < x) ∧ b = uintF (10 - k) x ++ l ∧ U64 n
  | [], _, _, _, _, h, _, _ => by rw [readU] at h; cases h
  | c :: b, k, acc, n, l, h, hk, ha => by
    rw [readU] at h
    by_cases hf : (k = 9 ∧ c ≠ 1) ∨ (0 < k ∧ c = 0)
    · rw [if_pos hf] at h; cases h
    · rw [if_neg hf] at h
      obtain ⟨m, hm⟩ : ∃ m, 10 - k = m + 1 := ⟨9 - k, by omega⟩
      have hc0 : 0 < k → 0 < c.toNat := fun h0 => by
        rcases Nat.eq_zero_or_pos c.toNat with h1 | h1
        · exact absurd (.inr ⟨h0, uint8_zero h1⟩) hf
        · exact h1
      have hle : (128 : Nat) ^ k ≤ 128 ^ 9 := Nat.pow_le_pow_right (by omega) hk
      by_cases hc : c.toNat < 128
      · rw [if_pos hc] at h
        injection h with h1 h2
        subst h1 h2
        refine ⟨c.toNat, rfl, hc0, ?_, ?_⟩
        · rw [hm, uintF_small hc, ofNat_self]; rfl
        · unfold U64
          rcases Nat.lt_or_ge k 9 with h9 | h9
          · have h1 : (128 : Nat) ^ k * 128 ≤ 128 ^ 9 := by rw [← Nat.pow_succ]; exact Nat.pow_le_pow_right (by omega) h9
            have h2 : c.toNat * 128 ^ k ≤ 127 * 128 ^ k := Nat.mul_le_mul_right _ (by omega)
            rw [pow9] at h1
            omega
          · obtain rfl : k = 9 := by omega
            have h1 : c = 1 := Classical.byContradiction fun e => hf (.inl ⟨rfl, e⟩)
            rw [uint8_one h1]
            rw [pow9] at ha ⊢
            omega
      · rw [if_neg hc] at h
        have h9 : k ≠ 9 := by
          rintro rfl
          have h1 : c = 1 := Classical.byContradiction fun e => hf (.inl ⟨rfl, e⟩)
          rw [uint8_one h1] at hc
          omega
        have hc2 := uint8_lt c
        have hp : (128 : Nat) ^ (k + 1) = 128 ^ k * 128 := Nat.pow_succ ..
        obtain ⟨x, e1, e2, e3, e4⟩ := readU_back b (k + 1) (acc + (c.toNat - 128) * 128 ^ k) n l h (by omega) (by
          have : (c.toNat - 128) * 128 ^ k ≤ 127 * 128 ^ k := Nat.mul_le_mul_right _ (by omega)
          rw [hp]; omega)
        have hx := e2 (by omega)
        refine ⟨c.toNat - 128 + 128 * x, ?_, fun _ => by omega, ?_, e4⟩
        · rw [e1, hp, Nat.add_mul, Nat.add_assoc]
          congr 2
          rw [Nat.mul_comm (128 ^ k) 128, ← Nat.mul_assoc, Nat.mul_comm x 128]
        · rw [hm, uintF_big (by omega), show (c.toNat - 128 + 128 * x) % 128 + 128 = c.toNat by omega, show (c.toNat - 128 + 128 * x) / 128 = x by omega, ofNat_self, e3, show 10 - (k + 1) = m by omega]
          rfl
theorem readU_uintB {b l : List UInt8} {n : Nat} (h : readU 0 0 b = .ok n l) : b = uintB n ++ l ∧ U64 n := by
  obtain ⟨x, e1, _, e3, e4⟩ := readU_back b 0 0 n l h (by omega) (by simp)
  simp at e1
  subst e1
  exact ⟨e3, e4⟩

/-- a proper part of a number's bytes ends too early -/
theorem readF_cut (m : Nat) : ∀ (k acc n : Nat) (b c : List UInt8), k + m = 10 → n < 128 ^ m → (0 < k → 0 < n) → acc + n * 128 ^ k < 18446744073709551616 → uintF m n = b ++ c → c ≠ [] → readU k acc b = .short := by
  induction m with
  | zero =>
    intro k acc n b c hk hn h0 hb he hc
    simp only [uintF] at he
    have := congrArg List.length he
    simp only [List.length_nil, List.length_append] at this
    exact absurd (List.length_eq_zero_iff.1 (show c.length = 0 by omega)) hc
  | succ m ih =>
    intro k acc n b c hk hn h0 hb he hc
    cases b with
    | nil => rw [readU]
    | cons d b =>
      rw [uintF] at he
      by_cases hs : n < 128
      · rw [if_pos hs] at he
        have := congrArg List.length he
        have h1 := List.length_pos_iff.2 hc
        simp only [List.length_cons, List.length_nil, List.length_append] at this
        omega
      · rw [if_neg hs] at he
        injection he with hd he
        have ht : d.toNat = n % 128 + 128 := by rw [← hd]; exact ofNat_toNat (by omega)
        have hk9 : k ≠ 9 := by
          rintro rfl
          obtain rfl : m = 0 := by omega
          simp at hn
          omega
        rw [readU, if_neg, if_neg (by omega), ht, show n % 128 + 128 - 128 = n % 128 by omega]
        · have hp : (128 : Nat) ^ (k + 1) = 128 ^ k * 128 := Nat.pow_succ ..
          have e : acc + n % 128 * 128 ^ k + n / 128 * 128 ^ (k + 1) = acc + n * 128 ^ k := by
            have h1 := Nat.mod_add_div n 128
            calc acc + n % 128 * 128 ^ k + n / 128 * 128 ^ (k + 1) = acc + (n % 128 * 128 ^ k + n / 128 * 128 ^ (k + 1)) := by omega
              _ = acc + (n % 128 + 128 * (n / 128)) * 128 ^ k := by rw [hp, Nat.add_mul]; congr 2; rw [Nat.mul_comm (128 ^ k) 128, ← Nat.mul_assoc, Nat.mul_comm (n / 128) 128]
              _ = acc + n * 128 ^ k := by rw [h1]
          refine ih (k + 1) _ (n / 128) b c (by omega) ?_ (fun _ => by omega) (by rw [e]; exact hb) he hc
          rw [Nat.pow_succ] at hn
          omega
        · rintro (⟨h1, _⟩ | ⟨_, h2⟩)
          · exact hk9 h1
          · rw [h2] at ht
            have : (0 : UInt8).toNat = 0 := rfl
            omega
theorem readU_cut {n : Nat} (h : U64 n) {b c : List UInt8} (he : uintB n = b ++ c) (hc : c ≠ []) : readU 0 0 b = .short := by
  have e : (128 : Nat) ^ 10 = 1180591620717411303424 := by decide
  exact readF_cut 10 0 0 n b c rfl (by rw [e]; unfold U64 at h; omega) (by omega) (by unfold U64 at h; simpa using h) he hc

end Go.Proofs.Ytcljmnbjejcdaaa
