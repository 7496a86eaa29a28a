/-
  Plain: the hash of chapter 1, on natural numbers below 2^64. No program in sight.
-/
import Derived.KernelRfl
namespace Go.Proofs.Ytcljmnbjejcdaaa

/-- a number of 64 bits without a sign -/
def U64 (n : Nat) : Prop := n < 18446744073709551616
def mulF (x : Nat) : Nat := (x * 15485907386658061715) % 18446744073709551616
def fold32 (m : Nat) : Nat := m ^^^ (m / 4294967296)
def mixN (s w : Nat) : Nat := fold32 (mulF (s ^^^ w))

theorem U64.xor {a b : Nat} (ha : U64 a) (hb : U64 b) : U64 (a ^^^ b) := Nat.xor_lt_two_pow (n := 64) ha hb
theorem mulF_lt (x : Nat) : U64 (mulF x) := Nat.mod_lt _ (by omega)
theorem div_lt {m : Nat} (h : U64 m) : U64 (m / 4294967296) := by unfold U64 at *; omega
theorem mixN_lt (s w : Nat) : U64 (mixN s w) := (mulF_lt _).xor (div_lt (mulF_lt _))

theorem fold32_twice {m : Nat} (h : U64 m) : fold32 (fold32 m) = m := by
  unfold fold32
  have e : ∀ x : Nat, x / 4294967296 = x >>> 32 := fun x => by rw [Nat.shiftRight_eq_div_pow]
  simp only [e]
  rw [Nat.shiftRight_xor_distrib, ← Nat.shiftRight_add]
  have z : m >>> (32 + 32) = 0 := by
    rw [Nat.shiftRight_eq_div_pow]
    unfold U64 at h
    exact Nat.div_eq_of_lt (by omega)
  rw [z, Nat.xor_zero, Nat.xor_assoc, Nat.xor_self, Nat.xor_zero]
theorem fold32_inj {m n : Nat} (hm : U64 m) (hn : U64 n) (h : fold32 m = fold32 n) : m = n := by
  rw [← fold32_twice hm, h, fold32_twice hn]

theorem mulF_back {x : Nat} (h : U64 x) : (mulF x * 14982988110149298331) % 18446744073709551616 = x := by
  unfold mulF
  rw [Nat.mul_mod, Nat.mod_mod, ← Nat.mul_mod, Nat.mul_assoc]
  unfold U64 at h
  omega
theorem mulF_inj {x y : Nat} (hx : U64 x) (hy : U64 y) (h : mulF x = mulF y) : x = y := by
  rw [← mulF_back hx, h, mulF_back hy]

theorem mixN_inj {s w s' w' : Nat} (hs : U64 s) (hw : U64 w) (hs' : U64 s') (hw' : U64 w') (h : mixN s w = mixN s' w') : s ^^^ w = s' ^^^ w' :=
  mulF_inj (hs.xor hw) (hs'.xor hw') (fold32_inj (mulF_lt _) (mulF_lt _) h)
theorem xor_left_cancel {a b c : Nat} (h : a ^^^ b = a ^^^ c) : b = c := by
  have : a ^^^ (a ^^^ b) = a ^^^ (a ^^^ c) := by rw [h]
  rwa [← Nat.xor_assoc, ← Nat.xor_assoc, Nat.xor_self, Nat.zero_xor, Nat.zero_xor] at this
theorem mixN_w {s w w' : Nat} (hs : U64 s) (hw : U64 w) (hw' : U64 w') (h : mixN s w = mixN s w') : w = w' :=
  xor_left_cancel (mixN_inj hs hw hs hw' h)
theorem mixN_s {s s' w : Nat} (hs : U64 s) (hs' : U64 s') (hw : U64 w) (h : mixN s w = mixN s' w) : s = s' := by
  have := mixN_inj hs hw hs' hw h
  rw [Nat.xor_comm s, Nat.xor_comm s'] at this
  exact xor_left_cancel this

/-! lists of words -/
def mixL (s : Nat) (l : List Nat) : Nat := l.foldl mixN s
theorem mixL_cons (s x : Nat) (l : List Nat) : mixL s (x :: l) = mixL (mixN s x) l := by unfold mixL; rw [List.foldl_cons]
theorem mixL_lt {s : Nat} (hs : U64 s) (l : List Nat) : U64 (mixL s l) := by
  induction l generalizing s with
  | nil => exact hs
  | cons x l ih => rw [mixL_cons]; exact ih (mixN_lt _ _)
theorem mixL_snoc (s : Nat) (l : List Nat) (x : Nat) : mixL s (l ++ [x]) = mixN (mixL s l) x := by unfold mixL; rw [List.foldl_append, List.foldl_cons, List.foldl_nil]
theorem mixL_append (s : Nat) (l m : List Nat) : mixL s (l ++ m) = mixL (mixL s l) m := by unfold mixL; rw [List.foldl_append]
theorem mixL_s {l : List Nat} (hl : ∀ x ∈ l, U64 x) : ∀ {s s' : Nat}, U64 s → U64 s' → mixL s l = mixL s' l → s = s' := by
  induction l with
  | nil => exact fun _ _ h => h
  | cons x l ih =>
    intro s s' hs hs' h
    rw [mixL_cons, mixL_cons] at h
    exact mixN_s hs hs' (hl x (by simp)) (ih (fun y hy => hl y (by simp [hy])) (mixN_lt _ _) (mixN_lt _ _) h)
theorem mixL_one {s x y : Nat} {a b : List Nat} (hs : U64 s) (hx : U64 x) (hy : U64 y) (hb : ∀ z ∈ b, U64 z) (h : mixL s (a ++ x :: b) = mixL s (a ++ y :: b)) : x = y := by
  rw [mixL_append, mixL_append, mixL_cons, mixL_cons] at h
  exact mixN_w (mixL_lt hs a) hx hy (mixL_s hb (mixN_lt _ _) (mixN_lt _ _) h)

/-! bytes, words -/
def wordOf (b : List UInt8) : Nat := b.foldr (fun c n => c.toNat + 256 * n) 0
theorem wordOf_lt (b : List UInt8) : wordOf b < 256 ^ b.length := by
  induction b with
  | nil => simp [wordOf]
  | cons c b ih =>
    show c.toNat + 256 * wordOf b < 256 ^ (b.length + 1)
    have := c.toNat_lt
    rw [Nat.pow_succ]
    omega
theorem wordOf_snoc (b : List UInt8) (c : UInt8) : wordOf (b ++ [c]) = wordOf b + c.toNat * 256 ^ b.length := by
  induction b with
  | nil => simp [wordOf]
  | cons d b ih =>
    show d.toNat + 256 * wordOf (b ++ [c]) = d.toNat + 256 * wordOf b + c.toNat * 256 ^ (b.length + 1)
    rw [ih, Nat.pow_succ, Nat.mul_add, Nat.add_assoc]
    congr 2
    rw [← Nat.mul_assoc, Nat.mul_comm 256, Nat.mul_assoc, Nat.mul_comm 256]
theorem wordOf_inj : ∀ {a b : List UInt8}, a.length = b.length → wordOf a = wordOf b → a = b
  | [], [], _, _ => rfl
  | x :: a, y :: b, hl, h => by
    have h' : x.toNat + 256 * wordOf a = y.toNat + 256 * wordOf b := h
    have hx := x.toNat_lt
    have hy := y.toNat_lt
    rw [wordOf_inj (by simpa using hl) (show wordOf a = wordOf b by omega), UInt8.toNat_inj.1 (show x.toNat = y.toNat by omega)]

def wordsN (b : List UInt8) : List Nat := if _h : b = [] then [] else wordOf (b.take 8) :: wordsN (b.drop 8)
termination_by b.length
decreasing_by
  have : 0 < b.length := List.length_pos_iff.2 _h
  simp; omega
theorem wordsN_nil : wordsN [] = [] := by rw [wordsN]; simp
theorem wordsN_cons {b : List UInt8} (h : b ≠ []) : wordsN b = wordOf (b.take 8) :: wordsN (b.drop 8) := by rw [wordsN, dif_neg h]
theorem wordOf8 (b : List UInt8) : U64 (wordOf (b.take 8)) := by
  have h := wordOf_lt (b.take 8)
  have h2 : 256 ^ (b.take 8).length ≤ 256 ^ 8 := Nat.pow_le_pow_right (by omega) (List.length_take_le _ _)
  unfold U64
  omega
theorem wordsN_lt (b : List UInt8) : ∀ x ∈ wordsN b, U64 x := by
  induction hn : b.length using Nat.strongRecOn generalizing b with
  | _ n ih =>
    intro x hx
    by_cases hb : b = []
    · subst hb; rw [wordsN_nil] at hx; simp at hx
    · rw [wordsN_cons hb] at hx
      rcases List.mem_cons.1 hx with rfl | hx
      · exact wordOf8 b
      · have hp := List.length_pos_iff.2 hb
        exact ih _ (by subst hn; simp; omega) (b.drop 8) rfl x hx
theorem wordsN_len (b : List UInt8) : (wordsN b).length = (b.length + 7) / 8 := by
  induction hn : b.length using Nat.strongRecOn generalizing b with
  | _ n ih =>
    by_cases hb : b = []
    · subst hb; rw [wordsN_nil]; subst hn; rfl
    · have hp := List.length_pos_iff.2 hb
      rw [wordsN_cons hb, List.length_cons, ih (b.drop 8).length (by subst hn; simp; omega) (b.drop 8) rfl, List.length_drop]
      omega
/-- what stands before and behind a group of eight -/
theorem wordsN_append {a : List UInt8} (ha : a.length % 8 = 0) (b : List UInt8) : wordsN (a ++ b) = wordsN a ++ wordsN b := by
  induction hn : a.length using Nat.strongRecOn generalizing a with
  | _ n ih =>
    by_cases h0 : a = []
    · subst h0; rw [wordsN_nil]; rfl
    · have hp := List.length_pos_iff.2 h0
      have h8 : 8 ≤ a.length := by omega
      rw [wordsN_cons h0, wordsN_cons (show a ++ b ≠ [] by simp [h0]), List.take_append_of_le_length h8, List.drop_append_of_le_length h8, ih (a.drop 8).length (by subst hn; simp; omega) (by simp; omega) rfl]
      rfl

/-! numbers with a sign -/
def sgn (n : Nat) : Int := if n < 9223372036854775808 then n else (n : Int) - 18446744073709551616
def uns (n : Int) : Nat := (n % 18446744073709551616).toNat
theorem uns_lt (n : Int) : U64 (uns n) := by unfold U64 uns; omega
theorem uns_sgn {n : Nat} (h : U64 n) : uns (sgn n) = n := by unfold uns sgn; unfold U64 at h; split <;> omega
theorem uns_inj {a b : Int} (ha : -9223372036854775808 ≤ a ∧ a ≤ 9223372036854775807) (hb : -9223372036854775808 ≤ b ∧ b ≤ 9223372036854775807) (h : uns a = uns b) : a = b := by unfold uns at h; omega
theorem sgn_bd {n : Nat} (h : U64 n) : -9223372036854775808 ≤ sgn n ∧ sgn n ≤ 9223372036854775807 := by unfold sgn; unfold U64 at h; split <;> omega

def sumN (label : List UInt8) (l : List Int) : Nat := mixL (mixN (mixN (mixL 0 (wordsN label)) label.length) l.length) (l.map uns)
def withN (l : List Int) (b : List UInt8) : List Int := l ++ (wordsN b).map sgn ++ [(b.length : Int)]
def tagLabel : List UInt8 := [116, 97, 103]
def tagN (key : Nat) (b : List UInt8) : Nat := sumN tagLabel (withN [sgn key] b)

theorem sumN_lt (label : List UInt8) (l : List Int) : U64 (sumN label l) := mixL_lt (mixN_lt _ _) _
theorem tagN_lt (key : Nat) (b : List UInt8) : U64 (tagN key b) := sumN_lt _ _
theorem map_uns (l : List Nat) (h : ∀ x ∈ l, U64 x) : (l.map sgn).map uns = l := by
  rw [List.map_map]
  conv => rhs; rw [← List.map_id l]
  exact List.map_congr_left fun x hx => uns_sgn (h x hx)
theorem tagN_eq (key : Nat) (hk : U64 key) (b : List UInt8) : tagN key b = mixL (mixN (mixN (mixL 0 (wordsN tagLabel)) 3) ((wordsN b).length + 2)) (key :: (wordsN b ++ [uns (b.length : Int)])) := by
  unfold tagN sumN withN
  simp only [List.map_append, List.map_cons, List.map_nil, List.length_append, List.length_cons, List.length_nil, List.length_map]
  rw [map_uns _ (wordsN_lt b), uns_sgn hk, show 0 + 1 + (wordsN b).length + (0 + 1) = (wordsN b).length + 2 by omega]
  rfl

/-- another key, another tag -/
theorem tagN_key {k k' : Nat} (hk : U64 k) (hk' : U64 k') (b : List UInt8) (h : tagN k b = tagN k' b) : k = k' := by
  rw [tagN_eq k hk, tagN_eq k' hk'] at h
  exact mixL_one (a := []) (mixN_lt _ _) hk hk' (fun z hz => by
    rcases List.mem_append.1 hz with hz | hz
    · exact wordsN_lt b z hz
    · simp at hz; subst hz; exact uns_lt _) h

/-- another message within one group of eight, another tag -/
theorem tagN_bytes {k : Nat} (hk : U64 k) {a x y c : List UInt8} (ha : a.length % 8 = 0) (hl : x.length = y.length) (h8 : x.length ≤ 8) (hc : c = [] ∨ x.length = 8) (hx : x ≠ []) (h : tagN k (a ++ (x ++ c)) = tagN k (a ++ (y ++ c))) : x = y := by
  have hy : y ≠ [] := fun e => by subst e; exact hx (List.length_eq_zero_iff.1 hl)
  have one : ∀ z : List UInt8, z ≠ [] → z.length ≤ 8 → (c = [] ∨ z.length = 8) → wordsN (a ++ (z ++ c)) = wordsN a ++ wordOf z :: wordsN c := fun z hz h1 h2 => by
    rw [wordsN_append ha, wordsN_cons (show z ++ c ≠ [] by simp [hz])]
    rcases h2 with rfl | h2
    · rw [List.append_nil, List.take_of_length_le h1, List.drop_of_length_le h1]
    · rw [show (z ++ c).take 8 = z by rw [← h2]; simp, show (z ++ c).drop 8 = c by rw [← h2]; simp]
  have u8 : ∀ z : List UInt8, z.length ≤ 8 → U64 (wordOf z) := fun z hz => by
    have := wordOf8 z
    rwa [List.take_of_length_le hz] at this
  rw [tagN_eq k hk, tagN_eq k hk] at h
  have e1 := one x hx h8 hc
  have e2 := one y hy (by omega) (by rw [← hl]; exact hc)
  have el : (a ++ (x ++ c)).length = (a ++ (y ++ c)).length := by simp [hl]
  have ew : (wordsN (a ++ (x ++ c))).length = (wordsN (a ++ (y ++ c))).length := by rw [wordsN_len, wordsN_len, el]
  rw [ew, el, e1, e2] at h
  have key : ∀ w, k :: (wordsN a ++ w :: wordsN c ++ [uns ((a ++ (y ++ c)).length : Int)]) = (k :: wordsN a) ++ w :: (wordsN c ++ [uns ((a ++ (y ++ c)).length : Int)]) := fun w => by simp
  rw [key, key] at h
  refine wordOf_inj hl (mixL_one (mixN_lt _ _) (u8 x h8) (u8 y (by omega)) (fun z hz => ?_) h)
  rcases List.mem_append.1 hz with hz | hz
  · exact wordsN_lt c z hz
  · simp at hz; subst hz; exact uns_lt _

end Go.Proofs.Ytcljmnbjejcdaaa
