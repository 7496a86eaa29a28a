/-
  hash.mix and the reference's mix.
-/
import Derived.Test.YtcljmnbjejcdaaaBase
import Derived.Test.YtcljmnbjejcdaaaHashP
import Derived.Laws.BitsAllLaws
namespace Go.Proofs.Ytcljmnbjejcdaaa
open Go.ChangeShapes Go.WideShapes Go.ChangeAt Go.RowKit

theorem mul_nat (x : Nat) : IntKind.u64.wrap ((x : Int) * 15485907386658061715) = ((mulF x : Nat) : Int) := by
  rw [IntKind.wrap_u64]
  unfold mulF
  omega

theorem wrap_nat {x : Nat} (h : U64 x) : IntKind.u64.wrap (x : Int) = x := by
  rw [IntKind.wrap_u64]
  unfold U64 at h
  omega

theorem mix_any (s w : Nat) (hs : U64 s) (hw : U64 w) (W : World) :
    Calls Try.prog 43 #[.int .u64 s, .int .u64 w] W fun e w' => e = .returned (.int .u64 (mixN s w : Nat)) ∧ W = w' := by
  have h1 := u64_xor_nat s w hs hw
  have h2 := mul_nat (s ^^^ w)
  have h3 := u64_xor_nat (mulF (s ^^^ w)) (mulF (s ^^^ w) / 4294967296) (mulF_lt _) (div_lt (mulF_lt _))
  go_enter Try.func43, Try.ntmps43
  go_wp2
  go_ret
  refine ⟨ret_int ?_, rfl⟩
  rw [show ((mulF (s ^^^ w) : Nat) : Int) / 4294967296 = ((mulF (s ^^^ w) / 4294967296 : Nat) : Int) by omega]
  exact h3

theorem mixR_any (s w : Nat) (hs : U64 s) (hw : U64 w) (W : World) :
    Calls Try.prog 45 #[.int .u64 s, .int .u64 w] W fun e w' => e = .returned (.int .u64 (mixN s w : Nat)) ∧ W = w' := by
  have h1 := u64_xor_nat s w hs hw
  have h2 := mul_nat (s ^^^ w)
  have h3 := u64_xor_nat (mulF (s ^^^ w)) (mulF (s ^^^ w) / 4294967296) (mulF_lt _) (div_lt (mulF_lt _))
  go_enter Try.func45, Try.ntmps45
  go_wp2
  go_ret
  refine ⟨ret_int ?_, rfl⟩
  rw [show ((mulF (s ^^^ w) : Nat) : Int) / 4294967296 = ((mulF (s ^^^ w) / 4294967296 : Nat) : Int) by omega, wrap_nat (div_lt (mulF_lt _))]
  exact h3

/-! lists in memory -/
/-- the cells of a byte -/
def csB (c : UInt8) : List Value := [.int .u8 (c.toNat : Int)]
/-- the cells of a word -/
def csU (n : Nat) : List Value := [.int .u64 (n : Int)]
/-- a row of one-cell elements that the call itself made -/
def Row {α : Type} (cs : α → List Value) (t : TypeId) (w : World) (B : Nat) (v : Value) (l : List α) : Prop := w.ownsRow B t 1 v l.length (l.flatMap cs)
theorem Row.sl {α : Type} {cs : α → List Value} {t : TypeId} {w : World} {B : Nat} {v : Value} {l : List α} (h : Row cs t w B v l) (h1 : ∀ x, (cs x).length = 1) : ∃ A cap, v = .slice A l.length cap ∧ Sl cs 1 w w.heap.size A l.length cap l := by
  rcases h.2 with ⟨rfl, h2⟩ | ⟨g, cap, cur, rfl, hb, hg, h3, h4, h5⟩
  · have hl : l = [] := List.length_eq_zero_iff.1 h2
    subst hl
    exact ⟨_, _, rfl, Sl.nil_⟩
  · exact ⟨_, _, rfl, Sl.own h rfl (fun x _ => h1 x) (Nat.le_refl _) h3 h4⟩
theorem Row.nil {α : Type} (cs : α → List Value) (t : TypeId) (w : World) (B : Nat) : Row cs t w B (.slice none 0 0) [] := World.ownsRow_nil _ _ _ _
theorem Row.below {α : Type} {cs : α → List Value} {t : TypeId} {w w' : World} {B : Nat} {v : Value} {l : List α} (h : Row cs t w B v l) (hb : Below w.heap.size w w') : Row cs t w' B v l := by
  refine ⟨h.1, ?_⟩
  rcases h.2 with h1 | ⟨g, cap, cur, hv, hbg, hg, rest⟩
  · exact .inl h1
  · exact .inr ⟨g, cap, cur, hv, hbg, (hb.block g ((Array.getElem?_eq_some_iff.1 hg).1)).trans hg, rest⟩
theorem Row.lower {α : Type} {cs : α → List Value} {t : TypeId} {w : World} {B B' : Nat} {v : Value} {l : List α} (h : Row cs t w B v l) (hb : B' ≤ B) : Row cs t w B' v l := by
  refine ⟨h.1, ?_⟩
  rcases h.2 with h1 | ⟨g, cap, cur, hv, hbg, rest⟩
  · exact .inl h1
  · exact .inr ⟨g, cap, cur, hv, by omega, rest⟩
theorem Row.alloc {α : Type} {cs : α → List Value} {t : TypeId} {w : World} {B : Nat} {v : Value} {l : List α} (h : Row cs t w B v l) (o : Obj) : Row cs t (w.alloc o) B v l := World.ownsRow.alloc h o
theorem Row.snoc {α : Type} {cs : α → List Value} {t : TypeId} {w : World} {B : Nat} {v : Value} {l : List α} {x : α} (h : w.ownsRow B t 1 v (l.length + 1) (l.flatMap cs ++ cs x)) : Row cs t w B v (l ++ [x]) := by
  unfold Row
  rw [List.length_append, List.flatMap_append]
  simpa using h

theorem Sl.byte_at {w : World} {B : Nat} {A : Option Addr} {n cap : Nat} {xs : List UInt8} (h : Sl csB 1 w B A n cap xs) {k : Nat} (hk : k < n) : ∃ b o x, A = some ⟨b, o, none⟩ ∧ b < B ∧ xs[k]? = some x ∧ ∀ w', Below B w w' → w'.cell? ⟨b, o + k, none⟩ = some (.int .u8 (x.toNat : Int)) := by
  obtain ⟨b, o, e, hb, hc⟩ := h.row (by omega)
  have hl : k < xs.length := by rw [h.len]; exact hk
  refine ⟨b, o, xs[k], e, hb, List.getElem?_eq_getElem hl, fun w' hw => (hw.cell (p := ⟨b, o + k, none⟩) hb).trans ?_⟩
  have := hc k xs[k] (List.getElem?_eq_getElem hl) 0 (.int .u8 (xs[k].toNat : Int)) rfl
  simpa using this
theorem Sl.word_at {w : World} {B : Nat} {A : Option Addr} {n cap : Nat} {xs : List Nat} (h : Sl csU 1 w B A n cap xs) {k : Nat} (hk : k < n) : ∃ b o x, A = some ⟨b, o, none⟩ ∧ b < B ∧ xs[k]? = some x ∧ ∀ w', Below B w w' → w'.cell? ⟨b, o + k, none⟩ = some (.int .u64 (x : Int)) := by
  obtain ⟨b, o, e, hb, hc⟩ := h.row (by omega)
  have hl : k < xs.length := by rw [h.len]; exact hk
  refine ⟨b, o, xs[k], e, hb, List.getElem?_eq_getElem hl, fun w' hw => (hw.cell (p := ⟨b, o + k, none⟩) hb).trans ?_⟩
  have := hc k xs[k] (List.getElem?_eq_getElem hl) 0 (.int .u64 (xs[k] : Int)) rfl
  simpa using this

end Go.Proofs.Ytcljmnbjejcdaaa
