/-
  The reference's Tag.
-/
import Derived.Test.YtcljmnbjejcdaaaHashS
namespace Go.Proofs.Ytcljmnbjejcdaaa
open Go.ChangeShapes Go.WideShapes Go.ChangeAt Go.RowKit

theorem Row.lit1 {α : Type} {cs : α → List Value} (w : World) (t : TypeId) (x : α) (v : Value) (hv : cs x = [v]) : Row cs t (w.alloc (.cells #[v] t)) w.heap.size (.slice (some ⟨w.heap.size, 0, none⟩) 1 1) [x] := by
  have h := World.ownsRow_lit (base := w.heap.size) (e := t) (size := 1) w #[v] 1 (Nat.le_refl _) (by decide) rfl
  unfold Row
  have e : [x].flatMap cs = [v] := by simp [hv]
  rw [e]
  exact h
theorem withN_len (l : List Int) (b : List UInt8) : (withN l b).length = l.length + (b.length + 7) / 8 + 1 := by
  unfold withN
  rw [List.length_append, List.length_append, List.length_map, wordsN_len]
  rfl
theorem withN_ok {l : List Int} (hl : ∀ x ∈ l, I64 x) {b : List UInt8} (hb : b.length ≤ 100000000000000) : ∀ x ∈ withN l b, I64 x := by
  intro x hx
  unfold withN at hx
  rcases List.mem_append.1 hx with hx | hx
  · rcases List.mem_append.1 hx with hx | hx
    · exact hl x hx
    · obtain ⟨n, hn, rfl⟩ := List.mem_map.1 hx
      exact sgn_bd (wordsN_lt b n hn)
  · rw [List.mem_singleton] at hx
    subst hx
    unfold I64
    omega
def tagS : ByteArray := ⟨#[116, 97, 103]⟩
theorem tagS_eq : tagS.data.toList = tagLabel := rfl

set_option maxRecDepth 100000 in
set_option maxHeartbeats 2000000 in
theorem tagR_any (B : Nat) (key : Nat) (hk : U64 key) (A : Option Addr) (n cap : Nat) (xs : List UInt8) (w : World) (h : Sl csB 1 w B A n cap xs) (hB : B ≤ w.heap.size) (hr : n ≤ 1000000000000) :
    Calls Try.prog 28 #[.int .u64 key, .slice A n cap] w fun e w' => e = .returned (.int .u64 (tagN key xs : Nat)) ∧ Below w.heap.size w w' := by
  have hks := wrap_sgn hk
  have HL := Lib.hid h.len
  have HT : Hid (tagN key xs = sumN tagS.data.toList (withN [sgn key] xs)) := by rw [Hid, tagS_eq]; rfl
  go_enter Try.func28, Try.ntmps28
  go_wp2_with fail
  have hrow := Row.lit1 (cs := csI) w 3 (sgn key) (.int .i64 (sgn key)) rfl
  have hb0 : Below w.heap.size w (w.alloc (.cells #[.int .i64 (sgn key)] 3)) := (Below.refl _ _).alloc (Nat.le_refl _) _
  have hsl := h.below hb0 hB
  refine (listR_any w.heap.size B _ [sgn key] A n cap xs _ hrow (by simp) (by simp) hsl hB (by omega)).mono ?_
  rintro e w1 ⟨v1, rfl, hR1, hb1⟩
  have hlen := withN_len [sgn key] xs
  have hok := withN_ok (l := [sgn key]) (b := xs) (fun x hx => by rw [List.mem_singleton] at hx; subst hx; exact sgn_bd hk) (by rw [HL.out]; omega)
  rw [HL.out] at hlen
  obtain ⟨A1, cap1, rfl, hS1⟩ := hR1.sl (fun _ => rfl)
  have hbw := hb0.trans (hb1.mono (Nat.le_refl _))
  obtain ⟨L, hL⟩ : ∃ L, withN [sgn key] xs = L := ⟨_, rfl⟩
  rw [hL] at hS1 hlen hok HT ⊢
  have HK := Lib.hid hok
  have HN := Lib.hid hlen
  clear hL hok hlen hR1
  go_wp2_with fail
  refine (sumR_any w1.heap.size tagS A1 _ cap1 L w1 hS1 (Nat.le_refl _) (by decide) (by have := HN.out; simp at this; omega) HK.out).mono ?_
  rintro e w2 ⟨rfl, hb2⟩
  rw [← HT.out]
  go_wp2
  go_ret
  exact ⟨rfl, hbw.trans (hb2.mono hbw.size)⟩

end Go.Proofs.Ytcljmnbjejcdaaa
