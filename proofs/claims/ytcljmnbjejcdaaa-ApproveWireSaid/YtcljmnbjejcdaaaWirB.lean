/-
  The wire's writer: slices.Clone, Done.
-/
import Derived.Test.YtcljmnbjejcdaaaWirA
namespace Go.Proofs.Ytcljmnbjejcdaaa
open Go.ChangeShapes Go.WideShapes Go.ChangeAt Go.RowKit

theorem Row.freshB0 (w : World) : Row csB 5 (w.alloc (.cells #[] 5)) w.heap.size (.slice (some ⟨w.heap.size, 0, none⟩) 0 0) [] := by
  have := World.ownsRow_lit (base := w.heap.size) (e := 5) (size := 1) w #[] 0 (Nat.le_refl _) (by unfold maxLen; omega) (by simp)
  unfold Row
  simpa using this

set_option maxRecDepth 100000 in
set_option maxHeartbeats 1000000 in
theorem clone_any (w : World) (A : Option Addr) (m c : Nat) (l : List UInt8) (hX : Src csB w A m c l) (hB : ∀ ad, A = some ad → ad.block < w.heap.size) (hm : m ≤ 1000000000000) :
    Calls Try.prog 36 #[.slice A m c] w fun e w' => (∃ A' c', e = .returned (.slice A' m c') ∧ Sl csB 1 w' w'.heap.size A' m c' l) ∧ Below w.heap.size w w' := by
  have HL := Lib.hid hX.1
  rcases hX.2 with ⟨rfl, rfl, rfl⟩ | ⟨ad, rfl, hc⟩
  · have hl : l = [] := List.length_eq_zero_iff.1 HL.out
    subst hl
    have hnil := fun (w : World) => Lib.run_eql_slice_nil (P := Try.prog) w 26 5 none 0 0 0 0 (by kernel_rfl)
    go_enter Try.func36, Try.ntmps36
    go_wp2
    go_ret
    exact ⟨⟨none, 0, rfl, Sl.nil_⟩, Below.refl _ _⟩
  · have hF := Row.freshB0 w
    have hbf : Below w.heap.size w (w.alloc (.cells #[] 5)) := (Below.refl _ _).alloc (Nat.le_refl _) _
    have hsF : Src csB (w.alloc (.cells #[] 5)) (some ad) m c l := ⟨HL.out, .inr ⟨ad, rfl, fun j u hu => by
      have h1 := hc j u hu
      have h2 : (ad.add j).block < w.heap.size := by
        have := hB ad rfl
        unfold Addr.add
        split
        · exact this
        · simpa using this
      exact (hbf.cell h2).trans h1⟩⟩
    clear hc hX
    have hnil := fun (w : World) => Lib.run_eql_slice_nil (P := Try.prog) w 26 5 (some ad) m c 0 0 (by kernel_rfl)
    go_enter Try.func36, Try.ntmps36
    go_wp2_with (at_builtin; refine wpList_row oneB rfl (.tmp 5) (.tmp 6) rfl w.heap.size _ [] rfl hF (some ad) m c l rfl hsF (by simp; omega) hbf.size ?_; intro v2 w2 hR2 hg2 _; have hb2 : Below w.heap.size w w2 := hbf.grown hg2 hbf.size (fun i hi => (World.ownsRow.lt hF i hi).1); rw [List.nil_append] at hR2; clear hF hbf hsF hg2)
    obtain ⟨A2, c2, rfl, hS2⟩ := hR2.sl (fun _ => rfl)
    rw [HL.out] at hS2 ⊢
    go_ret
    exact ⟨⟨A2, c2, rfl, hS2⟩, hb2⟩
theorem Row.src {w : World} {B : Nat} {v : Value} {l : List UInt8} (h : Row csB 5 w B v l) : ∃ A c, v = .slice A l.length c ∧ Src csB w A l.length c l ∧ ∀ ad, A = some ad → ad.block < w.heap.size := by
  obtain ⟨A, c, hv, hS⟩ := h.sl (fun _ => rfl)
  refine ⟨A, c, hv, ⟨rfl, ?_⟩, ?_⟩
  · rcases h.2 with ⟨h1, h2⟩ | ⟨g, cap, cur, h1, _⟩
    · rw [hv] at h1
      injection h1 with e1 e2 e3
      exact .inl ⟨e1, e2, e3⟩
    · rw [hv] at h1
      injection h1 with e1 e2 e3
      subst e1
      exact .inr ⟨_, rfl, fun j u hu => World.ownsRow.cells h (by rw [hv]; rfl) j u hu⟩
  · intro ad hA
    rcases h.2 with ⟨h1, h2⟩ | ⟨g, cap, cur, h1, _, hg, _⟩
    · rw [hv] at h1
      injection h1 with e1 e2 e3
      rw [hA] at e1; cases e1
    · rw [hv] at h1
      injection h1 with e1 e2 e3
      rw [hA] at e1; injection e1 with e1
      subst e1
      exact (Array.getElem?_eq_some_iff.1 hg).1

def Buf (w : World) (b : Nat) (l : List UInt8) : Prop := ∃ v B, Blk w b 56 #[v] ∧ Row csB 5 w B v l
theorem Wtr.toBuf {w0 w : World} {b : Nat} {l : List UInt8} (h : Wtr w0 w b l) : Buf w b l := by
  obtain ⟨v, h1, h2⟩ := h.buf
  exact ⟨v, _, h1, h2⟩
theorem Buf.below {w w' : World} {b : Nat} {l : List UInt8} (h : Buf w b l) (hb : Below w.heap.size w w') : Buf w' b l := by
  obtain ⟨v, B, h1, h2⟩ := h
  exact ⟨v, B, h1.below hb h1.lt, h2.below hb⟩
theorem Buf.keep {w w' : World} {b b' : Nat} {l : List UInt8} {x : Array Value} (h : Buf w b l) (hb : Wr w w' b') (hne : b ≠ b') (hB : Blk w b' 56 x) : Buf w' b l := by
  obtain ⟨v, B, h1, h2⟩ := h
  refine ⟨v, B, (hb.block b h1.lt hne).trans h1, ?_⟩
  have hn := own_blk_ne h2 hB (by decide)
  refine ⟨h2.1, ?_⟩
  rcases h2.2 with h3 | ⟨g, cap, cur, hv, hbg, hg, rest⟩
  · exact .inl h3
  · exact .inr ⟨g, cap, cur, hv, hbg, (hb.block g ((Array.getElem?_eq_some_iff.1 hg).1) (fun e => hn (by rw [hv, ← e]; rfl))).trans hg, rest⟩
theorem Wtr.start {w : World} {b : Nat} (hB : Blk w b 56 #[.slice none 0 0]) : Wtr w w b [] := ⟨Wr.refl _ _, hB.lt, _, hB, Row.nil _ _ _ _⟩

set_option maxRecDepth 100000 in
set_option maxHeartbeats 1000000 in
theorem done_any (w : World) (b : Nat) (l : List UInt8) (h : Buf w b l) (hl : l.length ≤ 1000000000000) :
    Calls Try.prog 26 #[.pointer (some ⟨b, 0, none⟩)] w fun e w' => (∃ A' c', e = .returned (.slice A' l.length c') ∧ Sl csB 1 w' w'.heap.size A' l.length c' l) ∧ Below w.heap.size w w' := by
  obtain ⟨v, B, hB, hR⟩ := h
  obtain ⟨A, c, rfl, hX, hA⟩ := hR.src
  have c0 := hB.cell 0
  simp only [List.getElem?_toArray, List.getElem?_cons_zero] at c0
  go_enter Try.func26, Try.ntmps26
  go_wp2_with fail
  refine (clone_any w A _ c l hX hA hl).mono ?_
  rintro e w1 ⟨⟨A', c', rfl, hS⟩, hb⟩
  go_wp2
  go_ret
  exact ⟨⟨A', c', rfl, hS⟩, hb⟩
end Go.Proofs.Ytcljmnbjejcdaaa
