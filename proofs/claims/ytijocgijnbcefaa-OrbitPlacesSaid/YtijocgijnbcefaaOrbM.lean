/-
  Arrays that a call makes: 21 ints, 21 bools; slices.Reverse.
-/
import Derived.Deep.LoopGhost
import Derived.Test.YtijocgijnbcefaaOrbB
import Derived.Test.YtijocgijnbcefaaOrbC
import Derived.Test.YtijocgijnbcefaaArrD
namespace Go.Proofs.Ytijocgijnbcefaa
open Go.ChangeShapes Go.WideShapes Go.ChangeAt Go.RowKit

/-- n cells of block g, none frozen, cell i holding v i -/
structure Arr (w : World) (g n : Nat) (v : Nat → Value) : Prop where
  lt : g < w.heap.size
  cell : ∀ i, i < n → w.cell? ⟨g, i, none⟩ = some (v i)
  free : ∀ i, w.frozen? ⟨g, i, none⟩ = false

section
variable {w w' : World} {g n : Nat} {v : Nat → Value}
theorem Arr.of_blk {t : TypeId} {cs : Array Value} (h : Blk w g t cs) (hc : ∀ i, i < n → cs[i]? = some (v i)) : Arr w g n v := ⟨h.lt, fun i hi => (h.cell i).trans (hc i hi), h.frozen⟩
theorem Arr.below {B : Nat} (h : Arr w g n v) (hb : Below B w w') (hg : g < B) : Arr w' g n v :=
  ⟨Nat.lt_of_lt_of_le h.lt hb.size, fun i hi => (hb.cell (p := ⟨g, i, none⟩) hg).trans (h.cell i hi), fun i => (hb.frozen (p := ⟨g, i, none⟩) hg).trans (h.free i)⟩
theorem Arr.alloc (h : Arr w g n v) (o : Obj) : Arr (w.alloc o) g n v := h.below ((Below.refl w.heap.size w).alloc (Nat.le_refl _) o) h.lt
theorem Arr.drewN (h : Arr w g n v) (k : Nat) : Arr (w.drewN k) g n v := ⟨h.lt, h.cell, h.free⟩
theorem Arr.far (h : Arr w g n v) {p : Addr} (hp : g ≠ p.block) (u : Value) : Arr (w.setCell p u) g n v :=
  ⟨by simpa [World.setCell] using h.lt, fun i hi => (World.cell?_of_block (a := ⟨g, i, none⟩) (Below.heap_setCell w p u g hp)).trans (h.cell i hi), fun i => by rw [World.frozen?_setCell]; exact h.free i⟩
theorem Arr.set (h : Arr w g n v) {i : Nat} (hi : i < n) (u : Value) : Arr (w.setCell ⟨g, i, none⟩ u) g n (upd v i u) := by
  refine ⟨by simpa [World.setCell] using h.lt, fun j hj => ?_, fun j => by rw [World.frozen?_setCell]; exact h.free j⟩
  by_cases hji : j = i
  · subst hji
    rw [upd_same]
    exact World.cell?_setCell_same' w ⟨g, j, none⟩ u (by rw [h.cell j hj]; rfl)
  · rw [upd_ne _ _ hji]
    exact (World.cell?_setCell_other w ⟨g, i, none⟩ ⟨g, j, none⟩ u (by simp; first | done | omega)).trans (h.cell j hj)
theorem Arr.congr {v' : Nat → Value} (h : Arr w g n v) (hv : ∀ i, i < n → v' i = v i) : Arr w g n v' := ⟨h.lt, fun i hi => by rw [hv i hi]; exact h.cell i hi, h.free⟩
end

/-- an array of ints, of bools -/
def ArrI (w : World) (g : Nat) (f : Nat → Int) : Prop := Arr w g 21 (fun i => .int .i64 (f i))
def ArrB (w : World) (g : Nat) (f : Nat → Bool) : Prop := Arr w g 21 (fun i => .bool (f i))
theorem upd_int (f : Nat → Int) (i : Nat) (x : Int) : (fun j => Value.int .i64 (upd f i x j)) = upd (fun j => Value.int .i64 (f j)) i (.int .i64 x) := by funext j; unfold upd; split <;> rfl
theorem upd_bool (f : Nat → Bool) (i : Nat) (x : Bool) : (fun j => Value.bool (upd f i x j)) = upd (fun j => Value.bool (f j)) i (.bool x) := by funext j; unfold upd; split <;> rfl
theorem ArrI.set {w : World} {g : Nat} {f : Nat → Int} (h : ArrI w g f) {i : Nat} (hi : i < 21) (x : Int) : ArrI (w.setCell ⟨g, i, none⟩ (.int .i64 x)) g (upd f i x) := by
  unfold ArrI; rw [upd_int]; exact Arr.set h hi _
theorem ArrB.set {w : World} {g : Nat} {f : Nat → Bool} (h : ArrB w g f) {i : Nat} (hi : i < 21) (x : Bool) : ArrB (w.setCell ⟨g, i, none⟩ (.bool x)) g (upd f i x) := by
  unfold ArrB; rw [upd_bool]; exact Arr.set h hi _
theorem ArrI.at_ {w : World} {g : Nat} {f : Nat → Int} (h : ArrI w g f) {i : Nat} (hi : i < 21) : w.cell? ⟨g, i, none⟩ = some (.int .i64 (f i)) := Arr.cell h i hi
theorem ArrB.at_ {w : World} {g : Nat} {f : Nat → Bool} (h : ArrB w g f) {i : Nat} (hi : i < 21) : w.cell? ⟨g, i, none⟩ = some (.bool (f i)) := Arr.cell h i hi

theorem arrI_zero (w : World) (t : TypeId) : ArrI (w.alloc (.cells #[.int .i64 0, .int .i64 0, .int .i64 0, .int .i64 0, .int .i64 0, .int .i64 0, .int .i64 0, .int .i64 0, .int .i64 0, .int .i64 0, .int .i64 0, .int .i64 0, .int .i64 0, .int .i64 0, .int .i64 0, .int .i64 0, .int .i64 0, .int .i64 0, .int .i64 0, .int .i64 0, .int .i64 0] t)) w.heap.size (fun _ => 0) :=
  Arr.of_blk (Blk.new _ _ _) (fun i hi => by
    have : i = 0 ∨ i = 1 ∨ i = 2 ∨ i = 3 ∨ i = 4 ∨ i = 5 ∨ i = 6 ∨ i = 7 ∨ i = 8 ∨ i = 9 ∨ i = 10 ∨ i = 11 ∨ i = 12 ∨ i = 13 ∨ i = 14 ∨ i = 15 ∨ i = 16 ∨ i = 17 ∨ i = 18 ∨ i = 19 ∨ i = 20 := by omega
    rcases this with rfl | rfl | rfl | rfl | rfl | rfl | rfl | rfl | rfl | rfl | rfl | rfl | rfl | rfl | rfl | rfl | rfl | rfl | rfl | rfl | rfl <;> rfl)
theorem arrB_zero (w : World) (t : TypeId) : ArrB (w.alloc (.cells #[.bool false, .bool false, .bool false, .bool false, .bool false, .bool false, .bool false, .bool false, .bool false, .bool false, .bool false, .bool false, .bool false, .bool false, .bool false, .bool false, .bool false, .bool false, .bool false, .bool false, .bool false] t)) w.heap.size (fun _ => false) :=
  Arr.of_blk (Blk.new _ _ _) (fun i hi => by
    have : i = 0 ∨ i = 1 ∨ i = 2 ∨ i = 3 ∨ i = 4 ∨ i = 5 ∨ i = 6 ∨ i = 7 ∨ i = 8 ∨ i = 9 ∨ i = 10 ∨ i = 11 ∨ i = 12 ∨ i = 13 ∨ i = 14 ∨ i = 15 ∨ i = 16 ∨ i = 17 ∨ i = 18 ∨ i = 19 ∨ i = 20 := by omega
    rcases this with rfl | rfl | rfl | rfl | rfl | rfl | rfl | rfl | rfl | rfl | rfl | rfl | rfl | rfl | rfl | rfl | rfl | rfl | rfl | rfl | rfl <;> rfl)

theorem Arr.gr {w : World} {g n H : Nat} {v : Nat → Value} (h : Arr w g n v) (hg : g < H) {i : Nat} (hi : i < n) : ∀ g', (Gr H w g').cell? ⟨g, i, none⟩ = some (v i) := Gr.cell (h.cell i hi) hg

/-- part of the list has been turned round: from both ends up to i, j -/
def turned (f : Nat → Int) (n i j : Nat) (q : Nat) : Int := if q < i ∨ j < q then f (n - 1 - q) else f q
theorem turned_step {f : Nat → Int} {n i j : Nat} (hij : i < j) (hn : i + j = n - 1) : ∀ q, upd (upd (turned f n i j) i (turned f n i j j)) j (turned f n i j i) q = turned f n (i + 1) (j - 1) q := by
  intro q
  unfold upd turned
  by_cases h1 : q = j
  · subst h1
    rw [if_pos rfl, if_neg (by omega), if_pos (by omega)]; congr 1; omega
  · rw [if_neg h1]
    by_cases h2 : q = i
    · subst h2
      rw [if_pos rfl, if_neg (by omega), if_pos (by omega)]; congr 1; omega
    · rw [if_neg h2]
      by_cases h3 : q < i ∨ j < q
      · rw [if_pos h3, if_pos (by omega)]
      · rw [if_neg h3, if_neg (by omega)]

theorem grownBy_two (w : World) (g i j : Nat) (x y : Value) : w.grownBy (((w.drewN 1).setCell ⟨g, i, none⟩ x).setCell ⟨g, j, none⟩ y) (some g) :=
  ⟨rfl, rfl, rfl, by simp [World.setCell], fun k _ hne => (Below.heap_setCell _ _ _ _ (by simp at hne ⊢; exact hne)).trans (Below.heap_setCell _ _ _ _ (by simp at hne ⊢; exact hne))⟩

set_option maxRecDepth 100000 in
set_option maxHeartbeats 400000 in
theorem reverse_any (g n cap : Nat) (f : Nat → Int) (w : World) (h : Arr w g n (fun q => .int .i64 (f q))) (hn : n ≤ cap) (hc : cap ≤ 9223372036854775807) (hn1 : 1 ≤ n) :
    Calls Try.prog 48 #[.slice (some ⟨g, 0, none⟩) n cap] w fun e w' => e = .returned (.tuple #[]) ∧ Arr w' g n (fun q => .int .i64 (f (n - 1 - q))) ∧ w.grownBy w' (some g) := by
  go_enter Try.func48, Try.ntmps48
  go_wp2
  go_loopw [2, 3] (fun a b wr => ∃ i j : Nat, a = .int .i64 i ∧ b = .int .i64 j ∧ Hid (i + j = n - 1) ∧ i ≤ j + 1 ∧ j < n ∧ Arr wr g n (fun q => .int .i64 (turned f n i j q)) ∧ w.grownBy wr (some g)) (fun a b _ => (intOf b).toNat - (intOf a).toNat)
  case atStart => exact ⟨0, n - 1, rfl, by congr 1; omega, by unfold Hid; omega, by omega, by omega, h.congr (fun q hq => by unfold turned; rw [if_neg (by omega)]), World.grownBy.refl w _⟩
  case round =>
    obtain ⟨i, j, rfl, rfl, Hij, hle, hj, hA, hg⟩ := hrel
    by_cases hlt : i < j
    · have hki : (i : Int) < (n : Int) := by omega
      have hkj : (j : Int) < (n : Int) := by omega
      have ci := hA.cell i (by omega)
      have cj := hA.cell j (by omega)
      have fi := hA.free i
      have fj := hA.free j
      obtain ⟨x, hx⟩ : ∃ x, turned f n i j i = x := ⟨_, rfl⟩
      obtain ⟨y, hy⟩ : ∃ y, turned f n i j j = y := ⟨_, rfl⟩
      rw [hx] at ci
      rw [hy] at cj
      have HX := Lib.hid hx
      have HY := Lib.hid hy
      clear hx hy
      obtain ⟨v', hv'⟩ := cell?_setCell_some (w := wr.drew) (p := ⟨g, i, none⟩) (x := .int .i64 y) (q := ⟨g, j, none⟩) (v := .int .i64 y) (by go_simp)
      go_wp2
      go_region
      have hB := (hA.drewN 1).set (i := i) (by omega) (.int .i64 y)
      have hC := hB.set (i := j) (by omega) (.int .i64 x)
      have hD : Arr _ g n (fun q => .int .i64 (turned f n (i + 1) (j - 1) q)) := hC.congr (v' := fun q => .int .i64 (turned f n (i + 1) (j - 1) q)) (fun q _ => by
        rw [← turned_step hlt Hij.out q, HX.out, HY.out]
        unfold upd
        split <;> (try split) <;> rfl)
      have hgD : w.grownBy _ (some g) := hg.trans (grownBy_two wr g i j (.int .i64 y) (.int .i64 x))
      clear hA hB hC hg
      go_wp2
      go_roundw
      case rel => exact ⟨i + 1, j - 1, by go_num, by congr 1; omega, by have := Hij.out; unfold Hid; omega, by omega, by omega, hD, hgD⟩
      case measure => simp [intOf]; omega
    · have hD : Arr wr g n (fun q => .int .i64 (f (n - 1 - q))) := hA.congr (v' := fun q => .int .i64 (f (n - 1 - q))) (fun q hq => by
        have := Hij.out
        unfold turned
        by_cases h1 : q < i ∨ j < q
        · rw [if_pos h1]
        · rw [if_neg h1, show n - 1 - q = q by omega])
      clear hA
      go_wp2
      go_end0
      exact ⟨rfl, hD, hg⟩

end Go.Proofs.Ytijocgijnbcefaa
