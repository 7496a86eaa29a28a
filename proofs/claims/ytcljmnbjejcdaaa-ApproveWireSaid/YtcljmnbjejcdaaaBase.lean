/-
  Words on memory that every walk of this seat shares: a slice that reads as a list, whatever its elements' cells; it stays so where the world has only grown.
-/
import Derived.Test.YtcljmnbjejcdaaaRows
import Derived.WalkKit
import Derived.ProofKit
import Derived.OpenShut
import Derived.Below
import Derived.BigQuiet
import Derived.Deep.QuietTactic
import Derived.Deep.RegionHeld3
import Derived.Deep.DeepCutAuto
import Derived.Deep.DeepFit
import Derived.Deep.Draws
import Derived.WalkLawsBesides
import Derived.WalkSpells
import Derived.Lib.Hide
import Derived.Maps.AppendAt
import Derived.Deep.AppendLies
import Derived.Laws.OwnMore
import Derived.OwnWalk
import Derived.RangeFuncBox
namespace Go.Proofs.Ytcljmnbjejcdaaa
open Go.ChangeShapes Go.WideShapes Go.ChangeAt Go.RowKit

/-- An int of 64 bits. -/
def I64 (n : Int) : Prop := -9223372036854775808 ≤ n ∧ n ≤ 9223372036854775807

/-- The slice '.slice A n cap' holds the elements xs (cs x: the cells of x; s cells each), and lies below block B. -/
structure Sl {α : Type} (cs : α → List Value) (s : Nat) (w : World) (B : Nat) (A : Option Addr) (n cap : Nat) (xs : List α) : Prop where
  len : xs.length = n
  ncap : n ≤ cap
  cmax : cap ≤ 9223372036854775807
  row : 0 < n → ∃ b o, A = some ⟨b, o, none⟩ ∧ b < B ∧ ∀ (k : Nat) (x : α), xs[k]? = some x → ∀ (j : Nat) (v : Value), (cs x)[j]? = some v → w.cell? ⟨b, o + k * s + j, none⟩ = some v

section
variable {α : Type} {cs : α → List Value} {s : Nat} {w w' : World} {B B' : Nat} {A : Option Addr} {n cap : Nat} {xs : List α}

theorem Sl.keep (h : Sl cs s w B A n cap xs) (hk : ∀ p : Addr, p.block < B → w'.cell? p = w.cell? p) : Sl cs s w' B A n cap xs :=
  ⟨h.len, h.ncap, h.cmax, fun h0 => by
    obtain ⟨b, o, e, hb, hc⟩ := h.row h0
    exact ⟨b, o, e, hb, fun k x hx j v hv => (hk _ hb).trans (hc k x hx j v hv)⟩⟩

theorem Sl.below (h : Sl cs s w B A n cap xs) (hb : Below B' w w') (hB : B ≤ B') : Sl cs s w' B A n cap xs := h.keep fun _ hp => hb.cell (by omega)

theorem Sl.more (h : Sl cs s w B A n cap xs) (hB : B ≤ B') : Sl cs s w B' A n cap xs :=
  ⟨h.len, h.ncap, h.cmax, fun h0 => by
    obtain ⟨b, o, e, hb, hc⟩ := h.row h0
    exact ⟨b, o, e, by omega, hc⟩⟩

theorem Sl.nil_ : Sl cs s w B none 0 0 ([] : List α) := ⟨rfl, Nat.le_refl _, by omega, fun h => absurd h (by omega)⟩

theorem Sl.own {base : Nat} {e : TypeId} {c : Nat} (h : w.ownsRow base e s (.slice A n c) n (xs.flatMap cs)) (hl : xs.length = n) (hs : ∀ x ∈ xs, (cs x).length = s) (hB : w.heap.size ≤ B) (hc : n ≤ c) (hm : c ≤ 9223372036854775807) :
    Sl cs s w B A n c xs := by
  refine ⟨hl, hc, hm, fun h0 => ?_⟩
  obtain ⟨g, cap, hv, _, hlt⟩ := h.form h0
  have hA : A = some ⟨g, 0, none⟩ := by injection hv
  subst hA
  refine ⟨g, 0, rfl, by omega, fun k x hx j v hv' => ?_⟩
  have hcell := h.cells (g := g) rfl
  have hj : j < s := by
    have h1 := hs x (List.mem_of_getElem? hx)
    have h2 := (List.getElem?_eq_some_iff.1 hv').1
    omega
  have key : ∀ (l : List α), (∀ y ∈ l, (cs y).length = s) → ∀ k', l[k']? = some x → (l.flatMap cs)[k' * s + j]? = some v := by
    intro l
    induction l with
    | nil => intro _ k' hk'; simp at hk'
    | cons y l ih =>
      intro hl' k' hk'
      have hy := hl' y (by simp)
      cases k' with
      | zero =>
        simp at hk'
        subst hk'
        rw [List.flatMap_cons, List.getElem?_append_left (by omega)]
        simpa using hv'
      | succ k' =>
        simp at hk'
        rw [List.flatMap_cons, List.getElem?_append_right (by rw [hy, Nat.succ_mul]; omega)]
        have := ih (fun z hz => hl' z (by simp [hz])) k' hk'
        rw [← this]
        congr 1
        rw [hy, Nat.succ_mul]
        omega
  have := hcell (k * s + j) v (key xs hs k hx)
  rw [Nat.zero_add]
  by_cases h00 : k * s + j = 0
  · rw [h00] at this ⊢; simpa [Addr.add] using this
  · unfold Addr.add at this
    rw [if_neg h00] at this
    simpa using this
end

/-- a slice literal: a block of its own -/
theorem Sl.lit {α : Type} {cs : α → List Value} {s : Nat} (w : World) (ty : TypeId) (xs : List α) (hs : ∀ x ∈ xs, (cs x).length = s) (hm : xs.length ≤ 9223372036854775807) :
    Sl cs s (w.alloc (.cells (xs.flatMap cs).toArray ty)) (w.heap.size + 1) (some ⟨w.heap.size, 0, none⟩) xs.length xs.length xs := by
  have hl : (xs.flatMap cs).length = xs.length * s := by
    clear hm
    induction xs with
    | nil => simp
    | cons x l ih =>
      rw [List.flatMap_cons, List.length_append, ih (fun y hy => hs y (by simp [hy])), hs x (by simp), List.length_cons, Nat.succ_mul]
      omega
  have h := World.ownsRow_lit (base := w.heap.size) (e := ty) (size := s) w (xs.flatMap cs).toArray xs.length (Nat.le_refl _) hm (by simpa using hl)
  exact Sl.own h rfl hs (by simp) (Nat.le_refl _) hm

/-- the cells of an int -/
def csI (n : Int) : List Value := [.int .i64 n]

section
variable {w : World} {B : Nat} {A : Option Addr} {n cap : Nat}
theorem Sl.int_at {xs : List Int} (h : Sl csI 1 w B A n cap xs) {k : Nat} (hk : k < n) : ∃ b o x, A = some ⟨b, o, none⟩ ∧ b < B ∧ xs[k]? = some x ∧ w.cell? ⟨b, o + k, none⟩ = some (.int .i64 x) := by
  obtain ⟨b, o, e, hb, hc⟩ := h.row (by omega)
  have hl : k < xs.length := by rw [h.len]; exact hk
  refine ⟨b, o, xs[k], e, hb, List.getElem?_eq_getElem hl, ?_⟩
  have := hc k xs[k] (List.getElem?_eq_getElem hl) 0 (.int .i64 xs[k]) rfl
  simpa using this
end

theorem getD_of {α : Type} {xs : List α} {k : Nat} {x d : α} (h : xs[k]? = some x) : xs.getD k d = x := by simp [List.getD, h]
theorem take_snoc {α : Type} {xs : List α} {k : Nat} {x : α} (h : xs[k]? = some x) : xs.take (k + 1) = xs.take k ++ [x] := by
  rw [List.take_add_one, h]; rfl
theorem drop_cons {α : Type} {xs : List α} {k : Nat} {x : α} (h : xs[k]? = some x) : xs.drop k = x :: xs.drop (k + 1) := by
  obtain ⟨hk, rfl⟩ := List.getElem?_eq_some_iff.1 h
  exact List.drop_eq_getElem_cons hk

/-- The law of the row: a way of handing on 'Below' -/
theorem below_drewN {B : Nat} {a w : World} (h : Below B a w) (n : Nat) : Below B a (w.drewN n) := ⟨h.os, h.tape, h.output, h.size, h.block⟩

theorem ret_int {k : IntKind} {a b : Int} (h : a = b) : Ending.returned (.int k a) = .returned (.int k b) := by rw [h]
theorem ret_bool {a b : Bool} (h : a = b) : Ending.returned (.bool a) = .returned (.bool b) := by rw [h]

theorem bcell {W w1 : World} (hb : Below W.heap.size W w1) : (∀ b o, b < W.heap.size → w1.cell? ⟨b, o, none⟩ = W.cell? ⟨b, o, none⟩) ∧ (∀ b o, b < W.heap.size → w1.frozen? ⟨b, o, none⟩ = W.frozen? ⟨b, o, none⟩) :=
  ⟨fun b o h => hb.cell (p := ⟨b, o, none⟩) h, fun b o h => hb.frozen (p := ⟨b, o, none⟩) h⟩

/-- Block g is just the cells cs, of element type t, none frozen. -/
def Blk (w : World) (g : Nat) (t : TypeId) (cs : Array Value) : Prop := w.heap[g]? = some (.cells cs t (0, 0))

section
variable {w w' : World} {g : Nat} {t : TypeId} {cs : Array Value}
theorem Blk.lt (h : Blk w g t cs) : g < w.heap.size := by
  rcases Nat.lt_or_ge g w.heap.size with hlt | hge
  · exact hlt
  · unfold Blk at h; rw [Array.getElem?_eq_none hge] at h; cases h
theorem Blk.cell (h : Blk w g t cs) (i : Nat) : w.cell? ⟨g, i, none⟩ = cs[i]? := cell_of_row w g i cs t (0, 0) h
theorem Blk.frozen (h : Blk w g t cs) (i : Nat) : w.frozen? ⟨g, i, none⟩ = false := by
  unfold Blk at h
  simp [World.frozen?, h]
theorem Blk.new (w : World) (t : TypeId) (cs : Array Value) : Blk (w.alloc (.cells cs t)) w.heap.size t cs := heap_alloc_new w _
theorem Blk.drew (h : Blk w g t cs) : Blk w.drew g t cs := h
theorem Blk.drewN (h : Blk w g t cs) (n : Nat) : Blk (w.drewN n) g t cs := h
theorem Blk.alloc (h : Blk w g t cs) (o : Obj) : Blk (w.alloc o) g t cs := (Below.heap_alloc w o g h.lt).trans h
theorem Blk.set_ (h : Blk w g t cs) (i : Nat) (u : Value) : Blk (w.setCell ⟨g, i, none⟩ u) g t (cs.setIfInBounds i u) := by
  unfold Blk at h ⊢
  simp [World.setCell, Array.getElem?_modify, h]
theorem Blk.far (h : Blk w g t cs) {p : Addr} (hp : g ≠ p.block) (u : Value) : Blk (w.setCell p u) g t cs := (Below.heap_setCell w p u g hp).trans h
theorem Blk.below {B : Nat} (h : Blk w g t cs) (hb : Below B w w') (hg : g < B) : Blk w' g t cs := (hb.block g hg).trans h
theorem Blk.grown {row : Option Nat} (h : Blk w g t cs) (hb : w.grownBy w' row) (hg : some g ≠ row) : Blk w' g t cs := (hb.block g h.lt hg).trans h
theorem Blk.ne_ {g' : Nat} {t' : TypeId} {cs' : Array Value} (h : Blk w g t cs) (h' : Blk w g' t' cs') (hne : t ≠ t') : g ≠ g' := by
  rintro rfl
  unfold Blk at h h'
  rw [h] at h'
  injection h' with h'
  injection h' with _ ht
  exact hne ht
theorem own_blk_ne {base : Nat} {e : TypeId} {size n : Nat} {v : Value} {xs : List Value} (h : w.ownsRow base e size v n xs) (hg : Blk w g t cs) (hne : e ≠ t) : v.ownBlock ≠ some g := by
  rcases h.2 with ⟨rfl, _⟩ | ⟨g', cap, cur, rfl, _, hh, _⟩
  · simp [Value.ownBlock]
  · intro he
    have : g' = g := by simpa [Value.ownBlock] using he
    subst this
    exact Blk.ne_ (t := e) hh hg hne rfl
end

end Go.Proofs.Ytcljmnbjejcdaaa
