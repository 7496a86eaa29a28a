/-
  The plain side of chapter 9: windows as data, and what the functions compute. No program in sight.
-/
import Derived.Test.YtcljmnbjejcdaaaBase
namespace Go.Proofs.Ytcljmnbjejcdaaa
open Go.RowKit

structure Win where
  kind : Int
  a : Int
  b : Int
  lo : Int
  hi : Int
  rate : Int
  deriving DecidableEq

abbrev Win.val (t : Win) : Value := .agg #[.int .i64 t.kind, .int .i64 t.a, .int .i64 t.b, .int .i64 t.lo, .int .i64 t.hi, .int .i64 t.rate]
def csW (t : Win) : List Value := [.int .i64 t.kind, .int .i64 t.a, .int .i64 t.b, .int .i64 t.lo, .int .i64 t.hi, .int .i64 t.rate]

structure Win.Wf (t : Win) : Prop where
  kind : I64 t.kind
  a : I64 t.a
  b : I64 t.b
  lo : I64 t.lo
  hi : I64 t.hi
  rate : I64 t.rate

theorem Sl.win_at {w : World} {B : Nat} {A : Option Addr} {n cap : Nat} {ts : List Win} (h : Sl csW 6 w B A n cap ts) {k : Nat} (hk : k < n) :
    ∃ b o t, A = some ⟨b, o, none⟩ ∧ b < B ∧ ts[k]? = some t ∧ w.cell? ⟨b, o + k * 6, none⟩ = some (.int .i64 t.kind) ∧ w.cell? ⟨b, o + k * 6 + 1, none⟩ = some (.int .i64 t.a) ∧ w.cell? ⟨b, o + k * 6 + 2, none⟩ = some (.int .i64 t.b) ∧
      w.cell? ⟨b, o + k * 6 + 3, none⟩ = some (.int .i64 t.lo) ∧ w.cell? ⟨b, o + k * 6 + 4, none⟩ = some (.int .i64 t.hi) ∧ w.cell? ⟨b, o + k * 6 + 5, none⟩ = some (.int .i64 t.rate) := by
  obtain ⟨b, o, e, hb, hc⟩ := h.row (by omega)
  have hl : k < ts.length := by rw [h.len]; exact hk
  have hx : ts[k]? = some ts[k] := List.getElem?_eq_getElem hl
  refine ⟨b, o, ts[k], e, hb, hx, ?_, ?_, ?_, ?_, ?_, ?_⟩
  · simpa using hc k _ hx 0 _ rfl
  · exact hc k _ hx 1 _ rfl
  · exact hc k _ hx 2 _ rfl
  · exact hc k _ hx 3 _ rfl
  · exact hc k _ hx 4 _ rfl
  · exact hc k _ hx 5 _ rfl

/-- a window in memory -/
structure WinAt (w : World) (b o : Nat) (t : Win) : Prop where
  c0 : w.cell? ⟨b, o, none⟩ = some (.int .i64 t.kind)
  c1 : w.cell? ⟨b, o + 1, none⟩ = some (.int .i64 t.a)
  c2 : w.cell? ⟨b, o + 2, none⟩ = some (.int .i64 t.b)
  c3 : w.cell? ⟨b, o + 3, none⟩ = some (.int .i64 t.lo)
  c4 : w.cell? ⟨b, o + 4, none⟩ = some (.int .i64 t.hi)
  c5 : w.cell? ⟨b, o + 5, none⟩ = some (.int .i64 t.rate)

theorem Sl.win {w : World} {B : Nat} {A : Option Addr} {n cap : Nat} {ts : List Win} (h : Sl csW 6 w B A n cap ts) {k : Nat} (hk : k < n) :
    ∃ b o t, A = some ⟨b, o, none⟩ ∧ b < B ∧ ts[k]? = some t ∧ ∀ w', Below B w w' → WinAt w' b (o + k * 6) t := by
  obtain ⟨b, o, t, e, hb, ht, c0, c1, c2, c3, c4, c5⟩ := h.win_at hk
  exact ⟨b, o, t, e, hb, ht, fun w' hw => ⟨(hw.cell hb).trans c0, (hw.cell hb).trans c1, (hw.cell hb).trans c2, (hw.cell hb).trans c3, (hw.cell hb).trans c4, (hw.cell hb).trans c5⟩⟩

/-! Numbers -/
def around (n m : Int) : Int := (if n < 0 then -(n + 1) else n) % m
def bound (n m : Int) : Int := around n (2 * m + 1) - m
def pick (l : List Int) (i : Int) (m : Int) : Int := if i < 0 ∨ (l.length : Int) ≤ i then 0 else around (l.getD i.toNat 0) m
def ceil (a b : Int) : Int := a / b + min (a % b) 1

theorem around_lo {n m : Int} (h : 1 ≤ m) : 0 ≤ around n m := Int.emod_nonneg _ (by omega)
theorem around_hi {n m : Int} (h : 1 ≤ m) : around n m < m := Int.emod_lt_of_pos _ (by omega)

theorem ceil_bd {a b : Int} (ha : 0 ≤ a) (hb : 0 ≤ b) : 0 ≤ ceil a b ∧ ceil a b ≤ a + 1 := by
  have h5 : 0 ≤ a / b := Int.ediv_nonneg ha hb
  have h6 : a / b ≤ a := Int.ediv_le_self _ ha
  have h7 : 0 ≤ a % b := by
    by_cases h : b = 0
    · subst h; simpa using ha
    · exact Int.emod_nonneg _ h
  unfold ceil; omega

/-! Windows -/
def Win.key (t : Win) (k a b : Int) : Bool := t.kind == k && t.a == a && t.b == b
def inr (n lo hi : Int) : Bool := decide (lo ≤ n) && decide (n ≤ hi)
/-- well-formed -/
def Win.Formed (t : Win) : Prop :=
  (0 ≤ t.lo ∧ t.lo < t.hi ∧ t.hi ≤ 1000000 ∧ 0 ≤ t.a ∧ t.a ≤ 11) ∧
  ((t.kind = 1 ∧ 0 ≤ t.b ∧ t.b ≤ 8 ∧ 1 ≤ t.rate ∧ t.rate ≤ 1000) ∨ (t.kind = 2 ∧ t.a < t.b ∧ t.b < 12 ∧ 1 ≤ t.rate ∧ t.rate ≤ 1000) ∨ (t.kind = 3 ∧ t.b = 0 ∧ t.rate = 0) ∨ (t.kind = 4 ∧ 0 ≤ t.b ∧ t.b ≤ 31 ∧ t.rate = 0))
instance (t : Win) : Decidable t.Formed := by unfold Win.Formed; infer_instance
def Win.formed (t : Win) : Bool := decide t.Formed
def Win.Before (v w : Win) : Prop := v.lo < w.lo ∨ v.lo = w.lo ∧ (v.kind < w.kind ∨ v.kind = w.kind ∧ (v.a < w.a ∨ v.a = w.a ∧ v.b < w.b))
instance (v w : Win) : Decidable (v.Before w) := by unfold Win.Before; infer_instance
def Win.before (v w : Win) : Bool := decide (v.Before w)
/-- the nodes that a window connects -/
def Win.ends (t : Win) : Int × Int × Bool := if t.kind = 1 then (t.a, 12 + t.b, true) else (t.a, t.b, t.kind == 2)
/-- the hop's end, and whether it can be made -/
def Win.hop (t : Win) (frm dst tick size : Int) : Int × Bool :=
  if t.ends.2.2 = false ∨ ((t.ends.1 ≠ frm ∨ t.ends.2.1 ≠ dst) ∧ (t.ends.1 ≠ dst ∨ t.ends.2.1 ≠ frm)) ∨ 12 ≤ frm then (0, false)
  else (max tick t.lo + ceil size t.rate, decide (max tick t.lo + ceil size t.rate ≤ t.hi))
theorem Win.hop_no {t : Win} {frm dst tick size x y : Int} {L : Bool} (hx : t.ends.1 = x) (hy : t.ends.2.1 = y) (hL : t.ends.2.2 = L) (h : L = false ∨ ((x ≠ frm ∨ y ≠ dst) ∧ (x ≠ dst ∨ y ≠ frm)) ∨ 12 ≤ frm) : t.hop frm dst tick size = (0, false) := by
  subst hx hy hL; unfold Win.hop; rw [if_pos h]
theorem Win.hop_yes {t : Win} {frm dst tick size x y : Int} {L : Bool} (hx : t.ends.1 = x) (hy : t.ends.2.1 = y) (hL : t.ends.2.2 = L) (h : ¬ (L = false ∨ ((x ≠ frm ∨ y ≠ dst) ∧ (x ≠ dst ∨ y ≠ frm)) ∨ 12 ≤ frm)) :
    t.hop frm dst tick size = (max tick t.lo + ceil size t.rate, decide (max tick t.lo + ceil size t.rate ≤ t.hi)) := by
  subst hx hy hL; unfold Win.hop; rw [if_neg h]
theorem Win.link_rate {t : Win} (h : t.Formed) : (t.ends.2.2 = true → 1 ≤ t.rate) ∧ 0 ≤ t.rate := by
  unfold Win.Formed at h
  refine ⟨fun hl => ?_, by omega⟩
  unfold Win.ends at hl
  by_cases h1 : t.kind = 1
  · omega
  · rw [if_neg h1] at hl
    have : t.kind = 2 := by simpa using hl
    omega
/-- the node at the other end -/
def Win.other (t : Win) (node : Int) : Int × Bool :=
  if t.kind = 1 ∧ t.a = node then (12 + t.b, true) else if t.kind = 2 ∧ t.a = node then (t.b, true) else if t.kind = 2 ∧ t.b = node then (t.a, true) else (0, false)

theorem Win.formed_iff (t : Win) : (t.formed = true) = t.Formed := by simp [Win.formed]
theorem Win.before_iff (v w : Win) : (v.before w = true) = v.Before w := by simp [Win.before]
def Win.meet (v w : Win) : Bool := v.key w.kind w.a w.b && decide (v.lo < w.hi) && decide (w.lo < v.hi)

/-! Searches -/
def wz : Win := ⟨0, 0, 0, 0, 0, 0⟩
/-- a window and whether there is one -/
def found (o : Option Win) : Value := .tuple #[(o.getD wz).val, .bool o.isSome]
def isAt (k a b tick : Int) (t : Win) : Bool := t.key k a b && decide (t.lo ≤ tick) && decide (tick < t.hi)
def isNext (k a b tick : Int) (t : Win) : Bool := t.key k a b && decide (tick < t.hi)
def z6 : Array Value := #[.int .i64 0, .int .i64 0, .int .i64 0, .int .i64 0, .int .i64 0, .int .i64 0]

/-- six cells that a store of a window may fill -/
structure Free6 (w : World) (g : Nat) : Prop where
  z0 : w.cell? ⟨g, 0, none⟩ = some (.int .i64 0)
  z1 : w.cell? ⟨g, 1, none⟩ = some (.int .i64 0)
  z2 : w.cell? ⟨g, 2, none⟩ = some (.int .i64 0)
  z3 : w.cell? ⟨g, 3, none⟩ = some (.int .i64 0)
  z4 : w.cell? ⟨g, 4, none⟩ = some (.int .i64 0)
  z5 : w.cell? ⟨g, 5, none⟩ = some (.int .i64 0)
  f0 : w.frozen? ⟨g, 0, none⟩ = false
  f1 : w.frozen? ⟨g, 1, none⟩ = false
  f2 : w.frozen? ⟨g, 2, none⟩ = false
  f3 : w.frozen? ⟨g, 3, none⟩ = false
  f4 : w.frozen? ⟨g, 4, none⟩ = false
  f5 : w.frozen? ⟨g, 5, none⟩ = false
theorem Blk.free6 {w : World} {g : Nat} {t : TypeId} (h : Blk w g t z6) : Free6 w g :=
  ⟨h.cell 0, h.cell 1, h.cell 2, h.cell 3, h.cell 4, h.cell 5, h.frozen 0, h.frozen 1, h.frozen 2, h.frozen 3, h.frozen 4, h.frozen 5⟩

/-- a window stored into six cells of a block from B on -/
theorem below6 {B : Nat} {a w : World} {g : Nat} (h : Below B a w) (hg : B ≤ g) (t : Win) : Below B a
    ((((((w.setCell ⟨g, 0, none⟩ (.int .i64 t.kind)).setCell ⟨g, 1, none⟩ (.int .i64 t.a)).setCell ⟨g, 2, none⟩ (.int .i64 t.b)).setCell ⟨g, 3, none⟩ (.int .i64 t.lo)).setCell ⟨g, 4, none⟩ (.int .i64 t.hi)).setCell ⟨g, 5, none⟩ (.int .i64 t.rate)) :=
  (((((h.setCell hg _).setCell hg _).setCell hg _).setCell hg _).setCell hg _).setCell hg _

/-! Ticks, steps -/
def tick1 (k a b f u : Int) (t : Win) : Int := if t.key k a b = true ∧ max f t.lo < min u t.hi then min u t.hi - max f t.lo else 0
def ticks (k a b f u : Int) (ts : List Win) : Int := ts.foldl (fun n t => n + tick1 k a b f u t) 0
def step1 (frm dst tick size : Int) (s : Int × Bool) (t : Win) : Int × Bool :=
  if (t.hop frm dst tick size).2 = true ∧ (s.2 = false ∨ (t.hop frm dst tick size).1 < s.1) then ((t.hop frm dst tick size).1, true) else s
def stepL (frm dst tick size : Int) (ts : List Win) : Int × Bool := ts.foldl (step1 frm dst tick size) (0, false)

theorem ticks_snoc (k a b f u : Int) (ts : List Win) (t : Win) : ticks k a b f u (ts ++ [t]) = ticks k a b f u ts + tick1 k a b f u t := by simp [ticks, List.foldl_append]
theorem stepL_snoc (frm dst tick size : Int) (ts : List Win) (t : Win) : stepL frm dst tick size (ts ++ [t]) = step1 frm dst tick size (stepL frm dst tick size ts) t := by simp [stepL, List.foldl_append]
theorem tick1_bd {k a b f u : Int} {t : Win} (ht : t.Formed) : 0 ≤ tick1 k a b f u t ∧ tick1 k a b f u t ≤ 1000000 := by
  unfold Win.Formed at ht; unfold tick1; split <;> omega

theorem tick1_yes {k a b f u : Int} {t : Win} (h : t.key k a b = true) : tick1 k a b f u t = if max f t.lo < min u t.hi then min u t.hi - max f t.lo else 0 := by simp [tick1, h]
theorem tick1_no {k a b f u : Int} {t : Win} (h : ¬ t.key k a b = true) : tick1 k a b f u t = 0 := by simp [tick1, h]

theorem ticks_bd {k a b f u : Int} (ts : List Win) (h : ∀ t ∈ ts, t.Formed) : 0 ≤ ticks k a b f u ts ∧ ticks k a b f u ts ≤ ts.length * 1000000 := by
  rw [← List.reverse_reverse ts] at h ⊢
  generalize ts.reverse = l at *
  induction l with
  | nil => simp [ticks]
  | cons t l ih =>
    rw [List.reverse_cons, ticks_snoc]
    have h1 := ih (fun x hx => h x (by rw [List.reverse_cons]; exact List.mem_append.2 (.inl hx)))
    have h2 := tick1_bd (k := k) (a := a) (b := b) (f := f) (u := u) (h t (by simp))
    simp only [List.length_append, List.length_cons, List.length_nil]
    omega
theorem ticks_filter (k a b f u : Int) (ts : List Win) : ticks k a b f u (ts.filter (·.key k a b)) = ticks k a b f u ts := by
  rw [← List.reverse_reverse ts]
  generalize ts.reverse = l
  induction l with
  | nil => rfl
  | cons t l ih =>
    rw [List.reverse_cons, List.filter_append, ticks_snoc]
    by_cases h : t.key k a b = true
    · rw [show [t].filter (·.key k a b) = [t] by simp [h], ticks_snoc, ih]
    · rw [show [t].filter (·.key k a b) = [] by simp [h], List.append_nil, ih, tick1_no h]; omega

/-- a window's cells as a block -/
abbrev Win.arr (t : Win) : Array Value := #[.int .i64 t.kind, .int .i64 t.a, .int .i64 t.b, .int .i64 t.lo, .int .i64 t.hi, .int .i64 t.rate]
theorem Blk.gr6 {w : World} {g H : Nat} {ty : TypeId} {t : Win} (h : Blk w g ty #[.int .i64 t.kind, .int .i64 t.a, .int .i64 t.b, .int .i64 t.lo, .int .i64 t.hi, .int .i64 t.rate]) (hg : g < H) : ∀ w', Below H w w' → WinAt w' g 0 t := fun _ hw =>
  ⟨(hw.cell (p := ⟨g, 0, none⟩) hg).trans (h.cell 0), (hw.cell (p := ⟨g, 0 + 1, none⟩) hg).trans (h.cell 1), (hw.cell (p := ⟨g, 0 + 2, none⟩) hg).trans (h.cell 2), (hw.cell (p := ⟨g, 0 + 3, none⟩) hg).trans (h.cell 3), (hw.cell (p := ⟨g, 0 + 4, none⟩) hg).trans (h.cell 4), (hw.cell (p := ⟨g, 0 + 5, none⟩) hg).trans (h.cell 5)⟩

/-! Sorted -/
def sortedB : List Win → Bool
  | t :: u :: l => !u.before t && sortedB (u :: l)
  | _ => true
theorem sortedB_iff (ts : List Win) : sortedB ts = true ↔ ∀ (j : Nat) (t u : Win), ts[j]? = some t → ts[j + 1]? = some u → ¬ u.Before t := by
  induction ts with
  | nil => simp [sortedB]
  | cons t l ih =>
    cases l with
    | nil => simp [sortedB]
    | cons u l =>
      rw [sortedB, Bool.and_eq_true, ih]
      constructor
      · rintro ⟨h1, h2⟩ j a b ha hb
        cases j with
        | zero => simp at ha hb; subst ha hb; simpa [Win.before] using h1
        | succ j => exact h2 j a b (by simpa using ha) (by simpa using hb)
      · intro h
        exact ⟨by simpa [Win.before] using h 0 t u rfl rfl, fun j a b ha hb => h (j + 1) a b (by simpa using ha) (by simpa using hb)⟩

end Go.Proofs.Ytcljmnbjejcdaaa
