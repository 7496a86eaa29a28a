/-
  What both searches answer, and small laws that both walks share.
-/
import Derived.Test.YtijocgijnbcefaaOrbM
namespace Go.Proofs.Ytijocgijnbcefaa
open Go.ChangeShapes Go.WideShapes Go.ChangeAt Go.RowKit

/-- what both searches answer -/
def ArrSpec (ts : List Win) (c : Nat) (k size : Int) (st : Nat) (a : Int) (l : List Int) (ok : Bool) : Prop :=
  ∃ e, Earl ts c k size e ∧ ((e (12 + st) = -1 ∧ a = 0 ∧ l = [] ∧ ok = false) ∨ (0 ≤ e (12 + st) ∧ a = e (12 + st) ∧ ok = true ∧ ∃ lN, Way ts size e c (12 + st) lN ∧ l = lN.map (fun n : Nat => (n : Int))))

theorem ArrSpec.unique {ts : List Win} {c : Nat} {k size : Int} {st : Nat} {a a' : Int} {l l' : List Int} {ok ok' : Bool} (hF : ∀ t ∈ ts, t.Formed) (hk0 : 0 ≤ k) (hs1 : 1 ≤ size) (h : ArrSpec ts c k size st a l ok) (h' : ArrSpec ts c k size st a' l' ok') :
    a = a' ∧ l = l' ∧ ok = ok' := by
  obtain ⟨e, he, h⟩ := h
  obtain ⟨e', he', h'⟩ := h'
  obtain rfl := he.unique he' hF hk0 hs1
  rcases h with ⟨h1, rfl, rfl, rfl⟩ | ⟨h1, rfl, rfl, lN, h2, rfl⟩
  · rcases h' with ⟨_, rfl, rfl, rfl⟩ | ⟨h3, _⟩
    · exact ⟨rfl, rfl, rfl⟩
    · omega
  · rcases h' with ⟨h3, _⟩ | ⟨_, rfl, rfl, lN', h4, rfl⟩
    · omega
    · exact ⟨rfl, by rw [h2.unique h4], rfl⟩

/-- an answer in memory -/
def ArrRes (ts : List Win) (c : Nat) (k size : Int) (st : Nat) (w : World) (e : Ending) (w' : World) : Prop :=
  ∃ (a : Int) (l : List Int) (ok : Bool) (A : Option Addr) (cap : Nat), ArrSpec ts c k size st a l ok ∧ e = .returned (.tuple #[.int .i64 a, .slice A l.length cap, .bool ok]) ∧ Sl csI 1 w' w'.heap.size A l.length cap l ∧ Below w.heap.size w w'

def Z21 : Array Value := #[.int .i64 0, .int .i64 0, .int .i64 0, .int .i64 0, .int .i64 0, .int .i64 0, .int .i64 0, .int .i64 0, .int .i64 0, .int .i64 0, .int .i64 0, .int .i64 0, .int .i64 0, .int .i64 0, .int .i64 0, .int .i64 0, .int .i64 0, .int .i64 0, .int .i64 0, .int .i64 0, .int .i64 0]

theorem infoI : (Try.prog.info? 3).map (fun i => (i.zero, i.size, i.bytes)) = some (some (.int .i64 0), 1, 8) := by kernel_rfl

theorem own_arr {w : World} {base : Nat} {e : TypeId} {g n cap : Nat} {l : List Nat} (h : w.ownsRow base e 1 (.slice (some ⟨g, 0, none⟩) n cap) n ((l.reverse).map (fun q : Nat => Value.int .i64 q))) (hn : 0 < n) :
    Arr w g n (fun q => .int .i64 (((l.reverse[q]?).getD 0 : Nat) : Int)) ∧ n ≤ cap ∧ cap ≤ 9223372036854775807 := by
  have hl := h.1
  refine ⟨⟨(h.lt g rfl).2, fun i hi => ?_, h.frozenAt⟩, ?_⟩
  · rw [h.cellAt i (by omega)]
    simp at hl
    have : i < l.reverse.length := by simp; omega
    rw [List.getElem?_map, List.getElem?_eq_getElem this]
    rfl
  · rcases h.2 with ⟨_, h0⟩ | ⟨g', cap', cur, h', _, _, h1, h2, _⟩
    · omega
    · simp only [Value.slice.injEq] at h'
      obtain ⟨_, _, rfl⟩ := h'
      exact ⟨h1, h2⟩

theorem rev_sl {w : World} {g n cap : Nat} {l : List Nat} (h : Arr w g n (fun q => .int .i64 (((l.reverse[n - 1 - q]?).getD 0 : Nat) : Int))) (hn : n ≤ cap) (hc : cap ≤ 9223372036854775807) (hl : l.length = n) :
    Sl csI 1 w w.heap.size (some ⟨g, 0, none⟩) n cap (l.map (fun q : Nat => (q : Int))) := by
  refine ⟨by simpa using hl, hn, hc, fun h0 => ⟨g, 0, rfl, h.lt, fun i x hx j v hv => ?_⟩⟩
  have hj : j < 1 := by simpa [csI] using (List.getElem?_eq_some_iff.1 hv).1
  obtain rfl : j = 0 := by omega
  simp [csI] at hv
  subst hv
  have hi : i < l.length := by simpa using (List.getElem?_eq_some_iff.1 hx).1
  rw [show 0 + i * 1 + 0 = i by omega, h.cell i (by omega)]
  rw [List.getElem?_map, List.getElem?_eq_getElem hi] at hx
  simp at hx
  rw [List.getElem?_reverse (by omega), show l.length - 1 - (n - 1 - i) = i by omega, List.getElem?_eq_getElem hi]
  simp [hx]

end Go.Proofs.Ytijocgijnbcefaa
