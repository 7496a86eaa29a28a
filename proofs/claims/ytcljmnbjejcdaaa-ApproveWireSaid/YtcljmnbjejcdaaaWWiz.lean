/-
  ApproveWire: the walk, over an array of numbers.
-/
import Derived.Test.YtcljmnbjejcdaaaWWir
import Derived.Test.YtcljmnbjejcdaaaRowB
namespace Go.Proofs.Ytcljmnbjejcdaaa
open Go.ChangeShapes Go.WideShapes Go.ChangeAt Go.RowKit

theorem approveWire_arr (w : World) (A : Option Addr) (n cap : Nat) (zs : List Int) (h : Sl csI 1 w w.heap.size A n cap zs) (hz : ∀ z ∈ zs, I64 z) (hnil : A = none → n = 0 ∧ cap = 0) (ys : List Int) (hl : ys.length = 2) (hw : ∀ z ∈ ys, (Lit.int .u64 z).wf = true) (a : Int) (ha : (Lit.int .u8 a).wf = true) (d : Int) (hd : (Lit.int .i8 d).wf = true) :
    Calls Try.prog 9 #[.slice A n cap, .agg (ys.map (Value.int .u64)).toArray, .int .u8 a, .int .i8 d] w fun e w' => e = .returned (.bool true) ∧ Below w.heap.size w w' := by
  match ys, hl with
  | [y0, y1], _ =>
    obtain ⟨n0, u0⟩ := u64_of (hw y0 (by simp))
    obtain ⟨n1, u1⟩ := u64_of (hw y1 (by simp))
    obtain ⟨b, rfl⟩ := nat_of_u8 ha
    obtain ⟨d1, d2⟩ := bounds_i8 hd
    have := approveWire_any w A n cap zs h hz hnil y0.toNat y1.toNat u0 u1 b.toNat (by have := b.toNat_lt; omega) d d1 d2
    rw [Int.toNat_of_nonneg n0, Int.toNat_of_nonneg n1] at this
    exact this
end Go.Proofs.Ytcljmnbjejcdaaa
