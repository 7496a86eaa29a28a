/-
  ApproveBinds: the walk, over an array of numbers.
-/
import Derived.Test.YtcljmnbjejcdaaaWBnd
import Derived.Test.YtcljmnbjejcdaaaRowB
namespace Go.Proofs.Ytcljmnbjejcdaaa
open Go.ChangeShapes Go.WideShapes Go.ChangeAt Go.RowKit

theorem approveBinds_arr (w : World) (A : Option Addr) (n cap : Nat) (raw : List Per) (h : Sl csP 2 w w.heap.size A n cap raw) (hp : ∀ p ∈ raw, U64 p.secret) (hC : ∀ p ∈ raw, I64 p.centre) (i1 : Int) (hi1 : I64 i1) (i2 : Int) (hi2 : I64 i2) (C : Option Addr) (m c : Nat) (xs : List UInt8) (hs : Sl csB 1 w w.heap.size C m c xs) (hnil : C = none → m = 0 ∧ c = 0) (k : Nat) (hk : k ≤ 65535) (zs : List Int) (hl : zs.length = 8) (hw : ∀ z ∈ zs, (Lit.int .u8 z).wf = true) :
    Calls Try.prog 8 #[.slice A n cap, .int .i64 i1, .int .i64 i2, .slice C m c, .int .u16 (k : Int), .agg (zs.map (Value.int .u8)).toArray] w fun e w' => e = .returned (.bool true) ∧ Below w.heap.size w w' := by
  obtain ⟨l, h1, h2⟩ := bytes_of_wf hw
  rw [h2]
  exact approveBinds_any w A n cap raw h hp hC i1 hi1 i2 hi2 C m c xs hs hnil k hk l (h1.trans hl)
end Go.Proofs.Ytcljmnbjejcdaaa
