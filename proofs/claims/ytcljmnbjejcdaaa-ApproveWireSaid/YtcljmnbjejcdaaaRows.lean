/-
  No cell of these rows narrows 'for every input' (looked for: loops, veiled, ifaces, maps, wideKeys, modest, calm, conditions, laid).
  DERIVED. THE GIVEN ROWS OF THIS SEAT. 7 by the template 'for every input the law returns true; each argument reads behind the call as it read before'; 0 by the template 'total and deterministic' (their statements: YtcljmnbjejcdaaaTotals.lean).
  GIVEN WITH THE SEED: the statements are not yours to turn. If you find one false, say at which input.
  Laid BY PROGRAM, IN A SANDBOX (cutbox-rows.mjs): the forced cells as the released guide's own fill.sh prints them over the translation 5999273d7303db95… (all of the seat's roots in one cut). By AI agents, Wed Nov 11 2026. No macro, syntax, notation, axiom, sorry.
-/
import Derived.Test.YtcljmnbjejcdaaaChecked
import GoSem.Claim
import GoSem.ClaimJoined
import GoSem.ClaimMapViews
import Derived.JoinedTies
import Derived.KernelRfl
namespace Go.Proofs.Ytcljmnbjejcdaaa
/- THE CELL 'sum', in the pinned program and in every row, IS THE sha256 OF THE DUMP (.gsa) THAT YtcljmnbjejcdaaaProg.lean LOADS. Nothing in Lean hashes anything: it is a label: what it is worth is what the hold of that sum in a sandbox is worth. -/
noncomputable def Try.pinned : Pinned := { name := "ytcljmnbjejcdaaa", sum := "5999273d7303db95ae435d34defd0498c1c3c744e9aafa6f6cd2f6b73ffbce09", checked := Try.checked }
namespace Rows
def none {H : Type} : Left H := { results := [], args := [] }

/-- 'perigeelaw21.ApproveSigns': WHATEVER THE INPUT: true; the input reads as it did. -/
def approveSignsSpec : ChangeSpec := { name := "approveSigns", fn := fun _ => fun
  | [d1, d2, d3, d4] => { results := [.lit (.bool true)], args := [d1, d2, d3, d4] }
  | _ => none }
def approveSignsRow : OpenClaim := { program := "ytcljmnbjejcdaaa", sum := "5999273d7303db95ae435d34defd0498c1c3c744e9aafa6f6cd2f6b73ffbce09", func := "perigee/perigeelaw21.ApproveSigns", spec := "approveSigns", unfollowed := true, recurses := true, apart := false }
def ApproveSignsSaid : Prop := approveSignsRow.holds Try.pinned (OpenSpec.ofChange approveSignsSpec)

/-- ITS FALSE NEIGHBOUR: 'it returns false'. Refute it at one input. -/
def approveSignsWrong : ChangeSpec := { name := "approveSigns", fn := fun _ => fun
  | [d1, d2, d3, d4] => { results := [.lit (.bool false)], args := [d1, d2, d3, d4] }
  | _ => none }
def ApproveSignsWrongFalsely : Prop := approveSignsRow.holds Try.pinned (OpenSpec.ofChange approveSignsWrong)

/-- 'perigeelaw21.ApproveChecks': WHATEVER THE INPUT: true; the input reads as it did. -/
def approveChecksSpec : ChangeSpec := { name := "approveChecks", fn := fun _ => fun
  | [d1, d2, d3] => { results := [.lit (.bool true)], args := [d1, d2, d3] }
  | _ => none }
def approveChecksRow : OpenClaim := { program := "ytcljmnbjejcdaaa", sum := "5999273d7303db95ae435d34defd0498c1c3c744e9aafa6f6cd2f6b73ffbce09", func := "perigee/perigeelaw21.ApproveChecks", spec := "approveChecks", unfollowed := true, recurses := true, apart := false }
def ApproveChecksSaid : Prop := approveChecksRow.holds Try.pinned (OpenSpec.ofChange approveChecksSpec)

/-- ITS FALSE NEIGHBOUR: 'it returns false'. Refute it at one input. -/
def approveChecksWrong : ChangeSpec := { name := "approveChecks", fn := fun _ => fun
  | [d1, d2, d3] => { results := [.lit (.bool false)], args := [d1, d2, d3] }
  | _ => none }
def ApproveChecksWrongFalsely : Prop := approveChecksRow.holds Try.pinned (OpenSpec.ofChange approveChecksWrong)

/-- 'perigeelaw21.ApproveSigned': WHATEVER THE INPUT: true; the input reads as it did. -/
def approveSignedSpec : ChangeSpec := { name := "approveSigned", fn := fun _ => fun
  | [d1, d2, d3, d4] => { results := [.lit (.bool true)], args := [d1, d2, d3, d4] }
  | _ => none }
def approveSignedRow : OpenClaim := { program := "ytcljmnbjejcdaaa", sum := "5999273d7303db95ae435d34defd0498c1c3c744e9aafa6f6cd2f6b73ffbce09", func := "perigee/perigeelaw21.ApproveSigned", spec := "approveSigned", unfollowed := true, recurses := true, apart := false }
def ApproveSignedSaid : Prop := approveSignedRow.holds Try.pinned (OpenSpec.ofChange approveSignedSpec)

/-- ITS FALSE NEIGHBOUR: 'it returns false'. Refute it at one input. -/
def approveSignedWrong : ChangeSpec := { name := "approveSigned", fn := fun _ => fun
  | [d1, d2, d3, d4] => { results := [.lit (.bool false)], args := [d1, d2, d3, d4] }
  | _ => none }
def ApproveSignedWrongFalsely : Prop := approveSignedRow.holds Try.pinned (OpenSpec.ofChange approveSignedWrong)

/-- 'perigeelaw21.ApproveFourEyes': WHATEVER THE INPUT: true; the input reads as it did. -/
def approveFourEyesSpec : ChangeSpec := { name := "approveFourEyes", fn := fun _ => fun
  | [d1, d2, d3] => { results := [.lit (.bool true)], args := [d1, d2, d3] }
  | _ => none }
def approveFourEyesRow : OpenClaim := { program := "ytcljmnbjejcdaaa", sum := "5999273d7303db95ae435d34defd0498c1c3c744e9aafa6f6cd2f6b73ffbce09", func := "perigee/perigeelaw21.ApproveFourEyes", spec := "approveFourEyes", unfollowed := true, recurses := true, apart := false }
def ApproveFourEyesSaid : Prop := approveFourEyesRow.holds Try.pinned (OpenSpec.ofChange approveFourEyesSpec)

/-- ITS FALSE NEIGHBOUR: 'it returns false'. Refute it at one input. -/
def approveFourEyesWrong : ChangeSpec := { name := "approveFourEyes", fn := fun _ => fun
  | [d1, d2, d3] => { results := [.lit (.bool false)], args := [d1, d2, d3] }
  | _ => none }
def ApproveFourEyesWrongFalsely : Prop := approveFourEyesRow.holds Try.pinned (OpenSpec.ofChange approveFourEyesWrong)

/-- 'perigeelaw21.ApproveOrder': WHATEVER THE INPUT: true; the input reads as it did. -/
def approveOrderSpec : ChangeSpec := { name := "approveOrder", fn := fun _ => fun
  | [d1, d2, d3, d4] => { results := [.lit (.bool true)], args := [d1, d2, d3, d4] }
  | _ => none }
def approveOrderRow : OpenClaim := { program := "ytcljmnbjejcdaaa", sum := "5999273d7303db95ae435d34defd0498c1c3c744e9aafa6f6cd2f6b73ffbce09", func := "perigee/perigeelaw21.ApproveOrder", spec := "approveOrder", unfollowed := true, recurses := true, apart := false }
def ApproveOrderSaid : Prop := approveOrderRow.holds Try.pinned (OpenSpec.ofChange approveOrderSpec)

/-- ITS FALSE NEIGHBOUR: 'it returns false'. Refute it at one input. -/
def approveOrderWrong : ChangeSpec := { name := "approveOrder", fn := fun _ => fun
  | [d1, d2, d3, d4] => { results := [.lit (.bool false)], args := [d1, d2, d3, d4] }
  | _ => none }
def ApproveOrderWrongFalsely : Prop := approveOrderRow.holds Try.pinned (OpenSpec.ofChange approveOrderWrong)

/-- 'perigeelaw21.ApproveBinds': WHATEVER THE INPUT: true; the input reads as it did. -/
def approveBindsSpec : ChangeSpec := { name := "approveBinds", fn := fun _ => fun
  | [d1, d2, d3, d4, d5, d6] => { results := [.lit (.bool true)], args := [d1, d2, d3, d4, d5, d6] }
  | _ => none }
def approveBindsRow : OpenClaim := { program := "ytcljmnbjejcdaaa", sum := "5999273d7303db95ae435d34defd0498c1c3c744e9aafa6f6cd2f6b73ffbce09", func := "perigee/perigeelaw21.ApproveBinds", spec := "approveBinds", unfollowed := true, recurses := true, apart := false }
def ApproveBindsSaid : Prop := approveBindsRow.holds Try.pinned (OpenSpec.ofChange approveBindsSpec)

/-- ITS FALSE NEIGHBOUR: 'it returns false'. Refute it at one input. -/
def approveBindsWrong : ChangeSpec := { name := "approveBinds", fn := fun _ => fun
  | [d1, d2, d3, d4, d5, d6] => { results := [.lit (.bool false)], args := [d1, d2, d3, d4, d5, d6] }
  | _ => none }
def ApproveBindsWrongFalsely : Prop := approveBindsRow.holds Try.pinned (OpenSpec.ofChange approveBindsWrong)

/-- 'perigeelaw21.ApproveWire': WHATEVER THE INPUT: true; the input reads as it did. -/
def approveWireSpec : ChangeSpec := { name := "approveWire", fn := fun _ => fun
  | [d1, d2, d3, d4] => { results := [.lit (.bool true)], args := [d1, d2, d3, d4] }
  | _ => none }
def approveWireRow : OpenClaim := { program := "ytcljmnbjejcdaaa", sum := "5999273d7303db95ae435d34defd0498c1c3c744e9aafa6f6cd2f6b73ffbce09", func := "perigee/perigeelaw21.ApproveWire", spec := "approveWire", unfollowed := true, recurses := true, apart := false }
def ApproveWireSaid : Prop := approveWireRow.holds Try.pinned (OpenSpec.ofChange approveWireSpec)

/-- ITS FALSE NEIGHBOUR: 'it returns false'. Refute it at one input. -/
def approveWireWrong : ChangeSpec := { name := "approveWire", fn := fun _ => fun
  | [d1, d2, d3, d4] => { results := [.lit (.bool false)], args := [d1, d2, d3, d4] }
  | _ => none }
def ApproveWireWrongFalsely : Prop := approveWireRow.holds Try.pinned (OpenSpec.ofChange approveWireWrong)

/- THE SECOND FORM. 'bulk': how many values and letters a reading holds, each counted each time it is reached (what is shared counts as often as it is met; a slice's spare places count too). A statement '..UptoSaid' is the law's where the arguments, and the package variables that the reading takes, are together of bulk at most 1048576: NARROWER than '..Said'. Prove '..Said' where nothing that the law and all that it calls make is longer than what came in: it says more and counts as full. Else prove '..UptoSaid'. A law counts once. -/
mutual
def uptoBulk {H : Type} : DataW H → Nat
  | .lit (.string bytes) => bytes.length + 1
  | .lit _ => 1
  | .nil => 1
  | .ptr d => uptoBulk d + 1
  | .slice elems spare => uptoBulkAll elems + uptoBulkAll spare + 1
  | .agg parts => uptoBulkAll parts + 1
  | .iface _ d => uptoBulk d + 1
  | .map entries => uptoBulkEntries entries + 1
  | .held _ => 1
def uptoBulkAll {H : Type} : List (DataW H) → Nat
  | [] => 0
  | d :: r => uptoBulk d + uptoBulkAll r
def uptoBulkEntries {H : Type} : List (Lit × DataW H) → Nat
  | [] => 0
  | x :: r => uptoBulkEntry x + uptoBulkEntries r
def uptoBulkEntry {H : Type} : Lit × DataW H → Nat
  | (.string bytes, d) => bytes.length + uptoBulk d + 1
  | (_, d) => uptoBulk d + 1
 end
def uptoSmall : (H : Type) → List (DataW H) → Bool := fun _ ds => decide (uptoBulkAll ds ≤ 1048576)
def OpenSpec.upto (s : _root_.Go.ChangeSpec) : _root_.Go.OpenSpec := { _root_.Go.OpenSpec.ofChange s with cond := some uptoSmall }

/-- 'perigeelaw21.ApproveSigns', WHERE WHAT IT READS IS OF BULK AT MOST 1048576: true; the input reads as it did. -/
def approveSignsUptoRow : OpenClaim := { program := "ytcljmnbjejcdaaa", sum := "5999273d7303db95ae435d34defd0498c1c3c744e9aafa6f6cd2f6b73ffbce09", func := "perigee/perigeelaw21.ApproveSigns", spec := "approveSigns", unfollowed := true, recurses := true, apart := false, narrowed := true }
def ApproveSignsUptoSaid : Prop := approveSignsUptoRow.holds Try.pinned (OpenSpec.upto approveSignsSpec)

/-- 'perigeelaw21.ApproveChecks', WHERE WHAT IT READS IS OF BULK AT MOST 1048576: true; the input reads as it did. -/
def approveChecksUptoRow : OpenClaim := { program := "ytcljmnbjejcdaaa", sum := "5999273d7303db95ae435d34defd0498c1c3c744e9aafa6f6cd2f6b73ffbce09", func := "perigee/perigeelaw21.ApproveChecks", spec := "approveChecks", unfollowed := true, recurses := true, apart := false, narrowed := true }
def ApproveChecksUptoSaid : Prop := approveChecksUptoRow.holds Try.pinned (OpenSpec.upto approveChecksSpec)

/-- 'perigeelaw21.ApproveSigned', WHERE WHAT IT READS IS OF BULK AT MOST 1048576: true; the input reads as it did. -/
def approveSignedUptoRow : OpenClaim := { program := "ytcljmnbjejcdaaa", sum := "5999273d7303db95ae435d34defd0498c1c3c744e9aafa6f6cd2f6b73ffbce09", func := "perigee/perigeelaw21.ApproveSigned", spec := "approveSigned", unfollowed := true, recurses := true, apart := false, narrowed := true }
def ApproveSignedUptoSaid : Prop := approveSignedUptoRow.holds Try.pinned (OpenSpec.upto approveSignedSpec)

/-- 'perigeelaw21.ApproveFourEyes', WHERE WHAT IT READS IS OF BULK AT MOST 1048576: true; the input reads as it did. -/
def approveFourEyesUptoRow : OpenClaim := { program := "ytcljmnbjejcdaaa", sum := "5999273d7303db95ae435d34defd0498c1c3c744e9aafa6f6cd2f6b73ffbce09", func := "perigee/perigeelaw21.ApproveFourEyes", spec := "approveFourEyes", unfollowed := true, recurses := true, apart := false, narrowed := true }
def ApproveFourEyesUptoSaid : Prop := approveFourEyesUptoRow.holds Try.pinned (OpenSpec.upto approveFourEyesSpec)

/-- 'perigeelaw21.ApproveOrder', WHERE WHAT IT READS IS OF BULK AT MOST 1048576: true; the input reads as it did. -/
def approveOrderUptoRow : OpenClaim := { program := "ytcljmnbjejcdaaa", sum := "5999273d7303db95ae435d34defd0498c1c3c744e9aafa6f6cd2f6b73ffbce09", func := "perigee/perigeelaw21.ApproveOrder", spec := "approveOrder", unfollowed := true, recurses := true, apart := false, narrowed := true }
def ApproveOrderUptoSaid : Prop := approveOrderUptoRow.holds Try.pinned (OpenSpec.upto approveOrderSpec)

/-- 'perigeelaw21.ApproveBinds', WHERE WHAT IT READS IS OF BULK AT MOST 1048576: true; the input reads as it did. -/
def approveBindsUptoRow : OpenClaim := { program := "ytcljmnbjejcdaaa", sum := "5999273d7303db95ae435d34defd0498c1c3c744e9aafa6f6cd2f6b73ffbce09", func := "perigee/perigeelaw21.ApproveBinds", spec := "approveBinds", unfollowed := true, recurses := true, apart := false, narrowed := true }
def ApproveBindsUptoSaid : Prop := approveBindsUptoRow.holds Try.pinned (OpenSpec.upto approveBindsSpec)

/-- 'perigeelaw21.ApproveWire', WHERE WHAT IT READS IS OF BULK AT MOST 1048576: true; the input reads as it did. -/
def approveWireUptoRow : OpenClaim := { program := "ytcljmnbjejcdaaa", sum := "5999273d7303db95ae435d34defd0498c1c3c744e9aafa6f6cd2f6b73ffbce09", func := "perigee/perigeelaw21.ApproveWire", spec := "approveWire", unfollowed := true, recurses := true, apart := false, narrowed := true }
def ApproveWireUptoSaid : Prop := approveWireUptoRow.holds Try.pinned (OpenSpec.upto approveWireSpec)

end Rows
end Go.Proofs.Ytcljmnbjejcdaaa
