/-
  No cell of these rows narrows 'for every input' (looked for: loops, veiled, ifaces, maps, wideKeys, modest, calm, conditions, laid).
  DERIVED. THE GIVEN ROWS OF THIS SEAT. 10 by the template 'for every input the law returns true; each argument reads behind the call as it read before'; 0 by the template 'total and deterministic' (their statements: YtijocgijnbcefaaTotals.lean).
  GIVEN WITH THE SEED: the statements are not yours to turn. If you find one false, say at which input.
  Laid BY PROGRAM, IN A SANDBOX (cutbox-rows.mjs): the forced cells as the released guide's own fill.sh prints them over the translation 51eeaa9ddd34c5f6… (all of the seat's roots in one cut). By AI agents, Wed Nov 11 2026. No macro, syntax, notation, axiom, sorry.
-/
import Derived.Test.YtijocgijnbcefaaChecked
import GoSem.Claim
import GoSem.ClaimJoined
import GoSem.ClaimMapViews
import Derived.JoinedTies
import Derived.KernelRfl
namespace Go.Proofs.Ytijocgijnbcefaa
/- THE CELL 'sum', in the pinned program and in every row, IS THE sha256 OF THE DUMP (.gsa) THAT YtijocgijnbcefaaProg.lean LOADS. Nothing in Lean hashes anything: it is a label: what it is worth is what the hold of that sum in a sandbox is worth. -/
noncomputable def Try.pinned : Pinned := { name := "ytijocgijnbcefaa", sum := "51eeaa9ddd34c5f67a672fdb928bae126bbc1787f4bbe4d1489eefa0155c5a73", checked := Try.checked }
namespace Rows
def none {H : Type} : Left H := { results := [], args := [] }

/-- 'perigeelaw09.OrbitCheck': WHATEVER THE INPUT: true; the input reads as it did. -/
def orbitCheckSpec : ChangeSpec := { name := "orbitCheck", fn := fun _ => fun
  | [d] => { results := [.lit (.bool true)], args := [d] }
  | _ => none }
def orbitCheckRow : OpenClaim := { program := "ytijocgijnbcefaa", sum := "51eeaa9ddd34c5f67a672fdb928bae126bbc1787f4bbe4d1489eefa0155c5a73", func := "perigee/perigeelaw09.OrbitCheck", spec := "orbitCheck", unfollowed := true, recurses := true, plainKeys := false, apart := false }
def OrbitCheckSaid : Prop := orbitCheckRow.holds Try.pinned (OpenSpec.ofChange orbitCheckSpec)

/-- ITS FALSE NEIGHBOUR: 'it returns false'. Refute it at one input. -/
def orbitCheckWrong : ChangeSpec := { name := "orbitCheck", fn := fun _ => fun
  | [d] => { results := [.lit (.bool false)], args := [d] }
  | _ => none }
def OrbitCheckWrongFalsely : Prop := orbitCheckRow.holds Try.pinned (OpenSpec.ofChange orbitCheckWrong)

/-- 'perigeelaw09.OrbitTables': WHATEVER THE INPUT: true; the input reads as it did. -/
def orbitTablesSpec : ChangeSpec := { name := "orbitTables", fn := fun _ => fun
  | [d1, d2] => { results := [.lit (.bool true)], args := [d1, d2] }
  | _ => none }
def orbitTablesRow : OpenClaim := { program := "ytijocgijnbcefaa", sum := "51eeaa9ddd34c5f67a672fdb928bae126bbc1787f4bbe4d1489eefa0155c5a73", func := "perigee/perigeelaw09.OrbitTables", spec := "orbitTables", unfollowed := true, recurses := true, plainKeys := false, apart := false }
def OrbitTablesSaid : Prop := orbitTablesRow.holds Try.pinned (OpenSpec.ofChange orbitTablesSpec)

/-- ITS FALSE NEIGHBOUR: 'it returns false'. Refute it at one input. -/
def orbitTablesWrong : ChangeSpec := { name := "orbitTables", fn := fun _ => fun
  | [d1, d2] => { results := [.lit (.bool false)], args := [d1, d2] }
  | _ => none }
def OrbitTablesWrongFalsely : Prop := orbitTablesRow.holds Try.pinned (OpenSpec.ofChange orbitTablesWrong)

/-- 'perigeelaw09.OrbitAt': WHATEVER THE INPUT: true; the input reads as it did. -/
def orbitAtSpec : ChangeSpec := { name := "orbitAt", fn := fun _ => fun
  | [d1, d2] => { results := [.lit (.bool true)], args := [d1, d2] }
  | _ => none }
def orbitAtRow : OpenClaim := { program := "ytijocgijnbcefaa", sum := "51eeaa9ddd34c5f67a672fdb928bae126bbc1787f4bbe4d1489eefa0155c5a73", func := "perigee/perigeelaw09.OrbitAt", spec := "orbitAt", unfollowed := true, recurses := true, plainKeys := false, apart := false }
def OrbitAtSaid : Prop := orbitAtRow.holds Try.pinned (OpenSpec.ofChange orbitAtSpec)

/-- ITS FALSE NEIGHBOUR: 'it returns false'. Refute it at one input. -/
def orbitAtWrong : ChangeSpec := { name := "orbitAt", fn := fun _ => fun
  | [d1, d2] => { results := [.lit (.bool false)], args := [d1, d2] }
  | _ => none }
def OrbitAtWrongFalsely : Prop := orbitAtRow.holds Try.pinned (OpenSpec.ofChange orbitAtWrong)

/-- 'perigeelaw09.OrbitTicks': WHATEVER THE INPUT: true; the input reads as it did. -/
def orbitTicksSpec : ChangeSpec := { name := "orbitTicks", fn := fun _ => fun
  | [d1, d2] => { results := [.lit (.bool true)], args := [d1, d2] }
  | _ => none }
def orbitTicksRow : OpenClaim := { program := "ytijocgijnbcefaa", sum := "51eeaa9ddd34c5f67a672fdb928bae126bbc1787f4bbe4d1489eefa0155c5a73", func := "perigee/perigeelaw09.OrbitTicks", spec := "orbitTicks", unfollowed := true, recurses := true, plainKeys := false, apart := false }
def OrbitTicksSaid : Prop := orbitTicksRow.holds Try.pinned (OpenSpec.ofChange orbitTicksSpec)

/-- ITS FALSE NEIGHBOUR: 'it returns false'. Refute it at one input. -/
def orbitTicksWrong : ChangeSpec := { name := "orbitTicks", fn := fun _ => fun
  | [d1, d2] => { results := [.lit (.bool false)], args := [d1, d2] }
  | _ => none }
def OrbitTicksWrongFalsely : Prop := orbitTicksRow.holds Try.pinned (OpenSpec.ofChange orbitTicksWrong)

/-- 'perigeelaw09.OrbitArrival': WHATEVER THE INPUT: true; the input reads as it did. -/
def orbitArrivalSpec : ChangeSpec := { name := "orbitArrival", fn := fun _ => fun
  | [d1, d2, d3, d4, d5] => { results := [.lit (.bool true)], args := [d1, d2, d3, d4, d5] }
  | _ => none }
def orbitArrivalRow : OpenClaim := { program := "ytijocgijnbcefaa", sum := "51eeaa9ddd34c5f67a672fdb928bae126bbc1787f4bbe4d1489eefa0155c5a73", func := "perigee/perigeelaw09.OrbitArrival", spec := "orbitArrival", unfollowed := true, recurses := true, plainKeys := false, apart := false }
def OrbitArrivalSaid : Prop := orbitArrivalRow.holds Try.pinned (OpenSpec.ofChange orbitArrivalSpec)

/-- ITS FALSE NEIGHBOUR: 'it returns false'. Refute it at one input. -/
def orbitArrivalWrong : ChangeSpec := { name := "orbitArrival", fn := fun _ => fun
  | [d1, d2, d3, d4, d5] => { results := [.lit (.bool false)], args := [d1, d2, d3, d4, d5] }
  | _ => none }
def OrbitArrivalWrongFalsely : Prop := orbitArrivalRow.holds Try.pinned (OpenSpec.ofChange orbitArrivalWrong)

/-- 'perigeelaw09.OrbitWay': WHATEVER THE INPUT: true; the input reads as it did. -/
def orbitWaySpec : ChangeSpec := { name := "orbitWay", fn := fun _ => fun
  | [d1, d2, d3, d4, d5] => { results := [.lit (.bool true)], args := [d1, d2, d3, d4, d5] }
  | _ => none }
def orbitWayRow : OpenClaim := { program := "ytijocgijnbcefaa", sum := "51eeaa9ddd34c5f67a672fdb928bae126bbc1787f4bbe4d1489eefa0155c5a73", func := "perigee/perigeelaw09.OrbitWay", spec := "orbitWay", unfollowed := true, recurses := true, plainKeys := false, apart := false }
def OrbitWaySaid : Prop := orbitWayRow.holds Try.pinned (OpenSpec.ofChange orbitWaySpec)

/-- ITS FALSE NEIGHBOUR: 'it returns false'. Refute it at one input. -/
def orbitWayWrong : ChangeSpec := { name := "orbitWay", fn := fun _ => fun
  | [d1, d2, d3, d4, d5] => { results := [.lit (.bool false)], args := [d1, d2, d3, d4, d5] }
  | _ => none }
def OrbitWayWrongFalsely : Prop := orbitWayRow.holds Try.pinned (OpenSpec.ofChange orbitWayWrong)

/-- 'perigeelaw09.OrbitLater': WHATEVER THE INPUT: true; the input reads as it did. -/
def orbitLaterSpec : ChangeSpec := { name := "orbitLater", fn := fun _ => fun
  | [d1, d2, d3, d4, d5, d6, d7] => { results := [.lit (.bool true)], args := [d1, d2, d3, d4, d5, d6, d7] }
  | _ => none }
def orbitLaterRow : OpenClaim := { program := "ytijocgijnbcefaa", sum := "51eeaa9ddd34c5f67a672fdb928bae126bbc1787f4bbe4d1489eefa0155c5a73", func := "perigee/perigeelaw09.OrbitLater", spec := "orbitLater", unfollowed := true, recurses := true, plainKeys := false, apart := false }
def OrbitLaterSaid : Prop := orbitLaterRow.holds Try.pinned (OpenSpec.ofChange orbitLaterSpec)

/-- ITS FALSE NEIGHBOUR: 'it returns false'. Refute it at one input. -/
def orbitLaterWrong : ChangeSpec := { name := "orbitLater", fn := fun _ => fun
  | [d1, d2, d3, d4, d5, d6, d7] => { results := [.lit (.bool false)], args := [d1, d2, d3, d4, d5, d6, d7] }
  | _ => none }
def OrbitLaterWrongFalsely : Prop := orbitLaterRow.holds Try.pinned (OpenSpec.ofChange orbitLaterWrong)

/-- 'perigeelaw09.OrbitFewer': WHATEVER THE INPUT: true; the input reads as it did. -/
def orbitFewerSpec : ChangeSpec := { name := "orbitFewer", fn := fun _ => fun
  | [d1, d2, d3, d4, d5, d6] => { results := [.lit (.bool true)], args := [d1, d2, d3, d4, d5, d6] }
  | _ => none }
def orbitFewerRow : OpenClaim := { program := "ytijocgijnbcefaa", sum := "51eeaa9ddd34c5f67a672fdb928bae126bbc1787f4bbe4d1489eefa0155c5a73", func := "perigee/perigeelaw09.OrbitFewer", spec := "orbitFewer", unfollowed := true, recurses := true, plainKeys := false, apart := false }
def OrbitFewerSaid : Prop := orbitFewerRow.holds Try.pinned (OpenSpec.ofChange orbitFewerSpec)

/-- ITS FALSE NEIGHBOUR: 'it returns false'. Refute it at one input. -/
def orbitFewerWrong : ChangeSpec := { name := "orbitFewer", fn := fun _ => fun
  | [d1, d2, d3, d4, d5, d6] => { results := [.lit (.bool false)], args := [d1, d2, d3, d4, d5, d6] }
  | _ => none }
def OrbitFewerWrongFalsely : Prop := orbitFewerRow.holds Try.pinned (OpenSpec.ofChange orbitFewerWrong)

/-- 'perigeelaw09.OrbitPeriods': WHATEVER THE INPUT: true; the input reads as it did. -/
def orbitPeriodsSpec : ChangeSpec := { name := "orbitPeriods", fn := fun _ => fun
  | [d1, d2] => { results := [.lit (.bool true)], args := [d1, d2] }
  | _ => none }
def orbitPeriodsRow : OpenClaim := { program := "ytijocgijnbcefaa", sum := "51eeaa9ddd34c5f67a672fdb928bae126bbc1787f4bbe4d1489eefa0155c5a73", func := "perigee/perigeelaw09.OrbitPeriods", spec := "orbitPeriods", unfollowed := true, recurses := true, plainKeys := false, apart := false }
def OrbitPeriodsSaid : Prop := orbitPeriodsRow.holds Try.pinned (OpenSpec.ofChange orbitPeriodsSpec)

/-- ITS FALSE NEIGHBOUR: 'it returns false'. Refute it at one input. -/
def orbitPeriodsWrong : ChangeSpec := { name := "orbitPeriods", fn := fun _ => fun
  | [d1, d2] => { results := [.lit (.bool false)], args := [d1, d2] }
  | _ => none }
def OrbitPeriodsWrongFalsely : Prop := orbitPeriodsRow.holds Try.pinned (OpenSpec.ofChange orbitPeriodsWrong)

/-- 'perigeelaw09.OrbitPlaces': WHATEVER THE INPUT: true; the input reads as it did. -/
def orbitPlacesSpec : ChangeSpec := { name := "orbitPlaces", fn := fun _ => fun
  | [d1, d2, d3, d4] => { results := [.lit (.bool true)], args := [d1, d2, d3, d4] }
  | _ => none }
def orbitPlacesRow : OpenClaim := { program := "ytijocgijnbcefaa", sum := "51eeaa9ddd34c5f67a672fdb928bae126bbc1787f4bbe4d1489eefa0155c5a73", func := "perigee/perigeelaw09.OrbitPlaces", spec := "orbitPlaces", unfollowed := true, recurses := true, plainKeys := false, apart := false }
def OrbitPlacesSaid : Prop := orbitPlacesRow.holds Try.pinned (OpenSpec.ofChange orbitPlacesSpec)

/-- ITS FALSE NEIGHBOUR: 'it returns false'. Refute it at one input. -/
def orbitPlacesWrong : ChangeSpec := { name := "orbitPlaces", fn := fun _ => fun
  | [d1, d2, d3, d4] => { results := [.lit (.bool false)], args := [d1, d2, d3, d4] }
  | _ => none }
def OrbitPlacesWrongFalsely : Prop := orbitPlacesRow.holds Try.pinned (OpenSpec.ofChange orbitPlacesWrong)

/- THE SECOND FORM. 'bulk': how many values and letters a reading holds, each counted each time it is reached (what is shared counts as often as it is met; a slice's spare places count too). A statement '..UptoSaid' is the law's where the arguments, and the package variables that the reading takes, are together of bulk at most 1048576: NARROWER than '..Said'. Prove '..Said' where nothing that the law and all that it calls make is longer than what came in: it says more and counts as full. Else prove '..UptoSaid'. A law counts once. -/
mutual
def uptoBulk {H : Type} : DataW H → Nat
  | .lit (.string bytes) => bytes.length + 1
  | .lit _ => 1
  | .nil => 1
  | .ptr d => uptoBulk d + 1
  | .slice elems spare => uptoBulkAll elems + uptoBulkAll spare + 1
  | .agg parts => uptoBulkAll parts + 1
  | .iface _ d => uptoBulk d + 1
  | .map entries => uptoBulkEntries entries + 1
  | .held _ => 1
def uptoBulkAll {H : Type} : List (DataW H) → Nat
  | [] => 0
  | d :: r => uptoBulk d + uptoBulkAll r
def uptoBulkEntries {H : Type} : List (Lit × DataW H) → Nat
  | [] => 0
  | x :: r => uptoBulkEntry x + uptoBulkEntries r
def uptoBulkEntry {H : Type} : Lit × DataW H → Nat
  | (.string bytes, d) => bytes.length + uptoBulk d + 1
  | (_, d) => uptoBulk d + 1
 end
def uptoSmall : (H : Type) → List (DataW H) → Bool := fun _ ds => decide (uptoBulkAll ds ≤ 1048576)
def OpenSpec.upto (s : _root_.Go.ChangeSpec) : _root_.Go.OpenSpec := { _root_.Go.OpenSpec.ofChange s with cond := some uptoSmall }

/-- 'perigeelaw09.OrbitCheck', WHERE WHAT IT READS IS OF BULK AT MOST 1048576: true; the input reads as it did. -/
def orbitCheckUptoRow : OpenClaim := { program := "ytijocgijnbcefaa", sum := "51eeaa9ddd34c5f67a672fdb928bae126bbc1787f4bbe4d1489eefa0155c5a73", func := "perigee/perigeelaw09.OrbitCheck", spec := "orbitCheck", unfollowed := true, recurses := true, plainKeys := false, apart := false, narrowed := true }
def OrbitCheckUptoSaid : Prop := orbitCheckUptoRow.holds Try.pinned (OpenSpec.upto orbitCheckSpec)

/-- 'perigeelaw09.OrbitTables', WHERE WHAT IT READS IS OF BULK AT MOST 1048576: true; the input reads as it did. -/
def orbitTablesUptoRow : OpenClaim := { program := "ytijocgijnbcefaa", sum := "51eeaa9ddd34c5f67a672fdb928bae126bbc1787f4bbe4d1489eefa0155c5a73", func := "perigee/perigeelaw09.OrbitTables", spec := "orbitTables", unfollowed := true, recurses := true, plainKeys := false, apart := false, narrowed := true }
def OrbitTablesUptoSaid : Prop := orbitTablesUptoRow.holds Try.pinned (OpenSpec.upto orbitTablesSpec)

/-- 'perigeelaw09.OrbitAt', WHERE WHAT IT READS IS OF BULK AT MOST 1048576: true; the input reads as it did. -/
def orbitAtUptoRow : OpenClaim := { program := "ytijocgijnbcefaa", sum := "51eeaa9ddd34c5f67a672fdb928bae126bbc1787f4bbe4d1489eefa0155c5a73", func := "perigee/perigeelaw09.OrbitAt", spec := "orbitAt", unfollowed := true, recurses := true, plainKeys := false, apart := false, narrowed := true }
def OrbitAtUptoSaid : Prop := orbitAtUptoRow.holds Try.pinned (OpenSpec.upto orbitAtSpec)

/-- 'perigeelaw09.OrbitTicks', WHERE WHAT IT READS IS OF BULK AT MOST 1048576: true; the input reads as it did. -/
def orbitTicksUptoRow : OpenClaim := { program := "ytijocgijnbcefaa", sum := "51eeaa9ddd34c5f67a672fdb928bae126bbc1787f4bbe4d1489eefa0155c5a73", func := "perigee/perigeelaw09.OrbitTicks", spec := "orbitTicks", unfollowed := true, recurses := true, plainKeys := false, apart := false, narrowed := true }
def OrbitTicksUptoSaid : Prop := orbitTicksUptoRow.holds Try.pinned (OpenSpec.upto orbitTicksSpec)

/-- 'perigeelaw09.OrbitArrival', WHERE WHAT IT READS IS OF BULK AT MOST 1048576: true; the input reads as it did. -/
def orbitArrivalUptoRow : OpenClaim := { program := "ytijocgijnbcefaa", sum := "51eeaa9ddd34c5f67a672fdb928bae126bbc1787f4bbe4d1489eefa0155c5a73", func := "perigee/perigeelaw09.OrbitArrival", spec := "orbitArrival", unfollowed := true, recurses := true, plainKeys := false, apart := false, narrowed := true }
def OrbitArrivalUptoSaid : Prop := orbitArrivalUptoRow.holds Try.pinned (OpenSpec.upto orbitArrivalSpec)

/-- 'perigeelaw09.OrbitWay', WHERE WHAT IT READS IS OF BULK AT MOST 1048576: true; the input reads as it did. -/
def orbitWayUptoRow : OpenClaim := { program := "ytijocgijnbcefaa", sum := "51eeaa9ddd34c5f67a672fdb928bae126bbc1787f4bbe4d1489eefa0155c5a73", func := "perigee/perigeelaw09.OrbitWay", spec := "orbitWay", unfollowed := true, recurses := true, plainKeys := false, apart := false, narrowed := true }
def OrbitWayUptoSaid : Prop := orbitWayUptoRow.holds Try.pinned (OpenSpec.upto orbitWaySpec)

/-- 'perigeelaw09.OrbitLater', WHERE WHAT IT READS IS OF BULK AT MOST 1048576: true; the input reads as it did. -/
def orbitLaterUptoRow : OpenClaim := { program := "ytijocgijnbcefaa", sum := "51eeaa9ddd34c5f67a672fdb928bae126bbc1787f4bbe4d1489eefa0155c5a73", func := "perigee/perigeelaw09.OrbitLater", spec := "orbitLater", unfollowed := true, recurses := true, plainKeys := false, apart := false, narrowed := true }
def OrbitLaterUptoSaid : Prop := orbitLaterUptoRow.holds Try.pinned (OpenSpec.upto orbitLaterSpec)

/-- 'perigeelaw09.OrbitFewer', WHERE WHAT IT READS IS OF BULK AT MOST 1048576: true; the input reads as it did. -/
def orbitFewerUptoRow : OpenClaim := { program := "ytijocgijnbcefaa", sum := "51eeaa9ddd34c5f67a672fdb928bae126bbc1787f4bbe4d1489eefa0155c5a73", func := "perigee/perigeelaw09.OrbitFewer", spec := "orbitFewer", unfollowed := true, recurses := true, plainKeys := false, apart := false, narrowed := true }
def OrbitFewerUptoSaid : Prop := orbitFewerUptoRow.holds Try.pinned (OpenSpec.upto orbitFewerSpec)

/-- 'perigeelaw09.OrbitPeriods', WHERE WHAT IT READS IS OF BULK AT MOST 1048576: true; the input reads as it did. -/
def orbitPeriodsUptoRow : OpenClaim := { program := "ytijocgijnbcefaa", sum := "51eeaa9ddd34c5f67a672fdb928bae126bbc1787f4bbe4d1489eefa0155c5a73", func := "perigee/perigeelaw09.OrbitPeriods", spec := "orbitPeriods", unfollowed := true, recurses := true, plainKeys := false, apart := false, narrowed := true }
def OrbitPeriodsUptoSaid : Prop := orbitPeriodsUptoRow.holds Try.pinned (OpenSpec.upto orbitPeriodsSpec)

/-- 'perigeelaw09.OrbitPlaces', WHERE WHAT IT READS IS OF BULK AT MOST 1048576: true; the input reads as it did. -/
def orbitPlacesUptoRow : OpenClaim := { program := "ytijocgijnbcefaa", sum := "51eeaa9ddd34c5f67a672fdb928bae126bbc1787f4bbe4d1489eefa0155c5a73", func := "perigee/perigeelaw09.OrbitPlaces", spec := "orbitPlaces", unfollowed := true, recurses := true, plainKeys := false, apart := false, narrowed := true }
def OrbitPlacesUptoSaid : Prop := orbitPlacesUptoRow.holds Try.pinned (OpenSpec.upto orbitPlacesSpec)

end Rows
end Go.Proofs.Ytijocgijnbcefaa
