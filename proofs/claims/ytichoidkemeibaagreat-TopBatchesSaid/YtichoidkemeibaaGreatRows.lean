/-
  No cell of these rows narrows 'for every input' (looked for: loops, veiled, ifaces, maps, wideKeys, modest, calm, conditions, laid).
  DERIVED. THE GIVEN ROWS OF THIS SEAT. 6 by the template 'for every input the law returns true; each argument reads behind the call as it read before'; 0 by the template 'total and deterministic' (their statements: YtichoidkemeibaaGreatTotals.lean).
  GIVEN WITH THE SEED: the statements are not yours to turn. If you find one false, say at which input.
  Laid BY PROGRAM, IN A SANDBOX (cutbox-rows.mjs): the forced cells as the released guide's own fill.sh prints them over the translation 18792d9737a32269… (all of the seat's roots in one cut). By AI agents, Wed Nov 11 2026. No macro, syntax, notation, axiom, sorry.
-/
import Derived.Test.YtichoidkemeibaaGreatChecked
import GoSem.Claim
import GoSem.ClaimJoined
import GoSem.ClaimMapViews
import Derived.JoinedTies
import Derived.KernelRfl
namespace Go.Proofs.YtichoidkemeibaaGreat
/- THE CELL 'sum', in the pinned program and in every row, IS THE sha256 OF THE DUMP (.gsa) THAT YtichoidkemeibaaGreatProg.lean LOADS. Nothing in Lean hashes anything: it is a label: what it is worth is what the hold of that sum in a sandbox is worth. -/
noncomputable def Tryz.pinned : Pinned := { name := "ytichoidkemeibaagreat", sum := "18792d9737a32269f2d9803f7460cb15ac0ebc5c104212d96a0ec2cb03c8300c", checked := Tryz.checked }
namespace Rows
def none {H : Type} : Left H := { results := [], args := [] }

/-- 'waysidetop.TopBatches': WHATEVER THE INPUT: true; the input reads as it did. -/
def topBatchesSpec : ChangeSpec := { name := "topBatches", fn := fun _ => fun
  | [d1, d2, d3, d4, d5] => { results := [.lit (.bool true)], args := [d1, d2, d3, d4, d5] }
  | _ => none }
def topBatchesRow : OpenClaim := { program := "ytichoidkemeibaagreat", sum := "18792d9737a32269f2d9803f7460cb15ac0ebc5c104212d96a0ec2cb03c8300c", func := "wayside/waysidetop.TopBatches", spec := "topBatches", inPlace := ["internal/bytealg.abigen_runtime_cmpstring", "internal/abi.NoEscape"], unfollowed := true, recurses := true, plainKeys := false, apart := false }
def TopBatchesSaid : Prop := topBatchesRow.holds Tryz.pinned (OpenSpec.ofChange topBatchesSpec)

/-- ITS FALSE NEIGHBOUR: 'it returns false'. Refute it at one input. -/
def topBatchesWrong : ChangeSpec := { name := "topBatches", fn := fun _ => fun
  | [d1, d2, d3, d4, d5] => { results := [.lit (.bool false)], args := [d1, d2, d3, d4, d5] }
  | _ => none }
def TopBatchesWrongFalsely : Prop := topBatchesRow.holds Tryz.pinned (OpenSpec.ofChange topBatchesWrong)

/-- 'waysidelaw19.RoundSteps': WHATEVER THE INPUT: true; the input reads as it did. -/
def roundStepsSpec : ChangeSpec := { name := "roundSteps", fn := fun _ => fun
  | [d1, d2, d3, d4, d5, d6] => { results := [.lit (.bool true)], args := [d1, d2, d3, d4, d5, d6] }
  | _ => none }
def roundStepsRow : OpenClaim := { program := "ytichoidkemeibaagreat", sum := "18792d9737a32269f2d9803f7460cb15ac0ebc5c104212d96a0ec2cb03c8300c", func := "wayside/waysidelaw19.RoundSteps", spec := "roundSteps", inPlace := ["internal/bytealg.abigen_runtime_cmpstring"], unfollowed := true, recurses := true, plainKeys := false, apart := false }
def RoundStepsSaid : Prop := roundStepsRow.holds Tryz.pinned (OpenSpec.ofChange roundStepsSpec)

/-- ITS FALSE NEIGHBOUR: 'it returns false'. Refute it at one input. -/
def roundStepsWrong : ChangeSpec := { name := "roundSteps", fn := fun _ => fun
  | [d1, d2, d3, d4, d5, d6] => { results := [.lit (.bool false)], args := [d1, d2, d3, d4, d5, d6] }
  | _ => none }
def RoundStepsWrongFalsely : Prop := roundStepsRow.holds Tryz.pinned (OpenSpec.ofChange roundStepsWrong)

/-- 'waysidelaw19.RoundPicks': WHATEVER THE INPUT: true; the input reads as it did. -/
def roundPicksSpec : ChangeSpec := { name := "roundPicks", fn := fun _ => fun
  | [d1, d2, d3, d4, d5, d6, d7, d8] => { results := [.lit (.bool true)], args := [d1, d2, d3, d4, d5, d6, d7, d8] }
  | _ => none }
def roundPicksRow : OpenClaim := { program := "ytichoidkemeibaagreat", sum := "18792d9737a32269f2d9803f7460cb15ac0ebc5c104212d96a0ec2cb03c8300c", func := "wayside/waysidelaw19.RoundPicks", spec := "roundPicks", inPlace := ["internal/bytealg.abigen_runtime_cmpstring"], unfollowed := true, recurses := true, plainKeys := false, apart := false }
def RoundPicksSaid : Prop := roundPicksRow.holds Tryz.pinned (OpenSpec.ofChange roundPicksSpec)

/-- ITS FALSE NEIGHBOUR: 'it returns false'. Refute it at one input. -/
def roundPicksWrong : ChangeSpec := { name := "roundPicks", fn := fun _ => fun
  | [d1, d2, d3, d4, d5, d6, d7, d8] => { results := [.lit (.bool false)], args := [d1, d2, d3, d4, d5, d6, d7, d8] }
  | _ => none }
def RoundPicksWrongFalsely : Prop := roundPicksRow.holds Tryz.pinned (OpenSpec.ofChange roundPicksWrong)

/-- 'waysidelaw19.RoundGrows': WHATEVER THE INPUT: true; the input reads as it did. -/
def roundGrowsSpec : ChangeSpec := { name := "roundGrows", fn := fun _ => fun
  | [d1, d2, d3, d4, d5, d6] => { results := [.lit (.bool true)], args := [d1, d2, d3, d4, d5, d6] }
  | _ => none }
def roundGrowsRow : OpenClaim := { program := "ytichoidkemeibaagreat", sum := "18792d9737a32269f2d9803f7460cb15ac0ebc5c104212d96a0ec2cb03c8300c", func := "wayside/waysidelaw19.RoundGrows", spec := "roundGrows", inPlace := ["internal/bytealg.abigen_runtime_cmpstring"], unfollowed := true, recurses := true, plainKeys := false, apart := false }
def RoundGrowsSaid : Prop := roundGrowsRow.holds Tryz.pinned (OpenSpec.ofChange roundGrowsSpec)

/-- ITS FALSE NEIGHBOUR: 'it returns false'. Refute it at one input. -/
def roundGrowsWrong : ChangeSpec := { name := "roundGrows", fn := fun _ => fun
  | [d1, d2, d3, d4, d5, d6] => { results := [.lit (.bool false)], args := [d1, d2, d3, d4, d5, d6] }
  | _ => none }
def RoundGrowsWrongFalsely : Prop := roundGrowsRow.holds Tryz.pinned (OpenSpec.ofChange roundGrowsWrong)

/-- 'waysidelaw19.RoundSlots': WHATEVER THE INPUT: true; the input reads as it did. -/
def roundSlotsSpec : ChangeSpec := { name := "roundSlots", fn := fun _ => fun
  | [d1, d2, d3, d4, d5, d6, d7] => { results := [.lit (.bool true)], args := [d1, d2, d3, d4, d5, d6, d7] }
  | _ => none }
def roundSlotsRow : OpenClaim := { program := "ytichoidkemeibaagreat", sum := "18792d9737a32269f2d9803f7460cb15ac0ebc5c104212d96a0ec2cb03c8300c", func := "wayside/waysidelaw19.RoundSlots", spec := "roundSlots", inPlace := ["internal/bytealg.abigen_runtime_cmpstring"], unfollowed := true, recurses := true, plainKeys := false, apart := false }
def RoundSlotsSaid : Prop := roundSlotsRow.holds Tryz.pinned (OpenSpec.ofChange roundSlotsSpec)

/-- ITS FALSE NEIGHBOUR: 'it returns false'. Refute it at one input. -/
def roundSlotsWrong : ChangeSpec := { name := "roundSlots", fn := fun _ => fun
  | [d1, d2, d3, d4, d5, d6, d7] => { results := [.lit (.bool false)], args := [d1, d2, d3, d4, d5, d6, d7] }
  | _ => none }
def RoundSlotsWrongFalsely : Prop := roundSlotsRow.holds Tryz.pinned (OpenSpec.ofChange roundSlotsWrong)

/-- 'waysidelaw19.RoundHomes': WHATEVER THE INPUT: true; the input reads as it did. -/
def roundHomesSpec : ChangeSpec := { name := "roundHomes", fn := fun _ => fun
  | [d1, d2] => { results := [.lit (.bool true)], args := [d1, d2] }
  | _ => none }
def roundHomesRow : OpenClaim := { program := "ytichoidkemeibaagreat", sum := "18792d9737a32269f2d9803f7460cb15ac0ebc5c104212d96a0ec2cb03c8300c", func := "wayside/waysidelaw19.RoundHomes", spec := "roundHomes", inPlace := ["internal/bytealg.abigen_runtime_cmpstring"], unfollowed := true, recurses := true, plainKeys := false, apart := false }
def RoundHomesSaid : Prop := roundHomesRow.holds Tryz.pinned (OpenSpec.ofChange roundHomesSpec)

/-- ITS FALSE NEIGHBOUR: 'it returns false'. Refute it at one input. -/
def roundHomesWrong : ChangeSpec := { name := "roundHomes", fn := fun _ => fun
  | [d1, d2] => { results := [.lit (.bool false)], args := [d1, d2] }
  | _ => none }
def RoundHomesWrongFalsely : Prop := roundHomesRow.holds Tryz.pinned (OpenSpec.ofChange roundHomesWrong)

/- THE SECOND FORM. 'bulk': how many values and letters a reading holds, each counted each time it is reached (what is shared counts as often as it is met; a slice's spare places count too). A statement '..UptoSaid' is the law's where the arguments, and the package variables that the reading takes, are together of bulk at most 1048576: NARROWER than '..Said'. Prove '..Said' where nothing that the law and all that it calls make is longer than what came in: it says more and counts as full. Else prove '..UptoSaid'. A law counts once. -/
mutual
def uptoBulk {H : Type} : DataW H → Nat
  | .lit (.string bytes) => bytes.length + 1
  | .lit _ => 1
  | .nil => 1
  | .ptr d => uptoBulk d + 1
  | .slice elems spare => uptoBulkAll elems + uptoBulkAll spare + 1
  | .agg parts => uptoBulkAll parts + 1
  | .iface _ d => uptoBulk d + 1
  | .map entries => uptoBulkEntries entries + 1
  | .held _ => 1
def uptoBulkAll {H : Type} : List (DataW H) → Nat
  | [] => 0
  | d :: r => uptoBulk d + uptoBulkAll r
def uptoBulkEntries {H : Type} : List (Lit × DataW H) → Nat
  | [] => 0
  | x :: r => uptoBulkEntry x + uptoBulkEntries r
def uptoBulkEntry {H : Type} : Lit × DataW H → Nat
  | (.string bytes, d) => bytes.length + uptoBulk d + 1
  | (_, d) => uptoBulk d + 1
 end
def uptoSmall : (H : Type) → List (DataW H) → Bool := fun _ ds => decide (uptoBulkAll ds ≤ 1048576)
def OpenSpec.upto (s : _root_.Go.ChangeSpec) : _root_.Go.OpenSpec := { _root_.Go.OpenSpec.ofChange s with cond := some uptoSmall }

/-- 'waysidetop.TopBatches', WHERE WHAT IT READS IS OF BULK AT MOST 1048576: true; the input reads as it did. -/
def topBatchesUptoRow : OpenClaim := { program := "ytichoidkemeibaagreat", sum := "18792d9737a32269f2d9803f7460cb15ac0ebc5c104212d96a0ec2cb03c8300c", func := "wayside/waysidetop.TopBatches", spec := "topBatches", inPlace := ["internal/bytealg.abigen_runtime_cmpstring", "internal/abi.NoEscape"], unfollowed := true, recurses := true, plainKeys := false, apart := false, narrowed := true }
def TopBatchesUptoSaid : Prop := topBatchesUptoRow.holds Tryz.pinned (OpenSpec.upto topBatchesSpec)

/-- 'waysidelaw19.RoundSteps', WHERE WHAT IT READS IS OF BULK AT MOST 1048576: true; the input reads as it did. -/
def roundStepsUptoRow : OpenClaim := { program := "ytichoidkemeibaagreat", sum := "18792d9737a32269f2d9803f7460cb15ac0ebc5c104212d96a0ec2cb03c8300c", func := "wayside/waysidelaw19.RoundSteps", spec := "roundSteps", inPlace := ["internal/bytealg.abigen_runtime_cmpstring"], unfollowed := true, recurses := true, plainKeys := false, apart := false, narrowed := true }
def RoundStepsUptoSaid : Prop := roundStepsUptoRow.holds Tryz.pinned (OpenSpec.upto roundStepsSpec)

/-- 'waysidelaw19.RoundPicks', WHERE WHAT IT READS IS OF BULK AT MOST 1048576: true; the input reads as it did. -/
def roundPicksUptoRow : OpenClaim := { program := "ytichoidkemeibaagreat", sum := "18792d9737a32269f2d9803f7460cb15ac0ebc5c104212d96a0ec2cb03c8300c", func := "wayside/waysidelaw19.RoundPicks", spec := "roundPicks", inPlace := ["internal/bytealg.abigen_runtime_cmpstring"], unfollowed := true, recurses := true, plainKeys := false, apart := false, narrowed := true }
def RoundPicksUptoSaid : Prop := roundPicksUptoRow.holds Tryz.pinned (OpenSpec.upto roundPicksSpec)

/-- 'waysidelaw19.RoundGrows', WHERE WHAT IT READS IS OF BULK AT MOST 1048576: true; the input reads as it did. -/
def roundGrowsUptoRow : OpenClaim := { program := "ytichoidkemeibaagreat", sum := "18792d9737a32269f2d9803f7460cb15ac0ebc5c104212d96a0ec2cb03c8300c", func := "wayside/waysidelaw19.RoundGrows", spec := "roundGrows", inPlace := ["internal/bytealg.abigen_runtime_cmpstring"], unfollowed := true, recurses := true, plainKeys := false, apart := false, narrowed := true }
def RoundGrowsUptoSaid : Prop := roundGrowsUptoRow.holds Tryz.pinned (OpenSpec.upto roundGrowsSpec)

/-- 'waysidelaw19.RoundSlots', WHERE WHAT IT READS IS OF BULK AT MOST 1048576: true; the input reads as it did. -/
def roundSlotsUptoRow : OpenClaim := { program := "ytichoidkemeibaagreat", sum := "18792d9737a32269f2d9803f7460cb15ac0ebc5c104212d96a0ec2cb03c8300c", func := "wayside/waysidelaw19.RoundSlots", spec := "roundSlots", inPlace := ["internal/bytealg.abigen_runtime_cmpstring"], unfollowed := true, recurses := true, plainKeys := false, apart := false, narrowed := true }
def RoundSlotsUptoSaid : Prop := roundSlotsUptoRow.holds Tryz.pinned (OpenSpec.upto roundSlotsSpec)

/-- 'waysidelaw19.RoundHomes', WHERE WHAT IT READS IS OF BULK AT MOST 1048576: true; the input reads as it did. -/
def roundHomesUptoRow : OpenClaim := { program := "ytichoidkemeibaagreat", sum := "18792d9737a32269f2d9803f7460cb15ac0ebc5c104212d96a0ec2cb03c8300c", func := "wayside/waysidelaw19.RoundHomes", spec := "roundHomes", inPlace := ["internal/bytealg.abigen_runtime_cmpstring"], unfollowed := true, recurses := true, plainKeys := false, apart := false, narrowed := true }
def RoundHomesUptoSaid : Prop := roundHomesUptoRow.holds Tryz.pinned (OpenSpec.upto roundHomesSpec)

end Rows
end Go.Proofs.YtichoidkemeibaaGreat
