/-
  No cell of these rows narrows 'for every input' (looked for: loops, veiled, ifaces, maps, wideKeys, modest, calm, conditions, laid).
  DERIVED. THE GIVEN ROWS OF THIS SEAT. 9 by the template 'for every input the law returns true; each argument reads behind the call as it read before'; 0 by the template 'total and deterministic' (their statements: YtpkhlikeggolbaaTotals.lean).
  GIVEN WITH THE SEED: the statements are not yours to turn. If you find one false, say at which input.
  Laid BY PROGRAM, IN A SANDBOX (cutbox-rows.mjs): the forced cells as the released guide's own fill.sh prints them over the translation 49d01ff72011c527… (all of the seat's roots in one cut). By AI agents, Wed Nov 11 2026. No macro, syntax, notation, axiom, sorry.
-/
import Derived.Test.YtpkhlikeggolbaaChecked
import GoSem.Claim
import GoSem.ClaimJoined
import GoSem.ClaimMapViews
import Derived.JoinedTies
import Derived.KernelRfl
namespace Go.Proofs.Ytpkhlikeggolbaa
/- THE CELL 'sum', in the pinned program and in every row, IS THE sha256 OF THE DUMP (.gsa) THAT YtpkhlikeggolbaaProg.lean LOADS. Nothing in Lean hashes anything: it is a label: what it is worth is what the hold of that sum in a sandbox is worth. -/
noncomputable def Try.pinned : Pinned := { name := "ytpkhlikeggolbaa", sum := "49d01ff72011c52725dc6ff4f0b3f35366126d0f5bd94fe916e573cda79d1334", checked := Try.checked }
namespace Rows
def none {H : Type} : Left H := { results := [], args := [] }

/-- 'waysidelaw17.TurnLeft': WHATEVER THE INPUT: true; the input reads as it did. -/
def turnLeftSpec : ChangeSpec := { name := "turnLeft", fn := fun _ => fun
  | [d1, d2, d3] => { results := [.lit (.bool true)], args := [d1, d2, d3] }
  | _ => none }
def turnLeftRow : OpenClaim := { program := "ytpkhlikeggolbaa", sum := "49d01ff72011c52725dc6ff4f0b3f35366126d0f5bd94fe916e573cda79d1334", func := "wayside/waysidelaw17.TurnLeft", spec := "turnLeft", unfollowed := true, recurses := true, apart := false }
def TurnLeftSaid : Prop := turnLeftRow.holds Try.pinned (OpenSpec.ofChange turnLeftSpec)

/-- ITS FALSE NEIGHBOUR: 'it returns false'. Refute it at one input. -/
def turnLeftWrong : ChangeSpec := { name := "turnLeft", fn := fun _ => fun
  | [d1, d2, d3] => { results := [.lit (.bool false)], args := [d1, d2, d3] }
  | _ => none }
def TurnLeftWrongFalsely : Prop := turnLeftRow.holds Try.pinned (OpenSpec.ofChange turnLeftWrong)

/-- 'waysidelaw17.TurnDeals': WHATEVER THE INPUT: true; the input reads as it did. -/
def turnDealsSpec : ChangeSpec := { name := "turnDeals", fn := fun _ => fun
  | [d1, d2] => { results := [.lit (.bool true)], args := [d1, d2] }
  | _ => none }
def turnDealsRow : OpenClaim := { program := "ytpkhlikeggolbaa", sum := "49d01ff72011c52725dc6ff4f0b3f35366126d0f5bd94fe916e573cda79d1334", func := "wayside/waysidelaw17.TurnDeals", spec := "turnDeals", unfollowed := true, recurses := true, apart := false }
def TurnDealsSaid : Prop := turnDealsRow.holds Try.pinned (OpenSpec.ofChange turnDealsSpec)

/-- ITS FALSE NEIGHBOUR: 'it returns false'. Refute it at one input. -/
def turnDealsWrong : ChangeSpec := { name := "turnDeals", fn := fun _ => fun
  | [d1, d2] => { results := [.lit (.bool false)], args := [d1, d2] }
  | _ => none }
def TurnDealsWrongFalsely : Prop := turnDealsRow.holds Try.pinned (OpenSpec.ofChange turnDealsWrong)

/-- 'waysidelaw17.TurnOrders': WHATEVER THE INPUT: true; the input reads as it did. -/
def turnOrdersSpec : ChangeSpec := { name := "turnOrders", fn := fun _ => fun
  | [d1, d2, d3, d4, d5] => { results := [.lit (.bool true)], args := [d1, d2, d3, d4, d5] }
  | _ => none }
def turnOrdersRow : OpenClaim := { program := "ytpkhlikeggolbaa", sum := "49d01ff72011c52725dc6ff4f0b3f35366126d0f5bd94fe916e573cda79d1334", func := "wayside/waysidelaw17.TurnOrders", spec := "turnOrders", unfollowed := true, recurses := true, apart := false }
def TurnOrdersSaid : Prop := turnOrdersRow.holds Try.pinned (OpenSpec.ofChange turnOrdersSpec)

/-- ITS FALSE NEIGHBOUR: 'it returns false'. Refute it at one input. -/
def turnOrdersWrong : ChangeSpec := { name := "turnOrders", fn := fun _ => fun
  | [d1, d2, d3, d4, d5] => { results := [.lit (.bool false)], args := [d1, d2, d3, d4, d5] }
  | _ => none }
def TurnOrdersWrongFalsely : Prop := turnOrdersRow.holds Try.pinned (OpenSpec.ofChange turnOrdersWrong)

/-- 'waysidelaw17.TurnWhole': WHATEVER THE INPUT: true; the input reads as it did. -/
def turnWholeSpec : ChangeSpec := { name := "turnWhole", fn := fun _ => fun
  | [d1, d2] => { results := [.lit (.bool true)], args := [d1, d2] }
  | _ => none }
def turnWholeRow : OpenClaim := { program := "ytpkhlikeggolbaa", sum := "49d01ff72011c52725dc6ff4f0b3f35366126d0f5bd94fe916e573cda79d1334", func := "wayside/waysidelaw17.TurnWhole", spec := "turnWhole", unfollowed := true, recurses := true, apart := false }
def TurnWholeSaid : Prop := turnWholeRow.holds Try.pinned (OpenSpec.ofChange turnWholeSpec)

/-- ITS FALSE NEIGHBOUR: 'it returns false'. Refute it at one input. -/
def turnWholeWrong : ChangeSpec := { name := "turnWhole", fn := fun _ => fun
  | [d1, d2] => { results := [.lit (.bool false)], args := [d1, d2] }
  | _ => none }
def TurnWholeWrongFalsely : Prop := turnWholeRow.holds Try.pinned (OpenSpec.ofChange turnWholeWrong)

/-- 'waysidelaw01.WireLays': WHATEVER THE INPUT: true; the input reads as it did. -/
def wireLaysSpec : ChangeSpec := { name := "wireLays", fn := fun _ => fun
  | [d1, d2, d3] => { results := [.lit (.bool true)], args := [d1, d2, d3] }
  | _ => none }
def wireLaysRow : OpenClaim := { program := "ytpkhlikeggolbaa", sum := "49d01ff72011c52725dc6ff4f0b3f35366126d0f5bd94fe916e573cda79d1334", func := "wayside/waysidelaw01.WireLays", spec := "wireLays", inPlace := ["internal/abi.NoEscape"], unfollowed := true, recurses := true, apart := false }
def WireLaysSaid : Prop := wireLaysRow.holds Try.pinned (OpenSpec.ofChange wireLaysSpec)

/-- ITS FALSE NEIGHBOUR: 'it returns false'. Refute it at one input. -/
def wireLaysWrong : ChangeSpec := { name := "wireLays", fn := fun _ => fun
  | [d1, d2, d3] => { results := [.lit (.bool false)], args := [d1, d2, d3] }
  | _ => none }
def WireLaysWrongFalsely : Prop := wireLaysRow.holds Try.pinned (OpenSpec.ofChange wireLaysWrong)

/-- 'waysidelaw01.WireFront': WHATEVER THE INPUT: true; the input reads as it did. -/
def wireFrontSpec : ChangeSpec := { name := "wireFront", fn := fun _ => fun
  | [d1, d2, d3, d4] => { results := [.lit (.bool true)], args := [d1, d2, d3, d4] }
  | _ => none }
def wireFrontRow : OpenClaim := { program := "ytpkhlikeggolbaa", sum := "49d01ff72011c52725dc6ff4f0b3f35366126d0f5bd94fe916e573cda79d1334", func := "wayside/waysidelaw01.WireFront", spec := "wireFront", inPlace := ["internal/abi.NoEscape"], unfollowed := true, recurses := true, apart := false }
def WireFrontSaid : Prop := wireFrontRow.holds Try.pinned (OpenSpec.ofChange wireFrontSpec)

/-- ITS FALSE NEIGHBOUR: 'it returns false'. Refute it at one input. -/
def wireFrontWrong : ChangeSpec := { name := "wireFront", fn := fun _ => fun
  | [d1, d2, d3, d4] => { results := [.lit (.bool false)], args := [d1, d2, d3, d4] }
  | _ => none }
def WireFrontWrongFalsely : Prop := wireFrontRow.holds Try.pinned (OpenSpec.ofChange wireFrontWrong)

/-- 'waysidelaw01.WireReads': WHATEVER THE INPUT: true; the input reads as it did. -/
def wireReadsSpec : ChangeSpec := { name := "wireReads", fn := fun _ => fun
  | [d1, d2] => { results := [.lit (.bool true)], args := [d1, d2] }
  | _ => none }
def wireReadsRow : OpenClaim := { program := "ytpkhlikeggolbaa", sum := "49d01ff72011c52725dc6ff4f0b3f35366126d0f5bd94fe916e573cda79d1334", func := "wayside/waysidelaw01.WireReads", spec := "wireReads", inPlace := ["internal/abi.NoEscape"], unfollowed := true, recurses := true, apart := false }
def WireReadsSaid : Prop := wireReadsRow.holds Try.pinned (OpenSpec.ofChange wireReadsSpec)

/-- ITS FALSE NEIGHBOUR: 'it returns false'. Refute it at one input. -/
def wireReadsWrong : ChangeSpec := { name := "wireReads", fn := fun _ => fun
  | [d1, d2] => { results := [.lit (.bool false)], args := [d1, d2] }
  | _ => none }
def WireReadsWrongFalsely : Prop := wireReadsRow.holds Try.pinned (OpenSpec.ofChange wireReadsWrong)

/-- 'waysidelaw01.WireBack': WHATEVER THE INPUT: true; the input reads as it did. -/
def wireBackSpec : ChangeSpec := { name := "wireBack", fn := fun _ => fun
  | [d1, d2, d3, d4, d5] => { results := [.lit (.bool true)], args := [d1, d2, d3, d4, d5] }
  | _ => none }
def wireBackRow : OpenClaim := { program := "ytpkhlikeggolbaa", sum := "49d01ff72011c52725dc6ff4f0b3f35366126d0f5bd94fe916e573cda79d1334", func := "wayside/waysidelaw01.WireBack", spec := "wireBack", inPlace := ["internal/abi.NoEscape"], unfollowed := true, recurses := true, apart := false }
def WireBackSaid : Prop := wireBackRow.holds Try.pinned (OpenSpec.ofChange wireBackSpec)

/-- ITS FALSE NEIGHBOUR: 'it returns false'. Refute it at one input. -/
def wireBackWrong : ChangeSpec := { name := "wireBack", fn := fun _ => fun
  | [d1, d2, d3, d4, d5] => { results := [.lit (.bool false)], args := [d1, d2, d3, d4, d5] }
  | _ => none }
def WireBackWrongFalsely : Prop := wireBackRow.holds Try.pinned (OpenSpec.ofChange wireBackWrong)

/-- 'waysidelaw01.WireSame': WHATEVER THE INPUT: true; the input reads as it did. -/
def wireSameSpec : ChangeSpec := { name := "wireSame", fn := fun _ => fun
  | [d1, d2] => { results := [.lit (.bool true)], args := [d1, d2] }
  | _ => none }
def wireSameRow : OpenClaim := { program := "ytpkhlikeggolbaa", sum := "49d01ff72011c52725dc6ff4f0b3f35366126d0f5bd94fe916e573cda79d1334", func := "wayside/waysidelaw01.WireSame", spec := "wireSame", inPlace := ["internal/abi.NoEscape"], unfollowed := true, recurses := true, apart := false }
def WireSameSaid : Prop := wireSameRow.holds Try.pinned (OpenSpec.ofChange wireSameSpec)

/-- ITS FALSE NEIGHBOUR: 'it returns false'. Refute it at one input. -/
def wireSameWrong : ChangeSpec := { name := "wireSame", fn := fun _ => fun
  | [d1, d2] => { results := [.lit (.bool false)], args := [d1, d2] }
  | _ => none }
def WireSameWrongFalsely : Prop := wireSameRow.holds Try.pinned (OpenSpec.ofChange wireSameWrong)

/- THE SECOND FORM. 'bulk': how many values and letters a reading holds, each counted each time it is reached (what is shared counts as often as it is met; a slice's spare places count too). A statement '..UptoSaid' is the law's where the arguments, and the package variables that the reading takes, are together of bulk at most 1048576: NARROWER than '..Said'. Prove '..Said' where nothing that the law and all that it calls make is longer than what came in: it says more and counts as full. Else prove '..UptoSaid'. A law counts once. -/
mutual
def uptoBulk {H : Type} : DataW H → Nat
  | .lit (.string bytes) => bytes.length + 1
  | .lit _ => 1
  | .nil => 1
  | .ptr d => uptoBulk d + 1
  | .slice elems spare => uptoBulkAll elems + uptoBulkAll spare + 1
  | .agg parts => uptoBulkAll parts + 1
  | .iface _ d => uptoBulk d + 1
  | .map entries => uptoBulkEntries entries + 1
  | .held _ => 1
def uptoBulkAll {H : Type} : List (DataW H) → Nat
  | [] => 0
  | d :: r => uptoBulk d + uptoBulkAll r
def uptoBulkEntries {H : Type} : List (Lit × DataW H) → Nat
  | [] => 0
  | x :: r => uptoBulkEntry x + uptoBulkEntries r
def uptoBulkEntry {H : Type} : Lit × DataW H → Nat
  | (.string bytes, d) => bytes.length + uptoBulk d + 1
  | (_, d) => uptoBulk d + 1
 end
def uptoSmall : (H : Type) → List (DataW H) → Bool := fun _ ds => decide (uptoBulkAll ds ≤ 1048576)
def OpenSpec.upto (s : _root_.Go.ChangeSpec) : _root_.Go.OpenSpec := { _root_.Go.OpenSpec.ofChange s with cond := some uptoSmall }

/-- 'waysidelaw17.TurnLeft', WHERE WHAT IT READS IS OF BULK AT MOST 1048576: true; the input reads as it did. -/
def turnLeftUptoRow : OpenClaim := { program := "ytpkhlikeggolbaa", sum := "49d01ff72011c52725dc6ff4f0b3f35366126d0f5bd94fe916e573cda79d1334", func := "wayside/waysidelaw17.TurnLeft", spec := "turnLeft", unfollowed := true, recurses := true, apart := false, narrowed := true }
def TurnLeftUptoSaid : Prop := turnLeftUptoRow.holds Try.pinned (OpenSpec.upto turnLeftSpec)

/-- 'waysidelaw17.TurnDeals', WHERE WHAT IT READS IS OF BULK AT MOST 1048576: true; the input reads as it did. -/
def turnDealsUptoRow : OpenClaim := { program := "ytpkhlikeggolbaa", sum := "49d01ff72011c52725dc6ff4f0b3f35366126d0f5bd94fe916e573cda79d1334", func := "wayside/waysidelaw17.TurnDeals", spec := "turnDeals", unfollowed := true, recurses := true, apart := false, narrowed := true }
def TurnDealsUptoSaid : Prop := turnDealsUptoRow.holds Try.pinned (OpenSpec.upto turnDealsSpec)

/-- 'waysidelaw17.TurnOrders', WHERE WHAT IT READS IS OF BULK AT MOST 1048576: true; the input reads as it did. -/
def turnOrdersUptoRow : OpenClaim := { program := "ytpkhlikeggolbaa", sum := "49d01ff72011c52725dc6ff4f0b3f35366126d0f5bd94fe916e573cda79d1334", func := "wayside/waysidelaw17.TurnOrders", spec := "turnOrders", unfollowed := true, recurses := true, apart := false, narrowed := true }
def TurnOrdersUptoSaid : Prop := turnOrdersUptoRow.holds Try.pinned (OpenSpec.upto turnOrdersSpec)

/-- 'waysidelaw17.TurnWhole', WHERE WHAT IT READS IS OF BULK AT MOST 1048576: true; the input reads as it did. -/
def turnWholeUptoRow : OpenClaim := { program := "ytpkhlikeggolbaa", sum := "49d01ff72011c52725dc6ff4f0b3f35366126d0f5bd94fe916e573cda79d1334", func := "wayside/waysidelaw17.TurnWhole", spec := "turnWhole", unfollowed := true, recurses := true, apart := false, narrowed := true }
def TurnWholeUptoSaid : Prop := turnWholeUptoRow.holds Try.pinned (OpenSpec.upto turnWholeSpec)

/-- 'waysidelaw01.WireLays', WHERE WHAT IT READS IS OF BULK AT MOST 1048576: true; the input reads as it did. -/
def wireLaysUptoRow : OpenClaim := { program := "ytpkhlikeggolbaa", sum := "49d01ff72011c52725dc6ff4f0b3f35366126d0f5bd94fe916e573cda79d1334", func := "wayside/waysidelaw01.WireLays", spec := "wireLays", inPlace := ["internal/abi.NoEscape"], unfollowed := true, recurses := true, apart := false, narrowed := true }
def WireLaysUptoSaid : Prop := wireLaysUptoRow.holds Try.pinned (OpenSpec.upto wireLaysSpec)

/-- 'waysidelaw01.WireFront', WHERE WHAT IT READS IS OF BULK AT MOST 1048576: true; the input reads as it did. -/
def wireFrontUptoRow : OpenClaim := { program := "ytpkhlikeggolbaa", sum := "49d01ff72011c52725dc6ff4f0b3f35366126d0f5bd94fe916e573cda79d1334", func := "wayside/waysidelaw01.WireFront", spec := "wireFront", inPlace := ["internal/abi.NoEscape"], unfollowed := true, recurses := true, apart := false, narrowed := true }
def WireFrontUptoSaid : Prop := wireFrontUptoRow.holds Try.pinned (OpenSpec.upto wireFrontSpec)

/-- 'waysidelaw01.WireReads', WHERE WHAT IT READS IS OF BULK AT MOST 1048576: true; the input reads as it did. -/
def wireReadsUptoRow : OpenClaim := { program := "ytpkhlikeggolbaa", sum := "49d01ff72011c52725dc6ff4f0b3f35366126d0f5bd94fe916e573cda79d1334", func := "wayside/waysidelaw01.WireReads", spec := "wireReads", inPlace := ["internal/abi.NoEscape"], unfollowed := true, recurses := true, apart := false, narrowed := true }
def WireReadsUptoSaid : Prop := wireReadsUptoRow.holds Try.pinned (OpenSpec.upto wireReadsSpec)

/-- 'waysidelaw01.WireBack', WHERE WHAT IT READS IS OF BULK AT MOST 1048576: true; the input reads as it did. -/
def wireBackUptoRow : OpenClaim := { program := "ytpkhlikeggolbaa", sum := "49d01ff72011c52725dc6ff4f0b3f35366126d0f5bd94fe916e573cda79d1334", func := "wayside/waysidelaw01.WireBack", spec := "wireBack", inPlace := ["internal/abi.NoEscape"], unfollowed := true, recurses := true, apart := false, narrowed := true }
def WireBackUptoSaid : Prop := wireBackUptoRow.holds Try.pinned (OpenSpec.upto wireBackSpec)

/-- 'waysidelaw01.WireSame', WHERE WHAT IT READS IS OF BULK AT MOST 1048576: true; the input reads as it did. -/
def wireSameUptoRow : OpenClaim := { program := "ytpkhlikeggolbaa", sum := "49d01ff72011c52725dc6ff4f0b3f35366126d0f5bd94fe916e573cda79d1334", func := "wayside/waysidelaw01.WireSame", spec := "wireSame", inPlace := ["internal/abi.NoEscape"], unfollowed := true, recurses := true, apart := false, narrowed := true }
def WireSameUptoSaid : Prop := wireSameUptoRow.holds Try.pinned (OpenSpec.upto wireSameSpec)

end Rows
end Go.Proofs.Ytpkhlikeggolbaa
