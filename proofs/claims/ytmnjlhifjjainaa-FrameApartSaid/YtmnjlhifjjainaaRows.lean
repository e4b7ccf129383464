/-
  No cell of these rows narrows 'for every input' (looked for: loops, veiled, ifaces, maps, wideKeys, modest, calm, conditions, laid).
  DERIVED. THE GIVEN ROWS OF THIS SEAT. 9 by the template 'for every input the law returns true; each argument reads behind the call as it read before'; 0 by the template 'total and deterministic' (their statements: YtmnjlhifjjainaaTotals.lean).
  GIVEN WITH THE SEED: the statements are not yours to turn. If you find one false, say at which input.
  Laid BY PROGRAM, IN A SANDBOX (cutbox-rows.mjs): the forced cells as the released guide's own fill.sh prints them over the translation 242afb521c13751d… (all of the seat's roots in one cut). By AI agents, Wed Nov 11 2026. No macro, syntax, notation, axiom, sorry.
-/
import Derived.Test.YtmnjlhifjjainaaChecked
import GoSem.Claim
import GoSem.ClaimJoined
import GoSem.ClaimMapViews
import Derived.JoinedTies
import Derived.KernelRfl
namespace Go.Proofs.Ytmnjlhifjjainaa
/- THE CELL 'sum', in the pinned program and in every row, IS THE sha256 OF THE DUMP (.gsa) THAT YtmnjlhifjjainaaProg.lean LOADS. Nothing in Lean hashes anything: it is a label: what it is worth is what the hold of that sum in a sandbox is worth. -/
noncomputable def Try.pinned : Pinned := { name := "ytmnjlhifjjainaa", sum := "242afb521c13751d0fd0e85216011cd0b608dad9c6dbdbbde6968bf1e5d24fe3", checked := Try.checked }
namespace Rows
def none {H : Type} : Left H := { results := [], args := [] }

/-- 'waysidelaw22.FrameRequests': WHATEVER THE INPUT: true; the input reads as it did. -/
def frameRequestsSpec : ChangeSpec := { name := "frameRequests", fn := fun _ => fun
  | [d1, d2] => { results := [.lit (.bool true)], args := [d1, d2] }
  | _ => none }
def frameRequestsRow : OpenClaim := { program := "ytmnjlhifjjainaa", sum := "242afb521c13751d0fd0e85216011cd0b608dad9c6dbdbbde6968bf1e5d24fe3", func := "wayside/waysidelaw22.FrameRequests", spec := "frameRequests", inPlace := ["internal/abi.NoEscape"], unfollowed := true, recurses := true, apart := false }
def FrameRequestsSaid : Prop := frameRequestsRow.holds Try.pinned (OpenSpec.ofChange frameRequestsSpec)

/-- ITS FALSE NEIGHBOUR: 'it returns false'. Refute it at one input. -/
def frameRequestsWrong : ChangeSpec := { name := "frameRequests", fn := fun _ => fun
  | [d1, d2] => { results := [.lit (.bool false)], args := [d1, d2] }
  | _ => none }
def FrameRequestsWrongFalsely : Prop := frameRequestsRow.holds Try.pinned (OpenSpec.ofChange frameRequestsWrong)

/-- 'waysidelaw22.FrameReplies': WHATEVER THE INPUT: true; the input reads as it did. -/
def frameRepliesSpec : ChangeSpec := { name := "frameReplies", fn := fun _ => fun
  | [d1, d2] => { results := [.lit (.bool true)], args := [d1, d2] }
  | _ => none }
def frameRepliesRow : OpenClaim := { program := "ytmnjlhifjjainaa", sum := "242afb521c13751d0fd0e85216011cd0b608dad9c6dbdbbde6968bf1e5d24fe3", func := "wayside/waysidelaw22.FrameReplies", spec := "frameReplies", inPlace := ["internal/abi.NoEscape"], unfollowed := true, recurses := true, apart := false }
def FrameRepliesSaid : Prop := frameRepliesRow.holds Try.pinned (OpenSpec.ofChange frameRepliesSpec)

/-- ITS FALSE NEIGHBOUR: 'it returns false'. Refute it at one input. -/
def frameRepliesWrong : ChangeSpec := { name := "frameReplies", fn := fun _ => fun
  | [d1, d2] => { results := [.lit (.bool false)], args := [d1, d2] }
  | _ => none }
def FrameRepliesWrongFalsely : Prop := frameRepliesRow.holds Try.pinned (OpenSpec.ofChange frameRepliesWrong)

/-- 'waysidelaw22.FrameBack': WHATEVER THE INPUT: true; the input reads as it did. -/
def frameBackSpec : ChangeSpec := { name := "frameBack", fn := fun _ => fun
  | [d1, d2] => { results := [.lit (.bool true)], args := [d1, d2] }
  | _ => none }
def frameBackRow : OpenClaim := { program := "ytmnjlhifjjainaa", sum := "242afb521c13751d0fd0e85216011cd0b608dad9c6dbdbbde6968bf1e5d24fe3", func := "wayside/waysidelaw22.FrameBack", spec := "frameBack", inPlace := ["internal/abi.NoEscape"], unfollowed := true, recurses := true, apart := false }
def FrameBackSaid : Prop := frameBackRow.holds Try.pinned (OpenSpec.ofChange frameBackSpec)

/-- ITS FALSE NEIGHBOUR: 'it returns false'. Refute it at one input. -/
def frameBackWrong : ChangeSpec := { name := "frameBack", fn := fun _ => fun
  | [d1, d2] => { results := [.lit (.bool false)], args := [d1, d2] }
  | _ => none }
def FrameBackWrongFalsely : Prop := frameBackRow.holds Try.pinned (OpenSpec.ofChange frameBackWrong)

/-- 'waysidelaw22.FrameSame': WHATEVER THE INPUT: true; the input reads as it did. -/
def frameSameSpec : ChangeSpec := { name := "frameSame", fn := fun _ => fun
  | [d] => { results := [.lit (.bool true)], args := [d] }
  | _ => none }
def frameSameRow : OpenClaim := { program := "ytmnjlhifjjainaa", sum := "242afb521c13751d0fd0e85216011cd0b608dad9c6dbdbbde6968bf1e5d24fe3", func := "wayside/waysidelaw22.FrameSame", spec := "frameSame", inPlace := ["internal/abi.NoEscape"], unfollowed := true, recurses := true, apart := false }
def FrameSameSaid : Prop := frameSameRow.holds Try.pinned (OpenSpec.ofChange frameSameSpec)

/-- ITS FALSE NEIGHBOUR: 'it returns false'. Refute it at one input. -/
def frameSameWrong : ChangeSpec := { name := "frameSame", fn := fun _ => fun
  | [d] => { results := [.lit (.bool false)], args := [d] }
  | _ => none }
def FrameSameWrongFalsely : Prop := frameSameRow.holds Try.pinned (OpenSpec.ofChange frameSameWrong)

/-- 'waysidelaw22.FrameApart': WHATEVER THE INPUT: true; the input reads as it did. -/
def frameApartSpec : ChangeSpec := { name := "frameApart", fn := fun _ => fun
  | [d1, d2, d3, d4] => { results := [.lit (.bool true)], args := [d1, d2, d3, d4] }
  | _ => none }
def frameApartRow : OpenClaim := { program := "ytmnjlhifjjainaa", sum := "242afb521c13751d0fd0e85216011cd0b608dad9c6dbdbbde6968bf1e5d24fe3", func := "wayside/waysidelaw22.FrameApart", spec := "frameApart", inPlace := ["internal/abi.NoEscape"], unfollowed := true, recurses := true, apart := false }
def FrameApartSaid : Prop := frameApartRow.holds Try.pinned (OpenSpec.ofChange frameApartSpec)

/-- ITS FALSE NEIGHBOUR: 'it returns false'. Refute it at one input. -/
def frameApartWrong : ChangeSpec := { name := "frameApart", fn := fun _ => fun
  | [d1, d2, d3, d4] => { results := [.lit (.bool false)], args := [d1, d2, d3, d4] }
  | _ => none }
def FrameApartWrongFalsely : Prop := frameApartRow.holds Try.pinned (OpenSpec.ofChange frameApartWrong)

/-- 'waysidelaw03.ImagePrints': WHATEVER THE INPUT: true; the input reads as it did. -/
def imagePrintsSpec : ChangeSpec := { name := "imagePrints", fn := fun _ => fun
  | [d] => { results := [.lit (.bool true)], args := [d] }
  | _ => none }
def imagePrintsRow : OpenClaim := { program := "ytmnjlhifjjainaa", sum := "242afb521c13751d0fd0e85216011cd0b608dad9c6dbdbbde6968bf1e5d24fe3", func := "wayside/waysidelaw03.ImagePrints", spec := "imagePrints", inPlace := ["internal/bytealg.abigen_runtime_cmpstring", "internal/abi.NoEscape"], unfollowed := true, recurses := true, apart := false }
def ImagePrintsSaid : Prop := imagePrintsRow.holds Try.pinned (OpenSpec.ofChange imagePrintsSpec)

/-- ITS FALSE NEIGHBOUR: 'it returns false'. Refute it at one input. -/
def imagePrintsWrong : ChangeSpec := { name := "imagePrints", fn := fun _ => fun
  | [d] => { results := [.lit (.bool false)], args := [d] }
  | _ => none }
def ImagePrintsWrongFalsely : Prop := imagePrintsRow.holds Try.pinned (OpenSpec.ofChange imagePrintsWrong)

/-- 'waysidelaw03.ImageParses': WHATEVER THE INPUT: true; the input reads as it did. -/
def imageParsesSpec : ChangeSpec := { name := "imageParses", fn := fun _ => fun
  | [d] => { results := [.lit (.bool true)], args := [d] }
  | _ => none }
def imageParsesRow : OpenClaim := { program := "ytmnjlhifjjainaa", sum := "242afb521c13751d0fd0e85216011cd0b608dad9c6dbdbbde6968bf1e5d24fe3", func := "wayside/waysidelaw03.ImageParses", spec := "imageParses", inPlace := ["internal/bytealg.abigen_runtime_cmpstring", "internal/abi.NoEscape"], unfollowed := true, recurses := true, apart := false }
def ImageParsesSaid : Prop := imageParsesRow.holds Try.pinned (OpenSpec.ofChange imageParsesSpec)

/-- ITS FALSE NEIGHBOUR: 'it returns false'. Refute it at one input. -/
def imageParsesWrong : ChangeSpec := { name := "imageParses", fn := fun _ => fun
  | [d] => { results := [.lit (.bool false)], args := [d] }
  | _ => none }
def ImageParsesWrongFalsely : Prop := imageParsesRow.holds Try.pinned (OpenSpec.ofChange imageParsesWrong)

/-- 'waysidelaw03.ImageSame': WHATEVER THE INPUT: true; the input reads as it did. -/
def imageSameSpec : ChangeSpec := { name := "imageSame", fn := fun _ => fun
  | [d] => { results := [.lit (.bool true)], args := [d] }
  | _ => none }
def imageSameRow : OpenClaim := { program := "ytmnjlhifjjainaa", sum := "242afb521c13751d0fd0e85216011cd0b608dad9c6dbdbbde6968bf1e5d24fe3", func := "wayside/waysidelaw03.ImageSame", spec := "imageSame", inPlace := ["internal/bytealg.abigen_runtime_cmpstring", "internal/abi.NoEscape"], unfollowed := true, recurses := true, apart := false }
def ImageSameSaid : Prop := imageSameRow.holds Try.pinned (OpenSpec.ofChange imageSameSpec)

/-- ITS FALSE NEIGHBOUR: 'it returns false'. Refute it at one input. -/
def imageSameWrong : ChangeSpec := { name := "imageSame", fn := fun _ => fun
  | [d] => { results := [.lit (.bool false)], args := [d] }
  | _ => none }
def ImageSameWrongFalsely : Prop := imageSameRow.holds Try.pinned (OpenSpec.ofChange imageSameWrong)

/-- 'waysidelaw03.ImageFront': WHATEVER THE INPUT: true; the input reads as it did. -/
def imageFrontSpec : ChangeSpec := { name := "imageFront", fn := fun _ => fun
  | [d1, d2] => { results := [.lit (.bool true)], args := [d1, d2] }
  | _ => none }
def imageFrontRow : OpenClaim := { program := "ytmnjlhifjjainaa", sum := "242afb521c13751d0fd0e85216011cd0b608dad9c6dbdbbde6968bf1e5d24fe3", func := "wayside/waysidelaw03.ImageFront", spec := "imageFront", inPlace := ["internal/bytealg.abigen_runtime_cmpstring", "internal/abi.NoEscape"], unfollowed := true, recurses := true, apart := false }
def ImageFrontSaid : Prop := imageFrontRow.holds Try.pinned (OpenSpec.ofChange imageFrontSpec)

/-- ITS FALSE NEIGHBOUR: 'it returns false'. Refute it at one input. -/
def imageFrontWrong : ChangeSpec := { name := "imageFront", fn := fun _ => fun
  | [d1, d2] => { results := [.lit (.bool false)], args := [d1, d2] }
  | _ => none }
def ImageFrontWrongFalsely : Prop := imageFrontRow.holds Try.pinned (OpenSpec.ofChange imageFrontWrong)

/- THE SECOND FORM. 'bulk': how many values and letters a reading holds, each counted each time it is reached (what is shared counts as often as it is met; a slice's spare places count too). A statement '..UptoSaid' is the law's where the arguments, and the package variables that the reading takes, are together of bulk at most 1048576: NARROWER than '..Said'. Prove '..Said' where nothing that the law and all that it calls make is longer than what came in: it says more and counts as full. Else prove '..UptoSaid'. A law counts once. -/
mutual
def uptoBulk {H : Type} : DataW H → Nat
  | .lit (.string bytes) => bytes.length + 1
  | .lit _ => 1
  | .nil => 1
  | .ptr d => uptoBulk d + 1
  | .slice elems spare => uptoBulkAll elems + uptoBulkAll spare + 1
  | .agg parts => uptoBulkAll parts + 1
  | .iface _ d => uptoBulk d + 1
  | .map entries => uptoBulkEntries entries + 1
  | .held _ => 1
def uptoBulkAll {H : Type} : List (DataW H) → Nat
  | [] => 0
  | d :: r => uptoBulk d + uptoBulkAll r
def uptoBulkEntries {H : Type} : List (Lit × DataW H) → Nat
  | [] => 0
  | x :: r => uptoBulkEntry x + uptoBulkEntries r
def uptoBulkEntry {H : Type} : Lit × DataW H → Nat
  | (.string bytes, d) => bytes.length + uptoBulk d + 1
  | (_, d) => uptoBulk d + 1
 end
def uptoSmall : (H : Type) → List (DataW H) → Bool := fun _ ds => decide (uptoBulkAll ds ≤ 1048576)
def OpenSpec.upto (s : _root_.Go.ChangeSpec) : _root_.Go.OpenSpec := { _root_.Go.OpenSpec.ofChange s with cond := some uptoSmall }

/-- 'waysidelaw22.FrameRequests', WHERE WHAT IT READS IS OF BULK AT MOST 1048576: true; the input reads as it did. -/
def frameRequestsUptoRow : OpenClaim := { program := "ytmnjlhifjjainaa", sum := "242afb521c13751d0fd0e85216011cd0b608dad9c6dbdbbde6968bf1e5d24fe3", func := "wayside/waysidelaw22.FrameRequests", spec := "frameRequests", inPlace := ["internal/abi.NoEscape"], unfollowed := true, recurses := true, apart := false, narrowed := true }
def FrameRequestsUptoSaid : Prop := frameRequestsUptoRow.holds Try.pinned (OpenSpec.upto frameRequestsSpec)

/-- 'waysidelaw22.FrameReplies', WHERE WHAT IT READS IS OF BULK AT MOST 1048576: true; the input reads as it did. -/
def frameRepliesUptoRow : OpenClaim := { program := "ytmnjlhifjjainaa", sum := "242afb521c13751d0fd0e85216011cd0b608dad9c6dbdbbde6968bf1e5d24fe3", func := "wayside/waysidelaw22.FrameReplies", spec := "frameReplies", inPlace := ["internal/abi.NoEscape"], unfollowed := true, recurses := true, apart := false, narrowed := true }
def FrameRepliesUptoSaid : Prop := frameRepliesUptoRow.holds Try.pinned (OpenSpec.upto frameRepliesSpec)

/-- 'waysidelaw22.FrameBack', WHERE WHAT IT READS IS OF BULK AT MOST 1048576: true; the input reads as it did. -/
def frameBackUptoRow : OpenClaim := { program := "ytmnjlhifjjainaa", sum := "242afb521c13751d0fd0e85216011cd0b608dad9c6dbdbbde6968bf1e5d24fe3", func := "wayside/waysidelaw22.FrameBack", spec := "frameBack", inPlace := ["internal/abi.NoEscape"], unfollowed := true, recurses := true, apart := false, narrowed := true }
def FrameBackUptoSaid : Prop := frameBackUptoRow.holds Try.pinned (OpenSpec.upto frameBackSpec)

/-- 'waysidelaw22.FrameSame', WHERE WHAT IT READS IS OF BULK AT MOST 1048576: true; the input reads as it did. -/
def frameSameUptoRow : OpenClaim := { program := "ytmnjlhifjjainaa", sum := "242afb521c13751d0fd0e85216011cd0b608dad9c6dbdbbde6968bf1e5d24fe3", func := "wayside/waysidelaw22.FrameSame", spec := "frameSame", inPlace := ["internal/abi.NoEscape"], unfollowed := true, recurses := true, apart := false, narrowed := true }
def FrameSameUptoSaid : Prop := frameSameUptoRow.holds Try.pinned (OpenSpec.upto frameSameSpec)

/-- 'waysidelaw22.FrameApart', WHERE WHAT IT READS IS OF BULK AT MOST 1048576: true; the input reads as it did. -/
def frameApartUptoRow : OpenClaim := { program := "ytmnjlhifjjainaa", sum := "242afb521c13751d0fd0e85216011cd0b608dad9c6dbdbbde6968bf1e5d24fe3", func := "wayside/waysidelaw22.FrameApart", spec := "frameApart", inPlace := ["internal/abi.NoEscape"], unfollowed := true, recurses := true, apart := false, narrowed := true }
def FrameApartUptoSaid : Prop := frameApartUptoRow.holds Try.pinned (OpenSpec.upto frameApartSpec)

/-- 'waysidelaw03.ImagePrints', WHERE WHAT IT READS IS OF BULK AT MOST 1048576: true; the input reads as it did. -/
def imagePrintsUptoRow : OpenClaim := { program := "ytmnjlhifjjainaa", sum := "242afb521c13751d0fd0e85216011cd0b608dad9c6dbdbbde6968bf1e5d24fe3", func := "wayside/waysidelaw03.ImagePrints", spec := "imagePrints", inPlace := ["internal/bytealg.abigen_runtime_cmpstring", "internal/abi.NoEscape"], unfollowed := true, recurses := true, apart := false, narrowed := true }
def ImagePrintsUptoSaid : Prop := imagePrintsUptoRow.holds Try.pinned (OpenSpec.upto imagePrintsSpec)

/-- 'waysidelaw03.ImageParses', WHERE WHAT IT READS IS OF BULK AT MOST 1048576: true; the input reads as it did. -/
def imageParsesUptoRow : OpenClaim := { program := "ytmnjlhifjjainaa", sum := "242afb521c13751d0fd0e85216011cd0b608dad9c6dbdbbde6968bf1e5d24fe3", func := "wayside/waysidelaw03.ImageParses", spec := "imageParses", inPlace := ["internal/bytealg.abigen_runtime_cmpstring", "internal/abi.NoEscape"], unfollowed := true, recurses := true, apart := false, narrowed := true }
def ImageParsesUptoSaid : Prop := imageParsesUptoRow.holds Try.pinned (OpenSpec.upto imageParsesSpec)

/-- 'waysidelaw03.ImageSame', WHERE WHAT IT READS IS OF BULK AT MOST 1048576: true; the input reads as it did. -/
def imageSameUptoRow : OpenClaim := { program := "ytmnjlhifjjainaa", sum := "242afb521c13751d0fd0e85216011cd0b608dad9c6dbdbbde6968bf1e5d24fe3", func := "wayside/waysidelaw03.ImageSame", spec := "imageSame", inPlace := ["internal/bytealg.abigen_runtime_cmpstring", "internal/abi.NoEscape"], unfollowed := true, recurses := true, apart := false, narrowed := true }
def ImageSameUptoSaid : Prop := imageSameUptoRow.holds Try.pinned (OpenSpec.upto imageSameSpec)

/-- 'waysidelaw03.ImageFront', WHERE WHAT IT READS IS OF BULK AT MOST 1048576: true; the input reads as it did. -/
def imageFrontUptoRow : OpenClaim := { program := "ytmnjlhifjjainaa", sum := "242afb521c13751d0fd0e85216011cd0b608dad9c6dbdbbde6968bf1e5d24fe3", func := "wayside/waysidelaw03.ImageFront", spec := "imageFront", inPlace := ["internal/bytealg.abigen_runtime_cmpstring", "internal/abi.NoEscape"], unfollowed := true, recurses := true, apart := false, narrowed := true }
def ImageFrontUptoSaid : Prop := imageFrontUptoRow.holds Try.pinned (OpenSpec.upto imageFrontSpec)

end Rows
end Go.Proofs.Ytmnjlhifjjainaa
