/-
  No cell of these rows narrows 'for every input' (looked for: loops, veiled, ifaces, maps, wideKeys, modest, calm, conditions, laid).
  DERIVED. THE GIVEN ROWS OF THIS SEAT. 7 by the template 'for every input the law returns true; each argument reads behind the call as it read before'; 0 by the template 'total and deterministic' (their statements: YtgphijfcmegdaaaTotals.lean).
  GIVEN WITH THE SEED: the statements are not yours to turn. If you find one false, say at which input.
  Laid BY PROGRAM, IN A SANDBOX (cutbox-rows.mjs): the forced cells as the released guide's own fill.sh prints them over the translation 284e51794a1bfa1a… (all of the seat's roots in one cut). By AI agents, Wed Nov 11 2026. No macro, syntax, notation, axiom, sorry.
-/
import Derived.Test.YtgphijfcmegdaaaChecked
import GoSem.Claim
import GoSem.ClaimJoined
import GoSem.ClaimMapViews
import Derived.JoinedTies
import Derived.KernelRfl
namespace Go.Proofs.Ytgphijfcmegdaaa
/- THE CELL 'sum', in the pinned program and in every row, IS THE sha256 OF THE DUMP (.gsa) THAT YtgphijfcmegdaaaProg.lean LOADS. Nothing in Lean hashes anything: it is a label: what it is worth is what the hold of that sum in a sandbox is worth. -/
noncomputable def Try.pinned : Pinned := { name := "ytgphijfcmegdaaa", sum := "284e51794a1bfa1a14fd422b3b85a690914de9f5c74f10c343d80b2b82164064", checked := Try.checked }
namespace Rows
def none {H : Type} : Left H := { results := [], args := [] }

/-- 'waysidelaw17.TurnMails': WHATEVER THE INPUT: true; the input reads as it did. -/
def turnMailsSpec : ChangeSpec := { name := "turnMails", fn := fun _ => fun
  | [d1, d2] => { results := [.lit (.bool true)], args := [d1, d2] }
  | _ => none }
def turnMailsRow : OpenClaim := { program := "ytgphijfcmegdaaa", sum := "284e51794a1bfa1a14fd422b3b85a690914de9f5c74f10c343d80b2b82164064", func := "wayside/waysidelaw17.TurnMails", spec := "turnMails", unfollowed := true, recurses := true, plainKeys := false, apart := false }
def TurnMailsSaid : Prop := turnMailsRow.holds Try.pinned (OpenSpec.ofChange turnMailsSpec)

/-- ITS FALSE NEIGHBOUR: 'it returns false'. Refute it at one input. -/
def turnMailsWrong : ChangeSpec := { name := "turnMails", fn := fun _ => fun
  | [d1, d2] => { results := [.lit (.bool false)], args := [d1, d2] }
  | _ => none }
def TurnMailsWrongFalsely : Prop := turnMailsRow.holds Try.pinned (OpenSpec.ofChange turnMailsWrong)

/-- 'waysidelaw16.MailDoes': WHATEVER THE INPUT: true; the input reads as it did. -/
def mailDoesSpec : ChangeSpec := { name := "mailDoes", fn := fun _ => fun
  | [d1, d2] => { results := [.lit (.bool true)], args := [d1, d2] }
  | _ => none }
def mailDoesRow : OpenClaim := { program := "ytgphijfcmegdaaa", sum := "284e51794a1bfa1a14fd422b3b85a690914de9f5c74f10c343d80b2b82164064", func := "wayside/waysidelaw16.MailDoes", spec := "mailDoes", inPlace := ["internal/abi.NoEscape"], unfollowed := true, recurses := true, plainKeys := false, apart := false }
def MailDoesSaid : Prop := mailDoesRow.holds Try.pinned (OpenSpec.ofChange mailDoesSpec)

/-- ITS FALSE NEIGHBOUR: 'it returns false'. Refute it at one input. -/
def mailDoesWrong : ChangeSpec := { name := "mailDoes", fn := fun _ => fun
  | [d1, d2] => { results := [.lit (.bool false)], args := [d1, d2] }
  | _ => none }
def MailDoesWrongFalsely : Prop := mailDoesRow.holds Try.pinned (OpenSpec.ofChange mailDoesWrong)

/-- 'waysidelaw16.MailParses': WHATEVER THE INPUT: true; the input reads as it did. -/
def mailParsesSpec : ChangeSpec := { name := "mailParses", fn := fun _ => fun
  | [d] => { results := [.lit (.bool true)], args := [d] }
  | _ => none }
def mailParsesRow : OpenClaim := { program := "ytgphijfcmegdaaa", sum := "284e51794a1bfa1a14fd422b3b85a690914de9f5c74f10c343d80b2b82164064", func := "wayside/waysidelaw16.MailParses", spec := "mailParses", inPlace := ["internal/abi.NoEscape"], unfollowed := true, recurses := true, plainKeys := false, apart := false }
def MailParsesSaid : Prop := mailParsesRow.holds Try.pinned (OpenSpec.ofChange mailParsesSpec)

/-- ITS FALSE NEIGHBOUR: 'it returns false'. Refute it at one input. -/
def mailParsesWrong : ChangeSpec := { name := "mailParses", fn := fun _ => fun
  | [d] => { results := [.lit (.bool false)], args := [d] }
  | _ => none }
def MailParsesWrongFalsely : Prop := mailParsesRow.holds Try.pinned (OpenSpec.ofChange mailParsesWrong)

/-- 'waysidelaw16.MailOnce': WHATEVER THE INPUT: true; the input reads as it did. -/
def mailOnceSpec : ChangeSpec := { name := "mailOnce", fn := fun _ => fun
  | [d] => { results := [.lit (.bool true)], args := [d] }
  | _ => none }
def mailOnceRow : OpenClaim := { program := "ytgphijfcmegdaaa", sum := "284e51794a1bfa1a14fd422b3b85a690914de9f5c74f10c343d80b2b82164064", func := "wayside/waysidelaw16.MailOnce", spec := "mailOnce", inPlace := ["internal/abi.NoEscape"], unfollowed := true, recurses := true, plainKeys := false, apart := false }
def MailOnceSaid : Prop := mailOnceRow.holds Try.pinned (OpenSpec.ofChange mailOnceSpec)

/-- ITS FALSE NEIGHBOUR: 'it returns false'. Refute it at one input. -/
def mailOnceWrong : ChangeSpec := { name := "mailOnce", fn := fun _ => fun
  | [d] => { results := [.lit (.bool false)], args := [d] }
  | _ => none }
def MailOnceWrongFalsely : Prop := mailOnceRow.holds Try.pinned (OpenSpec.ofChange mailOnceWrong)

/-- 'waysidelaw16.MailOrder': WHATEVER THE INPUT: true; the input reads as it did. -/
def mailOrderSpec : ChangeSpec := { name := "mailOrder", fn := fun _ => fun
  | [d1, d2] => { results := [.lit (.bool true)], args := [d1, d2] }
  | _ => none }
def mailOrderRow : OpenClaim := { program := "ytgphijfcmegdaaa", sum := "284e51794a1bfa1a14fd422b3b85a690914de9f5c74f10c343d80b2b82164064", func := "wayside/waysidelaw16.MailOrder", spec := "mailOrder", inPlace := ["internal/abi.NoEscape"], unfollowed := true, recurses := true, plainKeys := false, apart := false }
def MailOrderSaid : Prop := mailOrderRow.holds Try.pinned (OpenSpec.ofChange mailOrderSpec)

/-- ITS FALSE NEIGHBOUR: 'it returns false'. Refute it at one input. -/
def mailOrderWrong : ChangeSpec := { name := "mailOrder", fn := fun _ => fun
  | [d1, d2] => { results := [.lit (.bool false)], args := [d1, d2] }
  | _ => none }
def MailOrderWrongFalsely : Prop := mailOrderRow.holds Try.pinned (OpenSpec.ofChange mailOrderWrong)

/-- 'waysidelaw16.MailHomes': WHATEVER THE INPUT: true; the input reads as it did. -/
def mailHomesSpec : ChangeSpec := { name := "mailHomes", fn := fun _ => fun
  | [d1, d2] => { results := [.lit (.bool true)], args := [d1, d2] }
  | _ => none }
def mailHomesRow : OpenClaim := { program := "ytgphijfcmegdaaa", sum := "284e51794a1bfa1a14fd422b3b85a690914de9f5c74f10c343d80b2b82164064", func := "wayside/waysidelaw16.MailHomes", spec := "mailHomes", inPlace := ["internal/abi.NoEscape"], unfollowed := true, recurses := true, plainKeys := false, apart := false }
def MailHomesSaid : Prop := mailHomesRow.holds Try.pinned (OpenSpec.ofChange mailHomesSpec)

/-- ITS FALSE NEIGHBOUR: 'it returns false'. Refute it at one input. -/
def mailHomesWrong : ChangeSpec := { name := "mailHomes", fn := fun _ => fun
  | [d1, d2] => { results := [.lit (.bool false)], args := [d1, d2] }
  | _ => none }
def MailHomesWrongFalsely : Prop := mailHomesRow.holds Try.pinned (OpenSpec.ofChange mailHomesWrong)

/-- 'waysidelaw16.MailBack': WHATEVER THE INPUT: true; the input reads as it did. -/
def mailBackSpec : ChangeSpec := { name := "mailBack", fn := fun _ => fun
  | [d1, d2] => { results := [.lit (.bool true)], args := [d1, d2] }
  | _ => none }
def mailBackRow : OpenClaim := { program := "ytgphijfcmegdaaa", sum := "284e51794a1bfa1a14fd422b3b85a690914de9f5c74f10c343d80b2b82164064", func := "wayside/waysidelaw16.MailBack", spec := "mailBack", inPlace := ["internal/abi.NoEscape"], unfollowed := true, recurses := true, plainKeys := false, apart := false }
def MailBackSaid : Prop := mailBackRow.holds Try.pinned (OpenSpec.ofChange mailBackSpec)

/-- ITS FALSE NEIGHBOUR: 'it returns false'. Refute it at one input. -/
def mailBackWrong : ChangeSpec := { name := "mailBack", fn := fun _ => fun
  | [d1, d2] => { results := [.lit (.bool false)], args := [d1, d2] }
  | _ => none }
def MailBackWrongFalsely : Prop := mailBackRow.holds Try.pinned (OpenSpec.ofChange mailBackWrong)

/- THE SECOND FORM. 'bulk': how many values and letters a reading holds, each counted each time it is reached (what is shared counts as often as it is met; a slice's spare places count too). A statement '..UptoSaid' is the law's where the arguments, and the package variables that the reading takes, are together of bulk at most 1048576: NARROWER than '..Said'. Prove '..Said' where nothing that the law and all that it calls make is longer than what came in: it says more and counts as full. Else prove '..UptoSaid'. A law counts once. -/
mutual
def uptoBulk {H : Type} : DataW H → Nat
  | .lit (.string bytes) => bytes.length + 1
  | .lit _ => 1
  | .nil => 1
  | .ptr d => uptoBulk d + 1
  | .slice elems spare => uptoBulkAll elems + uptoBulkAll spare + 1
  | .agg parts => uptoBulkAll parts + 1
  | .iface _ d => uptoBulk d + 1
  | .map entries => uptoBulkEntries entries + 1
  | .held _ => 1
def uptoBulkAll {H : Type} : List (DataW H) → Nat
  | [] => 0
  | d :: r => uptoBulk d + uptoBulkAll r
def uptoBulkEntries {H : Type} : List (Lit × DataW H) → Nat
  | [] => 0
  | x :: r => uptoBulkEntry x + uptoBulkEntries r
def uptoBulkEntry {H : Type} : Lit × DataW H → Nat
  | (.string bytes, d) => bytes.length + uptoBulk d + 1
  | (_, d) => uptoBulk d + 1
 end
def uptoSmall : (H : Type) → List (DataW H) → Bool := fun _ ds => decide (uptoBulkAll ds ≤ 1048576)
def OpenSpec.upto (s : _root_.Go.ChangeSpec) : _root_.Go.OpenSpec := { _root_.Go.OpenSpec.ofChange s with cond := some uptoSmall }

/-- 'waysidelaw17.TurnMails', WHERE WHAT IT READS IS OF BULK AT MOST 1048576: true; the input reads as it did. -/
def turnMailsUptoRow : OpenClaim := { program := "ytgphijfcmegdaaa", sum := "284e51794a1bfa1a14fd422b3b85a690914de9f5c74f10c343d80b2b82164064", func := "wayside/waysidelaw17.TurnMails", spec := "turnMails", unfollowed := true, recurses := true, plainKeys := false, apart := false, narrowed := true }
def TurnMailsUptoSaid : Prop := turnMailsUptoRow.holds Try.pinned (OpenSpec.upto turnMailsSpec)

/-- 'waysidelaw16.MailDoes', WHERE WHAT IT READS IS OF BULK AT MOST 1048576: true; the input reads as it did. -/
def mailDoesUptoRow : OpenClaim := { program := "ytgphijfcmegdaaa", sum := "284e51794a1bfa1a14fd422b3b85a690914de9f5c74f10c343d80b2b82164064", func := "wayside/waysidelaw16.MailDoes", spec := "mailDoes", inPlace := ["internal/abi.NoEscape"], unfollowed := true, recurses := true, plainKeys := false, apart := false, narrowed := true }
def MailDoesUptoSaid : Prop := mailDoesUptoRow.holds Try.pinned (OpenSpec.upto mailDoesSpec)

/-- 'waysidelaw16.MailParses', WHERE WHAT IT READS IS OF BULK AT MOST 1048576: true; the input reads as it did. -/
def mailParsesUptoRow : OpenClaim := { program := "ytgphijfcmegdaaa", sum := "284e51794a1bfa1a14fd422b3b85a690914de9f5c74f10c343d80b2b82164064", func := "wayside/waysidelaw16.MailParses", spec := "mailParses", inPlace := ["internal/abi.NoEscape"], unfollowed := true, recurses := true, plainKeys := false, apart := false, narrowed := true }
def MailParsesUptoSaid : Prop := mailParsesUptoRow.holds Try.pinned (OpenSpec.upto mailParsesSpec)

/-- 'waysidelaw16.MailOnce', WHERE WHAT IT READS IS OF BULK AT MOST 1048576: true; the input reads as it did. -/
def mailOnceUptoRow : OpenClaim := { program := "ytgphijfcmegdaaa", sum := "284e51794a1bfa1a14fd422b3b85a690914de9f5c74f10c343d80b2b82164064", func := "wayside/waysidelaw16.MailOnce", spec := "mailOnce", inPlace := ["internal/abi.NoEscape"], unfollowed := true, recurses := true, plainKeys := false, apart := false, narrowed := true }
def MailOnceUptoSaid : Prop := mailOnceUptoRow.holds Try.pinned (OpenSpec.upto mailOnceSpec)

/-- 'waysidelaw16.MailOrder', WHERE WHAT IT READS IS OF BULK AT MOST 1048576: true; the input reads as it did. -/
def mailOrderUptoRow : OpenClaim := { program := "ytgphijfcmegdaaa", sum := "284e51794a1bfa1a14fd422b3b85a690914de9f5c74f10c343d80b2b82164064", func := "wayside/waysidelaw16.MailOrder", spec := "mailOrder", inPlace := ["internal/abi.NoEscape"], unfollowed := true, recurses := true, plainKeys := false, apart := false, narrowed := true }
def MailOrderUptoSaid : Prop := mailOrderUptoRow.holds Try.pinned (OpenSpec.upto mailOrderSpec)

/-- 'waysidelaw16.MailHomes', WHERE WHAT IT READS IS OF BULK AT MOST 1048576: true; the input reads as it did. -/
def mailHomesUptoRow : OpenClaim := { program := "ytgphijfcmegdaaa", sum := "284e51794a1bfa1a14fd422b3b85a690914de9f5c74f10c343d80b2b82164064", func := "wayside/waysidelaw16.MailHomes", spec := "mailHomes", inPlace := ["internal/abi.NoEscape"], unfollowed := true, recurses := true, plainKeys := false, apart := false, narrowed := true }
def MailHomesUptoSaid : Prop := mailHomesUptoRow.holds Try.pinned (OpenSpec.upto mailHomesSpec)

/-- 'waysidelaw16.MailBack', WHERE WHAT IT READS IS OF BULK AT MOST 1048576: true; the input reads as it did. -/
def mailBackUptoRow : OpenClaim := { program := "ytgphijfcmegdaaa", sum := "284e51794a1bfa1a14fd422b3b85a690914de9f5c74f10c343d80b2b82164064", func := "wayside/waysidelaw16.MailBack", spec := "mailBack", inPlace := ["internal/abi.NoEscape"], unfollowed := true, recurses := true, plainKeys := false, apart := false, narrowed := true }
def MailBackUptoSaid : Prop := mailBackUptoRow.holds Try.pinned (OpenSpec.upto mailBackSpec)

end Rows
end Go.Proofs.Ytgphijfcmegdaaa
