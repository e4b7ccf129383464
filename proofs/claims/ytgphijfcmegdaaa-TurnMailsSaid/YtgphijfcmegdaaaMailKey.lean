/-
  A message's key as a map's key, a message as a map's element.
-/
import Derived.Test.YtgphijfcmegdaaaOpenMail
import Derived.Test.YtgphijfcmegdaaaMailOrd
import Derived.Maps.RangeWalk
import Derived.Maps.OwnSet
import Derived.Maps.Views
import Derived.DeepKeys4
namespace Go.Proofs.Ytgphijfcmegdaaa
open Go.RowKit Go.WideMaps
open Go.Maps (Keyed IsMap)

/-- A key's cells. -/
def kc (m : Msg) : Array Value := #[.int .i64 m.slot, .int .i64 m.dir, .int .i64 m.v]

theorem laidOutM : laidOutB Try.prog = true := by kernel_rfl
theorem rowKey : (29 : TypeId) < Try.prog.types.size := of_decide_eq_true (by kernel_rfl)
set_option maxRecDepth 100000 in
theorem wideKey : (match Try.prog.underlying 29 with | some (.array _ _) | some (.struct _) => true | _ => false) = true := by rw [Try.underlying29]
set_option maxRecDepth 100000 in
theorem keyLaw : KeyLaw Try.prog 29 := deep_law_laid laidOutM (m := 2) (by omega) rowKey (by kernel_rfl) wideKey
theorem keyed : Keyed Try.prog 29 := Keyed.of_law keyLaw
theorem isKeyType : Try.prog.keyType 29 = true := by kernel_rfl

set_option maxRecDepth 100000 in
theorem key_formed (m : Msg) : (Value.agg (kc m)).formed Try.prog 29 = true := by simp [Value.formed, Try.underlying29, cells_key, kc]

set_option maxRecDepth 100000 in
theorem key_reads (m : Msg) (h : m.fits) : ∃ l, keyOf Try.prog 29 (.agg (kc m)) = some l := by
  obtain ⟨h1, h2, h3, h4⟩ := h
  obtain ⟨s, hs⟩ : ∃ s, Try.prog.types.size = s + 1 := ⟨Try.prog.types.size - 1, (Nat.sub_add_cancel (Nat.lt_of_le_of_lt (Nat.zero_le _) rowKey)).symm⟩
  have hl : Try.prog.keyLits (Try.prog.types.size + 1) 29 (kc m).toList = some [.int .i64 m.slot, .int .i64 m.dir, .int .i64 m.v] := by
    rw [hs]
    simp [Program.keyLits, Try.underlying29, Try.underlying3, cells_key, cells_int, kc, h1, h2, h3]
  unfold keyOf
  rw [Try.underlying29]
  simp only [isKeyType, key_formed, Bool.and_self, if_true]
  rw [show (Value.agg (kc m)).cells.toList = (kc m).toList from rfl, hl]
  exact ⟨_, rfl⟩

theorem lits_int {m : Nat} {c : Value} {x : List Lit} (h : Try.prog.keyLits m 3 [c] = some x) : ∃ a, c = .int .i64 a := by
  cases m with
  | zero => simp [Program.keyLits] at h
  | succ m =>
    cases c with
    | int q a =>
      simp [Program.keyLits, Try.underlying3] at h
      obtain ⟨⟨rfl, -⟩, -⟩ := h
      exact ⟨a, rfl⟩
    | _ => simp [Program.keyLits, Try.underlying3] at h

set_option maxRecDepth 100000 in
theorem key_inv {v : Value} {l : Lit} (h : keyOf Try.prog 29 v = some l) : ∃ m : Msg, v = .agg (kc m) := by
  unfold keyOf at h
  rw [Try.underlying29] at h
  simp only [] at h
  split at h
  · rename_i hc
    simp only [Bool.and_eq_true] at hc
    obtain ⟨-, hf⟩ := hc
    cases v with
    | agg cs =>
      simp only [Value.formed, Try.underlying29, cells_key, beq_iff_eq] at hf
      obtain ⟨cl⟩ := cs
      match cl, hf with
      | [c0, c1, c2], _ =>
        rw [show (Value.agg #[c0, c1, c2]).cells.toList = [c0, c1, c2] from rfl] at h
        obtain ⟨N, hN⟩ : ∃ N, Try.prog.types.size = N := ⟨_, rfl⟩
        rw [hN] at h
        clear hN
        cases h3 : Try.prog.keyLits (N + 1) 29 [c0, c1, c2] with
        | none => rw [h3] at h; cases h
        | some ls =>
          simp [Program.keyLits, Try.underlying29, cells_key, cells_int] at h3
          cases h4 : Try.prog.keyLits N 3 [c0] with
          | none => rw [h4] at h3; cases h3
          | some x0 =>
            cases h5 : Try.prog.keyLits N 3 [c1] with
            | none => rw [h4, h5] at h3; cases h3
            | some x1 =>
              cases h6 : Try.prog.keyLits N 3 [c2] with
              | none => rw [h4, h5, h6] at h3; cases h3
              | some x2 =>
                obtain ⟨a, rfl⟩ := lits_int h4
                obtain ⟨b, rfl⟩ := lits_int h5
                obtain ⟨c, rfl⟩ := lits_int h6
                exact ⟨⟨a, b, c, 0⟩, rfl⟩
    | tuple _ => simp [Value.formed] at hf
    | _ => simp [Value.formed, Try.underlying29] at hf
  · cases h

/-- A message, as it is read of a map's element. -/
def mR : Value → Option (DataW Msg × List MemPlace)
  | .agg ⟨[.int .i64 a, .int .i64 b, .int .i64 c, .int .i64 d]⟩ => some (.held ⟨a, b, c, d⟩, [])
  | _ => none

theorem mR_mk (m : Msg) : mR (.agg (mc m).toArray) = some (.held m, []) := rfl
theorem mR_inv {v : Value} {z : DataW Msg × List MemPlace} (h : mR v = some z) : ∃ m, v = .agg (mc m).toArray ∧ z = (.held m, []) := by
  unfold mR at h
  split at h
  · cases h; exact ⟨⟨_, _, _, _⟩, rfl, rfl⟩
  · cases h
end Go.Proofs.Ytgphijfcmegdaaa
