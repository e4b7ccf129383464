/-
  A slice of messages that came in.
-/
import Derived.Test.YtgphijfcmegdaaaProg
import Derived.Test.YtgphijfcmegdaaaOpen
namespace Go.Proofs.Ytgphijfcmegdaaa
open Go.RowKit Go.Deep Go.ChangeShapes Go.WideShapes

section
variable {H : Type} {enc : TypeId × Value → H} {w : World} {base : Nat} {spare : Nat → Bool} {held : Bool}

/-- Each of the four numbers fits. -/
def Msg.fits (m : Msg) : Prop := (Lit.int .i64 m.slot).wf = true ∧ (Lit.int .i64 m.dir).wf = true ∧ (Lit.int .i64 m.v).wf = true ∧ (Lit.int .i64 m.d).wf = true

theorem cells_int : Try.prog.cellsOf 3 = 1 := by kernel_rfl
theorem cells_key : Try.prog.cellsOf 29 = 3 := by kernel_rfl
theorem cells_mail : Try.prog.cellsOf 31 = 4 := by kernel_rfl

set_option maxRecDepth 100000 in
theorem trod_key {n : Nat} {cs : List Value} {y : DataW H × List MemPlace} (h : DataW.trod enc Try.prog w base spare held n 29 cs = some y) :
    ∃ a b c : Int, cs = [.int .i64 a, .int .i64 b, .int .i64 c] ∧ (Lit.int .i64 a).wf = true ∧ (Lit.int .i64 b).wf = true ∧ (Lit.int .i64 c).wf = true := by
  obtain ⟨xs, m, _, _, hl, hxl, hf⟩ := DataW.trod_struct Try.underlying29 h
  rw [cells_key] at hl
  match cs, hl with
  | [c0, c1, c2], _ =>
    match xs, hxl with
    | [x0, x1, x2], _ =>
      have h0 : DataW.trod enc Try.prog w base spare held m 3 (([c0, c1, c2].drop 0).take (Try.prog.cellsOf 3)) = some x0 := hf 0 _ rfl
      have h1 : DataW.trod enc Try.prog w base spare held m 3 (([c0, c1, c2].drop 1).take (Try.prog.cellsOf 3)) = some x1 := hf 1 _ rfl
      have h2 : DataW.trod enc Try.prog w base spare held m 3 (([c0, c1, c2].drop 2).take (Try.prog.cellsOf 3)) = some x2 := hf 2 _ rfl
      rw [cells_int] at h0 h1 h2
      obtain ⟨a, e0, _, w0⟩ := DataW.trod_int Try.underlying3 h0
      obtain ⟨b, e1, _, w1⟩ := DataW.trod_int Try.underlying3 h1
      obtain ⟨c, e2, _, w2⟩ := DataW.trod_int Try.underlying3 h2
      simp at e0 e1 e2
      subst e0 e1 e2
      exact ⟨a, b, c, rfl, w0, w1, w2⟩

set_option maxRecDepth 100000 in
theorem trod_mail {n : Nat} {cs : List Value} {y : DataW H × List MemPlace} (h : DataW.trod enc Try.prog w base spare held n 31 cs = some y) : ∃ m : Msg, cs = mc m ∧ m.fits := by
  obtain ⟨xs, m, _, _, hl, hxl, hf⟩ := DataW.trod_struct Try.underlying31 h
  rw [cells_mail] at hl
  match cs, hl with
  | [c0, c1, c2, c3], _ =>
    match xs, hxl with
    | [x0, x1], _ =>
      have h0 : DataW.trod enc Try.prog w base spare held m 29 (([c0, c1, c2, c3].drop 0).take (Try.prog.cellsOf 29)) = some x0 := hf 0 _ rfl
      have h1 : DataW.trod enc Try.prog w base spare held m 3 (([c0, c1, c2, c3].drop 3).take (Try.prog.cellsOf 3)) = some x1 := hf 1 _ rfl
      rw [cells_key] at h0
      rw [cells_int] at h1
      obtain ⟨a, b, c, e0, w0, w1, w2⟩ := trod_key h0
      obtain ⟨d, e1, _, w3⟩ := DataW.trod_int Try.underlying3 h1
      simp at e0 e1
      obtain ⟨rfl, rfl, rfl⟩ := e0
      subst e1
      exact ⟨⟨a, b, c, d⟩, rfl, w0, w1, w2, w3⟩

theorem open_mails {A : Option Addr} {len cap : Nat} {d : DataW H} {p : List MemPlace} (h : DataW.Trod enc Try.prog w base spare held 22 (.slice A len cap) d p) :
    ∃ l : List Msg, l.length = len ∧ Reads w w.heap.size 4 A len (mv l) ∧ len ≤ maxLen ∧ ∀ m ∈ l, m.fits :=
  open_list mc 4 mc_len (by decide) Msg.fits Try.underlying22 cells_mail (fun _ _ _ h => trod_mail h) h

theorem open_cap {t e : TypeId} (ht : Try.prog.underlying t = some (.slice e)) {A : Option Addr} {len cap : Nat} {d : DataW H} {p : List MemPlace} (h : DataW.Trod enc Try.prog w base spare held t (.slice A len cap) d p) : len ≤ cap := by
  obtain ⟨fuel, hfu⟩ := h
  rcases open_slice ht hfu with ⟨hcs, _⟩ | ⟨x, l, c, m, n, D, Pl, hcs, _, hl, hm, hmm, _, hi⟩
  · simp [Value.cells] at hcs
    obtain ⟨rfl, rfl, rfl⟩ := hcs
    exact Nat.le_refl _
  · simp [Value.cells] at hcs
    obtain ⟨rfl, rfl, rfl⟩ := hcs
    exact hl
theorem open_mailsC {A : Option Addr} {len cap : Nat} {d : DataW H} {p : List MemPlace} (h : DataW.Trod enc Try.prog w base spare held 22 (.slice A len cap) d p) :
    ∃ l : List Msg, l.length = len ∧ Reads w w.heap.size 4 A len (mv l) ∧ len ≤ maxLen ∧ len ≤ cap ∧ ∀ m ∈ l, m.fits := by
  obtain ⟨l, a, b, c, d⟩ := open_mails h
  exact ⟨l, a, b, c, open_cap Try.underlying22 h, d⟩
end
end Go.Proofs.Ytgphijfcmegdaaa
