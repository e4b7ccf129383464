/-
  What is read of a request, step by step; words for boxes.
-/
import Derived.Test.YtmnjlhifjjainaaFrRdr
import Derived.Test.YtmnjlhifjjainaaFrPutReqR
import Derived.Test.YtmnjlhifjjainaaFrMir
namespace Go.Proofs.Ytmnjlhifjjainaa
open Go.RowKit

theorem elStr : Elem Try.prog 22 9 1 16 := Elem.mk_ Try.underlying22 (z := .string ⟨#[]⟩) (by kernel_rfl) rfl (by decide)
theorem elHit : Elem Try.prog 36 88 2 16 := Elem.mk_ Try.underlying36 (z := .agg #[.int .i64 0, .int .i64 0]) (by kernel_rfl) rfl (by decide)

/-- A query that is read. -/
def rdQ (s : ByteArray) (kind : Int) (p : Nat) : Option (Qry × Nat) :=
  match rdAt s p with
  | some (a, p1) =>
    if kind ≤ 2 then (match rdAt s p1 with
      | some (d, p2) => some (⟨kind, a, d, [], 0, 0⟩, p2)
      | none => none)
    else (match rdAt s p1 with
      | some (n, p2) => if (n : Int) ≤ 8 then (match rdWords s n p2 with
        | some (l, p3) => (match rdAt s p3 with
          | some (r, p4) => (match rdAt s p4 with
            | some (m, p5) => some (⟨kind, a, 0, l, r, m⟩, p5)
            | none => none)
          | none => none)
        | none => none) else none
      | none => none)
  | none => none
def rdReq2 (s : ByteArray) : Option (Req × Nat) :=
  match rdAt s 0 with
  | some (i, p1) => (match rdAt s p1 with
    | some (k, p2) => if (k : Int) ≤ 4 then (if (k : Int) = 4 then some (⟨i, 4, noQ⟩, p2) else (match rdQ s k p2 with
      | some (q, p3) => some (⟨i, k, q⟩, p3)
      | none => none)) else none
    | none => none)
  | none => none
theorem rdInts2_none {s : ByteArray} {q : Nat} (h : rdAt s q = none) : rdInts s 2 q = none := by simp [rdInts, h]
theorem rdInts2_none2 {s : ByteArray} {q x p : Nat} (h : rdAt s q = some (x, p)) (h2 : rdAt s p = none) : rdInts s 2 q = none := by simp [rdInts, h, h2]
theorem rdInts2_some {s : ByteArray} {q x p y p2 : Nat} (h : rdAt s q = some (x, p)) (h2 : rdAt s p = some (y, p2)) : rdInts s 2 q = some ([(x : Int), (y : Int)], p2) := by simp [rdInts, h, h2]
theorem rdReq_eq (s : ByteArray) : rdReq s = rdReq2 s := by
  unfold rdReq rdReq2
  rcases h1 : rdAt s 0 with _ | ⟨i, p1⟩
  · rw [rdInts2_none (q := 0) h1]
  rcases h2 : rdAt s p1 with _ | ⟨k, p2⟩
  · rw [rdInts2_none2 (q := 0) h1 h2]
    simp only [h2]
  rw [rdInts2_some (q := 0) h1 h2]
  simp only [h2]
  have g0 : [(i : Int), (k : Int)].getD 0 0 = (i : Int) := rfl
  have g1 : [(i : Int), (k : Int)].getD 1 0 = (k : Int) := rfl
  simp only [g0, g1]
  by_cases h4 : (k : Int) ≤ 4
  · rw [if_pos h4, if_pos h4]
    by_cases h5 : (k : Int) = 4
    · rw [if_pos h5, if_pos h5]
    · rw [if_neg h5, if_neg h5]
      unfold rdQ
      rcases h6 : rdAt s p2 with _ | ⟨a, p3⟩
      · rw [rdInts2_none h6]
      rcases h7 : rdAt s p3 with _ | ⟨d, p4⟩
      · rw [rdInts2_none2 h6 h7]
        simp only [h7]
        by_cases h8 : (k : Int) ≤ 2
        · rw [if_pos h8]
        · rw [if_neg h8]
      rw [rdInts2_some h6 h7]
      simp only [h7]
      have k0 : [(a : Int), (d : Int)].getD 0 0 = (a : Int) := rfl
      have k1 : [(a : Int), (d : Int)].getD 1 0 = (d : Int) := rfl
      simp only [k0, k1]
      by_cases h8 : (k : Int) ≤ 2
      · rw [if_pos h8, if_neg (by omega)]
      · rw [if_neg h8, if_pos (by omega)]
        have hk3 : (k : Int) = 3 := by omega
        by_cases h9 : (d : Int) ≤ 8
        · rw [if_pos h9, if_pos h9, Int.toNat_natCast]
          rcases h10 : rdWords s d p4 with _ | ⟨l, p5⟩
          · rfl
          simp only
          rcases h11 : rdAt s p5 with _ | ⟨r, p6⟩
          · rw [rdInts2_none h11]
          rcases h12 : rdAt s p6 with _ | ⟨m, p7⟩
          · rw [rdInts2_none2 h11 h12]
            simp only [h12]
          rw [rdInts2_some h11 h12]
          simp only [h12]
          have j0 : [(r : Int), (m : Int)].getD 0 0 = (r : Int) := rfl
          have j1 : [(r : Int), (m : Int)].getD 1 0 = (m : Int) := rfl
          simp only [j0, j1, hk3]
        · rw [if_neg h9, if_neg h9]
  · rw [if_neg h4, if_neg h4]

/-! Boxes that are written. -/
section
variable {w w' : World} {b g n c : Nat} {q : Qry} {A : Option Addr}
theorem QAt.frozen (h : QAt w b q A n c) (k : Nat) : w.frozen? ⟨b, k, none⟩ = false := Lib.frozen_of_heap h k
theorem QAt.grown (h : QAt w b q A n c) (hg : w.grownBy w' (some g)) (hne : b ≠ g) : QAt w' b q A n c := (hg.block b h.lt (fun e => hne (by injection e))).trans h
theorem QAt.set0 (h : QAt w b q A n c) (x : Int) : QAt (w.setCell ⟨b, 0, none⟩ (.int .i64 x)) b { q with kind := x } A n c := by
  have := heap_setCell_same w b 0 _ _ (.int .i64 x) h
  unfold QAt
  simpa using this
theorem QAt.set1 (h : QAt w b q A n c) (x : Int) : QAt (w.setCell ⟨b, 1, none⟩ (.int .i64 x)) b { q with src := x } A n c := by
  have := heap_setCell_same w b 1 _ _ (.int .i64 x) h
  unfold QAt
  simpa using this
theorem QAt.set2 (h : QAt w b q A n c) (x : Int) : QAt (w.setCell ⟨b, 2, none⟩ (.int .i64 x)) b { q with dst := x } A n c := by
  have := heap_setCell_same w b 2 _ _ (.int .i64 x) h
  unfold QAt
  simpa using this
theorem QAt.set3 (h : QAt w b q A n c) (l : List ByteArray) (A2 : Option Addr) (n2 c2 : Nat) : QAt (w.setCell ⟨b, 3, none⟩ (.slice A2 n2 c2)) b { q with words := l } A2 n2 c2 := by
  have := heap_setCell_same w b 3 _ _ (.slice A2 n2 c2) h
  unfold QAt
  simpa using this
theorem QAt.set4 (h : QAt w b q A n c) (x : Int) : QAt (w.setCell ⟨b, 4, none⟩ (.int .i64 x)) b { q with radius := x } A n c := by
  have := heap_setCell_same w b 4 _ _ (.int .i64 x) h
  unfold QAt
  simpa using this
theorem QAt.set5 (h : QAt w b q A n c) (x : Int) : QAt (w.setCell ⟨b, 5, none⟩ (.int .i64 x)) b { q with most := x } A n c := by
  have := heap_setCell_same w b 5 _ _ (.int .i64 x) h
  unfold QAt
  simpa using this
theorem RfAt.grown {s : ByteArray} {p : Int} (h : RfAt w b s p) (hg : w.grownBy w' (some g)) (hne : b ≠ g) : RfAt w' b s p := (hg.block b h.lt (fun e => hne (by injection e))).trans h
end
theorem Pushed.heap {w w' : World} {A A' : Option Addr} {k : Nat} (p : Pushed w w' A A') (hk : k < w.heap.size) (h : ∀ x, A = some x → k < x.block) : w'.heap[k]? = w.heap[k]? :=
  p.grown.block k hk (fun e => by
    cases A with
    | none => cases e
    | some x => have h1 := h x rfl; injection e with e; simp only at e; omega)
theorem only_setCell' {a w : World} {g : Nat} (h : a.grownBy w (some g)) {k o : Nat} (hp : a.heap.size ≤ k) (u : Value) : a.grownBy (w.setCell ⟨k, o, none⟩ u) (some g) := only_setCell h (.inr hp) u
theorem only_setCellS {a w : World} {g : Nat} (h : a.grownBy w (some g)) (k : Nat) (u : Value) : a.grownBy (w.setCell ⟨g, k, none⟩ u) (some g) := only_setCell h (.inl rfl) u
def putQ (w : World) (o : Nat) (q : Qry) (A : Option Addr) (n c : Nat) : World :=
  (((((w.setCell ⟨o, 0, none⟩ (.int .i64 q.kind)).setCell ⟨o, 1, none⟩ (.int .i64 q.src)).setCell ⟨o, 2, none⟩ (.int .i64 q.dst)).setCell ⟨o, 3, none⟩ (.slice A n c)).setCell ⟨o, 4, none⟩ (.int .i64 q.radius)).setCell ⟨o, 5, none⟩ (.int .i64 q.most)
theorem putQ_at {w : World} {o : Nat} {q0 : Qry} {A0 : Option Addr} {n0 c0 : Nat} (h : QAt w o q0 A0 n0 c0) (q : Qry) (A : Option Addr) (n c : Nat) : QAt (putQ w o q A n c) o q A n c := by
  have h0 := h.set0 q.kind
  have h1 := h0.set1 q.src
  have h2 := h1.set2 q.dst
  have h3 := h2.set3 q.words A n c
  have h4 := h3.set4 q.radius
  have h5 := h4.set5 q.most
  unfold putQ
  exact h5
theorem putQ_grown (w : World) (o : Nat) (q : Qry) (A : Option Addr) (n c : Nat) : w.grownBy (putQ w o q A n c) (some o) := by
  unfold putQ
  exact only_setCellS (only_setCellS (only_setCellS (only_setCellS (only_setCellS (only_setCellS (only_refl w _) _ _) _ _) _ _) _ _) _ _) _ _
theorem putQ_only {a w : World} {g : Nat} (h : a.grownBy w (some g)) {o : Nat} (ho : a.heap.size ≤ o) (q : Qry) (A : Option Addr) (n c : Nat) : a.grownBy (putQ w o q A n c) (some g) := by
  unfold putQ
  exact only_setCell' (only_setCell' (only_setCell' (only_setCell' (only_setCell' (only_setCell' h ho _) ho _) ho _) ho _) ho _) ho _
theorem isF_own {w w' : World} {base e size n c g : Nat} {A : Option Addr} {xs : List Value} (h : w.ownsRow base e size (.slice A n c) n xs) (hg : w.grownBy w' (some g)) (hne : g < base) : w'.ownsRow base e size (.slice A n c) n xs :=
  own_only h hg (fun a ha he => by have := (own_lt h a ha).1; injection he; omega)
/-- Where a query is read. -/
def QDone (w w' : World) (b : Nat) (s : ByteArray) (e : Ending) : Option (Qry × Nat) → Prop
  | some (q, p) => ∃ A c, e = .returned (.agg #[.int .i64 q.kind, .int .i64 q.src, .int .i64 q.dst, .slice A q.words.length c, .int .i64 q.radius, .int .i64 q.most]) ∧ RfAt w' b s p ∧ w'.ownsRow w.heap.size 9 1 (.slice A q.words.length c) q.words.length (sv q.words) ∧ w.grownBy w' (some b)
  | none => e = thrown ∧ w.grownBy w' (some b)
end Go.Proofs.Ytmnjlhifjjainaa
