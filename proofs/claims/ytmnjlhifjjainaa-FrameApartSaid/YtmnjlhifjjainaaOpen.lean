/-
  What the arguments of the laws hold: slices of things of several cells each.
-/
import Derived.Test.YtmnjlhifjjainaaMem
import Derived.Deep.Slices
import Derived.ProofKit
namespace Go.Proofs.Ytmnjlhifjjainaa
open Go.RowKit Go.Deep Go.ChangeShapes Go.WideShapes

section
variable {H : Type} {enc : TypeId × Value → H} {P : Program} {w : World} {base : Nat} {spare : Nat → Bool} {held : Bool}

theorem exists_list {α : Type} {p : Nat → α → Prop} : ∀ (n : Nat), (∀ i, i < n → ∃ a, p i a) → ∃ l : List α, l.length = n ∧ ∀ i a, l[i]? = some a → p i a
  | 0, _ => ⟨[], rfl, fun i a h => by simp at h⟩
  | n + 1, h => by
    obtain ⟨l, hl, hp⟩ := exists_list n (fun i hi => h i (by omega))
    obtain ⟨a, ha⟩ := h n (by omega)
    refine ⟨l ++ [a], by simp [hl], fun i b hb => ?_⟩
    rcases Nat.lt_or_ge i l.length with h1 | h1
    · rw [List.getElem?_append_left h1] at hb
      exact hp i b hb
    · rw [List.getElem?_append_right h1] at hb
      obtain ⟨h2, _⟩ := List.getElem?_eq_some_iff.1 hb
      have e : i = n := by simp at h2; omega
      subst e
      rw [← hl, Nat.sub_self] at hb
      simp at hb
      subst hb
      exact ha

/-- A slice argument reads as the cells of some things, each of which has a property that its reading gives. -/
theorem open_list {α : Type} (f : α → List Value) (z : Nat) (hf : ∀ a, (f a).length = z) (hz : 0 < z) (Q : α → Prop) {t e : TypeId} (ht : P.underlying t = some (.slice e)) (hc : P.cellsOf e = z)
    (hE : ∀ (n : Nat) (cs : List Value) (y : DataW H × List MemPlace), DataW.trod enc P w base spare held n e cs = some y → ∃ a : α, cs = f a ∧ Q a)
    {A : Option Addr} {len cap : Nat} {d : DataW H} {p : List MemPlace} (h : DataW.Trod enc P w base spare held t (.slice A len cap) d p) :
    ∃ l : List α, l.length = len ∧ Reads w w.heap.size z A len (l.flatMap f) ∧ len ≤ maxLen ∧ ∀ a ∈ l, Q a := by
  obtain ⟨fuel, hfu⟩ := h
  rcases open_slice ht hfu with ⟨hcs, _⟩ | ⟨x, l, c, m, n, D, Pl, hcs, _, hl, hm, hmm, _, hi⟩
  · simp [Value.cells] at hcs
    obtain ⟨rfl, rfl, rfl⟩ := hcs
    exact ⟨[], rfl, Reads.none_, by simp [maxLen], fun a ha => by simp at ha⟩
  · simp [Value.cells] at hcs
    obtain ⟨rfl, rfl, rfl⟩ := hcs
    have hlm : len ≤ m := by rw [hmm]; split <;> omega
    obtain ⟨xs, hxl, hx⟩ := exists_list (p := fun i (a : α) => w.cells? base (x.add (i * P.cellsOf e)) (P.cellsOf e) = some (f a) ∧ Q a) len (fun i hi' => by
      obtain ⟨cs', h1, h2⟩ := hi i (by omega)
      obtain ⟨a, rfl, hq⟩ := hE _ _ _ h2
      exact ⟨a, h1, hq⟩)
    refine ⟨xs, hxl, ⟨by rw [flat_len f z hf, hxl], fun hn => ?_⟩, by omega, fun a ha => ?_⟩
    · have h0 : xs[0]? = some (xs[0]'(by omega)) := List.getElem?_eq_getElem (by omega)
      obtain ⟨_, _, hcell⟩ := World.cells?_some (hx 0 _ h0).1
      have hc0 := hcell 0 (by omega)
      rw [Nat.zero_mul, show x.add 0 = x by simp [Addr.add], show x.add 0 = x by simp [Addr.add]] at hc0
      have hf0 : (f (xs[0]'(by omega)))[0]? = some ((f (xs[0]'(by omega)))[0]'(by rw [hf]; exact hz)) := List.getElem?_eq_getElem (by rw [hf]; exact hz)
      rw [hf0] at hc0
      obtain ⟨b, o, rfl⟩ := addr_of_cell hc0
      refine ⟨b, o, rfl, World.block_lt_of_cell? w _ hc0, fun j u hu => ?_⟩
      have hjl : j < len * z := by have := (List.getElem?_eq_some_iff.1 hu).1; rw [flat_len f z hf, hxl] at this; exact this
      have hq : j / z < len := Nat.div_lt_of_lt_mul (by rw [Nat.mul_comm]; exact hjl)
      have hr := Nat.mod_lt j hz
      have hj : j / z * z + j % z = j := by rw [Nat.mul_comm]; exact Nat.div_add_mod j z
      have hxq : xs[j / z]? = some (xs[j / z]'(by omega)) := List.getElem?_eq_getElem (by omega)
      have hg := flat_get f z hf xs (j / z) (j % z) _ hxq hr
      rw [hj, hu] at hg
      obtain ⟨_, _, hcell2⟩ := World.cells?_some (hx _ _ hxq).1
      have hc2 := hcell2 (j % z) (by omega)
      rw [hc, Addr.add_lit, Addr.add_lit, Nat.add_assoc, hj, ← hg] at hc2
      exact hc2
    · obtain ⟨i, hi'⟩ := List.getElem?_of_mem ha
      exact (hx i a hi').2
end
end Go.Proofs.Ytmnjlhifjjainaa
