/-
  TopBatches, plain: what holds before each step. No program in sight.
-/
import Derived.Test.YtpdnipabaimofaaGreatJ37
import Derived.Test.YtpdnipabaimofaaGreatJ19
import Derived.Test.YtpdnipabaimofaaGreatJ20
namespace Go.Proofs.YtpdnipabaimofaaGreat
open Go.RowKit

/-- A message or state of step i. -/
def tm (n : Nat) (i : Nat) (x : Msg) : Prop := x.slot = 3 ∧ (x.dir = 0 ∨ x.dir = 1) ∧ (0 ≤ x.v ∧ x.v < (n : Int)) ∧ (0 ≤ x.d ∧ x.d ≤ (i : Int))
theorem tm_may {n i : Nat} {x : Msg} (h : tm n i x) (hn : n ≤ 200) (hi : i ≤ 200) : mayM x ∧ x.v < (n : Int) := by
  obtain ⟨h1, h2, h3, h4⟩ := h
  unfold mayM mayK
  omega
theorem tm_more {n i : Nat} {x : Msg} (h : tm n i x) : tm n (i + 1) x := by
  obtain ⟨h1, h2, h3, h4⟩ := h
  exact ⟨h1, h2, h3, h4.1, by omega⟩
theorem rise_lenI : ∀ (l : List Int) (lo hi : Int), l.Pairwise (· < ·) → (∀ x ∈ l, lo ≤ x ∧ x < hi) → lo ≤ hi → (l.length : Int) ≤ hi - lo
  | [], lo, hi, _, _, h => by simp; omega
  | x :: l, lo, hi, hp, hb, h => by
    rw [List.pairwise_cons] at hp
    have hx := hb x (by simp)
    have ih := rise_lenI l (x + 1) hi hp.2 (fun y hy => ⟨by have := hp.1 y hy; omega, (hb y (by simp [hy])).2⟩) (by omega)
    rw [List.length_cons]
    omega
theorem tm_len {n i : Nat} {l : List Msg} (h : ∀ x ∈ l, tm n i x) (hp : l.Pairwise kless) : l.length ≤ 2 * n := by
  have h1 : (l.map fun x => x.dir * (n : Int) + x.v).Pairwise (· < ·) := by
    rw [List.pairwise_map]
    refine hp.imp_of_mem fun {a b} ha hb hk => ?_
    obtain ⟨a1, a2, a3, -⟩ := h a ha
    obtain ⟨b1, b2, b3, -⟩ := h b hb
    unfold kless at hk
    rcases a2 with a2 | a2 <;> rcases b2 with b2 | b2 <;> · (rw [a2, b2] at hk ⊢; omega)
  have h2 := rise_lenI _ 0 (2 * (n : Int)) h1 (fun y hy => by
    obtain ⟨x, hx, rfl⟩ := List.mem_map.1 hy
    obtain ⟨-, a2, a3, -⟩ := h x hx
    rcases a2 with a2 | a2 <;> rw [a2] <;> omega) (by omega)
  rw [List.length_map] at h2
  omega

/-- What holds before step i. -/
structure Inv (n i : Nat) (S M : List Msg) : Prop where
  s_ : ∀ x ∈ S, tm n i x
  sr : S.Pairwise kless
  m_ : ∀ x ∈ M, tm n i x
  mr : M.Pairwise kless
theorem Inv.ok {n i : Nat} {S M : List Msg} (h : Inv n i S M) (hn : n ≤ 200) (hi : i ≤ 200) {k : Int} (hk : 1 ≤ k ∧ k ≤ 16) : stepOk S M k (n : Int) :=
  ⟨⟨fun x hx => tm_may (h.s_ x hx) hn hi, h.sr⟩, fun x hx => (tm_may (h.m_ x hx) hn hi).1, fun x hx => (tm_may (h.m_ x hx) hn hi).2, hk⟩
theorem Inv.may {n i : Nat} {S M : List Msg} (h : Inv n i S M) (hn : n ≤ 200) (hi : i ≤ 200) : allMay M := fun x hx => (tm_may (h.m_ x hx) hn hi).1
theorem Inv.fitS {n i : Nat} {S M : List Msg} (h : Inv n i S M) (hn : n ≤ 200) (hi : i ≤ 200) : ∀ x ∈ S, x.fits := fun x hx => may_fits (tm_may (h.s_ x hx) hn hi).1
theorem Inv.fitM {n i : Nat} {S M : List Msg} (h : Inv n i S M) (hn : n ≤ 200) (hi : i ≤ 200) : ∀ x ∈ M, x.fits := fun x hx => may_fits (tm_may (h.m_ x hx) hn hi).1
theorem inv_start {q : QuA} {n : Nat} (h : okQ q (n : Int)) : Inv n 0 [] (startM q.kind q.src q.dst 3) := by
  obtain ⟨h1, h2, h3, -⟩ := h
  refine ⟨by simp, by simp, fun x hx => ?_, ?_⟩
  · unfold startM at hx
    split at hx
    · simp only [List.mem_cons, List.not_mem_nil, or_false] at hx
      have h4 := h3 (by omega)
      rcases hx with rfl | rfl
      · exact ⟨rfl, .inl rfl, h2, by simp⟩
      · exact ⟨rfl, .inr rfl, h4, by simp⟩
    · split at hx
      · simp only [List.mem_cons, List.not_mem_nil, or_false] at hx
        subst hx
        exact ⟨rfl, .inl rfl, h2, by simp⟩
      · simp at hx
  · unfold startM
    split
    · simp [kless]
    · split <;> simp
theorem inv_step {kind radius : Int} {r : Rws} {i : Nat} {S M : List Msg} (hc : chkR r) (h : Inv r.n i S M) : Inv r.n (i + 1) (stepS S M) (stepM (nxM kind radius r) S M) := by
  have hi := stepS_is M h.sr
  have hf : ∀ x ∈ freshL S M, tm r.n i x := fun x hx => h.m_ x (freshL_mem hx)
  refine ⟨fun x hx => ?_, hi.1, fun x hx => ?_, freshL_rise _ _⟩
  · rcases (hi.2.1 x).1 hx with hx | hx
    · exact tm_more (h.s_ x hx)
    · exact tm_more (hf x hx)
  · obtain ⟨y, hy, hx⟩ := List.mem_flatMap.1 (freshL_mem hx)
    obtain ⟨y1, y2, y3, y4⟩ := hf y hy
    unfold nxM at hx
    split at hx
    · simp at hx
    · obtain ⟨u, hu, rfl⟩ := List.mem_map.1 hx
      refine ⟨y1, y2, row_in hc y2 y3 hu, ?_, ?_⟩ <;> simp only <;> omega
theorem stepR_perm {kind radius : Int} {r : Rws} {S M Z : List Msg} {k n : Int} (h : Z.Perm M) (hc : chkR r) (hok : stepOk S M k n) : stepR kind radius r S Z k n = (stepS S M, stepM (nxM kind radius r) S M, 0) := by
  have hf : freshL S Z = freshL S M := freshL_same fun m => h.mem_iff
  have hs : stepS S Z = stepS S M := by unfold stepS; rw [hf]
  have hm : stepM (nxM kind radius r) S Z = stepM (nxM kind radius r) S M := by unfold stepM; rw [hs, hf]
  have hk : stepOk S Z k n := ⟨hok.1, fun x hx => hok.2.1 x (h.mem_iff.1 hx), fun x hx => hok.2.2.1 x (h.mem_iff.1 hx), hok.2.2.2⟩
  rw [stepR_yes hc hk, hs, hm]
end Go.Proofs.YtpdnipabaimofaaGreat
