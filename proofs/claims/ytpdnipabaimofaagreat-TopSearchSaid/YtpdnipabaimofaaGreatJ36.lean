/-
  The reference's Step where it goes through: the walk.
-/
import Derived.Test.YtpdnipabaimofaaGreatJ35
import Derived.Test.YtpdnipabaimofaaGreatJ09
import Derived.Deep.RegionLaw
namespace Go.Proofs.YtpdnipabaimofaaGreat
open Go.RowKit

theorem nowL_snoc (S l : List Msg) (x : Msg) : nowL S (l ++ [x]) = putM (nowL S l) x := by unfold nowL; rw [List.foldl_append]; rfl
theorem nowL_take {S f : List Msg} (hS : S.Pairwise kless) (hf : f.Pairwise kless) (hx : ∀ m ∈ f, fresh S m) (j : Nat) : (nowL S (f.take j)).Pairwise kless ∧ (∀ m, m ∈ nowL S (f.take j) ↔ m ∈ S ∨ m ∈ f.take j) ∧ (nowL S (f.take j)).length = S.length + (f.take j).length :=
  nowL_is hS (hf.sublist (List.take_sublist _ _)) fun m hm => hx m (List.mem_of_mem_take hm)
theorem nowL_fresh {S f : List Msg} (hS : S.Pairwise kless) (hf : f.Pairwise kless) (hx : ∀ m ∈ f, fresh S m) {j : Nat} {x : Msg} (h : f[j]? = some x) : fresh (nowL S (f.take j)) x := fun y hy => by
  rcases ((nowL_take hS hf hx j).2.1 y).1 hy with hy | hy
  · exact hx x (List.mem_of_getElem? h) y hy
  · obtain ⟨h1, h2⟩ := List.getElem?_eq_some_iff.1 h
    have h3 : f = f.take j ++ x :: f.drop (j + 1) := by rw [← h2, ← List.drop_eq_getElem_cons h1, List.take_append_drop]
    rw [h3] at hf
    exact kless_ne ((List.pairwise_append.1 hf).2.2 y hy x (by simp))

end Go.Proofs.YtpdnipabaimofaaGreat
