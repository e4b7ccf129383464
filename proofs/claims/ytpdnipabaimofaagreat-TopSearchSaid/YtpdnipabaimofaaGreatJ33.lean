/-
  round.Each: the walk.
  The references over states: Same, May, own, Right, Each: the walks. (Printed by genrefst.py.)
  The reference's put and Combine: the walks.
  The reference of chapter 19: there, Fresh, within: the walks.
-/
import Derived.Test.YtpdnipabaimofaaGreatJ04
import Derived.Test.YtpdnipabaimofaaGreatJ07
import Derived.Test.YtpdnipabaimofaaGreatJ06
import Derived.Test.YtpdnipabaimofaaGreatJ02
import Derived.Lib.QuietBelow
import Derived.BigQuiet
import Derived.StillTailTactics
import Derived.Deep.RegionLaw
import Derived.BigRegion
namespace Go.Proofs.YtpdnipabaimofaaGreat
open Go.RowKit

/-- How many are at home with each worker. -/
def cntL (l : List Msg) (k : Nat) : List Int := (List.range k).map fun i => ((ofHome l k i).length : Int)
theorem cntL_len (l : List Msg) (k : Nat) : (cntL l k).length = k := by simp [cntL]
theorem cntL_get {l : List Msg} {k i : Nat} (h : i < k) : (cntL l k)[i]? = some ((ofHome l k i).length : Int) := by
  unfold cntL
  rw [List.getElem?_map, List.getElem?_range h]
  rfl
theorem cntL_nil (k : Nat) : cntL [] k = List.replicate k 0 := by
  apply List.ext_getElem
  · simp [cntL]
  · intro i h1 h2
    simp [cntL, ofHome]
theorem cntL_snoc (l : List Msg) (x : Msg) (k : Nat) (_ : homeN x k < k) : cntL (l ++ [x]) k = (cntL l k).set (homeN x k) ((ofHome l k (homeN x k)).length + 1) := by
  apply List.ext_getElem?
  intro i
  by_cases hi : i < k
  · rw [cntL_get hi, ofHome_snoc, List.getElem?_set]
    by_cases e : homeN x k = i
    · subst e
      rw [if_pos rfl, if_pos rfl, if_pos (by rw [cntL_len]; exact hi), List.length_append]
      simp
    · rw [if_neg e, if_neg e, cntL_get hi]
  · rw [List.getElem?_eq_none (by rw [cntL_len]; omega), List.getElem?_eq_none (by rw [List.length_set, cntL_len]; omega)]

def eachOk (l : List Msg) (k : Int) : Prop := (1 ≤ k ∧ k ≤ 16) ∧ allMay l
instance (l : List Msg) (k : Int) : Decidable (eachOk l k) := by unfold eachOk allMay; infer_instance
/-- What Each gives. -/
def EachDone (w w' : World) (l : List Msg) (k : Int) (e : Ending) : Prop :=
  (eachOk l k ∧ ∃ A' c', e = .returned (.tuple #[.slice A' k.toNat c', .int .i64 0]) ∧ w'.ownsRow w.heap.size 3 1 (.slice A' k.toNat c') k.toNat (iv (cntL l k.toNat)) ∧ Below w.heap.size w w') ∨
  (¬ eachOk l k ∧ e = .returned (.tuple #[.slice none 0 0, .int .i64 1]) ∧ Below w.heap.size w w')
theorem homeOk_zero (k : Int) : homeOk 0 k ↔ (1 ≤ k ∧ k ≤ 16) := by unfold homeOk; omega
theorem homeOk_may {x : Msg} {k : Int} (h : mayM x) (hk : 1 ≤ k ∧ k ≤ 16) : homeOk x.v k := by have := h.1.2.2; unfold homeOk; omega

end Go.Proofs.YtpdnipabaimofaaGreat

namespace Go.Proofs.YtpdnipabaimofaaGreat
open Go.RowKit Go.Sort Go.Lib

theorem run_neq_state (x y : Msg) (h : x ≠ y) (w : World) :
    (binOp .neq 121 (.agg #[.int .i64 x.slot, .int .i64 x.dir, .int .i64 x.v, .int .i64 x.d]) (.agg #[.int .i64 y.slot, .int .i64 y.dir, .int .i64 y.v, .int .i64 y.d])).run Tryz.prog w = .ok (.bool true) w := by
  have h' : ¬ (x.slot = y.slot ∧ x.dir = y.dir ∧ x.v = y.v ∧ x.d = y.d) := fun e => h ((Msg.eq_iff _ _).2 e)
  have H := Lib.hid h'
  clear h h'
  go_simp
  by_cases e1 : x.slot = y.slot
  · by_cases e2 : x.dir = y.dir
    · by_cases e3 : x.v = y.v
      · by_cases e4 : x.d = y.d
        · exact absurd ⟨e1, e2, e3, e4⟩ H.out
        · simp [e1, e2, e3, e4]
      · simp [e1, e2, e3]
    · simp [e1, e2]
  · simp [e1]

theorem run_eql_state (x y : Msg) (h : x ≠ y) (w : World) :
    (binOp .eql 121 (.agg #[.int .i64 x.slot, .int .i64 x.dir, .int .i64 x.v, .int .i64 x.d]) (.agg #[.int .i64 y.slot, .int .i64 y.dir, .int .i64 y.v, .int .i64 y.d])).run Tryz.prog w = .ok (.bool false) w := by
  have h' : ¬ (x.slot = y.slot ∧ x.dir = y.dir ∧ x.v = y.v ∧ x.d = y.d) := fun e => h ((Msg.eq_iff _ _).2 e)
  have H := Lib.hid h'
  clear h h'
  go_simp
  by_cases e1 : x.slot = y.slot
  · by_cases e2 : x.dir = y.dir
    · by_cases e3 : x.v = y.v
      · by_cases e4 : x.d = y.d
        · exact absurd ⟨e1, e2, e3, e4⟩ H.out
        · simp [e1, e2, e3, e4]
      · simp [e1, e2, e3]
    · simp [e1, e2]
  · simp [e1]

/-- States are right. -/
def rightR (l : List Msg) : Prop := (∀ x ∈ l, mayM x) ∧ l.Pairwise kless
instance (l : List Msg) : Decidable (rightR l) := by unfold rightR; infer_instance
theorem rightR_take {l : List Msg} (j : Nat) (h : rightR l) : rightR (l.take j) := ⟨fun x hx => h.1 x (List.mem_of_mem_take hx), h.2.sublist (List.take_sublist _ _)⟩

end Go.Proofs.YtpdnipabaimofaaGreat

namespace Go.Proofs.YtpdnipabaimofaaGreat
open Go.RowKit

theorem run_eql_key (x y : Msg) (h : ¬ kEq x y) (w : World) :
    (binOp .eql 77 (.agg #[.int .i64 x.slot, .int .i64 x.dir, .int .i64 x.v]) (.agg #[.int .i64 y.slot, .int .i64 y.dir, .int .i64 y.v])).run Tryz.prog w = .ok (.bool false) w := by
  have h' : ¬ (x.slot = y.slot ∧ x.dir = y.dir ∧ x.v = y.v) := h
  have H := Lib.hid h'
  clear h h'
  go_simp
  by_cases e1 : x.slot = y.slot
  · by_cases e2 : x.dir = y.dir
    · by_cases e3 : x.v = y.v
      · exact absurd ⟨e1, e2, e3⟩ H.out
      · simp [e1, e2, e3]
    · simp [e1, e2]
  · simp [e1]

theorem mv_take (xs : List Msg) (k : Nat) : (mv xs).take (k * 4) = mv (xs.take k) := flat_take mc 4 mc_len xs k
theorem mv_drop (xs : List Msg) (k : Nat) : (mv xs).drop (k * 4) = mv (xs.drop k) := flat_drop mc 4 mc_len xs k

theorem putM_len : ∀ (o : List Msg) (x : Msg), (putM o x).length ≤ o.length + 1
  | [], x => by simp [putM]
  | y :: ys, x => by
    simp only [putM]
    split
    · simp only [List.length_cons]; have := putM_len ys x; omega
    · split
      · simp
      · simp
theorem put_new {xs : List Msg} {n k : Nat} {x y : Msg} (hl : xs.length = n) (hk : k < n) (hy : xs[k]? = some y) (ht : ∀ z ∈ xs.take k, kless z x) (h1 : ¬ kless y x) (h2 : ¬ kEq y x) : putM xs x = xs.take k ++ x :: xs.drop k := by
  have h0 : putM xs x = putM (xs.take k ++ xs.drop k) x := by rw [List.take_append_drop]
  have hd : xs.drop k = y :: xs.drop (k + 1) := by
    rw [List.drop_eq_getElem_cons (by omega)]
    rw [List.getElem?_eq_getElem (by omega)] at hy
    rw [Option.some.inj hy]
  rw [h0, putM_past ht, hd]
  simp only [putM]
  rw [if_neg h1, if_neg h2]
theorem put_same {xs : List Msg} {n k : Nat} {x y : Msg} (hl : xs.length = n) (hk : k < n) (hy : xs[k]? = some y) (ht : ∀ z ∈ xs.take k, kless z x) (h1 : ¬ kless y x) (h2 : kEq y x) : putM xs x = xs.take k ++ { x with d := min x.d y.d } :: xs.drop (k + 1) := by
  have h0 : putM xs x = putM (xs.take k ++ xs.drop k) x := by rw [List.take_append_drop]
  have hd : xs.drop k = y :: xs.drop (k + 1) := by
    rw [List.drop_eq_getElem_cons (by omega)]
    rw [List.getElem?_eq_getElem (by omega)] at hy
    rw [Option.some.inj hy]
  rw [h0, putM_past ht, hd]
  simp only [putM]
  rw [if_neg h1, if_pos h2]
theorem put_last {xs : List Msg} {x : Msg} (ht : ∀ z ∈ xs, kless z x) : putM xs x = xs ++ [x] := by
  have := putM_past (rest := []) ht
  simpa [putM] using this

end Go.Proofs.YtpdnipabaimofaaGreat

namespace Go.Proofs.YtpdnipabaimofaaGreat
open Go.RowKit

theorem key_box {w : World} {b : Nat} {x : Msg} (h : w.heap[b]? = some (.cells #[.int .i64 x.slot, .int .i64 x.dir, .int .i64 x.v] 77 (0, 0))) :
    w.cell? ⟨b, 0, none⟩ = some (.int .i64 x.slot) ∧ w.cell? ⟨b, 1, none⟩ = some (.int .i64 x.dir) ∧ w.cell? ⟨b, 2, none⟩ = some (.int .i64 x.v) := by
  refine ⟨?_, ?_, ?_⟩ <;> · rw [Lib.cell_of_heap h]; rfl

end Go.Proofs.YtpdnipabaimofaaGreat
