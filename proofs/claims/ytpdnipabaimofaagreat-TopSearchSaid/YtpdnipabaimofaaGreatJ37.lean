/-
  Step and Each, whatever they are asked: one contract each for the program and the reference.
-/
import Derived.Test.YtpdnipabaimofaaGreatJ10
import Derived.Test.YtpdnipabaimofaaGreatJ36
import Derived.Test.YtpdnipabaimofaaGreatJ33
namespace Go.Proofs.YtpdnipabaimofaaGreat
open Go.RowKit

/-- A step's states, messages and error. -/
def stepR (kind radius : Int) (r : Rws) (S M : List Msg) (k n : Int) : List Msg × List Msg × Int :=
  if chkR r then if stepOk S M k n then (stepS S M, stepM (nxM kind radius r) S M, 0) else ([], [], 1) else ([], [], 40)
theorem stepR_yes {kind radius : Int} {r : Rws} {S M : List Msg} {k n : Int} (hc : chkR r) (h : stepOk S M k n) : stepR kind radius r S M k n = (stepS S M, stepM (nxM kind radius r) S M, 0) := by unfold stepR; rw [if_pos hc, if_pos h]
theorem stepR_no {kind radius : Int} {r : Rws} {S M : List Msg} {k n : Int} (h : ¬ (chkR r ∧ stepOk S M k n)) : stepR kind radius r S M k n = ([], [], if chkR r then 1 else 40) := by
  unfold stepR
  by_cases hc : chkR r
  · rw [if_pos hc, if_neg (fun k => h ⟨hc, k⟩), if_pos hc]
  · rw [if_neg hc, if_neg hc]
theorem stepR_workers {kind radius : Int} {r : Rws} {S M : List Msg} {k k' n : Int} (h : 1 ≤ k ∧ k ≤ 16) (h' : 1 ≤ k' ∧ k' ≤ 16) : stepR kind radius r S M k n = stepR kind radius r S M k' n := by
  have e : stepOk S M k n ↔ stepOk S M k' n := ⟨fun x => ⟨x.1, x.2.1, x.2.2.1, h'⟩, fun x => ⟨x.1, x.2.1, x.2.2.1, h⟩⟩
  unfold stepR
  by_cases hc : chkR r
  · rw [if_pos hc, if_pos hc]
    by_cases hk : stepOk S M k n
    · rw [if_pos hk, if_pos (e.1 hk)]
    · rw [if_neg hk, if_neg (fun x => hk (e.2 x))]
  · rw [if_neg hc, if_neg hc]
theorem stepR_code {kind radius : Int} {r : Rws} {S M : List Msg} {k n : Int} : (stepR kind radius r S M k n).2.2 = 0 ∧ (chkR r ∧ stepOk S M k n) ∨ (stepR kind radius r S M k n).2.2 ≠ 0 ∧ ¬ (chkR r ∧ stepOk S M k n) := by
  by_cases h : chkR r ∧ stepOk S M k n
  · rw [stepR_yes h.1 h.2]; exact .inl ⟨rfl, h⟩
  · rw [stepR_no h]
    refine .inr ⟨?_, h⟩
    show (if chkR r then (1 : Int) else 40) ≠ 0
    split <;> decide

theorem own_max {w : World} {base : Nat} {e : TypeId} {size n c : Nat} {A : Option Addr} {xs : List Value} (h : w.ownsRow base e size (.slice A n c) n xs) : n ≤ maxLen := Nat.le_trans (own_cap h).1 (own_cap h).2
/-- What a call of a step gives. -/
def StDone (w w' : World) (res : List Msg × List Msg × Int) (e : Ending) : Prop :=
  ∃ A1 k1 c1 A2 k2 c2, e = .returned (.tuple #[.slice A1 k1 c1, .slice A2 k2 c2, .int .i64 res.2.2]) ∧ w'.ownsRow w.heap.size 121 4 (.slice A1 k1 c1) k1 (mv res.1) ∧ w'.ownsRow w.heap.size 79 4 (.slice A2 k2 c2) k2 (mv res.2.1) ∧ Below w.heap.size w w'
section
variable (q : QuA) (a : RwA) (As Am : Option Addr) (ns cs nm cm : Nat) (k : Int) (S M : List Msg) (w : World)
theorem stepP_c (Ap : Option Addr) (np cp : Nat) (ps : List Int) (ha : RwIn w w.heap.size a) (hS : Reads w w.heap.size 4 As ns (mv S)) (hM : Reads w w.heap.size 4 Am nm (mv M)) (hP : Reads w w.heap.size 1 Ap np (iv ps))
    (hns : ns ≤ 500000) (hnm : nm ≤ 4000) (hnp : np ≤ maxLen) (fS : ∀ m ∈ S, m.fits) (fM : ∀ m ∈ M, m.fits) :
    Calls Tryz.prog 24 #[quVal q, rwVal a, .slice As ns cs, .slice Am nm cm, .int .i64 k, .slice Ap np cp] w (fun e w' => StDone w w' (stepR q.kind q.radius a.r S M k ((a.n1 : Int) - 1)) e) := by
  by_cases h : chkR a.r ∧ stepOk S M k ((a.n1 : Int) - 1)
  · rw [stepR_yes h.1 h.2]
    obtain ⟨qn, rfl⟩ : ∃ qn : Nat, k = (qn : Int) := ⟨k.toNat, by have := h.2.2.2.2; omega⟩
    exact step_ok q a As Am Ap ns cs nm cm np cp qn S M ps w ha hS hM hP hns hnm hnp fS fM h.1 h.2
  · rw [stepR_no h]
    refine Calls.mono (step_err q a As Am Ap ns cs nm cm np cp k S M ps w ha hS hM hP hns hnm hnp fS fM h) ?_
    rintro e w' ⟨rfl, hB⟩
    exact ⟨none, 0, 0, none, 0, 0, rfl, own_nil, own_nil, hB⟩
end
/-- What Each tells. -/
def eachR (l : List Msg) (k : Int) : List Int × Int := if eachOk l k then (cntL l k.toNat, 0) else ([], 1)
def EaDone (w w' : World) (res : List Int × Int) (e : Ending) : Prop :=
  ∃ A n c, e = .returned (.tuple #[.slice A n c, .int .i64 res.2]) ∧ w'.ownsRow w.heap.size 3 1 (.slice A n c) n (iv res.1) ∧ Below w.heap.size w w'
theorem each_res {w w' : World} {l : List Msg} {k : Int} {e : Ending} (h : EachDone w w' l k e) : EaDone w w' (eachR l k) e := by
  unfold EachDone at h
  unfold eachR
  rcases h with ⟨h1, A, c, rfl, ho, hB⟩ | ⟨h1, rfl, hB⟩
  · rw [if_pos h1]; exact ⟨A, _, c, rfl, ho, hB⟩
  · rw [if_neg h1]; exact ⟨none, 0, 0, rfl, own_nil, hB⟩
end Go.Proofs.YtpdnipabaimofaaGreat
