/-
  What is printed is parsed as it: plain laws.
-/
import Derived.Test.YtgphijfcmegdaaaMailParse
namespace Go.Proofs.Ytgphijfcmegdaaa
open Go.RowKit

theorem layB_good {x : Int} (h : good x) : (numStr x).data.toList = numBytes x.toNat := numStr_list h

theorem snoc_ind {α : Type} {p : List α → Prop} (h0 : p []) (h1 : ∀ l x, p l → p (l ++ [x])) : ∀ l, p l := by
  have key : ∀ (k : Nat) (l : List α), l.length = k → p l := by
    intro k
    induction k with
    | zero => intro l h; rw [List.eq_nil_of_length_eq_zero h]; exact h0
    | succ k ih =>
      intro l h
      have hne : l ≠ [] := fun e => by subst e; simp at h
      rw [← List.dropLast_concat_getLast hne]
      exact h1 _ _ (ih _ (by simp [h]))
  exact fun l => key _ l rfl

theorem rdInts_back {s : ByteArray} {q : Nat} : ∀ (xs : List Int) (r : List UInt8), s.data.toList.drop q = layB xs ++ r → (∀ x ∈ xs, good x) → rdInts s xs.length q = some (xs, q + (layB xs).length) := by
  refine snoc_ind (fun r _ _ => rfl) fun xs x ih r h hg => ?_
  have hx := hg x (by simp)
  rw [layB_snoc, List.append_assoc] at h
  have h1 := ih _ h (fun y hy => hg y (by simp [hy]))
  have hd : s.data.toList.drop (q + (layB xs).length) = numBytes x.toNat ++ r := by
    rw [← List.drop_drop, h, List.drop_left, layB_good hx]
  have h2 := rdAt_back hd (good_max hx)
  rw [List.length_append, List.length_singleton, rdInts_more h1 h2, layB_snoc, List.length_append, layB_good hx, Nat.add_assoc]
  rw [show ((x.toNat : Nat) : Int) = x from Int.toNat_of_nonneg hx.1]

theorem may_good {m : Msg} (h : mayM m) : ∀ x ∈ [m.slot, m.dir, m.v, m.d], good x := by
  intro x hx
  unfold mayM mayK at h
  unfold good
  simp only [List.mem_cons, List.not_mem_nil, or_false] at hx
  rcases hx with rfl | rfl | rfl | rfl <;> omega

theorem rdMsgs_back {s : ByteArray} {q : Nat} : ∀ (l : List Msg) (r : List UInt8), s.data.toList.drop q = msgsB l ++ r → allMay l → rdMsgs s l.length q = some (l, q + (msgsB l).length) := by
  refine snoc_ind (fun r _ _ => rfl) fun l m ih r h hg => ?_
  have hm := hg m (by simp)
  rw [msgsB_snoc, List.append_assoc] at h
  have h1 := ih _ h (fun y hy => hg y (by simp [hy]))
  have hd : s.data.toList.drop (q + (msgsB l).length) = layB [m.slot, m.dir, m.v, m.d] ++ r := by
    rw [← List.drop_drop, h, List.drop_left]; rfl
  have h2 := rdInts_back _ _ hd (may_good hm)
  rw [List.length_append, List.length_singleton, rdMsgs_more h1 h2, msgsB_snoc, List.length_append, Nat.add_assoc]
  rfl

theorem parse_back {l : List Msg} (h1 : l.length ≤ 1000) (h2 : allMay l) : parseO (printS l) = some l := by
  have hp : printS l = ⟨(printB l).toArray⟩ := by unfold printS; rw [if_pos ⟨h1, h2⟩]
  have hl : (printS l).data.toList = layB [(l.length : Int)] ++ msgsB l := by rw [hp]; simp [printB]
  have hg : good (l.length : Int) := ⟨by omega, by omega⟩
  have e1 : layB [(l.length : Int)] = numBytes l.length := by
    have : layB [(l.length : Int)] = (numStr (l.length : Int)).data.toList := by simp [layB]
    rw [this, layB_good hg]; rfl
  rw [e1] at hl
  have r1 : rdAt (printS l) (0 : Nat) = some (l.length, 0 + (numBytes l.length).length) := rdAt_back (p := 0) (r := msgsB l) (by rw [List.drop_zero]; exact hl) (by unfold maxNum; omega)
  rw [Nat.zero_add] at r1
  have r2 : rdMsgs (printS l) l.length (numBytes l.length).length = some (l, (numBytes l.length).length + (msgsB l).length) := rdMsgs_back l [] (by rw [hl, List.drop_left, List.append_nil]) h2
  refine parseO_some r1 h1 r2 ⟨?_, h2⟩
  rw [← size_list, hl, List.length_append]

/-- What is parsed is printed as it was. -/
theorem print_back {s : ByteArray} {l : List Msg} (h : parseO s = some l) : printErr l = 0 ∧ printS l = s := by
  unfold parseO at h
  split at h
  · rename_i n q h1
    split at h
    · rename_i hn
      split at h
      · rename_i l' e h3
        split at h
        · rename_i hc
          injection h with h
          subst h
          exact (parse_same h1 hn h3).2 hc
        · cases h
      · cases h
    · cases h
  · cases h
theorem parse_len {s : ByteArray} : (parseL s).length ≤ 1000 := by
  unfold parseL
  cases h : parseO s with
  | none => simp
  | some l =>
    have := (print_back h).1
    unfold printErr at this
    split at this
    · omega
    · simp; omega
end Go.Proofs.Ytgphijfcmegdaaa
