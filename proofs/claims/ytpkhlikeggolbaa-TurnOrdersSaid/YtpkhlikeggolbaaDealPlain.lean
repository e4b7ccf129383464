/-
  Plain laws of chapter 17: what is dealt. No program in sight.
-/
namespace Go.Proofs.Ytpkhlikeggolbaa

/-- Of things from place j on those whose place leaves i by p. -/
def dealFrom {α : Type} : List α → Nat → Nat → Nat → List α
  | [], _, _, _ => []
  | x :: l, p, i, j => if j % p = i then x :: dealFrom l p i (j + 1) else dealFrom l p i (j + 1)

theorem dealFrom_append {α : Type} (p i : Nat) (m : List α) : ∀ (l : List α) (j : Nat), dealFrom (l ++ m) p i j = dealFrom l p i j ++ dealFrom m p i (j + l.length)
  | [], j => by simp [dealFrom]
  | x :: l, j => by
    simp only [List.cons_append, dealFrom, List.length_cons]
    rw [dealFrom_append p i m l (j + 1), show j + (l.length + 1) = j + 1 + l.length by omega]
    split <;> rfl

theorem dealFrom_none {α : Type} (p i : Nat) : ∀ (l : List α) (j : Nat), (∀ k, j ≤ k → k < j + l.length → k % p ≠ i) → dealFrom l p i j = []
  | [], _, _ => rfl
  | x :: l, j, h => by
    simp only [dealFrom]
    rw [if_neg (h j (Nat.le_refl _) (by simp))]
    exact dealFrom_none p i l (j + 1) (fun k h1 h2 => h k (by omega) (by simp; omega))

theorem mod_near (p j d : Nat) (h0 : 0 < d) (h1 : d < p) : (j + d) % p ≠ j % p := by
  have hj := Nat.mod_lt j (show 0 < p by omega)
  rw [Nat.add_mod, Nat.mod_eq_of_lt h1]
  rcases Nat.lt_or_ge (j % p + d) p with h | h
  · rw [Nat.mod_eq_of_lt h]; omega
  · rw [Nat.mod_eq_sub_mod h, Nat.mod_eq_of_lt (by omega)]; omega

theorem dealFrom_chunk {α : Type} (p i j : Nat) (x : α) (l : List α) (hl : l.length < p) (hj : j % p = i) : dealFrom (x :: l) p i j = [x] := by
  simp only [dealFrom]
  rw [if_pos hj, dealFrom_none p i l (j + 1) (fun k h1 h2 => ?_)]
  rw [← hj, show k = j + (k - j) by omega]
  exact mod_near p j (k - j) (by omega) (by omega)

theorem dealFrom_le {α : Type} (p i : Nat) : ∀ (l : List α) (j : Nat), (dealFrom l p i j).length ≤ l.length
  | [], _ => Nat.le_refl _
  | x :: l, j => by
    simp only [dealFrom]
    have := dealFrom_le p i l (j + 1)
    split <;> simp <;> omega

/-- The rows that are dealt. -/
def dealt {α : Type} (l : List α) (p : Nat) : List (List α) := (List.range p).map fun i => dealFrom l p i 0

theorem dealt_len {α : Type} (l : List α) (p : Nat) : (dealt l p).length = p := by simp [dealt]
theorem dealt_get {α : Type} (l : List α) (p i : Nat) (h : i < p) : (dealt l p)[i]? = some (dealFrom l p i 0) := by
  unfold dealt
  rw [List.getElem?_map, List.getElem?_range h]; rfl
theorem dealt_nil {α : Type} (p : Nat) : dealt ([] : List α) p = List.replicate p [] := by
  apply List.ext_getElem?
  intro i
  by_cases h : i < p
  · rw [dealt_get _ _ _ h, List.getElem?_replicate, if_pos h]; rfl
  · rw [List.getElem?_eq_none (by rw [dealt_len]; omega), List.getElem?_eq_none (by simp; omega)]

theorem dealt_snoc {α : Type} (l : List α) (x : α) (p : Nat) (hp : 0 < p) : dealt (l ++ [x]) p = (dealt l p).set (l.length % p) (dealFrom l p (l.length % p) 0 ++ [x]) := by
  have hm := Nat.mod_lt l.length hp
  apply List.ext_getElem?
  intro i
  by_cases h : i < p
  · rw [dealt_get _ _ _ h, dealFrom_append]
    simp only [dealFrom, Nat.zero_add]
    by_cases e : l.length % p = i
    · rw [if_pos e, e, List.getElem?_set_self (by rw [dealt_len]; exact h)]
    · rw [if_neg e, List.append_nil, List.getElem?_set_ne e, dealt_get _ _ _ h]
  · rw [List.getElem?_eq_none (by rw [dealt_len]; omega), List.getElem?_eq_none (by rw [List.length_set, dealt_len]; omega)]

/-- The first ones, up to a place that leaves i: one more behind each round. -/
theorem dealFrom_take_next {α : Type} (l : List α) (p i k : Nat) (x : α) (hp : 0 < p) (hk : k % p = i) (hx : l[k]? = some x) : dealFrom (l.take (k + p)) p i 0 = dealFrom (l.take k) p i 0 ++ [x] := by
  obtain ⟨hlt, he⟩ := List.getElem?_eq_some_iff.1 hx
  obtain ⟨q, rfl⟩ : ∃ q, p = q + 1 := ⟨p - 1, by omega⟩
  rw [List.take_add, dealFrom_append, List.drop_eq_getElem_cons hlt, he, List.take_succ_cons]
  congr 1
  rw [dealFrom_chunk _ _ _ _ _ (by rw [List.length_take]; omega) (by rw [List.length_take, Nat.min_eq_left (by omega)]; simpa using hk)]

theorem dealFrom_take_first {α : Type} (l : List α) (p i : Nat) (hi : i < p) : dealFrom (l.take i) p i 0 = [] := by
  refine dealFrom_none _ _ _ _ (fun k _ h => ?_)
  rw [List.length_take] at h
  rw [Nat.mod_eq_of_lt (by omega)]; omega

theorem dealFrom_take_len {α : Type} (l : List α) (p i : Nat) (hi : i < p) : ∀ t, i + t * p ≤ l.length → (dealFrom (l.take (i + t * p)) p i 0).length = t
  | 0, _ => by simp [dealFrom_take_first l p i hi]
  | t + 1, h => by
    have e : i + (t + 1) * p = i + t * p + p := by rw [Nat.add_mul]; omega
    rw [e] at h ⊢
    have hlt : i + t * p < l.length := by omega
    rw [dealFrom_take_next l p i (i + t * p) l[i + t * p] (by omega) (by rw [Nat.add_mul_mod_self_right, Nat.mod_eq_of_lt hi]) (List.getElem?_eq_getElem hlt), List.length_append, dealFrom_take_len l p i hi t (by omega)]
    rfl

/-- Number i stands in the row that is left of i by p, at i by p. -/
theorem dealt_at {α : Type} (l : List α) (p i : Nat) (hp : 0 < p) (hi : i < l.length) : (dealFrom l p (i % p) 0)[i / p]? = l[i]? := by
  have hm := Nat.mod_lt i hp
  have hd : i % p + i / p * p = i := by rw [Nat.mul_comm]; exact Nat.mod_add_div i p
  have hx : l[i]? = some l[i] := List.getElem?_eq_getElem hi
  have h1 := dealFrom_take_next l p (i % p) i l[i] hp rfl hx
  have h2 := dealFrom_take_len l p (i % p) hm (i / p) (by omega)
  rw [hd] at h2
  have h3 : dealFrom l p (i % p) 0 = dealFrom (l.take (i + p)) p (i % p) 0 ++ dealFrom (l.drop (i + p)) p (i % p) (0 + (l.take (i + p)).length) := by
    rw [← dealFrom_append, List.take_append_drop]
  rw [h3, h1, List.append_assoc, List.getElem?_append_right (by omega), h2, Nat.sub_self]
  rw [hx]; rfl

theorem sum_one (a : Nat) : ∀ p, ((List.range p).map fun i => if a = i then 1 else 0).sum = if a < p then 1 else 0
  | 0 => by simp
  | p + 1 => by
    rw [List.range_succ, List.map_append, List.sum_append, sum_one a p]
    simp only [List.map_cons, List.map_nil, List.sum_cons, List.sum_nil]
    split <;> split <;> (try split) <;> omega

theorem sum_add (f g : Nat → Nat) : ∀ p, ((List.range p).map fun i => f i + g i).sum = ((List.range p).map f).sum + ((List.range p).map g).sum
  | 0 => by simp
  | p + 1 => by
    rw [List.range_succ, List.map_append, List.sum_append, sum_add f g p, List.map_append, List.map_append, List.sum_append, List.sum_append]
    simp; omega

theorem sum_dealFrom {α : Type} (p : Nat) (hp : 0 < p) : ∀ (l : List α) (j : Nat), ((List.range p).map fun i => (dealFrom l p i j).length).sum = l.length
  | [], j => by
    have : ((List.range p).map fun i => (dealFrom ([] : List α) p i j).length) = List.replicate p 0 := by
      apply List.ext_getElem?
      intro i
      simp [dealFrom, List.getElem?_replicate, List.getElem?_range]
      by_cases h : i < p <;> simp [h]
    rw [this]; simp
  | x :: l, j => by
    have e : (fun i => (dealFrom (x :: l) p i j).length) = fun i => (if j % p = i then 1 else 0) + (dealFrom l p i (j + 1)).length := by
      funext i
      simp only [dealFrom]
      split <;> simp; omega
    rw [e, sum_add, sum_one, sum_dealFrom p hp l (j + 1), if_pos (Nat.mod_lt j hp)]
    simp; omega

/-- What is dealt is all that there is. -/
theorem sum_dealt {α : Type} (l : List α) (p : Nat) (hp : 0 < p) : ((dealt l p).map List.length).sum = l.length := by
  unfold dealt
  rw [List.map_map]
  exact sum_dealFrom p hp l 0

end Go.Proofs.Ytpkhlikeggolbaa
