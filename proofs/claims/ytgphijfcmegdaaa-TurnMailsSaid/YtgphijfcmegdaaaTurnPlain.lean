/-
  Plain laws of chapter 17: picks, and what is ordered by them. No program in sight.
-/
namespace Go.Proofs.Ytgphijfcmegdaaa

/-- The pick among n. -/
def pickAt (n : Nat) (p : Int) : Nat := (p % (n : Int)).toNat

theorem pickAt_lt (n : Nat) (p : Int) (h : 0 < n) : pickAt n p < n := by
  unfold pickAt
  have h1 := Int.emod_nonneg p (show (n : Int) ≠ 0 by omega)
  have h2 := Int.emod_lt_of_pos p (show (0 : Int) < n by omega)
  omega

theorem pickAt_cast (n : Nat) (p : Int) (h : 0 < n) : (pickAt n p : Int) = p % (n : Int) := by
  unfold pickAt
  have h1 := Int.emod_nonneg p (show (n : Int) ≠ 0 by omega)
  omega

theorem pickAt_zero (n : Nat) : pickAt n 0 = 0 := by simp [pickAt]

/-- What n things are, ordered by picks: each time the one at the next pick of those that are left. -/
def ordN {α : Type} : Nat → List α → List Int → List α
  | 0, _, _ => []
  | n + 1, l, ps => (l[pickAt (n + 1) (ps.headD 0)]?).toList ++ ordN n (l.eraseIdx (pickAt (n + 1) (ps.headD 0))) ps.tail

def ord {α : Type} (l : List α) (ps : List Int) : List α := ordN l.length l ps

theorem ord_nil {α : Type} (ps : List Int) : ord ([] : List α) ps = [] := rfl

/-- One step. -/
theorem ord_step {α : Type} (l : List α) (ps : List Int) (k : Nat) (hk : k < l.length) (hp : k = pickAt l.length (ps.headD 0)) :
    ord l ps = l[k] :: ord (l.eraseIdx k) ps.tail := by
  unfold ord
  obtain ⟨n, hn⟩ : ∃ n, l.length = n + 1 := ⟨l.length - 1, by omega⟩
  rw [hn] at hp
  rw [List.length_eraseIdx_of_lt hk, hn]
  simp only [ordN, ← hp, Nat.add_sub_cancel]
  rw [List.getElem?_eq_getElem hk]
  rfl

/-- One step, with picks from the j-th on. -/
theorem ord_step_at {α : Type} (l : List α) (ps : List Int) (j q : Nat) (x : α) (hq : pickAt l.length (ps[j]?.getD 0) = q) (hx : l[q]? = some x) :
    ord l (ps.drop j) = x :: ord (l.eraseIdx q) (ps.drop (j + 1)) := by
  obtain ⟨h1, h2⟩ := List.getElem?_eq_some_iff.1 hx
  have hh : (ps.drop j).headD 0 = ps[j]?.getD 0 := by
    rw [List.headD_eq_head?_getD, List.head?_drop]
  rw [ord_step l (ps.drop j) q h1 (by rw [hh]; exact hq.symm), h2, List.tail_drop]

theorem length_ordN {α : Type} : ∀ (n : Nat) (l : List α) (ps : List Int), l.length = n → (ordN n l ps).length = n
  | 0, _, _, _ => rfl
  | n + 1, l, ps, h => by
    have hk := pickAt_lt (n + 1) (ps.headD 0) (by omega)
    have hl : (l.eraseIdx (pickAt (n + 1) (ps.headD 0))).length = n := by rw [List.length_eraseIdx_of_lt (by omega), h]; rfl
    simp only [ordN, List.length_append, length_ordN n _ ps.tail hl]
    rw [List.getElem?_eq_getElem (by omega)]
    simp; omega

theorem length_ord {α : Type} (l : List α) (ps : List Int) : (ord l ps).length = l.length := length_ordN _ _ _ rfl

theorem eraseIdx_perm {α : Type} : ∀ (l : List α) (k : Nat) (h : k < l.length), (l[k] :: l.eraseIdx k).Perm l
  | [], _, h => absurd h (by simp)
  | x :: l, 0, _ => List.Perm.refl _
  | x :: l, k + 1, h => by
    have ih := eraseIdx_perm l k (by simpa using h)
    simp only [List.getElem_cons_succ, List.eraseIdx_cons_succ]
    exact (List.Perm.swap _ _ _).trans (List.Perm.cons x ih)

theorem map_eraseIdx {α β : Type} (f : α → β) : ∀ (l : List α) (k : Nat), (l.map f).eraseIdx k = (l.eraseIdx k).map f
  | [], _ => by simp
  | x :: l, 0 => rfl
  | x :: l, k + 1 => by simp [map_eraseIdx f l k]

theorem perm_ordN {α : Type} : ∀ (n : Nat) (l : List α) (ps : List Int), l.length = n → (ordN n l ps).Perm l
  | 0, l, ps, h => by
    have : l = [] := List.eq_nil_of_length_eq_zero h
    subst this; exact List.Perm.refl _
  | n + 1, l, ps, h => by
    have hk := pickAt_lt (n + 1) (ps.headD 0) (by omega)
    have hl : (l.eraseIdx (pickAt (n + 1) (ps.headD 0))).length = n := by rw [List.length_eraseIdx_of_lt (by omega), h]; rfl
    simp only [ordN]
    rw [List.getElem?_eq_getElem (by omega)]
    have ih := perm_ordN n _ ps.tail hl
    have h2 : (l[pickAt (n + 1) (ps.headD 0)] :: l.eraseIdx (pickAt (n + 1) (ps.headD 0))).Perm l := eraseIdx_perm l _ (by omega)
    exact (List.Perm.cons _ ih).trans h2

theorem perm_ord {α : Type} (l : List α) (ps : List Int) : (ord l ps).Perm l := perm_ordN _ _ _ rfl

theorem ordN_nil {α : Type} : ∀ (n : Nat) (l : List α), l.length = n → ordN n l [] = l
  | 0, l, h => by
    have : l = [] := List.eq_nil_of_length_eq_zero h
    subst this; rfl
  | n + 1, l, h => by
    cases l with
    | nil => simp at h
    | cons x l =>
      simp only [ordN, List.headD_nil, pickAt_zero, List.tail_nil]
      rw [show (x :: l).eraseIdx 0 = l from rfl, ordN_nil n l (by simpa using h)]
      rfl

theorem ord_none {α : Type} (l : List α) : ord l [] = l := ordN_nil _ _ rfl

/-- Ordering by picks goes through any map. -/
theorem ordN_map {α β : Type} (f : α → β) : ∀ (n : Nat) (l : List α) (ps : List Int), l.length = n → ordN n (l.map f) ps = (ordN n l ps).map f
  | 0, _, _, _ => rfl
  | n + 1, l, ps, h => by
    have hk := pickAt_lt (n + 1) (ps.headD 0) (by omega)
    have hl : (l.eraseIdx (pickAt (n + 1) (ps.headD 0))).length = n := by rw [List.length_eraseIdx_of_lt (by omega), h]; rfl
    simp only [ordN, List.map_append, map_eraseIdx f, ordN_map f n _ ps.tail hl, List.getElem?_map]
    congr 1
    rw [List.getElem?_eq_getElem (by omega)]
    rfl

theorem ord_map {α β : Type} (f : α → β) (l : List α) (ps : List Int) : ord (l.map f) ps = (ord l ps).map f := by
  unfold ord; rw [List.length_map]; exact ordN_map f _ l ps rfl

/-- Picks that are as many more than a multiple of what is left tell the same. -/
theorem ordN_more {α : Type} : ∀ (n : Nat) (l : List α) (ps qs : List Int), l.length = n → ps.length = qs.length →
    (∀ i, i < n → i < ps.length → ∃ t : Int, qs[i]?.getD 0 = ps[i]?.getD 0 + t * ((n : Int) - i)) → ordN n l ps = ordN n l qs
  | 0, _, _, _, _, _, _ => rfl
  | n + 1, l, ps, qs, h, hlen, hm => by
    have hk := pickAt_lt (n + 1) (ps.headD 0) (by omega)
    have hl : (l.eraseIdx (pickAt (n + 1) (ps.headD 0))).length = n := by rw [List.length_eraseIdx_of_lt (by omega), h]; rfl
    have e : pickAt (n + 1) (qs.headD 0) = pickAt (n + 1) (ps.headD 0) := by
      cases ps with
      | nil =>
        have : qs = [] := List.eq_nil_of_length_eq_zero (by simpa using hlen.symm)
        subst this; rfl
      | cons p ps =>
        cases qs with
        | nil => simp at hlen
        | cons q qs =>
          obtain ⟨t, ht⟩ := hm 0 (by omega) (by simp)
          simp at ht
          subst ht
          simp only [List.headD_cons, pickAt]
          congr 1
          rw [show (((n + 1 : Nat) : Int)) = (n : Int) + 1 by omega, Int.add_mul_emod_self_right]
    simp only [ordN, e]
    congr 1
    refine ordN_more n _ ps.tail qs.tail hl (by simp [hlen]) ?_
    intro i hi hip
    obtain ⟨t, ht⟩ := hm (i + 1) (by omega) (by simp at hip; omega)
    refine ⟨t, ?_⟩
    simp only [List.getElem?_tail]
    rw [ht]
    congr 2
    omega

/-- The row that is dealt i-th of many. -/
def dealRow {α : Type} : List α → Nat → Nat → List α
  | l, parts, i => (List.range l.length).filterMap fun j => if j % parts = i then l[j]? else none

end Go.Proofs.Ytgphijfcmegdaaa
