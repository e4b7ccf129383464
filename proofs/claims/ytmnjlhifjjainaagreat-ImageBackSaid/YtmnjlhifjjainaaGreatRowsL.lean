/-
  Rows of rows: slices of the call's own, each in a block of its own.
-/
import Derived.Test.YtmnjlhifjjainaaGreatOwn
namespace Go.Proofs.YtmnjlhifjjainaaGreat
open Go.RowKit

/-- Each of the slices vs owns its row of rs; no two lie in one block. -/
def RowsOwn (w : World) (base : Nat) (e : TypeId) (sz : Nat) (vs : List Value) (rs : List (List Value)) : Prop :=
  vs.length = rs.length ∧
  (∀ (i : Nat) (v : Value) (r : List Value), vs[i]? = some v → rs[i]? = some r → ∃ A n c, v = Value.slice A n c ∧ w.ownsRow base e sz (Value.slice A n c) n r) ∧
  (∀ (i j : Nat) (A : Option Addr) (n c : Nat) (A' : Option Addr) (n' c' : Nat), i ≠ j → vs[i]? = some (Value.slice A n c) → vs[j]? = some (Value.slice A' n' c') → Apart A A')

/-- Each of the slices vs reads as its row of rs. -/
def RowsRead (w : World) (B sz : Nat) (vs : List Value) (rs : List (List Value)) : Prop :=
  vs.length = rs.length ∧ ∀ (i : Nat) (v : Value) (r : List Value), vs[i]? = some v → rs[i]? = some r → ∃ A n c, v = Value.slice A n c ∧ n ≤ maxLen ∧ Reads w B sz A n r

/-- None of the slices lies in A's block. -/
def ApartAll (vs : List Value) (A : Option Addr) : Prop := ∀ (j : Nat) (C : Option Addr) (n c : Nat), vs[j]? = some (Value.slice C n c) → Apart C A

section
variable {w w' : World} {base sz n c n' c' : Nat} {e : TypeId} {vs : List Value} {rs : List (List Value)} {A A' C C' : Option Addr}

theorem RowsOwn.len (h : RowsOwn w base e sz vs rs) : vs.length = rs.length := h.1

theorem RowsOwn.at_ (h : RowsOwn w base e sz vs rs) {i : Nat} {r : List Value} (hr : rs[i]? = some r) : ∃ A n c, vs[i]? = some (Value.slice A n c) ∧ w.ownsRow base e sz (Value.slice A n c) n r := by
  obtain ⟨hi, _⟩ := List.getElem?_eq_some_iff.1 hr
  have hv : vs[i]? = some (vs[i]'(by rw [h.1]; exact hi)) := List.getElem?_eq_getElem (by rw [h.1]; exact hi)
  obtain ⟨A, n, c, e1, e2⟩ := h.2.1 i _ r hv hr
  exact ⟨A, n, c, by rw [hv, e1], e2⟩

theorem rowsOwn_nil (w : World) (base : Nat) (e : TypeId) (sz : Nat) : RowsOwn w base e sz [] [] :=
  ⟨rfl, fun i v r h => by simp at h, fun i j A n c A' n' c' _ h => by simp at h⟩

theorem rowsOwn_nils (w : World) (base : Nat) (e : TypeId) (sz k : Nat) : RowsOwn w base e sz (List.replicate k (Value.slice none 0 0)) (List.replicate k []) := by
  refine ⟨by simp, fun i v r h1 h2 => ?_, fun i j A n c A' n' c' _ h1 _ => ?_⟩
  · rw [List.getElem?_replicate] at h1 h2
    split at h1
    · rw [if_pos ‹_›] at h2
      cases h1; cases h2
      exact ⟨none, 0, 0, rfl, own_nil⟩
    · cases h1
  · rw [List.getElem?_replicate] at h1
    split at h1
    · cases h1; exact Apart.none_left
    · cases h1

theorem RowsOwn.keep_ (h : RowsOwn w base e sz vs rs) (hk : ∀ (A : Option Addr) (n c : Nat) (r : List Value), (∃ i : Nat, vs[i]? = some (Value.slice A n c)) → w.ownsRow base e sz (Value.slice A n c) n r → w'.ownsRow base e sz (Value.slice A n c) n r) : RowsOwn w' base e sz vs rs :=
  ⟨h.1, fun i v r h1 h2 => by
    obtain ⟨A, n, c, rfl, ho⟩ := h.2.1 i v r h1 h2
    exact ⟨A, n, c, rfl, hk A n c r ⟨i, h1⟩ ho⟩, h.2.2⟩

theorem RowsOwn.only (h : RowsOwn w base e sz vs rs) {g : Nat} (hg : w.grownBy w' (some g)) (hlt : g < base) : RowsOwn w' base e sz vs rs :=
  h.keep_ fun _ _ _ _ _ ho => own_only ho hg (fun a ha e => by have := (own_lt ho a ha).1; injection e; omega)

theorem RowsOwn.below (h : RowsOwn w base e sz vs rs) (hB : Below w.heap.size w w') : RowsOwn w' base e sz vs rs := h.keep_ fun _ _ _ _ _ ho => own_below ho hB

theorem RowsOwn.kept (h : RowsOwn w base e sz vs rs) (p : Pushed w w' A A') (ha : ApartAll vs A) : RowsOwn w' base e sz vs rs :=
  h.keep_ fun _ _ _ _ ⟨i, hi⟩ ho => p.keep ho (ha i _ _ _ hi)

theorem RowsOwn.apart (h : RowsOwn w base e sz vs rs) (p : Pushed w w' A A') (ha : ApartAll vs A) : ApartAll vs A' := by
  intro j C n c hj
  obtain ⟨hi, _⟩ := List.getElem?_eq_some_iff.1 hj
  have hr : rs[j]? = some (rs[j]'(by rw [← h.1]; exact hi)) := List.getElem?_eq_getElem (by rw [← h.1]; exact hi)
  obtain ⟨D, m, d, e1, ho⟩ := h.2.1 j _ _ hj hr
  cases e1
  exact p.apart ho (ha j _ _ _ hj)

theorem RowsOwn.more (h : RowsOwn w base e sz vs rs) {b : Nat} (hb : b ≤ base) : RowsOwn w b e sz vs rs :=
  ⟨h.1, fun i v r h1 h2 => by
    obtain ⟨A, n, c, rfl, ho⟩ := h.2.1 i v r h1 h2
    exact ⟨A, n, c, rfl, own_more ho hb⟩, h.2.2⟩

/-- A row grows. -/
theorem RowsOwn.push (h : RowsOwn w base e sz vs rs) {i : Nat} {r' : List Value} (hi : vs[i]? = some (Value.slice A n c)) (hi2 : i < rs.length) (ho : w'.ownsRow base e sz (Value.slice A' n' c') n' r') (p : Pushed w w' A A') :
    RowsOwn w' base e sz (vs.set i (Value.slice A' n' c')) (rs.set i r') := by
  have hall : ∀ j D m d, j ≠ i → vs[j]? = some (Value.slice D m d) → Apart D A' ∧ ∀ r, rs[j]? = some r → w'.ownsRow base e sz (Value.slice D m d) m r := by
    intro j D m d hj hd
    have hr : rs[j]? = some (rs[j]'(by rw [← h.1]; exact (List.getElem?_eq_some_iff.1 hd).1)) := List.getElem?_eq_getElem _
    have ap := h.2.2 j i _ _ _ _ _ _ hj hd hi
    obtain ⟨_, _, _, e1, hod⟩ := h.2.1 j _ _ hd hr
    cases e1
    refine ⟨p.apart hod ap, fun r hr' => ?_⟩
    obtain ⟨_, _, _, e2, hod2⟩ := h.2.1 j _ _ hd hr'
    cases e2
    exact p.keep hod2 ap
  refine ⟨by simpa using h.1, fun j v r h1 h2 => ?_, fun j k D m d D' m' d' hjk h1 h2 => ?_⟩
  · by_cases hj : j = i
    · subst hj
      rw [List.getElem?_set_self (by rw [h.1]; exact hi2)] at h1
      rw [List.getElem?_set_self hi2] at h2
      cases h1; cases h2
      exact ⟨_, _, _, rfl, ho⟩
    · rw [List.getElem?_set_ne (Ne.symm hj)] at h1 h2
      obtain ⟨D, m, d, rfl, _⟩ := h.2.1 j v r h1 h2
      exact ⟨D, m, d, rfl, (hall j D m d hj h1).2 r h2⟩
  · by_cases hj : j = i
    · subst hj
      rw [List.getElem?_set_self (by rw [h.1]; exact hi2)] at h1
      rw [List.getElem?_set_ne hjk] at h2
      cases h1
      exact (hall k _ _ _ (Ne.symm hjk) h2).1.symm
    · rw [List.getElem?_set_ne (Ne.symm hj)] at h1
      by_cases hk : k = i
      · subst hk
        rw [List.getElem?_set_self (by rw [h.1]; exact hi2)] at h2
        cases h2
        exact (hall j _ _ _ hj h1).1
      · rw [List.getElem?_set_ne (Ne.symm hk)] at h2
        exact h.2.2 j k _ _ _ _ _ _ hjk h1 h2

/-- One row more. -/
theorem RowsOwn.snoc (h : RowsOwn w base e sz vs rs) {r' : List Value} (ho : w.ownsRow base e sz (Value.slice A n c) n r') (ha : ApartAll vs A) : RowsOwn w base e sz (vs ++ [Value.slice A n c]) (rs ++ [r']) := by
  have hget : ∀ j v, (vs ++ [Value.slice A n c])[j]? = some v → (j < vs.length ∧ vs[j]? = some v) ∨ (j = vs.length ∧ v = Value.slice A n c) := by
    intro j v hj
    rcases Nat.lt_or_ge j vs.length with hl | hl
    · rw [List.getElem?_append_left hl] at hj; exact .inl ⟨hl, hj⟩
    · rw [List.getElem?_append_right hl] at hj
      obtain ⟨h1, h2⟩ := List.getElem?_eq_some_iff.1 hj
      have hz : j - vs.length = 0 := by simpa using h1
      refine .inr ⟨by omega, ?_⟩
      rw [hz] at hj
      simpa using hj.symm
  refine ⟨by simp [h.1], fun j v r h1 h2 => ?_, fun j k D m d D' m' d' hjk h1 h2 => ?_⟩
  · rcases hget j v h1 with ⟨hl, hv⟩ | ⟨rfl, rfl⟩
    · rw [List.getElem?_append_left (by rw [← h.1]; exact hl)] at h2
      exact h.2.1 j v r hv h2
    · rw [List.getElem?_append_right (by rw [h.1]; exact Nat.le_refl _), h.1, Nat.sub_self] at h2
      simp at h2
      subst h2
      exact ⟨_, _, _, rfl, ho⟩
  · rcases hget j _ h1 with ⟨hl, hv⟩ | ⟨rfl, hv⟩
    · rcases hget k _ h2 with ⟨hl2, hv2⟩ | ⟨rfl, hv2⟩
      · exact h.2.2 j k _ _ _ _ _ _ hjk hv hv2
      · cases hv2; exact ha j _ _ _ hv
    · rcases hget k _ h2 with ⟨hl2, hv2⟩ | ⟨rfl, hv2⟩
      · cases hv; exact (ha k _ _ _ hv2).symm
      · exact absurd rfl hjk

theorem RowsOwn.reads (h : RowsOwn w base e sz vs rs) : RowsRead w w.heap.size sz vs rs :=
  ⟨h.1, fun i v r h1 h2 => by
    obtain ⟨A, n, c, rfl, ho⟩ := h.2.1 i v r h1 h2
    exact ⟨A, n, c, rfl, Nat.le_trans (own_cap ho).1 (own_cap ho).2, own_reads ho⟩⟩

theorem RowsRead.below {B : Nat} (h : RowsRead w B sz vs rs) (hB : Below B w w') : RowsRead w' B sz vs rs :=
  ⟨h.1, fun i v r h1 h2 => by
    obtain ⟨A, n, c, rfl, hn, ho⟩ := h.2 i v r h1 h2
    exact ⟨A, n, c, rfl, hn, ho.below hB⟩⟩
theorem RowsRead.more {B B' : Nat} (h : RowsRead w B sz vs rs) (hB : B ≤ B') : RowsRead w B' sz vs rs :=
  ⟨h.1, fun i v r h1 h2 => by
    obtain ⟨A, n, c, rfl, hn, ho⟩ := h.2 i v r h1 h2
    exact ⟨A, n, c, rfl, hn, ho.more hB⟩⟩
theorem RowsRead.at_ {B : Nat} (h : RowsRead w B sz vs rs) {i : Nat} {r : List Value} (hr : rs[i]? = some r) : ∃ A n c, vs[i]? = some (Value.slice A n c) ∧ n ≤ maxLen ∧ Reads w B sz A n r := by
  obtain ⟨hi, _⟩ := List.getElem?_eq_some_iff.1 hr
  have hv : vs[i]? = some (vs[i]'(by rw [h.1]; exact hi)) := List.getElem?_eq_getElem (by rw [h.1]; exact hi)
  obtain ⟨A, n, c, e1, e2⟩ := h.2 i _ r hv hr
  exact ⟨A, n, c, by rw [hv, e1], e2⟩

/-- Rows of unlike element types lie apart. -/
theorem own_ne {e' : TypeId} {sz' m d base' : Nat} {xs ys : List Value} (h : w.ownsRow base e sz (Value.slice A n c) n xs) (h' : w.ownsRow base' e' sz' (Value.slice C m d) m ys) (hne : e ≠ e') : Apart A C := by
  intro a b ha hb hab
  rcases h.2 with ⟨hv, _⟩ | ⟨g, cap, cur, hv, _, hg, _⟩
  · cases hv; cases ha
  · rcases h'.2 with ⟨hv', _⟩ | ⟨g', cap', cur', hv', _, hg', _⟩
    · cases hv'; cases hb
    · cases hv; cases hv'; cases ha; cases hb
      dsimp only at hab
      subst hab
      rw [hg] at hg'
      injection hg' with hg'
      injection hg' with _ ht
      exact hne ht
theorem RowsOwn.apart_ne {e' : TypeId} {sz' base' : Nat} {xs : List Value} (h : RowsOwn w base e sz vs rs) (h' : w.ownsRow base' e' sz' (Value.slice A n c) n xs) (hne : e ≠ e') : ApartAll vs A := by
  intro j C m d hj
  obtain ⟨hi, _⟩ := List.getElem?_eq_some_iff.1 hj
  have hr : rs[j]? = some (rs[j]'(by rw [← h.1]; exact hi)) := List.getElem?_eq_getElem (by rw [← h.1]; exact hi)
  obtain ⟨_, _, _, e1, ho⟩ := h.2.1 j _ _ hj hr
  cases e1
  exact own_ne ho h' hne

theorem RowsOwn.apart_base {e' : TypeId} {sz' B : Nat} {xs : List Value} (h : RowsOwn w base e sz vs rs) (h' : w'.ownsRow B e' sz' (Value.slice A n c) n xs) (hlt : w.heap.size ≤ B) : ApartAll vs A := by
  intro j C m d hj
  obtain ⟨hi, _⟩ := List.getElem?_eq_some_iff.1 hj
  have hr : rs[j]? = some (rs[j]'(by rw [← h.1]; exact hi)) := List.getElem?_eq_getElem (by rw [← h.1]; exact hi)
  obtain ⟨_, _, _, e1, ho⟩ := h.2.1 j _ _ hj hr
  cases e1
  exact apart_of_lt ho h' hlt

/-- An owned row of slices: one of them. -/
theorem own_slice_at {g k : Nat} (h : w.ownsRow base e 1 (Value.slice (some ⟨g, 0, none⟩) n c) n vs) (hk : vs[k]? = some (Value.slice C n' c')) : w.cell? ⟨g, k, none⟩ = some (Value.slice C n' c') := by
  have hl := h.1
  obtain ⟨hi, _⟩ := List.getElem?_eq_some_iff.1 hk
  rw [h.cellAt k (by omega)]; exact hk
theorem Reads.val_at {B k : Nat} {u : Value} (h : Reads w B 1 A n vs) (hk : vs[k]? = some u) : ∃ b o, A = some ⟨b, o, none⟩ ∧ w.cell? ⟨b, o + k, none⟩ = some u := by
  have hl := h.1
  obtain ⟨hi, _⟩ := List.getElem?_eq_some_iff.1 hk
  obtain ⟨b, o, e, _, hc⟩ := h.2 (by omega)
  exact ⟨b, o, e, hc k u hk⟩
end
end Go.Proofs.YtmnjlhifjjainaaGreat
