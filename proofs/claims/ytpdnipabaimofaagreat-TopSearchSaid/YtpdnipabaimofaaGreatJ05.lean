/-
  Graphs: plain laws.
  Rows of rows: slices of the call's own, each in a block of its own.
  Words for memory: edges, texts, rows of texts, graphs.
  The order of edges, the order of words.
  Words, texts, edges: the small functions of both sides.
  Check of a graph: the walk of the program.
  Do elements rise: the walks of the program.
  Is a graph one that may be: the walk of the program.
-/
import Derived.Test.YtpdnipabaimofaaGreatJ01
import Derived.Test.YtpdnipabaimofaaGreatProg
import Derived.Lib.Builder
import Derived.Handy
import Derived.BigQuiet
import Derived.WalkLawsBesides
import Derived.WalkSpells
import Derived.Lib.Strings
import Derived.Lib.Slices
import Derived.Lib.Small
import Derived.Lib.Walk
import Derived.Lib.Bytealg
import Derived.Shelf.RegionOpen
import Derived.RegionTactic
import Derived.ChangeAlike
import Derived.BigRegion
import Derived.StillTailTactics
import Derived.IntWalk
import Derived.Deep.RegionLaw
import Derived.Lib.QuietBelow
import Derived.Laws.EntriesVeiled
namespace Go.Proofs.YtpdnipabaimofaaGreat

structure Edg where
  src : Int
  dst : Int
theorem Edg.eq_iff (a b : Edg) : a = b ↔ a.src = b.src ∧ a.dst = b.dst := by cases a; cases b; simp
instance : DecidableEq Edg := fun a b => decidable_of_iff _ (Edg.eq_iff a b).symm
structure Gr where
  n : Int
  es : List Edg
  ws : List (List ByteArray)
theorem Gr.eq_iff (a b : Gr) : a = b ↔ a.n = b.n ∧ a.es = b.es ∧ a.ws = b.ws := by cases a; cases b; simp
instance : DecidableEq Gr := fun a b => decidable_of_iff _ (Gr.eq_iff a b).symm

/-- Elements that rise. -/
def Rises {α : Type} (lt : α → α → Prop) : List α → Prop
  | a :: b :: l => lt a b ∧ Rises lt (b :: l)
  | _ => True
def decRises {α : Type} (lt : α → α → Prop) (d : ∀ a b, Decidable (lt a b)) : (l : List α) → Decidable (Rises lt l)
  | [] => .isTrue trivial
  | [_] => .isTrue trivial
  | a :: b :: l => @instDecidableAnd _ _ (d a b) (decRises lt d (b :: l))
theorem rises_iff {α : Type} (lt : α → α → Prop) : ∀ l : List α, Rises lt l ↔ ∀ k a b, l[k]? = some a → l[k + 1]? = some b → lt a b
  | [] => ⟨fun _ k a b h => by simp at h, fun _ => trivial⟩
  | [x] => ⟨fun _ k a b _ h => by simp at h, fun _ => trivial⟩
  | x :: y :: l => by
    show lt x y ∧ Rises lt (y :: l) ↔ _
    rw [rises_iff lt (y :: l)]
    constructor
    · rintro ⟨h1, h2⟩ k a b ha hb
      cases k with
      | zero =>
        simp at ha hb
        subst ha hb
        exact h1
      | succ k => exact h2 k a b (by simpa using ha) (by simpa using hb)
    · intro h
      exact ⟨h 0 x y rfl rfl, fun k a b ha hb => h (k + 1) a b (by simpa using ha) (by simpa using hb)⟩
theorem rises_pair {α : Type} (lt : α → α → Prop) (tr : ∀ a b c, lt a b → lt b c → lt a c) : ∀ l : List α, Rises lt l → l.Pairwise lt
  | [], _ => List.Pairwise.nil
  | [x], _ => by simp
  | x :: y :: l, h => by
    obtain ⟨h1, h2⟩ : lt x y ∧ Rises lt (y :: l) := h
    have ih := rises_pair lt tr (y :: l) h2
    refine List.Pairwise.cons (fun z hz => ?_) ih
    rcases List.mem_cons.1 hz with rfl | hz
    · exact h1
    · exact tr _ _ _ h1 ((List.pairwise_cons.1 ih).1 z hz)

def isWord (s : ByteArray) : Prop := (1 ≤ s.size ∧ s.size ≤ 12) ∧ ∀ c ∈ s.data.toList, 97 ≤ c.toNat ∧ c.toNat ≤ 122
instance (s : ByteArray) : Decidable (isWord s) := by unfold isWord; infer_instance
def place (n v : Int) : Prop := 0 ≤ v ∧ v < n
instance (n v : Int) : Decidable (place n v) := by unfold place; infer_instance
def placeE (n : Int) (e : Edg) : Prop := place n e.src ∧ place n e.dst
instance (n : Int) (e : Edg) : Decidable (placeE n e) := by unfold placeE; infer_instance
def wordsOk (l : List ByteArray) : Prop := l.length ≤ 8 ∧ ∀ w ∈ l, isWord w
instance (l : List ByteArray) : Decidable (wordsOk l) := by unfold wordsOk; infer_instance
def checkG (g : Gr) : Prop := (1 ≤ g.n ∧ g.n ≤ 200) ∧ g.es.length ≤ 2000 ∧ (g.ws.length : Int) = g.n ∧ (∀ e ∈ g.es, placeE g.n e) ∧ ∀ l ∈ g.ws, wordsOk l
instance (g : Gr) : Decidable (checkG g) := by unfold checkG; infer_instance
def lessE (a b : Edg) : Prop := a.src < b.src ∨ (a.src = b.src ∧ a.dst < b.dst)
instance (a b : Edg) : Decidable (lessE a b) := by unfold lessE; infer_instance
def ltW (a b : ByteArray) : Prop := a.toList < b.toList
instance (a b : ByteArray) : Decidable (ltW a b) := by unfold ltW; infer_instance
def riseE (l : List Edg) : Prop := Rises lessE l
def riseW (l : List ByteArray) : Prop := Rises ltW l
instance (l : List Edg) : Decidable (riseE l) := decRises lessE (fun _ _ => inferInstance) l
instance (l : List ByteArray) : Decidable (riseW l) := decRises ltW (fun _ _ => inferInstance) l
def isG (g : Gr) : Prop := checkG g ∧ riseE g.es ∧ ∀ l ∈ g.ws, riseW l
instance (g : Gr) : Decidable (isG g) := by unfold isG; infer_instance


theorem snoc_ind {α : Type} {p : List α → Prop} (h0 : p []) (h1 : ∀ l x, p l → p (l ++ [x])) : ∀ l, p l := by
  intro l
  have key : ∀ m : List α, p m.reverse := by
    intro m
    induction m with
    | nil => exact h0
    | cons a m ih => rw [List.reverse_cons]; exact h1 _ _ ih
  have := key l.reverse
  rwa [List.reverse_reverse] at this
theorem lessE_trans (a b c : Edg) (h1 : lessE a b) (h2 : lessE b c) : lessE a c := by
  unfold lessE at *
  omega

def noG : Gr := ⟨0, [], []⟩
theorem size_listG (s : ByteArray) : s.data.toList.length = s.size := by rw [Array.length_toList]; rfl
theorem bytes_extG {s t : ByteArray} (h : s.data.toList = t.data.toList) : s = t := ByteArray.ext (Array.ext' h)
end Go.Proofs.YtpdnipabaimofaaGreat

namespace Go.Proofs.YtpdnipabaimofaaGreat
open Go.RowKit

/-- Each of the slices vs owns its row of rs; no two lie in one block. -/
def RowsOwn (w : World) (base : Nat) (e : TypeId) (sz : Nat) (vs : List Value) (rs : List (List Value)) : Prop :=
  vs.length = rs.length ∧
  (∀ (i : Nat) (v : Value) (r : List Value), vs[i]? = some v → rs[i]? = some r → ∃ A n c, v = Value.slice A n c ∧ w.ownsRow base e sz (Value.slice A n c) n r) ∧
  (∀ (i j : Nat) (A : Option Addr) (n c : Nat) (A' : Option Addr) (n' c' : Nat), i ≠ j → vs[i]? = some (Value.slice A n c) → vs[j]? = some (Value.slice A' n' c') → Apart A A')

/-- Each of the slices vs reads as its row of rs. -/
def RowsRead (w : World) (B sz : Nat) (vs : List Value) (rs : List (List Value)) : Prop :=
  vs.length = rs.length ∧ ∀ (i : Nat) (v : Value) (r : List Value), vs[i]? = some v → rs[i]? = some r → ∃ A n c, v = Value.slice A n c ∧ n ≤ maxLen ∧ Reads w B sz A n r

/-- None of the slices lies in A's block. -/
def ApartAll (vs : List Value) (A : Option Addr) : Prop := ∀ (j : Nat) (C : Option Addr) (n c : Nat), vs[j]? = some (Value.slice C n c) → Apart C A

section
variable {w w' : World} {base sz n c n' c' : Nat} {e : TypeId} {vs : List Value} {rs : List (List Value)} {A A' C C' : Option Addr}

theorem RowsOwn.len (h : RowsOwn w base e sz vs rs) : vs.length = rs.length := h.1

theorem RowsOwn.at_ (h : RowsOwn w base e sz vs rs) {i : Nat} {r : List Value} (hr : rs[i]? = some r) : ∃ A n c, vs[i]? = some (Value.slice A n c) ∧ w.ownsRow base e sz (Value.slice A n c) n r := by
  obtain ⟨hi, _⟩ := List.getElem?_eq_some_iff.1 hr
  have hv : vs[i]? = some (vs[i]'(by rw [h.1]; exact hi)) := List.getElem?_eq_getElem (by rw [h.1]; exact hi)
  obtain ⟨A, n, c, e1, e2⟩ := h.2.1 i _ r hv hr
  exact ⟨A, n, c, by rw [hv, e1], e2⟩

theorem rowsOwn_nil (w : World) (base : Nat) (e : TypeId) (sz : Nat) : RowsOwn w base e sz [] [] :=
  ⟨rfl, fun i v r h => by simp at h, fun i j A n c A' n' c' _ h => by simp at h⟩

theorem rowsOwn_nils (w : World) (base : Nat) (e : TypeId) (sz k : Nat) : RowsOwn w base e sz (List.replicate k (Value.slice none 0 0)) (List.replicate k []) := by
  refine ⟨by simp, fun i v r h1 h2 => ?_, fun i j A n c A' n' c' _ h1 _ => ?_⟩
  · rw [List.getElem?_replicate] at h1 h2
    split at h1
    · rw [if_pos ‹_›] at h2
      cases h1; cases h2
      exact ⟨none, 0, 0, rfl, own_nil⟩
    · cases h1
  · rw [List.getElem?_replicate] at h1
    split at h1
    · cases h1; exact Apart.none_left
    · cases h1

theorem RowsOwn.keep_ (h : RowsOwn w base e sz vs rs) (hk : ∀ (A : Option Addr) (n c : Nat) (r : List Value), (∃ i : Nat, vs[i]? = some (Value.slice A n c)) → w.ownsRow base e sz (Value.slice A n c) n r → w'.ownsRow base e sz (Value.slice A n c) n r) : RowsOwn w' base e sz vs rs :=
  ⟨h.1, fun i v r h1 h2 => by
    obtain ⟨A, n, c, rfl, ho⟩ := h.2.1 i v r h1 h2
    exact ⟨A, n, c, rfl, hk A n c r ⟨i, h1⟩ ho⟩, h.2.2⟩

theorem RowsOwn.only (h : RowsOwn w base e sz vs rs) {g : Nat} (hg : w.grownBy w' (some g)) (hlt : g < base) : RowsOwn w' base e sz vs rs :=
  h.keep_ fun _ _ _ _ _ ho => own_only ho hg (fun a ha e => by have := (own_lt ho a ha).1; injection e; omega)

theorem RowsOwn.below (h : RowsOwn w base e sz vs rs) (hB : Below w.heap.size w w') : RowsOwn w' base e sz vs rs := h.keep_ fun _ _ _ _ _ ho => own_below ho hB

theorem RowsOwn.kept (h : RowsOwn w base e sz vs rs) (p : Pushed w w' A A') (ha : ApartAll vs A) : RowsOwn w' base e sz vs rs :=
  h.keep_ fun _ _ _ _ ⟨i, hi⟩ ho => p.keep ho (ha i _ _ _ hi)

theorem RowsOwn.apart (h : RowsOwn w base e sz vs rs) (p : Pushed w w' A A') (ha : ApartAll vs A) : ApartAll vs A' := by
  intro j C n c hj
  obtain ⟨hi, _⟩ := List.getElem?_eq_some_iff.1 hj
  have hr : rs[j]? = some (rs[j]'(by rw [← h.1]; exact hi)) := List.getElem?_eq_getElem (by rw [← h.1]; exact hi)
  obtain ⟨D, m, d, e1, ho⟩ := h.2.1 j _ _ hj hr
  cases e1
  exact p.apart ho (ha j _ _ _ hj)

theorem RowsOwn.more (h : RowsOwn w base e sz vs rs) {b : Nat} (hb : b ≤ base) : RowsOwn w b e sz vs rs :=
  ⟨h.1, fun i v r h1 h2 => by
    obtain ⟨A, n, c, rfl, ho⟩ := h.2.1 i v r h1 h2
    exact ⟨A, n, c, rfl, own_more ho hb⟩, h.2.2⟩

/-- A row grows. -/
theorem RowsOwn.push (h : RowsOwn w base e sz vs rs) {i : Nat} {r' : List Value} (hi : vs[i]? = some (Value.slice A n c)) (hi2 : i < rs.length) (ho : w'.ownsRow base e sz (Value.slice A' n' c') n' r') (p : Pushed w w' A A') :
    RowsOwn w' base e sz (vs.set i (Value.slice A' n' c')) (rs.set i r') := by
  have hall : ∀ j D m d, j ≠ i → vs[j]? = some (Value.slice D m d) → Apart D A' ∧ ∀ r, rs[j]? = some r → w'.ownsRow base e sz (Value.slice D m d) m r := by
    intro j D m d hj hd
    have hr : rs[j]? = some (rs[j]'(by rw [← h.1]; exact (List.getElem?_eq_some_iff.1 hd).1)) := List.getElem?_eq_getElem _
    have ap := h.2.2 j i _ _ _ _ _ _ hj hd hi
    obtain ⟨_, _, _, e1, hod⟩ := h.2.1 j _ _ hd hr
    cases e1
    refine ⟨p.apart hod ap, fun r hr' => ?_⟩
    obtain ⟨_, _, _, e2, hod2⟩ := h.2.1 j _ _ hd hr'
    cases e2
    exact p.keep hod2 ap
  refine ⟨by simpa using h.1, fun j v r h1 h2 => ?_, fun j k D m d D' m' d' hjk h1 h2 => ?_⟩
  · by_cases hj : j = i
    · subst hj
      rw [List.getElem?_set_self (by rw [h.1]; exact hi2)] at h1
      rw [List.getElem?_set_self hi2] at h2
      cases h1; cases h2
      exact ⟨_, _, _, rfl, ho⟩
    · rw [List.getElem?_set_ne (Ne.symm hj)] at h1 h2
      obtain ⟨D, m, d, rfl, _⟩ := h.2.1 j v r h1 h2
      exact ⟨D, m, d, rfl, (hall j D m d hj h1).2 r h2⟩
  · by_cases hj : j = i
    · subst hj
      rw [List.getElem?_set_self (by rw [h.1]; exact hi2)] at h1
      rw [List.getElem?_set_ne hjk] at h2
      cases h1
      exact (hall k _ _ _ (Ne.symm hjk) h2).1.symm
    · rw [List.getElem?_set_ne (Ne.symm hj)] at h1
      by_cases hk : k = i
      · subst hk
        rw [List.getElem?_set_self (by rw [h.1]; exact hi2)] at h2
        cases h2
        exact (hall j _ _ _ hj h1).1
      · rw [List.getElem?_set_ne (Ne.symm hk)] at h2
        exact h.2.2 j k _ _ _ _ _ _ hjk h1 h2

/-- One row more. -/
theorem RowsOwn.snoc (h : RowsOwn w base e sz vs rs) {r' : List Value} (ho : w.ownsRow base e sz (Value.slice A n c) n r') (ha : ApartAll vs A) : RowsOwn w base e sz (vs ++ [Value.slice A n c]) (rs ++ [r']) := by
  have hget : ∀ j v, (vs ++ [Value.slice A n c])[j]? = some v → (j < vs.length ∧ vs[j]? = some v) ∨ (j = vs.length ∧ v = Value.slice A n c) := by
    intro j v hj
    rcases Nat.lt_or_ge j vs.length with hl | hl
    · rw [List.getElem?_append_left hl] at hj; exact .inl ⟨hl, hj⟩
    · rw [List.getElem?_append_right hl] at hj
      obtain ⟨h1, h2⟩ := List.getElem?_eq_some_iff.1 hj
      have hz : j - vs.length = 0 := by simpa using h1
      refine .inr ⟨by omega, ?_⟩
      rw [hz] at hj
      simpa using hj.symm
  refine ⟨by simp [h.1], fun j v r h1 h2 => ?_, fun j k D m d D' m' d' hjk h1 h2 => ?_⟩
  · rcases hget j v h1 with ⟨hl, hv⟩ | ⟨rfl, rfl⟩
    · rw [List.getElem?_append_left (by rw [← h.1]; exact hl)] at h2
      exact h.2.1 j v r hv h2
    · rw [List.getElem?_append_right (by rw [h.1]; exact Nat.le_refl _), h.1, Nat.sub_self] at h2
      simp at h2
      subst h2
      exact ⟨_, _, _, rfl, ho⟩
  · rcases hget j _ h1 with ⟨hl, hv⟩ | ⟨rfl, hv⟩
    · rcases hget k _ h2 with ⟨hl2, hv2⟩ | ⟨rfl, hv2⟩
      · exact h.2.2 j k _ _ _ _ _ _ hjk hv hv2
      · cases hv2; exact ha j _ _ _ hv
    · rcases hget k _ h2 with ⟨hl2, hv2⟩ | ⟨rfl, hv2⟩
      · cases hv; exact (ha k _ _ _ hv2).symm
      · exact absurd rfl hjk

theorem RowsOwn.reads (h : RowsOwn w base e sz vs rs) : RowsRead w w.heap.size sz vs rs :=
  ⟨h.1, fun i v r h1 h2 => by
    obtain ⟨A, n, c, rfl, ho⟩ := h.2.1 i v r h1 h2
    exact ⟨A, n, c, rfl, Nat.le_trans (own_cap ho).1 (own_cap ho).2, own_reads ho⟩⟩

theorem RowsRead.below {B : Nat} (h : RowsRead w B sz vs rs) (hB : Below B w w') : RowsRead w' B sz vs rs :=
  ⟨h.1, fun i v r h1 h2 => by
    obtain ⟨A, n, c, rfl, hn, ho⟩ := h.2 i v r h1 h2
    exact ⟨A, n, c, rfl, hn, ho.below hB⟩⟩
theorem RowsRead.more {B B' : Nat} (h : RowsRead w B sz vs rs) (hB : B ≤ B') : RowsRead w B' sz vs rs :=
  ⟨h.1, fun i v r h1 h2 => by
    obtain ⟨A, n, c, rfl, hn, ho⟩ := h.2 i v r h1 h2
    exact ⟨A, n, c, rfl, hn, ho.more hB⟩⟩
theorem RowsRead.at_ {B : Nat} (h : RowsRead w B sz vs rs) {i : Nat} {r : List Value} (hr : rs[i]? = some r) : ∃ A n c, vs[i]? = some (Value.slice A n c) ∧ n ≤ maxLen ∧ Reads w B sz A n r := by
  obtain ⟨hi, _⟩ := List.getElem?_eq_some_iff.1 hr
  have hv : vs[i]? = some (vs[i]'(by rw [h.1]; exact hi)) := List.getElem?_eq_getElem (by rw [h.1]; exact hi)
  obtain ⟨A, n, c, e1, e2⟩ := h.2 i _ r hv hr
  exact ⟨A, n, c, by rw [hv, e1], e2⟩

/-- Rows of unlike element types lie apart. -/
theorem own_ne {e' : TypeId} {sz' m d base' : Nat} {xs ys : List Value} (h : w.ownsRow base e sz (Value.slice A n c) n xs) (h' : w.ownsRow base' e' sz' (Value.slice C m d) m ys) (hne : e ≠ e') : Apart A C := by
  intro a b ha hb hab
  rcases h.2 with ⟨hv, _⟩ | ⟨g, cap, cur, hv, _, hg, _⟩
  · cases hv; cases ha
  · rcases h'.2 with ⟨hv', _⟩ | ⟨g', cap', cur', hv', _, hg', _⟩
    · cases hv'; cases hb
    · cases hv; cases hv'; cases ha; cases hb
      dsimp only at hab
      subst hab
      rw [hg] at hg'
      injection hg' with hg'
      injection hg' with _ ht
      exact hne ht
theorem RowsOwn.apart_ne {e' : TypeId} {sz' base' : Nat} {xs : List Value} (h : RowsOwn w base e sz vs rs) (h' : w.ownsRow base' e' sz' (Value.slice A n c) n xs) (hne : e ≠ e') : ApartAll vs A := by
  intro j C m d hj
  obtain ⟨hi, _⟩ := List.getElem?_eq_some_iff.1 hj
  have hr : rs[j]? = some (rs[j]'(by rw [← h.1]; exact hi)) := List.getElem?_eq_getElem (by rw [← h.1]; exact hi)
  obtain ⟨_, _, _, e1, ho⟩ := h.2.1 j _ _ hj hr
  cases e1
  exact own_ne ho h' hne

theorem RowsOwn.apart_base {e' : TypeId} {sz' B : Nat} {xs : List Value} (h : RowsOwn w base e sz vs rs) (h' : w'.ownsRow B e' sz' (Value.slice A n c) n xs) (hlt : w.heap.size ≤ B) : ApartAll vs A := by
  intro j C m d hj
  obtain ⟨hi, _⟩ := List.getElem?_eq_some_iff.1 hj
  have hr : rs[j]? = some (rs[j]'(by rw [← h.1]; exact hi)) := List.getElem?_eq_getElem (by rw [← h.1]; exact hi)
  obtain ⟨_, _, _, e1, ho⟩ := h.2.1 j _ _ hj hr
  cases e1
  exact apart_of_lt ho h' hlt

/-- An owned row of slices: one of them. -/
theorem own_slice_at {g k : Nat} (h : w.ownsRow base e 1 (Value.slice (some ⟨g, 0, none⟩) n c) n vs) (hk : vs[k]? = some (Value.slice C n' c')) : w.cell? ⟨g, k, none⟩ = some (Value.slice C n' c') := by
  have hl := h.1
  obtain ⟨hi, _⟩ := List.getElem?_eq_some_iff.1 hk
  rw [h.cellAt k (by omega)]; exact hk
theorem Reads.val_at {B k : Nat} {u : Value} (h : Reads w B 1 A n vs) (hk : vs[k]? = some u) : ∃ b o, A = some ⟨b, o, none⟩ ∧ w.cell? ⟨b, o + k, none⟩ = some u := by
  have hl := h.1
  obtain ⟨hi, _⟩ := List.getElem?_eq_some_iff.1 hk
  obtain ⟨b, o, e, _, hc⟩ := h.2 (by omega)
  exact ⟨b, o, e, hc k u hk⟩
end
end Go.Proofs.YtpdnipabaimofaaGreat

namespace Go.Proofs.YtpdnipabaimofaaGreat
open Go.RowKit

theorem below_oneG (w : World) (o : Obj) : Below w.heap.size w (w.alloc o) := (Below.refl _ _).alloc (Nat.le_refl _) o

/-- Texts as cells. -/
def sv (l : List ByteArray) : List Value := l.map Value.string
theorem sv_get {l : List ByteArray} {k : Nat} {u : Value} (h : (sv l)[k]? = some u) : ∃ x, l[k]? = some x ∧ u = .string x := by
  unfold sv at h
  rw [List.getElem?_map] at h
  cases hl : l[k]? with
  | none => rw [hl] at h; cases h
  | some x => rw [hl] at h; exact ⟨x, rfl, by cases h; rfl⟩
theorem sv_append (l m : List ByteArray) : sv (l ++ m) = sv l ++ sv m := by simp [sv]
theorem sv_len (l : List ByteArray) : (sv l).length = l.length := by simp [sv]
theorem sv_one (l : List ByteArray) : ∀ u ∈ sv l, u.oneCell' = true := by
  intro u hu
  simp only [sv, List.mem_map] at hu
  obtain ⟨x, _, rfl⟩ := hu
  rfl
theorem sv_inj : ∀ {l m : List ByteArray}, sv l = sv m → l = m
  | [], [], _ => rfl
  | [], _ :: _, h => by cases h
  | _ :: _, [], h => by cases h
  | a :: l, b :: m, h => by
    simp only [sv, List.map_cons, List.cons.injEq] at h
    obtain ⟨h1, h2⟩ := h
    injection h1 with h1
    rw [h1, sv_inj h2]

/-- Edges as cells. -/
def ec (e : Edg) : List Value := [.int .i64 e.src, .int .i64 e.dst]
def ev (l : List Edg) : List Value := l.flatMap ec
theorem ec_len (e : Edg) : (ec e).length = 2 := rfl
theorem ev_len (l : List Edg) : (ev l).length = l.length * 2 := flat_len ec 2 ec_len l
theorem ev_append (l m : List Edg) : ev (l ++ m) = ev l ++ ev m := List.flatMap_append
theorem ec_one (e : Edg) : ∀ u ∈ ec e, u.oneCell' = true := by
  intro u hu
  simp only [ec, List.mem_cons, List.not_mem_nil, or_false] at hu
  rcases hu with rfl | rfl <;> rfl
theorem ev_one (l : List Edg) : ∀ u ∈ ev l, u.oneCell' = true := by
  intro u hu
  obtain ⟨m, _, hm⟩ := List.mem_flatMap.1 hu
  exact ec_one m u hm
def wv (l : List (List ByteArray)) : List (List Value) := l.map sv
theorem wv_len (l : List (List ByteArray)) : (wv l).length = l.length := by simp [wv]
theorem wv_get {l : List (List ByteArray)} {k : Nat} {x : List ByteArray} (h : l[k]? = some x) : (wv l)[k]? = some (sv x) := by rw [wv, List.getElem?_map, h]; rfl
theorem wv_append (l m : List (List ByteArray)) : wv (l ++ m) = wv l ++ wv m := by simp [wv]

section
variable {w w' : World} {B n : Nat} {A : Option Addr}
theorem Reads.str_at {xs : List ByteArray} {k : Nat} (h : Reads w B 1 A n (sv xs)) (hk : k < n) :
    ∃ b o x, A = some ⟨b, o, none⟩ ∧ Hid (xs[k]? = some x) ∧ w.cell? ⟨b, o + k, none⟩ = some (.string x) := by
  obtain ⟨b, o, e, _, hc⟩ := h.2 (by omega)
  have hl : xs.length = n := by have := h.1; simpa [sv] using this
  have hx : xs[k]? = some (xs[k]'(by omega)) := List.getElem?_eq_getElem (by omega)
  exact ⟨b, o, _, e, hx, hc k _ (by simp [sv, hx])⟩
theorem Reads.str_len {xs : List ByteArray} (h : Reads w B 1 A n (sv xs)) : xs.length = n := by
  have := h.1; simpa [sv] using this
theorem Reads.edge_len {xs : List Edg} (h : Reads w B 2 A n (ev xs)) : xs.length = n := by
  have := h.1; rw [ev_len] at this; omega
theorem Reads.edge_at {xs : List Edg} {k : Nat} (h : Reads w B 2 A n (ev xs)) (hk : k < n) :
    ∃ b o m, A = some ⟨b, o, none⟩ ∧ Hid (xs[k]? = some m) ∧ w.cell? ⟨b, o + k * 2, none⟩ = some (.int .i64 m.src) ∧ w.cell? ⟨b, o + k * 2 + 1, none⟩ = some (.int .i64 m.dst) := by
  have hl := h.edge_len
  obtain ⟨b, o, e, _, hc'⟩ := h.2 (by omega)
  have hx : xs[k]? = some (xs[k]'(by omega)) := List.getElem?_eq_getElem (by omega)
  have hf := fun r hr => flat_get ec 2 ec_len xs k r _ hx hr
  exact ⟨b, o, _, e, hx, hc' _ _ (hf 0 (by omega)), by rw [Nat.add_assoc]; exact hc' _ _ (hf 1 (by omega))⟩
end

/-- A graph that can be read. -/
structure GrIn (w : World) (B : Nat) (g : Gr) (A1 : Option Addr) (n1 : Nat) (A2 : Option Addr) (n2 : Nat) (vs : List Value) : Prop where
  es : Reads w B 2 A1 n1 (ev g.es)
  rows : Reads w B 1 A2 n2 vs
  words : RowsRead w B 1 vs (wv g.ws)
  m1 : n1 ≤ maxLen
  m2 : n2 ≤ maxLen
section
variable {w w' : World} {B B' n1 n2 : Nat} {A1 A2 : Option Addr} {g : Gr} {vs : List Value}
theorem GrIn.below (h : GrIn w B g A1 n1 A2 n2 vs) (hB : Below B w w') : GrIn w' B g A1 n1 A2 n2 vs := ⟨h.es.below hB, h.rows.below hB, h.words.below hB, h.m1, h.m2⟩
theorem GrIn.more (h : GrIn w B g A1 n1 A2 n2 vs) (hB : B ≤ B') : GrIn w B' g A1 n1 A2 n2 vs := ⟨h.es.more hB, h.rows.more hB, h.words.more hB, h.m1, h.m2⟩
theorem GrIn.len1 (h : GrIn w B g A1 n1 A2 n2 vs) : g.es.length = n1 := h.es.edge_len
theorem GrIn.len2 (h : GrIn w B g A1 n1 A2 n2 vs) : g.ws.length = n2 := by
  have e1 := h.rows.1
  have e2 := h.words.1
  rw [wv_len] at e2
  omega
theorem GrIn.row_at (h : GrIn w B g A1 n1 A2 n2 vs) {k : Nat} (hk : k < n2) :
    ∃ b o A n c l, A2 = some ⟨b, o, none⟩ ∧ Hid (g.ws[k]? = some l) ∧ w.cell? ⟨b, o + k, none⟩ = some (.slice A n c) ∧ n ≤ maxLen ∧ Reads w B 1 A n (sv l) := by
  have hl := h.len2
  have hx : g.ws[k]? = some (g.ws[k]'(by omega)) := List.getElem?_eq_getElem (by omega)
  obtain ⟨A, n, c, hv, hn, hr⟩ := h.words.at_ (wv_get hx)
  obtain ⟨b, o, e, hc⟩ := h.rows.val_at hv
  exact ⟨b, o, A, n, c, _, e, hx, hc, hn, hr⟩
theorem GrIn.row_of (h : GrIn w B g A1 n1 A2 n2 vs) {k n c : Nat} {A : Option Addr} {l : List ByteArray} (hv : vs[k]? = some (.slice A n c)) (hl : g.ws[k]? = some l) :
    ∃ b o, A2 = some ⟨b, o, none⟩ ∧ w.cell? ⟨b, o + k, none⟩ = some (.slice A n c) ∧ n ≤ maxLen ∧ Reads w B 1 A n (sv l) := by
  obtain ⟨A', n', c', hv', hn, hr⟩ := h.words.at_ (wv_get hl)
  rw [hv] at hv'
  cases hv'
  obtain ⟨b, o, e, hc⟩ := h.rows.val_at hv
  exact ⟨b, o, e, hc, hn, hr⟩
theorem GrIn.row_is (h : GrIn w B g A1 n1 A2 n2 vs) {k : Nat} (hk : k < n2) : ∃ A n c l, Hid (vs[k]? = some (.slice A n c)) ∧ Hid (g.ws[k]? = some l) := by
  have hl := h.len2
  have hx : g.ws[k]? = some (g.ws[k]'(by omega)) := List.getElem?_eq_getElem (by omega)
  obtain ⟨A, n, c, hv, _, _⟩ := h.words.at_ (wv_get hx)
  exact ⟨A, n, c, _, hv, hx⟩
theorem GrIn.new (h : GrIn w w.heap.size g A1 n1 A2 n2 vs) (hB : Below w.heap.size w w') : GrIn w' w'.heap.size g A1 n1 A2 n2 vs := (h.below hB).more hB.size
theorem grIn_no (w : World) (B : Nat) : GrIn w B noG none 0 none 0 [] := ⟨Reads.none_, Reads.none_, ⟨rfl, fun i v r h => by simp at h⟩, by simp [maxLen], by simp [maxLen]⟩
end

/-- A graph in its cells. -/
def GAt (w : World) (b : Nat) (m : Int) (A1 : Option Addr) (n1 c1 : Nat) (A2 : Option Addr) (n2 c2 : Nat) : Prop := w.heap[b]? = some (.cells #[.int .i64 m, .slice A1 n1 c1, .slice A2 n2 c2] 52 (0, 0))
section
variable {w w' : World} {b n1 c1 n2 c2 d e : Nat} {m : Int} {A1 A2 A3 : Option Addr}
theorem GAt.new (w : World) (m : Int) (A1 : Option Addr) (n1 c1 : Nat) (A2 : Option Addr) (n2 c2 : Nat) : GAt (w.alloc (.cells #[.int .i64 m, .slice A1 n1 c1, .slice A2 n2 c2] 52)) w.heap.size m A1 n1 c1 A2 n2 c2 := Array.getElem?_push_size
theorem GAt.cells (h : GAt w b m A1 n1 c1 A2 n2 c2) : w.cell? ⟨b, 0, none⟩ = some (.int .i64 m) ∧ w.cell? ⟨b, 1, none⟩ = some (.slice A1 n1 c1) ∧ w.cell? ⟨b, 2, none⟩ = some (.slice A2 n2 c2) := by
  unfold GAt at h
  refine ⟨?_, ?_, ?_⟩ <;> · rw [Lib.cell_of_heap h]; rfl
theorem GAt.frozen (h : GAt w b m A1 n1 c1 A2 n2 c2) (k : Nat) : w.frozen? ⟨b, k, none⟩ = false := Lib.frozen_of_heap h k
theorem GAt.lt (h : GAt w b m A1 n1 c1 A2 n2 c2) : b < w.heap.size := (Array.getElem?_eq_some_iff.1 h).1
theorem GAt.below {B : Nat} (h : GAt w b m A1 n1 c1 A2 n2 c2) (hB : Below B w w') (hb : b < B) : GAt w' b m A1 n1 c1 A2 n2 c2 := (hB.block b hb).trans h
theorem GAt.grown {k : Option Nat} (h : GAt w b m A1 n1 c1 A2 n2 c2) (hg : w.grownBy w' k) (hne : some b ≠ k) : GAt w' b m A1 n1 c1 A2 n2 c2 := (hg.block b h.lt hne).trans h
theorem GAt.drew (h : GAt w b m A1 n1 c1 A2 n2 c2) : GAt w.drew b m A1 n1 c1 A2 n2 c2 := h
theorem GAt.set0 (h : GAt w b m A1 n1 c1 A2 n2 c2) (x : Int) : GAt (w.setCell ⟨b, 0, none⟩ (.int .i64 x)) b x A1 n1 c1 A2 n2 c2 := by
  have := heap_setCell_same w b 0 _ _ (.int .i64 x) h
  unfold GAt; simpa using this
theorem GAt.set1 (h : GAt w b m A1 n1 c1 A2 n2 c2) : GAt (w.setCell ⟨b, 1, none⟩ (.slice A3 d e)) b m A3 d e A2 n2 c2 := by
  have := heap_setCell_same w b 1 _ _ (.slice A3 d e) h
  unfold GAt; simpa using this
theorem GAt.set2 (h : GAt w b m A1 n1 c1 A2 n2 c2) : GAt (w.setCell ⟨b, 2, none⟩ (.slice A3 d e)) b m A1 n1 c1 A3 d e := by
  have := heap_setCell_same w b 2 _ _ (.slice A3 d e) h
  unfold GAt; simpa using this
end
end Go.Proofs.YtpdnipabaimofaaGreat

namespace Go.Proofs.YtpdnipabaimofaaGreat
open Go.RowKit Go.Lib

theorem isNaN_cG (x : Int) (w : World) : Calls Tryz.prog 99 #[.int .i64 x] w fun e w' => e = .returned (.bool false) ∧ w' = w := by
  go_enter Tryz.func99, Tryz.ntmps99
  go_wp2
  go_ret
  exact ⟨rfl, rfl⟩

theorem compare_cG (x y : Int) (w : World) : Calls Tryz.prog 72 #[.int .i64 x, .int .i64 y] w fun e w' => e = .returned (.int .i64 (Lib.compareInt x y)) ∧ w' = w := by
  unfold Lib.compareInt
  rcases Int.lt_trichotomy x y with h | h | h
  · rw [if_pos h]
    go_enter Tryz.func72, Tryz.ntmps72
    go_wp2_with (fail)
    refine (isNaN_cG x _).mono ?_
    rintro e w1 ⟨rfl, rfl⟩
    go_wp2_with (fail)
    refine (isNaN_cG y _).mono ?_
    rintro e w1 ⟨rfl, rfl⟩
    go_wp2_with (fail)
    go_ret
    exact ⟨rfl, rfl⟩
  · subst h
    rw [if_neg (by omega), if_neg (by omega)]
    go_enter Tryz.func72, Tryz.ntmps72
    go_wp2_with (fail)
    refine (isNaN_cG x _).mono ?_
    rintro e w1 ⟨rfl, rfl⟩
    go_wp2_with (fail)
    refine (isNaN_cG x _).mono ?_
    rintro e w1 ⟨rfl, rfl⟩
    go_wp2_with (fail)
    go_ret
    exact ⟨rfl, rfl⟩
  · have h' : ¬ x < y := by omega
    rw [if_neg h', if_pos h]
    go_enter Tryz.func72, Tryz.ntmps72
    go_wp2_with (fail)
    refine (isNaN_cG x _).mono ?_
    rintro e w1 ⟨rfl, rfl⟩
    go_wp2_with (fail)
    refine (isNaN_cG y _).mono ?_
    rintro e w1 ⟨rfl, rfl⟩
    go_wp2_with (fail)
    go_ret
    exact ⟨rfl, rfl⟩


/-- The first one that is not nought. -/
def or2 (x y : Int) : Int := if x ≠ 0 then x else y

theorem or_cG (x y : Int) (b : Nat) (w : World) (h0 : w.cell? ⟨b, 0, none⟩ = some (.int .i64 x)) (h1 : w.cell? ⟨b, 1, none⟩ = some (.int .i64 y)) :
    Calls Tryz.prog 71 #[.slice (some ⟨b, 0, none⟩) 2 2] w fun e w' => e = .returned (.int .i64 (or2 x y)) ∧ w' = w := by
  unfold or2
  by_cases hx : x = 0
  · by_cases hy : y = 0
    · subst hx hy
      go_enter Tryz.func71, Tryz.ntmps71
      go_wp2
      refine wp_loop_rounds 3 ?_
      repeat (rw [rounds_succ]; go_wp2)
      go_ret
      exact ⟨rfl, rfl⟩
    · subst hx
      go_enter Tryz.func71, Tryz.ntmps71
      go_wp2
      refine wp_loop_rounds 3 ?_
      repeat (rw [rounds_succ]; go_wp2)
      go_ret
      exact ⟨by simp, rfl⟩
  · go_enter Tryz.func71, Tryz.ntmps71
    go_wp2
    refine wp_loop_rounds 3 ?_
    repeat (rw [rounds_succ]; go_wp2)
    go_ret
    exact ⟨by simp, rfl⟩

def cmpE (x y : Edg) : Int := or2 (compareInt x.src y.src) (compareInt x.dst y.dst)
theorem cmpE_neg (x y : Edg) : cmpE x y < 0 ↔ lessE x y := by
  unfold cmpE or2 compareInt lessE
  repeat' split
  all_goals omega
theorem cmpE_ge (x y : Edg) : decide (0 ≤ cmpE x y) = !decide (lessE x y) := by
  have := cmpE_neg x y
  by_cases h : lessE x y
  · rw [decide_eq_true h, decide_eq_false (by have := this.2 h; omega)]; rfl
  · rw [decide_eq_false h, decide_eq_true (by by_cases h1 : cmpE x y < 0; exact absurd (this.1 h1) h; omega)]; rfl

set_option maxRecDepth 100000 in
set_option maxHeartbeats 1000000 in
theorem ordE_c (x y : Edg) (W : World) : Calls Tryz.prog 70 #[.agg #[.int .i64 x.src, .int .i64 x.dst], .agg #[.int .i64 y.src, .int .i64 y.dst]] W fun e w' => e = .returned (.int .i64 (cmpE x y)) ∧ Below W.heap.size W w' := by
  go_enter Tryz.func70, Tryz.ntmps70
  go_wp2_with (fail)
  have hB : Below W.heap.size W ((W.alloc (.cells #[.int .i64 x.src, .int .i64 x.dst] 48)).alloc (.cells #[.int .i64 y.src, .int .i64 y.dst] 48)) := ((Below.refl _ _).alloc (Nat.le_refl _) _).alloc (by simp) _
  have h1 : ((W.alloc (.cells #[.int .i64 x.src, .int .i64 x.dst] 48)).alloc (.cells #[.int .i64 y.src, .int .i64 y.dst] 48)).heap[W.heap.size]? = some (.cells #[.int .i64 x.src, .int .i64 x.dst] 48 (0, 0)) := by
    rw [Below.heap_alloc _ _ _ (by simp)]; exact Array.getElem?_push_size
  have h2 : ((W.alloc (.cells #[.int .i64 x.src, .int .i64 x.dst] 48)).alloc (.cells #[.int .i64 y.src, .int .i64 y.dst] 48)).heap[W.heap.size + 1]? = some (.cells #[.int .i64 y.src, .int .i64 y.dst] 48 (0, 0)) := by
    rw [← World.size_alloc W (.cells #[.int .i64 x.src, .int .i64 x.dst] 48)]; exact Array.getElem?_push_size
  have hB := Lib.hid hB
  generalize ((W.alloc (.cells #[.int .i64 x.src, .int .i64 x.dst] 48)).alloc (.cells #[.int .i64 y.src, .int .i64 y.dst] 48)) = w2 at h1 h2 hB ⊢
  have a0 : w2.cell? ⟨W.heap.size, 0, none⟩ = some (.int .i64 x.src) := by rw [Lib.cell_of_heap h1]; rfl
  have a1 : w2.cell? ⟨W.heap.size, 1, none⟩ = some (.int .i64 x.dst) := by rw [Lib.cell_of_heap h1]; rfl
  have b0 : w2.cell? ⟨W.heap.size + 1, 0, none⟩ = some (.int .i64 y.src) := by rw [Lib.cell_of_heap h2]; rfl
  have b1 : w2.cell? ⟨W.heap.size + 1, 1, none⟩ = some (.int .i64 y.dst) := by rw [Lib.cell_of_heap h2]; rfl
  have hsz := Lib.hid hB.out.size
  clear h1 h2
  refine wp_region_still_tail 10 (by kernel_rfl) (by kernel_rfl) ?_
  simp only [List.take_succ_cons, List.take_zero, List.drop_succ_cons, List.drop_zero]
  obtain ⟨w3, hw3⟩ : ∃ w3, w3 = w2.drew := ⟨_, rfl⟩
  change w2.drew.cell? _ = _ at a0 a1 b0 b1
  have hB3 : Hid (Below W.heap.size W w3) := by rw [hw3]; exact hB.out.drew
  rw [← hw3] at a0 a1 b0 b1
  change wpStill _ _ w2.drew (fun a' => wpList _ _ _ _ a' w2.drew) _ _
  rw [← hw3]
  clear hw3
  repeat still_step
  still_call (compare_cG _ _ _)
  repeat still_step
  still_call (compare_cG _ _ _)
  repeat still_step
  refine wpStill_nil ?_
  go_wp2_with (fail)
  have hn : (w3.alloc (.cells #[.int .i64 (compareInt x.src y.src), .int .i64 (compareInt x.dst y.dst)] 3)).heap[w3.heap.size]? = some (.cells #[.int .i64 (compareInt x.src y.src), .int .i64 (compareInt x.dst y.dst)] 3 (0, 0)) := Array.getElem?_push_size
  refine (or_cG _ _ _ _ (by rw [Lib.cell_of_heap hn]; rfl) (by rw [Lib.cell_of_heap hn]; rfl)).mono ?_
  rintro e w4 ⟨rfl, rfl⟩
  go_wp2_with (fail)
  go_ret
  exact ⟨rfl, hB3.out.alloc hB3.out.size _⟩

set_option maxRecDepth 100000 in
theorem cmpStr_c (a b : ByteArray) (w : World) :
    Calls Tryz.prog 98 #[.string a, .string b] w fun e w' => e = .returned (.int .i64 (compareBytes a.data.toList b.data.toList)) ∧ w' = w := by
  go_enter Tryz.func98, Tryz.ntmps98
  go_wp2
  rw [run_callFunc_extern Tryz.func133 (by kernel_rfl) (by kernel_rfl) (by kernel_rfl) (e := Extern.BytealgCompare.compare) (by kernel_rfl), Lib.run_compareString]
  simp only [Result.andThen]
  rw [Oper.upon_value]
  go_wp2
  go_ret
  exact ⟨rfl, rfl⟩
theorem ordW_c (a b : ByteArray) (w : World) :
    Calls Tryz.prog 67 #[.string a, .string b] w fun e w' => e = .returned (.int .i64 (compareBytes a.data.toList b.data.toList)) ∧ w' = w := by
  go_enter Tryz.func67, Tryz.ntmps67
  go_wp2_with (go_at_call 98; refine (cmpStr_c _ _ _).mono ?_; rintro e w' ⟨rfl, rfl⟩)
  go_ret
  exact ⟨rfl, rfl⟩
theorem compareBytes_neg : ∀ l m : List UInt8, compareBytes l m < 0 ↔ l < m
  | [], [] => by simp [compareBytes]
  | [], _ :: _ => by simp [compareBytes]
  | _ :: _, [] => by simp [compareBytes]
  | a :: l, b :: m => by
    have ih := compareBytes_neg l m
    simp only [compareBytes]
    by_cases h : a < b
    · rw [if_pos h]
      exact ⟨fun _ => List.cons_lt_cons_iff.2 (.inl h), fun _ => by omega⟩
    · rw [if_neg h]
      by_cases h2 : b < a
      · rw [if_pos h2]
        refine ⟨fun h3 => by omega, fun h3 => ?_⟩
        rcases List.cons_lt_cons_iff.1 h3 with h3 | ⟨rfl, _⟩
        · exact absurd h3 h
        · exact absurd h2 h
      · rw [if_neg h2, ih]
        have e : a = b := by
          have h4 := UInt8.not_lt.1 h
          have h5 := UInt8.not_lt.1 h2
          exact UInt8.le_antisymm h5 h4
        subst e
        exact ⟨fun h3 => List.cons_lt_cons_iff.2 (.inr ⟨rfl, h3⟩), fun h3 => by
          rcases List.cons_lt_cons_iff.1 h3 with h3 | ⟨_, h3⟩
          · exact absurd h3 h
          · exact h3⟩
def cmpW (a b : ByteArray) : Int := compareBytes a.data.toList b.data.toList
theorem cmpW_neg (a b : ByteArray) : cmpW a b < 0 ↔ ltW a b := by
  have h := compareBytes_neg a.data.toList b.data.toList
  unfold ltW cmpW
  rw [h, Go.ByteArray.toList_eq, Go.ByteArray.toList_eq]
theorem cmpW_ge (a b : ByteArray) : decide (0 ≤ cmpW a b) = !decide (ltW a b) := by
  have this := cmpW_neg a b
  by_cases h : ltW a b
  · rw [decide_eq_true h, decide_eq_false (by have := this.2 h; omega)]; rfl
  · rw [decide_eq_false h, decide_eq_true (by by_cases h1 : cmpW a b < 0; exact absurd (this.1 h1) h; omega)]; rfl
end Go.Proofs.YtpdnipabaimofaaGreat

namespace Go.Proofs.YtpdnipabaimofaaGreat
open Go.RowKit

theorem str_get {s : ByteArray} {k : Nat} (h : k < s.size) : s.data.toList[k]? = some s[k] := by
  have : k < s.data.size := h
  rw [Array.getElem?_toList, Array.getElem?_eq_getElem this]; rfl
def lowc (c : UInt8) : Prop := 97 ≤ c.toNat ∧ c.toNat ≤ 122
def lows (l : List UInt8) : Prop := ∀ c ∈ l, lowc c
theorem lows_more {l : List UInt8} {k : Nat} {c : UInt8} (h : lows (l.take k)) (hc : l[k]? = some c) (hl : lowc c) : lows (l.take (k + 1)) := by
  intro d hd
  rw [List.take_add_one, hc, List.mem_append] at hd
  rcases hd with hd | hd
  · exact h d hd
  · simp at hd; subst hd; exact hl
theorem not_word {s : ByteArray} {k : Nat} {c : UInt8} (hc : s.data.toList[k]? = some c) (hl : ¬ lowc c) : ¬ isWord s := fun h => hl (h.2 c (List.mem_of_getElem? hc))
theorem is_word {s : ByteArray} (h : lows (s.data.toList.take s.size)) (h1 : 1 ≤ s.size) (h2 : s.size ≤ 12) : isWord s := by
  refine ⟨⟨h1, h2⟩, fun c hc => h c ?_⟩
  rw [List.take_of_length_le (by rw [size_listG]; exact Nat.le_refl _)]
  exact hc

set_option maxRecDepth 100000 in
set_option maxHeartbeats 2000000 in
theorem word_c (s : ByteArray) (w : World) (hs : s.size ≤ 1000000) :
    Calls Tryz.prog 45 #[.string s] w fun e w' => e = .returned (.bool (decide (isWord s))) ∧ Below w.heap.size w w' := by
  go_enter Tryz.func45, Tryz.ntmps45
  go_wp2_with (fail)
  go_loopw [6] (fun i wr => ∃ k : Nat, k ≤ s.size ∧ i = .int .i64 k ∧ Hid (lows (s.data.toList.take k)) ∧ Below w.heap.size w wr) (fun i _ => s.size - (intOf i).toNat)
  case atStart => exact ⟨0, Nat.zero_le _, rfl, fun c hc => by simp at hc, Below.refl _ _⟩
  case round =>
    obtain ⟨k, hk, rfl, hl, hB⟩ := hrel
    by_cases hlt : k < s.size
    · have hc := str_get hlt
      have c1 : (k : Int) < (s.size : Int) := by omega
      by_cases hlo : s[k].toNat < 97
      · have H := Lib.hid (not_word hc (by unfold lowc; omega))
        clear hc
        have d1 : (s[k].toNat : Int) < 97 := by omega
        go_wp2_with (fail)
        go_ret
        exact ⟨ret_bool (decide_eq_false H.out).symm, hB⟩
      · by_cases hhi : 122 < s[k].toNat
        · have H := Lib.hid (not_word hc (by unfold lowc; omega))
          clear hc
          have d1 : ¬ (s[k].toNat : Int) < 97 := by omega
          have d2 : 122 < (s[k].toNat : Int) := by omega
          go_wp2_with (fail)
          go_ret
          exact ⟨ret_bool (decide_eq_false H.out).symm, hB⟩
        · have H := Lib.hid (lows_more hl.out hc (by unfold lowc; omega))
          clear hc
          have d1 : ¬ (s[k].toNat : Int) < 97 := by omega
          have d2 : ¬ 122 < (s[k].toNat : Int) := by omega
          go_wp2_with (fail)
          go_roundw
          case rel => exact ⟨k + 1, by omega, by go_num, H.out, hB⟩
          case measure => simp [intOf]; omega
    · obtain rfl : k = s.size := by omega
      by_cases h1 : 1 ≤ s.size
      · have d1 : ¬ s.toList = [] := by
          intro h
          rw [Go.ByteArray.toList_eq] at h
          have := size_listG s
          rw [h] at this
          simp at this
          omega
        have D1 := Lib.hid d1
        by_cases h2 : s.size ≤ 12
        · have H := Lib.hid (is_word hl.out h1 h2)
          have d2 : (s.size : Int) ≤ 12 := by omega
          go_wp2_with (fail)
          go_ret
          exact ⟨ret_bool (by first | (rw [decide_eq_true H.out]; done) | (rw [decide_eq_true H.out]; simp [D1.out]; done) | (rw [decide_eq_true H.out]; simp; done) | (rw [decide_eq_true H.out]; simp; omega)), hB⟩
        · have d2 : ¬ (s.size : Int) ≤ 12 := by omega
          have H := Lib.hid (fun h : isWord s => h2 h.1.2)
          go_wp2_with (fail)
          go_ret
          exact ⟨ret_bool (by first | (rw [decide_eq_false H.out]; done) | (rw [decide_eq_false H.out]; simp [D1.out]; done) | (rw [decide_eq_false H.out]; simp; done) | (rw [decide_eq_false H.out]; simp; omega)), hB⟩
      · have d1 : s = ⟨#[]⟩ := by
          apply bytes_extG
          have : s.data.toList.length = 0 := by rw [size_listG]; omega
          rw [List.eq_nil_of_length_eq_zero this]
        have H := Lib.hid (fun h : isWord s => h1 h.1.1)
        subst d1
        go_wp2_with (fail)
        go_ret
        exact ⟨ret_bool (by rw [decide_eq_false H.out]), hB⟩

theorem bytes_beq {a b : ByteArray} : (a.toList == b.toList) = decide (a = b) := by
  rw [Bool.eq_iff_iff, beq_iff_eq, decide_eq_true_iff, Go.ByteArray.toList_eq, Go.ByteArray.toList_eq]
  exact ⟨fun h => bytes_extG h, fun h => by rw [h]⟩
theorem notWord_c (s : ByteArray) (w : World) (hs : s.size ≤ 1000000) :
    Calls Tryz.prog 69 #[.string s] w fun e w' => e = .returned (.bool (!decide (isWord s))) ∧ Below w.heap.size w w' := by
  go_enter Tryz.func69, Tryz.ntmps69
  go_wp2_with (fail)
  refine (word_c s _ hs).mono ?_
  rintro e w1 ⟨rfl, hB⟩
  go_wp2_with (fail)
  go_ret
  exact ⟨rfl, hB⟩

theorem elTexts : Elem Tryz.prog 22 9 1 16 := Elem.mk_ Tryz.underlying22 (z := .string ⟨#[]⟩) (by kernel_rfl) rfl (by decide)
theorem elEdges : Elem Tryz.prog 49 48 2 16 := Elem.mk_ Tryz.underlying49 (z := .agg #[.int .i64 0, .int .i64 0]) (by kernel_rfl) rfl (by decide)
theorem elRows : Elem Tryz.prog 50 22 1 24 := Elem.mk_ Tryz.underlying50 (z := .slice none 0 0) (by kernel_rfl) rfl (by decide)
theorem isPlace_c (m v : Int) (A1 A2 : Option Addr) (n1 c1 n2 c2 : Nat) (w : World) :
    Calls Tryz.prog 68 #[.agg #[.int .i64 m, .slice A1 n1 c1, .slice A2 n2 c2], .int .i64 v] w fun e w' => e = .returned (.bool (decide (place m v))) ∧ Below w.heap.size w w' := by
  have hB := Lib.hid ((Below.refl w.heap.size w).alloc (Nat.le_refl _) (.cells #[.int .i64 m, .slice A1 n1 c1, .slice A2 n2 c2] 52))
  by_cases h1 : 0 ≤ v
  · by_cases h2 : v < m
    · have H := Lib.hid (decide_eq_true (show place m v from ⟨h1, h2⟩))
      go_enter Tryz.func68, Tryz.ntmps68
      go_wp2
      go_ret
      exact ⟨ret_bool H.out.symm, hB.out⟩
    · have H := Lib.hid (decide_eq_false (show ¬ place m v from fun h => h2 h.2))
      go_enter Tryz.func68, Tryz.ntmps68
      go_wp2
      go_ret
      exact ⟨ret_bool H.out.symm, hB.out⟩
  · have H := Lib.hid (decide_eq_false (show ¬ place m v from fun h => h1 h.1))
    go_enter Tryz.func68, Tryz.ntmps68
    go_wp2
    go_ret
    exact ⟨ret_bool H.out.symm, hB.out⟩
end Go.Proofs.YtpdnipabaimofaaGreat

namespace Go.Proofs.YtpdnipabaimofaaGreat
open Go.RowKit

def allWords (l : List ByteArray) : Prop := ∀ x ∈ l, isWord x
instance (l : List ByteArray) : Decidable (allWords l) := by unfold allWords; infer_instance
theorem all_more {α : Type} {p : α → Prop} {l : List α} {k : Nat} {x : α} (h : ∀ d ∈ l.take k, p d) (hx : l[k]? = some x) (hw : p x) : ∀ d ∈ l.take (k + 1), p d := by
  intro d hd
  rw [List.take_add_one, hx, List.mem_append] at hd
  rcases hd with hd | hd
  · exact h d hd
  · simp at hd; subst hd; exact hw
theorem all_full {α : Type} {p : α → Prop} {l : List α} {k : Nat} (h : ∀ d ∈ l.take k, p d) (hk : l.length ≤ k) : ∀ d ∈ l, p d := by
  rw [List.take_of_length_le hk] at h; exact h
theorem all_not {α : Type} {p : α → Prop} {l : List α} {k : Nat} {x : α} (hx : l[k]? = some x) (hw : ¬ p x) : ¬ ∀ d ∈ l, p d := fun h => hw (h x (List.mem_of_getElem? hx))
def bounded (l : List ByteArray) : Prop := ∀ x ∈ l, x.size ≤ 1000000
theorem bounded_at {l : List ByteArray} {k : Nat} {x : ByteArray} (h : bounded l) (hx : l[k]? = some x) : x.size ≤ 1000000 := h x (List.mem_of_getElem? hx)
/-- Words that are not too long to be looked at. -/
def sized (g : Gr) : Prop := ∀ l ∈ g.ws, bounded l
theorem sized_at {g : Gr} {k : Nat} {l : List ByteArray} (h : sized g) (hx : g.ws[k]? = some l) : bounded l := h l (List.mem_of_getElem? hx)

set_option maxRecDepth 100000 in
set_option maxHeartbeats 2000000 in
theorem indexW_c (A : Option Addr) (n c : Nat) (l : List ByteArray) (w : World) (h1 : Reads w w.heap.size 1 A n (sv l)) (hn : n ≤ maxLen) (hb : Hid (bounded l)) :
    Calls Tryz.prog 81 #[.slice A n c, .func (.func 69) #[] #[]] w fun e w' => ∃ i : Int, e = .returned (.int .i64 i) ∧ decide (0 ≤ i) = !decide (allWords l) ∧ Below w.heap.size w w' := by
  have l1 := h1.str_len
  unfold maxLen at hn
  go_enter Tryz.func81, Tryz.ntmps81
  go_wp2_with (fail)
  go_loopw [8] (fun i wr => ∃ k : Nat, k ≤ n ∧ i = .int .i64 k ∧ Hid (∀ d ∈ l.take k, isWord d) ∧ Below w.heap.size w wr) (fun i _ => n - (intOf i).toNat)
  case atStart => exact ⟨0, Nat.zero_le _, rfl, fun c hc => by simp at hc, Below.refl _ _⟩
  case round =>
    obtain ⟨k, hk, rfl, hl, hB⟩ := hrel
    by_cases hlt : k < n
    · obtain ⟨a1, o1, x, rfl, hx, hc1⟩ := (h1.below hB).str_at hlt
      clear h1
      have L1 := Lib.hid l1
      clear l1
      go_wp2_with (fail)
      refine (notWord_c x _ (bounded_at hb.out hx.out)).mono ?_
      rintro e w3 ⟨rfl, hB3⟩
      have hBB := hB.trans (hB3.mono hB.size)
      clear hB3
      by_cases hm : isWord x
      · rw [decide_eq_true hm]
        have H := Lib.hid (all_more hl.out hx.out hm)
        clear hm
        go_wp2_with (fail)
        go_roundw
        case rel => exact ⟨k + 1, by omega, by go_num, H.out, hBB⟩
        case measure => simp [intOf]; omega
      · rw [decide_eq_false hm]
        have H : Hid (¬ allWords l) := all_not hx.out hm
        clear hm
        go_wp2_with (fail)
        go_ret
        exact ⟨_, rfl, by rw [decide_eq_false H.out]; simp, hBB⟩
    · obtain rfl : k = n := by omega
      have H : Hid (allWords l) := all_full hl.out (by omega)
      clear l1
      go_wp2_with (fail)
      go_ret
      exact ⟨_, rfl, by rw [decide_eq_true H.out]; simp, hB⟩

theorem containsW_c (A : Option Addr) (n c : Nat) (l : List ByteArray) (w : World) (h1 : Reads w w.heap.size 1 A n (sv l)) (hn : n ≤ maxLen) (hb : Hid (bounded l)) :
    Calls Tryz.prog 46 #[.slice A n c, .func (.func 69) #[] #[]] w fun e w' => e = .returned (.bool (!decide (allWords l))) ∧ Below w.heap.size w w' := by
  go_enter Tryz.func46, Tryz.ntmps46
  go_wp2_with (fail)
  refine (indexW_c A n c l w h1 hn hb).mono ?_
  rintro e w1 ⟨i, rfl, hi, hB⟩
  have H := Lib.hid hi
  clear hi
  go_wp2_with (fail)
  go_ret
  refine ⟨ret_bool ?_, hB⟩
  rw [← H.out]

/-- A graph that came as an argument, boxed. -/
theorem box_in {w : World} {g : Gr} {A1 A2 : Option Addr} {n1 n2 : Nat} {vs : List Value} (h : GrIn w w.heap.size g A1 n1 A2 n2 vs) (c1 c2 : Nat) :
    GAt (w.alloc (.cells #[.int .i64 g.n, .slice A1 n1 c1, .slice A2 n2 c2] 52)) w.heap.size g.n A1 n1 c1 A2 n2 c2 ∧
    GrIn (w.alloc (.cells #[.int .i64 g.n, .slice A1 n1 c1, .slice A2 n2 c2] 52)) w.heap.size g A1 n1 A2 n2 vs ∧
    Below w.heap.size w (w.alloc (.cells #[.int .i64 g.n, .slice A1 n1 c1, .slice A2 n2 c2] 52)) :=
  ⟨GAt.new _ _ _ _ _ _ _ _, h.below (below_oneG _ _), below_oneG _ _⟩
/-- It is left as it is. -/
structure BoxedG (w : World) (b : Nat) (g : Gr) (A1 : Option Addr) (n1 c1 : Nat) (A2 : Option Addr) (n2 c2 : Nat) (vs : List Value) (W : World) : Prop where
  box : GAt W b g.n A1 n1 c1 A2 n2 c2
  gr : GrIn W b g A1 n1 A2 n2 vs
  bel : Below b w W
section
variable {w W W' : World} {b : Nat} {g : Gr} {A1 A2 : Option Addr} {n1 n2 c1 c2 : Nat} {vs : List Value}
theorem BoxedG.step (h : BoxedG w b g A1 n1 c1 A2 n2 c2 vs W) (hB : Below W.heap.size W W') : BoxedG w b g A1 n1 c1 A2 n2 c2 vs W' :=
  ⟨h.box.below hB h.box.lt, h.gr.below (hB.mono (Nat.le_of_lt h.box.lt)), h.bel.trans (hB.mono (Nat.le_of_lt h.box.lt))⟩
theorem BoxedG.in_ (h : BoxedG w b g A1 n1 c1 A2 n2 c2 vs W) : GrIn W W.heap.size g A1 n1 A2 n2 vs := h.gr.more (Nat.le_of_lt h.box.lt)
theorem boxed_new {w : World} (h : GrIn w w.heap.size g A1 n1 A2 n2 vs) (c1 c2 : Nat) : BoxedG w w.heap.size g A1 n1 c1 A2 n2 c2 vs (w.alloc (.cells #[.int .i64 g.n, .slice A1 n1 c1, .slice A2 n2 c2] 52)) := by
  obtain ⟨h1, h2, h3⟩ := box_in h c1 c2
  exact ⟨h1, h2, h3⟩
theorem BoxedG.drew (h : BoxedG w b g A1 n1 c1 A2 n2 c2 vs W) : BoxedG w b g A1 n1 c1 A2 n2 c2 vs W.drew := h.step ((Below.refl _ _).drew)
theorem BoxedG.drewN (h : BoxedG w b g A1 n1 c1 A2 n2 c2 vs W) (k : Nat) : BoxedG w b g A1 n1 c1 A2 n2 c2 vs (W.drewN k) := h.step (below_drewN (Below.refl _ _) k)
end

theorem check_head {g : Gr} (h1 : 1 ≤ g.n) (h2 : g.n ≤ 200) (h3 : g.es.length ≤ 2000) (h4 : (g.ws.length : Int) = g.n) (h5 : ∀ e ∈ g.es, placeE g.n e) (h6 : ∀ l ∈ g.ws, wordsOk l) : checkG g := ⟨⟨h1, h2⟩, h3, h4, h5, h6⟩

set_option maxRecDepth 100000 in
set_option maxHeartbeats 4000000 in
theorem check_cG (g : Gr) (A1 A2 : Option Addr) (n1 n2 c1 c2 : Nat) (vs : List Value) (w : World) (h : GrIn w w.heap.size g A1 n1 A2 n2 vs) (hb : Hid (sized g)) :
    Calls Tryz.prog 34 #[.agg #[.int .i64 g.n, .slice A1 n1 c1, .slice A2 n2 c2]] w fun e w' => e = .returned (.bool (decide (checkG g))) ∧ Below w.heap.size w w' := by
  have hm1 := h.m1
  have hm2 := h.m2
  unfold maxLen at hm1 hm2
  have L1 := Lib.hid h.len1
  have L2 := Lib.hid h.len2
  have HX := Lib.hid (boxed_new h c1 c2)
  clear h
  by_cases h1 : 1 ≤ g.n
  rotate_left
  · have H := Lib.hid (decide_eq_false (show ¬ checkG g from fun c => h1 c.1.1))
    go_enter Tryz.func34, Tryz.ntmps34
    go_wp2
    go_ret
    exact ⟨ret_bool H.out.symm, HX.out.bel⟩
  by_cases h2 : g.n ≤ 200
  rotate_left
  · have H := Lib.hid (decide_eq_false (show ¬ checkG g from fun c => h2 c.1.2))
    go_enter Tryz.func34, Tryz.ntmps34
    go_wp2
    go_ret
    exact ⟨ret_bool H.out.symm, HX.out.bel⟩
  by_cases h3 : n1 ≤ 2000
  rotate_left
  · have H := Lib.hid (decide_eq_false (show ¬ checkG g from fun c => h3 (by have := c.2.1; have := L1.out; omega)))
    go_enter Tryz.func34, Tryz.ntmps34
    go_wp2
    go_ret
    exact ⟨ret_bool H.out.symm, HX.out.bel⟩
  by_cases h4 : (n2 : Int) = g.n
  rotate_left
  · have H := Lib.hid (decide_eq_false (show ¬ checkG g from fun c => h4 (by have := c.2.2.1; have := L2.out; omega)))
    have e1 : ((n2 : Int) != g.n) = true := by rw [bne_iff_ne]; exact h4
    clear h4
    go_enter Tryz.func34, Tryz.ntmps34
    go_wp2
    go_ret
    exact ⟨ret_bool H.out.symm, HX.out.bel⟩
  have e1 : ((n2 : Int) != g.n) = false := by rw [bne_eq_false_iff_eq]; exact h4
  have HH := Lib.hid h4
  clear h4
  go_enter Tryz.func34, Tryz.ntmps34
  go_wp2_with (fail)
  go_loopw [32] (fun i wr => ∃ k : Nat, k ≤ n1 ∧ i = .int .i64 k ∧ Hid (∀ d ∈ g.es.take k, placeE g.n d) ∧ BoxedG w w.heap.size g A1 n1 c1 A2 n2 c2 vs wr) (fun i _ => n1 - (intOf i).toNat)
  case atStart => exact ⟨0, Nat.zero_le _, rfl, fun c hc => by simp at hc, HX.out⟩
  case round =>
    clear HX
    obtain ⟨k, hk, rfl, hl, hx⟩ := hrel
    have hbw := hx.box.lt
    by_cases hlt : k < n1
    · obtain ⟨a1, o1, x, rfl, hxe, d0, d1⟩ := hx.gr.es.edge_at hlt
      have hy := hx.step (below_oneG wr (.cells #[.int .i64 x.src, .int .i64 x.dst] 48))
      obtain ⟨e0, e2, e3⟩ := hy.box.cells
      have HY := Lib.hid hy
      clear hx hy
      have hne := Nat.lt_succ_of_lt hbw
      go_wp2_with (fail)
      refine (isPlace_c g.n x.src _ A2 n1 c1 n2 c2 _).mono ?_
      rintro e w3 ⟨rfl, hB3⟩
      have hx3 := HY.out.step hB3
      have hn : (wr.alloc (.cells #[.int .i64 x.src, .int .i64 x.dst] 48)).heap[wr.heap.size]? = some (.cells #[.int .i64 x.src, .int .i64 x.dst] 48 (0, 0)) := Array.getElem?_push_size
      have hn3 : w3.heap[wr.heap.size]? = some (.cells #[.int .i64 x.src, .int .i64 x.dst] 48 (0, 0)) := (hB3.block _ (by simp)).trans hn
      have f1 : w3.cell? ⟨wr.heap.size, 1, none⟩ = some (.int .i64 x.dst) := by rw [Lib.cell_of_heap hn3]; rfl
      clear hB3 hn hn3 e0 e2 e3 d0 d1
      obtain ⟨e0, e2, e3⟩ := hx3.box.cells
      have HX3 := Lib.hid hx3
      clear hx3
      by_cases hp : place g.n x.src
      · rw [decide_eq_true hp]
        have HP := Lib.hid hp
        clear hp
        go_wp2_with (fail)
        refine (isPlace_c g.n x.dst _ A2 n1 c1 n2 c2 _).mono ?_
        rintro e w4 ⟨rfl, hB4⟩
        have HX4 := Lib.hid (HX3.out.step hB4)
        clear hB4 e0 e2 e3 f1
        by_cases hq : place g.n x.dst
        · rw [decide_eq_true hq]
          have H := Lib.hid (all_more hl.out hxe.out (show placeE g.n x from ⟨HP.out, hq⟩))
          clear hq
          go_wp2_with (fail)
          go_roundw
          case rel => exact ⟨k + 1, by omega, by go_num, H.out, HX4.out⟩
          case measure => simp [intOf]; omega
        · rw [decide_eq_false hq]
          have H := Lib.hid (decide_eq_false (show ¬ checkG g from fun c => hq (c.2.2.2.1 x (List.mem_of_getElem? hxe.out)).2))
          clear hq
          go_wp2_with (fail)
          go_ret
          exact ⟨ret_bool H.out.symm, HX4.out.bel⟩
      · rw [decide_eq_false hp]
        have H := Lib.hid (decide_eq_false (show ¬ checkG g from fun c => hp (c.2.2.2.1 x (List.mem_of_getElem? hxe.out)).1))
        clear hp
        go_wp2_with (fail)
        go_ret
        exact ⟨ret_bool H.out.symm, HX3.out.bel⟩
    · obtain rfl : k = n1 := by omega
      have HE : Hid (∀ d ∈ g.es, placeE g.n d) := all_full hl.out (by rw [L1.out]; exact Nat.le_refl _)
      obtain ⟨e0, e2, e3⟩ := hx.box.cells
      have HX := Lib.hid hx
      clear hx hl
      go_wp2_with (fail)
      go_loopw [52] (fun i wr => ∃ j : Nat, j ≤ n2 ∧ i = .int .i64 j ∧ Hid (∀ d ∈ g.ws.take j, wordsOk d) ∧ BoxedG w w.heap.size g A1 k c1 A2 n2 c2 vs wr) (fun i _ => n2 - (intOf i).toNat)
      case atStart => exact ⟨0, Nat.zero_le _, rfl, fun c hc => by simp at hc, HX.out⟩
      case round =>
        clear HX e0 e2 e3
        obtain ⟨j, hj, rfl, hl, hx⟩ := hrel
        by_cases hlt : j < n2
        · obtain ⟨b2, o2, A, n, c, l, rfl, hxl, d0, hn, hr⟩ := hx.gr.row_at hlt
          have hr := hr.more (Nat.le_of_lt hx.box.lt)
          have hln := Lib.hid hr.str_len
          have HR := Lib.hid hr
          have HX := Lib.hid hx
          have HN := Lib.hid hn
          clear hx hr hn
          by_cases h8 : n ≤ 8
          · go_wp2_with (fail)
            refine (containsW_c A n c l _ HR.out HN.out (sized_at hb.out hxl.out)).mono ?_
            rintro e w3 ⟨rfl, hB3⟩
            have HX3 := Lib.hid (HX.out.step hB3)
            clear hB3 d0
            by_cases hw : allWords l
            · rw [decide_eq_true hw]
              have H := Lib.hid (all_more hl.out hxl.out (show wordsOk l from ⟨by rw [hln.out]; exact h8, hw⟩))
              clear hw
              go_wp2_with (fail)
              go_roundw
              case rel => exact ⟨j + 1, by omega, by go_num, H.out, HX3.out⟩
              case measure => simp [intOf]; omega
            · rw [decide_eq_false hw]
              have H := Lib.hid (decide_eq_false (show ¬ checkG g from fun c => hw (c.2.2.2.2 l (List.mem_of_getElem? hxl.out)).2))
              clear hw
              go_wp2_with (fail)
              go_ret
              exact ⟨ret_bool H.out.symm, HX3.out.bel⟩
          · have H := Lib.hid (decide_eq_false (show ¬ checkG g from fun c => h8 (by have := (c.2.2.2.2 l (List.mem_of_getElem? hxl.out)).1; have := hln.out; omega)))
            go_wp2_with (fail)
            go_ret
            exact ⟨ret_bool H.out.symm, HX.out.bel⟩
        · obtain rfl : j = n2 := by omega
          have H := Lib.hid (decide_eq_true (check_head h1 h2 (by rw [L1.out]; exact h3) (by rw [L2.out]; exact HH.out) HE.out (all_full hl.out (by rw [L2.out]; exact Nat.le_refl _))))
          go_wp2_with (fail)
          go_ret
          exact ⟨ret_bool H.out.symm, hx.bel⟩
end Go.Proofs.YtpdnipabaimofaaGreat

namespace Go.Proofs.YtpdnipabaimofaaGreat
open Go.RowKit

theorem words_c (w : World) : Calls Tryz.prog 33 #[] w fun e w' => e = .returned (.agg #[.func (.func 67) #[] #[]]) ∧ Below w.heap.size w w' := by
  go_enter Tryz.func33, Tryz.ntmps33
  go_wp2
  refine bodyPost_ret (v := .agg #[.func (.func 67) #[] #[]]) ?_ rfl ?_
  · simp [results, Tryz.results33, go_sem]
  · exact ⟨rfl, (below_oneG _ _)⟩
theorem edges_c (w : World) : Calls Tryz.prog 36 #[] w fun e w' => e = .returned (.agg #[.func (.func 70) #[] #[]]) ∧ Below w.heap.size w w' := by
  go_enter Tryz.func36, Tryz.ntmps36
  go_wp2
  refine bodyPost_ret (v := .agg #[.func (.func 70) #[] #[]]) ?_ rfl ?_
  · simp [results, Tryz.results36, go_sem]
  · exact ⟨rfl, (below_oneG _ _)⟩

/-- An order in its box. -/
structure OrdAt (w : World) (f : FuncId) (T : TypeId) (W : World) : Prop where
  box : W.heap[w.heap.size]? = some (.cells #[.func (.func f) #[] #[]] T (0, 0))
  bel : Below w.heap.size w W
section
variable {w W W' : World} {f : FuncId} {T : TypeId}
theorem OrdAt.cell (h : OrdAt w f T W) : W.cell? ⟨w.heap.size, 0, none⟩ = some (.func (.func f) #[] #[]) := by
  rw [Lib.cell_of_heap h.box]; rfl
theorem OrdAt.lt (h : OrdAt w f T W) : w.heap.size < W.heap.size := (Array.getElem?_eq_some_iff.1 h.box).1
theorem OrdAt.step (h : OrdAt w f T W) (hB : Below W.heap.size W W') : OrdAt w f T W' := ⟨(hB.block _ h.lt).trans h.box, h.bel.trans (hB.mono (Nat.le_of_lt h.lt))⟩
theorem OrdAt.drew (h : OrdAt w f T W) : OrdAt w f T W.drew := h.step (Below.refl _ _).drew
end
def risesTo {α : Type} (lt : α → α → Prop) (l : List α) (j : Nat) : Prop := ∀ m a b, m < j → l[m]? = some a → l[m + 1]? = some b → lt a b
theorem rises_more {α : Type} {lt : α → α → Prop} {l : List α} {j : Nat} {x y : α} (h : risesTo lt l j) (hx : l[j]? = some x) (hy : l[j + 1]? = some y) (hl : lt x y) : risesTo lt l (j + 1) := by
  intro m a b hm ha hb
  by_cases he : m = j
  · subst he
    rw [hx] at ha
    rw [hy] at hb
    cases ha; cases hb
    exact hl
  · exact h m a b (by omega) ha hb
theorem rises_all {α : Type} {lt : α → α → Prop} {l : List α} {j : Nat} (h : risesTo lt l j) (hj : l.length ≤ j + 1) : Rises lt l := by
  rw [rises_iff]
  intro m a b ha hb
  exact h m a b (by have := (List.getElem?_eq_some_iff.1 hb).1; omega) ha hb
theorem rises_not {α : Type} {lt : α → α → Prop} {l : List α} {j : Nat} {x y : α} (hx : l[j]? = some x) (hy : l[j + 1]? = some y) (hl : ¬ lt x y) : ¬ Rises lt l := by
  rw [rises_iff]
  exact fun h => hl (h j x y hx hy)

set_option maxRecDepth 100000 in
set_option maxHeartbeats 2000000 in
theorem riseW_c (A : Option Addr) (n c : Nat) (l : List ByteArray) (w : World) (h : Reads w w.heap.size 1 A n (sv l)) (hn : n ≤ maxLen) :
    Calls Tryz.prog 32 #[.slice A n c, .agg #[.func (.func 67) #[] #[]]] w fun e w' => e = .returned (.bool (decide (riseW l))) ∧ Below w.heap.size w w' := by
  have hl := Lib.hid h.str_len
  unfold maxLen at hn
  have hX := Lib.hid (show OrdAt w 67 94 (w.alloc (.cells #[.func (.func 67) #[] #[]] 94)) from ⟨Array.getElem?_push_size, below_oneG _ _⟩)
  go_enter Tryz.func32, Tryz.ntmps32
  go_wp2_with (fail)
  go_loopw [5] (fun i wr => ∃ j : Nat, j ≤ n ∧ i = .int .i64 ((j : Int) + 1) ∧ Hid (risesTo ltW l j) ∧ OrdAt w 67 94 wr) (fun i _ => n - (intOf i).toNat)
  case atStart => exact ⟨0, Nat.zero_le _, rfl, fun m a b hm => absurd hm (Nat.not_lt_zero _), hX.out⟩
  case round =>
    clear hX
    obtain ⟨j, hj, rfl, hr, hO⟩ := hrel
    by_cases hlt : j + 1 < n
    · obtain ⟨b1, o1, x, rfl, hx, d0⟩ := (h.below hO.bel).str_at (k := j) (by omega)
      obtain ⟨b2, o2, y, e2, hy, d1⟩ := (h.below hO.bel).str_at hlt
      cases e2
      have q0 := hO.cell
      have hOd : OrdAt w 67 94 wr.drew := hO.drew
      have f1 : (0 : Int) ≤ (j : Int) := by omega
      have f2 : (j : Int) < (n : Int) := by omega
      have f3 : (0 : Int) ≤ (j : Int) + 1 := by omega
      have f4 : (j : Int) + 1 < (n : Int) := by omega
      have f5 : IntKind.i64.wrap (j : Int) = (j : Int) := IntWalk.i64_in _ (by omega)
      have f6 : ((j : Int) + 1).toNat = j + 1 := by omega
      have HO := Lib.hid hOd
      clear hO hOd h
      go_wp2_with (fail)
      refine wp_region_still_tail 11 (by kernel_rfl) (by kernel_rfl) ?_
      simp only [List.take_succ_cons, List.take_zero, List.drop_succ_cons, List.drop_zero]
      obtain ⟨wd, hwd⟩ : ∃ wd, wd = wr.drew := ⟨_, rfl⟩
      change wr.drew.cell? _ = _ at q0 d0 d1
      rw [← hwd] at q0 d0 d1 HO
      change wpStill _ _ wr.drew (fun a' => wpList _ _ _ _ a' wr.drew) _ _
      rw [← hwd]
      clear hwd
      repeat still_step
      refine wpStill_nil ?_
      clear f1 f2 f3 f4 f5 f6
      go_wp2_with (fail)
      refine (ordW_c x y _).mono ?_
      rintro e w3 ⟨rfl, rfl⟩
      have HO3 := Lib.hid HO.out
      clear HO q0 d0 d1
      have hge := cmpW_ge x y
      unfold cmpW at hge
      by_cases hm : ltW x y
      · rw [decide_eq_true hm] at hge
        have H := Lib.hid (rises_more hr.out hx.out hy.out hm)
        clear hm
        have hge : ¬ 0 ≤ Lib.compareBytes x.data.toList y.data.toList := by simpa using hge
        go_wp2_with (fail)
        go_roundw
        case rel => exact ⟨j + 1, by omega, by go_num, H.out, HO3.out⟩
        case measure => simp [intOf]; omega
      · rw [decide_eq_false hm] at hge
        have H := Lib.hid (decide_eq_false (show ¬ riseW l from rises_not hx.out hy.out hm))
        clear hm
        have hge : 0 ≤ Lib.compareBytes x.data.toList y.data.toList := by simpa using hge
        go_wp2_with (fail)
        go_ret
        exact ⟨ret_bool H.out.symm, HO3.out.bel⟩
    · have H := Lib.hid (decide_eq_true (show riseW l from rises_all hr.out (by have := hl.out; omega)))
      clear h
      go_wp2_with (fail)
      go_ret
      exact ⟨ret_bool H.out.symm, hO.bel⟩

set_option maxRecDepth 100000 in
set_option maxHeartbeats 2000000 in
theorem riseE_c (A : Option Addr) (n c : Nat) (l : List Edg) (w : World) (h : Reads w w.heap.size 2 A n (ev l)) (hn : n ≤ maxLen) :
    Calls Tryz.prog 35 #[.slice A n c, .agg #[.func (.func 70) #[] #[]]] w fun e w' => e = .returned (.bool (decide (riseE l))) ∧ Below w.heap.size w w' := by
  have hl := Lib.hid h.edge_len
  unfold maxLen at hn
  have hX := Lib.hid (show OrdAt w 70 99 (w.alloc (.cells #[.func (.func 70) #[] #[]] 99)) from ⟨Array.getElem?_push_size, below_oneG _ _⟩)
  go_enter Tryz.func35, Tryz.ntmps35
  go_wp2_with (fail)
  go_loopw [5] (fun i wr => ∃ j : Nat, j ≤ n ∧ i = .int .i64 ((j : Int) + 1) ∧ Hid (risesTo lessE l j) ∧ OrdAt w 70 99 wr) (fun i _ => n - (intOf i).toNat)
  case atStart => exact ⟨0, Nat.zero_le _, rfl, fun m a b hm => absurd hm (Nat.not_lt_zero _), hX.out⟩
  case round =>
    clear hX
    obtain ⟨j, hj, rfl, hr, hO⟩ := hrel
    by_cases hlt : j + 1 < n
    · obtain ⟨b1, o1, x, rfl, hx, d0, d2⟩ := (h.below hO.bel).edge_at (k := j) (by omega)
      obtain ⟨b2, o2, y, e2, hy, d1, d3⟩ := (h.below hO.bel).edge_at hlt
      cases e2
      have q0 := hO.cell
      have hOd : OrdAt w 70 99 wr.drew := hO.drew
      have f1 : (0 : Int) ≤ (j : Int) := by omega
      have f2 : (j : Int) < (n : Int) := by omega
      have f3 : (0 : Int) ≤ (j : Int) + 1 := by omega
      have f4 : (j : Int) + 1 < (n : Int) := by omega
      have f5 : IntKind.i64.wrap (j : Int) = (j : Int) := IntWalk.i64_in _ (by omega)
      have f6 : ((j : Int) + 1).toNat = j + 1 := by omega
      have HO := Lib.hid hOd
      clear hO hOd h
      go_wp2_with (fail)
      refine wp_region_still_tail 11 (by kernel_rfl) (by kernel_rfl) ?_
      simp only [List.take_succ_cons, List.take_zero, List.drop_succ_cons, List.drop_zero]
      obtain ⟨wd, hwd⟩ : ∃ wd, wd = wr.drew := ⟨_, rfl⟩
      change wr.drew.cell? _ = _ at q0 d0 d1 d2 d3
      rw [← hwd] at q0 d0 d1 d2 d3 HO
      change wpStill _ _ wr.drew (fun a' => wpList _ _ _ _ a' wr.drew) _ _
      rw [← hwd]
      clear hwd
      repeat still_step
      refine wpStill_nil ?_
      clear f1 f2 f3 f4 f5 f6
      go_wp2_with (fail)
      refine (ordE_c x y _).mono ?_
      rintro e w3 ⟨rfl, hB3⟩
      have HO3 := Lib.hid (HO.out.step hB3)
      clear HO q0 d0 d1 d2 d3
      have hge := cmpE_ge x y
      by_cases hm : lessE x y
      · rw [decide_eq_true hm] at hge
        have H := Lib.hid (rises_more hr.out hx.out hy.out hm)
        clear hm
        have hge : ¬ 0 ≤ cmpE x y := by simpa using hge
        go_wp2_with (fail)
        go_roundw
        case rel => exact ⟨j + 1, by omega, by go_num, H.out, HO3.out⟩
        case measure => simp [intOf]; omega
      · rw [decide_eq_false hm] at hge
        have H := Lib.hid (decide_eq_false (show ¬ riseE l from rises_not hx.out hy.out hm))
        clear hm
        have hge : 0 ≤ cmpE x y := by simpa using hge
        go_wp2_with (fail)
        go_ret
        exact ⟨ret_bool H.out.symm, HO3.out.bel⟩
    · have H := Lib.hid (decide_eq_true (show riseE l from rises_all hr.out (by have := hl.out; omega)))
      clear h
      go_wp2_with (fail)
      go_ret
      exact ⟨ret_bool H.out.symm, hO.bel⟩
end Go.Proofs.YtpdnipabaimofaaGreat

namespace Go.Proofs.YtpdnipabaimofaaGreat
open Go.RowKit

theorem odd_c (A : Option Addr) (n c : Nat) (l : List ByteArray) (w : World) (h : Reads w w.heap.size 1 A n (sv l)) (hn : n ≤ maxLen) :
    Calls Tryz.prog 31 #[.slice A n c] w fun e w' => e = .returned (.bool (!decide (riseW l))) ∧ Below w.heap.size w w' := by
  go_enter Tryz.func31, Tryz.ntmps31
  go_wp2_with (fail)
  refine (words_c _).mono ?_
  rintro e w1 ⟨rfl, hB1⟩
  go_wp2_with (fail)
  refine (riseW_c A n c l _ ((h.below hB1).more hB1.size) hn).mono ?_
  rintro e w2 ⟨rfl, hB2⟩
  have hB := Lib.hid (hB1.trans (hB2.mono hB1.size))
  clear hB1 hB2 h
  go_wp2_with (fail)
  go_ret
  exact ⟨rfl, hB.out⟩

def allRise (ws : List (List ByteArray)) : Prop := ∀ l ∈ ws, riseW l
instance (ws : List (List ByteArray)) : Decidable (allRise ws) := by unfold allRise; infer_instance

set_option maxRecDepth 100000 in
set_option maxHeartbeats 2000000 in
theorem indexR_c (g : Gr) (A1 A2 : Option Addr) (n1 n2 c2 : Nat) (vs : List Value) (w : World) (h : GrIn w w.heap.size g A1 n1 A2 n2 vs) :
    Calls Tryz.prog 73 #[.slice A2 n2 c2, .func (.func 31) #[] #[]] w fun e w' => ∃ i : Int, e = .returned (.int .i64 i) ∧ decide (0 ≤ i) = !decide (allRise g.ws) ∧ Below w.heap.size w w' := by
  have L2 := Lib.hid h.len2
  have hm2 := h.m2
  unfold maxLen at hm2
  go_enter Tryz.func73, Tryz.ntmps73
  go_wp2_with (fail)
  go_loopw [8] (fun i wr => ∃ k : Nat, k ≤ n2 ∧ i = .int .i64 k ∧ Hid (∀ d ∈ g.ws.take k, riseW d) ∧ Below w.heap.size w wr) (fun i _ => n2 - (intOf i).toNat)
  case atStart => exact ⟨0, Nat.zero_le _, rfl, fun c hc => by simp at hc, Below.refl _ _⟩
  case round =>
    obtain ⟨k, hk, rfl, hl, hB⟩ := hrel
    by_cases hlt : k < n2
    · obtain ⟨b2, o2, A, n, c, l, rfl, hxl, d0, hn, hr⟩ := (h.below hB).row_at hlt
      have HR := Lib.hid (hr.more hB.size)
      have HN := Lib.hid hn
      clear h hr hn
      go_wp2_with (fail)
      refine (odd_c A n c l _ HR.out HN.out).mono ?_
      rintro e w3 ⟨rfl, hB3⟩
      have hBB := hB.trans (hB3.mono hB.size)
      clear hB3 d0 HR
      by_cases hm : riseW l
      · rw [decide_eq_true hm]
        have H := Lib.hid (all_more hl.out hxl.out hm)
        clear hm
        go_wp2_with (fail)
        go_roundw
        case rel => exact ⟨k + 1, by omega, by go_num, H.out, hBB⟩
        case measure => simp [intOf]; omega
      · rw [decide_eq_false hm]
        have H : Hid (¬ allRise g.ws) := all_not hxl.out hm
        clear hm
        go_wp2_with (fail)
        go_ret
        exact ⟨_, rfl, by rw [decide_eq_false H.out]; simp, hBB⟩
    · obtain rfl : k = n2 := by omega
      have H : Hid (allRise g.ws) := all_full hl.out (by rw [L2.out]; exact Nat.le_refl _)
      clear h
      go_wp2_with (fail)
      go_ret
      exact ⟨_, rfl, by rw [decide_eq_true H.out]; simp, hB⟩

theorem containsR_c (g : Gr) (A1 A2 : Option Addr) (n1 n2 c2 : Nat) (vs : List Value) (w : World) (h : GrIn w w.heap.size g A1 n1 A2 n2 vs) :
    Calls Tryz.prog 37 #[.slice A2 n2 c2, .func (.func 31) #[] #[]] w fun e w' => e = .returned (.bool (!decide (allRise g.ws))) ∧ Below w.heap.size w w' := by
  go_enter Tryz.func37, Tryz.ntmps37
  go_wp2_with (fail)
  refine (indexR_c g A1 A2 n1 n2 c2 vs w h).mono ?_
  rintro e w1 ⟨i, rfl, hi, hB⟩
  have H := Lib.hid hi
  clear hi
  go_wp2_with (fail)
  go_ret
  refine ⟨ret_bool ?_, hB⟩
  rw [← H.out]

/-- A contract that ends in 'Below', met in any world behind w. -/
theorem regrown_callG {P : Program} {f : FuncId} {args : Array Value} {w : World} {v : Value} (h : ∀ w', Below w.heap.size w w' → Calls P f args w' fun e w'' => e = .returned v ∧ Below w'.heap.size w' w'') (d : Nat) (os : Array Obj) :
    Calls P f args (Sort.grow (redrawn w d) os) fun e w'' => e = .returned v ∧ ∃ p : Regrown, w'' = Sort.grow (redrawn w p.d) p.os :=
  Calls.regrown_of (h _ (below_regrown w d os))

theorem isG_parts (g : Gr) : decide (isG g) = (decide (checkG g) && decide (riseE g.es) && decide (allRise g.ws)) := by
  rw [Bool.eq_iff_iff]
  simp only [Bool.and_eq_true, decide_eq_true_iff, and_assoc]
  exact Iff.rfl

set_option maxRecDepth 100000 in
set_option maxHeartbeats 4000000 in
theorem is_c (g : Gr) (A1 A2 : Option Addr) (n1 n2 c1 c2 : Nat) (vs : List Value) (w : World) (h : GrIn w w.heap.size g A1 n1 A2 n2 vs) (hb : Hid (sized g)) :
    Calls Tryz.prog 17 #[.agg #[.int .i64 g.n, .slice A1 n1 c1, .slice A2 n2 c2]] w fun e w' => e = .returned (.bool (decide (isG g))) ∧ Below w.heap.size w w' := by
  have hmf : ∀ (fn : Fn) (first cap : Array Value) (w : World), (Instr.makeFunc fn first cap).run Tryz.prog w = .ok (.func fn first cap) w := fun _ _ _ _ => rfl
  have HX := Lib.hid (boxed_new h c1 c2)
  have hp := isG_parts g
  obtain ⟨x1, hx1⟩ : ∃ b, decide (checkG g) = b := ⟨_, rfl⟩
  obtain ⟨x2, hx2⟩ : ∃ b, decide (riseE g.es) = b := ⟨_, rfl⟩
  obtain ⟨x3, hx3⟩ : ∃ b, decide (allRise g.ws) = b := ⟨_, rfl⟩
  rw [hx1, hx2, hx3] at hp
  have HP := Lib.hid hp
  have H1 := Lib.hid hx1
  have H2 := Lib.hid hx2
  have H3 := Lib.hid hx3
  clear hp hx1 hx2 hx3 h
  go_enter Tryz.func17, Tryz.ntmps17
  go_wp2_with (fail)
  generalize w.alloc (.cells #[.int .i64 g.n, .slice A1 n1 c1, .slice A2 n2 c2] 52) = W at HX ⊢
  obtain ⟨c0, d1, d2⟩ := HX.out.box.cells
  have q0 := cell_regrown c0
  have q1 := cell_regrown d1
  have q2 := cell_regrown d2
  clear c0 d1 d2
  have HC1 := Lib.hid (regrown_callG (w := W) (P := Tryz.prog) (f := 34) (v := .bool x1) (fun w' hB => (check_cG g A1 A2 n1 n2 c1 c2 vs w' (HX.out.step hB).in_ hb).mono (fun e w'' h => by rw [H1.out] at h; exact h)))
  have HC2 := Lib.hid (regrown_callG (w := W) (P := Tryz.prog) (f := 36) (args := #[]) (v := .agg #[.func (.func 70) #[] #[]]) (fun w' _ => edges_c w'))
  have HC3 := Lib.hid (regrown_callG (w := W) (P := Tryz.prog) (f := 35) (v := .bool x2) (fun w' hB => (riseE_c A1 n1 c1 g.es w' (HX.out.step hB).in_.es HX.out.gr.m1).mono (fun e w'' h => by rw [H2.out] at h; exact h)))
  have HC4 := Lib.hid (regrown_callG (w := W) (P := Tryz.prog) (f := 37) (v := .bool (!x3)) (fun w' hB => (containsR_c g A1 A2 n1 n2 c2 vs w' (HX.out.step hB).in_).mono (fun e w'' h => by rw [H3.out] at h; exact h)))
  clear H1 H2 H3
  rcases x1 with _ | _
  · refine wp_region_quiet_below (by kernel_rfl) (by kernel_rfl) ?_
    repeat (quiet_step (first | (go_at_call 34; exact HC1.out _ _)))
    refine wpQuiet_nil ?_
    intro _ hw'
    obtain ⟨⟨dq, osq⟩, hw''⟩ := hw'
    have HY := Lib.hid (HX.out.step (below_regrown W dq osq))
    rw [← hw''] at HY
    clear hw'' HC1 HC2 HC3 HC4 q0 q1 q2
    go_wp2_with (fail)
    go_ret
    exact ⟨ret_bool HP.out.symm, HY.out.bel⟩
  · rcases x2 with _ | _
    · refine wp_region_quiet_below (by kernel_rfl) (by kernel_rfl) ?_
      repeat (quiet_step (first | (go_at_call 34; exact HC1.out _ _) | (go_at_call 36; exact HC2.out _ _) | (go_at_call 35; exact HC3.out _ _)))
      refine wpQuiet_nil ?_
      intro _ hw'
      obtain ⟨⟨dq, osq⟩, hw''⟩ := hw'
      have HY := Lib.hid (HX.out.step (below_regrown W dq osq))
      rw [← hw''] at HY
      clear hw'' HC1 HC2 HC3 HC4 q0 q1 q2
      go_wp2_with (fail)
      go_ret
      exact ⟨ret_bool HP.out.symm, HY.out.bel⟩
    · refine wp_region_quiet_below (by kernel_rfl) (by kernel_rfl) ?_
      repeat (quiet_step (first | (go_at_call 34; exact HC1.out _ _) | (go_at_call 36; exact HC2.out _ _) | (go_at_call 35; exact HC3.out _ _) | (go_at_call 37; exact HC4.out _ _)))
      refine wpQuiet_nil ?_
      intro _ hw'
      obtain ⟨⟨dq, osq⟩, hw''⟩ := hw'
      have HY := Lib.hid (HX.out.step (below_regrown W dq osq))
      rw [← hw''] at HY
      clear hw'' HC1 HC2 HC3 HC4 q0 q1 q2
      go_wp2_with (fail)
      go_ret
      exact ⟨ret_bool (by rw [HP.out]; cases x3 <;> rfl), HY.out.bel⟩
end Go.Proofs.YtpdnipabaimofaaGreat
