/-
  A heap of hits, plain: what sifting up and down keeps. No program in sight.
  A queue of the nearest hits, plain. No program in sight.
  Hits in memory: a pile of hits behind a pointer.
  How a hit stands to another one: the walk.
  The pile's small methods: the walks.
  The pile's Swap, Push and Pop: the walks.
-/
import Derived.Test.YtpdnipabaimofaaGreatJ01
import Derived.Lib.Hide
import Derived.StillTailTactics
import Derived.BigRegion
import Derived.Deep.RegionLaw
namespace Go.Proofs.YtpdnipabaimofaaGreat

structure Hit where
  v : Int
  d : Int
deriving DecidableEq, Inhabited
/-- Ahead, or the same. -/
def hle (a b : Hit) : Prop := a.d < b.d ∨ a.d = b.d ∧ a.v ≤ b.v
instance (a b : Hit) : Decidable (hle a b) := by unfold hle; infer_instance
theorem hle_refl (a : Hit) : hle a a := .inr ⟨rfl, Int.le_refl _⟩
theorem hle_trans {a b c : Hit} (h : hle a b) (k : hle b c) : hle a c := by unfold hle at *; omega
theorem hle_total {a b : Hit} (h : ¬ hle a b) : hle b a := by unfold hle at *; omega
def nthH (l : List Hit) (i : Nat) : Hit := l.getD i default
theorem nthH_is {l : List Hit} {i : Nat} {x : Hit} (h : l[i]? = some x) : nthH l i = x := by unfold nthH; rw [List.getD_eq_getElem?_getD, h]; rfl
theorem nthH_some {l : List Hit} {i : Nat} (h : i < l.length) : l[i]? = some (nthH l i) := by
  rw [List.getElem?_eq_getElem h, nthH_is (List.getElem?_eq_getElem h)]
theorem nthH_mem {l : List Hit} {i : Nat} (h : i < l.length) : nthH l i ∈ l := List.mem_of_getElem? (nthH_some h)
/-- Two stand in each other's place. -/
def swapL (l : List Hit) (i j : Nat) : List Hit := (l.set i (nthH l j)).set j (nthH l i)
theorem swapL_len (l : List Hit) (i j : Nat) : (swapL l i j).length = l.length := by simp [swapL]
theorem nthH_set {l : List Hit} {i k : Nat} {x : Hit} (hi : i < l.length) : nthH (l.set i x) k = if k = i then x else nthH l k := by
  unfold nthH
  rw [List.getD_eq_getElem?_getD, List.getD_eq_getElem?_getD, List.getElem?_set]
  by_cases e : i = k
  · subst e; simp [hi]
  · rw [if_neg e, if_neg (fun c => e c.symm)]
theorem nthH_swap {l : List Hit} {i j k : Nat} (hi : i < l.length) (hj : j < l.length) : nthH (swapL l i j) k = if k = j then nthH l i else if k = i then nthH l j else nthH l k := by
  unfold swapL
  rw [nthH_set (by simpa using hj), nthH_set hi]
theorem mem_nthH {l : List Hit} {x : Hit} : x ∈ l ↔ ∃ k, k < l.length ∧ nthH l k = x := by
  constructor
  · intro h
    obtain ⟨k, hk, e⟩ := List.getElem_of_mem h
    exact ⟨k, hk, nthH_is (by rw [List.getElem?_eq_getElem hk, e])⟩
  · rintro ⟨k, hk, rfl⟩
    exact nthH_mem hk
theorem mem_swap {l : List Hit} {i j : Nat} (hi : i < l.length) (hj : j < l.length) (x : Hit) : x ∈ swapL l i j ↔ x ∈ l := by
  rw [mem_nthH, mem_nthH, swapL_len]
  constructor
  · rintro ⟨k, hk, e⟩
    rw [nthH_swap hi hj] at e
    split at e
    · exact ⟨i, hi, e⟩
    · split at e
      · exact ⟨j, hj, e⟩
      · exact ⟨k, hk, e⟩
  · rintro ⟨k, hk, e⟩
    by_cases h1 : k = i
    · refine ⟨j, hj, ?_⟩
      rw [nthH_swap hi hj, if_pos rfl, ← h1, e]
    · by_cases h2 : k = j
      · refine ⟨i, hi, ?_⟩
        rw [nthH_swap hi hj]
        by_cases h3 : i = j
        · rw [if_pos h3, ← e, h2, h3]
        · rw [if_neg h3, if_pos rfl, ← h2, e]
      · exact ⟨k, hk, by rw [nthH_swap hi hj, if_neg h2, if_neg h1, e]⟩

def par (j : Nat) : Nat := (j - 1) / 2
/-- The first n make a heap: none comes behind the one above it. -/
def heapN (l : List Hit) (n : Nat) : Prop := ∀ c, 0 < c → c < n → hle (nthH l c) (nthH l (par c))
/-- But for j, on the way up. -/
def upInv (l : List Hit) (j n : Nat) : Prop :=
  (∀ c, 0 < c → c < n → c ≠ j → hle (nthH l c) (nthH l (par c))) ∧ (∀ c, 0 < c → c < n → par c = j → 0 < j → hle (nthH l c) (nthH l (par j)))
/-- But for i's own, on the way down. -/
def downInv (l : List Hit) (i n : Nat) : Prop :=
  (∀ c, 0 < c → c < n → par c ≠ i → hle (nthH l c) (nthH l (par c))) ∧ (∀ c, 0 < c → c < n → par c = i → 0 < i → hle (nthH l c) (nthH l (par i)))
theorem heap_root {l : List Hit} {n : Nat} (h : heapN l n) : ∀ c, c < n → hle (nthH l c) (nthH l 0) := by
  intro c
  induction c using Nat.strongRecOn with
  | ind c ih =>
    intro hc
    by_cases e : c = 0
    · rw [e]; exact hle_refl _
    · have hp : par c < c := by unfold par; omega
      exact hle_trans (h c (by omega) hc) (ih _ hp (by omega))
theorem up_start {l : List Hit} {x : Hit} (h : heapN l l.length) : upInv (l ++ [x]) l.length (l.length + 1) := by
  have e : ∀ c, c < l.length → nthH (l ++ [x]) c = nthH l c := fun c hc => nthH_is (by rw [List.getElem?_append_left hc, nthH_some hc])
  refine ⟨fun c h0 hc hne => ?_, fun c h0 hc hp hj => ?_⟩
  · rw [e c (by omega), e (par c) (by unfold par; omega)]
    exact h c h0 (by omega)
  · unfold par at hp; omega
theorem up_end {l : List Hit} {j n : Nat} (h : upInv l j n) (hj : j = 0 ∨ hle (nthH l j) (nthH l (par j))) : heapN l n := by
  intro c h0 hc
  by_cases e : c = j
  · subst e
    rcases hj with hj | hj
    · omega
    · exact hj
  · exact h.1 c h0 hc e
theorem up_step {l : List Hit} {j n : Nat} (h : upInv l j n) (hn : n ≤ l.length) (hj0 : 0 < j) (hj : j < n) (hlt : ¬ hle (nthH l j) (nthH l (par j))) : upInv (swapL l (par j) j) (par j) n := by
  have hp : par j < j := by unfold par; omega
  have hlt' := hle_total hlt
  have e : ∀ k, nthH (swapL l (par j) j) k = if k = j then nthH l (par j) else if k = par j then nthH l j else nthH l k := fun k => nthH_swap (by omega) (by omega)
  refine ⟨fun c h0 hc hne => ?_, fun c h0 hc hpc hpj => ?_⟩
  · rw [e c, e (par c)]
    by_cases c1 : c = j
    · subst c1
      rw [if_pos rfl, if_neg (by omega), if_pos rfl]
      exact hlt'
    · rw [if_neg c1, if_neg hne]
      by_cases c2 : par c = j
      · rw [if_pos c2]
        exact h.2 c h0 hc c2 hj0
      · rw [if_neg c2]
        by_cases c3 : par c = par j
        · rw [if_pos c3]
          have := h.1 c h0 hc c1
          rw [c3] at this
          exact hle_trans this hlt'
        · rw [if_neg c3]
          exact h.1 c h0 hc c1
  · have hpp : par (par j) < par j := by unfold par at *; omega
    rw [e c, e (par (par j)), if_neg (by omega : ¬ par (par j) = j), if_neg (by omega : ¬ par (par j) = par j)]
    have hq := h.1 (par j) hpj (by omega) (by omega)
    by_cases c1 : c = j
    · rw [if_pos c1]
      exact hq
    · have c2 : ¬ c = par j := by have : par c < c := by unfold par; omega
                                  omega
      rw [if_neg c1, if_neg c2]
      have := h.1 c h0 hc c1
      rw [hpc] at this
      exact hle_trans this hq
theorem down_start {l : List Hit} {n : Nat} (h : heapN l (n + 1)) (hn : n < l.length) : downInv (swapL l 0 n) 0 n := by
  refine ⟨fun c h0 hc hne => ?_, fun c _ _ _ h => absurd h (Nat.lt_irrefl _)⟩
  have e : ∀ k, nthH (swapL l 0 n) k = if k = n then nthH l 0 else if k = 0 then nthH l n else nthH l k := fun k => nthH_swap (by omega) (by omega)
  have hp : par c < c := by unfold par; omega
  rw [e c, e (par c), if_neg (by omega), if_neg (by omega), if_neg (by omega), if_neg hne]
  exact h c h0 (by omega)
theorem down_end {l : List Hit} {i n : Nat} (h : downInv l i n) (hj : ∀ c, 0 < c → c < n → par c = i → hle (nthH l c) (nthH l i)) : heapN l n := by
  intro c h0 hc
  by_cases e : par c = i
  · rw [e]; exact hj c h0 hc e
  · exact h.1 c h0 hc e
theorem down_step {l : List Hit} {i j n : Nat} (h : downInv l i n) (hn : n ≤ l.length) (hj0 : 0 < j) (hj : j < n) (hpj : par j = i) (hb : ∀ c, 0 < c → c < n → par c = i → hle (nthH l c) (nthH l j)) (hlt : ¬ hle (nthH l j) (nthH l i)) : downInv (swapL l i j) j n := by
  have hij : i < j := by unfold par at hpj; omega
  have hlt' := hle_total hlt
  have e : ∀ k, nthH (swapL l i j) k = if k = j then nthH l i else if k = i then nthH l j else nthH l k := fun k => nthH_swap (by omega) (by omega)
  refine ⟨fun c h0 hc hne => ?_, fun c h0 hc hpc _ => ?_⟩
  · have hp : par c < c := by unfold par; omega
    rw [e c, e (par c), if_neg hne]
    by_cases c1 : c = j
    · subst c1
      rw [if_pos rfl, hpj, if_pos rfl]
      exact hlt'
    · rw [if_neg c1]
      by_cases c2 : c = i
      · subst c2
        rw [if_pos rfl, if_neg (by omega)]
        exact h.2 j hj0 hj hpj h0
      · rw [if_neg c2]
        by_cases c3 : par c = i
        · rw [if_pos c3]
          exact hb c h0 hc c3
        · rw [if_neg c3]
          exact h.1 c h0 hc c3
  · have hp : par c < c := by unfold par; omega
    rw [e c, hpj, e i, if_neg (by omega), if_neg (by omega), if_neg (by omega), if_pos rfl]
    have := h.1 c h0 hc (by omega)
    rw [hpc] at this
    exact this
end Go.Proofs.YtpdnipabaimofaaGreat

namespace Go.Proofs.YtpdnipabaimofaaGreat

/-- What a queue of at most k holds behind those that were put. -/
structure QInv (k : Nat) (seen q : List Hit) : Prop where
  heap : heapN q q.length
  most : q.length ≤ k
  sub : ∀ x ∈ q, x ∈ seen
  least : seen ≠ [] → ∃ m ∈ q, ∀ y ∈ seen, hle m y
theorem qinv_nil (k : Nat) : QInv k [] [] := ⟨fun c _ hc => absurd hc (Nat.not_lt_zero _), Nat.zero_le _, by simp, fun h => absurd rfl h⟩
theorem least_more {k : Nat} {seen q q1 : List Hit} {x : Hit} (h : QInv k seen q) (hm : ∀ y, y ∈ q1 ↔ y ∈ q ∨ y = x) : ∃ m ∈ q1, ∀ y ∈ seen ++ [x], hle m y := by
  by_cases e : seen = []
  · subst e
    exact ⟨x, (hm x).2 (.inr rfl), fun y hy => by simp at hy; rw [hy]; exact hle_refl _⟩
  · obtain ⟨m, h1, h2⟩ := h.least e
    by_cases c : hle m x
    · refine ⟨m, (hm m).2 (.inl h1), fun y hy => ?_⟩
      rcases List.mem_append.1 hy with hy | hy
      · exact h2 y hy
      · rw [List.mem_singleton.1 hy]; exact c
    · refine ⟨x, (hm x).2 (.inr rfl), fun y hy => ?_⟩
      rcases List.mem_append.1 hy with hy | hy
      · exact hle_trans (hle_total c) (h2 y hy)
      · rw [List.mem_singleton.1 hy]; exact hle_refl _
theorem put_more {k : Nat} {seen q q1 : List Hit} {x : Hit} (h : QInv k seen q) (hm : ∀ y, y ∈ q1 ↔ y ∈ q ∨ y = x) (hh : heapN q1 q1.length) (hl : q1.length ≤ k) : QInv k (seen ++ [x]) q1 :=
  ⟨hh, hl, fun y hy => by
    rcases (hm y).1 hy with c | c
    · exact List.mem_append_left _ (h.sub y c)
    · rw [c]; simp, fun _ => least_more h hm⟩
theorem put_drop {k : Nat} {seen q q1 q2 : List Hit} {x : Hit} (h : QInv k seen q) (hm : ∀ y, y ∈ q1 ↔ y ∈ q ∨ y = x) (hh : heapN q1 q1.length) (hm2 : ∀ y, y ∈ q1 ↔ y ∈ q2 ∨ y = nthH q1 0) (hh2 : heapN q2 q2.length) (hl : q2.length ≤ k) (hne : q2 ≠ []) : QInv k (seen ++ [x]) q2 := by
  refine ⟨hh2, hl, fun y hy => ?_, fun _ => ?_⟩
  · rcases (hm y).1 ((hm2 y).2 (.inl hy)) with c | c
    · exact List.mem_append_left _ (h.sub y c)
    · rw [c]; simp
  · obtain ⟨m, h1, h2⟩ := least_more h hm
    rcases (hm2 m).1 h1 with c | c
    · exact ⟨m, c, h2⟩
    · obtain ⟨z, hz⟩ := List.exists_mem_of_ne_nil _ hne
      obtain ⟨i, hi, e⟩ := mem_nthH.1 ((hm2 z).2 (.inl hz))
      have h3 := heap_root hh i hi
      rw [e, ← c] at h3
      exact ⟨z, hz, fun y hy => hle_trans h3 (h2 y hy)⟩
/-- What 'First' tells: none of none; else one of them ahead, and none stands before it. -/
def FirstIs (h o : List Hit) : Prop := (h = [] ∧ o = []) ∨ ∃ m os, o = m :: os ∧ m ∈ h ∧ ∀ x ∈ h, hle m x
theorem first_is {k : Nat} {h q o : List Hit} (hq : QInv k h q) (hs : o.Pairwise hle) (hm : ∀ y, y ∈ o ↔ y ∈ q) : FirstIs h o := by
  by_cases e : h = []
  · refine .inl ⟨e, ?_⟩
    rcases o with _ | ⟨a, o⟩
    · rfl
    · have := hq.sub a ((hm a).1 (by simp))
      rw [e] at this
      simp at this
  · obtain ⟨m, h1, h2⟩ := hq.least e
    rcases o with _ | ⟨a, o⟩
    · have := (hm m).2 h1
      simp at this
    · refine .inr ⟨a, o, rfl, hq.sub a ((hm a).1 (by simp)), fun x hx => ?_⟩
      rw [List.pairwise_cons] at hs
      rcases List.mem_cons.1 ((hm m).2 h1) with c | c
      · rw [← c]; exact h2 x hx
      · exact hle_trans (hs.1 m c) (h2 x hx)
end Go.Proofs.YtpdnipabaimofaaGreat

namespace Go.Proofs.YtpdnipabaimofaaGreat
open Go.RowKit

theorem below_one' (w : World) (o : Obj) : Below w.heap.size w (w.alloc o) := (Below.refl _ _).alloc (Nat.le_refl _) o
theorem below_2 (w : World) (o1 o2 : Obj) : Below w.heap.size w ((w.alloc o1).alloc o2) := ((Below.refl _ _).alloc (Nat.le_refl _) o1).alloc (by simp) o2
def hitC (a : Hit) : List Value := [.int .i64 a.v, .int .i64 a.d]
def hitsV (l : List Hit) : List Value := l.flatMap hitC
def hitV (a : Hit) : Value := .agg #[.int .i64 a.v, .int .i64 a.d]
theorem hitC_len (a : Hit) : (hitC a).length = 2 := rfl
theorem hitsV_len (l : List Hit) : (hitsV l).length = l.length * 2 := flat_len hitC 2 hitC_len l
theorem hitsV_append (l m : List Hit) : hitsV (l ++ m) = hitsV l ++ hitsV m := List.flatMap_append
theorem hitC_one (a : Hit) : ∀ u ∈ hitC a, u.oneCell' = true := by
  intro u hu
  simp only [hitC, List.mem_cons, List.not_mem_nil, or_false] at hu
  rcases hu with rfl | rfl <;> rfl
theorem hitsV_one (l : List Hit) : ∀ u ∈ hitsV l, u.oneCell' = true := by
  intro u hu
  obtain ⟨m, _, hm⟩ := List.mem_flatMap.1 hu
  exact hitC_one m u hm
theorem hitsV_set : ∀ (l : List Hit) (k : Nat) (x : Hit), (((hitsV l).set (k * 2) (.int .i64 x.v)).set (k * 2 + 1) (.int .i64 x.d)) = hitsV (l.set k x)
  | [], k, x => by simp [hitsV]
  | a :: l, 0, x => by simp [hitsV, hitC]
  | a :: l, k + 1, x => by
    have ih := hitsV_set l k x
    simp only [hitsV, List.flatMap_cons, List.set_cons_succ] at ih ⊢
    rw [← ih]
    rw [show (k + 1) * 2 = k * 2 + 2 by omega]
    simp [hitC]
theorem elHit : Elem Tryz.prog 190 215 2 16 := Elem.mk_ Tryz.underlying190 (z := .agg #[.int .i64 0, .int .i64 0]) (by kernel_rfl) rfl (by decide)
theorem elAHit : Elem Tryz.prog 34 43 2 16 := Elem.mk_ Tryz.underlying34 (z := .agg #[.int .i64 0, .int .i64 0]) (by kernel_rfl) rfl (by decide)
section
variable {w w' : World} {B base n c g k : Nat} {e : TypeId} {A : Option Addr}
theorem Reads.hit_len {xs : List Hit} (h : Reads w B 2 A n (hitsV xs)) : xs.length = n := by
  have := h.1; rw [hitsV_len] at this; omega
theorem Reads.hit_at {xs : List Hit} {k : Nat} (h : Reads w B 2 A n (hitsV xs)) (hk : k < n) :
    ∃ b o m, A = some ⟨b, o, none⟩ ∧ Hid (xs[k]? = some m) ∧ w.cell? ⟨b, o + k * 2, none⟩ = some (.int .i64 m.v) ∧ w.cell? ⟨b, o + k * 2 + 1, none⟩ = some (.int .i64 m.d) := by
  have hl := h.hit_len
  obtain ⟨b, o, e, _, hc⟩ := h.2 (by omega)
  have hx : xs[k]? = some (xs[k]'(by omega)) := List.getElem?_eq_getElem (by omega)
  have hf := fun r hr => flat_get hitC 2 hitC_len xs k r _ hx hr
  exact ⟨b, o, _, e, hx, hc _ _ (hf 0 (by omega)), by rw [Nat.add_assoc]; exact hc _ _ (hf 1 (by omega))⟩
theorem own_hit_at {zs : List Hit} (h : w.ownsRow base e 2 (.slice (some ⟨g, 0, none⟩) n c) n (hitsV zs)) (hk : k < n) :
    w.cell? ⟨g, k * 2, none⟩ = some (.int .i64 (nthH zs k).v) ∧ w.cell? ⟨g, k * 2 + 1, none⟩ = some (.int .i64 (nthH zs k).d) := by
  have hl : zs.length = n := by have := h.1; rw [hitsV_len] at this; omega
  have hx : zs[k]? = some (nthH zs k) := nthH_some (by omega)
  have hf := fun r hr => flat_get hitC 2 hitC_len zs k r _ hx hr
  exact ⟨by rw [h.cellAt _ (by omega)]; exact hf 0 (by omega), by rw [h.cellAt _ (by omega)]; exact hf 1 (by omega)⟩
theorem own_setH {d : List Hit} (h : w.ownsRow base e 2 (.slice (some ⟨g, 0, none⟩) n c) n (hitsV d)) (k : Nat) (u : Hit) :
    ((w.setCell ⟨g, k * 2, none⟩ (.int .i64 u.v)).setCell ⟨g, k * 2 + 1, none⟩ (.int .i64 u.d)).ownsRow base e 2 (.slice (some ⟨g, 0, none⟩) n c) n (hitsV (d.set k u)) := by
  have h1 := (((h.stored (k * 2) (.int .i64 u.v)).1.stored (k * 2 + 1) (.int .i64 u.d))).1
  rw [hitsV_set] at h1
  exact h1
end

/-- The queue's box. -/
def qBox (A : Option Addr) (n c : Nat) (k : Int) : Obj := .cells #[.slice A n c, .int .i64 k] 194
/-- A queue behind a pointer: its pile's hits, as they stand. -/
structure PileAt (b : Nat) (k : Int) (A : Option Addr) (c : Nat) (q : List Hit) (W : World) : Prop where
  box : W.heap[b]? = some (qBox A q.length c k)
  own : W.ownsRow (b + 1) 215 2 (.slice A q.length c) q.length (hitsV q)
section
variable {b c c' : Nat} {k : Int} {A A' : Option Addr} {q q' : List Hit} {W W' : World}
theorem PileAt.lt (h : PileAt b k A c q W) : b < W.heap.size := (Array.getElem?_eq_some_iff.1 h.box).1
theorem PileAt.cells (h : PileAt b k A c q W) : W.cell? ⟨b, 0, none⟩ = some (.slice A q.length c) ∧ W.cell? ⟨b, 1, none⟩ = some (.int .i64 k) := by
  refine ⟨?_, ?_⟩ <;> · rw [Lib.cell_of_heap h.box]; rfl
theorem PileAt.frozen (h : PileAt b k A c q W) (j : Nat) : W.frozen? ⟨b, j, none⟩ = false := Lib.frozen_of_heap h.box j
theorem PileAt.below (h : PileAt b k A c q W) (hB : Below W.heap.size W W') : PileAt b k A c q W' := ⟨(hB.block _ h.lt).trans h.box, own_below h.own hB⟩
theorem PileAt.drew (h : PileAt b k A c q W) : PileAt b k A c q W.drew := ⟨h.box, h.own.drew⟩
theorem PileAt.addr (h : PileAt b k A c q W) (hq : 0 < q.length) : ∃ g, A = some ⟨g, 0, none⟩ ∧ b < g ∧ g < W.heap.size := by
  obtain ⟨g, cap, e, _, _⟩ := h.own.form hq
  injection e with e
  subst e
  have := own_lt h.own _ rfl
  exact ⟨g, rfl, by simp only at this; omega, this.2⟩
/-- The row is turned. -/
theorem PileAt.row (h : PileAt b k A c q W) {g : Nat} (hg : W.grownBy W' (some g)) (hb : b < g) (hl : q'.length = q.length) (ho : W'.ownsRow (b + 1) 215 2 (.slice A q.length c) q.length (hitsV q')) : PileAt b k A c q' W' :=
  ⟨by rw [hl]; exact (hg.block b h.lt (fun e => by injection e; omega)).trans h.box, by rw [hl]; exact ho⟩
/-- The box is turned. -/
theorem PileAt.set (h : PileAt b k A c q W) (ho : W.ownsRow (b + 1) 215 2 (.slice A' q'.length c') q'.length (hitsV q')) : PileAt b k A' c' q' (W.setCell ⟨b, 0, none⟩ (.slice A' q'.length c')) := by
  refine ⟨?_, ?_⟩
  · have := heap_setCell_same W b 0 _ _ (.slice A' q'.length c') h.box
    unfold qBox; simpa using this
  · refine own_only ho (only_setCell (only_refl W (some b)) (p := ⟨b, 0, none⟩) (.inl rfl) _) fun a ha e => ?_
    have := (own_lt ho a ha).1
    injection e
    omega
end
end Go.Proofs.YtpdnipabaimofaaGreat

namespace Go.Proofs.YtpdnipabaimofaaGreat
open Go.RowKit

def toI (a b : Hit) : Int := if a.d = b.d then (if a.v = b.v then 0 else if a.v < b.v then -1 else 1) else if a.d < b.d then -1 else 1
theorem toI_neg (a b : Hit) : toI a b < 0 ↔ ¬ hle b a := by
  unfold toI hle
  split
  · split
    · omega
    · split <;> omega
  · split <;> omega
theorem hitOrder_c (b : Bool) (w : World) : Calls Tryz.prog 181 #[.bool b] w fun e w' => e = .returned (.int .i64 (if b then -1 else 1)) ∧ w' = w := by
  cases b
  · go_enter Tryz.func181, Tryz.ntmps181
    go_wp2_with (fail)
    go_ret
    exact ⟨rfl, rfl⟩
  · go_enter Tryz.func181, Tryz.ntmps181
    go_wp2_with (fail)
    go_ret
    exact ⟨rfl, rfl⟩
def hitBox (a : Hit) : Obj := .cells #[.int .i64 a.v, .int .i64 a.d] 215
set_option maxRecDepth 100000 in
set_option maxHeartbeats 2000000 in
theorem hitTo_c (a b : Hit) (w : World) : Calls Tryz.prog 148 #[.agg #[.int .i64 a.v, .int .i64 a.d], .agg #[.int .i64 b.v, .int .i64 b.d]] w fun e w' => e = .returned (.int .i64 (toI a b)) ∧ w' = (w.alloc (hitBox a)).alloc (hitBox b) := by
  have HT : Hid (toI a b = if a.d = b.d then (if a.v = b.v then 0 else if a.v < b.v then -1 else 1) else if a.d < b.d then -1 else 1) := rfl
  by_cases h1 : a.d = b.d
  · have g1 : (a.d != b.d) = false := by simpa using h1
    have HT := Lib.hid (HT.out.trans (if_pos h1))
    clear h1
    by_cases h2 : a.v = b.v
    · have g2 : (a.v != b.v) = false := by simpa using h2
      have HT := Lib.hid (HT.out.trans (if_pos h2))
      clear h2
      go_enter Tryz.func148, Tryz.ntmps148
      go_wp2_with (fail)
      go_ret
      exact ⟨ret_int HT.out.symm, rfl⟩
    · have g2 : (a.v != b.v) = true := by simpa using h2
      have HT := Lib.hid (HT.out.trans (if_neg h2))
      clear h2
      go_enter Tryz.func148, Tryz.ntmps148
      go_wp2_with (fail)
      refine (hitOrder_c _ _).mono ?_
      rintro e w1 ⟨rfl, rfl⟩
      by_cases h3 : a.v < b.v
      · rw [if_pos (decide_eq_true h3)]
        have HT := Lib.hid (HT.out.trans (if_pos h3))
        clear h3
        go_wp2_with (fail)
        go_ret
        exact ⟨ret_int HT.out.symm, rfl⟩
      · rw [if_neg (by simpa using h3)]
        have HT := Lib.hid (HT.out.trans (if_neg h3))
        clear h3
        go_wp2_with (fail)
        go_ret
        exact ⟨ret_int HT.out.symm, rfl⟩
  · have g1 : (a.d != b.d) = true := by simpa using h1
    have HT := Lib.hid (HT.out.trans (if_neg h1))
    clear h1
    go_enter Tryz.func148, Tryz.ntmps148
    go_wp2_with (fail)
    refine (hitOrder_c _ _).mono ?_
    rintro e w1 ⟨rfl, rfl⟩
    by_cases h3 : a.d < b.d
    · rw [if_pos (decide_eq_true h3)]
      have HT := Lib.hid (HT.out.trans (if_pos h3))
      clear h3
      go_wp2_with (fail)
      go_ret
      exact ⟨ret_int HT.out.symm, rfl⟩
    · rw [if_neg (by simpa using h3)]
      have HT := Lib.hid (HT.out.trans (if_neg h3))
      clear h3
      go_wp2_with (fail)
      go_ret
      exact ⟨ret_int HT.out.symm, rfl⟩
end Go.Proofs.YtpdnipabaimofaaGreat

namespace Go.Proofs.YtpdnipabaimofaaGreat
open Go.RowKit

section
variable {b c : Nat} {k : Int} {A : Option Addr} {q : List Hit}
set_option maxRecDepth 100000 in
theorem pileLen_c (W : World) (h : PileAt b k A c q W) : Calls Tryz.prog 178 #[.pointer (some ⟨b, 0, none⟩)] W fun e w' => e = .returned (.int .i64 (q.length : Int)) ∧ w' = W := by
  have c0 := h.cells.1
  go_enter Tryz.func178, Tryz.ntmps178
  go_wp2_with (fail)
  go_ret
  exact ⟨rfl, rfl⟩

set_option maxRecDepth 100000 in
set_option maxHeartbeats 2000000 in
theorem pileLess_c (i j : Nat) (W : World) (h : PileAt b k A c q W) (hi : i < q.length) (hj : j < q.length) : Calls Tryz.prog 224 #[.pointer (some ⟨b, 0, none⟩), .int .i64 (i : Int), .int .i64 (j : Int)] W fun e w' => e = .returned (.bool (decide (¬ hle (nthH q i) (nthH q j)))) ∧ Below W.heap.size W w' := by
  obtain ⟨g, rfl, hg1, hg2⟩ := h.addr (by omega)
  have c0 := h.cells.1
  obtain ⟨i0, i1⟩ := own_hit_at h.own hi
  obtain ⟨j0, j1⟩ := own_hit_at h.own hj
  have HR : Hid (decide (toI (nthH q j) (nthH q i) < 0) = decide (¬ hle (nthH q i) (nthH q j))) := by show _ = _; rw [decide_eq_decide]; exact toI_neg _ _
  generalize nthH q i = x at *
  generalize nthH q j = y at *
  have f1 : (0 : Int) ≤ (i : Int) := by omega
  have f2 : (i : Int) < (q.length : Int) := by omega
  have f3 : (0 : Int) ≤ (j : Int) := by omega
  have f4 : (j : Int) < (q.length : Int) := by omega
  clear h hi hj hg1 hg2
  go_enter Tryz.func224, Tryz.ntmps224
  go_wp2_with (fail)
  go_still_tail 14, (by kernel_rfl)
  show wpList _ _ _ _ _ W.drew
  go_wp2_with (fail)
  refine (hitTo_c y x _).mono ?_
  rintro e w1 ⟨rfl, rfl⟩
  go_wp2_with (fail)
  go_ret
  refine ⟨ret_bool HR.out, ?_⟩
  exact (below_2 W _ _).drew
end
end Go.Proofs.YtpdnipabaimofaaGreat

namespace Go.Proofs.YtpdnipabaimofaaGreat
open Go.RowKit

/-- What a queue's walk turns: its box, its row, and what is new. -/
structure Touch (b : Nat) (A A' : Option Addr) (W W' : World) : Prop where
  os : W'.os = W.os
  tape : W'.tape = W.tape
  output : W'.output = W.output
  size : W.heap.size ≤ W'.heap.size
  block : ∀ j, j < W.heap.size → j ≠ b → (∀ x, A = some x → j ≠ x.block) → W'.heap[j]? = W.heap[j]?
  at_ : ∀ x, A' = some x → (∃ y, A = some y ∧ x.block = y.block) ∨ W.heap.size ≤ x.block
section
variable {b : Nat} {A A' A'' : Option Addr} {W W' W'' : World}
theorem Touch.of_below (h : Below W.heap.size W W') : Touch b A A W W' := ⟨h.os, h.tape, h.output, h.size, fun j hj _ _ => h.block j hj, fun x hx => .inl ⟨x, hx, rfl⟩⟩
theorem Touch.refl : Touch b A A W W := .of_below (Below.refl _ _)
theorem Touch.trans (h : Touch b A A' W W') (k : Touch b A' A'' W' W'') : Touch b A A'' W W'' :=
  ⟨k.os.trans h.os, k.tape.trans h.tape, k.output.trans h.output, Nat.le_trans h.size k.size, fun j hj hb hA => (k.block j (Nat.lt_of_lt_of_le hj h.size) hb (fun x hx e => by
    rcases h.at_ x hx with ⟨y, hy, e2⟩ | h2
    · exact hA y hy (e.trans e2)
    · omega)).trans (h.block j hj hb hA), fun x hx => by
    rcases k.at_ x hx with ⟨y, hy, e⟩ | h2
    · rcases h.at_ y hy with ⟨z, hz, e2⟩ | h3
      · exact .inl ⟨z, hz, e.trans e2⟩
      · right; omega
    · right; have := h.size; omega⟩
theorem Touch.of_grown {g : Nat} {o : Nat} (h : W.grownBy W' (some g)) (hA : A = some ⟨g, o, none⟩) : Touch b A A W W' :=
  ⟨h.os, h.tape, h.output, h.size, fun j hj _ hx => h.block j hj (fun e => hx _ hA (by injection e)), fun x hx => .inl ⟨x, hx, rfl⟩⟩
theorem Touch.pushed (p : Pushed W W' A A') : Touch b A A' W W' :=
  ⟨p.grown.os, p.grown.tape, p.grown.output, p.grown.size, fun j hj _ hx => p.grown.block j hj (fun e => by
    cases hA : A with
    | none => rw [hA] at e; cases e
    | some x => rw [hA] at e; injection e with e; exact hx x hA e), fun x hx => by
    rcases p.at_ x hx with h | h
    · left
      cases hA : A with
      | none => rw [hA] at h; obtain ⟨d, h, _⟩ := h; cases h
      | some y => rw [hA] at h; obtain ⟨d, h, e⟩ := h; cases h; exact ⟨_, rfl, e.symm⟩
    · exact .inr h⟩
theorem Touch.box (v : Value) (j : Nat) : Touch b A A W (W.setCell ⟨b, j, none⟩ v) :=
  have h := only_setCell (only_refl W (some b)) (p := ⟨b, j, none⟩) (.inl rfl) v
  ⟨h.os, h.tape, h.output, h.size, fun j hj hb _ => h.block j hj (fun e => hb (by injection e)), fun x hx => .inl ⟨x, hx, rfl⟩⟩
theorem Touch.below (h : Touch b A A' W W') {B : Nat} (hb : B ≤ b) (hA : ∀ x, A = some x → B ≤ x.block) (hB : B ≤ W.heap.size) : Below B W W' :=
  ⟨h.os, h.tape, h.output, h.size, fun j hj => h.block j (by omega) (by omega) (fun x hx => by have := hA x hx; omega)⟩
end
section
variable {b c : Nat} {k : Int} {A : Option Addr} {q : List Hit} {W W' : World}
theorem PileAt.bel {A' : Option Addr} (h : PileAt b k A c q W) (t : Touch b A A' W W') : Below b W W' :=
  t.below (Nat.le_refl _) (fun x hx => by have := (own_lt h.own x hx).1; omega) (Nat.le_of_lt h.lt)
theorem own_swap {g n : Nat} (h : W.ownsRow (b + 1) 215 2 (.slice (some ⟨g, 0, none⟩) n c) n (hitsV q)) (i j : Nat) :
    (((((W.setCell ⟨g, i * 2, none⟩ (.int .i64 (nthH q j).v)).setCell ⟨g, i * 2 + 1, none⟩ (.int .i64 (nthH q j).d)).setCell ⟨g, j * 2, none⟩ (.int .i64 (nthH q i).v))).setCell ⟨g, j * 2 + 1, none⟩ (.int .i64 (nthH q i).d)).ownsRow (b + 1) 215 2 (.slice (some ⟨g, 0, none⟩) n c) n (hitsV (swapL q i j)) :=
  own_setH (own_setH h i (nthH q j)) j (nthH q i)
set_option maxRecDepth 100000 in
set_option maxHeartbeats 4000000 in
theorem pileSwap_c (i j : Nat) (h : PileAt b k A c q W) (hi : i < q.length) (hj : j < q.length) : Calls Tryz.prog 227 #[.pointer (some ⟨b, 0, none⟩), .int .i64 (i : Int), .int .i64 (j : Int)] W fun e w' => e = .returned (.tuple #[]) ∧ PileAt b k A c (swapL q i j) w' ∧ Touch b A A W w' := by
  obtain ⟨g, rfl, hg1, hg2⟩ := h.addr (by omega)
  have c0 := h.cells.1
  obtain ⟨i0, i1⟩ := own_hit_at h.own hi
  obtain ⟨j0, j1⟩ := own_hit_at h.own hj
  have fi0 := h.own.frozenAt (i * 2)
  have fi1 := h.own.frozenAt (i * 2 + 1)
  have fj0 := h.own.frozenAt (j * 2)
  have fj1 := h.own.frozenAt (j * 2 + 1)
  have HS := Lib.hid (own_swap h.own i j)
  have HH := Lib.hid h
  have HQ : Hid ((swapL q i j).length = q.length) := swapL_len _ _ _
  have HG := Lib.hid hg1
  generalize hx : nthH q i = x at *
  generalize hy : nthH q j = y at *
  generalize hn : q.length = n at *
  have f1 : (0 : Int) ≤ (i : Int) := by omega
  have f2 : (i : Int) < (n : Int) := by omega
  have f3 : (0 : Int) ≤ (j : Int) := by omega
  have f4 : (j : Int) < (n : Int) := by omega
  obtain ⟨v1, s1⟩ := cell?_setCell_some (w := W) (p := ⟨g, i * 2, none⟩) (x := .int .i64 y.v) (q := ⟨g, j * 2, none⟩) j0
  obtain ⟨v2, s2⟩ := cell?_setCell_some (w := W) (p := ⟨g, i * 2, none⟩) (x := .int .i64 y.v) (q := ⟨g, j * 2 + 1, none⟩) j1
  obtain ⟨v3, s3⟩ := cell?_setCell_some (w := W.setCell ⟨g, i * 2, none⟩ (.int .i64 y.v)) (p := ⟨g, i * 2 + 1, none⟩) (x := .int .i64 y.d) (q := ⟨g, j * 2 + 1, none⟩) s2
  obtain ⟨v4, s4⟩ := cell?_setCell_some (w := W) (p := ⟨g, i * 2 + 1, none⟩) (x := .int .i64 y.d) (q := ⟨g, j * 2 + 1, none⟩) j1
  have HN := Lib.hid hn
  clear h hi hj hg1 hx hy hn
  go_enter Tryz.func227, Tryz.ntmps227
  go_wp2_with (fail)
  go_region
  go_end0
  have hgr := only_setCell (only_setCell (only_setCell (only_setCell (only_refl W (some g)) (p := ⟨g, i * 2, none⟩) (.inl rfl) (.int .i64 y.v)) (p := ⟨g, i * 2 + 1, none⟩) (.inl rfl) (.int .i64 y.d)) (p := ⟨g, j * 2, none⟩) (.inl rfl) (.int .i64 x.v)) (p := ⟨g, j * 2 + 1, none⟩) (.inl rfl) (.int .i64 x.d)
  exact ⟨rfl, (HH.out.row hgr HG.out (HQ.out.trans HN.out.symm) (by rw [HN.out]; exact HS.out)).drew, .of_grown (only_drew hgr) rfl⟩

theorem isHit (v : Value) (w : World) : (Instr.typeAssert (.iface 215 v) 20 215 true).run Tryz.prog w = .ok (.tuple #[v, .bool true]) w := by kernel_rfl
/-- One hit more. -/
theorem PileAt.push {A' : Option Addr} {c' : Nat} (h : PileAt b k A c q W) {x : Hit} (p : Pushed W W' A A') (ho : W'.ownsRow (b + 1) 215 2 (.slice A' (q.length + 1) c') (q.length + 1) (hitsV q ++ (hitC x).toArray.toList)) :
    PileAt b k A' c' (q ++ [x]) (W'.setCell ⟨b, 0, none⟩ (.slice A' (q.length + 1) c')) ∧ Touch b A A' W (W'.setCell ⟨b, 0, none⟩ (.slice A' (q.length + 1) c')) := by
  have hl : (q ++ [x]).length = q.length + 1 := by simp
  have hb : W'.heap[b]? = some (qBox A q.length c k) := (p.grown.block b h.lt (fun e => by
    cases hA : A with
    | none => rw [hA] at e; cases e
    | some y => rw [hA] at e; injection e with e; have := (own_lt h.own y hA).1; simp only at e; omega)).trans h.box
  have ho' : W'.ownsRow (b + 1) 215 2 (.slice A' (q ++ [x]).length c') (q ++ [x]).length (hitsV (q ++ [x])) := by
    rw [hl, hitsV_append]
    simpa [hitsV] using ho
  refine ⟨?_, (Touch.pushed p).trans (Touch.box _ _)⟩
  rw [← hl]
  refine ⟨?_, ?_⟩
  · have := heap_setCell_same W' b 0 _ _ (.slice A' (q ++ [x]).length c') hb
    unfold qBox; simpa using this
  · refine own_only ho' (only_setCell (only_refl W' (some b)) (p := ⟨b, 0, none⟩) (.inl rfl) _) fun a ha e => ?_
    have := (own_lt ho' a ha).1
    injection e
    omega
set_option maxRecDepth 100000 in
set_option maxHeartbeats 4000000 in
theorem pilePush_c (x : Hit) (h : PileAt b k A c q W) (hq : q.length ≤ 1000000) : Calls Tryz.prog 226 #[.pointer (some ⟨b, 0, none⟩), .iface 215 (.agg #[.int .i64 x.v, .int .i64 x.d])] W fun e w' => e = .returned (.tuple #[]) ∧ ∃ A' c', PileAt b k A' c' (q ++ [x]) w' ∧ Touch b A A' W w' := by
  have hB1 := below_2 W (hitBox x) (hitBox x)
  have hB0 : Below W.heap.size W (W.alloc (hitBox x)) := (Below.refl _ _).alloc (Nat.le_refl _) _
  have hp1 := h.below hB0
  have c0 := hp1.cells.1
  have c1 : ((W.alloc (hitBox x)).alloc (hitBox x)).cell? ⟨b, 0, none⟩ = _ := (hB1.cell (p := ⟨b, 0, none⟩) h.lt).trans h.cells.1
  have HP := Lib.hid hp1
  have HH := Lib.hid h
  have hfin : Hid (∀ (A4 : Option Addr) (w4 : World), Pushed (W.alloc (hitBox x)) w4 A A4 → w4.cell? ⟨b, 0, none⟩ = some (.slice A q.length c) ∧ w4.frozen? ⟨b, 0, none⟩ = false) := fun A4 w4 p => by
    have hb : w4.heap[b]? = some (qBox A q.length c k) := (p.grown.block b hp1.lt (fun e => by
      cases hA : A with
      | none => rw [hA] at e; cases e
      | some y => rw [hA] at e; injection e with e; have := (own_lt h.own y hA).1; simp only at e; omega)).trans hp1.box
    exact ⟨by rw [Lib.cell_of_heap hb]; rfl, Lib.frozen_of_heap hb 0⟩
  have HB0 := Lib.hid hB0
  unfold hitBox at c0 c1
  clear h hp1 hB0 hB1
  go_enter Tryz.func226, Tryz.ntmps226
  have hta := isHit
  go_wp2_with (fail)
  go_region_law (first | (refine step_push_drew elHit rfl (.tmp 16) (.tmp 18) rfl HP.out.own rfl _ rfl (by simp only [World.size_alloc]; rfl) (hitC_one x) (by unfold maxLen; omega) (by omega) HP.out.lt ?_; intro A4 c4 w4 ho4 p4; obtain ⟨hc4, hf4⟩ := hfin.out A4 w4 p4))
  all_goals
    go_wp2_with (fail)
    go_end0
    have t := HP.out.push p4 ho4
    exact ⟨rfl, A4, ⟨c4, t.1⟩, (Touch.of_below HB0.out).trans t.2⟩
end
end Go.Proofs.YtpdnipabaimofaaGreat
