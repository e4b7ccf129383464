/-
  Boxes of graphs: whole stores.
  Elements once each: plain laws; 'clear' on a part of a row of the call's own.
  slices.IndexFunc, ContainsFunc and DeleteFunc at messages: the walks.
  Rows that were checked: the one half is the other one, turned. No program in sight.
  Plain laws of chapter 19: fresh messages, and states that grow. A state is written as a message is (key and number). No program in sight.
  round.Fresh: the walk.
  round.right: the walk.
  Split refused: the program's and the reference's.
-/
import Derived.Test.YtpdnipabaimofaaGreatJ05
import Derived.Test.YtpdnipabaimofaaGreatJ04
import Derived.Test.YtpdnipabaimofaaGreatJ02
import Derived.Test.YtpdnipabaimofaaGreatJ01
import Derived.Lib.QuietBelow
import Derived.BigQuiet
namespace Go.Proofs.YtpdnipabaimofaaGreat
open Go.RowKit

theorem only_setCell' {a w : World} {g : Nat} (h : a.grownBy w (some g)) {k o : Nat} (hp : a.heap.size ≤ k) (u : Value) : a.grownBy (w.setCell ⟨k, o, none⟩ u) (some g) := only_setCell h (.inr hp) u
theorem only_setCellS {a w : World} {g : Nat} (h : a.grownBy w (some g)) (k : Nat) (u : Value) : a.grownBy (w.setCell ⟨g, k, none⟩ u) (some g) := only_setCell h (.inl rfl) u
theorem Pushed.heap {w w' : World} {A A' : Option Addr} {k : Nat} (p : Pushed w w' A A') (hk : k < w.heap.size) (h : ∀ x, A = some x → k < x.block) : w'.heap[k]? = w.heap[k]? :=
  p.grown.block k hk (fun e => by
    cases A with
    | none => cases e
    | some x => have h1 := h x rfl; injection e with e; simp only at e; omega)
theorem isF_own {w w' : World} {base e size n c g : Nat} {A : Option Addr} {xs : List Value} (h : w.ownsRow base e size (.slice A n c) n xs) (hg : w.grownBy w' (some g)) (hne : g < base) : w'.ownsRow base e size (.slice A n c) n xs :=
  own_only h hg (fun a ha he => by have := (own_lt h a ha).1; injection he; omega)

def putG (w : World) (o : Nat) (m : Int) (A1 : Option Addr) (n1 c1 : Nat) (A2 : Option Addr) (n2 c2 : Nat) : World :=
  ((w.setCell ⟨o, 0, none⟩ (.int .i64 m)).setCell ⟨o, 1, none⟩ (.slice A1 n1 c1)).setCell ⟨o, 2, none⟩ (.slice A2 n2 c2)
section
variable {w w' : World} {o n1 c1 n2 c2 m1 d1 m2 d2 B : Nat} {m k : Int} {A1 A2 A3 A4 : Option Addr}
theorem putG_at (h : GAt w o k A3 m1 d1 A4 m2 d2) (m : Int) (A1 : Option Addr) (n1 c1 : Nat) (A2 : Option Addr) (n2 c2 : Nat) : GAt (putG w o m A1 n1 c1 A2 n2 c2) o m A1 n1 c1 A2 n2 c2 := by
  have h0 := h.set0 m
  have h1 := h0.set1 (A3 := A1) (d := n1) (e := c1)
  have h2 := h1.set2 (A3 := A2) (d := n2) (e := c2)
  unfold putG
  exact h2
theorem putG_grown (w : World) (o : Nat) (m : Int) (A1 : Option Addr) (n1 c1 : Nat) (A2 : Option Addr) (n2 c2 : Nat) : w.grownBy (putG w o m A1 n1 c1 A2 n2 c2) (some o) := by
  unfold putG
  exact only_setCellS (only_setCellS (only_setCellS (only_refl w _) _ _) _ _) _ _
theorem putG_below {a : World} (h : Below B a w) (ho : B ≤ o) (m : Int) (A1 : Option Addr) (n1 c1 : Nat) (A2 : Option Addr) (n2 c2 : Nat) : Below B a (putG w o m A1 n1 c1 A2 n2 c2) := by
  unfold putG
  exact ((h.setCell ho _).setCell ho _).setCell ho _
theorem GAt.only {g : Nat} (h : GAt w o m A1 n1 c1 A2 n2 c2) (hg : w.grownBy w' (some g)) (hne : o ≠ g) : GAt w' o m A1 n1 c1 A2 n2 c2 := h.grown hg (fun e => hne (by injection e))
end
/-- What owns its parts can be read. -/
theorem grIn_own {w : World} {b1 b2 b3 : Nat} {g : Gr} {A1 A2 : Option Addr} {n1 c1 n2 c2 : Nat} {us : List Value} (h1 : w.ownsRow b1 48 2 (.slice A1 n1 c1) n1 (ev g.es)) (h2 : w.ownsRow b2 22 1 (.slice A2 n2 c2) n2 us)
    (h3 : RowsOwn w b3 9 1 us (wv g.ws)) : GrIn w w.heap.size g A1 n1 A2 n2 us :=
  ⟨own_reads h1, own_reads h2, h3.reads, Nat.le_trans (own_cap h1).1 (own_cap h1).2, Nat.le_trans (own_cap h2).1 (own_cap h2).2⟩
theorem only_trans_rowG {a w w' : World} {b : Nat} (h : a.grownBy w (some b)) (k : w.grownBy w' (some b)) : a.grownBy w' (some b) :=
  ⟨k.os.trans h.os, k.tape.trans h.tape, k.output.trans h.output, Nat.le_trans h.size k.size, fun j hj hne => (k.block j (Nat.lt_of_lt_of_le hj h.size) hne).trans (h.block j hj hne)⟩
section
variable {w W W' : World} {b n1 c1 n2 c2 : Nat} {g : Gr} {A1 A2 : Option Addr} {vs : List Value}
theorem BoxedG.stepB (h : BoxedG w b g A1 n1 c1 A2 n2 c2 vs W) {B : Nat} (hB : Below B W W') (hb : b < B) : BoxedG w b g A1 n1 c1 A2 n2 c2 vs W' :=
  ⟨h.box.below hB hb, h.gr.below (hB.mono (Nat.le_of_lt hb)), h.bel.trans (hB.mono (Nat.le_of_lt hb))⟩
end
end Go.Proofs.YtpdnipabaimofaaGreat

namespace Go.Proofs.YtpdnipabaimofaaGreat
open Go.RowKit

section
variable {α : Type} {lt : α → α → Prop}
theorem rises_snoc {p : List α} {y u : α} (h : Rises lt p) (hl : p.getLast? = some y) (hlt : lt y u) : Rises lt (p ++ [u]) := by
  rw [rises_iff] at h ⊢
  intro k a b ha hb
  have hp : p ≠ [] := fun e => by rw [e] at hl; cases hl
  have hpl : 0 < p.length := List.length_pos_iff.2 hp
  rcases Nat.lt_trichotomy (k + 1) p.length with hk | hk | hk
  · rw [List.getElem?_append_left (by omega)] at ha
    rw [List.getElem?_append_left hk] at hb
    exact h k a b ha hb
  · rw [List.getElem?_append_left (by omega)] at ha
    rw [List.getElem?_append_right (by omega), hk, Nat.sub_self] at hb
    simp at hb
    subst hb
    rw [List.getLast?_eq_getElem?, show p.length - 1 = k by omega, ha] at hl
    cases hl
    exact hlt
  · rw [List.getElem?_append_right (by omega)] at hb
    have := (List.getElem?_eq_some_iff.1 hb).1
    simp at this
    omega
/-- What has been kept so far: it rises, is of l, and ends as l does at place m. -/
structure Kept (lt : α → α → Prop) (l p : List α) (m : Nat) : Prop where
  rise : Rises lt p
  mem : ∀ x ∈ p, x ∈ l
  last : ∃ y, l[m]? = some y ∧ p.getLast? = some y
theorem adj_lt (tot : ∀ a b, ¬ lt b a → a ≠ b → lt a b) {l : List α} (hs : l.Pairwise (fun a b => ¬ lt b a)) {m : Nat} {a b : α} (h1 : l[m]? = some a) (h2 : l[m + 1]? = some b) (hne : a ≠ b) : lt a b := by
  obtain ⟨i1, e1⟩ := List.getElem?_eq_some_iff.1 h1
  obtain ⟨i2, e2⟩ := List.getElem?_eq_some_iff.1 h2
  have := List.pairwise_iff_getElem.1 hs m (m + 1) i1 i2 (Nat.lt_succ_self _)
  rw [e1, e2] at this
  exact tot a b this hne
theorem kept_start (tot : ∀ a b, ¬ lt b a → a ≠ b → lt a b) {l : List α} (hs : l.Pairwise (fun a b => ¬ lt b a)) {j : Nat} {x : α} (hd : risesTo (fun a b => a ≠ b) l j) (h1 : l[j]? = some x) (h2 : l[j + 1]? = some x) : Kept lt l (l.take (j + 1)) (j + 1) := by
  refine ⟨?_, fun y hy => List.mem_of_mem_take hy, x, h2, ?_⟩
  · rw [rises_iff]
    intro k a b ha hb
    have hk : k + 1 < j + 1 := by
      have := (List.getElem?_eq_some_iff.1 hb).1
      rw [List.length_take] at this
      omega
    rw [List.getElem?_take_of_lt (by omega)] at ha
    rw [List.getElem?_take_of_lt hk] at hb
    exact adj_lt tot hs ha hb (hd k a b (by omega) ha hb)
  · have hl := (List.getElem?_eq_some_iff.1 h1).1
    rw [List.getLast?_eq_getElem?, List.length_take, Nat.min_eq_left (by omega), List.getElem?_take_of_lt (by omega)]
    exact h1
theorem kept_all (tot : ∀ a b, ¬ lt b a → a ≠ b → lt a b) {l : List α} (hs : l.Pairwise (fun a b => ¬ lt b a)) {j : Nat} (hd : risesTo (fun a b => a ≠ b) l j) (hj : l.length ≤ j + 1) : Rises lt l := by
  rw [rises_iff]
  intro k a b ha hb
  have := (List.getElem?_eq_some_iff.1 hb).1
  exact adj_lt tot hs ha hb (hd k a b (by omega) ha hb)
theorem kept_more (tot : ∀ a b, ¬ lt b a → a ≠ b → lt a b) {l p : List α} (hs : l.Pairwise (fun a b => ¬ lt b a)) {m : Nat} {u v : α} (h : Kept lt l p m) (h1 : l[m]? = some v) (h2 : l[m + 1]? = some u) (hne : v ≠ u) : Kept lt l (p ++ [u]) (m + 1) := by
  obtain ⟨y, e1, e2⟩ := h.last
  rw [h1] at e1
  cases e1
  refine ⟨rises_snoc h.rise e2 (adj_lt tot hs h1 h2 hne), fun x hx => ?_, u, h2, by simp⟩
  rcases List.mem_append.1 hx with hx | hx
  · exact h.mem x hx
  · simp at hx; subst hx; exact List.mem_of_getElem? h2
theorem kept_same {l p : List α} {m : Nat} {u : α} (h : Kept lt l p m) (h1 : l[m]? = some u) (h2 : l[m + 1]? = some u) : Kept lt l p (m + 1) := by
  obtain ⟨y, e1, e2⟩ := h.last
  rw [h1] at e1
  cases e1
  exact ⟨h.rise, h.mem, u, h2, e2⟩
theorem take_set_more {d : List α} {k : Nat} {u : α} (hk : k < d.length) : (d.set k u).take (k + 1) = d.take k ++ [u] := by
  rw [List.take_add_one, List.getElem?_set_self hk]
  congr 1
  rw [List.take_set_of_le (Nat.le_refl _)]
end

theorem ev_set : ∀ (l : List Edg) (k : Nat) (x : Edg), ((ev l).set (k * 2) (.int .i64 x.src)).set (k * 2 + 1) (.int .i64 x.dst) = ev (l.set k x)
  | [], k, x => by simp [ev]
  | a :: l, 0, x => by simp [ev, ec]
  | a :: l, k + 1, x => by
    have ih := ev_set l k x
    simp only [ev, List.flatMap_cons, List.set_cons_succ] at ih ⊢
    rw [← ih, show (k + 1) * 2 = k * 2 + 1 + 1 by omega, show k * 2 + 1 + 1 + 1 = (k * 2 + 1) + 1 + 1 by omega]
    rfl
theorem sv_set (l : List ByteArray) (k : Nat) (x : ByteArray) : (sv l).set k (.string x) = sv (l.set k x) := by
  rw [sv, sv, List.map_set]
theorem ev_take (l : List Edg) (k : Nat) : (ev l).take (k * 2) = ev (l.take k) := flat_take ec 2 ec_len l k
theorem sv_take (l : List ByteArray) (k : Nat) : (sv l).take (k * 1) = sv (l.take k) := by rw [Nat.mul_one, sv, sv, List.map_take]

section
variable {P : Program} {w : World}
theorem run_clear_own {t e : TypeId} {z : Value} {size base g n c : Nat} {xs : List Value} (ht : P.underlying t = some (.slice e)) (hv : ∀ w, (zeroValue e).run P w = .ok z w) (hz : z.cells.size = size) (h1 : ∀ u ∈ z.cells.toList, u.oneCell' = true)
    (hown : w.ownsRow base e size (.slice (some ⟨g, 0, none⟩) n c) n xs) {k : Nat} (hk : k ≤ n) {dp : Option Addr} {m d : Nat} (hm : m = n - k) (hdp : 0 < m → dp = some ⟨g, k * size, none⟩) :
    ∃ w', (∀ ty : TypeId, (Builtin.clear_ #[t] ty #[.slice dp m d]).run P w = .ok (.tuple #[]) w') ∧ w'.ownsRow base e size (.slice (some ⟨g, 0, none⟩) k c) k (xs.take (k * size)) ∧ w.grownBy w' (some g) := by
  subst hz
  rcases Nat.eq_zero_or_pos m with h0 | h0
  · refine ⟨w, fun ty => ?_, own_shorter hown hk (by simp), World.grownBy.refl w _⟩
    subst h0
    cases dp with
    | none => simp [Builtin.clear_, run_underlying ht]
    | some a => simp [Builtin.clear_, run_underlying ht]
  · obtain rfl := hdp h0
    obtain ⟨zs, hzs⟩ : ∃ zs, zs = (Builtin.zeroCells z.cells m).toList := ⟨_, rfl⟩
    have hzl : zs.length = m * z.cells.size := by rw [hzs]; simp [Builtin.zeroCells]
    have hz1 : ∀ u ∈ zs, u.oneCell' = true := by
      intro u hu
      rw [hzs] at hu
      simp only [Builtin.zeroCells, Array.toList_map, Array.toList_range, List.mem_map, List.mem_range] at hu
      obtain ⟨i, hi, rfl⟩ := hu
      have hpos : 0 < z.cells.size := by
        rcases Nat.eq_zero_or_pos z.cells.size with h | h
        · rw [h] at hi; simp at hi
        · exact h
      have hlt : i % z.cells.size < z.cells.size := Nat.mod_lt _ hpos
      rw [getElem!_pos z.cells _ hlt]
      exact h1 _ (by rw [Array.mem_toList_iff]; exact Array.getElem_mem hlt)
    rcases hown.2 with ⟨hv', _⟩ | ⟨g', cap, cur, hv', hb, hg, hnc, hcm, hcs, htake⟩
    · cases hv'
    · simp only [Value.slice.injEq, Option.some.injEq, Addr.mk.injEq, and_true, true_and] at hv'
      obtain ⟨rfl, rfl⟩ := hv'
      have hle : k * z.cells.size + m * z.cells.size ≤ n * z.cells.size := by rw [← Nat.add_mul]; exact Nat.mul_le_mul_right _ (by omega)
      have hle2 : n * z.cells.size ≤ c * z.cells.size := Nat.mul_le_mul_right _ hnc
      have hst := run_storeCells_at P g (k * z.cells.size) e zs 0 cur w hg (by rw [hzl, hcs]; omega) hz1
      simp only [Nat.add_zero] at hst
      generalize hrow : (cur.toList.take (k * z.cells.size) ++ zs ++ cur.toList.drop (k * z.cells.size + zs.length)).toArray = row at hst
      obtain ⟨m', rfl⟩ : ∃ m', m = m' + 1 := ⟨m - 1, by omega⟩
      refine ⟨w.setRow g row, fun ty => ?_, ⟨?_, .inr ⟨g, c, row, rfl, hb, setRow_heap w g cur _ e _ hg, Nat.le_trans hk hnc, hcm, ?_, ?_⟩⟩, ⟨rfl, rfl, rfl, by simp, fun j _ hj => setRow_other w g j _ (fun e => hj (by simp [e]))⟩⟩
      · simp [Builtin.clear_, run_underlying ht, hv, ← hzs, hst]
      · rw [List.length_take, hown.1]
        exact Nat.min_eq_left (Nat.mul_le_mul_right _ hk)
      · rw [← hrow]
        simp only [List.size_toArray, List.length_append, List.length_take, List.length_drop, Array.length_toList, hcs, hzl]
        omega
      · rw [← hrow, ← htake]
        simp only [List.append_assoc]
        have hcl : cur.toList.length = c * z.cells.size := by simpa using hcs
        rw [List.take_append_of_le_length (by rw [List.length_take, hcl]; omega), List.take_take, List.take_take, Nat.min_self, Nat.min_eq_left (Nat.mul_le_mul_right _ hk)]
end
end Go.Proofs.YtpdnipabaimofaaGreat

namespace Go.Proofs.YtpdnipabaimofaaGreat
open Go.RowKit

/-- The first that a predicate holds of, or -1. -/
def idxI (p : Msg → Bool) (l : List Msg) : Int := (l.findIdx? p).elim (-1) fun i => (i : Int)
theorem idx_at {p : Msg → Bool} {l : List Msg} {j : Nat} {x : Msg} (h : ∀ y ∈ l.take j, p y = false) (hx : l[j]? = some x) (hp : p x = true) : l.findIdx? p = some j := by
  rw [List.findIdx?_eq_some_iff_getElem]
  obtain ⟨hj, he⟩ := List.getElem?_eq_some_iff.1 hx
  refine ⟨hj, by rw [he]; exact hp, fun i hi => ?_⟩
  have := h (l[i]'(by omega)) (List.mem_iff_getElem.2 ⟨i, by rw [List.length_take]; omega, by rw [List.getElem_take]⟩)
  rw [this]
  exact Bool.false_ne_true
theorem idx_none {p : Msg → Bool} {l : List Msg} (h : ∀ y ∈ l, p y = false) : l.findIdx? p = none := by
  rw [List.findIdx?_eq_none_iff]
  exact h
theorem mv_set : ∀ (l : List Msg) (k : Nat) (x : Msg), ((((mv l).set (k * 4) (.int .i64 x.slot)).set (k * 4 + 1) (.int .i64 x.dir)).set (k * 4 + 2) (.int .i64 x.v)).set (k * 4 + 3) (.int .i64 x.d) = mv (l.set k x)
  | [], k, x => by simp [mv]
  | a :: l, 0, x => by simp [mv, mc]
  | a :: l, k + 1, x => by
    have ih := mv_set l k x
    simp only [mv, List.flatMap_cons, List.set_cons_succ] at ih ⊢
    rw [← ih]
    rw [show (k + 1) * 4 = k * 4 + 4 by omega]
    simp [mc]
theorem own_setM {w : World} {base e g n c k : Nat} {d : List Msg} (h : w.ownsRow base e 4 (.slice (some ⟨g, 0, none⟩) n c) n (mv d)) (u : Msg) :
    ((((w.setCell ⟨g, k * 4, none⟩ (.int .i64 u.slot)).setCell ⟨g, k * 4 + 1, none⟩ (.int .i64 u.dir)).setCell ⟨g, k * 4 + 2, none⟩ (.int .i64 u.v)).setCell ⟨g, k * 4 + 3, none⟩ (.int .i64 u.d)).ownsRow base e 4 (.slice (some ⟨g, 0, none⟩) n c) n (mv (d.set k u)) := by
  have h1 := ((((h.stored (k * 4) (.int .i64 u.slot)).1.stored (k * 4 + 1) (.int .i64 u.dir)).1.stored (k * 4 + 2) (.int .i64 u.v)).1.stored (k * 4 + 3) (.int .i64 u.d)).1
  rw [mv_set] at h1
  exact h1
theorem mv_take4 (xs : List Msg) (k : Nat) : (mv xs).take (k * 4) = mv (xs.take k) := flat_take mc 4 mc_len xs k

section
variable (F : Nat) (B : Nat) (p : Msg → Bool)
set_option maxRecDepth 100000 in
set_option maxHeartbeats 2000000 in
theorem indexF_c (A : Option Addr) (n c : Nat) (l : List Msg) (w : World) (hr : Reads w w.heap.size 4 A n (mv l)) (hn : n ≤ maxLen)
    (HP : ∀ x ∈ l, ∀ W : World, Below w.heap.size w W → Calls Tryz.prog 86 #[.agg #[.int .i64 x.slot, .int .i64 x.dir, .int .i64 x.v, .int .i64 x.d], .pointer (some ⟨B, 0, none⟩)] W fun e w' => e = .returned (.bool (p x)) ∧ Below W.heap.size W w') :
    Calls Tryz.prog 89 #[.slice A n c, .func (.func 86) #[] #[.pointer (some ⟨B, 0, none⟩)]] w fun e w' => e = .returned (.int .i64 (idxI p l)) ∧ Below w.heap.size w w' := by
  have hl := Lib.hid hr.mail_len
  unfold maxLen at hn
  have HR := Lib.hid hr
  have HPP := Lib.hid HP
  clear hr HP
  go_enter Tryz.func89, Tryz.ntmps89
  go_wp2_with (fail)
  go_loopw [8] (fun i wr => ∃ j : Nat, j ≤ n ∧ i = .int .i64 j ∧ Hid (∀ y ∈ l.take j, p y = false) ∧ Below w.heap.size w wr) (fun i _ => n - (intOf i).toNat)
  case atStart => exact ⟨0, Nat.zero_le _, rfl, fun y hy => by simp at hy, Below.refl _ _⟩
  case round =>
    obtain ⟨j, hj, rfl, hT, hB⟩ := hrel
    by_cases hlt : j < n
    · obtain ⟨b, o, x, rfl, hx, d0, d1, d2, d3⟩ := (HR.out.below hB).mail_at hlt
      have HX := Lib.hid hx.out
      have HB := Lib.hid hB
      clear hx hB
      have f1 : (0 : Int) ≤ (j : Int) := by omega
      have f2 : (j : Int) < (n : Int) := by omega
      go_wp2_with (fail)
      refine (HPP.out x (List.mem_of_getElem? HX.out) wr HB.out).mono ?_
      rintro e w1 ⟨rfl, hB1⟩
      have HB1 := Lib.hid (HB.out.trans (hB1.mono HB.out.size))
      clear hB1 d0 d1 d2 d3
      by_cases hp : p x = true
      · have hi : Hid (idxI p l = (j : Int)) := by show _ = _; unfold idxI; rw [idx_at hT.out HX.out hp]; rfl
        rw [hp]
        go_wp2_with (fail)
        go_ret
        exact ⟨ret_int hi.out.symm, HB1.out⟩
      · have hp' : p x = false := by simpa using hp
        rw [hp']
        have hT' : Hid (∀ y ∈ l.take (j + 1), p y = false) := fun y hy => by
          rw [List.take_add_one, HX.out, Option.toList_some] at hy
          rcases List.mem_append.1 hy with hy | hy
          · exact hT.out y hy
          · rw [List.mem_singleton.1 hy]; exact hp'
        clear hp hp'
        go_wp2_with (fail)
        go_roundw
        case rel => exact ⟨j + 1, by omega, by go_num, hT', HB1.out⟩
        case measure => simp [intOf]; omega
    · obtain rfl : j = n := by omega
      have hi : Hid (idxI p l = -1) := by
        show _ = _
        unfold idxI
        rw [idx_none (fun y hy => hT.out y (by rw [List.take_of_length_le (by rw [hl.out]; exact Nat.le_refl _)]; exact hy))]
        rfl
      go_wp2_with (fail)
      go_ret
      exact ⟨ret_int hi.out.symm, hB⟩

set_option maxRecDepth 100000 in
set_option maxHeartbeats 4000000 in
theorem delF_c (g n c base : Nat) (l : List Msg) (w : World) (ho : w.ownsRow base 79 4 (.slice (some ⟨g, 0, none⟩) n c) n (mv l)) (hn : n ≤ 1000000)
    (HP : ∀ x ∈ l, ∀ W : World, w.grownBy W (some g) → Calls Tryz.prog 86 #[.agg #[.int .i64 x.slot, .int .i64 x.dir, .int .i64 x.v, .int .i64 x.d], .pointer (some ⟨B, 0, none⟩)] W fun e w' => e = .returned (.bool (p x)) ∧ Below W.heap.size W w') :
    Calls Tryz.prog 84 #[.slice (some ⟨g, 0, none⟩) n c, .func (.func 86) #[] #[.pointer (some ⟨B, 0, none⟩)]] w fun e w' =>
      ∃ k, e = .returned (.slice (some ⟨g, 0, none⟩) k c) ∧ w'.ownsRow base 79 4 (.slice (some ⟨g, 0, none⟩) k c) k (mv (l.filter fun x => !p x)) ∧ w.grownBy w' (some g) := by
  have hl := Lib.hid (own_reads ho).mail_len
  have hcap := (own_cap ho).1
  have HO := Lib.hid ho
  have HPP := Lib.hid HP
  clear ho HP
  go_enter Tryz.func84, Tryz.ntmps84
  go_wp2_with (fail)
  refine (indexF_c B p _ n c l w (own_reads HO.out) (by unfold maxLen; omega) (fun x hx W hB => HPP.out x hx W (only_of_below hB _))).mono ?_
  rintro e w1 ⟨rfl, hB1⟩
  have HO1 := Lib.hid (own_below HO.out hB1)
  have HG1 := Lib.hid (only_of_below hB1 (some g))
  clear hB1
  rcases hi : l.findIdx? p with _ | j0
  · have hidx : idxI p l = -1 := by unfold idxI; rw [hi]; rfl
    rw [hidx]
    have hall : Hid ((l.filter fun x => !p x) = l) := by
      show _ = _
      rw [List.filter_eq_self]
      intro x hx
      rw [(List.findIdx?_eq_none_iff.1 hi) x hx]
      rfl
    clear hi hidx
    go_wp2_with (fail)
    go_ret
    exact ⟨n, rfl, by rw [hall.out]; exact HO1.out, HG1.out⟩
  · have hidx : idxI p l = (j0 : Int) := by unfold idxI; rw [hi]; rfl
    rw [hidx]
    obtain ⟨hj0, hp0, hbef⟩ := List.findIdx?_eq_some_iff_getElem.1 hi
    have hj0n : j0 < n := by have := hl.out; omega
    have hstart : Hid (l.take j0 = (l.take (j0 + 1)).filter fun x => !p x) := by
      show _ = _
      rw [List.take_add_one, List.getElem?_eq_getElem hj0, Option.toList_some, List.filter_append]
      have e1 : (l.take j0).filter (fun x => !p x) = l.take j0 := by
        rw [List.filter_eq_self]
        intro x hx
        obtain ⟨i, hi2, rfl⟩ := List.mem_iff_getElem.1 hx
        rw [List.getElem_take]
        rw [List.length_take] at hi2
        have := hbef i (by omega)
        simpa using this
      rw [e1]
      simp [hp0]
    clear hi hidx hp0 hbef
    have g0 : ¬ ((j0 : Int) = -1) := by omega
    have g1 : ((j0 : Int) == -1) = false := by rw [beq_eq_false_iff_ne]; exact g0
    go_wp2_with (fail)
    go_loopw [5, 6] (fun s5 s6 wr => ∃ (k j : Nat) (d : List Msg), s5 = .int .i64 k ∧ s6 = .int .i64 ((j : Int) + 1) ∧ k ≤ j ∧ j + 1 ≤ n ∧ Hid (d.length = n) ∧ Hid (∀ m, j + 1 ≤ m → d[m]? = l[m]?) ∧ Hid (d.take k = (l.take (j + 1)).filter fun x => !p x) ∧
        wr.ownsRow base 79 4 (.slice (some ⟨g, 0, none⟩) n c) n (mv d) ∧ w.grownBy wr (some g)) (fun _ s6 _ => n - (intOf s6).toNat)
    case atStart => exact ⟨j0, j0, l, rfl, by go_num, Nat.le_refl _, by omega, hl.out, fun _ _ => rfl, hstart.out, HO1.out, HG1.out⟩
    case round =>
      clear HO1 HG1 HO hstart g0 g1
      obtain ⟨k, j, d, rfl, rfl, hk, hj, hdl, hdm, hkp, ho, hG⟩ := hrel
      by_cases hlt : j + 1 < n
      · obtain ⟨x, hx, d0, d1, d2, d3⟩ := own_mail_at ho (k := j + 1) hlt
        have hlx : Hid (l[j + 1]? = some x) := (hdm.out (j + 1) (Nat.le_refl _)).symm.trans hx.out
        have f1 : (0 : Int) ≤ (j : Int) + 1 := by omega
        have f2 : (j : Int) + 1 < (n : Int) := by omega
        have f3 : ((j : Int) + 1).toNat = j + 1 := by omega
        have HOx := Lib.hid (ho.alloc (.cells #[.int .i64 x.slot, .int .i64 x.dir, .int .i64 x.v, .int .i64 x.d] 79))
        have hbx : (wr.alloc (.cells #[.int .i64 x.slot, .int .i64 x.dir, .int .i64 x.v, .int .i64 x.d] 79)).heap[wr.heap.size]? = _ := wr.alloc_heap_new _
        have HGx := Lib.hid (only_alloc hG (.cells #[.int .i64 x.slot, .int .i64 x.dir, .int .i64 x.v, .int .i64 x.d] 79))
        have HBX := Lib.hid hbx
        have hgs := (own_lt ho _ rfl).2
        have HG0 := Lib.hid hG
        clear ho hG hbx hx
        go_wp2_with (fail)
        refine (HPP.out x (List.mem_of_getElem? hlx.out) _ HGx.out).mono ?_
        rintro e w3 ⟨rfl, hB3⟩
        have hbx3 : w3.heap[wr.heap.size]? = _ := (hB3.block wr.heap.size (by simp)).trans HBX.out
        have HO3 := Lib.hid (own_below HOx.out hB3)
        have HG3 := Lib.hid (only_trans_below HGx.out (hB3.mono HGx.out.size))
        clear hB3 d0 d1 d2 d3 HOx HGx HBX
        obtain ⟨e0, e1, e2, e3⟩ := mail_box hbx3
        by_cases hp : p x = true
        · rw [hp]
          have H : Hid (d.take k = (l.take (j + 1 + 1)).filter fun x => !p x) := by
            show _ = _
            rw [hkp.out, List.take_add_one (l := l) (i := j + 1), hlx.out, Option.toList_some, List.filter_append]
            simp [hp]
          clear hp
          go_wp2_with (fail)
          go_roundw
          case rel => exact ⟨k, j + 1, d, rfl, by go_num, by omega, by omega, hdl.out, fun m hm => hdm.out m (by omega), H.out, HO3.out, HG3.out⟩
          case measure => simp [intOf]; omega
        · have hp' : p x = false := by simpa using hp
          rw [hp']
          have H : Hid ((d.set k x).take (k + 1) = (l.take (j + 1 + 1)).filter fun x => !p x) := by
            show _ = _
            rw [List.take_add_one (l := l) (i := j + 1), hlx.out, Option.toList_some, List.filter_append, ← hkp.out, List.take_add_one, List.getElem?_set_self (by have := hdl.out; omega), List.take_set_of_le (Nat.le_refl _)]
            simp [hp']
          have HD : Hid (∀ m, j + 1 + 1 ≤ m → (d.set k x)[m]? = l[m]?) := fun m hm => by rw [List.getElem?_set_ne (by omega)]; exact hdm.out m (by omega)
          have HDL : Hid ((d.set k x).length = n) := by show _ = _; rw [List.length_set]; exact hdl.out
          obtain ⟨y, -, p0, p1, p2, p3⟩ := own_mail_at HO3.out (k := k) (by omega)
          have q0 := HO3.out.frozenAt (k * 4)
          have q1 := HO3.out.frozenAt (k * 4 + 1)
          have q2 := HO3.out.frozenAt (k * 4 + 2)
          have q3 := HO3.out.frozenAt (k * 4 + 3)
          have r1 : (k : Int) < (n : Int) := by omega
          have r2 : (0 : Int) ≤ (k : Int) := by omega
          clear hp hp'
          go_wp2_with (fail)
          go_roundw
          case rel => exact ⟨k + 1, j + 1, d.set k x, by go_num, by go_num, by omega, by omega, HDL.out, HD.out, H.out, own_setM HO3.out x, only_setCellS (only_setCellS (only_setCellS (only_setCellS HG3.out _ _) _ _) _ _) _ _⟩
          case measure => simp [intOf]; omega
      · obtain rfl : n = j + 1 := by omega
        have hkn : k < j + 1 := by omega
        obtain ⟨w6, hrun, ho6, hg6⟩ := run_clear_own (P := Tryz.prog) (w := wr) (t := 57) Tryz.underlying57 zeroMail rfl (by intro u hu; simp [Value.cells] at hu; rcases hu with rfl | rfl | rfl | rfl <;> rfl) ho (k := k) (by omega) (dp := some ⟨g, k * 4, none⟩) (m := j + 1 - k) (d := c - k) rfl (fun _ => rfl)
        have HO6 : Hid (w6.ownsRow base 79 4 (.slice (some ⟨g, 0, none⟩) k c) k (mv (l.filter fun x => !p x))) := by
          show World.ownsRow _ _ _ _ _ _ _
          rw [show (l.filter fun x => !p x) = d.take k from by rw [hkp.out, List.take_of_length_le (by rw [hl.out]; exact Nat.le_refl _)], ← mv_take4]
          exact ho6
        have HG6 := Lib.hid (only_trans_rowG hG hg6)
        have r1 : (k : Int) ≤ ((j + 1 : Nat) : Int) := by omega
        have r2 : (0 : Int) ≤ (k : Int) := by omega
        clear ho hG ho6 hg6
        go_wp2_with (fail)
        go_ret
        exact ⟨k, rfl, HO6.out, HG6.out⟩

set_option maxRecDepth 100000 in
theorem delF_nil (w : World) :
    Calls Tryz.prog 84 #[.slice none 0 0, .func (.func 86) #[] #[.pointer (some ⟨B, 0, none⟩)]] w fun e w' => e = .returned (.slice none 0 0) ∧ Below w.heap.size w w' := by
  go_enter Tryz.func84, Tryz.ntmps84
  go_wp2_with (fail)
  refine (indexF_c B (fun _ => false) none 0 0 [] w Reads.none_ (by unfold maxLen; omega) (fun x hx => by simp at hx)).mono ?_
  rintro e w1 ⟨rfl, hB1⟩
  have hi : idxI (fun _ => false) [] = -1 := rfl
  rw [hi]
  have HB := Lib.hid hB1
  clear hB1 hi
  go_wp2_with (fail)
  go_ret
  exact ⟨rfl, HB.out⟩
end
end Go.Proofs.YtpdnipabaimofaaGreat

namespace Go.Proofs.YtpdnipabaimofaaGreat
open Go.RowKit

theorem sub_same {α : Type} [DecidableEq α] : ∀ (P Q : List α), P.Nodup → (∀ x ∈ P, x ∈ Q) → Q.length ≤ P.length → ∀ x ∈ Q, x ∈ P
  | [], Q, _, _, hl, x, hx => by
    cases Q with
    | nil => exact hx
    | cons a Q => simp at hl
  | a :: P, Q, hn, hs, hl, x, hx => by
    rw [List.nodup_cons] at hn
    have ha : a ∈ Q := hs a (by simp)
    have hle := List.length_erase_of_mem ha
    have hpos : 0 < Q.length := List.length_pos_of_mem ha
    by_cases e : x = a
    · rw [e]; simp
    · have h1 : x ∈ Q.erase a := (List.mem_erase_of_ne e).2 hx
      refine List.mem_cons_of_mem _ (sub_same P (Q.erase a) hn.2 (fun y hy => ?_) (by rw [List.length_cons] at hl; omega) x h1)
      have hne : y ≠ a := fun e => hn.1 (e ▸ hy)
      exact (List.mem_erase_of_ne hne).2 (hs y (by simp [hy]))
theorem flatR_len {off to : List Int} (h : shapeR off to) : ∀ k, k ≤ off.length - 1 → ((flatR off to k).length : Int) = nth off k
  | 0, _ => by simp [flatR, h.2.2.1]
  | k + 1, hk => by
    rw [flatR_succ, List.length_append, List.length_map]
    have ih := flatR_len h k (by omega)
    have hr := row_len h (v := k) (by omega)
    omega
theorem flatR_nodup {off to : List Int} {n : Nat} : ∀ k, (∀ v, v < k → goodRowI n (rowR off to v)) → (flatR off to k).Nodup
  | 0, _ => by simp [flatR]
  | k + 1, h => by
    rw [flatR_succ, List.nodup_append]
    refine ⟨flatR_nodup k (fun v hv => h v (by omega)), ?_, ?_⟩
    · have h1 := incr_lt (h k (by omega)).2
      refine (List.pairwise_map.2 (h1.imp fun {a b} hab e => ?_))
      injection e with _ e
      omega
    · intro p hp q hq e
      obtain ⟨x, hx, rfl⟩ := List.mem_map.1 hq
      have h1 := (mem_flatR.1 hp).1
      rw [e] at h1
      exact Nat.lt_irrefl _ h1
/-- The one half's pairs are the other one's, turned. -/
theorem turned_rows {r : Rws} (hc : chkR r) {v w : Nat} (hv : v < r.n) (hw : w < r.n) : (w : Int) ∈ rowR r.off r.to v ↔ (v : Int) ∈ rowR r.roff r.rev w := by
  obtain ⟨e1, e2, h1, h2, h3⟩ := hc
  have en : r.n = r.roff.length - 1 := by unfold Rws.n; omega
  constructor
  · intro h
    have := h3 v (List.mem_range.2 hv) _ h
    simpa using this
  · intro h
    -- both lists of pairs, the second one turned
    have hP : (flatR r.off r.to r.n).Nodup := flatR_nodup r.n fun u hu => h1.2 u (List.mem_range.2 hu)
    have hlP : ((flatR r.off r.to r.n).length : Int) = r.to.length := by
      rw [flatR_len h1.1 r.n (Nat.le_refl _)]; exact h1.1.2.2.2.1
    have hlQ : ((flatR r.roff r.rev r.n).length : Int) = r.rev.length := by
      rw [en, flatR_len h2.1 _ (Nat.le_refl _)]; exact h2.1.2.2.2.1
    have hs : ∀ x ∈ (flatR r.off r.to r.n).map (fun p => (p.2.toNat, (p.1 : Int))), x ∈ flatR r.roff r.rev r.n := fun x hx => by
      obtain ⟨p, hp, rfl⟩ := List.mem_map.1 hx
      obtain ⟨p1, p2⟩ := mem_flatR.1 hp
      have hb := (h1.2 p.1 (List.mem_range.2 p1)).1 _ p2
      have := h3 p.1 (List.mem_range.2 p1) _ p2
      refine mem_flatR.2 ⟨?_, this⟩
      show p.2.toNat < r.n
      unfold Rws.n
      omega
    have hn : ((flatR r.off r.to r.n).map (fun p => (p.2.toNat, (p.1 : Int)))).Nodup := by
      refine List.pairwise_map.2 ?_
      refine hP.imp_of_mem fun {a b} ha hb hab e => ?_
      obtain ⟨a1, a2⟩ := mem_flatR.1 ha
      obtain ⟨b1, b2⟩ := mem_flatR.1 hb
      have ha' := (h1.2 a.1 (List.mem_range.2 a1)).1 _ a2
      have hb' := (h1.2 b.1 (List.mem_range.2 b1)).1 _ b2
      injection e with x1 x2
      refine hab (Prod.ext ?_ ?_) <;> omega
    have hin := sub_same _ _ hn hs (by rw [List.length_map]; omega) (w, (v : Int)) (mem_flatR.2 ⟨hw, h⟩)
    obtain ⟨p, hp, e⟩ := List.mem_map.1 hin
    obtain ⟨p1, p2⟩ := mem_flatR.1 hp
    have hb := (h1.2 p.1 (List.mem_range.2 p1)).1 _ p2
    injection e with x1 x2
    have y1 : p.1 = v := by omega
    have y2 : p.2 = (w : Int) := by omega
    rw [← y1, ← y2]
    exact p2
end Go.Proofs.YtpdnipabaimofaaGreat

namespace Go.Proofs.YtpdnipabaimofaaGreat

/-- No state has the message's key. -/
def fresh (S : List Msg) (m : Msg) : Prop := ∀ y ∈ S, ¬ kEq y m
instance (S : List Msg) (m : Msg) : Decidable (fresh S m) := by unfold fresh; infer_instance
/-- The fresh messages, combined. -/
def freshL (S M : List Msg) : List Msg := (combine M).filter fun m => decide (fresh S m)
theorem mem_freshL {S M : List Msg} {m : Msg} : m ∈ freshL S M ↔ m ∈ combine M ∧ fresh S m := by simp [freshL]
theorem freshL_rise (S M : List Msg) : (freshL S M).Pairwise kless := (combine_comb M).1.sublist List.filter_sublist
theorem freshL_mem {S M : List Msg} {m : Msg} (h : m ∈ freshL S M) : m ∈ M := mem_combine (mem_freshL.1 h).1
/-- The order of messages plays no part. -/
theorem freshL_same {S M M' : List Msg} (h : ∀ m, m ∈ M ↔ m ∈ M') : freshL S M = freshL S M' := by unfold freshL; rw [combine_same h]
theorem freshL_states {S S' M : List Msg} (h : ∀ m, m ∈ S ↔ m ∈ S') : freshL S M = freshL S' M := by
  unfold freshL
  apply List.filter_congr
  intro m _
  rw [decide_eq_decide]
  exact ⟨fun k y hy => k y ((h y).2 hy), fun k y hy => k y ((h y).1 hy)⟩
theorem combine_rise {l : List Msg} (h : l.Pairwise kless) : combine l = l := (comb_eq ⟨h, fun m => ⟨fun hm => ⟨hm, fun m' hm' hk => by
  have := rise_eq h hm' hm hk
  rw [this]; exact Int.le_refl _⟩, fun hm => hm.1⟩⟩).symm
where
  rise_eq : ∀ {o : List Msg}, o.Pairwise kless → ∀ {a b : Msg}, a ∈ o → b ∈ o → kEq a b → a = b
    | [], _, _, _, ha, _, _ => by simp at ha
    | x :: o, h, a, b, ha, hb, hk => by
      rw [List.pairwise_cons] at h
      rcases List.mem_cons.1 ha with rfl | ha
      · rcases List.mem_cons.1 hb with rfl | hb
        · rfl
        · exact absurd hk (kless_ne (h.1 b hb))
      · rcases List.mem_cons.1 hb with rfl | hb
        · exact absurd (kEq_symm hk) (kless_ne (h.1 _ (by assumption)))
        · exact rise_eq h.2 ha hb hk
theorem freshL_twice (S M : List Msg) : freshL S (freshL S M) = freshL S M := by
  unfold freshL
  rw [combine_rise ((combine_comb M).1.sublist List.filter_sublist), List.filter_filter]
  simp

/-- The states behind a step: those that were, and the fresh ones, by their keys. -/
def nowL (S f : List Msg) : List Msg := f.foldl putM S
theorem putM_fresh {o : List Msg} {x : Msg} (h : o.Pairwise kless) (hx : fresh o x) (m : Msg) : m ∈ putM o x ↔ m ∈ o ∨ m = x := by
  constructor
  · intro hm
    induction o with
    | nil => simp [putM] at hm; exact .inr hm
    | cons y ys ih =>
      rw [List.pairwise_cons] at h
      simp only [putM] at hm
      split at hm
      · rcases List.mem_cons.1 hm with rfl | hm
        · exact .inl (by simp)
        · rcases ih h.2 (fun z hz => hx z (by simp [hz])) hm with k | k
          · exact .inl (by simp [k])
          · exact .inr k
      · split at hm
        · rename_i hk
          exact absurd hk (hx y (by simp))
        · rcases List.mem_cons.1 hm with rfl | hm
          · exact .inr rfl
          · exact .inl hm
  · intro hm
    induction o with
    | nil =>
      rcases hm with hm | hm
      · simp at hm
      · simp [putM, hm]
    | cons y ys ih =>
      rw [List.pairwise_cons] at h
      simp only [putM]
      split
      · rcases hm with hm | hm
        · rcases List.mem_cons.1 hm with rfl | hm
          · simp
          · exact List.mem_cons_of_mem _ (ih h.2 (fun z hz => hx z (by simp [hz])) (.inl hm))
        · exact List.mem_cons_of_mem _ (ih h.2 (fun z hz => hx z (by simp [hz])) (.inr hm))
      · split
        · rename_i hk
          exact absurd hk (hx y (by simp))
        · rcases hm with hm | rfl
          · exact List.mem_cons_of_mem _ hm
          · simp
theorem putM_len_fresh {o : List Msg} {x : Msg} (hx : fresh o x) : (putM o x).length = o.length + 1 := by
  induction o with
  | nil => simp [putM]
  | cons y ys ih =>
    simp only [putM]
    split
    · simp [ih (fun z hz => hx z (by simp [hz]))]
    · split
      · rename_i hk
        exact absurd hk (hx y (by simp))
      · simp
/-- What 'nowL' makes of states and of fresh messages that rise. -/
theorem nowL_is : ∀ {f S : List Msg}, S.Pairwise kless → f.Pairwise kless → (∀ m ∈ f, fresh S m) →
    (nowL S f).Pairwise kless ∧ (∀ m, m ∈ nowL S f ↔ m ∈ S ∨ m ∈ f) ∧ (nowL S f).length = S.length + f.length
  | [], S, hS, _, _ => ⟨hS, fun m => by simp [nowL], rfl⟩
  | x :: f, S, hS, hf, hx => by
    rw [List.pairwise_cons] at hf
    have h1 := putM_rise (x := x) hS
    have h2 := putM_fresh hS (hx x (by simp))
    obtain ⟨k1, k2, k3⟩ := nowL_is (f := f) (S := putM S x) h1 hf.2 (fun m hm y hy => by
      rcases (h2 y).1 hy with hy | rfl
      · exact hx m (by simp [hm]) y hy
      · exact kless_ne (hf.1 m hm))
    refine ⟨k1, fun m => ?_, ?_⟩
    · rw [show nowL S (x :: f) = nowL (putM S x) f from rfl, k2, h2, List.mem_cons]
      constructor
      · rintro ((h | h) | h)
        · exact .inl h
        · exact .inr (.inl h)
        · exact .inr (.inr h)
      · rintro (h | h | h)
        · exact .inl (.inl h)
        · exact .inl (.inr h)
        · exact .inr h
    · rw [show nowL S (x :: f) = nowL (putM S x) f from rfl, k3, putM_len_fresh (hx x (by simp)), List.length_cons]
      omega
theorem freshL_fresh (S M : List Msg) : ∀ m ∈ freshL S M, fresh S m := fun _ hm => (mem_freshL.1 hm).2
/-- A step's states. -/
def stepS (S M : List Msg) : List Msg := nowL S (freshL S M)
theorem stepS_is {S : List Msg} (M : List Msg) (h : S.Pairwise kless) : (stepS S M).Pairwise kless ∧ (∀ m, m ∈ stepS S M ↔ m ∈ S ∨ m ∈ freshL S M) ∧ (stepS S M).length = S.length + (freshL S M).length :=
  nowL_is h (freshL_rise S M) (freshL_fresh S M)
/-- Whatever rises and has these members is it. -/
theorem stepS_one {S M o : List Msg} (h : S.Pairwise kless) (ho : o.Pairwise kless) (hm : ∀ m, m ∈ o ↔ m ∈ S ∨ m ∈ freshL S M) : o = stepS S M :=
  rise_ext ho (stepS_is M h).1 fun m => by rw [hm, (stepS_is M h).2.1]
/-- A step's messages: what each fresh message sends, fresh again. -/
def stepM (nx : Msg → List Msg) (S M : List Msg) : List Msg := freshL (stepS S M) ((freshL S M).flatMap nx)
theorem stepM_same {nx : Msg → List Msg} {S M f : List Msg} (h : ∀ m, m ∈ f ↔ m ∈ freshL S M) : freshL (stepS S M) (f.flatMap nx) = stepM nx S M :=
  freshL_same fun m => by
    rw [List.mem_flatMap, List.mem_flatMap]
    exact ⟨fun ⟨x, hx, hm⟩ => ⟨x, (h x).1 hx, hm⟩, fun ⟨x, hx, hm⟩ => ⟨x, (h x).2 hx, hm⟩⟩
/-- A sort of states and fresh ones, in whatever order they came. -/
theorem sorted_step {S M f d : List Msg} (hS : S.Pairwise kless) (hf : f.Perm (freshL S M)) (hp : d.Perm (S ++ f)) (hs : d.Pairwise (fun a b => ¬ kless b a)) : d = stepS S M := by
  have hm : ∀ m, m ∈ d ↔ m ∈ S ∨ m ∈ freshL S M := fun m => by rw [hp.mem_iff, List.mem_append, hf.mem_iff]
  refine stepS_one hS ?_ hm
  -- no two have the same key
  have hd : (S ++ freshL S M).Pairwise fun a b => ¬ kEq a b := by
    rw [List.pairwise_append]
    exact ⟨hS.imp fun h => kless_ne h, (freshL_rise S M).imp fun h => kless_ne h, fun a ha b hb => freshL_fresh S M b hb a ha⟩
  have hd2 : d.Pairwise fun a b => ¬ kEq a b :=
    ((hp.trans (List.Perm.append_left S hf)).pairwise_iff (fun h k => h (kEq_symm k))).2 hd
  exact (hs.and hd2).imp fun {a b} h => (kless_tri a b).elim id fun h2 => h2.elim (fun k => absurd k h.2) (fun k => absurd k h.1)
end Go.Proofs.YtpdnipabaimofaaGreat

namespace Go.Proofs.YtpdnipabaimofaaGreat
open Go.RowKit Go.WideMaps
open Go.Maps (Keyed IsMap)

theorem putM_lenR : ∀ (o : List Msg) (x : Msg), (putM o x).length ≤ o.length + 1
  | [], x => by simp [putM]
  | y :: ys, x => by
    have ih := putM_lenR ys x
    simp only [putM]
    split
    · simp only [List.length_cons]; omega
    · split
      · simp
      · simp only [List.length_cons]; omega
theorem foldM_lenR : ∀ (l o : List Msg), (l.foldl putM o).length ≤ o.length + l.length
  | [], o => by simp
  | x :: l, o => by
    have h1 := foldM_lenR l (putM o x)
    have h2 := putM_lenR o x
    rw [List.foldl_cons, List.length_cons]
    omega
theorem combine_lenR (l : List Msg) : (combine l).length ≤ l.length := by
  have := foldM_lenR l []
  simpa [combine] using this

/-- Has a state a message's key? -/
def hasK (S : List Msg) (m : Msg) : Bool := S.any fun y => decide (kEq y m)
theorem hasK_iff {S : List Msg} {m : Msg} : hasK S m = false ↔ fresh S m := by
  unfold hasK fresh
  rw [List.any_eq_false]
  simp
theorem freshL_filter (S M : List Msg) : (combine M).filter (fun m => !hasK S m) = freshL S M := by
  unfold freshL
  apply List.filter_congr
  intro m _
  by_cases h : fresh S m
  · rw [hasK_iff.2 h, decide_eq_true h]; rfl
  · have : hasK S m = true := by
      cases hh : hasK S m
      · exact absurd (hasK_iff.1 hh) h
      · rfl
    rw [this, decide_eq_false h]; rfl

/-- A truth value as a map's element. -/
def bR : Value → Option (DataW Bool × List MemPlace)
  | .bool x => some (.held x, [])
  | _ => none
theorem bR_inv {v : Value} {x : Bool} {ps : List MemPlace} (h : bR v = some (.held x, ps)) : v = .bool x := by
  unfold bR at h
  split at h
  · injection h with h
    injection h with h _
    injection h with h
    rw [h]
  · cases h
theorem zeroBool (w : World) : (zeroValue 4).run Tryz.prog w = .ok (.bool false) w := by kernel_rfl

/-- The map tells which keys states have. -/
def SetHas (D : DataW Bool) (S : List Msg) : Prop :=
  IsMap D ∧ ∀ (m : Msg) (l : Lit), keyOf Tryz.prog 77 (.agg (kc m)) = some l → D.atKey l (.held false) = .held (hasK S m)
set_option maxRecDepth 100000 in
theorem SetHas.nil : SetHas (.map []) [] := ⟨Maps.isMap_empty, fun m l _ => by
  rw [Maps.atKey_of_not_has (by simp [Maps.has])]
  rfl⟩
set_option maxRecDepth 100000 in
theorem SetHas.put {D : DataW Bool} {S : List Msg} {x : Msg} {l : Lit} (h : SetHas D S) (hl : keyOf Tryz.prog 77 (.agg (kc x)) = some l) : SetHas (D.put l (.held true)) (S ++ [x]) := by
  refine ⟨h.1.put _ _, fun m lm hm => ?_⟩
  by_cases hk : kEq x m
  · obtain rfl : l = lm := (key_same hl hm).2 hk
    rw [Maps.atKey_put_same h.1 (keyed.key hl)]
    congr 1
    simp [hasK, hk]
  · have hne : lm ≠ l := fun e => hk ((key_same hl hm).1 e.symm)
    rw [Maps.atKey_put_other hne, h.2 m lm hm]
    congr 1
    simp [hasK, hk]

theorem wpList_lookup_set {w : World} {ops : Array Oper} {rest : List Oper} {o : Oper} {a : Act} {Q : Exit → Act → World → Prop} (hg : o.guard = none) (m x : Operand)
    (hop : o.op = Op.lookup 153 m x false) (b n : Nat) (D : DataW Bool) (hm : a.eval m = .map (some b)) (hown : w.ownsMap Tryz.prog 77 bR b n D)
    (key : Value) (kl : Lit) (hx : a.eval x = key) (hkey : keyOf Tryz.prog 77 key = some kl) (bb : Bool) (hb : D.atKey kl (.held false) = .held bb)
    (hK : wpList Tryz.prog ops Q rest (a.put o.dst (.bool bb)) w) :
    wpList Tryz.prog ops Q (o :: rest) a w := by
  refine wpList_plain hg fun K' hK' => ?_
  obtain ⟨v, ps, hrun, hv⟩ := hown.lookup keyed Tryz.underlying153 (zeroBool w) (zd := .held false) (zp := []) rfl hkey
  rw [hb] at hv
  have := bR_inv hv
  subst this
  unfold Oper.wp
  simp [execOp, hop, hm, hx, hrun, Result.andThen]
  exact hK' _ _ hK

set_option maxRecDepth 100000 in
set_option maxHeartbeats 1000000 in
theorem fresh1_c (x : Msg) (B Bm n : Nat) (D : DataW Bool) (S : List Msg) (W : World) (hx : x.fits) (hc : W.cell? ⟨B, 0, none⟩ = some (.map (some Bm))) (hown : W.ownsMap Tryz.prog 77 bR Bm n D) (hD : SetHas D S) :
    Calls Tryz.prog 86 #[.agg #[.int .i64 x.slot, .int .i64 x.dir, .int .i64 x.v, .int .i64 x.d], .pointer (some ⟨B, 0, none⟩)] W fun e w' => e = .returned (.bool (hasK S x)) ∧ Below W.heap.size W w' := by
  obtain ⟨kl, hkey⟩ := key_reads x hx
  have HK := Lib.hid hkey
  have HD := Lib.hid (hD.2 x kl hkey)
  have HO := Lib.hid (hown.alloc (.cells #[.int .i64 x.slot, .int .i64 x.dir, .int .i64 x.v, .int .i64 x.d] 79))
  have hc' := ((below_one W (.cells #[.int .i64 x.slot, .int .i64 x.dir, .int .i64 x.v, .int .i64 x.d] 79)).cell (p := ⟨B, 0, none⟩) (block_lt_of_cell hc)).trans hc
  clear hkey hD hown hc
  go_enter Tryz.func86, Tryz.ntmps86
  go_wp2_with (at_lookup; refine wpList_lookup_set rfl _ _ rfl Bm n D rfl HO.out _ kl rfl HK.out _ HD.out ?_)
  go_ret
  exact ⟨rfl, below_one _ _⟩

set_option maxRecDepth 100000 in
set_option maxHeartbeats 4000000 in
theorem fresh_c (A1 A2 : Option Addr) (n1 c1 n2 c2 : Nat) (S M : List Msg) (w : World) (h1 : Reads w w.heap.size 4 A1 n1 (mv S)) (h2 : Reads w w.heap.size 4 A2 n2 (mv M)) (hn1 : n1 ≤ 1000000) (hn2 : n2 ≤ 1000000) (hS : ∀ m ∈ S, m.fits) (hM : ∀ m ∈ M, m.fits) :
    Calls Tryz.prog 50 #[.slice A1 n1 c1, .slice A2 n2 c2] w fun e w' => ∃ A' k c', e = .returned (.slice A' k c') ∧ k = (freshL S M).length ∧ w'.ownsRow w.heap.size 79 4 (.slice A' k c') k (mv (freshL S M)) ∧ Below w.heap.size w w' := by
  have hl1 := Lib.hid h1.mail_len
  have HR1 := Lib.hid h1
  have HR2 := Lib.hid h2
  have HS := Lib.hid hS
  have HM := Lib.hid hM
  clear h1 h2 hS hM
  have hmm := @run_makeMap Tryz.prog
  go_enter Tryz.func50, Tryz.ntmps50
  go_wp2_with (fail)
  clear hmm
  go_loopw [11] (fun i wr => ∃ (k : Nat) (D : DataW Bool), k ≤ n1 ∧ i = .int .i64 k ∧ wr.ownsMap Tryz.prog 77 bR w.heap.size k D ∧ Hid (SetHas D (S.take k)) ∧ wr.heap[w.heap.size + 1]? = some (.cells #[.map (some w.heap.size)] 153 (0, 0)) ∧ Below w.heap.size w wr) (fun i _ => n1 - (intOf i).toNat)
  case atStart =>
    refine ⟨0, .map [], Nat.zero_le _, rfl, (World.ownsMap_made _ _ _ _).alloc _, SetHas.nil, ?_, below_two _ _ _⟩
    have := (w.alloc (.map #[] 0)).alloc_heap_new (.cells #[.map (some w.heap.size)] 153)
    rw [World.size_alloc] at this
    exact this
  case round =>
    obtain ⟨k, D, hk, rfl, hown, hD, hbx, hB⟩ := hrel
    have hcx : wr.cell? ⟨w.heap.size + 1, 0, none⟩ = some (.map (some w.heap.size)) := by rw [Lib.cell_of_heap hbx]; rfl
    have hlt1 : w.heap.size + 1 < wr.heap.size := (Array.getElem?_eq_some_iff.1 hbx).1
    by_cases hlt : k < n1
    · obtain ⟨b, o, x, rfl, hx, c0, c1, c2, c3⟩ := (HR1.out.below hB).mail_at hlt
      have hxf : x.fits := HS.out x (List.mem_of_getElem? hx.out)
      obtain ⟨kl, hkey⟩ := key_reads x hxf
      have hput : Hid (SetHas (D.put kl (.held true)) (S.take (k + 1))) := by
        show SetHas _ _
        rw [List.take_add_one, hx.out]
        exact hD.out.put hkey
      have HK := Lib.hid hkey
      have HB := Lib.hid hB
      have HBX := Lib.hid hbx
      have HOW := Lib.hid (hown.alloc (.cells #[.int .i64 x.slot, .int .i64 x.dir, .int .i64 x.v, .int .i64 x.d] 121))
      clear hkey hxf hB hbx hown hD hx
      have f1 : (0 : Int) ≤ (k : Int) := by omega
      have f2 : (k : Int) < (n1 : Int) := by omega
      have hcx' : (wr.alloc (.cells #[.int .i64 x.slot, .int .i64 x.dir, .int .i64 x.v, .int .i64 x.d] 121)).cell? ⟨w.heap.size + 1, 0, none⟩ = some (.map (some w.heap.size)) := ((below_one wr _).cell (p := ⟨w.heap.size + 1, 0, none⟩) hlt1).trans hcx
      go_wp2_with (at_mapUpdate; refine wpList_mapUpdate_own _ rfl _ _ _ 153 rfl 77 4 keyed Tryz.underlying153 bR w.heap.size k D rfl HOW.out (by unfold maxLen; omega) _ _ kl rfl rfl HK.out (.held true) [] rfl ?_; intro w1 hown1 hgrow1)
      go_roundw
      case rel =>
        refine ⟨k + 1, _, by omega, by go_num, hown1, hput, ?_, (HB.out.alloc HB.out.size _).grown hgrow1 (by simp; have := HB.out.size; omega) (fun j hj => by cases hj; exact Nat.le_refl _)⟩
        rw [hgrow1.block (w.heap.size + 1) (by simp; omega) (by simp)]
        exact (Below.heap_alloc _ _ _ hlt1).trans HBX.out
      case measure => simp [intOf]; omega
    · obtain rfl : k = n1 := by omega
      have hDS : Hid (SetHas D S) := by have h := hD.out; rw [List.take_of_length_le (by rw [hl1.out]; exact Nat.le_refl _)] at h; exact h
      have HB := Lib.hid hB
      have HBX := Lib.hid hbx
      have HOW := Lib.hid hown
      clear hB hbx hown hD
      go_wp2_with (fail)
      refine (combine_c A2 n2 c2 M _ ((HR2.out.below HB.out).more HB.out.size) hn2 HM.out).mono ?_
      rintro e w3 ⟨A3, n3, c3, rfl, hl3, ho3, hB3⟩
      have HO3 := Lib.hid ho3
      have HL3 := Lib.hid hl3
      have HB3 := Lib.hid (HB.out.trans (hB3.mono HB.out.size))
      have HB3' := Lib.hid hB3
      clear ho3 hl3 hB3 hcx
      have hn3 : n3 ≤ 1000000 := by
        rw [← HL3.out]
        have h1 := combine_lenR M
        have h2 := HR2.out.mail_len
        omega
      have hcx3 : w3.cell? ⟨w.heap.size + 1, 0, none⟩ = some (.map (some w.heap.size)) := by
        rw [(HB3'.out.cell (p := ⟨w.heap.size + 1, 0, none⟩) hlt1), Lib.cell_of_heap HBX.out]; rfl
      have hbx3 : Hid (w3.heap[w.heap.size + 1]? = some (.cells #[.map (some w.heap.size)] 153 (0, 0))) := (HB3'.out.block _ hlt1).trans HBX.out
      have HOW3 := Lib.hid (HOW.out.kept (only_of_below HB3'.out none) (by simp))
      rcases HO3.out.2 with ⟨hv, hz⟩ | ⟨g, cap, cur, hv, hgb, -⟩
      · cases hv
        have hemp : Hid (freshL S M = []) := by
          show _ = _
          rw [← freshL_filter, List.eq_nil_of_length_eq_zero HL3.out]
          rfl
        go_wp2_with (fail)
        refine (delF_nil (w.heap.size + 1) w3).mono ?_
        rintro e w5 ⟨rfl, hB5⟩
        have HB5 := Lib.hid (HB3.out.trans (hB5.mono HB3.out.size))
        clear hB5 hcx3
        go_wp2_with (fail)
        go_ret
        exact ⟨none, 0, 0, rfl, by rw [hemp.out]; rfl, by rw [hemp.out]; exact own_nil, HB5.out⟩
      · cases hv
        have hgs : w.heap.size + 1 < g := by omega
        have HP : ∀ x ∈ combine M, ∀ W : World, w3.grownBy W (some g) → Calls Tryz.prog 86 #[.agg #[.int .i64 x.slot, .int .i64 x.dir, .int .i64 x.v, .int .i64 x.d], .pointer (some ⟨w.heap.size + 1, 0, none⟩)] W fun e w' => e = .returned (.bool (hasK S x)) ∧ Below W.heap.size W w' := by
          intro x hx W hW
          refine fresh1_c x (w.heap.size + 1) w.heap.size k D S W (HM.out x (mem_combine hx)) ?_ (HOW3.out.kept hW (by simp; omega)) hDS.out
          rw [only_cell hW (by simp; exact (Array.getElem?_eq_some_iff.1 hbx3.out).1) (by simp; omega)]
          exact hcx3
        have HPP := Lib.hid HP
        clear HP
        go_wp2_with (fail)
        refine (delF_c (w.heap.size + 1) (hasK S) g n3 c3 wr.heap.size (combine M) w3 HO3.out hn3 HPP.out).mono ?_
        rintro e w5 ⟨k5, rfl, ho5, hG5⟩
        rw [freshL_filter] at ho5
        have HO5 := Lib.hid (own_more (base := w.heap.size) ho5 HB.out.size)
        have HB5 := Lib.hid (HB3.out.grown hG5 HB3.out.size (fun q hq => by cases hq; omega))
        have HK5 : Hid (k5 = (freshL S M).length) := (own_reads ho5).mail_len.symm
        clear ho5 hG5 hcx3
        go_wp2_with (fail)
        go_ret
        exact ⟨_, k5, c3, rfl, HK5.out, HO5.out, HB5.out⟩
end Go.Proofs.YtpdnipabaimofaaGreat

namespace Go.Proofs.YtpdnipabaimofaaGreat
open Go.RowKit Go.Sort Go.Lib

/-- States are right, of so many places. -/
def rightP (l : List Msg) (n : Int) : Prop := (∀ x ∈ l, mayM x ∧ x.v < n) ∧ l.Pairwise kless
instance (l : List Msg) (n : Int) : Decidable (rightP l n) := by unfold rightP; infer_instance
theorem rise_snocR {o : List Msg} {x : Msg} (h : o.Pairwise kless) (hl : ∀ y, o.getLast? = some y → kless y x) : (o ++ [x]).Pairwise kless := by
  rw [List.pairwise_append]
  refine ⟨h, by simp, fun a ha b hb => ?_⟩
  rw [List.mem_singleton.1 hb]
  rcases List.eq_nil_or_concat o with h0 | ⟨o', y, h0⟩
  · rw [h0] at ha; simp at ha
  · rw [List.concat_eq_append] at h0
    subst h0
    have hy := hl y (by simp)
    rcases List.mem_append.1 ha with ha | ha
    · rw [List.pairwise_append] at h
      exact kless_trans (h.2.2 a ha y (by simp)) hy
    · rw [List.mem_singleton.1 ha]; exact hy
theorem cmp_neg (x y : Msg) : cmpM x y < 0 ↔ kless x y := by
  have h := lt_cmpM x y
  unfold ltOf at h
  rw [decide_eq_decide] at h
  exact h
theorem below_grownQ (W : World) (q : Nat) (os : Array Obj) : Below W.heap.size W (grow (W.drewN q) os) := below_regrown W (W.drawn + q) os
theorem rightP_take {l : List Msg} {n : Int} (j : Nat) (h : rightP l n) : rightP (l.take j) n := ⟨fun x hx => h.1 x (List.mem_of_mem_take hx), h.2.sublist (List.take_sublist _ _)⟩

set_option maxRecDepth 100000 in
set_option maxHeartbeats 4000000 in
theorem right_c (A : Option Addr) (n c : Nat) (l : List Msg) (m : Int) (w : World) (hr : Reads w w.heap.size 4 A n (mv l)) (hn : n ≤ 1000000) :
    Calls Tryz.prog 51 #[.slice A n c, .int .i64 m] w fun e w' => e = .returned (.bool (decide (rightP l m))) ∧ Below w.heap.size w w' := by
  have hl := Lib.hid hr.mail_len
  have HR := Lib.hid hr
  clear hr
  go_enter Tryz.func51, Tryz.ntmps51
  go_wp2_with (fail)
  go_loopw [9] (fun i wr => ∃ j : Nat, j ≤ n ∧ i = .int .i64 j ∧ Hid (rightP (l.take j) m) ∧ Below w.heap.size w wr) (fun i _ => n - (intOf i).toNat)
  case atStart => exact ⟨0, Nat.zero_le _, rfl, ⟨fun x hx => by simp at hx, by simp⟩, Below.refl _ _⟩
  case round =>
    obtain ⟨j, hj, rfl, hT, hB⟩ := hrel
    by_cases hlt : j < n
    · obtain ⟨b, o, x, rfl, hx, d0, d1, d2, d3⟩ := (HR.out.below hB).mail_at hlt
      have HX := Lib.hid hx.out
      have hbx : (wr.alloc (.cells #[.int .i64 x.slot, .int .i64 x.dir, .int .i64 x.v, .int .i64 x.d] 121)).heap[wr.heap.size]? = _ := wr.alloc_heap_new _
      have hBx : Below w.heap.size w (wr.alloc (.cells #[.int .i64 x.slot, .int .i64 x.dir, .int .i64 x.v, .int .i64 x.d] 121)) := hB.trans ((below_one _ _).mono hB.size)
      have hbad : Hid (¬ (mayM x ∧ x.v < m) → ¬ rightP l m) := fun hno h => hno (h.1 x (List.mem_of_getElem? HX.out))
      have hnext : Hid ((mayM x ∧ x.v < m) → (∀ y, (l.take j).getLast? = some y → kless y x) → rightP (l.take (j + 1)) m) := fun h1 h2 => by
        rw [List.take_add_one, HX.out, Option.toList_some]
        refine ⟨fun y hy => ?_, rise_snocR hT.out.2 h2⟩
        rcases List.mem_append.1 hy with hy | hy
        · exact hT.out.1 y hy
        · rw [List.mem_singleton.1 hy]; exact h1
      have HB0 := Lib.hid hB
      have HBX := Lib.hid hBx
      clear hx hB hBx
      have f1 : (0 : Int) ≤ (j : Int) := by omega
      have f2 : (j : Int) < (n : Int) := by omega
      go_wp2_with (fail)
      clear d0 d1 d2 d3
      obtain ⟨wb, hwb⟩ : ∃ wb, wb = wr.alloc (.cells #[.int .i64 x.slot, .int .i64 x.dir, .int .i64 x.v, .int .i64 x.d] 121) := ⟨_, rfl⟩
      rw [← hwb] at hbx HBX
      rw [← hwb]
      have hsz : wr.heap.size < wb.heap.size := by rw [hwb]; simp
      clear hwb
      obtain ⟨e0, e1, e2, e3⟩ : wb.cell? ⟨wr.heap.size, 0, none⟩ = some (.int .i64 x.slot) ∧ wb.cell? ⟨wr.heap.size, 1, none⟩ = some (.int .i64 x.dir) ∧ wb.cell? ⟨wr.heap.size, 2, none⟩ = some (.int .i64 x.v) ∧ wb.cell? ⟨wr.heap.size, 3, none⟩ = some (.int .i64 x.d) := by
        refine ⟨?_, ?_, ?_, ?_⟩ <;> · rw [Lib.cell_of_heap hbx]; rfl
      have e0 := cell_regrown e0
      have e1 := cell_regrown e1
      have e2 := cell_regrown e2
      have e3 := cell_regrown e3
      clear hbx
      have HM := Lib.hid (regrown_call (w := wb) (P := Tryz.prog) (f := 87) (args := #[.agg #[.int .i64 x.slot, .int .i64 x.dir, .int .i64 x.v, .int .i64 x.d]]) (v := .bool (decide (mayM x))) (fun w' _ => (roundMay_c x w').mono fun e w'' hh => hh))
      by_cases hmay : mayM x
      rotate_left
      · have hf : Hid (decide (rightP l m) = false) := decide_eq_false (hbad.out fun h => hmay h.1)
        rw [decide_eq_false hmay] at HM
        clear hmay
        refine wp_region_quiet_below (by kernel_rfl) (by kernel_rfl) ?_
        quiet_step (fail)
        quiet_step ((go_at_call 87; exact HM.out _ _))
        quiet_step (fail)
        quiet_step (fail)
        go_big_quiet_skip
        go_big_quiet_skip
        go_big_quiet_skip
        go_big_quiet_skip
        go_big_quiet_skip
        quiet_step (fail)
        quiet_step (fail)
        go_big_quiet_skip
        go_big_quiet_skip
        go_big_quiet_skip
        go_big_quiet_skip
        go_big_quiet_skip
        go_big_quiet_skip
        go_big_quiet_skip
        go_big_quiet_skip
        go_big_quiet_skip
        go_big_quiet_skip
        go_big_quiet_skip
        go_big_quiet_skip
        go_big_quiet_skip
        go_big_quiet_skip
        quiet_step (fail)
        refine wpQuiet_nil ?_
        intro _ hw'
        obtain ⟨⟨dq, osq⟩, hw''⟩ := hw'
        have HZ := Lib.hid (HBX.out.trans ((below_regrown wb dq osq).mono HBX.out.size))
        rw [← hw''] at HZ
        clear hw''
        go_wp2_with (fail)
        go_ret
        exact ⟨ret_bool hf.out.symm, HZ.out⟩
      rw [decide_eq_true hmay] at HM
      by_cases hvm : m ≤ x.v
      · have hf : Hid (decide (rightP l m) = false) := decide_eq_false (hbad.out fun h => by have := h.2; omega)
        clear hmay
        refine wp_region_quiet_below (by kernel_rfl) (by kernel_rfl) ?_
        quiet_step (fail)
        quiet_step ((go_at_call 87; exact HM.out _ _))
        quiet_step (fail)
        quiet_step (fail)
        quiet_step (fail)
        quiet_step (fail)
        quiet_step (fail)
        quiet_step (fail)
        quiet_step (fail)
        quiet_step (fail)
        quiet_step (fail)
        go_big_quiet_skip
        go_big_quiet_skip
        go_big_quiet_skip
        go_big_quiet_skip
        go_big_quiet_skip
        go_big_quiet_skip
        go_big_quiet_skip
        go_big_quiet_skip
        go_big_quiet_skip
        go_big_quiet_skip
        go_big_quiet_skip
        go_big_quiet_skip
        go_big_quiet_skip
        go_big_quiet_skip
        quiet_step (fail)
        refine wpQuiet_nil ?_
        intro _ hw'
        obtain ⟨⟨dq, osq⟩, hw''⟩ := hw'
        have HZ := Lib.hid (HBX.out.trans ((below_regrown wb dq osq).mono HBX.out.size))
        rw [← hw''] at HZ
        clear hw''
        go_wp2_with (fail)
        go_ret
        exact ⟨ret_bool hf.out.symm, HZ.out⟩
      have hok : Hid (mayM x ∧ x.v < m) := ⟨hmay, by omega⟩
      clear hmay
      rcases Nat.eq_zero_or_pos j with h0 | h0
      · have hj0 : ¬ (0 : Int) < (j : Int) := by omega
        have hN : Hid (rightP (l.take (j + 1)) m) := hnext.out hok.out (fun y hy => by rw [h0] at hy; simp at hy)
        subst h0
        refine wp_region_quiet_below (by kernel_rfl) (by kernel_rfl) ?_
        quiet_step (fail)
        quiet_step ((go_at_call 87; exact HM.out _ _))
        quiet_step (fail)
        quiet_step (fail)
        quiet_step (fail)
        quiet_step (fail)
        quiet_step (fail)
        quiet_step (fail)
        quiet_step (fail)
        quiet_step (fail)
        quiet_step (fail)
        quiet_step (fail)
        quiet_step (fail)
        quiet_step (fail)
        go_big_quiet_skip
        go_big_quiet_skip
        go_big_quiet_skip
        go_big_quiet_skip
        go_big_quiet_skip
        go_big_quiet_skip
        go_big_quiet_skip
        go_big_quiet_skip
        go_big_quiet_skip
        go_big_quiet_skip
        quiet_step (fail)
        quiet_step (fail)
        refine wpQuiet_nil ?_
        intro _ hw'
        obtain ⟨⟨dq, osq⟩, hw''⟩ := hw'
        have HZ := Lib.hid (HBX.out.trans ((below_regrown wb dq osq).mono HBX.out.size))
        rw [← hw''] at HZ
        clear hw''
        go_wp2_with (fail)
        go_roundw
        case rel => exact ⟨1, by omega, by go_num, hN, HZ.out⟩
        case measure => simp [intOf]; omega
      · obtain ⟨j, rfl⟩ : ∃ i, j = i + 1 := ⟨j - 1, by omega⟩
        obtain ⟨b', o', y, he, hy, d0, d1, d2, d3⟩ := (HR.out.below HBX.out).mail_at (k := j) (by omega)
        cases he
        have d0 := cell_regrown d0
        have d1 := cell_regrown d1
        have d2 := cell_regrown d2
        have d3 := cell_regrown d3
        have HY := Lib.hid hy.out
        clear hy
        have k1 : (0 : Int) ≤ (j : Int) := by omega
        have k2 : (j : Int) < (n : Int) := by omega
        have k3 : (0 : Int) < (j : Int) + 1 := by omega
        have k4 : IntKind.i64.wrap (j : Int) = (j : Int) := IntWalk.i64_in _ (by omega)
        have HC := Lib.hid (regrown_call (w := wb) (P := Tryz.prog) (f := 59) (args := #[.agg #[.int .i64 y.slot, .int .i64 y.dir, .int .i64 y.v], .agg #[.int .i64 x.slot, .int .i64 x.dir, .int .i64 x.v]]) (v := .int .i64 (cmpM y x)) (fun w' _ => (compared_c y x w').mono fun e w'' hh => ⟨hh.1, by obtain ⟨q, os', h2⟩ := hh.2; rw [h2]; exact below_grownQ _ _ _⟩))
        have hlast : Hid ((l.take (j + 1)).getLast? = some y) := by
          show _ = _
          rw [List.take_add_one, HY.out]
          simp
        obtain ⟨cm, hcm⟩ : ∃ cm, cm = cmpM y x := ⟨_, rfl⟩
        rw [← hcm] at HC
        have HCM := Lib.hid hcm
        clear hcm
        by_cases hlt2 : 0 ≤ cm
        · have hf : Hid (decide (rightP l m) = false) := decide_eq_false (fun h => by
            have h2 := rightP_take (j + 1 + 1) h
            rw [List.take_add_one, HX.out, Option.toList_some] at h2
            have h3 := List.pairwise_append.1 h2.2
            have h4 := h3.2.2 y (List.mem_of_getLast? hlast.out) x (by simp)
            have h5 := (cmp_neg y x).2 h4
            have := HCM.out
            omega)
          refine wp_region_quiet_below (by kernel_rfl) (by kernel_rfl) ?_
          quiet_step (fail)
          quiet_step ((go_at_call 87; exact HM.out _ _))
          quiet_step (fail)
          quiet_step (fail)
          quiet_step (fail)
          quiet_step (fail)
          quiet_step (fail)
          quiet_step (fail)
          quiet_step (fail)
          quiet_step (fail)
          quiet_step (fail)
          quiet_step (fail)
          quiet_step (fail)
          quiet_step (fail)
          quiet_step (fail)
          quiet_step (fail)
          quiet_step (fail)
          quiet_step (fail)
          quiet_step (fail)
          quiet_step (fail)
          quiet_step (fail)
          quiet_step (fail)
          quiet_step ((go_at_call 59; exact HC.out _ _))
          quiet_step (fail)
          quiet_step (fail)
          quiet_step (fail)
          refine wpQuiet_nil ?_
          intro _ hw'
          obtain ⟨⟨dq, osq⟩, hw''⟩ := hw'
          have HZ := Lib.hid (HBX.out.trans ((below_regrown wb dq osq).mono HBX.out.size))
          rw [← hw''] at HZ
          clear hw''
          go_wp2_with (fail)
          go_ret
          exact ⟨ret_bool hf.out.symm, HZ.out⟩
        · have hN : Hid (rightP (l.take (j + 1 + 1)) m) := hnext.out hok.out (fun z hz => by
            rw [hlast.out] at hz
            injection hz with hz
            subst hz
            exact (cmp_neg y x).1 (by have := HCM.out; omega))
          refine wp_region_quiet_below (by kernel_rfl) (by kernel_rfl) ?_
          quiet_step (fail)
          quiet_step ((go_at_call 87; exact HM.out _ _))
          quiet_step (fail)
          quiet_step (fail)
          quiet_step (fail)
          quiet_step (fail)
          quiet_step (fail)
          quiet_step (fail)
          quiet_step (fail)
          quiet_step (fail)
          quiet_step (fail)
          quiet_step (fail)
          quiet_step (fail)
          quiet_step (fail)
          quiet_step (fail)
          quiet_step (fail)
          quiet_step (fail)
          quiet_step (fail)
          quiet_step (fail)
          quiet_step (fail)
          quiet_step (fail)
          quiet_step (fail)
          quiet_step ((go_at_call 59; exact HC.out _ _))
          quiet_step (fail)
          quiet_step (fail)
          quiet_step (fail)
          refine wpQuiet_nil ?_
          intro _ hw'
          obtain ⟨⟨dq, osq⟩, hw''⟩ := hw'
          have HZ := Lib.hid (HBX.out.trans ((below_regrown wb dq osq).mono HBX.out.size))
          rw [← hw''] at HZ
          clear hw''
          go_wp2_with (fail)
          go_roundw
          case rel => exact ⟨j + 1 + 1, by omega, by go_num, hN, HZ.out⟩
          case measure => simp [intOf]; omega
    · obtain rfl : j = n := by omega
      have hT2 : Hid (rightP l m) := by have h := hT.out; rw [List.take_of_length_le (by rw [hl.out]; exact Nat.le_refl _)] at h; exact h
      go_wp2_with (fail)
      go_ret
      exact ⟨ret_bool (decide_eq_true hT2.out).symm, hB⟩
end Go.Proofs.YtpdnipabaimofaaGreat

namespace Go.Proofs.YtpdnipabaimofaaGreat
open Go.RowKit

def splitOk (k : Int) (xs : List Msg) : Prop := (1 ≤ k ∧ k ≤ 16) ∧ allMay xs

theorem split_no (A : Option Addr) (n c : Nat) (k : Int) (xs : List Msg) (w : World) (hr : Reads w w.heap.size 4 A n (mv xs)) (hn : n ≤ maxLen) (h : ¬ splitOk k xs) :
    Calls Tryz.prog 49 #[.slice A n c, .int .i64 k] w fun e w' => e = .returned (.tuple #[.slice none 0 0, .int .i64 1]) ∧ Below w.heap.size w w' := by
  by_cases hk : homeOk 0 k
  · have hm : ¬ allMay xs := fun hm => h ⟨hk.2, hm⟩
    go_enter Tryz.func49, Tryz.ntmps49
    go_wp2_with (fail)
    refine (home_c 0 k _).mono ?_
    rintro e w1 ⟨rfl, hB1⟩
    rw [decide_eq_true hk]
    clear hk h
    go_wp2_with (fail)
    refine (check_c A n c xs _ ((hr.below hB1).more hB1.size) hn).mono ?_
    rintro e w2 ⟨rfl, hB2⟩
    rw [decide_eq_false hm]
    go_wp2_with (fail)
    go_ret2
    exact ⟨rfl, hB1.trans (hB2.mono hB1.size)⟩
  · go_enter Tryz.func49, Tryz.ntmps49
    go_wp2_with (fail)
    refine (home_c 0 k _).mono ?_
    rintro e w1 ⟨rfl, hB1⟩
    rw [decide_eq_false hk]
    clear hk h
    go_wp2_with (fail)
    go_ret2
    exact ⟨rfl, hB1⟩

end Go.Proofs.YtpdnipabaimofaaGreat
