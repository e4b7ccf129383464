/-
  Elements once each: plain laws; 'clear' on a part of a row of the call's own.
-/
import Derived.Test.YtmnjlhifjjainaaGreatImgBox
namespace Go.Proofs.YtmnjlhifjjainaaGreat
open Go.RowKit

section
variable {α : Type} {lt : α → α → Prop}
theorem rises_snoc {p : List α} {y u : α} (h : Rises lt p) (hl : p.getLast? = some y) (hlt : lt y u) : Rises lt (p ++ [u]) := by
  rw [rises_iff] at h ⊢
  intro k a b ha hb
  have hp : p ≠ [] := fun e => by rw [e] at hl; cases hl
  have hpl : 0 < p.length := List.length_pos_iff.2 hp
  rcases Nat.lt_trichotomy (k + 1) p.length with hk | hk | hk
  · rw [List.getElem?_append_left (by omega)] at ha
    rw [List.getElem?_append_left hk] at hb
    exact h k a b ha hb
  · rw [List.getElem?_append_left (by omega)] at ha
    rw [List.getElem?_append_right (by omega), hk, Nat.sub_self] at hb
    simp at hb
    subst hb
    rw [List.getLast?_eq_getElem?, show p.length - 1 = k by omega, ha] at hl
    cases hl
    exact hlt
  · rw [List.getElem?_append_right (by omega)] at hb
    have := (List.getElem?_eq_some_iff.1 hb).1
    simp at this
    omega
/-- What has been kept so far: it rises, is of l, and ends as l does at place m. -/
structure Kept (lt : α → α → Prop) (l p : List α) (m : Nat) : Prop where
  rise : Rises lt p
  mem : ∀ x ∈ p, x ∈ l
  last : ∃ y, l[m]? = some y ∧ p.getLast? = some y
theorem adj_lt (tot : ∀ a b, ¬ lt b a → a ≠ b → lt a b) {l : List α} (hs : l.Pairwise (fun a b => ¬ lt b a)) {m : Nat} {a b : α} (h1 : l[m]? = some a) (h2 : l[m + 1]? = some b) (hne : a ≠ b) : lt a b := by
  obtain ⟨i1, e1⟩ := List.getElem?_eq_some_iff.1 h1
  obtain ⟨i2, e2⟩ := List.getElem?_eq_some_iff.1 h2
  have := List.pairwise_iff_getElem.1 hs m (m + 1) i1 i2 (Nat.lt_succ_self _)
  rw [e1, e2] at this
  exact tot a b this hne
theorem kept_start (tot : ∀ a b, ¬ lt b a → a ≠ b → lt a b) {l : List α} (hs : l.Pairwise (fun a b => ¬ lt b a)) {j : Nat} {x : α} (hd : risesTo (fun a b => a ≠ b) l j) (h1 : l[j]? = some x) (h2 : l[j + 1]? = some x) : Kept lt l (l.take (j + 1)) (j + 1) := by
  refine ⟨?_, fun y hy => List.mem_of_mem_take hy, x, h2, ?_⟩
  · rw [rises_iff]
    intro k a b ha hb
    have hk : k + 1 < j + 1 := by
      have := (List.getElem?_eq_some_iff.1 hb).1
      rw [List.length_take] at this
      omega
    rw [List.getElem?_take_of_lt (by omega)] at ha
    rw [List.getElem?_take_of_lt hk] at hb
    exact adj_lt tot hs ha hb (hd k a b (by omega) ha hb)
  · have hl := (List.getElem?_eq_some_iff.1 h1).1
    rw [List.getLast?_eq_getElem?, List.length_take, Nat.min_eq_left (by omega), List.getElem?_take_of_lt (by omega)]
    exact h1
theorem kept_all (tot : ∀ a b, ¬ lt b a → a ≠ b → lt a b) {l : List α} (hs : l.Pairwise (fun a b => ¬ lt b a)) {j : Nat} (hd : risesTo (fun a b => a ≠ b) l j) (hj : l.length ≤ j + 1) : Rises lt l := by
  rw [rises_iff]
  intro k a b ha hb
  have := (List.getElem?_eq_some_iff.1 hb).1
  exact adj_lt tot hs ha hb (hd k a b (by omega) ha hb)
theorem kept_more (tot : ∀ a b, ¬ lt b a → a ≠ b → lt a b) {l p : List α} (hs : l.Pairwise (fun a b => ¬ lt b a)) {m : Nat} {u v : α} (h : Kept lt l p m) (h1 : l[m]? = some v) (h2 : l[m + 1]? = some u) (hne : v ≠ u) : Kept lt l (p ++ [u]) (m + 1) := by
  obtain ⟨y, e1, e2⟩ := h.last
  rw [h1] at e1
  cases e1
  refine ⟨rises_snoc h.rise e2 (adj_lt tot hs h1 h2 hne), fun x hx => ?_, u, h2, by simp⟩
  rcases List.mem_append.1 hx with hx | hx
  · exact h.mem x hx
  · simp at hx; subst hx; exact List.mem_of_getElem? h2
theorem kept_same {l p : List α} {m : Nat} {u : α} (h : Kept lt l p m) (h1 : l[m]? = some u) (h2 : l[m + 1]? = some u) : Kept lt l p (m + 1) := by
  obtain ⟨y, e1, e2⟩ := h.last
  rw [h1] at e1
  cases e1
  exact ⟨h.rise, h.mem, u, h2, e2⟩
theorem take_set_more {d : List α} {k : Nat} {u : α} (hk : k < d.length) : (d.set k u).take (k + 1) = d.take k ++ [u] := by
  rw [List.take_add_one, List.getElem?_set_self hk]
  congr 1
  rw [List.take_set_of_le (Nat.le_refl _)]
end

theorem ev_set : ∀ (l : List Edg) (k : Nat) (x : Edg), ((ev l).set (k * 2) (.int .i64 x.src)).set (k * 2 + 1) (.int .i64 x.dst) = ev (l.set k x)
  | [], k, x => by simp [ev]
  | a :: l, 0, x => by simp [ev, ec]
  | a :: l, k + 1, x => by
    have ih := ev_set l k x
    simp only [ev, List.flatMap_cons, List.set_cons_succ] at ih ⊢
    rw [← ih, show (k + 1) * 2 = k * 2 + 1 + 1 by omega, show k * 2 + 1 + 1 + 1 = (k * 2 + 1) + 1 + 1 by omega]
    rfl
theorem sv_set (l : List ByteArray) (k : Nat) (x : ByteArray) : (sv l).set k (.string x) = sv (l.set k x) := by
  rw [sv, sv, List.map_set]
theorem ev_take (l : List Edg) (k : Nat) : (ev l).take (k * 2) = ev (l.take k) := flat_take ec 2 ec_len l k
theorem sv_take (l : List ByteArray) (k : Nat) : (sv l).take (k * 1) = sv (l.take k) := by rw [Nat.mul_one, sv, sv, List.map_take]

section
variable {P : Program} {w : World}
theorem run_clear_own {t e : TypeId} {z : Value} {size base g n c : Nat} {xs : List Value} (ht : P.underlying t = some (.slice e)) (hv : ∀ w, (zeroValue e).run P w = .ok z w) (hz : z.cells.size = size) (h1 : ∀ u ∈ z.cells.toList, u.oneCell' = true)
    (hown : w.ownsRow base e size (.slice (some ⟨g, 0, none⟩) n c) n xs) {k : Nat} (hk : k ≤ n) {dp : Option Addr} {m d : Nat} (hm : m = n - k) (hdp : 0 < m → dp = some ⟨g, k * size, none⟩) :
    ∃ w', (∀ ty : TypeId, (Builtin.clear_ #[t] ty #[.slice dp m d]).run P w = .ok (.tuple #[]) w') ∧ w'.ownsRow base e size (.slice (some ⟨g, 0, none⟩) k c) k (xs.take (k * size)) ∧ w.grownBy w' (some g) := by
  subst hz
  rcases Nat.eq_zero_or_pos m with h0 | h0
  · refine ⟨w, fun ty => ?_, own_shorter hown hk (by simp), World.grownBy.refl w _⟩
    subst h0
    cases dp with
    | none => simp [Builtin.clear_, run_underlying ht]
    | some a => simp [Builtin.clear_, run_underlying ht]
  · obtain rfl := hdp h0
    obtain ⟨zs, hzs⟩ : ∃ zs, zs = (Builtin.zeroCells z.cells m).toList := ⟨_, rfl⟩
    have hzl : zs.length = m * z.cells.size := by rw [hzs]; simp [Builtin.zeroCells]
    have hz1 : ∀ u ∈ zs, u.oneCell' = true := by
      intro u hu
      rw [hzs] at hu
      simp only [Builtin.zeroCells, Array.toList_map, Array.toList_range, List.mem_map, List.mem_range] at hu
      obtain ⟨i, hi, rfl⟩ := hu
      have hpos : 0 < z.cells.size := by
        rcases Nat.eq_zero_or_pos z.cells.size with h | h
        · rw [h] at hi; simp at hi
        · exact h
      have hlt : i % z.cells.size < z.cells.size := Nat.mod_lt _ hpos
      rw [getElem!_pos z.cells _ hlt]
      exact h1 _ (by rw [Array.mem_toList_iff]; exact Array.getElem_mem hlt)
    rcases hown.2 with ⟨hv', _⟩ | ⟨g', cap, cur, hv', hb, hg, hnc, hcm, hcs, htake⟩
    · cases hv'
    · simp only [Value.slice.injEq, Option.some.injEq, Addr.mk.injEq, and_true, true_and] at hv'
      obtain ⟨rfl, rfl⟩ := hv'
      have hle : k * z.cells.size + m * z.cells.size ≤ n * z.cells.size := by rw [← Nat.add_mul]; exact Nat.mul_le_mul_right _ (by omega)
      have hle2 : n * z.cells.size ≤ c * z.cells.size := Nat.mul_le_mul_right _ hnc
      have hst := run_storeCells_at P g (k * z.cells.size) e zs 0 cur w hg (by rw [hzl, hcs]; omega) hz1
      simp only [Nat.add_zero] at hst
      generalize hrow : (cur.toList.take (k * z.cells.size) ++ zs ++ cur.toList.drop (k * z.cells.size + zs.length)).toArray = row at hst
      obtain ⟨m', rfl⟩ : ∃ m', m = m' + 1 := ⟨m - 1, by omega⟩
      refine ⟨w.setRow g row, fun ty => ?_, ⟨?_, .inr ⟨g, c, row, rfl, hb, setRow_heap w g cur _ e _ hg, Nat.le_trans hk hnc, hcm, ?_, ?_⟩⟩, ⟨rfl, rfl, rfl, by simp, fun j _ hj => setRow_other w g j _ (fun e => hj (by simp [e]))⟩⟩
      · simp [Builtin.clear_, run_underlying ht, hv, ← hzs, hst]
      · rw [List.length_take, hown.1]
        exact Nat.min_eq_left (Nat.mul_le_mul_right _ hk)
      · rw [← hrow]
        simp only [List.size_toArray, List.length_append, List.length_take, List.length_drop, Array.length_toList, hcs, hzl]
        omega
      · rw [← hrow, ← htake]
        simp only [List.append_assoc]
        have hcl : cur.toList.length = c * z.cells.size := by simpa using hcs
        rw [List.take_append_of_le_length (by rw [List.length_take, hcl]; omega), List.take_take, List.take_take, Nat.min_self, Nat.min_eq_left (Nat.mul_le_mul_right _ hk)]
end
end Go.Proofs.YtmnjlhifjjainaaGreat
