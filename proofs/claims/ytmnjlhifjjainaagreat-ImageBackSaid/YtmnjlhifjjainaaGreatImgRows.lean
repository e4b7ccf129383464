/-
  Rows of places: what the edges lead to, place by place. Sizes of images.
-/
import Derived.Test.YtmnjlhifjjainaaGreatImgIs
namespace Go.Proofs.YtmnjlhifjjainaaGreat
open Go.RowKit

def rowsL (es : List Edg) (k : Nat) : List (List Int) := (List.range k).map (toOf es)
def ivs (l : List (List Int)) : List (List Value) := l.map iv
theorem rowsL_len (es : List Edg) (k : Nat) : (rowsL es k).length = k := by simp [rowsL]
theorem rowsL_get (es : List Edg) {k i : Nat} (h : i < k) : (rowsL es k)[i]? = some (toOf es i) := by
  rw [rowsL, List.getElem?_map, List.getElem?_range h]; rfl
theorem rowsL_nil (k : Nat) : rowsL [] k = List.replicate k [] := by
  apply List.ext_getElem?
  intro i
  by_cases h : i < k
  · rw [rowsL_get _ h, List.getElem?_replicate, if_pos h]; rfl
  · rw [List.getElem?_eq_none (by rw [rowsL_len]; omega), List.getElem?_eq_none (by simp; omega)]
theorem rowsL_snoc (es : List Edg) (x : Edg) {k r : Nat} (hr : x.src = r) (h : r < k) : rowsL (es ++ [x]) k = (rowsL es k).set r (toOf es r ++ [x.dst]) := by
  apply List.ext_getElem?
  intro i
  by_cases hi : i < k
  · rw [rowsL_get _ hi, List.getElem?_set, toOf_snoc, hr]
    by_cases he : r = i
    · subst he
      rw [if_pos rfl, if_pos rfl, if_pos (by rw [rowsL_len]; exact h)]
    · rw [if_neg (by omega), if_neg he, rowsL_get _ hi]
  · rw [List.getElem?_eq_none (by rw [rowsL_len]; omega), List.getElem?_eq_none (by rw [List.length_set, rowsL_len]; omega)]

theorem wordsB_len : ∀ l : List ByteArray, (∀ w ∈ l, w.size ≤ 4000) → (wordsB l).length ≤ 4005 * l.length := by
  refine snoc_ind (fun _ => by simp [wordsB]) fun l m ih h => ?_
  have h1 := ih (fun x hx => h x (by simp [hx]))
  have h2 := h m (by simp)
  have h3 := (numBytes_len m.size).2
  rw [wordsB_snoc, List.length_append, textStr_list h2, List.length_append, size_list, List.length_append, List.length_singleton]
  omega
theorem placeB_len {p : List Int × List ByteArray} (h1 : allGood p.1) (h2 : p.2.length ≤ 8) (h3 : ∀ w ∈ p.2, w.size ≤ 4000) : (placeB p).length ≤ 60000 := by
  have a1 := wordsB_len p.2 h3
  have a2 := (numBytes_len p.2.length).2
  have a3 := (numBytes_len p.1.length).2
  have a4 := rowB_len p.1
  have a5 := h1.1
  unfold placeB rowBytes
  rw [List.length_append, List.length_append, List.length_append]
  omega
theorem isG_row {g : Gr} (h : isG g) {v : Nat} {l : List ByteArray} (hl : g.ws[v]? = some l) : l.length ≤ 8 ∧ (∀ w ∈ l, w.size ≤ 4000) ∧ pl g v = (toOf g.es v, l) := by
  obtain ⟨h1, h2⟩ := h.1.2.2.2.2 l (List.mem_of_getElem? hl)
  refine ⟨h1, fun w hw => by have := (h2 w hw).1.2; omega, ?_⟩
  unfold pl
  rw [List.getD_eq_getElem?_getD, hl]
  rfl
theorem bodyB_len {g : Gr} (h : isG g) : ∀ k, k ≤ g.ws.length → (bodyB g k).length ≤ 60000 * k
  | 0, _ => by rw [bodyB_zero]; simp
  | k + 1, hk => by
    have ih := bodyB_len h k (by omega)
    have hx : g.ws[k]? = some (g.ws[k]'(by omega)) := List.getElem?_eq_getElem (by omega)
    obtain ⟨a1, a2, a3⟩ := isG_row h hx
    have := placeB_len (p := pl g k) (by rw [a3]; exact toOf_good h.1 k) (by rw [a3]; exact a1) (by rw [a3]; exact a2)
    rw [bodyB_succ, List.length_append]
    omega
/-- What has been laid, with so many words of a place. -/
theorem placeB_part (xs : List Int) (l : List ByteArray) : placeB (xs, l) = (rowBytes xs ++ numBytes l.length) ++ wordsB l := by
  unfold placeB
  rw [List.append_assoc]

theorem number_ok {x : Int} (h : good x) (w : World) : Calls Tryz.prog 18 #[.int .i64 x] w fun e w' => e = .returned (.tuple #[.string ⟨(numBytes x.toNat).toArray⟩, .int .i64 0]) ∧ Below w.heap.size w w' := by
  refine (numberT x w).mono ?_
  rintro e w' ⟨rfl, hB⟩
  refine ⟨?_, hB⟩
  unfold numV numStr numErr
  rw [if_pos h, if_pos h]
theorem numbers_ok (A : Option Addr) (n c : Nat) (xs : List Int) (w : World) (hr : Reads w w.heap.size 1 A n (iv xs)) (h : allGood xs) :
    Calls Tryz.prog 19 #[.slice A n c] w fun e w' => e = .returned (.tuple #[.string ⟨(rowBytes xs).toArray⟩, .int .i64 0]) ∧ Below w.heap.size w w' := by
  refine (numbersT A n c xs w hr).mono ?_
  rintro e w' ⟨rfl, hB⟩
  refine ⟨?_, hB⟩
  unfold rowV rowStr rowErr
  rw [if_pos h, if_pos h.1, if_pos h.2]
theorem text_ok {s : ByteArray} (h : s.size ≤ 4000) (w : World) : Calls Tryz.prog 20 #[.string s] w fun e w' => e = .returned (.tuple #[.string ⟨(textStr s).data.toList.toArray⟩, .int .i64 0]) ∧ Below w.heap.size w w' := by
  refine (textT s w).mono ?_
  rintro e w' ⟨rfl, hB⟩
  refine ⟨?_, hB⟩
  unfold textV textErr
  rw [if_pos h]
theorem must_ok (s : ByteArray) (w : World) : Calls Tryz.prog 17 #[.string s, .int .i64 0] w fun e w' => e = .returned (.string s) ∧ w' = w := by
  go_enter Tryz.func17, Tryz.ntmps17
  go_wp2
  go_ret
  exact ⟨rfl, rfl⟩

section
variable {w W W' : World} {b : Nat} {g : Gr} {A1 A2 : Option Addr} {n1 n2 c1 c2 : Nat} {vs : List Value}
theorem Boxed.stepB (h : Boxed w b g A1 n1 c1 A2 n2 c2 vs W) {B : Nat} (hB : Below B W W') (hb : b < B) : Boxed w b g A1 n1 c1 A2 n2 c2 vs W' :=
  ⟨h.box.below hB hb, h.gr.below (hB.mono (Nat.le_of_lt hb)), h.bel.trans (hB.mono (Nat.le_of_lt hb))⟩
end
theorem ivs_get {l : List (List Int)} {k : Nat} {x : List Int} (h : l[k]? = some x) : (ivs l)[k]? = some (iv x) := by rw [ivs, List.getElem?_map, h]; rfl
end Go.Proofs.YtmnjlhifjjainaaGreat
