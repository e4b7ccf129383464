/-
  How long a graph's image is.
-/
import Derived.Test.YtmnjlhifjjainaaGreatImgPlain
namespace Go.Proofs.YtmnjlhifjjainaaGreat

theorem rowBytes_len_le (xs : List Int) : (rowBytes xs).length ≤ 5 + 5 * xs.length := by
  unfold rowBytes
  have h0 := (numBytes_len xs.length).2
  have h1 : ∀ l : List Int, (rowB l).length ≤ 5 * l.length := by
    intro l
    induction l with
    | nil => simp [rowB]
    | cons a l ih =>
      have := (numBytes_len a.toNat).2
      have e : rowB (a :: l) = numBytes a.toNat ++ rowB l := rfl
      rw [e, List.length_append, List.length_cons]
      omega
  have h2 := h1 xs
  rw [List.length_append]
  omega
theorem wordsB_len_le : ∀ (l : List ByteArray), (∀ w ∈ l, isWord w) → (wordsB l).length ≤ 17 * l.length
  | [], _ => by simp [wordsB]
  | w :: l, h => by
    have h1 := wordsB_len_le l (fun x hx => h x (List.mem_cons_of_mem _ hx))
    have h2 := (h w (List.mem_cons_self ..)).1.2
    have h3 := (numBytes_len w.size).2
    have h4 : (textStr w).data.toList.length ≤ 5 + w.size := by
      unfold textStr
      rw [if_pos (by omega)]
      have h5 : w.data.size = w.size := rfl
      unfold textBytes
      simp
      omega
    have e : wordsB (w :: l) = (textStr w).data.toList ++ wordsB l := rfl
    rw [e, List.length_append, List.length_cons]
    omega
def cntB (es : List Edg) (k : Nat) : Nat := (es.filter fun e => decide (e.src < (k : Int))).length
theorem cntB_succ : ∀ (es : List Edg) (k : Nat), cntB es (k + 1) = cntB es k + (toOf es k).length
  | [], _ => rfl
  | e :: es, k => by
    have ih := cntB_succ es k
    have e1 : ∀ k, cntB (e :: es) k = (if e.src < (k : Int) then 1 else 0) + cntB es k := by
      intro k
      unfold cntB
      rw [List.filter_cons]
      by_cases h : e.src < (k : Int)
      · rw [if_pos (by simpa using h), if_pos h, List.length_cons]; omega
      · rw [if_neg (by simpa using h), if_neg h]; omega
    have e2 : (toOf (e :: es) k).length = (if e.src = (k : Int) then 1 else 0) + (toOf es k).length := by
      unfold toOf
      rw [List.length_map, List.length_map, List.filter_cons]
      by_cases h : e.src = (k : Int)
      · rw [if_pos (by simpa using h), if_pos h, List.length_cons]; omega
      · rw [if_neg (by simpa using h), if_neg h]; omega
    rw [e1, e1, e2, ih]
    by_cases h1 : e.src < (k : Int)
    · rw [if_pos h1, if_pos (show e.src < ((k + 1 : Nat) : Int) by omega), if_neg (by omega)]; omega
    · by_cases h3 : e.src = (k : Int)
      · rw [if_neg h1, if_pos (show e.src < ((k + 1 : Nat) : Int) by omega), if_pos h3]; omega
      · rw [if_neg h1, if_neg (show ¬ e.src < ((k + 1 : Nat) : Int) by omega), if_neg h3]; omega
theorem bodyB_len_le {g : Gr} (h : checkG g) : ∀ k, (bodyB g k).length ≤ 146 * k + 5 * cntB g.es k
  | 0 => by simp [bodyB_zero]
  | k + 1 => by
    have ih := bodyB_len_le h k
    have h1 := rowBytes_len_le (toOf g.es k)
    have h2 := (numBytes_len (g.ws.getD k []).length).2
    have h3 : (wordsB (g.ws.getD k [])).length ≤ 136 := by
      rw [List.getD_eq_getElem?_getD]
      cases hk : g.ws[k]? with
      | none => simp [wordsB]
      | some l =>
        have hw := h.2.2.2.2 l (List.mem_of_getElem? hk)
        have := wordsB_len_le l hw.2
        have := hw.1
        show (wordsB l).length ≤ 136
        omega
    rw [bodyB_succ, cntB_succ, List.length_append]
    unfold pl placeB
    simp only [List.length_append]
    omega
theorem printS_len (g : Gr) : (printS g).size ≤ 1000000 := by
  unfold printS
  by_cases hg : isG g
  · rw [if_pos hg]
    have h1 := bodyB_len_le hg.1 g.ws.length
    have h2 : cntB g.es g.ws.length ≤ g.es.length := List.length_filter_le _ _
    have h3 := hg.1.2.1
    have h4 := hg.1.2.2.1
    have h5 := hg.1.1.2
    have h6 := (numBytes_len g.n.toNat).2
    show (imgB g).toArray.size ≤ 1000000
    rw [List.size_toArray]
    unfold imgB
    simp only [List.length_append, List.length_cons, List.length_nil]
    omega
  · rw [if_neg hg]
    exact Nat.zero_le _
end Go.Proofs.YtmnjlhifjjainaaGreat
