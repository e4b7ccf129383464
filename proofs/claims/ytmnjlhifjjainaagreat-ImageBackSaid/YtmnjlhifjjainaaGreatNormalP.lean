/-
  A graph made normal: what has been made so far.
-/
import Derived.Test.YtmnjlhifjjainaaGreatOnce
import Derived.Test.YtmnjlhifjjainaaGreatImgIs
namespace Go.Proofs.YtmnjlhifjjainaaGreat
open Go.RowKit

/-- A row lies apart from a block of another type. -/
theorem own_box {w : World} {base nb n c sz : Nat} {e T : TypeId} {A : Option Addr} {xs : List Value} {cs : Array Value} {fz : Nat × Nat} (h : w.ownsRow base e sz (.slice A n c) n xs) (hb : w.heap[nb]? = some (.cells cs T fz)) (hne : e ≠ T) : ∀ a, A = some a → some a.block ≠ some nb := by
  intro a ha hab
  rcases h.2 with ⟨hv, _⟩ | ⟨g, cap, cur, hv, _, hg, _⟩
  · cases hv; cases ha
  · cases hv
    cases ha
    injection hab with hab
    simp only at hab
    subst hab
    rw [hg] at hb
    injection hb with hb
    injection hb with _ ht _
    exact hne ht
theorem own_setBox {w w' : World} {base nb n c sz : Nat} {e T : TypeId} {A : Option Addr} {xs : List Value} {cs : Array Value} {fz : Nat × Nat} (h : w.ownsRow base e sz (.slice A n c) n xs) (hb : w.heap[nb]? = some (.cells cs T fz)) (hne : e ≠ T) (hg : w.grownBy w' (some nb)) :
    w'.ownsRow base e sz (.slice A n c) n xs := own_only h hg (own_box h hb hne)
theorem rows_setBox {w w' : World} {base nb sz : Nat} {e T : TypeId} {vs : List Value} {rs : List (List Value)} {cs : Array Value} {fz : Nat × Nat} (h : RowsOwn w base e sz vs rs) (hb : w.heap[nb]? = some (.cells cs T fz)) (hne : e ≠ T) (hg : w.grownBy w' (some nb)) :
    RowsOwn w' base e sz vs rs := h.keep_ fun _ _ _ _ _ ho => own_setBox ho hb hne hg
theorem box_pushed {w w' : World} {base nb n c sz : Nat} {e T : TypeId} {A A' : Option Addr} {xs : List Value} {cs : Array Value} {fz : Nat × Nat} (p : Pushed w w' A A') (h : w.ownsRow base e sz (.slice A n c) n xs) (hb : w.heap[nb]? = some (.cells cs T fz)) (hne : e ≠ T) : w'.heap[nb]? = some (.cells cs T fz) := by
  refine (p.grown.block nb (Array.getElem?_eq_some_iff.1 hb).1 ?_).trans hb
  intro h2
  cases hA : A with
  | none => rw [hA] at h2; cases h2
  | some a =>
    rw [hA] at h2
    exact own_box h hb hne a hA (by simpa using h2.symm)

/-- What Normal has made so far: the argument's box, the result's, and one that holds edges and words. -/
structure NSt (w wr : World) (nb : Nat) (g : Gr) (A1 : Option Addr) (n1 c1 : Nat) (A2 : Option Addr) (n2 c2 : Nat) (vs : List Value) (es : List Edg) (ls : List (List ByteArray)) (B1 : Option Addr) (k1 d1 : Nat) (B2 : Option Addr) (d2 : Nat) (us : List Value) : Prop where
  lt : w.heap.size + 1 + 1 ≤ nb
  x : Boxed w w.heap.size g A1 n1 c1 A2 n2 c2 vs wr
  z : GAt wr (w.heap.size + 1) 0 none 0 0 none 0 0
  o : GAt wr nb g.n B1 k1 d1 B2 ls.length d2
  es : wr.ownsRow (w.heap.size + 1 + 1) 38 2 (.slice B1 k1 d1) k1 (ev es)
  ws : wr.ownsRow (w.heap.size + 1 + 1) 35 1 (.slice B2 ls.length d2) ls.length us
  rs : RowsOwn wr (w.heap.size + 1 + 1) 9 1 us (wv ls)
section
variable {w wr w' : World} {nb : Nat} {g : Gr} {A1 A2 B1 B2 : Option Addr} {n1 c1 n2 c2 k1 d1 d2 : Nat} {vs us : List Value} {es : List Edg} {ls : List (List ByteArray)}
theorem NSt.size (h : NSt w wr nb g A1 n1 c1 A2 n2 c2 vs es ls B1 k1 d1 B2 d2 us) : w.heap.size + 1 + 1 ≤ wr.heap.size := by have := h.o.lt; have := h.lt; omega
theorem NSt.step (h : NSt w wr nb g A1 n1 c1 A2 n2 c2 vs es ls B1 k1 d1 B2 d2 us) (hB : Below wr.heap.size wr w') : NSt w w' nb g A1 n1 c1 A2 n2 c2 vs es ls B1 k1 d1 B2 d2 us :=
  ⟨h.lt, h.x.step hB, h.z.below hB h.z.lt, h.o.below hB h.o.lt, own_below h.es hB, own_below h.ws hB, h.rs.below hB⟩
theorem NSt.drew (h : NSt w wr nb g A1 n1 c1 A2 n2 c2 vs es ls B1 k1 d1 B2 d2 us) : NSt w wr.drew nb g A1 n1 c1 A2 n2 c2 vs es ls B1 k1 d1 B2 d2 us := h.step (Below.refl _ _).drew
theorem NSt.row {A' A7 : Option Addr} {c' c7 n : Nat} {x : List ByteArray} (h : NSt w wr nb g A1 n1 c1 A2 n2 c2 vs es ls B1 k1 d1 B2 d2 us) (ho : w'.ownsRow (w.heap.size + 1 + 1) 35 1 (.slice A' (ls.length + 1) c') (ls.length + 1) (us ++ [.slice A7 n c7])) (q : Pushed wr w' B2 A')
    (h7 : wr.ownsRow (w.heap.size + 1 + 1) 9 1 (.slice A7 n c7) n (sv x)) (hap : ApartAll us A7) :
    NSt w (w'.setCell ⟨nb, 2, none⟩ (.slice A' (ls.length + 1) c')) nb g A1 n1 c1 A2 n2 c2 vs es (ls ++ [x]) B1 k1 d1 A' c' (us ++ [.slice A7 n c7]) := by
  have hlt := h.lt
  have hb := q.below h.ws (Below.refl (w.heap.size + 1 + 1) wr) (Nat.le_refl _) h.size
  have hs := only_setCellS (only_refl w' (some nb)) 2 (.slice A' (ls.length + 1) c')
  have hb2 := hb.setCell (p := ⟨nb, 2, none⟩) hlt (.slice A' (ls.length + 1) c')
  have hapw : ApartAll us B2 := h.rs.apart_ne h.ws (by decide)
  have hape : Apart B1 B2 := own_ne h.es h.ws (by decide)
  have hap7 : Apart A7 B2 := own_ne h7 h.ws (by decide)
  have e : (ls ++ [x]).length = ls.length + 1 := by rw [List.length_append]; rfl
  have ho8 : GAt w' nb g.n B1 k1 d1 B2 ls.length d2 := box_pushed q h.ws h.o (by decide)
  refine ⟨hlt, h.x.stepB hb2 (by omega), h.z.below hb2 (by omega), ?_, own_setBox (q.keep h.es hape) ho8 (by decide) hs, ?_, ?_⟩
  · rw [e]
    exact ho8.set2
  · rw [e]
    exact own_setBox ho ho8 (by decide) hs
  · have e2 : wv (ls ++ [x]) = wv ls ++ [sv x] := by
      rw [wv_append]
      rfl
    rw [e2]
    exact rows_setBox ((h.rs.kept q hapw).snoc (q.keep h7 hap7) hap) ho8 (by decide) hs
end

section
variable {w w6 : World} {nb base' : Nat} {g : Gr} {A1 A2 B1 : Option Addr} {n1 c1 n2 c2 k1 d1 : Nat} {vs : List Value} {es : List Edg}
theorem nst_put (hx : Boxed w w.heap.size g A1 n1 c1 A2 n2 c2 vs w6) (hz : GAt w6 (w.heap.size + 1) 0 none 0 0 none 0 0) (ho : GAt w6 nb 0 none 0 0 none 0 0) (hlt : w.heap.size + 1 + 1 ≤ nb) (he : w6.ownsRow base' 38 2 (.slice B1 k1 d1) k1 (ev es)) (hb : w.heap.size + 1 + 1 ≤ base') :
    NSt w (putG w6 nb g.n B1 k1 d1 none 0 0) nb g A1 n1 c1 A2 n2 c2 vs es [] B1 k1 d1 none 0 [] := by
  have hB := putG_below (Below.refl (w.heap.size + 1 + 1) w6) hlt g.n B1 k1 d1 none 0 0
  exact ⟨hlt, hx.stepB hB (by omega), hz.below hB (by omega), putG_at ho g.n B1 k1 d1 none 0 0, own_setBox (own_more he hb) ho (by decide) (putG_grown w6 nb g.n B1 k1 d1 none 0 0), own_nil, rowsOwn_nil _ _ _ _⟩
theorem nst_new (hx : Boxed w w.heap.size g A1 n1 c1 A2 n2 c2 vs w6) (hz : GAt w6 (w.heap.size + 1) 0 none 0 0 none 0 0) (he : w6.ownsRow base' 38 2 (.slice B1 k1 d1) k1 (ev es)) (hb : w.heap.size + 1 + 1 ≤ base') :
    NSt w (w6.alloc (.cells #[.int .i64 g.n, .slice B1 k1 d1, .slice none 0 0] 25)) w6.heap.size g A1 n1 c1 A2 n2 c2 vs es [] B1 k1 d1 none 0 [] := by
  have hB := below_one w6 (.cells #[.int .i64 g.n, .slice B1 k1 d1, .slice none 0 0] 25)
  exact ⟨hz.lt, hx.step hB, hz.below hB hz.lt, GAt.new _ _ _ _ _ _ _ _, own_below (own_more he hb) hB, own_nil, rowsOwn_nil _ _ _ _⟩
end

/-- What a call that makes a graph normal gives. -/
def NDone (w w' : World) (g : Gr) (e : Ending) : Prop :=
  if checkG g then ∃ g' A1 n1 c1 A2 n2 c2 us, e = .returned (.tuple #[.agg #[.int .i64 g'.n, .slice A1 n1 c1, .slice A2 n2 c2], .int .i64 0]) ∧ isG g' ∧ GrIn w' w'.heap.size g' A1 n1 A2 n2 us ∧ Below w.heap.size w w'
  else e = .returned (.tuple #[.agg #[.int .i64 0, .slice none 0 0, .slice none 0 0], .int .i64 20]) ∧ Below w.heap.size w w'
theorem normal_no {a : Act} {w W : World} {g : Gr} (ht : a.tmps.getD 2 undef = .pointer (some ⟨w.heap.size + 1, 0, none⟩)) (he : a.tmps.getD 3 undef = .int .i64 20) (hd : a.defers = []) (hz : GAt W (w.heap.size + 1) 0 none 0 0 none 0 0) (hB : Below w.heap.size w W) (h : ¬ checkG g) :
    bodyPost Tryz.prog Tryz.f5 (fun e w' => NDone w w' g e) Exit.ret a W := by
  obtain ⟨c0, c1, c2⟩ := hz.cells
  refine bodyPost_ret (v := .tuple #[.agg #[.int .i64 0, .slice none 0 0, .slice none 0 0], .int .i64 20]) ?_ hd ?_
  · rw [Array.getD_eq_getD_getElem?] at ht he
    simp [results, Tryz.results5, ht, he, c0, c1, c2, go_sem]
  · unfold NDone
    rw [if_neg h]
    exact ⟨rfl, hB⟩
theorem normal_yes {a : Act} {w W : World} {g g' : Gr} {A1 A2 : Option Addr} {n1 c1 n2 c2 : Nat} {us : List Value} (ht : a.tmps.getD 2 undef = .pointer (some ⟨w.heap.size + 1, 0, none⟩)) (he : a.tmps.getD 3 undef = .int .i64 0) (hd : a.defers = [])
    (hz : GAt W (w.heap.size + 1) g'.n A1 n1 c1 A2 n2 c2) (hB : Below w.heap.size w W) (hG : GrIn W W.heap.size g' A1 n1 A2 n2 us) (h : checkG g) (hg : isG g') :
    bodyPost Tryz.prog Tryz.f5 (fun e w' => NDone w w' g e) Exit.ret a W := by
  obtain ⟨c0, c1', c2'⟩ := hz.cells
  refine bodyPost_ret (v := .tuple #[.agg #[.int .i64 g'.n, .slice A1 n1 c1, .slice A2 n2 c2], .int .i64 0]) ?_ hd ?_
  · rw [Array.getD_eq_getD_getElem?] at ht he
    simp [results, Tryz.results5, ht, he, c0, c1', c2', go_sem]
  · unfold NDone
    rw [if_pos h]
    exact ⟨g', A1, n1, c1, A2, n2, c2, us, rfl, hg, hG, hB⟩
/-- A row of words made normal. -/
def goodRow (l : List ByteArray) : Prop := wordsOk l ∧ riseW l
theorem once_row {l l' : List ByteArray} (h : wordsOk l) (h1 : Rises ltW l') (h2 : ∀ x ∈ l', x ∈ l) (h3 : l'.length ≤ l.length) : goodRow l' := ⟨⟨Nat.le_trans h3 h.1, fun x hx => h.2 x (h2 x hx)⟩, h1⟩
theorem normal_is {g : Gr} (h : checkG g) {es : List Edg} {ls : List (List ByteArray)} (h1 : Rises lessE es) (h2 : ∀ x ∈ es, x ∈ g.es) (h3 : es.length ≤ g.es.length) (h4 : ls.length = g.ws.length) (h5 : ∀ d ∈ ls, goodRow d) : isG ⟨g.n, es, ls⟩ :=
  ⟨⟨h.1, Nat.le_trans h3 h.2.1, by show (ls.length : Int) = g.n; rw [h4]; exact h.2.2.1, fun e he => h.2.2.2.1 e (h2 e he), fun l hl => (h5 l hl).1⟩, h1, fun l hl => (h5 l hl).2⟩
end Go.Proofs.YtmnjlhifjjainaaGreat
