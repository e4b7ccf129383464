/-
  What lies in memory while Step goes through its rounds, and how it is kept.
  In which order messages are gone through plays no part: plain laws.
  What holds while one worker's messages are gone through.
-/
import Derived.Test.YtpdnipabaimofaaGreatJ08
import Derived.Test.YtpdnipabaimofaaGreatJ05
import Derived.Test.YtpdnipabaimofaaGreatJ06
import Derived.Test.YtpdnipabaimofaaGreatJ07
import Derived.WalkArith
namespace Go.Proofs.YtpdnipabaimofaaGreat
open Go.RowKit

/-- The block that a step turns holds cells of type T. -/
def RowT (W : World) (row : Option Nat) (T : TypeId) : Prop := ∀ g, row = some g → ∃ cs fr, W.heap[g]? = some (.cells cs T fr)
section
variable {W W' : World} {row : Option Nat} {T e t : TypeId} {base size n c k : Nat} {A : Option Addr} {xs : List Value} {cs : Array Value} {fr : Nat × Nat}
theorem own_T (h : W.ownsRow base e size (.slice A n c) n xs) (hg : W.grownBy W' row) (hT : RowT W row T) (hne : e ≠ T) : W'.ownsRow base e size (.slice A n c) n xs := by
  refine h.kept hg ?_
  rcases h.2 with ⟨hv, -⟩ | ⟨g, cap, cur, hv, -, hb, -⟩
  · rw [hv]; exact .inl rfl
  · rw [hv]
    refine .inr fun e' => ?_
    have e' : some g = row := e'
    obtain ⟨cs, fr, h2⟩ := hT g e'.symm
    rw [hb] at h2
    injection h2 with h2
    injection h2 with _ h3
    exact hne h3
theorem box_T (h : W.heap[k]? = some (.cells cs t fr)) (hg : W.grownBy W' row) (hT : RowT W row T) (hne : t ≠ T) : W'.heap[k]? = some (.cells cs t fr) :=
  (hg.block k (Array.getElem?_eq_some_iff.1 h).1 (fun e' => by
    obtain ⟨cs', fr', h2⟩ := hT k e'.symm
    rw [h] at h2
    injection h2 with h2
    injection h2 with _ h3
    exact hne h3)).trans h
theorem rows_T {vs : List Value} {rs : List (List Value)} (h : RowsOwn W base e size vs rs) (hg : W.grownBy W' row) (hT : RowT W row T) (hne : e ≠ T) : RowsOwn W' base e size vs rs :=
  h.keep_ fun _ _ _ _ _ ho => own_T ho hg hT hne
theorem others_T (hg : W.grownBy W' row) (hT : RowT W row T) : KeepsOthers W W' :=
  ⟨hg.size, fun k o hk ho => (hg.block k (Array.getElem?_eq_some_iff.1 hk).1 (fun e' => by
    obtain ⟨cs', fr', h2⟩ := hT k e'.symm
    rw [hk] at h2
    injection h2 with h2
    rw [h2] at ho
    cases ho)).trans hk⟩
theorem rowT_own (h : W.ownsRow base e size (.slice A n c) n xs) : RowT W (A.map (·.block)) e := by
  intro g hg
  rcases h.2 with ⟨hv, -⟩ | ⟨g', cap, cur, hv, -, hb, -⟩
  · cases hv; cases hg
  · cases hv
    injection hg with hg
    subst hg
    exact ⟨_, _, hb⟩
theorem rowT_box (h : W.heap[k]? = some (.cells cs t fr)) : RowT W (some k) t := fun g hg => by cases hg; exact ⟨_, _, h⟩
end

/-- Boxes, rows and marks of Step between its rounds; N the states, T what they send. -/
structure NowAt (w : World) (q : QuA) (a : RwA) (nb : Nat) (Ds : List Nat) (qn : Nat) (vs : List Value) (rs : List (List Value)) (Av : Option Addr) (cv : Nat) (Ao : Option Addr) (co : Nat) (os : List Int) (N T : List Msg) (W : World) : Prop where
  st : StAt w q a W
  ord : W.ownsRow w.heap.size 3 1 (.slice Ao qn co) qn (iv os)
  bx : W.ownsRow w.heap.size 57 1 (.slice Av qn cv) qn vs
  bxlt : ∀ x, Av = some x → x.block < nb
  rows : RowsOwn W w.heap.size 79 4 vs rs
  now : ∃ A n c, W.heap[nb]? = some (.cells #[.slice A n c] 59 (0, 0)) ∧ W.ownsRow w.heap.size 121 4 (.slice A n c) n (mv N)
  sent : ∃ A n c, W.heap[nb + 1]? = some (.cells #[.slice A n c] 57 (0, 0)) ∧ W.ownsRow w.heap.size 79 4 (.slice A n c) n (mv T) ∧ ApartAll vs A
  marks : MarksOk (nb + 2) Ds W
  nblt : w.heap.size + 2 < nb
section
variable {w W W' : World} {q : QuA} {a : RwA} {nb : Nat} {Ds : List Nat} {qn : Nat} {vs : List Value} {rs : List (List Value)} {Av : Option Addr} {cv : Nat} {Ao : Option Addr} {co : Nat} {os : List Int} {N T : List Msg}
theorem NowAt.lt (h : NowAt w q a nb Ds qn vs rs Av cv Ao co os N T W) : nb + 1 < W.heap.size := by
  obtain ⟨A, n, c, h1, _⟩ := h.sent
  exact (Array.getElem?_eq_some_iff.1 h1).1
theorem NowAt.below (h : NowAt w q a nb Ds qn vs rs Av cv Ao co os N T W) (hB : Below W.heap.size W W') : NowAt w q a nb Ds qn vs rs Av cv Ao co os N T W' := by
  obtain ⟨A, n, c, h1, h2⟩ := h.now
  obtain ⟨A', n', c', h3, h4, h5⟩ := h.sent
  have hl := h.lt
  exact ⟨h.st.step hB, own_below h.ord hB, own_below h.bx hB, h.bxlt, h.rows.below hB, ⟨A, n, c, (hB.block _ (by omega)).trans h1, own_below h2 hB⟩, ⟨A', n', c', (hB.block _ (by omega)).trans h3, own_below h4 hB, h5⟩, h.marks.below hB, h.nblt⟩
/-- Kept where a block that is no cells is turned, none of the marks. -/
theorem NowAt.own (h : NowAt w q a nb Ds qn vs rs Av cv Ao co os N T W) {row : Option Nat} (hg : W.grownBy W' row) (hr : ∀ r, row = some r → r ∉ Ds ∧ w.heap.size ≤ r ∧ ∃ o : Obj, W.heap[r]? = some o ∧ o.isCells = false) : NowAt w q a nb Ds qn vs rs Av cv Ao co os N T W' := by
  have hbx : ∀ {k cs t fr}, W.heap[k]? = some (Obj.cells cs t fr) → W'.heap[k]? = some (Obj.cells cs t fr) := fun {k cs t fr} hk =>
    (hg.block k (Array.getElem?_eq_some_iff.1 hk).1 (fun e' => by
      obtain ⟨_, _, o, ho, hc⟩ := hr k e'.symm
      rw [hk] at ho; cases ho; cases hc)).trans hk
  have how : ∀ {base e size A n c xs}, W.ownsRow base e size (.slice A n c) n xs → W'.ownsRow base e size (.slice A n c) n xs := fun {base e size A n c xs} ho => by
    refine ho.kept hg ?_
    rcases ho.2 with ⟨hv, -⟩ | ⟨g, cap, cur, hv, -, hb, -⟩
    · rw [hv]; exact .inl rfl
    · rw [hv]
      refine .inr fun e' => ?_
      have e' : some g = row := e'
      obtain ⟨_, _, o, ho, hc⟩ := hr g e'.symm
      rw [hb] at ho; cases ho; cases hc
  have hBw : Below w.heap.size w W' := h.st.bel.grown hg h.st.bel.size (fun k hk => (hr k hk).2.1)
  obtain ⟨A, n, c, h1, h2⟩ := h.now
  obtain ⟨A', n', c', h3, h4, h5⟩ := h.sent
  exact ⟨⟨hbx h.st.q_, hbx h.st.r_, hbx h.st.n_, hBw⟩, how h.ord, how h.bx, h.bxlt, h.rows.keep_ fun _ _ _ _ _ ho => how ho, ⟨A, n, c, hbx h1, how h2⟩, ⟨A', n', c', hbx h3, how h4, h5⟩,
    ⟨h.marks.nodup, fun D hD => ⟨(h.marks.at_ D hD).1, (hg.block D (h.marks.lt hD) (fun e' => (hr D e'.symm).1 hD)).trans (h.marks.at_ D hD).2⟩⟩, h.nblt⟩
theorem StAt.typ (h : StAt w q a W) {row : Option Nat} {T : TypeId} (hg : W.grownBy W' row) (hT : RowT W row T) (h1 : 24 ≠ T) (h2 : 27 ≠ T) (h3 : 3 ≠ T) (hB : Below w.heap.size w W') : StAt w q a W' :=
  ⟨box_T h.q_ hg hT h1, box_T h.r_ hg hT h2, box_T h.n_ hg hT h3, hB⟩
/-- The states grow. -/
theorem NowAt.grow_now (h : NowAt w q a nb Ds qn vs rs Av cv Ao co os N T W) {A A' : Option Addr} {n c n' c' : Nat} {N' : List Msg} (hb : W.heap[nb]? = some (.cells #[.slice A n c] 59 (0, 0))) (ho : W.ownsRow w.heap.size 121 4 (.slice A n c) n (mv N))
    (p : Pushed W W' A A') (ho1 : W'.ownsRow w.heap.size 121 4 (.slice A' n' c') n' (mv N')) :
    NowAt w q a nb Ds qn vs rs Av cv Ao co os N' T (W'.setCell ⟨nb, 0, none⟩ (.slice A' n' c')) ∧ KeepsOthers W (W'.setCell ⟨nb, 0, none⟩ (.slice A' n' c')) := by
  have hT1 : RowT W (A.map (·.block)) 121 := rowT_own ho
  have hg1 := p.grown
  have hb1 : Boxed W' nb 59 (.slice A n c) := box_T hb hg1 hT1 (by decide)
  have hg2 := grownBy_setCell' W' nb (.slice A' n' c')
  have hT2 : RowT W' (some nb) 59 := rowT_box hb1
  have hB1 : Below w.heap.size w W' := p.below ho h.st.bel (Nat.le_refl _) h.st.bel.size
  have hB2 : Below w.heap.size w (W'.setCell ⟨nb, 0, none⟩ (.slice A' n' c')) := hB1.setCell (p := ⟨nb, 0, none⟩) (by have := h.nblt; show _ ≤ nb; omega) _
  obtain ⟨A2, n2, c2, h3, h4, h5⟩ := h.sent
  exact ⟨⟨(h.st.typ hg1 hT1 (by decide) (by decide) (by decide) hB1).typ hg2 hT2 (by decide) (by decide) (by decide) hB2, own_T (own_T h.ord hg1 hT1 (by decide)) hg2 hT2 (by decide), own_T (own_T h.bx hg1 hT1 (by decide)) hg2 hT2 (by decide), h.bxlt,
    rows_T (rows_T h.rows hg1 hT1 (by decide)) hg2 hT2 (by decide), ⟨A', n', c', hb1.set _, own_T ho1 hg2 hT2 (by decide)⟩, ⟨A2, n2, c2, box_T (box_T h3 hg1 hT1 (by decide)) hg2 hT2 (by decide), own_T (own_T h4 hg1 hT1 (by decide)) hg2 hT2 (by decide), h5⟩,
    h.marks.keeps (fun D _ hD => (others_T hg2 hT2).same D _ ((others_T hg1 hT1).same D _ hD rfl) rfl), h.nblt⟩, (others_T hg1 hT1).trans (others_T hg2 hT2)⟩
/-- What is sent grows. -/
theorem NowAt.grow_sent (h : NowAt w q a nb Ds qn vs rs Av cv Ao co os N T W) {A A' : Option Addr} {n c n' c' : Nat} {T' : List Msg} (hb : W.heap[nb + 1]? = some (.cells #[.slice A n c] 57 (0, 0))) (ho : W.ownsRow w.heap.size 79 4 (.slice A n c) n (mv T)) (ha : ApartAll vs A)
    (p : Pushed W W' A A') (ho1 : W'.ownsRow w.heap.size 79 4 (.slice A' n' c') n' (mv T')) :
    NowAt w q a nb Ds qn vs rs Av cv Ao co os N T' (W'.setCell ⟨nb + 1, 0, none⟩ (.slice A' n' c')) ∧ KeepsOthers W (W'.setCell ⟨nb + 1, 0, none⟩ (.slice A' n' c')) := by
  have hT1 : RowT W (A.map (·.block)) 79 := rowT_own ho
  have hg1 := p.grown
  have hb1 : Boxed W' (nb + 1) 57 (.slice A n c) := box_T hb hg1 hT1 (by decide)
  have hg2 := grownBy_setCell' W' (nb + 1) (.slice A' n' c')
  have hT2 : RowT W' (some (nb + 1)) 57 := rowT_box hb1
  have hB1 : Below w.heap.size w W' := p.below ho h.st.bel (Nat.le_refl _) h.st.bel.size
  have hB2 : Below w.heap.size w (W'.setCell ⟨nb + 1, 0, none⟩ (.slice A' n' c')) := hB1.setCell (p := ⟨nb + 1, 0, none⟩) (by have := h.nblt; show _ ≤ nb + 1; omega) _
  obtain ⟨A2, n2, c2, h3, h4⟩ := h.now
  have hbx2 : (W'.setCell ⟨nb + 1, 0, none⟩ (.slice A' n' c')).ownsRow w.heap.size 57 1 (.slice Av qn cv) qn vs := by
    refine (own_T h.bx hg1 hT1 (by decide)).kept hg2 ?_
    rw [own_block]
    cases hA : Av with
    | none => exact .inl rfl
    | some x => exact .inr (by have := h.bxlt x hA; simp; omega)
  exact ⟨⟨(h.st.typ hg1 hT1 (by decide) (by decide) (by decide) hB1).typ hg2 hT2 (by decide) (by decide) (by decide) hB2, own_T (own_T h.ord hg1 hT1 (by decide)) hg2 hT2 (by decide), hbx2, h.bxlt,
    rows_T (h.rows.kept p ha) hg2 hT2 (by decide), ⟨A2, n2, c2, box_T (box_T h3 hg1 hT1 (by decide)) hg2 hT2 (by decide), own_T (own_T h4 hg1 hT1 (by decide)) hg2 hT2 (by decide)⟩, ⟨A', n', c', hb1.set _, own_T ho1 hg2 hT2 (by decide), h.rows.apart p ha⟩,
    h.marks.keeps (fun D _ hD => (others_T hg2 hT2).same D _ ((others_T hg1 hT1).same D _ hD rfl) rfl), h.nblt⟩, (others_T hg1 hT1).trans (others_T hg2 hT2)⟩
end
section
variable {n₀ bw bk bm nm cm nb : Nat} {q : QuA} {a : RwA} {M : Option Addr} {ms : List Msg} {X X' : World} {A A' : Option Addr} {n c n' c' : Nat} {N T : List Msg} {base : Nat}
theorem WkAt.grow_now (h : WkAt n₀ bw bk bm q a M nm cm ms X) (hb : X.heap[nb]? = some (.cells #[.slice A n c] 59 (0, 0))) (ho : X.ownsRow base 121 4 (.slice A n c) n (mv N)) (hn : n₀ ≤ base) (hnb : n₀ ≤ nb) (p : Pushed X X' A A') :
    WkAt n₀ bw bk bm q a M nm cm ms (X'.setCell ⟨nb, 0, none⟩ (.slice A' n' c')) := by
  have hT1 : RowT X (A.map (·.block)) 121 := rowT_own ho
  have hg1 := p.grown
  have hb1 : Boxed X' nb 59 (.slice A n c) := box_T hb hg1 hT1 (by decide)
  have hg2 := grownBy_setCell' X' nb (.slice A' n' c')
  have hT2 : RowT X' (some nb) 59 := rowT_box hb1
  have hB1 : Below n₀ X X' := p.below ho (Below.refl _ _) hn h.n_
  have hB2 : Below n₀ X (X'.setCell ⟨nb, 0, none⟩ (.slice A' n' c')) := hB1.setCell (p := ⟨nb, 0, none⟩) hnb _
  exact ⟨box_T (box_T h.w_ hg1 hT1 (by decide)) hg2 hT2 (by decide), box_T (box_T h.k_ hg1 hT1 (by decide)) hg2 hT2 (by decide), h.r_.below hB2, own_T (own_T h.m_ hg1 hT1 (by decide)) hg2 hT2 (by decide), Nat.le_trans h.n_ hB2.size⟩
theorem WkAt.grow_sent (h : WkAt n₀ bw bk bm q a M nm cm ms X) (hb : X.heap[nb]? = some (.cells #[.slice A n c] 57 (0, 0))) (ho : X.ownsRow base 79 4 (.slice A n c) n (mv T)) (hap : Apart M A) (hn : n₀ ≤ base) (hnb : n₀ ≤ nb) (p : Pushed X X' A A') :
    WkAt n₀ bw bk bm q a M nm cm ms (X'.setCell ⟨nb, 0, none⟩ (.slice A' n' c')) ∧ Apart M A' := by
  have hT1 : RowT X (A.map (·.block)) 79 := rowT_own ho
  have hg1 := p.grown
  have hb1 : Boxed X' nb 57 (.slice A n c) := box_T hb hg1 hT1 (by decide)
  have hg2 := grownBy_setCell' X' nb (.slice A' n' c')
  have hT2 : RowT X' (some nb) 57 := rowT_box hb1
  have hB1 : Below n₀ X X' := p.below ho (Below.refl _ _) hn h.n_
  have hB2 : Below n₀ X (X'.setCell ⟨nb, 0, none⟩ (.slice A' n' c')) := hB1.setCell (p := ⟨nb, 0, none⟩) hnb _
  exact ⟨⟨box_T (box_T h.w_ hg1 hT1 (by decide)) hg2 hT2 (by decide), box_T (box_T h.k_ hg1 hT1 (by decide)) hg2 hT2 (by decide), h.r_.below hB2, own_T (p.keep h.m_ hap) hg2 hT2 (by decide), Nat.le_trans h.n_ hB2.size⟩, p.apart h.m_ hap⟩
/-- Kept where a block that is no cells is turned. -/
theorem WkAt.own (h : WkAt n₀ bw bk bm q a M nm cm ms X) {row : Option Nat} (hg : X.grownBy X' row) (hr : ∀ r, row = some r → n₀ ≤ r ∧ ∃ o : Obj, X.heap[r]? = some o ∧ o.isCells = false) : WkAt n₀ bw bk bm q a M nm cm ms X' := by
  have hbx : ∀ {k cs t fr}, X.heap[k]? = some (Obj.cells cs t fr) → X'.heap[k]? = some (Obj.cells cs t fr) := fun {k cs t fr} hk =>
    (hg.block k (Array.getElem?_eq_some_iff.1 hk).1 (fun e' => by
      obtain ⟨_, o, ho, hc⟩ := hr k e'.symm
      rw [hk] at ho; cases ho; cases hc)).trans hk
  have hB : Below n₀ X X' := (Below.refl _ _).grown hg h.n_ (fun k hk => (hr k hk).1)
  refine ⟨hbx h.w_, hbx h.k_, h.r_.below hB, ?_, Nat.le_trans h.n_ hg.size⟩
  refine h.m_.kept hg ?_
  rcases h.m_.2 with ⟨hv, -⟩ | ⟨g, cap, cur, hv, -, hb, -⟩
  · rw [hv]; exact .inl rfl
  · rw [hv]
    refine .inr fun e' => ?_
    have e' : some g = row := e'
    obtain ⟨_, o, ho, hc⟩ := hr g e'.symm
    rw [hb] at ho; cases ho; cases hc
end
end Go.Proofs.YtpdnipabaimofaaGreat

namespace Go.Proofs.YtpdnipabaimofaaGreat

theorem snoc_indR {α : Type} {p : List α → Prop} (h0 : p []) (h1 : ∀ l x, p l → p (l ++ [x])) : ∀ l, p l := by
  intro l
  have : ∀ n, ∀ l : List α, l.length = n → p l := by
    intro n
    induction n with
    | zero => intro l hl; rw [List.eq_nil_of_length_eq_zero hl]; exact h0
    | succ n ih =>
      intro l hl
      rcases List.eq_nil_or_concat l with h | ⟨l', x, h⟩
      · rw [h] at hl; simp at hl
      · rw [List.concat_eq_append] at h
        subst h
        exact h1 l' x (ih l' (by simpa using hl))
  exact this l.length l rfl
theorem flat_setR {α : Type} (x : α) (r : List α) : ∀ (L : List (List α)) (i : Nat), L[i]? = some r → (L.set i (r ++ [x])).flatten.Perm (L.flatten ++ [x])
  | [], i, h => by simp at h
  | a :: L, 0, h => by
    simp at h
    subst h
    simp only [List.set_cons_zero, List.flatten_cons, List.append_assoc]
    exact List.Perm.append_left _ List.perm_append_comm
  | a :: L, i + 1, h => by
    simp only [List.set_cons_succ, List.flatten_cons, List.append_assoc]
    exact List.Perm.append_left _ (flat_setR x r L i (by simpa using h))
theorem parted_permR (k : Nat) (h1 : 1 ≤ k) (h2 : k ≤ 16) : ∀ ms : List Msg, allMay ms → (parted ms k).flatten.Perm ms := by
  refine snoc_indR (fun _ => ?_) fun l x ih hm => ?_
  · rw [parted_nil]
    have : (List.replicate k ([] : List Msg)).flatten = [] := by
      rw [List.flatten_eq_nil_iff]
      intro a ha
      exact (List.mem_replicate.1 ha).2
    rw [this]
  · have hx := (home_lt (hm x (by simp)) h1 h2).2.2
    rw [parted_snoc _ _ _ hx]
    refine (flat_setR x _ _ _ (parted_get _ _ _ hx)).trans ?_
    exact List.Perm.append_right _ (ih fun m hm' => hm m (by simp [hm']))

theorem perm_flatMapR {α β : Type} {f g : α → List β} : ∀ l : List α, (∀ a ∈ l, (f a).Perm (g a)) → (l.flatMap f).Perm (l.flatMap g)
  | [], _ => by simp
  | x :: l, h => by
    rw [List.flatMap_cons, List.flatMap_cons]
    exact (h x (by simp)).append (perm_flatMapR l fun a ha => h a (by simp [ha]))
/-- One worker's messages, in the order that picks tell. -/
def homesL (f : List Msg) (qn : Nat) (ps : List Int) (i : Int) : List Msg := Go.Proofs.YtpdnipabaimofaaGreat.ord (ofHome f qn i.toNat) ps
/-- What has been gone through. -/
def doneL (f : List Msg) (qn : Nat) (ps : List Int) (os : List Int) : List Msg := os.flatMap (homesL f qn ps)
theorem doneL_perm {f : List Msg} {qn : Nat} (ps : List Int) (hm : allMay f) (h1 : 1 ≤ qn) (h2 : qn ≤ 16) : (doneL f qn ps (ord (upto qn) ps)).Perm f := by
  unfold doneL
  refine ((perm_ord (upto qn) ps).flatMap_right _).trans ?_
  have e : (upto qn).flatMap (homesL f qn ps) = (List.range qn).flatMap fun i => ord (ofHome f qn i) ps := by
    unfold upto
    rw [List.flatMap_map]
    congr 1
  rw [e]
  refine (perm_flatMapR _ (fun i _ => perm_ord (ofHome f qn i) ps)).trans ?_
  have h3 := parted_permR qn h1 h2 f hm
  unfold parted at h3
  rw [← List.flatMap_def] at h3
  exact h3
theorem doneL_take {f : List Msg} {qn : Nat} (ps : List Int) (hm : allMay f) (h1 : 1 ≤ qn) (h2 : qn ≤ 16) (j : Nat) : (doneL f qn ps ((ord (upto qn) ps).take j)).length ≤ f.length := by
  rw [← (doneL_perm ps hm h1 h2).length_eq]
  unfold doneL
  rw [← List.take_append_drop j (ord (upto qn) ps), List.flatMap_append, List.length_append]
  rw [List.take_append_drop]
  omega
theorem doneL_step {f : List Msg} {qn : Nat} (ps : List Int) {os : List Int} {j : Nat} {i : Int} (h : os[j]? = some i) : doneL f qn ps (os.take (j + 1)) = doneL f qn ps (os.take j) ++ homesL f qn ps i := by
  unfold doneL
  rw [List.take_add_one, h, List.flatMap_append]
  simp
theorem ord_mem {qn : Nat} {ps : List Int} {i : Int} (h : i ∈ ord (upto qn) ps) : ∃ m : Nat, i = (m : Int) ∧ m < qn := by
  have := (perm_ord (upto qn) ps).mem_iff.1 h
  unfold upto at this
  obtain ⟨m, hm, rfl⟩ := List.mem_map.1 this
  exact ⟨m, rfl, List.mem_range.1 hm⟩
theorem homesL_mem {f : List Msg} {qn : Nat} {ps : List Int} {i : Int} {m : Msg} (h : m ∈ homesL f qn ps i) : m ∈ f := by
  have := (perm_ord (ofHome f qn i.toNat) ps).mem_iff.1 h
  exact (List.mem_filter.1 this).1
theorem doneL_mem {f : List Msg} {qn : Nat} {ps : List Int} {os : List Int} {m : Msg} (h : m ∈ doneL f qn ps os) : m ∈ f := by
  obtain ⟨i, _, hm⟩ := List.mem_flatMap.1 h
  exact homesL_mem hm
theorem flatMap_len {α β : Type} (g : α → List β) (b : Nat) : ∀ (l : List α), (∀ x ∈ l, (g x).length ≤ b) → (l.flatMap g).length ≤ l.length * b
  | [], _ => by simp
  | x :: l, h => by
    have h1 := flatMap_len g b l (fun y hy => h y (by simp [hy]))
    have h2 := h x (by simp)
    rw [List.flatMap_cons, List.length_append, List.length_cons, Nat.add_mul]
    omega
end Go.Proofs.YtpdnipabaimofaaGreat

namespace Go.Proofs.YtpdnipabaimofaaGreat
open Go.RowKit Go.Shelf

structure RdAt (w : World) (q : QuA) (a : RwA) (nb : Nat) (Ds : List Nat) (qn : Nat) (vs : List Value) (rs : List (List Value)) (Av : Option Addr) (cv : Nat) (Ao : Option Addr) (co : Nat) (os : List Int) (bw bk bm : Nat) (M : Option Addr) (nm cm : Nat) (ms : List Msg) (sz : Nat) (N T : List Msg) (W : World) : Prop where
  at_ : NowAt w q a nb Ds qn vs rs Av cv Ao co os N T W
  wk : WkAt w.heap.size bw bk bm q a M nm cm ms W
  ap : ∀ A n c, W.heap[nb + 1]? = some (.cells #[.slice A n c] 57 (0, 0)) → Apart M A
  sz_ : sz ≤ W.heap.size
  ds : ∀ D ∈ Ds, D < sz
  ws : w.heap.size ≤ sz
section
variable {w W W' : World} {q : QuA} {a : RwA} {nb : Nat} {Ds : List Nat} {qn : Nat} {vs : List Value} {rs : List (List Value)} {Av : Option Addr} {cv : Nat} {Ao : Option Addr} {co : Nat} {os : List Int} {bw bk bm : Nat} {M : Option Addr} {nm cm : Nat} {ms : List Msg} {sz : Nat} {N T : List Msg}
theorem RdAt.below (h : RdAt w q a nb Ds qn vs rs Av cv Ao co os bw bk bm M nm cm ms sz N T W) (hB : Below W.heap.size W W') : RdAt w q a nb Ds qn vs rs Av cv Ao co os bw bk bm M nm cm ms sz N T W' :=
  ⟨h.at_.below hB, h.wk.below hB, fun A n c hh => h.ap A n c ((hB.block _ h.at_.lt).symm.trans hh), Nat.le_trans h.sz_ hB.size, h.ds, h.ws⟩
theorem RdAt.own_ (h : RdAt w q a nb Ds qn vs rs Av cv Ao co os bw bk bm M nm cm ms sz N T W) {row : Option Nat} (hg : W.grownBy W' row) (hr : ∀ r, row = some r → sz ≤ r ∧ ∃ o : Obj, W.heap[r]? = some o ∧ o.isCells = false) : RdAt w q a nb Ds qn vs rs Av cv Ao co os bw bk bm M nm cm ms sz N T W' := by
  have h1 : ∀ r, row = some r → r ∉ Ds ∧ w.heap.size ≤ r ∧ ∃ o : Obj, W.heap[r]? = some o ∧ o.isCells = false := fun r e => by
    obtain ⟨h2, h3⟩ := hr r e
    exact ⟨fun hD => by have := h.ds r hD; omega, Nat.le_trans h.ws h2, h3⟩
  refine ⟨h.at_.own hg h1, h.wk.own hg (fun r e => (h1 r e).2), fun A n c hh => ?_, Nat.le_trans h.sz_ hg.size, h.ds, h.ws⟩
  obtain ⟨A2, n2, c2, h3, -⟩ := h.at_.sent
  have h4 : W'.heap[nb + 1]? = W.heap[nb + 1]? := hg.block _ h.at_.lt (fun e' => by
    obtain ⟨_, _, o, ho, hc⟩ := h1 _ e'.symm
    rw [h3] at ho; cases ho; cases hc)
  exact h.ap A n c (h4.symm.trans hh)
theorem RdAt.grow_now (h : RdAt w q a nb Ds qn vs rs Av cv Ao co os bw bk bm M nm cm ms sz N T W) {A A' : Option Addr} {n c n' c' : Nat} {N' : List Msg} (hb : W.heap[nb]? = some (.cells #[.slice A n c] 59 (0, 0))) (ho : W.ownsRow w.heap.size 121 4 (.slice A n c) n (mv N))
    (p : Pushed W W' A A') (ho1 : W'.ownsRow w.heap.size 121 4 (.slice A' n' c') n' (mv N')) :
    RdAt w q a nb Ds qn vs rs Av cv Ao co os bw bk bm M nm cm ms sz N' T (W'.setCell ⟨nb, 0, none⟩ (.slice A' n' c')) ∧ KeepsOthers W (W'.setCell ⟨nb, 0, none⟩ (.slice A' n' c')) := by
  obtain ⟨h1, h2⟩ := h.at_.grow_now hb ho p ho1
  refine ⟨⟨h1, h.wk.grow_now hb ho (Nat.le_refl _) (by have := h.at_.nblt; omega) p, fun A2 n2 c2 hh => ?_, Nat.le_trans h.sz_ h2.size, h.ds, h.ws⟩, h2⟩
  obtain ⟨A3, n3, c3, h3, -⟩ := h.at_.sent
  have hT1 : RowT W (A.map (·.block)) 121 := rowT_own ho
  have hb1 : Boxed W' nb 59 (.slice A n c) := box_T hb p.grown hT1 (by decide)
  have h4 := box_T (box_T h3 p.grown hT1 (by decide)) (grownBy_setCell' W' nb (.slice A' n' c')) (rowT_box hb1) (by decide)
  rw [hh] at h4
  simp at h4
  obtain ⟨rfl, rfl, rfl⟩ := h4
  exact h.ap _ _ _ h3
theorem RdAt.grow_sent (h : RdAt w q a nb Ds qn vs rs Av cv Ao co os bw bk bm M nm cm ms sz N T W) {A A' : Option Addr} {n c n' c' : Nat} {T' : List Msg} (hb : W.heap[nb + 1]? = some (.cells #[.slice A n c] 57 (0, 0))) (ho : W.ownsRow w.heap.size 79 4 (.slice A n c) n (mv T)) (ha : ApartAll vs A)
    (p : Pushed W W' A A') (ho1 : W'.ownsRow w.heap.size 79 4 (.slice A' n' c') n' (mv T')) :
    RdAt w q a nb Ds qn vs rs Av cv Ao co os bw bk bm M nm cm ms sz N T' (W'.setCell ⟨nb + 1, 0, none⟩ (.slice A' n' c')) ∧ KeepsOthers W (W'.setCell ⟨nb + 1, 0, none⟩ (.slice A' n' c')) := by
  obtain ⟨h1, h2⟩ := h.at_.grow_sent hb ho ha p ho1
  obtain ⟨h3, h4⟩ := h.wk.grow_sent hb ho (h.ap _ _ _ hb) (Nat.le_refl _) (by have := h.at_.nblt; omega) p (n' := n') (c' := c')
  refine ⟨⟨h1, h3, fun A2 n2 c2 hh => ?_, Nat.le_trans h.sz_ h2.size, h.ds, h.ws⟩, h2⟩
  have hT1 : RowT W (A.map (·.block)) 79 := rowT_own ho
  have hb1 : Boxed W' (nb + 1) 57 (.slice A n c) := box_T hb p.grown hT1 (by decide)
  have h5 : Boxed _ (nb + 1) 57 (.slice A' n' c') := hb1.set (.slice A' n' c')
  unfold Boxed at h5
  rw [hh] at h5
  simp at h5
  obtain ⟨rfl, rfl, rfl⟩ := h5
  exact h4
/-- What is handed over is kept where a row of another type grows, and its box. -/
theorem sent_grow_now {n₁ : Nat} {kind radius : Int} {r : Rws} {x : WkE} (h : WkSent n₁ kind radius r x W) {A A' : Option Addr} {n c n' c' base : Nat} {N : List Msg} (hb : W.heap[nb]? = some (.cells #[.slice A n c] 59 (0, 0))) (ho : W.ownsRow base 121 4 (.slice A n c) n (mv N))
    (p : Pushed W W' A A') : WkSent n₁ kind radius r x (W'.setCell ⟨nb, 0, none⟩ (.slice A' n' c')) := by
  have hT1 : RowT W (A.map (·.block)) 121 := rowT_own ho
  have hb1 : Boxed W' nb 59 (.slice A n c) := box_T hb p.grown hT1 (by decide)
  exact ⟨h.1, own_T (own_T h.2 p.grown hT1 (by decide)) (grownBy_setCell' W' nb (.slice A' n' c')) (rowT_box hb1) (by decide)⟩
theorem sent_own {n₁ : Nat} {kind radius : Int} {r : Rws} (B : Nat) : OwnFrom B (WkSent n₁ kind radius r) := fun x W W' row hs hg hr => by
  refine ⟨hs.1, hs.2.kept hg ?_⟩
  rcases hs.2.2 with ⟨hv, -⟩ | ⟨g, cap, cur, hv, -, hb, -⟩
  · rw [hv]; exact .inl rfl
  · rw [hv]
    refine .inr fun e' => ?_
    have e' : some g = row := e'
    obtain ⟨_, o, ho, hc⟩ := hr g e'.symm
    rw [hb] at ho; cases ho; cases hc
theorem cells_own {α : Type} (B : Nat) {k : Nat} {cs : Array Value} {t : TypeId} {fr : Nat × Nat} : OwnFrom B (fun (_ : α) (W : World) => W.heap[k]? = some (.cells cs t fr)) := fun _ W W' row hs hg hr =>
  (hg.block k (Array.getElem?_eq_some_iff.1 hs).1 (fun e => by
    obtain ⟨_, o, ho, hc⟩ := hr k e.symm
    rw [hs] at ho; cases ho; cases hc)).trans hs
end
section
variable {w W W' : World} {q : QuA} {a : RwA} {nb : Nat} {Ds : List Nat} {qn : Nat} {vs : List Value} {rs : List (List Value)} {Av : Option Addr} {cv : Nat} {Ao : Option Addr} {co : Nat} {os : List Int} {bw bk bm : Nat} {M : Option Addr} {nm cm : Nat} {ms : List Msg} {sz : Nat} {N T : List Msg}
/-- A range is done: its mark lies behind. -/
theorem RdAt.next (h : RdAt w q a nb Ds qn vs rs Av cv Ao co os bw bk bm M nm cm ms sz N T W) {D : Nat} (hD : sz ≤ D) (hdef : W.heap[D]? = some (.deferred (some []))) (hn : nb + 2 ≤ sz) : NowAt w q a nb (D :: Ds) qn vs rs Av cv Ao co os N T W :=
  ⟨h.at_.st, h.at_.ord, h.at_.bx, h.at_.bxlt, h.at_.rows, h.at_.now, h.at_.sent, h.at_.marks.cons (Nat.le_trans hn hD) (fun hm => by have := h.ds D hm; omega) hdef, h.at_.nblt⟩
/-- The states are sorted. -/
theorem NowAt.sorted (h : NowAt w q a nb Ds qn vs rs Av cv Ao co os N T W) {A : Option Addr} {n c : Nat} {N' : List Msg} (hb : W.heap[nb]? = some (.cells #[.slice A n c] 59 (0, 0))) (ho : W.ownsRow w.heap.size 121 4 (.slice A n c) n (mv N))
    (hg : W.grownBy W' (A.map (·.block))) (ho1 : W'.ownsRow w.heap.size 121 4 (.slice A n c) n (mv N')) :
    NowAt w q a nb Ds qn vs rs Av cv Ao co os N' T W' := by
  have hT1 : RowT W (A.map (·.block)) 121 := rowT_own ho
  have hB1 : Below w.heap.size w W' := h.st.bel.grown hg h.st.bel.size (fun k hk => by
    rcases A with _ | x
    · cases hk
    · cases hk; exact (own_lt ho x rfl).1)
  obtain ⟨A2, n2, c2, h3, h4, h5⟩ := h.sent
  exact ⟨h.st.typ hg hT1 (by decide) (by decide) (by decide) hB1, own_T h.ord hg hT1 (by decide), own_T h.bx hg hT1 (by decide), h.bxlt,
    rows_T h.rows hg hT1 (by decide), ⟨A, n, c, box_T hb hg hT1 (by decide), ho1⟩, ⟨A2, n2, c2, box_T h3 hg hT1 (by decide), own_T h4 hg hT1 (by decide), h5⟩,
    h.marks.keeps (fun D _ hD => (others_T hg hT1).same D _ hD rfl), h.nblt⟩
end
theorem fits_small {m : Msg} (h1 : 0 ≤ m.slot ∧ m.slot ≤ 1000000) (h2 : m.dir = 0 ∨ m.dir = 1) (h3 : 0 ≤ m.v ∧ m.v ≤ 1000000) (h4 : 0 ≤ m.d ∧ m.d ≤ 1000000) : m.fits :=
  ⟨WalkArith.wf_i64 (by omega), WalkArith.wf_i64 (by omega), WalkArith.wf_i64 (by omega), WalkArith.wf_i64 (by omega)⟩
theorem may_fits {m : Msg} (h : mayM m) : m.fits := fits_small (by have := h.1.1; omega) h.1.2.1 (by have := h.1.2.2; omega) (by have := h.2; omega)
theorem row_in {r : Rws} (hc : chkR r) {x : Msg} (_ : x.dir = 0 ∨ x.dir = 1) (hv : 0 ≤ x.v ∧ x.v < (r.n : Int)) {u : Int} (hu : u ∈ nxRow r x) : 0 ≤ u ∧ u < (r.n : Int) := by
  have hx : x.v.toNat < r.n := by omega
  unfold Rws.n at hx ⊢
  have e := hc.1
  unfold nxRow rowD at hu
  split at hu
  · have h1 := (hc.2.2.2.1.2 x.v.toNat (List.mem_range.2 (by omega))).1 u hu
    omega
  · exact (hc.2.2.1.2 x.v.toNat (List.mem_range.2 hx)).1 u hu
theorem nx_fits {kind radius : Int} {r : Rws} (hc : chkR r) {x : Msg} (hx : mayM x) (hv : x.v < (r.n : Int)) : ∀ m ∈ nxM kind radius r x, m.fits := fun m hm => by
  have hn : r.off.length ≤ 201 := hc.2.2.1.1.1.2
  unfold nxM at hm
  split at hm
  · simp at hm
  · obtain ⟨u, hu, rfl⟩ := List.mem_map.1 hm
    have h1 := row_in hc hx.1.2.1 ⟨hx.1.2.2.1, hv⟩ hu
    have h2 := hx.1.1
    have h3 := hx.2
    unfold Rws.n at h1
    exact fits_small (by show 0 ≤ x.slot ∧ x.slot ≤ 1000000; omega) hx.1.2.1 (by show 0 ≤ u ∧ u ≤ 1000000; omega) (by show 0 ≤ x.d + 1 ∧ x.d + 1 ≤ 1000000; omega)
/-- How much there is. -/
theorem flat_nx_len {kind radius : Int} {r : Rws} (hc : chkR r) (l : List Msg) (hv : ∀ x ∈ l, 0 ≤ x.v ∧ x.v < (r.n : Int)) : (l.flatMap (nxM kind radius r)).length ≤ l.length * 200 :=
  flatMap_len _ 200 l fun x hx => nxM_len hc x (hv x hx)
theorem good_fresh {S M : List Msg} {k n : Int} (h : stepOk S M k n) : ∀ m ∈ freshL S M, (m.dir = 0 ∨ m.dir = 1) ∧ (0 ≤ m.v ∧ m.v < n) ∧ (0 ≤ m.d ∧ m.d ≤ 200) := fun m hm => by
  have h1 := freshL_mem hm
  have h2 := h.2.1 m h1
  have h3 := h.2.2.1 m h1
  exact ⟨h2.1.2.1, ⟨h2.1.2.2.1, h3⟩, h2.2⟩
end Go.Proofs.YtpdnipabaimofaaGreat
