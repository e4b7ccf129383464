/-
  job.check and steps: the walks; a run as it lies.
-/
import Derived.Test.YtpdnipabaimofaaGreatJ24
import Derived.Test.YtpdnipabaimofaaGreatJ20
import Derived.Test.YtpdnipabaimofaaGreatJ10
import Derived.Test.YtpdnipabaimofaaGreatJ22
namespace Go.Proofs.YtpdnipabaimofaaGreat
open Go.RowKit Go.Shelf Go.Lib

/-- What check tells. -/
def JobChk (w : World) (q : QuA) (a : RwA) (e : Ending) (w' : World) : Prop := ∃ c : Int, e = .returned (.int .i64 c) ∧ (c = 0 → chkR a.r ∧ okQ q ((a.n1 : Int) - 1)) ∧ Below w.heap.size w w'
set_option maxRecDepth 100000 in
set_option maxHeartbeats 4000000 in
theorem jobCheck_c (q : QuA) (a : RwA) (l : List ByteArray) (w : World) (ha : RwIn w w.heap.size a) (h1 : Reads w w.heap.size 1 q.W q.nw (sv l)) (hn : q.nw ≤ maxLen) (hs : bounded l) :
    Calls Tryz.prog 10 #[quVal q, rwVal a] w fun e w' => JobChk w q a e w' := by
  show Calls Tryz.prog 10 #[.agg #[.int .i64 q.kind, .int .i64 q.src, .int .i64 q.dst, .slice q.W q.nw q.cw, .int .i64 q.radius, .int .i64 q.most], .agg #[.slice a.A1 a.n1 a.c1, .slice a.A2 a.n2 a.c2, .slice a.A3 a.n3 a.c3, .slice a.A4 a.n4 a.c4]] w _
  have hb := below_two w (quBox q) (rwBox a)
  have HQ : Hid (((w.alloc (quBox q)).alloc (rwBox a)).heap[w.heap.size]? = some (quBox q)) := (Below.heap_alloc _ _ _ (by simp)).trans (World.alloc_heap_new w _)
  have HR : Hid (((w.alloc (quBox q)).alloc (rwBox a)).heap[w.heap.size + 1]? = some (rwBox a)) := by
    have := World.alloc_heap_new (w.alloc (quBox q)) (rwBox a)
    rw [World.size_alloc] at this
    exact this
  have HB := Lib.hid hb
  have HA := Lib.hid ha
  have H1 := Lib.hid h1
  have HS := Lib.hid hs
  have hm1 := ha.m1
  unfold maxLen at hm1
  have hn' := Lib.hid hn
  unfold quBox rwBox at HQ HR HB
  clear hb ha h1 hs hn
  go_enter Tryz.func10, Tryz.ntmps10
  go_wp2_with (fail)
  refine (rowsCheck_c a _ ((HA.out.below HB.out).more HB.out.size)).mono ?_
  rintro e w1 ⟨rfl, hB1⟩
  have HQ1 : Hid (w1.heap[w.heap.size]? = some (quBox q)) := (hB1.block _ (Array.getElem?_eq_some_iff.1 HQ.out).1).trans HQ.out
  have HR1 : Hid (w1.heap[w.heap.size + 1]? = some (rwBox a)) := (hB1.block _ (Array.getElem?_eq_some_iff.1 HR.out).1).trans HR.out
  have HB1 := Lib.hid (HB.out.trans (hB1.mono HB.out.size))
  clear hB1 HQ HR HB
  by_cases hc : chkR a.r
  · rw [decide_eq_true hc]
    have HC := Lib.hid hc
    clear hc
    obtain ⟨q0, q1, q2, q3, q4, q5⟩ : w1.cell? ⟨w.heap.size, 0, none⟩ = some (.int .i64 q.kind) ∧ w1.cell? ⟨w.heap.size, 1, none⟩ = some (.int .i64 q.src) ∧ w1.cell? ⟨w.heap.size, 2, none⟩ = some (.int .i64 q.dst) ∧ w1.cell? ⟨w.heap.size, 3, none⟩ = some (.slice q.W q.nw q.cw) ∧ w1.cell? ⟨w.heap.size, 4, none⟩ = some (.int .i64 q.radius) ∧ w1.cell? ⟨w.heap.size, 5, none⟩ = some (.int .i64 q.most) := by
      refine ⟨?_, ?_, ?_, ?_, ?_, ?_⟩ <;> · rw [Lib.cell_of_heap HQ1.out]; rfl
    have r0 : w1.cell? ⟨w.heap.size + 1, 0, none⟩ = some (.slice a.A1 a.n1 a.c1) := by rw [Lib.cell_of_heap HR1.out]; rfl
    go_wp2_with (fail)
    refine (check18_c q ((a.n1 : Int) - 1) w1 l ((H1.out.below HB1.out).more HB1.out.size) hn'.out HS.out).mono ?_
    rintro e w2 ⟨cc, rfl, hok, hB2⟩
    have HOK := Lib.hid hok
    have HB2 := Lib.hid (HB1.out.trans (hB2.mono HB1.out.size))
    clear hB2 hok q0 q1 q2 q3 q4 q5 r0
    go_wp2_with (fail)
    go_ret
    exact ⟨cc, rfl, fun h => ⟨HC.out, HOK.out h⟩, HB2.out⟩
  · rw [decide_eq_false hc]
    clear hc
    go_wp2_with (fail)
    go_ret
    exact ⟨40, rfl, fun h => absurd h (by decide), HB1.out⟩
set_option maxRecDepth 100000 in
set_option maxHeartbeats 4000000 in
theorem jobCheckFar_c (q : QuA) (a : RwA) (w : World) (ha : RwIn w w.heap.size a) (hc : chkR a.r) (hk : q.kind = 1) (h1 : 0 ≤ q.src ∧ q.src < (a.r.n : Int)) (h2 : 0 ≤ q.dst ∧ q.dst < (a.r.n : Int)) :
    Calls Tryz.prog 10 #[quVal q, rwVal a] w fun e w' => e = .returned (.int .i64 0) ∧ Below w.heap.size w w' := by
  show Calls Tryz.prog 10 #[.agg #[.int .i64 q.kind, .int .i64 q.src, .int .i64 q.dst, .slice q.W q.nw q.cw, .int .i64 q.radius, .int .i64 q.most], .agg #[.slice a.A1 a.n1 a.c1, .slice a.A2 a.n2 a.c2, .slice a.A3 a.n3 a.c3, .slice a.A4 a.n4 a.c4]] w _
  have hb := below_two w (quBox q) (rwBox a)
  have HQ : Hid (((w.alloc (quBox q)).alloc (rwBox a)).heap[w.heap.size]? = some (quBox q)) := (Below.heap_alloc _ _ _ (by simp)).trans (World.alloc_heap_new w _)
  have HR : Hid (((w.alloc (quBox q)).alloc (rwBox a)).heap[w.heap.size + 1]? = some (rwBox a)) := by
    have := World.alloc_heap_new (w.alloc (quBox q)) (rwBox a)
    rw [World.size_alloc] at this
    exact this
  have HCF : Hid (∀ W, Calls Tryz.prog 21 #[quVal q, .int .i64 ((a.n1 : Int) - 1)] W fun e w' => e = .returned (.int .i64 0) ∧ Below W.heap.size W w') := fun W => by
    rw [rw_n ha hc]
    exact check18_far q _ W hk h1 h2
  have HB := Lib.hid hb
  have HA := Lib.hid ha
  have HC := Lib.hid hc
  have hm1 := ha.m1
  unfold maxLen at hm1
  unfold quBox rwBox at HQ HR HB
  clear hb ha h1 h2 hc hk
  go_enter Tryz.func10, Tryz.ntmps10
  go_wp2_with (fail)
  refine (rowsCheck_c a _ ((HA.out.below HB.out).more HB.out.size)).mono ?_
  rintro e w1 ⟨rfl, hB1⟩
  have HQ1 : Hid (w1.heap[w.heap.size]? = some (quBox q)) := (hB1.block _ (Array.getElem?_eq_some_iff.1 HQ.out).1).trans HQ.out
  have HR1 : Hid (w1.heap[w.heap.size + 1]? = some (rwBox a)) := (hB1.block _ (Array.getElem?_eq_some_iff.1 HR.out).1).trans HR.out
  have HB1 := Lib.hid (HB.out.trans (hB1.mono HB.out.size))
  clear hB1 HQ HR HB
  rw [decide_eq_true HC.out]
  obtain ⟨q0, q1, q2, q3, q4, q5⟩ : w1.cell? ⟨w.heap.size, 0, none⟩ = some (.int .i64 q.kind) ∧ w1.cell? ⟨w.heap.size, 1, none⟩ = some (.int .i64 q.src) ∧ w1.cell? ⟨w.heap.size, 2, none⟩ = some (.int .i64 q.dst) ∧ w1.cell? ⟨w.heap.size, 3, none⟩ = some (.slice q.W q.nw q.cw) ∧ w1.cell? ⟨w.heap.size, 4, none⟩ = some (.int .i64 q.radius) ∧ w1.cell? ⟨w.heap.size, 5, none⟩ = some (.int .i64 q.most) := by
    refine ⟨?_, ?_, ?_, ?_, ?_, ?_⟩ <;> · rw [Lib.cell_of_heap HQ1.out]; rfl
  have r0 : w1.cell? ⟨w.heap.size + 1, 0, none⟩ = some (.slice a.A1 a.n1 a.c1) := by rw [Lib.cell_of_heap HR1.out]; rfl
  go_wp2_with (fail)
  refine (HCF.out w1).mono ?_
  rintro e w2 ⟨rfl, hB2⟩
  have HB2 := Lib.hid (HB1.out.trans (hB2.mono HB1.out.size))
  clear hB2 q0 q1 q2 q3 q4 q5 r0
  go_wp2_with (fail)
  go_ret
  exact ⟨rfl, HB2.out⟩

/-- A run. -/
def runObj (q : QuA) (a : RwA) (Al : Option Addr) (nl cl : Nat) (k : Nat) (Ap : Option Addr) (np cp : Nat) (As : Option Addr) (ns cs : Nat) (Am : Option Addr) (nm cm : Nat) : Obj :=
  .cells #[.int .i64 q.kind, .int .i64 q.src, .int .i64 q.dst, .slice q.W q.nw q.cw, .int .i64 q.radius, .int .i64 q.most, .slice a.A1 a.n1 a.c1, .slice a.A2 a.n2 a.c2, .slice a.A3 a.n3 a.c3, .slice a.A4 a.n4 a.c4, .slice Al nl cl, .int .i64 (k : Int), .slice Ap np cp, .slice As ns cs, .slice Am nm cm] 61
/-- A run, its states and messages behind t steps. -/
structure RunAt (n₀ bx br : Nat) (q : QuA) (a : RwA) (Al : Option Addr) (nl cl : Nat) (k : Nat) (Ap : Option Addr) (np cp : Nat) (ps : List Int) (t : Nat) (S M : List Msg) (As : Option Addr) (ns cs : Nat) (Am : Option Addr) (nm cm : Nat) (X : World) : Prop where
  x_ : X.heap[bx]? = some (.cells #[.pointer (some ⟨br, 0, none⟩)] 56 (0, 0))
  k_ : X.heap[br]? = some (runObj q a Al nl cl k Ap np cp As ns cs Am nm cm)
  s_ : Reads X X.heap.size 4 As ns (mv S)
  m_ : Reads X X.heap.size 4 Am nm (mv M)
  sne : ∀ x, As = some x → x.block ≠ br
  mne : ∀ x, Am = some x → x.block ≠ br
  r_ : RwIn X n₀ a
  p_ : Reads X n₀ 1 Ap np (iv ps)
  n_ : n₀ ≤ X.heap.size
  nb : n₀ ≤ br ∧ n₀ ≤ bx ∧ bx ≠ br
  ran : Ran a.r q.kind q.radius q.src q.dst 0 t S M
section
variable {n₀ bx br : Nat} {q : QuA} {a : RwA} {Al Ap As Am : Option Addr} {nl cl k np cp t ns cs nm cm : Nat} {ps : List Int} {S M : List Msg} {X X' : World}
theorem RunAt.below (h : RunAt n₀ bx br q a Al nl cl k Ap np cp ps t S M As ns cs Am nm cm X) (hB : Below X.heap.size X X') : RunAt n₀ bx br q a Al nl cl k Ap np cp ps t S M As ns cs Am nm cm X' :=
  ⟨(hB.block _ (Array.getElem?_eq_some_iff.1 h.x_).1).trans h.x_, (hB.block _ (Array.getElem?_eq_some_iff.1 h.k_).1).trans h.k_, (h.s_.below hB).more hB.size, (h.m_.below hB).more hB.size, h.sne, h.mne, h.r_.below (hB.mono h.n_), h.p_.below (hB.mono h.n_), Nat.le_trans h.n_ hB.size, h.nb, h.ran⟩
theorem RunAt.kc (h : RunAt n₀ bx br q a Al nl cl k Ap np cp ps t S M As ns cs Am nm cm X) : X.cell? ⟨bx, 0, none⟩ = some (.pointer (some ⟨br, 0, none⟩)) ∧
    (X.cell? ⟨br, 0, none⟩ = some (.int .i64 q.kind) ∧ X.cell? ⟨br, 1, none⟩ = some (.int .i64 q.src) ∧ X.cell? ⟨br, 2, none⟩ = some (.int .i64 q.dst) ∧ X.cell? ⟨br, 3, none⟩ = some (.slice q.W q.nw q.cw) ∧ X.cell? ⟨br, 4, none⟩ = some (.int .i64 q.radius) ∧ X.cell? ⟨br, 5, none⟩ = some (.int .i64 q.most)) ∧
    (X.cell? ⟨br, 6, none⟩ = some (.slice a.A1 a.n1 a.c1) ∧ X.cell? ⟨br, 7, none⟩ = some (.slice a.A2 a.n2 a.c2) ∧ X.cell? ⟨br, 8, none⟩ = some (.slice a.A3 a.n3 a.c3) ∧ X.cell? ⟨br, 9, none⟩ = some (.slice a.A4 a.n4 a.c4)) ∧
    X.cell? ⟨br, 10, none⟩ = some (.slice Al nl cl) ∧ X.cell? ⟨br, 11, none⟩ = some (.int .i64 (k : Int)) ∧ X.cell? ⟨br, 12, none⟩ = some (.slice Ap np cp) ∧ X.cell? ⟨br, 13, none⟩ = some (.slice As ns cs) ∧ X.cell? ⟨br, 14, none⟩ = some (.slice Am nm cm) := by
  refine ⟨by rw [Lib.cell_of_heap h.x_]; rfl, ⟨?_, ?_, ?_, ?_, ?_, ?_⟩, ⟨?_, ?_, ?_, ?_⟩, ?_, ?_, ?_, ?_, ?_⟩ <;> · rw [Lib.cell_of_heap h.k_]; rfl
/-- One step further: the run's states and messages are turned. -/
theorem RunAt.next {As' Am' : Option Addr} {ns' cs' nm' cm' : Nat} (h : RunAt n₀ bx br q a Al nl cl k Ap np cp ps t S M As ns cs Am nm cm X) (hc : chkR a.r) (hs : 0 ≤ q.src ∧ q.src < (a.r.n : Int)) (hd : q.kind = 1 → 0 ≤ q.dst ∧ q.dst < (a.r.n : Int)) (h1 : Reads X X.heap.size 4 As' ns' (mv (stepS S M))) (h2 : Reads X X.heap.size 4 Am' nm' (mv (stepM (nxM q.kind q.radius a.r) S M)))
    (e1 : ∀ x, As' = some x → x.block ≠ br) (e2 : ∀ x, Am' = some x → x.block ≠ br) : RunAt n₀ bx br q a Al nl cl k Ap np cp ps (t + 1) (stepS S M) (stepM (nxM q.kind q.radius a.r) S M) As' ns' cs' Am' nm' cm' ((X.setCell ⟨br, 13, none⟩ (.slice As' ns' cs')).setCell ⟨br, 14, none⟩ (.slice Am' nm' cm')) := by
  have hg := only_setCell (only_setCell (only_refl X (some br)) (p := ⟨br, 13, none⟩) (.inl rfl) (.slice As' ns' cs')) (p := ⟨br, 14, none⟩) (.inl rfl) (.slice Am' nm' cm')
  have hsz : ((X.setCell ⟨br, 13, none⟩ (.slice As' ns' cs')).setCell ⟨br, 14, none⟩ (.slice Am' nm' cm')).heap.size = X.heap.size := by simp [World.setCell]
  have hbel : Below n₀ X ((X.setCell ⟨br, 13, none⟩ (.slice As' ns' cs')).setCell ⟨br, 14, none⟩ (.slice Am' nm' cm')) := only_below hg h.nb.1 h.n_
  refine ⟨(hg.block bx (Array.getElem?_eq_some_iff.1 h.x_).1 (fun e => h.nb.2.2 (by injection e))).trans h.x_, ?_, ?_, ?_, e1, e2, h.r_.below hbel, h.p_.below hbel, by rw [hsz]; exact h.n_, h.nb, ran_step hc hs hd h.ran⟩
  · have h3 := heap_setCell_same X br 13 _ _ (.slice As' ns' cs') h.k_
    have h4 := heap_setCell_same _ br 14 _ _ (.slice Am' nm' cm') h3
    unfold runObj
    simpa using h4
  · rw [hsz]; exact h1.grown_ hg (Nat.le_refl _) (fun _ x hx e => e1 x hx (by injection e))
  · rw [hsz]; exact h2.grown_ hg (Nat.le_refl _) (fun _ x hx e => e2 x hx (by injection e))
end
theorem steps_c (br : Nat) (w : World) :
    Calls Tryz.prog 13 #[.pointer (some ⟨br, 0, none⟩)] w fun e w' => e = .returned (.func (.func 23) #[] #[.pointer (some ⟨w.heap.size, 0, none⟩)]) ∧ w' = w.alloc (.cells #[.pointer (some ⟨br, 0, none⟩)] 56) := by
  go_enter Tryz.func13, Tryz.ntmps13
  go_wp2
  go_ret
  exact ⟨rfl, rfl⟩
end Go.Proofs.YtpdnipabaimofaaGreat
